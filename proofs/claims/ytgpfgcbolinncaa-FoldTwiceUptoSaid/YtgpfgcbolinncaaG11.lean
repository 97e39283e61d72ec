/- fold: constant, logical, the rules. -/
import Derived.Test.YtgpfgcbolinncaaG7
import Derived.Test.YtgpfgcbolinncaaL0
set_option linter.unusedVariables false
set_option linter.unusedSimpArgs false
namespace Go.Proofs.Ytgpfgcbolinncaa.Abs
open Go Go.RowKit

theorem node_leaf (h : Heap) (op kind vk bits pos attr : Int) : NodeV h (.mk op kind vk bits pos attr []) (nodeVal op kind (.slice none 0 0) vk bits pos attr) :=
  .mk op kind vk bits pos attr [] _ 0 0 0 [] 0 (.inl ⟨0, rfl, rfl⟩) (fun h => absurd rfl h) (by simp) (by simp)
theorem build27 (op kind a b : Int) : buildA Try.prog 27 [(0, .int .i64 op), (1, .int .i64 kind), (3, valV a b)] = some (nodeVal op kind (.slice none 0 0) a b 0 0) := by
  unfold buildA
  simp [zero27, z27, placesL, fillL, spliceL, known, cellsL, cellOk, valV, nodeVal]
theorem fn18 : fnOf Try.prog 18 = some ((Try.f18.body.getD .skip), Try.f18.ntmps, Try.f18.results) := rfl
theorem constant_run (kind a b : Int) (s : ST) : Does Try.prog 18 #[.int .i64 kind, valV a b] s (fun r s' => Kept s s' ∧ r = .ret (nodeVal 40 kind (.slice none 0 0) a b 0 0)) := by
  refine Does.pre fun hf => ?_
  refine Does.code known0 fn18 [] (by kernel_rfl) ?_
  dsimp only [Try.f18, Option.getD_some, undraw, noId, Nat.reduceBEq, cond_true, cond_false, frOf]
  simp -dsimp [envOf]
  refine x_box (Loc.nil hf) (by rfl) fun n1 s1 L1 => ?_
  simp -dsimp
  refine x_alloc L1 zero27 fun n2 s2 L2 => ?_
  simp -dsimp [(load25_of L2 1 rfl).1, build27]
  refine x_store L2 0 rfl (storeTo27 _ rfl _ _ rfl _ _ _ _) fun s3 L3 => ?_
  simp -dsimp [(fields L3 0 rfl).all]
  exact L3.kept
def CC (s0 : ST) (n1 n2 n4 : Nat) (cn : List Value) (d : Int) (sl : Value) (len op : Int) (b1 b2 b3 : Bool) (L : Nat → Bool) (vals : Nat → Value) (s' : ST) : Prop :=
  (∃ x y : Int, Loc s0 s' [.obj n4 (.cells [.int .i64 2, .int .u64 d] 25), .obj n2 (.cells [.int .i64 x, .int .u64 y] 25), .obj n1 (.cells cn 27)] ∧ (L 15 = true → x = 2 ∧ y = d)) ∧
  (L 0 = true → vals 0 = (valV 2 d)) ∧ (L 1 = true → vals 1 = (.pointer (some ⟨n1, 2, none⟩))) ∧ (L 2 = true → vals 2 = (sl)) ∧ (L 3 = true → vals 3 = (.int .i64 len)) ∧ (L 4 = true → vals 4 = (.bool b1)) ∧ (L 5 = true → vals 5 = (.bool b1)) ∧ (L 6 = true → vals 6 = (if b1 then .pointer (some ⟨n1, 0, none⟩) else .tuple #[])) ∧ (L 7 = true → vals 7 = (if b1 then .int .i64 op else .tuple #[])) ∧ (L 8 = true → vals 8 = (if b1 then .bool b2 else .tuple #[])) ∧ (L 9 = true → vals 9 = (if b1 then .bool b2 else .tuple #[])) ∧ (L 10 = true → vals 10 = (if b1 && !b2 then .pointer (some ⟨n1, 0, none⟩) else .tuple #[])) ∧ (L 11 = true → vals 11 = (if b1 && !b2 then .int .i64 op else .tuple #[])) ∧ (L 12 = true → vals 12 = (if b1 && !b2 then .bool b3 else .tuple #[])) ∧ (L 13 = true → vals 13 = (if b1 then (if b2 then .bool true else .bool b3) else .tuple #[])) ∧ (L 14 = true → vals 14 = (.bool (b1 && (b2 || b3)))) ∧ (L 16 = true → vals 16 = (.bool (b1 && (b2 || b3))))
set_option maxHeartbeats 8000000 in
theorem logical_draw {s0 s : ST} {n1 n2 n4 : Nat} {op kind vk bits pos attr d : Int} {sl : Value} {len : Nat} {x y : Int} (b1 b2 b3 : Bool) (hb1 : ((len : Int) == 2) = b1) (hb2 : (op == 13) = b2) (hb3 : (op == 14) = b3) (hlen : lenA Try.prog 22 sl = some (.int .i64 len))
    (LL : Loc s0 s [.obj n4 (.cells [.int .i64 2, .int .u64 d] 25), .obj n2 (.cells [.int .i64 x, .int .u64 y] 25), .obj n1 (.cells (nodeCells op kind sl vk bits pos attr) 27)])
    {env : Trie Value} (e1 : env.get 1 = some (.pointer (some ⟨n1, 0, none⟩))) (env2 : env.get 2 = some (.pointer (some ⟨n2, 0, none⟩))) (e4 : env.get 4 = some (.pointer (some ⟨n4, 0, none⟩))) {Q : SR → ST → Prop}
    (hnext : ∀ env' s', env'.get 2 = some (.pointer (some ⟨n2, 0, none⟩)) → env'.get 3 = some (.bool (b1 && (b2 || b3))) → Loc s0 s' [.obj n4 (.cells [.int .i64 2, .int .u64 d] 25), .obj n2 (.cells [.int .i64 2, .int .u64 d] 25), .obj n1 (.cells (nodeCells op kind sl vk bits pos attr) 27)] → Q (.next ⟨25, env', []⟩) s') :
    wDraw Try.prog (opsOf (codeAt [true, true, true, false] (Try.f20.body.getD .skip))).toArray ⟨25, env, []⟩ s Q := by
  dsimp only [Try.f20, Option.getD_some, codeAt, opsOf]
  refine w_draw [[], [], [(1, 11)], [(2, 12)], [(3, 13)], [(4, 14)], [(5, 15)], [(5, 15), (6, 16)], [(5, 15), (7, 17)], [(5, 15), (8, 18)], [(9, 19)], [(9, 19), (10, 20)], [(9, 19), (11, 21)], [(5, 15), (9, 19), (12, 22)], [(5, 15), (13, 23)], [(0, 10)], [(14, 24)]]
    [(0, 10), (1, 11), (2, 12), (3, 13), (4, 14), (5, 15), (6, 16), (7, 17), (8, 18), (9, 19), (10, 20), (11, 21), (12, 22), (13, 23), (14, 24), (16, 3)] (by kernel_rfl)
    (CC s0 n1 n2 n4 (nodeCells op kind sl vk bits pos attr) d sl len op b1 b2 b3) (fun _ _ => False) ⟨⟨x, y, LL, by simp⟩, by simp⟩ LL.free ?_ ?_ ?_
  · refine ⟨?_, ?_, ?_, ?_, ?_, ?_, ?_, ?_, ?_, ?_, ?_, ?_, ?_, ?_, ?_, ?_, ?_, trivial⟩
    · rintro L vals s' f ⟨⟨x, y, LL, hx⟩, h0, h1, h2, h3, h4, h5, h6, h7, h8, h9, h10, h11, h12, h13, h14, h16⟩ hi hl
      simp only [allL, and_true] at hl
      have F := fields LL 2 rfl
      have hl0 := (load25_of LL 0 rfl).1
      cases b1 <;> cases b2 <;> cases b3
      all_goals simp -dsimp [setE, e1, e4, F.f0, F.f2, hl0, fieldAddrA, hlen, hb1, hb2, hb3, env2]
      all_goals refine SRv.put (by decide) ⟨⟨x, y, LL, ?_⟩, ?_, ?_, ?_, ?_, ?_, ?_, ?_, ?_, ?_, ?_, ?_, ?_, ?_, ?_, ?_, ?_⟩
      all_goals (simp [updB, updV]; try assumption)
    · rintro L vals s' f ⟨⟨x, y, LL, hx⟩, h0, h1, h2, h3, h4, h5, h6, h7, h8, h9, h10, h11, h12, h13, h14, h16⟩ hi hl
      simp only [allL, and_true] at hl
      have F := fields LL 2 rfl
      have hl0 := (load25_of LL 0 rfl).1
      cases b1 <;> cases b2 <;> cases b3
      all_goals simp -dsimp [setE, e1, e4, F.f0, F.f2, hl0, fieldAddrA, hlen, hb1, hb2, hb3, env2]
      all_goals refine SRv.put (by decide) ⟨⟨x, y, LL, ?_⟩, ?_, ?_, ?_, ?_, ?_, ?_, ?_, ?_, ?_, ?_, ?_, ?_, ?_, ?_, ?_, ?_⟩
      all_goals (simp [updB, updV]; try assumption)
    · rintro L vals s' f ⟨⟨x, y, LL, hx⟩, h0, h1, h2, h3, h4, h5, h6, h7, h8, h9, h10, h11, h12, h13, h14, h16⟩ hi hl
      simp only [allL, and_true] at hl
      have F := fields LL 2 rfl
      have hl0 := (load25_of LL 0 rfl).1
      cases b1 <;> cases b2 <;> cases b3
      all_goals simp -dsimp [setE, h1 hl, e1, e4, F.f0, F.f2, hl0, fieldAddrA, hlen, hb1, hb2, hb3, env2]
      all_goals refine SRv.put (by decide) ⟨⟨x, y, LL, ?_⟩, ?_, ?_, ?_, ?_, ?_, ?_, ?_, ?_, ?_, ?_, ?_, ?_, ?_, ?_, ?_, ?_⟩
      all_goals (simp [updB, updV]; try assumption)
    · rintro L vals s' f ⟨⟨x, y, LL, hx⟩, h0, h1, h2, h3, h4, h5, h6, h7, h8, h9, h10, h11, h12, h13, h14, h16⟩ hi hl
      simp only [allL, and_true] at hl
      have F := fields LL 2 rfl
      have hl0 := (load25_of LL 0 rfl).1
      cases b1 <;> cases b2 <;> cases b3
      all_goals simp -dsimp [setE, h2 hl, e1, e4, F.f0, F.f2, hl0, fieldAddrA, hlen, hb1, hb2, hb3, env2]
      all_goals refine SRv.put (by decide) ⟨⟨x, y, LL, ?_⟩, ?_, ?_, ?_, ?_, ?_, ?_, ?_, ?_, ?_, ?_, ?_, ?_, ?_, ?_, ?_, ?_⟩
      all_goals (simp [updB, updV]; try assumption)
    · rintro L vals s' f ⟨⟨x, y, LL, hx⟩, h0, h1, h2, h3, h4, h5, h6, h7, h8, h9, h10, h11, h12, h13, h14, h16⟩ hi hl
      simp only [allL, and_true] at hl
      have F := fields LL 2 rfl
      have hl0 := (load25_of LL 0 rfl).1
      cases b1 <;> cases b2 <;> cases b3
      all_goals simp -dsimp [setE, h3 hl, e1, e4, F.f0, F.f2, hl0, fieldAddrA, hlen, hb1, hb2, hb3, env2]
      all_goals refine SRv.put (by decide) ⟨⟨x, y, LL, ?_⟩, ?_, ?_, ?_, ?_, ?_, ?_, ?_, ?_, ?_, ?_, ?_, ?_, ?_, ?_, ?_, ?_⟩
      all_goals (simp [updB, updV]; try assumption)
    · rintro L vals s' f ⟨⟨x, y, LL, hx⟩, h0, h1, h2, h3, h4, h5, h6, h7, h8, h9, h10, h11, h12, h13, h14, h16⟩ hi hl
      simp only [allL, and_true] at hl
      have F := fields LL 2 rfl
      have hl0 := (load25_of LL 0 rfl).1
      cases b1 <;> cases b2 <;> cases b3
      all_goals simp -dsimp [setE, h4 hl, e1, e4, F.f0, F.f2, hl0, fieldAddrA, hlen, hb1, hb2, hb3, env2]
      all_goals refine SRv.put (by decide) ⟨⟨x, y, LL, ?_⟩, ?_, ?_, ?_, ?_, ?_, ?_, ?_, ?_, ?_, ?_, ?_, ?_, ?_, ?_, ?_, ?_⟩
      all_goals (simp [updB, updV]; try assumption)
    · rintro L vals s' f ⟨⟨x, y, LL, hx⟩, h0, h1, h2, h3, h4, h5, h6, h7, h8, h9, h10, h11, h12, h13, h14, h16⟩ hi hl
      simp only [allL, and_true] at hl
      have F := fields LL 2 rfl
      have hl0 := (load25_of LL 0 rfl).1
      cases b1 <;> cases b2 <;> cases b3
      all_goals simp -dsimp [setE, h5 hl, e1, e4, F.f0, F.f2, hl0, fieldAddrA, hlen, hb1, hb2, hb3, env2]
      all_goals refine SRv.put (by decide) ⟨⟨x, y, LL, ?_⟩, ?_, ?_, ?_, ?_, ?_, ?_, ?_, ?_, ?_, ?_, ?_, ?_, ?_, ?_, ?_, ?_⟩
      all_goals (simp [updB, updV]; try assumption)
    · rintro L vals s' f ⟨⟨x, y, LL, hx⟩, h0, h1, h2, h3, h4, h5, h6, h7, h8, h9, h10, h11, h12, h13, h14, h16⟩ hi hl
      simp only [allL, and_true] at hl
      have F := fields LL 2 rfl
      have hl0 := (load25_of LL 0 rfl).1
      cases b1 <;> cases b2 <;> cases b3
      all_goals simp -dsimp [setE, h5 hl.1, h6 hl.2, e1, e4, F.f0, F.f2, hl0, fieldAddrA, hlen, hb1, hb2, hb3, env2]
      all_goals refine SRv.put (by decide) ⟨⟨x, y, LL, ?_⟩, ?_, ?_, ?_, ?_, ?_, ?_, ?_, ?_, ?_, ?_, ?_, ?_, ?_, ?_, ?_, ?_⟩
      all_goals (simp [updB, updV]; try assumption)
    · rintro L vals s' f ⟨⟨x, y, LL, hx⟩, h0, h1, h2, h3, h4, h5, h6, h7, h8, h9, h10, h11, h12, h13, h14, h16⟩ hi hl
      simp only [allL, and_true] at hl
      have F := fields LL 2 rfl
      have hl0 := (load25_of LL 0 rfl).1
      cases b1 <;> cases b2 <;> cases b3
      all_goals simp -dsimp [setE, h5 hl.1, h7 hl.2, e1, e4, F.f0, F.f2, hl0, fieldAddrA, hlen, hb1, hb2, hb3, env2]
      all_goals refine SRv.put (by decide) ⟨⟨x, y, LL, ?_⟩, ?_, ?_, ?_, ?_, ?_, ?_, ?_, ?_, ?_, ?_, ?_, ?_, ?_, ?_, ?_, ?_⟩
      all_goals (simp [updB, updV]; try assumption)
    · rintro L vals s' f ⟨⟨x, y, LL, hx⟩, h0, h1, h2, h3, h4, h5, h6, h7, h8, h9, h10, h11, h12, h13, h14, h16⟩ hi hl
      simp only [allL, and_true] at hl
      have F := fields LL 2 rfl
      have hl0 := (load25_of LL 0 rfl).1
      cases b1 <;> cases b2 <;> cases b3
      all_goals simp -dsimp [setE, h5 hl.1, h8 hl.2, e1, e4, F.f0, F.f2, hl0, fieldAddrA, hlen, hb1, hb2, hb3, env2]
      all_goals refine SRv.put (by decide) ⟨⟨x, y, LL, ?_⟩, ?_, ?_, ?_, ?_, ?_, ?_, ?_, ?_, ?_, ?_, ?_, ?_, ?_, ?_, ?_, ?_⟩
      all_goals (simp [updB, updV]; try assumption)
    · rintro L vals s' f ⟨⟨x, y, LL, hx⟩, h0, h1, h2, h3, h4, h5, h6, h7, h8, h9, h10, h11, h12, h13, h14, h16⟩ hi hl
      simp only [allL, and_true] at hl
      have F := fields LL 2 rfl
      have hl0 := (load25_of LL 0 rfl).1
      cases b1 <;> cases b2 <;> cases b3
      all_goals simp -dsimp [setE, h9 hl, e1, e4, F.f0, F.f2, hl0, fieldAddrA, hlen, hb1, hb2, hb3, env2]
      all_goals refine SRv.put (by decide) ⟨⟨x, y, LL, ?_⟩, ?_, ?_, ?_, ?_, ?_, ?_, ?_, ?_, ?_, ?_, ?_, ?_, ?_, ?_, ?_, ?_⟩
      all_goals (simp [updB, updV]; try assumption)
    · rintro L vals s' f ⟨⟨x, y, LL, hx⟩, h0, h1, h2, h3, h4, h5, h6, h7, h8, h9, h10, h11, h12, h13, h14, h16⟩ hi hl
      simp only [allL, and_true] at hl
      have F := fields LL 2 rfl
      have hl0 := (load25_of LL 0 rfl).1
      cases b1 <;> cases b2 <;> cases b3
      all_goals simp -dsimp [setE, h9 hl.1, h10 hl.2, e1, e4, F.f0, F.f2, hl0, fieldAddrA, hlen, hb1, hb2, hb3, env2]
      all_goals refine SRv.put (by decide) ⟨⟨x, y, LL, ?_⟩, ?_, ?_, ?_, ?_, ?_, ?_, ?_, ?_, ?_, ?_, ?_, ?_, ?_, ?_, ?_, ?_⟩
      all_goals (simp [updB, updV]; try assumption)
    · rintro L vals s' f ⟨⟨x, y, LL, hx⟩, h0, h1, h2, h3, h4, h5, h6, h7, h8, h9, h10, h11, h12, h13, h14, h16⟩ hi hl
      simp only [allL, and_true] at hl
      have F := fields LL 2 rfl
      have hl0 := (load25_of LL 0 rfl).1
      cases b1 <;> cases b2 <;> cases b3
      all_goals simp -dsimp [setE, h9 hl.1, h11 hl.2, e1, e4, F.f0, F.f2, hl0, fieldAddrA, hlen, hb1, hb2, hb3, env2]
      all_goals refine SRv.put (by decide) ⟨⟨x, y, LL, ?_⟩, ?_, ?_, ?_, ?_, ?_, ?_, ?_, ?_, ?_, ?_, ?_, ?_, ?_, ?_, ?_, ?_⟩
      all_goals (simp [updB, updV]; try assumption)
    · rintro L vals s' f ⟨⟨x, y, LL, hx⟩, h0, h1, h2, h3, h4, h5, h6, h7, h8, h9, h10, h11, h12, h13, h14, h16⟩ hi hl
      simp only [allL, and_true] at hl
      have F := fields LL 2 rfl
      have hl0 := (load25_of LL 0 rfl).1
      cases b1 <;> cases b2 <;> cases b3
      all_goals simp -dsimp [setE, h5 hl.1, h9 hl.2.1, h12 hl.2.2, e1, e4, F.f0, F.f2, hl0, fieldAddrA, hlen, hb1, hb2, hb3, env2]
      all_goals refine SRv.put (by decide) ⟨⟨x, y, LL, ?_⟩, ?_, ?_, ?_, ?_, ?_, ?_, ?_, ?_, ?_, ?_, ?_, ?_, ?_, ?_, ?_, ?_⟩
      all_goals (simp [updB, updV]; try assumption)
    · rintro L vals s' f ⟨⟨x, y, LL, hx⟩, h0, h1, h2, h3, h4, h5, h6, h7, h8, h9, h10, h11, h12, h13, h14, h16⟩ hi hl
      simp only [allL, and_true] at hl
      have F := fields LL 2 rfl
      have hl0 := (load25_of LL 0 rfl).1
      cases b1 <;> cases b2 <;> cases b3
      all_goals simp -dsimp [setE, h5 hl.1, h13 hl.2, e1, e4, F.f0, F.f2, hl0, fieldAddrA, hlen, hb1, hb2, hb3, env2]
      all_goals refine SRv.put (by decide) ⟨⟨x, y, LL, ?_⟩, ?_, ?_, ?_, ?_, ?_, ?_, ?_, ?_, ?_, ?_, ?_, ?_, ?_, ?_, ?_, ?_⟩
      all_goals (simp [updB, updV]; try assumption)
    · rintro L vals s' f ⟨⟨x, y, LL, hx⟩, h0, h1, h2, h3, h4, h5, h6, h7, h8, h9, h10, h11, h12, h13, h14, h16⟩ hi hl
      simp only [allL, and_true] at hl
      have F := fields LL 2 rfl
      have hl0 := (load25_of LL 0 rfl).1
      simp -dsimp [setE, h0 hl, e1, e4, F.f0, F.f2, hl0, fieldAddrA, hlen, hb1, hb2, hb3, env2]
      refine x_store LL 1 rfl (storeTo25 _ rfl _ _) fun s3 L3 => ?_
      simp -dsimp [setE, h0 hl]
      refine SRv.skip (.bool true) ⟨⟨_, _, L3, fun _ => ⟨rfl, rfl⟩⟩, ?_, ?_, ?_, ?_, ?_, ?_, ?_, ?_, ?_, ?_, ?_, ?_, ?_, ?_, ?_, ?_⟩
      all_goals first | (simp [updB, updV]; done) | (simp [updB, updV]; assumption) | simpa [updB, updV] using h10 | simpa [updB, updV] using h11 | simpa [updB, updV] using h12 | simpa [updB, updV] using h13 | simpa [updB, updV] using h16
    · rintro L vals s' f ⟨⟨x, y, LL, hx⟩, h0, h1, h2, h3, h4, h5, h6, h7, h8, h9, h10, h11, h12, h13, h14, h16⟩ hi hl
      simp only [allL, and_true] at hl
      have F := fields LL 2 rfl
      have hl0 := (load25_of LL 0 rfl).1
      cases b1 <;> cases b2 <;> cases b3
      all_goals simp -dsimp [setE, h14 hl, e1, e4, F.f0, F.f2, hl0, fieldAddrA, hlen, hb1, hb2, hb3, env2]
      all_goals refine SRv.put (by decide) ⟨⟨x, y, LL, ?_⟩, ?_, ?_, ?_, ?_, ?_, ?_, ?_, ?_, ?_, ?_, ?_, ?_, ?_, ?_, ?_, ?_⟩
      all_goals (simp [updB, updV]; try assumption)
  · intro L vals s' f hL hA
    obtain ⟨⟨x, y, L2, hx⟩, h0, h1, h2, h3, h4, h5, h6, h7, h8, h9, h10, h11, h12, h13, h14, h16⟩ := hA
    obtain ⟨rfl, rfl⟩ := hx (hL 15 (by simp))
    exact hnext _ _ (by simp [setE, env2]) (by simp [setE, h16 (hL 16 (by simp))]) L2
  · rintro v f s' f' hn hd he hx
    exact hx.elim
end Go.Proofs.Ytgpfgcbolinncaa.Abs
