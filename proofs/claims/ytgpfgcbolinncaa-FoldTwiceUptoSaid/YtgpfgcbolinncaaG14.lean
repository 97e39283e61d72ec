/- fold: constants, rules. fold: constants, rules. -/
import Derived.Test.YtgpfgcbolinncaaG12
set_option linter.unusedVariables false
set_option linter.unusedSimpArgs false
namespace Go.Proofs.Ytgpfgcbolinncaa.Abs
open Go Go.RowKit

def DD (s0 : ST) (n3 n4 : Nat) (cn : List Value) (kind op : Int) (lv : Value) (us : List (Int × Int)) (L : Nat → Bool) (vals : Nat → Value) (s' : ST) : Prop :=
  (∃ c a b, c.length = 7 ∧ Loc s0 s' [.acc lv 2 25 (flat2 us), .obj n4 (.cells c 27), .obj n3 (.cells cn 27)] ∧ (L 5 = true → vals 5 = valV a b) ∧ (L 6 = true → L 5 = true ∧ vals 6 = nodeVal 40 kind (.slice none 0 0) a b 0 0) ∧ (L 7 = true → L 5 = true ∧ L 6 = true ∧ c = nodeCells 40 kind (.slice none 0 0) a b 0 0)) ∧
  (L 0 = true → vals 0 = .pointer (some ⟨n3, 1, none⟩)) ∧ (L 1 = true → vals 1 = .int .i64 kind) ∧ (L 2 = true → vals 2 = .pointer (some ⟨n3, 0, none⟩)) ∧ (L 3 = true → vals 3 = .int .i64 op) ∧ (L 4 = true → vals 4 = lv) ∧ (L 8 = true → vals 8 = .bool true)
set_option maxHeartbeats 4000000 in
theorem consts_draw {s0 s : ST} {n3 n4 : Nat} {op kind vk bits pos attr : Int} {sl lv : Value} {us : List (Int × Int)} (hne : us ≠ []) (hus : us.length < 2 ^ 40)
    {c : List Value} (hc : c.length = 7) (LL : Loc s0 s [.acc lv 2 25 (flat2 us), .obj n4 (.cells c 27), .obj n3 (.cells (nodeCells op kind sl vk bits pos attr) 27)])
    {env : Trie Value} (e3 : env.get 3 = some (.pointer (some ⟨n3, 0, none⟩))) (e4 : env.get 4 = some (.pointer (some ⟨n4, 0, none⟩))) (e6 : env.get 6 = some lv) {Q : SR → ST → Prop}
    (hnext : ∀ env' s' a b, env'.get 4 = some (.pointer (some ⟨n4, 0, none⟩)) → env'.get 5 = some (.bool true) → Loc s0 s' [.obj n4 (.cells (nodeCells 40 kind (.slice none 0 0) a b 0 0) 27)] → Q (.next ⟨42, env', []⟩) s') :
    wDraw Try.prog (opsOf (codeAt [true, true, true, true, false] (Try.f13.body.getD .skip))).toArray ⟨42, env, []⟩ s Q := by
  dsimp only [Try.f13, Option.getD_some, codeAt, opsOf]
  refine w_draw [[], [(0, 35)], [], [(2, 37)], [], [(3, 38), (4, 39)], [(1, 36), (5, 40)], [(6, 41)], []]
    [(0, 35), (1, 36), (2, 37), (3, 38), (4, 39), (5, 40), (6, 41), (8, 5)] (by kernel_rfl)
    (DD s0 n3 n4 (nodeCells op kind sl vk bits pos attr) kind op lv us) (fun _ _ => False) ⟨⟨c, 0, 0, hc, LL, by simp⟩, by simp⟩ LL.free ?_ ?_ ?_
  · refine ⟨?_, ?_, ?_, ?_, ?_, ?_, ?_, ?_, ?_, trivial⟩
    · rintro L vals s' f ⟨⟨c, a, b, hc, LL, h5, h6, h7⟩, h0, h1, h2, h3, h4, h8⟩ hi hl
      simp only [allL, and_true] at hl
      have F := fields LL 2 rfl
      simp -dsimp [setE, fieldAddrA, e3]
      refine SRv.put (by decide) ⟨⟨c, a, b, hc, LL, ?_, ?_, ?_⟩, ?_, ?_, ?_, ?_, ?_, ?_⟩
      all_goals first | (simp [updB, updV]; done) | (simp [updB, updV]; assumption)
    · rintro L vals s' f ⟨⟨c, a, b, hc, LL, h5, h6, h7⟩, h0, h1, h2, h3, h4, h8⟩ hi hl
      simp only [allL, and_true] at hl
      have F := fields LL 2 rfl
      simp -dsimp [setE, fieldAddrA, h0 hl, F.f1]
      refine SRv.put (by decide) ⟨⟨c, a, b, hc, LL, ?_, ?_, ?_⟩, ?_, ?_, ?_, ?_, ?_, ?_⟩
      all_goals first | (simp [updB, updV]; done) | (simp [updB, updV]; assumption)
    · rintro L vals s' f ⟨⟨c, a, b, hc, LL, h5, h6, h7⟩, h0, h1, h2, h3, h4, h8⟩ hi hl
      simp only [allL, and_true] at hl
      have F := fields LL 2 rfl
      simp -dsimp [setE, fieldAddrA, e3]
      refine SRv.put (by decide) ⟨⟨c, a, b, hc, LL, ?_, ?_, ?_⟩, ?_, ?_, ?_, ?_, ?_, ?_⟩
      all_goals first | (simp [updB, updV]; done) | (simp [updB, updV]; assumption)
    · rintro L vals s' f ⟨⟨c, a, b, hc, LL, h5, h6, h7⟩, h0, h1, h2, h3, h4, h8⟩ hi hl
      simp only [allL, and_true] at hl
      have F := fields LL 2 rfl
      simp -dsimp [setE, fieldAddrA, h2 hl, F.f0]
      refine SRv.put (by decide) ⟨⟨c, a, b, hc, LL, ?_, ?_, ?_⟩, ?_, ?_, ?_, ?_, ?_, ?_⟩
      all_goals first | (simp [updB, updV]; done) | (simp [updB, updV]; assumption)
    · rintro L vals s' f ⟨⟨c, a, b, hc, LL, h5, h6, h7⟩, h0, h1, h2, h3, h4, h8⟩ hi hl
      simp only [allL, and_true] at hl
      have F := fields LL 2 rfl
      simp -dsimp [setE, fieldAddrA, e6]
      refine SRv.put (by decide) ⟨⟨c, a, b, hc, LL, ?_, ?_, ?_⟩, ?_, ?_, ?_, ?_, ?_, ?_⟩
      all_goals first | (simp [updB, updV]; done) | (simp [updB, updV]; assumption)
    · rintro L vals s' f ⟨⟨c, a, b, hc, LL, h5, h6, h7⟩, h0, h1, h2, h3, h4, h8⟩ hi hl
      simp only [allL, and_true] at hl
      have F := fields LL 2 rfl
      simp -dsimp [setE, h3 hl.1, h4 hl.2]
      have V : ValsV s'.heap us lv := vals_of LL 0 rfl hne
      refine Does.mono (apply_run op V hus) ?_
      rintro _ s2 f2 ⟨K2, a', b', rfl⟩
      simp -dsimp [setE, h3 hl.1, h4 hl.2]
      refine SRv.put (by decide) ⟨⟨c, a', b', hc, LL.keep K2, ?_, ?_, ?_⟩, ?_, ?_, ?_, ?_, ?_, ?_⟩
      all_goals first | (simp [updB, updV]; done) | (simp [updB, updV]; assumption) | skip
      · simp [updB, updV]
        intro h; have := (h6 h).1; rw [hi] at this; cases this
      · simp [updB, updV]
        intro h; have := (h7 h).1; rw [hi] at this; cases this
    · rintro L vals s' f ⟨⟨c, a, b, hc, LL, h5, h6, h7⟩, h0, h1, h2, h3, h4, h8⟩ hi hl
      simp only [allL, and_true] at hl
      have F := fields LL 2 rfl
      simp -dsimp [setE, h1 hl.1, h5 hl.2]
      refine Does.mono (constant_run _ _ _ _) ?_
      rintro _ s2 f2 ⟨K2, rfl⟩
      simp -dsimp [setE, h1 hl.1, h5 hl.2]
      refine SRv.put (by decide) ⟨⟨c, a, b, hc, LL.keep K2, ?_, ?_, ?_⟩, ?_, ?_, ?_, ?_, ?_, ?_⟩
      all_goals first | (simp [updB, updV]; done) | (simp [updB, updV]; assumption) | (simp [updB, updV]; exact hl.2) | skip
      · simp [updB, updV]
        intro h; have := (h7 h).2.1; rw [hi] at this; cases this
    · rintro L vals s' f ⟨⟨c, a, b, hc, LL, h5, h6, h7⟩, h0, h1, h2, h3, h4, h8⟩ hi hl
      simp only [allL, and_true] at hl
      have F := fields LL 2 rfl
      simp -dsimp [setE, (h6 hl).2, e4]
      refine x_store LL 1 rfl (storeTo27 _ hc _ _ rfl _ _ _ _) fun s3 L3 => ?_
      simp -dsimp [setE, (h6 hl).2, e4]
      refine SRv.skip (.bool true) ⟨⟨_, a, b, rfl, L3, ?_, ?_, ?_⟩, ?_, ?_, ?_, ?_, ?_, ?_⟩
      all_goals first | (simp [updB, updV]; done) | (simp [updB, updV]; assumption) | (simp [updB, updV]; exact ⟨(h6 hl).1, hl⟩)
    · rintro L vals s' f ⟨⟨c, a, b, hc, LL, h5, h6, h7⟩, h0, h1, h2, h3, h4, h8⟩ hi hl
      simp only [allL, and_true] at hl
      have F := fields LL 2 rfl
      simp -dsimp [setE]
      refine SRv.put (by decide) ⟨⟨c, a, b, hc, LL, ?_, ?_, ?_⟩, ?_, ?_, ?_, ?_, ?_, ?_⟩
      all_goals first | (simp [updB, updV]; done) | (simp [updB, updV]; assumption)
  · intro L vals s' f hL hA
    obtain ⟨⟨c, a, b, hc, L2, h5, h6, h7⟩, h0, h1, h2, h3, h4, h8⟩ := hA
    obtain ⟨_, _, rfl⟩ := h7 (hL 7 (by simp))
    exact hnext _ _ a b (by simp [setE, e4]) (by simp [setE, h8 (hL 8 (by simp))]) (L2.sub (by simp))
  · rintro v f s' f' hn hd he hx
    exact hx.elim
end Go.Proofs.Ytgpfgcbolinncaa.Abs
set_option linter.unusedVariables false
set_option linter.unusedSimpArgs false
namespace Go.Proofs.Ytgpfgcbolinncaa.Abs
open Go Go.RowKit

theorem fn13 : fnOf Try.prog 13 = some ((Try.f13.body.getD .skip), Try.f13.ntmps, Try.f13.results) := rfl
set_option maxHeartbeats 4000000 in
theorem constants_run {H : Heap} {t : Tree} {v : Value} {s : ST} (hH : Sub H s) (hv : NodeV H t v) (hc : cnt t < 2 ^ 40) (hne : t.args ≠ []) : Does Try.prog 13 #[.agg #[], v] s (fun r s' => Kept s s' ∧ ∃ a b v', r = .ret (.tuple #[v', .bool (consts a b t).isSome]) ∧ NodeV H ((consts a b t).getD t) v') := by
  obtain ⟨op, kind, vk, bits, pos, attr, ts, sl, rfl, rfl, hA⟩ := hv.open_
  rw [cnt_eq] at hc
  have hlen := len_le_cnt ts
  refine Does.pre fun hf => ?_
  refine Does.code known0 fn13 [] (by kernel_rfl) ?_
  dsimp only [Try.f13, Option.getD_some, undraw, noId, Nat.reduceBEq, cond_true, cond_false, frOf]
  have cd := @consts_draw
  dsimp only [Try.f13, Option.getD_some, codeAt, opsOf] at cd
  simp -dsimp [envOf]
  refine x_box (Loc.nil hf) (by rfl) fun n2 s1 L1 => ?_
  simp -dsimp
  refine x_box L1 (by rfl) fun n3 s2 L2 => ?_
  simp -dsimp
  refine x_alloc L2 zero27 fun n4 s3 L3 => ?_
  have F := fields L3 1 rfl
  simp -dsimp [fieldAddrA, F.f2, hA.len]
  have L4 : Loc s s3 [.acc (.slice none 0 0) 2 25 (flat2 []), .obj n4 (.cells z27 27), .obj n3 (.cells (nodeCells op kind sl vk bits pos attr) 27)] := by
    have := ((L3.sub (l' := [.obj n4 (.cells z27 27), .obj n3 (.cells (nodeCells op kind sl vk bits pos attr) 27)]) (by simp [cells_node])).nils [.acc (.slice none 0 0) 2 25 []] (by simp [LE.holds, LE.names])).perm (l' := [.acc (.slice none 0 0) 2 25 [], .obj n4 (.cells z27 27), .obj n3 (.cells (nodeCells op kind sl vk bits pos attr) 27)])
      (by simpa using (List.perm_append_comm (l₁ := [LE.obj n4 (.cells z27 27), .obj n3 (.cells (nodeCells op kind sl vk bits pos attr) 27)]) (l₂ := [.acc (.slice none 0 0) 2 25 []])))
    simpa [flat2] using this
  refine w_for (fun m fr s' => ∃ i env us lv, i + m = ts.length ∧ fr = ⟨42, env, []⟩ ∧ us.length = i ∧ (∀ j t, j < i → ts[j]? = some t → t.op = 40) ∧ Loc s s' [.acc lv 2 25 (flat2 us), .obj n4 (.cells z27 27), .obj n3 (.cells (nodeCells op kind sl vk bits pos attr) 27)] ∧
      env.get 3 = some (.pointer (some ⟨n3, 0, none⟩)) ∧ env.get 4 = some (.pointer (some ⟨n4, 0, none⟩)) ∧ env.get 6 = some lv ∧ env.get 10 = some sl ∧ env.get 11 = some (.int .i64 ts.length) ∧ env.get 12 = some (.int .i64 i)) (m := ts.length) ?_ L3.free ?_
  rotate_left
  · exact ⟨0, _, [], _, by omega, rfl, rfl, fun j t h => by omega, L4, by simp, by simp, by simp, by simp, by simp, by simp⟩
  rintro m fr s' f ⟨i, env, us, lv, him, rfl, hus, hno, LL, h3, h4, h6, h10, h11, h12⟩
  by_cases hi : i < ts.length
  · have hi' : (i : Int) < ts.length := by omega
    obtain ⟨ad, op1, kind1, sl1, vk1, bits1, pos1, attr1, ha, hs1, hv1, hl1⟩ := arg_atH hH hA hi
    have hT : ts[i].op = op1 := by
      obtain ⟨_, _, _, _, _, _, _, _, e1, e2, _⟩ := hv1.open_
      rw [e1]
      injection e2 with e2
      simp at e2
      exact e2.1.symm
    simp -dsimp [h10, h11, h12, hi', ha, hl1 _ LL.kept]
    refine x_alloc LL zero27 fun n8 s5 L5 => ?_
    simp -dsimp
    refine x_store L5 0 rfl (storeTo27 _ rfl _ _ hs1 _ _ _ _) fun s6 L6 => ?_
    have F8 := fields L6 0 rfl
    have F3 := fields L6 3 rfl
    simp -dsimp [fieldAddrA, F8.f0]
    by_cases h40 : op1 = 40
    · subst h40
      simp -dsimp [F8.f3, fieldAddrA]
      refine x_buildSlice L6 slice41 sz25 (lit41 vk1 bits1) fun mm s7 L7 => ?_
      simp -dsimp [h6]
      have hrow : s7.heap.find mm = some (some (.cells [.int .i64 vk1, .int .u64 bits1] 25)) := Own.find (L7.at (i := 0) rfl)
      refine x_append L7 2 (inf := ⟨2, 16⟩) rfl slice41 elem25 (by simp) hrow (by simp) (by omega) (by rfl) (by simp [flat2_length]; omega) (by simp [flat2_length]; omega) fun lv2 s8 L8 => ?_
      have w1 : wrapA .i64 ((i : Int) + 1) = (i : Int) + 1 := wrap_small (by omega) (by omega)
      simp -dsimp [h12, w1]
      have L9 : Loc s s8 [.acc lv2 2 25 (flat2 (us ++ [(vk1, bits1)])), .obj n4 (.cells z27 27), .obj n3 (.cells (nodeCells op kind sl vk bits pos attr) 27)] := by
        rw [← flat2_snoc]
        exact L8.sub (by simp)
      refine Goal.mk ⟨m - 1, by omega, i + 1, _, us ++ [(vk1, bits1)], lv2, by omega, rfl, by simp [hus], ?_, L9, ?_, ?_, ?_, ?_, ?_, ?_⟩
      · intro j t hj ht
        by_cases hji : j < i
        · exact hno j t hji ht
        · have : j = i := by omega
          subst this
          rw [List.getElem?_eq_getElem hi] at ht
          simp only [Option.some.injEq] at ht
          subst ht
          exact hT
      all_goals simp [h3, h4, h10, h11]
    · have h40' : (op1 != 40) = true := by simp [h40]
      have hn : ∀ a b, consts a b (.mk op kind vk bits pos attr ts) = none := by
        intro a b
        simp only [consts]
        rw [if_neg]
        intro h
        simp only [constsB, Bool.and_eq_true, List.all_eq_true] at h
        have := h.1 ts[i] (List.getElem_mem hi)
        rw [hT] at this
        exact h40 (by simpa using this)
      simp -dsimp [h40', h3, F3.all, h4]
      refine x_store L6 2 rfl (storeTo27 _ rfl _ _ hA.cell _ _ _ _) fun s9 L9 => ?_
      simp -dsimp [h4, (fields L9 2 rfl).all]
      exact ⟨L9.kept, 0, 0, _, ⟨rfl, by simp [hn]⟩, by rw [hn]; exact hv⟩
  · have hi' : ¬ ((i : Int) < ts.length) := by omega
    have F3 := fields LL 2 rfl
    have hall : ts.all (fun t => t.op == 40) = true := by
      rw [List.all_eq_true]
      intro t ht
      obtain ⟨j, hj, rfl⟩ := List.getElem_of_mem ht
      simp [hno j ts[j] (by omega) (by simp)]
    have une : us ≠ [] := by
      intro e
      subst e
      simp only [List.length_nil] at hus
      exact hne (List.eq_nil_of_length_eq_zero (by show ts.length = 0; omega))
    by_cases h1 : op < 1
    · have hn : ∀ a b, consts a b (.mk op kind vk bits pos attr ts) = none := by
        intro a b
        simp only [consts]
        rw [if_neg]
        intro h
        simp only [constsB, Bool.and_eq_true, decide_eq_true_eq] at h
        omega
      simp -dsimp [h11, h12, hi', h3, h4, fieldAddrA, F3.f0, h1, F3.all]
      refine x_store LL 1 rfl (storeTo27 _ rfl _ _ hA.cell _ _ _ _) fun s9 L9 => ?_
      simp -dsimp [h4, (fields L9 1 rfl).all]
      exact ⟨L9.kept, 0, 0, _, ⟨rfl, by simp [hn]⟩, by rw [hn]; exact hv⟩
    · by_cases h17 : 17 < op
      · have hn : ∀ a b, consts a b (.mk op kind vk bits pos attr ts) = none := by
          intro a b
          simp only [consts]
          rw [if_neg]
          intro h
          simp only [constsB, Bool.and_eq_true, decide_eq_true_eq] at h
          omega
        simp -dsimp [h11, h12, hi', h3, h4, fieldAddrA, F3.f0, h1, h17, F3.all]
        refine x_store LL 1 rfl (storeTo27 _ rfl _ _ hA.cell _ _ _ _) fun s9 L9 => ?_
        simp -dsimp [h4, (fields L9 1 rfl).all]
        exact ⟨L9.kept, 0, 0, _, ⟨rfl, by simp [hn]⟩, by rw [hn]; exact hv⟩
      · have hd : ∀ a b, consts a b (.mk op kind vk bits pos attr ts) = some (.mk 40 kind a b 0 0 []) := by
          intro a b
          simp only [consts]
          rw [if_pos]
          simp only [constsB, hall, Bool.true_and, Bool.and_eq_true, decide_eq_true_eq]
          omega
        simp -dsimp [h11, h12, hi', h3, h4, fieldAddrA, F3.f0, h1, h17]
        refine cd une (by omega) rfl LL (by simp [h3]) (by simp [h4]) (by simp [h6]) ?_
        intro env' s9 a b e4 e5 L9
        simp -dsimp [e4, e5, (fields L9 0 rfl).all]
        exact ⟨L9.kept, a, b, _, ⟨rfl, by simp [hd]⟩, by rw [hd]; exact node_leaf _ _ _ _ _ _ _⟩
def fv (k : Nat) : Value := .func (.func k) #[.agg #[]] #[]
theorem zero34 : zeroL Try.prog 34 = some [.nilFunc, .nilFunc, .nilFunc, .nilFunc] := by kernel_rfl
theorem build34 : buildA Try.prog 34 [(0, fv 13), (1, fv 14), (2, fv 15), (3, fv 16)] = some (.agg #[fv 13, fv 14, fv 15, fv 16]) := by kernel_rfl
theorem storeTo34 : storeTo Try.prog 34 [.nilFunc, .nilFunc, .nilFunc, .nilFunc] 0 (.agg #[fv 13, fv 14, fv 15, fv 16]) = some [fv 13, fv 14, fv 15, fv 16] := by kernel_rfl
theorem fn10 : fnOf Try.prog 10 = some ((Try.f10.body.getD .skip), Try.f10.ntmps, Try.f10.results) := rfl
theorem rules_run (s : ST) : Does Try.prog 10 #[.agg #[]] s (fun r s' => Kept s s' ∧ r = .ret (.agg #[fv 13, fv 14, fv 15, fv 16])) := by
  refine Does.pre fun hf => ?_
  refine Does.code known0 fn10 [] (by kernel_rfl) ?_
  dsimp only [Try.f10, Option.getD_some, undraw, noId, Nat.reduceBEq, cond_true, cond_false, frOf]
  simp -dsimp [envOf]
  refine x_box (Loc.nil hf) (by rfl) fun n1 s1 L1 => ?_
  simp -dsimp
  refine x_alloc L1 zero34 fun n2 s2 L2 => ?_
  have l1 : loadA Try.prog 36 (.pointer (some ⟨n1, 0, none⟩)) s2 = some (.agg #[], s2) := load_obj L2 1 rfl (by simp [loadFrom])
  have b34 := build34
  have st34 := storeTo34
  unfold fv at b34 st34
  simp -dsimp [l1, b34]
  refine x_store L2 0 rfl st34 fun s3 L3 => ?_
  have l3 : loadA Try.prog 34 (.pointer (some ⟨n2, 0, none⟩)) s3 = some (.agg #[fv 13, fv 14, fv 15, fv 16], s3) := load_obj L3 0 rfl (by simp [loadFrom, fv])
  simp -dsimp [l3]
  exact L3.kept
end Go.Proofs.Ytgpfgcbolinncaa.Abs
