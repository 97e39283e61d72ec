/- ref08.TwinNodes. -/
import Derived.Test.YtgpfgcbolinncaaGreatZ2
set_option linter.unusedVariables false
set_option linter.unusedSimpArgs false
namespace Go.Proofs.YtgpfgcbolinncaaGreat.Abs
open Go Go.RowKit

/-- a slice of nodes -/
def ListV (H : Heap) (ts : List Tree) (sl : Value) : Prop := ∀ op kind vk bits pos attr, NodeV H (.mk op kind vk bits pos attr ts) (nodeVal op kind sl vk bits pos attr)
theorem NodeV.list {H : Heap} {op kind vk bits pos attr : Int} {ts : List Tree} {sl : Value} (h : NodeV H (.mk op kind vk bits pos attr ts) (nodeVal op kind sl vk bits pos attr)) : ListV H ts sl := by
  intro op' kind' vk' bits' pos' attr'
  generalize hv : nodeVal op kind sl vk bits pos attr = v at h
  cases h with
  | mk _ _ _ _ _ _ _ sl2 n off cs c e hs hc hl ht =>
    have : sl = sl2 := by
      simp only [nodeVal, Value.agg.injEq, Array.mk.injEq, List.cons.injEq] at hv
      exact hv.2.2.1
    subst this
    exact .mk op' kind' vk' bits' pos' attr' ts sl n off cs c e hs hc hl ht
theorem ListV.args {H : Heap} {ts : List Tree} {sl : Value} (h : ListV H ts sl) : ArgsV H ts sl := by
  obtain ⟨_, _, _, _, _, _, _, sl2, e, e2, hA⟩ := (h 0 0 0 0 0 0).open_
  cases e
  have : sl = sl2 := by
    simp only [nodeVal, Value.agg.injEq, Array.mk.injEq, List.cons.injEq] at e2
    exact e2.2.2.1
  subst this
  exact hA
theorem ListV.keep {H H2 : Heap} (k : HLe H H2) {ts : List Tree} {sl : Value} (h : ListV H ts sl) : ListV H2 ts sl := fun a b c d e f => (h a b c d e f).keep k
theorem NodeV.shape {H : Heap} {t : Tree} {op kind vk bits pos attr : Int} {sl : Value} (h : NodeV H t (nodeVal op kind sl vk bits pos attr)) : ∃ ts, t = .mk op kind vk bits pos attr ts := by
  generalize hv : nodeVal op kind sl vk bits pos attr = v at h
  cases h with
  | mk op2 kind2 vk2 bits2 pos2 attr2 ts sl2 n off cs c e hs hc hl ht =>
    simp only [nodeVal, Value.agg.injEq, Array.mk.injEq, List.cons.injEq, Value.int.injEq, true_and, and_true] at hv
    obtain ⟨rfl, rfl, _, rfl, rfl, rfl, rfl⟩ := hv
    exact ⟨ts, rfl⟩
theorem ListV.slice {H : Heap} {ts : List Tree} {sl : Value} (h : ListV H ts sl) : ∃ a l c, sl = .slice a l c := by
  have h := h 0 0 0 0 0 0
  generalize hv : nodeVal 0 0 sl 0 0 0 0 = v at h
  cases h with
  | mk op2 kind2 vk2 bits2 pos2 attr2 ts sl2 n off cs c e hs hc hl ht =>
    have : sl = sl2 := by
      simp only [nodeVal, Value.agg.injEq, Array.mk.injEq, List.cons.injEq] at hv
      exact hv.2.2.1
    subst this
    rcases hs with ⟨k, rfl, _⟩ | rfl
    · exact ⟨_, _, _, rfl⟩
    · exact ⟨_, _, _, rfl⟩
/-- what can be cut -/
def Cut (ts : List Tree) (sl : Value) : Prop := ts ≠ [] → ∃ n off cs, sl = .slice (some ⟨n, off, none⟩) ts.length cs ∧ (cs = 0 ∨ cs = 7)
theorem ListV.part {H : Heap} {ts : List Tree} {n off cs k m : Nat} (h : ListV H ts (.slice (some ⟨n, off, none⟩) ts.length cs)) : ListV H ((ts.drop k).take m) (.slice (some ⟨n, off + k * 7, none⟩) ((ts.drop k).take m).length cs) := by
  intro op kind vk bits pos attr
  have h := h 0 0 0 0 0 0
  generalize hv : nodeVal 0 0 (.slice (some ⟨n, off, none⟩) ts.length cs) 0 0 0 0 = v at h
  cases h with
  | mk op2 kind2 vk2 bits2 pos2 attr2 _ sl2 n2 off2 cs2 c e hs hc hl ht =>
    have e1 : (.slice (some ⟨n, off, none⟩) ts.length cs : Value) = sl2 := by
      simp only [nodeVal, Value.agg.injEq, Array.mk.injEq, List.cons.injEq] at hv
      exact hv.2.2.1
    subst e1
    rcases hs with ⟨k, he, _⟩ | he
    · cases he
    · cases he
      refine .mk op kind vk bits pos attr _ _ n (off + k * 7) cs c e (.inr rfl) (fun hne => hc (by rintro rfl; simp at hne)) (fun i hi => ?_) fun i t hi => ?_
      · simp at hi
        have := hl (k + i) (by omega)
        rw [Nat.add_mul] at this
        omega
      · rw [List.getElem?_take] at hi
        split at hi
        · rw [List.getElem?_drop] at hi
          have := ht (k + i) t hi
          rw [Nat.add_mul, ← Nat.add_assoc] at this
          exact this
        · cases hi
def MadeL (ts : List Tree) (H : Heap) (s : ST) (r : CRes) (s' : ST) : Prop := Kept s s' ∧ ∃ H' sl', r = .ret sl' ∧ HLe H H' ∧ Sub H' s' ∧ NewTo H H' s ∧ ListV H' ts sl' ∧ Cut ts sl'
def TwinsOk (t : Tree) : Prop := ∀ op kind vk bits pos attr ts, t = .mk op kind vk bits pos attr ts → ∀ H sl s, Sub H s → ListV H ts sl → FitL ts → Does Tryz.prog 4 #[sl] s (MadeL ts H s)
theorem fn4 : fnOf Tryz.prog 4 = some ((Tryz.f4.body.getD .skip), Tryz.f4.ntmps, Tryz.f4.results) := by kernel_rfl
set_option maxHeartbeats 4000000 in
set_option maxRecDepth 10000 in
theorem twins_loop {args : List Tree} (ih : ∀ t ∈ args, TwinsOk t) {H : Heap} {s0 s1 : ST} {sl : Value} (hf0 : s0.Free) (hH : Sub H s0) (hA : ArgsV H args sl)
    (L1 : Loc s0 s1 [.acc (.slice none 0 0) 7 27 []]) (hc : FitL args) {env : Trie Value}
    (h0 : env.get 0 = some sl) (h3 : env.get 3 = some (.slice none 0 0)) (h17 : env.get 7 = some (.int .i64 args.length)) (h18 : env.get 8 = some (.int .i64 0)) :
    wCode Tryz.prog (codeAt [true, true, false, true, false] (Tryz.f4.body.getD .skip)) ⟨25, env, []⟩ s1 (fun e f s' => e = .exit 0 ∧ ∃ env' H' c b lv, f = ⟨25, env', []⟩ ∧ Kept s0 b ∧
      Loc b s' [.acc lv 7 27 c] ∧ HLe H H' ∧ Sub H' b ∧ NewTo H H' s0 ∧ Row H' args c ∧ env'.get 3 = some lv) := by
  dsimp only [Tryz.f4, Option.getD_some, codeAt]
  have hlen := hc.len
  refine w_for (fun m fr s' => ∃ i env H' c b lv, i + m = args.length ∧ fr = ⟨25, env, []⟩ ∧ Kept s0 b ∧
      Loc b s' [.acc lv 7 27 c] ∧ HLe H H' ∧ Sub H' b ∧ NewTo H H' s0 ∧ Row H' (args.take i) c ∧
      env.get 0 = some sl ∧ env.get 3 = some lv ∧ env.get 7 = some (.int .i64 args.length) ∧ env.get 8 = some (.int .i64 i)) (m := args.length) ?_ L1.free
    ⟨0, env, H, [], s0, _, by omega, rfl, Kept.refl hf0, L1, fun _ _ => rfl, hH, NewTo.refl _ _, Row.nil H, h0, h3, h17, h18⟩
  rintro m fr s' f ⟨i, env, H1, c, b, lv, him, rfl, Kb, LL, le1, sub1, new1, row, h0, h3, h17, h18⟩
  by_cases hi : i < args.length
  · have hi' : (i : Int) < args.length := by omega
    obtain ⟨ad, op1, kind1, sl1, vk1, bits1, pos1, attr1, ha, hs1, hv1, hl1⟩ := arg_atH hH hA hi
    simp -dsimp [h0, h17, h18, hi', ha, hl1 _ (Kb.trans LL.kept)]
    refine x_alloc LL zero27 fun n5 s5 L5 => ?_
    simp -dsimp
    refine x_store L5 0 rfl (storeTo27 _ rfl _ _ hs1 _ _ _ _) fun s6 L6 => ?_
    have F6 := fields L6 0 rfl
    simp -dsimp [fieldAddrA, F6.f2]
    obtain ⟨ts1, hT⟩ := hv1.shape
    rw [hT] at hv1
    have hc1 := hc.at hi
    rw [hT] at hc1
    refine Does.mono (ih args[i] (List.getElem_mem hi) _ _ _ _ _ _ _ hT H1 _ s6 (sub1.kept L6.kept) (hv1.list.keep le1) hc1.args) ?_
    rintro _ s7 f7 ⟨K7, H7, v7, rfl, le7, sub7, new7, nv7, _⟩
    obtain ⟨b7, Kb7, L7, fb7⟩ := (L6.keep K7).rebase
    have sub7' : Sub H7 b7 := Sub.base L6 sub1 new7 sub7 fb7
    have hA7 := nv7.args
    simp -dsimp [fieldAddrA]
    have st22 : storeTo Tryz.prog 22 (nodeCells op1 kind1 sl1 vk1 bits1 pos1 attr1) 2 v7 = some (nodeCells op1 kind1 v7 vk1 bits1 pos1 attr1) := by
      obtain ⟨a7, l7, k7, rfl⟩ := nv7.slice
      exact storeTo22 _ _ _ _ _ _ _ rfl rfl rfl
    refine x_store L7 0 rfl st22 fun s8 L8 => ?_
    simp -dsimp [h3, (fields L8 0 rfl).all]
    refine x_buildSlice L8 slice22 sz27 (lit22 _ _ hA7.cell _ _ _ _) fun mm s9 L9 => ?_
    simp -dsimp
    have hrow : s9.heap.find mm = some (some (.cells (nodeCells op1 kind1 v7 vk1 bits1 pos1 attr1) 27)) := Own.find (L9.at (i := 0) rfl)
    have hl := row.len
    have htk : (args.take i).length = i := by simp; omega
    rw [htk] at hl
    refine x_append L9 2 (off := 0) (m := 1) (inf := ⟨7, 72⟩) rfl slice22 elem27 (by simp) hrow (by simp [nodeCells]) (by omega) (show List.all _ _ = true from nodeCells_ok op1 kind1 hA7.cell vk1 bits1 pos1 attr1) (by simp [hl]; omega) (by simp [hl]; omega) fun lv2 s10 L10 => ?_
    have w1 : wrapA .i64 ((i : Int) + 1) = (i : Int) + 1 := wrap_small (by omega) (by omega)
    simp -dsimp [h18, w1]
    have rw7 : Row H7 (args.take (i + 1)) (c ++ nodeCells op1 kind1 v7 vk1 bits1 pos1 attr1) := by
      rw [List.take_add_one, List.getElem?_eq_getElem hi, hT]
      exact (row.up le7).snoc (nv7 _ _ _ _ _ _) hA7.cell
    refine Goal.mk ⟨m - 1, by omega, i + 1, _, H7, c ++ nodeCells op1 kind1 v7 vk1 bits1 pos1 attr1, b7, lv2, by omega, rfl, Kb.trans Kb7, ?_, le1.trans le7, sub7', new1.trans (Kb.trans L6.kept) new7, rw7, ?_, ?_, ?_, ?_⟩
    · have := L10.sub (l' := [.acc lv2 7 27 (c ++ nodeCells op1 kind1 v7 vk1 bits1 pos1 attr1)]) (by simp [nodeCells])
      exact this
    all_goals simp [h0, h17]
  · have hi' : ¬ ((i : Int) < args.length) := by omega
    rw [List.take_of_length_le (by omega)] at row
    simp -dsimp [h17, h18, hi']
    exact ⟨H1, c, b, Kb, lv, LL, le1, sub1, new1, row, h3⟩
set_option maxHeartbeats 4000000 in
set_option maxRecDepth 10000 in
theorem twins_run (t : Tree) : TwinsOk t := by
  induction t using Tree.ind with
  | h op kind vk bits pos attr args ih =>
    rintro op kind vk bits pos attr ts ⟨⟩ H sl s hH hv hc
    refine Does.pre fun hf => ?_
    have hA := hv.args
    refine Does.code known0 fn4 [] (by kernel_rfl) ?_
    dsimp only [Tryz.f4, Option.getD_some, undraw, noId, cond_true, cond_false, frOf]
    have loop1 := @twins_loop args ih H s
    dsimp only [Tryz.f4, Option.getD_some, codeAt] at loop1
    simp -dsimp [envOf, hA.len]
    have L3 : Loc s s [.acc (.slice none 0 0) 7 27 []] := (Loc.nil hf).nils [.acc (.slice none 0 0) 7 27 []] (by simp [LE.holds, LE.names])
    refine w_mono hf (loop1 hf hH hA L3 hc (by simp) (by simp) (by simp) (by simp)) ?_
    rintro _ _ s3 f3 ⟨rfl, env', H1, c, b, lv, rfl, Kb, L3, le1, sub1, new1, row, h3⟩
    simp -dsimp [h3]
    by_cases h0 : args = []
    · subst h0
      rcases L3.at (i := 0) rfl with ⟨rfl, hc0⟩ | ⟨n, m, rfl, hcl, hm, ho⟩
      · exact ⟨Kb.trans L3.kept, H1, _, rfl, le1, sub1.kept L3.kept, new1, fun _ _ _ _ _ _ => node_leaf _ _ _ _ _ _ _, fun h => absurd rfl h⟩
      · exfalso
        have := row.len
        simp at this
        subst this
        simp at hcl
        omega
    · rcases L3.at (i := 0) rfl with ⟨_, hc0⟩ | ⟨n, m, rfl, hcl, hm, ho⟩
      · exfalso
        have := row.len
        rw [hc0] at this
        simp only [List.length_nil] at this
        exact h0 (List.eq_nil_of_length_eq_zero (by omega))
      obtain ⟨b6, H2, Kb6, L6, le2, sub2, new2, hmu, nv2⟩ := own_row L3 sub1 row h0
      exact ⟨Kb.trans L3.kept, H2, _, rfl, le1.trans le2, sub2.kept L6.kept, new1.trans Kb new2, nv2, fun _ => ⟨n, 0, 7, by rw [hmu], .inr rfl⟩⟩
end Go.Proofs.YtgpfgcbolinncaaGreat.Abs
