/- prove.twin: a node in memory of its own. -/
import Derived.Test.YtgpfgcbolinncaaGreatZ0
set_option linter.unusedVariables false
set_option linter.unusedSimpArgs false
namespace Go.Proofs.YtgpfgcbolinncaaGreat.Abs
open Go Go.RowKit

/-- no row of operands is longer than a row of the machine's may be -/
inductive Fit : Tree → Prop
  | mk (op kind vk bits pos attr : Int) (args : List Tree) (h : args.length * 72 ≤ 140737488355328) (k : ∀ a ∈ args, Fit a) : Fit (.mk op kind vk bits pos attr args)
structure FitL (ts : List Tree) : Prop where
  len : ts.length * 72 ≤ 140737488355328
  each : ∀ t ∈ ts, Fit t
theorem Fit.args {op kind vk bits pos attr : Int} {args : List Tree} (h : Fit (.mk op kind vk bits pos attr args)) : FitL args := by
  cases h with
  | mk _ _ _ _ _ _ _ h k => exact ⟨h, k⟩
theorem FitL.node {args : List Tree} (h : FitL args) (op kind vk bits pos attr : Int) : Fit (.mk op kind vk bits pos attr args) := .mk _ _ _ _ _ _ _ h.len h.each
theorem FitL.at {ts : List Tree} (h : FitL ts) {i : Nat} (hi : i < ts.length) : Fit ts[i] := h.each _ (List.getElem_mem hi)
/-- names of H' beyond H are new to s -/
def NewTo (H H2 : Heap) (s : ST) : Prop := ∀ n, H2.find n ≠ none → H.find n = none → s.heap.find n = none
theorem NewTo.refl (H : Heap) (s : ST) : NewTo H H s := fun n h h0 => absurd h0 h
theorem NewTo.trans {H H2 H3 : Heap} {s s2 : ST} (k : Kept s s2) (h : NewTo H H2 s) (h2 : NewTo H2 H3 s2) : NewTo H H3 s := by
  intro n h3 h0
  by_cases hh : H2.find n = none
  · have h6 := h2 n h3 hh
    apply Classical.byContradiction
    intro hne
    have := k.find hne
    rw [h6] at this
    exact hne this.symm
  · exact h n hh h0
/-- a heap of nodes below the state stays known when one's own memory is set aside -/
theorem Sub.base {H H2 : Heap} {b s s2 bb : ST} {l : List LE} (L : Loc b s l) (subH : Sub H b) (hn : NewTo H H2 s) (sub2 : Sub H2 s2) (fb : ∀ n, bb.heap.find n = if n ∈ namesOf l then none else s2.heap.find n) : Sub H2 bb := by
  intro n h2
  rw [fb, if_neg, sub2 n h2]
  intro hm
  have hb : b.heap.find n = none := L.new n hm
  have h1 : H.find n = none := by
    apply Classical.byContradiction
    intro h
    exact h (by rw [← subH n h]; exact hb)
  have h6 := hn n h2 h1
  obtain ⟨z, hz, hnz⟩ := mem_namesOf.1 hm
  obtain ⟨o, ho⟩ := LE.owned (L.own z hz) hnz
  rw [Own.find ho] at h6
  cases h6
/-- a row of one's own becomes a node's operands -/
theorem own_row {H : Heap} {b s : ST} {l : List LE} {n m : Nat} {us : List Tree} {c : List Value} (L : Loc b s (.acc (.slice (some ⟨n, 0, none⟩) m 7) 7 27 c :: l)) (subH : Sub H b) (row : Row H us c) (hne : us ≠ []) :
    ∃ b2 H2, Kept b b2 ∧ Loc b2 s l ∧ HLe H H2 ∧ Sub H2 b2 ∧ NewTo H H2 b ∧ m = us.length ∧ ∀ op kind vk bits pos attr, NodeV H2 (.mk op kind vk bits pos attr us) (nodeVal op kind (.slice (some ⟨n, 0, none⟩) m 7) vk bits pos attr) := by
  obtain ⟨b6, Kb6, L6, fb6⟩ := (L.sub (l' := l) (by simp)).rebase
  have hbn : b.heap.find n = none := L.new n (by simp [namesOf, LE.names])
  have h1n : H.find n = none := by
    apply Classical.byContradiction
    intro h
    exact h (by rw [← subH n h]; exact hbn)
  have ho : c.length = m * 7 ∧ Own s n (.cells c 27) := by
    rcases L.at (i := 0) rfl with ⟨h, _⟩ | ⟨n', m', h, hc, _, ho'⟩
    · cases h
    · cases h; exact ⟨hc, ho'⟩
  have hmu : m = us.length := by have := row.len; have := ho.1; omega
  have le2 : HLe H (H.set n (some (.cells c 27))) := fun k hk => by
    rw [Heap.find_set, if_neg]
    rintro rfl
    exact hk h1n
  refine ⟨b6, H.set n (some (.cells c 27)), Kb6, L6, le2, ?_, ?_, hmu, ?_⟩
  · intro k hk
    rw [Heap.find_set] at hk ⊢
    split
    · rename_i hkn
      subst hkn
      rw [fb6, if_neg]
      · exact Own.find ho.2
      · have := L.nodup
        rw [namesOf_cons] at this
        have := (List.nodup_append.1 this).2.2
        intro hm
        exact this k (by simp [LE.names]) k hm rfl
    · rename_i hkn
      rw [if_neg hkn] at hk
      rw [Kb6.find (by rw [subH k hk]; exact hk), subH k hk]
  · intro k hk h0
    rw [Heap.find_set] at hk
    split at hk
    · rename_i hkn
      subst hkn
      exact hbn
    · exact absurd h0 hk
  · intro op kind vk bits pos attr
    refine .mk op kind vk bits pos attr us _ n 0 7 c 27 (.inr (by rw [hmu])) (fun _ => by rw [Heap.find_set, if_pos rfl]) (fun i hi => by have := row.len; omega) fun i t ht => ?_
    rw [Nat.zero_add]
    exact (row.at_ i t ht).keep le2
theorem NewTo.kept {H H2 : Heap} {b s : ST} (h : NewTo H H2 s) (k : Kept b s) : NewTo H H2 b := by
  intro n h2 h0
  apply Classical.byContradiction
  intro hne
  have := k.find hne
  rw [h n h2 h0] at this
  exact hne this.symm
/-- a call makes a value that reads as t -/
def Made (t : Tree) (H : Heap) (s : ST) (r : CRes) (s' : ST) : Prop := Kept s s' ∧ ∃ H' v', r = .ret v' ∧ HLe H H' ∧ Sub H' s' ∧ NewTo H H' s ∧ NodeV H' t v'
def TwinOk (t : Tree) : Prop := ∀ H v s, Sub H s → NodeV H t v → Fit t → Does Tryz.prog 12 #[v] s (Made t H s)
theorem fn12 : fnOf Tryz.prog 12 = some ((Tryz.f12.body.getD .skip), Tryz.f12.ntmps, Tryz.f12.results) := by kernel_rfl
set_option maxHeartbeats 4000000 in
set_option maxRecDepth 10000 in
theorem twin_loop {args : List Tree} (ih : ∀ t ∈ args, TwinOk t) {H : Heap} {s0 s1 : ST} {sl : Value} {op kind vk bits pos attr : Int} {n1 n2 : Nat} (hf0 : s0.Free) (hH : Sub H s0) (hA : ArgsV H args sl)
    (L1 : Loc s0 s1 [.acc (.slice none 0 0) 7 27 [], .obj n2 (.cells z27 27), .obj n1 (.cells (nodeCells op kind sl vk bits pos attr) 27)]) (hc : FitL args) {env : Trie Value}
    (h1 : env.get 1 = some (.pointer (some ⟨n1, 0, none⟩))) (h2 : env.get 2 = some (.pointer (some ⟨n2, 0, none⟩))) (h3 : env.get 3 = some (.slice none 0 0)) (h16 : env.get 7 = some sl) (h17 : env.get 8 = some (.int .i64 args.length)) (h18 : env.get 9 = some (.int .i64 0)) :
    wCode Tryz.prog (codeAt [true, true, false, true, false] (Tryz.f12.body.getD .skip)) ⟨22, env, []⟩ s1 (fun e f s' => e = .exit 0 ∧ ∃ env' H' c b lv, f = ⟨22, env', []⟩ ∧ Kept s0 b ∧
      Loc b s' [.acc lv 7 27 c, .obj n2 (.cells z27 27), .obj n1 (.cells (nodeCells op kind sl vk bits pos attr) 27)] ∧ HLe H H' ∧ Sub H' b ∧ NewTo H H' s0 ∧ Row H' args c ∧
      env'.get 1 = some (.pointer (some ⟨n1, 0, none⟩)) ∧ env'.get 2 = some (.pointer (some ⟨n2, 0, none⟩)) ∧ env'.get 3 = some lv) := by
  dsimp only [Tryz.f12, Option.getD_some, codeAt]
  have hlen := hc.len
  refine w_for (fun m fr s' => ∃ i env H' c b lv, i + m = args.length ∧ fr = ⟨22, env, []⟩ ∧ Kept s0 b ∧
      Loc b s' [.acc lv 7 27 c, .obj n2 (.cells z27 27), .obj n1 (.cells (nodeCells op kind sl vk bits pos attr) 27)] ∧ HLe H H' ∧ Sub H' b ∧ NewTo H H' s0 ∧ Row H' (args.take i) c ∧
      env.get 1 = some (.pointer (some ⟨n1, 0, none⟩)) ∧ env.get 2 = some (.pointer (some ⟨n2, 0, none⟩)) ∧ env.get 3 = some lv ∧
      env.get 7 = some sl ∧ env.get 8 = some (.int .i64 args.length) ∧ env.get 9 = some (.int .i64 i)) (m := args.length) ?_ L1.free
    ⟨0, env, H, [], s0, _, by omega, rfl, Kept.refl hf0, L1, fun _ _ => rfl, hH, NewTo.refl _ _, Row.nil H, h1, h2, h3, h16, h17, h18⟩
  rintro m fr s' f ⟨i, env, H1, c, b, lv, him, rfl, Kb, LL, le1, sub1, new1, row, h1, h2, h3, h16, h17, h18⟩
  by_cases hi : i < args.length
  · have hi' : (i : Int) < args.length := by omega
    obtain ⟨ad, op1, kind1, sl1, vk1, bits1, pos1, attr1, ha, hs1, hv1, hl1⟩ := arg_atH hH hA hi
    simp -dsimp [h16, h17, h18, hi', ha, hl1 _ (Kb.trans LL.kept)]
    refine x_alloc LL zero27 fun n5 s5 L5 => ?_
    simp -dsimp
    refine x_store L5 0 rfl (storeTo27 _ rfl _ _ hs1 _ _ _ _) fun s6 L6 => ?_
    simp -dsimp [h3, (fields L6 0 rfl).all]
    refine Does.mono (ih args[i] (List.getElem_mem hi) H1 _ s6 (sub1.kept L6.kept) (hv1.keep le1) (hc.at hi)) ?_
    rintro _ s7 f7 ⟨K7, H7, v7, rfl, le7, sub7, new7, nv7⟩
    obtain ⟨b7, Kb7, L7, fb7⟩ := (L6.keep K7).rebase
    have sub7' : Sub H7 b7 := Sub.base L6 sub1 new7 sub7 fb7
    obtain ⟨op2, kind2, vk2, bits2, pos2, attr2, ts2, sl2, _, rfl, hA2⟩ := nv7.open_
    simp -dsimp
    refine x_buildSlice L7 slice22 sz27 (lit22 _ _ hA2.cell _ _ _ _) fun mm s8 L8 => ?_
    simp -dsimp
    have hrow : s8.heap.find mm = some (some (.cells (nodeCells op2 kind2 sl2 vk2 bits2 pos2 attr2) 27)) := Own.find (L8.at (i := 0) rfl)
    have hl := row.len
    have htk : (args.take i).length = i := by simp; omega
    rw [htk] at hl
    refine x_append L8 2 (off := 0) (m := 1) (inf := ⟨7, 72⟩) rfl slice22 elem27 (by simp) hrow (by simp [nodeCells]) (by omega) (show List.all _ _ = true from nodeCells_ok op2 kind2 hA2.cell vk2 bits2 pos2 attr2) (by simp [hl]; omega) (by simp [hl]; omega) fun lv2 s9 L9 => ?_
    have w1 : wrapA .i64 ((i : Int) + 1) = (i : Int) + 1 := wrap_small (by omega) (by omega)
    simp -dsimp [h18, w1]
    have rw7 : Row H7 (args.take (i + 1)) (c ++ nodeCells op2 kind2 sl2 vk2 bits2 pos2 attr2) := by
      rw [List.take_add_one, List.getElem?_eq_getElem hi]
      exact (row.up le7).snoc nv7 hA2.cell
    refine Goal.mk ⟨m - 1, by omega, i + 1, _, H7, c ++ nodeCells op2 kind2 sl2 vk2 bits2 pos2 attr2, b7, lv2, by omega, rfl, Kb.trans Kb7, ?_, le1.trans le7, sub7', new1.trans (Kb.trans L6.kept) new7, rw7, ?_, ?_, ?_, ?_, ?_, ?_⟩
    · have := L9.sub (l' := [.acc lv2 7 27 (c ++ nodeCells op2 kind2 sl2 vk2 bits2 pos2 attr2), .obj n2 (.cells z27 27), .obj n1 (.cells (nodeCells op kind sl vk bits pos attr) 27)]) (by simp [nodeCells])
      exact this
    all_goals simp [h1, h2, h16, h17]
  · have hi' : ¬ ((i : Int) < args.length) := by omega
    rw [List.take_of_length_le (by omega)] at row
    simp -dsimp [h17, h18, hi']
    exact ⟨H1, c, b, Kb, lv, LL, le1, sub1, new1, row, h1, h2, h3⟩
set_option maxHeartbeats 4000000 in
set_option maxRecDepth 10000 in
theorem twin_run (t : Tree) : TwinOk t := by
  induction t using Tree.ind with
  | h op kind vk bits pos attr args ih =>
    intro H v s hH hv hc
    refine Does.pre fun hf => ?_
    obtain ⟨_, _, _, _, _, _, _, sl, e, rfl, hA⟩ := hv.open_
    cases e
    have hc' := hc.args
    refine Does.code known0 fn12 [] (by kernel_rfl) ?_
    dsimp only [Tryz.f12, Option.getD_some, undraw, noId, cond_true, cond_false, frOf]
    have loop1 := @twin_loop args ih H s
    dsimp only [Tryz.f12, Option.getD_some, codeAt] at loop1
    simp -dsimp [envOf]
    refine x_box (Loc.nil hf) (by rfl) fun n1 s1 L1 => ?_
    simp -dsimp
    refine x_alloc L1 zero27 fun n2 s2 L2 => ?_
    have F := fields L2 1 rfl
    simp -dsimp [fieldAddrA, F.f2, hA.len]
    have L3 : Loc s s2 [.acc (.slice none 0 0) 7 27 [], .obj n2 (.cells z27 27), .obj n1 (.cells (nodeCells op kind sl vk bits pos attr) 27)] := by
      exact (L2.nils [.acc (.slice none 0 0) 7 27 []] (by simp [LE.holds, LE.names])).perm (List.perm_append_comm (l₁ := [LE.obj n2 (.cells z27 27), .obj n1 (.cells (nodeCells op kind sl vk bits pos attr) 27)]) (l₂ := [.acc (.slice none 0 0) 7 27 []]))
    refine w_mono L2.free (loop1 hf hH hA L3 hc' (by simp) (by simp) (by simp) (by simp) (by simp) (by simp)) ?_
    rintro _ _ s3 f3 ⟨rfl, env', H1, c, b, lv, rfl, Kb, L3, le1, sub1, new1, row, h1, h2, h3⟩
    by_cases h0 : args = []
    · subst h0
      rcases L3.at (i := 0) rfl with ⟨rfl, hc0⟩ | ⟨n, m, rfl, hcl, hm, ho⟩
      · simp -dsimp [h3, h1, fieldAddrA]
        refine x_store L3 2 rfl (storeTo22 _ _ _ _ _ _ _ rfl rfl rfl) fun s4 L4 => ?_
        simp -dsimp [h1, h2, (fields L4 2 rfl).all]
        refine x_store L4 1 rfl (storeTo27 _ rfl _ _ rfl _ _ _ _) fun s5 L5 => ?_
        simp -dsimp [h2, (fields L5 1 rfl).all]
        exact ⟨Kb.trans L5.kept, H1, _, rfl, le1, sub1.kept L5.kept, new1, node_leaf _ _ _ _ _ _ _⟩
      · exfalso
        have := row.len
        simp at this
        subst this
        simp at hcl
        omega
    · rcases L3.at (i := 0) rfl with ⟨_, hc0⟩ | ⟨n, m, rfl, hcl, hm, ho⟩
      · exfalso
        have := row.len
        rw [hc0] at this
        simp only [List.length_nil] at this
        exact h0 (List.eq_nil_of_length_eq_zero (by omega))
      simp -dsimp [h3, h1, fieldAddrA]
      refine x_store L3 2 rfl (storeTo22 _ _ _ _ _ _ _ rfl rfl rfl) fun s4 L4 => ?_
      simp -dsimp [h1, h2, (fields L4 2 rfl).all]
      refine x_store L4 1 rfl (storeTo27 _ rfl _ _ rfl _ _ _ _) fun s5 L5 => ?_
      obtain ⟨b6, H2, Kb6, L6, le2, sub2, new2, hmu, nv2⟩ := own_row L5 sub1 row h0
      simp -dsimp [h2, (fields L5 1 rfl).all]
      exact ⟨Kb.trans L5.kept, H2, _, rfl, le1.trans le2, sub2.kept L6.kept, new1.trans Kb new2, nv2 _ _ _ _ _ _⟩
end Go.Proofs.YtgpfgcbolinncaaGreat.Abs
