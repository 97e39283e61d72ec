/- fold.Node. fold.Node, its second loop. -/
import Derived.Test.YtgpfgcbolinncaaG14
import Derived.Test.YtgpfgcbolinncaaL0
set_option linter.unusedVariables false
set_option linter.unusedSimpArgs false
namespace Go.Proofs.Ytgpfgcbolinncaa.Abs
open Go Go.RowKit

theorem Loc.rebase {s0 s : ST} {l : List LE} (L : Loc s0 s l) : ∃ b, Kept s0 b ∧ Loc b s l ∧ ∀ n, b.heap.find n = if n ∈ namesOf l then none else s.heap.find n := by
  have hst : ∀ m ∈ namesOf l, s.heap.st m = none := by
    intro m hm
    rw [L.kept.ext.st]
    exact (Heap.find_none_dyn (L.new m hm)).2
  have hf := fun n => Heap.find_hides hst n
  have E : Heap.Ext (s.heap.hides (namesOf l)) s.heap := by
    refine ⟨by simp, fun n hn => ?_⟩
    rw [hf] at hn
    rw [Heap.dyn_hides]
    split at hn
    · exact absurd rfl hn
    · rename_i h; rw [if_neg h]
  refine ⟨{ s with heap := s.heap.hides (namesOf l) }, ⟨⟨?_, ?_⟩, ?_, L.kept.base, L.kept.str, L.kept.ctr⟩, ⟨⟨E, L.free, rfl, rfl, Nat.le_refl _⟩, L.own, ?_, L.nodup⟩, hf⟩
  · simp [L.kept.ext.st]
  · intro n hn
    show (s.heap.hides (namesOf l)).dyn.get n = _
    rw [Heap.dyn_hides, if_neg (fun h => hn (L.new n h))]
    exact L.kept.ext.dyn n hn
  · exact free_of_ext E L.free
  · intro n hn
    show (s.heap.hides (namesOf l)).find n = none
    rw [hf, if_pos hn]
def HLe (H H2 : Heap) : Prop := ∀ n, H.find n ≠ none → H2.find n = H.find n
theorem HLe.trans {a b c : Heap} (h : HLe a b) (k : HLe b c) : HLe a c := fun n hn => by rw [k n (by rw [h n hn]; exact hn), h n hn]
/-- a row of nodes -/
structure Row (H : Heap) (us : List Tree) (c : List Value) : Prop where
  len : c.length = us.length * 7
  ok : c.all cellOk = true
  at_ : ∀ (i : Nat) (t : Tree), us[i]? = some t → NodeV H t (.agg ((c.drop (i * 7)).take 7).toArray)
theorem nodeCells_ok (op kind : Int) {sl : Value} (hs : cellOk sl = true) (vk bits pos attr : Int) : (nodeCells op kind sl vk bits pos attr).all cellOk = true := by
  simp only [nodeCells, List.all_cons, hs]; rfl
theorem Row.nil (H : Heap) : Row H [] [] := ⟨rfl, rfl, by simp⟩
theorem Row.up {H H2 : Heap} (h : HLe H H2) {us : List Tree} {c : List Value} (r : Row H us c) : Row H2 us c := ⟨r.len, r.ok, fun i t e => (r.at_ i t e).keep h⟩
theorem Row.snoc {H : Heap} {us : List Tree} {c : List Value} (r : Row H us c) {u : Tree} {op kind : Int} {sl : Value} {vk bits pos attr : Int} (h : NodeV H u (nodeVal op kind sl vk bits pos attr)) (hs : cellOk sl = true) : Row H (us ++ [u]) (c ++ nodeCells op kind sl vk bits pos attr) := by
  have hl := r.len
  refine ⟨by simp [hl, nodeCells]; omega, by rw [List.all_append, r.ok, nodeCells_ok _ _ hs]; rfl, fun i t e => ?_⟩
  by_cases hi : i < us.length
  · rw [List.getElem?_append_left hi] at e
    have := r.at_ i t e
    rw [List.drop_append_of_le_length (by omega), List.take_append_of_le_length (by simp; omega)]
    exact this
  · rw [List.getElem?_append_right (by omega)] at e
    have : i - us.length = 0 := by
      apply Classical.byContradiction
      intro hne
      rw [List.getElem?_eq_none (by simp; omega)] at e
      cases e
    rw [this] at e
    simp only [List.getElem?_cons_zero, Option.some.injEq] at e
    subst e
    have hi' : i = us.length := by omega
    subst hi'
    rw [← hl, List.drop_left]
    exact h
theorem elem27 : elemI Try.prog 27 = some ⟨7, 72⟩ := by kernel_rfl
theorem slice22 : sliceElem Try.prog 22 = some 27 := by kernel_rfl
theorem zeros27 : zerosL Try.prog 27 7 1 = some z27 := by kernel_rfl
theorem lit22 (op kind : Int) {sl : Value} (hs : cellOk sl = true) (vk bits pos attr : Int) : sliceCells Try.prog 27 7 1 [(0, nodeVal op kind sl vk bits pos attr)] = some (nodeCells op kind sl vk bits pos attr) := by
  unfold sliceCells
  simp [zeros27, z27, fillL, spliceL, known, cellsL, nodeVal, nodeCells, hs]
theorem storeTo22 (op kind : Int) (sl : Value) (vk bits pos attr : Int) {lv : Value} (h : cellOk lv = true) (hk : known lv = true) (hc : cellsL lv = [lv]) : storeTo Try.prog 22 (nodeCells op kind sl vk bits pos attr) 2 lv = some (nodeCells op kind lv vk bits pos attr) := by
  simp [storeTo, nodeCells, spliceL, h, hk, hc, ag22, sz22]
def NodeOk (t : Tree) : Prop := ∀ H v s, Sub H s → NodeV H t v → cnt t < 2 ^ 40 → Does Try.prog 4 #[v] s (fun r s' => Kept s s' ∧ ∃ H' u v', r = .ret v' ∧ HLe H H' ∧ Sub H' s' ∧ (∀ n, H'.find n ≠ none → H.find n = none → s.heap.find n = none) ∧ Folds t u ∧ NodeV H' u v')
theorem fn4 : fnOf Try.prog 4 = some ((Try.f4.body.getD .skip), Try.f4.ntmps, Try.f4.results) := rfl
set_option maxHeartbeats 4000000 in
theorem node_loop1 {args : List Tree} (ih : ∀ t ∈ args, NodeOk t) {H : Heap} {s0 s1 : ST} {sl : Value} {op kind vk bits pos attr : Int} {n1 n2 : Nat} (hf0 : s0.Free) (hH : Sub H s0) (hA : ArgsV H args sl)
    (L1 : Loc s0 s1 [.acc (.slice none 0 0) 7 27 [], .obj n2 (.cells z27 27), .obj n1 (.cells (nodeCells op kind sl vk bits pos attr) 27)]) (hc : (args.map cnt).sum < 2 ^ 40) {env : Trie Value}
    (h1 : env.get 1 = some (.pointer (some ⟨n1, 0, none⟩))) (h2 : env.get 2 = some (.pointer (some ⟨n2, 0, none⟩))) (h3 : env.get 3 = some (.slice none 0 0)) (h16 : env.get 16 = some sl) (h17 : env.get 17 = some (.int .i64 args.length)) (h18 : env.get 18 = some (.int .i64 0)) :
    wCode Try.prog (codeAt [true, true, true, false, true, false] (Try.f4.body.getD .skip)) ⟨45, env, []⟩ s1 (fun e f s' => e = .exit 0 ∧ ∃ env' H' us c b lv, f = ⟨45, env', []⟩ ∧ Kept s0 b ∧
      Loc b s' [.acc lv 7 27 c, .obj n2 (.cells z27 27), .obj n1 (.cells (nodeCells op kind sl vk bits pos attr) 27)] ∧ HLe H H' ∧ Sub H' b ∧ (∀ n, H'.find n ≠ none → H.find n = none → s0.heap.find n = none) ∧ Row H' us c ∧ us.length = args.length ∧
      (∀ (i : Nat) (t u : Tree), args[i]? = some t → us[i]? = some u → Folds t u) ∧ env'.get 1 = some (.pointer (some ⟨n1, 0, none⟩)) ∧ env'.get 2 = some (.pointer (some ⟨n2, 0, none⟩)) ∧ env'.get 3 = some lv) := by
  dsimp only [Try.f4, Option.getD_some, codeAt]
  have hlen := len_le_cnt args
  refine w_for (fun m fr s' => ∃ i env H' us c b lv, i + m = args.length ∧ fr = ⟨45, env, []⟩ ∧ Kept s0 b ∧
      Loc b s' [.acc lv 7 27 c, .obj n2 (.cells z27 27), .obj n1 (.cells (nodeCells op kind sl vk bits pos attr) 27)] ∧ HLe H H' ∧ Sub H' b ∧ (∀ n, H'.find n ≠ none → H.find n = none → s0.heap.find n = none) ∧ Row H' us c ∧ us.length = i ∧
      (∀ (i : Nat) (t u : Tree), args[i]? = some t → us[i]? = some u → Folds t u) ∧ env.get 1 = some (.pointer (some ⟨n1, 0, none⟩)) ∧ env.get 2 = some (.pointer (some ⟨n2, 0, none⟩)) ∧ env.get 3 = some lv ∧
      env.get 16 = some sl ∧ env.get 17 = some (.int .i64 args.length) ∧ env.get 18 = some (.int .i64 i)) (m := args.length) ?_ L1.free
    ⟨0, env, H, [], [], s0, _, by omega, rfl, Kept.refl hf0, L1, fun _ _ => rfl, hH, fun n h h0 => absurd h0 h, Row.nil H, rfl, by simp, h1, h2, h3, h16, h17, h18⟩
  rintro m fr s' f ⟨i, env, H1, us, c, b, lv, him, rfl, Kb, LL, le1, sub1, new1, row, hus, fo, h1, h2, h3, h16, h17, h18⟩
  by_cases hi : i < args.length
  · have hi' : (i : Int) < args.length := by omega
    obtain ⟨ad, op1, kind1, sl1, vk1, bits1, pos1, attr1, ha, hs1, hv1, hl1⟩ := arg_atH hH hA hi
    simp -dsimp [h16, h17, h18, hi', ha, hl1 _ (Kb.trans LL.kept)]
    refine x_alloc LL zero27 fun n5 s5 L5 => ?_
    simp -dsimp
    refine x_store L5 0 rfl (storeTo27 _ rfl _ _ hs1 _ _ _ _) fun s6 L6 => ?_
    simp -dsimp [h3, (fields L6 0 rfl).all]
    refine Does.mono (ih args[i] (List.getElem_mem hi) H1 _ s6 (sub1.kept L6.kept) (hv1.keep le1) (by have := cnt_mem (List.getElem_mem hi); omega)) ?_
    rintro _ s7 f7 ⟨K7, H7, u, v7, rfl, le7, sub7, new7, fo7, nv7⟩
    obtain ⟨b7, Kb7, L7, fb7⟩ := (L6.keep K7).rebase
    have sub7' : Sub H7 b7 := by
      intro n hn
      rw [fb7, if_neg, sub7 n hn]
      intro hm
      have hb : b.heap.find n = none := L6.new n hm
      have h1 : H1.find n = none := by
        apply Classical.byContradiction
        intro h
        exact h (by rw [← sub1 n h]; exact hb)
      have h6 := new7 n hn h1
      obtain ⟨z, hz, hnz⟩ := mem_namesOf.1 hm
      obtain ⟨o, ho⟩ := LE.owned (L6.own z hz) hnz
      rw [Own.find ho] at h6
      cases h6
    obtain ⟨op2, kind2, vk2, bits2, pos2, attr2, ts2, sl2, _, rfl, hA2⟩ := nv7.open_
    simp -dsimp
    refine x_buildSlice L7 slice22 sz27 (lit22 _ _ hA2.cell _ _ _ _) fun mm s8 L8 => ?_
    simp -dsimp
    have hrow : s8.heap.find mm = some (some (.cells (nodeCells op2 kind2 sl2 vk2 bits2 pos2 attr2) 27)) := Own.find (L8.at (i := 0) rfl)
    have hl := row.len
    refine x_append L8 2 (off := 0) (m := 1) (inf := ⟨7, 72⟩) rfl slice22 elem27 (by simp) hrow (by simp [nodeCells]) (by omega) (show List.all _ _ = true from nodeCells_ok op2 kind2 hA2.cell vk2 bits2 pos2 attr2) (by simp [hl]; omega) (by simp [hl]; omega) fun lv2 s9 L9 => ?_
    have w1 : wrapA .i64 ((i : Int) + 1) = (i : Int) + 1 := wrap_small (by omega) (by omega)
    simp -dsimp [h18, w1]
    refine Goal.mk ⟨m - 1, by omega, i + 1, _, H7, us ++ [u], c ++ nodeCells op2 kind2 sl2 vk2 bits2 pos2 attr2, b7, lv2, by omega, rfl, Kb.trans Kb7, ?_, le1.trans le7, sub7', ?_, (row.up le7).snoc nv7 hA2.cell, by simp [hus], ?_, ?_, ?_, ?_, ?_, ?_, ?_⟩
    · have := L9.sub (l' := [.acc lv2 7 27 (c ++ nodeCells op2 kind2 sl2 vk2 bits2 pos2 attr2), .obj n2 (.cells z27 27), .obj n1 (.cells (nodeCells op kind sl vk bits pos attr) 27)]) (by simp [nodeCells])
      exact this
    · intro n h7 h0
      by_cases hh : H1.find n = none
      · have h6 := new7 n h7 hh
        apply Classical.byContradiction
        intro hne
        have := (Kb.trans L6.kept).find hne
        rw [h6] at this
        exact hne this.symm
      · exact new1 n hh h0
    · intro j t u' hj hu
      by_cases hji : j < i
      · rw [List.getElem?_append_left (by omega)] at hu
        exact fo j t u' hj hu
      · rw [List.getElem?_append_right (by omega)] at hu
        have : j - us.length = 0 := by
          apply Classical.byContradiction
          intro hne
          rw [List.getElem?_eq_none (by simp; omega)] at hu
          cases hu
        rw [this] at hu
        simp only [List.getElem?_cons_zero, Option.some.injEq] at hu
        subst hu
        have : j = i := by omega
        subst this
        rw [List.getElem?_eq_getElem hi] at hj
        simp only [Option.some.injEq] at hj
        subst hj
        exact fo7
    all_goals simp [h1, h2, h16, h17]
  · have hi' : ¬ ((i : Int) < args.length) := by omega
    simp -dsimp [h17, h18, hi']
    exact ⟨H1, us, c, b, Kb, lv, LL, le1, sub1, new1, row, by omega, fo, h1, h2, h3⟩
end Go.Proofs.Ytgpfgcbolinncaa.Abs
set_option linter.unusedVariables false
set_option linter.unusedSimpArgs false
namespace Go.Proofs.Ytgpfgcbolinncaa.Abs
open Go Go.RowKit

def ruleAt (i : Nat) (t : Tree) (o : Option Tree) : Prop := (i = 0 ∧ ∃ a b, o = consts a b t) ∨ (i = 1 ∧ o = decided t) ∨ (i = 2 ∧ o = neutral t) ∨ (i = 3 ∧ o = twice t)
def NoneTo (i : Nat) (t : Tree) : Prop := (0 < i → ∃ a b, consts a b t = none) ∧ (1 < i → decided t = none) ∧ (2 < i → neutral t = none) ∧ (3 < i → twice t = none)
theorem consts_none {t : Tree} (h : ∃ a b, consts a b t = none) (a b : Int) : consts a b t = none := by
  obtain ⟨x, y, h⟩ := h
  cases t
  simp only [consts] at h ⊢
  split at h
  · cases h
  · rename_i hn; rw [if_neg hn]
theorem ruled_hit {i : Nat} {t x : Tree} (hr : ruleAt i t (some x)) (hn : NoneTo i t) : ∃ a b, ruled a b t = x := by
  rcases hr with ⟨rfl, a, b, h⟩ | ⟨rfl, h⟩ | ⟨rfl, h⟩ | ⟨rfl, h⟩
  · exact ⟨a, b, by simp [ruled, ← h]⟩
  · exact ⟨0, 0, by simp [ruled, ← h, consts_none (hn.1 (by omega))]⟩
  · exact ⟨0, 0, by simp [ruled, ← h, consts_none (hn.1 (by omega)), hn.2.1 (by omega)]⟩
  · exact ⟨0, 0, by simp [ruled, ← h, consts_none (hn.1 (by omega)), hn.2.1 (by omega), hn.2.2.1 (by omega)]⟩
theorem NoneTo.next {i : Nat} {t : Tree} (hr : ruleAt i t none) (hn : NoneTo i t) : NoneTo (i + 1) t := by
  rcases hr with ⟨rfl, a, b, h⟩ | ⟨rfl, h⟩ | ⟨rfl, h⟩ | ⟨rfl, h⟩
  · exact ⟨fun _ => ⟨a, b, h.symm⟩, by omega, by omega, by omega⟩
  · exact ⟨fun _ => hn.1 (by omega), fun _ => h.symm, by omega, by omega⟩
  · exact ⟨fun _ => hn.1 (by omega), fun _ => hn.2.1 (by omega), fun _ => h.symm, by omega⟩
  · exact ⟨fun _ => hn.1 (by omega), fun _ => hn.2.1 (by omega), fun _ => hn.2.2.1 (by omega), fun _ => h.symm⟩
theorem NoneTo.all {t : Tree} (hn : NoneTo 4 t) : ruled 0 0 t = t := by
  simp [ruled, consts_none (hn.1 (by omega)), hn.2.1 (by omega), hn.2.2.1 (by omega), hn.2.2.2 (by omega)]
def fvs : Value := .agg #[fv 13, fv 14, fv 15, fv 16]
theorem i0 : indexA Try.prog 34 fvs (.int .i64 ((0 : Nat) : Int)) = some (fv 13) := by kernel_rfl
theorem i1 : indexA Try.prog 34 fvs (.int .i64 ((1 : Nat) : Int)) = some (fv 14) := by kernel_rfl
theorem i2 : indexA Try.prog 34 fvs (.int .i64 ((2 : Nat) : Int)) = some (fv 15) := by kernel_rfl
theorem i3 : indexA Try.prog 34 fvs (.int .i64 ((3 : Nat) : Int)) = some (fv 16) := by kernel_rfl
theorem index34 {i : Nat} (hi : i < 4) : indexA Try.prog 34 fvs (.int .i64 i) = some (fv (13 + i)) := by
  match i, hi with
  | 0, _ => exact i0
  | 1, _ => exact i1
  | 2, _ => exact i2
  | 3, _ => exact i3
theorem rule_run {i : Nat} (hi : i < 4) {H : Heap} {t : Tree} {v : Value} {s : ST} (hH : Sub H s) (hv : NodeV H t v) (hc : cnt t < 2 ^ 40) (hne : t.args ≠ []) : Does Try.prog (13 + i) #[.agg #[], v] s (fun r s' => Kept s s' ∧ ∃ o v', r = .ret (.tuple #[v', .bool o.isSome]) ∧ NodeV H (o.getD t) v' ∧ ruleAt i t o) := by
  match i, hi with
  | 0, _ => exact Does.mono (constants_run hH hv hc hne) fun r s' _ ⟨K, a, b, v', h, n⟩ => ⟨K, _, v', h, n, .inl ⟨rfl, a, b, rfl⟩⟩
  | 1, _ => exact Does.mono (decided_run H t v s hH hv hc) fun r s' _ ⟨K, v', h, n⟩ => ⟨K, _, v', h, n, .inr (.inl ⟨rfl, rfl⟩)⟩
  | 2, _ => exact Does.mono (neutral_run H t v s hH hv hc) fun r s' _ ⟨K, v', h, n⟩ => ⟨K, _, v', h, n, .inr (.inr (.inl ⟨rfl, rfl⟩))⟩
  | 3, _ => exact Does.mono (twice_run H t v s hH hv hc) fun r s' _ ⟨K, v', h, n⟩ => ⟨K, _, v', h, n, .inr (.inr (.inr ⟨rfl, rfl⟩))⟩
set_option maxHeartbeats 4000000 in
theorem node_loop2 {H : Heap} {s0 s1 : ST} {lv : Value} {op kind vk bits pos attr : Int} {us : List Tree} {n1 n2 : Nat} (hH : Sub H s0) (hv : NodeV H (.mk op kind vk bits pos attr us) (nodeVal op kind lv vk bits pos attr)) (hne : us ≠ [])
    (hc : cnt (.mk op kind vk bits pos attr us) < 2 ^ 40)
    (L1 : Loc s0 s1 [.obj n2 (.cells z27 27), .obj n1 (.cells (nodeCells op kind lv vk bits pos attr) 27)]) {env : Trie Value}
    (h1 : env.get 1 = some (.pointer (some ⟨n1, 0, none⟩))) (h2 : env.get 2 = some (.pointer (some ⟨n2, 0, none⟩))) (h31 : env.get 31 = some fvs) (h32 : env.get 32 = some (.int .i64 0)) :
    wCode Try.prog (codeAt [true, true, true, true, true, false, true, false] (Try.f4.body.getD .skip)) ⟨45, env, []⟩ s1 (fun e f s' => ∃ env' u, f = ⟨45, env', []⟩ ∧ (∃ a b, u = ruled a b (.mk op kind vk bits pos attr us)) ∧ env'.get 2 = some (.pointer (some ⟨n2, 0, none⟩)) ∧
      ((e = .ret ∧ ∃ op kind sl vk bits pos attr, Loc s0 s' [.obj n2 (.cells (nodeCells op kind sl vk bits pos attr) 27)] ∧ NodeV H u (nodeVal op kind sl vk bits pos attr)) ∨
        (e = .exit 2 ∧ u = .mk op kind vk bits pos attr us ∧ env'.get 1 = some (.pointer (some ⟨n1, 0, none⟩)) ∧ Loc s0 s' [.obj n2 (.cells z27 27), .obj n1 (.cells (nodeCells op kind lv vk bits pos attr) 27)]))) := by
  dsimp only [Try.f4, Option.getD_some, codeAt]
  refine w_for (fun m fr s' => ∃ i env, i + m = 4 ∧ fr = ⟨45, env, []⟩ ∧ Loc s0 s' [.obj n2 (.cells z27 27), .obj n1 (.cells (nodeCells op kind lv vk bits pos attr) 27)] ∧ NoneTo i (.mk op kind vk bits pos attr us) ∧
      env.get 1 = some (.pointer (some ⟨n1, 0, none⟩)) ∧ env.get 2 = some (.pointer (some ⟨n2, 0, none⟩)) ∧ env.get 31 = some fvs ∧ env.get 32 = some (.int .i64 i)) (m := 4) ?_ L1.free
    ⟨0, env, by omega, rfl, L1, ⟨by omega, by omega, by omega, by omega⟩, h1, h2, h31, h32⟩
  rintro m fr s' f ⟨i, env, him, rfl, LL, hn, h1, h2, h31, h32⟩
  by_cases hi : i < 4
  · have hi' : (i : Int) < 4 := by omega
    have F := fields LL 1 rfl
    have R := rule_run hi (hH.kept LL.kept) hv hc hne
    simp -dsimp [h31, h32, hi', index34 hi, fv, h1, F.all]
    refine Does.mono R ?_
    rintro _ s3 f3 ⟨K3, o, v', rfl, nv, hr⟩
    obtain ⟨op2, kind2, vk2, bits2, pos2, attr2, ts2, sl2, e2, rfl, hA2⟩ := nv.open_
    simp -dsimp [extractA]
    refine x_alloc (LL.keep K3) zero27 fun n8 s4 L4 => ?_
    simp -dsimp
    refine x_store L4 0 rfl (storeTo27 _ rfl _ _ hA2.cell _ _ _ _) fun s5 L5 => ?_
    have F5 := fields L5 0 rfl
    cases o with
    | some x =>
      simp -dsimp [F5.all, h2]
      refine x_store L5 1 rfl (storeTo27 _ rfl _ _ hA2.cell _ _ _ _) fun s6 L6 => ?_
      simp -dsimp [h2]
      obtain ⟨a, b, e⟩ := ruled_hit hr hn
      exact ⟨x, ⟨a, b, e.symm⟩, _, _, _, _, _, _, _, L6.sub (by simp), nv⟩
    | none =>
      have w1 : wrapA .i64 ((i : Int) + 1) = (i : Int) + 1 := wrap_small (by omega) (by omega)
      simp -dsimp [h32, w1]
      refine Goal.mk ⟨m - 1, by omega, i + 1, _, by omega, rfl, L5.sub (by simp), hn.next hr, ?_, ?_, ?_, ?_⟩
      all_goals simp [h1, h2, h31]
  · have hi' : ¬ ((i : Int) < 4) := by omega
    have h4 : i = 4 := by omega
    subst h4
    simp -dsimp [h32, hi']
    exact ⟨_, ⟨0, 0, hn.all.symm⟩, h2, rfl, h1, LL⟩
theorem build36 : buildA Try.prog 36 [] = some (.agg #[]) := by kernel_rfl
set_option maxHeartbeats 4000000 in
theorem node_run (t : Tree) : NodeOk t := by
  induction t using Tree.ind with
  | h op kind vk bits pos attr args ih =>
    intro H v s hH hv hc
    refine Does.pre fun hf => ?_
    obtain ⟨_, _, _, _, _, _, _, sl, e, rfl, hA⟩ := hv.open_
    cases e
    have hc' := hc
    rw [cnt_eq] at hc'
    refine Does.code known0 fn4 [] (by kernel_rfl) ?_
    dsimp only [Try.f4, Option.getD_some, undraw, noId, cond_true, cond_false, frOf]
    have loop1 := @node_loop1 args ih H s
    have loop2 := @node_loop2
    dsimp only [Try.f4, Option.getD_some, codeAt] at loop1 loop2
    simp -dsimp [envOf]
    refine x_box (Loc.nil hf) (by rfl) fun n1 s1 L1 => ?_
    simp -dsimp
    refine x_alloc L1 zero27 fun n2 s2 L2 => ?_
    have F := fields L2 1 rfl
    by_cases h0 : args = []
    · subst h0
      have hl := hA.len
      simp only [List.length_nil] at hl
      simp -dsimp [fieldAddrA, F.f2, hl, F.all]
      refine x_store L2 0 rfl (storeTo27 _ rfl _ _ hA.cell _ _ _ _) fun s3 L3 => ?_
      simp -dsimp [(fields L3 0 rfl).all]
      exact ⟨L3.kept, H, fun _ _ => rfl, hH.kept L3.kept, fun n h h0 => absurd h0 h, _, .leaf _ _ _ _ _ _, hv⟩
    · have hlen : args.length ≠ 0 := fun h => h0 (List.eq_nil_of_length_eq_zero h)
      have hl0 : ((args.length : Int) == 0) = false := by simp [h0]
      simp -dsimp [fieldAddrA, F.f2, hA.len, hl0]
      have L3 : Loc s s2 [.acc (.slice none 0 0) 7 27 [], .obj n2 (.cells z27 27), .obj n1 (.cells (nodeCells op kind sl vk bits pos attr) 27)] := by
        exact (L2.nils [.acc (.slice none 0 0) 7 27 []] (by simp [LE.holds, LE.names])).perm (List.perm_append_comm (l₁ := [LE.obj n2 (.cells z27 27), .obj n1 (.cells (nodeCells op kind sl vk bits pos attr) 27)]) (l₂ := [.acc (.slice none 0 0) 7 27 []]))
      refine w_mono L2.free (loop1 hf hH hA L3 (by omega) (by simp) (by simp) (by simp) (by simp) (by simp) (by simp)) ?_
      rintro _ _ s3 f3 ⟨rfl, env', H1, us, c, b, lv, rfl, Kb, L3, le1, sub1, new1, row, hus, fo, h1, h2, h3⟩
      have une : us ≠ [] := by rintro rfl; exact hlen (by simpa using hus.symm)
      rcases L3.at (i := 0) rfl with ⟨_, hc0⟩ | ⟨n, m, rfl, hcl, hm, ho⟩
      · exfalso
        have := row.len
        rw [hc0] at this
        simp only [List.length_nil] at this
        exact une (List.eq_nil_of_length_eq_zero (by omega))
      have hmu : m = us.length := by have := row.len; omega
      simp -dsimp [h3, h1, fieldAddrA]
      refine x_store L3 2 rfl (storeTo22 _ _ _ _ _ _ _ rfl rfl rfl) fun s4 L4 => ?_
      simp -dsimp [build36]
      refine Does.mono (rules_run s4) ?_
      rintro _ s5 f5 ⟨K5, rfl⟩
      simp -dsimp
      have L5 := L4.keep K5
      obtain ⟨b6, Kb6, L6, fb6⟩ := (L5.sub (l' := [.obj n2 (.cells z27 27), .obj n1 (.cells (nodeCells op kind (.slice (some ⟨n, 0, none⟩) m 7) vk bits pos attr) 27)]) (by simp)).rebase
      have hbn : b.heap.find n = none := L3.new n (by simp [namesOf, LE.names])
      have h1n : H1.find n = none := by
        apply Classical.byContradiction
        intro h
        exact h (by rw [← sub1 n h]; exact hbn)
      have ho5 : Own s5 n (.cells c 27) := by
        rcases L5.at (i := 0) rfl with ⟨h, _⟩ | ⟨n', m', h, _, _, ho'⟩
        · cases h
        · cases h; exact ho'
      have le2 : HLe H1 (H1.set n (some (.cells c 27))) := fun k hk => by
        rw [Heap.find_set, if_neg]
        rintro rfl
        exact hk h1n
      have sub2 : Sub (H1.set n (some (.cells c 27))) b6 := by
        intro k hk
        rw [Heap.find_set] at hk ⊢
        split
        · rename_i hkn
          subst hkn
          rw [fb6, if_neg]
          · exact Own.find ho5
          · have := L5.nodup
            simp [namesOf, LE.names] at this ⊢
            exact this.1
        · rename_i hkn
          rw [if_neg hkn] at hk
          rw [Kb6.find (by rw [sub1 k hk]; exact hk), sub1 k hk]
      have nv2 : NodeV (H1.set n (some (.cells c 27))) (.mk op kind vk bits pos attr us) (nodeVal op kind (.slice (some ⟨n, 0, none⟩) m 7) vk bits pos attr) := by
        refine .mk op kind vk bits pos attr us _ n 0 7 c 27 (.inr (by rw [hmu])) (fun _ => by rw [Heap.find_set, if_pos rfl]) (fun i hi => by have := row.len; omega) fun i t ht => ?_
        rw [Nat.zero_add]
        exact (row.at_ i t ht).keep le2
      have hcu : cnt (.mk op kind vk bits pos attr us) < 2 ^ 40 := by
        rw [cnt_eq]
        have := sum_le hus fun i t u ht hu => folds_cnt (fo i t u ht hu)
        omega
      have new2 : ∀ k, (H1.set n (some (.cells c 27))).find k ≠ none → H.find k = none → s.heap.find k = none := by
        intro k hk h0
        rw [Heap.find_set] at hk
        split at hk
        · rename_i hkn
          subst hkn
          apply Classical.byContradiction
          intro hne
          rw [← Kb.find hne] at hne
          exact hne hbn
        · exact new1 k hk h0
      refine w_mono L6.free (loop2 sub2 nv2 une hcu L6 (by simp [h1]) (by simp [h2]) (by simp [fvs]) (by simp)) ?_
      rintro _ _ s6 f6 ⟨env'', u, rfl, ⟨a, b', hu⟩, h2, ⟨rfl, op', kind', sl', vk', bits', pos', attr', L7, nv⟩ | ⟨rfl, hu2, h1, L7⟩⟩
      · simp -dsimp [h2, (fields L7 0 rfl).all]
        exact ⟨Kb.trans (Kb6.trans L7.kept), _, le1.trans le2, sub2.kept L7.kept, new2, u, hu ▸ .node op kind vk bits pos attr args us a b' h0 hus fo, nv⟩
      · simp -dsimp [h2, h1, (fields L7 1 rfl).all]
        refine x_store L7 0 rfl (storeTo27 _ rfl _ _ rfl _ _ _ _) fun s8 L8 => ?_
        simp -dsimp [h2, (fields L8 0 rfl).all]
        exact ⟨Kb.trans (Kb6.trans L8.kept), _, le1.trans le2, sub2.kept L8.kept, new2, u, hu ▸ .node op kind vk bits pos attr args us a b' h0 hus fo, hu2 ▸ nv2⟩
end Go.Proofs.Ytgpfgcbolinncaa.Abs
