/- ref25.Chain: conditions as one, by definition. -/
import Derived.Test.YtgpfgcbolinncaaGreatZ9
set_option linter.unusedVariables false
set_option linter.unusedSimpArgs false
namespace Go.Proofs.YtgpfgcbolinncaaGreat.Abs
open Go Go.RowKit

theorem fn6 : fnOf Tryz.prog 6 = some ((Tryz.f6.body.getD .skip), Tryz.f6.ntmps, Tryz.f6.results) := by kernel_rfl
theorem ListV.last {H : Heap} {t : Tree} {sl : Value} (h : ListV H [t] sl) (hcut : Cut [t] sl) : ∃ n off cs c e op kind sl' vk bits pos attr, sl = .slice (some ⟨n, off, none⟩) 1 cs ∧ H.find n = some (some (.cells c e)) ∧ off + 7 ≤ c.length ∧
    (c.drop off).take 7 = nodeCells op kind sl' vk bits pos attr ∧ NodeV H t (nodeVal op kind sl' vk bits pos attr) ∧ cellOk sl' = true := by
  obtain ⟨n, off, cs, rfl, _⟩ := hcut (by simp)
  have h := h 0 0 0 0 0 0
  generalize hv : nodeVal 0 0 (.slice (some ⟨n, off, none⟩) [t].length cs) 0 0 0 0 = v at h
  cases h with
  | mk op2 kind2 vk2 bits2 pos2 attr2 _ sl2 n2 off2 cs2 c e hs hc hl ht =>
    have e1 : (.slice (some ⟨n, off, none⟩) [t].length cs : Value) = sl2 := by
      simp only [nodeVal, Value.agg.injEq, Array.mk.injEq, List.cons.injEq] at hv
      exact hv.2.2.1
    subst e1
    rcases hs with ⟨k, he, _⟩ | he
    · cases he
    · cases he
      have h0 := ht 0 t rfl
      have h1 := hl 0 (by simp)
      rw [Nat.zero_mul, Nat.add_zero] at h0 h1
      obtain ⟨op, kind, vk, bits, pos, attr, ts', sl', eT, eV, hA'⟩ := h0.open_
      have eC : (c.drop off).take 7 = nodeCells op kind sl' vk bits pos attr := by
        simp only [nodeVal, Value.agg.injEq] at eV
        have := congrArg Array.toList eV
        simpa [nodeCells] using this
      rw [eV] at h0
      exact ⟨n, off, cs, c, e, op, kind, sl', vk, bits, pos, attr, rfl, hc (by simp), h1, eC, h0, hA'.cell⟩
/-- what is one's own meanwhile -/
def rowE (L1 L8 : Bool) (v1 v8 : Value) (cur new : List Value) : List LE := if L8 = true then [.acc v8 7 27 (cur ++ new)] else if L1 = true then [.acc v1 7 27 cur] else []
structure InvD (s0 : ST) (H1 : Heap) (X : Tree) (n2 n4 : Nat) (cur : List Value) (curV sl : Value) (len : Int) (v6 : Value) (L : Nat → Bool) (vals : Nat → Value) (s : ST) : Prop where
  v0 : L 0 = true → vals 0 = curV
  v1 : L 1 = true → ∃ m, vals 1 = .slice (some ⟨m, 0, none⟩) 1 7
  v2 : L 2 = true → vals 2 = sl
  v3 : L 3 = true → vals 3 = sl
  v4 : L 4 = true → vals 4 = .int .i64 len
  v5 : L 5 = true → vals 5 = .int .i64 (len - 1)
  v6 : L 6 = true → vals 6 = v6
  o1 : L 1 = true → L 0 = true
  o8 : L 8 = true → L 7 = true ∧ L 1 = true
  o9 : L 9 = true → L 8 = true
  o10 : L 10 = true → L 9 = true
  v9 : L 9 = true → vals 9 = nodeVal 13 2 (vals 8) 0 0 0 0
  v11 : L 11 = true → vals 11 = .bool true
  mem : ∃ b H2 new, Kept s0 b ∧ HLe H1 H2 ∧ Sub H2 b ∧ NewTo H1 H2 s0 ∧ (L 7 = true → ListV H2 [X] (vals 7) ∧ Cut [X] (vals 7)) ∧
    (L 8 = true → ∃ m op kind sl' vk bits pos attr, vals 8 = .slice (some ⟨m, 0, none⟩) 2 7 ∧ new = nodeCells op kind sl' vk bits pos attr ∧ NodeV H2 X (nodeVal op kind sl' vk bits pos attr) ∧ cellOk sl' = true) ∧
    Loc b s (rowE (L 1) (L 8) (vals 1) (vals 8) cur new ++ [.obj n4 (.cells cur 27), .obj n2 (.cells (if L 10 = true then nodeCells 13 2 (vals 8) 0 0 0 0 else z27) 27)])
def dSpec (curV sl : Value) (len : Int) (v6 : Value) : Nat → Option Value
  | 0 => some curV
  | 2 => some sl
  | 3 => some sl
  | 4 => some (.int .i64 len)
  | 5 => some (.int .i64 (len - 1))
  | 6 => some v6
  | 11 => some (.bool true)
  | _ => none
theorem upd_ne {L : Nat → Bool} {i j : Nat} (h : j ≠ i) : updB L i j = L j := by simp [updB, h]
theorem updV_ne {vals : Nat → Value} {i j : Nat} {v : Value} (h : j ≠ i) : updV vals i v j = vals j := by simp [updV, h]
theorem upd_same (L : Nat → Bool) (i : Nat) : updB L i i = true := by simp [updB]
theorem updV_same (vals : Nat → Value) (i : Nat) (v : Value) : updV vals i v i = v := by simp [updV]
section
variable {s0 : ST} {H1 : Heap} {X : Tree} {n2 n4 : Nat} {cur : List Value} {curV sl : Value} {len : Int} {v6 : Value} {L : Nat → Bool} {vals : Nat → Value} {s : ST}
/-- an operation without memory -/
theorem InvD.pure (I : InvD s0 H1 X n2 n4 cur curV sl len v6 L vals s) {i : Nat} {v : Value} (h1 : i ≠ 1) (h7 : i ≠ 7) (h8 : i ≠ 8) (h10 : i ≠ 10) (k9 : i = 9 → L 8 = true ∧ v = nodeVal 13 2 (vals 8) 0 0 0 0)
    (hv : ∀ w, dSpec curV sl len v6 i = some w → v = w) : InvD s0 H1 X n2 n4 cur curV sl len v6 (updB L i) (updV vals i v) s := by
  have val : ∀ {j : Nat} {w : Value}, (L j = true → vals j = w) → dSpec curV sl len v6 j = some w → (updB L i j = true → updV vals i v j = w) := by
    intro j w h1 h2 h
    by_cases e : j = i
    · subst e; rw [updV_same]; exact hv w h2
    · rw [upd_ne e] at h; rw [updV_ne e]; exact h1 h
  have ge : ∀ j, L j = true → updB L i j = true := fun j h => by
    by_cases e : j = i
    · subst e; exact upd_same _ _
    · rw [upd_ne e]; exact h
  have e1 : (1 : Nat) ≠ i := Ne.symm h1
  have e7 : (7 : Nat) ≠ i := Ne.symm h7
  have e8 : (8 : Nat) ≠ i := Ne.symm h8
  have e10 : (10 : Nat) ≠ i := Ne.symm h10
  refine ⟨val I.v0 rfl, ?_, val I.v2 rfl, val I.v3 rfl, val I.v4 rfl, val I.v5 rfl, val I.v6 rfl, ?_, ?_, ?_, ?_, ?_, val I.v11 rfl, ?_⟩
  · rw [upd_ne e1, updV_ne e1]; exact I.v1
  · rw [upd_ne e1]; intro h; exact ge _ (I.o1 h)
  · rw [upd_ne e8]; intro h; exact ⟨ge _ (I.o8 h).1, ge _ (I.o8 h).2⟩
  · intro h
    rw [upd_ne e8]
    by_cases e : (9 : Nat) = i
    · exact (k9 e.symm).1
    · rw [upd_ne e] at h; exact I.o9 h
  · rw [upd_ne e10]; intro h; exact ge _ (I.o10 h)
  · intro h
    rw [updV_ne e8]
    by_cases e : (9 : Nat) = i
    · subst e; rw [updV_same]; exact (k9 rfl).2
    · rw [upd_ne e] at h; rw [updV_ne e]; exact I.v9 h
  · rw [upd_ne e1, upd_ne e7, upd_ne e8, upd_ne e10, updV_ne e1, updV_ne e7, updV_ne e8]
    exact I.mem
end
theorem lit22one (op kind : Int) {sl : Value} (hs : cellOk sl = true) (vk bits pos attr : Int) : sliceCells Tryz.prog 27 7 1 [(0, nodeVal op kind sl vk bits pos attr)] = some (nodeCells op kind sl vk bits pos attr) := lit22 op kind hs vk bits pos attr
set_option maxHeartbeats 8000000 in
set_option maxRecDepth 10000 in
theorem chain2_draw {s0 b0 s : ST} {H1 : Heap} {X : Tree} {n2 n4 : Nat} {op1 kind1 vk1 bits1 pos1 attr1 : Int} {sl1 sl v6 : Value} {len : Nat} (hf : s.Free) (hs1 : cellOk sl1 = true) (Kb : Kept s0 b0)
    (L0 : Loc b0 s [.obj n4 (.cells (nodeCells op1 kind1 sl1 vk1 bits1 pos1 attr1) 27), .obj n2 (.cells z27 27)]) (sub1 : Sub H1 b0) (hX : ListV H1 [X] v6) (hlen : lenA Tryz.prog 22 sl = some (.int .i64 len)) (hl2 : (len : Int) < 2 ^ 42) (hl1 : 1 ≤ len)
    (hcut : sliceA Tryz.prog 22 sl (some (.int .i64 ((len : Int) - 1))) none none = some v6) (hc : Fit X)
    {env : Trie Value} (e0 : env.get 0 = some sl) (e2 : env.get 2 = some (.pointer (some ⟨n2, 0, none⟩))) (e4 : env.get 4 = some (.pointer (some ⟨n4, 0, none⟩))) {Q : SR → ST → Prop}
    (hnext : ∀ env' s' b H2 m op' kind' sl' vk' bits' pos' attr', env'.get 2 = env.get 2 → env'.get 3 = some (.bool true) → Kept s0 b → HLe H1 H2 → Sub H2 b → NewTo H1 H2 s0 → cellOk sl' = true → NodeV H2 X (nodeVal op' kind' sl' vk' bits' pos' attr') →
      Loc b s' [.acc (.slice (some ⟨m, 0, none⟩) 2 7) 7 27 (nodeCells op1 kind1 sl1 vk1 bits1 pos1 attr1 ++ nodeCells op' kind' sl' vk' bits' pos' attr'), .obj n4 (.cells (nodeCells op1 kind1 sl1 vk1 bits1 pos1 attr1) 27), .obj n2 (.cells (nodeCells 13 2 (.slice (some ⟨m, 0, none⟩) 2 7) 0 0 0 0) 27)] → Q (.next ⟨36, env', []⟩) s') :
    wDraw Tryz.prog (opsOf (codeAt [true, true, true, true, false] (Tryz.f6.body.getD .skip))).toArray ⟨36, env, []⟩ s Q := by
  dsimp only [Tryz.f6, Option.getD_some, codeAt, opsOf]
  refine w_draw [[], [(0, 26)], [], [], [(3, 29)], [(4, 30)], [(2, 28), (5, 31)], [(6, 32)], [(1, 27), (7, 33)], [(8, 34)], [(9, 35)], []] [(0, 26), (1, 27), (2, 28), (3, 29), (4, 30), (5, 31), (6, 32), (7, 33), (8, 34), (9, 35), (11, 3)] (by kernel_rfl)
    (InvD s0 H1 X n2 n4 (nodeCells op1 kind1 sl1 vk1 bits1 pos1 attr1) (nodeVal op1 kind1 sl1 vk1 bits1 pos1 attr1) sl len v6) (fun _ _ => False) ?_ hf ?_ ?_ ?_
  · have no : ∀ {p : Prop}, (false = true) → p := fun h => absurd h (by simp)
    exact ⟨no, no, no, no, no, no, no, no, no, no, no, no, no, b0, H1, [], Kb, fun _ _ => rfl, sub1, NewTo.refl _ _, no, no, by simpa [rowE] using L0⟩
  · refine ⟨?_, ?_, ?_, ?_, ?_, ?_, ?_, ?_, ?_, ?_, ?_, ?_, trivial⟩
    · rintro L vals s' f I hi hd
      have h8 : L 8 = false := by cases h : L 8 with | false => rfl | true => rw [I.o1 (I.o8 h).2] at hi; cases hi
      obtain ⟨b, H2, new, K, le, sub, nw, h7, hh8, LL⟩ := I.mem
      have hl4 : loadA Tryz.prog 27 (.pointer (some ⟨n4, 0, none⟩)) s' = some (nodeVal op1 kind1 sl1 vk1 bits1 pos1 attr1, s') := by
        cases h1 : L 1 with
        | true => simp only [rowE, h8, h1, Bool.false_eq_true, if_false, if_true, List.cons_append, List.nil_append] at LL; exact load27_of LL 1 rfl
        | false => simp only [rowE, h8, h1, Bool.false_eq_true, if_false, List.nil_append] at LL; exact load27_of LL 0 rfl
      simp -dsimp [setE, e4, hl4]
      exact SRv.put (by decide) (I.pure (by decide) (by decide) (by decide) (by decide) (fun h => absurd h (by decide)) (fun w h => by cases h; rfl))
    · rintro L vals s' f I hi hd
      simp only [allL, and_true] at hd
      have h8 : L 8 = false := by cases h : L 8 with | false => rfl | true => rw [(I.o8 h).2] at hi; cases hi
      have h9 : L 9 = false := by cases h : L 9 with | false => rfl | true => rw [I.o9 h] at h8; cases h8
      have h10 : L 10 = false := by cases h : L 10 with | false => rfl | true => rw [I.o10 h] at h9; cases h9
      obtain ⟨b, H2, new, K, le, sub, nw, h7, hh8, LL⟩ := I.mem
      simp only [rowE, h8, hi, h10, Bool.false_eq_true, if_false, List.nil_append] at LL
      simp -dsimp [setE, I.v0 hd]
      refine x_buildSlice LL slice22 sz27 (lit22one _ _ hs1 _ _ _ _) fun mm s8 L8 => ?_
      simp -dsimp [setE, I.v0 hd]
      refine SRv.put (by decide) ⟨?_, ?_, ?_, ?_, ?_, ?_, ?_, ?_, ?_, ?_, ?_, ?_, ?_, ?_⟩
      · simpa [updB, updV] using I.v0
      · intro _; exact ⟨mm, by simp [updV]⟩
      · simpa [updB, updV] using I.v2
      · simpa [updB, updV] using I.v3
      · simpa [updB, updV] using I.v4
      · simpa [updB, updV] using I.v5
      · simpa [updB, updV] using I.v6
      · intro _; simpa [updB] using hd
      · simp [updB, h8]
      · simp [updB, h9]
      · simp [updB, h10]
      · simp [updB, h9]
      · simpa [updB, updV] using I.v11
      · refine ⟨b, H2, new, K, le, sub, nw, by simpa [updB, updV] using h7, by simp [updB, h8], ?_⟩
        have := L8.toAcc (m := 1) (by simp [nodeCells]) (by omega)
        simpa [rowE, updB, updV, h8, h10] using this
    · rintro L vals s' f I hi hd
      simp -dsimp [setE, e0]
      exact SRv.put (by decide) (I.pure (by decide) (by decide) (by decide) (by decide) (fun h => absurd h (by decide)) (fun w h => by cases h; rfl))
    · rintro L vals s' f I hi hd
      simp -dsimp [setE, e0]
      exact SRv.put (by decide) (I.pure (by decide) (by decide) (by decide) (by decide) (fun h => absurd h (by decide)) (fun w h => by cases h; rfl))
    · rintro L vals s' f I hi hd
      simp only [allL, and_true] at hd
      simp -dsimp [setE, I.v3 hd, hlen]
      exact SRv.put (by decide) (I.pure (by decide) (by decide) (by decide) (by decide) (fun h => absurd h (by decide)) (fun w h => by cases h; rfl))
    · rintro L vals s' f I hi hd
      simp only [allL, and_true] at hd
      have w1 : wrapA .i64 ((len : Int) - 1) = (len : Int) - 1 := wrap_small (by omega) (by omega)
      simp -dsimp [setE, I.v4 hd, w1]
      exact SRv.put (by decide) (I.pure (by decide) (by decide) (by decide) (by decide) (fun h => absurd h (by decide)) (fun w h => by cases h; rfl))
    · rintro L vals s' f I hi hd
      simp only [allL, and_true] at hd
      simp -dsimp [setE, I.v2 hd.1, I.v5 hd.2, hcut]
      exact SRv.put (by decide) (I.pure (by decide) (by decide) (by decide) (by decide) (fun h => absurd h (by decide)) (fun w h => by cases h; rfl))
    · rintro L vals s' f I hi hd
      simp only [allL, and_true] at hd
      have h8 : L 8 = false := by cases h : L 8 with | false => rfl | true => rw [(I.o8 h).1] at hi; cases hi
      have h9 : L 9 = false := by cases h : L 9 with | false => rfl | true => rw [I.o9 h] at h8; cases h8
      have h10 : L 10 = false := by cases h : L 10 with | false => rfl | true => rw [I.o10 h] at h9; cases h9
      obtain ⟨b, H2, new, K, le, sub, nw, h7, hh8, LL⟩ := I.mem
      simp -dsimp [setE, I.v6 hd]
      refine Does.mono (twins_run (.mk 0 0 0 0 0 0 [X]) _ _ _ _ _ _ _ rfl H2 _ s' (sub.kept LL.kept) (hX.keep le) ⟨by simp, by simpa using hc⟩) ?_
      rintro _ s7 f7 ⟨K7, H7, v7, rfl, le7, sub7, new7, nv7, ct7⟩
      obtain ⟨b7, Kb7, L7, fb7⟩ := (LL.keep K7).rebase
      have sub7' : Sub H7 b7 := Sub.base LL sub new7 sub7 fb7
      simp -dsimp [setE, I.v6 hd]
      refine SRv.put (by decide) ⟨?_, ?_, ?_, ?_, ?_, ?_, ?_, ?_, ?_, ?_, ?_, ?_, ?_, ?_⟩
      · simpa [updB, updV] using I.v0
      · simpa [updB, updV] using I.v1
      · simpa [updB, updV] using I.v2
      · simpa [updB, updV] using I.v3
      · simpa [updB, updV] using I.v4
      · simpa [updB, updV] using I.v5
      · simpa [updB, updV] using I.v6
      · simpa [updB, updV] using I.o1
      · simp [updB, h8]
      · simp [updB, h9]
      · simp [updB, h10]
      · simp [updB, h9]
      · simpa [updB, updV] using I.v11
      · refine ⟨b7, H7, new, K.trans Kb7, le.trans le7, sub7', nw.trans (K.trans LL.kept) new7, fun _ => ?_, by simp [updB, h8], ?_⟩
        · rw [updV_same]; exact ⟨nv7, ct7⟩
        · simpa [updB, updV] using L7
    · rintro L vals s' f I hi hd
      simp only [allL, and_true] at hd
      have h9 : L 9 = false := by cases h : L 9 with | false => rfl | true => rw [I.o9 h] at hi; cases hi
      have h10 : L 10 = false := by cases h : L 10 with | false => rfl | true => rw [I.o10 h] at h9; cases h9
      obtain ⟨b, H2, new, K, le, sub, nw, h7, hh8, LL⟩ := I.mem
      obtain ⟨m1, hm1⟩ := I.v1 hd.1
      obtain ⟨n, off, cs, c, e, op', kind', sl', vk', bits', pos', attr', hv7, hfn, hol, hrow, hnv, hsc⟩ := (h7 hd.2).1.last (h7 hd.2).2
      simp only [rowE, hi, hd.1, h10, Bool.false_eq_true, if_false, if_true, List.cons_append, List.nil_append, hm1] at LL
      have hfs : s'.heap.find n = some (some (.cells c e)) := by rw [(sub.kept LL.kept) n (by rw [hfn]; simp), hfn]
      simp -dsimp [setE, hm1, hv7]
      refine x_append LL 0 (off := off) (m := 1) (inf := ⟨7, 72⟩) rfl slice22 elem27 (by simp) hfs (by omega) (by omega) (show List.all ((c.drop off).take 7) _ = true by rw [hrow]; exact nodeCells_ok _ _ hsc _ _ _ _) (by simp [nodeCells]) (by simp [nodeCells]) fun lv2 s9 L9 => ?_
      rw [show (c.drop off).take (1 * 7) = nodeCells op' kind' sl' vk' bits' pos' attr' from hrow] at L9
      have hlv : ∃ m2, lv2 = .slice (some ⟨m2, 0, none⟩) 2 7 := by
        rcases L9.at (i := 0) rfl with ⟨_, hc0⟩ | ⟨n', m', h, hcl, _, _⟩
        · simp [nodeCells] at hc0
        · simp [nodeCells] at hcl
          exact ⟨n', by rw [h]; congr 1; omega⟩
      obtain ⟨m2, rfl⟩ := hlv
      simp -dsimp [setE, hm1, hv7]
      refine SRv.put (by decide) ⟨?_, ?_, ?_, ?_, ?_, ?_, ?_, ?_, ?_, ?_, ?_, ?_, ?_, ?_⟩
      · simpa [updB, updV] using I.v0
      · simpa [updB, updV] using I.v1
      · simpa [updB, updV] using I.v2
      · simpa [updB, updV] using I.v3
      · simpa [updB, updV] using I.v4
      · simpa [updB, updV] using I.v5
      · simpa [updB, updV] using I.v6
      · simpa [updB, updV] using I.o1
      · intro _; simpa [updB] using And.intro hd.2 hd.1
      · simp [updB, h9]
      · simp [updB, h10]
      · simp [updB, h9]
      · simpa [updB, updV] using I.v11
      · refine ⟨b, H2, nodeCells op' kind' sl' vk' bits' pos' attr', K, le, sub, nw, by simpa [updB, updV] using h7, fun _ => ⟨m2, op', kind', sl', vk', bits', pos', attr', by simp [updV], rfl, hnv, hsc⟩, ?_⟩
        simpa [rowE, updB, updV, h10] using L9
    · rintro L vals s' f I hi hd
      simp only [allL, and_true] at hd
      obtain ⟨b, H2, new, K, le, sub, nw, h7, h8, LL⟩ := I.mem
      obtain ⟨m, op', kind', sl', vk', bits', pos', attr', hv8, _⟩ := h8 hd
      simp -dsimp [setE, hv8, build27]
      refine SRv.put (by decide) (I.pure (by decide) (by decide) (by decide) (by decide) (fun _ => ⟨hd, by rw [hv8]⟩) (fun w h => by cases h))
    · rintro L vals s' f I hi hd
      simp only [allL, and_true] at hd
      have h8 := I.o9 hd
      obtain ⟨b, H2, new, K, le, sub, nw, h7, hh8, LL⟩ := I.mem
      obtain ⟨m, op', kind', sl', vk', bits', pos', attr', hv8, hnew, hn, hc'⟩ := hh8 h8
      have hv9 := I.v9 hd
      rw [hv8] at hv9
      simp only [rowE, h8, hi, Bool.false_eq_true, if_false, if_true, List.cons_append, List.nil_append, hv8] at LL
      simp -dsimp [setE, e2, hv9]
      refine x_store LL 2 rfl (storeTo27 _ rfl _ _ rfl _ _ _ _) fun s2 L2 => ?_
      simp -dsimp [setE, e2, hv9]
      refine SRv.skip undef ⟨?_, ?_, ?_, ?_, ?_, ?_, ?_, ?_, ?_, ?_, ?_, ?_, ?_, ?_⟩
      · simpa [updB, updV] using I.v0
      · simpa [updB, updV] using I.v1
      · simpa [updB, updV] using I.v2
      · simpa [updB, updV] using I.v3
      · simpa [updB, updV] using I.v4
      · simpa [updB, updV] using I.v5
      · simpa [updB, updV] using I.v6
      · simpa [updB, updV] using I.o1
      · simpa [updB, updV] using I.o8
      · simpa [updB, updV] using I.o9
      · intro _; simpa [updB] using hd
      · simpa [updB, updV] using I.v9
      · simpa [updB, updV] using I.v11
      · refine ⟨b, H2, new, K, le, sub, nw, by simpa [updB, updV] using h7, by simpa [updB, updV] using hh8, ?_⟩
        simpa [rowE, updB, updV, h8, hv8] using L2
    · rintro L vals s' f I hi hd
      simp -dsimp [setE]
      exact SRv.put (by decide) (I.pure (by decide) (by decide) (by decide) (by decide) (fun h => absurd h (by decide)) (fun w h => by cases h; rfl))
  · intro L vals s' f hL I
    obtain ⟨b, H2, new, K, le, sub, nw, h7, h8, LL⟩ := I.mem
    obtain ⟨m, op', kind', sl', vk', bits', pos', attr', hv8, rfl, hn, hc'⟩ := h8 (hL 8 (by simp))
    refine hnext _ s' b H2 m op' kind' sl' vk' bits' pos' attr' (setE_out _ _ (by simp)) (by simp [setE, I.v11 (hL 11 (by simp))]) K le sub nw hc' hn ?_
    simpa [rowE, hL 8 (by simp), hL 10 (by simp), hv8] using LL
  · rintro v f s' f' hn hd he hx
    exact hx.elim
theorem ext0 (a b : Value) : extractA (.tuple #[a, b]) 0 = some a := (rfl)
theorem ext1 (a b : Value) : extractA (.tuple #[a, b]) 1 = some b := (rfl)
theorem cut_head {ts : List Tree} {n off cs : Nat} (hcs : cs = 0 ∨ cs = 7) (h : 1 ≤ ts.length) : sliceA Tryz.prog 22 (.slice (some ⟨n, off, none⟩) ts.length cs) none (some (.int .i64 ((ts.length : Int) - 1))) none = some (.slice (some ⟨n, off + 0 * 7, none⟩) (((ts.drop 0).take (ts.length - 1)).length) cs) := by
  have h1 : ((ts.length : Int) - 1).toNat = ts.length - 1 := by omega
  have h2 : (0 : Int) ≤ (ts.length : Int) - 1 := by omega
  have h4 : (1 : Int) ≤ (ts.length : Int) := by omega
  rcases hcs with rfl | rfl <;> simp [sliceA, natOf, h1, h4, sz27, h]
theorem cut_last {ts : List Tree} {n off cs : Nat} (hcs : cs = 0 ∨ cs = 7) (h : 1 ≤ ts.length) : sliceA Tryz.prog 22 (.slice (some ⟨n, off, none⟩) ts.length cs) (some (.int .i64 ((ts.length : Int) - 1))) none none = some (.slice (some ⟨n, off + (ts.length - 1) * 7, none⟩) (((ts.drop (ts.length - 1)).take 1).length) cs) := by
  have h1 : ((ts.length : Int) - 1).toNat = ts.length - 1 := by omega
  have h2 : (0 : Int) ≤ (ts.length : Int) - 1 := by omega
  have h3 : min 1 (ts.length - (ts.length - 1)) = ts.length - (ts.length - 1) := by omega
  have h4 : (1 : Int) ≤ (ts.length : Int) := by omega
  rcases hcs with rfl | rfl <;> simp [sliceA, natOf, h1, h4, sz27, h3]
set_option maxHeartbeats 8000000 in
set_option maxRecDepth 10000 in
theorem chain2_run : ∀ (k : Nat) (ts : List Tree), ts.length = k → ∀ (H : Heap) (sl : Value) (s : ST), Sub H s → ListV H ts sl → Cut ts sl → FitL ts → Does Tryz.prog 6 #[sl] s (MadeC ts H s) := by
  intro k
  induction k with
  | zero =>
    intro ts hk H sl s hH hv hcut hc
    have h0 : ts = [] := List.eq_nil_of_length_eq_zero hk
    subst h0
    refine Does.pre fun hf => ?_
    have hA := hv.args
    refine Does.code known0 fn6 [] (by kernel_rfl) ?_
    dsimp only [Tryz.f6, Option.getD_some, undraw, noId, cond_true, cond_false, frOf]
    simp -dsimp [envOf]
    refine x_alloc (Loc.nil hf) zero27 fun n2 s2 L2 => ?_
    have hz : buildA Tryz.prog 27 [] = some (nodeVal 0 0 (.slice none 0 0) 0 0 0 0) := by
      unfold buildA
      simp [Tryz.underlying27, zero27, placesL, z27, fillL, nodeVal]
    simp -dsimp [hA.len, hz]
    refine x_store L2 0 rfl (storeTo27 _ rfl _ _ rfl _ _ _ _) fun s3 L3 => ?_
    simp -dsimp [(fields L3 0 rfl).all]
    exact ⟨L3.kept, H, _, rfl, fun _ _ => rfl, hH.kept L3.kept, NewTo.refl _ _, node_leaf _ _ _ _ _ _ _⟩
  | succ k ih =>
    intro ts hk H sl s hH hv hcut hc
    have h0 : ts ≠ [] := by rintro rfl; simp at hk
    refine Does.pre fun hf => ?_
    have hA := hv.args
    have hpos : 0 < ts.length := by omega
    have hne : ((ts.length : Int) == 0) = false := by rw [beq_eq_false_iff_ne]; omega
    obtain ⟨nn, off, cs, rfl, hcs⟩ := hcut h0
    have draw1 := @chain2_draw
    dsimp only [Tryz.f6, Option.getD_some, codeAt, opsOf] at draw1
    refine Does.code known0 fn6 [] (by kernel_rfl) ?_
    dsimp only [Tryz.f6, Option.getD_some, undraw, noId, cond_true, cond_false, frOf]
    simp -dsimp [envOf]
    refine x_alloc (Loc.nil hf) zero27 fun n2 s2 L2 => ?_
    by_cases h1 : ts.length = 1
    · have hne1 : ((ts.length : Int) == 1) = true := by rw [beq_iff_eq]; omega
      simp -dsimp [hA.len, hne, hne1]
      refine Does.mono (twins_run (.mk 0 0 0 0 0 0 ts) _ _ _ _ _ _ _ rfl H _ s2 (hH.kept L2.kept) hv hc) ?_
      rintro _ s3 f3 ⟨K3, H3, v3, rfl, le3, sub3, new3, nv3, ct3⟩
      obtain ⟨b3, Kb3, L3, fb3⟩ := (L2.keep K3).rebase
      have sub3' : Sub H3 b3 := Sub.base L2 hH new3 sub3 fb3
      obtain ⟨ad, op1, kind1, sl1, vk1, bits1, pos1, attr1, ha, hs1, hv1, hl1⟩ := arg_atH sub3' nv3.args hpos
      have ha : indexAddrA Tryz.prog 22 v3 (.int .i64 0) = some ad := ha
      simp -dsimp [ha, hl1 s3 L3.kept]
      refine x_store L3 0 rfl (storeTo27 _ rfl _ _ hs1 _ _ _ _) fun s4 L4 => ?_
      simp -dsimp [(fields L4 0 rfl).all]
      have hts : ts = [ts[0]] := by
        cases ts with
        | nil => exact absurd rfl h0
        | cons t r => cases r with
          | nil => rfl
          | cons _ _ => simp at h1
      refine ⟨Kb3.trans L4.kept, H3, _, by rw [hts]; rfl, le3, sub3'.kept L4.kept, new3.kept L2.kept, ?_⟩
      have hch : chainT ts = ts[0] := by
        cases ts with
        | nil => exact absurd rfl h0
        | cons t r => cases r with
          | nil => rfl
          | cons _ _ => simp at h1
      rw [hch]; exact hv1
    · have hne1 : ((ts.length : Int) == 1) = false := by rw [beq_eq_false_iff_ne]; omega
      have hll := hc.len
      have w1 : wrapA .i64 ((ts.length : Int) - 1) = (ts.length : Int) - 1 := wrap_small (by omega) (by omega)
      have hch := cut_head (n := nn) (off := off) hcs hpos
      have hcl := cut_last (n := nn) (off := off) hcs hpos
      have hV1 : ListV H ((ts.drop 0).take (ts.length - 1)) (.slice (some ⟨nn, off + 0 * 7, none⟩) ((ts.drop 0).take (ts.length - 1)).length cs) := hv.part
      have hV2 : ListV H ((ts.drop (ts.length - 1)).take 1) (.slice (some ⟨nn, off + (ts.length - 1) * 7, none⟩) ((ts.drop (ts.length - 1)).take 1).length cs) := hv.part
      obtain ⟨A, hA1⟩ : ∃ A, (ts.drop 0).take (ts.length - 1) = A := ⟨_, rfl⟩
      obtain ⟨X, hX⟩ : ∃ X, (ts.drop (ts.length - 1)).take 1 = [X] := by
        have hd : (ts.drop (ts.length - 1)).length = 1 := by simp; omega
        obtain ⟨x, hx⟩ := List.length_eq_one_iff.1 hd
        exact ⟨x, by rw [hx]; rfl⟩
      have hts : ts = A ++ [X] := by
        have h2 : (ts.drop (ts.length - 1)) = [X] := by
          rw [← hX, List.take_of_length_le]
          simp; omega
        rw [← List.take_append_drop (ts.length - 1) ts, h2, ← hA1, List.drop_zero]
      rw [hA1] at hch hV1
      rw [hX] at hcl hV2
      have hAl : A.length = k := by have := congrArg List.length hts; simp at this; omega
      have hsum : FitL A ∧ Fit X := ⟨⟨by omega, fun t ht => hc.each t (by rw [hts]; simp [ht])⟩, hc.each X (by rw [hts]; simp)⟩
      have hA0 : A ≠ [] := by rintro rfl; simp at hAl; omega
      simp -dsimp [hA.len, hne, hne1, w1, hch]
      refine Does.mono (ih A hAl H _ s2 (hH.kept L2.kept) hV1 (fun _ => ⟨nn, off + 0 * 7, cs, rfl, hcs⟩) hsum.1) ?_
      rintro _ s3 f3 ⟨K3, H3, v3, rfl, le3, sub3, new3, nv3⟩
      obtain ⟨b3, Kb3, L3, fb3⟩ := (L2.keep K3).rebase
      have sub3' : Sub H3 b3 := Sub.base L2 hH new3 sub3 fb3
      simp -dsimp [ext0, ext1]
      refine x_alloc L3 zero27 fun n4 s4 L4 => ?_
      obtain ⟨op3, kind3, vk3, bits3, pos3, attr3, ts3, sl3, e3, rfl, hA3⟩ := nv3.open_
      simp -dsimp
      refine x_store L4 0 rfl (storeTo27 _ rfl _ _ hA3.cell _ _ _ _) fun s5 L5 => ?_
      simp -dsimp
      refine draw1 (len := ts.length) L5.free hA3.cell Kb3 L5 sub3' (hV2.keep le3) hA.len (by omega) (by omega) hcl hsum.2 (by simp) (by simp) (by simp) ?_
      intro env' s8 b8 H8 m8 op' kind' sl' vk' bits' pos' attr' g2 g3 K8 le8 sub8 new8 hs8 nv8 L8
      have row := row_two (nv3.keep le8) nv8 hA3.cell hs8
      obtain ⟨b9, H9, Kb9, L9, le9, sub9, new9, hmu, nv9⟩ := own_row L8 sub8 row (by simp)
      simp -dsimp at g2
      simp -dsimp [g2, g3, (fields L9 1 rfl).all]
      refine ⟨(K8.trans Kb9).trans L9.kept, H9, _, by cases ts; exact absurd rfl h0; rfl, le3.trans (le8.trans le9), sub9.kept L9.kept, ?_, ?_⟩
      · have n1 : NewTo H H3 s := (NewTo.refl H s).trans (Kept.refl hf) (new3.kept L2.kept)
        exact (n1.trans (Kept.refl hf) new8).trans K8 new9
      · rw [hts, chainT_snoc _ hA0]
        exact nv9 _ _ _ _ _ _
end Go.Proofs.YtgpfgcbolinncaaGreat.Abs
