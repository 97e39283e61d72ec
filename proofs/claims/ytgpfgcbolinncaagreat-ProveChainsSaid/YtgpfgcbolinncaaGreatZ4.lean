/- ref08.SameNodes: equal lists answer true. ref08.SameNodes: equal lists answer true. -/
import Derived.Test.YtgpfgcbolinncaaGreatZ3
set_option linter.unusedVariables false
set_option linter.unusedSimpArgs false
namespace Go.Proofs.YtgpfgcbolinncaaGreat.Abs
open Go Go.RowKit

def blkOf : Value → Nat
  | .pointer (some a) => a.block
  | _ => 0
def entA (made stored : Bool) (v : Value) (c : List Value) : List LE := if made = true then [.obj (blkOf v) (.cells (if stored = true then c else z27) 27)] else []
def ents (c1 c2 : List Value) (L : Nat → Bool) (vals : Nat → Value) : List LE := entA (L 8) (L 10) (vals 8) c1 ++ entA (L 9) (L 11) (vals 9) c2
def IsPtr (v : Value) : Prop := ∃ n, v = .pointer (some ⟨n, 0, none⟩)
structure InvS (b : ST) (vs : List Value) (c1 c2 : List Value) (L : Nat → Bool) (vals : Nat → Value) (s : ST) : Prop where
  loc : Loc b s (ents c1 c2 L vals)
  val : ∀ j v, L j = true → vs[j]? = some v → vals j = v
  p8 : L 8 = true → IsPtr (vals 8)
  p9 : L 9 = true → IsPtr (vals 9)
  o10 : L 10 = true → L 8 = true
  o11 : L 11 = true → L 9 = true
theorem InvS.pure {b : ST} {vs : List Value} {c1 c2 : List Value} {L : Nat → Bool} {vals : Nat → Value} {s : ST} (h : InvS b vs c1 c2 L vals s) {i : Nat} {v : Value} (hi : i < 8) (hv : vs[i]? = some v) :
    InvS b vs c1 c2 (updB L i) (updV vals i v) s := by
  have e8 : (8 : Nat) ≠ i := by omega
  have e9 : (9 : Nat) ≠ i := by omega
  have e10 : (10 : Nat) ≠ i := by omega
  have e11 : (11 : Nat) ≠ i := by omega
  refine ⟨?_, ?_, ?_, ?_, ?_, ?_⟩
  · simpa [ents, updB, updV, e8, e9, e10, e11] using h.loc
  · intro j u hj hu
    by_cases e : j = i
    · subst e
      rw [hv] at hu
      cases hu
      simp [updV]
    · have : L j = true := by simpa [updB, e] using hj
      simpa [updV, e] using h.val j u this hu
  · simpa [updB, updV, e8] using h.p8
  · simpa [updB, updV, e9] using h.p9
  · simpa [updB, e8, e10] using h.o10
  · simpa [updB, e9, e11] using h.o11
set_option maxHeartbeats 8000000 in
set_option maxRecDepth 10000 in
theorem same_draw {b s : ST} {sl sl2 ad ad2 : Value} {i : Int} {op kind vk bits pos attr op2 kind2 vk2 bits2 pos2 attr2 : Int} {a1 a2 : Value} (hf : s.Free) (hs1 : cellOk a1 = true) (hs2 : cellOk a2 = true) (L0 : Loc b s [])
    (ha : indexAddrA Tryz.prog 22 sl (.int .i64 i) = some ad) (ha2 : indexAddrA Tryz.prog 22 sl2 (.int .i64 i) = some ad2)
    (hl : ∀ s', Kept b s' → loadA Tryz.prog 27 ad s' = some (nodeVal op kind a1 vk bits pos attr, s')) (hl2 : ∀ s', Kept b s' → loadA Tryz.prog 27 ad2 s' = some (nodeVal op2 kind2 a2 vk2 bits2 pos2 attr2, s'))
    {env : Trie Value} (e0 : env.get 0 = some sl) (e1 : env.get 1 = some sl2) (e5 : env.get 5 = some (.int .i64 i)) {Q : SR → ST → Prop}
    (hnext : ∀ env' s' n6 n7, (∀ t, t < 6 ∨ 25 < t → env'.get t = env.get t) → (∀ t, 8 ≤ t → t < 18 → env'.get t = env.get t) → env'.get 6 = some (.pointer (some ⟨n6, 0, none⟩)) → env'.get 7 = some (.pointer (some ⟨n7, 0, none⟩)) →
      Loc b s' [.obj n6 (.cells (nodeCells op kind a1 vk bits pos attr) 27), .obj n7 (.cells (nodeCells op2 kind2 a2 vk2 bits2 pos2 attr2) 27)] → Q (.next ⟨68, env', []⟩) s') :
    wDraw Tryz.prog (opsOf (codeAt [true, true, false, true, false, false, true, true, false, false, true, false] (Tryz.f9.body.getD .skip))).toArray ⟨68, env, []⟩ s Q := by
  dsimp only [Tryz.f9, Option.getD_some, codeAt, opsOf]
  refine w_draw [[], [], [(0, 18), (1, 19)], [(2, 20)], [], [], [(4, 22), (5, 23)], [(6, 24)], [], [], [(3, 21), (8, 6)], [(7, 25), (9, 7), (8, 6)]]
    [(0, 18), (1, 19), (2, 20), (3, 21), (4, 22), (5, 23), (6, 24), (7, 25), (8, 6), (9, 7)] (by kernel_rfl)
    (InvS b [sl, .int .i64 i, ad, nodeVal op kind a1 vk bits pos attr, sl2, .int .i64 i, ad2, nodeVal op2 kind2 a2 vk2 bits2 pos2 attr2] (nodeCells op kind a1 vk bits pos attr) (nodeCells op2 kind2 a2 vk2 bits2 pos2 attr2)) (fun _ _ => False)
    (InvS.mk L0 (fun j v h _ => absurd h (by simp)) (fun h => absurd h (by simp)) (fun h => absurd h (by simp)) (fun h => absurd h (by simp)) (fun h => absurd h (by simp))) hf ?_ ?_ ?_
  · refine ⟨?_, ?_, ?_, ?_, ?_, ?_, ?_, ?_, ?_, ?_, ?_, ?_, trivial⟩
    · rintro L vals s' f I hi hd
      simp -dsimp [setE, e0]
      exact SRv.put (by decide) (I.pure (by decide) rfl)
    · rintro L vals s' f I hi hd
      simp -dsimp [setE, e5]
      exact SRv.put (by decide) (I.pure (by decide) rfl)
    · rintro L vals s' f I hi hd
      simp only [allL, and_true] at hd
      simp -dsimp [setE, I.val 0 _ hd.1 rfl, I.val 1 _ hd.2 rfl, ha]
      exact SRv.put (by decide) (I.pure (by decide) rfl)
    · rintro L vals s' f I hi hd
      simp only [allL, and_true] at hd
      simp -dsimp [setE, I.val 2 _ hd rfl, hl _ I.loc.kept]
      exact SRv.put (by decide) (I.pure (by decide) rfl)
    · rintro L vals s' f I hi hd
      simp -dsimp [setE, e1]
      exact SRv.put (by decide) (I.pure (by decide) rfl)
    · rintro L vals s' f I hi hd
      simp -dsimp [setE, e5]
      exact SRv.put (by decide) (I.pure (by decide) rfl)
    · rintro L vals s' f I hi hd
      simp only [allL, and_true] at hd
      simp -dsimp [setE, I.val 4 _ hd.1 rfl, I.val 5 _ hd.2 rfl, ha2]
      exact SRv.put (by decide) (I.pure (by decide) rfl)
    · rintro L vals s' f I hi hd
      simp only [allL, and_true] at hd
      simp -dsimp [setE, I.val 6 _ hd rfl, hl2 _ I.loc.kept]
      exact SRv.put (by decide) (I.pure (by decide) rfl)
    · rintro L vals s' f I hi hd
      have h10 : L 10 = false := by cases h : L 10 with | false => rfl | true => rw [I.o10 h] at hi; cases hi
      have hloc := I.loc
      simp only [ents, entA, hi, Bool.false_eq_true, if_false, List.nil_append] at hloc
      simp -dsimp [setE]
      refine x_alloc hloc zero27 fun n s2 L2 => ?_
      simp -dsimp
      refine SRv.put (by decide) ⟨?_, ?_, ?_, ?_, ?_, ?_⟩
      · simpa [ents, entA, updB, updV, h10, blkOf] using L2
      · intro j u hj hu
        by_cases e : j = 8
        · subst e; simp at hu
        · have : L j = true := by simpa [updB, e] using hj
          simpa [updV, e] using I.val j u this hu
      · intro _; exact ⟨n, by simp [updV]⟩
      · simpa [updB, updV] using I.p9
      · simp [updB]
      · simpa [updB] using I.o11
    · rintro L vals s' f I hi hd
      have h11 : L 11 = false := by cases h : L 11 with | false => rfl | true => rw [I.o11 h] at hi; cases hi
      have hloc := I.loc
      unfold ents at hloc
      rw [show entA (L 9) (L 11) (vals 9) (nodeCells op2 kind2 a2 vk2 bits2 pos2 attr2) = [] by simp [entA, hi], List.append_nil] at hloc
      simp -dsimp [setE]
      refine x_alloc hloc zero27 fun n s2 L2 => ?_
      simp -dsimp
      refine SRv.put (by decide) ⟨?_, ?_, ?_, ?_, ?_, ?_⟩
      · have L3 := L2.perm (List.perm_append_comm (l₁ := [LE.obj n (.cells z27 27)]) (l₂ := entA (L 8) (L 10) (vals 8) (nodeCells op kind a1 vk bits pos attr)))
        simpa [ents, entA, updB, updV, h11, blkOf] using L3
      · intro j u hj hu
        by_cases e : j = 9
        · subst e; simp at hu
        · have : L j = true := by simpa [updB, e] using hj
          simpa [updV, e] using I.val j u this hu
      · simpa [updB, updV] using I.p8
      · intro _; exact ⟨n, by simp [updV]⟩
      · simpa [updB] using I.o10
      · simp [updB]
    · rintro L vals s' f I hi hd
      simp only [allL, and_true] at hd
      obtain ⟨n, hn⟩ := I.p8 hd.2
      have hloc := I.loc
      unfold ents at hloc
      rw [show entA (L 8) (L 10) (vals 8) (nodeCells op kind a1 vk bits pos attr) = [.obj n (.cells z27 27)] by simp [entA, hi, hd.2, hn, blkOf]] at hloc
      simp -dsimp [setE, hn, I.val 3 _ hd.1 rfl]
      refine x_store hloc 0 rfl (storeTo27 _ rfl _ _ hs1 _ _ _ _) fun s2 L2 => ?_
      simp -dsimp [setE, hn, I.val 3 _ hd.1 rfl]
      refine SRv.skip undef ⟨?_, ?_, ?_, ?_, ?_, ?_⟩
      · simpa [ents, entA, updB, updV, hd.2, hn, blkOf] using L2
      · intro j u hj hu
        by_cases e : j = 10
        · subst e; simp at hu
        · have : L j = true := by simpa [updB, e] using hj
          simpa [updV, e] using I.val j u this hu
      · simpa [updB, updV] using I.p8
      · simpa [updB, updV] using I.p9
      · intro _; simpa [updB] using hd.2
      · simpa [updB] using I.o11
    · rintro L vals s' f I hi hd
      simp only [allL, and_true] at hd
      obtain ⟨n, hn⟩ := I.p9 hd.2.1
      obtain ⟨n6, hn6⟩ := I.p8 hd.2.2
      have hloc := I.loc
      unfold ents at hloc
      rw [show entA (L 9) (L 11) (vals 9) (nodeCells op2 kind2 a2 vk2 bits2 pos2 attr2) = [.obj n (.cells z27 27)] by simp [entA, hi, hd.2.1, hn, blkOf]] at hloc
      rw [show entA (L 8) (L 10) (vals 8) (nodeCells op kind a1 vk bits pos attr) = [.obj n6 (.cells (if L 10 = true then nodeCells op kind a1 vk bits pos attr else z27) 27)] by simp [entA, hd.2.2, hn6, blkOf]] at hloc
      simp -dsimp [setE, hn, I.val 7 _ hd.1 rfl]
      refine x_store hloc 1 rfl (storeTo27 _ rfl _ _ hs2 _ _ _ _) fun s2 L2 => ?_
      simp -dsimp [setE, hn, I.val 7 _ hd.1 rfl]
      refine SRv.skip undef ⟨?_, ?_, ?_, ?_, ?_, ?_⟩
      · simpa [ents, entA, updB, updV, hd.2.1, hd.2.2, hn, hn6, blkOf] using L2
      · intro j u hj hu
        by_cases e : j = 11
        · subst e; simp at hu
        · have : L j = true := by simpa [updB, e] using hj
          simpa [updV, e] using I.val j u this hu
      · simpa [updB, updV] using I.p8
      · simpa [updB, updV] using I.p9
      · simpa [updB] using I.o10
      · intro _; simpa [updB] using hd.2.1
  · intro L vals s' f hL I
    obtain ⟨n6, h6⟩ := I.p8 (hL 8 (by simp))
    obtain ⟨n7, h7⟩ := I.p9 (hL 9 (by simp))
    have hloc := I.loc
    simp only [ents, entA, hL 8 (by simp), hL 9 (by simp), hL 10 (by simp), hL 11 (by simp), h6, h7, blkOf, if_true, List.cons_append, List.nil_append] at hloc
    refine hnext _ _ n6 n7 ?_ ?_ (by simp [setE, h6]) (by simp [setE, h7]) hloc
    · intro t ht
      exact setE_out _ _ (by simp; omega)
    · intro t h1 h2
      exact setE_out _ _ (by simp; omega)
  · rintro v f s' f' hn hd he hx
    exact hx.elim
end Go.Proofs.YtgpfgcbolinncaaGreat.Abs
set_option linter.unusedVariables false
set_option linter.unusedSimpArgs false
namespace Go.Proofs.YtgpfgcbolinncaaGreat.Abs
open Go Go.RowKit

theorem stood25 : Tryz.prog.stoodInHeld 25 = false := by kernel_rfl
theorem guard25 : Tryz.prog.eqGuardType Tryz.prog.depth 25 = false := by kernel_rfl
theorem structEq25 (a b a' b' : Int) : structEq Tryz.prog 25 #[.int .i64 a, .int .u64 b] #[.int .i64 a', .int .u64 b'] = some (a == a' && b == b') := by
  simp [structEq, stood25, guard25, Tryz.underlying25, eqFlat, Tryz.underlying3, Tryz.underlying23]
theorem neq25 (xo yo : Operand) (a b a' b' : Int) : binA Tryz.prog .neq 25 xo yo (valV a b) (valV a' b') = some (.bool (!(a == a' && b == b'))) := by
  simp [binA, fastBin, aggBin, valV, structEq25]
theorem eql25 (xo yo : Operand) (a b a' b' : Int) : binA Tryz.prog .eql 25 xo yo (valV a b) (valV a' b') = some (.bool (a == a' && b == b')) := by
  simp [binA, fastBin, aggBin, valV, structEq25]
theorem wneq25 (xo yo : Operand) (a b a' b' : Int) (k : Value → Prop) : wBin Tryz.prog .neq 25 xo yo (valV a b) (valV a' b') k = k (.bool (!(a == a' && b == b'))) := by
  have : wBin Tryz.prog .neq 25 xo yo (valV a b) (valV a' b') k = wV (binA Tryz.prog .neq 25 xo yo (valV a b) (valV a' b')) k := rfl
  rw [this, neq25]; rfl
theorem weql25 (xo yo : Operand) (a b a' b' : Int) (k : Value → Prop) : wBin Tryz.prog .eql 25 xo yo (valV a b) (valV a' b') k = k (.bool (a == a' && b == b')) := by
  have : wBin Tryz.prog .eql 25 xo yo (valV a b) (valV a' b') k = wV (binA Tryz.prog .eql 25 xo yo (valV a b) (valV a' b')) k := rfl
  rw [this, eql25]; rfl
theorem fn9 : fnOf Tryz.prog 9 = some ((Tryz.f9.body.getD .skip), Tryz.f9.ntmps, Tryz.f9.results) := by kernel_rfl
def SameOk (t : Tree) : Prop := ∀ op kind vk bits pos attr ts, t = .mk op kind vk bits pos attr ts → ∀ sl sl' s, ListV s.heap ts sl → ListV s.heap ts sl' → FitL ts → Does Tryz.prog 9 #[sl, sl'] s (fun r s' => r = .ret (.bool true) ∧ Kept s s')
set_option maxHeartbeats 8000000 in
set_option maxRecDepth 10000 in
theorem sames_run (t : Tree) : SameOk t := by
  induction t using Tree.ind with
  | h op kind vk bits pos attr args ih =>
    rintro op kind vk bits pos attr ts ⟨⟩ sl sl' s hv hv' hc
    refine Does.pre fun hf => ?_
    have hA := hv.args
    have hA' := hv'.args
    have hH : Sub s.heap s := fun _ _ => rfl
    have hlen := hc.len
    refine Does.code known0 fn9 [] (by kernel_rfl) ?_
    have draw := @same_draw
    dsimp only [Tryz.f9, Option.getD_some, codeAt, opsOf] at draw
    dsimp only [Tryz.f9, Option.getD_some, undraw, noId, cond_true, cond_false, frOf]
    simp -dsimp [envOf, hA.len, hA'.len]
    refine w_for (fun m fr s' => ∃ i env, i + m = args.length ∧ fr = ⟨68, env, []⟩ ∧ Kept s s' ∧ env.get 0 = some sl ∧ env.get 1 = some sl' ∧ env.get 14 = some (.int .i64 args.length) ∧ env.get 15 = some (.int .i64 i)) (m := args.length) ?_ hf ?_
    rotate_left
    · exact ⟨0, _, by omega, rfl, Kept.refl hf, by simp, by simp, by simp, by simp⟩
    rintro m fr s' f ⟨i, env, him, rfl, K, h0, h1, h14, h15⟩
    by_cases hi : i < args.length
    · have hi' : (i : Int) < args.length := by omega
      obtain ⟨a, op, kind, sl2, vk, bits, pos, attr, ha, hs2, hv2, hl⟩ := arg_atH hH hA hi
      obtain ⟨a', op', kind', sl2', vk', bits', pos', attr', ha', hs2', hv2', hl'⟩ := arg_atH hH hA' hi
      obtain ⟨ts1, hT⟩ := hv2.shape
      obtain ⟨ts2, hT'⟩ := hv2'.shape
      rw [hT] at hT'
      cases hT'
      have hcm := hc.at hi
      have hmem := List.getElem_mem hi
      have ih1 := ih args[i] hmem
      rw [hT] at hcm hv2 hv2' ih1
      have hcm := hcm.args
      simp -dsimp [h14, h15, hi']
      refine draw K.free hs2 hs2' (Loc.nil K.free) ha ha' (fun s2 k => hl s2 (K.trans k)) (fun s2 k => hl' s2 (K.trans k)) (by simp [h0]) (by simp [h1]) (by simp) ?_
      intro env' s2 n6 n7 o1 o2 e6 e7 L2
      have F6 := fields L2 0 rfl
      have F7 := fields L2 1 rfl
      simp -dsimp [e6, e7, fieldAddrA, F6.f0, F7.f0, F6.f1, F7.f1, F6.f3, F7.f3, F6.f5, F7.f5, F6.f6, F7.f6, F6.f2, F7.f2, wneq25]
      refine Does.mono (ih1 _ _ _ _ _ _ _ rfl _ _ s2 ((hv2.list.keep fun n hn => (K.trans L2.kept).find hn)) ((hv2'.list.keep fun n hn => (K.trans L2.kept).find hn)) hcm) ?_
      rintro _ s4 f4 ⟨rfl, K4⟩
      have w1 : wrapA .i64 ((i : Int) + 1) = (i : Int) + 1 := wrap_small (by omega) (by omega)
      have e15 : env'.get 15 = some (.int .i64 i) := by rw [o2 15 (by omega) (by omega)]; simp [h15]
      have e0 : env'.get 0 = some sl := by rw [o1 0 (by omega)]; simp [h0]
      have e1 : env'.get 1 = some sl' := by rw [o1 1 (by omega)]; simp [h1]
      have e14 : env'.get 14 = some (.int .i64 args.length) := by rw [o2 14 (by omega) (by omega)]; simp [h14]
      simp -dsimp [e15, w1]
      refine Goal.mk ⟨m - 1, by omega, i + 1, _, by omega, rfl, K.trans (L2.kept.trans K4), ?_, ?_, ?_, ?_⟩
      all_goals simp [e0, e1, e14]
    · have hi' : ¬ ((i : Int) < args.length) := by omega
      simp -dsimp [h14, h15, hi']
      exact K
end Go.Proofs.YtgpfgcbolinncaaGreat.Abs
