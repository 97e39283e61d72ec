/- A region whose order is open, by what holds of each of its operations. -/
import Derived.Test.YtgpfgcbolinncaaGreatM3
set_option linter.unusedVariables false
set_option linter.unusedSimpArgs false
namespace Go.Proofs.YtgpfgcbolinncaaGreat.Abs
open Go Go.RowKit

def bef (ops : Array Oper) (i j : Nat) : Bool := ((masksOf ops).getD i 0).testBit j
def dstOf (ops : Array Oper) (j : Nat) : Option Tmp := (ops[j]?).bind (·.dst)
def apartS (ops : Array Oper) : Bool := (List.range ops.size).all fun j => (List.range j).all fun i => bef ops j i || (match ops[i]?, ops[j]? with
  | some a, some b => a.apart ops b
  | _, _ => false)
def lastW (ops : Array Oper) (n : Nat) (t : Nat) : Option Nat := (List.range n).reverse.find? fun j => dstOf ops j == some t
def chkAt (ops : Array Oper) (i : Nat) (o : Oper) (l : List (Nat × Nat)) : Bool :=
  l.all (fun p => bef ops i p.1 && dstOf ops p.1 == some p.2) && decide (l.map (·.2)).Nodup && (o.looksAt ops).all fun t => match lastW ops i t with
    | some j => l.contains (j, t)
    | none => true
def chkAll (ops : Array Oper) (ds : List (List (Nat × Nat))) : Bool := (List.range ops.size).all fun i => match ops[i]?, ds[i]? with
  | some o, some l => chkAt ops i o l
  | _, _ => false
def chkEnd (ops : Array Oper) (fs : List (Nat × Nat)) : Bool := fs.all (fun p => lastW ops ops.size p.2 == some p.1) && decide (fs.map (·.2)).Nodup && (List.range ops.size).all fun j => match dstOf ops j with
  | some d => fs.any fun p => p.2 == d
  | none => true
def drawOk (ops : Array Oper) (ds : List (List (Nat × Nat))) (fs : List (Nat × Nat)) : Bool := edgesBack 0 ops.toList && apartS ops && chkAll ops ds && chkEnd ops fs
def setE (vals : Nat → Value) : List (Nat × Nat) → Trie Value → Trie Value
  | [], e => e
  | (j, d) :: r, e => setE vals r (e.set d (vals j))
theorem setE_out {vals : Nat → Value} {t : Nat} : ∀ (l : List (Nat × Nat)) (e : Trie Value), (∀ p ∈ l, p.2 ≠ t) → (setE vals l e).get t = e.get t
  | [], e, _ => rfl
  | (j, d) :: r, e, h => by
    rw [setE, setE_out r _ fun p hp => h p (by simp [hp]), Trie.get_set, if_neg]
    exact fun e => h (j, d) (by simp) e.symm
theorem setE_in {vals : Nat → Value} {j t : Nat} : ∀ (l : List (Nat × Nat)) (e : Trie Value), (l.map (·.2)).Nodup → (j, t) ∈ l → (setE vals l e).get t = some (vals j)
  | [], e, _, h => by simp at h
  | (k, d) :: r, e, hn, h => by
    simp only [List.map_cons, List.nodup_cons] at hn
    rw [setE]
    rcases List.mem_cons.1 h with h | h
    · cases h
      rw [setE_out r _ fun p hp e => hn.1 (List.mem_map.2 ⟨p, hp, e⟩), Trie.get_set, if_pos rfl]
    · exact setE_in r _ hn.2 h
theorem lastW_some {ops : Array Oper} {n t j : Nat} (h : lastW ops n t = some j) : j < n ∧ dstOf ops j = some t ∧ ∀ k, j < k → k < n → dstOf ops k ≠ some t := by
  induction n with
  | zero => simp [lastW] at h
  | succ n ih =>
    unfold lastW at h ih
    rw [List.range_succ, List.reverse_append, List.reverse_cons, List.reverse_nil, List.nil_append, List.singleton_append, List.find?_cons] at h
    split at h
    · rename_i hd
      simp only [Option.some.injEq] at h
      subst h
      exact ⟨by omega, by simpa using hd, fun k h1 h2 => by omega⟩
    · rename_i hd
      obtain ⟨a, b, c⟩ := ih h
      refine ⟨by omega, b, fun k h1 h2 => ?_⟩
      by_cases hk : k = n
      · subst hk; intro e; rw [e] at hd; simp at hd
      · exact c k h1 (by omega)
theorem lastW_none {ops : Array Oper} {n t : Nat} (h : lastW ops n t = none) : ∀ k, k < n → dstOf ops k ≠ some t := by
  intro k hk e
  unfold lastW at h
  rw [List.find?_eq_none] at h
  exact h k (by simp; exact hk) (by simp [e])

/-- a value is put, or it panics -/
def SRv (fr : Fr) (dst : Option Tmp) (K X : Value → ST → Prop) (x : SR) (s : ST) (_t : Tag K := ⟨⟩) (_u : Tag X := ⟨⟩) : Prop := match x with
  | .next f => ∃ v, putF fr dst v = some f ∧ K v s
  | .panic v _ => X v s
theorem SRv.put {n : Nat} {e : Trie Value} {defs : List Deferred} {d : Nat} {K X : Value → ST → Prop} {v : Value} {s : ST} (hd : d < n) (h : K v s) : SRv ⟨n, e, defs⟩ (some d) K X (.next ⟨n, e.set d v, defs⟩) s :=
  ⟨v, by simp [putF, hd], h⟩
theorem SRv.skip {fr : Fr} {K X : Value → ST → Prop} {s : ST} (v : Value) (h : K v s) : SRv fr none K X (.next fr) s := ⟨v, rfl, h⟩
theorem SRv.panic {fr f : Fr} {dst : Option Tmp} {K X : Value → ST → Prop} {v : Value} {s : ST} (h : X v s) : SRv fr dst K X (.panic v f) s := h

section
variable {P : Program}
theorem evalV_looks {ops : Array Oper} {o : Oper} {e e' : Trie Value} (h : ∀ t ∈ o.looksAt ops, envD e t = envD e' t) {x : Operand} (hx : x ∈ o.op.operands) : evalV e x = evalV e' x :=
  evalV_eq x fun t ht => by
    subst ht
    exact h t (List.mem_append_left _ (List.mem_filterMap.2 ⟨.tmp t, by simpa using hx, rfl⟩))
theorem putF_env {f g : Fr} {dst : Option Tmp} {v : Value} (h : putF f dst v = some g) : g.n = f.n ∧ g.defs = f.defs ∧ ∀ t, g.env.get t = if dst = some t then some v else f.env.get t := by
  unfold putF at h
  cases dst with
  | none => simp only [Option.some.injEq] at h; subst h; exact ⟨rfl, rfl, fun t => by simp⟩
  | some d =>
    simp only at h
    split at h
    · simp only [Option.some.injEq] at h
      subst h
      refine ⟨rfl, rfl, fun t => ?_⟩
      simp only [Trie.get_set, Option.some.injEq]
      by_cases e : t = d
      · subst e; simp
      · rw [if_neg e, if_neg (fun h => e h.symm)]
    · cases h
theorem putF_some' {f g : Fr} {dst : Option Tmp} {v : Value} (h : putF f dst v = some g) {f2 : Fr} (hn : f2.n = f.n) (w : Value) : ∃ g2, putF f2 dst w = some g2 := by
  unfold putF at h ⊢
  cases dst with
  | none => exact ⟨_, rfl⟩
  | some d =>
    simp only at h ⊢
    split at h
    · rename_i hlt
      rw [if_pos (by rw [hn]; exact hlt)]
      exact ⟨_, rfl⟩
    · cases h
/-- an operation on a frame that says the same of what it looks at -/
theorem xGO_frame {ops : Array Oper} {o : Oper} {f1 f2 : Fr} {s : ST} {K X : Value → ST → Prop} {Q2 : SR → ST → Prop} (hl : ∀ t ∈ o.looksAt ops, envD f1.env t = envD f2.env t) (hn : f2.n = f1.n) (hs : s.Free)
    (hnext : ∀ v g s', s'.Free → putF f2 o.dst v = some g → K v s' → Q2 (.next g) s') (hpan : ∀ v s', s'.Free → X v s' → Q2 (.panic v f2) s') (h : xGO P ops o f1 s (SRv f1 o.dst K X)) : xGO P ops o f2 s Q2 := by
  have hg : guardOk ops f1.env o = guardOk ops f2.env o := by
    unfold guardOk
    cases hgd : o.guard with
    | none => rfl
    | some gw =>
      obtain ⟨g, want⟩ := gw
      simp only
      cases ht : (ops[g]?).bind (·.dst) with
      | none => rfl
      | some t =>
        have := hl t (by simp [Oper.looksAt, hgd, ht])
        unfold envD at this
        simp only [this]
  have put : ∀ {v : Value} {s' : ST}, s'.Free → (xPut (putF f1 o.dst v) fun f => SRv f1 o.dst K X (.next f) s') → xPut (putF f2 o.dst v) fun f => Q2 (.next f) s' := by
    intro v s' fs h
    obtain ⟨f, hf, v2, hf2, hk⟩ := xPut_some h
    obtain ⟨g, hg⟩ := putF_some' hf hn v
    rw [hg]
    refine hnext v2 g s' fs ?_ hk
    cases hd : o.dst with
    | none => rw [hd] at hg; exact hg
    | some d =>
      have e1 := (putF_env hf).2.2 d
      have e2 := (putF_env hf2).2.2 d
      rw [if_pos hd] at e1 e2
      rw [e1] at e2
      simp only [Option.some.injEq] at e2
      subst e2
      rw [← hd]; exact hg
  have arx : ∀ {ar : AR} {s' : ST}, s'.Free → xAR o.dst f1 (SRv f1 o.dst K X) ar s' → xAR o.dst f2 Q2 ar s' := by
    intro ar s' fs h
    cases ar with
    | val v => exact put fs h
    | skip => exact put fs h
    | enter _ _ => exact h.elim
    | panic v => exact hpan v s' fs h
    | defer d =>
      exfalso
      obtain ⟨f, hf, v2, hf2, hk⟩ := xPut_some h
      have e1 := (putF_env hf).2.1
      have e2 := (putF_env hf2).2.1
      rw [e2] at e1
      have := congrArg List.length e1
      simp at this
    | recover => exact h.elim
  unfold xGO at h ⊢
  rw [← hg]
  unfold xG at h ⊢
  split at h
  · have ops' : ∀ {x : Operand}, x ∈ o.op.operands → evalV f1.env x = evalV f2.env x := fun hx => evalV_looks hl hx
    have gen : xO (evalOp P noFn (evalV f1.env) o s) (xAR o.dst f1 (SRv f1 o.dst K X)) → xO (evalOp P noFn (evalV f2.env) o s) (xAR o.dst f2 Q2) := by
      intro h
      rw [← evalOp_congr o fun x hx => ops' hx]
      obtain ⟨ar, s1, e, h⟩ := xO_some h
      rw [e]
      exact arx ((mono_evalOp P noFn _ o).free e hs) h
    obtain ⟨dst, op, ty, pos, af, gd⟩ := o
    unfold xOp at h ⊢
    split at h
    · rename_i sr d x hop
      simp only at hop
      subst hop
      simp only
      split at h
      · rename_i hf
        rw [if_pos hf, ← ops' (x := x) (by simp [Op.operands])]
        exact xConv_mono h fun v hv => put hs hv
      · rename_i hf
        rw [if_neg hf]
        exact gen h
    · rename_i c hop
      simp only at hop
      subst hop
      obtain ⟨callee, args, ts⟩ := c
      cases callee with
      | builtin b => exact gen h
      | invoke _ _ => exact h.elim
      | value f =>
        simp only at h ⊢
        have e1 : evalV f1.env f = evalV f2.env f := ops' (by simp [Op.operands, Call.operands])
        have e2 : argsV (evalV f1.env) args = argsV (evalV f2.env) args := by
          unfold argsV
          refine List.map_congr_left fun x hx => ops' ?_
          simp only [Op.operands, Call.operands]
          simp at hx ⊢
          exact .inr hx
        rw [← e1, ← e2]
        unfold xCall at h ⊢
        split at h
        · refine h.mono ?_
          intro r s' fs hr
          cases r with
          | ret v => exact put fs hr
          | panic v => exact hpan v s' fs hr
        · exact h.elim
    · rename_i bop t x y yt hop
      simp only at hop
      subst hop
      simp only
      rw [← ops' (x := x) (by simp [Op.operands]), ← ops' (x := y) (by simp [Op.operands])]
      exact xBin_mono h fun v hv => put hs hv
    · rename_i hne0 hne1 hne2
      cases op with
      | convert a b c => exact absurd rfl (hne0 a b c)
      | call c => exact absurd rfl (hne1 c)
      | binOp a b c d e => exact absurd rfl (hne2 a b c d e)
      | _ => exact gen h
  · exact put hs h
  · exact h
theorem looks_apart {ops : Array Oper} (h : apartS ops = true) {i j : Nat} (hij : i < j) (hj : j < ops.size) (hm : bef ops j i = false) {a b : Oper} (ha : ops[i]? = some a) (hb : ops[j]? = some b) : a.apart ops b = true := by
  unfold apartS at h
  have h1 := List.all_eq_true.1 (List.all_eq_true.1 h j (List.mem_range.2 hj)) i (List.mem_range.2 hij)
  rw [hm, Bool.false_or] at h1
  simp only [ha, hb] at h1
  exact h1
/-- what holds on the way -/
structure DInv (ops : Array Oper) (fr : Fr) (A : (Nat → Bool) → (Nat → Value) → ST → Prop) (listed : Array Bool) (fc : Fr) (sc : ST) (vals : Nat → Value) : Prop where
  a : A (fun j => listed.getD j false) vals sc
  n : fc.n = fr.n
  defs : fc.defs = fr.defs
  e1 : ∀ j t, j < ops.size → listed.getD j false = true → dstOf ops j = some t → (∀ k, j < k → k < ops.size → listed.getD k false = true → dstOf ops k ≠ some t) → fc.env.get t = some (vals j)
  e2 : ∀ t, (∀ j, j < ops.size → listed.getD j false = true → dstOf ops j ≠ some t) → fc.env.get t = fr.env.get t
def updB (L : Nat → Bool) (i : Nat) : Nat → Bool := fun k => if k = i then true else L k
def updV (vals : Nat → Value) (i : Nat) (v : Value) : Nat → Value := fun k => if k = i then v else vals k
theorem draw_gen {ops : Array Oper} {fr : Fr} {s : ST} {Q : SR → ST → Prop} (ds : List (List (Nat × Nat))) (fs : List (Nat × Nat)) (hck : drawOk ops ds fs = true) (A : (Nat → Bool) → (Nat → Value) → ST → Prop) (X : Value → ST → Prop) (hA : A (fun _ => false) (fun _ => undef) s) (hf : s.Free)
    (hop : ∀ (i : Nat) (o : Oper) (l : List (Nat × Nat)), ops[i]? = some o → ds[i]? = some l → ∀ (L : Nat → Bool) (vals : Nat → Value) (s' : ST), s'.Free → A L vals s' → L i = false → (∀ p ∈ l, L p.1 = true) →
      xGO P ops o { fr with env := setE vals l fr.env } s' (SRv { fr with env := setE vals l fr.env } o.dst (fun v s'' => A (updB L i) (updV vals i v) s'') X))
    (hend : ∀ (L : Nat → Bool) (vals : Nat → Value) (s' : ST), s'.Free → (∀ j, j < ops.size → L j = true) → A L vals s' → Q (.next { fr with env := setE vals fs fr.env }) s')
    (hpan : ∀ (v : Value) (f : Fr) (s' : ST), s'.Free → f.n = fr.n → f.defs = fr.defs → (∀ t, (List.range ops.size).all (fun j => dstOf ops j != some t) = true → f.env.get t = fr.env.get t) → X v s' → Q (.panic v f) s') : xDraw P ops fr s Q := by
  unfold drawOk at hck
  simp only [Bool.and_eq_true] at hck
  obtain ⟨⟨⟨hb, hap⟩, hds⟩, hfs⟩ := hck
  have done : ∀ (listed : Array Bool) (fc : Fr) (sc : ST) (vals : Nat → Value), sc.Free → (∀ j, j < ops.size → listed.getD j false = true) → DInv ops fr A listed fc sc vals → ∃ f, FrEq f fc ∧ Q (.next f) sc := by
    intro listed fc sc vals fsc hall I
    refine ⟨{ fr with env := setE vals fs fr.env }, ⟨I.n.symm, I.defs.symm, ?_⟩, hend _ vals sc fsc hall I.a⟩
    intro t
    unfold chkEnd at hfs
    simp only [Bool.and_eq_true, decide_eq_true_eq] at hfs
    obtain ⟨⟨h1, h2⟩, h3⟩ := hfs
    show (setE vals fs fr.env).get t = fc.env.get t
    cases hw : lastW ops ops.size t with
    | some j =>
      obtain ⟨a, b, c⟩ := lastW_some hw
      have := List.all_eq_true.1 h3 j (List.mem_range.2 a)
      rw [b] at this
      simp only [List.any_eq_true, beq_iff_eq] at this
      obtain ⟨p, hp, hpt⟩ := this
      have hpl := List.all_eq_true.1 h1 p hp
      rw [hpt, hw] at hpl
      simp only [beq_iff_eq, Option.some.injEq] at hpl
      have hpe : p = (j, t) := by rw [← hpt, hpl]
      rw [setE_in fs fr.env h2 (hpe ▸ hp), I.e1 j t a (hall j a) b fun k hk1 hk2 _ => c k hk1 hk2]
    | none =>
      have hn := lastW_none hw
      rw [I.e2 t fun j hj _ => hn j hj, setE_out]
      intro p hp e
      have hpl := List.all_eq_true.1 h1 p hp
      rw [e, hw] at hpl
      simp at hpl
  have go : ∀ (n : Nat) (listed : Array Bool) (fc : Fr) (sc : ST) (vals : Nat → Value), listed.size = ops.size → Closed ops listed → unl ops.size listed ≤ n → sc.Free → DInv ops fr A listed fc sc vals → xAny P ops Q n listed fc sc := by
    intro n
    induction n with
    | zero =>
      intro listed fc sc vals hsz hcl hu fsc I
      have hall : ∀ j, j < ops.size → listed.getD j false = true := by
        intro j hj
        have h0 : unl ops.size listed = 0 := by omega
        unfold unl at h0
        rw [List.countP_eq_zero] at h0
        have := h0 j (List.mem_range.2 hj)
        simpa using this
      refine ⟨?_, done listed fc sc vals fsc hall I⟩
      apply List.eq_nil_iff_forall_not_mem.2
      intro j hj
      rw [mem_ready] at hj
      obtain ⟨h1, o, ho, _⟩ := hj
      have hlt : j < ops.size := (Array.getElem?_eq_some_iff.1 ho).1
      have := hall j hlt
      have hl : j < listed.size := by omega
      simp [Array.getD_eq_getD_getElem?, hl] at h1 this
      rw [h1] at this; cases this
    | succ n ih =>
      intro listed fc sc vals hsz hcl hu fsc I
      refine ⟨fun hr => done listed fc sc vals fsc (all_listed hb hsz hr) I, ?_⟩
      intro i hi o ho
      rw [mem_ready] at hi
      obtain ⟨h1, o', ho', hedges⟩ := hi
      rw [ho] at ho'; cases ho'
      have hlt : i < ops.size := (Array.getElem?_eq_some_iff.1 ho).1
      have hll : i < listed.size := by omega
      have hni : listed.getD i false = false := by
        simp [Array.getD_eq_getD_getElem?, hll] at h1 ⊢; exact h1
      have hds1 := List.all_eq_true.1 hds i (List.mem_range.2 hlt)
      rw [ho] at hds1
      obtain ⟨l, hl⟩ : ∃ l, ds[i]? = some l := by
        cases hq : ds[i]? with
        | some l => exact ⟨l, rfl⟩
        | none => rw [hq] at hds1; simp at hds1
      rw [hl] at hds1
      simp only [chkAt, Bool.and_eq_true, decide_eq_true_eq] at hds1
      obtain ⟨⟨hc1, hc2⟩, hc3⟩ := hds1
      have hbefore : ∀ k, bef ops i k = true → listed.getD k false = true := fun k hk => closed_mask hb hcl i k o ho hedges hk
      have hdown : ∀ j k, listed.getD j false = true → bef ops j k = true → listed.getD k false = true := by
        intro j k hj hk
        cases hoj : ops[j]? with
        | none => unfold bef at hk; rw [mask_none hoj] at hk; cases hk
        | some oj => exact closed_mask hb hcl j k oj hoj (fun e he hbd => hcl j oj hoj hj e he hbd) hk
      have hafter : ∀ j, listed.getD j false = true → bef ops j i = false := by
        intro j hj
        cases hq : bef ops j i with
        | false => rfl
        | true => have := hdown j i hj hq; rw [hni] at this; cases this
      have hgt : ∀ k, i < k → k < ops.size → listed.getD k false = true → ∀ ok, ops[k]? = some ok → o.apart ops ok = true := fun k hik hk hkl ok hok => looks_apart hap hik hk (hafter k hkl) ho hok
      have hdst : ∀ {k t}, dstOf ops k = some t → ∃ ok, ops[k]? = some ok ∧ ok.dst = some t := by
        intro k t h
        unfold dstOf at h
        cases hok : ops[k]? with
        | none => rw [hok] at h; cases h
        | some ok => rw [hok] at h; exact ⟨ok, rfl, h⟩
      have hpl : ∀ p ∈ l, bef ops i p.1 = true ∧ dstOf ops p.1 = some p.2 := by
        intro p hp
        have := List.all_eq_true.1 hc1 p hp
        simpa using this
      have hblt : ∀ {k}, bef ops i k = true → k < i := fun hk => mask_lt hb i _ hk
      -- what it looks at
      have hlook : ∀ t ∈ o.looksAt ops, envD (setE vals l fr.env) t = envD fc.env t := by
        intro t ht
        unfold envD
        congr 1
        have hc := List.all_eq_true.1 hc3 t ht
        have noafter : ∀ k, i < k → k < ops.size → listed.getD k false = true → dstOf ops k ≠ some t := by
          intro k hik hk hkl e
          obtain ⟨ok, hok, hod⟩ := hdst e
          exact (Oper.apart_spec (hgt k hik hk hkl ok hok)).2.2 t hod ht
        cases hw : lastW ops i t with
        | some j =>
          rw [hw] at hc
          simp only [List.contains_eq_mem, decide_eq_true_eq] at hc
          obtain ⟨a, b, c⟩ := lastW_some hw
          rw [setE_in l fr.env hc2 hc]
          refine (I.e1 j t (by omega) (hbefore j (hpl _ hc).1) b ?_).symm
          intro k hk1 hk2 hkl
          rcases Nat.lt_trichotomy k i with hki | rfl | hki
          · exact c k hk1 hki
          · rw [hni] at hkl; cases hkl
          · exact noafter k hki hk2 hkl
        | none =>
          have hn := lastW_none hw
          rw [setE_out l fr.env fun p hp e => hn p.1 (hblt (hpl p hp).1) (by rw [← e]; exact (hpl p hp).2)]
          refine (I.e2 t ?_).symm
          intro k hk hkl
          rcases Nat.lt_trichotomy k i with hki | rfl | hki
          · exact hn k hki
          · rw [hni] at hkl; cases hkl
          · exact noafter k hki hk hkl
      have hstep := hop i o l ho hl _ vals sc fsc I.a hni fun p hp => hbefore p.1 (hpl p hp).1
      refine xGO_frame (f1 := { fr with env := setE vals l fr.env }) hlook I.n fsc ?_ ?_ hstep
      · intro v g s' fs' hg hA'
        show xAny P ops Q n (listed.setIfInBounds i true) g s'
        have hset : ∀ k, (listed.setIfInBounds i true).getD k false = (listed.getD k false || decide (k = i)) := by
          intro k
          by_cases hki : k = i
          · subst hki; simp [hll]
          · rw [getD_set_ne false (Ne.symm hki)]; simp [hki]
        obtain ⟨gn, gd, ge⟩ := putF_env hg
        have hfun : (fun k => (listed.setIfInBounds i true).getD k false) = updB (fun k => listed.getD k false) i := by
          funext k
          rw [hset]
          unfold updB
          by_cases hki : k = i
          · simp [hki]
          · simp [hki]
        refine ih (listed.setIfInBounds i true) g s' (updV vals i v) (by simpa using hsz) ?_ ?_ fs' ⟨by rw [hfun]; exact hA', gn.trans I.n, gd.trans I.defs, ?_, ?_⟩
        · intro j oj hoj hj e he hbd
          by_cases hji : j = i
          · subst hji
            rw [ho] at hoj; cases hoj
            exact getD_set_true (hedges e he hbd)
          · rw [getD_set_ne false (Ne.symm hji)] at hj
            exact getD_set_true (hcl j oj hoj hj e he hbd)
        · have := countP_less (p := fun j => !listed.getD j false) (q := fun j => !(listed.setIfInBounds i true).getD j false) (i := i) (by simp only [hni]; rfl) (by simp [hll]) (fun j hj => by
            by_cases hji : j = i
            · subst hji; simp only [hni]; rfl
            · rw [getD_set_ne false (Ne.symm hji)] at hj; exact hj) (List.range ops.size) (List.mem_range.2 hlt)
          unfold unl at hu ⊢
          omega
        · intro j t hj hjl hjt hlast
          rw [ge t]
          by_cases hit : o.dst = some t
          · rw [if_pos hit]
            have hidst : dstOf ops i = some t := by unfold dstOf; rw [ho]; exact hit
            have hjli : j = i := by
              apply Classical.byContradiction
              intro hji
              rw [hset] at hjl
              simp only [hji, decide_false, Bool.or_false] at hjl
              rcases Nat.lt_or_gt_of_ne hji with h | h
              · exact hlast i h hlt (by rw [hset]; simp) hidst
              · obtain ⟨ok, hok, hod⟩ := hdst hjt
                exact (Oper.apart_spec (hgt j h hj hjl ok hok)).2.1 t hit hod
            subst hjli
            simp [updV]
          · rw [if_neg hit]
            have hji : j ≠ i := by
              intro e; subst e
              unfold dstOf at hjt; rw [ho] at hjt
              exact hit hjt
            rw [hset] at hjl
            simp only [hji, decide_false, Bool.or_false] at hjl
            simp only [updV, if_neg hji]
            exact I.e1 j t hj hjl hjt fun k hk1 hk2 hkl => hlast k hk1 hk2 (by rw [hset, hkl]; rfl)
        · intro t hno
          rw [ge t]
          have hit : o.dst ≠ some t := by
            intro e
            refine hno i hlt (by rw [hset]; simp) ?_
            unfold dstOf; rw [ho]; exact e
          rw [if_neg hit]
          exact I.e2 t fun j hj hjl => hno j hj (by rw [hset, hjl]; rfl)
      · intro v s' fs' hx
        refine hpan v fc s' fs' I.n I.defs (fun t ht => I.e2 t fun j hj _ e => ?_) hx
        have := List.all_eq_true.1 ht j (List.mem_range.2 hj)
        rw [e] at this
        simp at this
  refine go ops.size _ fr s (fun _ => undef) (by simp) ?_ ?_ hf ⟨?_, rfl, rfl, ?_, fun _ _ => rfl⟩
  · intro i o _ hl; rw [getD_replicate_false] at hl; cases hl
  · unfold unl
    exact Nat.le_trans List.countP_le_length (by simp)
  · have : (fun j => (Array.replicate ops.size false).getD j false) = fun _ => false := by funext j; exact getD_replicate_false _ _
    rw [this]; exact hA
  · intro j t _ hl; rw [getD_replicate_false] at hl; cases hl

/-! ### the same, one operation behind the other -/
def allL (L : Nat → Bool) : List (Nat × Nat) → Prop
  | [] => True
  | p :: r => L p.1 = true ∧ allL L r
theorem allL_iff {L : Nat → Bool} : ∀ {l : List (Nat × Nat)}, (∀ p ∈ l, L p.1 = true) → allL L l
  | [], _ => trivial
  | p :: r, h => ⟨h p (by simp), allL_iff fun q hq => h q (by simp [hq])⟩
def Obls (P : Program) (ops : Array Oper) (fr : Fr) (A : (Nat → Bool) → (Nat → Value) → ST → Prop) (X : Value → ST → Prop) : Nat → List Oper → List (List (Nat × Nat)) → Prop
  | i, o :: os, l :: ls => (∀ (L : Nat → Bool) (vals : Nat → Value) (s : ST), s.Free → A L vals s → L i = false → allL L l → wOps P ops [o] { fr with env := setE vals l fr.env } s (SRv { fr with env := setE vals l fr.env } o.dst (fun v s' => A (updB L i) (updV vals i v) s') X)) ∧ Obls P ops fr A X (i + 1) os ls
  | _, [], _ => True
  | _, _ :: _, [] => False
theorem obls_at {ops : Array Oper} {fr : Fr} {A : (Nat → Bool) → (Nat → Value) → ST → Prop} {X : Value → ST → Prop} : ∀ (os : List Oper) (ls : List (List (Nat × Nat))) (k : Nat), Obls P ops fr A X k os ls → ∀ (i : Nat) (o : Oper) (l : List (Nat × Nat)), os[i]? = some o → ls[i]? = some l →
    ∀ (L : Nat → Bool) (vals : Nat → Value) (s : ST), s.Free → A L vals s → L (k + i) = false → (∀ p ∈ l, L p.1 = true) → wOps P ops [o] { fr with env := setE vals l fr.env } s (SRv { fr with env := setE vals l fr.env } o.dst (fun v s' => A (updB L (k + i)) (updV vals (k + i) v) s') X)
  | [], ls, k, h, i, o, l, ho, hl => by simp at ho
  | o1 :: os, [], k, h, i, o, l, ho, hl => by simp at hl
  | o1 :: os, l1 :: ls, k, h, i, o, l, ho, hl => by
    intro L vals s f hA hLi hL
    cases i with
    | zero =>
      simp at ho hl
      subst ho hl
      exact h.1 L vals s f hA hLi (allL_iff hL)
    | succ i =>
      simp at ho hl
      have := obls_at os ls (k + 1) h.2 i o l ho hl L vals s f hA (by rw [← hLi]; congr 1; omega) hL
      rw [show k + (i + 1) = k + 1 + i by omega]
      exact this
theorem w_draw {l : List Oper} {fr : Fr} {s : ST} {Q : SR → ST → Prop} (ds : List (List (Nat × Nat))) (fs : List (Nat × Nat)) (hck : drawOk l.toArray ds fs = true) (A : (Nat → Bool) → (Nat → Value) → ST → Prop) (X : Value → ST → Prop) (hA : A (fun _ => false) (fun _ => undef) s) (hf : s.Free)
    (hop : Obls P l.toArray fr A X 0 l ds)
    (hend : ∀ (L : Nat → Bool) (vals : Nat → Value) (s' : ST), s'.Free → (∀ j, j < l.length → L j = true) → A L vals s' → Q (.next { fr with env := setE vals fs fr.env }) s')
    (hpan : ∀ (v : Value) (f : Fr) (s' : ST), s'.Free → f.n = fr.n → f.defs = fr.defs → (∀ t, (List.range l.toArray.size).all (fun j => dstOf l.toArray j != some t) = true → f.env.get t = fr.env.get t) → X v s' → Q (.panic v f) s') : wDraw P l.toArray fr s Q := by
  refine draw_gen ds fs hck A X hA hf ?_ (by simpa using hend) hpan
  intro i o li ho hli L vals s' f hA' hLi hL
  have h := obls_at l ds 0 hop i o li (by simpa using ho) hli L vals s' f hA' (by simpa using hLi) hL
  rw [Nat.zero_add] at h
  refine xGO_mono f (show xGO P l.toArray o { fr with env := setE vals li fr.env } s' (xSR (fun f s'' => SRv { fr with env := setE vals li fr.env } o.dst (fun v s' => A (updB L i) (updV vals i v) s') X (.next f) s'') (SRv { fr with env := setE vals li fr.env } o.dst (fun v s' => A (updB L i) (updV vals i v) s') X)) from h) ?_
  intro x s f hx
  cases x with
  | next g => exact hx
  | panic v g => exact hx
end
end Go.Proofs.YtgpfgcbolinncaaGreat.Abs
