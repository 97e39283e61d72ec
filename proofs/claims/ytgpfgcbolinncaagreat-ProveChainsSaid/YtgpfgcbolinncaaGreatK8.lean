/- The quick run: code, functions, what is deferred, calls. The quick run: what is known of the regions ahead, as a table; a run that says yes. -/
import Derived.Test.YtgpfgcbolinncaaGreatK6
import Derived.Test.YtgpfgcbolinncaaGreatM0
set_option linter.unusedVariables false
set_option linter.unusedSimpArgs false
namespace Go.Proofs.YtgpfgcbolinncaaGreat.Abs
open Go Go.RowKit
noncomputable section

def ceK (kn : KN) (kx : KX) (e : Env) (d : List Deferred) (x : KS) : CE → Bool
  | .normal => kn e d x
  | ce => kx ce e d x
def CSound (n : Nat) (m : CK) (a : CallT → Nat → Fr → AM (CE × Fr)) : Prop := ∀ c call, CtxOk c call → ∀ e d fr, FrK n e d fr → ∀ x s kn kx, KRel x s → s.Free → m c e d x kn kx = true →
  ∃ ce fr' s' x', a call c.it fr s = some ((ce, fr'), s') ∧ KRel x' s' ∧ s'.Free ∧ ∃ e' d', FrK n e' d' fr' ∧ ceK kn kx e' d' x' ce = true
theorem CSound.of_sr {n : Nat} {m : CK} {a : CallT → Fr → AM SR} (h : SRSound n m a) : CSound n m (fun call _ fr => AM.andThen (a call fr) ofSR) := by
  intro c call hc e d fr hf x s kn kx R free hm
  obtain ⟨r, s', x', h1, R1, f1, h2⟩ := h c call hc e d fr hf x s kn kx R free hm
  cases r with
  | next f =>
    obtain ⟨e', d', hf', hk⟩ := h2
    exact ⟨.normal, f, s', x', (andThen_eq h1).trans rfl, R1, f1, e', d', hf', hk⟩
  | panic v f =>
    obtain ⟨e', d', hf', hk⟩ := h2
    exact ⟨.panic v, f, s', x', (andThen_eq h1).trans rfl, R1, f1, e', d', hf', hk⟩
def failC : CK := fun _ _ _ _ _ _ => false
theorem CSound.fail (n : Nat) (a : CallT → Nat → Fr → AM (CE × Fr)) : CSound n failC a := fun c call hc e d fr hf x s kn kx R free h => by cases h
section
variable (P : Program) (fn : FnTab) (n : Nat)
/-- what is known of a region ahead: its tail, or none -/
abbrev Hint := Nat → Option Nat
def openB (h : Hint) (id : Nat) (ops : Array Oper) : Bool := match h id with
  | some k => tailN ops == some k
  | none => tailN ops == none && (edgesBack 0 ops.toList && apartN ops (masksOf ops) ops.size)
def hintB (h : Hint) : Code → Bool
  | .region id ops true => openB h id ops
  | .seq a b => hintB h a && hintB h b
  | .cond _ a b => hintB h a && hintB h b
  | .block _ a => hintB h a
  | .loop a => hintB h a
  | _ => true
variable (hint : Hint)
def openW (id : Nat) (ops : Array Oper) : W CK := match hint id with
  | some k => tailW P fn n ops k
  | none => drawW P fn n ops
theorem openW_ok {id : Nat} {ops : Array Oper} (hh : openB hint id ops = true) : SRSound n (openW P fn n hint id ops).val (fun call fr => evalOpen P fn call ops fr) := by
  unfold openW evalOpen
  unfold openB at hh
  cases hi : hint id with
  | some k =>
    rw [hi] at hh
    have : tailN ops = some k := eq_of_beq hh
    rw [this]
    exact tailW_ok P fn n ops k
  | none =>
    rw [hi] at hh
    simp only [Bool.and_eq_true] at hh
    have : tailN ops = none := eq_of_beq hh.1
    rw [this]
    exact drawW_ok ops hh.2.1 hh.2.2
def blkK (id : Nat) (kn : KN) (kx : KX) : KX := fun ce e d s => CE.casesOn (motive := fun _ => Bool) ce (kn e d s) (fun i => b2 (Nat.beq i id) (kn e d s) (kx (.exit i) e d s)) (kx .ret e d s) (fun v => kx (.panic v) e d s)
def codeW (c : Code) : W CK := Code.rec (motive := fun _ => W CK)
  ⟨fun _ e d s kn _ => kn e d s⟩
  (fun id ops draw => b2 draw (openW P fn n hint id ops) (opsW P fn n ops ops.toList))
  (fun _ _ iha ihb => ⟨fun c e d s kn kx => iha.val c e d s (fun e d s => ihb.val c e d s kn kx) kx⟩)
  (fun x _ _ iha ihb => ⟨fun c e d s kn kx => vBool ((opdW x).val e) (fun b => b2 b (iha.val c e d s kn kx) (ihb.val c e d s kn kx)) false⟩)
  (fun id _ ih => ⟨fun c e d s kn kx => ih.val c e d s kn (blkK id kn kx)⟩)
  (fun _ ih => ⟨fun c e d s kn kx => Nat.rec (motive := fun _ => KN) (fun _ _ _ => false) (fun _ again e d s => ih.val c e d s again kx) c.it e d s⟩)
  (fun _ _ _ _ _ _ => ⟨failC⟩)
  (fun id => ⟨fun _ e d s _ kx => kx (.exit id) e d s⟩)
  (fun _ _ => ⟨failC⟩)
  (fun _ => ⟨fun _ e d s kn _ => kn e d s⟩)
  (fun _ => ⟨failC⟩)
  ⟨fun _ e d s _ kx => kx .ret e d s⟩
  (fun _ => ⟨failC⟩) c
theorem codeW_ok : ∀ (c : Code), hintB hint c = true → CSound n (codeW P fn n hint c).val (fun call it fr => evalCode P fn call it c fr) := by
  intro c
  induction c with
  | skip => exact fun _ c call hc e d fr hf x s kn kx R free h => ⟨.normal, fr, s, x, rfl, R, free, e, d, hf, h⟩
  | label l => exact fun _ c call hc e d fr hf x s kn kx R free h => ⟨.normal, fr, s, x, rfl, R, free, e, d, hf, h⟩
  | exit id => exact fun _ c call hc e d fr hf x s kn kx R free h => ⟨.exit id, fr, s, x, rfl, R, free, e, d, hf, h⟩
  | ret => exact fun _ c call hc e d fr hf x s kn kx R free h => ⟨.ret, fr, s, x, rfl, R, free, e, d, hf, h⟩
  | region id ops draw =>
    intro hh
    cases draw with
    | true => exact CSound.of_sr (openW_ok P fn n hint hh)
    | false => exact CSound.of_sr (opsW_ok P fn n ops ops.toList)
  | seq a b iha ihb =>
    intro hh
    have hh : (hintB hint a && hintB hint b) = true := hh
    rw [Bool.and_eq_true] at hh
    replace iha := iha hh.1
    replace ihb := ihb hh.2
    intro c call hc e d fr hf x s kn kx R free h
    obtain ⟨ce, f1, s1, x1, h1, R1, fr1, e1, d1, hf1, h2⟩ := iha c call hc e d fr hf x s (fun e d s => (codeW P fn n hint b).val c e d s kn kx) kx R free h
    cases ce with
    | normal =>
      obtain ⟨ce2, f2, s2, x2, h3, q⟩ := ihb c call hc e1 d1 f1 hf1 x1 s1 kn kx R1 fr1 h2
      exact ⟨ce2, f2, s2, x2, (andThen_eq h1).trans h3, q⟩
    | exit i => exact ⟨.exit i, f1, s1, x1, (andThen_eq h1).trans rfl, R1, fr1, e1, d1, hf1, h2⟩
    | ret => exact ⟨.ret, f1, s1, x1, (andThen_eq h1).trans rfl, R1, fr1, e1, d1, hf1, h2⟩
    | panic v => exact ⟨.panic v, f1, s1, x1, (andThen_eq h1).trans rfl, R1, fr1, e1, d1, hf1, h2⟩
  | cond y a b iha ihb =>
    intro hh
    have hh : (hintB hint a && hintB hint b) = true := hh
    rw [Bool.and_eq_true] at hh
    replace iha := iha hh.1
    replace ihb := ihb hh.2
    intro c call hc e d fr hf x s kn kx R free h
    have h : vBool ((opdW y).val e) (fun b' => b2 b' ((codeW P fn n hint a).val c e d x kn kx) ((codeW P fn n hint b).val c e d x kn kx)) false = true := h
    obtain ⟨t, hv, h2⟩ := vBool_true h
    rw [opdW_eq hf.env] at hv
    have hb : AM.ofOption (boolOf (evalV fr.env y)) s = some (t, s) := by rw [hv]; rfl
    cases t with
    | true =>
      obtain ⟨ce2, f2, s2, x2, h3, q⟩ := iha c call hc e d fr hf x s kn kx R free h2
      exact ⟨ce2, f2, s2, x2, (andThen_eq hb).trans h3, q⟩
    | false =>
      obtain ⟨ce2, f2, s2, x2, h3, q⟩ := ihb c call hc e d fr hf x s kn kx R free h2
      exact ⟨ce2, f2, s2, x2, (andThen_eq hb).trans h3, q⟩
  | block id a ih =>
    intro hh
    replace ih := ih hh
    intro c call hc e d fr hf x s kn kx R free h
    obtain ⟨ce, f1, s1, x1, h1, R1, fr1, e1, d1, hf1, h2⟩ := ih c call hc e d fr hf x s kn (blkK id kn kx) R free h
    cases ce with
    | normal => exact ⟨.normal, f1, s1, x1, (andThen_eq h1).trans rfl, R1, fr1, e1, d1, hf1, h2⟩
    | ret => exact ⟨.ret, f1, s1, x1, (andThen_eq h1).trans rfl, R1, fr1, e1, d1, hf1, h2⟩
    | panic v => exact ⟨.panic v, f1, s1, x1, (andThen_eq h1).trans rfl, R1, fr1, e1, d1, hf1, h2⟩
    | exit i =>
      have h2 : b2 (Nat.beq i id) (kn e1 d1 x1) (kx (.exit i) e1 d1 x1) = true := h2
      by_cases hi : i = id
      · subst hi
        rw [show Nat.beq i i = true from Nat.beq_refl i] at h2
        exact ⟨.normal, f1, s1, x1, (andThen_eq h1).trans (by show AM.ret (inBlk i (.exit i), f1) s1 = _; simp [inBlk]; rfl), R1, fr1, e1, d1, hf1, h2⟩
      · have : Nat.beq i id = false := by cases hb : Nat.beq i id with | false => rfl | true => exact absurd (Nat.eq_of_beq_eq_true hb) hi
        rw [this] at h2
        exact ⟨.exit i, f1, s1, x1, (andThen_eq h1).trans (by show AM.ret (inBlk id (.exit i), f1) s1 = _; simp [inBlk, hi]; rfl), R1, fr1, e1, d1, hf1, h2⟩
  | loop a ih =>
    intro hh
    replace ih := ih hh
    intro c call hc
    have key : ∀ (m : Nat) e d fr, FrK n e d fr → ∀ x s kn kx, KRel x s → s.Free → Nat.rec (motive := fun _ => KN) (fun _ _ _ => false) (fun _ again e d s => (codeW P fn n hint a).val c e d s again kx) m e d x = true →
        ∃ ce fr' s' x', loopA (evalCode P fn call c.it a) m fr s = some ((ce, fr'), s') ∧ KRel x' s' ∧ s'.Free ∧ ∃ e' d', FrK n e' d' fr' ∧ ceK kn kx e' d' x' ce = true := by
      intro m
      induction m with
      | zero => intro e d fr hf x s kn kx R free h; cases h
      | succ m ihm =>
        intro e d fr hf x s kn kx R free h
        obtain ⟨ce, f1, s1, x1, h1, R1, fr1, e1, d1, hf1, h2⟩ := ih c call hc e d fr hf x s _ kx R free h
        cases ce with
        | normal =>
          obtain ⟨ce2, f2, s2, x2, h3, q⟩ := ihm e1 d1 f1 hf1 x1 s1 kn kx R1 fr1 h2
          exact ⟨ce2, f2, s2, x2, (andThen_eq h1).trans h3, q⟩
        | exit i => exact ⟨.exit i, f1, s1, x1, (andThen_eq h1).trans rfl, R1, fr1, e1, d1, hf1, h2⟩
        | ret => exact ⟨.ret, f1, s1, x1, (andThen_eq h1).trans rfl, R1, fr1, e1, d1, hf1, h2⟩
        | panic v => exact ⟨.panic v, f1, s1, x1, (andThen_eq h1).trans rfl, R1, fr1, e1, d1, hf1, h2⟩
    exact fun e d fr hf x s kn kx R free h => key c.it e d fr hf x s kn kx R free h
  | _ => exact fun _ => CSound.fail n _

/-! ### deferred functions: recover -/
abbrev KNS := Env → List Deferred → UM → KS → Bool
abbrev KXS := CE → Env → List Deferred → UM → KS → Bool
abbrev CKS := Ctx → Env → List Deferred → UM → KS → KNS → KXS → Bool
def isRec (o : Oper) : Bool := match o.guard, o.op with
  | none, .call c => match c.callee with
    | .builtin .recover => true
    | _ => false
  | _, _ => false
def opsSW (ops : Array Oper) (l : List Oper) : W CKS := List.rec (motive := fun _ => W CKS) ⟨fun c e d u s kn kx => kn e d u s⟩
  (fun o r ih => b2 (isRec o) ⟨fun c e d u s kn kx => (putW n o.dst).val e (recA u).1 fun e => ih.val c e d (recA u).2 s kn kx⟩
    ⟨fun c e d u s kn kx => (stepW P fn n ops o).val c e d s (fun e d s => ih.val c e d u s kn kx) (fun ce e d s => kx ce e d u s)⟩) l
def SRS (n : Nat) (m : CKS) (a : CallT → Fr → UM → AM (SR × UM)) : Prop := ∀ c call, CtxOk c call → ∀ e d fr, FrK n e d fr → ∀ u x s kn kx, KRel x s → s.Free → m c e d u x kn kx = true →
  ∃ r s' x', a call fr u s = some (r, s') ∧ KRel x' s' ∧ s'.Free ∧ srK n (fun e d s => kn e d r.2 s) (fun ce e d s => kx ce e d r.2 s) x' r.1
theorem opsSW_ok (ops : Array Oper) : ∀ (l : List Oper), SRS n (opsSW P fn n ops l).val (fun call fr u => evalOpsS P fn call ops l fr u)
  | [] => fun c call hc e d fr hf u x s kn kx R free h => ⟨(.next fr, u), s, x, rfl, R, free, e, d, hf, h⟩
  | o :: r => by
    intro c call hc e d fr hf u x s kn kx R free h
    have h : (b2 (isRec o) ⟨fun c e d u s kn kx => (putW n o.dst).val e (recA u).1 fun e => (opsSW P fn n ops r).val c e d (recA u).2 s kn kx⟩
      ⟨fun c e d u s kn kx => (stepW P fn n ops o).val c e d s (fun e d s => (opsSW P fn n ops r).val c e d u s kn kx) (fun ce e d s => kx ce e d u s)⟩ : W CKS).val c e d u x kn kx = true := h
    cases hr : isRec o with
    | true =>
      rw [hr] at h
      obtain ⟨fr', e', hp, he, hn, hd, hk⟩ := putW_some h hf.env hf.n
      obtain ⟨z, s2, x2, h4, q⟩ := opsSW_ok ops r c call hc e' d fr' ⟨he, hn, hd.trans hf.defs⟩ (recA u).2 x s kn kx R free hk
      have hg : guardOk ops fr.env o = some true ∧ evalOp P fn (evalV fr.env) o s = some (.recover, s) := by
        unfold isRec at hr
        split at hr
        · rename_i cl hgd hop
          split at hr
          · rename_i hcal
            refine ⟨by unfold guardOk; rw [hgd], ?_⟩
            unfold evalOp
            rw [hop]
            simp only [hcal]
            rfl
          · cases hr
        · cases hr
      refine ⟨z, s2, x2, ?_, q⟩
      show AM.andThen (AM.ofOption (guardOk ops fr.env o)) _ s = _
      rw [hg.1]
      refine (andThen_eq (ofOption_eq true s)).trans ?_
      rw [if_pos rfl]
      refine (andThen_eq hg.2).trans ?_
      exact (andThen_eq (s := s) (s' := s) (by rw [hp]; rfl)).trans h4
    | false =>
      rw [hr, b2_false] at h
      obtain ⟨y, s1, x1, h1, R1, f1, h2⟩ := stepW_ok P fn n ops o c call hc e d fr hf x s (fun e d s => (opsSW P fn n ops r).val c e d u s kn kx) (fun ce e d s => kx ce e d u s) R free h
      obtain ⟨ov, s3, h3, h4⟩ := AM.andThen_some h1
      obtain ⟨g, s4, h5, h6⟩ := AM.andThen_some h3
      obtain ⟨hg, rfl⟩ := ofOption_some h5
      -- what is left, behind a step that says y
      have go : ∀ (w : SR × UM) (s2 : ST), (match y with | .next f => evalOpsS P fn call ops r f u | .panic v f => AM.ret (.panic v f, u)) s1 = some (w, s2) → evalOpsS P fn call ops (o :: r) fr u s4 = some (w, s2) := by
        intro w s2 hw
        show AM.andThen (AM.ofOption (guardOk ops fr.env o)) _ s4 = _
        rw [hg]
        refine (andThen_eq (ofOption_eq g s4)).trans ?_
        cases g with
        | true =>
          rw [if_pos rfl] at h6 ⊢
          obtain ⟨ar, s5, h7, h8⟩ := AM.andThen_some h6
          refine (andThen_eq h7).trans ?_
          have fin : AM.andThen (AM.andThen (opRes call ar) (applyOV o fr)) (fun (x : SR) => match x with
            | .next f => evalOpsS P fn call ops r f u
            | .panic v f => AM.ret (.panic v f, u)) s5 = some (w, s2) := by
            refine (andThen_eq ((andThen_eq h8).trans h4)).trans ?_
            exact hw
          cases ar with
          | recover => cases h8
          | _ => exact fin
        | false =>
          rw [if_neg (by simp)] at h6 ⊢
          obtain ⟨rfl, rfl⟩ := ret_some h6
          obtain ⟨f, s5, h9, h10⟩ := AM.andThen_some (show AM.andThen (AM.ofOption (putF fr o.dst undef)) (fun f => AM.ret (SR.next f)) s3 = some (y, s1) from h4)
          obtain ⟨rfl, rfl⟩ := ret_some h10
          exact (andThen_eq h9).trans hw
      cases y with
      | next f =>
        obtain ⟨e1, d1, hf1, h7⟩ := h2
        obtain ⟨z, s2, x2, h8, q⟩ := opsSW_ok ops r c call hc e1 d1 f hf1 u x1 s1 kn kx R1 f1 h7
        exact ⟨z, s2, x2, go z s2 h8, q⟩
      | panic v f => exact ⟨(.panic v f, u), s1, x1, go _ _ rfl, R1, f1, h2⟩
def ceKS (kn : KNS) (kx : KXS) (e : Env) (d : List Deferred) (u : UM) (x : KS) : CE → Bool
  | .normal => kn e d u x
  | ce => kx ce e d u x
def CSS (n : Nat) (m : CKS) (a : CallT → Nat → Fr → UM → AM ((CE × Fr) × UM)) : Prop := ∀ c call, CtxOk c call → ∀ e d fr, FrK n e d fr → ∀ u x s kn kx, KRel x s → s.Free → m c e d u x kn kx = true →
  ∃ ce fr' u' s' x', a call c.it fr u s = some (((ce, fr'), u'), s') ∧ KRel x' s' ∧ s'.Free ∧ ∃ e' d', FrK n e' d' fr' ∧ ceKS kn kx e' d' u' x' ce = true
def plainS (m : CK) : CKS := fun c e d u s kn kx => m c e d s (fun e d s => kn e d u s) (fun ce e d s => kx ce e d u s)
def codeSW (c : Code) : W CKS := Code.rec (motive := fun _ => W CKS)
  ⟨plainS (codeW P fn n hint .skip).val⟩
  (fun id ops draw => b2 draw ⟨plainS (codeW P fn n hint (.region id ops true)).val⟩ (opsSW P fn n ops ops.toList))
  (fun _ _ iha ihb => ⟨fun c e d u s kn kx => iha.val c e d u s (fun e d u s => ihb.val c e d u s kn kx) kx⟩)
  (fun x _ _ iha ihb => ⟨fun c e d u s kn kx => vBool ((opdW x).val e) (fun b => b2 b (iha.val c e d u s kn kx) (ihb.val c e d u s kn kx)) false⟩)
  (fun id a _ => ⟨plainS (codeW P fn n hint (.block id a)).val⟩)
  (fun a _ => ⟨plainS (codeW P fn n hint (.loop a)).val⟩)
  (fun f ps a b _ _ => ⟨plainS (codeW P fn n hint (.rangeFunc f ps a b)).val⟩)
  (fun id => ⟨plainS (codeW P fn n hint (.exit id)).val⟩)
  (fun a _ => ⟨plainS (codeW P fn n hint (.scope a)).val⟩)
  (fun l => ⟨plainS (codeW P fn n hint (.label l)).val⟩)
  (fun l => ⟨plainS (codeW P fn n hint (.goto l)).val⟩)
  ⟨plainS (codeW P fn n hint .ret).val⟩
  (fun w => ⟨plainS (codeW P fn n hint (.refuse w)).val⟩) c
theorem plainS_ok (c : Code) (hh : hintB hint c = true) : CSS n (plainS (codeW P fn n hint c).val) (fun call it fr u => AM.andThen (evalCode P fn call it c fr) fun y => AM.ret (y, u)) := by
  intro cx call hc e d fr hf u x s kn kx R free h
  obtain ⟨ce, f1, s1, x1, h1, R1, fr1, e1, d1, hf1, h2⟩ := codeW_ok P fn n hint c hh cx call hc e d fr hf x s (fun e d s => kn e d u s) (fun ce e d s => kx ce e d u s) R free h
  exact ⟨ce, f1, u, s1, x1, (andThen_eq h1).trans rfl, R1, fr1, e1, d1, hf1, by cases ce <;> exact h2⟩
theorem codeSW_ok : ∀ (c : Code), hintB hint c = true → CSS n (codeSW P fn n hint c).val (fun call it fr u => evalCodeS P fn call it c fr u) := by
  intro c
  induction c with
  | region id ops draw =>
    intro hh
    cases draw with
    | true => exact plainS_ok P fn n hint (.region id ops true) hh
    | false =>
      intro c call hc e d fr hf u x s kn kx R free h
      obtain ⟨r, s', x', h1, R1, f1, h2⟩ := opsSW_ok P fn n ops ops.toList c call hc e d fr hf u x s kn kx R free h
      obtain ⟨r, u'⟩ := r
      cases r with
      | next f =>
        obtain ⟨e', d', hf', hk⟩ := h2
        exact ⟨.normal, f, u', s', x', (andThen_eq h1).trans rfl, R1, f1, e', d', hf', hk⟩
      | panic v f =>
        obtain ⟨e', d', hf', hk⟩ := h2
        exact ⟨.panic v, f, u', s', x', (andThen_eq h1).trans rfl, R1, f1, e', d', hf', hk⟩
  | seq a b iha ihb =>
    intro hh
    have hh : (hintB hint a && hintB hint b) = true := hh
    rw [Bool.and_eq_true] at hh
    replace iha := iha hh.1
    replace ihb := ihb hh.2
    intro c call hc e d fr hf u x s kn kx R free h
    obtain ⟨ce, f1, u1, s1, x1, h1, R1, fr1, e1, d1, hf1, h2⟩ := iha c call hc e d fr hf u x s (fun e d u s => (codeSW P fn n hint b).val c e d u s kn kx) kx R free h
    cases ce with
    | normal =>
      obtain ⟨ce2, f2, u2, s2, x2, h3, q⟩ := ihb c call hc e1 d1 f1 hf1 u1 x1 s1 kn kx R1 fr1 h2
      exact ⟨ce2, f2, u2, s2, x2, (andThen_eq h1).trans h3, q⟩
    | exit i => exact ⟨.exit i, f1, u1, s1, x1, (andThen_eq h1).trans rfl, R1, fr1, e1, d1, hf1, h2⟩
    | ret => exact ⟨.ret, f1, u1, s1, x1, (andThen_eq h1).trans rfl, R1, fr1, e1, d1, hf1, h2⟩
    | panic v => exact ⟨.panic v, f1, u1, s1, x1, (andThen_eq h1).trans rfl, R1, fr1, e1, d1, hf1, h2⟩
  | cond y a b iha ihb =>
    intro hh
    have hh : (hintB hint a && hintB hint b) = true := hh
    rw [Bool.and_eq_true] at hh
    replace iha := iha hh.1
    replace ihb := ihb hh.2
    intro c call hc e d fr hf u x s kn kx R free h
    have h : vBool ((opdW y).val e) (fun b' => b2 b' ((codeSW P fn n hint a).val c e d u x kn kx) ((codeSW P fn n hint b).val c e d u x kn kx)) false = true := h
    obtain ⟨t, hv, h2⟩ := vBool_true h
    rw [opdW_eq hf.env] at hv
    have hb : AM.ofOption (boolOf (evalV fr.env y)) s = some (t, s) := by rw [hv]; rfl
    cases t with
    | true =>
      obtain ⟨ce2, f2, u2, s2, x2, h3, q⟩ := iha c call hc e d fr hf u x s kn kx R free h2
      exact ⟨ce2, f2, u2, s2, x2, (andThen_eq hb).trans h3, q⟩
    | false =>
      obtain ⟨ce2, f2, u2, s2, x2, h3, q⟩ := ihb c call hc e d fr hf u x s kn kx R free h2
      exact ⟨ce2, f2, u2, s2, x2, (andThen_eq hb).trans h3, q⟩
  | skip => exact plainS_ok P fn n hint .skip
  | block id a _ => exact plainS_ok P fn n hint (.block id a)
  | loop a _ => exact plainS_ok P fn n hint (.loop a)
  | rangeFunc f ps a b _ _ => exact plainS_ok P fn n hint (.rangeFunc f ps a b)
  | exit id => exact plainS_ok P fn n hint (.exit id)
  | scope a _ => exact plainS_ok P fn n hint (.scope a)
  | label l => exact plainS_ok P fn n hint (.label l)
  | goto l => exact plainS_ok P fn n hint (.goto l)
  | ret => exact plainS_ok P fn n hint .ret
  | refuse w => exact plainS_ok P fn n hint (.refuse w)

/-! ### functions -/
def emptyEnv : Env := KT.fill undef 2
def argsE (N : Nat) (l : List Value) (i : Nat) (e : Env) (k : Env → Bool) : Bool := List.rec (motive := fun _ => Nat → Env → Bool) (fun _ e => k e) (fun v _ ih i e => (putW N (some i)).val e v fun e => force (Nat.add i 1) fun i => ih i e) l i e
theorem argsE_true {N : Nat} {k : Env → Bool} : ∀ {l : List Value} {i : Nat} {e : Env}, argsE N l i e k = true → ∃ e', (∀ t, KT.get undef 2 e' t = if i ≤ t ∧ t < i + l.length then (l[t - i]?).getD undef else KT.get undef 2 e t) ∧ (l ≠ [] → i + l.length ≤ N) ∧ k e' = true
  | [], i, e, h => ⟨e, fun t => by rw [if_neg (by simp)], fun h => absurd rfl h, h⟩
  | v :: l, i, e, h => by
    have h : (putW N (some i)).val e v (fun e => argsE N l (i + 1) e k) = true := h
    simp only [putW] at h
    cases hb : ltB i N with
    | false => rw [hb] at h; cases h
    | true =>
      rw [hb] at h
      obtain ⟨hf, h⟩ := setW_some 2 i e v _ h
      obtain ⟨e', h1, h2, h3⟩ := argsE_true h
      refine ⟨e', fun t => ?_, fun _ => ?_, h3⟩
      · rw [h1 t, KT.get_put undef 2 e i t v hf]
        by_cases e1 : t = i
        · subst e1
          rw [if_neg (by omega), if_pos rfl, if_pos (by simp)]
          simp
        · by_cases e2 : i + 1 ≤ t ∧ t < i + 1 + l.length
          · rw [if_pos e2, if_pos (by simp; omega), show t - i = t - (i + 1) + 1 by omega]; simp
          · rw [if_neg e2, if_neg e1, if_neg (by simp; omega)]
      · have := ltB_true hb
        cases l with
        | nil => simp; omega
        | cons w l => have := h2 (by simp); simp at this ⊢; omega
theorem frOf_frK {F : FnBody} {args : List Value} {k : Env → Bool} (h : argsE F.2.1 args 0 emptyEnv k = true) : ∃ e, FrK F.2.1 e [] (frOf F args.toArray) ∧ k e = true := by
  obtain ⟨e, h1, h2, h3⟩ := argsE_true h
  refine ⟨e, ⟨⟨fun t => ?_⟩, ?_, rfl⟩, h3⟩
  · rw [h1 t]
    have : (frOf F args.toArray).env.get t = args[t]? := by
      simp only [frOf]
      rw [envOf_get]
      simp
    rw [this]
    have hz : KT.get undef 2 emptyEnv t = undef := KT.get_fill undef 2 t
    rw [hz]
    by_cases ht : t < args.length
    · rw [if_pos (by omega)]; simp
    · rw [if_neg (by omega), List.getElem?_eq_none (by omega)]; rfl
  · show args.toArray.size + (F.2.1 - args.toArray.size) = F.2.1
    have : args.toArray.size = args.length := by simp
    rw [this]
    cases args with
    | nil => simp
    | cons v l => have := h2 (by simp); omega
def resW : List ResultVar → W (Env → KM (List Value))
  | [] => ⟨fun _ s k => k [] s⟩
  | .tmp t :: r => ⟨fun e s k => (resW r).val e s fun vs s => (rtW t).val e fun v => k (v :: vs) s⟩
  | .cell a t :: r => ⟨fun e s k => (kload P t).val ((slotW a).val e) s fun v s => (resW r).val e s fun vs s => k (v :: vs) s⟩
theorem resW_ok {e : Env} {fr : Fr} (he : EnvRel e fr.env) : ∀ (l : List ResultVar), KSound ((resW P l).val e) (resL P fr l)
  | [] => .ret []
  | .tmp t :: r => by
    intro x s k R free h
    obtain ⟨vs, s', x', h1, R1, f1, h2⟩ := resW_ok he r x s (fun vs s => (rtW t).val e fun v => k (v :: vs) s) R free h
    rw [rtW_eq, he.get t] at h2
    exact ⟨_, s', x', (andThen_eq h1).trans rfl, R1, f1, h2⟩
  | .cell a t :: r => by
    intro x s k R free h
    have h : (kload P t).val ((slotW a).val e) x (fun v s => (resW P r).val e s fun vs s => k (v :: vs) s) = true := h
    rw [show (slotW a).val e = envD fr.env a from (getW_eq undef 2 a e).trans (he.get a)] at h
    obtain ⟨v, s1, x1, h1, R1, f1, h2⟩ := kload_ok P t _ x s (fun v s => (resW P r).val e s fun vs s => k (v :: vs) s) R free h
    obtain ⟨vs, s2, x2, h3, R2, f2, h4⟩ := resW_ok he r x1 s1 (fun vs s => k (v :: vs) s) R1 f1 h2
    exact ⟨_, s2, x2, (andThen_eq h1).trans ((andThen_eq h3).trans rfl), R2, f2, h4⟩
def oneK (vs : List Value) (k : Value → Bool) : Bool := List.casesOn (motive := fun _ => Bool) vs (k (.tuple ⟨vs⟩)) fun v r => List.casesOn (motive := fun _ => Bool) r (k v) fun _ _ => k (.tuple ⟨vs⟩)
theorem oneK_eq (vs : List Value) (k : Value → Bool) : oneK vs k = k (oneOf vs) := by
  cases vs with
  | nil => rfl
  | cons v r => cases r <;> rfl
def resultsK (rs : List ResultVar) : W (Env → KM Value) := ⟨fun e s k => (resW P rs).val e s fun vs s => oneK vs fun v => k v s⟩
theorem resultsK_ok {e : Env} {fr : Fr} (he : EnvRel e fr.env) (rs : Array ResultVar) : KSound ((resultsK P rs.toList).val e) (resultsA P rs fr) := by
  intro x s k R free h
  obtain ⟨vs, s', x', h1, R1, f1, h2⟩ := resW_ok P he rs.toList x s (fun vs s => oneK vs fun v => k v s) R free h
  rw [oneK_eq] at h2
  exact ⟨_, s', x', (andThen_eq h1).trans rfl, R1, f1, h2⟩
variable (hs : FuncId → Option Hint)
abbrev DefT := Ctx → List Value → UM → KS → (UM → KS → Bool) → Bool
def endDK (rs : List ResultVar) (k : UM → KS → Bool) : KNS := fun e d u s => List.casesOn (motive := fun _ => Bool) d ((resultsK P rs).val e s fun _ s => k u s) fun _ _ => false
/-- the hints are right -/
def HintsOk : Prop := ∀ f h F, hs f = some h → fn f = some F → hintB h F.1 = true
def fnDW (f : FuncId) : W DefT := match hs f, fn f with
  | some h, some F => ⟨fun c args u s k => argsE F.2.1 args 0 emptyEnv fun e => (codeSW P fn F.2.1 h F.1).val c e [] u s (endDK P F.2.2.toList k) fun ce e d u s => CE.casesOn (motive := fun _ => Bool) ce false (fun _ => false) (endDK P F.2.2.toList k e d u s) (fun _ => false)⟩
  | _, _ => ⟨fun _ _ _ _ _ => false⟩
theorem fnDW_ok (ho : HintsOk fn hs) {f : FuncId} {c : Ctx} {call : CallT} (hc : CtxOk c call) {args : List Value} {u : UM} {x : KS} {s : ST} {k : UM → KS → Bool} (R : KRel x s) (free : s.Free) (h : (fnDW P fn hs f).val c args u x k = true) :
    ∃ F u' s' x', fn f = some F ∧ evalD P fn call c.it F args.toArray u s = some (u', s') ∧ KRel x' s' ∧ s'.Free ∧ k u' x' = true := by
  unfold fnDW at h
  split at h
  rotate_left
  · cases h
  · rename_i hi F hhf hF
    obtain ⟨e, hf, h⟩ := frOf_frK h
    obtain ⟨ce, f1, u1, s1, x1, h1, R1, fr1, e1, d1, hf1, h2⟩ := codeSW_ok P fn F.2.1 hi F.1 (ho f hi F hhf hF) c call hc e [] _ hf u x s _ _ R free h
    have fin : endDK P F.2.2.toList k e1 d1 u1 x1 = true → ∃ u' s' x', (if f1.defs.isEmpty = true then AM.andThen (resultsA P F.2.2 f1) fun _ => AM.ret u1 else AM.fail) s1 = some (u', s') ∧ KRel x' s' ∧ s'.Free ∧ k u' x' = true := by
      intro hk
      unfold endDK at hk
      cases d1 with
      | cons _ _ => cases hk
      | nil =>
        obtain ⟨v, s2, x2, h3, R2, f2, h4⟩ := resultsK_ok P hf1.env F.2.2 x1 s1 (fun _ s => k u1 s) R1 fr1 hk
        refine ⟨u1, s2, x2, ?_, R2, f2, h4⟩
        rw [if_pos (by rw [hf1.defs]; rfl)]
        exact (andThen_eq h3).trans rfl
    cases ce with
    | normal =>
      obtain ⟨u', s', x', h3, q⟩ := fin h2
      exact ⟨F, u', s', x', hF, (andThen_eq h1).trans h3, q⟩
    | ret =>
      obtain ⟨u', s', x', h3, q⟩ := fin h2
      exact ⟨F, u', s', x', hF, (andThen_eq h1).trans h3, q⟩
    | exit i => cases h2
    | panic v => cases h2
def leavesK (rs : List ResultVar) (c : Ctx) (e : Env) (k : CRes → KS → Bool) (d : List Deferred) : UM → KS → Bool := List.rec (motive := fun _ => UM → KS → Bool)
  (fun u s => UM.casesOn (motive := fun _ => Bool) u ((resultsK P rs).val e s fun v s => k (.ret v) s) (fun v => k (.panic v) s) (fun _ => false))
  (fun df _ ih u s => Option.rec (motive := fun _ => Bool) false (fun t => (fnDW P fn hs t.1).val c t.2.toList u s fun u s => ih (settleU u) s) (asTarget df)) d
theorem leavesK_ok (ho : HintsOk fn hs) {c : Ctx} {call : CallT} (hc : CtxOk c call) {rs : Array ResultVar} {e : Env} {fr : Fr} (he : EnvRel e fr.env) {k : CRes → KS → Bool} : ∀ (d : List Deferred) (u : UM) (x : KS) (s : ST), KRel x s → s.Free → leavesK P fn hs rs.toList c e k d u x = true →
    ∃ r s' x', leavesA P fn call c.it rs fr d u s = some (r, s') ∧ KRel x' s' ∧ s'.Free ∧ k r x' = true
  | [], u, x, s, R, free, h => by
    cases u with
    | ret =>
      obtain ⟨v, s2, x2, h3, R2, f2, h4⟩ := resultsK_ok P he rs x s (fun v s => k (.ret v) s) R free h
      exact ⟨_, s2, x2, (andThen_eq h3).trans rfl, R2, f2, h4⟩
    | pan v => exact ⟨_, s, x, rfl, R, free, h⟩
    | rcv v => cases h
  | df :: ds, u, x, s, R, free, h => by
    have h : Option.rec (motive := fun _ => Bool) false (fun t => (fnDW P fn hs t.1).val c t.2.toList u x fun u s => leavesK P fn hs rs.toList c e k ds (settleU u) s) (asTarget df) = true := h
    cases ht : asTarget df with
    | none => rw [ht] at h; cases h
    | some t =>
      rw [ht] at h
      obtain ⟨F, u', s1, x1, hF, h1, R1, f1, h2⟩ := fnDW_ok P fn hs ho hc R free h
      obtain ⟨r, s2, x2, h3, q⟩ := leavesK_ok ho hc he ds _ x1 s1 R1 f1 h2
      refine ⟨r, s2, x2, ?_, q⟩
      have : leavesA P fn call c.it rs fr (df :: ds) u s = AM.andThen (AM.ofOption (asTarget df)) (fun t => AM.andThen (AM.ofOption (fn t.1)) fun F => AM.andThen (evalD P fn call c.it F t.2 u) fun u' => leavesA P fn call c.it rs fr ds (settleU u')) s := by
        cases u <;> rfl
      rw [this, ht]
      refine (andThen_eq (ofOption_eq t s)).trans ?_
      rw [hF]
      refine (andThen_eq (ofOption_eq F s)).trans ?_
      exact (andThen_eq h1).trans h3
def fnW (f : FuncId) : W (Ctx → List Value → KM CRes) := match hs f, fn f with
  | some h, some F => ⟨fun c args s k => argsE F.2.1 args 0 emptyEnv fun e => (codeW P fn F.2.1 h F.1).val c e [] s (fun e d s => leavesK P fn hs F.2.2.toList c e k d .ret s)
      fun ce e d s => CE.casesOn (motive := fun _ => Bool) ce false (fun _ => false) (leavesK P fn hs F.2.2.toList c e k d .ret s) (fun v => leavesK P fn hs F.2.2.toList c e k d (.pan v) s)⟩
  | _, _ => ⟨fun _ _ _ _ => false⟩
def kcall (N : Nat) : CallK := Nat.rec (motive := fun _ => CallK) (fun _ _ _ _ => false) (fun m ih f args => (fnW P fn hs f).val ⟨m, ih⟩ args) N
theorem kcall_ok (ho : HintsOk fn hs) : ∀ N, CallSound (kcall P fn hs N) (evalFn P fn noPrim N)
  | 0 => fun f args x s k R free h => by cases h
  | N + 1 => by
    intro f args x s k R free h
    have h : (fnW P fn hs f).val ⟨N, kcall P fn hs N⟩ args x k = true := h
    unfold fnW at h
    split at h
    rotate_left
    · cases h
    · rename_i hi F hhf hF
      have hc : CtxOk ⟨N, kcall P fn hs N⟩ (evalFn P fn noPrim N) := ⟨kcall_ok ho N, callMono_evalFn (fun f p hp => by simp [noPrim] at hp) N⟩
      obtain ⟨e, hf, h⟩ := frOf_frK h
      obtain ⟨ce, f1, s1, x1, h1, R1, fr1, e1, d1, hf1, h2⟩ := codeW_ok P fn F.2.1 hi F.1 (ho f hi F hhf hF) _ _ hc e [] _ hf x s _ _ R free h
      have fin : ∀ u, leavesK P fn hs F.2.2.toList ⟨N, kcall P fn hs N⟩ e1 k d1 u x1 = true → ∃ r s' x', leavesA P fn (evalFn P fn noPrim N) N F.2.2 f1 f1.defs u s1 = some (r, s') ∧ KRel x' s' ∧ s'.Free ∧ k r x' = true := by
        intro u hk
        rw [hf1.defs]
        exact leavesK_ok P fn hs ho hc hf1.env d1 u x1 s1 R1 fr1 hk
      have wrap : ∀ {r s'}, endA P fn (evalFn P fn noPrim N) N F.2.2 (ce, f1) s1 = some (r, s') → evalFn P fn noPrim (N + 1) f args.toArray s = some (r, s') := by
        intro r s' hh
        show AM.andThen (AM.ofOption (fn f)) (fun F => evalBody P fn (evalFn P fn noPrim N) N F args.toArray) s = _
        rw [hF]
        refine (andThen_eq (ofOption_eq F s)).trans ?_
        exact (andThen_eq h1).trans hh
      cases ce with
      | normal =>
        obtain ⟨r, s', x', h3, q⟩ := fin .ret h2
        exact ⟨r, s', x', wrap h3, q⟩
      | ret =>
        obtain ⟨r, s', x', h3, q⟩ := fin .ret h2
        exact ⟨r, s', x', wrap h3, q⟩
      | exit i => cases h2
      | panic v =>
        obtain ⟨r, s', x', h3, q⟩ := fin (.pan v) h2
        exact ⟨r, s', x', wrap h3, q⟩
end
def ks0 : KS := ⟨KT.fill none KD, 0, 1, 2, .nil, []⟩
def yesK (r : CRes) : Bool := CRes.casesOn (motive := fun _ => Bool) r (fun v => vBool v (fun b => b) false) (fun _ => false)
def sEmptyK : ST := { heap := { st := fun _ => none, dyn := .leaf }, base := 1, str := 1, ctr := 0, jr := [] }
theorem ks0_rel : KRel ks0 sEmptyK := by
  refine ⟨rfl, rfl, rfl, fun n o h => ?_, fun _ => rfl, rfl, fun y hy => by cases hy⟩
  have : KHeap.at (KT.fill none KD) n = none := KT.get_fill none KD n
  rw [show KHeap.at ks0.h n = none from this] at h
  cases h
theorem sEmptyK_free : sEmptyK.Free := by intro k _; simp [sEmptyK, Heap.find, Trie.get]
theorem yes_of {P : Program} {fn : FnTab} {hs : FuncId → Option Hint} (ho : HintsOk fn hs) {N f : Nat} (h : kcall P fn hs N f [] ks0 (fun r _ => yesK r) = true) : ∃ s, evalFn P fn noPrim N f #[] sEmptyK = some (.ret (.bool true), s) := by
  obtain ⟨r, s', x', h1, _, _, h2⟩ := kcall_ok P fn hs ho N f [] ks0 sEmptyK _ ks0_rel sEmptyK_free h
  cases r with
  | panic v => cases h2
  | ret v =>
    obtain ⟨b, rfl, hb⟩ := vBool_true (show vBool v (fun b => b) false = true from h2)
    subst hb
    exact ⟨s', h1⟩
end
end Go.Proofs.YtgpfgcbolinncaaGreat.Abs
set_option linter.unusedVariables false
set_option linter.unusedSimpArgs false
namespace Go.Proofs.YtgpfgcbolinncaaGreat.Abs
open Go Go.RowKit
noncomputable section

abbrev HTab := List (Nat × List (Nat × Nat))
def findN {β : Type} (l : List (Nat × β)) (f : Nat) : Option β := List.rec (motive := fun _ => Option β) none (fun p _ ih => b2 (Nat.beq p.1 f) (some p.2) ih) l
theorem findN_mem {β : Type} {l : List (Nat × β)} {f : Nat} {x : β} (h : findN l f = some x) : (f, x) ∈ l := by
  induction l with
  | nil => cases h
  | cons p l ih =>
    have h : b2 (Nat.beq p.1 f) (some p.2) (findN l f) = some x := h
    cases hb : Nat.beq p.1 f with
    | true =>
      rw [hb] at h
      have := Nat.eq_of_beq_eq_true hb
      subst this
      cases h
      simp
    | false => rw [hb] at h; exact List.mem_cons_of_mem _ (ih h)
def hintOf (l : List (Nat × Nat)) : Hint := fun id => findN l id
def hsOf (t : HTab) : FuncId → Option Hint := fun f => Option.rec (motive := fun _ => Option Hint) none (fun l => some (hintOf l)) (findN t f)
def tabB (fn : FnTab) (t : HTab) : Bool := t.all fun p => match fn p.1 with
  | some F => hintB (hintOf p.2) F.1
  | none => true
theorem tabB_app {fn : FnTab} {a b : HTab} (h : tabB fn a = true) (k : tabB fn b = true) : tabB fn (a ++ b) = true := by
  unfold tabB at *; rw [List.all_append, h, k]; rfl
theorem hints_of {fn : FnTab} {t : HTab} (h : tabB fn t = true) : HintsOk fn (hsOf t) := by
  intro f hi F hh hF
  unfold hsOf at hh
  cases hf : findN t f with
  | none => rw [hf] at hh; cases hh
  | some l =>
    rw [hf] at hh
    cases hh
    have := List.all_eq_true.1 h _ (findN_mem hf)
    simp only [hF] at this
    exact this
end
end Go.Proofs.YtgpfgcbolinncaaGreat.Abs
