/- The weakest precondition of code over abstract states: functions, loops, drawn regions by what holds of each operation. -/
import Derived.Test.YtgpfgcbolinncaaGreatM1
set_option linter.unusedVariables false
set_option linter.unusedSimpArgs false
namespace Go.Proofs.YtgpfgcbolinncaaGreat.Abs
open Go Go.RowKit

section
variable {P : Program}
theorem andThen_eq {α β : Type} {m : AM α} {f : α → AM β} {s s1 : ST} {a : α} (h : m s = some (a, s1)) : AM.andThen m f s = f a s1 := by
  unfold AM.andThen
  rw [h]
/-! ### more is known -/
theorem xCR_mono {dst : Option Tmp} {fr : Fr} {Q Q' : SR → ST → Prop} (k : ∀ x s, s.Free → Q x s → Q' x s) {c : CRes} {s : ST} (f : s.Free) (h : xCR dst fr Q c s) : xCR dst fr Q' c s := by
  cases c with
  | ret v =>
    obtain ⟨g, hg, h⟩ := xPut_some h
    show xPut _ _
    rw [hg]
    exact k _ _ f h
  | panic v => exact k _ _ f h
theorem xAR_mono {dst : Option Tmp} {fr : Fr} {Q Q' : SR → ST → Prop} (k : ∀ x s, s.Free → Q x s → Q' x s) {ar : AR} {s : ST} (f : s.Free) (h : xAR dst fr Q ar s) : xAR dst fr Q' ar s := by
  have put : ∀ {o : Option Fr}, (xPut o fun f => Q (.next f) s) → xPut o fun f => Q' (.next f) s := by
    intro o h
    obtain ⟨g, hg, h⟩ := xPut_some h
    rw [hg]
    exact k _ _ f h
  cases ar with
  | val v => exact put h
  | skip => exact put h
  | enter _ _ => exact h.elim
  | panic v => exact k _ _ f h
  | defer d => exact put h
  | recover => exact h.elim
theorem xBin_mono {op : BinOp} {t : TypeId} {xo yo : Operand} {x y : Value} {k k' : Value → Prop} (h : xBin P op t xo yo x y k) (hk : ∀ v, k v → k' v) : xBin P op t xo yo x y k' := by
  unfold xBin at h ⊢
  split at h
  · obtain ⟨hT, ha, hb, h⟩ := h
    refine ⟨hT, ha, hb, ?_⟩
    cases op with
    | add | sub | mul | quo =>
      simp only at h ⊢
      split at h
      · exact hk _ h
      · exact fun r hr => hk _ (h r hr)
    | eql | neq | lss | gtr => exact hk _ h
    | _ => exact h.elim
  · unfold xV at h ⊢
    split at h
    · exact hk _ h
    · exact h.elim
theorem xConv_mono {a d : TypeId} {x : Value} {k k' : Value → Prop} (h : xConv P a d x k) (hk : ∀ v, k v → k' v) : xConv P a d x k' := by
  unfold xConv at h ⊢
  split at h
  · exact hk _ h
  · exact h.elim
theorem xOp_mono {o : Oper} {fr : Fr} {s : ST} {Q Q' : SR → ST → Prop} (f : s.Free) (h : xOp P o fr s Q) (k : ∀ x s, s.Free → Q x s → Q' x s) : xOp P o fr s Q' := by
  have gen : ∀ {m : AM AR}, Mono m → xO (m s) (xAR o.dst fr Q) → xO (m s) (xAR o.dst fr Q') := by
    intro m hm h
    obtain ⟨ar, s1, e, h⟩ := xO_some h
    rw [e]
    exact xAR_mono k (hm.free e f) h
  unfold xOp at h ⊢
  split at h
  · split at h
    · rename_i hf
      rw [if_pos hf]
      refine xConv_mono h fun v h => ?_
      obtain ⟨g, hg, h⟩ := xPut_some h
      rw [hg]
      exact k _ _ f h
    · rename_i hf
      rw [if_neg hf]
      exact gen (mono_evalOp P noFn _ o) h
  · rename_i c _
    split at h
    · unfold xCall at h ⊢
      split at h
      · exact h.mono fun r s' f' q => xCR_mono k f' q
      · exact h.elim
    · exact gen (mono_builtin P _ _ _) h
    · exact h.elim
  · refine xBin_mono h ?_
    intro v h
    obtain ⟨g, hg, h⟩ := xPut_some h
    rw [hg]
    exact k _ _ f h
  · exact gen (mono_evalOp P noFn _ o) h
theorem xGO_mono {ops : Array Oper} {o : Oper} {fr : Fr} {s : ST} {Q Q' : SR → ST → Prop} (f : s.Free) (h : xGO P ops o fr s Q) (k : ∀ x s, s.Free → Q x s → Q' x s) : xGO P ops o fr s Q' := by
  unfold xGO xG at h ⊢
  split at h
  · exact xOp_mono f h k
  · obtain ⟨g, hg, h⟩ := xPut_some h
    rw [hg]
    exact k _ _ f h
  · exact h.elim
theorem xSR_mono {k k' : Fr → ST → Prop} {Q Q' : SR → ST → Prop} (h1 : ∀ f s, s.Free → k f s → k' f s) (h2 : ∀ x s, s.Free → Q x s → Q' x s) (x : SR) (s : ST) (f : s.Free) (h : xSR k Q x s) : xSR k' Q' x s := by
  cases x with
  | next g => exact h1 _ _ f h
  | panic v g => exact h2 _ _ f h
theorem xOps_mono {ops : Array Oper} {Q Q' : SR → ST → Prop} (k : ∀ x s, s.Free → Q x s → Q' x s) : ∀ (os : List Oper) (fr : Fr) (s : ST), s.Free → xOps P ops os fr s Q → xOps P ops os fr s Q'
  | [], fr, s, f, h => k _ _ f h
  | o :: os, fr, s, f, h => xGO_mono f h fun x s f => xSR_mono (fun g s f => xOps_mono k os g s f) k x s f
theorem xAny_mono {ops : Array Oper} {Q Q' : SR → ST → Prop} (k : ∀ x s, s.Free → Q x s → Q' x s) : ∀ (n : Nat) (listed : Array Bool) (fr : Fr) (s : ST), s.Free → xAny P ops Q n listed fr s → xAny P ops Q' n listed fr s
  | 0, listed, fr, s, f, h => let ⟨g, e, q⟩ := h.2; ⟨h.1, g, e, k _ _ f q⟩
  | n + 1, listed, fr, s, f, h => ⟨fun h0 => let ⟨g, e, q⟩ := h.1 h0; ⟨g, e, k _ _ f q⟩, fun i hi o ho => xGO_mono f (h.2 i hi o ho) fun x s f => xSR_mono (fun g s f => xAny_mono k n _ g s f) k x s f⟩
theorem xNext_mono {K K' : Fr → ST → Prop} {Q Q' : CE → Fr → ST → Prop} (hk : ∀ f s, s.Free → K f s → K' f s) (hq : ∀ e f s, s.Free → Q e f s → Q' e f s) (e : CE) (f : Fr) (s : ST) (fr : s.Free) (h : xNext K Q e f s) : xNext K' Q' e f s := by
  cases e with
  | normal => exact hk _ _ fr h
  | exit i => exact hq _ _ _ fr h
  | ret => exact hq _ _ _ fr h
  | panic v => exact hq _ _ _ fr h
theorem xCode_mono : ∀ (c : Code) (fr : Fr) (s : ST) (Q Q' : CE → Fr → ST → Prop), s.Free → xCode P c fr s Q → (∀ e f s, s.Free → Q e f s → Q' e f s) → xCode P c fr s Q' := by
  have rg : ∀ {Q Q' : CE → Fr → ST → Prop}, (∀ e f s, s.Free → Q e f s → Q' e f s) → ∀ (x : SR) (s : ST), s.Free → xRg Q x s → xRg Q' x s := by
    intro Q Q' k x s f h
    cases x with
    | next g => exact k _ _ _ f h
    | panic v g => exact k _ _ _ f h
  intro c
  induction c with
  | skip => intro fr s Q Q' f h k; exact k _ _ _ f h
  | label l => intro fr s Q Q' f h k; exact k _ _ _ f h
  | region id ops draw =>
    intro fr s Q Q' f h k
    cases draw with
    | false => exact xOps_mono (rg k) _ _ _ f (show xOps P ops ops.toList fr s (xRg Q) from h)
    | true => exact xAny_mono (rg k) _ _ _ _ f (show xAny P ops (xRg Q) ops.size (Array.replicate ops.size false) fr s from h)
  | seq a b iha ihb =>
    intro fr s Q Q' f h k
    exact iha fr s _ _ f h (xNext_mono (fun g s f h => ihb g s _ _ f h k) k)
  | cond c x y ihx ihy =>
    intro fr s Q Q' f h k
    have h : xB (boolOf (evalV fr.env c)) (xCode P x fr s Q) (xCode P y fr s Q) := h
    show xB (boolOf (evalV fr.env c)) (xCode P x fr s Q') (xCode P y fr s Q')
    unfold xB at h ⊢
    split at h
    · exact ihx _ _ _ _ f h k
    · exact ihy _ _ _ _ f h k
    · exact h.elim
  | block id c ih =>
    intro fr s Q Q' f h k
    exact ih fr s _ _ f h (fun e g s f h => k _ _ _ f h)
  | loop c ih =>
    intro fr s Q Q' f h k
    obtain ⟨n, h⟩ := (show ∃ n, xRounds (xCode P c) Q n fr s from h)
    have key : ∀ (n : Nat) (fr : Fr) (s : ST), s.Free → xRounds (xCode P c) Q n fr s → xRounds (xCode P c) Q' n fr s := by
      intro n
      induction n with
      | zero => intro fr s f h; exact h.elim
      | succ n ihn => intro fr s f h; exact ih fr s _ _ f h (xNext_mono (fun g s f h => ihn g s f h) k)
    exact ⟨n, key n fr s f h⟩
  | exit id => intro fr s Q Q' f h k; exact k _ _ _ f h
  | ret => intro fr s Q Q' f h k; exact k _ _ _ f h
  | _ => intro fr s Q Q' f h k; exact (show False from h).elim
/-- a loop, by what holds ahead of each round -/
theorem x_for {c : Code} {Q : CE → Fr → ST → Prop} (I : Nat → Fr → ST → Prop)
    (h : ∀ m fr s, s.Free → I m fr s → xCode P c fr s (xNext (fun f s' => ∃ m', m' < m ∧ I m' f s') Q)) {m : Nat} {fr : Fr} {s : ST} (f : s.Free) (h0 : I m fr s) : xCode P (.loop c) fr s Q := by
  show ∃ n, xRounds (xCode P c) Q n fr s
  have step : ∀ (k m : Nat) (fr : Fr) (s : ST), m < k → s.Free → I m fr s → xRounds (xCode P c) Q k fr s := by
    intro k
    induction k with
    | zero => intro m fr s hm; omega
    | succ k ih =>
      intro m fr s hm f hI
      refine xCode_mono c fr s _ _ f (h m fr s f hI) (xNext_mono (fun g s' f' hq => ?_) fun _ _ _ _ h => h)
      obtain ⟨m', hlt, hI'⟩ := hq
      exact ih m' g s' (by omega) f' hI'
  exact ⟨m + 1, step (m + 1) m fr s (by omega) f h0⟩

/-! ### functions -/
structure Known0 (P : Program) : Prop where
  names : plainNames P = true
  mix : P.follows .mixedOrders = true
theorem noPrim_ok {B : Nat} {w0 : World} : PrimOk P B w0 noPrim := ⟨fun f p h => by simp [noPrim] at h, fun f p h => by simp [noPrim] at h⟩
/-- what is done when the code of a function is through -/
def xEnd (P : Program) (rs : Array ResultVar) (Q : CRes → ST → Prop) (e : CE) (fr : Fr) (s : ST) : Prop := ∃ n r s', endA P (fnOf P) (evalFn P (fnOf P) noPrim n) n rs (e, fr) s = some (r, s') ∧ Q r s'
theorem Leaves_mono {fn : Func} {tmps : Array Value} {R R' : Ending → World → Prop} (h : ∀ e w, R e w → R' e w) : ∀ {ds : List Deferred} {u : FrameMode} {w : World}, Leaves P fn tmps R ds u w → Leaves P fn tmps R' ds u w
  | [], .returning, w, ⟨v, a, b⟩ => ⟨v, a, h _ _ b⟩
  | [], .panicking chain, w, x => h _ _ x
  | [], .run, w, x => x.elim
  | d :: ds, u, w, ⟨hu, fv, cap, f, args, a, b, c⟩ => ⟨hu, fv, cap, f, args, a, b, CallsD.mono c fun e u' w' hq => by
    cases e with
    | returned v => exact Leaves_mono h hq
    | panicked chain => exact Leaves_mono h hq
    | outgrown => exact h _ _ hq⟩
theorem Does.body (K : Known0 P) {f : FuncId} {F : FnBody} (hF : fnOf P f = some F) (ids : List Nat) (hok : undrawOk P ids F.1 = true) {args : Array Value} {s : ST} {Q : CRes → ST → Prop}
    (h : xCode P (undraw ids F.1) (frOf F args) s (xEnd P F.2.2 Q)) : Does P f args s Q := by
  intro B w0 π w args' fr_ R ha
  have ok := fnOf_ok K.names
  obtain ⟨G, hG, hbody, hn, hr, _⟩ := ok.ok f F hF
  rw [callFunc_run ok (by rw [hF]; rfl) args' w]
  show Calls P f args' w _
  refine calls_of_wp_defers hG hbody ?_
  have hW := xCode_sound (B := B) (w0 := w0) K.mix F.1 hok _ _ _ h π w _ fr_ R (frOf_rel (F := F) ha)
  rw [← hn] at hW
  refine wp_mono hW ?_
  rintro e a w1 ⟨ce, f1, s1, π1, hle, fr1, R1, E1, n, r, s2, h2, q⟩
  have hm := callMono_evalFn (P := P) (fn := fnOf P) (prim := noPrim) (fun f p h => by simp [noPrim] at h) n
  have hc := callOk_evalFn ok K.mix (noPrim_ok (P := P) (B := B) (w0 := w0)) n
  have fr2 : s2.Free := (mono_endA hm n F.2.2 (ce, f1)).free h2 fr1
  rw [← hr] at h2
  have fin : ∀ (e : Ending) (w : World), (∃ π', π.le π' ∧ Rel B w0 π' s2.heap w ∧ CRel π' r e) → After B w0 π Q e w := fun e w ⟨π', a, b, c⟩ => ⟨r, s2, π', a, fr2, b, c, q⟩
  have go : ∀ {u : UM} {um : FrameMode}, leavesA P (fnOf P) (evalFn P (fnOf P) noPrim n) n G.results f1 f1.defs u s1 = some (r, s2) → FRel π1 f1 a → URel π1 u um → Leaves P G a.tmps (After B w0 π Q) a.defers um w1 := by
    intro u um h2 F1 U1
    have hL := leavesA_sound ok K.mix hc hm n f1.defs a.defers u s1 s2 r π1 π w1 um F1.defs.1 F1.defs.2 h2 fr1 R1 F1 U1 hle
    exact Leaves_mono fin hL
  cases ce with
  | normal =>
    cases e <;> simp only [ERel] at E1
    exact go (u := .ret) (um := .returning) h2 E1 rfl
  | ret =>
    cases e <;> simp only [ERel] at E1
    exact go (u := .ret) (um := .returning) h2 E1 rfl
  | exit i => exact (fail_some (show (AM.fail : AM CRes) s1 = some (r, s2) from h2)).elim
  | panic v =>
    cases e <;> simp only [ERel] at E1
    obtain ⟨⟨v', rfl, hv⟩, E1⟩ := E1
    exact go (u := .pan v) (um := .panicking [{ v := v', recovered := false }]) h2 E1 ⟨v', rfl, hv⟩
theorem evalFn_fn {n : Nat} {f : FuncId} {args : Array Value} {s : ST} {x : CRes × ST} (h : evalFn P (fnOf P) noPrim n f args s = some x) : (fnOf P f).isSome = true := by
  cases n with
  | zero => exact (fail_some (show (AM.fail : AM CRes) s = some (x.1, x.2) from h)).elim
  | succ n =>
    obtain ⟨F, s1, h1, _⟩ := AM.andThen_some (show AM.andThen (AM.ofOption (fnOf P f)) _ s = some (x.1, x.2) from h)
    rw [(ofOption_some h1).1]; rfl
theorem Does.of_eval (K : Known0 P) {n : Nat} {f : FuncId} {args : Array Value} {s s' : ST} {r : CRes} (h : evalFn P (fnOf P) noPrim n f args s = some (r, s')) {Q : CRes → ST → Prop} (q : Q r s') : Does P f args s Q := by
  intro B w0 π w args' fr_ R ha
  have ok := fnOf_ok K.names
  have hm := callMono_evalFn (P := P) (fn := fnOf P) (prim := noPrim) (fun f p h => by simp [noPrim] at h) n
  have hc := callOk_evalFn ok K.mix (noPrim_ok (P := P) (B := B) (w0 := w0)) n
  rw [callFunc_run ok (evalFn_fn h) args' w]
  show Calls P f args' w _
  refine (hc f args s r s' h fr_ π w args' R ha).mono ?_
  rintro e w' ⟨π', a, b, c⟩
  exact ⟨r, s', π', a, (hm f args).free h fr_, b, c, q⟩
end
end Go.Proofs.YtgpfgcbolinncaaGreat.Abs
