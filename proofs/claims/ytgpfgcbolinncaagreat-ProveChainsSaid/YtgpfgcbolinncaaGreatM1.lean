/- The weakest precondition of code over abstract states: regions, code, functions. -/
import Derived.Test.YtgpfgcbolinncaaGreatM0
set_option linter.unusedVariables false
set_option linter.unusedSimpArgs false
namespace Go.Proofs.YtgpfgcbolinncaaGreat.Abs
open Go Go.RowKit

/-! ### regions in the order of the text -/
section
variable {P : Program}
def SQx (B : Nat) (w0 : World) (π : PMap) (Q : SR → ST → Prop) : Exit → Act → World → Prop := fun e a w => ∃ x s π', π.le π' ∧ s.Free ∧ Rel B w0 π' s.heap w ∧ SRel π' x e a ∧ Q x s
theorem SQx.le {B : Nat} {w0 : World} {π π' : PMap} {Q : SR → ST → Prop} {e : Exit} {a : Act} {w : World} (h : SQx B w0 π' Q e a w) (hp : π.le π') : SQx B w0 π Q e a w :=
  let ⟨x, s, p, b, r⟩ := h; ⟨x, s, p, hp.trans b, r⟩
theorem xGO_wpOp {B : Nat} {w0 : World} {ops : Array Oper} {fr : Fr} {o : Oper} {s : ST} {Q : SR → ST → Prop} (h : xGO P ops o fr s Q) (fr_ : s.Free) {π : PMap} {w : World} {a : Act} (R : Rel B w0 π s.heap w) (F : FRel π fr a)
    {i : Nat} (hi : ops[i]? = some o) {QM : Exit → Act → World → Prop} {K : Act → World → Prop} (k : ∀ π' w' x s', π.le π' → s'.Free → Rel B w0 π' s'.heap w' → Q x s' → SK π' a QM K w' x) : wpOp P ops QM i K a w := by
  have := xGO_wp h fr_ R F k
  unfold wpOp
  simp only [hi]
  split
  · rename_i hw; rw [if_pos hw] at this; exact .inl this
  · rename_i hw; rw [if_neg hw] at this; exact this
theorem xOps_sound {B : Nat} {w0 : World} {ops : Array Oper} {Q : SR → ST → Prop} {π0 : PMap} : ∀ (os : List Oper) (k : Nat) (fr : Fr) (s : ST) (π : PMap) (w : World) (a : Act), ops.toList.drop k = os → xOps P ops os fr s Q → s.Free → Rel B w0 π s.heap w → FRel π fr a → π0.le π →
    wpOps P ops (SQx B w0 π0 Q) (List.range' k os.length) a w
  | [], k, fr, s, π, w, a, hd, h, f, R, F, hp => ⟨.next fr, s, π, hp, f, R, F, h⟩
  | o :: os, k, fr, s, π, w, a, hd, h, f, R, F, hp => by
    have hi : ops[k]? = some o := by
      have := congrArg (·[0]?) hd
      simpa using this
    have hd' : ops.toList.drop (k + 1) = os := by
      have := congrArg List.tail hd
      simpa using this
    simp only [List.length_cons, List.range'_succ]
    rw [wpOps_cons]
    refine xGO_wpOp h f R F hi ?_
    intro π' w' x s' hle f' R' hq
    cases x with
    | next f2 =>
      intro a' F'
      exact xOps_sound os (k + 1) f2 s' π' w' a' hd' hq f' R' F' (hp.trans hle)
    | panic v f2 =>
      intro chain hc F'
      exact ⟨.panic v f2, s', π', hp.trans hle, f', R', ⟨hc, F'⟩, hq⟩
theorem xAny_sound {B : Nat} {w0 : World} {ops : Array Oper} {Q : SR → ST → Prop} {π0 : PMap} : ∀ (n : Nat) (listed : Array Bool) (fr : Fr) (s : ST) (π : PMap) (w : World) (a : Act), xAny P ops Q n listed fr s → s.Free → Rel B w0 π s.heap w → FRel π fr a → π0.le π →
    wpAny P .any ops (SQx B w0 π0 Q) n listed a w
  | 0, listed, fr, s, π, w, a, h, f, R, F, hp => let ⟨g, e, q⟩ := h.2; ⟨h.1, .next g, s, π, hp, f, R, F.like e.n e.defs e.env, q⟩
  | n + 1, listed, fr, s, π, w, a, h, f, R, F, hp => by
    refine ⟨fun h0 => let ⟨g, e, q⟩ := h.1 h0; ⟨.next g, s, π, hp, f, R, F.like e.n e.defs e.env, q⟩, fun i hi => ?_⟩
    obtain ⟨_, o, ho, _⟩ := mem_ready.1 hi
    refine xGO_wpOp (h.2 i hi o ho) f R F ho ?_
    intro π' w' x s' hle f' R' hq
    cases x with
    | next f2 =>
      intro a' F'
      exact xAny_sound n _ f2 s' π' w' a' hq f' R' F' (hp.trans hle)
    | panic v f2 =>
      intro chain hc F'
      exact ⟨.panic v f2, s', π', hp.trans hle, f', R', ⟨hc, F'⟩, hq⟩

/-! ### drawn regions that may run in the order of the text -/
def arith : BinOp → Bool
  | .add | .sub | .mul | .quo => true
  | _ => false
def headKind (P : Program) (o : Oper) : Bool := stillKind o && match o.op with
  | .convert s d _ => !memConv P s d && !isFloatT P d
  | .binOp op t _ _ _ => !(arith op && isFloatT P t)
  | .call c => match c.argTypes.toList with
    | [t] => match P.underlying t with
      | some (.map _ _) => false
      | _ => true
    | _ => true
  | _ => true
def regOk (P : Program) (ops : Array Oper) : Bool := match tailN ops with
  | some n => (ops.toList.take n).all (headKind P)
  | none => false
theorem valO_val {o : Option Value} {s s' : ST} {ar : AR} (h : valO o s = some (ar, s')) : ∃ v, ar = .val v ∧ s' = s ∧ o = some v := by
  obtain ⟨v, s1, h1, h2⟩ := AM.andThen_some h
  obtain ⟨hv, rfl⟩ := ofOption_some h1
  obtain ⟨rfl, rfl⟩ := ret_some h2
  exact ⟨v, rfl, rfl, hv⟩
theorem loadA_same {t : TypeId} {a v : Value} {s s' : ST} (h : loadA P t a s = some (v, s')) : s' = s := by
  unfold loadA at h
  have hh := AM.andThen_some h; clear h; obtain ⟨p, s1, h1, h⟩ := hh
  obtain ⟨_, rfl⟩ := ofOption_some h1
  have hh := AM.andThen_some h; clear h; obtain ⟨o, s2, h2, h⟩ := hh
  obtain ⟨_, rfl⟩ := read_some h2
  have hh := AM.andThen_some h; clear h; obtain ⟨c, s3, h3, h⟩ := hh
  obtain ⟨_, rfl⟩ := ofOption_some h3
  exact (ofOption_some h).2
theorem xO_some {α : Type} {o : Option (α × ST)} {k : α → ST → Prop} (h : xO o k) : ∃ a s, o = some (a, s) ∧ k a s := by
  unfold xO at h
  split at h
  · rename_i a s; exact ⟨a, s, rfl, h⟩
  · exact h.elim
/-- an operation of the head changes nothing, and yields the value -/
theorem head_run {B : Nat} {w0 : World} {o : Oper} (hk : headKind P o = true) {fr : Fr} {s : ST} {Q : SR → ST → Prop} (h : xOp P o fr s Q) {π : PMap} {w : World} {a : Act} (R : Rel B w0 π s.heap w) (F : FRel π fr a) :
    ∃ v v', (execOp a.eval o).run P w = .ok (.value v') w ∧ VRel π v v' ∧ xPut (putF fr o.dst v) fun f => Q (.next f) s := by
  have hst : stillKind o = true := by
    simp only [headKind, Bool.and_eq_true] at hk; exact hk.1
  have key : ∀ {v : Value}, stillA P (evalV fr.env) o s = some (v, s) → (xPut (putF fr o.dst v) fun f => Q (.next f) s) → ∃ v v', (execOp a.eval o).run P w = .ok (.value v') w ∧ VRel π v v' ∧ xPut (putF fr o.dst v) fun f => Q (.next f) s := by
    intro v h1 h2
    obtain ⟨_, v', e, r⟩ := stillA_sim o h1 R (evalV_rel F)
    exact ⟨v, v', e, r, h2⟩
  obtain ⟨dst, op, type, pos, after, guard⟩ := o
  have val : ∀ {x : Option Value}, xO (valO x s) (xAR dst fr Q) → ∃ v, AM.ofOption x s = some (v, s) ∧ xPut (putF fr dst v) fun f => Q (.next f) s := by
    intro x h
    obtain ⟨ar, s1, h1, h2⟩ := xO_some h
    obtain ⟨v, rfl, rfl, rfl⟩ := valO_val h1
    exact ⟨v, rfl, h2⟩
  cases op with
  | move x => exact key (v := evalV fr.env x) rfl h
  | assign x => exact key (v := evalV fr.env x) rfl h
  | load t x =>
    obtain ⟨ar, s1, h1, h2⟩ := xO_some (show xO (valOf (loadA P t (evalV fr.env x)) s) (xAR dst fr Q) from h)
    obtain ⟨v, s2, h3, h4⟩ := AM.andThen_some h1
    obtain ⟨rfl, rfl⟩ := ret_some h4
    have hs := loadA_same h3
    subst hs
    exact key h3 h2
  | convert sr d x =>
    simp only [headKind, Bool.and_eq_true, Bool.not_eq_true'] at hk
    have h : if isFloatT P d = true then xConv P sr d (evalV fr.env x) (fun v => xPut (putF fr dst v) fun f => Q (.next f) s) else xO ((if memConv P sr d = true then valOf (convM P sr d (evalV fr.env x)) else valO (convA P sr d (evalV fr.env x))) s) (xAR dst fr Q) := h
    rw [if_neg (by rw [hk.2.2]; simp), if_neg (by rw [hk.2.1]; simp)] at h
    obtain ⟨v, h1, h2⟩ := val h
    refine key (v := v) ?_ h2
    show (if memConv P sr d = true then AM.fail else AM.ofOption (convA P sr d (evalV fr.env x))) s = _
    rw [if_neg (by rw [hk.2.1]; simp)]
    exact h1
  | binOp op t x y yt =>
    have h : xBin P op t x y (evalV fr.env x) (evalV fr.env y) (fun v => xPut (putF fr dst v) fun f => Q (.next f) s) := h
    simp only [headKind, Bool.and_eq_true, Bool.not_eq_true'] at hk
    have hx := evalV_rel F x
    have hy := evalV_rel F y
    have run : ∀ {v' : Value}, (do eqGuard op t x y (a.eval x) (a.eval y); binOp op t (a.eval x) (a.eval y) : Sem Value).run P w = .ok v' w → (execOp a.eval { dst, op := .binOp op t x y yt, type, pos, after, guard }).run P w = .ok (.value v') w := by
      intro v' e
      simp only [execOp, Sem.run_bind, Sem.run_pure] at e ⊢
      generalize (eqGuard op t x y (a.eval x) (a.eval y)).run P w = q at e ⊢
      cases q with
      | halt z w2 => simp at e
      | ok z w2 =>
        simp only [Result.andThen_ok] at e ⊢
        rw [e]; rfl
    unfold xBin at h
    split at h
    · rename_i p q hp hq
      obtain ⟨hT, ha, hb, h⟩ := h
      rw [hp] at hx
      rw [hq] at hy
      have hx := float_eq hx ha
      have hy := float_eq hy hb
      have hna : arith op = false := by
        cases hh : arith op with
        | false => rfl
        | true => rw [hh, hT] at hk; simp at hk
      have g : (eqGuard op t x y (.float .f64 p) (.float .f64 q)).run P w = .ok () w := run_eqGuard_ne (by simp) (by simp)
      have out : ∀ {v : Value}, (binOp op t (.float .f64 p) (.float .f64 q)).run P w = .ok v w → VRel π v v → (xPut (putF fr dst v) fun f => Q (.next f) s) → ∃ v v', (execOp a.eval { dst, op := .binOp op t x y yt, type, pos, after, guard }).run P w = .ok (.value v') w ∧ VRel π v v' ∧ xPut (putF fr dst v) fun f => Q (.next f) s := by
        intro v e r k
        refine ⟨v, v, run ?_, r, k⟩
        rw [hx, hy]
        simp only [Sem.run_bind, g, Result.andThen_ok, e]
      cases op with
      | eql => exact out (by rw [binOp_float_cmp_eql]; rfl) (.bool _) h
      | neq => exact out (by rw [binOp_float_cmp_neq]; rfl) (.bool _) h
      | lss => exact out (by rw [binOp_float_cmp_lss]; rfl) (.bool _) h
      | gtr => exact out (by rw [binOp_float_cmp_gtr]; rfl) (.bool _) h
      | add => cases hna
      | sub => cases hna
      | mul => cases hna
      | quo => cases hna
      | _ => exact h.elim
    · unfold xV at h
      split at h
      · rename_i v hv
        obtain ⟨v', e, r⟩ := binA_sim hv hx hy w
        exact ⟨v, v', run e, r, h⟩
      · exact h.elim
  | call c =>
    obtain ⟨callee, args, argTypes⟩ := c
    cases callee with
    | builtin b =>
      cases b <;> simp [headKind, stillKind] at hk
      obtain ⟨ar, s1, h1, h2⟩ := xO_some (show xO (builtinA P .len argTypes.toList (argsV (evalV fr.env) args) s) (xAR dst fr Q) from h)
      simp only [builtinA] at h1
      have hh := AM.andThen_some h1; clear h1; obtain ⟨p, s2, h3, h1⟩ := hh
      obtain ⟨hp, rfl⟩ := ofOption_some h3
      unfold lenAny at h1
      by_cases hl : (lenA P p.1 p.2).isSome = true
      · rw [if_pos hl] at h1
        obtain ⟨v, rfl, rfl, hv⟩ := valO_val h1
        refine key (v := v) ?_ h2
        show AM.ofOption (stillB P .len argTypes.toList (argsV (evalV fr.env) args)) s1 = _
        unfold stillB
        simp only [hp, Option.bind_some, hv]
        rfl
      · rw [if_neg hl] at h1
        exfalso
        obtain ⟨hts, _⟩ := oneArg_some hp
        rw [hts] at hk
        simp only at hk
        obtain ⟨v, s2, h2, _⟩ := AM.andThen_some h1
        unfold mapLenA at h2
        obtain ⟨mt, s3, h3, _⟩ := AM.andThen_some h2
        obtain ⟨hm, _⟩ := ofOption_some h3
        obtain ⟨hu, _⟩ := mapT_some hm
        simp [hu] at hk
    | _ => simp [headKind, stillKind] at hk
  | _ => first
    | (simp [stillKind] at hst; done)
    | (obtain ⟨v, h1, h2⟩ := val h; exact key (v := v) h1 h2)
theorem xHead_sound {B : Nat} {w0 : World} {ops : Array Oper} {Q : SR → ST → Prop} {r : List Oper} {K : Act → Prop} {π : PMap} {s : ST} {w : World} (R : Rel B w0 π s.heap w) (kk : ∀ fr a, FRel π fr a → xOps P ops r fr s Q → K a) :
    ∀ (os : List Oper) (fr : Fr) (a : Act), (∀ o ∈ os, headKind P o = true) → xOps P ops (os ++ r) fr s Q → FRel π fr a → wpStill P ops w K os a
  | [], fr, a, _, h, F => kk fr a F h
  | o :: os, fr, a, hk, h, F => by
    have ih := fun fr a => xHead_sound R kk os fr a (fun o ho => hk o (by simp [ho]))
    have h : xGO P ops o fr s (xSR (fun f s' => xOps P ops (os ++ r) f s' Q) Q) := h
    show if Region.wanted o (yielded ops a.tmps) then o.still P a w (wpStill P ops w K os) else wpStill P ops w K os (a.put o.dst undef)
    unfold xGO xG at h
    split at h
    · rename_i hg
      rw [wanted_of F hg, if_pos rfl]
      obtain ⟨v, v', e, hv, hq⟩ := head_run (hk o (by simp)) h R F
      unfold Oper.still
      rw [e, Oper.stillUpon_value]
      obtain ⟨f, hf, hq⟩ := xPut_some hq
      exact ih f _ hq (F.put hf hv)
    · rename_i hg
      rw [wanted_of F hg, if_neg (by simp)]
      obtain ⟨f, hf, hq⟩ := xPut_some h
      exact ih f _ hq (F.put hf (undef_rel _))
    · exact h.elim
theorem xReg_sound {B : Nat} {w0 : World} (hmix : P.follows .mixedOrders = true) {id : Nat} {ops : Array Oper} (hr : regOk P ops = true) {fr : Fr} {s : ST} {Q : SR → ST → Prop} (h : xOps P ops ops.toList fr s Q) (f : s.Free) {π π0 : PMap} {w : World} {a : Act}
    (R : Rel B w0 π s.heap w) (F : FRel π fr a) (hp : π0.le π) : (Code.region id ops true).wp P (SQx B w0 π0 Q) a w := by
  unfold regOk at hr
  cases hn : tailN ops with
  | none => rw [hn] at hr; cases hr
  | some n =>
    rw [hn] at hr
    have hr : (ops.toList.take n).all (headKind P) = true := hr
    have hfind := List.find?_some hn
    simp only [Bool.and_eq_true] at hfind
    have hlt : n < ops.size := List.mem_range.1 (List.mem_of_find?_eq_some hn)
    rw [← List.take_append_drop n ops.toList] at h
    have R' : Rel B w0 π s.heap { w with drawn := w.drawn + 1 } := R.same rfl rfl rfl rfl
    have q := wp_region_still_tail (P := P) (id := id) (Q := SQx B w0 π0 Q) (a := a) (w := w) (l := ops.toList) n hmix (by simpa using hfind.1)
      (xHead_sound (ops := ops.toList.toArray) (r := ops.toList.drop n) (K := fun a' => wpList P ops.toList.toArray (SQx B w0 π0 Q) (ops.toList.drop n) a' { w with drawn := w.drawn + 1 }) R' (by
        intro fr' a' F' h'
        have := xOps_sound (ops := ops) (B := B) (w0 := w0) (Q := Q) (π0 := π0) (ops.toList.drop n) n fr' s π { w with drawn := w.drawn + 1 } a' rfl (by simpa using h') f R' F' hp
        rw [wpOps_eq_wpList (ops.toList.drop n) n (fun j => by simp [List.getElem?_drop])] at this
        simpa using this) (ops.toList.take n) fr a (by simpa using hr) (by simpa using h) F)
    simpa using q

/-! ### code -/
def noId : List Nat → Nat → Bool
  | [], _ => true
  | x :: r, n => bif x == n then false else noId r n
/-- drawn regions of the list are taken in the order of the text -/
def undraw (ids : List Nat) : Code → Code
  | .region id ops false => .region id ops false
  | .region id ops true => .region id ops (noId ids id)
  | .seq a b => .seq (undraw ids a) (undraw ids b)
  | .cond c x y => .cond c (undraw ids x) (undraw ids y)
  | .block id c => .block id (undraw ids c)
  | .loop c => .loop (undraw ids c)
  | c => c
def undrawOk (P : Program) (ids : List Nat) : Code → Bool
  | .region id ops true => noId ids id || regOk P ops
  | .region _ _ false => true
  | .seq a b => undrawOk P ids a && undrawOk P ids b
  | .cond _ x y => undrawOk P ids x && undrawOk P ids y
  | .block _ c => undrawOk P ids c
  | .loop c => undrawOk P ids c
  | _ => true
def XQ (B : Nat) (w0 : World) (π : PMap) (Q : CE → Fr → ST → Prop) : Exit → Act → World → Prop := fun e a w => ∃ e' f s π', π.le π' ∧ s.Free ∧ Rel B w0 π' s.heap w ∧ ERel π' (e', f) e a ∧ Q e' f s
theorem XQ.le {B : Nat} {w0 : World} {π π' : PMap} {Q : CE → Fr → ST → Prop} {e : Exit} {a : Act} {w : World} (h : XQ B w0 π' Q e a w) (hp : π.le π') : XQ B w0 π Q e a w :=
  let ⟨e', f, s, p, b, r⟩ := h; ⟨e', f, s, p, hp.trans b, r⟩
theorem SQx.code {B : Nat} {w0 : World} {π : PMap} {Q : CE → Fr → ST → Prop} {e : Exit} {a : Act} {w : World} (h : SQx B w0 π (xRg Q) e a w) : XQ B w0 π Q e a w := by
  obtain ⟨x, s, π', hle, f, R, S, q⟩ := h
  cases x with
  | next fr =>
    cases e <;> simp only [SRel] at S
    exact ⟨.normal, fr, s, π', hle, f, R, S, q⟩
  | panic v fr =>
    cases e <;> simp only [SRel] at S
    exact ⟨.panic v, fr, s, π', hle, f, R, S, q⟩
theorem xRounds_sound {B : Nat} {w0 : World} {c : Code} {body : Fr → ST → (CE → Fr → ST → Prop) → Prop} (hb : ∀ (fr : Fr) (s : ST) (Q : CE → Fr → ST → Prop), body fr s Q → ∀ (π : PMap) (w : World) (a : Act), s.Free → Rel B w0 π s.heap w → FRel π fr a → c.wp P (XQ B w0 π Q) a w)
    {Q : CE → Fr → ST → Prop} {π0 : PMap} : ∀ (n : Nat) (fr : Fr) (s : ST), xRounds body Q n fr s → ∀ (π : PMap) (w : World) (a : Act), s.Free → Rel B w0 π s.heap w → FRel π fr a → π0.le π → Code.rounds P c (XQ B w0 π0 Q) n a w
  | 0, fr, s, h => h.elim
  | n + 1, fr, s, h => by
    intro π w a f R F hp
    rw [rounds_succ]
    refine wp_mono (hb fr s _ h π w a f R F) ?_
    rintro e a1 w1 ⟨e', f1, s1, π1, hle, fr1, R1, E1, q⟩
    cases e' with
    | normal =>
      cases e <;> simp only [ERel] at E1
      exact xRounds_sound hb n f1 s1 q π1 w1 a1 fr1 R1 E1 (hp.trans hle)
    | exit i =>
      cases e <;> simp only [ERel] at E1
      exact ⟨.exit i, f1, s1, π1, hp.trans hle, fr1, R1, E1, q⟩
    | ret =>
      cases e <;> simp only [ERel] at E1
      exact ⟨.ret, f1, s1, π1, hp.trans hle, fr1, R1, E1, q⟩
    | panic v =>
      cases e <;> simp only [ERel] at E1
      exact ⟨.panic v, f1, s1, π1, hp.trans hle, fr1, R1, E1, q⟩
theorem xCode_sound (hmix : P.follows .mixedOrders = true) {B : Nat} {w0 : World} {ids : List Nat} : ∀ (c : Code), undrawOk P ids c = true → ∀ (fr : Fr) (s : ST) (Q : CE → Fr → ST → Prop), xCode P (undraw ids c) fr s Q →
    ∀ (π : PMap) (w : World) (a : Act), s.Free → Rel B w0 π s.heap w → FRel π fr a → c.wp P (XQ B w0 π Q) a w := by
  intro c
  induction c with
  | skip => intro _ fr s Q h π w a f R F; exact wp_skip ⟨.normal, fr, s, π, PMap.le.refl π, f, R, F, h⟩
  | label l => intro _ fr s Q h π w a f R F; exact wp_label ⟨.normal, fr, s, π, PMap.le.refl π, f, R, F, h⟩
  | exit id => intro _ fr s Q h π w a f R F; exact wp_exit ⟨.exit id, fr, s, π, PMap.le.refl π, f, R, ⟨rfl, F⟩, h⟩
  | ret => intro _ fr s Q h π w a f R F; exact wp_ret ⟨.ret, fr, s, π, PMap.le.refl π, f, R, F, h⟩
  | region id ops d =>
    intro hok fr s Q h π w a f R F
    cases d with
    | false =>
      have h : xOps P ops ops.toList fr s (xRg Q) := h
      refine wp_mono (wp_region (Q := SQx B w0 π (xRg Q)) ?_) fun e a w q => SQx.code q
      have := xOps_sound (B := B) (w0 := w0) (ops := ops) (π0 := π) ops.toList 0 fr s π w a (by simp) h f R F (PMap.le.refl π)
      rw [List.range_eq_range']
      simpa using this
    | true =>
      have h : xCode P (.region id ops (noId ids id)) fr s Q := h
      have hok : (noId ids id || regOk P ops) = true := hok
      cases hc : noId ids id with
      | false =>
        rw [hc] at h hok
        have hok : regOk P ops = true := hok
        exact wp_mono (xReg_sound (id := id) hmix hok (show xOps P ops ops.toList fr s (xRg Q) from h) f R F (PMap.le.refl π)) fun e a w q => SQx.code q
      | true =>
        rw [hc] at h
        have h : xAny P ops (xRg Q) ops.size (Array.replicate ops.size false) fr s := h
        have R' : Rel B w0 π s.heap { w with drawn := w.drawn + 1 } := R.same rfl rfl rfl rfl
        exact wp_mono (wp_region_any hmix (xAny_sound (π0 := π) ops.size _ fr s π _ a h f R' F (PMap.le.refl π))) fun e a w q => SQx.code q
  | seq x y ihx ihy =>
    intro hok fr s Q h π w a f R F
    simp only [undrawOk, Bool.and_eq_true] at hok
    refine wp_seq (wp_mono (ihx hok.1 fr s _ (show xCode P (undraw ids x) fr s _ from h) π w a f R F) ?_)
    rintro e a1 w1 ⟨e', f1, s1, π1, hle, fr1, R1, E1, q⟩
    cases e' with
    | normal =>
      cases e <;> simp only [ERel] at E1
      exact wp_mono (ihy hok.2 f1 s1 Q q π1 w1 a1 fr1 R1 E1) fun e a w q => q.le hle
    | exit i =>
      cases e <;> simp only [ERel] at E1
      exact ⟨.exit i, f1, s1, π1, hle, fr1, R1, E1, q⟩
    | ret =>
      cases e <;> simp only [ERel] at E1
      exact ⟨.ret, f1, s1, π1, hle, fr1, R1, E1, q⟩
    | panic v =>
      cases e <;> simp only [ERel] at E1
      exact ⟨.panic v, f1, s1, π1, hle, fr1, R1, E1, q⟩
  | cond c x y ihx ihy =>
    intro hok fr s Q h π w a f R F
    simp only [undrawOk, Bool.and_eq_true] at hok
    have h : xB (boolOf (evalV fr.env c)) (xCode P (undraw ids x) fr s Q) (xCode P (undraw ids y) fr s Q) := h
    have hv := evalV_rel F c
    unfold xB at h
    split at h
    · rename_i hb
      rw [boolOf_some hb] at hv
      have hb' : a.eval c = .bool true := by generalize a.eval c = q at hv; cases hv; rfl
      exact wp_cond hb' (ihx hok.1 fr s Q h π w a f R F)
    · rename_i hb
      rw [boolOf_some hb] at hv
      have hb' : a.eval c = .bool false := by generalize a.eval c = q at hv; cases hv; rfl
      exact wp_cond hb' (ihy hok.2 fr s Q h π w a f R F)
    · exact h.elim
  | block id c ih =>
    intro hok fr s Q h π w a f R F
    refine wp_block (wp_mono (ih (by simpa [undrawOk] using hok) fr s _ (show xCode P (undraw ids c) fr s _ from h) π w a f R F) ?_)
    rintro e a1 w1 ⟨e', f1, s1, π1, hle, fr1, R1, E1, q⟩
    cases e' <;> cases e <;> simp only [ERel] at E1
    · exact ⟨.normal, f1, s1, π1, hle, fr1, R1, E1, q⟩
    · rename_i i j
      obtain ⟨rfl, E1⟩ := E1
      simp only [Exit.inBlock]
      by_cases hi : i = id
      · rw [if_pos hi]
        exact ⟨.normal, f1, s1, π1, hle, fr1, R1, E1, by simpa [inBlk, hi] using q⟩
      · rw [if_neg hi]
        exact ⟨.exit i, f1, s1, π1, hle, fr1, R1, ⟨rfl, E1⟩, by simpa [inBlk, hi] using q⟩
    · exact ⟨.ret, f1, s1, π1, hle, fr1, R1, E1, q⟩
    · exact ⟨.panic _, f1, s1, π1, hle, fr1, R1, E1, q⟩
  | loop c ih =>
    intro hok fr s Q h π w a f R F
    obtain ⟨n, h⟩ := (show ∃ n, xRounds (xCode P (undraw ids c)) Q n fr s from h)
    exact wp_loop_rounds n (xRounds_sound (ih (by simpa [undrawOk] using hok)) n fr s h π w a f R F (PMap.le.refl π))
  | _ => intro _ fr s Q h; exact (show False from h).elim
end
end Go.Proofs.YtgpfgcbolinncaaGreat.Abs
