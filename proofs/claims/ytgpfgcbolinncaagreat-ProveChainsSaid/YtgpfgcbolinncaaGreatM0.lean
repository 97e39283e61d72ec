/- The weakest precondition of code over abstract states: what it says, and that the machine keeps it. -/
import Derived.Test.YtgpfgcbolinncaaGreatP5
import Derived.Laws.FloatArith
import Derived.Laws.NewFold
set_option linter.unusedVariables false
set_option linter.unusedSimpArgs false
namespace Go.Proofs.YtgpfgcbolinncaaGreat.Abs
open Go Go.RowKit

def noPrim : PrimT := fun _ => none
def noFn : FnTab := fun _ => none
theorem noFn_ok (P : Program) : FnOk P noFn := ⟨fun f c h => by simp [noFn] at h⟩
def fnOf (P : Program) : FnTab := fun f => match P.funcs[f]? with
  | some F => match F.body with
    | some c => some (c, F.ntmps, F.results)
    | none => none
  | none => none
def plainNames (P : Program) : Bool := P.funcs.toList.all fun F => F.name != "runtime.NumGoroutine"
theorem fnOf_ok {P : Program} (h : plainNames P = true) : FnOk P (fnOf P) := by
  refine ⟨fun f c hf => ?_⟩
  unfold fnOf at hf
  split at hf
  · rename_i F hF
    split at hf
    · rename_i b hb
      simp only [Option.some.injEq] at hf
      subst hf
      refine ⟨F, hF, hb, rfl, rfl, ?_⟩
      have hm := Array.mem_of_getElem? hF
      have := List.all_eq_true.1 h F (by simpa using hm)
      simpa using this
    · cases hf
  · cases hf

/-! ### what a call comes to -/
def After (B : Nat) (w0 : World) (π : PMap) (Q : CRes → ST → Prop) (e : Ending) (w : World) : Prop := ∃ r s π', π.le π' ∧ s.Free ∧ Rel B w0 π' s.heap w ∧ CRel π' r e ∧ Q r s
def NextIs (P : Program) (D : Ending → World → Prop) : Result Next → Prop
  | .ok (.value v) w => D (.returned v) w
  | .ok (.enter g a) w => Calls P g a w D
  | _ => False
/-- a call ends, and then Q -/
def Does (P : Program) (f : FuncId) (args : Array Value) (s : ST) (Q : CRes → ST → Prop) : Prop := ∀ (B : Nat) (w0 : World) (π : PMap) (w : World) (args' : Array Value), s.Free → Rel B w0 π s.heap w → VRels π args args' →
  NextIs P (After B w0 π Q) ((callFunc f args').run P w)
theorem NextIs.mono {P : Program} {D D' : Ending → World → Prop} (h : ∀ e w, D e w → D' e w) {r : Result Next} (x : NextIs P D r) : NextIs P D' r := by
  unfold NextIs at *
  split at x
  · exact h _ _ x
  · exact x.mono h
  · exact x.elim
theorem Does.mono {P : Program} {f : FuncId} {args : Array Value} {s : ST} {Q Q' : CRes → ST → Prop} (h : Does P f args s Q) (k : ∀ r s', s'.Free → Q r s' → Q' r s') : Does P f args s Q' := by
  intro B w0 π w args' fr R ha
  refine NextIs.mono ?_ (h B w0 π w args' fr R ha)
  rintro e w ⟨r, s, π', a, b, c, d, q⟩
  exact ⟨r, s, π', a, b, c, d, k _ _ b q⟩
theorem Does.pre {P : Program} {f : FuncId} {args : Array Value} {s : ST} {Q : CRes → ST → Prop} (h : s.Free → Does P f args s Q) : Does P f args s Q :=
  fun B w0 π w args' fr R ha => h fr B w0 π w args' fr R ha

/-! ### operations -/
section
variable (P : Program)
def xO {α : Type} (o : Option (α × ST)) (k : α → ST → Prop) : Prop := match o with
  | some (a, s) => k a s
  | none => False
def xPut (o : Option Fr) (k : Fr → Prop) : Prop := match o with
  | some f => k f
  | none => False
def xV (o : Option Value) (k : Value → Prop) : Prop := match o with
  | some v => k v
  | none => False
def xCR (dst : Option Tmp) (fr : Fr) (Q : SR → ST → Prop) (c : CRes) (s : ST) : Prop := match c with
  | .ret v => xPut (putF fr dst v) fun f => Q (.next f) s
  | .panic v => Q (.panic v fr) s
def xAR (dst : Option Tmp) (fr : Fr) (Q : SR → ST → Prop) (ar : AR) (s : ST) : Prop := match ar with
  | .val v => xPut (putF fr dst v) fun f => Q (.next f) s
  | .skip => xPut (putF fr dst undef) fun f => Q (.next f) s
  | .enter _ _ => False
  | .panic v => Q (.panic v fr) s
  | .defer d => xPut (putF { fr with defs := d :: fr.defs } dst undef) fun f => Q (.next f) s
  | .recover => False
def xCall (dst : Option Tmp) (fr : Fr) (Q : SR → ST → Prop) (p : Option (FuncId × Array Value × Array Value)) (args : List Value) (s : ST) : Prop := match p with
  | some (g, a, c) => Does P g (a ++ args.toArray ++ c) s (xCR dst fr Q)
  | none => False
/-- sums and their kin on floats: a NaN may be any -/
def floatNaN (r : Nat) : Prop := r < 2 ^ 64 ∧ isNan r = true
def xFloat (op : BinOp) (a b : Nat) (k : Value → Prop) : Prop := a ≠ nanBits ∧ b ≠ nanBits ∧ match op with
  | .add | .sub | .mul | .quo => match floatBits op .f64 a b with
    | some r => k (.float .f64 r)
    | none => ∀ r, floatNaN r → k (.float .f64 r)
  | .eql => k (.bool (FloatKind.f64.format.order a b == some .eq))
  | .neq => k (.bool (FloatKind.f64.format.order a b != some .eq))
  | .lss => k (.bool (FloatKind.f64.format.order a b == some .lt))
  | .gtr => k (.bool (FloatKind.f64.format.order a b == some .gt))
  | _ => False
def isFloatT (t : TypeId) : Bool := match P.underlying t with
  | some (.float _) => true
  | _ => false
def xBin (op : BinOp) (t : TypeId) (xo yo : Operand) (x y : Value) (k : Value → Prop) : Prop := match x, y with
  | .float .f64 a, .float .f64 b => isFloatT P t = true ∧ xFloat op a b k
  | x, y => xV (binA P op t xo yo x y) k
/-- a number becomes a float -/
def xConv (s d : TypeId) (x : Value) (k : Value → Prop) : Prop := match P.underlying s, P.underlying d, x with
  | some _, some (.float .f64), .int _ n => k (.float .f64 (FloatKind.f64.nearest n))
  | _, _, _ => False
def xOp (o : Oper) (fr : Fr) (s : ST) (Q : SR → ST → Prop) : Prop := match o.op with
  | .convert a d x => if isFloatT P d = true then xConv P a d (evalV fr.env x) (fun v => xPut (putF fr o.dst v) fun f => Q (.next f) s) else xO (evalOp P noFn (evalV fr.env) o s) (xAR o.dst fr Q)
  | .call c => match c.callee with
    | .value f => xCall P o.dst fr Q (asFunc (evalV fr.env f)) (argsV (evalV fr.env) c.args) s
    | .builtin b => xO (builtinA P b c.argTypes.toList (argsV (evalV fr.env) c.args) s) (xAR o.dst fr Q)
    | .invoke _ _ => False
  | .binOp op t x y _ => xBin P op t x y (evalV fr.env x) (evalV fr.env y) fun v => xPut (putF fr o.dst v) fun f => Q (.next f) s
  | _ => xO (evalOp P noFn (evalV fr.env) o s) (xAR o.dst fr Q)
def xG (g : Option Bool) (k l : Prop) : Prop := match g with
  | some true => k
  | some false => l
  | none => False
def xGO (ops : Array Oper) (o : Oper) (fr : Fr) (s : ST) (Q : SR → ST → Prop) : Prop := xG (guardOk ops fr.env o) (xOp P o fr s Q) (xPut (putF fr o.dst undef) fun f => Q (.next f) s)
def xSR (k : Fr → ST → Prop) (Q : SR → ST → Prop) (r : SR) (s : ST) : Prop := match r with
  | .next f => k f s
  | .panic v f => Q (.panic v f) s
def xOps (ops : Array Oper) : List Oper → Fr → ST → (SR → ST → Prop) → Prop
  | [], fr, s, Q => Q (.next fr) s
  | o :: r, fr, s, Q => xGO P ops o fr s (xSR (fun f s' => xOps ops r f s' Q) Q)
/-- two frames that say the same of each slot -/
structure FrEq (f g : Fr) : Prop where
  n : f.n = g.n
  defs : f.defs = g.defs
  env : ∀ t, f.env.get t = g.env.get t
/-- any order that the edges let -/
def xAny (ops : Array Oper) (Q : SR → ST → Prop) : Nat → Array Bool → Fr → ST → Prop
  | 0, listed, fr, s => Region.ready .any ops listed = [] ∧ ∃ f, FrEq f fr ∧ Q (.next f) s
  | n + 1, listed, fr, s => (Region.ready .any ops listed = [] → ∃ f, FrEq f fr ∧ Q (.next f) s) ∧
    ∀ i ∈ Region.ready .any ops listed, ∀ o, ops[i]? = some o → xGO P ops o fr s (xSR (fun f s' => xAny ops Q n (listed.setIfInBounds i true) f s') Q)
def xDraw (ops : Array Oper) (fr : Fr) (s : ST) (Q : SR → ST → Prop) : Prop := xAny P ops Q ops.size (Array.replicate ops.size false) fr s

/-! ### code -/
def xB (c : Option Bool) (k l : Prop) : Prop := match c with
  | some true => k
  | some false => l
  | none => False
def xNext (k : Fr → ST → Prop) (Q : CE → Fr → ST → Prop) (e : CE) (f : Fr) (s : ST) : Prop := match e with
  | .normal => k f s
  | e => Q e f s
def xRounds (body : Fr → ST → (CE → Fr → ST → Prop) → Prop) (Q : CE → Fr → ST → Prop) : Nat → Fr → ST → Prop
  | 0, _, _ => False
  | n + 1, fr, s => body fr s (xNext (xRounds body Q n) Q)
def xRg (Q : CE → Fr → ST → Prop) (r : SR) (s : ST) : Prop := match r with
  | .next f => Q .normal f s
  | .panic v f => Q (.panic v) f s
def xCode : Code → Fr → ST → (CE → Fr → ST → Prop) → Prop
  | .skip, fr, s, Q => Q .normal fr s
  | .label _, fr, s, Q => Q .normal fr s
  | .region _ ops true, fr, s, Q => xDraw P ops fr s (xRg Q)
  | .region _ ops false, fr, s, Q => xOps P ops ops.toList fr s (xRg Q)
  | .seq a b, fr, s, Q => xCode a fr s (xNext (fun f s' => xCode b f s' Q) Q)
  | .cond c x y, fr, s, Q => xB (boolOf (evalV fr.env c)) (xCode x fr s Q) (xCode y fr s Q)
  | .block id c, fr, s, Q => xCode c fr s fun e f s' => Q (inBlk id e) f s'
  | .loop c, fr, s, Q => ∃ n, xRounds (xCode c) Q n fr s
  | .exit id, fr, s, Q => Q (.exit id) fr s
  | .ret, fr, s, Q => Q .ret fr s
  | _, _, _, _ => False
end

/-! ### the machine keeps it: one operation -/
section
variable {P : Program}
theorem xPut_some {o : Option Fr} {k : Fr → Prop} (h : xPut o k) : ∃ f, o = some f ∧ k f := by
  unfold xPut at h
  split at h
  · rename_i f; exact ⟨f, rfl, h⟩
  · exact h.elim
def SK (π : PMap) (a : Act) (QM : Exit → Act → World → Prop) (K : Act → World → Prop) (w : World) : SR → Prop
  | .next f => ∀ a', FRel π f a' → K a' w
  | .panic v f => ∀ chain, PanicsWith π v chain → FRel π f a → QM (.panic chain) a w
theorem nan_cut (x y t : Nat) : floatNaN (Question.cut (.nanBits .f64 x y) t) := by
  have h : Question.cut (.nanBits .f64 x y) t = (t % 2) * 2 ^ 63 + 0x7ff0000000000000 + 1 + (t / 2) % (2 ^ 52 - 1) := rfl
  rw [h]
  have h1 : t % 2 = 0 ∨ t % 2 = 1 := by omega
  have h2 : (t / 2) % (2 ^ 52 - 1) < 2 ^ 52 - 1 := by omega
  generalize (t / 2) % (2 ^ 52 - 1) = f at h2 ⊢
  rcases h1 with h1 | h1
  all_goals
    rw [h1]
    refine ⟨by omega, ?_⟩
    show decide _ = true
    rw [decide_eq_true_eq]
    omega
theorem float_eq {π : PMap} {a : Nat} {v : Value} (h : VRel π (.float .f64 a) v) (ha : a ≠ nanBits) : v = .float .f64 a := by
  cases h with
  | float k b => rfl
  | nan b _ _ => exact absurd rfl ha
theorem xFloat_run {π : PMap} {op : BinOp} {t : TypeId} {xo yo : Operand} {a b : Nat} {k : Value → Prop} (h : xFloat op a b k) {x y : Value} (hx : VRel π (.float .f64 a) x) (hy : VRel π (.float .f64 b) y) (w : World) :
    ∃ v v' w', (do eqGuard op t xo yo x y; binOp op t x y : Sem Value).run P w = .ok v' w' ∧ (w' = w ∨ w' = w.drew) ∧ VRel π v v' ∧ k v := by
  obtain ⟨ha, hb, h⟩ := h
  have hx := float_eq hx ha
  have hy := float_eq hy hb
  subst hx hy
  have g : (eqGuard op t xo yo (.float .f64 a) (.float .f64 b)).run P w = .ok () w := run_eqGuard_ne (by simp) (by simp)
  simp only [Sem.run_bind, g, Result.andThen_ok]
  have arith : ∀ {op : BinOp}, (op = .add ∨ op = .sub ∨ op = .mul ∨ op = .quo) → (match floatBits op .f64 a b with
    | some r => k (.float .f64 r)
    | none => ∀ r, floatNaN r → k (.float .f64 r)) → ∃ v v' w', (binOp op t (.float .f64 a) (.float .f64 b)).run P w = .ok v' w' ∧ (w' = w ∨ w' = w.drew) ∧ VRel π v v' ∧ k v := by
    intro op hop h
    cases hf : floatBits op .f64 a b with
    | some r =>
      rw [hf] at h
      exact ⟨_, _, w, run_float_arith w op t .f64 a b r hf, .inl rfl, .float _ r, h⟩
    | none =>
      rw [hf] at h
      refine ⟨_, _, w.drew, ?_, .inr rfl, .float .f64 (Question.cut (.nanBits .f64 a b) (w.tape w.drawn (.nanBits .f64 a b))), h _ (nan_cut _ _ _)⟩
      rcases hop with rfl | rfl | rfl | rfl <;> simp only [floatBits] at hf <;> simp [binOp, Op.floatArith, hf, Question.forced]
  cases op with
  | add => exact arith (.inl rfl) h
  | sub => exact arith (.inr (.inl rfl)) h
  | mul => exact arith (.inr (.inr (.inl rfl))) h
  | quo => exact arith (.inr (.inr (.inr rfl))) h
  | eql => exact ⟨_, _, w, by rw [binOp_float_cmp_eql]; rfl, .inl rfl, .bool _, h⟩
  | neq => exact ⟨_, _, w, by rw [binOp_float_cmp_neq]; rfl, .inl rfl, .bool _, h⟩
  | lss => exact ⟨_, _, w, by rw [binOp_float_cmp_lss]; rfl, .inl rfl, .bool _, h⟩
  | gtr => exact ⟨_, _, w, by rw [binOp_float_cmp_gtr]; rfl, .inl rfl, .bool _, h⟩
  | _ => exact h.elim
theorem xBin_run {π : PMap} {op : BinOp} {t : TypeId} {xo yo : Operand} {x y x' y' : Value} {k : Value → Prop} (h : xBin P op t xo yo x y k) (hx : VRel π x x') (hy : VRel π y y') (w : World) :
    ∃ v v' w', (do eqGuard op t xo yo x' y'; binOp op t x' y' : Sem Value).run P w = .ok v' w' ∧ (w' = w ∨ w' = w.drew) ∧ VRel π v v' ∧ k v := by
  unfold xBin at h
  split at h
  · exact xFloat_run h.2 hx hy w
  · unfold xV at h
    split at h
    · rename_i v hv
      obtain ⟨v', e, r⟩ := binA_sim hv hx hy w
      exact ⟨v, v', w, e, .inl rfl, r, h⟩
    · exact h.elim

theorem xConv_run {π : PMap} {s d : TypeId} {x x' : Value} {k : Value → Prop} (h : xConv P s d x k) (hx : VRel π x x') (w : World) : ∃ v v', (convert s d x').run P w = .ok v' w ∧ VRel π v v' ∧ k v := by
  unfold xConv at h
  split at h
  · rename_i ds kk n hs hd
    cases hx
    exact ⟨_, .float .f64 (FloatKind.f64.nearest n), by simp [convert, run_underlying hs, run_underlying hd, Conv.intToFloat], .float _ _, h⟩
  · exact h.elim
theorem xGO_wp {B : Nat} {w0 : World} {ops : Array Oper} {fr : Fr} {o : Oper} {s : ST} {Q : SR → ST → Prop} (h : xGO P ops o fr s Q) (fr_ : s.Free) {π : PMap} {w : World} {a : Act} (R : Rel B w0 π s.heap w) (F : FRel π fr a)
    {QM : Exit → Act → World → Prop} {K : Act → World → Prop} (k : ∀ π' w' x s', π.le π' → s'.Free → Rel B w0 π' s'.heap w' → Q x s' → SK π' a QM K w' x) :
    if Region.wanted o (yielded ops a.tmps) = true then o.wp P a w K QM else K (a.put o.dst undef) w := by
  unfold xGO xG at h
  have hval : ∀ {v v' : Value} {π' : PMap} {w' : World} {s' : ST}, xPut (putF fr o.dst v) (fun f => Q (.next f) s') → π.le π' → s'.Free → Rel B w0 π' s'.heap w' → VRel π' v v' → K (a.put o.dst v') w' := by
    intro v v' π' w' s' h hle f R' hv
    obtain ⟨f2, hf, h⟩ := xPut_some h
    exact k π' w' _ _ hle f R' h _ ((F.mono hle).put hf hv)
  split at h
  · rename_i hg
    have hw := wanted_of F hg
    rw [hw, if_pos rfl]
    have gen : xO (evalOp P noFn (evalV fr.env) o s) (xAR o.dst fr Q) → o.wp P a w K QM := by
      intro h
      unfold xO at h
      split at h
      · rename_i ar s1 he
        obtain ⟨π1, w1, hle, R1, hres⟩ := evalOp_sim (noFn_ok P) o he R (evalV_rel F)
        have f1 := (mono_evalOp P noFn (evalV fr.env) o).free he fr_
        unfold Oper.wp
        rcases hres with ⟨v, v', rfl, hrun, hv⟩ | ⟨n, hrun, hn⟩
        · rw [hrun, Oper.upon_panic]
          exact k π1 w1 _ _ hle f1 R1 h _ ⟨v', rfl, hv⟩ (F.mono hle)
        · rw [hrun]
          cases ar with
          | val v =>
            cases n <;> simp only [NRel] at hn
            rw [Oper.upon_value]
            exact hval h hle f1 R1 hn
          | skip =>
            cases n <;> simp only [NRel] at hn
            rw [Oper.upon_skip]
            exact hval h hle f1 R1 (undef_rel _)
          | enter g as => exact h.elim
          | panic v => cases n <;> simp only [NRel] at hn
          | defer d =>
            cases n <;> simp only [NRel] at hn
            rw [Oper.upon_defer]
            obtain ⟨f2, hf, h⟩ := xPut_some h
            exact k π1 w1 _ _ hle f1 R1 h _ (((F.mono hle).defer hn).put hf (undef_rel _))
          | recover => exact h.elim
      · exact h.elim
    obtain ⟨dst, op, type, pos, after, guard⟩ := o
    unfold xOp at h
    split at h
    · rename_i sr d x hop
      simp only at hop
      subst hop
      split at h
      · obtain ⟨v, v', e, hv, hk⟩ := xConv_run h (evalV_rel F x) w
        unfold Oper.wp
        have hrun : (execOp a.eval { dst, op := .convert sr d x, type, pos, after, guard }).run P w = .ok (.value v') w := by
          simp only [execOp, Sem.run_bind, Sem.run_pure, e, Result.andThen_ok]
        rw [hrun, Oper.upon_value]
        exact hval hk (PMap.le.refl π) fr_ R hv
      · exact gen h
    · rename_i c hop
      simp only at hop
      subst hop
      obtain ⟨callee, args, ts⟩ := c
      cases callee with
      | builtin b => exact gen h
      | invoke _ _ => exact h.elim
      | value f =>
        simp only at h
        unfold xCall at h
        split at h
        · rename_i g xs ys hp
          have hp := asFunc_some hp
          simp only at hp
          have hv := evalV_rel F f
          rw [hp] at hv
          unfold Oper.wp
          have hargs := (argsV_lrel (evalV_rel F) args).arrays
          simp only [Array.toArray_toList] at hargs
          generalize hfa : a.eval f = fa at hv
          cases hv with
          | func _ _ xs' _ ys' hx hy hxr hyr =>
            have hrun : (execOp a.eval { dst, op := .call { callee := .value f, args := args, argTypes := ts }, type, pos, after, guard }).run P w = (callFunc g (xs' ++ args.map a.eval ++ ys')).run P w := by
              simp only [execOp, resolve, Sem.run_bind, Sem.run_pure, Result.andThen_ok, hfa, Deferred.ofValue, invoke]
            rw [hrun]
            have hd := h B w0 π w _ fr_ R ((VRels.append ⟨hx, hxr⟩ hargs).append ⟨hy, hyr⟩)
            unfold NextIs at hd
            split at hd
            · rename_i v w1 he
              rw [he, Oper.upon_value]
              obtain ⟨r, s1, π1, hle, f1, R1, hcr, q⟩ := hd
              cases r with
              | ret v1 => exact hval q hle f1 R1 hcr
              | panic v1 => exact hcr.elim
            · rename_i g2 as w1 he
              rw [he, Oper.upon_enter]
              refine hd.mono ?_
              rintro e w2 ⟨r, s1, π1, hle, f1, R1, hcr, q⟩
              cases r with
              | ret v1 =>
                cases e <;> simp only [CRel] at hcr
                exact hval q hle f1 R1 hcr
              | panic v1 =>
                cases e <;> simp only [CRel] at hcr
                exact k π1 w2 _ _ hle f1 R1 q _ hcr (F.mono hle)
            · exact hd.elim
        · exact h.elim
    · rename_i bop t x y yt hop
      simp only at hop
      subst hop
      obtain ⟨v, v', w', e, hw', hv, hk⟩ := xBin_run h (evalV_rel F x) (evalV_rel F y) w
      unfold Oper.wp
      have hrun : (execOp a.eval { dst, op := .binOp bop t x y yt, type, pos, after, guard }).run P w = .ok (.value v') w' := by
        simp only [execOp, Sem.run_bind, Sem.run_pure] at e ⊢
        generalize (eqGuard bop t x y (a.eval x) (a.eval y)).run P w = q at e ⊢
        cases q with
        | halt z w2 => simp at e
        | ok z w2 =>
          simp only [Result.andThen_ok] at e ⊢
          rw [e]; rfl
      rw [hrun, Oper.upon_value]
      have R' : Rel B w0 π s.heap w' := by
        rcases hw' with rfl | rfl
        · exact R
        · exact R.drew
      exact hval hk (PMap.le.refl π) fr_ R' hv
    · exact gen h
  · rename_i hg
    have hw := wanted_of F hg
    rw [hw, if_neg (by simp)]
    exact hval h (PMap.le.refl π) fr_ R (undef_rel _)
  · exact h.elim
end
end Go.Proofs.YtgpfgcbolinncaaGreat.Abs
