/- The quick run: operations in a frame. The quick run: a row of operations in the order of the text. -/
import Derived.Test.YtgpfgcbolinncaaGreatK3
set_option linter.unusedVariables false
set_option linter.unusedSimpArgs false
namespace Go.Proofs.YtgpfgcbolinncaaGreat.Abs
open Go Go.RowKit
noncomputable section

theorem andThen_eq {α β : Type} {m : AM α} {f : α → AM β} {s s' : ST} {a : α} (h : m s = some (a, s')) : AM.andThen m f s = f a s' := by unfold AM.andThen; rw [h]
abbrev CallK := FuncId → List Value → KM CRes
structure Ctx where
  it : Nat
  call : CallK
def CallSound (ck : CallK) (call : CallT) : Prop := ∀ f (args : List Value), KSound (ck f args) (call f args.toArray)
abbrev VK := Value → KS → Bool
abbrev OpT := CallK → Env → KS → VK → VK → (Deferred → KS → Bool) → Bool
def ovK (kv kp : VK) (kd : Deferred → KS → Bool) (x : KS) : OV → Bool
  | .val v => kv v x
  | .panic v => kp v x
  | .defer d => kd d x
def OpSound (m : OpT) (a : CallT → Trie Value → AM OV) : Prop := ∀ ck call, CallSound ck call → ∀ e tr, EnvRel e tr → ∀ x s kv kp kd, KRel x s → s.Free → m ck e x kv kp kd = true →
  ∃ ov s' x', a call tr s = some (ov, s') ∧ KRel x' s' ∧ s'.Free ∧ ovK kv kp kd x' ov = true
def failT : OpT := fun _ _ _ _ _ _ => false
theorem OpSound.fail (a : CallT → Trie Value → AM OV) : OpSound failT a := fun ck call hc e tr he x s kv kp kd R fr h => by cases h
def valT (m : Env → KM Value) : OpT := fun _ e s kv _ _ => m e s kv
theorem opRes_val {call : CallT} {ar : AR} {v : Value} (h : arV ar = some v) (s : ST) : opRes call ar s = some (.val v, s) := by
  cases ar <;> simp only [arV] at h <;> first | (cases h; done) | (simp only [Option.some.injEq] at h; subst h; rfl)
theorem OpSound.val {m : Env → KM Value} {P : Program} {fn : FnTab} {o : Oper} (h : ∀ e tr, EnvRel e tr → KSoundV (m e) (evalOp P fn (evalV tr) o)) : OpSound (valT m) (fun call tr => AM.andThen (evalOp P fn (evalV tr) o) (opRes call)) := by
  intro ck call hc e tr he x s kv kp kd R fr hh
  obtain ⟨ar, v, s', x', h1, hv, R1, f1, h2⟩ := h e tr he x s kv R fr hh
  exact ⟨.val v, s', x', (andThen_eq h1).trans (opRes_val hv s'), R1, f1, h2⟩

def oRead (o : Option Operand) : W (Env → Option Value) := match o with
  | none => ⟨fun _ => none⟩
  | some x => ⟨fun e => some ((opdW x).val e)⟩
theorem oRead_eq {e : Env} {tr : Trie Value} (h : EnvRel e tr) (o : Option Operand) : (oRead o).val e = o.map (evalV tr) := by
  cases o with
  | none => rfl
  | some x => show some _ = some _; rw [opdW_eq h]

section
variable (P : Program) (fn : FnTab)
def lenW (t : TypeId) : W (Value → KM Value) := match P.underlying t with
  | some (.slice _) => ⟨fun x s k => vSlice x (fun _ n _ => k (.int .i64 (.ofNat n)) s) false⟩
  | some (.map _ _) => ⟨fun x => kmapLen P t x⟩
  | _ => ⟨fun x => kpure (optK (lenA P t x))⟩
theorem lenW_ok (t : TypeId) (x : Value) : KSoundV ((lenW P t).val x) (lenAny P t x) := by
  unfold lenW
  split
  · rename_i e hu
    intro y s k R fr h
    obtain ⟨a, n, c, rfl, h2⟩ := vSlice_true h
    refine ⟨.val (.int .i64 n), _, s, y, ?_, rfl, R, fr, h2⟩
    unfold lenAny
    simp only [lenA, hu, Option.isSome_some, if_true]
    rfl
  · rename_i k' e hu
    intro y s k R fr h
    by_cases hn : lenA P t x = none
    · unfold lenAny
      rw [hn]
      exact KSoundV.val (kmapLen_ok P t x) y s k R fr h
    · have hx : x = .map none := by
        unfold lenA at hn
        rw [hu] at hn
        split at hn <;> simp_all
      subst hx
      have hl : lenA P t (.map none) = some (.int .i64 0) := by unfold lenA; rw [hu]
      unfold lenAny
      rw [hl]
      refine ⟨.val (.int .i64 0), _, s, y, rfl, rfl, R, fr, ?_⟩
      have h : (kbind (kopt (mapT P t)) fun mt => kbind (kentries (.map none)) fun es => kret (Value.int .i64 es.length)) y k = true := h
      obtain ⟨mt, hmt, h2⟩ := kopt_some h
      exact h2
  · intro y s k R fr h
    have h : optK (lenA P t x) (fun v => k v y) = true := h
    by_cases hn : lenA P t x = none
    · rw [hn] at h; cases h
    · obtain ⟨v, hv⟩ := Option.ne_none_iff_exists'.1 hn
      unfold lenAny
      rw [hv] at h ⊢
      exact ⟨.val v, _, s, y, rfl, rfl, R, fr, h⟩
def builtinW (b : Builtin) (ts : List TypeId) (args : List Operand) : W OpT := match b, ts, args with
  | .len, [t], [x] => ⟨valT fun e => (lenW P t).val ((opdW x).val e)⟩
  | .append, [t, t'], [x, y] => b2 (decide (t = t')) ⟨valT fun e => kappend P t ((opdW x).val e) ((opdW y).val e)⟩ ⟨failT⟩
  | .max, _, args => ⟨valT fun e s k => (rdsW args).val e fun l => optK (maxA l) fun v => k v s⟩
  | .min, _, args => ⟨valT fun e s k => (rdsW args).val e fun l => optK (minA l) fun v => k v s⟩
  | .clear, [t], [x] => ⟨valT fun e s k => kclear P t ((opdW x).val e) s fun _ => k undef⟩
  | _, _, _ => ⟨failT⟩
theorem builtinW_ok (b : Builtin) (c : Call) (o : Oper) (ho : o.op = .call c) (hb : c.callee = .builtin b) : OpSound (builtinW P b c.argTypes.toList c.args.toList).val (fun call tr => AM.andThen (evalOp P fn (evalV tr) o) (opRes call)) := by
  have hev : ∀ tr, evalOp P fn (evalV tr) o = builtinA P b c.argTypes.toList (argsV (evalV tr) c.args) := fun tr => by unfold evalOp; rw [ho]; simp only [hb]
  unfold builtinW
  split
  · rename_i t x hts has
    refine OpSound.val (m := fun e => (lenW P t).val ((opdW x).val e)) fun e tr he => ?_
    rw [hev, hts, opdW_eq he]
    unfold argsV
    rw [has]
    exact lenW_ok P t _
  · rename_i t t' x y hts has
    by_cases htt : t = t'
    · subst htt
      simp only [decide_true, b2_true]
      refine OpSound.val (m := fun e => kappend P t ((opdW x).val e) ((opdW y).val e)) fun e tr he => ?_
      rw [hev, hts, opdW_eq he, opdW_eq he]
      unfold argsV
      rw [has]
      have h : builtinA P .append [t, t] (List.map (evalV tr) [x, y]) = valOf (appendA P t (evalV tr x) (evalV tr y)) := by
        unfold builtinA
        simp only [List.map_cons, List.map_nil, twoArgs, if_true]
        rfl
      rw [h]
      exact .val (kappend_ok P t _ _)
    · simp only [htt, decide_false, b2_false]
      exact OpSound.fail _
  · refine OpSound.val (m := fun e s k => (rdsW c.args.toList).val e fun l => optK (maxA l) fun v => k v s) fun e tr he => ?_
    rw [hev]
    intro x s k R fr h
    simp only [rdsW_eq he] at h
    exact KSoundV.pure (KPure.opt _) x s k R fr h
  · refine OpSound.val (m := fun e s k => (rdsW c.args.toList).val e fun l => optK (minA l) fun v => k v s) fun e tr he => ?_
    rw [hev]
    intro x s k R fr h
    simp only [rdsW_eq he] at h
    exact KSoundV.pure (KPure.opt _) x s k R fr h
  · rename_i t x hts has
    refine OpSound.val (m := fun e s k => kclear P t ((opdW x).val e) s fun _ => k undef) fun e tr he => ?_
    rw [hev, hts, opdW_eq he]
    unfold argsV
    rw [has]
    intro y s k R fr h
    obtain ⟨u, s', x', h1, R1, f1, h2⟩ := kclear_ok P t (evalV tr x) y s (fun _ => k undef) R fr h
    refine ⟨.val undef, undef, s', x', ?_, rfl, R1, f1, h2⟩
    show AM.andThen (AM.ofOption (oneArg [t] [evalV tr x])) (fun p => AM.andThen (clearA P p.1 p.2) fun _ => AM.ret (AR.val undef)) s = _
    exact (andThen_eq (ofOption_eq _ s)).trans (andThen_eq h1)
  · exact OpSound.fail _
def toFn (f : Fn) : Option FuncId := match f with
  | .func g => some g
  | _ => none
def callW (f : Operand) (args : List Operand) : W OpT := match f with
  | .func g => match fn g with
    | some _ => ⟨fun ck e s kv kp _ => (rdsW args).val e fun as => ck g as s fun c s => CRes.casesOn (motive := fun _ => Bool) c (fun v => kv v s) (fun v => kp v s)⟩
    | none => ⟨failT⟩
  | f => ⟨fun ck e s kv kp _ => (rdsW args).val e fun as => vFunc ((opdW f).val e) (fun g a b => Option.rec (motive := fun _ => Bool) false (fun g => b2 (fn g).isSome (onto a.toList as fun as => onto as b.toList fun as => ck g as s fun c s => CRes.casesOn (motive := fun _ => Bool) c (fun v => kv v s) (fun v => kp v s)) false) (toFn g)) false⟩
theorem toFn_some {f : Fn} {g : FuncId} (h : toFn f = some g) : f = .func g := by
  unfold toFn at h
  split at h
  · simp only [Option.some.injEq] at h; subst h; rfl
  · cases h
theorem enter_run {call : CallT} {v : Value} {args : List Value} {g : FuncId} {a b : Array Value} (hv : v = .func (.func g) a b) (hf : (fn g).isSome = true) (s : ST) {c : CRes} {s' : ST} (h : call g (a ++ args.toArray ++ b) s = some (c, s')) :
    AM.andThen (enterA fn v args) (opRes call) s = some (match c with | .ret v => OV.val v | .panic v => OV.panic v, s') := by
  subst hv
  have h1 : enterA fn (.func (.func g) a b) args s = some (.enter g (a ++ args.toArray ++ b), s) := by
    unfold enterA
    exact (andThen_eq (ofOption_eq _ s)).trans (andThen_eq (guard_eq hf s))
  rw [andThen_eq h1]
  show AM.andThen (call g (a ++ args.toArray ++ b)) _ s = _
  rw [andThen_eq h]
  cases c <;> rfl
theorem callW_ok (f : Operand) (c : Call) (o : Oper) (ho : o.op = .call c) (hb : c.callee = .value f) : OpSound (callW fn f c.args.toList).val (fun call tr => AM.andThen (evalOp P fn (evalV tr) o) (opRes call)) := by
  have hev : ∀ tr, evalOp P fn (evalV tr) o = enterA fn (evalV tr f) (argsV (evalV tr) c.args) := fun tr => by unfold evalOp; rw [ho]; simp only [hb]
  have gen : ∀ (f' : Operand), f' = f → OpSound (fun ck e s kv kp _ => (rdsW c.args.toList).val e fun as => vFunc ((opdW f').val e) (fun g a b => Option.rec (motive := fun _ => Bool) false (fun g => b2 (fn g).isSome (onto a.toList as fun as => onto as b.toList fun as => ck g as s fun c s => CRes.casesOn (motive := fun _ => Bool) c (fun v => kv v s) (fun v => kp v s)) false) (toFn g)) false)
      (fun call tr => AM.andThen (evalOp P fn (evalV tr) o) (opRes call)) := by
    intro f' hf' ck call hc e tr he x s kv kp kd R fr h
    subst hf'
    simp only [rdsW_eq he, opdW_eq he] at h
    obtain ⟨g, a, b, hv, h2⟩ := vFunc_true h
    cases hg : toFn g with
    | none => rw [hg] at h2; cases h2
    | some i =>
      rw [hg] at h2
      have hg := toFn_some hg
      subst hg
      cases hs : (fn i).isSome with
      | false => simp only [hs, b2_false] at h2; cases h2
      | true =>
        simp only [hs, b2_true, onto_eq] at h2
        obtain ⟨r, s', x', h3, R1, f1, h4⟩ := hc i _ x s _ R fr h2
        refine ⟨_, s', x', by show AM.andThen _ _ s = _; rw [hev]; exact enter_run fn hv hs s (by rw [← h3]; congr 1; apply Array.ext'; simp [argsV]), R1, f1, ?_⟩
        cases r <;> exact h4
  unfold callW
  split
  · rename_i g
    split
    · rename_i F hF
      intro ck call hc e tr he x s kv kp kd R fr h
      simp only [rdsW_eq he] at h
      obtain ⟨r, s', x', h3, R1, f1, h4⟩ := hc g _ x s _ R fr h
      refine ⟨_, s', x', by show AM.andThen _ _ s = _; rw [hev]; exact enter_run (call := call) fn (v := evalV tr (.func g)) rfl (by rw [hF]; rfl) s (by rw [← h3]; congr 1; apply Array.ext'; simp [argsV]), R1, f1, ?_⟩
      cases r <;> exact h4
    · exact OpSound.fail _
  · exact gen _ rfl
def opW (o : Oper) : W OpT := match o.op with
  | .move x => ⟨valT fun e s k => (rdW x).val e fun v => k v s⟩
  | .assign x => ⟨valT fun e s k => (rdW x).val e fun v => k v s⟩
  | .pick c a b => ⟨valT fun e s k => vBool ((opdW c).val e) (fun t => b2 t ((rdW a).val e fun v => k v s) ((rdW b).val e fun v => k v s)) false⟩
  | .alloc e => ⟨valT fun _ => (kallocO P e).val⟩
  | .box t x => ⟨valT fun e s k => (rdW x).val e fun v => kbox t v s k⟩
  | .build t ps => ⟨valT fun e s k => (rdpW ps.toList).val e fun l => optK (buildA P t l) fun v => k v s⟩
  | .buildSlice t n ps => ⟨valT fun e s k => (rdpW ps.toList).val e fun l => kbuildSlice P t n l s k⟩
  | .load t a => ⟨valT fun e => (kload P t).val ((opdW a).val e)⟩
  | .store t a x => ⟨valT fun e s k => (rdW x).val e fun v => (kstore P t).val ((opdW a).val e) v s fun _ => k undef⟩
  | .nilCheck x => ⟨valT fun e => kpure (nilCheckK ((opdW x).val e))⟩
  | .binOp op t x y _ => ⟨valT fun e => kpure ((binP P t x y op).val ((opdW x).val e) ((opdW y).val e))⟩
  | .unOp op _ x => ⟨valT fun e => kpure (optK (unA P op ((opdW x).val e)))⟩
  | .convert s d x => b2 (memConv P s d) ⟨valT fun e => kconvM P s d ((opdW x).val e)⟩ ⟨valT fun e => kpure (optK (convA P s d ((opdW x).val e)))⟩
  | .makeInterface t x => ⟨valT fun e s k => (rdW x).val e fun v => optK (makeIfaceA P t v) fun v => k v s⟩
  | .makeFunc f first cap => ⟨valT fun e s k => (rdsW first.toList).val e fun a => (rdsW cap.toList).val e fun b => k (.func f ⟨a⟩ ⟨b⟩) s⟩
  | .makeMap t r => ⟨valT fun e => kmakeMap t ((oRead r).val e)⟩
  | .makeSlice t l c => ⟨valT fun e => kmakeSlice P t ((opdW l).val e) ((opdW c).val e)⟩
  | .slice t x lo hi mx => ⟨valT fun e => kpure (optK (sliceA P t ((opdW x).val e) ((oRead lo).val e) ((oRead hi).val e) ((oRead mx).val e)))⟩
  | .fieldAddr t x f => ⟨valT fun e => kpure ((fieldAddrW P t f).val ((opdW x).val e))⟩
  | .field t x f => ⟨valT fun e => kpure (optK (fieldA P t ((opdW x).val e) f))⟩
  | .indexAddr t x i => ⟨valT fun e => kpure ((indexAddrW P t).val ((opdW x).val e) ((opdW i).val e))⟩
  | .index t x i => ⟨valT fun e => kpure (optK (indexA P t ((opdW x).val e) ((opdW i).val e)))⟩
  | .lookup t x i ok => ⟨valT fun e => klookup P t ((opdW x).val e) ((opdW i).val e) ok⟩
  | .mapUpdate t m k v => ⟨valT fun e s kk => (rdW k).val e fun k => (rdW v).val e fun v => kmapUpdate P t ((opdW m).val e) k v s fun _ => kk undef⟩
  | .range t x => ⟨valT fun e => krangeStr P t ((opdW x).val e)⟩
  | .next it isS => b2 isS ⟨valT fun e => knextStr ((opdW it).val e)⟩ ⟨failT⟩
  | .typeAssert x xt a ok => ⟨valT fun e => kpure (optK (assertA P ((opdW x).val e) xt a ok))⟩
  | .extract t i => ⟨valT fun e => kpure ((extractW i).val ((opdW t).val e))⟩
  | .call c => match c.callee with
    | .builtin b => builtinW P b c.argTypes.toList c.args.toList
    | .value f => callW fn f c.args.toList
    | .invoke _ _ => ⟨failT⟩
  | .defer c => match c.callee with
    | .value f => ⟨fun _ e s _ _ kd => (rdsW c.args.toList).val e fun as => Option.rec (motive := fun _ => Bool) false (fun p => kd { target := .fn (.func p.1) p.2.2, args := p.2.1 ++ as.toArray } s) (asFunc ((opdW f).val e))⟩
    | _ => ⟨failT⟩
  | .panic x => ⟨fun _ e s _ kp _ => Option.rec (motive := fun _ => Bool) false (fun v => kp v s) (panicA ((opdW x).val e))⟩
  | _ => ⟨failT⟩
theorem opW_ok (o : Oper) : OpSound (opW P fn o).val (fun call tr => AM.andThen (evalOp P fn (evalV tr) o) (opRes call)) := by
  obtain ⟨dst, op, type, pos, after, guard⟩ := o
  have pm : ∀ {m : (Value → Bool) → Bool} {o : Option Value}, KPure m o → KSoundV (kpure m) (valO o) := KSoundV.pure
  cases op with
  | move x => exact OpSound.val (m := fun e s k => (rdW x).val e fun v => k v s) fun e tr he y s k R fr h => by (simp only [rdW_eq he] at h; exact ⟨_, _, s, y, rfl, rfl, R, fr, h⟩)
  | assign x => exact OpSound.val (m := fun e s k => (rdW x).val e fun v => k v s) fun e tr he y s k R fr h => by (simp only [rdW_eq he] at h; exact ⟨_, _, s, y, rfl, rfl, R, fr, h⟩)
  | pick c a b =>
    refine OpSound.val (m := fun e s k => vBool ((opdW c).val e) (fun t => b2 t ((rdW a).val e fun v => k v s) ((rdW b).val e fun v => k v s)) false) fun e tr he y s k R fr h => ?_
    obtain ⟨t, hc, h2⟩ := vBool_true h
    rw [opdW_eq he] at hc
    simp only [rdW_eq he] at h2
    refine ⟨.val (if t then evalV tr a else evalV tr b), _, s, y, ?_, rfl, R, fr, ?_⟩
    · show valO (pickA (evalV tr c) (evalV tr a) (evalV tr b)) s = _
      rw [hc]; rfl
    · cases t <;> exact h2
  | alloc e => exact OpSound.val (m := fun _ => (kallocO P e).val) fun e' tr he => .val (kallocO_ok P e)
  | box t x => exact OpSound.val (m := fun e s k => (rdW x).val e fun v => kbox t v s k) fun e tr he y s k R fr h => by (simp only [rdW_eq he] at h; exact KSoundV.val (kbox_ok t _) y s k R fr h)
  | build t ps => exact OpSound.val (m := fun e s k => (rdpW ps.toList).val e fun l => optK (buildA P t l) fun v => k v s) fun e tr he y s k R fr h => by (simp only [rdpW_eq he] at h; exact KSoundV.pure (KPure.opt _) y s k R fr h)
  | buildSlice t n ps => exact OpSound.val (m := fun e s k => (rdpW ps.toList).val e fun l => kbuildSlice P t n l s k) fun e tr he y s k R fr h => by (simp only [rdpW_eq he] at h; exact KSoundV.val (kbuildSlice_ok P t n _) y s k R fr h)
  | load t a => exact OpSound.val (m := fun e => (kload P t).val ((opdW a).val e)) fun e tr he => by rw [opdW_eq he]; exact .val (kload_ok P t _)
  | store t a x => exact OpSound.val (m := fun e s k => (rdW x).val e fun v => (kstore P t).val ((opdW a).val e) v s fun _ => k undef) fun e tr he y s k R fr h => by (simp only [rdW_eq he, opdW_eq he] at h; exact KSoundV.skip (kstore_ok P t _ _) y s k R fr h)
  | nilCheck x => exact OpSound.val (m := fun e => kpure (nilCheckK ((opdW x).val e))) fun e tr he => by rw [opdW_eq he]; exact pm (nilCheckK_ok _)
  | binOp op t x y yt => exact OpSound.val (m := fun e => kpure ((binP P t x y op).val ((opdW x).val e) ((opdW y).val e))) fun e tr he => by rw [opdW_eq he, opdW_eq he]; exact pm (binP_ok P t x y op _ _)
  | unOp op t x => exact OpSound.val (m := fun e => kpure (optK (unA P op ((opdW x).val e)))) fun e tr he => by rw [opdW_eq he]; exact pm (KPure.opt _)
  | convert s d x =>
    show OpSound (b2 (memConv P s d) ⟨valT fun e => kconvM P s d ((opdW x).val e)⟩ ⟨valT fun e => kpure (optK (convA P s d ((opdW x).val e)))⟩ : W OpT).val _
    cases hm : memConv P s d with
    | true =>
      refine OpSound.val (P := P) (fn := fn) (o := ⟨dst, .convert s d x, type, pos, after, guard⟩) (m := fun e => kconvM P s d ((opdW x).val e)) fun e tr he => ?_
      show KSoundV _ (if memConv P s d = true then _ else _)
      rw [if_pos hm, opdW_eq he]
      exact .val (kconvM_ok P s d _)
    | false =>
      refine OpSound.val (P := P) (fn := fn) (o := ⟨dst, .convert s d x, type, pos, after, guard⟩) (m := fun e => kpure (optK (convA P s d ((opdW x).val e)))) fun e tr he => ?_
      show KSoundV _ (if memConv P s d = true then _ else _)
      rw [if_neg (by rw [hm]; simp), opdW_eq he]
      exact pm (KPure.opt _)
  | makeInterface t x => exact OpSound.val (m := fun e s k => (rdW x).val e fun v => optK (makeIfaceA P t v) fun v => k v s) fun e tr he y s k R fr h => by (simp only [rdW_eq he] at h; exact KSoundV.pure (KPure.opt _) y s k R fr h)
  | makeFunc f first cap => exact OpSound.val (m := fun e s k => (rdsW first.toList).val e fun a => (rdsW cap.toList).val e fun b => k (.func f ⟨a⟩ ⟨b⟩) s) fun e tr he y s k R fr h => by (simp only [rdsW_eq he] at h; exact ⟨_, _, s, y, rfl, rfl, R, fr, h⟩)
  | makeMap t r => exact OpSound.val (m := fun e => kmakeMap t ((oRead r).val e)) fun e tr he => by (rw [oRead_eq he]; exact .val (.bind (.guard id) fun _ => .bind (.alloc _) fun _ => .ret _))
  | makeSlice t l c => exact OpSound.val (m := fun e => kmakeSlice P t ((opdW l).val e) ((opdW c).val e)) fun e tr he => by rw [opdW_eq he, opdW_eq he]; exact .val (kmakeSlice_ok P t _ _)
  | slice t x lo hi mx => exact OpSound.val (m := fun e => kpure (optK (sliceA P t ((opdW x).val e) ((oRead lo).val e) ((oRead hi).val e) ((oRead mx).val e)))) fun e tr he => by (rw [opdW_eq he, oRead_eq he, oRead_eq he, oRead_eq he]; exact pm (KPure.opt _))
  | fieldAddr t x f => exact OpSound.val (m := fun e => kpure ((fieldAddrW P t f).val ((opdW x).val e))) fun e tr he => by rw [opdW_eq he]; exact pm (fieldAddrW_ok P t f _)
  | field t x f => exact OpSound.val (m := fun e => kpure (optK (fieldA P t ((opdW x).val e) f))) fun e tr he => by rw [opdW_eq he]; exact pm (KPure.opt _)
  | indexAddr t x i => exact OpSound.val (m := fun e => kpure ((indexAddrW P t).val ((opdW x).val e) ((opdW i).val e))) fun e tr he => by rw [opdW_eq he, opdW_eq he]; exact pm (indexAddrW_ok P t _ _)
  | index t x i => exact OpSound.val (m := fun e => kpure (optK (indexA P t ((opdW x).val e) ((opdW i).val e)))) fun e tr he => by rw [opdW_eq he, opdW_eq he]; exact pm (KPure.opt _)
  | lookup t x i ok => exact OpSound.val (m := fun e => klookup P t ((opdW x).val e) ((opdW i).val e) ok) fun e tr he => by rw [opdW_eq he, opdW_eq he]; exact .val (klookup_ok P t _ _ ok)
  | mapUpdate t m k v => exact OpSound.val (m := fun e s kk => (rdW k).val e fun k => (rdW v).val e fun v => kmapUpdate P t ((opdW m).val e) k v s fun _ => kk undef) fun e tr he y s kk R fr h => by (simp only [rdW_eq he, opdW_eq he] at h; exact KSoundV.skip (kmapUpdate_ok P t _ _ _) y s kk R fr h)
  | range t x => exact OpSound.val (m := fun e => krangeStr P t ((opdW x).val e)) fun e tr he => by rw [opdW_eq he]; exact .val (krangeStr_ok P t _)
  | next it isS =>
    cases isS with
    | true => exact OpSound.val (m := fun e => knextStr ((opdW it).val e)) fun e tr he => by rw [opdW_eq he]; exact .val (knextStr_ok _)
    | false => exact OpSound.fail _
  | typeAssert x xt a ok => exact OpSound.val (m := fun e => kpure (optK (assertA P ((opdW x).val e) xt a ok))) fun e tr he => by rw [opdW_eq he]; exact pm (KPure.opt _)
  | extract t i => exact OpSound.val (m := fun e => kpure ((extractW i).val ((opdW t).val e))) fun e tr he => by rw [opdW_eq he]; exact pm (extractW_ok i _)
  | call c =>
    show OpSound (match c.callee with | .builtin b => builtinW P b c.argTypes.toList c.args.toList | .value f => callW fn f c.args.toList | .invoke _ _ => ⟨failT⟩ : W OpT).val _
    cases hc : c.callee with
    | builtin b => exact builtinW_ok P fn b c _ rfl hc
    | value f => exact callW_ok P fn f c _ rfl hc
    | invoke _ _ => exact OpSound.fail _
  | defer c =>
    show OpSound (match c.callee with | .value f => ⟨fun _ e s _ _ kd => (rdsW c.args.toList).val e fun as => Option.rec (motive := fun _ => Bool) false (fun p => kd { target := .fn (.func p.1) p.2.2, args := p.2.1 ++ as.toArray } s) (asFunc ((opdW f).val e))⟩ | _ => ⟨failT⟩ : W OpT).val _
    cases hc : c.callee with
    | value f =>
      intro ck call hcs e tr he x s kv kp kd R fr h
      simp only [rdsW_eq he, opdW_eq he] at h
      cases ha : asFunc (evalV tr f) with
      | none => rw [ha] at h; cases h
      | some p =>
        rw [ha] at h
        refine ⟨.defer { target := .fn (.func p.1) p.2.2, args := p.2.1 ++ (argsV (evalV tr) c.args).toArray }, s, x, ?_, R, fr, h⟩
        show AM.andThen (match c.callee with | .value f => deferA fn (evalV tr f) (argsV (evalV tr) c.args) | _ => AM.fail) (opRes call) s = _
        rw [hc]
        simp only [deferA, ha]
        rfl
    | _ => exact OpSound.fail _
  | panic x =>
    intro ck call hcs e tr he y s kv kp kd R fr h
    have h : Option.rec (motive := fun _ => Bool) false (fun v => kp v y) (panicA ((opdW x).val e)) = true := h
    rw [opdW_eq he] at h
    cases ha : panicA (evalV tr x) with
    | none => rw [ha] at h; cases h
    | some v =>
      rw [ha] at h
      refine ⟨.panic v, s, y, ?_, R, fr, h⟩
      show AM.andThen (AM.andThen (AM.ofOption (panicA (evalV tr x))) fun v => AM.ret (.panic v)) (opRes call) s = _
      rw [ha]; rfl
  | _ => exact OpSound.fail _
end
end
end Go.Proofs.YtgpfgcbolinncaaGreat.Abs
set_option linter.unusedVariables false
set_option linter.unusedSimpArgs false
namespace Go.Proofs.YtgpfgcbolinncaaGreat.Abs
open Go Go.RowKit
noncomputable section

def guardV (v : Value) (want y z : Bool) : Bool := Value.casesOn (motive_1 := fun _ => Bool) v (fun b => b2 b (b2 want y z) (b2 want z y)) (fun _ _ => z) (fun _ _ => z) (fun _ _ _ => false) (fun _ => z) (fun _ => z) (fun _ _ _ => z) (fun _ => z) (fun _ => z) (fun _ _ _ => z) z (fun _ _ => z) z (fun _ => z) (fun _ => z)
def guardA (v : Value) (want : Bool) : Option Bool := match v with
  | .bool b => some (b == want)
  | .complex _ _ _ => none
  | _ => some false
theorem guardV_eq (v : Value) (want y z : Bool) (h : guardV v want y z = true) : ∃ g, guardA v want = some g ∧ (if g = true then y else z) = true := by
  cases v <;> first
    | (rename_i b; refine ⟨b == want, rfl, ?_⟩; revert h; cases b <;> cases want <;> exact id)
    | exact ⟨false, rfl, h⟩
    | cases h
section
variable (P : Program) (fn : FnTab)
def valW (ops : Array Oper) (o : Oper) : W OpT := match o.guard with
  | none => opW P fn o
  | some (j, want) => match (ops[j]?).bind (·.dst) with
    | none => ⟨fun _ _ s kv _ _ => kv undef s⟩
    | some t => ⟨fun ck e s kv kp kd => guardV ((slotW t).val e) want ((opW P fn o).val ck e s kv kp kd) (kv undef s)⟩
theorem valW_ok (ops : Array Oper) (o : Oper) : OpSound (valW P fn ops o).val (fun call tr => opVal P fn call ops tr o) := by
  have hT : ∀ {call : CallT} {tr : Trie Value} {s : ST}, guardOk ops tr o = some true → opVal P fn call ops tr o s = AM.andThen (evalOp P fn (evalV tr) o) (opRes call) s := fun h => by
    unfold opVal; rw [h]; rfl
  have hF : ∀ {call : CallT} {tr : Trie Value} {s : ST}, guardOk ops tr o = some false → opVal P fn call ops tr o s = some (.val undef, s) := fun h => by
    unfold opVal; rw [h]; rfl
  unfold valW
  cases hg : o.guard with
  | none =>
    intro ck call hc e tr he x s kv kp kd R fr h
    obtain ⟨ov, s', x', h1, q⟩ := opW_ok P fn o ck call hc e tr he x s kv kp kd R fr h
    exact ⟨ov, s', x', (hT (by unfold guardOk; rw [hg])).trans h1, q⟩
  | some p =>
    obtain ⟨j, want⟩ := p
    simp only []
    cases hj : (ops[j]?).bind (·.dst) with
    | none =>
      intro ck call hc e tr he x s kv kp kd R fr h
      exact ⟨.val undef, s, x, hF (by unfold guardOk; rw [hg]; simp only [hj]), R, fr, h⟩
    | some t =>
      intro ck call hc e tr he x s kv kp kd R fr h
      obtain ⟨g, h1, h2⟩ := guardV_eq _ _ _ _ h
      have hv : (slotW t).val e = (tr.get t).getD undef := (getW_eq undef 2 t e).trans (he.get t)
      rw [hv] at h1
      have hgo : guardOk ops tr o = some g := by
        unfold guardOk; rw [hg]; simp only [hj]
        rw [← h1]
        generalize (tr.get t).getD undef = v
        cases v <;> rfl
      cases g with
      | true =>
        rw [if_pos rfl] at h2
        obtain ⟨ov, s', x', h3, q⟩ := opW_ok P fn o ck call hc e tr he x s kv kp kd R fr h2
        exact ⟨ov, s', x', (hT hgo).trans h3, q⟩
      | false =>
        exact ⟨.val undef, s, x, hF hgo, R, fr, h2⟩
end

/-! ### code that goes on -/
abbrev KN := Env → List Deferred → KS → Bool
abbrev KX := CE → Env → List Deferred → KS → Bool
abbrev CK := Ctx → Env → List Deferred → KS → KN → KX → Bool
structure FrK (n : Nat) (e : Env) (d : List Deferred) (fr : Fr) : Prop where
  env : EnvRel e fr.env
  n : fr.n = n
  defs : fr.defs = d
def srK (n : Nat) (kn : KN) (kx : KX) (x : KS) : SR → Prop
  | .next f => ∃ e d, FrK n e d f ∧ kn e d x = true
  | .panic v f => ∃ e d, FrK n e d f ∧ kx (.panic v) e d x = true
structure CtxOk (c : Ctx) (cl : CallT) : Prop where
  call : CallSound c.call cl
  mono : CallMono cl
def SRSound (n : Nat) (m : CK) (a : CallT → Fr → AM SR) : Prop := ∀ c call, CtxOk c call → ∀ e d fr, FrK n e d fr → ∀ x s kn kx, KRel x s → s.Free → m c e d x kn kx = true →
  ∃ r s' x', a call fr s = some (r, s') ∧ KRel x' s' ∧ s'.Free ∧ srK n kn kx x' r
section
variable (P : Program) (fn : FnTab) (n : Nat)
def stepW (ops : Array Oper) (o : Oper) : W CK := ⟨fun c e d s kn kx => (valW P fn ops o).val c.call e s (fun v s => (putW n o.dst).val e v fun e => kn e d s) (fun v s => kx (.panic v) e d s) (fun df s => (putW n o.dst).val e undef fun e => kn e (df :: d) s)⟩
theorem stepW_ok (ops : Array Oper) (o : Oper) : SRSound n (stepW P fn n ops o).val (fun call fr => AM.andThen (opVal P fn call ops fr.env o) (applyOV o fr)) := by
  intro c call hc e d fr hf x s kn kx R free h
  obtain ⟨ov, s', x', h1, R1, f1, h2⟩ := valW_ok P fn ops o c.call call hc.call e fr.env hf.env x s _ _ _ R free h
  cases ov with
  | val v =>
    obtain ⟨fr', e', hp, he, hn, hd, hk⟩ := putW_some h2 hf.env hf.n
    refine ⟨.next fr', s', x', ?_, R1, f1, e', d, ⟨he, hn, hd.trans hf.defs⟩, hk⟩
    refine (andThen_eq h1).trans ?_
    exact andThen_eq (s := s') (s' := s') (by rw [hp]; rfl)
  | panic v => exact ⟨.panic v fr, s', x', (andThen_eq h1).trans rfl, R1, f1, e, d, hf, h2⟩
  | defer df =>
    obtain ⟨fr', e', hp, he, hn, hd, hk⟩ := putW_some (fr := { fr with defs := df :: fr.defs }) h2 hf.env hf.n
    refine ⟨.next fr', s', x', ?_, R1, f1, e', df :: d, ⟨he, hn, by rw [hd, hf.defs]⟩, hk⟩
    refine (andThen_eq h1).trans ?_
    exact andThen_eq (s := s') (s' := s') (by rw [hp]; rfl)
def opsW (ops : Array Oper) (l : List Oper) : W CK := List.rec (motive := fun _ => W CK) ⟨fun c e d s kn kx => kn e d s⟩ (fun o r ih => ⟨fun c e d s kn kx => (stepW P fn n ops o).val c e d s (fun e d s => ih.val c e d s kn kx) kx⟩) l
theorem opsW_ok (ops : Array Oper) : ∀ (l : List Oper), SRSound n (opsW P fn n ops l).val (fun call fr => evalOps P fn call ops l fr)
  | [] => fun c call hc e d fr hf x s kn kx R free h => ⟨.next fr, s, x, rfl, R, free, e, d, hf, h⟩
  | o :: r => by
    intro c call hc e d fr hf x s kn kx R free h
    obtain ⟨y, s1, x1, h1, R1, f1, h2⟩ := stepW_ok P fn n ops o c call hc e d fr hf x s (fun e d s => (opsW P fn n ops r).val c e d s kn kx) kx R free h
    cases y with
    | next f =>
      obtain ⟨e1, d1, hf1, h3⟩ := h2
      obtain ⟨z, s2, x2, h4, q⟩ := opsW_ok ops r c call hc e1 d1 f hf1 x1 s1 kn kx R1 f1 h3
      exact ⟨z, s2, x2, (andThen_eq h1).trans h4, q⟩
    | panic v f => exact ⟨.panic v f, s1, x1, (andThen_eq h1).trans rfl, R1, f1, h2⟩

/-! ### a head that changes nothing, a tail that is a chain -/
def stillOp (o : Oper) : Bool := match o.op with
  | .move _ | .assign _ | .pick .. | .load .. | .binOp .. | .unOp .. | .build .. | .fieldAddr .. | .field .. | .indexAddr .. | .index .. | .typeAssert .. | .extract .. | .makeInterface .. | .slice .. => true
  | .convert s d _ => !memConv P s d
  | .call c => match c.callee, c.argTypes.toList, c.args.toList with
    | .builtin .len, [t], [_] => (mapT P t).isNone
    | _, _, _ => false
  | _ => false
theorem lenAny_plain {t : TypeId} (h : (mapT P t).isNone = true) (x : Value) : lenAny P t x = valO (lenA P t x) := by
  unfold lenAny
  split
  · rfl
  · rename_i hn
    have hl : lenA P t x = none := by simpa using hn
    rw [hl]
    unfold mapLenA
    have hm : mapT P t = none := by simpa using h
    rw [hm]
    rfl
theorem still_eq {o : Oper} (h : stillOp P o = true) (ρ : Operand → Value) : evalOp P fn ρ o = valOf (stillA P ρ o) := by
  obtain ⟨dst, op, type, pos, after, guard⟩ := o
  cases op with
  | convert s d x =>
    show (if memConv P s d = true then _ else _) = valOf (if memConv P s d = true then _ else _)
    have h : (!memConv P s d) = true := h
    cases hm : memConv P s d with
    | true => rw [hm] at h; cases h
    | false => rfl
  | call c =>
    simp only [stillOp] at h
    split at h
    · rename_i t x hc ht ha
      show (match c.callee with | .builtin b => builtinA P b c.argTypes.toList (argsV ρ c.args) | .value f => enterA fn (ρ f) (argsV ρ c.args) | .invoke _ _ => AM.fail) = valOf (match c.callee with | .builtin b => AM.ofOption (stillB P b c.argTypes.toList (argsV ρ c.args)) | _ => AM.fail)
      rw [hc]
      simp only [ht, argsV, ha, List.map_cons, List.map_nil]
      show lenAny P t (ρ x) = valOf (AM.ofOption (lenA P t (ρ x)))
      exact lenAny_plain P h _
    · cases h
  | _ => first | rfl | cases h
theorem still_step {ops : Array Oper} {o : Oper} (h : stillOp P o = true) {call : CallT} {fr : Fr} {s s' : ST} {r : SR} (e : AM.andThen (opVal P fn call ops fr.env o) (applyOV o fr) s = some (r, s')) :
    ∃ f, r = .next f ∧ ∀ (os : List Oper), evalStill P ops (o :: os) fr s = evalStill P ops os f s' := by
  obtain ⟨ov, s1, h1, h2⟩ := AM.andThen_some e
  obtain ⟨g, s2, h3, h4⟩ := AM.andThen_some h1
  obtain ⟨hg, rfl⟩ := ofOption_some h3
  have hgo : AM.ofOption (guardOk ops fr.env o) s2 = some (g, s2) := by rw [hg]; rfl
  cases g with
  | false =>
    rw [if_neg (by simp)] at h4
    obtain ⟨rfl, rfl⟩ := ret_some h4
    obtain ⟨f, s3, h5, h6⟩ := AM.andThen_some (show AM.andThen (AM.ofOption (putF fr o.dst undef)) (fun f => AM.ret (SR.next f)) s1 = some (r, s') from h2)
    obtain ⟨hp, rfl⟩ := ofOption_some h5
    obtain ⟨rfl, rfl⟩ := ret_some h6
    refine ⟨f, rfl, fun os => ?_⟩
    show AM.andThen (AM.ofOption (guardOk ops fr.env o)) _ s' = _
    rw [andThen_eq hgo, if_neg (by simp)]
    exact andThen_eq (by rw [hp]; rfl)
  | true =>
    rw [if_pos rfl, still_eq P fn h] at h4
    obtain ⟨ar, s3, h5, h6⟩ := AM.andThen_some h4
    obtain ⟨v, s4, h7, h8⟩ := AM.andThen_some h5
    obtain ⟨rfl, rfl⟩ := ret_some h8
    obtain ⟨rfl, rfl⟩ := ret_some (show AM.ret (OV.val v) s3 = some (ov, s1) from h6)
    obtain ⟨f, s5, h9, h10⟩ := AM.andThen_some (show AM.andThen (AM.ofOption (putF fr o.dst v)) (fun f => AM.ret (SR.next f)) s1 = some (r, s') from h2)
    obtain ⟨hp, rfl⟩ := ofOption_some h9
    obtain ⟨rfl, rfl⟩ := ret_some h10
    refine ⟨f, rfl, fun os => ?_⟩
    show AM.andThen (AM.ofOption (guardOk ops fr.env o)) _ s2 = _
    rw [andThen_eq hgo, if_pos rfl, andThen_eq h7]
    exact andThen_eq (by rw [hp]; rfl)
theorem tail_ok (ops : Array Oper) (rest : List Oper) : ∀ (l : List Oper), l.all (stillOp P) = true → SRSound n (opsW P fn n ops (l ++ rest)).val (fun call fr => AM.andThen (evalStill P ops l fr) fun f => evalOps P fn call ops rest f)
  | [], _ => opsW_ok P fn n ops rest
  | o :: r, ha => by
    simp only [List.all_cons, Bool.and_eq_true] at ha
    intro c call hc e d fr hf x s kn kx R free h
    obtain ⟨y, s1, x1, h1, R1, f1, h2⟩ := stepW_ok P fn n ops o c call hc e d fr hf x s (fun e d s => (opsW P fn n ops (r ++ rest)).val c e d s kn kx) kx R free h
    obtain ⟨f, rfl, hs⟩ := still_step P fn ha.1 h1
    obtain ⟨e1, d1, hf1, h3⟩ := h2
    obtain ⟨z, s2, x2, h4, q⟩ := tail_ok ops rest r ha.2 c call hc e1 d1 f hf1 x1 s1 kn kx R1 f1 h3
    refine ⟨z, s2, x2, ?_, q⟩
    rw [← h4]
    show AM.andThen _ _ s = AM.andThen _ _ s1
    unfold AM.andThen
    rw [hs r]
def tailW (ops : Array Oper) (k : Nat) : W CK := b2 ((ops.toList.take k).all (stillOp P)) (opsW P fn n ops ops.toList) ⟨fun _ _ _ _ _ _ => false⟩
theorem tailW_ok (ops : Array Oper) (k : Nat) : SRSound n (tailW P fn n ops k).val (fun call fr => evalTail P fn call ops k fr) := by
  unfold tailW
  cases h : (ops.toList.take k).all (stillOp P) with
  | false => intro c call hc e d fr hf x s kn kx R free h; cases h
  | true =>
    have := tail_ok P fn n ops (ops.toList.drop k) (ops.toList.take k) h
    rw [List.take_append_drop] at this
    exact this
end
end
end Go.Proofs.YtgpfgcbolinncaaGreat.Abs
