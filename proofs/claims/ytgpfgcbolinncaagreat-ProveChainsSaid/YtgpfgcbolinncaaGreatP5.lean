/- Code, functions, deferred calls: the abstract run, and that the machine does as it does. Functions, what is deferred, recover; calls with fuel. For proofs over unknown input: what a step leaves as it was. -/
import Derived.Test.YtgpfgcbolinncaaGreatP4
import Derived.Recover
import Derived.LoopN
set_option linter.unusedVariables false
set_option linter.unusedSimpArgs false
namespace Go.Proofs.YtgpfgcbolinncaaGreat.Abs
open Go Go.RowKit

inductive CE where
  | normal
  | exit (id : Nat)
  | ret
  | panic (v : Value)
def ofSR : SR → AM (CE × Fr)
  | .next f => AM.ret (.normal, f)
  | .panic v f => AM.ret (.panic v, f)
def boolOf : Value → Option Bool
  | .bool b => some b
  | _ => none
theorem boolOf_some {v : Value} {b : Bool} (h : boolOf v = some b) : v = .bool b := by
  unfold boolOf at h
  split at h
  · simp only [Option.some.injEq] at h; subst h; rfl
  · cases h
def inBlk (id : Nat) : CE → CE
  | .exit i => if i = id then .normal else .exit i
  | e => e
def loopA (body : Fr → AM (CE × Fr)) : Nat → Fr → AM (CE × Fr)
  | 0, _ => AM.fail
  | n + 1, fr => AM.andThen (body fr) fun x => match x.1 with
    | .normal => loopA body n x.2
    | e => AM.ret (e, x.2)
def evalCode (P : Program) (fn : FnTab) (call : CallT) (iter : Nat) : Code → Fr → AM (CE × Fr)
  | .skip, fr => AM.ret (.normal, fr)
  | .label _, fr => AM.ret (.normal, fr)
  | .region _ ops draw, fr => AM.andThen (if draw = true then evalOpen P fn call ops fr else evalOps P fn call ops ops.toList fr) ofSR
  | .seq a b, fr => AM.andThen (evalCode P fn call iter a fr) fun x => match x.1 with
    | .normal => evalCode P fn call iter b x.2
    | e => AM.ret (e, x.2)
  | .cond c x y, fr => AM.andThen (AM.ofOption (boolOf (evalV fr.env c))) fun b => if b = true then evalCode P fn call iter x fr else evalCode P fn call iter y fr
  | .block id c, fr => AM.andThen (evalCode P fn call iter c fr) fun x => AM.ret (inBlk id x.1, x.2)
  | .loop c, fr => loopA (evalCode P fn call iter c) iter fr
  | .exit id, fr => AM.ret (.exit id, fr)
  | .ret, fr => AM.ret (.ret, fr)
  | _, _ => AM.fail

def ERel (π : PMap) : CE × Fr → Exit → Act → Prop
  | (.normal, f), .normal, a => FRel π f a
  | (.exit i, f), .exit j, a => i = j ∧ FRel π f a
  | (.ret, f), .ret, a => FRel π f a
  | (.panic v, f), .panic chain, a => PanicsWith π v chain ∧ FRel π f a
  | _, _, _ => False

/-! ### a larger heap -/
theorem mono_ofSR (r : SR) : Mono (ofSR r) := by cases r <;> exact Mono.ret _
theorem mono_applyOV (o : Oper) (fr : Fr) (v : OV) : Mono (applyOV o fr v) := by
  cases v with
  | val v => exact Mono.andThen (Mono.ofOption _) fun _ => Mono.ret _
  | panic v => exact Mono.ret _
  | defer d => exact Mono.andThen (Mono.ofOption _) fun _ => Mono.ret _
theorem mono_evalOps {P : Program} {fn : FnTab} {call : CallT} (hm : CallMono call) (ops : Array Oper) : ∀ (os : List Oper) (fr : Fr), Mono (evalOps P fn call ops os fr)
  | [], fr => Mono.ret _
  | o :: r, fr => Mono.andThen (Mono.andThen (mono_opVal hm _ _ _) fun v => mono_applyOV _ _ _) fun x => by
    cases x with
    | next f => exact mono_evalOps hm ops r f
    | panic v f => exact Mono.ret _
theorem mono_loopA {body : Fr → AM (CE × Fr)} (h : ∀ fr, Mono (body fr)) : ∀ (n : Nat) (fr : Fr), Mono (loopA body n fr)
  | 0, fr => Mono.fail
  | n + 1, fr => Mono.andThen (h fr) fun x => by
    obtain ⟨e, f⟩ := x
    cases e with
    | normal => exact mono_loopA h n f
    | _ => exact Mono.ret _
theorem mono_evalCode {P : Program} {fn : FnTab} {call : CallT} (hm : CallMono call) (iter : Nat) : ∀ (c : Code) (fr : Fr), Mono (evalCode P fn call iter c fr) := by
  intro c
  induction c with
  | region id ops draw =>
    intro fr
    refine Mono.andThen ?_ mono_ofSR
    split
    · exact mono_evalOpen' ops fr (mono_evalOps hm ops) (mono_evalDraw hm ops fr)
    · exact mono_evalOps hm ops _ fr
  | seq a b iha ihb =>
    intro fr
    refine Mono.andThen (iha fr) fun x => ?_
    obtain ⟨e, f⟩ := x
    cases e with
    | normal => exact ihb f
    | _ => exact Mono.ret _
  | cond c x y ihx ihy => intro fr; exact Mono.andThen (Mono.ofOption _) fun b => Mono.ite (ihx fr) (ihy fr)
  | block id c ih => intro fr; exact Mono.andThen (ih fr) fun x => Mono.ret _
  | loop c ih => intro fr; exact mono_loopA ih iter fr
  | skip => intro fr; exact Mono.ret _
  | label l => intro fr; exact Mono.ret _
  | exit id => intro fr; exact Mono.ret _
  | ret => intro fr; exact Mono.ret _
  | _ => intro fr; exact Mono.fail

/-! ### it is sound -/
def CQ (B : Nat) (w0 : World) (π : PMap) (h : Heap) (r : CE × Fr) : Exit → Act → World → Prop := fun e a w => ∃ π', π.le π' ∧ Rel B w0 π' h w ∧ ERel π' r e a
theorem CQ.le {B : Nat} {w0 : World} {π π' : PMap} {h : Heap} {r : CE × Fr} {e : Exit} {a : Act} {w : World} (q : CQ B w0 π' h r e a w) (hp : π.le π') : CQ B w0 π h r e a w :=
  let ⟨p, x, y⟩ := q; ⟨p, hp.trans x, y⟩
theorem ofSR_rel {B : Nat} {w0 : World} {π π' : PMap} {x : SR} {r : CE × Fr} {s s' : ST} (h : ofSR x s = some (r, s')) {w : World} {a : Act} {e : Exit} (hp : π.le π') (R : Rel B w0 π' s.heap w) (S : SRel π' x e a) : CQ B w0 π s'.heap r e a w := by
  cases x with
  | next f =>
    obtain ⟨rfl, rfl⟩ := ret_some (show AM.ret _ s = some (r, s') from h)
    refine ⟨π', hp, R, ?_⟩
    cases e <;> simp only [SRel] at S
    exact S
  | panic v f =>
    obtain ⟨rfl, rfl⟩ := ret_some (show AM.ret _ s = some (r, s') from h)
    refine ⟨π', hp, R, ?_⟩
    cases e <;> simp only [SRel] at S
    exact S

theorem loopA_sound {P : Program} {B : Nat} {w0 : World} {body : Fr → AM (CE × Fr)} {c : Code} (hm : ∀ fr, Mono (body fr))
    (hb : ∀ (fr : Fr) (s s' : ST) (r : CE × Fr) (π : PMap) (w : World) (a : Act), body fr s = some (r, s') → s.Free → Rel B w0 π s.heap w → FRel π fr a → c.wp P (CQ B w0 π s'.heap r) a w) :
    ∀ (n : Nat) (fr : Fr) (s s' : ST) (r : CE × Fr) (π π0 : PMap) (w : World) (a : Act), loopA body n fr s = some (r, s') → s.Free → Rel B w0 π s.heap w → FRel π fr a → π0.le π → Code.rounds P c (CQ B w0 π0 s'.heap r) n a w
  | 0, fr, s, s', r, π, π0, w, a, h, f, R, F, hp => (fail_some h).elim
  | n + 1, fr, s, s', r, π, π0, w, a, h, f, R, F, hp => by
    obtain ⟨x, s1, h1, h2⟩ := AM.andThen_some (show AM.andThen _ _ s = some (r, s') from h)
    rw [rounds_succ]
    refine wp_mono (hb fr s s1 x π w a h1 f R F) ?_
    rintro e a1 w1 ⟨π1, hle, R1, E1⟩
    obtain ⟨ce, f1⟩ := x
    cases ce with
    | normal =>
      cases e <;> simp only [ERel] at E1
      exact loopA_sound hm hb n f1 s1 s' r π1 π0 w1 a1 h2 ((hm fr).free h1 f) R1 E1 (hp.trans hle)
    | exit i =>
      obtain ⟨rfl, rfl⟩ := ret_some (show AM.ret _ s1 = some (r, s') from h2)
      cases e <;> simp only [ERel] at E1
      exact ⟨π1, hp.trans hle, R1, E1⟩
    | ret =>
      obtain ⟨rfl, rfl⟩ := ret_some (show AM.ret _ s1 = some (r, s') from h2)
      cases e <;> simp only [ERel] at E1
      exact ⟨π1, hp.trans hle, R1, E1⟩
    | panic v =>
      obtain ⟨rfl, rfl⟩ := ret_some (show AM.ret _ s1 = some (r, s') from h2)
      cases e <;> simp only [ERel] at E1
      exact ⟨π1, hp.trans hle, R1, E1⟩

theorem evalCode_sound {P : Program} {fn : FnTab} (ok : FnOk P fn) (hmix : P.follows .mixedOrders = true) {B : Nat} {w0 : World} {call : CallT} (hc : CallOk P B w0 call) (hm : CallMono call) (iter : Nat) :
    ∀ (c : Code) (fr : Fr) (s s' : ST) (r : CE × Fr) (π : PMap) (w : World) (a : Act), evalCode P fn call iter c fr s = some (r, s') → s.Free → Rel B w0 π s.heap w → FRel π fr a → c.wp P (CQ B w0 π s'.heap r) a w := by
  intro c
  induction c with
  | skip =>
    intro fr s s' r π w a h f R F
    obtain ⟨rfl, rfl⟩ := ret_some (show AM.ret _ s = some (r, s') from h)
    exact wp_skip ⟨π, PMap.le.refl π, R, F⟩
  | label l =>
    intro fr s s' r π w a h f R F
    obtain ⟨rfl, rfl⟩ := ret_some (show AM.ret _ s = some (r, s') from h)
    exact wp_label ⟨π, PMap.le.refl π, R, F⟩
  | exit id =>
    intro fr s s' r π w a h f R F
    obtain ⟨rfl, rfl⟩ := ret_some (show AM.ret _ s = some (r, s') from h)
    exact wp_exit ⟨π, PMap.le.refl π, R, rfl, F⟩
  | ret =>
    intro fr s s' r π w a h f R F
    obtain ⟨rfl, rfl⟩ := ret_some (show AM.ret _ s = some (r, s') from h)
    exact wp_ret ⟨π, PMap.le.refl π, R, F⟩
  | region id ops draw =>
    intro fr s s' r π w a h f R F
    obtain ⟨x, s1, h1, h2⟩ := AM.andThen_some (show AM.andThen _ _ s = some (r, s') from h)
    cases draw with
    | true =>
      simp only [if_true] at h1
      exact evalOpen_sound ok hmix hc hm h1 f R F (fun π' w' a' e hle R' S => ofSR_rel h2 hle R' S)
    | false =>
      simp only [Bool.false_eq_true, if_false] at h1
      refine wp_region ?_
      have := evalOps_sound ok hc hm (Q := CQ B w0 π s'.heap r) ops.toList 0 fr s s1 x π w a (by simp) h1 f R F (fun π' w' a' e hle R' S => ofSR_rel h2 hle R' S)
      rw [List.range_eq_range']
      simpa using this
  | seq x y ihx ihy =>
    intro fr s s' r π w a h f R F
    obtain ⟨x1, s1, h1, h2⟩ := AM.andThen_some (show AM.andThen _ _ s = some (r, s') from h)
    refine wp_seq (wp_mono (ihx fr s s1 x1 π w a h1 f R F) ?_)
    rintro e a1 w1 ⟨π1, hle, R1, E1⟩
    obtain ⟨ce, f1⟩ := x1
    cases ce with
    | normal =>
      cases e <;> simp only [ERel] at E1
      exact wp_mono (ihy f1 s1 s' r π1 w1 a1 h2 ((mono_evalCode hm iter x fr).free h1 f) R1 E1) fun e a w q => q.le hle
    | exit i =>
      obtain ⟨rfl, rfl⟩ := ret_some (show AM.ret _ s1 = some (r, s') from h2)
      cases e <;> simp only [ERel] at E1
      exact ⟨π1, hle, R1, E1⟩
    | ret =>
      obtain ⟨rfl, rfl⟩ := ret_some (show AM.ret _ s1 = some (r, s') from h2)
      cases e <;> simp only [ERel] at E1
      exact ⟨π1, hle, R1, E1⟩
    | panic v =>
      obtain ⟨rfl, rfl⟩ := ret_some (show AM.ret _ s1 = some (r, s') from h2)
      cases e <;> simp only [ERel] at E1
      exact ⟨π1, hle, R1, E1⟩
  | cond c x y ihx ihy =>
    intro fr s s' r π w a h f R F
    have hh := AM.andThen_some (show AM.andThen _ _ s = some (r, s') from h); clear h; obtain ⟨b, s1, h1, h2⟩ := hh
    obtain ⟨hb, rfl⟩ := ofOption_some h1
    have hb := boolOf_some hb
    have hv := evalV_rel F c
    rw [hb] at hv
    have hb' : a.eval c = .bool b := by generalize a.eval c = q at hv; cases hv; rfl
    refine wp_cond hb' ?_
    cases b with
    | true => exact ihx fr _ s' r π w a h2 f R F
    | false => exact ihy fr _ s' r π w a h2 f R F
  | block id c ih =>
    intro fr s s' r π w a h f R F
    obtain ⟨x1, s1, h1, h2⟩ := AM.andThen_some (show AM.andThen _ _ s = some (r, s') from h)
    obtain ⟨rfl, rfl⟩ := ret_some h2
    refine wp_block (wp_mono (ih fr s _ x1 π w a h1 f R F) ?_)
    rintro e a1 w1 ⟨π1, hle, R1, E1⟩
    obtain ⟨ce, f1⟩ := x1
    cases ce <;> cases e <;> simp only [ERel] at E1
    · exact ⟨π1, hle, R1, E1⟩
    · rename_i i j
      obtain ⟨rfl, E1⟩ := E1
      simp only [Exit.inBlock, inBlk]
      split
      · exact ⟨π1, hle, R1, E1⟩
      · exact ⟨π1, hle, R1, rfl, E1⟩
    · exact ⟨π1, hle, R1, E1⟩
    · exact ⟨π1, hle, R1, E1⟩
  | loop c ih =>
    intro fr s s' r π w a h f R F
    exact wp_loop_rounds iter (loopA_sound (mono_evalCode hm iter c) ih iter fr s s' r π π w a h f R F (PMap.le.refl π))
  | _ => intro fr s s' r π w a h f R F; exact (fail_some h).elim
end Go.Proofs.YtgpfgcbolinncaaGreat.Abs
set_option linter.unusedVariables false
set_option linter.unusedSimpArgs false
namespace Go.Proofs.YtgpfgcbolinncaaGreat.Abs
open Go Go.RowKit

/-! ### results -/
def resL (P : Program) (fr : Fr) : List ResultVar → AM (List Value)
  | [] => AM.ret []
  | .tmp t :: r => AM.andThen (resL P fr r) fun vs => AM.ret (envD fr.env t :: vs)
  | .cell a t :: r => AM.andThen (loadA P t (envD fr.env a)) fun v => AM.andThen (resL P fr r) fun vs => AM.ret (v :: vs)
def oneOf : List Value → Value
  | [v] => v
  | vs => .tuple vs.toArray
def resultsA (P : Program) (rs : Array ResultVar) (fr : Fr) : AM Value := AM.andThen (resL P fr rs.toList) fun vs => AM.ret (oneOf vs)
theorem mono_resL (P : Program) (fr : Fr) : ∀ (l : List ResultVar), Mono (resL P fr l)
  | [] => Mono.ret _
  | .tmp t :: r => Mono.andThen (mono_resL P fr r) fun _ => Mono.ret _
  | .cell a t :: r => Mono.andThen (mono_load P t _) fun _ => Mono.andThen (mono_resL P fr r) fun _ => Mono.ret _
theorem mono_resultsA (P : Program) (rs : Array ResultVar) (fr : Fr) : Mono (resultsA P rs fr) := Mono.andThen (mono_resL P fr _) fun _ => Mono.ret _
theorem loadVar_of {P : Program} {π : PMap} {t : TypeId} {a a' v : Value} {s s' : ST} (h : loadA P t a s = some (v, s')) (ha : VRel π a a') {w : World} {x : Value} (hl : (Instr.loadAt t a').run P w = .ok x w) :
    (asAddr a' >>= loadVar t).run P w = .ok x w := by
  have hh := AM.andThen_some h; clear h; obtain ⟨q, s0, h0, h⟩ := hh
  obtain ⟨hq, rfl⟩ := ofOption_some h0
  have hq := asPtr_some hq
  subst hq
  cases ha
  simpa [Instr.loadAt, Instr.sureAddr, asAddr] using hl
def resM (tmps : Array Value) : ResultVar → Sem Value
  | .tmp t => pure (tmps.getD t undef)
  | .cell a t => do loadVar t (← asAddr (tmps.getD a undef))
theorem resL_sim {P : Program} {B : Nat} {w0 : World} {π : PMap} {w : World} {fr : Fr} {a : Act} (F : FRel π fr a) : ∀ (l : List ResultVar) (s s' : ST) (vs : List Value), resL P fr l s = some (vs, s') → Rel B w0 π s.heap w →
    ∃ vs', (l.mapM (resM a.tmps)).run P w = .ok vs' w ∧ LRel π vs vs' ∧ s' = s
  | [], s, s', vs, h, R => by
    obtain ⟨rfl, rfl⟩ := ret_some (show AM.ret [] s = some (vs, s') from h)
    exact ⟨[], by simp, ⟨rfl, by simp⟩, rfl⟩
  | .tmp t :: r, s, s', vs, h, R => by
    obtain ⟨ws, s1, h1, h2⟩ := AM.andThen_some (show AM.andThen _ _ s = some (vs, s') from h)
    obtain ⟨rfl, rfl⟩ := ret_some h2
    obtain ⟨vs', e, L, hs⟩ := resL_sim F r s _ ws h1 R
    refine ⟨a.tmps.getD t undef :: vs', by simp [resM, e], ?_, hs⟩
    refine ⟨by simp [L.1], fun i v hi => ?_⟩
    cases i with
    | zero => simp at hi; subst hi; exact ⟨_, rfl, F.env t⟩
    | succ i => simpa using L.2 i v (by simpa using hi)
  | .cell b t :: r, s, s', vs, h, R => by
    have hh := AM.andThen_some (show AM.andThen _ _ s = some (vs, s') from h); clear h; obtain ⟨v, s1, h1, h2⟩ := hh
    obtain ⟨x', hl, hv, rfl⟩ := loadA_sim h1 R (F.env b)
    have hl' := loadVar_of h1 (F.env b) hl
    have hh := AM.andThen_some h2; clear h2; obtain ⟨ws, s2, h3, h2⟩ := hh
    obtain ⟨rfl, rfl⟩ := ret_some h2
    obtain ⟨vs', e, L, hs⟩ := resL_sim F r _ _ ws h3 R
    refine ⟨x' :: vs', ?_, ?_, hs⟩
    · rw [List.mapM_cons]
      simp only [Sem.run_bind, resM] at hl' ⊢
      rw [hl']
      simp [e]
    · refine ⟨by simp [L.1], fun i v hi => ?_⟩
      cases i with
      | zero => simp at hi; subst hi; exact ⟨_, rfl, hv⟩
      | succ i => simpa using L.2 i v (by simpa using hi)
theorem resultsA_sim {P : Program} {B : Nat} {w0 : World} {π : PMap} {w : World} {fr : Fr} {a : Act} (F : FRel π fr a) {fn : Func} {s s' : ST} {v : Value} (h : resultsA P fn.results fr s = some (v, s')) (R : Rel B w0 π s.heap w) :
    ∃ v', (results fn a.tmps).run P w = .ok v' w ∧ VRel π v v' ∧ s' = s := by
  obtain ⟨vs, s1, h1, h2⟩ := AM.andThen_some h
  obtain ⟨rfl, rfl⟩ := ret_some h2
  obtain ⟨vs', e, L, hs⟩ := resL_sim F _ s _ vs h1 R
  have hrun : (results fn a.tmps).run P w = .ok (if h : vs'.toArray.size = 1 then vs'.toArray[0] else .tuple vs'.toArray) w := by
    have hd : results fn a.tmps = (fn.results.mapM (resM a.tmps) >>= fun vs => pure (if h : vs.size = 1 then vs[0] else .tuple vs)) := rfl
    rw [hd, Array.mapM_eq_mapM_toList]
    simp only [Sem.run_bind, Sem.run_map]
    rw [e]
    rfl
  refine ⟨_, hrun, ?_, hs⟩
  have hlen := L.1
  match vs, vs', L, hlen with
  | [], [], L, _ => exact undef_rel π
  | [v], [v'], L, _ =>
    obtain ⟨y, e, r⟩ := L.2 0 v rfl
    simp at e; subst e
    exact r
  | v :: v2 :: r, w1 :: w2 :: r', L, hl =>
    have : ¬ ((w1 :: w2 :: r').toArray.size = 1) := by simp
    rw [dif_neg this]
    have q := L.arrays
    exact .tuple _ _ q.1 q.2

/-! ### what is deferred, and recover -/
inductive UM where
  | ret
  | pan (v : Value)
  | rcv (v : Value)
def URel (π : PMap) : UM → FrameMode → Prop
  | .ret, u => u = .returning
  | .pan v, u => ∃ v', u = .panicking [{ v := v', recovered := false }] ∧ VRel π v v'
  | .rcv v, u => ∃ v', u = .panicking [{ v := v', recovered := true }] ∧ VRel π v v'
theorem URel.mono {π π' : PMap} (hp : π.le π') {u : UM} {m : FrameMode} (h : URel π u m) : URel π' u m := by
  cases u with
  | ret => exact h
  | pan v => obtain ⟨v', a, b⟩ := h; exact ⟨v', a, b.mono hp⟩
  | rcv v => obtain ⟨v', a, b⟩ := h; exact ⟨v', a, b.mono hp⟩
def recA : UM → Value × UM
  | .pan v => (v, .rcv v)
  | u => (.nilIface, u)
def settleU : UM → UM
  | .rcv _ => .ret
  | u => u
theorem settle_rel {π : PMap} {u : UM} {m : FrameMode} (h : URel π u m) : URel π (settleU u) (settle m) := by
  cases u with
  | ret => simp only [URel] at h; subst h; rfl
  | pan v => obtain ⟨v', rfl, b⟩ := h; exact ⟨v', rfl, b⟩
  | rcv v => obtain ⟨v', rfl, b⟩ := h; rfl

def evalOpsS (P : Program) (fn : FnTab) (call : CallT) (ops : Array Oper) : List Oper → Fr → UM → AM (SR × UM)
  | [], fr, u => AM.ret (.next fr, u)
  | o :: r, fr, u => AM.andThen (AM.ofOption (guardOk ops fr.env o)) fun g =>
    if g = true then AM.andThen (evalOp P fn (evalV fr.env) o) fun ar => match ar with
      | .recover => AM.andThen (AM.ofOption (putF fr o.dst (recA u).1)) fun f => evalOpsS P fn call ops r f (recA u).2
      | ar => AM.andThen (AM.andThen (opRes call ar) (applyOV o fr)) fun (x : SR) => match x with
        | .next f => evalOpsS P fn call ops r f u
        | .panic v f => AM.ret (.panic v f, u)
    else AM.andThen (AM.ofOption (putF fr o.dst undef)) fun f => evalOpsS P fn call ops r f u
theorem mono_evalOpsS {P : Program} {fn : FnTab} {call : CallT} (hm : CallMono call) (ops : Array Oper) : ∀ (os : List Oper) (fr : Fr) (u : UM), Mono (evalOpsS P fn call ops os fr u)
  | [], fr, u => Mono.ret _
  | o :: r, fr, u => Mono.andThen (Mono.ofOption _) fun g => Mono.ite
    (Mono.andThen (mono_evalOp _ _ _ _) fun ar => by
      have key : ∀ ar : AR, Mono (AM.andThen (AM.andThen (opRes call ar) (applyOV o fr)) fun (x : SR) => match x with
        | .next f => evalOpsS P fn call ops r f u
        | .panic v f => AM.ret (.panic v f, u)) := fun ar => Mono.andThen (Mono.andThen (mono_opRes hm ar) fun _ => mono_applyOV _ _ _) fun x => by
          cases x with
          | next f => exact mono_evalOpsS hm ops r f u
          | panic v f => exact Mono.ret _
      cases ar with
      | recover => exact Mono.andThen (Mono.ofOption _) fun f => mono_evalOpsS hm ops r f _
      | val v => exact key _
      | skip => exact key _
      | enter f a => exact key _
      | panic v => exact key _
      | defer d => exact key _)
    (Mono.andThen (Mono.ofOption _) fun f => mono_evalOpsS hm ops r f u)

theorem wpOpsS_cons {P : Program} {ops : Array Oper} {Q : Exit → Act → List Frame → World → Prop} {i : Nat} {rest : List Nat} {o : Oper} (hi : ops[i]? = some o) {a : Act} {cs : List Frame} {w : World}
    (h : if Region.wanted o (yielded ops a.tmps) = true then o.wp P a w (fun a' w' => wpOpsS P ops Q rest a' cs w') (fun e a' w' => Q e a' cs w') else wpOpsS P ops Q rest (a.put o.dst undef) cs w) :
    wpOpsS P ops Q (i :: rest) a cs w := by
  simp only [wpOpsS, hi]
  split
  · rename_i hw
    rw [if_pos hw] at h
    unfold Oper.wp at h
    generalize (execOp a.eval o).run P w = q at h ⊢
    split
    · exact h.elim
    · exact h
  · rename_i hw; rw [if_neg hw] at h; exact h

theorem opVal_of {P : Program} {fn : FnTab} {call : CallT} {ops : Array Oper} {env : Trie Value} {o : Oper} {s s1 s2 : ST} {ar : AR} {ov : OV} (hg : guardOk ops env o = some true) (h1 : evalOp P fn (evalV env) o s = some (ar, s1))
    (h2 : opRes call ar s1 = some (ov, s2)) : opVal P fn call ops env o s = some (ov, s2) := by
  unfold opVal
  rw [hg]
  show AM.andThen (evalOp P fn (evalV env) o) (opRes call) s = some (ov, s2)
  unfold AM.andThen
  rw [h1]
  exact h2
theorem evalOpsS_sound {P : Program} {fn : FnTab} (ok : FnOk P fn) {B : Nat} {w0 : World} {call : CallT} (hc : CallOk P B w0 call) (hm : CallMono call) {ops : Array Oper} {Q : Exit → Act → List Frame → World → Prop} {c₀ : Frame} {cs : List Frame} :
    ∀ (os : List Oper) (k : Nat) (fr : Fr) (u : UM) (s s' : ST) (r : SR × UM) (π : PMap) (w : World) (a : Act) (um : FrameMode), ops.toList.drop k = os → evalOpsS P fn call ops os fr u s = some (r, s') → s.Free → Rel B w0 π s.heap w → FRel π fr a → URel π u um →
      (∀ π' w' a' e um', π.le π' → Rel B w0 π' s'.heap w' → SRel π' r.1 e a' → URel π' r.2 um' → Q e a' ({ c₀ with mode := um' } :: cs) w') → wpOpsS P ops Q (List.range' k os.length) a ({ c₀ with mode := um } :: cs) w
  | [], k, fr, u, s, s', r, π, w, a, um, hd, h, fr_, R, F, U, kk => by
    obtain ⟨rfl, rfl⟩ := ret_some (show AM.ret (SR.next fr, u) s = some (r, s') from h)
    exact kk π w a .normal um (PMap.le.refl π) R F U
  | o :: os, k, fr, u, s, s', r, π, w, a, um, hd, h, fr_, R, F, U, kk => by
    have hi : ops[k]? = some o := by
      have := congrArg (·[0]?) hd
      simpa using this
    have hd' : ops.toList.drop (k + 1) = os := by
      have := congrArg List.tail hd
      simpa using this
    simp only [List.length_cons, List.range'_succ]
    have hh := AM.andThen_some (show AM.andThen _ _ s = some (r, s') from h); clear h; obtain ⟨g, s1, h1, h⟩ := hh
    obtain ⟨hg, rfl⟩ := ofOption_some h1
    have hw := wanted_of F hg
    by_cases hgt : g = true
    · rw [if_pos hgt] at h
      have hh := AM.andThen_some h; clear h; obtain ⟨ar, s2, h2, h⟩ := hh
      by_cases hrec : ar = .recover
      · subst hrec
        have hh := AM.andThen_some h; clear h; obtain ⟨f, s3, h3, h⟩ := hh
        obtain ⟨hf, rfl⟩ := ofOption_some h3
        obtain ⟨π1, w1, hle, R1, hres⟩ := evalOp_sim ok o h2 R (evalV_rel F)
        rcases hres with ⟨_, _, c, _⟩ | ⟨n, hrun, hn⟩
        · cases c
        · cases n <;> simp only [NRel] at hn
          have fr2 := (mono_evalOp P fn (evalV fr.env) o).free h2 fr_
          simp only [wpOpsS, hi, hw, hgt, if_true]
          rw [hrun]
          simp only
          cases u with
          | pan v =>
            obtain ⟨v', rfl, hv⟩ := U
            simp only [recoverD]
            exact evalOpsS_sound ok hc hm os (k + 1) f _ _ s' r π1 w1 _ (.panicking [{ v := v', recovered := true }]) hd' h fr2 R1 ((F.mono hle).put hf (hv.mono hle)) ⟨v', rfl, hv.mono hle⟩ (fun π2 w2 a2 e2 um2 hle2 R2 S2 U2 => kk π2 w2 a2 e2 um2 (hle.trans hle2) R2 S2 U2)
          | ret =>
            simp only [URel] at U
            subst U
            simp only [recoverD]
            exact evalOpsS_sound ok hc hm os (k + 1) f _ _ s' r π1 w1 _ _ hd' h fr2 R1 ((F.mono hle).put hf .nilIface) rfl (fun π2 w2 a2 e2 um2 hle2 R2 S2 U2 => kk π2 w2 a2 e2 um2 (hle.trans hle2) R2 S2 U2)
          | rcv v =>
            obtain ⟨v', rfl, hv⟩ := U
            simp only [recoverD]
            exact evalOpsS_sound ok hc hm os (k + 1) f _ _ s' r π1 w1 _ _ hd' h fr2 R1 ((F.mono hle).put hf .nilIface) ⟨v', rfl, hv.mono hle⟩ (fun π2 w2 a2 e2 um2 hle2 R2 S2 U2 => kk π2 w2 a2 e2 um2 (hle.trans hle2) R2 S2 U2)
      · have h' : AM.andThen (AM.andThen (opRes call ar) (applyOV o fr)) (fun (x : SR) => match x with
            | .next f => evalOpsS P fn call ops os f u
            | .panic v f => AM.ret (.panic v f, u)) s2 = some (r, s') := by
          cases ar with
          | recover => exact absurd rfl hrec
          | _ => exact h
        clear h
        have hh := AM.andThen_some h'; clear h'; obtain ⟨x, s3, h3, h⟩ := hh
        have hh := AM.andThen_some h3; clear h3; obtain ⟨ov, s4, h4, h3⟩ := hh
        have hop : opVal P fn call ops fr.env o s1 = some (ov, s4) := by
          subst hgt
          exact opVal_of hg h2 h4
        have fr2 := (mono_opVal hm ops _ o).free hop fr_
        refine wpOpsS_cons hi (opVal_wp ok hc hop fr_ R F ?_)
        intro π' w' hle R'
        cases ov with
        | val v =>
          intro v' hv
          have hh := AM.andThen_some h3; clear h3; obtain ⟨f, s5, h5, h3⟩ := hh
          obtain ⟨hf, rfl⟩ := ofOption_some h5
          obtain ⟨rfl, rfl⟩ := ret_some h3
          exact evalOpsS_sound ok hc hm os (k + 1) f u _ s' r π' w' _ um hd' h fr2 R' ((F.mono hle).put hf hv) (U.mono hle) (fun π2 w2 a2 e2 um2 hle2 R2 S2 U2 => kk π2 w2 a2 e2 um2 (hle.trans hle2) R2 S2 U2)
        | panic v =>
          intro chain hp
          obtain ⟨rfl, rfl⟩ := ret_some (show AM.ret (SR.panic v fr) s4 = some (x, s3) from h3)
          obtain ⟨rfl, rfl⟩ := ret_some h
          exact kk π' w' a (.panic chain) um hle R' ⟨hp, F.mono hle⟩ (U.mono hle)
        | defer d =>
          intro d' hdr
          have hh := AM.andThen_some h3; clear h3; obtain ⟨f, s5, h5, h3⟩ := hh
          obtain ⟨hf, rfl⟩ := ofOption_some h5
          obtain ⟨rfl, rfl⟩ := ret_some h3
          exact evalOpsS_sound ok hc hm os (k + 1) f u _ s' r π' w' _ um hd' h fr2 R' (((F.mono hle).defer hdr).put hf (undef_rel _)) (U.mono hle) (fun π2 w2 a2 e2 um2 hle2 R2 S2 U2 => kk π2 w2 a2 e2 um2 (hle.trans hle2) R2 S2 U2)
    · rw [if_neg hgt] at h
      have hh := AM.andThen_some h; clear h; obtain ⟨f, s5, h5, h⟩ := hh
      obtain ⟨hf, rfl⟩ := ofOption_some h5
      refine wpOpsS_cons hi ?_
      rw [hw, if_neg hgt]
      exact evalOpsS_sound ok hc hm os (k + 1) f u _ s' r π w _ um hd' h fr_ R (F.put hf (undef_rel _)) U kk

def evalCodeS (P : Program) (fn : FnTab) (call : CallT) (iter : Nat) : Code → Fr → UM → AM ((CE × Fr) × UM)
  | .region _ ops false, fr, u => AM.andThen (evalOpsS P fn call ops ops.toList fr u) fun x => AM.andThen (ofSR x.1) fun y => AM.ret (y, x.2)
  | .seq a b, fr, u => AM.andThen (evalCodeS P fn call iter a fr u) fun x => match x.1.1 with
    | .normal => evalCodeS P fn call iter b x.1.2 x.2
    | _ => AM.ret x
  | .cond c x y, fr, u => AM.andThen (AM.ofOption (boolOf (evalV fr.env c))) fun b => if b = true then evalCodeS P fn call iter x fr u else evalCodeS P fn call iter y fr u
  | c, fr, u => AM.andThen (evalCode P fn call iter c fr) fun y => AM.ret (y, u)
theorem mono_evalCodeS {P : Program} {fn : FnTab} {call : CallT} (hm : CallMono call) (iter : Nat) : ∀ (c : Code) (fr : Fr) (u : UM), Mono (evalCodeS P fn call iter c fr u) := by
  have key : ∀ (c : Code) (fr : Fr) (u : UM), Mono (AM.andThen (evalCode P fn call iter c fr) fun y => AM.ret (y, u)) := fun c fr u => Mono.andThen (mono_evalCode hm iter c fr) fun _ => Mono.ret _
  intro c
  induction c with
  | region id ops draw =>
    intro fr u
    cases draw with
    | false => exact Mono.andThen (mono_evalOpsS hm ops _ fr u) fun x => Mono.andThen (mono_ofSR _) fun _ => Mono.ret _
    | true => exact key _ fr u
  | seq a b iha ihb =>
    intro fr u
    refine Mono.andThen (iha fr u) fun x => ?_
    obtain ⟨⟨e, f⟩, u'⟩ := x
    cases e with
    | normal => exact ihb f u'
    | _ => exact Mono.ret _
  | cond c x y ihx ihy => intro fr u; exact Mono.andThen (Mono.ofOption _) fun b => Mono.ite (ihx fr u) (ihy fr u)
  | _ => intro fr u; exact key _ fr u

def SQ (B : Nat) (w0 : World) (π : PMap) (h : Heap) (r : (CE × Fr) × UM) (c₀ : Frame) (cs : List Frame) : Exit → Act → List Frame → World → Prop := fun e a cs' w =>
  ∃ π' um', π.le π' ∧ Rel B w0 π' h w ∧ ERel π' r.1 e a ∧ URel π' r.2 um' ∧ cs' = { c₀ with mode := um' } :: cs
theorem wpS_mono {P : Program} {c : Code} {Q Q' : Exit → Act → List Frame → World → Prop} {a : Act} {cs : List Frame} {w : World} (h : c.wpS P Q a cs w) (hq : ∀ e a cs w, Q e a cs w → Q' e a cs w) : c.wpS P Q' a cs w :=
  fun b k hb hr => let ⟨e, a', cs', w', q, r⟩ := h b k hb hr; ⟨e, a', cs', w', hq _ _ _ _ q, r⟩
theorem evalCodeS_sound {P : Program} {fn : FnTab} (ok : FnOk P fn) (hmix : P.follows .mixedOrders = true) {B : Nat} {w0 : World} {call : CallT} (hc : CallOk P B w0 call) (hm : CallMono call) (iter : Nat) {c₀ : Frame} {cs : List Frame} :
    ∀ (c : Code) (fr : Fr) (u : UM) (s s' : ST) (r : (CE × Fr) × UM) (π : PMap) (w : World) (a : Act) (um : FrameMode), evalCodeS P fn call iter c fr u s = some (r, s') → s.Free → Rel B w0 π s.heap w → FRel π fr a → URel π u um →
      c.wpS P (SQ B w0 π s'.heap r c₀ cs) a ({ c₀ with mode := um } :: cs) w := by
  have key : ∀ (c : Code) (fr : Fr) (u : UM) (s s' : ST) (r : (CE × Fr) × UM) (π : PMap) (w : World) (a : Act) (um : FrameMode), AM.andThen (evalCode P fn call iter c fr) (fun y => AM.ret (y, u)) s = some (r, s') → s.Free → Rel B w0 π s.heap w → FRel π fr a → URel π u um →
      c.wpS P (SQ B w0 π s'.heap r c₀ cs) a ({ c₀ with mode := um } :: cs) w := by
    intro c fr u s s' r π w a um h f R F U
    obtain ⟨y, s1, h1, h2⟩ := AM.andThen_some h
    obtain ⟨rfl, rfl⟩ := ret_some h2
    refine wpS_of_wp (wp_mono (evalCode_sound ok hmix hc hm iter c fr s _ y π w a h1 f R F) ?_)
    rintro e a1 w1 ⟨π1, hle, R1, E1⟩
    exact ⟨π1, um, hle, R1, E1, U.mono hle, rfl⟩
  intro c
  induction c with
  | region id ops draw =>
    intro fr u s s' r π w a um h f R F U
    cases draw with
    | true => exact key _ fr u s s' r π w a um h f R F U
    | false =>
      obtain ⟨x, s1, h1, h2⟩ := AM.andThen_some (show AM.andThen _ _ s = some (r, s') from h)
      obtain ⟨y, s2, h3, h4⟩ := AM.andThen_some h2
      obtain ⟨rfl, rfl⟩ := ret_some h4
      refine wpS_region ?_
      have := evalOpsS_sound ok hc hm (Q := SQ B w0 π s'.heap (y, x.2) c₀ cs) (c₀ := c₀) (cs := cs) ops.toList 0 fr u s s1 x π w a um (by simp) h1 f R F U (fun π' w' a' e um' hle R' S U' => by
        obtain ⟨π2, p, q, t⟩ := ofSR_rel h3 (PMap.le.refl π') R' S
        exact ⟨π2, um', hle.trans p, q, t, U'.mono p, rfl⟩)
      rw [List.range_eq_range']
      simpa using this
  | seq x y ihx ihy =>
    intro fr u s s' r π w a um h f R F U
    obtain ⟨x1, s1, h1, h2⟩ := AM.andThen_some (show AM.andThen _ _ s = some (r, s') from h)
    refine wpS_seq (wpS_mono (ihx fr u s s1 x1 π w a um h1 f R F U) ?_)
    rintro e a1 cs1 w1 ⟨π1, um1, hle, R1, E1, U1, rfl⟩
    obtain ⟨⟨ce, f1⟩, u1⟩ := x1
    cases ce with
    | normal =>
      cases e <;> simp only [ERel] at E1
      refine wpS_mono (ihy f1 u1 s1 s' r π1 w1 a1 um1 h2 ((mono_evalCodeS hm iter x fr u).free h1 f) R1 E1 U1) ?_
      rintro e a cs w ⟨π2, um2, p, q⟩
      exact ⟨π2, um2, hle.trans p, q⟩
    | exit i =>
      obtain ⟨rfl, rfl⟩ := ret_some (show AM.ret _ s1 = some (r, s') from h2)
      cases e <;> simp only [ERel] at E1
      exact ⟨π1, um1, hle, R1, E1, U1, rfl⟩
    | ret =>
      obtain ⟨rfl, rfl⟩ := ret_some (show AM.ret _ s1 = some (r, s') from h2)
      cases e <;> simp only [ERel] at E1
      exact ⟨π1, um1, hle, R1, E1, U1, rfl⟩
    | panic v =>
      obtain ⟨rfl, rfl⟩ := ret_some (show AM.ret _ s1 = some (r, s') from h2)
      cases e <;> simp only [ERel] at E1
      exact ⟨π1, um1, hle, R1, E1, U1, rfl⟩
  | cond c x y ihx ihy =>
    intro fr u s s' r π w a um h f R F U
    have hh := AM.andThen_some (show AM.andThen _ _ s = some (r, s') from h); clear h; obtain ⟨b, s1, h1, h2⟩ := hh
    obtain ⟨hb, rfl⟩ := ofOption_some h1
    have hb := boolOf_some hb
    have hv := evalV_rel F c
    rw [hb] at hv
    have hb' : a.eval c = .bool b := by generalize a.eval c = q at hv; cases hv; rfl
    refine wpS_cond hb' ?_
    cases b with
    | true => exact ihx fr u _ s' r π w a um h2 f R F U
    | false => exact ihy fr u _ s' r π w a um h2 f R F U
  | _ => intro fr u s s' r π w a um h f R F U; exact key _ fr u s s' r π w a um h f R F U

/-! ### functions -/
abbrev FnBody := Code × Nat × Array ResultVar
def envOf : Nat → List Value → Trie Value
  | _, [] => .leaf
  | i, v :: r => (envOf (i + 1) r).set i v
def frOf (F : FnBody) (args : Array Value) : Fr := { n := args.size + (F.2.1 - args.size), env := envOf 0 args.toList, defs := [] }
def endD (P : Program) (rs : Array ResultVar) (x : (CE × Fr) × UM) : AM UM :=
  let go : AM UM := if x.1.2.defs.isEmpty = true then AM.andThen (resultsA P rs x.1.2) fun _ => AM.ret x.2 else AM.fail
  match x.1.1 with
  | .normal => go
  | .ret => go
  | _ => AM.fail
def evalD (P : Program) (fn : FnTab) (call : CallT) (iter : Nat) (F : FnBody) (args : Array Value) (u : UM) : AM UM :=
  AM.andThen (evalCodeS P fn call iter F.1 (frOf F args) u) (endD P F.2.2)
def asTarget (d : Deferred) : Option (FuncId × Array Value) := match d.target with
  | .fn (.func f) c => some (f, d.args ++ c)
  | _ => none
def leavesA (P : Program) (fn : FnTab) (call : CallT) (iter : Nat) (rs : Array ResultVar) (fr : Fr) : List Deferred → UM → AM CRes
  | [], .ret => AM.andThen (resultsA P rs fr) fun v => AM.ret (.ret v)
  | [], .pan v => AM.ret (.panic v)
  | [], .rcv _ => AM.fail
  | d :: ds, u => AM.andThen (AM.ofOption (asTarget d)) fun t => AM.andThen (AM.ofOption (fn t.1)) fun F => AM.andThen (evalD P fn call iter F t.2 u) fun u' => leavesA P fn call iter rs fr ds (settleU u')
def endA (P : Program) (fn : FnTab) (call : CallT) (iter : Nat) (rs : Array ResultVar) (x : CE × Fr) : AM CRes := match x.1 with
  | .normal => leavesA P fn call iter rs x.2 x.2.defs .ret
  | .ret => leavesA P fn call iter rs x.2 x.2.defs .ret
  | .panic v => leavesA P fn call iter rs x.2 x.2.defs (.pan v)
  | .exit _ => AM.fail
def evalBody (P : Program) (fn : FnTab) (call : CallT) (iter : Nat) (F : FnBody) (args : Array Value) : AM CRes :=
  AM.andThen (evalCode P fn call iter F.1 (frOf F args)) (endA P fn call iter F.2.2)
abbrev PrimT := FuncId → Option (Array Value → AM CRes)
def evalFn (P : Program) (fn : FnTab) (prim : PrimT) : Nat → CallT
  | 0 => fun _ _ => AM.fail
  | n + 1 => fun f args => match prim f with
    | some p => p args
    | none => AM.andThen (AM.ofOption (fn f)) fun F => evalBody P fn (evalFn P fn prim n) n F args

theorem mono_endD (P : Program) (rs : Array ResultVar) (x : (CE × Fr) × UM) : Mono (endD P rs x) := by
  have go : Mono (if x.1.2.defs.isEmpty = true then AM.andThen (resultsA P rs x.1.2) fun _ => AM.ret x.2 else AM.fail) := Mono.ite (Mono.andThen (mono_resultsA P rs _) fun _ => Mono.ret _) Mono.fail
  obtain ⟨⟨e, f⟩, u⟩ := x
  cases e with
  | normal => exact go
  | ret => exact go
  | exit i => exact Mono.fail
  | panic v => exact Mono.fail
theorem mono_evalD {P : Program} {fn : FnTab} {call : CallT} (hm : CallMono call) (iter : Nat) (F : FnBody) (args : Array Value) (u : UM) : Mono (evalD P fn call iter F args u) :=
  Mono.andThen (mono_evalCodeS hm iter _ _ _) fun _ => mono_endD P _ _
theorem mono_leavesA {P : Program} {fn : FnTab} {call : CallT} (hm : CallMono call) (iter : Nat) (rs : Array ResultVar) (fr : Fr) : ∀ (ds : List Deferred) (u : UM), Mono (leavesA P fn call iter rs fr ds u)
  | [], .ret => Mono.andThen (mono_resultsA P rs fr) fun _ => Mono.ret _
  | [], .pan v => Mono.ret _
  | [], .rcv _ => Mono.fail
  | d :: ds, u => by
    have : Mono (AM.andThen (AM.ofOption (asTarget d)) fun t => AM.andThen (AM.ofOption (fn t.1)) fun F => AM.andThen (evalD P fn call iter F t.2 u) fun u' => leavesA P fn call iter rs fr ds (settleU u')) :=
      Mono.andThen (Mono.ofOption _) fun t => Mono.andThen (Mono.ofOption _) fun F => Mono.andThen (mono_evalD hm iter F _ u) fun u' => mono_leavesA hm iter rs fr ds _
    cases u <;> exact this
theorem mono_endA {P : Program} {fn : FnTab} {call : CallT} (hm : CallMono call) (iter : Nat) (rs : Array ResultVar) (x : CE × Fr) : Mono (endA P fn call iter rs x) := by
  obtain ⟨e, f⟩ := x
  cases e with
  | exit i => exact Mono.fail
  | _ => exact mono_leavesA hm iter rs f _ _
theorem mono_evalBody {P : Program} {fn : FnTab} {call : CallT} (hm : CallMono call) (iter : Nat) (F : FnBody) (args : Array Value) : Mono (evalBody P fn call iter F args) :=
  Mono.andThen (mono_evalCode hm iter _ _) fun _ => mono_endA hm iter _ _
structure PrimOk (P : Program) (B : Nat) (w0 : World) (prim : PrimT) : Prop where
  mono : ∀ f p, prim f = some p → ∀ args, Mono (p args)
  ok : ∀ f p, prim f = some p → ∀ args s r s', p args s = some (r, s') → s.Free → ∀ π w args', Rel B w0 π s.heap w → VRels π args args' →
    Calls P f args' w fun e w' => ∃ π', π.le π' ∧ Rel B w0 π' s'.heap w' ∧ CRel π' r e
theorem callMono_evalFn {P : Program} {fn : FnTab} {prim : PrimT} (hp : ∀ f p, prim f = some p → ∀ args, Mono (p args)) : ∀ n, CallMono (evalFn P fn prim n)
  | 0 => fun _ _ => Mono.fail
  | n + 1 => fun f args => by
    unfold evalFn
    cases h : prim f with
    | some p => exact hp f p h args
    | none => exact Mono.andThen (Mono.ofOption _) fun F => mono_evalBody (callMono_evalFn hp n) n F args

theorem envOf_get : ∀ (l : List Value) (i t : Nat), (envOf i l).get t = if t < i then none else l[t - i]?
  | [], i, t => by simp [envOf, Trie.get]
  | v :: r, i, t => by
    simp only [envOf, Trie.get_set]
    by_cases e : t = i
    · subst e; simp
    · rw [if_neg e, envOf_get r (i + 1) t]
      by_cases h : t < i
      · rw [if_pos (by omega), if_pos h]
      · rw [if_neg (by omega), if_neg h, show t - i = t - (i + 1) + 1 by omega, List.getElem?_cons_succ]
theorem frOf_rel {π : PMap} {F : FnBody} {args args' : Array Value} (ha : VRels π args args') : FRel π (frOf F args) { tmps := args' ++ Array.replicate (F.2.1 - args'.size) undef, defers := [] } := by
  refine ⟨by simp [frOf, ha.1], fun t => ?_, ⟨rfl, fun i d h => by simp [frOf] at h⟩⟩
  simp only [frOf, envOf_get, Nat.not_lt_zero, if_false, Nat.sub_zero]
  rw [Array.getD_eq_getD_getElem?]
  by_cases h : t < args.size
  · have h' : t < args'.size := by rw [← ha.1]; exact h
    rw [Array.getElem?_append_left h']
    simp only [Array.getElem?_toList, Array.getElem?_eq_getElem h, Array.getElem?_eq_getElem h', Option.getD_some]
    exact ha.2 t h h'
  · have h' : args'.size ≤ t := by rw [← ha.1]; omega
    rw [Array.getElem?_append_right h']
    simp only [Array.getElem?_toList, Array.getElem?_eq_none (by omega : args.size ≤ t), Option.getD_none, Array.getElem?_replicate]
    split <;> exact undef_rel π

theorem evalD_sound {P : Program} {fn : FnTab} (ok : FnOk P fn) (hmix : P.follows .mixedOrders = true) {B : Nat} {w0 : World} {call : CallT} (hc : CallOk P B w0 call) (hm : CallMono call) (iter : Nat)
    {f : FuncId} {F : FnBody} (hf : fn f = some F) {args args' : Array Value} {u u' : UM} {s s' : ST} (h : evalD P fn call iter F args u s = some (u', s')) (fr_ : s.Free) {π : PMap} {w : World} (R : Rel B w0 π s.heap w) (ha : VRels π args args')
    {um : FrameMode} (U : URel π u um) :
    CallsD P f args' um w fun e um' w' => ∃ v, e = .returned v ∧ ∃ π', π.le π' ∧ Rel B w0 π' s'.heap w' ∧ URel π' u' um' := by
  obtain ⟨G, hG, hbody, hn, hr, _⟩ := ok.ok f F hf
  obtain ⟨x, s1, h1, h2⟩ := AM.andThen_some h
  refine callsD_of_wpS hG hbody ?_
  intro c₀ cs hu
  have hc0 : c₀ = { c₀ with mode := um } := by subst hu; rfl
  have hW := evalCodeS_sound ok hmix hc hm iter (c₀ := c₀) (cs := cs) F.1 _ u s s1 x π w _ um h1 fr_ R (frOf_rel (F := F) ha) U
  rw [← hc0, ← hn] at hW
  refine wpS_mono hW ?_
  rintro e a cs1 w1 ⟨π1, um1, hle, R1, E1, U1, rfl⟩
  obtain ⟨⟨ce, f1⟩, u1⟩ := x
  have fin : ∀ (hgo : (if f1.defs.isEmpty = true then AM.andThen (resultsA P F.2.2 f1) fun _ => AM.ret u1 else AM.fail) s1 = some (u', s')), FRel π1 f1 a →
      a.defers = [] ∧ ∃ v, (results G a.tmps).run P w1 = .ok v w1 ∧ ∃ π', π.le π' ∧ Rel B w0 π' s'.heap w1 ∧ URel π' u' um1 := by
    intro hgo F1
    clear E1
    split at hgo
    · rename_i hd
      have hh := AM.andThen_some hgo; clear hgo; obtain ⟨v, s2, h3, h4⟩ := hh
      obtain ⟨rfl, rfl⟩ := ret_some h4
      rw [← hr] at h3
      obtain ⟨v', hrun, hv, rfl⟩ := resultsA_sim F1 h3 R1
      have hdl := F1.defs.1
      have h0 : f1.defs = [] := by simpa using hd
      rw [h0] at hdl
      exact ⟨List.eq_nil_of_length_eq_zero hdl, v', hrun, π1, hle, R1, U1⟩
    · exact (fail_some hgo).elim
  cases ce with
  | normal =>
    cases e <;> simp only [ERel] at E1
    obtain ⟨hd, v, hrun, q⟩ := fin h2 E1
    exact ⟨hd, um1, rfl, v, hrun, v, rfl, q⟩
  | ret =>
    cases e <;> simp only [ERel] at E1
    obtain ⟨hd, v, hrun, q⟩ := fin h2 E1
    exact ⟨hd, um1, rfl, v, hrun, v, rfl, q⟩
  | exit i => exact (fail_some (show (AM.fail : AM UM) s1 = some (u', s') from h2)).elim
  | panic v => exact (fail_some (show (AM.fail : AM UM) s1 = some (u', s') from h2)).elim

theorem CallsD.mono {P : Program} {f : FuncId} {args : Array Value} {u : FrameMode} {w : World} {R R' : Ending → FrameMode → World → Prop} (h : CallsD P f args u w R) (hr : ∀ e u w', R e u w' → R' e u w') : CallsD P f args u w R' :=
  fun c cs hu => let ⟨e, u', w', fr, q, rest⟩ := h c cs hu; ⟨e, u', w', fr, hr _ _ _ q, rest⟩

theorem leavesA_sound {P : Program} {fn : FnTab} (ok : FnOk P fn) (hmix : P.follows .mixedOrders = true) {B : Nat} {w0 : World} {call : CallT} (hc : CallOk P B w0 call) (hm : CallMono call) (iter : Nat)
    {G : Func} {fr : Fr} {a : Act} : ∀ (ds ds' : List Deferred) (u : UM) (s s' : ST) (r : CRes) (π π0 : PMap) (w : World) (um : FrameMode), ds'.length = ds.length → (∀ (i : Nat) (d : Deferred), ds[i]? = some d → ∃ d', ds'[i]? = some d' ∧ DRel π d d') →
      leavesA P fn call iter G.results fr ds u s = some (r, s') → s.Free → Rel B w0 π s.heap w → FRel π fr a → URel π u um → π0.le π →
      Leaves P G a.tmps (fun e w' => ∃ π', π0.le π' ∧ Rel B w0 π' s'.heap w' ∧ CRel π' r e) ds' um w
  | [], d' :: ds', u, s, s', r, π, π0, w, um, hl, hd, h, f, R, F, U, hp => by simp at hl
  | d :: ds, [], u, s, s', r, π, π0, w, um, hl, hd, h, f, R, F, U, hp => by simp at hl
  | [], [], u, s, s', r, π, π0, w, um, hl, hd, h, f, R, F, U, hp => by
    cases u with
    | ret =>
      simp only [URel] at U
      subst U
      have hh := AM.andThen_some (show AM.andThen _ _ s = some (r, s') from h); clear h; obtain ⟨v, s2, h3, h4⟩ := hh
      obtain ⟨rfl, rfl⟩ := ret_some h4
      obtain ⟨v', hrun, hv, rfl⟩ := resultsA_sim F h3 R
      exact ⟨v', hrun, π, hp, R, hv⟩
    | pan v =>
      obtain ⟨v', rfl, hv⟩ := U
      obtain ⟨rfl, rfl⟩ := ret_some (show AM.ret _ s = some (r, s') from h)
      exact ⟨π, hp, R, v', rfl, hv⟩
    | rcv v => exact (fail_some (show (AM.fail : AM CRes) s = some (r, s') from h)).elim
  | d :: ds, d' :: ds', u, s, s', r, π, π0, w, um, hl, hd, h, f, R, F, U, hp => by
    have h' : AM.andThen (AM.ofOption (asTarget d)) (fun t => AM.andThen (AM.ofOption (fn t.1)) fun F => AM.andThen (evalD P fn call iter F t.2 u) fun u' => leavesA P fn call iter G.results fr ds (settleU u')) s = some (r, s') := by
      cases u <;> exact h
    clear h
    have hh := AM.andThen_some h'; clear h'; obtain ⟨t, s1, h1, h⟩ := hh
    obtain ⟨ht, rfl⟩ := ofOption_some h1
    have hh := AM.andThen_some h; clear h; obtain ⟨E, s2, h2, h⟩ := hh
    obtain ⟨hE, rfl⟩ := ofOption_some h2
    have hh := AM.andThen_some h; clear h; obtain ⟨u', s3, h3, h⟩ := hh
    obtain ⟨e', he', D⟩ := hd 0 d rfl
    simp only [List.getElem?_cons_zero, Option.some.injEq] at he'
    subst he'
    obtain ⟨g, c, c', hc1, hc2, hcc⟩ := D.target
    have htt : t = (g, d.args ++ c) := by
      unfold asTarget at ht
      rw [hc1] at ht
      simpa using ht.symm
    subst htt
    have hcall := evalD_sound ok hmix hc hm iter hE h3 f R (D.args.append hcc) U
    have hne : um ≠ .run := by
      cases u with
      | ret => simp only [URel] at U; rw [U]; simp
      | pan v => obtain ⟨v', rfl, _⟩ := U; simp
      | rcv v => obtain ⟨v', rfl, _⟩ := U; simp
    refine ⟨hne, .func g, c', g, d'.args ++ c', hc2, ?_, CallsD.mono hcall ?_⟩
    · rw [hc2]
      exact callFunc_run ok (by rw [hE]; rfl) _ w
    · rintro e um2 w2 ⟨v, rfl, π2, hle, R2, U2⟩
      exact leavesA_sound ok hmix hc hm iter ds ds' (settleU u') s3 s' r π2 π0 w2 (settle um2) (by simpa using hl) (fun i x hx => by
        obtain ⟨y, p, q⟩ := hd (i + 1) x (by simpa using hx)
        exact ⟨y, by simpa using p, q.mono hle⟩) h ((mono_evalD hm iter E _ u).free h3 f) R2 (F.mono hle) (settle_rel U2) (hp.trans hle)

theorem evalBody_sound {P : Program} {fn : FnTab} (ok : FnOk P fn) (hmix : P.follows .mixedOrders = true) {B : Nat} {w0 : World} {call : CallT} (hc : CallOk P B w0 call) (hm : CallMono call) (iter : Nat)
    {f : FuncId} {F : FnBody} (hf : fn f = some F) {args args' : Array Value} {r : CRes} {s s' : ST} (h : evalBody P fn call iter F args s = some (r, s')) (fr_ : s.Free) {π : PMap} {w : World} (R : Rel B w0 π s.heap w) (ha : VRels π args args') :
    Calls P f args' w fun e w' => ∃ π', π.le π' ∧ Rel B w0 π' s'.heap w' ∧ CRel π' r e := by
  obtain ⟨G, hG, hbody, hn, hr, _⟩ := ok.ok f F hf
  obtain ⟨x, s1, h1, h2⟩ := AM.andThen_some h
  refine calls_of_wp_defers hG hbody ?_
  have hW := evalCode_sound ok hmix hc hm iter F.1 _ s s1 x π w _ h1 fr_ R (frOf_rel (F := F) ha)
  rw [← hn] at hW
  refine wp_mono hW ?_
  rintro e a w1 ⟨π1, hle, R1, E1⟩
  obtain ⟨ce, f1⟩ := x
  have fr1 := (mono_evalCode hm iter F.1 (frOf F args)).free h1 fr_
  rw [← hr] at h2
  cases ce with
  | normal =>
    cases e <;> simp only [ERel] at E1
    exact leavesA_sound ok hmix hc hm iter f1.defs a.defers .ret s1 s' r π1 π w1 .returning E1.defs.1 E1.defs.2 h2 fr1 R1 E1 rfl hle
  | ret =>
    cases e <;> simp only [ERel] at E1
    exact leavesA_sound ok hmix hc hm iter f1.defs a.defers .ret s1 s' r π1 π w1 .returning E1.defs.1 E1.defs.2 h2 fr1 R1 E1 rfl hle
  | exit i => exact (fail_some (show (AM.fail : AM CRes) s1 = some (r, s') from h2)).elim
  | panic v =>
    cases e <;> simp only [ERel] at E1
    obtain ⟨⟨v', rfl, hv⟩, E1⟩ := E1
    exact leavesA_sound ok hmix hc hm iter f1.defs a.defers (.pan v) s1 s' r π1 π w1 (.panicking [{ v := v', recovered := false }]) E1.defs.1 E1.defs.2 h2 fr1 R1 E1 ⟨v', rfl, hv⟩ hle

theorem callOk_evalFn {P : Program} {fn : FnTab} (ok : FnOk P fn) (hmix : P.follows .mixedOrders = true) {B : Nat} {w0 : World} {prim : PrimT} (hp : PrimOk P B w0 prim) : ∀ n, CallOk P B w0 (evalFn P fn prim n)
  | 0 => fun f args s r s' h => (fail_some (show (AM.fail : AM CRes) s = some (r, s') from h)).elim
  | n + 1 => fun f args s r s' h fr_ π w args' R ha => by
    unfold evalFn at h
    cases hpf : prim f with
    | some p =>
      rw [hpf] at h
      exact hp.ok f p hpf args s r s' h fr_ π w args' R ha
    | none =>
      rw [hpf] at h
      have hh := AM.andThen_some h; clear h; obtain ⟨F, s1, h1, h⟩ := hh
      obtain ⟨hF, rfl⟩ := ofOption_some h1
      exact evalBody_sound ok hmix (callOk_evalFn ok hmix hp n) (callMono_evalFn hp.mono n) n hF h fr_ R ha
end Go.Proofs.YtgpfgcbolinncaaGreat.Abs
set_option linter.unusedVariables false
set_option linter.unusedSimpArgs false
namespace Go.Proofs.YtgpfgcbolinncaaGreat.Abs
open Go Go.RowKit

/-! ### the order in which simp steps: the head of a sequence first -/
def bindR {α β : Type} (o : Option (α × ST)) (f : α → AM β) : Option (β × ST) := match o with
  | some (a, s) => f a s
  | none => none
theorem andThen_bind {α β : Type} (m : AM α) (f : α → AM β) (s : ST) : AM.andThen m f s = bindR (m s) f := rfl
theorem bindR_some {α β : Type} (a : α) (s : ST) (f : α → AM β) : bindR (some (a, s)) f = f a s := rfl
theorem bindR_none {α β : Type} (f : α → AM β) : bindR none f = none := rfl
@[congr] theorem bindR_congr {α β : Type} {o o' : Option (α × ST)} (h : o = o') (f : α → AM β) : bindR o f = bindR o' f := by rw [h]
theorem ret_eq {α : Type} (a : α) (s : ST) : AM.ret a s = some (a, s) := rfl
theorem ofOption_eq {α : Type} (a : α) (s : ST) : AM.ofOption (some a) s = some (a, s) := rfl
theorem guard_eq {c : Prop} [Decidable c] (h : c) (s : ST) : AM.guard c s = some ((), s) := by unfold AM.guard; rw [if_pos h]
/-- what is known stays; names go on -/
structure Kept (s s' : ST) : Prop where
  ext : Heap.Ext s.heap s'.heap
  free : s'.Free
  base : s'.base = s.base
  str : s'.str = s.str
  ctr : s.ctr ≤ s'.ctr
theorem Kept.refl {s : ST} (h : s.Free) : Kept s s := ⟨Heap.Ext.refl _, h, rfl, rfl, Nat.le_refl _⟩
theorem Kept.find {s s' : ST} (h : Kept s s') {n : Nat} (hn : s.heap.find n ≠ none) : s'.heap.find n = s.heap.find n := h.ext.find hn
theorem Kept.trans {a b c : ST} (h : Kept a b) (k : Kept b c) : Kept a c :=
  ⟨⟨k.ext.st.trans h.ext.st, fun n hn => by rw [k.ext.dyn n (by rw [h.find hn]; exact hn), h.ext.dyn n hn]⟩, k.free, k.base.trans h.base, k.str.trans h.str, Nat.le_trans h.ctr k.ctr⟩
theorem Kept.nm {s s' : ST} (h : Kept s s') (k : Nat) : s'.nm k = s.nm k := by simp [ST.nm, h.base, h.str]
/-- an object at a name that may be written -/
def Own (s : ST) (n : Nat) (o : AObj) : Prop := s.heap.dyn.get n = some (some o)
theorem Own.find {s : ST} {n : Nat} {o : AObj} (h : Own s n o) : s.heap.find n = some (some o) := Heap.dyn_find h
def ST.push (s : ST) (o : AObj) : ST := { s with heap := s.heap.set (s.nm s.ctr) (some o), ctr := s.ctr + 1, jr := (s.nm s.ctr, some o) :: s.jr }
def ST.put (s : ST) (n : Nat) (o : Option AObj) : ST := { s with heap := s.heap.set n o, jr := (n, o) :: s.jr }
theorem alloc_eq {s : ST} (h : s.Free) (o : AObj) : AM.alloc o s = some (s.nm s.ctr, s.push o) := by
  unfold AM.alloc
  have : s.heap.find (s.nm s.ctr) = none := h s.ctr (Nat.le_refl _)
  rw [this]
  rfl
theorem write_eq {s : ST} {n : Nat} {x : AObj} (h : Own s n x) (o : Option AObj) : AM.write n o s = some ((), s.put n o) := by
  unfold AM.write
  unfold Own at h
  rw [h]
  rfl
theorem read_eq {s : ST} {n : Nat} {o : AObj} (h : s.heap.find n = some (some o)) : AM.read n s = some (o, s) := by
  unfold AM.read
  rw [h]
theorem isDyn_eq {s : ST} {n : Nat} {o : AObj} (h : Own s n o) : AM.isDyn n s = some (true, s) := by
  unfold AM.isDyn
  rw [h.find]
  unfold Own at h
  simp [h]
theorem push_find (s : ST) (o : AObj) (m : Nat) : (s.push o).heap.find m = if m = s.nm s.ctr then some (some o) else s.heap.find m := Heap.find_set _ _ _ _
theorem put_find (s : ST) (n : Nat) (o : Option AObj) (m : Nat) : (s.put n o).heap.find m = if m = n then some o else s.heap.find m := Heap.find_set _ _ _ _
theorem Own.push_new (s : ST) (o : AObj) : Own (s.push o) (s.nm s.ctr) o := by simp [Own, ST.push, Heap.dyn_set]
theorem Own.put_same (s : ST) (n : Nat) (o : AObj) : Own (s.put n (some o)) n o := by simp [Own, ST.put, Heap.dyn_set]
theorem push_kept {s : ST} (h : s.Free) (o : AObj) : Kept s (s.push o) := by
  refine ⟨⟨rfl, fun n hn => ?_⟩, ?_, rfl, rfl, Nat.le_succ _⟩
  · simp only [ST.push, Heap.dyn_set]
    rw [if_neg]
    intro e
    subst e
    exact hn (h s.ctr (Nat.le_refl _))
  · intro k hk
    show (s.push o).heap.find (s.nm k) = none
    have hk : s.ctr + 1 ≤ k := hk
    rw [push_find, if_neg]
    · exact h k (by omega)
    · intro e; have := nm_inj.1 e; omega
/-- what was owned and isn't the one that is written stays owned -/
theorem Own.put_ne {s : ST} {n m : Nat} {x : AObj} (h : Own s m x) (e : m ≠ n) (o : Option AObj) : Own (s.put n o) m x := by
  unfold Own ST.put at *
  simp only [Heap.dyn_set]
  rw [if_neg e]
  exact h
theorem Own.kept {s s' : ST} {n : Nat} {o : AObj} (h : Own s n o) (k : Kept s s') : Own s' n o := by
  have hf := h.find
  unfold Own at *
  rw [k.ext.dyn n (by rw [hf]; simp), h]
theorem put_kept {s0 s : ST} (k : Kept s0 s) {n : Nat} (hn : s0.heap.find n = none) {x : AObj} (ho : Own s n x) (o : Option AObj) : Kept s0 (s.put n o) := by
  refine ⟨⟨k.ext.st, fun m hm => ?_⟩, ?_, k.base, k.str, k.ctr⟩
  · simp only [ST.put, Heap.dyn_set]
    rw [if_neg (fun e => hm (by rw [e]; exact hn))]
    exact k.ext.dyn m hm
  · intro j hj
    show (s.put n o).heap.find (s.nm j) = none
    rw [put_find, if_neg]
    · exact k.free j hj
    · intro e
      have := k.free j hj
      have h2 : s.heap.find (s.nm j) = none := this
      rw [e, ho.find] at h2
      cases h2
theorem fresh_new {s0 s : ST} (k : Kept s0 s) : s0.heap.find (s.nm s.ctr) = none := by
  apply Classical.byContradiction
  intro h
  have := k.find h
  have h2 : s.heap.find (s.nm s.ctr) = none := k.free s.ctr (Nat.le_refl _)
  rw [h2] at this
  exact h this.symm
theorem ne_new {s : ST} (f : s.Free) {n : Nat} {o : AObj} (h : Own s n o) : n ≠ s.nm s.ctr := by
  intro e
  have h2 : s.heap.find (s.nm s.ctr) = none := f s.ctr (Nat.le_refl _)
  rw [← e, h.find] at h2
  cases h2
end Go.Proofs.YtgpfgcbolinncaaGreat.Abs
