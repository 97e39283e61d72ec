/- One operation as a step of the abstract run; it does what the machine does; a larger heap does not disturb it. One operation of the abstract run does what the machine's operation does. A larger heap does not disturb an operation of the abstract run. Operations in a frame: the abstract run of a region in the order of the text. A region whose order is open: the abstract run takes the order of the text, each operation on what lies before it; any order gives the same. -/
import Derived.Test.YtgpfgcbolinncaaGreatP2
set_option linter.unusedVariables false
set_option linter.unusedSimpArgs false
namespace Go.Proofs.YtgpfgcbolinncaaGreat.Abs
open Go Go.RowKit

inductive AR where
  | val (v : Value)
  | skip
  | enter (f : FuncId) (args : Array Value)
  | panic (v : Value)
  | defer (d : Deferred)
  | recover

def valOf (m : AM Value) : AM AR := AM.andThen m fun v => AM.ret (.val v)
def skipOf (m : AM Unit) : AM AR := AM.andThen m fun _ => AM.ret .skip
def valO (o : Option Value) : AM AR := AM.andThen (AM.ofOption o) fun v => AM.ret (.val v)
def argsV (ρ : Operand → Value) (a : Array Operand) : List Value := a.toList.map ρ
def partsV (ρ : Operand → Value) (a : Array (Nat × Operand)) : List (Nat × Value) := a.toList.map fun p => (p.1, ρ p.2)
def pickA (c a b : Value) : Option Value := match c with
  | .bool t => some (if t then a else b)
  | _ => none
def asFunc (v : Value) : Option (FuncId × Array Value × Array Value) := match v with
  | .func (.func f) a b => some (f, a, b)
  | _ => none
theorem asFunc_some {v : Value} {p : FuncId × Array Value × Array Value} (h : asFunc v = some p) : v = .func (.func p.1) p.2.1 p.2.2 := by
  unfold asFunc at h
  split at h
  · simp only [Option.some.injEq] at h; subst h; rfl
  · cases h
def panicA (v : Value) : Option Value := match v with
  | .iface t x => some (.iface t x)
  | _ => none

def oneArg (ts : List TypeId) (args : List Value) : Option (TypeId × Value) := match ts, args with
  | [t], [x] => some (t, x)
  | _, _ => none
theorem oneArg_some {ts : List TypeId} {args : List Value} {p : TypeId × Value} (h : oneArg ts args = some p) : ts = [p.1] ∧ args = [p.2] := by
  unfold oneArg at h
  split at h
  · simp only [Option.some.injEq] at h; subst h; exact ⟨rfl, rfl⟩
  · cases h
def twoArgs (ts : List TypeId) (args : List Value) : Option (TypeId × Value × Value) := match ts, args with
  | [t, t'], [x, y] => if t = t' then some (t, x, y) else none
  | _, _ => none
theorem twoArgs_some {ts : List TypeId} {args : List Value} {p : TypeId × Value × Value} (h : twoArgs ts args = some p) : ts = [p.1, p.1] ∧ args = [p.2.1, p.2.2] := by
  unfold twoArgs at h
  split at h
  · split at h
    · rename_i hh; simp only [Option.some.injEq] at h; subst h; subst hh; exact ⟨rfl, rfl⟩
    · cases h
  · cases h
def lenAny (P : Program) (t : TypeId) (x : Value) : AM AR := if (lenA P t x).isSome = true then valO (lenA P t x) else valOf (mapLenA P t x)
def builtinA (P : Program) (b : Builtin) (ts : List TypeId) (args : List Value) : AM AR := match b with
  | .len => AM.andThen (AM.ofOption (oneArg ts args)) fun p => lenAny P p.1 p.2
  | .append => AM.andThen (AM.ofOption (twoArgs ts args)) fun p => valOf (appendA P p.1 p.2.1 p.2.2)
  | .max => valO (maxA args)
  | .min => valO (minA args)
  | .clear => AM.andThen (AM.ofOption (oneArg ts args)) fun p => AM.andThen (clearA P p.1 p.2) fun _ => AM.ret (.val undef)
  | .recover => AM.ret .recover
  | _ => AM.fail

/-- which functions may be entered -/
abbrev FnTab := FuncId → Option (Code × Nat × Array ResultVar)
structure FnOk (P : Program) (fn : FnTab) : Prop where
  ok : ∀ f c, fn f = some c → ∃ F, P.funcs[f]? = some F ∧ F.body = some c.1 ∧ F.ntmps = c.2.1 ∧ F.results = c.2.2 ∧ F.name ≠ "runtime.NumGoroutine"

def enterA (fn : FnTab) (v : Value) (args : List Value) : AM AR :=
  AM.andThen (AM.ofOption (asFunc v)) fun p => AM.andThen (AM.guard ((fn p.1).isSome = true)) fun _ => AM.ret (.enter p.1 (p.2.1 ++ args.toArray ++ p.2.2))
def deferA (fn : FnTab) (v : Value) (args : List Value) : AM AR :=
  AM.andThen (AM.ofOption (asFunc v)) fun p => AM.ret (.defer { target := .fn (.func p.1) p.2.2, args := p.2.1 ++ args.toArray })

def evalOp (P : Program) (fn : FnTab) (ρ : Operand → Value) (o : Oper) : AM AR := match o.op with
  | .move x | .assign x => AM.ret (.val (ρ x))
  | .pick c a b => valO (pickA (ρ c) (ρ a) (ρ b))
  | .alloc e => valOf (allocA P e)
  | .box e x => valOf (boxA e (ρ x))
  | .build t ps => valO (buildA P t (partsV ρ ps))
  | .buildSlice t n ps => valOf (buildSliceA P t n (partsV ρ ps))
  | .load t a => valOf (loadA P t (ρ a))
  | .store t a x => skipOf (storeA P t (ρ a) (ρ x))
  | .nilCheck x => valO (nilCheckA (ρ x))
  | .binOp op t x y _ => valO (binA P op t x y (ρ x) (ρ y))
  | .unOp op _ x => valO (unA P op (ρ x))
  | .convert s d x => if memConv P s d then valOf (convM P s d (ρ x)) else valO (convA P s d (ρ x))
  | .makeInterface t x => valO (makeIfaceA P t (ρ x))
  | .makeFunc f first cap => AM.ret (.val (.func f (argsV ρ first).toArray (argsV ρ cap).toArray))
  | .makeMap t r => valOf (makeMapA P t (r.map ρ))
  | .makeSlice t l c => valOf (makeSliceA P t (ρ l) (ρ c))
  | .slice t x lo hi mx => valO (sliceA P t (ρ x) (lo.map ρ) (hi.map ρ) (mx.map ρ))
  | .fieldAddr t x f => valO (fieldAddrA P t (ρ x) f)
  | .field t x f => valO (fieldA P t (ρ x) f)
  | .indexAddr t x i => valO (indexAddrA P t (ρ x) (ρ i))
  | .index t x i => valO (indexA P t (ρ x) (ρ i))
  | .lookup t x i ok => valOf (lookupA P t (ρ x) (ρ i) ok)
  | .mapUpdate t m k v => skipOf (mapUpdateA P t (ρ m) (ρ k) (ρ v))
  | .range t x => valOf (rangeStrA P t (ρ x))
  | .next it isS => if isS then valOf (nextStrA (ρ it)) else AM.fail
  | .typeAssert x xt a ok => valO (assertA P (ρ x) xt a ok)
  | .extract t i => valO (extractA (ρ t) i)
  | .call c => match c.callee with
    | .builtin b => builtinA P b c.argTypes.toList (argsV ρ c.args)
    | .value f => enterA fn (ρ f) (argsV ρ c.args)
    | .invoke _ _ => AM.fail
  | .defer c => match c.callee with
    | .value f => deferA fn (ρ f) (argsV ρ c.args)
    | _ => AM.fail
  | .panic x => AM.andThen (AM.ofOption (panicA (ρ x))) fun v => AM.ret (.panic v)
  | _ => AM.fail

/-! ### what the machine does -/
structure DRel (π : PMap) (d d' : Deferred) : Prop where
  target : ∃ f c c', d.target = .fn (.func f) c ∧ d'.target = .fn (.func f) c' ∧ VRels π c c'
  args : VRels π d.args d'.args
theorem DRel.mono {π π' : PMap} (hp : π.le π') {d d' : Deferred} (h : DRel π d d') : DRel π' d d' := by
  obtain ⟨f, c, c', a, b, k⟩ := h.target
  exact ⟨⟨f, c, c', a, b, k.mono hp⟩, h.args.mono hp⟩
def NRel (π : PMap) : AR → Next → Prop
  | .val v, .value v' => VRel π v v'
  | .skip, .skip => True
  | .enter f a, .enter f' a' => f = f' ∧ VRels π a a'
  | .defer d, .defer d' => DRel π d d'
  | .recover, .recover => True
  | _, _ => False
def RRel (B : Nat) (w0 : World) (π : PMap) (h : Heap) (r : AR) (res : Result Next) : Prop := ∃ π' w', π.le π' ∧ Rel B w0 π' h w' ∧
  ((∃ v v', r = .panic v ∧ res = .halt (.panic v') w' ∧ VRel π' v v') ∨ (∃ n, res = .ok n w' ∧ NRel π' r n))
theorem valO_sim {B : Nat} {w0 : World} {π : PMap} {w : World} {s s' : ST} {r : AR} {o : Option Value} {m : Sem Value} {P : Program} (h : valO o s = some (r, s')) (R : Rel B w0 π s.heap w)
    (k : ∀ v, o = some v → ∃ v', m.run P w = .ok v' w ∧ VRel π v v') : RRel B w0 π s'.heap r ((do pure (.value (← m)) : Sem Next).run P w) := by
  unfold valO at h
  have hh := AM.andThen_some h; clear h; obtain ⟨v, s1, h1, h⟩ := hh
  obtain ⟨hv, rfl⟩ := ofOption_some h1
  obtain ⟨rfl, rfl⟩ := ret_some h
  obtain ⟨v', e, r⟩ := k v hv
  exact ⟨π, w, PMap.le.refl π, R, .inr ⟨.value v', by simp only [Sem.run_bind, e, Result.andThen_ok, Sem.run_pure], r⟩⟩
theorem valOf_sim {B : Nat} {w0 : World} {π : PMap} {w : World} {s s' : ST} {r : AR} {a : AM Value} {m : Sem Value} {P : Program} (h : valOf a s = some (r, s'))
    (k : ∀ v s1, a s = some (v, s1) → ∃ π' v' w', π.le π' ∧ m.run P w = .ok v' w' ∧ VRel π' v v' ∧ Rel B w0 π' s1.heap w') : RRel B w0 π s'.heap r ((do pure (.value (← m)) : Sem Next).run P w) := by
  unfold valOf at h
  have hh := AM.andThen_some h; clear h; obtain ⟨v, s1, h1, h⟩ := hh
  obtain ⟨rfl, rfl⟩ := ret_some h
  obtain ⟨π', v', w', hle, e, r, R'⟩ := k v _ h1
  exact ⟨π', w', hle, R', .inr ⟨.value v', by simp only [Sem.run_bind, e, Result.andThen_ok, Sem.run_pure], r⟩⟩
theorem skipOf_sim {B : Nat} {w0 : World} {π : PMap} {w : World} {s s' : ST} {r : AR} {a : AM Unit} {m : Sem Unit} {P : Program} (h : skipOf a s = some (r, s'))
    (k : ∀ u s1, a s = some (u, s1) → ∃ w', m.run P w = .ok () w' ∧ Rel B w0 π s1.heap w') : RRel B w0 π s'.heap r ((do m; pure .skip : Sem Next).run P w) := by
  unfold skipOf at h
  have hh := AM.andThen_some h; clear h; obtain ⟨v, s1, h1, h⟩ := hh
  obtain ⟨rfl, rfl⟩ := ret_some h
  obtain ⟨w', e, R'⟩ := k v _ h1
  exact ⟨π, w', PMap.le.refl π, R', .inr ⟨.skip, by simp only [Sem.run_bind, e, Result.andThen_ok, Sem.run_pure], trivial⟩⟩
theorem argsV_rel {π : PMap} {ρ ρ' : Operand → Value} (h : ∀ x, VRel π (ρ x) (ρ' x)) (a : Array Operand) : VRels π (argsV ρ a).toArray (a.map ρ') := by
  refine ⟨by simp [argsV], fun i x y => ?_⟩
  simp [argsV]
  exact h _
theorem argsV_lrel {π : PMap} {ρ ρ' : Operand → Value} (h : ∀ x, VRel π (ρ x) (ρ' x)) (a : Array Operand) : LRel π (argsV ρ a) (a.map ρ').toList := by
  have := LRel.of_arrays (argsV_rel h a)
  simpa using this
theorem partsV_rel {π : PMap} {ρ ρ' : Operand → Value} (h : ∀ x, VRel π (ρ x) (ρ' x)) (a : Array (Nat × Operand)) : PartsRel π (partsV ρ a) (a.map fun (i, x) => (i, ρ' x)).toList := by
  refine ⟨by simp [partsV], fun i x hx => ?_⟩
  simp only [partsV, List.getElem?_map, Option.map_eq_some_iff] at hx
  obtain ⟨y, hy, rfl⟩ := hx
  exact ⟨(y.1, ρ' y.2), by simp only [Array.toList_map, List.getElem?_map, hy, Option.map_some], rfl, h _⟩
theorem buildA_sim' {P : Program} {π : PMap} {t : TypeId} {parts : List (Nat × Value)} {ps : Array (Nat × Value)} {v : Value} (h : buildA P t parts = some v) (hp : PartsRel π parts ps.toList) (w : World) :
    ∃ v', (Instr.build t ps).run P w = .ok v' w ∧ VRel π v v' := by
  have := buildA_sim h hp w
  rwa [Array.toArray_toList] at this
theorem buildSliceA_sim' {P : Program} {B : Nat} {w0 : World} {π : PMap} {w : World} {s s' : ST} {t : TypeId} {len : Nat} {parts : List (Nat × Value)} {ps : Array (Nat × Value)} {x : Value} (h : buildSliceA P t len parts s = some (x, s'))
    (R : Rel B w0 π s.heap w) (hp : PartsRel π parts ps.toList) :
    ∃ π' x' w', π.le π' ∧ (Instr.buildSlice t len ps).run P w = .ok x' w' ∧ VRel π' x x' ∧ Rel B w0 π' s'.heap w' := by
  have := buildSliceA_sim h R hp
  rwa [Array.toArray_toList] at this
theorem orel_map {π : PMap} {ρ ρ' : Operand → Value} (h : ∀ x, VRel π (ρ x) (ρ' x)) (o : Option Operand) : ORelV π (o.map ρ) (o.map ρ') := by
  cases o with
  | none => trivial
  | some x => exact h x
theorem VRels.append {π : PMap} {a b c d : Array Value} (h : VRels π a b) (k : VRels π c d) : VRels π (a ++ c) (b ++ d) := by
  have q := (LRel.of_arrays h).append (LRel.of_arrays k)
  have := q.arrays
  have e1 : (a.toList ++ c.toList).toArray = a ++ c := by apply Array.ext'; simp
  have e2 : (b.toList ++ d.toList).toArray = b ++ d := by apply Array.ext'; simp
  rwa [e1, e2] at this
theorem foldInts_rel {π : PMap} : ∀ (r r' : List Value), LRel π r r' → (∀ x ∈ r, ∃ j b, x = Value.int j b) → r' = r
  | [], r', h, _ => List.eq_nil_of_length_eq_zero h.1.symm
  | x :: r, r', h, hi => by
    cases r' with
    | nil => have := h.1; simp at this
    | cons y s =>
      obtain ⟨j, b, rfl⟩ := hi x (by simp)
      obtain ⟨v', e, q⟩ := h.2 0 _ rfl
      simp at e; subst e
      cases q
      rw [foldInts_rel r s ⟨by simpa using h.1, fun i v hv => by simpa using h.2 (i + 1) v (by simpa using hv)⟩ (fun x hx => hi x (by simp [hx]))]
end Go.Proofs.YtgpfgcbolinncaaGreat.Abs
set_option linter.unusedVariables false
set_option linter.unusedSimpArgs false
namespace Go.Proofs.YtgpfgcbolinncaaGreat.Abs
open Go Go.RowKit

theorem list1 {α : Type} {l : List α} {x : α} {l' : List α} (hl : l.length = l'.length) (h : l = [x]) : ∃ y, l' = [y] := by
  subst h
  cases l' with
  | nil => simp at hl
  | cons y r => cases r with
    | nil => exact ⟨y, rfl⟩
    | cons z t => simp at hl
theorem LRel.one {π : PMap} {x : Value} {l' : List Value} (h : LRel π [x] l') : ∃ y, l' = [y] ∧ VRel π x y := by
  obtain ⟨y, rfl⟩ := list1 h.1 rfl
  obtain ⟨v', e, r⟩ := h.2 0 x rfl
  simp at e; subst e
  exact ⟨y, rfl, r⟩
theorem LRel.two {π : PMap} {x y : Value} {l' : List Value} (h : LRel π [x, y] l') : ∃ a b, l' = [a, b] ∧ VRel π x a ∧ VRel π y b := by
  match l', h with
  | [], h => have := h.1; simp at this
  | [a], h => have := h.1; simp at this
  | [a, b], h =>
    obtain ⟨v', e, r⟩ := h.2 0 x rfl
    obtain ⟨v2, e2, r2⟩ := h.2 1 y rfl
    simp at e e2
    subst e e2
    exact ⟨a, b, rfl, r, r2⟩
  | a :: b :: c :: t, h => have := h.1; simp at this

theorem builtinA_sim {P : Program} {B : Nat} {w0 : World} {π : PMap} {w : World} {s s' : ST} {r : AR} {b : Builtin} {ts : Array TypeId} {type : TypeId} {consts : Array Bool} {args : List Value} {args' : Array Value}
    (h : builtinA P b ts.toList args s = some (r, s')) (R : Rel B w0 π s.heap w) (ha : LRel π args args'.toList) : RRel B w0 π s'.heap r ((builtin b ts type consts args').run P w) := by
  cases b with
  | len =>
    have hh := AM.andThen_some h; clear h; obtain ⟨p, s1, h1, h⟩ := hh
    obtain ⟨hp, rfl⟩ := ofOption_some h1
    obtain ⟨t, x⟩ := p
    obtain ⟨hts, hx⟩ := oneArg_some hp
    subst hx
    obtain ⟨y, hy, hxy⟩ := ha.one
    have hargs : args' = #[y] := by apply Array.ext'; simpa using hy
    subst hargs
    have htt : ts[0]? = some t := by have := congrArg (·[0]?) hts; simpa using this
    simp only [builtin]
    unfold lenAny at h
    by_cases hl : (lenA P t x).isSome = true
    · rw [if_pos hl] at h
      refine valO_sim h R fun v hv => ⟨v, lenA_sim hv hxy htt w, ?_⟩
      unfold lenA at hv
      split at hv <;> first | (cases hv; done) | (simp only [Option.some.injEq] at hv; subst hv; exact .int _ _)
    · rw [if_neg hl] at h
      refine valOf_sim h fun v s1 h1 => ?_
      obtain ⟨e, r, rfl⟩ := mapLenA_sim (ty := type) h1 R hxy htt
      exact ⟨π, v, w, PMap.le.refl π, e, r, R⟩
  | append =>
    have hh := AM.andThen_some h; clear h; obtain ⟨p, s1, h1, h⟩ := hh
    obtain ⟨hp, rfl⟩ := ofOption_some h1
    obtain ⟨t, a, x⟩ := p
    obtain ⟨hts, hx⟩ := twoArgs_some hp
    subst hx
    obtain ⟨a', x', hy, hra, hrx⟩ := ha.two
    have hargs : args' = #[a', x'] := by apply Array.ext'; simpa using hy
    have hts' : ts = #[t, t] := by apply Array.ext'; simpa using hts
    subst hargs hts'
    simp only [builtin]
    exact valOf_sim h fun v s1 h1 => appendA_sim h1 R hra hrx
  | max =>
    simp only [builtin]
    refine valO_sim h R fun v hv => ?_
    unfold maxA at hv
    split at hv
    · rename_i k a r
      obtain ⟨h1, b, hb⟩ := foldInts_plain r a v hv
      have e := foldInts_rel (.int k a :: r) args'.toList ha (by
        intro x hx
        rcases List.mem_cons.1 hx with rfl | hx
        · exact ⟨k, a, rfl⟩
        · exact h1 x hx)
      refine ⟨v, ?_, by rw [hb]; exact .int _ _⟩
      unfold Builtin.max_
      rw [e]
      exact foldMax r k a v hv
    · cases hv
  | min =>
    simp only [builtin]
    refine valO_sim h R fun v hv => ?_
    unfold minA at hv
    split at hv
    · rename_i k a r
      obtain ⟨h1, b, hb⟩ := foldInts_plain r a v hv
      have e := foldInts_rel (.int k a :: r) args'.toList ha (by
        intro x hx
        rcases List.mem_cons.1 hx with rfl | hx
        · exact ⟨k, a, rfl⟩
        · exact h1 x hx)
      refine ⟨v, ?_, by rw [hb]; exact .int _ _⟩
      unfold Builtin.min_
      rw [e]
      exact foldMin r k a v hv
    · cases hv
  | clear =>
    have hh := AM.andThen_some h; clear h; obtain ⟨p, s1, h1, h⟩ := hh
    obtain ⟨hp, rfl⟩ := ofOption_some h1
    obtain ⟨t, x⟩ := p
    obtain ⟨hts, hx⟩ := oneArg_some hp
    subst hx
    obtain ⟨y, hy, hxy⟩ := ha.one
    have hargs : args' = #[y] := by apply Array.ext'; simpa using hy
    subst hargs
    have htt : ts[0]? = some t := by have := congrArg (·[0]?) hts; simpa using this
    have hh := AM.andThen_some h; clear h; obtain ⟨u, s1, h1, h⟩ := hh
    obtain ⟨rfl, rfl⟩ := ret_some h
    obtain ⟨w', e, R'⟩ := clearA_sim (ty := type) h1 R hxy htt
    simp only [builtin]
    refine ⟨π, w', PMap.le.refl π, R', .inr ⟨.value (.tuple #[]), by simp only [Sem.run_bind, e, Result.andThen_ok, Sem.run_pure], ?_⟩⟩
    exact .tuple _ _ rfl (fun i a => by simp at a)
  | recover =>
    obtain ⟨rfl, rfl⟩ := ret_some h
    exact ⟨π, w, PMap.le.refl π, R, .inr ⟨.recover, rfl, trivial⟩⟩
  | _ => exact (fail_some (show (AM.fail : AM AR) s = some (r, s') from h)).elim

theorem callFunc_run {P : Program} {fn : FnTab} (ok : FnOk P fn) {f : FuncId} (h : (fn f).isSome = true) (args : Array Value) (w : World) : (callFunc f args).run P w = .ok (.enter f args) w := by
  obtain ⟨c, hc⟩ := Option.isSome_iff_exists.1 h
  obtain ⟨F, hF, hb, _, _, hn⟩ := ok.ok f c hc
  unfold callFunc
  simp only [Sem.run_bind, run_program, Result.andThen_ok, hF]
  have hn' : (F.name == "runtime.NumGoroutine") = false := by simpa using hn
  simp only [hn', hb]
  rfl
theorem enterA_sim {P : Program} {fn : FnTab} (ok : FnOk P fn) {B : Nat} {w0 : World} {π : PMap} {w : World} {s s' : ST} {r : AR} {v v' : Value} {args : List Value} {args' : Array Value}
    (h : enterA fn v args s = some (r, s')) (R : Rel B w0 π s.heap w) (hv : VRel π v v') (ha : LRel π args args'.toList) :
    RRel B w0 π s'.heap r ((do let d ← Deferred.ofValue v' args'; invoke d.target d.args : Sem Next).run P w) := by
  unfold enterA at h
  have hh := AM.andThen_some h; clear h; obtain ⟨p, s1, h1, h⟩ := hh
  obtain ⟨hp, rfl⟩ := ofOption_some h1
  have hp := asFunc_some hp
  subst hp
  have hh := AM.andThen_some h; clear h; obtain ⟨_, s1, h1, h⟩ := hh
  obtain ⟨hg, rfl⟩ := guard_some h1
  obtain ⟨rfl, rfl⟩ := ret_some h
  obtain ⟨f, a, c⟩ := p
  simp only at *
  cases hv with
  | func _ _ xs' _ ys' hx hy hxr hyr =>
    refine ⟨π, w, PMap.le.refl π, R, .inr ⟨.enter f (xs' ++ args' ++ ys'), ?_, rfl, ?_⟩⟩
    · simp only [Deferred.ofValue, Sem.run_bind, Sem.run_pure, Result.andThen_ok, invoke]
      exact callFunc_run ok hg _ w
    · have q := ha.arrays
      simp only [Array.toArray_toList] at q
      exact ((VRels.append ⟨hx, hxr⟩ q).append ⟨hy, hyr⟩)
theorem deferA_sim {P : Program} {fn : FnTab} {B : Nat} {w0 : World} {π : PMap} {w : World} {s s' : ST} {r : AR} {v v' : Value} {args : List Value} {args' : Array Value}
    (h : deferA fn v args s = some (r, s')) (R : Rel B w0 π s.heap w) (hv : VRel π v v') (ha : LRel π args args'.toList) :
    RRel B w0 π s'.heap r ((do pure (.defer (← Deferred.ofValue v' args')) : Sem Next).run P w) := by
  unfold deferA at h
  have hh := AM.andThen_some h; clear h; obtain ⟨p, s1, h1, h⟩ := hh
  obtain ⟨hp, rfl⟩ := ofOption_some h1
  have hp := asFunc_some hp
  subst hp
  obtain ⟨rfl, rfl⟩ := ret_some h
  obtain ⟨f, a, c⟩ := p
  simp only at *
  cases hv with
  | func _ _ xs' _ ys' hx hy hxr hyr =>
    refine ⟨π, w, PMap.le.refl π, R, .inr ⟨.defer { target := .fn (.func f) ys', args := xs' ++ args' }, ?_, ?_⟩⟩
    · simp only [Deferred.ofValue, Sem.run_bind, Sem.run_pure, Result.andThen_ok]
    · have q := ha.arrays
      simp only [Array.toArray_toList] at q
      exact ⟨⟨f, c, ys', rfl, rfl, hy, hyr⟩, VRels.append ⟨hx, hxr⟩ q⟩

set_option maxHeartbeats 1000000 in
theorem evalOp_sim {P : Program} {fn : FnTab} (ok : FnOk P fn) {B : Nat} {w0 : World} {π : PMap} {w : World} {s s' : ST} {r : AR} {ρ ρ' : Operand → Value} (o : Oper)
    (h : evalOp P fn ρ o s = some (r, s')) (R : Rel B w0 π s.heap w) (hρ : ∀ x, VRel π (ρ x) (ρ' x)) : RRel B w0 π s'.heap r ((execOp ρ' o).run P w) := by
  obtain ⟨dst, op, type, pos, after, guard⟩ := o
  cases op with
  | move x =>
    obtain ⟨rfl, rfl⟩ := ret_some h
    exact ⟨π, w, PMap.le.refl π, R, .inr ⟨_, rfl, hρ _⟩⟩
  | assign x =>
    obtain ⟨rfl, rfl⟩ := ret_some h
    exact ⟨π, w, PMap.le.refl π, R, .inr ⟨_, rfl, hρ _⟩⟩
  | pick c a b =>
    have q := valO_sim (P := P) (m := do pure (if ← asBool (ρ' c) then ρ' a else ρ' b)) h R (by
      intro v hv
      unfold pickA at hv
      split at hv
      · rename_i t ht
        simp only [Option.some.injEq] at hv
        subst hv
        have hc := hρ c
        rw [ht] at hc
        generalize hcc : ρ' c = cc at hc
        cases hc
        cases t
        · exact ⟨ρ' b, by simp [asBool, hcc], hρ b⟩
        · exact ⟨ρ' a, by simp [asBool, hcc], hρ a⟩
      · cases hv)
    have e : (execOp ρ' { dst, op := .pick c a b, type, pos, after, guard }).run P w = ((do pure (.value (← (do pure (if ← asBool (ρ' c) then ρ' a else ρ' b) : Sem Value))) : Sem Next)).run P w := by
      simp only [execOp, Sem.run_bind]
      cases (asBool (ρ' c)).run P w <;> rfl
    rw [e]; exact q
  | alloc e => exact valOf_sim (m := Instr.alloc e true (.tuple #[])) h fun v s1 h1 => allocA_sim h1 R
  | box e x => exact valOf_sim (m := Instr.box e (ρ' x)) h fun v s1 h1 => boxA_sim h1 R (hρ x)
  | build t ps =>
    simp only [evalOp] at h
    simp only [execOp]
    exact valO_sim h R fun v hv => buildA_sim' hv (partsV_rel hρ ps) w
  | buildSlice t n ps =>
    simp only [evalOp] at h
    simp only [execOp]
    exact valOf_sim h fun v s1 h1 => buildSliceA_sim' h1 R (partsV_rel hρ ps)
  | load t a =>
    exact valOf_sim (m := Instr.loadAt t (ρ' a)) h fun v s1 h1 => by
      obtain ⟨v', e, r, rfl⟩ := loadA_sim h1 R (hρ a)
      exact ⟨π, v', w, PMap.le.refl π, e, r, R⟩
  | store t a x => exact skipOf_sim (m := Instr.storeAt t (ρ' a) (ρ' x)) h fun u s1 h1 => storeA_sim h1 R (hρ a) (hρ x)
  | nilCheck x =>
    have hh := AM.andThen_some h; clear h; obtain ⟨v, s1, h1, h⟩ := hh
    obtain ⟨hv, rfl⟩ := ofOption_some h1
    obtain ⟨rfl, rfl⟩ := ret_some h
    have hx := hρ x
    generalize ha : ρ x = a at hv hx
    generalize hb : ρ' x = b at hx
    unfold nilCheckA at hv
    split at hv
    · simp only [Option.some.injEq] at hv
      subst hv
      cases hx with
      | ptr n off p hp =>
        refine ⟨π, w, PMap.le.refl π, R, .inr ⟨.value _, ?_, .ptr n off p hp⟩⟩
        simp only [execOp, hb, Sem.run_pure]
    · simp only [Option.some.injEq] at hv
      subst hv
      cases hx with
      | func _ _ xs' _ ys' hx hy hxr hyr =>
        refine ⟨π, w, PMap.le.refl π, R, .inr ⟨.value _, ?_, .func _ _ _ _ _ hx hy hxr hyr⟩⟩
        simp only [execOp, hb, Sem.run_pure]
    · cases hv
  | binOp op t x y yt => exact valO_sim (m := do eqGuard op t x y (ρ' x) (ρ' y); binOp op t (ρ' x) (ρ' y)) h R fun v hv => binA_sim hv (hρ x) (hρ y) w
  | unOp op t x => exact valO_sim (m := Op.unary op (ρ' x)) h R fun v hv => unA_sim hv (hρ x) w
  | convert sr d x =>
    simp only [evalOp] at h
    split at h
    · exact valOf_sim (m := convert sr d (ρ' x)) h fun v s1 h1 => by
        obtain ⟨v', w', e, r, R'⟩ := convM_sim h1 R (hρ x)
        exact ⟨π, v', w', PMap.le.refl π, e, r, R'⟩
    · exact valO_sim (m := convert sr d (ρ' x)) h R fun v hv => convA_sim hv (hρ x) w
  | makeInterface t x => exact valO_sim (m := Instr.makeInterface t (ρ' x)) h R fun v hv => makeIfaceA_sim hv (hρ x) w
  | makeFunc f first cap =>
    obtain ⟨rfl, rfl⟩ := ret_some h
    have q1 := argsV_rel hρ first
    have q2 := argsV_rel hρ cap
    exact ⟨π, w, PMap.le.refl π, R, .inr ⟨_, rfl, .func f _ _ _ _ q1.1 q2.1 q1.2 q2.2⟩⟩
  | makeMap t r => exact valOf_sim (m := Instr.makeMap t (r.map ρ')) h fun v s1 h1 => makeMapA_sim h1 R (orel_map hρ r)
  | makeSlice t l c => exact valOf_sim (m := Instr.makeSlice t (ρ' l) (ρ' c)) h fun v s1 h1 => makeSliceA_sim h1 R (hρ l) (hρ c)
  | slice t x lo hi mx => exact valO_sim (m := Instr.sliceAt t (ρ' x) (lo.map ρ') (hi.map ρ') (mx.map ρ')) h R fun v hv => sliceA_sim hv (hρ x) (orel_map hρ lo) (orel_map hρ hi) (orel_map hρ mx) w
  | fieldAddr t x f => exact valO_sim (m := Instr.fieldAt t (ρ' x) f) h R fun v hv => fieldAddrA_sim hv (hρ x) w
  | field t x f => exact valO_sim (m := Instr.field t (ρ' x) f) h R fun v hv => fieldA_sim hv (hρ x) w
  | indexAddr t x i => exact valO_sim (m := Instr.indexAt t (ρ' x) (ρ' i)) h R fun v hv => indexAddrA_sim hv (hρ x) (hρ i) w
  | index t x i => exact valO_sim (m := Instr.index t (ρ' x) (ρ' i)) h R fun v hv => indexA_sim hv (hρ x) (hρ i) w
  | lookup t x i ok =>
    exact valOf_sim (m := Instr.lookup t (ρ' x) (ρ' i) ok) h fun v s1 h1 => by
      obtain ⟨v', e, r, rfl⟩ := lookupA_sim h1 R (hρ x) (hρ i)
      exact ⟨π, v', w, PMap.le.refl π, e, r, R⟩
  | mapUpdate t m k v => exact skipOf_sim (m := Instr.mapUpdate t (ρ' m) (ρ' k) (ρ' v)) h fun u s1 h1 => mapUpdateA_sim h1 R (hρ m) (hρ k) (hρ v)
  | range t x => exact valOf_sim (m := Instr.range t (ρ' x)) h fun v s1 h1 => rangeStrA_sim h1 R (hρ x)
  | «next» it isS =>
    cases isS with
    | true =>
      exact valOf_sim (m := Instr.next (ρ' it) true type) h fun v s1 h1 => by
        obtain ⟨r', w', e, r, R'⟩ := nextStrA_sim (P := P) (ty := type) h1 R (hρ it)
        exact ⟨π, r', w', PMap.le.refl π, e, r, R'⟩
    | false => exact (fail_some (show (AM.fail : AM AR) s = some (r, s') from h)).elim
  | typeAssert x xt a ok => exact valO_sim (m := Instr.typeAssert (ρ' x) xt a ok) h R fun v hv => assertA_sim hv (hρ x) w
  | extract t i => exact valO_sim (m := Instr.extract (ρ' t) i) h R fun v hv => extractA_sim hv (hρ t) w
  | call c =>
    obtain ⟨callee, args, ts⟩ := c
    cases callee with
    | builtin b =>
      simp only [evalOp] at h
      simp only [execOp, resolve, Sem.run_bind, Sem.run_pure, Result.andThen_ok, invoke]
      exact builtinA_sim h R (argsV_lrel hρ args)
    | value f =>
      have q := enterA_sim ok h R (hρ f) (argsV_lrel hρ args)
      simpa only [execOp, resolve] using q
    | invoke _ _ => exact (fail_some (show (AM.fail : AM AR) s = some (r, s') from h)).elim
  | defer c =>
    obtain ⟨callee, args, ts⟩ := c
    cases callee with
    | builtin b => exact (fail_some (show (AM.fail : AM AR) s = some (r, s') from h)).elim
    | value f =>
      have q := deferA_sim (P := P) (fn := fn) h R (hρ f) (argsV_lrel hρ args)
      simpa only [execOp, resolve] using q
    | invoke _ _ => exact (fail_some (show (AM.fail : AM AR) s = some (r, s') from h)).elim
  | panic x =>
    have hh := AM.andThen_some h; clear h; obtain ⟨v, s1, h1, h⟩ := hh
    obtain ⟨hv, rfl⟩ := ofOption_some h1
    obtain ⟨rfl, rfl⟩ := ret_some h
    have hx := hρ x
    generalize ha : ρ x = a at hv hx
    generalize hb : ρ' x = b at hx
    unfold panicA at hv
    split at hv
    · simp only [Option.some.injEq] at hv
      subst hv
      cases hx with
      | iface _ _ u' hu =>
        refine ⟨π, w, PMap.le.refl π, R, .inl ⟨_, _, rfl, ?_, .iface _ _ u' hu⟩⟩
        simp only [execOp, hb, Instr.panic, Sem.run_bind, run_goPanic, Result.andThen_halt]
    · cases hv
  | _ => exact (fail_some (show (AM.fail : AM AR) s = some (r, s') from h)).elim
end Go.Proofs.YtgpfgcbolinncaaGreat.Abs
set_option linter.unusedVariables false
set_option linter.unusedSimpArgs false
namespace Go.Proofs.YtgpfgcbolinncaaGreat.Abs
open Go Go.RowKit

theorem mono_newRow (e : TypeId) (c : List Value) : Mono (newRowA e c) := Mono.alloc _
theorem mono_valOf {m : AM Value} (h : Mono m) : Mono (valOf m) := Mono.andThen h fun _ => Mono.ret _
theorem mono_skipOf {m : AM Unit} (h : Mono m) : Mono (skipOf m) := Mono.andThen h fun _ => Mono.ret _
theorem mono_valO (o : Option Value) : Mono (valO o) := Mono.andThen (Mono.ofOption _) fun _ => Mono.ret _
theorem mono_box (e : TypeId) (v : Value) : Mono (boxA e v) := Mono.andThen (Mono.guard _) fun _ => Mono.andThen (mono_newRow _ _) fun _ => Mono.ret _
theorem mono_alloc (P : Program) (e : TypeId) : Mono (allocA P e) := Mono.andThen (Mono.ofOption _) fun _ => Mono.andThen (mono_newRow _ _) fun _ => Mono.ret _
theorem mono_buildSlice (P : Program) (t : TypeId) (n : Nat) (ps : List (Nat × Value)) : Mono (buildSliceA P t n ps) :=
  Mono.andThen (Mono.ofOption _) fun _ => Mono.andThen (Mono.ofOption _) fun _ => Mono.andThen (Mono.ofOption _) fun _ => Mono.andThen (mono_newRow _ _) fun _ => Mono.ret _
theorem mono_load (P : Program) (t : TypeId) (a : Value) : Mono (loadA P t a) := Mono.andThen (Mono.ofOption _) fun _ => Mono.andThen (Mono.read _) fun _ => Mono.andThen (Mono.ofOption _) fun _ => Mono.ofOption _
theorem mono_store (P : Program) (t : TypeId) (a v : Value) : Mono (storeA P t a v) :=
  Mono.andThen (Mono.ofOption _) fun _ => Mono.andThen (Mono.read _) fun _ => Mono.andThen (Mono.ofOption _) fun _ => Mono.andThen (Mono.ofOption _) fun _ => Mono.write _ _
theorem mono_elems (x : Value) (n size : Nat) : Mono (elemsA x n size) := Mono.andThen (Mono.ofOption _) fun _ => Mono.andThen (Mono.read _) fun _ => Mono.andThen (Mono.ofOption _) fun _ => Mono.andThen (Mono.ofOption _) fun _ => Mono.ret _
theorem mono_append (P : Program) (t : TypeId) (s x : Value) : Mono (appendA P t s x) :=
  Mono.andThen (Mono.ofOption _) fun _ => Mono.andThen (Mono.ofOption _) fun _ => Mono.ite (Mono.andThen (Mono.guard _) fun _ => Mono.ret _)
    (Mono.andThen (Mono.ofOption _) fun _ => Mono.andThen (mono_elems _ _ _) fun _ => Mono.ite (Mono.andThen (Mono.guard _) fun _ => Mono.andThen (mono_newRow _ _) fun _ => Mono.ret _)
      (Mono.andThen (Mono.ofOption _) fun _ => Mono.andThen (mono_elems _ _ _) fun _ => Mono.andThen (Mono.guard _) fun _ => Mono.andThen (Mono.write _ _) fun _ => Mono.andThen (mono_newRow _ _) fun _ => Mono.ret _))
theorem mono_entries (m : Value) : Mono (entriesA m) := by
  unfold entriesA
  split
  · exact Mono.ret _
  · exact Mono.andThen (Mono.ofOption _) fun _ => Mono.andThen (Mono.read _) fun _ => Mono.andThen (Mono.ofOption _) fun _ => Mono.ret _
theorem mono_lookup (P : Program) (t : TypeId) (m k : Value) (ok : Bool) : Mono (lookupA P t m k ok) :=
  Mono.andThen (Mono.ofOption _) fun _ => Mono.andThen (mono_entries _) fun _ => Mono.andThen (Mono.ofOption _) fun _ => Mono.ofOption _
theorem mono_makeMap (P : Program) (t : TypeId) (r : Option Value) : Mono (makeMapA P t r) := Mono.andThen (Mono.guard _) fun _ => Mono.andThen (Mono.alloc _) fun _ => Mono.ret _
theorem mono_mapLen (P : Program) (t : TypeId) (m : Value) : Mono (mapLenA P t m) := Mono.andThen (Mono.ofOption _) fun _ => Mono.andThen (mono_entries _) fun _ => Mono.ret _
theorem mono_mapUpdate (P : Program) (t : TypeId) (m k v : Value) : Mono (mapUpdateA P t m k v) :=
  Mono.andThen (Mono.ofOption _) fun _ => Mono.andThen (Mono.ofOption _) fun _ => Mono.andThen (Mono.read _) fun _ => Mono.andThen (Mono.ofOption _) fun _ => Mono.andThen (Mono.ofOption _) fun _ => Mono.write _ _
theorem mono_clear (P : Program) (t : TypeId) (x : Value) : Mono (clearA P t x) :=
  Mono.andThen (Mono.ofOption _) fun _ => Mono.ite (Mono.ret _) (Mono.andThen (Mono.ofOption _) fun _ => Mono.andThen (Mono.read _) fun _ => Mono.andThen (Mono.ofOption _) fun _ => Mono.andThen (Mono.ofOption _) fun _ => Mono.andThen (Mono.guard _) fun _ => Mono.write _ _)
theorem mono_makeSlice (P : Program) (t : TypeId) (l c : Value) : Mono (makeSliceA P t l c) :=
  Mono.andThen (Mono.ofOption _) fun _ => Mono.andThen (Mono.ofOption _) fun _ => Mono.andThen (Mono.ofOption _) fun _ => Mono.andThen (Mono.ofOption _) fun _ => Mono.andThen (Mono.ofOption _) fun _ => Mono.andThen (Mono.ofOption _) fun _ =>
    Mono.andThen (Mono.guard _) fun _ => Mono.andThen (mono_newRow _ _) fun _ => Mono.ret _
theorem mono_toString (P : Program) (s d : TypeId) (x : Value) : Mono (toStringA P s d x) :=
  Mono.andThen (Mono.ofOption _) fun _ => Mono.andThen (Mono.guard _) fun _ => Mono.ite (Mono.ret _) (Mono.andThen (Mono.ofOption _) fun _ => Mono.andThen (mono_elems _ _ _) fun _ => Mono.andThen (Mono.ofOption _) fun _ => Mono.ret _)
theorem mono_mark (P : Program) (t : TypeId) (x : Value) : Mono (markA P t x) :=
  Mono.andThen (Mono.ofOption _) fun _ => Mono.andThen (Mono.guard _) fun _ => Mono.andThen (Mono.ofOption _) fun _ => Mono.andThen (Mono.read _) fun _ => Mono.andThen (Mono.ofOption _) fun _ => Mono.andThen (Mono.write _ _) fun _ => Mono.ret _
theorem mono_convM (P : Program) (s d : TypeId) (x : Value) : Mono (convM P s d x) := Mono.ite (mono_mark _ _ _) (mono_toString _ _ _ _)
theorem mono_rangeStr (P : Program) (t : TypeId) (x : Value) : Mono (rangeStrA P t x) := Mono.andThen (Mono.ofOption _) fun _ => Mono.andThen (Mono.guard _) fun _ => Mono.andThen (Mono.alloc _) fun _ => Mono.ret _
theorem mono_nextStr (x : Value) : Mono (nextStrA x) :=
  Mono.andThen (Mono.ofOption _) fun _ => Mono.andThen (Mono.guard _) fun _ => Mono.andThen (Mono.read _) fun _ => Mono.andThen (Mono.ofOption _) fun _ => Mono.ite (Mono.andThen (Mono.write _ _) fun _ => Mono.ret _) (Mono.ret _)
theorem mono_builtin (P : Program) (b : Builtin) (ts : List TypeId) (args : List Value) : Mono (builtinA P b ts args) := by
  unfold builtinA
  split
  · exact Mono.andThen (Mono.ofOption _) fun _ => Mono.ite (mono_valO _) (mono_valOf (mono_mapLen _ _ _))
  · exact Mono.andThen (Mono.ofOption _) fun _ => mono_valOf (mono_append _ _ _ _)
  · exact mono_valO _
  · exact mono_valO _
  · exact Mono.andThen (Mono.ofOption _) fun _ => Mono.andThen (mono_clear _ _ _) fun _ => Mono.ret _
  · exact Mono.ret _
  · exact Mono.fail
theorem mono_enter (fn : FnTab) (v : Value) (args : List Value) : Mono (enterA fn v args) := Mono.andThen (Mono.ofOption _) fun _ => Mono.andThen (Mono.guard _) fun _ => Mono.ret _
theorem mono_defer (fn : FnTab) (v : Value) (args : List Value) : Mono (deferA fn v args) := Mono.andThen (Mono.ofOption _) fun _ => Mono.ret _
theorem mono_evalOp (P : Program) (fn : FnTab) (ρ : Operand → Value) (o : Oper) : Mono (evalOp P fn ρ o) := by
  obtain ⟨dst, op, type, pos, after, guard⟩ := o
  cases op <;> simp only [evalOp] <;> first
    | exact Mono.ret _
    | exact mono_valO _
    | exact Mono.fail
    | exact mono_valOf (mono_alloc _ _)
    | exact mono_valOf (mono_box _ _)
    | exact mono_valOf (mono_buildSlice _ _ _ _)
    | exact mono_valOf (mono_load _ _ _)
    | exact mono_skipOf (mono_store _ _ _ _)
    | exact Mono.ite (mono_valOf (mono_convM _ _ _ _)) (mono_valO _)
    | exact mono_valOf (mono_makeMap _ _ _)
    | exact mono_valOf (mono_makeSlice _ _ _ _)
    | exact mono_valOf (mono_lookup _ _ _ _ _)
    | exact mono_skipOf (mono_mapUpdate _ _ _ _ _)
    | exact mono_valOf (mono_rangeStr _ _ _)
    | exact Mono.ite (mono_valOf (mono_nextStr _)) Mono.fail
    | exact Mono.andThen (Mono.ofOption _) fun _ => Mono.ret _
    | (split <;> first | exact mono_builtin _ _ _ _ | exact mono_enter _ _ _ | exact mono_defer _ _ _ | exact Mono.fail)

/-! ### the same operands, the same step -/
theorem evalOp_congr {P : Program} {fn : FnTab} {ρ ρ' : Operand → Value} (o : Oper) (h : ∀ x ∈ o.op.operands, ρ x = ρ' x) : evalOp P fn ρ o = evalOp P fn ρ' o := by
  obtain ⟨dst, op, type, pos, after, guard⟩ := o
  have pairs : ∀ ps : Array (Nat × Operand), (∀ x ∈ ps.map (·.2), ρ x = ρ' x) → partsV ρ ps = partsV ρ' ps := fun ps hp => by
    unfold partsV
    refine List.map_congr_left fun p hm => ?_
    rw [hp p.2 (Array.mem_map.2 ⟨p, by simpa using hm, rfl⟩)]
  have argsE : ∀ a : Array Operand, (∀ x ∈ a, ρ x = ρ' x) → argsV ρ a = argsV ρ' a := fun a ha => by
    unfold argsV
    exact List.map_congr_left fun x hx => ha x (by simpa using hx)
  cases op <;> simp only [Op.operands] at h <;> simp only [evalOp]
  case build t ps => rw [pairs ps fun x hx => h x (by simpa using hx)]
  case buildSlice t n ps => rw [pairs ps fun x hx => h x (by simpa using hx)]
  case makeFunc f first captured => rw [argsE first fun x hx => h x (by simp [hx]), argsE captured fun x hx => h x (by simp [hx])]
  case call c =>
    have ha : argsV ρ c.args = argsV ρ' c.args := argsE _ fun x hx => h x (by simp [Call.operands, hx])
    cases hc : c.callee with
    | value f => simp only [ha, h f (by simp [Call.operands, hc])]
    | invoke r m => rfl
    | builtin b => simp only [ha]
  case defer c =>
    have ha : argsV ρ c.args = argsV ρ' c.args := argsE _ fun x hx => h x (by simp [Call.operands, hx])
    cases hc : c.callee with
    | value f => simp only [ha, h f (by simp [Call.operands, hc])]
    | invoke r m => rfl
    | builtin b => rfl
  case makeMap t r => cases r <;> simp_all
  case slice t x lo hi mx => cases lo <;> cases hi <;> cases mx <;> simp_all
  all_goals (first | rfl | (simp_all; done))
end Go.Proofs.YtgpfgcbolinncaaGreat.Abs
set_option linter.unusedVariables false
set_option linter.unusedSimpArgs false
namespace Go.Proofs.YtgpfgcbolinncaaGreat.Abs
open Go Go.RowKit

inductive OV where
  | val (v : Value)
  | panic (v : Value)
  | defer (d : Deferred)
inductive CRes where
  | ret (v : Value)
  | panic (v : Value)
abbrev CallT := FuncId → Array Value → AM CRes

def guardOk (ops : Array Oper) (env : Trie Value) (o : Oper) : Option Bool := match o.guard with
  | none => some true
  | some (j, want) => match (ops[j]?).bind (·.dst) with
    | none => some false
    | some t => match (env.get t).getD undef with
      | .bool b => some (b == want)
      | .complex _ _ _ => none
      | _ => some false
def opRes (call : CallT) : AR → AM OV
  | .val v => AM.ret (.val v)
  | .skip => AM.ret (.val undef)
  | .enter f a => AM.andThen (call f a) fun c => match c with
    | .ret v => AM.ret (.val v)
    | .panic v => AM.ret (.panic v)
  | .panic v => AM.ret (.panic v)
  | .defer d => AM.ret (.defer d)
  | .recover => AM.fail
def opVal (P : Program) (fn : FnTab) (call : CallT) (ops : Array Oper) (env : Trie Value) (o : Oper) : AM OV :=
  AM.andThen (AM.ofOption (guardOk ops env o)) fun g => if g = true then AM.andThen (evalOp P fn (evalV env) o) (opRes call) else AM.ret (.val undef)

structure Fr where
  n : Nat
  env : Trie Value
  defs : List Deferred
inductive SR where
  | next (fr : Fr)
  | panic (v : Value) (fr : Fr)
def putF (fr : Fr) (dst : Option Tmp) (v : Value) : Option Fr := match dst with
  | none => some fr
  | some d => if d < fr.n then some { fr with env := fr.env.set d v } else none
def applyOV (o : Oper) (fr : Fr) : OV → AM SR
  | .val v => AM.andThen (AM.ofOption (putF fr o.dst v)) fun f => AM.ret (.next f)
  | .panic v => AM.ret (.panic v fr)
  | .defer d => AM.andThen (AM.ofOption (putF { fr with defs := d :: fr.defs } o.dst undef)) fun f => AM.ret (.next f)
def evalOps (P : Program) (fn : FnTab) (call : CallT) (ops : Array Oper) : List Oper → Fr → AM SR
  | [], fr => AM.ret (.next fr)
  | o :: r, fr => AM.andThen (AM.andThen (opVal P fn call ops fr.env o) (applyOV o fr)) fun x => match x with
    | .next f => evalOps P fn call ops r f
    | .panic v f => AM.ret (.panic v f)

/-! ### frames -/
structure FRel (π : PMap) (fr : Fr) (a : Act) : Prop where
  size : a.tmps.size = fr.n
  env : ∀ t, VRel π ((fr.env.get t).getD undef) (a.tmps.getD t undef)
  defs : a.defers.length = fr.defs.length ∧ ∀ (i : Nat) (d : Deferred), fr.defs[i]? = some d → ∃ d', a.defers[i]? = some d' ∧ DRel π d d'
theorem FRel.mono {π π' : PMap} (hp : π.le π') {fr : Fr} {a : Act} (h : FRel π fr a) : FRel π' fr a :=
  ⟨h.size, fun t => (h.env t).mono hp, h.defs.1, fun i d e => let ⟨d', x, r⟩ := h.defs.2 i d e; ⟨d', x, r.mono hp⟩⟩
theorem undef_rel (π : PMap) : VRel π undef undef := .tuple _ _ rfl (fun i a => by simp at a)
theorem evalV_rel {π : PMap} {fr : Fr} {a : Act} (h : FRel π fr a) (x : Operand) : VRel π (evalV fr.env x) (a.eval x) := by
  cases x with
  | tmp t => exact h.env t
  | const v =>
    simp only [evalV, Act.eval]
    split
    · rename_i hp; exact plain_rel π 3 v hp
    · exact .top _ _ _
  | global g => exact .top _ _ _
  | func f => exact .func _ _ _ _ _ rfl rfl (fun i a => by simp at a) (fun i a => by simp at a)
theorem FRel.put {π : PMap} {fr fr' : Fr} {a : Act} (h : FRel π fr a) {dst : Option Tmp} {v v' : Value} (hf : putF fr dst v = some fr') (hv : VRel π v v') : FRel π fr' (a.put dst v') := by
  unfold putF at hf
  cases dst with
  | none => simp only [Option.some.injEq] at hf; subst hf; exact h
  | some d =>
    simp only at hf
    split at hf
    · rename_i hd
      simp only [Option.some.injEq] at hf
      subst hf
      refine ⟨by simpa [Act.put] using h.size, fun t => ?_, h.defs⟩
      simp only [Act.put, Trie.get_set]
      by_cases e : t = d
      · subst e
        have : t < a.tmps.size := by rw [h.size]; exact hd
        simp [this, hv]
      · have := h.env t
        simp only [if_neg e, Array.getD_eq_getD_getElem?, Array.getElem?_setIfInBounds_ne (Ne.symm e)] at this ⊢
        exact this
    · cases hf
theorem wanted_of {π : PMap} {fr : Fr} {a : Act} (h : FRel π fr a) {ops : Array Oper} {o : Oper} {g : Bool} (hg : guardOk ops fr.env o = some g) : Region.wanted o (yielded ops a.tmps) = g := by
  unfold guardOk at hg
  unfold Region.wanted
  split at hg
  · rename_i e
    simp only [Option.some.injEq] at hg
    rw [e]; exact hg
  · rename_i j want e
    rw [e]
    simp only
    unfold yielded
    split at hg
    · rename_i ht
      simp only [Option.some.injEq] at hg
      subst hg
      simp [ht]
    · rename_i t ht
      have hr := h.env t
      simp only [ht, Option.bind_some]
      generalize hv : (fr.env.get t).getD undef = v at hg hr
      rw [Array.getD_eq_getD_getElem?] at hr
      cases hq : a.tmps[t]? with
      | none =>
        rw [hq] at hr
        simp only [Option.getD_none] at hr
        split at hg
        · cases hr
        · cases hg
        · simp only [Option.some.injEq] at hg; subst hg; simp
      | some v' =>
        rw [hq] at hr
        simp only [Option.getD_some] at hr
        split at hg
        · cases hr
          simp only [Option.some.injEq] at hg
          subst hg
          simp
        · cases hg
        · rename_i h1 h2
          simp only [Option.some.injEq] at hg
          subst hg
          cases hr with
          | bool b => exact absurd rfl (h1 b)
          | top => exact absurd rfl (h2 _ _ _)
          | nanInt => exact absurd rfl (h2 _ _ _)
          | _ => simp

/-! ### one operation in its place -/
def PanicsWith (π : PMap) (v : Value) (chain : List PanicEntry) : Prop := ∃ v', chain = [{ v := v', recovered := false }] ∧ VRel π v v'
def CRel (π : PMap) : CRes → Ending → Prop
  | .ret v, .returned v' => VRel π v v'
  | .panic v, .panicked chain => PanicsWith π v chain
  | _, _ => False
def ST.Free (s : ST) : Prop := FreeIn s.heap s.base s.str s.ctr
def CallOk (P : Program) (B : Nat) (w0 : World) (call : CallT) : Prop := ∀ f args s r s', call f args s = some (r, s') → s.Free → ∀ π w args', Rel B w0 π s.heap w → VRels π args args' →
  Calls P f args' w fun e w' => ∃ π', π.le π' ∧ Rel B w0 π' s'.heap w' ∧ CRel π' r e
def CallMono (call : CallT) : Prop := ∀ f args, Mono (call f args)
theorem mono_opRes {call : CallT} (hm : CallMono call) (r : AR) : Mono (opRes call r) := by
  cases r with
  | enter f a =>
    refine Mono.andThen (hm f a) fun c => ?_
    cases c <;> exact Mono.ret _
  | recover => exact Mono.fail
  | _ => exact Mono.ret _
theorem mono_opVal {P : Program} {fn : FnTab} {call : CallT} (hm : CallMono call) (ops : Array Oper) (env : Trie Value) (o : Oper) : Mono (opVal P fn call ops env o) :=
  Mono.andThen (Mono.ofOption _) fun _ => Mono.ite (Mono.andThen (mono_evalOp _ _ _ _) fun r => mono_opRes hm r) (Mono.ret _)
theorem Mono.free {α : Type} {m : AM α} (hm : Mono m) {s s' : ST} {r : α} (h : m s = some (r, s')) (f : s.Free) : s'.Free := by
  obtain ⟨d, D, _⟩ := hm s r s' h
  unfold ST.Free
  rw [D.heap]
  exact D.free (Heap.Ext.refl _) f

def OVK (π : PMap) (a : Act) (o : Oper) (Q : Exit → Act → World → Prop) (K : Act → World → Prop) (w : World) : OV → Prop
  | .val v => ∀ v', VRel π v v' → K (a.put o.dst v') w
  | .panic v => ∀ chain, PanicsWith π v chain → Q (.panic chain) a w
  | .defer d => ∀ d', DRel π d d' → K ({ a with defers := d' :: a.defers }.put o.dst undef) w
theorem opVal_wp {P : Program} {fn : FnTab} (ok : FnOk P fn) {B : Nat} {w0 : World} {call : CallT} (hc : CallOk P B w0 call) {ops : Array Oper} {fr : Fr} {o : Oper} {s s' : ST} {r : OV}
    (h : opVal P fn call ops fr.env o s = some (r, s')) (fr_ : s.Free) {π : PMap} {w : World} {a : Act} (R : Rel B w0 π s.heap w) (F : FRel π fr a) {Q : Exit → Act → World → Prop} {K : Act → World → Prop}
    (k : ∀ π' w', π.le π' → Rel B w0 π' s'.heap w' → OVK π' a o Q K w' r) : if Region.wanted o (yielded ops a.tmps) = true then o.wp P a w K Q else K (a.put o.dst undef) w := by
  unfold opVal at h
  have hh := AM.andThen_some h; clear h; obtain ⟨g, s1, h1, h⟩ := hh
  obtain ⟨hg, rfl⟩ := ofOption_some h1
  have hw := wanted_of F hg
  rw [hw]
  by_cases hgt : g = true
  · rw [if_pos hgt] at h ⊢
    have hh := AM.andThen_some h; clear h; obtain ⟨ar, s1, h2, h⟩ := hh
    obtain ⟨π1, w1, hle, R1, hres⟩ := evalOp_sim ok o h2 R (evalV_rel F)
    unfold Oper.wp
    rcases hres with ⟨v, v', rfl, hrun, hv⟩ | ⟨n, hrun, hn⟩
    · simp only [opRes] at h
      obtain ⟨rfl, rfl⟩ := ret_some h
      have e : execOp a.eval o = execOp (a.eval) o := rfl
      rw [hrun, Oper.upon_panic]
      exact k π1 w1 hle R1 _ ⟨v', rfl, hv⟩
    · rw [hrun]
      cases ar with
      | val v =>
        simp only [opRes] at h
        obtain ⟨rfl, rfl⟩ := ret_some h
        cases n <;> simp only [NRel] at hn
        rw [Oper.upon_value]
        exact k π1 w1 hle R1 _ hn
      | skip =>
        simp only [opRes] at h
        obtain ⟨rfl, rfl⟩ := ret_some h
        cases n <;> simp only [NRel] at hn
        rw [Oper.upon_skip]
        exact k π1 w1 hle R1 _ (undef_rel _)
      | enter f args =>
        simp only [opRes] at h
        have hh := AM.andThen_some h; clear h; obtain ⟨c, s2, h3, h⟩ := hh
        cases n <;> simp only [NRel] at hn
        rename_i f' args'
        obtain ⟨rfl, hargs⟩ := hn
        rw [Oper.upon_enter]
        refine (hc f args s1 c s2 h3 ((mono_evalOp _ _ _ _).free h2 fr_) π1 w1 args' R1 hargs).mono ?_
        rintro e w2 ⟨π2, hle2, R2, hcr⟩
        cases c with
        | ret v =>
          cases e <;> simp only [CRel] at hcr
          obtain ⟨rfl, rfl⟩ := ret_some h
          exact k π2 w2 (hle.trans hle2) R2 _ hcr
        | panic v =>
          cases e <;> simp only [CRel] at hcr
          obtain ⟨rfl, rfl⟩ := ret_some h
          exact k π2 w2 (hle.trans hle2) R2 _ hcr
      | panic v => cases n <;> simp only [NRel] at hn
      | defer d =>
        simp only [opRes] at h
        obtain ⟨rfl, rfl⟩ := ret_some h
        cases n <;> simp only [NRel] at hn
        rw [Oper.upon_defer]
        exact k π1 w1 hle R1 _ hn
      | recover =>
        simp only [opRes] at h
        exact (fail_some h).elim
  · rw [if_neg hgt] at h ⊢
    obtain ⟨rfl, rfl⟩ := ret_some h
    exact k π w (PMap.le.refl π) R _ (undef_rel _)

theorem opVal_sound {P : Program} {fn : FnTab} (ok : FnOk P fn) {B : Nat} {w0 : World} {call : CallT} (hc : CallOk P B w0 call) {ops : Array Oper} {fr : Fr} {o : Oper} {s s' : ST} {r : OV}
    (h : opVal P fn call ops fr.env o s = some (r, s')) (fr_ : s.Free) {π : PMap} {w : World} {a : Act} (R : Rel B w0 π s.heap w) (F : FRel π fr a) {i : Nat} (hi : ops[i]? = some o) {Q : Exit → Act → World → Prop} {K : Act → World → Prop}
    (k : ∀ π' w', π.le π' → Rel B w0 π' s'.heap w' → OVK π' a o Q K w' r) : wpOp P ops Q i K a w := by
  have := opVal_wp ok hc h fr_ R F k
  unfold wpOp
  simp only [hi]
  split
  · rename_i hw; rw [if_pos hw] at this; exact .inl this
  · rename_i hw; rw [if_neg hw] at this; exact this

/-! ### a region in the order of the text -/
def SRel (π : PMap) : SR → Exit → Act → Prop
  | .next f, .normal, a => FRel π f a
  | .panic v f, .panic chain, a => PanicsWith π v chain ∧ FRel π f a
  | _, _, _ => False
theorem FRel.defer {π : PMap} {fr : Fr} {a : Act} (h : FRel π fr a) {d d' : Deferred} (hd : DRel π d d') : FRel π { fr with defs := d :: fr.defs } { a with defers := d' :: a.defers } := by
  refine ⟨h.size, h.env, by simp [h.defs.1], fun i x hx => ?_⟩
  cases i with
  | zero => simp at hx; subst hx; exact ⟨d', by simp, hd⟩
  | succ i => simp at hx; obtain ⟨y, e, r⟩ := h.defs.2 i x hx; exact ⟨y, by simpa using e, r⟩
theorem evalOps_sound {P : Program} {fn : FnTab} (ok : FnOk P fn) {B : Nat} {w0 : World} {call : CallT} (hc : CallOk P B w0 call) (hm : CallMono call) {ops : Array Oper} {Q : Exit → Act → World → Prop} :
    ∀ (os : List Oper) (k : Nat) (fr : Fr) (s s' : ST) (r : SR) (π : PMap) (w : World) (a : Act), ops.toList.drop k = os → evalOps P fn call ops os fr s = some (r, s') → s.Free → Rel B w0 π s.heap w → FRel π fr a →
      (∀ π' w' a' e, π.le π' → Rel B w0 π' s'.heap w' → SRel π' r e a' → Q e a' w') → wpOps P ops Q (List.range' k os.length) a w
  | [], k, fr, s, s', r, π, w, a, hd, h, fr_, R, F, kk => by
    obtain ⟨rfl, rfl⟩ := ret_some (show AM.ret (SR.next fr) s = some (r, s') from h)
    exact kk π w a .normal (PMap.le.refl π) R F
  | o :: os, k, fr, s, s', r, π, w, a, hd, h, fr_, R, F, kk => by
    have hi : ops[k]? = some o := by
      have := congrArg (·[0]?) hd
      simpa using this
    have hd' : ops.toList.drop (k + 1) = os := by
      have := congrArg List.tail hd
      simpa using this
    simp only [List.length_cons, List.range'_succ]
    rw [wpOps_cons]
    have hh := AM.andThen_some (show AM.andThen _ _ s = some (r, s') from h); clear h; obtain ⟨x, s1, h1, h⟩ := hh
    have hh := AM.andThen_some h1; clear h1; obtain ⟨v, s2, h1, h2⟩ := hh
    have fr2 := (mono_opVal hm ops _ o).free h1 fr_
    refine opVal_sound ok hc h1 fr_ R F hi ?_
    intro π' w' hle R'
    cases v with
    | val v =>
      intro v' hv
      have hh := AM.andThen_some h2; clear h2; obtain ⟨f, s3, h3, h2⟩ := hh
      obtain ⟨hf, rfl⟩ := ofOption_some h3
      obtain ⟨rfl, rfl⟩ := ret_some h2
      exact evalOps_sound ok hc hm os (k + 1) f _ s' r π' w' _ hd' h fr2 R' ((F.mono hle).put hf hv) (fun π2 w2 a2 e2 hle2 R2 S2 => kk π2 w2 a2 e2 (hle.trans hle2) R2 S2)
    | panic v =>
      intro chain hp
      obtain ⟨rfl, rfl⟩ := ret_some (show AM.ret (SR.panic v fr) s2 = some (x, s1) from h2)
      obtain ⟨rfl, rfl⟩ := ret_some h
      exact kk π' w' a (.panic chain) hle R' ⟨hp, F.mono hle⟩
    | defer d =>
      intro d' hdr
      have hh := AM.andThen_some h2; clear h2; obtain ⟨f, s3, h3, h2⟩ := hh
      obtain ⟨hf, rfl⟩ := ofOption_some h3
      obtain ⟨rfl, rfl⟩ := ret_some h2
      exact evalOps_sound ok hc hm os (k + 1) f _ s' r π' w' _ hd' h fr2 R' (((F.mono hle).defer hdr).put hf (undef_rel _)) (fun π2 w2 a2 e2 hle2 R2 S2 => kk π2 w2 a2 e2 (hle.trans hle2) R2 S2)
end Go.Proofs.YtgpfgcbolinncaaGreat.Abs
set_option linter.unusedVariables false
set_option linter.unusedSimpArgs false
namespace Go.Proofs.YtgpfgcbolinncaaGreat.Abs
open Go Go.RowKit

/-! ### which operations stand before which -/
def maskOf (masks : List Nat) : List Edge → Nat
  | [] => 0
  | e :: r => if Region.binds .any e then maskOf masks r ||| (2 ^ e.on ||| masks.getD e.on 0) else maskOf masks r
def masksGo : List Oper → List Nat → List Nat
  | [], acc => acc
  | o :: r, acc => masksGo r (acc ++ [maskOf acc o.after.toList])
def masksOf (ops : Array Oper) : List Nat := masksGo ops.toList []
def edgesBack : Nat → List Oper → Bool
  | _, [] => true
  | i, o :: r => o.after.toList.all (fun e => !Region.binds .any e || decide (e.on < i)) && edgesBack (i + 1) r

structure OD where
  dst : Option Tmp
  v : Value
  d : List (Nat × Option AObj)
  k : Nat
def gsum {β : Type} (f : OD → List β) (p : Nat → Bool) : Nat → List OD → List β
  | _, [] => []
  | i, x :: r => gsum f p (i + 1) r ++ (if p i then f x else [])
def dsum (p : Nat → Bool) (i : Nat) (ods : List OD) : List (Nat × Option AObj) := gsum OD.d p i ods
def OD.e (x : OD) : List (Nat × Value) := match x.dst with | some d => [(d, x.v)] | none => []
def heapAt (h : Heap) (ods : List OD) (p : Nat → Bool) : Heap := h.sets (dsum p 0 ods)
def subST (s : ST) (n i : Nat) (h : Heap) : ST := { heap := h, base := s.base + (s.str + 1) * (s.ctr + i), str := (s.str + 1) * n - 1, ctr := 0, jr := [] }

inductive DrawR where
  | done (ods : List OD) (fr : Fr)
  | pan (ods : List OD) (v : Value) (d : List (Nat × Option AObj)) (k : Nat) (fr : Fr)
def drawGo (P : Program) (fn : FnTab) (call : CallT) (ops : Array Oper) (masks : List Nat) (s : ST) (n : Nat) : List Oper → List OD → Fr → Option DrawR
  | [], ods, fr => some (.done ods fr)
  | o :: r, ods, fr =>
    match opVal P fn call ops fr.env o (subST s n ods.length (heapAt s.heap ods (masks.getD ods.length 0).testBit)) with
    | some (.val v, s') => match putF fr o.dst v with
      | some fr' => drawGo P fn call ops masks s n r (ods ++ [⟨o.dst, v, s'.jr, s'.ctr⟩]) fr'
      | none => none
    | some (.panic v, s') => some (.pan ods v s'.jr s'.ctr fr)
    | _ => none

def allB : Nat → Bool := fun _ => true

/-! ### the masks -/
theorem testBit_maskOf {masks : List Nat} {j : Nat} : ∀ (es : List Edge), (maskOf masks es).testBit j = true ↔ ∃ e ∈ es, Region.binds .any e = true ∧ (j = e.on ∨ (masks.getD e.on 0).testBit j = true)
  | [] => by simp [maskOf]
  | e :: r => by
    unfold maskOf
    have ih := testBit_maskOf (masks := masks) (j := j) r
    split
    · rename_i hb
      rw [Nat.testBit_or, Nat.testBit_or, Nat.testBit_two_pow, Bool.or_eq_true, Bool.or_eq_true, ih]
      constructor
      · rintro (⟨e', a, b, c⟩ | h | h)
        · exact ⟨e', by simp [a], b, c⟩
        · exact ⟨e, by simp, hb, .inl (by simp at h; exact h.symm)⟩
        · exact ⟨e, by simp, hb, .inr h⟩
      · rintro ⟨e', a, b, c⟩
        rcases List.mem_cons.1 a with rfl | a
        · rcases c with c | c
          · right; left; simp [c]
          · right; right; exact c
        · left; exact ⟨e', a, b, c⟩
    · rename_i hb
      rw [ih]
      constructor
      · rintro ⟨e', a, b, c⟩; exact ⟨e', by simp [a], b, c⟩
      · rintro ⟨e', a, b, c⟩
        rcases List.mem_cons.1 a with rfl | a
        · exact absurd b hb
        · exact ⟨e', a, b, c⟩
theorem masksGo_spec : ∀ (os : List Oper) (acc : List Nat), ∃ t, masksGo os acc = acc ++ t ∧ t.length = os.length ∧ ∀ (i : Nat) (o : Oper), os[i]? = some o → (masksGo os acc)[acc.length + i]? = some (maskOf ((masksGo os acc).take (acc.length + i)) o.after.toList)
  | [], acc => ⟨[], by simp [masksGo], rfl, by simp⟩
  | o :: r, acc => by
    obtain ⟨t, h1, h2, h3⟩ := masksGo_spec r (acc ++ [maskOf acc o.after.toList])
    refine ⟨maskOf acc o.after.toList :: t, by simp [masksGo, h1], by simp [h2], fun i o' ho => ?_⟩
    simp only [masksGo]
    cases i with
    | zero =>
      simp at ho; subst ho
      rw [h1]
      simp
    | succ i =>
      simp at ho
      have := h3 i o' ho
      simp only [List.length_append, List.length_cons, List.length_nil, Nat.zero_add] at this
      rw [show acc.length + (i + 1) = acc.length + 1 + i by omega]
      exact this
theorem masks_at {ops : Array Oper} {i : Nat} {o : Oper} (h : ops[i]? = some o) : (masksOf ops).getD i 0 = maskOf ((masksOf ops).take i) o.after.toList := by
  obtain ⟨t, h1, h2, h3⟩ := masksGo_spec ops.toList []
  have := h3 i o (by simpa using h)
  simp only [List.length_nil, Nat.zero_add] at this
  unfold masksOf
  simp [List.getD, this]
theorem mask_bit {ops : Array Oper} {i j : Nat} {o : Oper} (h : ops[i]? = some o) (hb : ((masksOf ops).getD i 0).testBit j = true) :
    ∃ e ∈ o.after.toList, Region.binds .any e = true ∧ (j = e.on ∨ (e.on < i ∧ ((masksOf ops).getD e.on 0).testBit j = true)) := by
  rw [masks_at h] at hb
  obtain ⟨e, a, b, c⟩ := (testBit_maskOf _).1 hb
  refine ⟨e, a, b, ?_⟩
  rcases c with c | c
  · exact .inl c
  · right
    by_cases hl : e.on < i
    · refine ⟨hl, ?_⟩
      simpa [List.getD, List.getElem?_take, hl] using c
    · simp [List.getD, List.getElem?_take, hl] at c
theorem mask_none {ops : Array Oper} {i : Nat} (h : ops[i]? = none) (j : Nat) : ((masksOf ops).getD i 0).testBit j = false := by
  obtain ⟨t, h1, h2, h3⟩ := masksGo_spec ops.toList []
  have hl : (masksOf ops).length = ops.size := by unfold masksOf; rw [h1]; simp [h2]
  have : (masksOf ops)[i]? = none := by
    rw [List.getElem?_eq_none_iff, hl]
    exact Array.getElem?_eq_none_iff.1 h
  simp [List.getD, this]
theorem edgesBack_spec : ∀ (os : List Oper) (k : Nat), edgesBack k os = true → ∀ (i : Nat) (o : Oper), os[i]? = some o → ∀ e ∈ o.after.toList, Region.binds .any e = true → e.on < k + i
  | [], k, h, i, o, ho, e, he, hb => by simp at ho
  | x :: r, k, h, i, o, ho, e, he, hb => by
    simp only [edgesBack, Bool.and_eq_true, List.all_eq_true] at h
    cases i with
    | zero =>
      simp at ho; subst ho
      have := h.1 e he
      simp [hb] at this
      omega
    | succ i =>
      simp at ho
      have := edgesBack_spec r (k + 1) h.2 i o ho e he hb
      omega
theorem mask_lt {ops : Array Oper} (hb : edgesBack 0 ops.toList = true) : ∀ (i j : Nat), ((masksOf ops).getD i 0).testBit j = true → j < i := by
  intro i
  induction i using Nat.strongRecOn with
  | _ i ih =>
    intro j hj
    cases ho : ops[i]? with
    | none => rw [mask_none ho] at hj; cases hj
    | some o =>
      obtain ⟨e, a, b, c⟩ := mask_bit ho hj
      have hlt := edgesBack_spec ops.toList 0 hb i o (by simpa using ho) e a b
      rcases c with rfl | ⟨c1, c2⟩
      · omega
      · have := ih e.on c1 j c2; omega
theorem mask_trans {ops : Array Oper} (hb : edgesBack 0 ops.toList = true) : ∀ (i j k : Nat), ((masksOf ops).getD i 0).testBit j = true → ((masksOf ops).getD j 0).testBit k = true → ((masksOf ops).getD i 0).testBit k = true := by
  intro i
  induction i using Nat.strongRecOn with
  | _ i ih =>
    intro j k hj hk
    cases ho : ops[i]? with
    | none => rw [mask_none ho] at hj; cases hj
    | some o =>
      obtain ⟨e, a, b, c⟩ := mask_bit ho hj
      have hlt := edgesBack_spec ops.toList 0 hb i o (by simpa using ho) e a b
      rw [masks_at ho, testBit_maskOf]
      refine ⟨e, a, b, .inr ?_⟩
      have hl : e.on < i := by omega
      simp only [List.getD, List.getElem?_take, hl, if_true]
      rcases c with rfl | ⟨c1, c2⟩
      · simpa [List.getD] using hk
      · have := ih e.on c1 j k c2 hk
        simpa [List.getD] using this
/-- what is listed holds all that stands before it -/
def Closed (ops : Array Oper) (listed : Array Bool) : Prop := ∀ i o, ops[i]? = some o → listed.getD i false = true → ∀ e ∈ o.after, Region.binds .any e = true → listed.getD e.on false = true
theorem closed_mask {ops : Array Oper} (hb : edgesBack 0 ops.toList = true) {listed : Array Bool} (hc : Closed ops listed) : ∀ (i j : Nat) (o : Oper), ops[i]? = some o → (∀ e ∈ o.after, Region.binds .any e = true → listed.getD e.on false = true) →
    ((masksOf ops).getD i 0).testBit j = true → listed.getD j false = true := by
  intro i
  induction i using Nat.strongRecOn with
  | _ i ih =>
    intro j o ho hall hj
    obtain ⟨e, a, b, c⟩ := mask_bit ho hj
    have he := hall e (by simpa using a) b
    rcases c with rfl | ⟨c1, c2⟩
    · exact he
    · cases ho2 : ops[e.on]? with
      | none => rw [mask_none ho2] at c2; cases c2
      | some o2 => exact ih e.on c1 j o2 ho2 (fun e2 he2 hb2 => hc e.on o2 ho2 he e2 he2 hb2) c2
end Go.Proofs.YtgpfgcbolinncaaGreat.Abs
