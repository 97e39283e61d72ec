/- Rules for the weakest precondition: what simp knows; a call's own memory. -/
import Derived.Test.YtgpfgcbolinncaaGreatM2
set_option linter.unusedVariables false
set_option linter.unusedSimpArgs false
namespace Go.Proofs.YtgpfgcbolinncaaGreat.Abs
open Go Go.RowKit

/-! ### the same, in a shape in which simp does not look at what comes later -/
structure Tag {α : Sort _} (k : α) : Type where
section
variable (P : Program)
def wO {α : Type} (o : Option (α × ST)) (k : α → ST → Prop) (_t : Tag k := ⟨⟩) : Prop := xO o k
def wV (o : Option Value) (k : Value → Prop) (_t : Tag k := ⟨⟩) : Prop := xV o k
def wPut (o : Option Fr) (k : Fr → Prop) (_t : Tag k := ⟨⟩) : Prop := xPut o k
def wG (g : Option Bool) (k l : Prop) (_t : Tag k := ⟨⟩) (_u : Tag l := ⟨⟩) : Prop := xG g k l
def wB (g : Option Bool) (k l : Prop) (_t : Tag k := ⟨⟩) (_u : Tag l := ⟨⟩) : Prop := xB g k l
def wIf (c : Prop) [Decidable c] (k l : Prop) (_t : Tag k := ⟨⟩) (_u : Tag l := ⟨⟩) : Prop := if c then k else l
def wSR (k : Fr → ST → Prop) (Q : SR → ST → Prop) (r : SR) (s : ST) (_t : Tag k := ⟨⟩) (_u : Tag Q := ⟨⟩) : Prop := xSR k Q r s
def wRg (Q : CE → Fr → ST → Prop) (r : SR) (s : ST) (_t : Tag Q := ⟨⟩) : Prop := xRg Q r s
def wNext (k : Fr → ST → Prop) (Q : CE → Fr → ST → Prop) (e : CE) (f : Fr) (s : ST) (_t : Tag k := ⟨⟩) (_u : Tag Q := ⟨⟩) : Prop := xNext k Q e f s
def wCR (dst : Option Tmp) (fr : Fr) (Q : SR → ST → Prop) (c : CRes) (s : ST) (_t : Tag Q := ⟨⟩) : Prop := xCR dst fr Q c s
def wDoes (f : FuncId) (args : Array Value) (s : ST) (Q : CRes → ST → Prop) (_t : Tag Q := ⟨⟩) : Prop := Does P f args s Q
def wCall (dst : Option Tmp) (fr : Fr) (p : Option (FuncId × Array Value × Array Value)) (args : List Value) (s : ST) (Q : SR → ST → Prop) (_t : Tag Q := ⟨⟩) : Prop := xCall P dst fr Q p args s
def wConv (a d : TypeId) (x : Value) (k : Value → Prop) (_t : Tag k := ⟨⟩) : Prop := xConv P a d x k
def wBin (op : BinOp) (t : TypeId) (xo yo : Operand) (x y : Value) (k : Value → Prop) (_t : Tag k := ⟨⟩) : Prop := xBin P op t xo yo x y k
def wOp (o : Oper) (fr : Fr) (s : ST) (Q : SR → ST → Prop) (_t : Tag Q := ⟨⟩) (_u : Tag o := ⟨⟩) : Prop := xOp P o fr s Q
def wOps (ops : Array Oper) (os : List Oper) (fr : Fr) (s : ST) (Q : SR → ST → Prop) (_t : Tag Q := ⟨⟩) (_u : Tag os := ⟨⟩) (_w : Tag ops := ⟨⟩) : Prop := xOps P ops os fr s Q
def wDraw (ops : Array Oper) (fr : Fr) (s : ST) (Q : SR → ST → Prop) (_t : Tag Q := ⟨⟩) (_w : Tag ops := ⟨⟩) : Prop := xDraw P ops fr s Q
def wCode (c : Code) (fr : Fr) (s : ST) (Q : CE → Fr → ST → Prop) (_t : Tag Q := ⟨⟩) (_u : Tag c := ⟨⟩) : Prop := xCode P c fr s Q
def wEnd (rs : Array ResultVar) (Q : CRes → ST → Prop) (e : CE) (fr : Fr) (s : ST) (_t : Tag Q := ⟨⟩) (_u : Tag rs := ⟨⟩) : Prop := xEnd P rs Q e fr s
def wSet (dst : Option Tmp) (v : Value) (fr : Fr) (s : ST) (Q : SR → ST → Prop) (_t : Tag Q := ⟨⟩) : Prop := xPut (putF fr dst v) fun f => Q (.next f) s
end

section
variable {P : Program}
/-! ### code -/
@[simp] theorem wc_skip (fr : Fr) (s : ST) (Q : CE → Fr → ST → Prop) : wCode P .skip fr s Q = Q .normal fr s := (rfl)
@[simp] theorem wc_region (id : Nat) (l : List Oper) (fr : Fr) (s : ST) (Q : CE → Fr → ST → Prop) : wCode P (.region id l.toArray false) fr s Q = wOps P l.toArray l fr s (wRg Q) := (rfl)
@[simp] theorem wc_draw (id : Nat) (ops : Array Oper) (fr : Fr) (s : ST) (Q : CE → Fr → ST → Prop) : wCode P (.region id ops true) fr s Q = wDraw P ops fr s (wRg Q) := (rfl)
@[simp] theorem wc_seq (a b : Code) (fr : Fr) (s : ST) (Q : CE → Fr → ST → Prop) : wCode P (.seq a b) fr s Q = wCode P a fr s (wNext (fun f s' => wCode P b f s' Q) Q) := (rfl)
@[simp] theorem wc_cond (c : Operand) (x y : Code) (fr : Fr) (s : ST) (Q : CE → Fr → ST → Prop) : wCode P (.cond c x y) fr s Q = wB (boolOf (evalV fr.env c)) (wCode P x fr s Q) (wCode P y fr s Q) := (rfl)
@[simp] theorem wc_block (id : Nat) (c : Code) (fr : Fr) (s : ST) (Q : CE → Fr → ST → Prop) : wCode P (.block id c) fr s Q = wCode P c fr s fun e f s' => Q (inBlk id e) f s' := (rfl)
@[simp] theorem wc_exit (id : Nat) (fr : Fr) (s : ST) (Q : CE → Fr → ST → Prop) : wCode P (.exit id) fr s Q = Q (.exit id) fr s := (rfl)
@[simp] theorem wc_ret (fr : Fr) (s : ST) (Q : CE → Fr → ST → Prop) : wCode P .ret fr s Q = Q .ret fr s := (rfl)
@[simp] theorem wB_true (k l : Prop) : wB (some true) k l = k := (rfl)
@[simp] theorem wB_false (k l : Prop) : wB (some false) k l = l := (rfl)
@[simp] theorem wB_not (b : Bool) (k l : Prop) : wB (some (!b)) k l = wB (some b) l k := by cases b <;> rfl
theorem wB_cases {b : Bool} {k l : Prop} (h1 : b = true → k) (h2 : b = false → l) : wB (some b) k l := by
  cases b with
  | true => exact h1 rfl
  | false => exact h2 rfl
theorem wB_dec (c : Prop) [Decidable c] (k l : Prop) : wB (some (decide c)) k l = wIf c k l := by
  unfold wB wIf
  by_cases h : c
  · simp [h, xB]
  · simp [h, xB]
theorem wB_ite (b : Bool) (k l : Prop) : wB (some b) k l = wIf (b = true) k l := by cases b <;> rfl
theorem wIf_pos {c : Prop} [Decidable c] (h : c) (k l : Prop) : wIf c k l = k := by unfold wIf; rw [if_pos h]
theorem wIf_neg {c : Prop} [Decidable c] (h : ¬ c) (k l : Prop) : wIf c k l = l := by unfold wIf; rw [if_neg h]
@[simp] theorem wIf_true (k l : Prop) : wIf True k l = k := wIf_pos trivial k l
@[simp] theorem wIf_false (k l : Prop) : wIf False k l = l := wIf_neg (by simp) k l
@[simp] theorem wNext_normal (k : Fr → ST → Prop) (Q : CE → Fr → ST → Prop) (f : Fr) (s : ST) : wNext k Q .normal f s = k f s := (rfl)
@[simp] theorem wNext_exit (k : Fr → ST → Prop) (Q : CE → Fr → ST → Prop) (i : Nat) (f : Fr) (s : ST) : wNext k Q (.exit i) f s = Q (.exit i) f s := (rfl)
@[simp] theorem wNext_ret (k : Fr → ST → Prop) (Q : CE → Fr → ST → Prop) (f : Fr) (s : ST) : wNext k Q .ret f s = Q .ret f s := (rfl)
@[simp] theorem wNext_panic (k : Fr → ST → Prop) (Q : CE → Fr → ST → Prop) (v : Value) (f : Fr) (s : ST) : wNext k Q (.panic v) f s = Q (.panic v) f s := (rfl)
@[simp] theorem wRg_next (Q : CE → Fr → ST → Prop) (f : Fr) (s : ST) : wRg Q (.next f) s = Q .normal f s := (rfl)
@[simp] theorem wRg_panic (Q : CE → Fr → ST → Prop) (v : Value) (f : Fr) (s : ST) : wRg Q (.panic v f) s = Q (.panic v) f s := (rfl)
@[simp] theorem wSR_next (k : Fr → ST → Prop) (Q : SR → ST → Prop) (f : Fr) (s : ST) : wSR k Q (.next f) s = k f s := (rfl)
@[simp] theorem wSR_panic (k : Fr → ST → Prop) (Q : SR → ST → Prop) (v : Value) (f : Fr) (s : ST) : wSR k Q (.panic v f) s = Q (.panic v f) s := (rfl)
/-! ### operations -/
@[simp] theorem wo_nil (ops : Array Oper) (fr : Fr) (s : ST) (Q : SR → ST → Prop) : wOps P ops [] fr s Q = Q (.next fr) s := (rfl)
@[simp] theorem wo_cons (ops : Array Oper) (dst : Option Tmp) (op : Op) (ty : TypeId) (pos : String) (af : Array Edge) (r : List Oper) (fr : Fr) (s : ST) (Q : SR → ST → Prop) :
    wOps P ops (⟨dst, op, ty, pos, af, none⟩ :: r) fr s Q = wOp P ⟨dst, op, ty, pos, af, none⟩ fr s (wSR (fun f s' => wOps P ops r f s' Q) Q) := (rfl)
@[simp] theorem wo_guard (ops : Array Oper) (dst : Option Tmp) (op : Op) (ty : TypeId) (pos : String) (af : Array Edge) (g : Nat × Bool) (r : List Oper) (fr : Fr) (s : ST) (Q : SR → ST → Prop) :
    wOps P ops (⟨dst, op, ty, pos, af, some g⟩ :: r) fr s Q = wG (guardOk ops fr.env ⟨dst, op, ty, pos, af, some g⟩) (wOp P ⟨dst, op, ty, pos, af, some g⟩ fr s (wSR (fun f s' => wOps P ops r f s' Q) Q))
      (wSet dst undef fr s (wSR (fun f s' => wOps P ops r f s' Q) Q)) := (rfl)
@[simp] theorem wG_true (k l : Prop) : wG (some true) k l = k := (rfl)
@[simp] theorem wG_false (k l : Prop) : wG (some false) k l = l := (rfl)
@[simp] theorem wG_not (b : Bool) (k l : Prop) : wG (some (!b)) k l = wG (some b) l k := by cases b <;> rfl
theorem wG_cases {b : Bool} {k l : Prop} (h1 : b = true → k) (h2 : b = false → l) : wG (some b) k l := by
  cases b with
  | true => exact h1 rfl
  | false => exact h2 rfl
theorem wG_ite (b : Bool) (k l : Prop) : wG (some b) k l = wIf (b = true) k l := by cases b <;> rfl
@[simp] theorem wO_eq {α : Type} (a : α) (s : ST) (k : α → ST → Prop) : wO (some (a, s)) k = k a s := (rfl)
@[simp] theorem wV_eq (v : Value) (k : Value → Prop) : wV (some v) k = k v := (rfl)
@[simp] theorem wSet_none (v : Value) (fr : Fr) (s : ST) (Q : SR → ST → Prop) : wSet none v fr s Q = Q (.next fr) s := (rfl)
@[simp] theorem wSet_some {n d : Nat} (h : d < n) (v : Value) (env : Trie Value) (defs : List Deferred) (s : ST) (Q : SR → ST → Prop) : wSet (some d) v ⟨n, env, defs⟩ s Q = Q (.next ⟨n, env.set d v, defs⟩) s := by
  unfold wSet
  simp [putF, h, xPut]
@[simp] theorem wCR_ret (dst : Option Tmp) (fr : Fr) (Q : SR → ST → Prop) (v : Value) (s : ST) : wCR dst fr Q (.ret v) s = wSet dst v fr s Q := (rfl)
@[simp] theorem wCR_panic (dst : Option Tmp) (fr : Fr) (Q : SR → ST → Prop) (v : Value) (s : ST) : wCR dst fr Q (.panic v) s = Q (.panic v fr) s := (rfl)
@[simp] theorem wCall_eq (dst : Option Tmp) (fr : Fr) (Q : SR → ST → Prop) (g : FuncId) (a c : Array Value) (args : List Value) (s : ST) : wCall P dst fr (some (g, a, c)) args s Q = wDoes P g (a ++ args.toArray ++ c) s (wCR dst fr Q) := (rfl)
theorem bin_other {op : BinOp} {t : TypeId} {xo yo : Operand} {x y : Value} {k : Value → Prop} (h : ∀ a b, ¬ (x = .float .f64 a ∧ y = .float .f64 b)) : wBin P op t xo yo x y k = wV (binA P op t xo yo x y) k := by
  unfold wBin xBin
  split
  · exact absurd ⟨rfl, rfl⟩ (h _ _)
  · rfl
@[simp] theorem wBin_int (op : BinOp) (t : TypeId) (xo yo : Operand) (k1 k2 : IntKind) (a b : Int) (k : Value → Prop) : wBin P op t xo yo (.int k1 a) (.int k2 b) k = wV (binA P op t xo yo (.int k1 a) (.int k2 b)) k := (rfl)
@[simp] theorem wBin_bool (op : BinOp) (t : TypeId) (xo yo : Operand) (a b : Bool) (k : Value → Prop) : wBin P op t xo yo (.bool a) (.bool b) k = wV (binA P op t xo yo (.bool a) (.bool b)) k := (rfl)
@[simp] theorem wBin_str (op : BinOp) (t : TypeId) (xo yo : Operand) (a b : ByteArray) (k : Value → Prop) : wBin P op t xo yo (.string a) (.string b) k = wV (binA P op t xo yo (.string a) (.string b)) k := (rfl)
@[simp] theorem wBin_agg (op : BinOp) (t : TypeId) (xo yo : Operand) (a b : Array Value) (k : Value → Prop) : wBin P op t xo yo (.agg a) (.agg b) k = wV (binA P op t xo yo (.agg a) (.agg b)) k := (rfl)
@[simp] theorem wBin_nilI (op : BinOp) (t : TypeId) (xo yo : Operand) (x : Value) (k : Value → Prop) : wBin P op t xo yo x .nilIface k = wV (binA P op t xo yo x .nilIface) k := bin_other (by simp)
@[simp] theorem wBin_nilP (op : BinOp) (t : TypeId) (xo yo : Operand) (x : Value) (k : Value → Prop) : wBin P op t xo yo x (.pointer none) k = wV (binA P op t xo yo x (.pointer none)) k := bin_other (by simp)
theorem valO_wp {o : Option Value} {dst : Option Tmp} {fr : Fr} {s : ST} {Q : SR → ST → Prop} : xO (valO o s) (xAR dst fr Q) = wV o (fun v => wSet dst v fr s Q) := by
  cases o with
  | none => rfl
  | some v => rfl
theorem valOf_wp {m : AM Value} {dst : Option Tmp} {fr : Fr} {s : ST} {Q : SR → ST → Prop} : xO (valOf m s) (xAR dst fr Q) = wO (m s) (fun v s' => wSet dst v fr s' Q) := by
  unfold valOf AM.andThen wO
  cases m s with
  | none => rfl
  | some v => rfl
theorem skipOf_wp {m : AM Unit} {dst : Option Tmp} {fr : Fr} {s : ST} {Q : SR → ST → Prop} : xO (skipOf m s) (xAR dst fr Q) = wO (m s) (fun _ s' => wSet dst undef fr s' Q) := by
  unfold skipOf AM.andThen wO
  cases m s with
  | none => rfl
  | some v => rfl
section
variable (dst : Option Tmp) (ty : TypeId) (pos : String) (af : Array Edge) (g : Option (Nat × Bool)) (fr : Fr) (s : ST) (Q : SR → ST → Prop)
@[simp] theorem wOp_move (x : Operand) : wOp P ⟨dst, .move x, ty, pos, af, g⟩ fr s Q = wSet dst (evalV fr.env x) fr s Q := (rfl)
@[simp] theorem wOp_assign (x : Operand) : wOp P ⟨dst, .assign x, ty, pos, af, g⟩ fr s Q = wSet dst (evalV fr.env x) fr s Q := (rfl)
@[simp] theorem wOp_makeFunc (f : Fn) (a b : Array Operand) : wOp P ⟨dst, .makeFunc f a b, ty, pos, af, g⟩ fr s Q = wSet dst (.func f (argsV (evalV fr.env) a).toArray (argsV (evalV fr.env) b).toArray) fr s Q := (rfl)
@[simp] theorem wOp_pick (c a b : Operand) : wOp P ⟨dst, .pick c a b, ty, pos, af, g⟩ fr s Q = wV (pickA (evalV fr.env c) (evalV fr.env a) (evalV fr.env b)) fun v => wSet dst v fr s Q := valO_wp
@[simp] theorem wOp_build (t : TypeId) (ps : Array (Nat × Operand)) : wOp P ⟨dst, .build t ps, ty, pos, af, g⟩ fr s Q = wV (buildA P t (partsV (evalV fr.env) ps)) fun v => wSet dst v fr s Q := valO_wp
@[simp] theorem wOp_nilCheck (x : Operand) : wOp P ⟨dst, .nilCheck x, ty, pos, af, g⟩ fr s Q = wV (nilCheckA (evalV fr.env x)) fun v => wSet dst v fr s Q := valO_wp
@[simp] theorem wOp_unOp (op : UnOp) (t : TypeId) (x : Operand) : wOp P ⟨dst, .unOp op t x, ty, pos, af, g⟩ fr s Q = wV (unA P op (evalV fr.env x)) fun v => wSet dst v fr s Q := valO_wp
@[simp] theorem wOp_makeInterface (t : TypeId) (x : Operand) : wOp P ⟨dst, .makeInterface t x, ty, pos, af, g⟩ fr s Q = wV (makeIfaceA P t (evalV fr.env x)) fun v => wSet dst v fr s Q := valO_wp
@[simp] theorem wOp_slice (t : TypeId) (x : Operand) (lo hi mx : Option Operand) : wOp P ⟨dst, .slice t x lo hi mx, ty, pos, af, g⟩ fr s Q = wV (sliceA P t (evalV fr.env x) (lo.map (evalV fr.env)) (hi.map (evalV fr.env)) (mx.map (evalV fr.env))) fun v => wSet dst v fr s Q := valO_wp
@[simp] theorem wOp_fieldAddr (t : TypeId) (x : Operand) (f : Nat) : wOp P ⟨dst, .fieldAddr t x f, ty, pos, af, g⟩ fr s Q = wV (fieldAddrA P t (evalV fr.env x) f) fun v => wSet dst v fr s Q := valO_wp
@[simp] theorem wOp_field (t : TypeId) (x : Operand) (f : Nat) : wOp P ⟨dst, .field t x f, ty, pos, af, g⟩ fr s Q = wV (fieldA P t (evalV fr.env x) f) fun v => wSet dst v fr s Q := valO_wp
@[simp] theorem wOp_indexAddr (t : TypeId) (x i : Operand) : wOp P ⟨dst, .indexAddr t x i, ty, pos, af, g⟩ fr s Q = wV (indexAddrA P t (evalV fr.env x) (evalV fr.env i)) fun v => wSet dst v fr s Q := valO_wp
@[simp] theorem wOp_index (t : TypeId) (x i : Operand) : wOp P ⟨dst, .index t x i, ty, pos, af, g⟩ fr s Q = wV (indexA P t (evalV fr.env x) (evalV fr.env i)) fun v => wSet dst v fr s Q := valO_wp
@[simp] theorem wOp_typeAssert (x : Operand) (xt a : TypeId) (ok : Bool) : wOp P ⟨dst, .typeAssert x xt a ok, ty, pos, af, g⟩ fr s Q = wV (assertA P (evalV fr.env x) xt a ok) fun v => wSet dst v fr s Q := valO_wp
@[simp] theorem wOp_extract (t : Operand) (i : Nat) : wOp P ⟨dst, .extract t i, ty, pos, af, g⟩ fr s Q = wV (extractA (evalV fr.env t) i) fun v => wSet dst v fr s Q := valO_wp
@[simp] theorem wOp_alloc (e : TypeId) : wOp P ⟨dst, .alloc e, ty, pos, af, g⟩ fr s Q = wO (allocA P e s) fun v s' => wSet dst v fr s' Q := valOf_wp
@[simp] theorem wOp_box (e : TypeId) (x : Operand) : wOp P ⟨dst, .box e x, ty, pos, af, g⟩ fr s Q = wO (boxA e (evalV fr.env x) s) fun v s' => wSet dst v fr s' Q := valOf_wp
@[simp] theorem wOp_buildSlice (t : TypeId) (n : Nat) (ps : Array (Nat × Operand)) : wOp P ⟨dst, .buildSlice t n ps, ty, pos, af, g⟩ fr s Q = wO (buildSliceA P t n (partsV (evalV fr.env) ps) s) fun v s' => wSet dst v fr s' Q := valOf_wp
@[simp] theorem wOp_load (t : TypeId) (a : Operand) : wOp P ⟨dst, .load t a, ty, pos, af, g⟩ fr s Q = wO (loadA P t (evalV fr.env a) s) fun v s' => wSet dst v fr s' Q := valOf_wp
@[simp] theorem wOp_store (t : TypeId) (a x : Operand) : wOp P ⟨dst, .store t a x, ty, pos, af, g⟩ fr s Q = wO (storeA P t (evalV fr.env a) (evalV fr.env x) s) fun _ s' => wSet dst undef fr s' Q := skipOf_wp
@[simp] theorem wOp_makeMap (t : TypeId) (r : Option Operand) : wOp P ⟨dst, .makeMap t r, ty, pos, af, g⟩ fr s Q = wO (makeMapA P t (r.map (evalV fr.env)) s) fun v s' => wSet dst v fr s' Q := valOf_wp
@[simp] theorem wOp_makeSlice (t : TypeId) (l c : Operand) : wOp P ⟨dst, .makeSlice t l c, ty, pos, af, g⟩ fr s Q = wO (makeSliceA P t (evalV fr.env l) (evalV fr.env c) s) fun v s' => wSet dst v fr s' Q := valOf_wp
@[simp] theorem wOp_lookup (t : TypeId) (x i : Operand) (ok : Bool) : wOp P ⟨dst, .lookup t x i ok, ty, pos, af, g⟩ fr s Q = wO (lookupA P t (evalV fr.env x) (evalV fr.env i) ok s) fun v s' => wSet dst v fr s' Q := valOf_wp
@[simp] theorem wOp_mapUpdate (t : TypeId) (m k v : Operand) : wOp P ⟨dst, .mapUpdate t m k v, ty, pos, af, g⟩ fr s Q = wO (mapUpdateA P t (evalV fr.env m) (evalV fr.env k) (evalV fr.env v) s) fun _ s' => wSet dst undef fr s' Q := skipOf_wp
@[simp] theorem wOp_range (t : TypeId) (x : Operand) : wOp P ⟨dst, .range t x, ty, pos, af, g⟩ fr s Q = wO (rangeStrA P t (evalV fr.env x) s) fun v s' => wSet dst v fr s' Q := valOf_wp
@[simp] theorem wOp_next (x : Operand) : wOp P ⟨dst, .next x true, ty, pos, af, g⟩ fr s Q = wO (nextStrA (evalV fr.env x) s) fun v s' => wSet dst v fr s' Q := valOf_wp
@[simp] theorem wOp_convert (a d : TypeId) (x : Operand) : wOp P ⟨dst, .convert a d x, ty, pos, af, g⟩ fr s Q = wIf (isFloatT P d = true) (wConv P a d (evalV fr.env x) (fun v => wSet dst v fr s Q))
    (wIf (memConv P a d = true) (wO (convM P a d (evalV fr.env x) s) (fun v s' => wSet dst v fr s' Q)) (wV (convA P a d (evalV fr.env x)) fun v => wSet dst v fr s Q)) := by
  show (if isFloatT P d = true then xConv P a d (evalV fr.env x) (fun v => xPut (putF fr dst v) fun f => Q (.next f) s) else xO ((if memConv P a d = true then valOf (convM P a d (evalV fr.env x)) else valO (convA P a d (evalV fr.env x))) s) (xAR dst fr Q)) = _
  unfold wIf wConv
  split
  · rfl
  · split
    · exact valOf_wp
    · exact valO_wp
@[simp] theorem wOp_bin (op : BinOp) (t : TypeId) (x y : Operand) (yt : TypeId) : wOp P ⟨dst, .binOp op t x y yt, ty, pos, af, g⟩ fr s Q = wBin P op t x y (evalV fr.env x) (evalV fr.env y) fun v => wSet dst v fr s Q := (rfl)
@[simp] theorem wOp_call (f : Operand) (args : Array Operand) (ts : Array TypeId) : wOp P ⟨dst, .call ⟨.value f, args, ts⟩, ty, pos, af, g⟩ fr s Q = wCall P dst fr (asFunc (evalV fr.env f)) (argsV (evalV fr.env) args) s Q := (rfl)
@[simp] theorem wOp_len (x : Operand) (t : TypeId) : wOp P ⟨dst, .call ⟨.builtin .len, #[x], #[t]⟩, ty, pos, af, g⟩ fr s Q = if (lenA P t (evalV fr.env x)).isSome = true then wV (lenA P t (evalV fr.env x)) (fun v => wSet dst v fr s Q) else wO (mapLenA P t (evalV fr.env x) s) (fun v s' => wSet dst v fr s' Q) := by
  show xO ((if (lenA P t (evalV fr.env x)).isSome = true then valO (lenA P t (evalV fr.env x)) else valOf (mapLenA P t (evalV fr.env x))) s) (xAR dst fr Q) = _
  split
  · exact valO_wp
  · exact valOf_wp
@[simp] theorem wOp_append (x y : Operand) (t : TypeId) : wOp P ⟨dst, .call ⟨.builtin .append, #[x, y], #[t, t]⟩, ty, pos, af, g⟩ fr s Q = wO (appendA P t (evalV fr.env x) (evalV fr.env y) s) fun v s' => wSet dst v fr s' Q := by
  have : builtinA P .append #[t, t].toList (argsV (evalV fr.env) #[x, y]) = valOf (appendA P t (evalV fr.env x) (evalV fr.env y)) := by
    show AM.andThen (AM.ofOption (twoArgs [t, t] [evalV fr.env x, evalV fr.env y])) _ = _
    simp only [twoArgs, if_true]
    rfl
  show xO (builtinA P .append #[t, t].toList (argsV (evalV fr.env) #[x, y]) s) (xAR dst fr Q) = _
  rw [this]
  exact valOf_wp
@[simp] theorem wOp_max (args : Array Operand) (ts : Array TypeId) : wOp P ⟨dst, .call ⟨.builtin .max, args, ts⟩, ty, pos, af, g⟩ fr s Q = wV (maxA (argsV (evalV fr.env) args)) fun v => wSet dst v fr s Q := valO_wp
@[simp] theorem wOp_min (args : Array Operand) (ts : Array TypeId) : wOp P ⟨dst, .call ⟨.builtin .min, args, ts⟩, ty, pos, af, g⟩ fr s Q = wV (minA (argsV (evalV fr.env) args)) fun v => wSet dst v fr s Q := valO_wp
@[simp] theorem wOp_clear (x : Operand) (t : TypeId) : wOp P ⟨dst, .call ⟨.builtin .clear, #[x], #[t]⟩, ty, pos, af, g⟩ fr s Q = wO (clearA P t (evalV fr.env x) s) fun _ s' => wSet dst undef fr s' Q := by
  show xO (AM.andThen (clearA P t (evalV fr.env x)) (fun _ => AM.ret (AR.val undef)) s) (xAR dst fr Q) = _
  unfold AM.andThen wO
  cases clearA P t (evalV fr.env x) s with
  | none => rfl
  | some v => rfl
@[simp] theorem wOp_panic (x : Operand) : wOp P ⟨dst, .panic x, ty, pos, af, g⟩ fr s Q = wV (panicA (evalV fr.env x)) fun v => Q (.panic v fr) s := by
  show xO (AM.andThen (AM.ofOption (panicA (evalV fr.env x))) (fun v => AM.ret (AR.panic v)) s) (xAR dst fr Q) = _
  unfold wV
  cases panicA (evalV fr.env x) with
  | none => rfl
  | some v => rfl
@[simp] theorem wOp_defer (f : Operand) (args : Array Operand) (ts : Array TypeId) : wOp P ⟨dst, .defer ⟨.value f, args, ts⟩, ty, pos, af, g⟩ fr s Q = wO (deferA noFn (evalV fr.env f) (argsV (evalV fr.env) args) s) (fun ar s' => xAR dst fr Q ar s') := (rfl)
end
@[simp] theorem wEnd_ret (rs : Array ResultVar) (Q : CRes → ST → Prop) (n : Nat) (env : Trie Value) (s : ST) : wEnd P rs Q .ret ⟨n, env, []⟩ s = wO (resultsA P rs ⟨n, env, []⟩ s) fun v s' => Q (.ret v) s' := by
  unfold wEnd xEnd wO xO
  show (∃ m r s', AM.andThen (resultsA P rs ⟨n, env, []⟩) (fun v => AM.ret (CRes.ret v)) s = some (r, s') ∧ Q r s') = _
  unfold AM.andThen
  cases resultsA P rs ⟨n, env, []⟩ s with
  | none => simp
  | some x =>
    simp only [AM.ret, Option.some.injEq, Prod.mk.injEq, eq_iff_iff]
    constructor
    · rintro ⟨_, r, s', ⟨rfl, rfl⟩, h⟩; exact h
    · intro h; exact ⟨0, _, _, ⟨rfl, rfl⟩, h⟩
@[simp] theorem wEnd_normal (rs : Array ResultVar) (Q : CRes → ST → Prop) (n : Nat) (env : Trie Value) (s : ST) : wEnd P rs Q .normal ⟨n, env, []⟩ s = wO (resultsA P rs ⟨n, env, []⟩ s) fun v s' => Q (.ret v) s' := wEnd_ret rs Q n env s
@[simp] theorem wEnd_panic (rs : Array ResultVar) (Q : CRes → ST → Prop) (n : Nat) (env : Trie Value) (s : ST) (v : Value) : wEnd P rs Q (.panic v) ⟨n, env, []⟩ s = Q (.panic v) s := by
  unfold wEnd xEnd
  show (∃ m r s', AM.ret (CRes.panic v) s = some (r, s') ∧ Q r s') = _
  simp only [AM.ret, Option.some.injEq, Prod.mk.injEq, eq_iff_iff]
  constructor
  · rintro ⟨_, r, s', ⟨rfl, rfl⟩, h⟩; exact h
  · intro h; exact ⟨0, _, _, ⟨rfl, rfl⟩, h⟩
@[simp] theorem bin_add (t : TypeId) (xo yo : Operand) (k : IntKind) (a b : Int) : binA P .add t xo yo (.int k a) (.int k b) = some (.int k (wrapA k (a + b))) := by simp [binA, fastBin]
@[simp] theorem bin_sub (t : TypeId) (xo yo : Operand) (k : IntKind) (a b : Int) : binA P .sub t xo yo (.int k a) (.int k b) = some (.int k (wrapA k (a - b))) := by simp [binA, fastBin]
@[simp] theorem bin_mul (t : TypeId) (xo yo : Operand) (k : IntKind) (a b : Int) : binA P .mul t xo yo (.int k a) (.int k b) = some (.int k (wrapA k (a * b))) := by simp [binA, fastBin]
@[simp] theorem bin_eql (t : TypeId) (xo yo : Operand) (k : IntKind) (a b : Int) : binA P .eql t xo yo (.int k a) (.int k b) = some (.bool (a == b)) := by simp [binA, fastBin]
@[simp] theorem bin_neq (t : TypeId) (xo yo : Operand) (k : IntKind) (a b : Int) : binA P .neq t xo yo (.int k a) (.int k b) = some (.bool (a != b)) := by simp [binA, fastBin]
@[simp] theorem bin_lss (t : TypeId) (xo yo : Operand) (k : IntKind) (a b : Int) : binA P .lss t xo yo (.int k a) (.int k b) = some (.bool (decide (a < b))) := by simp [binA, fastBin]
@[simp] theorem bin_leq (t : TypeId) (xo yo : Operand) (k : IntKind) (a b : Int) : binA P .leq t xo yo (.int k a) (.int k b) = some (.bool (decide (a ≤ b))) := by simp [binA, fastBin]
@[simp] theorem bin_gtr (t : TypeId) (xo yo : Operand) (k : IntKind) (a b : Int) : binA P .gtr t xo yo (.int k a) (.int k b) = some (.bool (decide (a > b))) := by simp [binA, fastBin]
@[simp] theorem bin_geq (t : TypeId) (xo yo : Operand) (k : IntKind) (a b : Int) : binA P .geq t xo yo (.int k a) (.int k b) = some (.bool (decide (a ≥ b))) := by simp [binA, fastBin]
def bitsA (op : BinOp) (k : IntKind) (a b : Int) : Int := k.wrap (match op with
  | .and => (BitVec.ofInt k.bits a &&& BitVec.ofInt k.bits b).toNat
  | .or => (BitVec.ofInt k.bits a ||| BitVec.ofInt k.bits b).toNat
  | .xor => (BitVec.ofInt k.bits a ^^^ BitVec.ofInt k.bits b).toNat
  | _ => (BitVec.ofInt k.bits a &&& ~~~ BitVec.ofInt k.bits b).toNat : Nat)
theorem binA_pure {op : BinOp} {t : TypeId} {xo yo : Operand} {x y v : Value} (h1 : fastBin op x y = none) (h2 : aggBin P op t x y = none) (hx : plain 2 x = true) (hy : plain 2 y = true)
    (h : pureRun P (do eqGuard op t xo yo x y; binOp op t x y) = some v) (hv : plain 0 v = true) : binA P op t xo yo x y = some v := by
  unfold binA
  rw [h1, h2]
  simp only [hx, hy, Bool.and_self, if_true, h, hv]
@[simp] theorem bin_and (t : TypeId) (xo yo : Operand) (k : IntKind) (a b : Int) : binA P .and t xo yo (.int k a) (.int k b) = some (.int k (bitsA .and k a b)) := binA_pure rfl rfl rfl rfl (by cases k <;> rfl) rfl
@[simp] theorem bin_or (t : TypeId) (xo yo : Operand) (k : IntKind) (a b : Int) : binA P .or t xo yo (.int k a) (.int k b) = some (.int k (bitsA .or k a b)) := binA_pure rfl rfl rfl rfl (by cases k <;> rfl) rfl
@[simp] theorem bin_xor (t : TypeId) (xo yo : Operand) (k : IntKind) (a b : Int) : binA P .xor t xo yo (.int k a) (.int k b) = some (.int k (bitsA .xor k a b)) := binA_pure rfl rfl rfl rfl (by cases k <;> rfl) rfl
@[simp] theorem bin_andNot (t : TypeId) (xo yo : Operand) (k : IntKind) (a b : Int) : binA P .andNot t xo yo (.int k a) (.int k b) = some (.int k (bitsA .andNot k a b)) := binA_pure rfl rfl rfl rfl (by cases k <;> rfl) rfl
theorem bin_quo (t : TypeId) (xo yo : Operand) (k : IntKind) (a b : Int) (hb : b ≠ 0) : binA P .quo t xo yo (.int k a) (.int k b) = some (.int k (k.wrap (a.tdiv b))) := by
  refine binA_pure rfl rfl rfl rfl ?_ rfl
  have : binOp .quo t (.int k a) (.int k b) = pure (.int k (k.wrap (a.tdiv b))) := by rw [binOp_quo]; simp [Op.intDiv, hb]
  rw [this]; rfl
theorem bin_rem (t : TypeId) (xo yo : Operand) (k : IntKind) (a b : Int) (hb : b ≠ 0) : binA P .rem t xo yo (.int k a) (.int k b) = some (.int k (a.tmod b)) := by
  refine binA_pure rfl rfl rfl rfl ?_ rfl
  have : binOp .rem t (.int k a) (.int k b) = pure (.int k (a.tmod b)) := by rw [binOp_rem]; simp [Op.intDiv, hb]
  rw [this]; rfl
theorem bin_shr (t : TypeId) (xo yo : Operand) (k j : IntKind) (a b : Int) (hb : 0 ≤ b) : binA P .shr t xo yo (.int k a) (.int j b) = some (.int k (a.fdiv (2 ^ min b.toNat k.bits))) := by
  refine binA_pure rfl rfl rfl rfl ?_ rfl
  have : binOp .shr t (.int k a) (.int j b) = pure (.int k (a.fdiv (2 ^ min b.toNat k.bits))) := by rw [binOp_shr]; simp [Op.shift, Int.not_lt.2 hb]
  rw [this]; rfl
theorem bin_shl (t : TypeId) (xo yo : Operand) (k j : IntKind) (a b : Int) (hb : 0 ≤ b) : binA P .shl t xo yo (.int k a) (.int j b) = some (.int k (k.wrap (a * 2 ^ min b.toNat k.bits))) := by
  refine binA_pure rfl rfl rfl rfl ?_ rfl
  have : binOp .shl t (.int k a) (.int j b) = pure (.int k (k.wrap (a * 2 ^ min b.toNat k.bits))) := by rw [binOp_shl]; simp [Op.shift, Int.not_lt.2 hb]
  rw [this]; rfl
theorem unA_pure {op : UnOp} {x v : Value} (hx : plain 2 x = true) (h : pureRun P (Op.unary op x) = some v) (hv : plain 0 v = true) : unA P op x = some v := by
  unfold unA
  simp only [hx, if_true, h, hv]
theorem wConv_float {a d : TypeId} {u : TypeDesc} (h1 : P.underlying a = some u) (h2 : P.underlying d = some (.float .f64)) (j : IntKind) (n : Int) (k : Value → Prop) : wConv P a d (.int j n) k = k (.float .f64 (FloatKind.f64.nearest n)) := by
  unfold wConv xConv
  rw [h1, h2]
theorem conv_int {a d : TypeId} {u : TypeDesc} {k : IntKind} (h1 : P.underlying a = some u) (h2 : P.underlying d = some (.int k)) (j : IntKind) (n : Int) : convA P a d (.int j n) = some (.int k (wrapA k n)) := by
  unfold convA
  rw [h1, h2]
@[simp] theorem un_not (b : Bool) : unA P .not (.bool b) = some (.bool (!b)) := unA_pure rfl rfl rfl
@[simp] theorem un_neg (k : IntKind) (a : Int) : unA P .neg (.int k a) = some (.int k (k.wrap (0 - a))) := unA_pure rfl (by cases k <;> rfl) rfl
@[simp] theorem if_nilIface (t : TypeId) (xo yo : Operand) (u : TypeId) (v : Value) (ht : isIfaceT P t = true) (hp : plain 1 v = false) : binA P .neq t xo yo (.iface u v) .nilIface = some (.bool true) := by
  unfold binA
  have h1 : fastBin .neq (.iface u v) .nilIface = none := rfl
  have h2 : aggBin P .neq t (.iface u v) .nilIface = none := rfl
  rw [h1, h2]
  simp [plain, hp, ht]
/-- the results of a function -/
@[simp] theorem res_tmp (t : Tmp) (fr : Fr) (s : ST) : resultsA P #[.tmp t] fr s = some (envD fr.env t, s) := (rfl)
@[simp] theorem res_tmp2 (t u : Tmp) (fr : Fr) (s : ST) : resultsA P #[.tmp t, .tmp u] fr s = some (.tuple #[envD fr.env t, envD fr.env u], s) := (rfl)
@[simp] theorem res_nil (fr : Fr) (s : ST) : resultsA P #[] fr s = some (.tuple #[], s) := (rfl)
theorem load_state {t : TypeId} {a : Value} {s : ST} : (∃ v, loadA P t a s = some (v, s)) ∨ loadA P t a s = none := by
  cases h : loadA P t a s with
  | none => exact .inr rfl
  | some x => obtain ⟨v, s'⟩ := x; have := loadA_same h; subst this; exact .inl ⟨v, rfl⟩
@[simp] theorem res_cell (a : Tmp) (t : TypeId) (fr : Fr) (s : ST) (k : Value → ST → Prop) : wO (resultsA P #[.cell a t] fr s) k = wO (loadA P t (envD fr.env a) s) k := by
  have : resultsA P #[.cell a t] fr s = loadA P t (envD fr.env a) s := by
    show AM.andThen (AM.andThen (loadA P t (envD fr.env a)) fun v => AM.andThen (AM.ret []) fun vs => AM.ret (v :: vs)) (fun vs => AM.ret (oneOf vs)) s = _
    unfold AM.andThen
    rcases load_state (P := P) (t := t) (a := envD fr.env a) (s := s) with ⟨v, h⟩ | h <;> rw [h] <;> rfl
  rw [this]
@[simp] theorem res_cell_tmp (a : Tmp) (t : TypeId) (u : Tmp) (fr : Fr) (s : ST) (k : Value → ST → Prop) : wO (resultsA P #[.cell a t, .tmp u] fr s) k = wO (loadA P t (envD fr.env a) s) fun v s' => k (.tuple #[v, envD fr.env u]) s' := by
  have : resultsA P #[.cell a t, .tmp u] fr s = AM.andThen (loadA P t (envD fr.env a)) (fun v => AM.ret (.tuple #[v, envD fr.env u])) s := by
    show AM.andThen (AM.andThen (loadA P t (envD fr.env a)) fun v => AM.andThen (AM.andThen (AM.ret []) fun vs => AM.ret (envD fr.env u :: vs)) fun vs => AM.ret (v :: vs)) (fun vs => AM.ret (oneOf vs)) s = _
    unfold AM.andThen
    rcases load_state (P := P) (t := t) (a := envD fr.env a) (s := s) with ⟨v, h⟩ | h <;> rw [h] <;> rfl
  rw [this]
  unfold wO AM.andThen
  cases loadA P t (envD fr.env a) s with
  | none => rfl
  | some v => rfl
@[simp] theorem defer_eq (f : FuncId) (a b : Array Value) (args : List Value) (dst : Option Tmp) (n : Nat) (env : Trie Value) (defs : List Deferred) (s : ST) (Q : SR → ST → Prop) :
    wO (deferA noFn (.func (.func f) a b) args s) (fun ar s' => xAR dst ⟨n, env, defs⟩ Q ar s') = wSet dst undef ⟨n, env, { target := .fn (.func f) b, args := a ++ args.toArray } :: defs⟩ s Q := rfl
attribute [simp] guardOk evalV Trie.get_set plain undef boolOf inBlk asFunc argsV partsV envD pickA
theorem Does.code (K : Known0 P) {f : FuncId} {F : FnBody} (hF : fnOf P f = some F) (ids : List Nat) (hok : undrawOk P ids F.1 = true) {args : Array Value} {s : ST} {Q : CRes → ST → Prop}
    (h : wCode P (undraw ids F.1) (frOf F args) s (wEnd P F.2.2 Q)) : Does P f args s Q := Does.body K hF ids hok h
/-- what simp leaves as it is -/
def Goal (p : Prop) (_t : Tag p := ⟨⟩) : Prop := p
theorem Goal.mk {p : Prop} (h : p) : Goal p := h
theorem w_mono {c : Code} {fr : Fr} {s : ST} {Q Q' : CE → Fr → ST → Prop} (f : s.Free) (h : wCode P c fr s Q) (k : ∀ e f s, s.Free → Q e f s → Q' e f s) : wCode P c fr s Q' := xCode_mono c fr s Q Q' f h k
theorem w_for {c : Code} {Q : CE → Fr → ST → Prop} (I : Nat → Fr → ST → Prop)
    (h : ∀ m fr s, s.Free → I m fr s → wCode P c fr s (wNext (fun f s' => Goal (∃ m', m' < m ∧ I m' f s')) Q)) {m : Nat} {fr : Fr} {s : ST} (f : s.Free) (h0 : I m fr s) : wCode P (.loop c) fr s Q := x_for I h f h0

/-! ### a call's own memory -/
inductive LE where
  | obj (n : Nat) (o : AObj)
  | acc (v : Value) (k : Nat) (e : TypeId) (c : List Value)
def LE.names : LE → List Nat
  | .obj n _ => [n]
  | .acc (.slice (some a) _ _) _ _ _ => [a.block]
  | .acc _ _ _ _ => []
def LE.holds (s : ST) : LE → Prop
  | .obj n o => Own s n o
  | .acc v k e c => v = .slice none 0 0 ∧ c = [] ∨ ∃ n m, v = .slice (some ⟨n, 0, none⟩) m k ∧ c.length = m * k ∧ 0 < m ∧ Own s n (.cells c e)
def namesOf (l : List LE) : List Nat := l.flatMap LE.names
structure Loc (s0 s : ST) (l : List LE) : Prop where
  kept : Kept s0 s
  own : ∀ x ∈ l, x.holds s
  new : ∀ n ∈ namesOf l, s0.heap.find n = none
  nodup : (namesOf l).Nodup
theorem Loc.nil {s : ST} (h : s.Free) : Loc s s [] := ⟨Kept.refl h, by simp, by simp [namesOf], by simp [namesOf]⟩
theorem Loc.free {s0 s : ST} {l : List LE} (h : Loc s0 s l) : s.Free := h.kept.free
theorem LE.holds_of {s s' : ST} {z : LE} (h : z.holds s) (e : ∀ n ∈ z.names, s'.heap.dyn.get n = s.heap.dyn.get n) : z.holds s' := by
  cases z with
  | obj n o => exact (e n (by simp [LE.names])).trans h
  | acc v k t c =>
    rcases h with h | ⟨n, m, rfl, h2, h3, h4⟩
    · exact .inl h
    · exact .inr ⟨n, m, rfl, h2, h3, (e n (by simp [LE.names])).trans h4⟩
theorem LE.owned {s : ST} {z : LE} (h : z.holds s) {n : Nat} (hn : n ∈ z.names) : ∃ o, Own s n o := by
  cases z with
  | obj m o => simp [LE.names] at hn; subst hn; exact ⟨o, h⟩
  | acc v k t c =>
    rcases h with ⟨rfl, _⟩ | ⟨m, j, rfl, h2, h3, h4⟩
    · simp [LE.names] at hn
    · simp [LE.names] at hn; subst hn; exact ⟨_, h4⟩
theorem mem_namesOf {l : List LE} {n : Nat} : n ∈ namesOf l ↔ ∃ z ∈ l, n ∈ z.names := by simp [namesOf]
theorem Loc.keep {s0 s s' : ST} {l : List LE} (h : Loc s0 s l) (k : Kept s s') : Loc s0 s' l :=
  ⟨h.kept.trans k, fun x hx => LE.holds_of (h.own x hx) (fun n hn => by
    obtain ⟨o, ho⟩ := LE.owned (h.own x hx) hn
    have h2 : Own s' n o := ho.kept k
    exact h2.trans ho.symm), h.new, h.nodup⟩
theorem push_dyn {s : ST} {o : AObj} {n : Nat} (h : n ≠ s.nm s.ctr) : (s.push o).heap.dyn.get n = s.heap.dyn.get n := by
  simp [ST.push, Heap.dyn_set, h]
theorem put_dyn {s : ST} {o : Option AObj} {n m : Nat} (h : n ≠ m) : (s.put m o).heap.dyn.get n = s.heap.dyn.get n := by
  simp [ST.put, Heap.dyn_set, h]
/-- a new object -/
theorem Loc.add {s0 s : ST} {l : List LE} (h : Loc s0 s l) (o : AObj) {z : LE} (hz : z.holds (s.push o)) (hn : z.names = [s.nm s.ctr]) : Loc s0 (s.push o) (z :: l) := by
  have hne : ∀ n ∈ namesOf l, n ≠ s.nm s.ctr := by
    intro n hn
    obtain ⟨z, hz, hn⟩ := mem_namesOf.1 hn
    obtain ⟨o, ho⟩ := LE.owned (h.own z hz) hn
    exact ne_new h.free ho
  have hnames : namesOf (z :: l) = s.nm s.ctr :: namesOf l := by simp [namesOf, hn]
  refine ⟨h.kept.trans (push_kept h.free o), ?_, ?_, ?_⟩
  · intro x hx
    rcases List.mem_cons.1 hx with rfl | hx
    · exact hz
    · exact LE.holds_of (h.own x hx) fun n hn => push_dyn (hne n (mem_namesOf.2 ⟨x, hx, hn⟩))
  · rw [hnames]
    intro n hn
    rcases List.mem_cons.1 hn with rfl | hn
    · exact fresh_new h.kept
    · exact h.new n hn
  · rw [hnames]
    exact List.nodup_cons.2 ⟨fun hc => hne _ hc rfl, h.nodup⟩
theorem Loc.push {s0 s : ST} {l : List LE} (h : Loc s0 s l) (o : AObj) : Loc s0 (s.push o) (.obj (s.nm s.ctr) o :: l) := h.add o (Own.push_new s o) rfl
theorem splitAt_eq {α : Type} {l : List α} {i : Nat} {x : α} (h : l[i]? = some x) : l = l.take i ++ x :: l.drop (i + 1) := by
  obtain ⟨hlt, rfl⟩ := List.getElem?_eq_some_iff.1 h
  simp
theorem setAt_eq {α : Type} {l : List α} {i : Nat} {x y : α} (h : l[i]? = some x) : l.set i y = l.take i ++ y :: l.drop (i + 1) := by
  obtain ⟨hlt, rfl⟩ := List.getElem?_eq_some_iff.1 h
  rw [List.set_eq_take_append_cons_drop, if_pos hlt]
theorem namesOf_append (a b : List LE) : namesOf (a ++ b) = namesOf a ++ namesOf b := by simp [namesOf]
theorem namesOf_cons (a : LE) (b : List LE) : namesOf (a :: b) = a.names ++ namesOf b := by simp [namesOf]
/-- an entry is written -/
theorem Loc.put {s0 s : ST} {l : List LE} (h : Loc s0 s l) {i n : Nat} {x : LE} (hi : l[i]? = some x) (hx : x.names = [n]) {o : Option AObj} {z : LE} (hz : z.holds (s.put n o)) (hn : z.names = [n] ∨ z.names = []) : Loc s0 (s.put n o) (l.set i z) := by
  have hmem : x ∈ l := List.mem_of_getElem? hi
  have hown := LE.owned (h.own x hmem) (n := n) (by simp [hx])
  obtain ⟨q, ho⟩ := hown
  have hl := splitAt_eq hi
  rw [setAt_eq hi]
  have hnd := h.nodup
  have hnew := h.new
  rw [hl, namesOf_append, namesOf_cons, hx] at hnd hnew
  have hown : ∀ y ∈ l.take i ++ l.drop (i + 1), y.holds s := fun y hy => by
    rcases List.mem_append.1 hy with hy | hy
    · exact h.own y (List.mem_of_mem_take hy)
    · exact h.own y (List.mem_of_mem_drop hy)
  generalize l.take i = p at *
  generalize l.drop (i + 1) = r at *
  have hp : ∀ m ∈ namesOf p, m ≠ n := fun m hm e => by
    subst e
    have := (List.nodup_append.1 hnd).2.2
    exact this m hm m (by simp) rfl
  have hr : ∀ m ∈ namesOf r, m ≠ n := fun m hm e => by
    subst e
    have := (List.nodup_append.1 hnd).2.1
    exact (List.nodup_cons.1 this).1 hm
  refine ⟨put_kept h.kept (hnew n (by simp)) ho o, ?_, ?_, ?_⟩
  · intro y hy
    have hcase : y = z ∨ y ∈ p ++ r := by
      rcases List.mem_append.1 hy with hy | hy
      · exact .inr (by simp [hy])
      · rcases List.mem_cons.1 hy with rfl | hy
        · exact .inl rfl
        · exact .inr (by simp [hy])
    rcases hcase with rfl | hy
    · exact hz
    · refine LE.holds_of (hown y hy) fun m hm => put_dyn ?_
      rcases List.mem_append.1 hy with hy | hy
      · exact hp m (mem_namesOf.2 ⟨y, hy, hm⟩)
      · exact hr m (mem_namesOf.2 ⟨y, hy, hm⟩)
  · intro m hm
    refine hnew m ?_
    rw [namesOf_append, namesOf_cons] at hm
    rcases hn with hn | hn <;> rw [hn] at hm
    · exact hm
    · simp at hm ⊢; rcases hm with hm | hm <;> simp [hm]
  · rw [namesOf_append, namesOf_cons]
    rcases hn with hn | hn <;> rw [hn]
    · exact hnd
    · simp only [List.nil_append, List.cons_append] at hnd ⊢
      exact hnd.sublist (List.Sublist.append (List.Sublist.refl _) (List.sublist_cons_self _ _))
theorem flat_sub {l l' : List LE} (h : l'.Sublist l) : (namesOf l').Sublist (namesOf l) := by
  induction h with
  | slnil => exact List.Sublist.refl _
  | cons a _ ih => rw [namesOf_cons]; exact ih.trans (List.sublist_append_right _ _)
  | cons_cons a _ ih => rw [namesOf_cons, namesOf_cons]; exact List.Sublist.append (List.Sublist.refl _) ih
theorem Loc.sub {s0 s : ST} {l l' : List LE} (h : Loc s0 s l) (hs : l'.Sublist l) : Loc s0 s l' := by
  have hn : (namesOf l').Sublist (namesOf l) := flat_sub hs
  exact ⟨h.kept, fun x hx => h.own x (hs.subset hx), fun n hn' => h.new n (hn.subset hn'), h.nodup.sublist hn⟩
theorem Loc.at {s0 s : ST} {l : List LE} (h : Loc s0 s l) {i : Nat} {x : LE} (hi : l[i]? = some x) : x.holds s := h.own x (List.mem_of_getElem? hi)

/-! ### rules -/
theorem newRow_eq {s : ST} (h : s.Free) (e : TypeId) (c : List Value) : newRowA e c s = some (s.nm s.ctr, s.push (.cells c e)) := alloc_eq h _
theorem x_alloc {s0 s : ST} {l : List LE} (h : Loc s0 s l) {t : TypeId} {z : List Value} (hz : zeroL P t = some z) {k : Value → ST → Prop}
    (hk : ∀ n s', Loc s0 s' (.obj n (.cells z t) :: l) → k (.pointer (some ⟨n, 0, none⟩)) s') : wO (allocA P t s) k := by
  have : allocA P t s = some (.pointer (some ⟨s.nm s.ctr, 0, none⟩), s.push (.cells z t)) := by
    unfold allocA
    rw [hz]
    simp [AM.andThen, AM.ofOption, AM.ret, newRow_eq h.free]
  rw [this]
  exact hk _ _ (h.push _)
theorem x_box {s0 s : ST} {l : List LE} (h : Loc s0 s l) {t : TypeId} {v : Value} (hv : known v = true) {k : Value → ST → Prop}
    (hk : ∀ n s', Loc s0 s' (.obj n (.cells (cellsL v) t) :: l) → k (.pointer (some ⟨n, 0, none⟩)) s') : wO (boxA t v s) k := by
  have : boxA t v s = some (.pointer (some ⟨s.nm s.ctr, 0, none⟩), s.push (.cells (cellsL v) t)) := by
    unfold boxA
    simp [AM.andThen, AM.guard, hv, AM.ret, newRow_eq h.free]
  rw [this]
  exact hk _ _ (h.push _)
theorem x_store {s0 s : ST} {l : List LE} (h : Loc s0 s l) (i : Nat) {n off : Nat} {c c' : List Value} {e t : TypeId} {v : Value} (hi : l[i]? = some (.obj n (.cells c e))) (hc : storeTo P t c off v = some c') {k : Unit → ST → Prop}
    (hk : ∀ s', Loc s0 s' (l.set i (.obj n (.cells c' e))) → k () s') : wO (storeA P t (.pointer (some ⟨n, off, none⟩)) v s) k := by
  have ho : Own s n (.cells c e) := h.at hi
  have : storeA P t (.pointer (some ⟨n, off, none⟩)) v s = some ((), s.put n (some (.cells c' e))) := by
    unfold storeA
    simp only [AM.andThen, AM.ofOption, asPtr, AM.ret, read_eq ho.find, asCells, hc]
    exact write_eq ho _
  rw [this]
  exact hk _ (h.put hi rfl (Own.put_same _ _ _) (.inl rfl))
theorem load_obj {s0 s : ST} {l : List LE} (h : Loc s0 s l) (i : Nat) {n off : Nat} {c : List Value} {e t : TypeId} {v : Value} (hi : l[i]? = some (.obj n (.cells c e))) (hc : loadFrom P t c off = some v) : loadA P t (.pointer (some ⟨n, off, none⟩)) s = some (v, s) := by
  have ho : Own s n (.cells c e) := h.at hi
  unfold loadA
  simp only [AM.andThen, AM.ofOption, asPtr, AM.ret, read_eq ho.find, asCells, hc]
theorem load_find {s : ST} {n off : Nat} {c : List Value} {e t : TypeId} {v : Value} (ho : s.heap.find n = some (some (.cells c e))) (hc : loadFrom P t c off = some v) : loadA P t (.pointer (some ⟨n, off, none⟩)) s = some (v, s) := by
  unfold loadA
  simp only [AM.andThen, AM.ofOption, asPtr, AM.ret, read_eq ho, asCells, hc]
theorem x_load {s : ST} {t : TypeId} {a v : Value} (h : loadA P t a s = some (v, s)) {k : Value → ST → Prop} (hk : k v s) : wO (loadA P t a s) k := by
  rw [h]; exact hk
theorem Loc.perm {s0 s : ST} {l l' : List LE} (h : Loc s0 s l) (hp : l.Perm l') : Loc s0 s l' := by
  have hn : (namesOf l).Perm (namesOf l') := by
    unfold namesOf
    exact hp.flatMap_right _
  exact ⟨h.kept, fun x hx => h.own x (hp.mem_iff.2 hx), fun n hn' => h.new n (hn.mem_iff.2 hn'), hn.nodup_iff.1 h.nodup⟩
theorem Loc.addAt {s0 s : ST} {l : List LE} (h : Loc s0 s l) {i : Nat} {x : LE} (hi : l[i]? = some x) (o : AObj) {z : LE} (hz : z.holds (s.push o)) (hn : z.names = [s.nm s.ctr]) : Loc s0 (s.push o) (l.set i z) := by
  rw [setAt_eq hi]
  have h2 : Loc s0 s (l.take i ++ l.drop (i + 1)) := by
    refine h.sub ?_
    have := splitAt_eq hi
    conv => rhs; rw [this]
    exact List.Sublist.append (List.Sublist.refl _) (List.sublist_cons_self _ _)
  exact (h2.add o hz hn).perm List.perm_middle.symm
/-- a slice's literal -/
theorem x_buildSlice {s0 s : ST} {l : List LE} (h : Loc s0 s l) {t e : TypeId} {n sz : Nat} {parts : List (Nat × Value)} {c : List Value} (he : sliceElem P t = some e) (hs : sizeA P e = some sz) (hc : sliceCells P e sz n parts = some c) {k : Value → ST → Prop}
    (hk : ∀ m s', Loc s0 s' (.obj m (.cells c e) :: l) → k (.slice (some ⟨m, 0, none⟩) n sz) s') : wO (buildSliceA P t n parts s) k := by
  have : buildSliceA P t n parts s = some (.slice (some ⟨s.nm s.ctr, 0, none⟩) n sz, s.push (.cells c e)) := by
    unfold buildSliceA
    simp [AM.andThen, AM.ofOption, he, hs, hc, AM.ret, newRow_eq h.free]
  rw [this]
  exact hk _ _ (h.push _)
theorem elems_eq {s : ST} {n off m cs size : Nat} {row : List Value} {et : TypeId} (hn : s.heap.find n = some (some (.cells row et))) (hrow : off + m * size ≤ row.length) :
    elemsA (.slice (some ⟨n, off, none⟩) m cs) m size s = some (((row.drop off).take (m * size), et), s) := by
  unfold elemsA
  simp [AM.andThen, AM.ofOption, asSlice, AM.ret, read_eq hn, asCells, rowOf, hrow]
/-- append to a slice of one's own -/
theorem x_append {s0 s : ST} {l : List LE} (h : Loc s0 s l) (i : Nat) {t e : TypeId} {inf : ElemI} {c : List Value} {v : Value} (hi : l[i]? = some (.acc v inf.size e c)) (he : sliceElem P t = some e) (hinf : elemI P e = some inf) (hpos : 0 < inf.size)
    {n off m cs : Nat} {row : List Value} {et : TypeId} (hn : s.heap.find n = some (some (.cells row et))) (hrow : off + m * inf.size ≤ row.length) (hm : 0 < m) (hok : ((row.drop off).take (m * inf.size)).all cellOk = true)
    (hsz : (c.length / inf.size + m) * inf.bytes ≤ 140737488355328) (hsz2 : c.length / inf.size + m ≤ 9223372036854775807) {k : Value → ST → Prop}
    (hk : ∀ v' s', Loc s0 s' (l.set i (.acc v' inf.size e (c ++ (row.drop off).take (m * inf.size)))) → k v' s') : wO (appendA P t v (.slice (some ⟨n, off, none⟩) m cs) s) k := by
  have hlen : ((row.drop off).take (m * inf.size)).length = m * inf.size := by simp; omega
  have hel := elems_eq (cs := cs) hn hrow
  have hne : isEmptyS (.slice (some ⟨n, off, none⟩) m cs) = false := by simp [isEmptyS]; omega
  rcases h.at hi with ⟨rfl, rfl⟩ | ⟨n1, m1, rfl, hcl, hm1, ho⟩
  · simp only [List.length_nil, Nat.zero_div, Nat.zero_add] at hsz hsz2
    have : appendA P t (.slice none 0 0) (.slice (some ⟨n, off, none⟩) m cs) s = some (.slice (some ⟨s.nm s.ctr, 0, none⟩) m inf.size, s.push (.cells ((row.drop off).take (m * inf.size)) e)) := by
      unfold appendA
      rw [andThen_eq (show AM.ofOption (sliceElem P t) s = some (e, s) by rw [he]; rfl), andThen_eq (show AM.ofOption (elemI P e) s = some (inf, s) by rw [hinf]; rfl), hne, if_neg (by simp), andThen_eq (show AM.ofOption (asSlice _) s = some ((n, off, m, cs), s) from rfl),
        andThen_eq hel, if_pos (show isNilS (.slice none 0 0) = true from rfl), andThen_eq (guard_eq (And.intro hsz hsz2) s), andThen_eq (newRow_eq h.free _ _)]
      rfl
    rw [this]
    refine hk _ _ (h.addAt hi _ ?_ rfl)
    exact .inr ⟨_, m, rfl, by simp only [List.nil_append]; exact hlen, hm, by simp only [List.nil_append]; exact Own.push_new _ _⟩
  · have hdiv : c.length / inf.size = m1 := by rw [hcl]; exact Nat.mul_div_cancel _ hpos
    rw [hdiv] at hsz hsz2
    have hel2 : elemsA (.slice (some ⟨n1, 0, none⟩) m1 inf.size) m1 inf.size s = some ((c, e), s) := by
      have := elems_eq (cs := inf.size) (m := m1) (size := inf.size) (off := 0) ho.find (by omega)
      rw [this, List.drop_zero, ← hcl, List.take_length]
    have hput := h.put (o := none) (z := .acc (.slice none 0 0) inf.size e []) hi rfl (.inl ⟨rfl, rfl⟩) (.inr rfl)
    have hi2 : (l.set i (.acc (.slice none 0 0) inf.size e []))[i]? = some (.acc (.slice none 0 0) inf.size e []) := by
      have := (List.getElem?_eq_some_iff.1 hi).1
      simp [this]
    have : appendA P t (.slice (some ⟨n1, 0, none⟩) m1 inf.size) (.slice (some ⟨n, off, none⟩) m cs) s =
        some (.slice (some ⟨(s.put n1 none).nm (s.put n1 none).ctr, 0, none⟩) (m1 + m) inf.size, (s.put n1 none).push (.cells (c ++ (row.drop off).take (m * inf.size)) e)) := by
      unfold appendA
      have hg : (m1 + m) * inf.bytes ≤ 140737488355328 ∧ m1 + m ≤ 9223372036854775807 ∧ inf.size = inf.size ∧ 0 < inf.size ∧ ((row.drop off).take (m * inf.size)).all cellOk = true ∧ e = e := ⟨hsz, hsz2, rfl, hpos, hok, rfl⟩
      rw [andThen_eq (show AM.ofOption (sliceElem P t) s = some (e, s) by rw [he]; rfl), andThen_eq (show AM.ofOption (elemI P e) s = some (inf, s) by rw [hinf]; rfl), hne, if_neg (by simp), andThen_eq (show AM.ofOption (asSlice _) s = some ((n, off, m, cs), s) from rfl),
        andThen_eq hel, if_neg (show ¬ isNilS (.slice (some ⟨n1, 0, none⟩) m1 inf.size) = true by simp [isNilS]), andThen_eq (show AM.ofOption (asSlice _) s = some ((n1, 0, m1, inf.size), s) from rfl), andThen_eq hel2, andThen_eq (guard_eq hg s), andThen_eq (write_eq ho _), andThen_eq (newRow_eq hput.free _ _)]
      rfl
    rw [this]
    refine hk _ _ ?_
    have := hput.addAt hi2 (.cells (c ++ (row.drop off).take (m * inf.size)) e) (z := .acc (.slice (some ⟨(s.put n1 none).nm (s.put n1 none).ctr, 0, none⟩) (m1 + m) inf.size) inf.size e (c ++ (row.drop off).take (m * inf.size)))
      (.inr ⟨_, m1 + m, rfl, by simp only [List.length_append, hcl, hlen, Nat.add_mul], by omega, Own.push_new _ _⟩) rfl
    simpa using this
/-- a slice's literal, in a place of its own -/
theorem x_buildSlice_at {s0 s : ST} {l : List LE} (h : Loc s0 s l) (i : Nat) {k0 : Nat} {e0 : TypeId} (hi : l[i]? = some (.acc (.slice none 0 0) k0 e0 [])) {t e : TypeId} {n sz : Nat} {parts : List (Nat × Value)} {c : List Value} (he : sliceElem P t = some e) (hs : sizeA P e = some sz)
    (hc : sliceCells P e sz n parts = some c) (hlen : c.length = n * sz) (hn : 0 < n) {k : Value → ST → Prop} (hk : ∀ m s', Loc s0 s' (l.set i (.acc (.slice (some ⟨m, 0, none⟩) n sz) sz e c)) → k (.slice (some ⟨m, 0, none⟩) n sz) s') : wO (buildSliceA P t n parts s) k := by
  have : buildSliceA P t n parts s = some (.slice (some ⟨s.nm s.ctr, 0, none⟩) n sz, s.push (.cells c e)) := by
    unfold buildSliceA
    simp [AM.andThen, AM.ofOption, he, hs, hc, AM.ret, newRow_eq h.free]
  rw [this]
  refine hk _ _ (h.addAt hi _ ?_ rfl)
  exact .inr ⟨_, n, rfl, hlen, hn, Own.push_new _ _⟩
/-- append a literal's row to a slice of one's own -/
theorem x_append_acc {s0 s : ST} {l : List LE} (h : Loc s0 s l) (i j : Nat) {t e e2 : TypeId} {inf : ElemI} {c row : List Value} {v x : Value} (hi : l[i]? = some (.acc v inf.size e c)) (hj : l[j]? = some (.acc x inf.size e2 row)) (he : sliceElem P t = some e) (hinf : elemI P e = some inf) (hpos : 0 < inf.size)
    (hrow : row ≠ []) (hok : row.all cellOk = true) (hsz : (c.length / inf.size + row.length / inf.size) * inf.bytes ≤ 140737488355328) (hsz2 : c.length / inf.size + row.length / inf.size ≤ 9223372036854775807) {k : Value → ST → Prop}
    (hk : ∀ v' s', Loc s0 s' (l.set i (.acc v' inf.size e (c ++ row))) → k v' s') : wO (appendA P t v x s) k := by
  rcases h.at hj with ⟨rfl, h0⟩ | ⟨n, m, rfl, hl, hm, ho⟩
  · exact absurd h0 hrow
  · have hd : row.length / inf.size = m := by rw [hl]; exact Nat.mul_div_cancel _ hpos
    rw [hd] at hsz hsz2
    have ht : (row.drop 0).take (m * inf.size) = row := by rw [List.drop_zero, ← hl, List.take_length]
    refine x_append h i hi he hinf hpos ho.find (by omega) hm (by rw [ht]; exact hok) hsz hsz2 ?_
    rw [ht]
    exact hk
/-- entries that hold nothing yet -/
theorem Loc.nils {s0 s : ST} {l : List LE} (h : Loc s0 s l) (ns : List LE) (hz : ∀ z ∈ ns, z.holds s ∧ z.names = []) : Loc s0 s (l ++ ns) := by
  have hn : namesOf ns = [] := by
    unfold namesOf
    rw [List.flatMap_eq_nil_iff]
    exact fun z hz' => (hz z hz').2
  refine ⟨h.kept, ?_, ?_, ?_⟩
  · intro x hx
    rcases List.mem_append.1 hx with hx | hx
    · exact h.own x hx
    · exact (hz x hx).1
  · rw [namesOf_append, hn, List.append_nil]; exact h.new
  · rw [namesOf_append, hn, List.append_nil]; exact h.nodup
end
end Go.Proofs.YtgpfgcbolinncaaGreat.Abs
