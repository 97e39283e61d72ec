/- Trees of sixteen branches, made for the kernel's evaluation: what a closed number asks is worked out once (the kernel keeps it). The state of the run that is made for the kernel, its steps, and that the abstract run does the same. The quick run: values taken apart, frames, operands. -/
import Derived.Test.YtgpfgcbolinncaaGreatP5
set_option linter.unusedVariables false
set_option linter.unusedSimpArgs false
namespace Go.Proofs.YtgpfgcbolinncaaGreat.Abs
open Go Go.RowKit
noncomputable section

/-- what is worked out once -/
structure W (α : Type) where
  val : α
def b2 {β : Type} (b : Bool) (t e : β) : β := Bool.rec (motive := fun _ => β) e t b
@[simp] theorem b2_true {β : Type} (t e : β) : b2 true t e = t := rfl
@[simp] theorem b2_false {β : Type} (t e : β) : b2 false t e = e := rfl
/-- the number is worked out first -/
def force {β : Type} (n : Nat) (k : Nat → β) : β := Nat.rec (motive := fun _ => β) (k 0) (fun m _ => k m) (Nat.add n 1)
@[simp] theorem force_eq {β : Type} (n : Nat) (k : Nat → β) : force n k = k n := rfl

structure N16 (α : Type) where
  c0 : α
  c1 : α
  c2 : α
  c3 : α
  c4 : α
  c5 : α
  c6 : α
  c7 : α
  c8 : α
  c9 : α
  c10 : α
  c11 : α
  c12 : α
  c13 : α
  c14 : α
  c15 : α

section
variable {α : Type}
def selW (i : Nat) : W (N16 α → α) := (b2 (Nat.ble 8 i) (b2 (Nat.ble 12 i) (b2 (Nat.ble 14 i) (b2 (Nat.ble 15 i) ⟨fun t => t.c15⟩ ⟨fun t => t.c14⟩) (b2 (Nat.ble 13 i) ⟨fun t => t.c13⟩ ⟨fun t => t.c12⟩)) (b2 (Nat.ble 10 i) (b2 (Nat.ble 11 i) ⟨fun t => t.c11⟩ ⟨fun t => t.c10⟩) (b2 (Nat.ble 9 i) ⟨fun t => t.c9⟩ ⟨fun t => t.c8⟩))) (b2 (Nat.ble 4 i) (b2 (Nat.ble 6 i) (b2 (Nat.ble 7 i) ⟨fun t => t.c7⟩ ⟨fun t => t.c6⟩) (b2 (Nat.ble 5 i) ⟨fun t => t.c5⟩ ⟨fun t => t.c4⟩)) (b2 (Nat.ble 2 i) (b2 (Nat.ble 3 i) ⟨fun t => t.c3⟩ ⟨fun t => t.c2⟩) (b2 (Nat.ble 1 i) ⟨fun t => t.c1⟩ ⟨fun t => t.c0⟩))))
def updW (i : Nat) : W (N16 α → (α → (α → Bool) → Bool) → (N16 α → Bool) → Bool) := (b2 (Nat.ble 8 i) (b2 (Nat.ble 12 i) (b2 (Nat.ble 14 i) (b2 (Nat.ble 15 i) ⟨fun t f k => N16.rec (motive := fun _ => Bool) (fun c0 c1 c2 c3 c4 c5 c6 c7 c8 c9 c10 c11 c12 c13 c14 c15 => f c15 fun x => k ⟨c0, c1, c2, c3, c4, c5, c6, c7, c8, c9, c10, c11, c12, c13, c14, x⟩) t⟩ ⟨fun t f k => N16.rec (motive := fun _ => Bool) (fun c0 c1 c2 c3 c4 c5 c6 c7 c8 c9 c10 c11 c12 c13 c14 c15 => f c14 fun x => k ⟨c0, c1, c2, c3, c4, c5, c6, c7, c8, c9, c10, c11, c12, c13, x, c15⟩) t⟩) (b2 (Nat.ble 13 i) ⟨fun t f k => N16.rec (motive := fun _ => Bool) (fun c0 c1 c2 c3 c4 c5 c6 c7 c8 c9 c10 c11 c12 c13 c14 c15 => f c13 fun x => k ⟨c0, c1, c2, c3, c4, c5, c6, c7, c8, c9, c10, c11, c12, x, c14, c15⟩) t⟩ ⟨fun t f k => N16.rec (motive := fun _ => Bool) (fun c0 c1 c2 c3 c4 c5 c6 c7 c8 c9 c10 c11 c12 c13 c14 c15 => f c12 fun x => k ⟨c0, c1, c2, c3, c4, c5, c6, c7, c8, c9, c10, c11, x, c13, c14, c15⟩) t⟩)) (b2 (Nat.ble 10 i) (b2 (Nat.ble 11 i) ⟨fun t f k => N16.rec (motive := fun _ => Bool) (fun c0 c1 c2 c3 c4 c5 c6 c7 c8 c9 c10 c11 c12 c13 c14 c15 => f c11 fun x => k ⟨c0, c1, c2, c3, c4, c5, c6, c7, c8, c9, c10, x, c12, c13, c14, c15⟩) t⟩ ⟨fun t f k => N16.rec (motive := fun _ => Bool) (fun c0 c1 c2 c3 c4 c5 c6 c7 c8 c9 c10 c11 c12 c13 c14 c15 => f c10 fun x => k ⟨c0, c1, c2, c3, c4, c5, c6, c7, c8, c9, x, c11, c12, c13, c14, c15⟩) t⟩) (b2 (Nat.ble 9 i) ⟨fun t f k => N16.rec (motive := fun _ => Bool) (fun c0 c1 c2 c3 c4 c5 c6 c7 c8 c9 c10 c11 c12 c13 c14 c15 => f c9 fun x => k ⟨c0, c1, c2, c3, c4, c5, c6, c7, c8, x, c10, c11, c12, c13, c14, c15⟩) t⟩ ⟨fun t f k => N16.rec (motive := fun _ => Bool) (fun c0 c1 c2 c3 c4 c5 c6 c7 c8 c9 c10 c11 c12 c13 c14 c15 => f c8 fun x => k ⟨c0, c1, c2, c3, c4, c5, c6, c7, x, c9, c10, c11, c12, c13, c14, c15⟩) t⟩))) (b2 (Nat.ble 4 i) (b2 (Nat.ble 6 i) (b2 (Nat.ble 7 i) ⟨fun t f k => N16.rec (motive := fun _ => Bool) (fun c0 c1 c2 c3 c4 c5 c6 c7 c8 c9 c10 c11 c12 c13 c14 c15 => f c7 fun x => k ⟨c0, c1, c2, c3, c4, c5, c6, x, c8, c9, c10, c11, c12, c13, c14, c15⟩) t⟩ ⟨fun t f k => N16.rec (motive := fun _ => Bool) (fun c0 c1 c2 c3 c4 c5 c6 c7 c8 c9 c10 c11 c12 c13 c14 c15 => f c6 fun x => k ⟨c0, c1, c2, c3, c4, c5, x, c7, c8, c9, c10, c11, c12, c13, c14, c15⟩) t⟩) (b2 (Nat.ble 5 i) ⟨fun t f k => N16.rec (motive := fun _ => Bool) (fun c0 c1 c2 c3 c4 c5 c6 c7 c8 c9 c10 c11 c12 c13 c14 c15 => f c5 fun x => k ⟨c0, c1, c2, c3, c4, x, c6, c7, c8, c9, c10, c11, c12, c13, c14, c15⟩) t⟩ ⟨fun t f k => N16.rec (motive := fun _ => Bool) (fun c0 c1 c2 c3 c4 c5 c6 c7 c8 c9 c10 c11 c12 c13 c14 c15 => f c4 fun x => k ⟨c0, c1, c2, c3, x, c5, c6, c7, c8, c9, c10, c11, c12, c13, c14, c15⟩) t⟩)) (b2 (Nat.ble 2 i) (b2 (Nat.ble 3 i) ⟨fun t f k => N16.rec (motive := fun _ => Bool) (fun c0 c1 c2 c3 c4 c5 c6 c7 c8 c9 c10 c11 c12 c13 c14 c15 => f c3 fun x => k ⟨c0, c1, c2, x, c4, c5, c6, c7, c8, c9, c10, c11, c12, c13, c14, c15⟩) t⟩ ⟨fun t f k => N16.rec (motive := fun _ => Bool) (fun c0 c1 c2 c3 c4 c5 c6 c7 c8 c9 c10 c11 c12 c13 c14 c15 => f c2 fun x => k ⟨c0, c1, x, c3, c4, c5, c6, c7, c8, c9, c10, c11, c12, c13, c14, c15⟩) t⟩) (b2 (Nat.ble 1 i) ⟨fun t f k => N16.rec (motive := fun _ => Bool) (fun c0 c1 c2 c3 c4 c5 c6 c7 c8 c9 c10 c11 c12 c13 c14 c15 => f c1 fun x => k ⟨c0, x, c2, c3, c4, c5, c6, c7, c8, c9, c10, c11, c12, c13, c14, c15⟩) t⟩ ⟨fun t f k => N16.rec (motive := fun _ => Bool) (fun c0 c1 c2 c3 c4 c5 c6 c7 c8 c9 c10 c11 c12 c13 c14 c15 => f c0 fun x => k ⟨x, c1, c2, c3, c4, c5, c6, c7, c8, c9, c10, c11, c12, c13, c14, c15⟩) t⟩))))
def N16.sel (t : N16 α) (i : Nat) : α := (selW i).val t
def N16.upd (t : N16 α) (i : Nat) (x : α) : N16 α := match i with
  | 0 => { t with c0 := x }
  | 1 => { t with c1 := x }
  | 2 => { t with c2 := x }
  | 3 => { t with c3 := x }
  | 4 => { t with c4 := x }
  | 5 => { t with c5 := x }
  | 6 => { t with c6 := x }
  | 7 => { t with c7 := x }
  | 8 => { t with c8 := x }
  | 9 => { t with c9 := x }
  | 10 => { t with c10 := x }
  | 11 => { t with c11 := x }
  | 12 => { t with c12 := x }
  | 13 => { t with c13 := x }
  | 14 => { t with c14 := x }
  | _ => { t with c15 := x }
theorem cases16 {i : Nat} (h : i < 16) {p : Nat → Prop} (h0 : p 0) (h1 : p 1) (h2 : p 2) (h3 : p 3) (h4 : p 4) (h5 : p 5) (h6 : p 6) (h7 : p 7) (h8 : p 8) (h9 : p 9) (h10 : p 10) (h11 : p 11) (h12 : p 12) (h13 : p 13) (h14 : p 14) (h15 : p 15) : p i := by
  have : i = 0 ∨ i = 1 ∨ i = 2 ∨ i = 3 ∨ i = 4 ∨ i = 5 ∨ i = 6 ∨ i = 7 ∨ i = 8 ∨ i = 9 ∨ i = 10 ∨ i = 11 ∨ i = 12 ∨ i = 13 ∨ i = 14 ∨ i = 15 := by omega
  rcases this with rfl | rfl | rfl | rfl | rfl | rfl | rfl | rfl | rfl | rfl | rfl | rfl | rfl | rfl | rfl | rfl <;> assumption
theorem updW_eq {i : Nat} (h : i < 16) (t : N16 α) (f : α → (α → Bool) → Bool) (k : N16 α → Bool) : (updW i).val t f k = f (t.sel i) fun x => k (t.upd i x) := by
  refine cases16 (p := fun i => (updW i).val t f k = f (t.sel i) fun x => k (t.upd i x)) h rfl rfl rfl rfl rfl rfl rfl rfl rfl rfl rfl rfl rfl rfl rfl rfl
theorem sel_upd {i j : Nat} (hi : i < 16) (hj : j < 16) (t : N16 α) (x : α) : (t.upd i x).sel j = if j = i then x else t.sel j := by
  refine cases16 (p := fun i => (t.upd i x).sel j = if j = i then x else t.sel j) hi ?_ ?_ ?_ ?_ ?_ ?_ ?_ ?_ ?_ ?_ ?_ ?_ ?_ ?_ ?_ ?_
  all_goals refine cases16 (p := fun j => _ = if j = _ then x else t.sel j) hj rfl rfl rfl rfl rfl rfl rfl rfl rfl rfl rfl rfl rfl rfl rfl rfl
end

abbrev KT (α : Type) (d : Nat) : Type := Nat.rec (motive := fun _ => Type) α (fun _ T => N16 T) d
section
variable {α : Type}
/-- what stands at a number -/
def KT.get (z : α) : (d : Nat) → KT α d → Nat → α
  | 0, t, n => if n = 0 then t else z
  | d + 1, t, n => KT.get z d (N16.sel (α := KT α d) t (n % 16)) (n / 16)
def KT.put : (d : Nat) → KT α d → Nat → α → KT α d
  | 0, _, _, x => x
  | d + 1, t, n, x => N16.upd (α := KT α d) t (n % 16) (KT.put d (N16.sel (α := KT α d) t (n % 16)) (n / 16) x)
def KT.fits : (d : Nat) → Nat → Bool
  | 0, n => Nat.beq n 0
  | d + 1, n => KT.fits d (n / 16)
theorem KT.get_put (z : α) : ∀ (d : Nat) (t : KT α d) (n m : Nat) (x : α), KT.fits d n = true → KT.get z d (KT.put d t n x) m = if m = n then x else KT.get z d t m
  | 0, t, n, m, x, h => by
    simp only [KT.fits] at h
    have h : n = 0 := Nat.eq_of_beq_eq_true h
    subst h
    simp only [KT.get, KT.put]
    split <;> simp_all
  | d + 1, t, n, m, x, h => by
    simp only [KT.fits] at h
    simp only [KT.get, KT.put]
    rw [sel_upd (Nat.mod_lt _ (by omega)) (Nat.mod_lt _ (by omega))]
    by_cases e : m % 16 = n % 16
    · rw [if_pos e, KT.get_put z d _ _ _ _ h, ← e]
      by_cases e2 : m / 16 = n / 16
      · rw [if_pos e2, if_pos (by omega)]
      · rw [if_neg e2, if_neg (by intro c; subst c; exact e2 rfl)]
    · rw [if_neg e, if_neg (by intro c; subst c; exact e rfl)]

def getW (z : α) (d : Nat) : Nat → W (KT α d → α) := Nat.rec (motive := fun d => Nat → W (KT α d → α)) (fun n => b2 (Nat.beq n 0) ⟨fun t => t⟩ ⟨fun _ => z⟩)
  (fun d ih n => force (Nat.mod n 16) fun r => force (Nat.div n 16) fun q => ⟨fun t => (ih q).val ((selW r).val t)⟩) d
theorem getW_eq (z : α) : ∀ (d : Nat) (n : Nat) (t : KT α d), (getW z d n).val t = KT.get z d t n
  | 0, n, t => by
    show (b2 (Nat.beq n 0) _ _ : W (α → α)).val t = if n = 0 then t else z
    cases h : Nat.beq n 0 with
    | true => rw [if_pos (Nat.eq_of_beq_eq_true h)]; rfl
    | false => rw [if_neg (Nat.ne_of_beq_eq_false h)]; rfl
  | d + 1, n, t => getW_eq z d (n / 16) (N16.sel (α := KT α d) t (n % 16))
abbrev PutT (α : Type) (d : Nat) := KT α d → α → (KT α d → Bool) → Bool
def setW (d : Nat) : Nat → W (PutT α d) := Nat.rec (motive := fun d => Nat → W (PutT α d)) (fun n => b2 (Nat.beq n 0) ⟨fun _ x k => k x⟩ ⟨fun _ _ _ => false⟩)
  (fun d ih n => force (Nat.mod n 16) fun r => force (Nat.div n 16) fun q => ⟨fun t x k => (updW r).val t (fun c k' => (ih q).val c x k') k⟩) d
theorem setW_some : ∀ (d : Nat) (n : Nat) (t : KT α d) (x : α) (k : KT α d → Bool), (setW d n).val t x k = true → KT.fits d n = true ∧ k (KT.put d t n x) = true
  | 0, n, t, x, k, h => by
    have h : (b2 (Nat.beq n 0) (⟨fun _ x k => k x⟩ : W (PutT α 0)) ⟨fun _ _ _ => false⟩).val t x k = true := h
    cases e : Nat.beq n 0 with
    | true => rw [e] at h; exact ⟨e, h⟩
    | false => rw [e] at h; cases h
  | d + 1, n, t, x, k, h => by
    have h : (updW (n % 16)).val t (fun c k' => (setW d (n / 16)).val c x k') k = true := h
    rw [updW_eq (Nat.mod_lt _ (by omega))] at h
    exact setW_some d (n / 16) _ x _ h
def KT.fill (z : α) (d : Nat) : KT α d := Nat.rec (motive := fun d => KT α d) z (fun _ t => ⟨t, t, t, t, t, t, t, t, t, t, t, t, t, t, t, t⟩) d
theorem N16.sel_same {i : Nat} (h : i < 16) (t : α) : N16.sel (⟨t, t, t, t, t, t, t, t, t, t, t, t, t, t, t, t⟩ : N16 α) i = t := by
  refine cases16 (p := fun i => N16.sel (⟨t, t, t, t, t, t, t, t, t, t, t, t, t, t, t, t⟩ : N16 α) i = t) h rfl rfl rfl rfl rfl rfl rfl rfl rfl rfl rfl rfl rfl rfl rfl rfl
theorem KT.get_fill (z : α) : ∀ (d n : Nat), KT.get z d (KT.fill z d) n = z
  | 0, n => by show (if n = 0 then z else z) = z; split <;> rfl
  | d + 1, n => by
    show KT.get z d (N16.sel (α := KT α d) _ (n % 16)) (n / 16) = z
    rw [show N16.sel (α := KT α d) (KT.fill z (d + 1)) (n % 16) = KT.fill z d from N16.sel_same (Nat.mod_lt _ (by omega)) _]
    exact KT.get_fill z d _
end
end
end Go.Proofs.YtgpfgcbolinncaaGreat.Abs
set_option linter.unusedVariables false
set_option linter.unusedSimpArgs false
namespace Go.Proofs.YtgpfgcbolinncaaGreat.Abs
open Go Go.RowKit
noncomputable section

inductive J where
  | nil
  | cons (n : Nat) (o : Option AObj) (r : J)
  | app (a b : J)
def J.flat : J → List (Nat × Option AObj)
  | .nil => []
  | .cons n o r => (n, o) :: r.flat
  | .app a b => a.flat ++ b.flat
abbrev KD : Nat := 6
abbrev KHeap := KT (Option AObj) KD
structure KS where
  h : KHeap
  c : Nat
  b : Nat
  t : Nat
  j : J
  f : List Nat
abbrev KM (α : Type) := KS → (α → KS → Bool) → Bool
def KHeap.at (h : KHeap) (n : Nat) : Option AObj := KT.get none KD h n

structure KRel (x : KS) (s : ST) : Prop where
  base : x.b = s.base
  str : x.t = s.str + 1
  ctr : x.c = s.ctr
  heap : ∀ n o, KHeap.at x.h n = some o → s.heap.dyn.get n = some (some o)
  st : ∀ n, s.heap.st n = none
  jr : s.jr = x.j.flat
  own : ∀ y ∈ s.jr, y.1 ∈ x.f ∨ ∃ k, y.1 = s.nm k
theorem KRel.find {x : KS} {s : ST} (R : KRel x s) {n : Nat} {o : AObj} (h : KHeap.at x.h n = some o) : s.heap.find n = some (some o) := Heap.dyn_find (R.heap n o h)

/-- what the quick run shows, the abstract run does -/
def KSound {α : Type} (m : KM α) (a : AM α) : Prop := ∀ x s k, KRel x s → s.Free → m x k = true → ∃ v s' x', a s = some (v, s') ∧ KRel x' s' ∧ s'.Free ∧ k v x' = true

section
variable {α β : Type}
def kret (a : α) : KM α := fun s k => k a s
def kfail : KM α := fun _ _ => false
def kbind (m : KM α) (f : α → KM β) : KM β := fun s k => m s fun a s' => f a s' k
def kopt (o : Option α) : KM α := fun s k => Option.rec (motive := fun _ => Bool) false (fun a => k a s) o
def kguard (b : Bool) : KM Unit := fun s k => b2 b (k () s) false
theorem KSound.ret (a : α) : KSound (kret a) (AM.ret a) := fun x s k R f h => ⟨a, s, x, rfl, R, f, h⟩
theorem KSound.fail (a : AM α) : KSound kfail a := fun x s k R f h => by cases h
theorem KSound.bind {m : KM α} {f : α → KM β} {a : AM α} {g : α → AM β} (hm : KSound m a) (hf : ∀ v, KSound (f v) (g v)) : KSound (kbind m f) (AM.andThen a g) := by
  intro x s k R fr h
  obtain ⟨v, s1, x1, h1, R1, f1, k1⟩ := hm x s _ R fr h
  obtain ⟨w, s2, x2, h2, R2, f2, k2⟩ := hf v x1 s1 k R1 f1 k1
  exact ⟨w, s2, x2, by unfold AM.andThen; rw [h1]; exact h2, R2, f2, k2⟩
theorem kopt_some {o : Option α} {s : KS} {k : α → KS → Bool} (h : kopt o s k = true) : ∃ a, o = some a ∧ k a s = true := by
  cases o with
  | none => cases h
  | some a => exact ⟨a, rfl, h⟩
theorem KSound.opt (o : Option α) : KSound (kopt o) (AM.ofOption o) := by
  intro x s k R fr h
  obtain ⟨a, rfl, h⟩ := kopt_some h
  exact ⟨a, s, x, rfl, R, fr, h⟩
theorem kguard_some {b : Bool} {s : KS} {k : Unit → KS → Bool} (h : kguard b s k = true) : b = true ∧ k () s = true := by
  cases b with
  | false => cases h
  | true => exact ⟨rfl, h⟩
theorem KSound.guard {b : Bool} {c : Prop} [Decidable c] (hb : b = true → c) : KSound (kguard b) (AM.guard c) := by
  intro x s k R fr h
  obtain ⟨hb', h⟩ := kguard_some h
  exact ⟨(), s, x, guard_eq (hb hb') s, R, fr, h⟩
/-- by an equation -/
theorem KSound.of {m : KM α} {a : AM α} (h : ∀ x s k, KRel x s → s.Free → m x k = true → ∃ v s' x', a s = some (v, s') ∧ KRel x' s' ∧ s'.Free ∧ k v x' = true) : KSound m a := h
theorem KSound.alt {m : KM α} {a : AM α} {b : Bool} {m' : KM α} (h : KSound m a) (h' : KSound m' a) : KSound (fun s k => b2 b (m s k) (m' s k)) a := by
  intro x s k R fr e
  cases b with
  | false => exact h' x s k R fr e
  | true => exact h x s k R fr e
end

/-! ### memory -/
def hgetW (n : Nat) : W (KHeap → Option AObj) := getW none KD n
theorem hgetW_eq (n : Nat) (h : KHeap) : (hgetW n).val h = h.at n := getW_eq none KD n h
def kread (n : Nat) : KM AObj := fun s k => Option.rec (motive := fun _ => Bool) false (fun a => k a s) ((hgetW n).val s.h)
theorem kread_some {n : Nat} {s : KS} {k : AObj → KS → Bool} (h : kread n s k = true) : ∃ o, s.h.at n = some o ∧ k o s = true := by
  unfold kread at h
  rw [hgetW_eq] at h
  cases e : s.h.at n with
  | none => rw [e] at h; cases h
  | some o => rw [e] at h; exact ⟨o, rfl, h⟩
theorem KSound.read (n : Nat) : KSound (kread n) (AM.read n) := by
  intro x s k R fr h
  obtain ⟨o, e, h⟩ := kread_some h
  exact ⟨o, s, x, read_eq (R.find e), R, fr, h⟩
def ownB (b t n : Nat) : Bool := b2 (Nat.ble b n) (Nat.beq (Nat.mod (Nat.sub n b) t) 0) false
theorem ownB_own {b t n : Nat} (h : ownB b t n = true) : ∃ k, n = b + t * k := by
  unfold ownB at h
  cases hb : Nat.ble b n with
  | false => rw [hb] at h; cases h
  | true =>
    rw [hb] at h
    have h : (n - b) % t = 0 := Nat.eq_of_beq_eq_true h
    have hb : b ≤ n := Nat.le_of_ble_eq_true hb
    refine ⟨(n - b) / t, ?_⟩
    have := Nat.div_add_mod (n - b) t
    omega
def hsetW (n : Nat) : W (PutT (Option AObj) KD) := setW KD n
theorem hsetW_some {n : Nat} {h : KHeap} {x : Option AObj} {k : KHeap → Bool} (e : (hsetW n).val h x k = true) : ∃ h', (∀ m, KHeap.at h' m = if m = n then x else KHeap.at h m) ∧ k h' = true := by
  obtain ⟨a, b⟩ := setW_some KD n h x k e
  exact ⟨_, fun m => KT.get_put none KD h n m x a, b⟩
def kwrite (n : Nat) (o : Option AObj) : KM Unit := fun s k => KS.rec (motive := fun _ => Bool) (fun h c b t j f =>
  Option.rec (motive := fun _ => Bool) false (fun _ => (hsetW n).val h o fun h' => b2 (ownB b t n) (k () ⟨h', c, b, t, .cons n o j, f⟩) (k () ⟨h', c, b, t, .cons n o j, n :: f⟩)) ((hgetW n).val h)) s
theorem KSound.write (n : Nat) (o : Option AObj) : KSound (kwrite n o) (AM.write n o) := by
  intro x s k R fr h
  obtain ⟨hp, c, b, t, j, f⟩ := x
  unfold kwrite at h
  simp only [hgetW_eq] at h
  cases e : KHeap.at hp n with
  | none => rw [e] at h; cases h
  | some q =>
    rw [e] at h
    obtain ⟨h', hh, h2⟩ := hsetW_some h
    have hO : Own s n q := R.heap n q e
    have hw := write_eq hO o
    have key : ∀ f', (∀ y ∈ (s.put n o).jr, y.1 ∈ f' ∨ ∃ k, y.1 = (s.put n o).nm k) → KRel ⟨h', c, b, t, .cons n o j, f'⟩ (s.put n o) := by
      intro f' hf
      refine ⟨R.base, R.str, R.ctr, ?_, R.st, ?_, hf⟩
      · intro m p hm
        simp only [hh] at hm
        simp only [ST.put, Heap.dyn_set]
        split at hm
        · rename_i e; rw [if_pos e, hm]
        · rename_i e; rw [if_neg e]; exact R.heap m p hm
      · show (n, o) :: s.jr = (n, o) :: J.flat j
        rw [R.jr]
    have hfree : (s.put n o).Free := (Mono.write n o).free hw fr
    cases eo : ownB b t n with
    | true =>
      rw [eo] at h2
      obtain ⟨i, hi⟩ := ownB_own eo
      refine ⟨(), _, _, hw, key f ?_, hfree, h2⟩
      intro y hy
      rcases List.mem_cons.1 hy with rfl | hy
      · right; exact ⟨i, by show n = s.base + (s.str + 1) * i; rw [hi]; have a := R.base; have c := R.str; simp only at a c; rw [a, c]⟩
      · exact R.own y hy
    | false =>
      rw [eo] at h2
      refine ⟨(), _, _, hw, key (n :: f) ?_, hfree, h2⟩
      intro y hy
      rcases List.mem_cons.1 hy with rfl | hy
      · left; simp
      · rcases R.own y hy with h | h
        · left; simp only at h; simp [h]
        · right; exact h
def kalloc (o : AObj) : KM Nat := fun s k => KS.rec (motive := fun _ => Bool) (fun h c b t j f =>
  force (Nat.add b (Nat.mul t c)) fun n => force (Nat.add c 1) fun c' => (hsetW n).val h (some o) fun h' => k n ⟨h', c', b, t, .cons n (some o) j, f⟩) s
theorem KSound.alloc (o : AObj) : KSound (kalloc o) (AM.alloc o) := by
  intro x s k R fr h
  obtain ⟨hp, c, b, t, j, f⟩ := x
  unfold kalloc at h
  simp only [force_eq] at h
  obtain ⟨h', hh, h2⟩ := hsetW_some h
  have hn : Nat.add b (Nat.mul t c) = s.nm s.ctr := by
    have a := R.base; have d := R.str; have e := R.ctr
    simp only at a d e
    show b + t * c = s.base + (s.str + 1) * s.ctr
    rw [a, d, e]
  have ha := alloc_eq fr o
  refine ⟨_, _, _, ha, ?_, (Mono.alloc o).free ha fr, by rw [hn] at h2; exact h2⟩
  rw [hn] at hh
  refine ⟨R.base, R.str, by show c + 1 = s.ctr + 1; have := R.ctr; simp only at this; omega, ?_, R.st, ?_, ?_⟩
  · intro m p hm
    simp only [hh] at hm
    simp only [ST.push, Heap.dyn_set]
    split at hm
    · rename_i e; rw [if_pos e, hm]
    · rename_i e; rw [if_neg e]; exact R.heap m p hm
  · show (s.nm s.ctr, some o) :: s.jr = _
    rw [R.jr]; rfl
  · intro y hy
    rcases List.mem_cons.1 hy with rfl | hy
    · right; exact ⟨s.ctr, rfl⟩
    · exact R.own y hy
end
end Go.Proofs.YtgpfgcbolinncaaGreat.Abs
set_option linter.unusedVariables false
set_option linter.unusedSimpArgs false
namespace Go.Proofs.YtgpfgcbolinncaaGreat.Abs
open Go Go.RowKit
noncomputable section

/-! ### values taken apart -/
section
variable {β : Type}
def vBool (v : Value) (f : Bool → β) (z : β) : β := Value.casesOn (motive_1 := fun _ => β) v (fun b => f b) (fun _ _ => z) (fun _ _ => z) (fun _ _ _ => z) (fun _ => z) (fun _ => z) (fun _ _ _ => z) (fun _ => z) (fun _ => z) (fun _ _ _ => z) z (fun _ _ => z) z (fun _ => z) (fun _ => z)
def vInt (v : Value) (f : IntKind → Int → β) (z : β) : β := Value.casesOn (motive_1 := fun _ => β) v (fun _ => z) (fun k n => f k n) (fun _ _ => z) (fun _ _ _ => z) (fun _ => z) (fun _ => z) (fun _ _ _ => z) (fun _ => z) (fun _ => z) (fun _ _ _ => z) z (fun _ _ => z) z (fun _ => z) (fun _ => z)
def vStr (v : Value) (f : ByteArray → β) (z : β) : β := Value.casesOn (motive_1 := fun _ => β) v (fun _ => z) (fun _ _ => z) (fun _ _ => z) (fun _ _ _ => z) (fun s => f s) (fun _ => z) (fun _ _ _ => z) (fun _ => z) (fun _ => z) (fun _ _ _ => z) z (fun _ _ => z) z (fun _ => z) (fun _ => z)
def oAddr (a : Option Addr) (f : Nat → Nat → β) (z : β) : β := Option.casesOn (motive := fun _ => β) a z (fun ad => Addr.casesOn (motive := fun _ => β) ad fun n o sp => Option.casesOn (motive := fun _ => β) sp (f n o) (fun _ => z))
def vPtr (v : Value) (f : Nat → Nat → β) (z : β) : β := Value.casesOn (motive_1 := fun _ => β) v (fun _ => z) (fun _ _ => z) (fun _ _ => z) (fun _ _ _ => z) (fun _ => z) (fun a => oAddr a f z) (fun _ _ _ => z) (fun _ => z) (fun _ => z) (fun _ _ _ => z) z (fun _ _ => z) z (fun _ => z) (fun _ => z)
def vSlice (v : Value) (f : Option Addr → Nat → Nat → β) (z : β) : β := Value.casesOn (motive_1 := fun _ => β) v (fun _ => z) (fun _ _ => z) (fun _ _ => z) (fun _ _ _ => z) (fun _ => z) (fun _ => z) (fun a l c => f a l c) (fun _ => z) (fun _ => z) (fun _ _ _ => z) z (fun _ _ => z) z (fun _ => z) (fun _ => z)
def vAgg (v : Value) (f : Array Value → β) (z : β) : β := Value.casesOn (motive_1 := fun _ => β) v (fun _ => z) (fun _ _ => z) (fun _ _ => z) (fun _ _ _ => z) (fun _ => z) (fun _ => z) (fun _ _ _ => z) (fun _ => z) (fun _ => z) (fun _ _ _ => z) z (fun _ _ => z) z (fun c => f c) (fun _ => z)
def vTuple (v : Value) (f : Array Value → β) (z : β) : β := Value.casesOn (motive_1 := fun _ => β) v (fun _ => z) (fun _ _ => z) (fun _ _ => z) (fun _ _ _ => z) (fun _ => z) (fun _ => z) (fun _ _ _ => z) (fun _ => z) (fun _ => z) (fun _ _ _ => z) z (fun _ _ => z) z (fun _ => z) (fun c => f c)
def vFunc (v : Value) (f : Fn → Array Value → Array Value → β) (z : β) : β := Value.casesOn (motive_1 := fun _ => β) v (fun _ => z) (fun _ _ => z) (fun _ _ => z) (fun _ _ _ => z) (fun _ => z) (fun _ => z) (fun _ _ _ => z) (fun _ => z) (fun _ => z) (fun fn a b => f fn a b) z (fun _ _ => z) z (fun _ => z) (fun _ => z)
def oCells (o : AObj) (f : List Value → TypeId → β) (z : β) : β := AObj.casesOn (motive := fun _ => β) o (fun c e => f c e) (fun _ _ => z) (fun _ _ => z) (fun _ _ _ _ => z)
def iNat (n : Int) (f : Nat → β) (z : β) : β := Int.casesOn (motive := fun _ => β) n (fun m => f m) (fun _ => z)
end
theorem vBool_true {v : Value} {f : Bool → Bool} (h : vBool v f false = true) : ∃ b, v = .bool b ∧ f b = true := by cases v <;> first | exact ⟨_, rfl, h⟩ | cases h
theorem vStr_true {v : Value} {f : ByteArray → Bool} (h : vStr v f false = true) : ∃ b, v = .string b ∧ f b = true := by cases v <;> first | exact ⟨_, rfl, h⟩ | cases h
theorem vInt_true {v : Value} {f : IntKind → Int → Bool} (h : vInt v f false = true) : ∃ k n, v = .int k n ∧ f k n = true := by cases v <;> first | exact ⟨_, _, rfl, h⟩ | cases h
theorem vSlice_true {v : Value} {f : Option Addr → Nat → Nat → Bool} (h : vSlice v f false = true) : ∃ a l c, v = .slice a l c ∧ f a l c = true := by cases v <;> first | exact ⟨_, _, _, rfl, h⟩ | cases h
theorem vAgg_true {v : Value} {f : Array Value → Bool} (h : vAgg v f false = true) : ∃ c, v = .agg c ∧ f c = true := by cases v <;> first | exact ⟨_, rfl, h⟩ | cases h
theorem vTuple_true {v : Value} {f : Array Value → Bool} (h : vTuple v f false = true) : ∃ c, v = .tuple c ∧ f c = true := by cases v <;> first | exact ⟨_, rfl, h⟩ | cases h
theorem vFunc_true {v : Value} {f : Fn → Array Value → Array Value → Bool} (h : vFunc v f false = true) : ∃ g a b, v = .func g a b ∧ f g a b = true := by cases v <;> first | exact ⟨_, _, _, rfl, h⟩ | cases h
theorem oAddr_true {a : Option Addr} {f : Nat → Nat → Bool} (h : oAddr a f false = true) : ∃ n o, a = some ⟨n, o, none⟩ ∧ f n o = true := by
  cases a with
  | none => cases h
  | some ad =>
    obtain ⟨n, o, sp⟩ := ad
    cases sp with
    | none => exact ⟨n, o, rfl, h⟩
    | some _ => cases h
theorem vPtr_true {v : Value} {f : Nat → Nat → Bool} (h : vPtr v f false = true) : ∃ n o, v = .pointer (some ⟨n, o, none⟩) ∧ f n o = true := by
  cases v with
  | pointer a => obtain ⟨n, o, rfl, h⟩ := oAddr_true h; exact ⟨n, o, rfl, h⟩
  | _ => cases h
theorem oCells_true {o : AObj} {f : List Value → TypeId → Bool} (h : oCells o f false = true) : ∃ c e, o = .cells c e ∧ f c e = true := by cases o <;> first | exact ⟨_, _, rfl, h⟩ | cases h
theorem iNat_true {n : Int} {f : Nat → Bool} (h : iNat n f false = true) : ∃ m : Nat, n = (m : Int) ∧ f m = true := by
  cases n with
  | ofNat m => exact ⟨m, rfl, h⟩
  | negSucc m => cases h

/-! ### rows -/
section
variable {β : Type}
abbrev NthT (β : Type) := List β → (β → Bool) → Bool
def nthW (i : Nat) : W (NthT β) := Nat.rec (motive := fun _ => W (NthT β)) ⟨fun l k => List.casesOn (motive := fun _ => Bool) l false (fun a _ => k a)⟩ (fun _ ih => ⟨fun l k => List.casesOn (motive := fun _ => Bool) l false (fun _ r => ih.val r k)⟩) i
theorem nthW_true : ∀ {i : Nat} {l : List β} {k : β → Bool}, (nthW i).val l k = true → ∃ a, l[i]? = some a ∧ k a = true
  | 0, [], k, h => by cases h
  | 0, a :: l, k, h => ⟨a, rfl, h⟩
  | i + 1, [], k, h => by cases h
  | i + 1, a :: l, k, h => by
    obtain ⟨x, e, h⟩ := nthW_true (i := i) (l := l) h
    exact ⟨x, by simpa using e, h⟩
abbrev SetT (β : Type) := List β → β → (List β → Bool) → Bool
def lsetW (i : Nat) : W (SetT β) := Nat.rec (motive := fun _ => W (SetT β)) ⟨fun l x k => List.casesOn (motive := fun _ => Bool) l false (fun a r => k (x :: r))⟩ (fun _ ih => ⟨fun l x k => List.casesOn (motive := fun _ => Bool) l false (fun a r => ih.val r x fun r' => k (a :: r'))⟩) i
theorem lsetW_true : ∀ {i : Nat} {l : List β} {x : β} {k : List β → Bool}, (lsetW i).val l x k = true → i < l.length ∧ k (l.set i x) = true
  | 0, [], x, k, h => by cases h
  | 0, a :: l, x, k, h => ⟨by simp, h⟩
  | i + 1, [], x, k, h => by cases h
  | i + 1, a :: l, x, k, h => by
    obtain ⟨e, h⟩ := lsetW_true (i := i) (l := l) (k := fun r' => k (a :: r')) h
    exact ⟨by simp; omega, h⟩
abbrev TakeT (β : Type) := List β → (List β → Bool) → Bool
def takeW (n : Nat) : W (TakeT β) := Nat.rec (motive := fun _ => W (TakeT β)) ⟨fun l k => k []⟩ (fun _ ih => ⟨fun l k => List.casesOn (motive := fun _ => Bool) l false (fun a r => ih.val r fun r' => k (a :: r'))⟩) n
theorem takeW_true : ∀ {n : Nat} {l : List β} {k : List β → Bool}, (takeW n).val l k = true → n ≤ l.length ∧ k (l.take n) = true
  | 0, l, k, h => ⟨by simp, by have h : k [] = true := h; simpa using h⟩
  | n + 1, [], k, h => by cases h
  | n + 1, a :: l, k, h => by
    obtain ⟨e, h⟩ := takeW_true (n := n) (l := l) (k := fun r' => k (a :: r')) h
    exact ⟨by simp; omega, by simpa using h⟩
def dropW (n : Nat) : W (TakeT β) := Nat.rec (motive := fun _ => W (TakeT β)) ⟨fun l k => k l⟩ (fun _ ih => ⟨fun l k => List.casesOn (motive := fun _ => Bool) l false (fun a r => ih.val r k)⟩) n
theorem dropW_true : ∀ {n : Nat} {l : List β} {k : List β → Bool}, (dropW n).val l k = true → n ≤ l.length ∧ k (l.drop n) = true
  | 0, l, k, h => ⟨by simp, by have h : k l = true := h; simpa using h⟩
  | n + 1, [], k, h => by cases h
  | n + 1, a :: l, k, h => by
    obtain ⟨e, h⟩ := dropW_true (n := n) (l := l) h
    exact ⟨by simp; omega, by simpa using h⟩
/-- a row copied in front of another, cell by cell -/
def onto (l m : List β) (k : List β → Bool) : Bool := List.rec (motive := fun _ => (List β → Bool) → Bool) (fun k => k m) (fun a _ ih k => ih fun r => k (a :: r)) l k
theorem onto_eq (l m : List β) (k : List β → Bool) : onto l m k = k (l ++ m) := by
  induction l generalizing k with
  | nil => rfl
  | cons a l ih => exact ih fun r => k (a :: r)
/-- how many (worked out) -/
def count (l : List β) (k : Nat → Bool) : Bool := List.rec (motive := fun _ => Nat → Bool) (fun n => k n) (fun _ _ ih n => force (Nat.add n 1) ih) l 0
theorem count_eq (l : List β) (k : Nat → Bool) : count l k = k l.length := by
  have : ∀ (l : List β) (n : Nat), (List.rec (motive := fun _ => Nat → Bool) (fun n => k n) (fun _ _ ih n => force (Nat.add n 1) ih) l n : Bool) = k (n + l.length) := by
    intro l
    induction l with
    | nil => intro n; rfl
    | cons a l ih => intro n; show (List.rec (motive := fun _ => Nat → Bool) (fun n => k n) (fun _ _ ih n => force (Nat.add n 1) ih) l (n + 1) : Bool) = _; rw [ih]; congr 1; simp; omega
  have h := this l 0
  rw [Nat.zero_add] at h
  exact h
end

/-! ### frames -/
abbrev Env := KT Value 2
def slotW (t : Nat) : W (Env → Value) := getW undef 2 t
structure EnvRel (e : Env) (tr : Trie Value) : Prop where
  get : ∀ t, KT.get undef 2 e t = (tr.get t).getD undef
def opdW : Operand → W (Env → Value)
  | .tmp t => slotW t
  | .const v => b2 (plain 3 v) ⟨fun _ => v⟩ ⟨fun _ => topV⟩
  | .global _ => ⟨fun _ => topV⟩
  | .func f => ⟨fun _ => .func (.func f) #[] #[]⟩
theorem opdW_eq {e : Env} {tr : Trie Value} (h : EnvRel e tr) (x : Operand) : (opdW x).val e = evalV tr x := by
  cases x with
  | tmp t => exact (getW_eq undef 2 t e).trans (h.get t)
  | const v => simp only [opdW, evalV]; cases plain 3 v <;> rfl
  | global g => rfl
  | func f => rfl
/-- a slot read so that its value stands there as it is -/
abbrev RdT := Env → (Value → Bool) → Bool
def ltB (a b : Nat) : Bool := Nat.ble (Nat.add a 1) b
theorem ltB_true {a b : Nat} (h : ltB a b = true) : a < b := Nat.le_of_ble_eq_true h
theorem ltB_false {a b : Nat} (h : ltB a b = false) : ¬ a < b := fun c => by
  have : ltB a b = true := Nat.ble_eq_true_of_le c
  rw [h] at this; cases this
def rtW (t : Nat) : W RdT := b2 (ltB t 256) (force (Nat.mod t 16) fun r => force (Nat.div t 16) fun q => ⟨fun e k => (updW (α := N16 Value) r).val e (fun c _ => (updW (α := Value) q).val c (fun v _ => k v) (fun _ => false)) (fun _ => false)⟩) ⟨fun e k => k undef⟩
theorem rtW_eq {e : Env} (t : Nat) (k : Value → Bool) : (rtW t).val e k = k (KT.get undef 2 e t) := by
  unfold rtW
  cases hb : ltB t 256 with
  | true =>
    have hlt := ltB_true hb
    show (updW (α := N16 Value) (t % 16)).val e _ _ = _
    rw [updW_eq (Nat.mod_lt _ (by omega))]
    show (updW (α := Value) (t / 16)).val _ _ _ = _
    rw [updW_eq (by omega)]
    show k _ = k _
    congr 1
    show _ = KT.get undef 0 (N16.sel (α := Value) (N16.sel (α := N16 Value) e (t % 16)) (t / 16 % 16)) (t / 16 / 16)
    have h0 : t / 16 / 16 = 0 := by omega
    rw [h0, show t / 16 % 16 = t / 16 by omega]
    rfl
  | false =>
    have hge := ltB_false hb
    show k undef = k _
    congr 1
    show undef = (if t / 16 / 16 = 0 then _ else undef)
    rw [if_neg (by omega)]
def rdW : Operand → W RdT
  | .tmp t => rtW t
  | .const v => b2 (plain 3 v) ⟨fun _ k => k v⟩ ⟨fun _ k => k topV⟩
  | .global _ => ⟨fun _ k => k topV⟩
  | .func f => ⟨fun _ k => k (.func (.func f) #[] #[])⟩
theorem rdW_eq {e : Env} {tr : Trie Value} (h : EnvRel e tr) (x : Operand) (k : Value → Bool) : (rdW x).val e k = k (evalV tr x) := by
  cases x with
  | tmp t => exact (rtW_eq t k).trans (by rw [h.get t]; rfl)
  | const v => simp only [rdW, evalV]; cases plain 3 v <;> rfl
  | global g => rfl
  | func f => rfl
def rdsW : List Operand → W (Env → (List Value → Bool) → Bool)
  | [] => ⟨fun _ k => k []⟩
  | x :: r => ⟨fun e k => (rdW x).val e fun v => (rdsW r).val e fun vs => k (v :: vs)⟩
theorem rdsW_eq {e : Env} {tr : Trie Value} (h : EnvRel e tr) : ∀ (l : List Operand) (k : List Value → Bool), (rdsW l).val e k = k (l.map (evalV tr))
  | [], k => rfl
  | x :: r, k => by
    show (rdW x).val e _ = _
    rw [rdW_eq h, rdsW_eq h r]
    rfl
def rdpW : List (Nat × Operand) → W (Env → (List (Nat × Value) → Bool) → Bool)
  | [] => ⟨fun _ k => k []⟩
  | x :: r => ⟨fun e k => (rdW x.2).val e fun v => (rdpW r).val e fun vs => k ((x.1, v) :: vs)⟩
theorem rdpW_eq {e : Env} {tr : Trie Value} (h : EnvRel e tr) : ∀ (l : List (Nat × Operand)) (k : List (Nat × Value) → Bool), (rdpW l).val e k = k (l.map fun p => (p.1, evalV tr p.2))
  | [], k => rfl
  | x :: r, k => by
    show (rdW x.2).val e _ = _
    rw [rdW_eq h, rdpW_eq h r]
    rfl
/-- a result is put -/
abbrev PutV := Env → Value → (Env → Bool) → Bool
def putW (n : Nat) : Option Tmp → W PutV
  | none => ⟨fun e _ k => k e⟩
  | some t => b2 (ltB t n) (setW 2 t) ⟨fun _ _ _ => false⟩
theorem putW_some {n : Nat} {dst : Option Tmp} {e : Env} {v : Value} {k : Env → Bool} {fr : Fr} (h : (putW n dst).val e v k = true) (R : EnvRel e fr.env) (hn : fr.n = n) : ∃ fr' e', putF fr dst v = some fr' ∧ EnvRel e' fr'.env ∧ fr'.n = n ∧ fr'.defs = fr.defs ∧ k e' = true := by
  cases dst with
  | none => exact ⟨fr, e, rfl, R, hn, rfl, h⟩
  | some t =>
    simp only [putW] at h
    cases hb : ltB t n with
    | false => rw [hb] at h; cases h
    | true =>
      rw [hb] at h
      obtain ⟨hf, hk⟩ := setW_some 2 t e v k h
      have hlt : t < fr.n := by rw [hn]; exact ltB_true hb
      refine ⟨{ fr with env := fr.env.set t v }, _, by simp only [putF]; rw [if_pos hlt], ⟨fun i => ?_⟩, hn, rfl, hk⟩
      rw [KT.get_put undef 2 e t i v hf, Trie.get_set]
      split
      · rfl
      · exact R.get i
end
end Go.Proofs.YtgpfgcbolinncaaGreat.Abs
