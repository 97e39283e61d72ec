/- The heap of the abstract run: a trie over numbers, a state, and partial steps that a larger heap does not disturb. How the abstract heap stands to the machine's world: values, objects, worlds. Operations that touch no memory: what the abstract run makes of them, and that the machine does the same. Operations that touch no memory, the rest: places, parts, slices' bounds, tuples, calls. Operations on memory: variables, rows, loads and stores, append. -/
import Derived.Calls
import Derived.Orders
import Derived.LoopN
import Derived.Below
import Derived.Laws.Cells
import Derived.Laws.Entries
import Derived.ChangeKeysEq
import Derived.Laws.Append
import Derived.Laws.CopyRow
set_option linter.unusedVariables false
set_option linter.unusedSimpArgs false
namespace Go.Proofs.YtgpfgcbolinncaaGreat.Abs
open Go

/-! ### 1. A trie -/
inductive Trie (α : Type) where
  | leaf
  | node (v : Option α) (l r : Trie α)

namespace Trie
variable {α : Type}
def get : Trie α → Nat → Option α
  | .leaf, _ => none
  | .node v l r, n => if n = 0 then v else if n % 2 = 1 then l.get (n / 2) else r.get (n / 2 - 1)
def val : Trie α → Option α | .leaf => none | .node v _ _ => v
def left : Trie α → Trie α | .leaf => .leaf | .node _ l _ => l
def right : Trie α → Trie α | .leaf => .leaf | .node _ _ r => r
def put (x : Option α) : Nat → Trie α → Nat → Trie α
  | 0, t, _ => t
  | f + 1, t, n => if n = 0 then .node x t.left t.right
    else if n % 2 = 1 then .node t.val (put x f t.left (n / 2)) t.right else .node t.val t.left (put x f t.right (n / 2 - 1))
def set (t : Trie α) (n : Nat) (x : α) : Trie α := put (some x) (n + 1) t n
def erase (t : Trie α) (n : Nat) : Trie α := put none (n + 1) t n
theorem get_parts (t : Trie α) (n : Nat) : t.get n = if n = 0 then t.val else if n % 2 = 1 then t.left.get (n / 2) else t.right.get (n / 2 - 1) := by
  cases t with
  | leaf => simp [get, val, left, right]
  | node v l r => simp [get, val, left, right]
theorem get_put (x : Option α) : ∀ (f : Nat) (t : Trie α) (n m : Nat), n < f → (put x f t n).get m = if m = n then x else t.get m := by
  intro f
  induction f with
  | zero => intro t n m h; omega
  | succ f ih =>
    intro t n m h
    unfold put
    by_cases hn : n = 0
    · subst hn
      rw [if_pos rfl]
      by_cases hm : m = 0
      · subst hm; simp [get]
      · rw [if_neg hm, get_parts t m, if_neg hm]
        simp [get, hm]
    · rw [if_neg hn]
      by_cases ho : n % 2 = 1
      · rw [if_pos ho]
        rw [get_parts t m]
        simp only [get]
        by_cases hm : m = 0
        · subst hm; rw [if_pos rfl, if_pos rfl, if_neg (Ne.symm hn)]
        · rw [if_neg hm, if_neg hm]
          by_cases hmo : m % 2 = 1
          · rw [if_pos hmo, if_pos hmo, ih _ _ _ (by omega)]
            by_cases e : m = n
            · subst e; simp
            · rw [if_neg e, if_neg (by omega)]
          · rw [if_neg hmo, if_neg hmo, if_neg (by intro e; subst e; exact hmo ho)]
      · rw [if_neg ho]
        rw [get_parts t m]
        simp only [get]
        by_cases hm : m = 0
        · subst hm; rw [if_pos rfl, if_pos rfl, if_neg (Ne.symm hn)]
        · rw [if_neg hm, if_neg hm]
          by_cases hmo : m % 2 = 1
          · rw [if_pos hmo, if_pos hmo, if_neg (by intro e; subst e; exact ho hmo)]
          · rw [if_neg hmo, if_neg hmo, ih _ _ _ (by omega)]
            by_cases e : m = n
            · subst e; simp
            · rw [if_neg e, if_neg (by omega)]
theorem get_set (t : Trie α) (n m : Nat) (x : α) : (t.set n x).get m = if m = n then some x else t.get m := get_put (some x) (n + 1) t n m (by omega)
theorem get_erase (t : Trie α) (n m : Nat) : (t.erase n).get m = if m = n then none else t.get m := get_put none (n + 1) t n m (by omega)
theorem get_set_same (t : Trie α) (n : Nat) (x : α) : (t.set n x).get n = some x := by rw [get_set, if_pos rfl]
theorem get_set_ne (t : Trie α) {n m : Nat} (x : α) (h : m ≠ n) : (t.set n x).get m = t.get m := by rw [get_set, if_neg h]
end Trie

/-! ### 2. The abstract heap -/
inductive AObj where
  | cells (c : List Value) (elem : TypeId)
  | map (es : List MapEntry) (clock : Nat)
  | strIter (s : ByteArray) (pos : Nat)
  | mapIter (m : Option Nat) (since : Nat) (seen : List Nat) (last : Nat)

structure Heap where
  st : Nat → Option AObj
  dyn : Trie (Option AObj)

namespace Heap
/-- what is known of a name: none: nothing; some none: it is dead -/
def find (h : Heap) (n : Nat) : Option (Option AObj) := match h.dyn.get n with | some o => some o | none => (h.st n).map some
def set (h : Heap) (n : Nat) (o : Option AObj) : Heap := { h with dyn := h.dyn.set n o }
theorem find_set (h : Heap) (n m : Nat) (o : Option AObj) : (h.set n o).find m = if m = n then some o else h.find m := by
  unfold find set
  simp only [Trie.get_set]
  by_cases e : m = n
  · simp [e]
  · simp [e]
theorem dyn_set (h : Heap) (n m : Nat) (o : Option AObj) : (h.set n o).dyn.get m = if m = n then some o else h.dyn.get m := by
  simp [set, Trie.get_set]
@[simp] theorem st_set (h : Heap) (n : Nat) (o : Option AObj) : (h.set n o).st = h.st := rfl
def sets (h : Heap) : List (Nat × Option AObj) → Heap
  | [] => h
  | (n, o) :: r => (h.sets r).set n o
theorem sets_append (h : Heap) (a b : List (Nat × Option AObj)) : h.sets (a ++ b) = (h.sets b).sets a := by
  induction a with
  | nil => rfl
  | cons x a ih => obtain ⟨n, o⟩ := x; simp only [List.cons_append, sets, ih]
@[simp] theorem st_sets (h : Heap) (l : List (Nat × Option AObj)) : (h.sets l).st = h.st := by
  induction l with
  | nil => rfl
  | cons x l ih => obtain ⟨n, o⟩ := x; simp [sets, ih]
/-- a heap that forgets some names -/
def hides (h : Heap) : List Nat → Heap
  | [] => h
  | n :: r => { h.hides r with dyn := (h.hides r).dyn.erase n }
@[simp] theorem st_hides (h : Heap) (l : List Nat) : (h.hides l).st = h.st := by
  induction l with
  | nil => rfl
  | cons x l ih => simp [hides, ih]
theorem dyn_hides (h : Heap) (m : Nat) : ∀ (l : List Nat), (h.hides l).dyn.get m = if m ∈ l then none else h.dyn.get m
  | [] => by simp [hides]
  | x :: l => by
    simp only [hides, Trie.get_erase, dyn_hides h m l, List.mem_cons]
    by_cases e : m = x
    · simp [e]
    · simp [e]
/-- one heap knows what another knows, and perhaps more -/
structure Ext (h h2 : Heap) : Prop where
  st : h2.st = h.st
  dyn : ∀ n, h.find n ≠ none → h2.dyn.get n = h.dyn.get n
theorem Ext.refl (h : Heap) : Ext h h := ⟨rfl, fun _ _ => rfl⟩
theorem Ext.find {h h2 : Heap} (e : Ext h h2) {n : Nat} (hn : h.find n ≠ none) : h2.find n = h.find n := by
  unfold Heap.find; rw [e.dyn n hn, e.st]
theorem Ext.set {h h2 : Heap} (e : Ext h h2) (n : Nat) (o : Option AObj) : Ext (h.set n o) (h2.set n o) := by
  refine ⟨by simp [e.st], fun m hm => ?_⟩
  rw [dyn_set, dyn_set]
  by_cases c : m = n
  · simp [c]
  · rw [find_set, if_neg c] at hm
    simp [c, e.dyn m hm]
theorem Ext.sets {h h2 : Heap} (e : Ext h h2) (l : List (Nat × Option AObj)) : Ext (h.sets l) (h2.sets l) := by
  induction l with
  | nil => exact e
  | cons x l ih => obtain ⟨n, o⟩ := x; exact ih.set n o
theorem find_hides {h : Heap} {l : List Nat} (hs : ∀ m ∈ l, h.st m = none) (m : Nat) : (h.hides l).find m = if m ∈ l then none else h.find m := by
  unfold find
  rw [dyn_hides, st_hides]
  by_cases e : m ∈ l
  · rw [if_pos e, if_pos e]
    simp [hs m e]
  · rw [if_neg e, if_neg e]
theorem Ext.hides {h h2 : Heap} (e : Ext h h2) {l : List Nat} (hs : ∀ m ∈ l, h.st m = none) : Ext (h.hides l) (h2.hides l) := by
  refine ⟨by simp [e.st], fun m hm => ?_⟩
  rw [find_hides hs] at hm
  rw [dyn_hides, dyn_hides]
  by_cases c : m ∈ l
  · rw [if_pos c, if_pos c]
  · rw [if_neg c] at hm
    rw [if_neg c, if_neg c]; exact e.dyn m hm
end Heap

/-! ### 3. The state and its steps -/
structure ST where
  heap : Heap
  base : Nat
  str : Nat
  ctr : Nat
  jr : List (Nat × Option AObj)

def ST.nm (s : ST) (k : Nat) : Nat := s.base + (s.str + 1) * k

theorem nm_inj {b s i j : Nat} : b + (s + 1) * i = b + (s + 1) * j ↔ i = j := by
  constructor
  · intro h
    have h1 : (s + 1) * i = (s + 1) * j := by omega
    exact Nat.eq_of_mul_eq_mul_left (by omega) h1
  · intro h; subst h; rfl

def AM (α : Type) := ST → Option (α × ST)
namespace AM
variable {α β : Type}
def ret (a : α) : AM α := fun s => some (a, s)
def fail : AM α := fun _ => none
def andThen (m : AM α) (f : α → AM β) : AM β := fun s => match m s with | some (a, s') => f a s' | none => none
def read (n : Nat) : AM AObj := fun s => match s.heap.find n with | some (some o) => some (o, s) | _ => none
def write (n : Nat) (o : Option AObj) : AM Unit := fun s => match s.heap.dyn.get n with
  | some (some _) => some ((), { s with heap := s.heap.set n o, jr := (n, o) :: s.jr })
  | _ => none
/-- is a name one that this run made (or may write)? -/
def isDyn (n : Nat) : AM Bool := fun s => match s.heap.find n with | some _ => some ((s.heap.dyn.get n).isSome, s) | none => none
def alloc (o : AObj) : AM Nat := fun s => match s.heap.find (s.nm s.ctr) with
  | none => some (s.nm s.ctr, { s with heap := s.heap.set (s.nm s.ctr) (some o), ctr := s.ctr + 1, jr := (s.nm s.ctr, some o) :: s.jr })
  | some _ => none
def ofOption (o : Option α) : AM α := match o with | some a => ret a | none => fail

theorem andThen_some {m : AM α} {f : α → AM β} {s : ST} {b : β} {s' : ST} (h : andThen m f s = some (b, s')) : ∃ a s1, m s = some (a, s1) ∧ f a s1 = some (b, s') := by
  unfold andThen at h
  split at h
  · rename_i a s1 e; exact ⟨a, s1, e, h⟩
  · cases h
end AM

/-- Names are free from a number on. -/
def FreeIn (h : Heap) (b st k0 : Nat) : Prop := ∀ k, k0 ≤ k → h.find (b + (st + 1) * k) = none

/-- What a step does: it leaves a journal; a heap that knows more lets it do the same. -/
structure Did (s s' : ST) (d : List (Nat × Option AObj)) : Prop where
  jr : s'.jr = d ++ s.jr
  heap : s'.heap = s.heap.sets d
  base : s'.base = s.base
  str : s'.str = s.str
  ctr : s.ctr ≤ s'.ctr
  names : ∀ x ∈ d, s.heap.find x.1 ≠ none ∨ ∃ k, s.ctr ≤ k ∧ k < s'.ctr ∧ x.1 = s.nm k

def Mono {α : Type} (m : AM α) : Prop := ∀ s r s', m s = some (r, s') → ∃ d, Did s s' d ∧
  ∀ h2 j2, Heap.Ext s.heap h2 → FreeIn h2 s.base s.str s.ctr → m { s with heap := h2, jr := j2 } = some (r, { s' with heap := h2.sets d, jr := d ++ j2 })

theorem Did.refl (s : ST) : Did s s [] := ⟨rfl, rfl, rfl, rfl, Nat.le_refl _, by simp⟩

theorem Heap.find_sets_names {h : Heap} {d : List (Nat × Option AObj)} {n : Nat} (hn : ∀ x ∈ d, x.1 ≠ n) : (h.sets d).find n = h.find n := by
  induction d with
  | nil => rfl
  | cons x d ih =>
    obtain ⟨m, o⟩ := x
    simp only [Heap.sets, Heap.find_set]
    rw [if_neg (fun e => hn (m, o) (by simp) e.symm), ih (fun y hy => hn y (by simp [hy]))]

theorem Heap.dyn_sets_names {h : Heap} {d : List (Nat × Option AObj)} {n : Nat} (hn : ∀ x ∈ d, x.1 ≠ n) : (h.sets d).dyn.get n = h.dyn.get n := by
  induction d with
  | nil => rfl
  | cons x d ih =>
    obtain ⟨m, o⟩ := x
    simp only [Heap.sets, Heap.dyn_set]
    rw [if_neg (fun e => hn (m, o) (by simp) e.symm), ih (fun y hy => hn y (by simp [hy]))]

theorem Heap.find_sets_known {h : Heap} {d : List (Nat × Option AObj)} {n : Nat} (hn : h.find n ≠ none) : (h.sets d).find n ≠ none := by
  induction d with
  | nil => exact hn
  | cons x d ih =>
    obtain ⟨m, o⟩ := x
    simp only [Heap.sets, Heap.find_set]
    split
    · simp
    · exact ih

theorem Heap.find_sets_mem {h : Heap} {d : List (Nat × Option AObj)} {n : Nat} (hn : ∃ x ∈ d, x.1 = n) : (h.sets d).find n ≠ none := by
  induction d with
  | nil => obtain ⟨x, hx, _⟩ := hn; simp at hx
  | cons x d ih =>
    obtain ⟨m, o⟩ := x
    simp only [Heap.sets, Heap.find_set]
    split
    · simp
    · rename_i hne
      refine ih ?_
      obtain ⟨y, hy, e⟩ := hn
      rcases List.mem_cons.1 hy with rfl | hy
      · exact absurd e.symm hne
      · exact ⟨y, hy, e⟩

/-- Freshness behind a step, in a larger heap. -/
theorem Did.free {s s' : ST} {d : List (Nat × Option AObj)} (D : Did s s' d) {h2 : Heap} (e : Heap.Ext s.heap h2) (f : FreeIn h2 s.base s.str s.ctr) : FreeIn (h2.sets d) s'.base s'.str s'.ctr := by
  intro k hk
  rw [D.base, D.str]
  rw [Heap.find_sets_names]
  · exact f k (Nat.le_trans D.ctr hk)
  · intro x hx ex
    rcases D.names x hx with h | ⟨j, h1, h2', h3⟩
    · have := e.find h
      rw [ex] at this h
      exact h (this ▸ f k (Nat.le_trans D.ctr hk))
    · rw [h3] at ex
      have := nm_inj.1 ex
      omega

theorem Did.trans {s s1 s2 : ST} {d1 d2 : List (Nat × Option AObj)} (a : Did s s1 d1) (b : Did s1 s2 d2) : Did s s2 (d2 ++ d1) := by
  refine ⟨by rw [b.jr, a.jr, List.append_assoc], by rw [b.heap, a.heap, Heap.sets_append], b.base.trans a.base, b.str.trans a.str, Nat.le_trans a.ctr b.ctr, ?_⟩
  intro x hx
  rcases List.mem_append.1 hx with hx | hx
  · rcases b.names x hx with h | ⟨k, h1, h2, h3⟩
    · by_cases hk : s.heap.find x.1 = none
      · right
        have : ∃ y ∈ d1, y.1 = x.1 := by
          apply Classical.byContradiction
          intro hc
          refine h ?_
          rw [a.heap, Heap.find_sets_names (fun y hy e => hc ⟨y, hy, e⟩)]
          exact hk
        obtain ⟨y, hy, ey⟩ := this
        rcases a.names y hy with h' | ⟨k, h1, h2, h3⟩
        · exact absurd (ey ▸ hk) h'
        · exact ⟨k, h1, Nat.lt_of_lt_of_le h2 b.ctr, ey ▸ h3⟩
      · exact .inl hk
    · right
      refine ⟨k, Nat.le_trans a.ctr h1, h2, ?_⟩
      rw [h3]; simp only [ST.nm, a.base, a.str]
  · rcases a.names x hx with h | ⟨k, h1, h2, h3⟩
    · exact .inl h
    · exact .inr ⟨k, h1, Nat.lt_of_lt_of_le h2 b.ctr, h3⟩

namespace Mono
variable {α β : Type}
theorem ret (a : α) : Mono (AM.ret a) := by
  intro s r s' h
  simp only [AM.ret, Option.some.injEq, Prod.mk.injEq] at h
  obtain ⟨rfl, rfl⟩ := h
  exact ⟨[], Did.refl _, fun h2 j2 _ _ => rfl⟩
theorem fail : Mono (AM.fail : AM α) := by
  intro s r s' h
  simp [AM.fail] at h
theorem andThen {m : AM α} {f : α → AM β} (hm : Mono m) (hf : ∀ a, Mono (f a)) : Mono (AM.andThen m f) := by
  intro s r s' h
  obtain ⟨a, s1, h1, h2⟩ := AM.andThen_some h
  obtain ⟨d1, D1, e1⟩ := hm s a s1 h1
  obtain ⟨d2, D2, e2⟩ := hf a s1 r s' h2
  refine ⟨d2 ++ d1, D1.trans D2, fun h2 j2 he hfree => ?_⟩
  unfold AM.andThen
  rw [e1 h2 j2 he hfree]
  simp only []
  have q := e2 (h2.sets d1) (d1 ++ j2) (by rw [D1.heap]; exact he.sets d1) (D1.free he hfree)
  rw [q, Heap.sets_append, List.append_assoc]
theorem read (n : Nat) : Mono (AM.read n) := by
  intro s r s' h
  unfold AM.read at h
  split at h
  · rename_i o ho
    simp only [Option.some.injEq, Prod.mk.injEq] at h
    obtain ⟨rfl, rfl⟩ := h
    refine ⟨[], Did.refl _, fun h2 j2 he _ => ?_⟩
    unfold AM.read
    simp only [he.find (n := n) (by rw [ho]; simp), ho]
    rfl
  · cases h
theorem isDyn (n : Nat) : Mono (AM.isDyn n) := by
  intro s r s' h
  unfold AM.isDyn at h
  split at h
  · rename_i o ho
    simp only [Option.some.injEq, Prod.mk.injEq] at h
    obtain ⟨rfl, rfl⟩ := h
    refine ⟨[], Did.refl _, fun h2 j2 he _ => ?_⟩
    unfold AM.isDyn
    simp only [he.find (n := n) (by rw [ho]; simp), ho, he.dyn n (by rw [ho]; simp)]
    rfl
  · cases h
theorem write (n : Nat) (o : Option AObj) : Mono (AM.write n o) := by
  intro s r s' h
  unfold AM.write at h
  split at h
  · rename_i o' ho
    simp only [Option.some.injEq, Prod.mk.injEq] at h
    obtain ⟨_, rfl⟩ := h
    have hk : s.heap.find n ≠ none := by unfold Heap.find; rw [ho]; simp
    refine ⟨[(n, o)], ⟨rfl, rfl, rfl, rfl, Nat.le_refl _, by simp [hk]⟩, fun h2 j2 he _ => ?_⟩
    unfold AM.write
    simp only [he.dyn n hk, ho]
    rfl
  · cases h
theorem alloc (o : AObj) : Mono (AM.alloc o) := by
  intro s r s' h
  unfold AM.alloc at h
  split at h
  · rename_i ho
    simp only [Option.some.injEq, Prod.mk.injEq] at h
    obtain ⟨rfl, rfl⟩ := h
    refine ⟨[(s.nm s.ctr, some o)], ⟨rfl, rfl, rfl, rfl, Nat.le_succ _, by simp; exact .inr ⟨s.ctr, Nat.le_refl _, Nat.lt_succ_self _, rfl⟩⟩, fun h2 j2 he hf => ?_⟩
    unfold AM.alloc
    have : h2.find (s.nm s.ctr) = none := hf s.ctr (Nat.le_refl _)
    simp only [ST.nm] at this ⊢
    simp only [this]
    rfl
  · cases h
theorem ofOption (o : Option α) : Mono (AM.ofOption o) := by
  cases o with
  | none => exact fail
  | some a => exact ret a
theorem ite {c : Prop} [Decidable c] {a b : AM α} (ha : Mono a) (hb : Mono b) : Mono (if c then a else b) := by split <;> assumption
end Mono
end Go.Proofs.YtgpfgcbolinncaaGreat.Abs
set_option linter.unusedVariables false
set_option linter.unusedSimpArgs false
namespace Go.Proofs.YtgpfgcbolinncaaGreat.Abs
open Go Go.RowKit

structure Place where
  blk : Nat
  base : Nat
  sz : Nat
abbrev PMap := Nat → Option Place
def PMap.le (a b : PMap) : Prop := ∀ n p, a n = some p → b n = some p
theorem PMap.le.refl (a : PMap) : a.le a := fun _ _ h => h
theorem PMap.le.trans {a b c : PMap} (h : a.le b) (k : b.le c) : a.le c := fun n p e => k n p (h n p e)
def PMap.upd (a : PMap) (n : Nat) (p : Place) : PMap := fun m => if m = n then some p else a m
theorem PMap.upd_same (a : PMap) (n : Nat) (p : Place) : a.upd n p n = some p := by simp [PMap.upd]
theorem PMap.upd_ne (a : PMap) {n m : Nat} (p : Place) (h : m ≠ n) : a.upd n p m = a m := by simp [PMap.upd, h]
theorem PMap.le_upd {a : PMap} {n : Nat} (p : Place) (h : a n = none) : a.le (a.upd n p) := by
  intro m q e
  rw [PMap.upd_ne]
  · exact e
  · intro c; subst c; rw [h] at e; cases e

/-- whatever: an abstract value of which nothing is known -/
def topV : Value := .complex .f64 0 0
/-- the bits of some NaN, as a number -/
def nanInt : Value := .complex .f32 0 0
def nanBits : Nat := 0x7ff8000000000001
def isNan (b : Nat) : Bool := 0x7ff0000000000000 < b % 2 ^ 63

inductive VRel (π : PMap) : Value → Value → Prop
  | top (a b : Nat) (v : Value) : VRel π (.complex .f64 a b) v
  | nanInt (a b : Nat) (n : Int) (h0 : 0 ≤ n) (h1 : n < 2 ^ 64) (h : isNan n.toNat = true) : VRel π (.complex .f32 a b) (.int .u64 n)
  | bool (b : Bool) : VRel π (.bool b) (.bool b)
  | int (k : IntKind) (n : Int) : VRel π (.int k n) (.int k n)
  | float (k : FloatKind) (b : Nat) : VRel π (.float k b) (.float k b)
  | nan (b : Nat) (h1 : b < 2 ^ 64) (h : isNan b = true) : VRel π (.float .f64 nanBits) (.float .f64 b)
  | string (s : ByteArray) : VRel π (.string s) (.string s)
  | nilPtr : VRel π (.pointer none) (.pointer none)
  | ptr (n off : Nat) (p : Place) (h : π n = some p) : VRel π (.pointer (some ⟨n, off, none⟩)) (.pointer (some ⟨p.blk, p.base + off, none⟩))
  | nilSlice : VRel π (.slice none 0 0) (.slice none 0 0)
  | slice (n off len cs : Nat) (p : Place) (o cap : Nat) (h : π n = some p) (ho : 0 < len → o = p.base + off) (hl : len ≤ cap) (hc : cs = 0 ∨ o + cap * cs ≤ p.sz) :
      VRel π (.slice (some ⟨n, off, none⟩) len cs) (.slice (some ⟨p.blk, o, none⟩) len cap)
  | empty (a : Addr) (cap : Nat) : VRel π (.slice none 0 1) (.slice (some a) 0 cap)
  | nilMap : VRel π (.map none) (.map none)
  | map (n : Nat) (p : Place) (h : π n = some p) : VRel π (.map (some n)) (.map (some p.blk))
  | nilFunc : VRel π .nilFunc .nilFunc
  | func (fn : Fn) (xs xs' ys ys' : Array Value) (hx : xs.size = xs'.size) (hy : ys.size = ys'.size)
      (h1 : ∀ i (a : i < xs.size) (b : i < xs'.size), VRel π xs[i] xs'[i]) (h2 : ∀ i (a : i < ys.size) (b : i < ys'.size), VRel π ys[i] ys'[i]) :
      VRel π (.func fn xs ys) (.func fn xs' ys')
  | nilIface : VRel π .nilIface .nilIface
  | iface (t : TypeId) (v v' : Value) (h : VRel π v v') : VRel π (.iface t v) (.iface t v')
  | agg (xs xs' : Array Value) (hx : xs.size = xs'.size) (h : ∀ i (a : i < xs.size) (b : i < xs'.size), VRel π xs[i] xs'[i]) : VRel π (.agg xs) (.agg xs')
  | tuple (xs xs' : Array Value) (hx : xs.size = xs'.size) (h : ∀ i (a : i < xs.size) (b : i < xs'.size), VRel π xs[i] xs'[i]) : VRel π (.tuple xs) (.tuple xs')

theorem VRel.mono {π π' : PMap} (hp : π.le π') {v v' : Value} (h : VRel π v v') : VRel π' v v' := by
  induction h with
  | top a b v => exact .top a b v
  | nanInt a b n h0 h1 h => exact .nanInt a b n h0 h1 h
  | bool b => exact .bool b
  | int k n => exact .int k n
  | float k b => exact .float k b
  | nan b h1 h => exact .nan b h1 h
  | string s => exact .string s
  | nilPtr => exact .nilPtr
  | ptr n off p h => exact .ptr n off p (hp _ _ h)
  | nilSlice => exact .nilSlice
  | slice n off len cs p o cap h ho hl hc => exact .slice n off len cs p o cap (hp _ _ h) ho hl hc
  | empty a cap => exact .empty a cap
  | nilMap => exact .nilMap
  | map n p h => exact .map n p (hp _ _ h)
  | nilFunc => exact .nilFunc
  | func fn xs xs' ys ys' hx hy _ _ h1 h2 => exact .func fn xs xs' ys ys' hx hy h1 h2
  | nilIface => exact .nilIface
  | iface t v v' _ h => exact .iface t v v' h
  | agg xs xs' hx _ h => exact .agg xs xs' hx h
  | tuple xs xs' hx _ h => exact .tuple xs xs' hx h

def VRels (π : PMap) (xs ys : Array Value) : Prop := xs.size = ys.size ∧ ∀ i (a : i < xs.size) (b : i < ys.size), VRel π xs[i] ys[i]
theorem VRels.mono {π π' : PMap} (hp : π.le π') {v v' : Array Value} (h : VRels π v v') : VRels π' v v' := ⟨h.1, fun i a b => (h.2 i a b).mono hp⟩
theorem VRels.get {π : PMap} {xs ys : Array Value} (h : VRels π xs ys) {i : Nat} {v : Value} (hi : xs[i]? = some v) : ∃ v', ys[i]? = some v' ∧ VRel π v v' := by
  obtain ⟨hlt, rfl⟩ := Array.getElem?_eq_some_iff.1 hi
  have h2 : i < ys.size := by have := h.1; omega
  exact ⟨ys[i], Array.getElem?_eq_getElem h2, h.2 i hlt h2⟩
theorem VRels.none {π : PMap} {xs ys : Array Value} (h : VRels π xs ys) {i : Nat} (hi : xs[i]? = Option.none) : ys[i]? = Option.none := by
  rw [Array.getElem?_eq_none_iff] at *
  have := h.1; omega

/-! ### values without addresses -/
def plain : Nat → Value → Bool
  | _, .bool _ | _, .int _ _ | _, .string _ | _, .pointer none | _, .slice none 0 0 | _, .map none | _, .nilFunc | _, .nilIface => true
  | _, .float .f64 b => b != nanBits
  | d + 1, .iface _ v => plain d v
  | d + 1, .agg cs => cs.toList.all (plain d)
  | d + 1, .tuple cs => cs.toList.all (plain d)
  | _, _ => false

theorem plain_rel (π : PMap) : ∀ (d : Nat) (v : Value), plain d v = true → VRel π v v := by
  intro d
  induction d with
  | zero =>
    intro v h
    cases v with
    | pointer a => cases a <;> simp [plain] at h; exact .nilPtr
    | slice a l c => cases a <;> cases l <;> cases c <;> simp [plain] at h; exact .nilSlice
    | map a => cases a <;> simp [plain] at h; exact .nilMap
    | float k b => exact .float k b
    | _ => first | (simp [plain] at h; done) | (constructor; done)
  | succ d ih =>
    intro v h
    cases v with
    | pointer a => cases a <;> simp [plain] at h; exact .nilPtr
    | slice a l c => cases a <;> cases l <;> cases c <;> simp [plain] at h; exact .nilSlice
    | map a => cases a <;> simp [plain] at h; exact .nilMap
    | float k b => exact .float k b
    | iface t v => simp only [plain] at h; exact .iface _ _ _ (ih _ h)
    | agg cs =>
      simp only [plain, List.all_eq_true, Array.mem_toList_iff] at h
      exact .agg _ _ rfl fun i a b => ih _ (h _ (Array.getElem_mem a))
    | tuple cs =>
      simp only [plain, List.all_eq_true, Array.mem_toList_iff] at h
      exact .tuple _ _ rfl fun i a b => ih _ (h _ (Array.getElem_mem a))
    | _ => first | (simp [plain] at h; done) | (constructor; done)

theorem plain_eq {π : PMap} : ∀ (d : Nat) (v v' : Value), plain d v = true → VRel π v v' → v' = v := by
  intro d
  induction d with
  | zero =>
    intro v v' h r
    cases r <;> simp_all [plain]
  | succ d ih =>
    intro v v' h r
    cases r with
    | agg xs xs' hx hr =>
      simp only [plain, List.all_eq_true, Array.mem_toList_iff] at h
      congr 1
      apply Array.ext hx.symm
      intro i a b
      exact ih _ _ (h _ (Array.getElem_mem b)) (hr i b a)
    | tuple xs xs' hx hr =>
      simp only [plain, List.all_eq_true, Array.mem_toList_iff] at h
      congr 1
      apply Array.ext hx.symm
      intro i a b
      exact ih _ _ (h _ (Array.getElem_mem b)) (hr i b a)
    | iface t v v' hr =>
      simp only [plain] at h
      rw [ih _ _ h hr]
    | _ => simp_all [plain]

/-! ### objects and worlds -/
def CellsRel (π : PMap) (c : List Value) (C : Array Value) (base : Nat) : Prop := ∀ (i : Nat) (v : Value), c[i]? = some v → ∃ v', C[base + i]? = some v' ∧ VRel π v v'
structure EntRel (π : PMap) (e E : MapEntry) : Prop where
  key : VRel π e.key E.key
  val : VRel π e.val E.val
  born : E.born = e.born
def EntsRel (π : PMap) (es : List MapEntry) (ES : Array MapEntry) : Prop := ES.size = es.length ∧ ∀ (i : Nat) (e : MapEntry), es[i]? = some e → ∃ E : MapEntry, ES[i]? = some E ∧ EntRel π e E

/-- no place of a row bears the run-time's mark (the place behind the last one may) -/
def Thaw (fr : Nat × Nat) (sz : Nat) : Prop := fr.1 = fr.2 ∨ sz ≤ fr.1
theorem Thaw.at_ {fr : Nat × Nat} {sz : Nat} (h : Thaw fr sz) (i : Nat) (hi : i < sz) : ¬ (fr.1 ≤ i ∧ i < fr.2) := by
  unfold Thaw at h
  omega
def ORel (B : Nat) (π : PMap) (o : AObj) (w : World) (p : Place) : Prop := match o with
  | .cells c e => ∃ C fr, w.heap[p.blk]? = some (.cells C e fr) ∧ C.size = p.sz ∧ p.base + c.length ≤ p.sz ∧ CellsRel π c C p.base ∧ (B ≤ p.blk → Thaw fr p.sz)
  | .map es clk => ∃ ES, w.heap[p.blk]? = some (.map ES clk) ∧ EntsRel π es ES
  | .strIter s pos => w.heap[p.blk]? = some (.stringIter s pos) ∧ p.base = 0
  | .mapIter m since seen last => ∃ m', w.heap[p.blk]? = some (.mapIter m' since seen.toArray last) ∧ VRel π (.map m) (.map m') ∧ p.base = 0

theorem CellsRel.mono {π π' : PMap} (hp : π.le π') {c : List Value} {C : Array Value} {b : Nat} (h : CellsRel π c C b) : CellsRel π' c C b :=
  fun i v hi => let ⟨v', e, r⟩ := h i v hi; ⟨v', e, r.mono hp⟩
theorem EntRel.mono {π π' : PMap} (hp : π.le π') {e E : MapEntry} (h : EntRel π e E) : EntRel π' e E := ⟨h.key.mono hp, h.val.mono hp, h.born⟩
theorem EntsRel.mono {π π' : PMap} (hp : π.le π') {es : List MapEntry} {ES : Array MapEntry} (h : EntsRel π es ES) : EntsRel π' es ES :=
  ⟨h.1, fun i e hi => let ⟨E, a, r⟩ := h.2 i e hi; ⟨E, a, r.mono hp⟩⟩
theorem ORel.mono {B : Nat} {π π' : PMap} (hp : π.le π') {o : AObj} {w : World} {p : Place} (h : ORel B π o w p) : ORel B π' o w p := by
  cases o with
  | cells c e => obtain ⟨C, fr, a, b, c, d, f⟩ := h; exact ⟨C, fr, a, b, c, d.mono hp, f⟩
  | map es clk => obtain ⟨ES, a, b⟩ := h; exact ⟨ES, a, b.mono hp⟩
  | strIter s pos => exact h
  | mapIter m since seen last => obtain ⟨m', a, b, c⟩ := h; exact ⟨m', a, b.mono hp, c⟩
theorem ORel.congr {B : Nat} {π : PMap} {o : AObj} {w w' : World} {p : Place} (h : ORel B π o w p) (e : w'.heap[p.blk]? = w.heap[p.blk]?) : ORel B π o w' p := by
  cases o <;> simp only [ORel, e] at * <;> exact h

structure Rel (B : Nat) (w0 : World) (π : PMap) (h : Heap) (w : World) : Prop where
  below : Below B w0 w
  bsz : B ≤ w.heap.size
  obj : ∀ n o, h.find n = some (some o) → ∃ p, π n = some p ∧ ORel B π o w p
  dom : ∀ n p, π n = some p → h.find n ≠ none
  dynB : ∀ n p, h.dyn.get n ≠ none → π n = some p → B ≤ p.blk ∧ p.blk < w.heap.size
  inj : ∀ n m o q p p', h.dyn.get n = some (some o) → h.dyn.get m = some (some q) → π n = some p → π m = some p' → p.blk = p'.blk → n = m
  st : ∀ n o, h.st n = some o → h.dyn.get n = none ∧ ∃ p, π n = some p ∧ p.blk < B

theorem Heap.dyn_find {h : Heap} {n : Nat} {o : Option AObj} (e : h.dyn.get n = some o) : h.find n = some o := by unfold Heap.find; rw [e]
theorem Heap.find_none_dyn {h : Heap} {n : Nat} (e : h.find n = none) : h.dyn.get n = none ∧ h.st n = none := by
  unfold Heap.find at e
  split at e
  · cases e
  · rename_i hd
    exact ⟨hd, by cases hs : h.st n with | none => rfl | some o => rw [hs] at e; cases e⟩
theorem Heap.find_cases {h : Heap} {n : Nat} {o : AObj} (e : h.find n = some (some o)) : h.dyn.get n = some (some o) ∨ (h.dyn.get n = none ∧ h.st n = some o) := by
  unfold Heap.find at e
  split at e
  · rename_i x hd; rw [hd]; left; exact e
  · rename_i hd
    right
    refine ⟨hd, ?_⟩
    cases hs : h.st n with
    | none => rw [hs] at e; cases e
    | some q => rw [hs] at e; simp at e; rw [e]

/-- the world differs in nothing that the relation asks -/
theorem Rel.same {B : Nat} {w0 : World} {π : PMap} {h : Heap} {w w' : World} (R : Rel B w0 π h w) (e : w'.heap = w.heap) (ho : w'.os = w.os) (ht : w'.tape = w.tape) (hu : w'.output = w.output) : Rel B w0 π h w' where
  below := ⟨ho.trans R.below.os, ht.trans R.below.tape, hu.trans R.below.output, by rw [e]; exact R.below.size, fun k hk => by rw [e]; exact R.below.block k hk⟩
  bsz := by rw [e]; exact R.bsz
  obj := fun n o hn => let ⟨p, a, b⟩ := R.obj n o hn; ⟨p, a, b.congr (by rw [e])⟩
  dom := R.dom
  dynB := by rw [e]; exact R.dynB
  inj := R.inj
  st := R.st

theorem Rel.drew {B : Nat} {w0 : World} {π : PMap} {h : Heap} {w : World} (R : Rel B w0 π h w) : Rel B w0 π h w.drew := R.same rfl rfl rfl rfl

theorem Rel.fresh {B : Nat} {w0 : World} {π : PMap} {h : Heap} {w : World} (R : Rel B w0 π h w) {n : Nat} (hn : h.find n = none) : π n = none := by
  cases e : π n with
  | none => rfl
  | some p => exact absurd hn (R.dom n p e)

/-- two heaps that say the same of each name -/
structure Heap.Like (h h2 : Heap) : Prop where
  st : h2.st = h.st
  dyn : ∀ n, h2.dyn.get n = h.dyn.get n
theorem Heap.Like.find {h h2 : Heap} (e : Heap.Like h h2) (n : Nat) : h2.find n = h.find n := by unfold Heap.find; rw [e.st, e.dyn]
theorem Rel.like {B : Nat} {w0 : World} {π : PMap} {h h2 : Heap} {w : World} (R : Rel B w0 π h w) (e : Heap.Like h h2) : Rel B w0 π h2 w where
  below := R.below
  bsz := R.bsz
  obj := fun n o hn => R.obj n o (by rw [← e.find]; exact hn)
  dom := fun n p hn => by rw [e.find]; exact R.dom n p hn
  dynB := fun n p hn => R.dynB n p (by rw [← e.dyn]; exact hn)
  inj := fun n m o q p p' hn hm => R.inj n m o q p p' (by rw [← e.dyn]; exact hn) (by rw [← e.dyn]; exact hm)
  st := fun n o hn => by rw [e.dyn]; exact R.st n o (by rw [← e.st]; exact hn)

/-- a new block -/
theorem Rel.alloc {B : Nat} {w0 : World} {π : PMap} {h : Heap} {w : World} (R : Rel B w0 π h w) {n : Nat} (hn : h.find n = none) (O : Obj) (o : AObj) (sz : Nat)
    (hO : ORel B (π.upd n ⟨w.heap.size, 0, sz⟩) o (w.alloc O) ⟨w.heap.size, 0, sz⟩) :
    π.le (π.upd n ⟨w.heap.size, 0, sz⟩) ∧ Rel B w0 (π.upd n ⟨w.heap.size, 0, sz⟩) (h.set n (some o)) (w.alloc O) := by
  have hle := PMap.le_upd (a := π) ⟨w.heap.size, 0, sz⟩ (R.fresh hn)
  have hd := Heap.find_none_dyn hn
  refine ⟨hle, ?_⟩
  have hold : ∀ k, k < w.heap.size → (w.alloc O).heap[k]? = w.heap[k]? := fun k hk => Below.heap_alloc w O k hk
  refine { below := R.below.alloc R.bsz O, bsz := by simp; have := R.bsz; omega, obj := ?_, dom := ?_, dynB := ?_, inj := ?_, st := ?_ }
  · intro m q hm
    rw [Heap.find_set] at hm
    split at hm
    · rename_i e
      subst e
      simp at hm
      subst hm
      exact ⟨_, PMap.upd_same _ _ _, hO⟩
    · rename_i e
      obtain ⟨p, a, b⟩ := R.obj m q hm
      refine ⟨p, hle _ _ a, (b.mono hle).congr (hold _ ?_)⟩
      rcases Heap.find_cases hm with hd' | ⟨hd', hs⟩
      · exact (R.dynB m p (by rw [hd']; simp) a).2
      · obtain ⟨_, p', a', hb⟩ := R.st m q hs
        rw [a] at a'; cases a'
        exact Nat.lt_of_lt_of_le hb R.bsz
  · intro m p hm
    rw [Heap.find_set]
    split
    · simp
    · rename_i e
      rw [PMap.upd_ne _ _ e] at hm
      exact R.dom m p hm
  · intro m p hm hp
    rw [Heap.dyn_set] at hm
    by_cases e : m = n
    · subst e
      rw [PMap.upd_same] at hp
      cases hp
      simp
      exact R.bsz
    · rw [if_neg e] at hm
      rw [PMap.upd_ne _ _ e] at hp
      have := R.dynB m p hm hp
      simp; omega
  · intro a b x y p q ha hb hp hq hpq
    rw [Heap.dyn_set] at ha hb
    by_cases ea : a = n
    · by_cases eb : b = n
      · rw [ea, eb]
      · subst ea
        rw [PMap.upd_same] at hp
        cases hp
        rw [if_neg eb] at hb
        rw [PMap.upd_ne _ _ eb] at hq
        have := (R.dynB b q (by rw [hb]; simp) hq).2
        simp only at hpq
        omega
    · rw [if_neg ea] at ha
      rw [PMap.upd_ne _ _ ea] at hp
      by_cases eb : b = n
      · subst eb
        rw [PMap.upd_same] at hq
        cases hq
        have := (R.dynB a p (by rw [ha]; simp) hp).2
        simp only at hpq
        omega
      · rw [if_neg eb] at hb
        rw [PMap.upd_ne _ _ eb] at hq
        exact R.inj a b x y p q ha hb hp hq hpq
  · intro m q hm
    simp at hm
    obtain ⟨a, p, b, c⟩ := R.st m q hm
    have : m ≠ n := by
      intro e; subst e
      rw [hd.2] at hm; cases hm
    exact ⟨by rw [Heap.dyn_set, if_neg this]; exact a, p, hle _ _ b, c⟩

/-- one dynamic block turns; its name's object too, or another name takes it over -/
theorem Rel.turn {B : Nat} {w0 : World} {π : PMap} {h : Heap} {w w' : World} (R : Rel B w0 π h w) {n : Nat} {x : AObj} {p : Place} (hn : h.dyn.get n = some (some x)) (hp : π n = some p)
    (ho : w'.os = w.os) (ht : w'.tape = w.tape) (hu : w'.output = w.output) (hs : w'.heap.size = w.heap.size) (hk : ∀ k, k ≠ p.blk → w'.heap[k]? = w.heap[k]?)
    (o : AObj) (hO : ORel B π o w' p) : Rel B w0 π (h.set n (some o)) w' := by
  have hB := R.dynB n p (by rw [hn]; simp) hp
  refine { below := ?_, bsz := by rw [hs]; exact R.bsz, obj := ?_, dom := ?_, dynB := ?_, inj := ?_, st := ?_ }
  · exact ⟨ho.trans R.below.os, ht.trans R.below.tape, hu.trans R.below.output, by rw [hs]; exact R.below.size, fun k hk' => by rw [hk k (by omega)]; exact R.below.block k hk'⟩
  · intro m q hm
    rw [Heap.find_set] at hm
    split at hm
    · rename_i e
      subst e
      simp at hm
      subst hm
      exact ⟨p, hp, hO⟩
    · rename_i e
      obtain ⟨p', a, b⟩ := R.obj m q hm
      refine ⟨p', a, b.congr (hk _ ?_)⟩
      rcases Heap.find_cases hm with hd' | ⟨hd', hs'⟩
      · intro c
        exact e (R.inj m n q x p' p hd' hn a hp c)
      · obtain ⟨_, p2, a', hb⟩ := R.st m q hs'
        rw [a] at a'; cases a'
        omega
  · intro m p' hm
    rw [Heap.find_set]
    split
    · simp
    · exact R.dom m p' hm
  · intro m p' hm hp'
    rw [hs]
    rw [Heap.dyn_set] at hm
    by_cases e : m = n
    · subst e
      rw [hp] at hp'; cases hp'
      exact hB
    · rw [if_neg e] at hm
      exact R.dynB m p' hm hp'
  · intro a b x' y p1 q ha hb hp1 hq hpq
    rw [Heap.dyn_set] at ha hb
    by_cases ea : a = n
    · by_cases eb : b = n
      · rw [ea, eb]
      · subst ea
        rw [if_neg eb] at hb
        exact R.inj a b x y p1 q hn hb hp1 hq hpq
    · rw [if_neg ea] at ha
      by_cases eb : b = n
      · subst eb
        exact R.inj a b x' x p1 q ha hn hp1 hq hpq
      · rw [if_neg eb] at hb
        exact R.inj a b x' y p1 q ha hb hp1 hq hpq
  · intro m q hm
    simp at hm
    obtain ⟨a, p', b, c⟩ := R.st m q hm
    have : m ≠ n := by
      intro e; subst e
      rw [hn] at a; cases a
    exact ⟨by rw [Heap.dyn_set, if_neg this]; exact a, p', b, c⟩

/-- a name dies -/
theorem Rel.kill {B : Nat} {w0 : World} {π : PMap} {h : Heap} {w : World} (R : Rel B w0 π h w) {n : Nat} {x : AObj} (hn : h.dyn.get n = some (some x)) : Rel B w0 π (h.set n none) w := by
  refine { below := R.below, bsz := R.bsz, obj := ?_, dom := ?_, dynB := ?_, inj := ?_, st := ?_ }
  · intro m q hm
    rw [Heap.find_set] at hm
    split at hm
    · simp at hm
    · exact R.obj m q hm
  · intro m p' hm
    rw [Heap.find_set]
    split
    · simp
    · exact R.dom m p' hm
  · intro m p' hm hp'
    rw [Heap.dyn_set] at hm
    by_cases e : m = n
    · subst e
      exact R.dynB m p' (by rw [hn]; simp) hp'
    · rw [if_neg e] at hm
      exact R.dynB m p' hm hp'
  · intro a b x' y p1 q ha hb hp1 hq hpq
    rw [Heap.dyn_set] at ha hb
    by_cases ea : a = n
    · rw [if_pos ea] at ha; cases ha
    · rw [if_neg ea] at ha
      by_cases eb : b = n
      · rw [if_pos eb] at hb; cases hb
      · rw [if_neg eb] at hb
        exact R.inj a b x' y p1 q ha hb hp1 hq hpq
  · intro m q hm
    simp at hm
    obtain ⟨a, p', b, c⟩ := R.st m q hm
    have : m ≠ n := by
      intro e; subst e
      rw [hn] at a; cases a
    exact ⟨by rw [Heap.dyn_set, if_neg this]; exact a, p', b, c⟩

/-- a name dies, another takes its block over, and the block turns -/
theorem Rel.over {B : Nat} {w0 : World} {π : PMap} {h : Heap} {w w' : World} (R : Rel B w0 π h w) {n m : Nat} {x : AObj} {p p2 : Place} (hn : h.dyn.get n = some (some x)) (hp : π n = some p)
    (hm : h.find m = none) (hb : p2.blk = p.blk) (ho : w'.os = w.os) (ht : w'.tape = w.tape) (hu : w'.output = w.output) (hs : w'.heap.size = w.heap.size) (hk : ∀ k, k ≠ p.blk → w'.heap[k]? = w.heap[k]?)
    (o : AObj) (hO : ORel B (π.upd m p2) o w' p2) : π.le (π.upd m p2) ∧ Rel B w0 (π.upd m p2) ((h.set n none).set m (some o)) w' := by
  have hle := PMap.le_upd (a := π) p2 (R.fresh hm)
  have hB := R.dynB n p (by rw [hn]; simp) hp
  have hd := Heap.find_none_dyn hm
  have hnm : m ≠ n := by intro e; subst e; rw [hd.1] at hn; cases hn
  refine ⟨hle, { below := ?_, bsz := by rw [hs]; exact R.bsz, obj := ?_, dom := ?_, dynB := ?_, inj := ?_, st := ?_ }⟩
  · exact ⟨ho.trans R.below.os, ht.trans R.below.tape, hu.trans R.below.output, by rw [hs]; exact R.below.size, fun k hk' => by rw [hk k (by omega)]; exact R.below.block k hk'⟩
  · intro a q ha
    rw [Heap.find_set] at ha
    split at ha
    · rename_i e
      subst e
      simp at ha
      subst ha
      exact ⟨p2, PMap.upd_same _ _ _, hO⟩
    · rename_i e
      rw [Heap.find_set] at ha
      split at ha
      · simp at ha
      · rename_i e2
        obtain ⟨p', a', b⟩ := R.obj a q ha
        refine ⟨p', hle _ _ a', (b.mono hle).congr (hk _ ?_)⟩
        rcases Heap.find_cases ha with hd' | ⟨hd', hs'⟩
        · intro c
          exact e2 (R.inj a n q x p' p hd' hn a' hp c)
        · obtain ⟨_, p3, a3, hb3⟩ := R.st a q hs'
          rw [a'] at a3; cases a3
          omega
  · intro a p' ha
    rw [Heap.find_set]
    split
    · simp
    · rename_i e
      rw [Heap.find_set]
      split
      · simp
      · rw [PMap.upd_ne _ _ e] at ha
        exact R.dom a p' ha
  · intro a p' ha hp'
    rw [hs]
    by_cases e : a = m
    · subst e
      rw [PMap.upd_same] at hp'; cases hp'
      rw [hb]; exact hB
    · rw [PMap.upd_ne _ _ e] at hp'
      rw [Heap.dyn_set, if_neg e, Heap.dyn_set] at ha
      by_cases e2 : a = n
      · subst e2
        rw [hp] at hp'; cases hp'
        exact hB
      · rw [if_neg e2] at ha
        exact R.dynB a p' ha hp'
  · intro a b x' y p1 q ha hb' hp1 hq hpq
    rw [Heap.dyn_set] at ha hb'
    by_cases ea : a = m
    · by_cases eb : b = m
      · rw [ea, eb]
      · subst ea
        rw [PMap.upd_same] at hp1; cases hp1
        rw [if_neg eb, Heap.dyn_set] at hb'
        rw [PMap.upd_ne _ _ eb] at hq
        by_cases e2 : b = n
        · rw [if_pos e2] at hb'; cases hb'
        · rw [if_neg e2] at hb'
          exact absurd (R.inj b n y x q p hb' hn hq hp (by rw [← hpq, hb])) e2
    · rw [if_neg ea, Heap.dyn_set] at ha
      rw [PMap.upd_ne _ _ ea] at hp1
      by_cases e1 : a = n
      · rw [if_pos e1] at ha; cases ha
      · rw [if_neg e1] at ha
        by_cases eb : b = m
        · subst eb
          rw [PMap.upd_same] at hq; cases hq
          exact absurd (R.inj a n x' x p1 p ha hn hp1 hp (by rw [hpq, hb])) e1
        · rw [if_neg eb, Heap.dyn_set] at hb'
          rw [PMap.upd_ne _ _ eb] at hq
          by_cases e2 : b = n
          · rw [if_pos e2] at hb'; cases hb'
          · rw [if_neg e2] at hb'
            exact R.inj a b x' y p1 q ha hb' hp1 hq hpq
  · intro a q ha
    simp at ha
    obtain ⟨a', p', b, c⟩ := R.st a q ha
    have h1 : a ≠ n := by
      intro e; subst e
      rw [hn] at a'; cases a'
    have h2 : a ≠ m := by
      intro e; subst e
      rw [hd.2] at ha; cases ha
    exact ⟨by rw [Heap.dyn_set, if_neg h2, Heap.dyn_set, if_neg h1]; exact a', p', hle _ _ b, c⟩
end Go.Proofs.YtgpfgcbolinncaaGreat.Abs
set_option linter.unusedVariables false
set_option linter.unusedSimpArgs false
namespace Go.Proofs.YtgpfgcbolinncaaGreat.Abs
open Go Go.RowKit

def evalV (env : Trie Value) : Operand → Value
  | .tmp t => (env.get t).getD undef
  | .const v => if plain 3 v then v else topV
  | .global _ => topV
  | .func f => .func (.func f) #[] #[]

/-! ### a computation that asks the program alone -/
def pureRun (P : Program) {α : Type} : Sem α → Option α
  | .pure a => some a
  | .program k => pureRun P (k P)
  | .mark _ k => pureRun P k
  | _ => none
theorem pureRun_run {P : Program} {α : Type} (s : Sem α) {a : α} (h : pureRun P s = some a) (w : World) : s.run P w = .ok a w := by
  induction s with
  | pure b => simp only [pureRun, Option.some.injEq] at h; subst h; rfl
  | program k ih => simp only [pureRun] at h; simpa [Sem.run] using ih P h
  | mark m k ih => simp only [pureRun] at h; simpa [Sem.run] using ih h
  | _ => simp [pureRun] at h

/-! ### numbers -/
def inRange : IntKind → Int → Bool
  | .i64, n => -9223372036854775808 ≤ n && n ≤ 9223372036854775807
  | .u64, n => 0 ≤ n && n ≤ 18446744073709551615
  | .u8, n => 0 ≤ n && n ≤ 255
  | .i32, n => -2147483648 ≤ n && n ≤ 2147483647
  | .u32, n => 0 ≤ n && n ≤ 4294967295
  | _, _ => false
def wrapA (k : IntKind) (n : Int) : Int := if inRange k n then n else k.wrap n
theorem wrap_range {k : IntKind} {n : Int} (h : inRange k n = true) : k.wrap n = n := by
  cases k <;> simp [inRange] at h <;> simp [IntKind.wrap, IntKind.bits, IntKind.signed]
  all_goals first | omega | (split <;> omega)
theorem wrapA_eq (k : IntKind) (n : Int) : wrapA k n = k.wrap n := by
  unfold wrapA
  split
  · rename_i h; rw [wrap_range h]
  · rfl

def fastBin (op : BinOp) (x y : Value) : Option Value :=
  match op, x, y with
  | .add, .int k a, .int k' b => if k = k' then some (.int k (wrapA k (a + b))) else none
  | .sub, .int k a, .int k' b => if k = k' then some (.int k (wrapA k (a - b))) else none
  | .mul, .int k a, .int k' b => if k = k' then some (.int k (wrapA k (a * b))) else none
  | .eql, .int k a, .int k' b => if k = k' then some (.bool (a == b)) else none
  | .neq, .int k a, .int k' b => if k = k' then some (.bool (a != b)) else none
  | .lss, .int k a, .int k' b => if k = k' then some (.bool (decide (a < b))) else none
  | .leq, .int k a, .int k' b => if k = k' then some (.bool (decide (a ≤ b))) else none
  | .gtr, .int k a, .int k' b => if k = k' then some (.bool (decide (a > b))) else none
  | .geq, .int k a, .int k' b => if k = k' then some (.bool (decide (a ≥ b))) else none
  | _, _, _ => none

def isPtrT (P : Program) (t : TypeId) : Bool := match P.underlying t with | some (.pointer _) => true | _ => false
def isIfaceT (P : Program) (t : TypeId) : Bool := match P.underlying t with | some (.interface _) => true | _ => false

/-- structs of plain fields, cell by cell -/
def eqFlat (P : Program) (xs ys : Array Value) : List Field → Option Bool
  | [] => some true
  | f :: fs => if f.name = "_" then none else match P.underlying f.type, xs[f.offset]?, ys[f.offset]? with
    | some (.int _), some (.int k a), some (.int k' b) => if k = k' then (eqFlat P xs ys fs).map fun e => a == b && e else none
    | some .bool, some (.bool a), some (.bool b) => (eqFlat P xs ys fs).map fun e => a == b && e
    | _, _, _ => none
def structEq (P : Program) (t : TypeId) (xs ys : Array Value) : Option Bool :=
  if P.stoodInHeld t = false ∧ P.eqGuardType P.depth t = false then match P.underlying t with
    | some (.struct fs) => eqFlat P xs ys fs.toList
    | _ => none
  else none
def aggBin (P : Program) (op : BinOp) (t : TypeId) (x y : Value) : Option Value := match op, x, y with
  | .eql, .agg xs, .agg ys => (structEq P t xs ys).map fun b => .bool b
  | .neq, .agg xs, .agg ys => (structEq P t xs ys).map fun b => .bool (!b)
  | _, _, _ => none
def binA (P : Program) (op : BinOp) (t : TypeId) (xo yo : Operand) (x y : Value) : Option Value :=
  match fastBin op x y with
  | some v => some v
  | none => match aggBin P op t x y with
   | some v => some v
   | none =>
    if plain 2 x && plain 2 y then
      match pureRun P (do eqGuard op t xo yo x y; binOp op t x y) with
      | some v => if plain 0 v then some v else none
      | none => none
    else match op, x, y with
      | .eql, .pointer (some _), .pointer none => if isPtrT P t then some (.bool false) else none
      | .neq, .pointer (some _), .pointer none => if isPtrT P t then some (.bool true) else none
      | .eql, .iface _ _, .nilIface => if isIfaceT P t then some (.bool false) else none
      | .neq, .iface _ _, .nilIface => if isIfaceT P t then some (.bool true) else none
      | _, _, _ => none

theorem run_eqGuard_ne {op : BinOp} {t : TypeId} {x y : Operand} {a b : Value} {P : Program} {w : World} (h : ¬ (a = .nilIface ∧ b = .nilIface)) (h2 : ∀ c d, ¬ (a = .agg c ∧ b = .agg d)) :
    (eqGuard op t x y a b).run P w = .ok () w := by
  cases op <;> simp [eqGuard] <;> cases a <;> cases b <;> simp_all

theorem run_equal_ptr_nil {P : Program} {t e : TypeId} (he : P.underlying t = some (.pointer e)) (a : Addr) (w : World) : (Op.equal t (.pointer (some a)) (.pointer none)).run P w = .ok false w := by
  show (Op.equalIn (9999 + 1) t _ _).run P w = _
  unfold Op.equalIn
  simp only [Sem.run_bind, run_underlying he, Result.andThen_ok]
  rfl
theorem run_equal_iface_nil {P : Program} {t : TypeId} {ms : Array (String × TypeId)} (he : P.underlying t = some (.interface ms)) (u : TypeId) (x : Value) (w : World) : (Op.equal t (.iface u x) .nilIface).run P w = .ok false w := by
  show (Op.equalIn (9999 + 1) t _ _).run P w = _
  unfold Op.equalIn
  simp only [Sem.run_bind, run_underlying he, Result.andThen_ok]
  rfl
theorem binOp_eql_ptr (t : TypeId) (a : Addr) : binOp .eql t (.pointer (some a)) (.pointer none) = (do pure (.bool (← Op.equal t (.pointer (some a)) (.pointer none)))) := rfl
theorem binOp_neq_ptr (t : TypeId) (a : Addr) : binOp .neq t (.pointer (some a)) (.pointer none) = (do pure (.bool (!(← Op.equal t (.pointer (some a)) (.pointer none))))) := rfl
theorem binOp_eql_iface (t u : TypeId) (x : Value) : binOp .eql t (.iface u x) .nilIface = (do pure (.bool (← Op.equal t (.iface u x) .nilIface))) := by cases x <;> rfl
theorem binOp_neq_iface (t u : TypeId) (x : Value) : binOp .neq t (.iface u x) .nilIface = (do pure (.bool (!(← Op.equal t (.iface u x) .nilIface)))) := by cases x <;> rfl

theorem eqFlat_sim {P : Program} {π : PMap} {d : Nat} {xs ys xs' ys' : Array Value} (hx : VRels π xs xs') (hy : VRels π ys ys') (w : World) : ∀ (fs : List Field) (r : Bool), eqFlat P xs ys fs = some r → (Op.eqFields (d + 1) xs' ys' fs).run P w = .ok r w
  | [], r, h => by
    simp only [eqFlat, Option.some.injEq] at h
    subst h
    simp [Op.eqFields]
  | f :: fs, r, h => by
    simp only [eqFlat] at h
    split at h
    · cases h
    · rename_i hn
      have hn' : f.name ≠ "_" := hn
      split at h
      · rename_i q k a k' b hu h1 h2
        split at h
        · rename_i hk
          subst hk
          simp only [Option.map_eq_some_iff] at h
          obtain ⟨e, he, rfl⟩ := h
          obtain ⟨v1, g1, r1⟩ := hx.get h1
          obtain ⟨v2, g2, r2⟩ := hy.get h2
          cases r1; cases r2
          have hp : P.plainKey f.type = true := by simp [Program.plainKey, hu]
          have ih := eqFlat_sim (d := d) hx hy w fs e he
          rw [Op.eqFields, if_pos hn']
          simp only [Sem.run_bind, run_part_plain w hp g1, run_part_plain w hp g2, Result.andThen_ok, run_equalIn_int w d f.type k q a b hu]
          cases hab : (a == b)
          · simp
          · simpa using ih
        · cases h
      · rename_i a b hu h1 h2
        simp only [Option.map_eq_some_iff] at h
        obtain ⟨e, he, rfl⟩ := h
        obtain ⟨v1, g1, r1⟩ := hx.get h1
        obtain ⟨v2, g2, r2⟩ := hy.get h2
        cases r1; cases r2
        have hp : P.plainKey f.type = true := by simp [Program.plainKey, hu]
        have ih := eqFlat_sim (d := d) hx hy w fs e he
        rw [Op.eqFields, if_pos hn']
        simp only [Sem.run_bind, run_part_plain w hp g1, run_part_plain w hp g2, Result.andThen_ok, run_equalIn_bool' w d f.type a b hu]
        cases hab : (a == b)
        · simp
        · simpa using ih
      · cases h
theorem structEq_sim {P : Program} {π : PMap} {t : TypeId} {xs ys xs' ys' : Array Value} {r : Bool} (h : structEq P t xs ys = some r) (hx : VRels π xs xs') (hy : VRels π ys ys') (w : World) :
    (Op.equalIn 10000 t (.agg xs') (.agg ys')).run P w = .ok r w ∧ P.eqGuardType P.depth t = false := by
  unfold structEq at h
  split at h
  · rename_i hc
    split at h
    · rename_i fs hu
      have hf : P.fieldsOf t = fs := by simp [Program.fieldsOf, hu]
      refine ⟨?_, hc.2⟩
      rw [show (10000 : Nat) = 9999 + 1 from rfl, run_equalIn_struct w 9999 t xs' ys' (by rw [hf]; exact hu) hc.1, hf]
      exact eqFlat_sim (d := 9998) hx hy w fs.toList r h
    · cases h
  · cases h
theorem binA_sim {P : Program} {π : PMap} {op : BinOp} {t : TypeId} {xo yo : Operand} {x y x' y' v : Value} (h : binA P op t xo yo x y = some v) (hx : VRel π x x') (hy : VRel π y y') (w : World) :
    ∃ v', (do eqGuard op t xo yo x' y'; binOp op t x' y' : Sem Value).run P w = .ok v' w ∧ VRel π v v' := by
  unfold binA at h
  split at h
  · rename_i u hf
    simp only [Option.some.injEq] at h
    subst h
    unfold fastBin at hf
    split at hf <;> first
      | (cases hf; done)
      | (split at hf
         · rename_i k a k' b hk
           cases hx; cases hy
           subst hk
           refine ⟨u, ?_, ?_⟩
           · simp only [Option.some.injEq] at hf
             subst hf
             (try simp only [wrapA_eq])
             simp [Sem.run_bind, eqGuard_at_int, binOp_add, binOp_sub, binOp_mul, binOp_eql, binOp_neq, binOp_lss, binOp_leq, binOp_gtr, binOp_geq, Op.intArith]
           · simp only [Option.some.injEq] at hf
             subst hf
             constructor
         · cases hf)
  · split at h
    · rename_i u hf
      simp only [Option.some.injEq] at h
      subst h
      unfold aggBin at hf
      split at hf
      · simp only [Option.map_eq_some_iff] at hf
        obtain ⟨r, hr, rfl⟩ := hf
        cases hx with
        | agg _ xs' h1 h2 =>
          cases hy with
          | agg _ ys' k1 k2 =>
            obtain ⟨e, g⟩ := structEq_sim hr ⟨h1, h2⟩ ⟨k1, k2⟩ w
            exact ⟨_, by simp only [Sem.run_bind, run_eqGuard_agg w _ t xo yo xs' ys' g, Result.andThen_ok, run_eql_struct, e], .bool _⟩
      · simp only [Option.map_eq_some_iff] at hf
        obtain ⟨r, hr, rfl⟩ := hf
        cases hx with
        | agg _ xs' h1 h2 =>
          cases hy with
          | agg _ ys' k1 k2 =>
            obtain ⟨e, g⟩ := structEq_sim hr ⟨h1, h2⟩ ⟨k1, k2⟩ w
            exact ⟨_, by simp only [Sem.run_bind, run_eqGuard_agg w _ t xo yo xs' ys' g, Result.andThen_ok, run_neq_struct, e], .bool _⟩
      · cases hf
    split at h
    · rename_i hp
      simp only [Bool.and_eq_true] at hp
      rw [plain_eq 2 _ _ hp.1 hx, plain_eq 2 _ _ hp.2 hy]
      split at h
      · rename_i u hu
        split at h
        · rename_i hpl
          simp only [Option.some.injEq] at h
          subst h
          exact ⟨_, pureRun_run _ hu w, plain_rel π 0 _ hpl⟩
        · cases h
      · cases h
    · split at h
      · split at h
        · rename_i hq
          simp only [Option.some.injEq] at h; subst h
          cases hx; cases hy
          unfold isPtrT at hq
          split at hq
          · rename_i e he
            exact ⟨_, by simp only [Sem.run_bind, eqGuard_at_pointer, binOp_eql_ptr, binOp_neq_ptr, Sem.run_pure, Result.andThen_ok, run_equal_ptr_nil he] <;> rfl, .bool _⟩
          · cases hq
        · cases h
      · split at h
        · rename_i hq
          simp only [Option.some.injEq] at h; subst h
          cases hx; cases hy
          unfold isPtrT at hq
          split at hq
          · rename_i e he
            exact ⟨_, by simp only [Sem.run_bind, eqGuard_at_pointer, binOp_eql_ptr, binOp_neq_ptr, Sem.run_pure, Result.andThen_ok, run_equal_ptr_nil he] <;> rfl, .bool _⟩
          · cases hq
        · cases h
      · split at h
        · rename_i hq
          simp only [Option.some.injEq] at h; subst h
          cases hx; cases hy
          unfold isIfaceT at hq
          split at hq
          · rename_i e he
            exact ⟨_, by simp only [Sem.run_bind, eqGuard_at_iface, binOp_eql_iface, binOp_neq_iface, Sem.run_pure, Result.andThen_ok, run_equal_iface_nil he] <;> rfl, .bool _⟩
          · cases hq
        · cases h
      · split at h
        · rename_i hq
          simp only [Option.some.injEq] at h; subst h
          cases hx; cases hy
          unfold isIfaceT at hq
          split at hq
          · rename_i e he
            exact ⟨_, by simp only [Sem.run_bind, eqGuard_at_iface, binOp_eql_iface, binOp_neq_iface, Sem.run_pure, Result.andThen_ok, run_equal_iface_nil he] <;> rfl, .bool _⟩
          · cases hq
        · cases h
      · cases h

def unA (P : Program) (op : UnOp) (x : Value) : Option Value :=
  if plain 2 x then match pureRun P (Op.unary op x) with
    | some v => if plain 0 v then some v else none
    | none => none
  else none
theorem unA_sim {P : Program} {π : PMap} {op : UnOp} {x x' v : Value} (h : unA P op x = some v) (hx : VRel π x x') (w : World) :
    ∃ v', (Op.unary op x').run P w = .ok v' w ∧ VRel π v v' := by
  unfold unA at h
  split at h
  · rename_i hp
    rw [plain_eq 2 _ _ hp hx]
    split at h
    · rename_i u hu
      split at h
      · rename_i hpl
        simp only [Option.some.injEq] at h
        subst h
        exact ⟨_, pureRun_run _ hu w, plain_rel π 0 _ hpl⟩
      · cases h
    · cases h
  · cases h

def convA (P : Program) (src dst : TypeId) (x : Value) : Option Value :=
  match P.underlying src, P.underlying dst, x with
  | some _, some (.int k), .int _ n => some (.int k (wrapA k n))
  | _, _, _ => if plain 0 x then match pureRun P (convert src dst x) with
    | some v => if plain 0 v then some v else none
    | none => none
  else none
theorem convA_sim {P : Program} {π : PMap} {s d : TypeId} {x x' v : Value} (h : convA P s d x = some v) (hx : VRel π x x') (w : World) :
    ∃ v', (convert s d x').run P w = .ok v' w ∧ VRel π v v' := by
  unfold convA at h
  split at h
  · rename_i ds k kk n hs hd
    simp only [Option.some.injEq] at h
    subst h
    cases hx
    exact ⟨.int k (k.wrap n), by simp [convert, run_underlying hs, run_underlying hd, Conv.intToInt], by rw [wrapA_eq]; exact .int _ _⟩
  · split at h
    · rename_i hp
      rw [plain_eq 0 _ _ hp hx]
      split at h
      · rename_i u hu
        split at h
        · rename_i hpl
          simp only [Option.some.injEq] at h
          subst h
          exact ⟨_, pureRun_run _ hu w, plain_rel π 0 _ hpl⟩
        · cases h
      · cases h
    · cases h
end Go.Proofs.YtgpfgcbolinncaaGreat.Abs
set_option linter.unusedVariables false
set_option linter.unusedSimpArgs false
namespace Go.Proofs.YtgpfgcbolinncaaGreat.Abs
open Go Go.RowKit

/-! ### types -/
def sizeA (P : Program) (t : TypeId) : Option Nat := (P.info? t).map (·.size)
def aggA (P : Program) (t : TypeId) : Option Bool := match P.underlying t with
  | some (.struct _) | some (.array _ _) => some true
  | some _ => some false
  | none => none
theorem sizeA_run {P : Program} {t : TypeId} {n : Nat} (h : sizeA P t = some n) (w : World) : (sizeOf t).run P w = .ok n w := by
  unfold sizeA at h
  cases hi : P.info? t with
  | none => simp [hi] at h
  | some i => simp [hi] at h; simp [sizeOf, typeInfo, hi, h]
theorem aggA_run {P : Program} {t : TypeId} {b : Bool} (h : aggA P t = some b) (w : World) : (isAgg t).run P w = .ok b w := by
  unfold aggA at h
  cases hd : P.underlying t with
  | none => simp [hd] at h
  | some d => cases d <;> simp [hd] at h <;> simp [isAgg, run_underlying hd, h]

/-! ### a part of an aggregate -/
def partA (P : Program) (t : TypeId) (cs : Array Value) (off : Nat) : Option Value :=
  match aggA P t with
  | some true => match sizeA P t with
    | some n => if off + n ≤ cs.size then some (.agg ((cs.toList.drop off).take n).toArray) else none
    | none => none
  | some false => cs.toList[off]?
  | none => none
theorem VRels.of_lists {π : PMap} {xs ys : List Value} (hl : xs.length = ys.length) (h : ∀ (i : Nat) (v : Value), xs[i]? = some v → ∃ v', ys[i]? = some v' ∧ VRel π v v') : VRels π xs.toArray ys.toArray := by
  refine ⟨by simpa using hl, fun i a b => ?_⟩
  have a' : i < xs.length := by simpa using a
  obtain ⟨v', e, r⟩ := h i xs[i] (List.getElem?_eq_getElem a')
  have b' : i < ys.length := by simpa using b
  rw [List.getElem?_eq_getElem b'] at e
  simp only [Option.some.injEq] at e
  simpa [e] using r
theorem VRels.list {π : PMap} {xs ys : Array Value} (h : VRels π xs ys) (i : Nat) (v : Value) (e : xs.toList[i]? = some v) : ∃ v', ys.toList[i]? = some v' ∧ VRel π v v' := by
  simpa using h.get (i := i) (by simpa using e)
theorem drop_take_getElem? {α : Type} (l : List α) (o n i : Nat) : ((l.drop o).take n)[i]? = if i < n then l[o + i]? else none := by
  rw [List.getElem?_take]
  split
  · rw [List.getElem?_drop]
  · rfl
theorem extract_eq (cs : Array Value) (o n : Nat) : cs.extract o (o + n) = ((cs.toList.drop o).take n).toArray := by
  apply Array.ext'
  simp [Array.toList_extract, List.extract_eq_take_drop]
theorem partA_sim {P : Program} {π : PMap} {t : TypeId} {cs cs' : Array Value} {off : Nat} {v : Value} (h : partA P t cs off = some v) (hr : VRels π cs cs') (w : World) :
    ∃ v', (part t cs' off).run P w = .ok v' w ∧ VRel π v v' := by
  unfold partA at h
  split at h
  · rename_i ha
    split at h
    · rename_i n hn
      split at h
      · rename_i hle
        simp only [Option.some.injEq] at h
        subst h
        refine ⟨.agg (cs'.extract off (off + n)), by simp [part, aggA_run ha, sizeA_run hn], ?_⟩
        rw [extract_eq]
        have hs := hr.1
        have q := VRels.of_lists (π := π) (xs := (cs.toList.drop off).take n) (ys := (cs'.toList.drop off).take n) (by simp; omega) (by
          intro i v hv
          rw [drop_take_getElem?] at hv ⊢
          split at hv
          · rename_i hi; rw [if_pos hi]; exact hr.list _ _ hv
          · cases hv)
        exact .agg _ _ q.1 q.2
      · cases h
    · cases h
  · rename_i ha
    obtain ⟨v', e, r⟩ := hr.list _ _ h
    refine ⟨v', ?_, r⟩
    have : cs'[off]? = some v' := by simpa using e
    simp [part, aggA_run ha, this]
  · cases h

/-! ### fields, elements -/
def fieldA (P : Program) (t : TypeId) (x : Value) (f : Nat) : Option Value :=
  match P.underlying t, x with
  | some (.struct fields), .agg cs => match fields[f]? with
    | some fd => partA P fd.type cs fd.offset
    | none => none
  | _, _ => none
theorem fieldA_sim {P : Program} {π : PMap} {t : TypeId} {x x' v : Value} {f : Nat} (h : fieldA P t x f = some v) (hx : VRel π x x') (w : World) :
    ∃ v', (Instr.field t x' f).run P w = .ok v' w ∧ VRel π v v' := by
  unfold fieldA at h
  split at h
  · rename_i fields cs hu
    split at h
    · rename_i fd hf
      cases hx with
      | agg _ cs' hs hr =>
        obtain ⟨v', e, r⟩ := partA_sim h ⟨hs, hr⟩ w
        exact ⟨v', by simp [Instr.field, run_underlying hu, hf, asAgg, e], r⟩
    · cases h
  · cases h

def fieldAddrA (P : Program) (t : TypeId) (x : Value) (f : Nat) : Option Value :=
  match P.underlying t, x with
  | some (.struct fields), .pointer (some ⟨n, off, none⟩) => match fields[f]? with
    | some fd => match sizeA P fd.type with
      | some (k + 1) => some (.pointer (some ⟨n, off + fd.offset, none⟩))
      | _ => none
    | none => none
  | _, _ => none
theorem add_eq (b o k : Nat) : (⟨b, o, none⟩ : Addr).add k = ⟨b, o + k, none⟩ := by unfold Addr.add; split <;> simp_all
theorem fieldAddrA_sim {P : Program} {π : PMap} {t : TypeId} {x x' v : Value} {f : Nat} (h : fieldAddrA P t x f = some v) (hx : VRel π x x') (w : World) :
    ∃ v', (Instr.fieldAt t x' f).run P w = .ok v' w ∧ VRel π v v' := by
  unfold fieldAddrA at h
  split at h
  · rename_i fields n off hu
    split at h
    · rename_i fd hf
      split at h
      · rename_i k hk
        simp only [Option.some.injEq] at h
        subst h
        cases hx with
        | ptr _ _ p hp =>
          refine ⟨.pointer (some ⟨p.blk, p.base + (off + fd.offset), none⟩), ?_, .ptr _ _ p hp⟩
          simp [Instr.fieldAt, run_underlying hu, hf, Instr.sureAddr, fieldPlace, sizeA_run hk, add_eq, Nat.add_assoc]
      · cases h
    · cases h
  · cases h

def indexA (P : Program) (t : TypeId) (x ix : Value) : Option Value :=
  match P.underlying t, x, ix with
  | some (.array len elem), .agg cs, .int _ i => if 0 ≤ i ∧ i < len then match sizeA P elem with
      | some n => partA P elem cs (i.toNat * n)
      | none => none
    else none
  | some .string, .string s, .int _ i => if 0 ≤ i then match s[i.toNat]? with
      | some b => some (.int .u8 b.toNat)
      | none => none
    else none
  | _, _, _ => none
theorem indexA_sim {P : Program} {π : PMap} {t : TypeId} {x x' i i' v : Value} (h : indexA P t x i = some v) (hx : VRel π x x') (hi : VRel π i i') (w : World) :
    ∃ v', (Instr.index t x' i').run P w = .ok v' w ∧ VRel π v v' := by
  unfold indexA at h
  split at h
  · rename_i len elem cs k i hu
    split at h
    · rename_i hb
      split at h
      · rename_i n hn
        cases hi
        cases hx with
        | agg _ cs' hs hr =>
          obtain ⟨v', e, r⟩ := partA_sim h ⟨hs, hr⟩ w
          exact ⟨v', by simp [Instr.index, asIntOf, run_underlying hu, hb, sizeA_run hn, e], r⟩
      · cases h
    · cases h
  · rename_i s k i hu
    split at h
    · rename_i hb
      split at h
      · rename_i b hs
        simp only [Option.some.injEq] at h
        subst h
        cases hi
        cases hx
        exact ⟨.int .u8 b.toNat, by simp [Instr.index, asIntOf, run_underlying hu, hb, hs], .int _ _⟩
      · cases h
    · cases h
  · cases h

def indexAddrA (P : Program) (t : TypeId) (x ix : Value) : Option Value :=
  match P.underlying t, x, ix with
  | some (.slice elem), .slice (some ⟨n, off, none⟩) len _, .int _ i => if 0 ≤ i ∧ i < len then match sizeA P elem with
      | some s => some (.pointer (some ⟨n, off + i.toNat * s, none⟩))
      | none => none
    else none
  | some (.array len elem), .pointer (some ⟨n, off, none⟩), .int _ i => if 0 ≤ i ∧ i < len then match sizeA P elem with
      | some s => some (.pointer (some ⟨n, off + i.toNat * s, none⟩))
      | none => none
    else none
  | _, _, _ => none
theorem indexAddrA_sim {P : Program} {π : PMap} {t : TypeId} {x x' i i' v : Value} (h : indexAddrA P t x i = some v) (hx : VRel π x x') (hi : VRel π i i') (w : World) :
    ∃ v', (Instr.indexAt t x' i').run P w = .ok v' w ∧ VRel π v v' := by
  unfold indexAddrA at h
  split at h
  · rename_i elem n off len cs k i hu
    split at h
    · rename_i hb
      split at h
      · rename_i s hs
        simp only [Option.some.injEq] at h
        subst h
        cases hi
        cases hx with
        | slice _ _ _ _ p o cap hp ho hl hc =>
          have ho := ho (by omega)
          subst ho
          refine ⟨.pointer (some ⟨p.blk, p.base + (off + i.toNat * s), none⟩), ?_, .ptr _ _ p hp⟩
          simp [Instr.indexAt, asIntOf, run_underlying hu, hb, sizeA_run hs, add_eq, Nat.add_assoc]
      · cases h
    · cases h
  · rename_i len elem n off k i hu
    split at h
    · rename_i hb
      split at h
      · rename_i s hs
        simp only [Option.some.injEq] at h
        subst h
        cases hi
        cases hx with
        | ptr _ _ p hp =>
          refine ⟨.pointer (some ⟨p.blk, p.base + (off + i.toNat * s), none⟩), ?_, .ptr _ _ p hp⟩
          simp [Instr.indexAt, asIntOf, run_underlying hu, Instr.sureAddr, hb, sizeA_run hs, add_eq, Nat.add_assoc]
      · cases h
    · cases h
  · cases h

/-! ### slicing -/
def natOf : Option Value → Nat → Option Nat
  | none, d => some d
  | some (.int _ i), _ => if 0 ≤ i then some i.toNat else none
  | some _, _ => none
def sliceA (P : Program) (t : TypeId) (x : Value) (lo hi mx : Option Value) : Option Value :=
  match mx, P.underlying t, x with
  | none, some .string, .string s => match natOf lo 0, natOf hi s.size with
    | some l, some h => if l ≤ h ∧ h ≤ s.size then some (.string (s.extract l h)) else none
    | _, _ => none
  | none, some (.slice elem), .slice (some ⟨n, off, none⟩) len cs => match natOf lo 0, natOf hi len, sizeA P elem with
    | some l, some h, some s => if l ≤ h ∧ h ≤ len ∧ (cs = 0 ∨ cs = s) then some (.slice (some ⟨n, off + l * s, none⟩) (h - l) cs) else none
    | _, _, _ => none
  | none, some (.slice elem), .slice none 0 0 => match natOf lo 0, natOf hi 0, sizeA P elem with
    | some 0, some 0, some s => some (.slice none 0 0)
    | _, _, _ => none
  | _, _, _ => none
theorem sliceBound_ok {P : Program} {k : IntKind} {i : Int} {y : Nat} {c : BoundsCode} {w : World} (h0 : 0 ≤ i) (h1 : i.toNat ≤ y) : (Instr.sliceBound (.int k i) y c).run P w = .ok i.toNat w := by
  simp [Instr.sliceBound, asIntOf, h0, show i ≤ (y : Int) by omega]
theorem sliceBounds_ok {P : Program} {isS : Bool} {len cap : Nat} {lo hi : Option Value} {l h : Nat} {w : World} (hl : natOf lo 0 = some l) (hh : natOf hi len = some h) (h1 : l ≤ h) (h2 : h ≤ cap) :
    (Instr.sliceBounds isS len cap lo hi none).run P w = .ok (l, h, cap) w := by
  have hi' : ∀ c, (match hi with | some v => Instr.sliceBound v cap c | none => pure len : Sem Nat).run P w = .ok h w := by
    intro c
    unfold natOf at hh
    split at hh
    · simp only [Option.some.injEq] at hh; subst hh; rfl
    · split at hh
      · rename_i hp; simp only [Option.some.injEq] at hh; subst hh; exact sliceBound_ok hp h2
      · cases hh
    · cases hh
  have lo' : ∀ c, (match lo with | some v => Instr.sliceBound v h c | none => pure 0 : Sem Nat).run P w = .ok l w := by
    intro c
    unfold natOf at hl
    split at hl
    · simp only [Option.some.injEq] at hl; subst hl; rfl
    · split at hl
      · rename_i hp; simp only [Option.some.injEq] at hl; subst hl; exact sliceBound_ok hp h1
      · cases hl
    · cases hl
  unfold Instr.sliceBounds
  cases hi with
  | none =>
    have a := hi' .sliceB
    simp only [Sem.run_bind, Sem.run_pure, Result.andThen_ok] at a ⊢
    simp only [Result.ok.injEq, and_true] at a
    subst a
    cases lo with
    | none => have b := lo' .sliceB; simp only [Sem.run_pure, Result.ok.injEq, and_true] at b; subst b; simp
    | some v => have b := lo' .sliceB; simp only at b; simp [b]
  | some u =>
    have a := hi' (if isS then .sliceAcap else .sliceAlen)
    simp only at a
    simp only [Sem.run_bind, Sem.run_pure, Result.andThen_ok, a]
    cases lo with
    | none => have b := lo' .sliceB; simp only [Sem.run_pure, Result.ok.injEq, and_true] at b; subst b; simp
    | some v => have b := lo' .sliceB; simp only at b; simp [b]
def ORelV (π : PMap) (x x' : Option Value) : Prop := match x, x' with | none, none => True | some a, some b => VRel π a b | _, _ => False
theorem natOf_rel {π : PMap} {x x' : Option Value} {d n : Nat} (h : natOf x d = some n) (hr : ORelV π x x') : natOf x' d = some n := by
  cases x with
  | none => cases x' with
    | none => exact h
    | some b => exact hr.elim
  | some a => cases x' with
    | none => exact hr.elim
    | some b =>
      unfold natOf at h
      cases a <;> simp at h
      cases hr
      simpa [natOf] using h
theorem sliceAt_eq {P : Program} {t : TypeId} {x : Value} {lo hi mx : Option Value} {w : World} (h : ∀ n e, P.underlying t ≠ some (.array n e)) {d : TypeDesc} (hd : P.underlying t = some d) :
    (Instr.sliceAt t x lo hi mx).run P w = (Instr.slice t x lo hi mx).run P w := by
  unfold Instr.sliceAt
  simp only [Sem.run_bind, run_underlying hd, Result.andThen_ok]
  cases d <;> first | rfl | exact absurd hd (h _ _)
theorem sliceA_sim {P : Program} {π : PMap} {t : TypeId} {x x' v : Value} {lo lo' hi hi' mx mx' : Option Value} (h : sliceA P t x lo hi mx = some v) (hx : VRel π x x')
    (hlo : ORelV π lo lo') (hhi : ORelV π hi hi') (hmx : ORelV π mx mx') (w : World) : ∃ v', (Instr.sliceAt t x' lo' hi' mx').run P w = .ok v' w ∧ VRel π v v' := by
  unfold sliceA at h
  split at h
  · rename_i s hu
    split at h
    · rename_i l hh hl hh'
      split at h
      · rename_i hb
        simp only [Option.some.injEq] at h
        subst h
        cases mx' with
        | some _ => exact hmx.elim
        | none =>
          cases hx
          refine ⟨.string (s.extract l hh), ?_, .string _⟩
          rw [sliceAt_eq (by rw [hu]; simp) hu]
          simp [Instr.slice, run_underlying hu, sliceBounds_ok (natOf_rel hl hlo) (natOf_rel hh' hhi) hb.1 hb.2]
      · cases h
    · cases h
  · rename_i elem n off len cs hu
    split at h
    · rename_i l hh sz hl hh' hs
      split at h
      · rename_i hb
        simp only [Option.some.injEq] at h
        subst h
        cases mx' with
        | some _ => exact hmx.elim
        | none =>
          cases hx with
          | slice _ _ _ _ p o cap hp ho hlc hc =>
            refine ⟨.slice (if cap = l then some ⟨p.blk, o, none⟩ else some ⟨p.blk, o + l * sz, none⟩) (hh - l) (cap - l), ?_, ?_⟩
            · rw [sliceAt_eq (by rw [hu]; simp) hu]
              simp [Instr.slice, run_underlying hu, sliceBounds_ok (natOf_rel hl hlo) (natOf_rel hh' hhi) hb.1 (Nat.le_trans hb.2.1 hlc), sizeA_run hs, add_eq]
            · by_cases e : cap = l
              · rw [if_pos e]
                refine .slice _ _ _ _ p _ _ hp (fun h0 => by omega) (by omega) ?_
                rcases hc with hc | hc
                · exact .inl hc
                · right; rw [e]; simp; exact Nat.le_trans (Nat.le_add_right _ _) hc
              · rw [if_neg e]
                refine .slice _ _ _ _ p _ _ hp (fun h0 => by rw [ho (by omega)]; omega) (by omega) ?_
                rcases hc with hc | hc
                · exact .inl hc
                · rcases hb.2.2 with h0 | h0
                  · exact .inl h0
                  · right
                    subst h0
                    have : l * cs + (cap - l) * cs = cap * cs := by
                      rw [← Nat.add_mul]; congr 1; omega
                    omega
      · cases h
    · cases h
  · rename_i elem hu
    split at h
    · rename_i hl hh' hs
      simp only [Option.some.injEq] at h
      subst h
      rename_i sz
      cases mx' with
      | some _ => exact hmx.elim
      | none =>
        cases hx
        refine ⟨.slice none 0 0, ?_, .nilSlice⟩
        rw [sliceAt_eq (by rw [hu]; simp) hu]
        simp [Instr.slice, run_underlying hu, sliceBounds_ok (natOf_rel hl hlo) (natOf_rel hh' hhi) (Nat.le_refl _) (Nat.le_refl _), sizeA_run hs]
    · cases h
  · cases h

/-! ### tuples, interfaces, functions -/
def extractA (x : Value) (i : Nat) : Option Value := match x with
  | .tuple vs => vs.toList[i]?
  | _ => none
theorem extractA_sim {P : Program} {π : PMap} {x x' v : Value} {i : Nat} (h : extractA x i = some v) (hx : VRel π x x') (w : World) : ∃ v', (Instr.extract x' i).run P w = .ok v' w ∧ VRel π v v' := by
  unfold extractA at h
  split at h
  · cases hx with
    | tuple _ xs' hs hr =>
      obtain ⟨v', e, r⟩ := VRels.list ⟨hs, hr⟩ i v h
      have : xs'[i]? = some v' := by simpa using e
      exact ⟨v', by simp [Instr.extract, this], r⟩
  · cases h

def nilCheckA (x : Value) : Option Value := match x with
  | .pointer (some a) => some (.pointer (some a))
  | .func (.func f) a b => some (.func (.func f) a b)
  | _ => none

def makeIfaceA (P : Program) (t : TypeId) (x : Value) : Option Value := match P.underlying t with
  | some (.interface _) => none
  | some _ => some (.iface t x)
  | none => none
theorem makeIfaceA_sim {P : Program} {π : PMap} {t : TypeId} {x x' v : Value} (h : makeIfaceA P t x = some v) (hx : VRel π x x') (w : World) : ∃ v', (Instr.makeInterface t x').run P w = .ok v' w ∧ VRel π v v' := by
  unfold makeIfaceA at h
  split at h
  · cases h
  · rename_i d hne hd
    simp only [Option.some.injEq] at h
    subst h
    refine ⟨.iface t x', ?_, .iface _ _ _ hx⟩
    unfold Instr.makeInterface
    simp only [Sem.run_bind, run_underlying hd, Result.andThen_ok]
    cases d <;> first | rfl | exact absurd rfl (hne _)
  · cases h

def assertA (P : Program) (x : Value) (xt asserted : TypeId) (ok : Bool) : Option Value := match P.underlying asserted, x with
  | some (.interface _), _ => none
  | none, _ => none
  | some _, .iface t v => if t = asserted then some (if ok then .tuple #[v, .bool true] else v)
    else if ok then match P.info? asserted with
      | some i => match i.zero with
        | some z => if plain 2 z then some (.tuple #[z, .bool false]) else none
        | none => none
      | none => none
    else none
  | some _, _ => none
theorem VRels.nil {π : PMap} : VRels π #[] #[] := ⟨rfl, fun i a => by simp at a⟩
theorem VRels.one {π : PMap} {a a' : Value} (h : VRel π a a') : VRels π #[a] #[a'] := ⟨rfl, fun i x y => by
  have : i = 0 := by simp at x; omega
  subst this; exact h⟩
theorem VRels.two {π : PMap} {a a' b b' : Value} (h : VRel π a a') (k : VRel π b b') : VRels π #[a, b] #[a', b'] := ⟨rfl, fun i x y => by
  have : i = 0 ∨ i = 1 := by simp at x; omega
  rcases this with rfl | rfl
  · exact h
  · exact k⟩
theorem assertA_sim {P : Program} {π : PMap} {x x' v : Value} {xt asserted : TypeId} {ok : Bool} (h : assertA P x xt asserted ok = some v) (hx : VRel π x x') (w : World) : ∃ v', (Instr.typeAssert x' xt asserted ok).run P w = .ok v' w ∧ VRel π v v' := by
  unfold assertA at h
  split at h
  · cases h
  · cases h
  · rename_i d t u hne hd
    have key : ∀ y : Value, (Instr.typeAssert (.iface t y) xt asserted ok).run P w = (if t = asserted then (pure (if ok then .tuple #[y, .bool true] else y) : Sem Value) else
        (if ok then do pure (.tuple #[← zeroValue asserted, .bool false]) else runtimePanic (.typeAssertion (some xt) (some t) asserted ""))).run P w := by
      intro y
      unfold Instr.typeAssert
      simp only [Sem.run_bind, run_underlying hd, Result.andThen_ok]
      all_goals (cases d <;> first | rfl | exact absurd hd (hne _))
    cases hx with
    | iface _ _ u' hu =>
      rw [key]
      split at h
      · rename_i he
        simp only [Option.some.injEq] at h
        subst h
        rw [if_pos he]
        cases ok
        · exact ⟨u', rfl, hu⟩
        · have q := VRels.two hu (.bool true)
          exact ⟨.tuple #[u', .bool true], rfl, .tuple _ _ q.1 q.2⟩
      · rename_i he
        rw [if_neg he]
        split at h
        · rename_i ho
          split at h
          · rename_i i hi
            split at h
            · rename_i z hz
              split at h
              · rename_i hp
                simp only [Option.some.injEq] at h
                subst h
                rw [if_pos ho]
                have q := VRels.two (plain_rel π 2 z hp) (.bool false)
                exact ⟨.tuple #[z, .bool false], by simp [zeroValue, typeInfo, hi, hz], .tuple _ _ q.1 q.2⟩
              · cases h
            · cases h
          · cases h
        · cases h
  · cases h

/-! ### len, max, min -/
def lenA (P : Program) (t : TypeId) (x : Value) : Option Value := match P.underlying t, x with
  | some .string, .string s => some (.int .i64 s.size)
  | some (.slice _), .slice _ n _ => some (.int .i64 n)
  | some (.array n _), _ => some (.int .i64 n)
  | some (.map _ _), .map none => some (.int .i64 0)
  | _, _ => none
theorem lenA_sim {P : Program} {π : PMap} {t ty : TypeId} {ts : Array TypeId} {x x' v : Value} (h : lenA P t x = some v) (hx : VRel π x x') (ht : ts[0]? = some t) (w : World) : (Builtin.len_ ts ty #[x']).run P w = .ok v w := by
  unfold lenA at h
  split at h
  · rename_i s hu
    simp only [Option.some.injEq] at h; subst h
    cases hx
    simp [Builtin.len_, ht, run_underlying hu, goInt]
  · rename_i hu
    simp only [Option.some.injEq] at h; subst h
    cases hx <;> simp [Builtin.len_, ht, run_underlying hu, goInt]
  · rename_i n e hu
    simp only [Option.some.injEq] at h; subst h
    simp [Builtin.len_, ht, run_underlying hu, goInt]
  · rename_i hu
    simp only [Option.some.injEq] at h; subst h
    cases hx
    simp [Builtin.len_, ht, run_underlying hu, goInt]
  · cases h

def foldInts (f : Int → Int → Int) (k : IntKind) : Int → List Value → Option Value
  | a, [] => some (.int k a)
  | a, .int _ b :: r => foldInts f k (f a b) r
  | _, _ => none
def maxA : List Value → Option Value
  | .int k a :: r => foldInts (fun a b => if b > a then b else a) k a r
  | _ => none
def minA : List Value → Option Value
  | .int k a :: r => foldInts (fun a b => if b < a then b else a) k a r
  | _ => none
theorem foldMax {P : Program} {w : World} : ∀ (r : List Value) (k : IntKind) (a : Int) (v : Value), foldInts (fun a b => if b > a then b else a) k a r = some v → (r.foldlM Builtin.max2 (.int k a)).run P w = .ok v w
  | [], k, a, v, h => by simp only [foldInts, Option.some.injEq] at h; subst h; rfl
  | x :: r, k, a, v, h => by
    cases x <;> simp only [foldInts] at h <;> first | (cases h; done) | skip
    have := foldMax (P := P) (w := w) r k _ v h
    simpa [Builtin.max2] using this
theorem foldMin {P : Program} {w : World} : ∀ (r : List Value) (k : IntKind) (a : Int) (v : Value), foldInts (fun a b => if b < a then b else a) k a r = some v → (r.foldlM Builtin.min2 (.int k a)).run P w = .ok v w
  | [], k, a, v, h => by simp only [foldInts, Option.some.injEq] at h; subst h; rfl
  | x :: r, k, a, v, h => by
    cases x <;> simp only [foldInts] at h <;> first | (cases h; done) | skip
    have := foldMin (P := P) (w := w) r k _ v h
    simpa [Builtin.min2] using this
theorem foldInts_plain {f : Int → Int → Int} {k : IntKind} : ∀ (r : List Value) (a : Int) (v : Value), foldInts f k a r = some v → (∀ x ∈ r, ∃ j b, x = .int j b) ∧ ∃ b, v = .int k b
  | [], a, v, h => by simp only [foldInts, Option.some.injEq] at h; exact ⟨by simp, a, h.symm⟩
  | x :: r, a, v, h => by
    cases x <;> simp only [foldInts] at h <;> first | (cases h; done) | skip
    obtain ⟨h1, h2⟩ := foldInts_plain r _ v h
    exact ⟨by simpa using h1, h2⟩
end Go.Proofs.YtgpfgcbolinncaaGreat.Abs
set_option linter.unusedVariables false
set_option linter.unusedSimpArgs false
namespace Go.Proofs.YtgpfgcbolinncaaGreat.Abs
open Go Go.RowKit

/-! ### cells of a value -/
def known : Value → Bool
  | .complex .f64 _ _ => false
  | _ => true
def cellOk : Value → Bool
  | .complex .f64 _ _ | .agg _ | .tuple _ => false
  | _ => true
def cellsL : Value → List Value
  | .agg cs => cs.toList
  | v => [v]
def LRel (π : PMap) (xs ys : List Value) : Prop := xs.length = ys.length ∧ ∀ (i : Nat) (v : Value), xs[i]? = some v → ∃ v', ys[i]? = some v' ∧ VRel π v v'
theorem LRel.mono {π π' : PMap} (hp : π.le π') {xs ys : List Value} (h : LRel π xs ys) : LRel π' xs ys := ⟨h.1, fun i v e => let ⟨v', a, r⟩ := h.2 i v e; ⟨v', a, r.mono hp⟩⟩
theorem LRel.nil {π : PMap} : LRel π [] [] := ⟨rfl, by simp⟩
theorem LRel.cons {π : PMap} {a b : Value} {xs ys : List Value} (h : VRel π a b) (k : LRel π xs ys) : LRel π (a :: xs) (b :: ys) := by
  refine ⟨by simp [k.1], fun i v e => ?_⟩
  cases i with
  | zero => simp at e; subst e; exact ⟨b, by simp, h⟩
  | succ i => simp at e; obtain ⟨v', e', r⟩ := k.2 i v e; exact ⟨v', by simpa using e', r⟩
theorem LRel.append {π : PMap} {a b c d : List Value} (h : LRel π a b) (k : LRel π c d) : LRel π (a ++ c) (b ++ d) := by
  refine ⟨by simp [h.1, k.1], fun i v e => ?_⟩
  rw [List.getElem?_append] at e ⊢
  rw [← h.1]
  split at e
  · rename_i hi; rw [if_pos hi]; exact h.2 i v e
  · rename_i hi; rw [if_neg hi]; exact k.2 _ v e
theorem LRel.take {π : PMap} {a b : List Value} (h : LRel π a b) (n : Nat) : LRel π (a.take n) (b.take n) := by
  refine ⟨by simp [h.1], fun i v e => ?_⟩
  rw [List.getElem?_take] at e ⊢
  split at e
  · rename_i hi; rw [if_pos hi]; exact h.2 i v e
  · cases e
theorem LRel.drop {π : PMap} {a b : List Value} (h : LRel π a b) (n : Nat) : LRel π (a.drop n) (b.drop n) := by
  refine ⟨by simp [h.1], fun i v e => ?_⟩
  rw [List.getElem?_drop] at e ⊢
  exact h.2 _ v e
theorem LRel.of_arrays {π : PMap} {a b : Array Value} (h : VRels π a b) : LRel π a.toList b.toList := ⟨by simpa using h.1, fun i v e => h.list i v e⟩
theorem LRel.arrays {π : PMap} {a b : List Value} (h : LRel π a b) : VRels π a.toArray b.toArray := VRels.of_lists h.1 h.2
theorem cells_rel {π : PMap} {v v' : Value} (h : VRel π v v') (hk : known v = true) : LRel π (cellsL v) v'.cells.toList := by
  cases h with
  | agg xs xs' hs hr => exact LRel.of_arrays ⟨hs, hr⟩
  | top a b v => simp [known] at hk
  | _ => exact LRel.cons (by first | (constructor; done) | (constructor <;> assumption)) LRel.nil
theorem oneCell_of {π : PMap} {v v' : Value} (h : VRel π v v') (hk : cellOk v = true) : v'.oneCell' = true := by
  cases h <;> simp_all [cellOk, Value.oneCell']
theorem LRel.oneCell {π : PMap} {xs ys : List Value} (h : LRel π xs ys) (hk : xs.all cellOk = true) : ∀ v ∈ ys, v.oneCell' = true := by
  intro v hv
  obtain ⟨i, hi, e⟩ := List.mem_iff_getElem.1 hv
  have hx : i < xs.length := by rw [h.1]; exact hi
  obtain ⟨v', e', r⟩ := h.2 i xs[i] (List.getElem?_eq_getElem hx)
  rw [List.getElem?_eq_getElem hi] at e'
  simp only [Option.some.injEq] at e'
  have := List.all_eq_true.1 hk xs[i] (List.getElem_mem hx)
  rw [← e, e']
  exact oneCell_of r this

/-! ### writing into a row -/
def spliceL (c : List Value) (off : Nat) (vs : List Value) : List Value := c.take off ++ vs ++ c.drop (off + vs.length)
theorem splice_length {c vs : List Value} {off : Nat} (h : off + vs.length ≤ c.length) : (spliceL c off vs).length = c.length := by simp [spliceL]; omega
theorem splice_get {c vs : List Value} {off : Nat} (h : off + vs.length ≤ c.length) (i : Nat) : (spliceL c off vs)[i]? = if off ≤ i ∧ i < off + vs.length then vs[i - off]? else c[i]? := by
  unfold spliceL
  rw [List.append_assoc, List.getElem?_append]
  have h1 : (c.take off).length = off := by simp; omega
  rw [h1]
  by_cases a : i < off
  · rw [if_pos a, if_neg (by omega), List.getElem?_take, if_pos a]
  · rw [if_neg a, List.getElem?_append]
    by_cases b : i - off < vs.length
    · rw [if_pos b, if_pos (by omega)]
    · rw [if_neg b, if_neg (by omega), List.getElem?_drop]
      congr 1; omega
theorem LRel.splice {π : PMap} {a b vs ws : List Value} {off : Nat} (h : LRel π a b) (k : LRel π vs ws) : LRel π (spliceL a off vs) (spliceL b off ws) := by
  unfold spliceL
  rw [← k.1]
  exact (LRel.append (LRel.append (h.take off) k) (h.drop _))

theorem run_storeCells_fr (P : Program) (g o : Nat) (t : TypeId) (fr : Nat × Nat) : ∀ (vs : List Value) (i : Nat) (cur : Array Value) (w : World), w.heap[g]? = some (.cells cur t fr) → o + i + vs.length ≤ cur.size → (∀ v ∈ vs, v.oneCell' = true) →
    (∀ k, k < cur.size → ¬ (fr.1 ≤ k ∧ k < fr.2)) →
    (storeCells ⟨g, o, none⟩ vs i).run P w = .ok () (w.setRow g (spliceL cur.toList (o + i) vs).toArray)
  | [], i, cur, w, hg, _, _, _ => by
    simp only [storeCells, spliceL, List.append_nil, List.length_nil, Nat.add_zero, List.take_append_drop, Array.toArray_toList]
    rw [setRow_self w g cur t fr hg]
    rfl
  | v :: rest, i, cur, w, hg, hl, h1, hf => by
    have hi : o + i < cur.size := by simp at hl; omega
    have hadd : (⟨g, o, none⟩ : Addr).add i = ⟨g, o + i, none⟩ := by unfold Addr.add; split <;> simp_all
    have hcell : w.cell? ⟨g, o + i, none⟩ = some cur[o + i] := by simp [World.cell?, hg, hi]
    have hfro : w.frozen? ⟨g, o + i, none⟩ = false := by
      have := hf (o + i) hi
      simp only [World.frozen?, hg]
      simp only [Bool.and_eq_false_iff, decide_eq_false_iff_not]
      omega
    have hst : (store ((⟨g, o, none⟩ : Addr).add i) v).run P w = .ok () (w.setRow g (cur.setIfInBounds (o + i) v)) := by
      rw [hadd, run_store P w _ v _ (h1 v (by simp)), hcell]
      simp [hfro, setCell_eq_setRow w g (o + i) cur t fr v hg]
    have ih := run_storeCells_fr P g o t fr rest (i + 1) (cur.setIfInBounds (o + i) v) (w.setRow g (cur.setIfInBounds (o + i) v)) (setRow_heap w g cur _ t _ hg) (by simp at hl ⊢; omega) (fun x hx => h1 x (by simp [hx])) (fun k hk => hf k (by simpa using hk))
    simp only [storeCells, Sem.run_bind, hst, Result.andThen_ok, ih, setRow_setRow]
    congr 3
    have e := list_seg_step cur.toList (o + i) v rest (by simp at hl ⊢; omega)
    simpa [Array.toList_setIfInBounds, Nat.add_assoc, spliceL] using e

/-! ### filling a literal's cells -/
def fillL (place : Nat → Option (Nat × Nat)) : List Value → List (Nat × Value) → Option (List Value)
  | c, [] => some c
  | c, (i, v) :: r => match place i with
    | none => none
    | some (off, size) => if known v ∧ (cellsL v).length = size ∧ off + size ≤ c.length then fillL place (spliceL c off (cellsL v)) r else none
def PartsRel (π : PMap) (a b : List (Nat × Value)) : Prop := a.length = b.length ∧ ∀ (i : Nat) (x : Nat × Value), a[i]? = some x → ∃ y : Nat × Value, b[i]? = some y ∧ y.1 = x.1 ∧ VRel π x.2 y.2
theorem PartsRel.tail {π : PMap} {x : Nat × Value} {r b : List (Nat × Value)} (h : PartsRel π (x :: r) b) : ∃ y s, b = y :: s ∧ y.1 = x.1 ∧ VRel π x.2 y.2 ∧ PartsRel π r s := by
  cases b with
  | nil => simp [PartsRel] at h
  | cons y s =>
    obtain ⟨hl, hr⟩ := h
    obtain ⟨y', e, h1, h2⟩ := hr 0 x rfl
    simp at e; subst e
    refine ⟨y, s, rfl, h1, h2, by simpa using hl, fun i x' hx => ?_⟩
    have := hr (i + 1) x' (by simpa using hx)
    simpa using this
theorem foldl_set : ∀ (vs : List Value) (off j : Nat) (C : Array Value), off + j + vs.length ≤ C.size →
    ((vs.zipIdx j).foldl (fun cs (p : Value × Nat) => cs.setIfInBounds (off + p.2) p.1) C).toList = spliceL C.toList (off + j) vs
  | [], off, j, C, h => by simp [spliceL]
  | v :: vs, off, j, C, h => by
    simp only [List.zipIdx_cons, List.foldl_cons]
    rw [foldl_set vs off (j + 1) (C.setIfInBounds (off + j) v) (by simp at h ⊢; omega)]
    have e := list_seg_step C.toList (off + j) v vs (by simp at h ⊢; omega)
    simpa [spliceL, Array.toList_setIfInBounds, Nat.add_assoc] using e
theorem foldl_zip (v : Value) (off : Nat) (C : Array Value) (h : off + v.cells.size ≤ C.size) :
    (v.cells.zipIdx.foldl (fun cs (p : Value × Nat) => cs.setIfInBounds (off + p.2) p.1) C).toList = spliceL C.toList off v.cells.toList := by
  rw [← Array.foldl_toList, Array.toList_zipIdx]
  have := foldl_set v.cells.toList off 0 C (by simpa using h)
  simpa using this
theorem fill_sim {π : PMap} {place : Nat → Option (Nat × Nat)} : ∀ (parts : List (Nat × Value)) (parts' : List (Nat × Value)) (c d : List Value) (C : Array Value), fillL place c parts = some d → PartsRel π parts parts' → LRel π c C.toList →
    ∃ D, Instr.fill place C parts' = some D ∧ LRel π d D.toList
  | [], parts', c, d, C, h, hp, hc => by
    simp only [fillL, Option.some.injEq] at h
    subst h
    have : parts' = [] := by
      have := hp.1
      simp at this
      exact List.eq_nil_of_length_eq_zero this.symm
    subst this
    exact ⟨C, rfl, hc⟩
  | (i, v) :: r, parts', c, d, C, h, hp, hc => by
    obtain ⟨⟨i', v'⟩, s, rfl, h1, h2, h3⟩ := hp.tail
    simp only at h1 h2
    subst h1
    simp only [fillL] at h
    split at h
    · cases h
    · rename_i off size hpl
      split at h
      · rename_i hb
        have hv := cells_rel h2 hb.1
        have hs : v'.cells.size = size := by have := hv.1; simp at this; omega
        have hC : off + v'.cells.size ≤ C.size := by have := hc.1; simp at this; omega
        have hf := foldl_zip v' off C hC
        have hc' : LRel π (spliceL c off (cellsL v)) (v'.cells.zipIdx.foldl (fun cs (p : Value × Nat) => cs.setIfInBounds (off + p.2) p.1) C).toList := by
          rw [hf]; exact hc.splice hv
        obtain ⟨D, e, hD⟩ := fill_sim r s _ d _ h h3 hc'
        refine ⟨D, ?_, hD⟩
        simp only [Instr.fill, hpl]
        rw [if_neg (by simp [hs]; omega)]
        exact e
      · cases h

/-! ### a struct, an array as a value -/
def placesL (P : Program) : List Field → Option (List (Nat × Nat))
  | [] => some []
  | f :: r => match sizeA P f.type, placesL P r with
    | some n, some l => some ((f.offset, n) :: l)
    | _, _ => none
theorem places_run {P : Program} : ∀ (fs : List Field) (l : List (Nat × Nat)) (w : World), placesL P fs = some l → (fs.mapM fun f => do pure (f.offset, ← sizeOf f.type) : Sem (List (Nat × Nat))).run P w = .ok l w
  | [], l, w, h => by simp only [placesL, Option.some.injEq] at h; subst h; rfl
  | f :: r, l, w, h => by
    simp only [placesL] at h
    split at h
    · rename_i n l' hn hl
      simp only [Option.some.injEq] at h
      subst h
      have := places_run r l' w hl
      simp only [List.mapM_cons, Sem.run_bind, sizeA_run hn, Result.andThen_ok, Sem.run_pure, this]
    · cases h
def zeroL (P : Program) (t : TypeId) : Option (List Value) := match P.info? t with
  | some i => match i.zero with
    | some z => if plain 2 z then some (cellsL z) else none
    | none => none
  | none => none
theorem zero_sim {P : Program} {t : TypeId} {c : List Value} (h : zeroL P t = some c) : ∃ z, (∀ w, (zeroValue t).run P w = .ok z w) ∧ c = z.cells.toList ∧ ∀ π, LRel π c c := by
  unfold zeroL at h
  split at h
  · rename_i i hi
    split at h
    · rename_i z hz
      split at h
      · rename_i hp
        simp only [Option.some.injEq] at h
        subst h
        refine ⟨z, fun w => by simp [zeroValue, typeInfo, hi, hz], by cases z <;> rfl, fun π => ?_⟩
        have hk : known z = true := by cases z <;> simp_all [plain, known]
        have := cells_rel (plain_rel π 2 z hp) hk
        have e : z.cells.toList = cellsL z := by cases z <;> rfl
        rwa [e] at this
      · cases h
    · cases h
  · cases h
def buildA (P : Program) (t : TypeId) (parts : List (Nat × Value)) : Option Value :=
  match P.underlying t, zeroL P t with
  | some (.struct fields), some z => match placesL P fields.toList with
    | some pl => match fillL (fun i => pl[i]?) z parts with
      | some c => some (.agg c.toArray)
      | none => none
    | none => none
  | some (.array _ elem), some z => match sizeA P elem with
    | some n => match fillL (fun i => some (i * n, n)) z parts with
      | some c => some (.agg c.toArray)
      | none => none
    | none => none
  | _, _ => none
theorem buildA_sim {P : Program} {π : PMap} {t : TypeId} {parts parts' : List (Nat × Value)} {v : Value} (h : buildA P t parts = some v) (hp : PartsRel π parts parts') (w : World) :
    ∃ v', (Instr.build t parts'.toArray).run P w = .ok v' w ∧ VRel π v v' := by
  unfold buildA at h
  split at h
  · rename_i fields z hu hz
    split at h
    · rename_i pl hpl
      split at h
      · rename_i c hc
        simp only [Option.some.injEq] at h
        subst h
        obtain ⟨zv, hzr, hzc, hzz⟩ := zero_sim hz
        obtain ⟨D, e, hD⟩ := fill_sim parts parts' z c zv.cells hc hp (by rw [← hzc]; exact hzz π)
        have hpr := places_run fields.toList pl w hpl
        refine ⟨.agg D, ?_, ?_⟩
        · have hm : (fields.mapM fun f => do pure (f.offset, ← sizeOf f.type) : Sem (Array (Nat × Nat))).run P w = .ok pl.toArray w := by
            rw [Array.mapM_eq_mapM_toList, Sem.run_map, hpr]; rfl
          unfold Instr.build
          simp only [Sem.run_bind, hzr w, Result.andThen_ok, run_underlying hu, hm]
          have e' : Instr.fill (fun x => pl.toArray[x]?) zv.cells parts'.toArray.toList = some D := by simpa using e
          rw [e']
          rfl
        · have q := hD.arrays
          simp only [Array.toArray_toList] at q
          exact .agg _ _ q.1 q.2
      · cases h
    · cases h
  · rename_i len elem z hu hz
    split at h
    · rename_i n hn
      split at h
      · rename_i c hc
        simp only [Option.some.injEq] at h
        subst h
        obtain ⟨zv, hzr, hzc, hzz⟩ := zero_sim hz
        obtain ⟨D, e, hD⟩ := fill_sim parts parts' z c zv.cells hc hp (by rw [← hzc]; exact hzz π)
        refine ⟨.agg D, ?_, ?_⟩
        · unfold Instr.build
          simp only [Sem.run_bind, hzr w, Result.andThen_ok, run_underlying hu, sizeA_run hn]
          have e' : Instr.fill (fun i => some (i * n, n)) zv.cells parts'.toArray.toList = some D := by simpa using e
          rw [e']
          rfl
        · have q := hD.arrays
          simp only [Array.toArray_toList] at q
          exact .agg _ _ q.1 q.2
      · cases h
    · cases h
  · cases h
end Go.Proofs.YtgpfgcbolinncaaGreat.Abs
