/- Nodes as trees; what a value of type api.Node reads as. Nodes, ProveChains' numbering: facts of types, fields, rows of nodes, memory that a call makes. -/
import Derived.Test.YtgpfgcbolinncaaGreatM3
import Derived.Test.YtgpfgcbolinncaaGreatProg
import Derived.KernelRfl
import Derived.Test.YtgpfgcbolinncaaGreatM4
set_option linter.unusedVariables false
set_option linter.unusedSimpArgs false
namespace Go.Proofs.YtgpfgcbolinncaaGreat.Abs
open Go Go.RowKit

inductive Tree where
  | mk (op kind vk bits pos attr : Int) (args : List Tree)
theorem Tree.ind {M : Tree → Prop} (h : ∀ op kind vk bits pos attr args, (∀ t ∈ args, M t) → M (.mk op kind vk bits pos attr args)) : ∀ t, M t
  | .mk op kind vk bits pos attr args => h op kind vk bits pos attr args fun t ht => Tree.ind h t
  termination_by t => SizeOf.sizeOf t
  decreasing_by
  have := List.sizeOf_lt_of_mem ht
  simp only [Tree.mk.sizeOf_spec]
  omega

def nodeVal (op kind : Int) (sl : Value) (vk bits pos attr : Int) : Value := .agg #[.int .i64 op, .int .i64 kind, sl, .int .i64 vk, .int .u64 bits, .int .i64 pos, .int .i64 attr]
inductive NodeV (h : Heap) : Tree → Value → Prop
  | mk (op kind vk bits pos attr : Int) (ts : List Tree) (sl : Value) (n off cs : Nat) (c : List Value) (e : TypeId)
      (hs : (∃ k, sl = .slice none 0 k ∧ ts = []) ∨ sl = .slice (some ⟨n, off, none⟩) ts.length cs)
      (hc : ts ≠ [] → h.find n = some (some (.cells c e)))
      (hl : ∀ i, i < ts.length → off + i * 7 + 7 ≤ c.length)
      (ht : ∀ i t, ts[i]? = some t → NodeV h t (.agg ((c.drop (off + i * 7)).take 7).toArray)) : NodeV h (.mk op kind vk bits pos attr ts) (nodeVal op kind sl vk bits pos attr)
theorem NodeV.keep {h h' : Heap} (k : ∀ n, h.find n ≠ none → h'.find n = h.find n) {t : Tree} {v : Value} (x : NodeV h t v) : NodeV h' t v := by
  induction x with
  | mk op kind vk bits pos attr ts sl n off cs c e hs hc hl ht ih =>
    exact .mk op kind vk bits pos attr ts sl n off cs c e hs (fun hne => by rw [k n (by rw [hc hne]; simp), hc hne]) hl ih
theorem NodeV.kept {s s' : ST} (k : Kept s s') {t : Tree} {v : Value} (x : NodeV s.heap t v) : NodeV s'.heap t v := x.keep fun n hn => k.find hn

/-- a slice of nodes -/
structure ArgsV (h : Heap) (ts : List Tree) (sl : Value) : Prop where
  len : lenA Tryz.prog 22 sl = some (.int .i64 ts.length)
  cell : cellOk sl = true
  known : known sl = true
  at_ : ∀ (i : Nat) t, ts[i]? = some t → ∃ a v, indexAddrA Tryz.prog 22 sl (.int .i64 i) = some a ∧ NodeV h t v ∧ ∀ s : ST, (∀ n, h.find n ≠ none → s.heap.find n = h.find n) → loadA Tryz.prog 27 a s = some (v, s)
theorem sz27 : sizeA Tryz.prog 27 = some 7 := by kernel_rfl
theorem ag27 : aggA Tryz.prog 27 = some true := by kernel_rfl
theorem sz22 : sizeA Tryz.prog 22 = some 1 := by kernel_rfl
theorem ag22 : aggA Tryz.prog 22 = some false := by kernel_rfl
theorem NodeV.open_ {h : Heap} {t : Tree} {v : Value} (x : NodeV h t v) : ∃ op kind vk bits pos attr ts sl, t = .mk op kind vk bits pos attr ts ∧ v = nodeVal op kind sl vk bits pos attr ∧ ArgsV h ts sl := by
  cases x with
  | mk op kind vk bits pos attr ts sl n off cs c e hs hc hl ht =>
    refine ⟨op, kind, vk, bits, pos, attr, ts, sl, rfl, rfl, ?_⟩
    rcases hs with ⟨_, rfl, rfl⟩ | rfl
    · exact ⟨by simp [lenA, Tryz.underlying22], rfl, rfl, fun i t hi => by simp at hi⟩
    · refine ⟨by simp [lenA, Tryz.underlying22], rfl, rfl, fun i t hi => ?_⟩
      have hlt := (List.getElem?_eq_some_iff.1 hi).1
      have hne : ts ≠ [] := fun e => by rw [e] at hlt; simp at hlt
      refine ⟨.pointer (some ⟨n, off + i * 7, none⟩), _, ?_, ht i t hi, fun s hs => ?_⟩
      · simp [indexAddrA, Tryz.underlying22, sz27, hlt]
      · have hf := hs n (by rw [hc hne]; simp)
        rw [hc hne] at hf
        have hll := hl i hlt
        unfold loadA
        simp only [AM.andThen, AM.ofOption, asPtr, AM.ret, AM.read, hf, asCells, loadFrom, ag27, sz27]
        rw [if_pos hll]; rfl
def cnt : Tree → Nat
  | .mk _ _ _ _ _ _ args => 1 + (args.attach.map fun x => cnt x.1).sum
  termination_by t => SizeOf.sizeOf t
  decreasing_by
  have := List.sizeOf_lt_of_mem x.2
  simp only [Tree.mk.sizeOf_spec]
  omega
theorem cnt_eq (op kind vk bits pos attr : Int) (args : List Tree) : cnt (.mk op kind vk bits pos attr args) = 1 + (args.map cnt).sum := by
  rw [cnt]; simp

/-- the slots of a loop over a node's operands: size, place of the slice, of its length, of the index -/
structure Slots (fr : Fr) (m ja jl ji : Nat) (sl : Value) (len i : Nat) : Prop where
  n : fr.n = m
  defs : fr.defs = []
  sl : fr.env.get ja = some sl
  len : fr.env.get jl = some (.int .i64 len)
  i : fr.env.get ji = some (.int .i64 i)
theorem get_drop {α : Type} {l : List α} {i : Nat} {x : α} {r : List α} (h : l.drop i = x :: r) : l[i]? = some x ∧ l.drop (i + 1) = r ∧ i < l.length := by
  have h1 : l[i]? = some x := by
    have := congrArg (·[0]?) h
    simpa using this
  refine ⟨h1, ?_, (List.getElem?_eq_some_iff.1 h1).1⟩
  have := congrArg List.tail h
  simpa using this
theorem cnt_pos (t : Tree) : 1 ≤ cnt t := by cases t; rw [cnt_eq]; omega
theorem len_le_cnt (l : List Tree) : l.length ≤ (l.map cnt).sum := by
  induction l with
  | nil => simp
  | cons a r ih => have := cnt_pos a; simp; omega
theorem cnt_mem {l : List Tree} {t : Tree} (h : t ∈ l) : cnt t ≤ (l.map cnt).sum := by
  induction l with
  | nil => simp at h
  | cons a r ih =>
    rcases List.mem_cons.1 h with rfl | h
    · simp
    · have := ih h; simp; omega
def sumTo (l : List Tree) (i : Nat) : Nat := ((l.take i).map cnt).sum
theorem sumTo_zero (l : List Tree) : sumTo l 0 = 0 := rfl
theorem sumTo_succ (l : List Tree) (i : Nat) (h : i < l.length) : sumTo l (i + 1) = sumTo l i + cnt l[i] := by
  unfold sumTo
  rw [List.take_add_one, List.getElem?_eq_getElem h]
  simp only [List.map_append, List.sum_append, Option.toList_some, List.map_cons, List.map_nil, List.sum_cons, List.sum_nil, Nat.add_zero]
theorem sumTo_all (l : List Tree) (i : Nat) (h : l.length ≤ i) : sumTo l i = (l.map cnt).sum := by
  unfold sumTo
  rw [List.take_of_length_le h]
theorem sumTo_le (l : List Tree) (i : Nat) : sumTo l i ≤ (l.map cnt).sum := by
  unfold sumTo
  conv => rhs; rw [← List.take_append_drop i l]
  simp only [List.map_append, List.sum_append]
  omega
/-- a part of code, by the way to it -/
def codeAt : List Bool → Code → Code
  | [], c => c
  | false :: p, .seq a _ => codeAt p a
  | true :: p, .seq _ b => codeAt p b
  | _ :: p, .block _ c => codeAt p c
  | _ :: p, .loop c => codeAt p c
  | false :: p, .cond _ x _ => codeAt p x
  | true :: p, .cond _ _ y => codeAt p y
  | _, c => c
def opsOf : Code → List Oper
  | .region _ ops _ => ops.toList
  | _ => []
theorem known0 : Known0 Tryz.prog := ⟨by kernel_rfl, by kernel_rfl⟩
end Go.Proofs.YtgpfgcbolinncaaGreat.Abs
set_option linter.unusedVariables false
set_option linter.unusedSimpArgs false
namespace Go.Proofs.YtgpfgcbolinncaaGreat.Abs
open Go Go.RowKit

@[simp] theorem sz2 : sizeA Tryz.prog 2 = some 1 := by kernel_rfl
@[simp] theorem ag2 : aggA Tryz.prog 2 = some false := by kernel_rfl
@[simp] theorem sz3 : sizeA Tryz.prog 3 = some 1 := by kernel_rfl
@[simp] theorem ag3 : aggA Tryz.prog 3 = some false := by kernel_rfl
@[simp] theorem sz4 : sizeA Tryz.prog 4 = some 1 := by kernel_rfl
@[simp] theorem ag4 : aggA Tryz.prog 4 = some false := by kernel_rfl
@[simp] theorem sz23 : sizeA Tryz.prog 23 = some 1 := by kernel_rfl
@[simp] theorem ag23 : aggA Tryz.prog 23 = some false := by kernel_rfl
@[simp] theorem sz25 : sizeA Tryz.prog 25 = some 2 := by kernel_rfl
@[simp] theorem ag25 : aggA Tryz.prog 25 = some true := by kernel_rfl
attribute [simp] sz22 ag22 sz27 ag27 Tryz.underlying2 Tryz.underlying3 Tryz.underlying4 Tryz.underlying22 Tryz.underlying23 Tryz.underlying25 Tryz.underlying27
def z27 : List Value := [.int .i64 0, .int .i64 0, .slice none 0 0, .int .i64 0, .int .u64 0, .int .i64 0, .int .i64 0]
theorem zero27 : zeroL Tryz.prog 27 = some z27 := by kernel_rfl
def nodeCells (op kind : Int) (sl : Value) (vk bits pos attr : Int) : List Value := [.int .i64 op, .int .i64 kind, sl, .int .i64 vk, .int .u64 bits, .int .i64 pos, .int .i64 attr]
theorem wrap_small {n : Int} (h0 : -2 ^ 63 ≤ n) (h : n < 2 ^ 63) : wrapA .i64 n = n := by
  unfold wrapA
  rw [if_pos]
  simp [inRange, IntKind.min, IntKind.max, IntKind.signed, IntKind.bits]
  omega
theorem storeTo27 (c : List Value) (hc : c.length = 7) (op kind : Int) {sl : Value} (hs : cellOk sl = true) (vk bits pos attr : Int) : storeTo Tryz.prog 27 c 0 (nodeVal op kind sl vk bits pos attr) = some (nodeCells op kind sl vk bits pos attr) := by
  have hi : ∀ k x, cellOk (.int k x) = true := fun _ _ => rfl
  have hd : List.drop 7 c = [] := by simp [hc]
  simp [storeTo, known, nodeVal, cellsL, hc, hi, hs, spliceL, nodeCells, hd]
theorem load27_of {s : ST} {s0 : ST} {l : List LE} (L : Loc s0 s l) (i : Nat) {n : Nat} {e : TypeId} {op kind vk bits pos attr : Int} {sl : Value} (hi : l[i]? = some (.obj n (.cells (nodeCells op kind sl vk bits pos attr) e))) :
    loadA Tryz.prog 27 (.pointer (some ⟨n, 0, none⟩)) s = some (nodeVal op kind sl vk bits pos attr, s) := load_obj L i hi (by simp [loadFrom, nodeCells, nodeVal])
theorem cells_node (op kind : Int) (sl : Value) (vk bits pos attr : Int) : cellsL (nodeVal op kind sl vk bits pos attr) = nodeCells op kind sl vk bits pos attr := rfl
def valV (a b : Int) : Value := .agg #[.int .i64 a, .int .u64 b]
structure Fields (s : ST) (n : Nat) (op kind : Int) (sl : Value) (vk bits pos attr : Int) : Prop where
  f0 : loadA Tryz.prog 3 (.pointer (some ⟨n, 0, none⟩)) s = some (.int .i64 op, s)
  f1 : loadA Tryz.prog 3 (.pointer (some ⟨n, 1, none⟩)) s = some (.int .i64 kind, s)
  f2 : loadA Tryz.prog 22 (.pointer (some ⟨n, 2, none⟩)) s = some (sl, s)
  f3 : loadA Tryz.prog 25 (.pointer (some ⟨n, 3, none⟩)) s = some (valV vk bits, s)
  f5 : loadA Tryz.prog 3 (.pointer (some ⟨n, 5, none⟩)) s = some (.int .i64 pos, s)
  f6 : loadA Tryz.prog 3 (.pointer (some ⟨n, 6, none⟩)) s = some (.int .i64 attr, s)
  all : loadA Tryz.prog 27 (.pointer (some ⟨n, 0, none⟩)) s = some (nodeVal op kind sl vk bits pos attr, s)
theorem fields {s0 s : ST} {l : List LE} (L : Loc s0 s l) (i : Nat) {n : Nat} {e : TypeId} {op kind vk bits pos attr : Int} {sl : Value} (hi : l[i]? = some (.obj n (.cells (nodeCells op kind sl vk bits pos attr) e))) : Fields s n op kind sl vk bits pos attr :=
  ⟨load_obj L i hi (by simp [loadFrom, nodeCells]), load_obj L i hi (by simp [loadFrom, nodeCells]), load_obj L i hi (by simp [loadFrom, nodeCells]), load_obj L i hi (by simp [loadFrom, nodeCells, valV]),
    load_obj L i hi (by simp [loadFrom, nodeCells]), load_obj L i hi (by simp [loadFrom, nodeCells]), load27_of L i hi⟩
theorem node_leaf (h : Heap) (op kind vk bits pos attr : Int) : NodeV h (.mk op kind vk bits pos attr []) (nodeVal op kind (.slice none 0 0) vk bits pos attr) :=
  .mk op kind vk bits pos attr [] _ 0 0 0 [] 0 (.inl ⟨0, rfl, rfl⟩) (fun h => absurd rfl h) (by simp) (by simp)
/-- a heap that a state still knows -/
def Sub (H : Heap) (s : ST) : Prop := ∀ n, H.find n ≠ none → s.heap.find n = H.find n
theorem Sub.kept {H : Heap} {s s' : ST} (h : Sub H s) (k : Kept s s') : Sub H s' := fun n hn => by rw [k.find (by rw [h n hn]; exact hn), h n hn]
theorem arg_atH {H : Heap} {s : ST} (hH : Sub H s) {ts : List Tree} {sl : Value} (hA : ArgsV H ts sl) {i : Nat} (hi : i < ts.length) : ∃ a op kind sl2 vk bits pos attr, indexAddrA Tryz.prog 22 sl (.int .i64 i) = some a ∧ cellOk sl2 = true ∧
    NodeV H ts[i] (nodeVal op kind sl2 vk bits pos attr) ∧ ∀ s', Kept s s' → loadA Tryz.prog 27 a s' = some (nodeVal op kind sl2 vk bits pos attr, s') := by
  obtain ⟨a, v, ha, hv2, hl⟩ := hA.at_ i ts[i] (by simp [hi])
  obtain ⟨_, _, _, _, _, _, _, sl2, e2, rfl, hA2⟩ := hv2.open_
  exact ⟨a, _, _, sl2, _, _, _, _, ha, hA2.cell, hv2, fun s' K => hl s' (hH.kept K)⟩
theorem Loc.rebase {s0 s : ST} {l : List LE} (L : Loc s0 s l) : ∃ b, Kept s0 b ∧ Loc b s l ∧ ∀ n, b.heap.find n = if n ∈ namesOf l then none else s.heap.find n := by
  have hst : ∀ m ∈ namesOf l, s.heap.st m = none := by
    intro m hm
    rw [L.kept.ext.st]
    exact (Heap.find_none_dyn (L.new m hm)).2
  have hf := fun n => Heap.find_hides hst n
  have E : Heap.Ext (s.heap.hides (namesOf l)) s.heap := by
    refine ⟨by simp, fun n hn => ?_⟩
    rw [hf] at hn
    rw [Heap.dyn_hides]
    split at hn
    · exact absurd rfl hn
    · rename_i h; rw [if_neg h]
  refine ⟨{ s with heap := s.heap.hides (namesOf l) }, ⟨⟨?_, ?_⟩, ?_, L.kept.base, L.kept.str, L.kept.ctr⟩, ⟨⟨E, L.free, rfl, rfl, Nat.le_refl _⟩, L.own, ?_, L.nodup⟩, hf⟩
  · simp [L.kept.ext.st]
  · intro n hn
    show (s.heap.hides (namesOf l)).dyn.get n = _
    rw [Heap.dyn_hides, if_neg (fun h => hn (L.new n h))]
    exact L.kept.ext.dyn n hn
  · exact free_of_ext E L.free
  · intro n hn
    show (s.heap.hides (namesOf l)).find n = none
    rw [hf, if_pos hn]
def HLe (H H2 : Heap) : Prop := ∀ n, H.find n ≠ none → H2.find n = H.find n
theorem HLe.trans {a b c : Heap} (h : HLe a b) (k : HLe b c) : HLe a c := fun n hn => by rw [k n (by rw [h n hn]; exact hn), h n hn]
/-- a row of nodes -/
structure Row (H : Heap) (us : List Tree) (c : List Value) : Prop where
  len : c.length = us.length * 7
  ok : c.all cellOk = true
  at_ : ∀ (i : Nat) (t : Tree), us[i]? = some t → NodeV H t (.agg ((c.drop (i * 7)).take 7).toArray)
theorem nodeCells_ok (op kind : Int) {sl : Value} (hs : cellOk sl = true) (vk bits pos attr : Int) : (nodeCells op kind sl vk bits pos attr).all cellOk = true := by
  simp only [nodeCells, List.all_cons, hs]; rfl
theorem Row.nil (H : Heap) : Row H [] [] := ⟨rfl, rfl, by simp⟩
theorem Row.up {H H2 : Heap} (h : HLe H H2) {us : List Tree} {c : List Value} (r : Row H us c) : Row H2 us c := ⟨r.len, r.ok, fun i t e => (r.at_ i t e).keep h⟩
theorem Row.snoc {H : Heap} {us : List Tree} {c : List Value} (r : Row H us c) {u : Tree} {op kind : Int} {sl : Value} {vk bits pos attr : Int} (h : NodeV H u (nodeVal op kind sl vk bits pos attr)) (hs : cellOk sl = true) : Row H (us ++ [u]) (c ++ nodeCells op kind sl vk bits pos attr) := by
  have hl := r.len
  refine ⟨by simp [hl, nodeCells]; omega, by rw [List.all_append, r.ok, nodeCells_ok _ _ hs]; rfl, fun i t e => ?_⟩
  by_cases hi : i < us.length
  · rw [List.getElem?_append_left hi] at e
    have := r.at_ i t e
    rw [List.drop_append_of_le_length (by omega), List.take_append_of_le_length (by simp; omega)]
    exact this
  · rw [List.getElem?_append_right (by omega)] at e
    have : i - us.length = 0 := by
      apply Classical.byContradiction
      intro hne
      rw [List.getElem?_eq_none (by simp; omega)] at e
      cases e
    rw [this] at e
    simp only [List.getElem?_cons_zero, Option.some.injEq] at e
    subst e
    have hi' : i = us.length := by omega
    subst hi'
    rw [← hl, List.drop_left]
    exact h
theorem elem27 : elemI Tryz.prog 27 = some ⟨7, 72⟩ := by kernel_rfl
theorem slice22 : sliceElem Tryz.prog 22 = some 27 := by kernel_rfl
theorem zeros27 : zerosL Tryz.prog 27 7 1 = some z27 := by kernel_rfl
theorem lit22 (op kind : Int) {sl : Value} (hs : cellOk sl = true) (vk bits pos attr : Int) : sliceCells Tryz.prog 27 7 1 [(0, nodeVal op kind sl vk bits pos attr)] = some (nodeCells op kind sl vk bits pos attr) := by
  unfold sliceCells
  simp [zeros27, z27, fillL, spliceL, known, cellsL, nodeVal, nodeCells, hs]
theorem storeTo22 (op kind : Int) (sl : Value) (vk bits pos attr : Int) {lv : Value} (h : cellOk lv = true) (hk : known lv = true) (hc : cellsL lv = [lv]) : storeTo Tryz.prog 22 (nodeCells op kind sl vk bits pos attr) 2 lv = some (nodeCells op kind lv vk bits pos attr) := by
  simp [storeTo, nodeCells, spliceL, h, hk, hc, ag22, sz22]
end Go.Proofs.YtgpfgcbolinncaaGreat.Abs
