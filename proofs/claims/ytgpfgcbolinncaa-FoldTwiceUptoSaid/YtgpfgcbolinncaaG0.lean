/- Nodes as trees; what a value of type api.Node reads as. fold.Nodes, by the weakest precondition. -/
import Derived.Test.YtgpfgcbolinncaaM3
import Derived.Test.YtgpfgcbolinncaaProg
import Derived.KernelRfl
set_option linter.unusedVariables false
set_option linter.unusedSimpArgs false
namespace Go.Proofs.Ytgpfgcbolinncaa.Abs
open Go Go.RowKit

inductive Tree where
  | mk (op kind vk bits pos attr : Int) (args : List Tree)
theorem Tree.ind {M : Tree → Prop} (h : ∀ op kind vk bits pos attr args, (∀ t ∈ args, M t) → M (.mk op kind vk bits pos attr args)) : ∀ t, M t
  | .mk op kind vk bits pos attr args => h op kind vk bits pos attr args fun t ht => Tree.ind h t
  termination_by t => SizeOf.sizeOf t
  decreasing_by
  have := List.sizeOf_lt_of_mem ht
  simp only [Tree.mk.sizeOf_spec]
  omega

def nodeVal (op kind : Int) (sl : Value) (vk bits pos attr : Int) : Value := .agg #[.int .i64 op, .int .i64 kind, sl, .int .i64 vk, .int .u64 bits, .int .i64 pos, .int .i64 attr]
inductive NodeV (h : Heap) : Tree → Value → Prop
  | mk (op kind vk bits pos attr : Int) (ts : List Tree) (sl : Value) (n off cs : Nat) (c : List Value) (e : TypeId)
      (hs : (∃ k, sl = .slice none 0 k ∧ ts = []) ∨ sl = .slice (some ⟨n, off, none⟩) ts.length cs)
      (hc : ts ≠ [] → h.find n = some (some (.cells c e)))
      (hl : ∀ i, i < ts.length → off + i * 7 + 7 ≤ c.length)
      (ht : ∀ i t, ts[i]? = some t → NodeV h t (.agg ((c.drop (off + i * 7)).take 7).toArray)) : NodeV h (.mk op kind vk bits pos attr ts) (nodeVal op kind sl vk bits pos attr)
theorem NodeV.keep {h h' : Heap} (k : ∀ n, h.find n ≠ none → h'.find n = h.find n) {t : Tree} {v : Value} (x : NodeV h t v) : NodeV h' t v := by
  induction x with
  | mk op kind vk bits pos attr ts sl n off cs c e hs hc hl ht ih =>
    exact .mk op kind vk bits pos attr ts sl n off cs c e hs (fun hne => by rw [k n (by rw [hc hne]; simp), hc hne]) hl ih
theorem NodeV.kept {s s' : ST} (k : Kept s s') {t : Tree} {v : Value} (x : NodeV s.heap t v) : NodeV s'.heap t v := x.keep fun n hn => k.find hn

/-- a slice of nodes -/
structure ArgsV (h : Heap) (ts : List Tree) (sl : Value) : Prop where
  len : lenA Try.prog 22 sl = some (.int .i64 ts.length)
  cell : cellOk sl = true
  known : known sl = true
  at_ : ∀ (i : Nat) t, ts[i]? = some t → ∃ a v, indexAddrA Try.prog 22 sl (.int .i64 i) = some a ∧ NodeV h t v ∧ ∀ s : ST, (∀ n, h.find n ≠ none → s.heap.find n = h.find n) → loadA Try.prog 27 a s = some (v, s)
theorem sz27 : sizeA Try.prog 27 = some 7 := by kernel_rfl
theorem ag27 : aggA Try.prog 27 = some true := by kernel_rfl
theorem sz22 : sizeA Try.prog 22 = some 1 := by kernel_rfl
theorem ag22 : aggA Try.prog 22 = some false := by kernel_rfl
theorem NodeV.open_ {h : Heap} {t : Tree} {v : Value} (x : NodeV h t v) : ∃ op kind vk bits pos attr ts sl, t = .mk op kind vk bits pos attr ts ∧ v = nodeVal op kind sl vk bits pos attr ∧ ArgsV h ts sl := by
  cases x with
  | mk op kind vk bits pos attr ts sl n off cs c e hs hc hl ht =>
    refine ⟨op, kind, vk, bits, pos, attr, ts, sl, rfl, rfl, ?_⟩
    rcases hs with ⟨_, rfl, rfl⟩ | rfl
    · exact ⟨by simp [lenA, Try.underlying22], rfl, rfl, fun i t hi => by simp at hi⟩
    · refine ⟨by simp [lenA, Try.underlying22], rfl, rfl, fun i t hi => ?_⟩
      have hlt := (List.getElem?_eq_some_iff.1 hi).1
      have hne : ts ≠ [] := fun e => by rw [e] at hlt; simp at hlt
      refine ⟨.pointer (some ⟨n, off + i * 7, none⟩), _, ?_, ht i t hi, fun s hs => ?_⟩
      · simp [indexAddrA, Try.underlying22, sz27, hlt]
      · have hf := hs n (by rw [hc hne]; simp)
        rw [hc hne] at hf
        have hll := hl i hlt
        unfold loadA
        simp only [AM.andThen, AM.ofOption, asPtr, AM.ret, AM.read, hf, asCells, loadFrom, ag27, sz27]
        rw [if_pos hll]; rfl
def cnt : Tree → Nat
  | .mk _ _ _ _ _ _ args => 1 + (args.attach.map fun x => cnt x.1).sum
  termination_by t => SizeOf.sizeOf t
  decreasing_by
  have := List.sizeOf_lt_of_mem x.2
  simp only [Tree.mk.sizeOf_spec]
  omega
theorem cnt_eq (op kind vk bits pos attr : Int) (args : List Tree) : cnt (.mk op kind vk bits pos attr args) = 1 + (args.map cnt).sum := by
  rw [cnt]; simp

/-- the slots of a loop over a node's operands: size, place of the slice, of its length, of the index -/
structure Slots (fr : Fr) (m ja jl ji : Nat) (sl : Value) (len i : Nat) : Prop where
  n : fr.n = m
  defs : fr.defs = []
  sl : fr.env.get ja = some sl
  len : fr.env.get jl = some (.int .i64 len)
  i : fr.env.get ji = some (.int .i64 i)
theorem get_drop {α : Type} {l : List α} {i : Nat} {x : α} {r : List α} (h : l.drop i = x :: r) : l[i]? = some x ∧ l.drop (i + 1) = r ∧ i < l.length := by
  have h1 : l[i]? = some x := by
    have := congrArg (·[0]?) h
    simpa using this
  refine ⟨h1, ?_, (List.getElem?_eq_some_iff.1 h1).1⟩
  have := congrArg List.tail h
  simpa using this
theorem cnt_pos (t : Tree) : 1 ≤ cnt t := by cases t; rw [cnt_eq]; omega
theorem len_le_cnt (l : List Tree) : l.length ≤ (l.map cnt).sum := by
  induction l with
  | nil => simp
  | cons a r ih => have := cnt_pos a; simp; omega
theorem cnt_mem {l : List Tree} {t : Tree} (h : t ∈ l) : cnt t ≤ (l.map cnt).sum := by
  induction l with
  | nil => simp at h
  | cons a r ih =>
    rcases List.mem_cons.1 h with rfl | h
    · simp
    · have := ih h; simp; omega
def sumTo (l : List Tree) (i : Nat) : Nat := ((l.take i).map cnt).sum
theorem sumTo_zero (l : List Tree) : sumTo l 0 = 0 := rfl
theorem sumTo_succ (l : List Tree) (i : Nat) (h : i < l.length) : sumTo l (i + 1) = sumTo l i + cnt l[i] := by
  unfold sumTo
  rw [List.take_add_one, List.getElem?_eq_getElem h]
  simp only [List.map_append, List.sum_append, Option.toList_some, List.map_cons, List.map_nil, List.sum_cons, List.sum_nil, Nat.add_zero]
theorem sumTo_all (l : List Tree) (i : Nat) (h : l.length ≤ i) : sumTo l i = (l.map cnt).sum := by
  unfold sumTo
  rw [List.take_of_length_le h]
theorem sumTo_le (l : List Tree) (i : Nat) : sumTo l i ≤ (l.map cnt).sum := by
  unfold sumTo
  conv => rhs; rw [← List.take_append_drop i l]
  simp only [List.map_append, List.sum_append]
  omega
/-- a part of code, by the way to it -/
def codeAt : List Bool → Code → Code
  | [], c => c
  | false :: p, .seq a _ => codeAt p a
  | true :: p, .seq _ b => codeAt p b
  | _ :: p, .block _ c => codeAt p c
  | _ :: p, .loop c => codeAt p c
  | false :: p, .cond _ x _ => codeAt p x
  | true :: p, .cond _ _ y => codeAt p y
  | _, c => c
def opsOf : Code → List Oper
  | .region _ ops _ => ops.toList
  | _ => []
theorem known0 : Known0 Try.prog := ⟨by kernel_rfl, by kernel_rfl⟩
end Go.Proofs.Ytgpfgcbolinncaa.Abs
set_option linter.unusedVariables false
set_option linter.unusedSimpArgs false
namespace Go.Proofs.Ytgpfgcbolinncaa.Abs
open Go Go.RowKit

@[simp] theorem sz2 : sizeA Try.prog 2 = some 1 := by kernel_rfl
@[simp] theorem ag2 : aggA Try.prog 2 = some false := by kernel_rfl
@[simp] theorem sz3 : sizeA Try.prog 3 = some 1 := by kernel_rfl
@[simp] theorem ag3 : aggA Try.prog 3 = some false := by kernel_rfl
@[simp] theorem sz4 : sizeA Try.prog 4 = some 1 := by kernel_rfl
@[simp] theorem ag4 : aggA Try.prog 4 = some false := by kernel_rfl
@[simp] theorem sz20 : sizeA Try.prog 20 = some 1 := by kernel_rfl
@[simp] theorem ag20 : aggA Try.prog 20 = some false := by kernel_rfl
@[simp] theorem sz23 : sizeA Try.prog 23 = some 1 := by kernel_rfl
@[simp] theorem ag23 : aggA Try.prog 23 = some false := by kernel_rfl
@[simp] theorem sz25 : sizeA Try.prog 25 = some 2 := by kernel_rfl
@[simp] theorem ag25 : aggA Try.prog 25 = some true := by kernel_rfl
@[simp] theorem sz34 : sizeA Try.prog 34 = some 4 := by kernel_rfl
@[simp] theorem ag34 : aggA Try.prog 34 = some true := by kernel_rfl
@[simp] theorem sz36 : sizeA Try.prog 36 = some 0 := by kernel_rfl
@[simp] theorem ag36 : aggA Try.prog 36 = some true := by kernel_rfl
@[simp] theorem sz41 : sizeA Try.prog 41 = some 1 := by kernel_rfl
@[simp] theorem ag41 : aggA Try.prog 41 = some false := by kernel_rfl
@[simp] theorem sz46 : sizeA Try.prog 46 = some 0 := by kernel_rfl
@[simp] theorem ag46 : aggA Try.prog 46 = some true := by kernel_rfl
@[simp] theorem sz50 : sizeA Try.prog 50 = some 1 := by kernel_rfl
@[simp] theorem ag50 : aggA Try.prog 50 = some false := by kernel_rfl
@[simp] theorem sz66 : sizeA Try.prog 66 = some 1 := by kernel_rfl
@[simp] theorem ag66 : aggA Try.prog 66 = some false := by kernel_rfl
attribute [simp] sz22 ag22 sz27 ag27 Try.underlying2 Try.underlying3 Try.underlying4 Try.underlying20 Try.underlying22 Try.underlying23 Try.underlying25 Try.underlying27 Try.underlying34 Try.underlying36 Try.underlying41 Try.underlying46 Try.underlying50 Try.underlying66
def z27 : List Value := [.int .i64 0, .int .i64 0, .slice none 0 0, .int .i64 0, .int .u64 0, .int .i64 0, .int .i64 0]
theorem zero27 : zeroL Try.prog 27 = some z27 := by kernel_rfl
def nodeCells (op kind : Int) (sl : Value) (vk bits pos attr : Int) : List Value := [.int .i64 op, .int .i64 kind, sl, .int .i64 vk, .int .u64 bits, .int .i64 pos, .int .i64 attr]
theorem wrap_small {n : Int} (h0 : -2 ^ 63 ≤ n) (h : n < 2 ^ 63) : wrapA .i64 n = n := by
  unfold wrapA
  rw [if_pos]
  simp [inRange, IntKind.min, IntKind.max, IntKind.signed, IntKind.bits]
  omega
theorem fn7 : fnOf Try.prog 7 = some ((Try.f7.body.getD .skip), Try.f7.ntmps, Try.f7.results) := rfl
theorem storeTo27 (c : List Value) (hc : c.length = 7) (op kind : Int) {sl : Value} (hs : cellOk sl = true) (vk bits pos attr : Int) : storeTo Try.prog 27 c 0 (nodeVal op kind sl vk bits pos attr) = some (nodeCells op kind sl vk bits pos attr) := by
  have hi : ∀ k x, cellOk (.int k x) = true := fun _ _ => rfl
  have hd : List.drop 7 c = [] := by simp [hc]
  simp [storeTo, known, nodeVal, cellsL, hc, hi, hs, spliceL, nodeCells, hd]
theorem load27_of {s : ST} {s0 : ST} {l : List LE} (L : Loc s0 s l) (i : Nat) {n : Nat} {e : TypeId} {op kind vk bits pos attr : Int} {sl : Value} (hi : l[i]? = some (.obj n (.cells (nodeCells op kind sl vk bits pos attr) e))) :
    loadA Try.prog 27 (.pointer (some ⟨n, 0, none⟩)) s = some (nodeVal op kind sl vk bits pos attr, s) := load_obj L i hi (by simp [loadFrom, nodeCells, nodeVal])
theorem cells_node (op kind : Int) (sl : Value) (vk bits pos attr : Int) : cellsL (nodeVal op kind sl vk bits pos attr) = nodeCells op kind sl vk bits pos attr := rfl
set_option maxHeartbeats 1000000 in
theorem nodes_run (t : Tree) : ∀ v s, NodeV s.heap t v → cnt t < 2 ^ 62 → Does Try.prog 7 #[v] s (fun r s' => r = .ret (.int .i64 (cnt t)) ∧ Kept s s') := by
  induction t using Tree.ind with
  | h op kind vk bits pos attr args ih =>
    intro v s hv hc
    refine Does.pre fun hf => ?_
    obtain ⟨_, _, _, _, _, _, _, sl, e, rfl, hA⟩ := hv.open_
    cases e
    rw [cnt_eq] at hc
    refine Does.code known0 fn7 [] (by kernel_rfl) ?_
    dsimp only [Try.f7, Option.getD_some, undraw, noId, cond_true, cond_false, frOf]
    simp -dsimp [envOf]
    refine x_box (Loc.nil hf) (by rfl) fun n1 s1 L1 => ?_
    have l1 : loadA Try.prog 22 (.pointer (some ⟨n1, 2, none⟩)) s1 = some (sl, s1) := load_obj L1 0 rfl (by simp [loadFrom, ag22, cellsL, nodeVal])
    simp -dsimp [fieldAddrA, l1, hA.len]
    refine w_for (fun m fr s' => ∃ i env, i + m = args.length ∧ fr = ⟨19, env, []⟩ ∧ Kept s s' ∧ env.get 3 = some (.int .i64 (1 + sumTo args i)) ∧ env.get 7 = some sl ∧ env.get 8 = some (.int .i64 args.length) ∧ env.get 9 = some (.int .i64 i)) (m := args.length) ?_ L1.free ?_
    rotate_left
    · exact ⟨0, _, by omega, rfl, L1.kept, by simp [sumTo_zero], by simp, by simp, by simp⟩
    rintro m fr s' f ⟨i, env, him, rfl, K, h3, h7, h8, h9⟩
    have hlen := len_le_cnt args
    by_cases hi : i < args.length
    · have hi' : (i : Int) < args.length := by omega
      obtain ⟨a, v, ha, hv2, hl⟩ := hA.at_ i args[i] (by simp [hi])
      obtain ⟨_, _, _, _, _, _, _, sl2, e2, rfl, hA2⟩ := hv2.open_
      simp -dsimp [h9, h8, h7, hi', ha]
      refine x_load (hl s' fun n hn => K.find hn) ?_
      simp -dsimp
      refine x_alloc (Loc.nil K.free) zero27 fun n2 s2 L2 => ?_
      simp -dsimp
      refine x_store L2 0 rfl (storeTo27 _ rfl _ _ hA2.cell _ _ _ _) fun s3 L3 => ?_
      have l2 := load27_of L3 0 rfl
      simp -dsimp [h3, l2]
      refine Does.mono (ih args[i] (List.getElem_mem hi) _ s3 (hv2.kept (K.trans L3.kept)) (by have := cnt_mem (List.getElem_mem hi); omega)) ?_
      rintro _ s4 f4 ⟨rfl, K4⟩
      have hs := sumTo_succ args i hi
      have hb := sumTo_le args (i + 1)
      have w1 : wrapA .i64 ((i : Int) + 1) = (i : Int) + 1 := wrap_small (by omega) (by omega)
      have w2 : wrapA .i64 (1 + (sumTo args i : Int) + (cnt args[i] : Int)) = 1 + (sumTo args (i + 1) : Int) := by
        rw [wrap_small (by omega) (by omega)]; omega
      simp -dsimp [h9, w1, w2]
      refine Goal.mk ⟨m - 1, by omega, i + 1, _, by omega, rfl, K.trans (L3.kept.trans K4), ?_, ?_, ?_, ?_⟩
      all_goals simp [h7, h8]
    · have hi' : ¬ ((i : Int) < args.length) := by omega
      have hin := sumTo_all args i (by omega)
      simp -dsimp [h9, h8, hi', h3]
      rw [hin, cnt_eq]
      exact ⟨by simp, K⟩
end Go.Proofs.Ytgpfgcbolinncaa.Abs
