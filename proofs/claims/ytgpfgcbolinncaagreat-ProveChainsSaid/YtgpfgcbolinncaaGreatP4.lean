/- Sums of what operations of one region did; looking a name up in them. What the abstract run of a region with an open order knows of each of its operations. Any order of a region's operations does what the order of the text does: the heaps and frames on the way. Any order of a region's operations does what the order of the text does. A region whose order is open: sound, and the same on a heap that knows more. Regions whose order is open, but whose head changes nothing and whose tail is a chain: in the order of the text. -/
import Derived.Test.YtgpfgcbolinncaaGreatP3
import Derived.StillTail
set_option linter.unusedVariables false
set_option linter.unusedSimpArgs false
namespace Go.Proofs.YtgpfgcbolinncaaGreat.Abs
open Go Go.RowKit

def hasKey {β : Type} (l : List (Nat × β)) (n : Nat) : Prop := ∃ y ∈ l, y.1 = n
theorem find_none {β : Type} {l : List (Nat × β)} {n : Nat} : l.find? (fun y => y.1 == n) = none ↔ ¬ hasKey l n := by
  rw [List.find?_eq_none]
  constructor
  · rintro h ⟨y, hy, e⟩
    exact h y hy (by simp [e])
  · intro h y hy e
    exact h ⟨y, hy, by simpa using e⟩
theorem dyn_sets_find (h : Heap) (n : Nat) : ∀ (l : List (Nat × Option AObj)), (h.sets l).dyn.get n = match l.find? (fun y => y.1 == n) with | some y => some y.2 | none => h.dyn.get n
  | [] => rfl
  | (m, o) :: r => by
    simp only [Heap.sets, Heap.dyn_set, List.find?_cons]
    by_cases e : m = n
    · simp [e]
    · have e' : (m == n) = false := by simpa using e
      rw [if_neg (fun c => e c.symm), e']
      exact dyn_sets_find h n r
def etrie (env : Trie Value) : List (Nat × Value) → Trie Value
  | [] => env
  | (t, v) :: r => (etrie env r).set t v
theorem etrie_find (env : Trie Value) (n : Nat) : ∀ (l : List (Nat × Value)), (etrie env l).get n = match l.find? (fun y => y.1 == n) with | some y => some y.2 | none => env.get n
  | [] => rfl
  | (m, o) :: r => by
    simp only [etrie, Trie.get_set, List.find?_cons]
    by_cases e : m = n
    · simp [e]
    · have e' : (m == n) = false := by simpa using e
      rw [if_neg (fun c => e c.symm), e']
      exact etrie_find env n r

section
variable {β : Type} (f : OD → List (Nat × β))
theorem gsum_mem {p : Nat → Bool} {y : Nat × β} : ∀ (i : Nat) (ods : List OD), y ∈ gsum f p i ods ↔ ∃ j x, ods[j]? = some x ∧ p (i + j) = true ∧ y ∈ f x
  | i, [] => by simp [gsum]
  | i, x :: r => by
    simp only [gsum, List.mem_append, gsum_mem (i + 1) r]
    constructor
    · rintro (⟨j, z, a, b, c⟩ | h)
      · exact ⟨j + 1, z, by simpa using a, by rw [show i + (j + 1) = i + 1 + j by omega]; exact b, c⟩
      · split at h
        · rename_i hp; exact ⟨0, x, rfl, hp, h⟩
        · simp at h
    · rintro ⟨j, z, a, b, c⟩
      cases j with
      | zero => simp at a b; subst a; right; rw [if_pos b]; exact c
      | succ j => left; exact ⟨j, z, by simpa using a, by rw [show i + 1 + j = i + (j + 1) by omega]; exact b, c⟩
theorem look_congr {p q : Nat → Bool} {n : Nat} : ∀ (i : Nat) (ods : List OD), (∀ j x, ods[j]? = some x → hasKey (f x) n → p (i + j) = q (i + j)) →
    (gsum f p i ods).find? (fun y => y.1 == n) = (gsum f q i ods).find? (fun y => y.1 == n)
  | i, [], h => rfl
  | i, x :: r, h => by
    simp only [gsum, List.find?_append]
    have ih := look_congr (p := p) (q := q) (n := n) (i + 1) r (fun j z a b => by
      have := h (j + 1) z (by simpa using a) b
      rw [show i + (j + 1) = i + 1 + j by omega] at this; exact this)
    rw [ih]
    by_cases hk : hasKey (f x) n
    · have h0 : p i = q i := h 0 x rfl hk
      rw [h0]
    · have h1 : ∀ b : Bool, (if b = true then f x else []).find? (fun y => y.1 == n) = none := by
        intro b; cases b
        · rfl
        · simp only [if_true]; exact find_none.2 hk
      rw [h1 (p i), h1 (q i)]
theorem look_at {p : Nat → Bool} {n : Nat} {m : Nat} {x : OD} : ∀ (i : Nat) (ods : List OD), ods[m]? = some x → p (i + m) = true → hasKey (f x) n → (∀ j z, m < j → ods[j]? = some z → p (i + j) = true → ¬ hasKey (f z) n) →
    (gsum f p i ods).find? (fun y => y.1 == n) = (f x).find? (fun y => y.1 == n)
  | i, [], h, _, _, _ => by simp at h
  | i, y :: r, h, hp, hk, hj => by
    simp only [gsum, List.find?_append]
    cases m with
    | zero =>
      simp at h; subst h
      have : (gsum f p (i + 1) r).find? (fun y => y.1 == n) = none := by
        rw [find_none]
        rintro ⟨z, hz, e⟩
        obtain ⟨j, w, a, b, c⟩ := (gsum_mem f (i + 1) r).1 hz
        exact hj (j + 1) w (by omega) (by simpa using a) (by rw [show i + (j + 1) = i + 1 + j by omega]; exact b) ⟨z, c, e⟩
      simp at hp
      rw [this, if_pos hp]; rfl
    | succ m =>
      have ih := look_at (p := p) (n := n) (m := m) (x := x) (i + 1) r (by simpa using h) (by rw [show i + 1 + m = i + (m + 1) by omega]; exact hp) hk (fun j z a b c => hj (j + 1) z (by omega) (by simpa using b) (by rw [show i + (j + 1) = i + 1 + j by omega]; exact c))
      rw [ih]
      have hne : (f x).find? (fun y => y.1 == n) ≠ none := fun c => find_none.1 c hk
      cases hq : (f x).find? (fun y => y.1 == n) with
      | none => exact absurd hq hne
      | some _ => rfl
theorem gsum_none {p : Nat → Bool} : ∀ (i : Nat) (ods : List OD), (∀ j, j < ods.length → p (i + j) = false) → gsum f p i ods = []
  | i, [], h => rfl
  | i, x :: r, h => by
    simp only [gsum]
    have h0 : p i = false := h 0 (by simp)
    rw [gsum_none (i + 1) r (fun j hj => by rw [show i + 1 + j = i + (j + 1) by omega]; exact h (j + 1) (by simpa using hj)), h0]
    rfl
theorem gsum_take {p : Nat → Bool} : ∀ (i : Nat) (ods : List OD) (m : Nat), (∀ j, m ≤ j → p (i + j) = false) → gsum f p i ods = gsum f p i (ods.take m)
  | i, [], m, h => by simp [gsum]
  | i, x :: r, 0, h => by
    rw [List.take_zero, gsum_none f i (x :: r) (fun j _ => h j (Nat.zero_le _))]
    rfl
  | i, x :: r, m + 1, h => by
    simp only [List.take_succ_cons, gsum]
    rw [gsum_take (i + 1) r m (fun j hj => by rw [show i + 1 + j = i + (j + 1) by omega]; exact h (j + 1) (by omega))]
theorem gsum_append {p : Nat → Bool} : ∀ (i : Nat) (a b : List OD), gsum f p i (a ++ b) = gsum f p (i + a.length) b ++ gsum f p i a
  | i, [], b => by simp [gsum]
  | i, x :: r, b => by
    simp only [List.cons_append, gsum, List.length_cons]
    rw [gsum_append (i + 1) r b, List.append_assoc, show i + 1 + r.length = i + (r.length + 1) by omega]
theorem gsum_congr {p q : Nat → Bool} : ∀ (i : Nat) (ods : List OD), (∀ j, j < ods.length → p (i + j) = q (i + j)) → gsum f p i ods = gsum f q i ods
  | i, [], h => rfl
  | i, x :: r, h => by
    simp only [gsum]
    have h0 : p i = q i := h 0 (by simp)
    have ih := gsum_congr (p := p) (q := q) (i + 1) r (fun j hj => by rw [show i + 1 + j = i + (j + 1) by omega]; exact h (j + 1) (by simpa using hj))
    rw [ih, h0]
end
end Go.Proofs.YtgpfgcbolinncaaGreat.Abs
set_option linter.unusedVariables false
set_option linter.unusedSimpArgs false
namespace Go.Proofs.YtgpfgcbolinncaaGreat.Abs
open Go Go.RowKit

def envD (env : Trie Value) (t : Nat) : Value := (env.get t).getD undef
theorem evalV_eq {e e' : Trie Value} (x : Operand) (h : ∀ t, x = .tmp t → envD e t = envD e' t) : evalV e x = evalV e' x := by
  cases x with
  | tmp t => exact h t rfl
  | _ => rfl
theorem opVal_congr {P : Program} {fn : FnTab} {call : CallT} {ops : Array Oper} {e e' : Trie Value} {o : Oper} (h : ∀ t ∈ o.looksAt ops, envD e t = envD e' t) : opVal P fn call ops e o = opVal P fn call ops e' o := by
  have hg : guardOk ops e o = guardOk ops e' o := by
    unfold guardOk
    cases hgd : o.guard with
    | none => rfl
    | some gw =>
      obtain ⟨g, want⟩ := gw
      simp only
      cases ht : (ops[g]?).bind (·.dst) with
      | none => rfl
      | some t =>
        have := h t (by simp [Oper.looksAt, hgd, ht])
        unfold envD at this
        simp only [this]
  have he : evalOp P fn (evalV e) o = evalOp P fn (evalV e') o := evalOp_congr o fun x hx => evalV_eq x fun t ht => by
    subst ht
    refine h t (List.mem_append_left _ (List.mem_filterMap.2 ⟨.tmp t, by simpa using hx, rfl⟩))
  unfold opVal
  rw [hg, he]
theorem sub_nm {s : ST} {n i : Nat} {h : Heap} (hn : 0 < n) (k : Nat) : (subST s n i h).nm k = s.nm (s.ctr + i + n * k) := by
  simp only [subST, ST.nm]
  have h1 : (s.str + 1) * n - 1 + 1 = (s.str + 1) * n := by
    have : 0 < (s.str + 1) * n := Nat.mul_pos (by omega) hn
    omega
  rw [h1, Nat.mul_add, Nat.mul_add, Nat.mul_add]
  rw [Nat.mul_assoc]
  omega

/-- the frames in the order of the text -/
inductive Ran (P : Program) (fn : FnTab) (call : CallT) (ops : Array Oper) (s : ST) (n : Nat) (fr0 : Fr) : List OD → Fr → Prop
  | nil : Ran P fn call ops s n fr0 [] fr0
  | snoc (ods : List OD) (fr fr' : Fr) (o : Oper) (v : Value) (s' : ST) (h : Ran P fn call ops s n fr0 ods fr) (ho : ops[ods.length]? = some o)
      (hr : opVal P fn call ops fr.env o (subST s n ods.length (heapAt s.heap ods ((masksOf ops).getD ods.length 0).testBit)) = some (.val v, s')) (hp : putF fr o.dst v = some fr') :
      Ran P fn call ops s n fr0 (ods ++ [⟨o.dst, v, s'.jr, s'.ctr⟩]) fr'

theorem drawGo_ran {P : Program} {fn : FnTab} {call : CallT} {ops : Array Oper} {s : ST} {n : Nat} {fr0 : Fr} : ∀ (os : List Oper) (ods : List OD) (fr : Fr) (r : DrawR), ops.toList.drop ods.length = os → Ran P fn call ops s n fr0 ods fr →
    drawGo P fn call ops (masksOf ops) s n os ods fr = some r →
    (∃ ods' fr', r = .done ods' fr' ∧ ods'.length = ods.length + os.length ∧ Ran P fn call ops s n fr0 ods' fr') ∨
    (∃ ods' fr' v o s', r = .pan ods' v s'.jr s'.ctr fr' ∧ Ran P fn call ops s n fr0 ods' fr' ∧ ops[ods'.length]? = some o ∧
      opVal P fn call ops fr'.env o (subST s n ods'.length (heapAt s.heap ods' ((masksOf ops).getD ods'.length 0).testBit)) = some (.panic v, s'))
  | [], ods, fr, r, hd, hR, h => by
    simp only [drawGo, Option.some.injEq] at h
    exact .inl ⟨ods, fr, h.symm, by simp, hR⟩
  | o :: os, ods, fr, r, hd, hR, h => by
    have hi : ops[ods.length]? = some o := by
      have := congrArg (·[0]?) hd
      simpa using this
    have hd' : ops.toList.drop (ods.length + 1) = os := by
      have := congrArg List.tail hd
      simpa using this
    simp only [drawGo] at h
    split at h
    · rename_i v s' hop
      split at h
      · rename_i fr' hp
        have hR' := Ran.snoc ods fr fr' o v s' hR hi hop hp
        rcases drawGo_ran os _ fr' r (by simpa using hd') hR' h with ⟨ods', f', a, b, c⟩ | q
        · exact .inl ⟨ods', f', a, by simp at b ⊢; omega, c⟩
        · exact .inr q
      · cases h
    · rename_i v s' hop
      simp only [Option.some.injEq] at h
      exact .inr ⟨ods, fr, v, o, s', h.symm, hR, hi, hop⟩
    · cases h

def fAt (fr0 : Fr) (ods : List OD) (p : Nat → Bool) : Fr := { n := fr0.n, env := etrie fr0.env (gsum OD.e p 0 ods), defs := fr0.defs }
theorem Ran.frame {P : Program} {fn : FnTab} {call : CallT} {ops : Array Oper} {s : ST} {n : Nat} {fr0 fr : Fr} {ods : List OD} (h : Ran P fn call ops s n fr0 ods fr) :
    fr.n = fr0.n ∧ fr.defs = fr0.defs ∧ ∀ t, fr.env.get t = (fAt fr0 ods allB).env.get t := by
  induction h with
  | nil => exact ⟨rfl, rfl, fun t => rfl⟩
  | snoc ods fr fr' o v s' h ho hr hp ih =>
    obtain ⟨a, b, c⟩ := ih
    unfold putF at hp
    cases hd : o.dst with
    | none =>
      rw [hd] at hp
      simp only [Option.some.injEq] at hp
      subst hp
      refine ⟨a, b, fun t => ?_⟩
      rw [c t]
      simp [fAt, gsum_append, gsum, OD.e, hd, allB]
    | some d =>
      rw [hd] at hp
      simp only at hp
      split at hp
      · simp only [Option.some.injEq] at hp
        subst hp
        refine ⟨a, b, fun t => ?_⟩
        simp only [Trie.get_set, c t]
        simp [fAt, gsum_append, gsum, OD.e, hd, allB, etrie, Trie.get_set]
      · cases hp

/-- what is known of the operation in place j -/
structure At (P : Program) (fn : FnTab) (call : CallT) (ops : Array Oper) (s : ST) (n : Nat) (fr0 : Fr) (ods : List OD) (j : Nat) (x : OD) (o : Oper) (s' : ST) : Prop where
  op : ops[j]? = some o
  dst : x.dst = o.dst
  run : opVal P fn call ops (fAt fr0 ods (fun k => decide (k < j))).env o (subST s n j (heapAt s.heap ods ((masksOf ops).getD j 0).testBit)) = some (.val x.v, s')
  d : x.d = s'.jr
  k : x.k = s'.ctr
  room : ∀ d, o.dst = some d → d < fr0.n
theorem heapAt_take {ops : Array Oper} (hb : edgesBack 0 ops.toList = true) (h : Heap) (ods t : List OD) (j : Nat) (hj : j ≤ ods.length) : heapAt h (ods ++ t) ((masksOf ops).getD j 0).testBit = heapAt h ods ((masksOf ops).getD j 0).testBit := by
  unfold heapAt dsum
  rw [gsum_take OD.d 0 (ods ++ t) ods.length (fun k hk => by
    cases hq : ((masksOf ops).getD j 0).testBit (0 + k) with
    | false => rfl
    | true => have := mask_lt hb j _ hq; omega), List.take_left]
theorem fAt_take (fr0 : Fr) (ods t : List OD) (j : Nat) (hj : j ≤ ods.length) : fAt fr0 (ods ++ t) (fun k => decide (k < j)) = fAt fr0 ods (fun k => decide (k < j)) := by
  unfold fAt
  rw [gsum_take OD.e 0 (ods ++ t) ods.length (fun k hk => by simp; omega), List.take_left]
theorem Ran.at {P : Program} {fn : FnTab} {call : CallT} {ops : Array Oper} (hb : edgesBack 0 ops.toList = true) {s : ST} {n : Nat} {fr0 fr : Fr} {ods : List OD} (h : Ran P fn call ops s n fr0 ods fr) :
    ∀ (j : Nat) (x : OD), ods[j]? = some x → ∃ o s', At P fn call ops s n fr0 ods j x o s' := by
  induction h with
  | nil => intro j x hx; simp at hx
  | snoc ods fr fr' o v s' h ho hr hp ih =>
    intro j x hx
    rw [List.getElem?_append] at hx
    split at hx
    · rename_i hj
      obtain ⟨o', s2, A⟩ := ih j x hx
      refine ⟨o', s2, A.op, A.dst, ?_, A.d, A.k, A.room⟩
      rw [heapAt_take hb _ _ _ _ (by omega), fAt_take _ _ _ _ (by omega)]; exact A.run
    · rename_i hj
      have hj0 : j = ods.length := by
        have := (List.getElem?_eq_some_iff.1 hx).1
        simp at this; omega
      subst hj0
      simp at hx
      subst hx
      have hf := h.frame
      refine ⟨o, s', ho, rfl, ?_, rfl, rfl, ?_⟩
      · rw [heapAt_take hb _ _ _ _ (Nat.le_refl _), fAt_take _ _ _ _ (Nat.le_refl _)]
        rw [← hr]
        rw [opVal_congr (e' := fr.env)]
        intro t _
        unfold envD
        rw [hf.2.2 t]
        unfold fAt
        rw [gsum_congr OD.e (p := fun k => decide (k < ods.length)) (q := allB) 0 ods (fun k hk => by simp [allB, hk])]
      · intro d hd
        unfold putF at hp
        rw [hd] at hp
        simp only at hp
        split at hp
        · rename_i hlt; rw [← hf.1]; exact hlt
        · cases hp

/-! ### the run of a region -/
/-- operations that neither stands before the other: they touch no slot in common -/
def apartOk (ops : Array Oper) (masks : List Nat) (ods : List OD) : Bool :=
  (List.range ods.length).all fun j => (List.range j).all fun i => (masks.getD j 0).testBit i ||
    (match ops[i]?, ops[j]? with
      | some a, some b => a.apart ops b
      | _, _ => false)
/-- what an operation wrote of what was there -/
def wrote (s : ST) (masks : List Nat) (ods : List OD) (j : Nat) (x : OD) : List Nat := (x.d.filter fun y => ((heapAt s.heap ods (masks.getD j 0).testBit).find y.1).isSome).map (·.1)
def badOf (s : ST) (masks : List Nat) (ods : List OD) (i : Nat) : List Nat :=
  (List.range ods.length).flatMap fun j => if j == i || (masks.getD i 0).testBit j || (masks.getD j 0).testBit i then [] else match ods[j]? with
    | some x => wrote s masks ods j x
    | none => []
/-- an operation runs as well where it sees nothing of what others write meanwhile -/
def blindOk (P : Program) (fn : FnTab) (call : CallT) (ops : Array Oper) (s : ST) (fr0 : Fr) (ods : List OD) (i : Nat) : Bool :=
  match badOf s (masksOf ops) ods i with
  | [] => true
  | m :: r => (m :: r).all (fun n => (s.heap.st n).isNone) && match ops[i]? with
    | some o => (opVal P fn call ops (fAt fr0 ods (fun k => decide (k < i))).env o (subST s ops.size i ((heapAt s.heap ods ((masksOf ops).getD i 0).testBit).hides (m :: r)))).isSome
    | none => false
def maxK (ods : List OD) : Nat := ods.foldr (fun x m => max x.k m) 0
def drawEnd (s : ST) (n : Nat) (ods : List OD) : ST := { s with heap := heapAt s.heap ods allB, ctr := s.ctr + n * maxK ods, jr := dsum allB 0 ods ++ s.jr }
def evalDraw (P : Program) (fn : FnTab) (call : CallT) (ops : Array Oper) (fr : Fr) : AM SR := fun s =>
  if edgesBack 0 ops.toList = true then
    match drawGo P fn call ops (masksOf ops) s ops.size ops.toList [] fr with
    | some (.done ods fr') => if apartOk ops (masksOf ops) ods = true ∧ (List.range ods.length).all (blindOk P fn call ops s fr ods) = true then some (.next fr', drawEnd s ops.size ods) else none
    | _ => none
  else none
end Go.Proofs.YtgpfgcbolinncaaGreat.Abs
set_option linter.unusedVariables false
set_option linter.unusedSimpArgs false
namespace Go.Proofs.YtgpfgcbolinncaaGreat.Abs
open Go Go.RowKit

theorem known_heapAt {h : Heap} {ods : List OD} {p : Nat → Bool} {m : Nat} (hk : (heapAt h ods p).find m ≠ none) : h.find m ≠ none ∨ ∃ j x, ods[j]? = some x ∧ p j = true ∧ hasKey x.d m := by
  by_cases e : h.find m = none
  · right
    apply Classical.byContradiction
    intro c
    apply hk
    unfold heapAt
    rw [Heap.find_sets_names]
    · exact e
    · intro y hy ey
      obtain ⟨j, x, a, b, d⟩ := (gsum_mem OD.d 0 ods).1 hy
      exact c ⟨j, x, a, by simpa using b, y, d, ey⟩
  · exact .inl e
theorem own_inj {s : ST} {n l l' c c' : Nat} (hl : l < n) (hl' : l' < n) (h : s.nm (s.ctr + l + n * c) = s.nm (s.ctr + l' + n * c')) : l = l' := by
  have h1 := nm_inj.1 h
  have h2 : (l + n * c) % n = (l' + n * c') % n := by congr 1; omega
  rwa [Nat.add_mul_mod_self_left, Nat.add_mul_mod_self_left, Nat.mod_eq_of_lt hl, Nat.mod_eq_of_lt hl'] at h2

section
variable {P : Program} {fn : FnTab} {call : CallT} {ops : Array Oper} {s : ST} {fr0 : Fr} {ods : List OD}

/-- all that is known of a region's run -/
structure Knew (P : Program) (fn : FnTab) (call : CallT) (ops : Array Oper) (s : ST) (fr0 : Fr) (ods : List OD) : Prop where
  hm : CallMono call
  hb : edgesBack 0 ops.toList = true
  at_ : ∀ (j : Nat) (x : OD), ods[j]? = some x → ∃ o s', At P fn call ops s ops.size fr0 ods j x o s'

structure Known (P : Program) (fn : FnTab) (call : CallT) (ops : Array Oper) (s : ST) (fr0 : Fr) (ods : List OD) : Prop extends Knew P fn call ops s fr0 ods where
  free : FreeIn s.heap s.base s.str s.ctr
  blind : ∀ i, i < ods.length → blindOk P fn call ops s fr0 ods i = true

theorem Knew.names (K : Knew P fn call ops s fr0 ods) : ∀ (j : Nat) (x : OD), ods[j]? = some x → ∀ y ∈ x.d, s.heap.find y.1 ≠ none ∨
    ∃ l c z, l < ops.size ∧ ods[l]? = some z ∧ c < z.k ∧ y.1 = s.nm (s.ctr + l + ops.size * c) ∧ (l = j ∨ ((masksOf ops).getD j 0).testBit l = true) := by
  intro j
  induction j using Nat.strongRecOn with
  | _ j ih =>
    intro x hx y hy
    obtain ⟨o, s', A⟩ := K.at_ j x hx
    have hjn : j < ops.size := (Array.getElem?_eq_some_iff.1 A.op).1
    obtain ⟨d, D, _⟩ := mono_opVal K.hm ops _ o _ _ _ A.run
    have hd : x.d = d := by rw [A.d, D.jr]; simp [subST]
    rw [hd] at hy
    rcases D.names y hy with h | ⟨k, h1, h2, h3⟩
    · rcases known_heapAt h with h | ⟨l, z, a, b, y2, c, e⟩
      · exact .inl h
      · have hl := mask_lt K.hb j l b
        rcases ih l hl z a y2 c with h | ⟨l', c', z', q1, q2, q3, q4, q5⟩
        · rw [e] at h; exact .inl h
        · refine .inr ⟨l', c', z', q1, q2, q3, by rw [← e]; exact q4, .inr ?_⟩
          rcases q5 with rfl | q5
          · exact b
          · exact mask_trans K.hb j l l' b q5
    · right
      rw [sub_nm (by omega)] at h3
      exact ⟨j, k, x, hjn, hx, by rw [A.k]; exact h2, h3, .inl rfl⟩
/-- a write of operation j is to a name of its own, or to one that was there -/
theorem Knew.own (K : Knew P fn call ops s fr0 ods) {j : Nat} {x : OD} (hx : ods[j]? = some x) {y : Nat × Option AObj} (hy : y ∈ x.d) : (∃ c, c < x.k ∧ y.1 = s.nm (s.ctr + j + ops.size * c)) ∨ y.1 ∈ wrote s (masksOf ops) ods j x := by
  obtain ⟨o, s', A⟩ := K.at_ j x hx
  have hjn : j < ops.size := (Array.getElem?_eq_some_iff.1 A.op).1
  obtain ⟨d, D, _⟩ := mono_opVal K.hm ops _ o _ _ _ A.run
  have hd : x.d = d := by rw [A.d, D.jr]; simp [subST]
  rcases D.names y (by rw [← hd]; exact hy) with h | ⟨k, h1, h2, h3⟩
  · right
    unfold wrote
    refine List.mem_map.2 ⟨y, List.mem_filter.2 ⟨hy, ?_⟩, rfl⟩
    exact Option.isSome_iff_ne_none.2 h
  · left
    rw [sub_nm (by omega)] at h3
    exact ⟨k, by rw [A.k]; exact h2, h3⟩
theorem mem_bad {s : ST} {masks : List Nat} {ods : List OD} {i j : Nat} {x : OD} {m : Nat} (hx : ods[j]? = some x) (hji : j ≠ i) (h1 : (masks.getD i 0).testBit j = false) (h2 : (masks.getD j 0).testBit i = false) (hm : m ∈ wrote s masks ods j x) : m ∈ badOf s masks ods i := by
  unfold badOf
  refine List.mem_flatMap.2 ⟨j, List.mem_range.2 (List.getElem?_eq_some_iff.1 hx).1, ?_⟩
  have : (j == i || (masks.getD i 0).testBit j || (masks.getD j 0).testBit i) = false := by rw [h1, h2]; simp [hji]
  rw [this]
  simp only [hx]
  exact hm
/-- the blind run of operation i: on what stands before it, without what others write meanwhile -/
theorem Known.hid (K : Known P fn call ops s fr0 ods) {i : Nat} {x : OD} (hx : ods[i]? = some x) : ∃ o s', ops[i]? = some o ∧ (∀ m ∈ badOf s (masksOf ops) ods i, s.heap.st m = none) ∧
    opVal P fn call ops (fAt fr0 ods (fun k => decide (k < i))).env o (subST s ops.size i ((heapAt s.heap ods ((masksOf ops).getD i 0).testBit).hides (badOf s (masksOf ops) ods i))) = some (.val x.v, s') ∧ s'.jr = x.d := by
  obtain ⟨o, s', A⟩ := K.at_ i x hx
  have hb := K.blind i (List.getElem?_eq_some_iff.1 hx).1
  have hin : i < ops.size := (Array.getElem?_eq_some_iff.1 A.op).1
  unfold blindOk at hb
  split at hb
  · rename_i e
    rw [e]
    exact ⟨o, s', A.op, by simp, A.run, A.d.symm⟩
  · rename_i m r e
    rw [e]
    simp only [A.op, Bool.and_eq_true, List.all_eq_true, Option.isNone_iff_eq_none] at hb
    obtain ⟨hst, hsome⟩ := hb
    obtain ⟨⟨v2, s2⟩, h2⟩ := Option.isSome_iff_exists.1 hsome
    have hst' : ∀ n ∈ m :: r, (heapAt s.heap ods ((masksOf ops).getD i 0).testBit).st n = none := fun n hn => by unfold heapAt; rw [Heap.st_sets]; exact hst n hn
    obtain ⟨d, D, hext⟩ := mono_opVal K.hm ops _ o _ _ _ h2
    have hE : Heap.Ext ((heapAt s.heap ods ((masksOf ops).getD i 0).testBit).hides (m :: r)) (heapAt s.heap ods ((masksOf ops).getD i 0).testBit) := by
      refine ⟨by simp, fun n hn => ?_⟩
      rw [Heap.find_hides hst'] at hn
      rw [Heap.dyn_hides]
      by_cases c : n ∈ m :: r
      · rw [if_pos c] at hn; exact absurd rfl hn
      · rw [if_neg c]
    have hF : FreeIn (heapAt s.heap ods ((masksOf ops).getD i 0).testBit) (subST s ops.size i ((heapAt s.heap ods ((masksOf ops).getD i 0).testBit).hides (m :: r))).base (subST s ops.size i ((heapAt s.heap ods ((masksOf ops).getD i 0).testBit).hides (m :: r))).str 0 := by
      intro c _
      have e : (subST s ops.size i ((heapAt s.heap ods ((masksOf ops).getD i 0).testBit).hides (m :: r))).base + ((subST s ops.size i ((heapAt s.heap ods ((masksOf ops).getD i 0).testBit).hides (m :: r))).str + 1) * c = s.nm (s.ctr + i + ops.size * c) := sub_nm (by omega) c
      rw [e]
      apply Classical.byContradiction
      intro hk
      have hfr : s.heap.find (s.nm (s.ctr + i + ops.size * c)) = none := K.free _ (by omega)
      rcases known_heapAt hk with h | ⟨j, z, a, b, y, hy, ey⟩
      · exact h hfr
      · rcases K.names j z a y hy with h | ⟨l, c', z', q1, q2, q3, q4, q5⟩
        · rw [ey] at h; exact h hfr
        · rw [ey] at q4
          have := own_inj hin q1 q4
          subst this
          rcases q5 with rfl | q5
          · have := mask_lt K.hb _ _ b; omega
          · have h1 := mask_lt K.hb _ _ b; have h2 := mask_lt K.hb _ _ q5; omega
    have hrun := hext _ [] hE hF
    have hA := A.run
    have hrun' : opVal P fn call ops (fAt fr0 ods (fun k => decide (k < i))).env o (subST s ops.size i (heapAt s.heap ods ((masksOf ops).getD i 0).testBit)) = some (v2, { s2 with heap := (heapAt s.heap ods ((masksOf ops).getD i 0).testBit).sets d, jr := d ++ [] }) := hrun
    rw [hA] at hrun'
    simp only [Option.some.injEq, Prod.mk.injEq] at hrun'
    obtain ⟨rfl, rfl⟩ := hrun'
    refine ⟨o, s2, A.op, hst, h2, ?_⟩
    rw [A.d, D.jr]
    simp [subST]

/-- a set of operations that holds what stands before each, and not i, but all before i -/
structure Stand (ops : Array Oper) (ods : List OD) (D : Nat → Bool) (i : Nat) : Prop where
  down : ∀ j k, D j = true → ((masksOf ops).getD j 0).testBit k = true → D k = true
  not_ : D i = false
  before : ∀ k, ((masksOf ops).getD i 0).testBit k = true → D k = true
  len : ∀ j, D j = true → j < ods.length
theorem Stand.apart {D : Nat → Bool} {i j : Nat} (S : Stand ops ods D i) (h : D j = true) : j ≠ i ∧ ((masksOf ops).getD j 0).testBit i = false := by
  refine ⟨fun e => ?_, ?_⟩
  · rw [e, S.not_] at h; cases h
  · cases hq : ((masksOf ops).getD j 0).testBit i with
    | false => rfl
    | true => have := S.down j i h hq; rw [S.not_] at this; cases this

theorem Known.ext (K : Known P fn call ops s fr0 ods) {D : Nat → Bool} {i : Nat} (S : Stand ops ods D i) (hst : ∀ m ∈ badOf s (masksOf ops) ods i, s.heap.st m = none) :
    Heap.Ext ((heapAt s.heap ods ((masksOf ops).getD i 0).testBit).hides (badOf s (masksOf ops) ods i)) (heapAt s.heap ods D) := by
  have hst' : ∀ m ∈ badOf s (masksOf ops) ods i, (heapAt s.heap ods ((masksOf ops).getD i 0).testBit).st m = none := fun m hm => by unfold heapAt; rw [Heap.st_sets]; exact hst m hm
  refine ⟨by simp [heapAt], fun m hm => ?_⟩
  rw [Heap.find_hides hst'] at hm
  rw [Heap.dyn_hides]
  by_cases hbad : m ∈ badOf s (masksOf ops) ods i
  · rw [if_pos hbad] at hm; exact absurd rfl hm
  rw [if_neg hbad] at hm ⊢
  unfold heapAt dsum
  rw [dyn_sets_find, dyn_sets_find, look_congr OD.d 0 ods (p := D) (q := ((masksOf ops).getD i 0).testBit)]
  intro j x hx hk
  simp only [Nat.zero_add]
  cases hb : ((masksOf ops).getD i 0).testBit j with
  | true => exact S.before j hb
  | false =>
    cases hD : D j with
    | false => rfl
    | true =>
      exfalso
      obtain ⟨hji, hmj⟩ := S.apart hD
      obtain ⟨y, hy, e⟩ := hk
      rcases K.own hx hy with ⟨c, _, hc⟩ | hw
      · rw [e] at hc
        obtain ⟨o, s', A⟩ := K.at_ j x hx
        have hjn : j < ops.size := (Array.getElem?_eq_some_iff.1 A.op).1
        have hfr : s.heap.find m = none := by rw [hc]; exact K.free _ (by omega)
        rcases known_heapAt hm with h | ⟨l, z, a, b, y2, hy2, e2⟩
        · exact h hfr
        · rcases K.names l z a y2 hy2 with h | ⟨l', c', z', q1, q2, q3, q4, q5⟩
          · rw [e2] at h; exact h hfr
          · rw [e2, hc] at q4
            have := own_inj hjn q1 q4
            subst this
            rcases q5 with rfl | q5
            · rw [b] at hb; cases hb
            · rw [mask_trans K.hb i l j b q5] at hb; cases hb
      · rw [e] at hw
        exact hbad (mem_bad hx hji hb hmj hw)
theorem Known.freeIn (K : Known P fn call ops s fr0 ods) {D : Nat → Bool} {i : Nat} (S : Stand ops ods D i) (hi : i < ops.size) (h2 : Heap) : FreeIn (heapAt s.heap ods D) (subST s ops.size i h2).base (subST s ops.size i h2).str (subST s ops.size i h2).ctr := by
  intro c _
  have e : (subST s ops.size i h2).base + ((subST s ops.size i h2).str + 1) * c = s.nm (s.ctr + i + ops.size * c) := sub_nm (by omega) c
  rw [e]
  apply Classical.byContradiction
  intro hk
  have hfr : s.heap.find (s.nm (s.ctr + i + ops.size * c)) = none := K.free _ (by omega)
  rcases known_heapAt hk with h | ⟨j, x, a, b, y, hy, ey⟩
  · exact h hfr
  · rcases K.names j x a y hy with h | ⟨l, c', z, q1, q2, q3, q4, q5⟩
    · rw [ey] at h; exact h hfr
    · rw [ey] at q4
      have := own_inj hi q1 q4
      subst this
      rcases q5 with rfl | q5
      · rw [S.not_] at b; cases b
      · have := S.down j i b q5
        rw [S.not_] at this; cases this

/-- the run of operation i on what D left -/
theorem Known.rerun (K : Known P fn call ops s fr0 ods) {D : Nat → Bool} {i : Nat} (S : Stand ops ods D i) {x : OD} (hx : ods[i]? = some x) {o : Oper} (ho : ops[i]? = some o) {env : Trie Value}
    (henv : opVal P fn call ops (fAt fr0 ods (fun k => decide (k < i))).env o = opVal P fn call ops env o) :
    ∃ s2, opVal P fn call ops env o (subST s ops.size i (heapAt s.heap ods D)) = some (.val x.v, s2) ∧ s2.heap = (heapAt s.heap ods D).sets x.d := by
  obtain ⟨o', s', ho', hst, hrun, hjr⟩ := K.hid hx
  rw [ho] at ho'; cases ho'
  rw [henv] at hrun
  have hi : i < ops.size := (Array.getElem?_eq_some_iff.1 ho).1
  obtain ⟨d, Dd, hext⟩ := mono_opVal K.hm ops env o _ _ _ hrun
  have hd : x.d = d := by rw [← hjr, Dd.jr]; simp [subST]
  have := hext (heapAt s.heap ods D) [] (K.ext S hst) (K.freeIn S hi _)
  exact ⟨_, this, by rw [hd]⟩

def addI (D : Nat → Bool) (i : Nat) : Nat → Bool := fun j => D j || decide (j = i)
/-- what a later one in D writes, this one doesn't -/
theorem Known.sep (K : Known P fn call ops s fr0 ods) {D : Nat → Bool} {i : Nat} (S : Stand ops ods D i) {x : OD} (hx : ods[i]? = some x) {j : Nat} {z : OD} (hij : i < j) (hz : ods[j]? = some z) (hD : D j = true) {m : Nat}
    (h1 : hasKey x.d m) (h2 : hasKey z.d m) : False := by
  obtain ⟨hji, hmj⟩ := S.apart hD
  have hmi : ((masksOf ops).getD i 0).testBit j = false := by
    cases hq : ((masksOf ops).getD i 0).testBit j with
    | false => rfl
    | true => have := mask_lt K.hb _ _ hq; omega
  obtain ⟨o, s', ho, hst, hrun, hjr⟩ := K.hid hx
  have hi : i < ops.size := (Array.getElem?_eq_some_iff.1 ho).1
  obtain ⟨oj, sj, Aj⟩ := K.at_ j z hz
  have hj : j < ops.size := (Array.getElem?_eq_some_iff.1 Aj.op).1
  obtain ⟨d, Dd, _⟩ := mono_opVal K.hm ops _ o _ _ _ hrun
  have hd : x.d = d := by rw [← hjr, Dd.jr]; simp [subST]
  obtain ⟨y, hy, ey⟩ := h1
  obtain ⟨y2, hy2, ey2⟩ := h2
  have hst' : ∀ m ∈ badOf s (masksOf ops) ods i, (heapAt s.heap ods ((masksOf ops).getD i 0).testBit).st m = none := fun m hm => by unfold heapAt; rw [Heap.st_sets]; exact hst m hm
  rcases Dd.names y (by rw [← hd]; exact hy) with h | ⟨c, _, _, h⟩
  · rw [ey] at h
    have h : ((heapAt s.heap ods ((masksOf ops).getD i 0).testBit).hides (badOf s (masksOf ops) ods i)).find m ≠ none := h
    rw [Heap.find_hides hst'] at h
    by_cases hbad : m ∈ badOf s (masksOf ops) ods i
    · rw [if_pos hbad] at h; exact h rfl
    rw [if_neg hbad] at h
    rcases K.own hz hy2 with ⟨c, _, hc⟩ | hw
    · rw [ey2] at hc
      have hfr : s.heap.find m = none := by rw [hc]; exact K.free _ (by omega)
      rcases known_heapAt h with h | ⟨l, w, a, b, y3, hy3, e3⟩
      · exact h hfr
      · rcases K.names l w a y3 hy3 with h | ⟨l', c', z', q1, q2, q3, q4, q5⟩
        · rw [e3] at h; exact h hfr
        · rw [e3, hc] at q4
          have := own_inj hj q1 q4
          subst this
          rcases q5 with rfl | q5
          · rw [b] at hmi; cases hmi
          · rw [mask_trans K.hb i l j b q5] at hmi; cases hmi
    · rw [ey2] at hw
      exact hbad (mem_bad hz hji hmi hmj hw)
  · rw [sub_nm (by omega), ey] at h
    have hfr : s.heap.find m = none := by rw [h]; exact K.free _ (by omega)
    rcases K.names j z hz y2 hy2 with h' | ⟨l, c', z', q1, q2, q3, q4, q5⟩
    · rw [ey2] at h'; exact h' hfr
    · rw [ey2, h] at q4
      have := own_inj hi q1 q4
      subst this
      rcases q5 with q5 | q5
      · omega
      · rw [q5] at hmj; cases hmj
/-- no later one in D shares a name -/
theorem Known.like (K : Known P fn call ops s fr0 ods) {D : Nat → Bool} {i : Nat} (S : Stand ops ods D i) {x : OD} (hx : ods[i]? = some x) :
    Heap.Like (heapAt s.heap ods (addI D i)) ((heapAt s.heap ods D).sets x.d) := by
  refine ⟨by simp [heapAt], fun m => ?_⟩
  unfold heapAt dsum
  rw [← Heap.sets_append, dyn_sets_find, dyn_sets_find, List.find?_append]
  by_cases hk : hasKey x.d m
  · have e := look_at OD.d (p := addI D i) (n := m) (m := i) (x := x) 0 ods hx (by simp [addI]) hk (fun j z hj hz hD hkz => by
      simp only [Nat.zero_add, addI, Bool.or_eq_true, decide_eq_true_eq] at hD
      have hD : D j = true := hD.resolve_right (by omega)
      exact K.sep S hx hj hz hD hk hkz)
    rw [e]
    have hne : x.d.find? (fun y => y.1 == m) ≠ none := fun c => find_none.1 c hk
    cases hq : x.d.find? (fun y => y.1 == m) with
    | none => exact absurd hq hne
    | some _ => rfl
  · have e : x.d.find? (fun y => y.1 == m) = none := find_none.2 hk
    rw [e, look_congr OD.d (p := addI D i) (q := D) 0 ods (fun j z hz hkz => by
      simp only [Nat.zero_add, addI]
      by_cases hji : j = i
      · subst hji
        rw [hx] at hz; cases hz
        exact absurd hkz hk
      · simp [hji])]
    rfl
end

/-! ### pairs of operations -/
theorem apartOk_pair {ops : Array Oper} {ods : List OD} (h : apartOk ops (masksOf ops) ods = true) {i j : Nat} (hij : i < j) (hj : j < ods.length) (hm : ((masksOf ops).getD j 0).testBit i = false) {a b : Oper}
    (ha : ops[i]? = some a) (hb : ops[j]? = some b) : a.apart ops b = true := by
  unfold apartOk at h
  have h1 := List.all_eq_true.1 (List.all_eq_true.1 h j (List.mem_range.2 hj)) i (List.mem_range.2 hij)
  rw [hm, Bool.false_or] at h1
  simp only [ha, hb] at h1
  exact h1
end Go.Proofs.YtgpfgcbolinncaaGreat.Abs
set_option linter.unusedVariables false
set_option linter.unusedSimpArgs false
namespace Go.Proofs.YtgpfgcbolinncaaGreat.Abs
open Go Go.RowKit

theorem countP_less {p q : Nat → Bool} {i : Nat} (hp : p i = true) (hq : q i = false) (hle : ∀ j, q j = true → p j = true) : ∀ (l : List Nat), i ∈ l → l.countP q + 1 ≤ l.countP p
  | [], h => by simp at h
  | x :: r, h => by
    have hm : r.countP q ≤ r.countP p := List.countP_mono_left fun j _ => hle j
    rcases List.mem_cons.1 h with rfl | h
    · rw [List.countP_cons_of_pos (p := p) hp, List.countP_cons_of_neg (p := q) (by simp [hq])]; omega
    · have ih := countP_less hp hq hle r h
      rw [List.countP_cons, List.countP_cons]
      by_cases hx : q x = true
      · rw [if_pos hx, if_pos (hle x hx)]; omega
      · rw [if_neg hx]; split <;> omega
def unl (n : Nat) (listed : Array Bool) : Nat := (List.range n).countP fun j => !listed.getD j false
theorem all_listed {ops : Array Oper} (hb : edgesBack 0 ops.toList = true) {listed : Array Bool} (hs : listed.size = ops.size) (hr : Region.ready .any ops listed = []) : ∀ j, j < ops.size → listed.getD j false = true := by
  intro j
  induction j using Nat.strongRecOn with
  | _ j ih =>
    intro hj
    apply Classical.byContradiction
    intro hc
    have hm : j ∈ Region.ready .any ops listed := by
      rw [mem_ready]
      refine ⟨?_, ops[j], by simp [hj], fun e he hbd => ?_⟩
      · have hl : j < listed.size := by omega
        simpa [Array.getD_eq_getD_getElem?, hl] using hc
      · have hlt := edgesBack_spec ops.toList 0 hb j ops[j] (by simp [hj]) e (by simpa using he) hbd
        exact ih e.on (by omega) (by omega)
    rw [hr] at hm
    simp at hm
theorem FRel.like {π : PMap} {fr fr2 : Fr} {a : Act} (h : FRel π fr a) (hn : fr2.n = fr.n) (hd : fr2.defs = fr.defs) (he : ∀ t, fr2.env.get t = fr.env.get t) : FRel π fr2 a :=
  ⟨by rw [hn]; exact h.size, fun t => by rw [he]; exact h.env t, by rw [hd]; exact h.defs⟩
theorem e_key {x : OD} {t : Nat} (h : hasKey x.e t) : x.dst = some t := by
  obtain ⟨y, hy, e⟩ := h
  unfold OD.e at hy
  split at hy
  · rename_i d hd
    simp at hy
    subst hy
    rw [hd]; simp at e; rw [e]
  · simp at hy

section
variable {P : Program} {fn : FnTab} {call : CallT} {ops : Array Oper} {s : ST} {fr0 : Fr} {ods : List OD}

theorem any_sound (ok : FnOk P fn) {B : Nat} {w0 : World} (hc : CallOk P B w0 call) (K : Known P fn call ops s fr0 ods) (hap : apartOk ops (masksOf ops) ods = true) (hlen : ods.length = ops.size) {Q : Exit → Act → World → Prop} :
    ∀ (fuel : Nat) (listed : Array Bool) (a : Act) (w : World) (π : PMap), listed.size = ops.size → Closed ops listed → unl ops.size listed ≤ fuel →
      Rel B w0 π (heapAt s.heap ods (fun j => listed.getD j false)) w → FRel π (fAt fr0 ods (fun j => listed.getD j false)) a →
      (∀ π' w' a', π.le π' → Rel B w0 π' (heapAt s.heap ods allB) w' → FRel π' (fAt fr0 ods allB) a' → Q .normal a' w') → wpAny P .any ops Q fuel listed a w := by
  have done : ∀ (listed : Array Bool) (a : Act) (w : World) (π : PMap), (∀ j, j < ops.size → listed.getD j false = true) →
      Rel B w0 π (heapAt s.heap ods (fun j => listed.getD j false)) w → FRel π (fAt fr0 ods (fun j => listed.getD j false)) a →
      (∀ π' w' a', π.le π' → Rel B w0 π' (heapAt s.heap ods allB) w' → FRel π' (fAt fr0 ods allB) a' → Q .normal a' w') → Q .normal a w := by
    intro listed a w π hall R F kk
    have e1 : heapAt s.heap ods (fun j => listed.getD j false) = heapAt s.heap ods allB := by
      unfold heapAt dsum
      rw [gsum_congr OD.d (p := fun j => listed.getD j false) (q := allB) 0 ods (fun j hj => by simp only [Nat.zero_add]; exact hall j (by omega))]
    have e2 : fAt fr0 ods (fun j => listed.getD j false) = fAt fr0 ods allB := by
      unfold fAt
      rw [gsum_congr OD.e (p := fun j => listed.getD j false) (q := allB) 0 ods (fun j hj => by simp only [Nat.zero_add]; exact hall j (by omega))]
    rw [e1] at R
    rw [e2] at F
    exact kk π w a (PMap.le.refl π) R F
  intro fuel
  induction fuel with
  | zero =>
    intro listed a w π hs hcl hu R F kk
    have hall : ∀ j, j < ops.size → listed.getD j false = true := by
      intro j hj
      have h0 : unl ops.size listed = 0 := by omega
      unfold unl at h0
      rw [List.countP_eq_zero] at h0
      have := h0 j (List.mem_range.2 hj)
      simpa using this
    refine ⟨?_, done listed a w π hall R F kk⟩
    apply List.eq_nil_iff_forall_not_mem.2
    intro j hj
    rw [mem_ready] at hj
    obtain ⟨h1, o, ho, _⟩ := hj
    have hlt : j < ops.size := (Array.getElem?_eq_some_iff.1 ho).1
    have := hall j hlt
    have hl : j < listed.size := by omega
    simp [Array.getD_eq_getD_getElem?, hl] at h1 this
    rw [h1] at this; cases this
  | succ fuel ih =>
    intro listed a w π hs hcl hu R F kk
    refine ⟨fun hr => done listed a w π (all_listed K.hb hs hr) R F kk, ?_⟩
    intro i hi
    rw [mem_ready] at hi
    obtain ⟨h1, o, ho, hedges⟩ := hi
    have hlt : i < ops.size := (Array.getElem?_eq_some_iff.1 ho).1
    have hll : i < listed.size := by omega
    have hni : listed.getD i false = false := by
      simp [Array.getD_eq_getD_getElem?, hll] at h1 ⊢; exact h1
    obtain ⟨x, hx⟩ : ∃ x, ods[i]? = some x := ⟨ods[i], by simp [hlen, hlt]⟩
    obtain ⟨o', s', A⟩ := K.at_ i x hx
    have ho' := A.op
    rw [ho] at ho'
    simp only [Option.some.injEq] at ho'
    subst ho'
    have hop : ∀ (j : Nat) (z : OD), ods[j]? = some z → ∃ oj : Oper, ops[j]? = some oj ∧ z.dst = oj.dst := fun j z hz => by
      obtain ⟨oj, sj, Aj⟩ := K.at_ j z hz; exact ⟨oj, Aj.op, Aj.dst⟩
    have hbefore : ∀ k, ((masksOf ops).getD i 0).testBit k = true → listed.getD k false = true := fun k hk => closed_mask K.hb hcl i k o ho hedges hk
    have hdown : ∀ j k, listed.getD j false = true → ((masksOf ops).getD j 0).testBit k = true → listed.getD k false = true := by
      intro j k hj hk
      cases hoj : ops[j]? with
      | none => rw [mask_none hoj] at hk; cases hk
      | some oj => exact closed_mask K.hb hcl j k oj hoj (fun e he hbd => hcl j oj hoj hj e he hbd) hk
    have hafter : ∀ j, listed.getD j false = true → ((masksOf ops).getD j 0).testBit i = false := by
      intro j hj
      cases hq : ((masksOf ops).getD j 0).testBit i with
      | false => rfl
      | true => have := hdown j i hj hq; rw [hni] at this; cases this
    have hlen' : ∀ j, listed.getD j false = true → j < ods.length := by
      intro j hj
      rw [hlen, ← hs]
      apply Classical.byContradiction
      intro hn
      simp [Array.getD_eq_getD_getElem?, Array.getElem?_eq_none (Nat.not_lt.1 hn)] at hj
    have hgt : ∀ (j : Nat) (z : OD), i < j → ods[j]? = some z → listed.getD j false = true → ∃ oj : Oper, ops[j]? = some oj ∧ z.dst = oj.dst ∧ o.apart ops oj = true := by
      intro j z hij hz hj
      obtain ⟨oj, hoj, hdj⟩ := hop j z hz
      exact ⟨oj, hoj, hdj, apartOk_pair hap hij (hlen' j hj) (hafter j hj) ho hoj⟩
    have S : Stand ops ods (fun j => listed.getD j false) i := { down := hdown, not_ := hni, before := hbefore, len := hlen' }
    have henv : opVal P fn call ops (fAt fr0 ods (fun k => decide (k < i))).env o = opVal P fn call ops (fAt fr0 ods (fun j => listed.getD j false)).env o := by
      apply opVal_congr
      intro t ht
      unfold envD fAt
      simp only
      rw [etrie_find, etrie_find, look_congr OD.e (p := fun k => decide (k < i)) (q := fun j => listed.getD j false) 0 ods]
      intro j z hz hk
      simp only [Nat.zero_add]
      have hd := e_key hk
      obtain ⟨oj, hoj, hdj⟩ := hop j z hz
      rw [hdj] at hd
      rcases Nat.lt_trichotomy j i with hji | rfl | hij
      · rw [decide_eq_true hji]
        cases hm : ((masksOf ops).getD i 0).testBit j with
        | true => exact (hbefore j hm).symm
        | false =>
          exfalso
          have happ := apartOk_pair hap hji (by omega) hm hoj ho
          exact (Oper.apart_spec happ).1 t hd ht
      · rw [hni]; simp
      · rw [decide_eq_false (by omega)]
        cases hq : listed.getD j false with
        | false => rfl
        | true =>
          exfalso
          obtain ⟨oj', hoj', _, happ⟩ := hgt j z hij hz hq
          rw [hoj] at hoj'; cases hoj'
          exact (Oper.apart_spec happ).2.2 t hd ht
    obtain ⟨s2, hrun, hheap⟩ := K.rerun S hx ho henv
    refine opVal_sound ok hc hrun (K.freeIn S hlt _) (show Rel B w0 π (subST s ops.size i (heapAt s.heap ods fun j => listed.getD j false)).heap w from R) F ho ?_
    intro π' w' hle R' v' hv
    have hD : (fun j => (listed.setIfInBounds i true).getD j false) = addI (fun j => listed.getD j false) i := by
      funext j
      unfold addI
      by_cases hji : j = i
      · subst hji; simp [hll]
      · rw [getD_set_ne false (Ne.symm hji)]; simp [hji]
    have hset : (listed.setIfInBounds i true).size = ops.size := by simpa using hs
    refine ih (listed.setIfInBounds i true) _ w' π' hset ?_ ?_ ?_ ?_ ?_
    · intro j oj hoj hj e he hbd
      by_cases hji : j = i
      · subst hji
        rw [ho] at hoj; cases hoj
        exact getD_set_true (hedges e he hbd)
      · rw [getD_set_ne false (Ne.symm hji)] at hj
        exact getD_set_true (hcl j oj hoj hj e he hbd)
    · have := countP_less (p := fun j => !listed.getD j false) (q := fun j => !(listed.setIfInBounds i true).getD j false) (i := i) (by simp only [hni]; rfl) (by simp [hll]) (fun j hj => by
        by_cases hji : j = i
        · subst hji; simp only [hni]; rfl
        · rw [getD_set_ne false (Ne.symm hji)] at hj; exact hj) (List.range ops.size) (List.mem_range.2 hlt)
      unfold unl at hu ⊢
      omega
    · rw [hD]
      have L := K.like S hx
      refine (show Rel B w0 π' ((heapAt s.heap ods (fun j => listed.getD j false)).sets x.d) w' from ?_).like ⟨L.st.symm, fun n => (L.dyn n).symm⟩
      rw [hheap] at R'
      exact R'
    · rw [hD]
      obtain ⟨fr', hf'⟩ : ∃ fr', putF (fAt fr0 ods (fun j => listed.getD j false)) o.dst x.v = some fr' := by
        unfold putF
        cases hd : o.dst with
        | none => exact ⟨_, rfl⟩
        | some d =>
          simp only
          rw [if_pos (show d < (fAt fr0 ods (fun j => listed.getD j false)).n from A.room d hd)]
          exact ⟨_, rfl⟩
      refine ((F.mono hle).put hf' hv).like ?_ ?_ ?_
      · unfold putF at hf'
        split at hf'
        · simp only [Option.some.injEq] at hf'; subst hf'; rfl
        · split at hf'
          · simp only [Option.some.injEq] at hf'; subst hf'; rfl
          · cases hf'
      · unfold putF at hf'
        split at hf'
        · simp only [Option.some.injEq] at hf'; subst hf'; rfl
        · split at hf'
          · simp only [Option.some.injEq] at hf'; subst hf'; rfl
          · cases hf'
      · intro t
        have hne : ¬ hasKey x.e t → (etrie fr0.env (gsum OD.e (addI (fun j => listed.getD j false) i) 0 ods)).get t = (etrie fr0.env (gsum OD.e (fun j => listed.getD j false) 0 ods)).get t := by
          intro hk
          rw [etrie_find, etrie_find, look_congr OD.e (p := addI (fun j => listed.getD j false) i) (q := fun j => listed.getD j false) 0 ods]
          intro j z hz hkz
          simp only [Nat.zero_add, addI]
          by_cases hji : j = i
          · subst hji
            rw [hx] at hz; cases hz
            exact absurd hkz hk
          · simp [hji]
        unfold putF at hf'
        cases hd : o.dst with
        | none =>
          rw [hd] at hf'
          simp only [Option.some.injEq] at hf'
          subst hf'
          refine hne ?_
          intro hk
          have := e_key hk
          rw [A.dst, hd] at this; cases this
        | some d =>
          rw [hd] at hf'
          simp only at hf'
          split at hf'
          · simp only [Option.some.injEq] at hf'
            subst hf'
            simp only [Trie.get_set]
            by_cases htd : t = d
            · subst htd
              rw [if_pos rfl]
              have hk : hasKey x.e t := by
                unfold OD.e
                rw [A.dst, hd]
                exact ⟨(t, x.v), by simp, rfl⟩
              show (etrie fr0.env (gsum OD.e (addI (fun j => listed.getD j false) i) 0 ods)).get t = some x.v
              rw [etrie_find, look_at OD.e (m := i) (x := x) 0 ods hx (by simp [addI]) hk]
              · unfold OD.e
                rw [A.dst, hd]
                simp
              · intro j z hij hz hDj hkz
                simp only [Nat.zero_add, addI, Bool.or_eq_true, decide_eq_true_eq] at hDj
                have hDj := hDj.resolve_right (by omega)
                obtain ⟨oj, hoj, hdj, happ⟩ := hgt j z hij hz hDj
                have := e_key hkz
                rw [hdj] at this
                exact (Oper.apart_spec happ).2.1 t hd this
            · rw [if_neg htd]
              refine hne ?_
              intro hk
              have := e_key hk
              rw [A.dst, hd] at this
              simp only [Option.some.injEq] at this
              exact htd this.symm
          · cases hf'
    · intro π2 w2 a2 hle2 R2 F2
      exact kk π2 w2 a2 (hle.trans hle2) R2 F2
end
end Go.Proofs.YtgpfgcbolinncaaGreat.Abs
set_option linter.unusedVariables false
set_option linter.unusedSimpArgs false
namespace Go.Proofs.YtgpfgcbolinncaaGreat.Abs
open Go Go.RowKit

theorem getD_replicate_false (n j : Nat) : (Array.replicate n false).getD j false = false := by
  simp [Array.getD_eq_getD_getElem?, Array.getElem?_replicate]
  split <;> simp
theorem le_maxK {x : OD} : ∀ {ods : List OD}, x ∈ ods → x.k ≤ maxK ods
  | [], h => by simp at h
  | y :: r, h => by
    simp only [maxK, List.foldr_cons]
    rcases List.mem_cons.1 h with rfl | h
    · exact Nat.le_max_left _ _
    · exact Nat.le_trans (le_maxK h) (Nat.le_max_right _ _)

theorem evalDraw_inv {P : Program} {fn : FnTab} {call : CallT} (hm : CallMono call) {ops : Array Oper} {s s' : ST} {fr : Fr} {r : SR} (h : evalDraw P fn call ops fr s = some (r, s')) :
    ∃ ods fr', edgesBack 0 ops.toList = true ∧ drawGo P fn call ops (masksOf ops) s ops.size ops.toList [] fr = some (.done ods fr') ∧ apartOk ops (masksOf ops) ods = true ∧ (List.range ods.length).all (blindOk P fn call ops s fr ods) = true ∧ r = .next fr' ∧ s' = drawEnd s ops.size ods ∧
      ods.length = ops.size ∧ Ran P fn call ops s ops.size fr ods fr' ∧ Knew P fn call ops s fr ods := by
  unfold evalDraw at h
  split at h
  · rename_i hb
    split at h
    · rename_i ods fr' hd
      split at h
      · rename_i hap
        simp only [Option.some.injEq, Prod.mk.injEq] at h
        rcases drawGo_ran ops.toList [] fr _ (by simp) .nil hd with ⟨ods2, fr2, a, b, c⟩ | ⟨_, _, _, _, _, a, _⟩
        · cases a
          exact ⟨ods, fr', hb, hd, hap.1, hap.2, h.1.symm, h.2.symm, by simpa using b, c, hm, hb, c.at hb⟩
        · cases a
      · cases h
    · cases h
  · cases h

theorem evalDraw_sound {P : Program} {fn : FnTab} (ok : FnOk P fn) {B : Nat} {w0 : World} {call : CallT} (hc : CallOk P B w0 call) (hm : CallMono call) {ops : Array Oper} {Q : Exit → Act → World → Prop}
    {fr : Fr} {s s' : ST} {r : SR} (h : evalDraw P fn call ops fr s = some (r, s')) (f : s.Free) {π : PMap} {w : World} {a : Act} (R : Rel B w0 π s.heap w) (F : FRel π fr a)
    (kk : ∀ π' w' a' e, π.le π' → Rel B w0 π' s'.heap w' → SRel π' r e a' → Q e a' w') : wpAny P .any ops Q ops.size (Array.replicate ops.size false) a w := by
  obtain ⟨ods, fr', hb, hd, hap, hbl, rfl, rfl, hlen, hR, KN⟩ := evalDraw_inv hm h
  have K : Known P fn call ops s fr ods := { toKnew := KN, free := f, blind := fun i hi => List.all_eq_true.1 hbl i (List.mem_range.2 hi) }
  have e0 : (fun j => (Array.replicate ops.size false).getD j false) = (fun _ => false) := by funext j; exact getD_replicate_false _ _
  refine any_sound ok hc K hap hlen ops.size _ a w π (by simp) ?_ ?_ ?_ ?_ ?_
  · intro i o _ hl; rw [getD_replicate_false] at hl; cases hl
  · unfold unl
    exact Nat.le_trans List.countP_le_length (by simp)
  · rw [e0]
    unfold heapAt dsum
    rw [gsum_none OD.d 0 ods (fun j _ => rfl)]
    exact R
  · rw [e0]
    unfold fAt
    rw [gsum_none OD.e 0 ods (fun j _ => rfl)]
    exact F
  · intro π' w' a' hle R' F'
    have hf := hR.frame
    exact kk π' w' a' .normal hle R' (F'.like hf.1 hf.2.1 hf.2.2)

theorem free_of_ext {h h2 : Heap} {b st k : Nat} (e : Heap.Ext h h2) (f : FreeIn h2 b st k) : FreeIn h b st k := by
  intro c hc
  apply Classical.byContradiction
  intro hn
  have := e.find hn
  rw [f c hc] at this
  exact hn this.symm

section
variable {P : Program} {fn : FnTab} {call : CallT} {ops : Array Oper} {s : ST} {fr0 : Fr} {ods : List OD} {h2 : Heap} {j2 : List (Nat × Option AObj)}
theorem Knew.free2 (KN : Knew P fn call ops s fr0 ods) (hx : Heap.Ext s.heap h2) (hf : FreeIn h2 s.base s.str s.ctr) {i : Nat} (hi : i < ops.size) (c : Nat) : (heapAt h2 ods ((masksOf ops).getD i 0).testBit).find (s.nm (s.ctr + i + ops.size * c)) = none := by
  apply Classical.byContradiction
  intro hk
  have hfr : h2.find (s.nm (s.ctr + i + ops.size * c)) = none := hf _ (by omega)
  rcases known_heapAt hk with h | ⟨j, x, a, b, y, hy, ey⟩
  · exact h hfr
  · rcases KN.names j x a y hy with h | ⟨l, c', z, q1, q2, q3, q4, q5⟩
    · rw [ey] at h
      have := hx.find h
      rw [hfr] at this; exact h this.symm
    · rw [ey] at q4
      have := own_inj hi q1 q4
      subst this
      rcases q5 with rfl | q5
      · have := mask_lt KN.hb _ _ b; omega
      · have h1 := mask_lt KN.hb _ _ b; have h2 := mask_lt KN.hb _ _ q5; omega
theorem Knew.sub_free (KN : Knew P fn call ops s fr0 ods) (hx : Heap.Ext s.heap h2) (hf : FreeIn h2 s.base s.str s.ctr) {i : Nat} (hi : i < ops.size) (H : Heap) : FreeIn (heapAt h2 ods ((masksOf ops).getD i 0).testBit) (subST s ops.size i H).base (subST s ops.size i H).str 0 := by
  intro c _
  have e : (subST s ops.size i H).base + ((subST s ops.size i H).str + 1) * c = s.nm (s.ctr + i + ops.size * c) := sub_nm (by omega) c
  rw [e]
  exact KN.free2 hx hf hi c
theorem Knew.find_same (KN : Knew P fn call ops s fr0 ods) (hx : Heap.Ext s.heap h2) (hf : FreeIn h2 s.base s.str s.ctr) {j : Nat} {x : OD} (hxj : ods[j]? = some x) {y : Nat × Option AObj} (hy : y ∈ x.d) :
    (heapAt s.heap ods ((masksOf ops).getD j 0).testBit).find y.1 = (heapAt h2 ods ((masksOf ops).getD j 0).testBit).find y.1 := by
  by_cases hk : (heapAt s.heap ods ((masksOf ops).getD j 0).testBit).find y.1 = none
  · obtain ⟨o, s', A⟩ := KN.at_ j x hxj
    have hjn : j < ops.size := (Array.getElem?_eq_some_iff.1 A.op).1
    obtain ⟨d, D, _⟩ := mono_opVal KN.hm ops _ o _ _ _ A.run
    have hd : x.d = d := by rw [A.d, D.jr]; simp [subST]
    rcases D.names y (by rw [← hd]; exact hy) with h | ⟨k, h1, h2', h3⟩
    · exact absurd hk h
    · rw [hk, h3, sub_nm (by omega)]
      exact (KN.free2 hx hf hjn _).symm
  · have he : Heap.Ext (heapAt s.heap ods ((masksOf ops).getD j 0).testBit) (heapAt h2 ods ((masksOf ops).getD j 0).testBit) := hx.sets _
    exact (he.find hk).symm
theorem Knew.wrote_same (KN : Knew P fn call ops s fr0 ods) (hx : Heap.Ext s.heap h2) (hf : FreeIn h2 s.base s.str s.ctr) {j : Nat} {x : OD} (hxj : ods[j]? = some x) :
    wrote { s with heap := h2, jr := j2 } (masksOf ops) ods j x = wrote s (masksOf ops) ods j x := by
  unfold wrote
  congr 1
  refine List.filter_congr fun y hy => ?_
  rw [KN.find_same hx hf hxj hy]
theorem Knew.bad_same (KN : Knew P fn call ops s fr0 ods) (hx : Heap.Ext s.heap h2) (hf : FreeIn h2 s.base s.str s.ctr) (i : Nat) :
    badOf { s with heap := h2, jr := j2 } (masksOf ops) ods i = badOf s (masksOf ops) ods i := by
  unfold badOf
  rw [List.flatMap_def, List.flatMap_def]
  congr 1
  refine List.map_congr_left fun j _ => ?_
  split
  · rfl
  · cases h : ods[j]? with
    | none => rfl
    | some x => exact KN.wrote_same hx hf h
theorem Knew.blind_same (KN : Knew P fn call ops s fr0 ods) (hx : Heap.Ext s.heap h2) (hf : FreeIn h2 s.base s.str s.ctr) {i : Nat} (h : blindOk P fn call ops s fr0 ods i = true) :
    blindOk P fn call ops { s with heap := h2, jr := j2 } fr0 ods i = true := by
  unfold blindOk at h ⊢
  rw [KN.bad_same hx hf]
  split at h
  · rename_i e; rfl
  · rename_i m r e
    simp only [Bool.and_eq_true, List.all_eq_true, Option.isNone_iff_eq_none] at h ⊢
    obtain ⟨hst, h⟩ := h
    refine ⟨fun n hn => by show h2.st n = none; rw [hx.st]; exact hst n hn, ?_⟩
    split at h
    · rename_i o ho
      have hi : i < ops.size := (Array.getElem?_eq_some_iff.1 ho).1
      obtain ⟨⟨v, s'⟩, hrun⟩ := Option.isSome_iff_exists.1 h
      obtain ⟨d, D, hext⟩ := mono_opVal KN.hm ops _ o _ _ _ hrun
      have hst1 : ∀ n ∈ m :: r, (heapAt s.heap ods ((masksOf ops).getD i 0).testBit).st n = none := fun n hn => by unfold heapAt; rw [Heap.st_sets]; exact hst n hn
      have hst2 : ∀ n ∈ m :: r, (heapAt h2 ods ((masksOf ops).getD i 0).testBit).st n = none := fun n hn => by unfold heapAt; rw [Heap.st_sets, hx.st]; exact hst n hn
      have he : Heap.Ext (heapAt s.heap ods ((masksOf ops).getD i 0).testBit) (heapAt h2 ods ((masksOf ops).getD i 0).testBit) := hx.sets _
      have hF := KN.sub_free hx hf hi ((heapAt s.heap ods ((masksOf ops).getD i 0).testBit).hides (m :: r))
      have hF' : FreeIn ((heapAt h2 ods ((masksOf ops).getD i 0).testBit).hides (m :: r)) (subST s ops.size i ((heapAt s.heap ods ((masksOf ops).getD i 0).testBit).hides (m :: r))).base (subST s ops.size i ((heapAt s.heap ods ((masksOf ops).getD i 0).testBit).hides (m :: r))).str 0 := by
        intro c hc
        rw [Heap.find_hides hst2]
        split
        · rfl
        · exact hF c hc
      have := hext _ [] (he.hides hst1) hF'
      have hrun' : opVal P fn call ops (fAt fr0 ods (fun k => decide (k < i))).env o (subST { s with heap := h2, jr := j2 } ops.size i ((heapAt h2 ods ((masksOf ops).getD i 0).testBit).hides (m :: r))) = some (v, { s' with heap := ((heapAt h2 ods ((masksOf ops).getD i 0).testBit).hides (m :: r)).sets d, jr := d ++ [] }) := this
      have hfin : (opVal P fn call ops (fAt fr0 ods (fun k => decide (k < i))).env o (subST { s with heap := h2, jr := j2 } ops.size i ((heapAt h2 ods ((masksOf ops).getD i 0).testBit).hides (m :: r)))).isSome = true := by rw [hrun']; rfl
      simpa [ho] using hfin
    · cases h
end

theorem drawGo_ext {P : Program} {fn : FnTab} {call : CallT} {ops : Array Oper} (hm : CallMono call) (hb : edgesBack 0 ops.toList = true) {s : ST} {fr0 : Fr} {h2 : Heap} {j2 : List (Nat × Option AObj)}
    (hx : Heap.Ext s.heap h2) (hf : FreeIn h2 s.base s.str s.ctr) : ∀ (os : List Oper) (ods : List OD) (fr : Fr) (ods' : List OD) (fr' : Fr), ops.toList.drop ods.length = os → Ran P fn call ops s ops.size fr0 ods fr →
    drawGo P fn call ops (masksOf ops) s ops.size os ods fr = some (.done ods' fr') → drawGo P fn call ops (masksOf ops) { s with heap := h2, jr := j2 } ops.size os ods fr = some (.done ods' fr')
  | [], ods, fr, ods', fr', hd, hR, h => h
  | o :: os, ods, fr, ods', fr', hd, hR, h => by
    have hi : ops[ods.length]? = some o := by
      have := congrArg (·[0]?) hd
      simpa using this
    have hlt : ods.length < ops.size := (Array.getElem?_eq_some_iff.1 hi).1
    have hd' : ops.toList.drop (ods.length + 1) = os := by
      have := congrArg List.tail hd
      simpa using this
    have KN : Knew P fn call ops s fr0 ods := ⟨hm, hb, hR.at hb⟩
    simp only [drawGo] at h ⊢
    split at h
    · rename_i v s' hop
      split at h
      · rename_i frn hp
        have hR' := Ran.snoc ods fr frn o v s' hR hi hop hp
        obtain ⟨d, D, hext⟩ := mono_opVal hm ops _ o _ _ _ hop
        have he : Heap.Ext (heapAt s.heap ods ((masksOf ops).getD ods.length 0).testBit) (heapAt h2 ods ((masksOf ops).getD ods.length 0).testBit) := hx.sets _
        have hfr := KN.sub_free hx hf hlt (heapAt s.heap ods ((masksOf ops).getD ods.length 0).testBit)
        have hrun := hext _ [] he hfr
        have hjr : s'.jr = d := by rw [D.jr]; simp [subST]
        have hrun' : opVal P fn call ops fr.env o (subST { s with heap := h2, jr := j2 } ops.size ods.length (heapAt h2 ods ((masksOf ops).getD ods.length 0).testBit)) = some (.val v, { s' with heap := (heapAt h2 ods ((masksOf ops).getD ods.length 0).testBit).sets d, jr := d ++ [] }) := hrun
        rw [hrun']
        simp only [hp, List.append_nil]
        rw [← hjr]
        exact drawGo_ext hm hb hx hf os _ frn ods' fr' (by simpa using hd') hR' h
      · cases h
    · cases h
    · cases h

theorem mono_evalDraw {P : Program} {fn : FnTab} {call : CallT} (hm : CallMono call) (ops : Array Oper) (fr : Fr) : Mono (evalDraw P fn call ops fr) := by
  intro s r s' h
  obtain ⟨ods, fr', hb, hd, hap, hbl, rfl, rfl, hlen, hR, KN⟩ := evalDraw_inv hm h
  refine ⟨dsum allB 0 ods, ⟨rfl, rfl, rfl, rfl, Nat.le_add_right _ _, ?_⟩, ?_⟩
  · intro y hy
    obtain ⟨j, x, a, b, c⟩ := (gsum_mem OD.d 0 ods).1 hy
    rcases KN.names j x a y c with h | ⟨l, c', z, q1, q2, q3, q4, q5⟩
    · exact .inl h
    · right
      have hle := le_maxK (List.mem_of_getElem? q2)
      have h1 : ops.size * (c' + 1) ≤ ops.size * maxK ods := Nat.mul_le_mul (Nat.le_refl _) (by omega)
      rw [Nat.mul_add] at h1
      exact ⟨s.ctr + l + ops.size * c', by omega, by simp only [drawEnd]; omega, q4⟩
  · intro h2 j2 hx hf
    have := drawGo_ext hm hb (fr0 := fr) (j2 := j2) hx hf ops.toList [] fr ods fr' (by simp) .nil hd
    unfold evalDraw
    rw [if_pos hb, this]
    have hbl' : (List.range ods.length).all (blindOk P fn call ops { s with heap := h2, jr := j2 } fr ods) = true := by
      rw [List.all_eq_true] at hbl ⊢
      exact fun i hi => KN.blind_same hx hf (hbl i hi)
    simp only
    rw [if_pos ⟨hap, hbl'⟩]
    rfl
end Go.Proofs.YtgpfgcbolinncaaGreat.Abs
set_option linter.unusedVariables false
set_option linter.unusedSimpArgs false
namespace Go.Proofs.YtgpfgcbolinncaaGreat.Abs
open Go Go.RowKit

def stillB (P : Program) (b : Builtin) (ts : List TypeId) (args : List Value) : Option Value := match b with
  | .len => (oneArg ts args).bind fun p => lenA P p.1 p.2
  | _ => none
def stillA (P : Program) (ρ : Operand → Value) (o : Oper) : AM Value := match o.op with
  | .move x | .assign x => AM.ret (ρ x)
  | .pick c a b => AM.ofOption (pickA (ρ c) (ρ a) (ρ b))
  | .load t a => loadA P t (ρ a)
  | .binOp op t x y _ => AM.ofOption (binA P op t x y (ρ x) (ρ y))
  | .unOp op _ x => AM.ofOption (unA P op (ρ x))
  | .convert s d x => if memConv P s d = true then AM.fail else AM.ofOption (convA P s d (ρ x))
  | .build t ps => AM.ofOption (buildA P t (partsV ρ ps))
  | .fieldAddr t x f => AM.ofOption (fieldAddrA P t (ρ x) f)
  | .field t x f => AM.ofOption (fieldA P t (ρ x) f)
  | .indexAddr t x i => AM.ofOption (indexAddrA P t (ρ x) (ρ i))
  | .index t x i => AM.ofOption (indexA P t (ρ x) (ρ i))
  | .typeAssert x xt a ok => AM.ofOption (assertA P (ρ x) xt a ok)
  | .extract t i => AM.ofOption (extractA (ρ t) i)
  | .makeInterface t x => AM.ofOption (makeIfaceA P t (ρ x))
  | .slice t x lo hi mx => AM.ofOption (sliceA P t (ρ x) (lo.map ρ) (hi.map ρ) (mx.map ρ))
  | .call c => match c.callee with
    | .builtin b => AM.ofOption (stillB P b c.argTypes.toList (argsV ρ c.args))
    | _ => AM.fail
  | _ => AM.fail
def stillKind (o : Oper) : Bool := match o.op with
  | .move _ | .assign _ | .pick .. | .load .. | .binOp .. | .unOp .. | .convert .. | .build .. | .fieldAddr .. | .field .. | .indexAddr .. | .index .. | .typeAssert .. | .extract .. | .makeInterface .. | .slice .. => true
  | .call c => match c.callee with
    | .builtin .len => true
    | _ => false
  | _ => false
theorem mono_stillA (P : Program) (ρ : Operand → Value) (o : Oper) : Mono (stillA P ρ o) := by
  unfold stillA
  split <;> first | exact Mono.ret _ | exact Mono.ofOption _ | exact mono_load _ _ _ | exact Mono.fail | skip
  · exact Mono.ite Mono.fail (Mono.ofOption _)
  · split
    · exact Mono.ofOption _
    · exact Mono.fail
theorem stillO {B : Nat} {w0 : World} {π : PMap} {w : World} {s s' : ST} {v : Value} {o : Option Value} {m : Sem Value} {P : Program} (h : AM.ofOption o s = some (v, s')) (R : Rel B w0 π s.heap w)
    (k : ∀ v, o = some v → ∃ v', m.run P w = .ok v' w ∧ VRel π v v') : s' = s ∧ ∃ v', ((do pure (.value (← m)) : Sem Next).run P w) = .ok (.value v') w ∧ VRel π v v' := by
  obtain ⟨hv, rfl⟩ := ofOption_some h
  obtain ⟨v', e, r⟩ := k v hv
  exact ⟨rfl, v', by simp only [Sem.run_bind, e, Result.andThen_ok, Sem.run_pure], r⟩
theorem stillA_sim {P : Program} {B : Nat} {w0 : World} {π : PMap} {w : World} {s s' : ST} {v : Value} {ρ ρ' : Operand → Value} (o : Oper)
    (h : stillA P ρ o s = some (v, s')) (R : Rel B w0 π s.heap w) (hρ : ∀ x, VRel π (ρ x) (ρ' x)) : s' = s ∧ ∃ v', (execOp ρ' o).run P w = .ok (.value v') w ∧ VRel π v v' := by
  obtain ⟨dst, op, type, pos, after, guard⟩ := o
  cases op with
  | move x =>
    obtain ⟨rfl, rfl⟩ := ret_some h
    exact ⟨rfl, _, rfl, hρ _⟩
  | assign x =>
    obtain ⟨rfl, rfl⟩ := ret_some h
    exact ⟨rfl, _, rfl, hρ _⟩
  | pick c a b =>
    have q := stillO (P := P) (m := do pure (if ← asBool (ρ' c) then ρ' a else ρ' b)) h R (by
      intro v hv
      unfold pickA at hv
      split at hv
      · rename_i t ht
        simp only [Option.some.injEq] at hv
        subst hv
        have hc := hρ c
        rw [ht] at hc
        generalize hcc : ρ' c = cc at hc
        cases hc
        cases t
        · exact ⟨ρ' b, by simp [asBool, hcc], hρ b⟩
        · exact ⟨ρ' a, by simp [asBool, hcc], hρ a⟩
      · cases hv)
    have e : (execOp ρ' { dst, op := .pick c a b, type, pos, after, guard }).run P w = ((do pure (.value (← (do pure (if ← asBool (ρ' c) then ρ' a else ρ' b) : Sem Value))) : Sem Next)).run P w := by
      simp only [execOp, Sem.run_bind]
      cases (asBool (ρ' c)).run P w <;> rfl
    rw [e]; exact q
  | load t a =>
    obtain ⟨v', e, r, rfl⟩ := loadA_sim h R (hρ a)
    refine ⟨rfl, v', ?_, r⟩
    simp only [execOp, Sem.run_bind, e, Result.andThen_ok, Sem.run_pure]
  | binOp op t x y yt => exact stillO (m := do eqGuard op t x y (ρ' x) (ρ' y); binOp op t (ρ' x) (ρ' y)) h R fun v hv => binA_sim hv (hρ x) (hρ y) w
  | unOp op t x => exact stillO (m := Op.unary op (ρ' x)) h R fun v hv => unA_sim hv (hρ x) w
  | convert sr d x =>
    simp only [stillA] at h
    split at h
    · exact (fail_some h).elim
    · exact stillO (m := convert sr d (ρ' x)) h R fun v hv => convA_sim hv (hρ x) w
  | build t ps =>
    simp only [stillA] at h
    simp only [execOp]
    exact stillO h R fun v hv => buildA_sim' hv (partsV_rel hρ ps) w
  | makeInterface t x => exact stillO (m := Instr.makeInterface t (ρ' x)) h R fun v hv => makeIfaceA_sim hv (hρ x) w
  | slice t x lo hi mx => exact stillO (m := Instr.sliceAt t (ρ' x) (lo.map ρ') (hi.map ρ') (mx.map ρ')) h R fun v hv => sliceA_sim hv (hρ x) (orel_map hρ lo) (orel_map hρ hi) (orel_map hρ mx) w
  | fieldAddr t x f => exact stillO (m := Instr.fieldAt t (ρ' x) f) h R fun v hv => fieldAddrA_sim hv (hρ x) w
  | field t x f => exact stillO (m := Instr.field t (ρ' x) f) h R fun v hv => fieldA_sim hv (hρ x) w
  | indexAddr t x i => exact stillO (m := Instr.indexAt t (ρ' x) (ρ' i)) h R fun v hv => indexAddrA_sim hv (hρ x) (hρ i) w
  | index t x i => exact stillO (m := Instr.index t (ρ' x) (ρ' i)) h R fun v hv => indexA_sim hv (hρ x) (hρ i) w
  | typeAssert x xt a ok => exact stillO (m := Instr.typeAssert (ρ' x) xt a ok) h R fun v hv => assertA_sim hv (hρ x) w
  | extract t i => exact stillO (m := Instr.extract (ρ' t) i) h R fun v hv => extractA_sim hv (hρ t) w
  | call c =>
    obtain ⟨callee, args, ts⟩ := c
    cases callee with
    | builtin b =>
      simp only [stillA] at h
      simp only [execOp, resolve, Sem.run_bind, Sem.run_pure, Result.andThen_ok, invoke]
      cases b with
      | len =>
        simp only [builtin]
        refine stillO h R fun v hv => ?_
        simp only [stillB] at hv
        cases hp : oneArg ts.toList (argsV ρ args) with
        | none => rw [hp] at hv; cases hv
        | some p =>
          rw [hp] at hv
          obtain ⟨t, x⟩ := p
          obtain ⟨hts, hx⟩ := oneArg_some hp
          have ha := argsV_lrel hρ args
          rw [hx] at ha
          obtain ⟨y, hy, hxy⟩ := ha.one
          have hargs : args.map ρ' = #[y] := by apply Array.ext'; simpa using hy
          have htt : ts[0]? = some t := by have := congrArg (·[0]?) hts; simpa using this
          have hv : lenA P t x = some v := hv
          rw [hargs]
          refine ⟨v, lenA_sim hv hxy htt w, ?_⟩
          unfold lenA at hv
          split at hv <;> first | (cases hv; done) | (simp only [Option.some.injEq] at hv; subst hv; exact .int _ _)
      | _ => exact (fail_some (show (AM.fail : AM Value) s = some (v, s') from h)).elim
    | value f => exact (fail_some (show (AM.fail : AM Value) s = some (v, s') from h)).elim
    | invoke _ _ => exact (fail_some (show (AM.fail : AM Value) s = some (v, s') from h)).elim
  | _ => exact (fail_some (show (AM.fail : AM Value) s = some (v, s') from h)).elim

def evalStill (P : Program) (ops : Array Oper) : List Oper → Fr → AM Fr
  | [], fr => AM.ret fr
  | o :: r, fr => AM.andThen (AM.ofOption (guardOk ops fr.env o)) fun g =>
    if g = true then AM.andThen (stillA P (evalV fr.env) o) fun v => AM.andThen (AM.ofOption (putF fr o.dst v)) fun f => evalStill P ops r f
    else AM.andThen (AM.ofOption (putF fr o.dst undef)) fun f => evalStill P ops r f
theorem mono_evalStill (P : Program) (ops : Array Oper) : ∀ (os : List Oper) (fr : Fr), Mono (evalStill P ops os fr)
  | [], fr => Mono.ret _
  | o :: r, fr => Mono.andThen (Mono.ofOption _) fun g => Mono.ite (Mono.andThen (mono_stillA P _ o) fun v => Mono.andThen (Mono.ofOption _) fun f => mono_evalStill P ops r f)
    (Mono.andThen (Mono.ofOption _) fun f => mono_evalStill P ops r f)
theorem evalStill_sound {P : Program} {B : Nat} {w0 : World} {ops : Array Oper} {Q : Act → Prop} : ∀ (os : List Oper) (fr : Fr) (s s' : ST) (fr' : Fr) (π : PMap) (w : World) (a : Act), evalStill P ops os fr s = some (fr', s') → Rel B w0 π s.heap w → FRel π fr a →
    (∀ a', s' = s → FRel π fr' a' → Q a') → wpStill P ops w Q os a
  | [], fr, s, s', fr', π, w, a, h, R, F, kk => by
    obtain ⟨rfl, rfl⟩ := ret_some (show AM.ret fr s = some (fr', s') from h)
    exact kk a rfl F
  | o :: r, fr, s, s', fr', π, w, a, h, R, F, kk => by
    have hh := AM.andThen_some (show AM.andThen _ _ s = some (fr', s') from h); clear h; obtain ⟨g, s1, h1, h⟩ := hh
    obtain ⟨hg, rfl⟩ := ofOption_some h1
    have hw := wanted_of F hg
    simp only [wpStill]
    rw [hw]
    by_cases hgt : g = true
    · rw [if_pos hgt] at h ⊢
      have hh := AM.andThen_some h; clear h; obtain ⟨v, s2, h2, h⟩ := hh
      obtain ⟨rfl, v', hrun, hv⟩ := stillA_sim o h2 R (evalV_rel F)
      have hh := AM.andThen_some h; clear h; obtain ⟨f, s3, h3, h⟩ := hh
      obtain ⟨hf, rfl⟩ := ofOption_some h3
      unfold Oper.still
      rw [hrun, Oper.stillUpon_value]
      exact evalStill_sound r f _ s' fr' π w _ h R (F.put hf hv) kk
    · rw [if_neg hgt] at h ⊢
      have hh := AM.andThen_some h; clear h; obtain ⟨f, s3, h3, h⟩ := hh
      obtain ⟨hf, rfl⟩ := ofOption_some h3
      exact evalStill_sound r f _ s' fr' π w _ h R (F.put hf (undef_rel _)) kk

def tailN (ops : Array Oper) : Option Nat := (List.range ops.size).find? fun n => Region.lexTailB .any ops n && (ops.toList.take n).all stillKind
def evalTail (P : Program) (fn : FnTab) (call : CallT) (ops : Array Oper) (n : Nat) (fr : Fr) : AM SR :=
  AM.andThen (evalStill P ops (ops.toList.take n) fr) fun f => evalOps P fn call ops (ops.toList.drop n) f
def evalOpen (P : Program) (fn : FnTab) (call : CallT) (ops : Array Oper) (fr : Fr) : AM SR := match tailN ops with
  | some n => evalTail P fn call ops n fr
  | none => evalDraw P fn call ops fr
theorem evalOpen_sound {P : Program} {fn : FnTab} (ok : FnOk P fn) (hmix : P.follows .mixedOrders = true) {B : Nat} {w0 : World} {call : CallT} (hc : CallOk P B w0 call) (hm : CallMono call) {id : Nat} {ops : Array Oper} {Q : Exit → Act → World → Prop}
    {fr : Fr} {s s' : ST} {r : SR} (h : evalOpen P fn call ops fr s = some (r, s')) (f : s.Free) {π : PMap} {w : World} {a : Act} (R : Rel B w0 π s.heap w) (F : FRel π fr a)
    (kk : ∀ π' w' a' e, π.le π' → Rel B w0 π' s'.heap w' → SRel π' r e a' → Q e a' w') : (Code.region id ops true).wp P Q a w := by
  unfold evalOpen at h
  cases hn : tailN ops with
  | some n =>
    rw [hn] at h
    have h : evalTail P fn call ops n fr s = some (r, s') := h
    have hfind := List.find?_some hn
    simp only [Bool.and_eq_true] at hfind
    obtain ⟨fr1, s1, h1, h2⟩ := AM.andThen_some h
    have hlt : n < ops.size := by
      have := List.mem_of_find?_eq_some hn
      exact List.mem_range.1 this
    have q := wp_region_still_tail (P := P) (id := id) (Q := Q) (a := a) (w := w) (l := ops.toList) n hmix (by simpa using hfind.1) (evalStill_sound (ops := ops.toList.toArray) (Q := fun a' => wpList P ops.toList.toArray Q (ops.toList.drop n) a' { w with drawn := w.drawn + 1 })
      (ops.toList.take n) fr s s1 fr1 π { w with drawn := w.drawn + 1 } a (by simpa using h1) (R.same rfl rfl rfl rfl) F (by
        rintro a' rfl F'
        have := evalOps_sound ok hc hm (Q := Q) (ops.toList.drop n) n fr1 _ s' r π { w with drawn := w.drawn + 1 } a' rfl h2 f (R.same rfl rfl rfl rfl) F' kk
        rw [wpOps_eq_wpList (ops.toList.drop n) n (fun j => by simp [List.getElem?_drop])] at this
        simpa using this))
    simpa using q
  | none =>
    rw [hn] at h
    exact wp_region_any hmix (evalDraw_sound ok hc hm (show evalDraw P fn call ops fr s = some (r, s') from h) f (R.same rfl rfl rfl rfl) F kk)
theorem mono_evalOpen' {P : Program} {fn : FnTab} {call : CallT} (ops : Array Oper) (fr : Fr) (h1 : ∀ os fr, Mono (evalOps P fn call ops os fr)) (h2 : Mono (evalDraw P fn call ops fr)) : Mono (evalOpen P fn call ops fr) := by
  unfold evalOpen
  cases tailN ops with
  | some n => exact Mono.andThen (mono_evalStill P ops _ fr) fun f => h1 _ f
  | none => exact h2
end Go.Proofs.YtgpfgcbolinncaaGreat.Abs
