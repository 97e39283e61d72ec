/- The quick run: a region whose order is open. The quick run: a region whose order is open, from end to end. -/
import Derived.Test.YtgpfgcbolinncaaGreatK4
set_option linter.unusedVariables false
set_option linter.unusedSimpArgs false
namespace Go.Proofs.YtgpfgcbolinncaaGreat.Abs
open Go Go.RowKit
noncomputable section

/-! ### sums of journals -/
theorem gsum_eff {p q : Nat → Bool} : ∀ (i : Nat) (ods : List OD), (∀ j x, ods[j]? = some x → x.d ≠ [] → p (i + j) = q (i + j)) → gsum OD.d p i ods = gsum OD.d q i ods
  | i, [], h => rfl
  | i, x :: r, h => by
    simp only [gsum]
    have ih := gsum_eff (p := p) (q := q) (i + 1) r (fun j y hy hd => by rw [show i + 1 + j = i + (j + 1) by omega]; exact h (j + 1) y (by simpa using hy) hd)
    rw [ih]
    by_cases hx : x.d = []
    · rw [hx]; simp
    · have := h 0 x rfl hx
      rw [Nat.add_zero] at this
      rw [this]
theorem gsum_top {p : Nat → Bool} {m : Nat} {x : OD} : ∀ (i : Nat) (ods : List OD), ods[m]? = some x → (∀ j, p j = true → j < i + m) → gsum OD.d (fun j => p j || decide (j = i + m)) i ods = x.d ++ gsum OD.d p i ods
  | i, [], h, _ => by simp at h
  | i, y :: r, h, hp => by
    have rest : m = 0 → gsum OD.d (fun j => p j || decide (j = i + m)) (i + 1) r = [] ∧ gsum OD.d p (i + 1) r = [] := by
      intro hm
      subst hm
      refine ⟨gsum_none _ _ _ fun j _ => ?_, gsum_none _ _ _ fun j _ => ?_⟩
      · cases e : p (i + 1 + j) with
        | true => have := hp _ e; omega
        | false => simp; omega
      · cases e : p (i + 1 + j) with
        | true => have := hp _ e; omega
        | false => rfl
    cases m with
    | zero =>
      simp at h
      subst h
      simp only [gsum]
      rw [(rest rfl).1, (rest rfl).2]
      have e : p i = false := by
        cases e : p i with
        | true => have := hp _ e; omega
        | false => rfl
      simp [e]
    | succ m =>
      simp only [gsum]
      have ih := gsum_top (p := p) (i + 1) r (by simpa using h) (fun j hj => by have := hp j hj; omega)
      rw [show i + 1 + m = i + (m + 1) by omega] at ih
      rw [ih]
      simp
def KH (h : KHeap) (H : Heap) : Prop := ∀ n o, h.at n = some o → H.dyn.get n = some (some o)
theorem KH.set {h h' : KHeap} {H : Heap} {n : Nat} {o : Option AObj} (k : KH h H) (e : ∀ m, h'.at m = if m = n then o else h.at m) : KH h' (H.set n o) := by
  intro m p hm
  rw [e] at hm
  rw [Heap.dyn_set]
  split at hm
  · rename_i c; rw [if_pos c, hm]
  · rename_i c; rw [if_neg c]; exact k m p hm

/-! ### journals done again -/
def appJ (j : J) (h : KHeap) (k : KHeap → Bool) : Bool := J.rec (motive := fun _ => KHeap → (KHeap → Bool) → Bool) (fun h k => k h) (fun n o _ ih h k => ih h fun h => (hsetW n).val h o k) (fun _ _ iha ihb h k => ihb h fun h => iha h k) j h k
theorem appJ_true : ∀ {j : J} {h : KHeap} {k : KHeap → Bool} {H : Heap}, appJ j h k = true → KH h H → ∃ h', KH h' (H.sets j.flat) ∧ k h' = true := by
  intro j
  induction j with
  | nil => intro h k H e kh; exact ⟨h, kh, e⟩
  | cons n o r ih =>
    intro h k H e kh
    obtain ⟨h1, k1, e1⟩ := ih (k := fun h => (hsetW n).val h o k) e kh
    obtain ⟨h2, hh, e2⟩ := hsetW_some e1
    exact ⟨h2, k1.set hh, e2⟩
  | app a b iha ihb =>
    intro h k H e kh
    obtain ⟨h1, k1, e1⟩ := ihb (k := fun h => appJ a h k) e kh
    obtain ⟨h2, k2, e2⟩ := iha e1 k1
    exact ⟨h2, by simp only [J.flat, Heap.sets_append]; exact k2, e2⟩

structure KRec where
  e : Env
  hs : KHeap
  h : KHeap
  j : J
  k : Nat
  f : List Nat
def bitB (E i : Nat) : Bool := Nat.beq (Nat.land (Nat.shiftRight E i) 1) 1
theorem bitB_eq (E i : Nat) : bitB E i = E.testBit i := by
  unfold bitB Nat.testBit
  show Nat.beq ((E >>> i) &&& 1) 1 = _
  rw [Nat.and_comm, Nat.one_and_eq_mod_two]
  rcases Nat.mod_two_eq_zero_or_one (E >>> i) with h | h <;> rw [h] <;> rfl
def repK (E : Nat) (l : List KRec) (h0 : KHeap) (k : KHeap → Nat → Bool) : Bool := List.rec (motive := fun _ => (KHeap → Nat → Bool) → Bool) (fun k => k h0 0) (fun r _ ih k => ih fun h i => force (Nat.add i 1) fun i' => b2 (bitB E i) (appJ r.j h fun h => k h i') (k h i')) l k

/-- what stands for operation j -/
structure RecOk (s : ST) (ops : Array Oper) (fr0 : Fr) (ods : List OD) (j : Nat) (x : OD) (r : KRec) : Prop where
  env : EnvRel r.e (fAt fr0 ods (fun k => decide (k < j))).env
  hs : KH r.hs (heapAt s.heap ods ((masksOf ops).getD j 0).testBit)
  h : KH r.h ((heapAt s.heap ods ((masksOf ops).getD j 0).testBit).sets x.d)
  jf : r.j.flat = x.d
  own : ∀ y ∈ x.d, y.1 ∈ r.f ∨ ∃ c, y.1 = s.nm (s.ctr + j + ops.size * c)
inductive Recs (s : ST) (ops : Array Oper) (fr0 : Fr) : List OD → List KRec → Prop
  | nil : Recs s ops fr0 [] []
  | snoc (ods : List OD) (recs : List KRec) (x : OD) (r : KRec) (h : Recs s ops fr0 ods recs) (k : RecOk s ops fr0 (ods ++ [x]) ods.length x r) : Recs s ops fr0 (ods ++ [x]) (r :: recs)
theorem Recs.len {s : ST} {ops : Array Oper} {fr0 : Fr} {ods : List OD} {recs : List KRec} (h : Recs s ops fr0 ods recs) : recs.length = ods.length := by
  induction h with
  | nil => rfl
  | snoc ods recs x r h k ih => simp [ih]
theorem RecOk.app {s : ST} {ops : Array Oper} (hb : edgesBack 0 ops.toList = true) {fr0 : Fr} {ods : List OD} {j : Nat} {x : OD} {r : KRec} (k : RecOk s ops fr0 ods j x r) (hj : j < ods.length) (t : List OD) : RecOk s ops fr0 (ods ++ t) j x r := by
  refine ⟨?_, ?_, ?_, k.jf, k.own⟩
  · rw [fAt_take _ _ _ _ (by omega)]; exact k.env
  · rw [heapAt_take hb _ _ _ _ (by omega)]; exact k.hs
  · rw [heapAt_take hb _ _ _ _ (by omega)]; exact k.h
theorem Recs.at {s : ST} {ops : Array Oper} (hb : edgesBack 0 ops.toList = true) {fr0 : Fr} {ods : List OD} {recs : List KRec} (h : Recs s ops fr0 ods recs) :
    ∀ (i : Nat) (r : KRec), recs[i]? = some r → ∃ x, ods[ods.length - 1 - i]? = some x ∧ i < ods.length ∧ RecOk s ops fr0 ods (ods.length - 1 - i) x r := by
  induction h with
  | nil => intro i r h; simp at h
  | snoc ods recs x r h k ih =>
    intro i r' hi
    cases i with
    | zero =>
      simp at hi
      subst hi
      exact ⟨x, by simp, by simp, by simpa using k⟩
    | succ i =>
      obtain ⟨y, h1, h2, h3⟩ := ih i r' (by simpa using hi)
      have e : (ods ++ [x]).length - 1 - (i + 1) = ods.length - 1 - i := by simp; omega
      rw [e]
      exact ⟨y, by rw [List.getElem?_append_left (by omega)]; exact h1, by simp; omega, h3.app hb (by omega) _⟩
theorem repK_true {s : ST} {ops : Array Oper} {fr0 : Fr} {E : Nat} {h0 : KHeap} (hh : KH h0 s.heap) {ods : List OD} {recs : List KRec} (h : Recs s ops fr0 ods recs) : ∀ {k : KHeap → Nat → Bool}, repK E recs h0 k = true → ∃ h', KH h' (heapAt s.heap ods E.testBit) ∧ k h' ods.length = true := by
  induction h with
  | nil => intro k e; exact ⟨h0, hh, e⟩
  | snoc ods recs x r h kk ih =>
    intro k e
    obtain ⟨h1, k1, e1⟩ := ih (k := fun h i => force (Nat.add i 1) fun i' => b2 (bitB E i) (appJ r.j h fun h => k h i') (k h i')) e
    have e1 : b2 (bitB E ods.length) (appJ r.j h1 fun h => k h (ods.length + 1)) (k h1 (ods.length + 1)) = true := e1
    have hs : heapAt s.heap (ods ++ [x]) E.testBit = (heapAt s.heap ods E.testBit).sets (if E.testBit ods.length = true then x.d else []) := by
      unfold heapAt dsum
      rw [gsum_append, Heap.sets_append]
      simp [gsum]
    rw [hs, List.length_append, List.length_singleton]
    rw [bitB_eq] at e1
    cases hb : E.testBit ods.length with
    | true =>
      rw [hb] at e1
      obtain ⟨h2, k2, e2⟩ := appJ_true e1 k1
      rw [kk.jf] at k2
      exact ⟨h2, k2, e2⟩
    | false =>
      rw [hb] at e1
      exact ⟨h1, k1, e1⟩

/-- the heap that some operations leave -/
def heapFor (masks : List Nat) (E eff : Nat) (recs : List KRec) (i : Nat) (h0 : KHeap) (k : KHeap → Bool) : Bool :=
  b2 (Nat.beq E 0) (k h0) (force (Nat.log2 E) fun m => (nthW m).val masks fun mm => b2 (Nat.beq (Nat.land (Nat.lor mm (Nat.pow 2 m)) eff) E) (force (Nat.sub (Nat.sub i 1) m) fun q => (nthW q).val recs fun r => k r.h) (repK E recs h0 fun h _ => k h))
theorem heapFor_true {s : ST} {ops : Array Oper} (hb : edgesBack 0 ops.toList = true) {fr0 : Fr} {ods : List OD} {recs : List KRec} (h : Recs s ops fr0 ods recs) {E eff : Nat} {h0 : KHeap} {k : KHeap → Bool} (hh : KH h0 s.heap) (p : Nat → Bool)
    (he : ∀ j x, ods[j]? = some x → x.d ≠ [] → eff.testBit j = true) (hE : ∀ j, j < ods.length → E.testBit j = (p j && eff.testBit j)) (hE2 : ∀ j, E.testBit j = true → j < ods.length)
    (e : heapFor (masksOf ops) E eff recs ods.length h0 k = true) : ∃ h', KH h' (heapAt s.heap ods p) ∧ k h' = true := by
  unfold heapFor at e
  have hp : heapAt s.heap ods p = heapAt s.heap ods E.testBit := by
    unfold heapAt dsum
    rw [gsum_eff 0 ods]
    intro j x hx hd
    have hj := (List.getElem?_eq_some_iff.1 hx).1
    rw [Nat.zero_add, hE j hj, he j x hx hd, Bool.and_true]
  rw [hp]
  cases h0E : Nat.beq E 0 with
  | true =>
    rw [h0E] at e
    have := Nat.eq_of_beq_eq_true h0E
    subst this
    refine ⟨h0, ?_, e⟩
    have : heapAt s.heap ods (Nat.testBit 0) = s.heap := by
      unfold heapAt dsum
      rw [gsum_none _ _ _ (fun j _ => by simp)]
      rfl
    rw [this]; exact hh
  | false =>
    rw [h0E, b2_false, force_eq] at e
    have hne := Nat.ne_of_beq_eq_false h0E
    have hm := Nat.testBit_log2 hne
    obtain ⟨mm, hmm, e⟩ := nthW_true e
    cases hv : Nat.beq (Nat.land (Nat.lor mm (Nat.pow 2 (Nat.log2 E))) eff) E with
    | true =>
      rw [hv, b2_true, force_eq] at e
      obtain ⟨r, hr, e⟩ := nthW_true e
      have hml := hE2 _ hm
      obtain ⟨x, hx, _, K⟩ := h.at hb _ r hr
      have hi : ods.length - 1 - (Nat.sub (Nat.sub ods.length 1) (Nat.log2 E)) = Nat.log2 E := by show ods.length - 1 - (ods.length - 1 - Nat.log2 E) = _; omega
      rw [hi] at hx K
      refine ⟨r.h, ?_, e⟩
      have hmask : (masksOf ops).getD (Nat.log2 E) 0 = mm := by rw [List.getD_eq_getElem?_getD, hmm]; rfl
      have hEq : ((mm ||| 2 ^ (Nat.log2 E)) &&& eff) = E := Nat.eq_of_beq_eq_true hv
      have : heapAt s.heap ods E.testBit = (heapAt s.heap ods ((masksOf ops).getD (Nat.log2 E) 0).testBit).sets x.d := by
        unfold heapAt dsum
        rw [← Heap.sets_append]
        congr 1
        have ht := gsum_top (p := ((masksOf ops).getD (Nat.log2 E) 0).testBit) 0 ods hx (fun j hj => by rw [Nat.zero_add]; exact mask_lt hb _ j hj)
        rw [← ht]
        refine gsum_eff 0 ods fun j y hy hd => ?_
        rw [Nat.zero_add, Nat.zero_add, hmask]
        rw [← hEq, Nat.testBit_and, Nat.testBit_or, Nat.testBit_two_pow, he j y hy hd, Bool.and_true]
        rw [hEq]
        congr 1
        by_cases hc : Nat.log2 E = j
        · simp [hc]
        · simp [hc, Ne.symm hc]
      rw [this]; exact K.h
    | false =>
      rw [hv, b2_false] at e
      obtain ⟨h', a, b⟩ := repK_true hh h e
      exact ⟨h', a, b⟩
end
end Go.Proofs.YtgpfgcbolinncaaGreat.Abs
set_option linter.unusedVariables false
set_option linter.unusedSimpArgs false
namespace Go.Proofs.YtgpfgcbolinncaaGreat.Abs
open Go Go.RowKit
noncomputable section

structure KAcc where
  recs : List KRec
  eff : Nat
  m : Nat
  j : J
  f : List Nat
def notOwn (b t : Nat) (f acc : List Nat) (k : List Nat → Bool) : Bool := List.rec (motive := fun _ => (List Nat → Bool) → Bool) (fun k => k acc) (fun n _ ih k => ih fun l => b2 (ownB b t n) (k l) (k (n :: l))) f k
theorem notOwn_true {b t : Nat} {acc : List Nat} : ∀ {f : List Nat} {k : List Nat → Bool}, notOwn b t f acc k = true → ∃ l, (∀ n, (n ∈ f ∨ n ∈ acc) → n ∈ l ∨ ∃ c, n = b + t * c) ∧ k l = true
  | [], k, h => ⟨acc, fun n hn => by rcases hn with h | h; · cases h
                                     · exact .inl h, h⟩
  | x :: f, k, h => by
    obtain ⟨l, h1, h2⟩ := notOwn_true (f := f) (k := fun l => b2 (ownB b t x) (k l) (k (x :: l))) h
    cases ho : ownB b t x with
    | true =>
      rw [ho] at h2
      refine ⟨l, fun n hn => ?_, h2⟩
      rcases hn with hn | hn
      · rcases List.mem_cons.1 hn with rfl | hn
        · exact .inr (ownB_own ho)
        · exact h1 n (.inl hn)
      · exact h1 n (.inr hn)
    | false =>
      rw [ho] at h2
      refine ⟨x :: l, fun n hn => ?_, h2⟩
      rcases hn with hn | hn
      · rcases List.mem_cons.1 hn with rfl | hn
        · exact .inl (by simp)
        · rcases h1 n (.inl hn) with h | h
          · exact .inl (by simp [h])
          · exact .inr h
      · rcases h1 n (.inr hn) with h | h
        · exact .inl (by simp [h])
        · exact .inr h
def jEff (j : J) (eff i : Nat) : Nat := J.casesOn (motive := fun _ => Nat) j eff (fun _ _ _ => Nat.lor eff (Nat.pow 2 i)) (fun _ _ => Nat.lor eff (Nat.pow 2 i))
def kmax (a b : Nat) : Nat := b2 (Nat.ble a b) b a
theorem kmax_eq (a b : Nat) : kmax a b = max a b := by
  unfold kmax
  cases h : Nat.ble a b with
  | true => have := Nat.le_of_ble_eq_true h; rw [b2_true]; omega
  | false => have : ¬ a ≤ b := fun c => by rw [Nat.ble_eq_true_of_le c] at h; cases h
             rw [b2_false]; omega
theorem maxK_snoc (ods : List OD) (x : OD) : maxK (ods ++ [x]) = max (maxK ods) x.k := by
  induction ods with
  | nil => simp [maxK]
  | cons y r ih => simp only [List.cons_append, maxK, List.foldr_cons] at ih ⊢; rw [ih]; omega
abbrev DK := CallK → Env → KS → KAcc → (Env → KAcc → Bool) → Bool
def apartN (ops : Array Oper) (masks : List Nat) (n : Nat) : Bool :=
  (List.range n).all fun j => (List.range j).all fun i => (masks.getD j 0).testBit i ||
    (match ops[i]?, ops[j]? with
      | some a, some b => a.apart ops b
      | _, _ => false)
def incs (masks : List Nat) (n i : Nat) : List Nat := (List.range n).filter fun j => !(j == i || (masks.getD i 0).testBit j || (masks.getD j 0).testBit i)
/-- the names that some operations wrote beside their own -/
def gather (n : Nat) (l : List Nat) (recs : List KRec) (k : List Nat → Bool) : Bool := List.rec (motive := fun _ => (List Nat → Bool) → Bool) (fun k => k []) (fun j _ ih k => ih fun r => (nthW (Nat.sub (Nat.sub n 1) j)).val recs fun x => onto x.f r k) l k
def wipe (l : List Nat) (h : KHeap) (k : KHeap → Bool) : Bool := List.rec (motive := fun _ => (KHeap → Bool) → Bool) (fun k => k h) (fun n _ ih k => ih fun h => (hsetW n).val h none k) l k
theorem wipe_true : ∀ {l : List Nat} {h : KHeap} {k : KHeap → Bool}, wipe l h k = true → ∃ h', (∀ n o, KHeap.at h' n = some o → n ∉ l ∧ h.at n = some o) ∧ k h' = true
  | [], h, k, e => ⟨h, fun n o hn => ⟨by simp, hn⟩, e⟩
  | x :: l, h, k, e => by
    obtain ⟨h1, a, e⟩ := wipe_true (l := l) (k := fun h => (hsetW x).val h none k) e
    obtain ⟨h2, b, e⟩ := hsetW_some e
    refine ⟨h2, fun n o hn => ?_, e⟩
    rw [b] at hn
    split at hn
    · cases hn
    · rename_i hne
      obtain ⟨c, d⟩ := a n o hn
      exact ⟨by simp [hne, c], d⟩
section
variable (P : Program) (fn : FnTab) (n : Nat)
def subB (N i : Nat) (s : KS) : Nat := Nat.add s.b (Nat.mul s.t (Nat.add s.c i))
def drawOpsW (ops : Array Oper) (masks : List Nat) (N : Nat) (l : List Oper) : Nat → W DK := List.rec (motive := fun _ => Nat → W DK) (fun _ => ⟨fun ck e s a k => k e a⟩)
  (fun o _ ih i => force (Nat.add i 1) fun i' => force (masks.getD i 0) fun mask => ⟨fun ck e s a k =>
    force (Nat.land mask a.eff) fun E => heapFor masks E a.eff a.recs i s.h fun hi => force (subB N i s) fun bi => force (Nat.mul s.t N) fun tn =>
    (valW P fn ops o).val ck e ⟨hi, 0, bi, tn, .nil, []⟩ (fun v x => KS.rec (motive := fun _ => Bool) (fun h cc _ _ j f => (putW n o.dst).val e v fun e' => force (jEff j a.eff i) fun eff => force (kmax a.m cc) fun m =>
      notOwn s.b s.t f a.f fun f' => (ih i').val ck e' s ⟨⟨e, hi, h, j, cc, f⟩ :: a.recs, eff, m, .app j a.j, f'⟩ k) x) (fun _ _ => false) (fun _ _ => false)⟩) l
def blindW (ops : Array Oper) (masks : List Nat) (N : Nat) (i : Nat) (o : Oper) : W (CallK → KS → List KRec → Bool → Bool) := match incs masks N i with
  | [] => ⟨fun _ _ _ z => z⟩
  | l => ⟨fun ck s recs z => gather N l recs fun names => List.casesOn (motive := fun _ => Bool) names z fun _ _ => (nthW (Nat.sub (Nat.sub N 1) i)).val recs fun r => wipe names r.hs fun h => force (subB N i s) fun bi => force (Nat.mul s.t N) fun tn =>
      b2 ((valW P fn ops o).val ck r.e ⟨h, 0, bi, tn, .nil, []⟩ (fun _ _ => true) (fun _ _ => true) (fun _ _ => true)) z false⟩
def blindsW (ops : Array Oper) (masks : List Nat) (N : Nat) (l : List Oper) : Nat → W (CallK → KS → List KRec → Bool → Bool) := List.rec (motive := fun _ => Nat → W (CallK → KS → List KRec → Bool → Bool)) (fun _ => ⟨fun _ _ _ z => z⟩)
  (fun o _ ih i => force (Nat.add i 1) fun i' => ⟨fun ck s recs z => (blindW P fn ops masks N i o).val ck s recs ((ih i').val ck s recs z)⟩) l
def drawW (ops : Array Oper) : W CK := force ops.size fun N => ⟨fun c e d s kn kx =>
  (drawOpsW P fn n ops (masksOf ops) N ops.toList 0).val c.call e s ⟨[], 0, 0, s.j, s.f⟩ fun e' a => (blindsW P fn ops (masksOf ops) N ops.toList 0).val c.call s a.recs
    (heapFor (masksOf ops) a.eff a.eff a.recs N s.h fun h => force (Nat.add s.c (Nat.mul N a.m)) fun c' => kn e' d ⟨h, c', s.b, s.t, a.j, a.f⟩)⟩

/-! ### it does as the abstract run does -/
structure AccOk (s : ST) (ops : Array Oper) (fr0 : Fr) (ods : List OD) (a : KAcc) : Prop where
  recs : Recs s ops fr0 ods a.recs
  eff : ∀ j x, ods[j]? = some x → x.d ≠ [] → a.eff.testBit j = true
  lt : ∀ j, a.eff.testBit j = true → j < ods.length
  m : a.m = maxK ods
  j : a.j.flat = dsum allB 0 ods ++ s.jr
  f : ∀ y ∈ dsum allB 0 ods ++ s.jr, y.1 ∈ a.f ∨ ∃ k, y.1 = s.nm k
theorem jEff_bit {j : J} {eff i : Nat} (k : Nat) : (jEff j eff i).testBit k = true ↔ eff.testBit k = true ∨ (k = i ∧ jEff j eff i ≠ eff) ∨ (k = i ∧ jEff j eff i = eff ∧ eff.testBit i = true) := by
  have gen : ∀ x : Nat, x = Nat.lor eff (Nat.pow 2 i) → (x.testBit k = true ↔ eff.testBit k = true ∨ (k = i ∧ x ≠ eff) ∨ (k = i ∧ x = eff ∧ eff.testBit i = true)) := by
    intro x hx
    have hb : ∀ l, x.testBit l = (eff.testBit l || decide (i = l)) := fun l => by rw [hx]; show (eff ||| 2 ^ i).testBit l = _; rw [Nat.testBit_or, Nat.testBit_two_pow]
    rw [hb]
    simp only [Bool.or_eq_true, decide_eq_true_eq]
    constructor
    · rintro (h | h)
      · exact .inl h
      · by_cases hc : x = eff
        · exact .inr (.inr ⟨h.symm, hc, by rw [← hc, hb]; simp⟩)
        · exact .inr (.inl ⟨h.symm, hc⟩)
    · rintro (h | ⟨h, _⟩ | ⟨h, _⟩)
      · exact .inl h
      · exact .inr h.symm
      · exact .inr h.symm
  cases j with
  | nil => simp only [jEff]; constructor
           · exact .inl
           · rintro (h | ⟨_, h⟩ | ⟨h, _, h2⟩)
             · exact h
             · exact absurd rfl h
             · rw [h]; exact h2
  | cons _ _ _ => exact gen _ rfl
  | app _ _ => exact gen _ rfl
theorem jEff_or (j : J) (eff i : Nat) (hj : j.flat ≠ []) (k : Nat) : (jEff j eff i).testBit k = (eff.testBit k || decide (i = k)) := by
  cases j with
  | nil => exact absurd rfl hj
  | cons _ _ _ => show (eff ||| 2 ^ i).testBit k = _; rw [Nat.testBit_or, Nat.testBit_two_pow]
  | app _ _ => show (eff ||| 2 ^ i).testBit k = _; rw [Nat.testBit_or, Nat.testBit_two_pow]
theorem jEff_le (j : J) (eff i k : Nat) (h : (jEff j eff i).testBit k = true) : eff.testBit k = true ∨ i = k := by
  cases j with
  | nil => exact .inl h
  | cons _ _ _ => have h : (eff ||| 2 ^ i).testBit k = true := h; rw [Nat.testBit_or, Nat.testBit_two_pow] at h; simpa using h
  | app _ _ => have h : (eff ||| 2 ^ i).testBit k = true := h; rw [Nat.testBit_or, Nat.testBit_two_pow] at h; simpa using h
theorem jEff_ge (j : J) (eff i k : Nat) (h : eff.testBit k = true) : (jEff j eff i).testBit k = true := by
  cases j with
  | nil => exact h
  | cons _ _ _ => show (eff ||| 2 ^ i).testBit k = true; rw [Nat.testBit_or, h]; rfl
  | app _ _ => show (eff ||| 2 ^ i).testBit k = true; rw [Nat.testBit_or, h]; rfl
variable {P fn n}
theorem sub_rel {s : ST} {x : KS} (R : KRel x s) {ops : Array Oper} {i : Nat} (hN : 0 < ops.size) {h : KHeap} {H : Heap} (hh : KH h H) (hst : H.st = s.heap.st) : KRel ⟨h, 0, subB ops.size i x, Nat.mul x.t ops.size, .nil, []⟩ (subST s ops.size i H) := by
  refine ⟨?_, ?_, rfl, hh, fun m => by show H.st m = none; rw [hst]; exact R.st m, rfl, fun y hy => by cases hy⟩
  · show x.b + x.t * (x.c + i) = s.base + (s.str + 1) * (s.ctr + i)
    rw [R.base, R.str, R.ctr]
  · show x.t * ops.size = (s.str + 1) * ops.size - 1 + 1
    rw [R.str]
    have : 0 < (s.str + 1) * ops.size := Nat.mul_pos (by omega) hN
    omega
theorem drawOps_ok {ops : Array Oper} (hb : edgesBack 0 ops.toList = true) {ck : CallK} {call : CallT} (hc : CallSound ck call) (hm : CallMono call) {s : ST} {x : KS} (R : KRel x s) (free : s.Free) {fr0 : Fr} {d : List Deferred} {k : Env → KAcc → Bool} :
    ∀ (os : List Oper) (ods : List OD) (fr : Fr) (e : Env) (a : KAcc), ops.toList.drop ods.length = os → ods.length + os.length = ops.size → Ran P fn call ops s ops.size fr0 ods fr → FrK n e d fr → AccOk s ops fr0 ods a →
      (drawOpsW P fn n ops (masksOf ops) ops.size os ods.length).val ck e x a k = true →
      ∃ ods' fr' e' a', drawGo P fn call ops (masksOf ops) s ops.size os ods fr = some (.done ods' fr') ∧ Ran P fn call ops s ops.size fr0 ods' fr' ∧ FrK n e' d fr' ∧ AccOk s ops fr0 ods' a' ∧ ods'.length = ops.size ∧ k e' a' = true
  | [], ods, fr, e, a, hd, hl, hR, F, A, h => ⟨ods, fr, e, a, rfl, hR, F, A, by simpa using hl, h⟩
  | o :: os, ods, fr, e, a, hd, hl, hR, F, A, h => by
    have hi : ops[ods.length]? = some o := by
      have := congrArg (·[0]?) hd
      simpa using this
    have hd' : ops.toList.drop (ods.length + 1) = os := by
      have := congrArg List.tail hd
      simpa using this
    have hin : ods.length < ops.size := (Array.getElem?_eq_some_iff.1 hi).1
    have hN : 0 < ops.size := by omega
    have h : (heapFor (masksOf ops) (Nat.land ((masksOf ops).getD ods.length 0) a.eff) a.eff a.recs ods.length x.h fun hi =>
      (valW P fn ops o).val ck e ⟨hi, 0, subB ops.size ods.length x, Nat.mul x.t ops.size, .nil, []⟩ (fun v y => KS.rec (motive := fun _ => Bool) (fun h cc _ _ j f => (putW n o.dst).val e v fun e' =>
        notOwn x.b x.t f a.f fun f' => (drawOpsW P fn n ops (masksOf ops) ops.size os (ods.length + 1)).val ck e' x ⟨⟨e, hi, h, j, cc, f⟩ :: a.recs, jEff j a.eff ods.length, kmax a.m cc, .app j a.j, f'⟩ k) y) (fun _ _ => false) (fun _ _ => false)) = true := h
    obtain ⟨hp, kh, h⟩ := heapFor_true hb A.recs (p := ((masksOf ops).getD ods.length 0).testBit) (R.heap) A.eff (fun j hj => by show (_ &&& _ : Nat).testBit j = _; rw [Nat.testBit_and])
      (fun j hj => by have hj : (((masksOf ops).getD ods.length 0) &&& a.eff).testBit j = true := hj; rw [Nat.testBit_and, Bool.and_eq_true] at hj; exact mask_lt hb _ j hj.1) h
    have KN : Knew P fn call ops s fr0 ods := ⟨hm, hb, hR.at hb⟩
    have hsub := sub_rel (i := ods.length) R hN kh (by simp [heapAt])
    have hfree : (subST s ops.size ods.length (heapAt s.heap ods ((masksOf ops).getD ods.length 0).testBit)).Free := KN.sub_free (Heap.Ext.refl _) free hin _
    obtain ⟨ov, s', x', h1, R', f', h2⟩ := valW_ok P fn ops o ck call hc e fr.env F.env _ _ _ _ _ hsub hfree h
    cases ov with
    | panic v => cases h2
    | defer df => cases h2
    | val v =>
      obtain ⟨xh, xc, xb, xt, xj, xf⟩ := x'
      have h2 : ((putW n o.dst).val e v fun e' => notOwn x.b x.t xf a.f fun f' => (drawOpsW P fn n ops (masksOf ops) ops.size os (ods.length + 1)).val ck e' x ⟨⟨e, hp, xh, xj, xc, xf⟩ :: a.recs, jEff xj a.eff ods.length, kmax a.m xc, .app xj a.j, f'⟩ k) = true := h2
      obtain ⟨fr', e', hput, he', hn', hd'', h2⟩ := putW_some h2 F.env F.n
      obtain ⟨nf, hnf, h2⟩ := notOwn_true h2
      obtain ⟨dj, D, _⟩ := mono_opVal hm ops fr.env o _ _ _ h1
      have hdj : s'.jr = dj := by rw [D.jr]; simp [subST]
      have hR2 := Ran.snoc ods fr fr' o v s' hR hi h1 hput
      have howns : ∀ y ∈ s'.jr, y.1 ∈ xf ∨ ∃ c, y.1 = s.nm (s.ctr + ods.length + ops.size * c) := by
        intro y hy
        rcases R'.own y hy with h | ⟨c, h⟩
        · exact .inl h
        · refine .inr ⟨c, ?_⟩
          rw [h, show s'.nm c = (subST s ops.size ods.length (heapAt s.heap ods ((masksOf ops).getD ods.length 0).testBit)).nm c by simp only [ST.nm, D.base, D.str], sub_nm hN]
      have hxj : xj.flat = s'.jr := R'.jr.symm
      have hhp : heapAt s.heap (ods ++ [⟨o.dst, v, s'.jr, s'.ctr⟩]) ((masksOf ops).getD ods.length 0).testBit = heapAt s.heap ods ((masksOf ops).getD ods.length 0).testBit := heapAt_take hb _ _ _ _ (Nat.le_refl _)
      have hds : dsum allB 0 (ods ++ [⟨o.dst, v, s'.jr, s'.ctr⟩]) = s'.jr ++ dsum allB 0 ods := by
        unfold dsum; rw [gsum_append]; simp [gsum, allB]
      have A2 : AccOk s ops fr0 (ods ++ [⟨o.dst, v, s'.jr, s'.ctr⟩]) ⟨⟨e, hp, xh, xj, xc, xf⟩ :: a.recs, jEff xj a.eff ods.length, kmax a.m xc, .app xj a.j, nf⟩ := by
        refine ⟨.snoc ods a.recs _ _ A.recs ⟨?_, ?_, ?_, hxj, howns⟩, ?_, ?_, ?_, ?_, ?_⟩
        · rw [fAt_take _ _ _ _ (Nat.le_refl _)]
          refine ⟨fun t => ?_⟩
          have hf := hR.frame
          rw [F.env.get t, hf.2.2 t]
          unfold fAt
          rw [gsum_congr OD.e (p := fun k => decide (k < ods.length)) (q := allB) 0 ods (fun k hk => by simp [allB, hk])]
        · rw [hhp]; exact kh
        · rw [hhp]
          have : s'.heap = (heapAt s.heap ods ((masksOf ops).getD ods.length 0).testBit).sets s'.jr := by rw [D.heap, hdj]; rfl
          intro m p hmp
          have := R'.heap m p hmp
          rw [D.heap, ← hdj] at this
          exact this
        · intro j y hj hy
          by_cases hjl : j < ods.length
          · rw [List.getElem?_append_left hjl] at hj
            exact jEff_ge _ _ _ _ (A.eff j y hj hy)
          · have hlt := (List.getElem?_eq_some_iff.1 hj).1
            have : j = ods.length := by simp at hlt; omega
            subst this
            simp at hj
            subst hj
            rw [jEff_or _ _ _ (by rw [hxj]; exact hy)]
            simp
        · intro j hj
          rcases jEff_le _ _ _ _ hj with h | h
          · have := A.lt j h; simp; omega
          · subst h; simp
        · show kmax a.m xc = _
          rw [kmax_eq, maxK_snoc, A.m]
          have := R'.ctr
          simp only at this
          rw [this]
        · show xj.flat ++ a.j.flat = _
          rw [hxj, A.j, hds, List.append_assoc]
        · rw [hds]
          intro y hy
          have fin : (y.1 ∈ xf ∨ y.1 ∈ a.f) → y.1 ∈ nf ∨ ∃ k, y.1 = s.nm k := fun hq => by
            rcases hnf y.1 hq with h | ⟨c, h⟩
            · exact .inl h
            · exact .inr ⟨c, by rw [h, R.base, R.str]; rfl⟩
          rw [List.append_assoc] at hy
          rcases List.mem_append.1 hy with hy | hy
          · rcases howns y hy with h | ⟨c, h⟩
            · exact fin (.inl h)
            · exact .inr ⟨_, h⟩
          · rcases A.f y hy with h | h
            · exact fin (.inr h)
            · exact .inr h
      have hlen : (ods ++ [(⟨o.dst, v, s'.jr, s'.ctr⟩ : OD)]).length = ods.length + 1 := by simp
      obtain ⟨ods', fr'', e'', a', g1, g2, g3, g4, g5, g6⟩ := drawOps_ok hb hc hm R free os _ fr' e' _ (by rw [hlen]; exact hd') (by rw [hlen]; simp at hl; omega) hR2 ⟨he', hn', hd''.trans F.defs⟩ A2 (by rw [hlen]; exact h2)
      refine ⟨ods', fr'', e'', a', ?_, g2, g3, g4, g5, g6⟩
      simp only [drawGo]
      have h1 : opVal P fn call ops fr.env o (subST s ops.size ods.length (heapAt s.heap ods ((masksOf ops).getD ods.length 0).testBit)) = some (.val v, s') := h1
      rw [h1]
      simp only [hput]
      exact g1
theorem gather_true {s : ST} {ops : Array Oper} (hb : edgesBack 0 ops.toList = true) {fr0 : Fr} {ods : List OD} {recs : List KRec} (hr : Recs s ops fr0 ods recs) : ∀ {l : List Nat} {k : List Nat → Bool}, (∀ j ∈ l, j < ods.length) → gather ods.length l recs k = true →
    ∃ names, (∀ j ∈ l, ∀ x, ods[j]? = some x → ∀ y ∈ x.d, y.1 ∈ names ∨ ∃ c, y.1 = s.nm (s.ctr + j + ops.size * c)) ∧ k names = true
  | [], k, _, h => ⟨[], fun j hj => (by cases hj), h⟩
  | i :: l, k, hl, h => by
    obtain ⟨names, h1, h2⟩ := gather_true hb hr (l := l) (k := fun r => (nthW (Nat.sub (Nat.sub ods.length 1) i)).val recs fun x => onto x.f r k) (fun j hj => hl j (by simp [hj])) h
    obtain ⟨r, hr', h2⟩ := nthW_true h2
    rw [onto_eq] at h2
    obtain ⟨x, hx, _, K⟩ := hr.at hb _ r hr'
    have hil := hl i (by simp)
    have hi : ods.length - 1 - Nat.sub (Nat.sub ods.length 1) i = i := by show ods.length - 1 - (ods.length - 1 - i) = i; omega
    rw [hi] at hx K
    refine ⟨r.f ++ names, fun j hj z hz y hy => ?_, h2⟩
    rcases List.mem_cons.1 hj with rfl | hj
    · rw [hx] at hz
      cases hz
      rcases K.own y hy with h | h
      · exact .inl (by simp [h])
      · exact .inr h
    · rcases h1 j hj z hz y hy with h | h
      · exact .inl (by simp [h])
      · exact .inr h
theorem blind_ok {ops : Array Oper} (hb : edgesBack 0 ops.toList = true) {ck : CallK} {call : CallT} (hc : CallSound ck call) (hm : CallMono call) {s : ST} {x : KS} (R : KRel x s) (free : s.Free) {fr0 : Fr} {ods : List OD} {fr' : Fr} (hR : Ran P fn call ops s ops.size fr0 ods fr')
    {recs : List KRec} (hr : Recs s ops fr0 ods recs) (hl : ods.length = ops.size) {i : Nat} {o : Oper} (hi : ops[i]? = some o) {z : Bool} (h : (blindW P fn ops (masksOf ops) ops.size i o).val ck x recs z = true) : z = true ∧ blindOk P fn call ops s fr0 ods i = true := by
  have KN : Knew P fn call ops s fr0 ods := ⟨hm, hb, hR.at hb⟩
  have hin : i < ops.size := (Array.getElem?_eq_some_iff.1 hi).1
  have hbad : ∀ m ∈ badOf s (masksOf ops) ods i, ∃ j ∈ incs (masksOf ops) ops.size i, ∃ z, ods[j]? = some z ∧ ∃ y ∈ z.d, y.1 = m ∧ ∀ c, y.1 ≠ s.nm (s.ctr + j + ops.size * c) := by
    intro m hmm
    unfold badOf at hmm
    obtain ⟨j, hj, hmj⟩ := List.mem_flatMap.1 hmm
    rw [hl] at hj
    split at hmj
    · cases hmj
    · rename_i hcond
      split at hmj
      · rename_i z hz
        unfold wrote at hmj
        obtain ⟨y, hy, rfl⟩ := List.mem_map.1 hmj
        obtain ⟨hy, hk⟩ := List.mem_filter.1 hy
        refine ⟨j, List.mem_filter.2 ⟨hj, by simpa using hcond⟩, z, hz, y, hy, rfl, fun c hcc => ?_⟩
        rw [hcc, KN.free2 (Heap.Ext.refl _) free (List.mem_range.1 hj)] at hk
        cases hk
      · cases hmj
  have none_bad : badOf s (masksOf ops) ods i = [] → blindOk P fn call ops s fr0 ods i = true := fun e => by unfold blindOk; rw [e]
  unfold blindW at h
  split at h
  · rename_i hinc
    refine ⟨h, none_bad ?_⟩
    apply List.eq_nil_iff_forall_not_mem.2
    intro m hmm
    obtain ⟨j, hj, _⟩ := hbad m hmm
    rw [hinc] at hj; cases hj
  · rename_i l hne
    have hlt : ∀ j ∈ incs (masksOf ops) ops.size i, j < ods.length := fun j hj => by rw [hl]; exact List.mem_range.1 (List.mem_filter.1 hj).1
    have h : (gather ods.length (incs (masksOf ops) ops.size i) recs fun names => List.casesOn (motive := fun _ => Bool) names z fun _ _ => (nthW (Nat.sub (Nat.sub ods.length 1) i)).val recs fun r => wipe names r.hs fun h =>
      b2 ((valW P fn ops o).val ck r.e ⟨h, 0, subB ops.size i x, Nat.mul x.t ops.size, .nil, []⟩ (fun _ _ => true) (fun _ _ => true) (fun _ _ => true)) z false) = true := by rw [hl]; exact h
    obtain ⟨names, hn, h⟩ := gather_true hb hr hlt h
    have hbn : ∀ m ∈ badOf s (masksOf ops) ods i, m ∈ names := by
      intro m hmm
      obtain ⟨j, hj, w, hw, y, hy, rfl, hno⟩ := hbad m hmm
      rcases hn j hj w hw y hy with h | ⟨c, h⟩
      · exact h
      · exact absurd h (hno c)
    cases names with
    | nil =>
      refine ⟨h, none_bad ?_⟩
      apply List.eq_nil_iff_forall_not_mem.2
      intro m hmm
      exact absurd (hbn m hmm) (by simp)
    | cons nm nms =>
      obtain ⟨r, hr', h⟩ := nthW_true (show (nthW (Nat.sub (Nat.sub ods.length 1) i)).val recs (fun r => wipe (nm :: nms) r.hs fun h => b2 ((valW P fn ops o).val ck r.e ⟨h, 0, subB ops.size i x, Nat.mul x.t ops.size, .nil, []⟩ (fun _ _ => true) (fun _ _ => true) (fun _ _ => true)) z false) = true from h)
      obtain ⟨y, hy, _, K⟩ := hr.at hb _ r hr'
      have hii : ods.length - 1 - Nat.sub (Nat.sub ods.length 1) i = i := by show ods.length - 1 - (ods.length - 1 - i) = i; omega
      rw [hii] at hy K
      obtain ⟨h', hh, h⟩ := wipe_true h
      cases hv : (valW P fn ops o).val ck r.e ⟨h', 0, subB ops.size i x, Nat.mul x.t ops.size, .nil, []⟩ (fun _ _ => true) (fun _ _ => true) (fun _ _ => true) with
      | false => rw [hv] at h; cases h
      | true =>
        rw [hv, b2_true] at h
        refine ⟨h, ?_⟩
        cases hbo : badOf s (masksOf ops) ods i with
        | nil => exact none_bad hbo
        | cons b bs =>
          have hst : ∀ m ∈ b :: bs, s.heap.st m = none := fun m _ => R.st m
          have hst2 : ∀ m ∈ b :: bs, (heapAt s.heap ods ((masksOf ops).getD i 0).testBit).st m = none := fun m hm' => by simp [heapAt]; exact hst m hm'
          have hkh : KH h' ((heapAt s.heap ods ((masksOf ops).getD i 0).testBit).hides (b :: bs)) := by
            intro m p hmp
            obtain ⟨h1, h2⟩ := hh m p hmp
            rw [Heap.dyn_hides, if_neg (fun c => h1 (hbn m (by rw [hbo]; exact c)))]
            exact K.hs m p h2
          have hsub := sub_rel (i := i) R (Nat.lt_of_le_of_lt (Nat.zero_le _) hin) hkh (by simp [heapAt])
          have hfree : (subST s ops.size i ((heapAt s.heap ods ((masksOf ops).getD i 0).testBit).hides (b :: bs))).Free := by
            intro c hcc
            have := KN.sub_free (Heap.Ext.refl _) free hin s.heap c (Nat.zero_le _)
            show Heap.find (Heap.hides _ _) _ = none
            rw [Heap.find_hides hst2]
            split
            · rfl
            · exact this
          obtain ⟨ov, s', x', h1, _⟩ := valW_ok P fn ops o ck call hc r.e _ K.env _ _ _ _ _ hsub hfree hv
          unfold blindOk
          rw [hbo]
          simp only [hi, Bool.and_eq_true]
          have h1 : opVal P fn call ops (fAt fr0 ods (fun k => decide (k < i))).env o (subST s ops.size i ((heapAt s.heap ods ((masksOf ops).getD i 0).testBit).hides (b :: bs))) = some (ov, s') := h1
          exact ⟨List.all_eq_true.2 fun m hm' => by simp [hst m hm'], by rw [h1]; rfl⟩
theorem blinds_ok {ops : Array Oper} (hb : edgesBack 0 ops.toList = true) {ck : CallK} {call : CallT} (hc : CallSound ck call) (hm : CallMono call) {s : ST} {x : KS} (R : KRel x s) (free : s.Free) {fr0 : Fr} {ods : List OD} {fr' : Fr} (hR : Ran P fn call ops s ops.size fr0 ods fr')
    {recs : List KRec} (hr : Recs s ops fr0 ods recs) (hl : ods.length = ops.size) : ∀ (os : List Oper) (i : Nat) (z : Bool), ops.toList.drop i = os → (blindsW P fn ops (masksOf ops) ops.size os i).val ck x recs z = true →
    z = true ∧ ∀ j, i ≤ j → j < ops.size → blindOk P fn call ops s fr0 ods j = true
  | [], i, z, hd, h => ⟨h, fun j h1 h2 => by have := List.drop_eq_nil_iff.1 hd; simp at this; omega⟩
  | o :: os, i, z, hd, h => by
    have hi : ops[i]? = some o := by
      have := congrArg (·[0]?) hd
      simpa using this
    have hd' : ops.toList.drop (i + 1) = os := by
      have := congrArg List.tail hd
      simpa using this
    obtain ⟨h1, h2⟩ := blind_ok hb hc hm R free hR hr hl hi (z := (blindsW P fn ops (masksOf ops) ops.size os (i + 1)).val ck x recs z) h
    obtain ⟨h3, h4⟩ := blinds_ok hb hc hm R free hR hr hl os (i + 1) z hd' h1
    refine ⟨h3, fun j hj hjn => ?_⟩
    by_cases e : j = i
    · subst e; exact h2
    · exact h4 j (by omega) hjn
theorem drawW_ok (ops : Array Oper) (hb : edgesBack 0 ops.toList = true) (hap : apartN ops (masksOf ops) ops.size = true) : SRSound n (drawW P fn n ops).val (fun call fr => evalDraw P fn call ops fr) := by
  intro c call hc e d fr hf x s kn kx R free h
  have h : ((drawOpsW P fn n ops (masksOf ops) ops.size ops.toList 0).val c.call e x ⟨[], 0, 0, x.j, x.f⟩ fun e' a => (blindsW P fn ops (masksOf ops) ops.size ops.toList 0).val c.call x a.recs
    (heapFor (masksOf ops) a.eff a.eff a.recs ops.size x.h fun h => kn e' d ⟨h, x.c + ops.size * a.m, x.b, x.t, a.j, a.f⟩)) = true := h
  obtain ⟨ods, fr', e', a, g1, g2, g3, g4, g5, g6⟩ := drawOps_ok (fr0 := fr) (d := d) hb hc.call hc.mono R free ops.toList [] fr e ⟨[], 0, 0, x.j, x.f⟩ (by simp) (by simp) .nil hf
    ⟨.nil, fun j y hj => by simp at hj, fun j hj => by simp at hj, rfl, by show x.j.flat = _; rw [← R.jr]; rfl, fun y hy => R.own y (by simpa [dsum, gsum] using hy)⟩ h
  obtain ⟨h1, hbl⟩ := blinds_ok hb hc.call hc.mono R free g2 g4.recs g5 ops.toList 0 _ (by simp) g6
  rw [← g5] at h1
  obtain ⟨hE, kh, h2⟩ := heapFor_true hb g4.recs (p := allB) R.heap g4.eff (fun j hj => by simp [allB]) g4.lt h1
  have hev : evalDraw P fn call ops fr s = some (.next fr', drawEnd s ops.size ods) := by
    unfold evalDraw
    rw [if_pos hb, g1]
    simp only []
    rw [if_pos]
    refine ⟨?_, ?_⟩
    · have : apartOk ops (masksOf ops) ods = apartN ops (masksOf ops) ods.length := rfl
      rw [this, g5]; exact hap
    · rw [List.all_eq_true]
      intro j hj
      exact hbl j (Nat.zero_le _) (by rw [← g5]; exact List.mem_range.1 hj)
  refine ⟨_, _, _, hev, ?_, (mono_evalDraw hc.mono ops fr).free hev free, e', d, g3, h2⟩
  refine ⟨R.base, R.str, ?_, kh, fun m => by simp [drawEnd, heapAt]; exact R.st m, ?_, ?_⟩
  · show x.c + ods.length * a.m = s.ctr + ops.size * maxK ods
    rw [R.ctr, g4.m, g5]
  · exact g4.j.symm
  · exact g4.f
end
end
end Go.Proofs.YtgpfgcbolinncaaGreat.Abs
