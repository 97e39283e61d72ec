/- The quick run: operations. -/
import Derived.Test.YtgpfgcbolinncaaGreatK1
set_option linter.unusedVariables false
set_option linter.unusedSimpArgs false
namespace Go.Proofs.YtgpfgcbolinncaaGreat.Abs
open Go Go.RowKit
noncomputable section

def arV : AR → Option Value
  | .val v => some v
  | .skip => some undef
  | _ => none
/-- an operation that yields a value -/
def KSoundV (m : KM Value) (a : AM AR) : Prop := ∀ x s k, KRel x s → s.Free → m x k = true → ∃ ar v s' x', a s = some (ar, s') ∧ arV ar = some v ∧ KRel x' s' ∧ s'.Free ∧ k v x' = true
theorem KSoundV.val {m : KM Value} {a : AM Value} (h : KSound m a) : KSoundV m (valOf a) := by
  intro x s k R fr e
  obtain ⟨v, s', x', h1, R1, f1, k1⟩ := h x s k R fr e
  exact ⟨.val v, v, s', x', by unfold valOf AM.andThen; rw [h1]; rfl, rfl, R1, f1, k1⟩
theorem KSoundV.skip {m : KM Unit} {a : AM Unit} (h : KSound m a) : KSoundV (fun s k => m s fun _ => k undef) (skipOf a) := by
  intro x s k R fr e
  obtain ⟨v, s', x', h1, R1, f1, k1⟩ := h x s (fun _ => k undef) R fr e
  exact ⟨.skip, undef, s', x', by unfold skipOf AM.andThen; rw [h1]; rfl, rfl, R1, f1, k1⟩
/-- a value worked out without memory -/
def KPure (m : (Value → Bool) → Bool) (o : Option Value) : Prop := ∀ k, m k = true → ∃ v, o = some v ∧ k v = true
def kpure (m : (Value → Bool) → Bool) : KM Value := fun s k => m fun v => k v s
theorem KSoundV.pure {m : (Value → Bool) → Bool} {o : Option Value} (h : KPure m o) : KSoundV (kpure m) (valO o) := by
  intro x s k R fr e
  obtain ⟨v, rfl, hk⟩ := h _ e
  exact ⟨.val v, v, s, x, rfl, rfl, R, fr, hk⟩
theorem KSound.pure {m : (Value → Bool) → Bool} {o : Option Value} (h : KPure m o) : KSound (kpure m) (AM.ofOption o) := by
  intro x s k R fr e
  obtain ⟨v, rfl, hk⟩ := h _ e
  exact ⟨v, s, x, rfl, R, fr, hk⟩
def optK (o : Option Value) (k : Value → Bool) : Bool := Option.rec (motive := fun _ => Bool) false (fun a => k a) o
theorem KPure.opt (o : Option Value) : KPure (optK o) o := by
  intro k h
  cases o with
  | none => cases h
  | some v => exact ⟨v, rfl, h⟩

/-! ### numbers -/
def knum (k : IntKind) : Nat := IntKind.casesOn (motive := fun _ => Nat) k 0 1 2 3 4 5 6 7
theorem knum_inj {a b : IntKind} (h : Nat.beq (knum a) (knum b) = true) : a = b := by cases a <;> cases b <;> first | rfl | cases h
def klim (k : IntKind) : Nat := IntKind.casesOn (motive := fun _ => Nat) k 0 0 2147483648 9223372036854775808 256 0 4294967296 18446744073709551616
theorem klim_range {k : IntKind} {r : Nat} (h : ltB r (klim k) = true) : wrapA k (r : Int) = r := by
  have h := ltB_true h
  have hr : inRange k (r : Int) = true := by
    cases k <;> simp [klim] at h <;> simp [inRange] <;> omega
  unfold wrapA
  rw [if_pos hr]
abbrev BinK := Bool → Value → Value → (Value → Bool) → Bool
def arithK (f : Nat → Nat → (Nat → Bool) → Bool → Bool) : BinK := fun z x y k => vInt x (fun kx a => vInt y (fun ky b => b2 (Nat.beq (knum kx) (knum ky)) (iNat a (fun m => iNat b (fun n => f m n (fun r => b2 (ltB r (klim kx)) (k (.int kx (.ofNat r))) z) z) z) z) z) z) z
def cmpK (f : Nat → Nat → Bool) : BinK := fun z x y k => vInt x (fun kx a => vInt y (fun ky b => b2 (Nat.beq (knum kx) (knum ky)) (iNat a (fun m => iNat b (fun n => b2 (f m n) (k (.bool true)) (k (.bool false))) z) z) z) z) z
/-- as an option says, or as the slow way says -/
def BinOk (f : BinK) (o : Value → Value → Option Value) : Prop := ∀ z x y k, f z x y k = true → z = true ∨ ∃ v, o x y = some v ∧ k v = true
theorem two_ints {β : IntKind → Nat → IntKind → Nat → Bool} {z : Bool} {x y : Value} (h : vInt x (fun kx a => vInt y (fun ky b => b2 (Nat.beq (knum kx) (knum ky)) (iNat a (fun m => iNat b (fun n => β kx m ky n) z) z) z) z) z = true) :
    z = true ∨ ∃ kx m n, x = .int kx (m : Nat) ∧ y = .int kx (n : Nat) ∧ β kx m kx n = true := by
  cases x with
  | int kx a => cases y with
    | int ky b =>
      have h : b2 (Nat.beq (knum kx) (knum ky)) (iNat a (fun m => iNat b (fun n => β kx m ky n) z) z) z = true := h
      cases e : Nat.beq (knum kx) (knum ky) with
      | false => rw [e] at h; exact .inl h
      | true =>
        rw [e] at h
        have := knum_inj e
        subst this
        cases a with
        | negSucc _ => exact .inl h
        | ofNat m => cases b with
          | negSucc _ => exact .inl h
          | ofNat n => exact .inr ⟨kx, m, n, rfl, rfl, h⟩
    | _ => exact .inl h
  | _ => exact .inl h
theorem arith_ok {f : Nat → Nat → (Nat → Bool) → Bool → Bool} {o : Value → Value → Option Value} (h : ∀ kx (m n : Nat) k z, f m n k z = true → z = true ∨ ∃ r : Nat, k r = true ∧ (wrapA kx (r : Int) = r → o (.int kx m) (.int kx n) = some (.int kx r))) : BinOk (arithK f) o := by
  intro z x y k e
  rcases two_ints e with e' | ⟨kx, m, n, rfl, rfl, e'⟩
  · exact .inl e'
  · clear e
    have e : f m n (fun r => b2 (ltB r (klim kx)) (k (.int kx (.ofNat r))) z) z = true := e'
    rcases h kx m n _ z e with e | ⟨r, e, h⟩
    · exact .inl e
    · have e : b2 (ltB r (klim kx)) (k (.int kx (.ofNat r))) z = true := e
      cases hb : ltB r (klim kx) with
      | false => rw [hb] at e; exact .inl e
      | true => rw [hb] at e; exact .inr ⟨_, h (klim_range hb), e⟩
theorem cmp_ok {f : Nat → Nat → Bool} {o : Value → Value → Option Value} (h : ∀ kx (m n : Nat), o (.int kx m) (.int kx n) = some (.bool (f m n))) : BinOk (cmpK f) o := by
  intro z x y k e
  rcases two_ints e with e' | ⟨kx, m, n, rfl, rfl, e'⟩
  · exact .inl e'
  · clear e
    refine .inr ⟨_, h kx m n, ?_⟩
    have e : b2 (f m n) (k (.bool true)) (k (.bool false)) = true := e'
    revert e
    cases f m n <;> exact id
def addK : BinK := arithK fun m n k z => force (Nat.add m n) k
def subK : BinK := arithK fun m n k z => b2 (Nat.ble n m) (force (Nat.sub m n) k) z
def mulK : BinK := arithK fun m n k z => force (Nat.mul m n) k
def eqlK : BinK := cmpK Nat.beq
def neqK : BinK := cmpK fun m n => b2 (Nat.beq m n) false true
def lssK : BinK := cmpK ltB
def leqK : BinK := cmpK Nat.ble
def gtrK : BinK := cmpK fun m n => ltB n m
def geqK : BinK := cmpK fun m n => Nat.ble n m
def slowK : BinK := fun z _ _ _ => z
def binK : BinOp → BinK
  | .add => addK
  | .sub => subK
  | .mul => mulK
  | .eql => eqlK
  | .neq => neqK
  | .lss => lssK
  | .leq => leqK
  | .gtr => gtrK
  | .geq => geqK
  | _ => slowK
section
variable (P : Program) (t : TypeId) (xo yo : Operand)
theorem binA_fast {op : BinOp} {x y v : Value} (h : fastBin op x y = some v) : binA P op t xo yo x y = some v := by unfold binA; rw [h]
theorem ltB_dec (m n : Nat) : ltB m n = decide ((m : Int) < n) := by
  cases h : ltB m n with
  | true => have := ltB_true h; symm; simp; omega
  | false => have := ltB_false h; symm; simp; omega
theorem ble_dec (m n : Nat) : Nat.ble m n = decide ((m : Int) ≤ n) := by
  cases h : Nat.ble m n with
  | true => have := Nat.le_of_ble_eq_true h; symm; simp; omega
  | false => have : ¬ m ≤ n := fun c => by rw [Nat.ble_eq_true_of_le c] at h; cases h
             symm; simp; omega
theorem beq_dec (m n : Nat) : Nat.beq m n = ((m : Int) == n) := by
  cases h : Nat.beq m n with
  | true => have := Nat.eq_of_beq_eq_true h; subst this; simp
  | false => have := Nat.ne_of_beq_eq_false h; symm; simp; omega
theorem binK_ok (op : BinOp) : BinOk (binK op) (binA P op t xo yo) := by
  cases op with
  | add => exact arith_ok fun kx m n k z h => .inr ⟨m + n, h, fun hw => binA_fast P t xo yo (by simp only [fastBin, if_true]; rw [show ((m : Int) + n) = ((m + n : Nat) : Int) by simp, hw])⟩
  | sub =>
    refine arith_ok (f := fun m n k z => b2 (Nat.ble n m) (force (Nat.sub m n) k) z) fun kx m n k z h => ?_
    cases hb : Nat.ble n m with
    | false => rw [hb] at h; exact .inl h
    | true =>
      rw [hb] at h
      have := Nat.le_of_ble_eq_true hb
      exact .inr ⟨m - n, h, fun hw => binA_fast P t xo yo (by simp only [fastBin, if_true]; rw [show ((m : Int) - n) = ((m - n : Nat) : Int) by omega, hw])⟩
  | mul => exact arith_ok fun kx m n k z h => .inr ⟨m * n, h, fun hw => binA_fast P t xo yo (by simp only [fastBin, if_true]; rw [show ((m : Int) * n) = ((m * n : Nat) : Int) by simp, hw])⟩
  | eql => exact cmp_ok fun kx m n => binA_fast P t xo yo (by simp only [fastBin, if_true]; rw [beq_dec])
  | neq => exact cmp_ok fun kx m n => binA_fast P t xo yo (by simp only [fastBin, if_true]; rw [beq_dec]; show some (Value.bool (!_)) = _; cases ((m : Int) == n) <;> rfl)
  | lss => exact cmp_ok fun kx m n => binA_fast P t xo yo (by simp only [fastBin, if_true]; rw [ltB_dec])
  | leq => exact cmp_ok fun kx m n => binA_fast P t xo yo (by simp only [fastBin, if_true]; rw [ble_dec])
  | gtr => exact cmp_ok fun kx m n => binA_fast P t xo yo (by simp only [fastBin, if_true]; rw [ltB_dec])
  | geq => exact cmp_ok fun kx m n => binA_fast P t xo yo (by simp only [fastBin, if_true]; rw [ble_dec])
  | _ => exact fun z x y k h => .inl h
def binP (op : BinOp) : W (Value → Value → (Value → Bool) → Bool) := ⟨fun x y k => binK op (optK (binA P op t xo yo x y) k) x y k⟩
theorem binP_ok (op : BinOp) (x y : Value) : KPure ((binP P t xo yo op).val x y) (binA P op t xo yo x y) := by
  intro k h
  rcases binK_ok P t xo yo op _ x y k h with h | h
  · exact KPure.opt _ k h
  · exact h
end
/-! ### places -/
section
variable (P : Program)
def fieldAddrW (t : TypeId) (f : Nat) : W (Value → (Value → Bool) → Bool) := match P.underlying t with
  | some (.struct fields) => match fields[f]? with
    | some fd => match sizeA P fd.type with
      | some (_ + 1) => ⟨fun x k => vPtr x (fun n off => force (Nat.add off fd.offset) fun o => k (.pointer (some ⟨n, o, none⟩))) false⟩
      | _ => ⟨fun _ _ => false⟩
    | none => ⟨fun _ _ => false⟩
  | _ => ⟨fun _ _ => false⟩
theorem fieldAddrW_ok (t : TypeId) (f : Nat) (x : Value) : KPure ((fieldAddrW P t f).val x) (fieldAddrA P t x f) := by
  intro k h
  unfold fieldAddrW at h
  split at h
  · rename_i fields hu
    split at h
    · rename_i fd hf
      split at h
      · rename_i j hs
        obtain ⟨n, o, rfl, h2⟩ := vPtr_true h
        exact ⟨.pointer (some ⟨n, o + fd.offset, none⟩), by simp only [fieldAddrA, hu, hf, hs], h2⟩
      · cases h
    · cases h
  · cases h
def indexAddrW (t : TypeId) : W (Value → Value → (Value → Bool) → Bool) := match P.underlying t with
  | some (.slice elem) => match sizeA P elem with
    | some s => ⟨fun x i k => vSlice x (fun a len _ => vInt i (fun _ i => iNat i (fun m => b2 (ltB m len) (oAddr a (fun n off => force (Nat.add off (Nat.mul m s)) fun o => k (.pointer (some ⟨n, o, none⟩))) false) false) false) false) false⟩
    | none => ⟨fun _ _ _ => false⟩
  | _ => ⟨fun x i k => optK (indexAddrA P t x i) k⟩
theorem indexAddrW_ok (t : TypeId) (x i : Value) : KPure ((indexAddrW P t).val x i) (indexAddrA P t x i) := by
  intro k h
  unfold indexAddrW at h
  split at h
  · rename_i elem hu
    split at h
    · rename_i s hs
      obtain ⟨a, len, cs, rfl, h2⟩ := vSlice_true h
      clear h
      obtain ⟨ki, n, rfl, h3⟩ := vInt_true h2
      clear h2
      obtain ⟨m, rfl, h4⟩ := iNat_true h3
      clear h3
      cases hb : ltB m len with
      | false => rw [hb] at h4; cases h4
      | true =>
        rw [hb] at h4
        have hlt := ltB_true hb
        rw [b2_true] at h4
        obtain ⟨nm, off, rfl, h5⟩ := oAddr_true h4
        clear h4
        refine ⟨.pointer (some ⟨nm, off + m * s, none⟩), ?_, h5⟩
        simp only [indexAddrA, hu]
        rw [if_pos ⟨by omega, by omega⟩, hs]
        rfl
    · cases h
  · exact KPure.opt _ k h
def fieldW (t : TypeId) (f : Nat) : W (Value → (Value → Bool) → Bool) := match P.underlying t with
  | some (.struct fields) => match fields[f]? with
    | some fd => match aggA P fd.type with
      | some false => match sizeA P fd.type with
        | _ => ⟨fun x k => optK (fieldA P t x f) k⟩
      | _ => ⟨fun x k => optK (fieldA P t x f) k⟩
    | none => ⟨fun x k => optK (fieldA P t x f) k⟩
  | _ => ⟨fun x k => optK (fieldA P t x f) k⟩
def extractW (i : Nat) : W (Value → (Value → Bool) → Bool) := ⟨fun x k => vTuple x (fun vs => (nthW i).val vs.toList k) false⟩
theorem extractW_ok (i : Nat) (x : Value) : KPure ((extractW i).val x) (extractA x i) := by
  intro k h
  obtain ⟨vs, rfl, h2⟩ := vTuple_true h
  obtain ⟨a, e, h3⟩ := nthW_true h2
  exact ⟨a, e, h3⟩
def nilCheckK (x : Value) (k : Value → Bool) : Bool := vPtr x (fun n o => k (.pointer (some ⟨n, o, none⟩))) (optK (nilCheckA x) k)
theorem nilCheckK_ok (x : Value) : KPure (nilCheckK x) (nilCheckA x) := by
  intro k h
  by_cases hp : ∃ n o, x = .pointer (some ⟨n, o, none⟩)
  · obtain ⟨n, o, rfl⟩ := hp
    exact ⟨_, rfl, h⟩
  · refine KPure.opt _ k ?_
    cases x with
    | pointer a => cases a with
      | none => exact h
      | some ad =>
        obtain ⟨n, o, sp⟩ := ad
        cases sp with
        | none => exact absurd ⟨n, o, rfl⟩ hp
        | some _ => exact h
    | _ => exact h
def unK (op : UnOp) (x : Value) (k : Value → Bool) : Bool := optK (unA P op x) k

/-! ### memory -/
def kload (t : TypeId) : W (Value → KM Value) := match aggA P t with
  | some false => ⟨fun a s k => vPtr a (fun n off => kread n s fun o s => oCells o (fun c _ => (nthW off).val c fun v => k v s) false) false⟩
  | some true => match sizeA P t with
    | some sz => ⟨fun a s k => vPtr a (fun n off => kread n s fun o s => oCells o (fun c _ => (dropW off).val c fun c => (takeW sz).val c fun c => k (.agg ⟨c⟩) s) false) false⟩
    | none => ⟨fun _ _ _ => false⟩
  | none => ⟨fun _ _ _ => false⟩
theorem kload_ok (t : TypeId) (a : Value) : KSound ((kload P t).val a) (loadA P t a) := by
  intro x s k R fr h
  unfold kload at h
  split at h
  · rename_i hag
    obtain ⟨n, off, rfl, g⟩ := vPtr_true h
    clear h
    obtain ⟨o, ho, g2⟩ := kread_some g
    clear g
    obtain ⟨c, e, rfl, h⟩ := oCells_true g2
    clear g2
    obtain ⟨v, hv, h⟩ := nthW_true h
    refine ⟨v, s, x, ?_, R, fr, h⟩
    have := R.find ho
    unfold loadA AM.andThen
    simp only [asPtr, ofOption_eq, read_eq this, asCells, loadFrom, hag, hv]
  · rename_i hag
    split at h
    · rename_i sz hsz
      obtain ⟨n, off, rfl, g⟩ := vPtr_true h
      clear h
      obtain ⟨o, ho, g2⟩ := kread_some g
      clear g
      obtain ⟨c, e, rfl, h⟩ := oCells_true g2
      clear g2
      obtain ⟨h1, h⟩ := dropW_true h
      obtain ⟨h2, h⟩ := takeW_true h
      refine ⟨.agg ((c.drop off).take sz).toArray, s, x, ?_, R, fr, h⟩
      have := R.find ho
      have h3 : off + sz ≤ c.length := by simp at h2; omega
      unfold loadA AM.andThen
      simp only [asPtr, ofOption_eq, read_eq this, asCells, loadFrom, hag, hsz, if_pos h3]
    · cases h
  · cases h
def knownB (v : Value) (z t : Bool) : Bool := Value.casesOn (motive_1 := fun _ => Bool) v (fun _ => t) (fun _ _ => t) (fun _ _ => t) (fun _ _ _ => z) (fun _ => t) (fun _ => t) (fun _ _ _ => t) (fun _ => t) (fun _ => t) (fun _ _ _ => t) t (fun _ _ => t) t (fun _ => z) (fun _ => z)
theorem knownB_true {v : Value} {z t : Bool} (h : knownB v z t = true) : z = true ∨ (t = true ∧ known v = true ∧ cellsL v = [v] ∧ cellOk v = true) := by
  cases v <;> first | exact .inl h | exact .inr ⟨h, rfl, rfl, rfl⟩
def kstoreSlow (t : TypeId) (a v : Value) : KM Unit := kbind (kopt (asPtr a)) fun p => kbind (kread p.1) fun o => kbind (kopt (asCells o)) fun ce => kbind (kopt (storeTo P t ce.1 p.2 v)) fun c => kwrite p.1 (some (.cells c ce.2))
theorem kstoreSlow_ok (t : TypeId) (a v : Value) : KSound (kstoreSlow P t a v) (storeA P t a v) :=
  .bind (.opt _) fun _ => .bind (.read _) fun _ => .bind (.opt _) fun _ => .bind (.opt _) fun _ => .write _ _
theorem splice_one {c : List Value} {off : Nat} {v : Value} (h : off < c.length) : spliceL c off [v] = c.set off v := by
  unfold spliceL
  rw [List.set_eq_take_append_cons_drop, if_pos h]
  simp
def kstore (t : TypeId) : W (Value → Value → KM Unit) := match sizeA P t with
  | some 1 => ⟨fun a v s k => knownB v (kstoreSlow P t a v s k) (vPtr a (fun n off => kread n s fun o s => oCells o (fun c e => (lsetW off).val c v fun c => kwrite n (some (.cells c e)) s k) false) false)⟩
  | _ => ⟨fun a v => kstoreSlow P t a v⟩
theorem kstore_ok (t : TypeId) (a v : Value) : KSound ((kstore P t).val a v) (storeA P t a v) := by
  unfold kstore
  split
  · rename_i hsz
    intro x s k R fr h
    rcases knownB_true h with h | ⟨h, hk, hc, hok⟩
    · exact kstoreSlow_ok P t a v x s k R fr h
    · obtain ⟨n, off, rfl, g⟩ := vPtr_true h
      clear h
      obtain ⟨o, ho, g2⟩ := kread_some g
      clear g
      obtain ⟨c, e, rfl, g3⟩ := oCells_true g2
      clear g2
      obtain ⟨h1, h⟩ := lsetW_true g3
      obtain ⟨u, s', x', hw, R', f', h⟩ := KSound.write n _ x s k R fr h
      refine ⟨u, s', x', ?_, R', f', h⟩
      have := R.find ho
      unfold storeA AM.andThen
      have hst : storeTo P t c off v = some (c.set off v) := by
        unfold storeTo
        rw [hsz]
        simp only [hc, List.length_singleton, hk, List.all_cons, List.all_nil, hok, Bool.and_self, true_and, and_true]
        rw [if_pos (by omega), splice_one h1]
      simp only [asPtr, ofOption_eq, read_eq this, asCells, hst, hw]
  · exact kstoreSlow_ok P t a v
def kptr (n : Nat) : Value := .pointer (some ⟨n, 0, none⟩)
def kallocO (e : TypeId) : W (KM Value) := match zeroL P e with
  | some c => ⟨fun s k => kalloc (.cells c e) s fun n s => k (.pointer (some ⟨n, 0, none⟩)) s⟩
  | none => ⟨fun _ _ => false⟩
theorem kallocO_ok (e : TypeId) : KSound (kallocO P e).val (allocA P e) := by
  unfold kallocO
  split
  · rename_i c hc
    intro x s k R fr h
    obtain ⟨n, s', x', h1, R1, f1, h⟩ := KSound.alloc (.cells c e) x s (fun n s => k (.pointer (some ⟨n, 0, none⟩)) s) R fr h
    refine ⟨_, s', x', ?_, R1, f1, h⟩
    unfold allocA AM.andThen
    simp only [hc, ofOption_eq, newRowA, h1, AM.ret]
  · intro x s k R fr h; cases h
def kboxSlow (e : TypeId) (v : Value) : KM Value := kbind (kguard (known v)) fun _ => kbind (kalloc (.cells (cellsL v) e)) fun n => kret (.pointer (some ⟨n, 0, none⟩))
theorem kboxSlow_ok (e : TypeId) (v : Value) : KSound (kboxSlow e v) (boxA e v) := .bind (.guard id) fun _ => .bind (.alloc _) fun _ => .ret _
def kbox (e : TypeId) (v : Value) : KM Value := fun s k => knownB v (kboxSlow e v s k) (kalloc (.cells [v] e) s fun n s => k (.pointer (some ⟨n, 0, none⟩)) s)
theorem kbox_ok (e : TypeId) (v : Value) : KSound (kbox e v) (boxA e v) := by
  intro x s k R fr h
  rcases knownB_true h with h | ⟨h, hk, hc, hok⟩
  · exact kboxSlow_ok e v x s k R fr h
  · obtain ⟨n, s', x', h1, R1, f1, h⟩ := KSound.alloc (.cells [v] e) x s (fun n s => k (.pointer (some ⟨n, 0, none⟩)) s) R fr h
    refine ⟨_, s', x', ?_, R1, f1, h⟩
    unfold boxA AM.andThen
    simp only [guard_eq hk, hc, newRowA, h1, AM.ret]
def kbuildSlice (t : TypeId) (len : Nat) (parts : List (Nat × Value)) : KM Value :=
  kbind (kopt (sliceElem P t)) fun elem => kbind (kopt (sizeA P elem)) fun size => kbind (kopt (sliceCells P elem size len parts)) fun c => kbind (kalloc (.cells c elem)) fun n => kret (.slice (some ⟨n, 0, none⟩) len size)
theorem kbuildSlice_ok (t : TypeId) (len : Nat) (parts : List (Nat × Value)) : KSound (kbuildSlice P t len parts) (buildSliceA P t len parts) :=
  .bind (.opt _) fun _ => .bind (.opt _) fun _ => .bind (.opt _) fun _ => .bind (.alloc _) fun _ => .ret _
def kelems (x : Value) (n size : Nat) : KM (List Value × TypeId) := kbind (kopt (asSlice x)) fun p => kbind (kread p.1) fun o => kbind (kopt (asCells o)) fun ce => kbind (kopt (rowOf ce.1 p.2.1 n size)) fun c => kret (c, ce.2)
theorem kelems_ok (x : Value) (n size : Nat) : KSound (kelems x n size) (elemsA x n size) := .bind (.opt _) fun _ => .bind (.read _) fun _ => .bind (.opt _) fun _ => .bind (.opt _) fun _ => .ret _
theorem KSound.ite {α : Type} {b : Bool} {m m' : KM α} {a a' : AM α} (h : KSound m a) (h' : KSound m' a') : KSound (fun s k => b2 b (m s k) (m' s k)) (if b = true then a else a') := by
  cases b with
  | true => exact h
  | false => exact h'
theorem KSound.itep {α : Type} {c : Prop} [Decidable c] {m m' : KM α} {a a' : AM α} (h : KSound m a) (h' : KSound m' a') : KSound (fun s k => b2 (decide c) (m s k) (m' s k)) (if c then a else a') := by
  by_cases hc : c
  · rw [if_pos hc, decide_eq_true hc]; exact h
  · rw [if_neg hc, decide_eq_false hc]; exact h'
def kappend (t : TypeId) (s x : Value) : KM Value :=
  kbind (kopt (sliceElem P t)) fun e => kbind (kopt (elemI P e)) fun i => fun st k => b2 (isEmptyS x) ((kbind (kguard (isSlice s)) fun _ => kret s) st k)
  ((kbind (kopt (asSlice x)) fun q => kbind (kelems x q.2.2.1 i.size) fun news => fun st k =>
    b2 (isNilS s) ((kbind (kguard (decide (q.2.2.1 * i.bytes ≤ 140737488355328 ∧ q.2.2.1 ≤ 9223372036854775807))) fun _ => kbind (kalloc (.cells news.1 e)) fun n => kret (.slice (some ⟨n, 0, none⟩) q.2.2.1 i.size)) st k)
    ((kbind (kopt (asSlice s)) fun p => kbind (kelems s p.2.2.1 i.size) fun olds =>
      kbind (kguard (decide ((p.2.2.1 + q.2.2.1) * i.bytes ≤ 140737488355328 ∧ p.2.2.1 + q.2.2.1 ≤ 9223372036854775807 ∧ p.2.2.2 = i.size ∧ 0 < i.size ∧ news.1.all cellOk = true ∧ olds.2 = e))) fun _ =>
      kbind (kwrite p.1 none) fun _ => kbind (kalloc (.cells (olds.1 ++ news.1) e)) fun n => kret (.slice (some ⟨n, 0, none⟩) (p.2.2.1 + q.2.2.1) i.size)) st k)) st k)
theorem kappend_ok (t : TypeId) (s x : Value) : KSound (kappend P t s x) (appendA P t s x) :=
  .bind (.opt _) fun _ => .bind (.opt _) fun _ => .ite (.bind (.guard id) fun _ => .ret _)
    (.bind (.opt _) fun _ => .bind (kelems_ok _ _ _) fun _ => .ite (.bind (.guard of_decide_eq_true) fun _ => .bind (.alloc _) fun _ => .ret _)
      (.bind (.opt _) fun _ => .bind (kelems_ok _ _ _) fun _ => .bind (.guard of_decide_eq_true) fun _ => .bind (.write _ _) fun _ => .bind (.alloc _) fun _ => .ret _))
def kentries (m : Value) : KM (List MapEntry) := match m with
  | .map none => kret []
  | m => kbind (kopt (mapName m)) fun n => kbind (kread n) fun o => kbind (kopt (asMap o)) fun p => kret p.1
theorem kentries_ok (m : Value) : KSound (kentries m) (entriesA m) := by
  have key : KSound (kbind (kopt (mapName m)) fun n => kbind (kread n) fun o => kbind (kopt (asMap o)) fun p => kret p.1) (AM.andThen (AM.ofOption (mapName m)) fun n => AM.andThen (AM.read n) fun o => AM.andThen (AM.ofOption (asMap o)) fun p => AM.ret p.1) :=
    .bind (.opt _) fun _ => .bind (.read _) fun _ => .bind (.opt _) fun _ => .ret _
  cases m with
  | map r => cases r with
    | none => exact .ret _
    | some n => exact key
  | _ => exact key
def klookup (t : TypeId) (m k : Value) (ok : Bool) : KM Value := kbind (kopt (mapT P t)) fun mt => kbind (kentries m) fun es => kbind (kopt (Instr.findNow mt.kd k es 0)) fun r => kopt (lookRes P mt.elem ok r)
theorem klookup_ok (t : TypeId) (m k : Value) (ok : Bool) : KSound (klookup P t m k ok) (lookupA P t m k ok) := .bind (.opt _) fun _ => .bind (kentries_ok _) fun _ => .bind (.opt _) fun _ => .opt _
def kmakeMap (t : TypeId) (r : Option Value) : KM Value := kbind (kguard r.isNone) fun _ => kbind (kalloc (.map [] 0)) fun n => kret (.map (some n))
def kmapLen (t : TypeId) (m : Value) : KM Value := kbind (kopt (mapT P t)) fun mt => kbind (kentries m) fun es => kret (.int .i64 es.length)
theorem kmapLen_ok (t : TypeId) (m : Value) : KSound (kmapLen P t m) (mapLenA P t m) := .bind (.opt _) fun _ => .bind (kentries_ok _) fun _ => .ret _
def kmapUpdate (t : TypeId) (m k v : Value) : KM Unit :=
  kbind (kopt (mapT P t)) fun mt => kbind (kopt (mapName m)) fun n => kbind (kread n) fun o => kbind (kopt (asMap o)) fun p =>
  kbind (kopt (Instr.findNow mt.kd k p.1 0)) fun r => kwrite n (some (.map (putEntry p.1 p.2 k v r).1 (putEntry p.1 p.2 k v r).2))
theorem kmapUpdate_ok (t : TypeId) (m k v : Value) : KSound (kmapUpdate P t m k v) (mapUpdateA P t m k v) := .bind (.opt _) fun _ => .bind (.opt _) fun _ => .bind (.read _) fun _ => .bind (.opt _) fun _ => .bind (.opt _) fun _ => .write _ _
def kclear (t : TypeId) (x : Value) : KM Unit :=
  kbind (kopt (sliceElem P t)) fun e => fun st k => b2 (isEmptyS x) (kret () st k)
  ((kbind (kopt (asSlice x)) fun q => kbind (kread q.1) fun o => kbind (kopt (asCells o)) fun ce => kbind (kopt (zeroL P e)) fun z =>
    kbind (kguard (decide (z.all cellOk = true ∧ q.2.1 + q.2.2.1 * z.length ≤ ce.1.length))) fun _ => kwrite q.1 (some (.cells (spliceL ce.1 q.2.1 (List.replicate q.2.2.1 z).flatten) ce.2))) st k)
theorem kclear_ok (t : TypeId) (x : Value) : KSound (kclear P t x) (clearA P t x) :=
  .bind (.opt _) fun _ => .ite (.ret _) (.bind (.opt _) fun _ => .bind (.read _) fun _ => .bind (.opt _) fun _ => .bind (.opt _) fun _ => .bind (.guard of_decide_eq_true) fun _ => .write _ _)
def kmakeSlice (t : TypeId) (l c : Value) : KM Value :=
  kbind (kopt (sliceElem P t)) fun e => kbind (kopt (sizeA P e)) fun size => kbind (kopt (infoB P e)) fun bytes =>
  kbind (kopt (natI l)) fun ln => kbind (kopt (natI c)) fun cn => kbind (kopt (zerosL P e size cn)) fun z =>
  kbind (kguard (decide (ln ≤ cn ∧ bytes * cn ≤ 281474976710656))) fun _ => kbind (kalloc (.cells z e)) fun n => kret (.slice (some ⟨n, 0, none⟩) ln size)
theorem kmakeSlice_ok (t : TypeId) (l c : Value) : KSound (kmakeSlice P t l c) (makeSliceA P t l c) :=
  .bind (.opt _) fun _ => .bind (.opt _) fun _ => .bind (.opt _) fun _ => .bind (.opt _) fun _ => .bind (.opt _) fun _ => .bind (.opt _) fun _ => .bind (.guard of_decide_eq_true) fun _ => .bind (.alloc _) fun _ => .ret _
def ktoString (src dst : TypeId) (x : Value) : KM Value :=
  kbind (kopt (sliceElem P src)) fun e => kbind (kguard (decide (isStrT P dst = true ∧ isU8 P e = true))) fun _ => fun st k =>
  b2 (isNilS x) (kret (.string ⟨#[]⟩) st k)
  ((kbind (kopt (asSlice x)) fun q => kbind (kelems x q.2.2.1 1) fun c => kbind (kopt (bytesOf c.1)) fun l => kret (.string ⟨l.toArray⟩)) st k)
theorem ktoString_ok (src dst : TypeId) (x : Value) : KSound (ktoString P src dst x) (toStringA P src dst x) :=
  .bind (.opt _) fun _ => .bind (.guard of_decide_eq_true) fun _ => .ite (.ret _) (.bind (.opt _) fun _ => .bind (kelems_ok _ _ _) fun _ => .bind (.opt _) fun _ => .ret _)
def kmark (t : TypeId) (x : Value) : KM Value :=
  kbind (kopt (sliceElem P t)) fun e => kbind (kguard (isU8 P e)) fun _ => kbind (kopt (asSlice x)) fun q => kbind (kread q.1) fun o =>
    kbind (kopt (asCells o)) fun ce => kbind (kwrite q.1 (some (.cells ce.1 ce.2))) fun _ => kret x
theorem kmark_ok (t : TypeId) (x : Value) : KSound (kmark P t x) (markA P t x) :=
  .bind (.opt _) fun _ => .bind (.guard id) fun _ => .bind (.opt _) fun _ => .bind (.read _) fun _ => .bind (.opt _) fun _ => .bind (.write _ _) fun _ => .ret _
def kconvM (s d : TypeId) (x : Value) : KM Value := fun st k => b2 (s == d) (kmark P s x st k) (ktoString P s d x st k)
theorem kconvM_ok (s d : TypeId) (x : Value) : KSound (kconvM P s d x) (convM P s d x) := .ite (kmark_ok P s x) (ktoString_ok P s d x)
def krangeStr (t : TypeId) (x : Value) : KM Value := kbind (kopt (asStr x)) fun s => kbind (kguard (isStrT P t)) fun _ => kbind (kalloc (.strIter s 0)) fun n => kret (.pointer (some ⟨n, 0, none⟩))
theorem krangeStr_ok (t : TypeId) (x : Value) : KSound (krangeStr P t x) (rangeStrA P t x) := .bind (.opt _) fun _ => .bind (.guard id) fun _ => .bind (.alloc _) fun _ => .ret _
def knextStr (x : Value) : KM Value :=
  kbind (kopt (asPtr x)) fun p => kbind (kguard (decide (p.2 = 0))) fun _ => kbind (kread p.1) fun o => kbind (kopt (asSIter o)) fun q => fun st k =>
  b2 (decide (q.2 < q.1.size)) ((kbind (kwrite p.1 (some (.strIter q.1 (q.2 + (Utf8.decode q.1 q.2).2)))) fun _ => kret (.tuple #[.bool true, .int .i64 q.2, .int .i32 (Utf8.decode q.1 q.2).1])) st k) (kret (.tuple #[.bool false]) st k)
theorem knextStr_ok (x : Value) : KSound (knextStr x) (nextStrA x) :=
  .bind (.opt _) fun _ => .bind (.guard of_decide_eq_true) fun _ => .bind (.read _) fun _ => .bind (.opt _) fun _ => .itep (.bind (.write _ _) fun _ => .ret _) (.ret _)
end
end
end Go.Proofs.YtgpfgcbolinncaaGreat.Abs
