/- Operations on memory as steps of the abstract run: variables, rows, loads, stores, append. append as a step of the abstract run. Maps, rows made by size, clear, strings and bytes as steps of the abstract run. Stores into maps, ranges, clear, strings and bytes as steps of the abstract run. Rows made by size, strings and bytes, ranges as steps of the abstract run. -/
import Derived.Test.YtgpfgcbolinncaaGreatP1
import Derived.Laws.BytesArg
set_option linter.unusedVariables false
set_option linter.unusedSimpArgs false
namespace Go.Proofs.YtgpfgcbolinncaaGreat.Abs
open Go Go.RowKit

theorem read_some {n : Nat} {s s' : ST} {o : AObj} (h : AM.read n s = some (o, s')) : s.heap.find n = some (some o) ∧ s' = s := by
  unfold AM.read at h
  split at h
  · rename_i q hq
    simp only [Option.some.injEq, Prod.mk.injEq] at h
    obtain ⟨rfl, rfl⟩ := h
    exact ⟨hq, rfl⟩
  · cases h
theorem write_some {n : Nat} {s s' : ST} {o : Option AObj} {u : Unit} (h : AM.write n o s = some (u, s')) : (∃ x, s.heap.dyn.get n = some (some x)) ∧ s' = { s with heap := s.heap.set n o, jr := (n, o) :: s.jr } := by
  unfold AM.write at h
  split at h
  · rename_i q hq
    simp only [Option.some.injEq, Prod.mk.injEq] at h
    exact ⟨⟨q, hq⟩, h.2.symm⟩
  · cases h
theorem alloc_some {n : Nat} {s s' : ST} {o : AObj} (h : AM.alloc o s = some (n, s')) : n = s.nm s.ctr ∧ s.heap.find n = none ∧ s' = { s with heap := s.heap.set n (some o), ctr := s.ctr + 1, jr := (n, some o) :: s.jr } := by
  unfold AM.alloc at h
  split at h
  · rename_i hq
    simp only [Option.some.injEq, Prod.mk.injEq] at h
    obtain ⟨rfl, rfl⟩ := h
    exact ⟨rfl, hq, rfl⟩
  · cases h
theorem ofOption_some {α : Type} {o : Option α} {s s' : ST} {a : α} (h : AM.ofOption o s = some (a, s')) : o = some a ∧ s' = s := by
  cases o with
  | none => simp [AM.ofOption, AM.fail] at h
  | some b => simp [AM.ofOption, AM.ret] at h; exact ⟨by rw [h.1], h.2.symm⟩
theorem ret_some {α : Type} {a b : α} {s s' : ST} (h : AM.ret a s = some (b, s')) : b = a ∧ s' = s := by
  simp [AM.ret] at h; exact ⟨h.1.symm, h.2.symm⟩
theorem fail_some {α : Type} {b : α} {s s' : ST} (h : (AM.fail : AM α) s = some (b, s')) : False := by simp [AM.fail] at h

def AM.guard (c : Prop) [Decidable c] : AM Unit := fun s => if c then some ((), s) else none
theorem guard_some {c : Prop} [Decidable c] {s s' : ST} {u : Unit} (h : AM.guard c s = some (u, s')) : c ∧ s' = s := by
  unfold AM.guard at h
  split at h
  · rename_i hc; simp at h; exact ⟨hc, h.symm⟩
  · cases h
theorem Mono.guard (c : Prop) [Decidable c] : Mono (AM.guard c) := by
  intro s r s' h
  obtain ⟨hc, rfl⟩ := guard_some h
  exact ⟨[], Did.refl _, fun h2 j2 _ _ => by simp [AM.guard, hc]; rfl⟩
def asPtr : Value → Option (Nat × Nat)
  | .pointer (some ⟨n, off, none⟩) => some (n, off)
  | _ => none
theorem asPtr_some {v : Value} {p : Nat × Nat} (h : asPtr v = some p) : v = .pointer (some ⟨p.1, p.2, none⟩) := by
  unfold asPtr at h
  split at h
  · simp only [Option.some.injEq] at h; subst h; rfl
  · cases h
def asCells : AObj → Option (List Value × TypeId)
  | .cells c e => some (c, e)
  | _ => none
theorem asCells_some {o : AObj} {p : List Value × TypeId} (h : asCells o = some p) : o = .cells p.1 p.2 := by
  cases o <;> simp [asCells] at h
  subst h; rfl
def sliceElem (P : Program) (t : TypeId) : Option TypeId := match P.underlying t with
  | some (.slice e) => some e
  | _ => none
theorem sliceElem_some {P : Program} {t e : TypeId} (h : sliceElem P t = some e) : P.underlying t = some (.slice e) := by
  unfold sliceElem at h
  split at h
  · rename_i e' he; simp only [Option.some.injEq] at h; subst h; exact he
  · cases h

/-! ### a new row -/
def newRowA (elem : TypeId) (c : List Value) : AM Nat := AM.alloc (.cells c elem)
theorem newRow_sim {P : Program} {B : Nat} {w0 : World} {π : PMap} {w : World} {s s' : ST} {elem : TypeId} {c : List Value} {n : Nat} (h : newRowA elem c s = some (n, s')) (R : Rel B w0 π s.heap w)
    (C : Array Value) (hC : LRel π c (C.toList.take c.length)) (hsz : c.length ≤ C.size) :
    ∃ π', π.le π' ∧ (newRow elem C).run P w = .ok ⟨w.heap.size, 0, none⟩ (w.alloc (.cells C elem)) ∧ π' n = some ⟨w.heap.size, 0, C.size⟩ ∧ Rel B w0 π' s'.heap (w.alloc (.cells C elem)) := by
  obtain ⟨hn, hf, rfl⟩ := alloc_some h
  have hle := PMap.le_upd (a := π) ⟨w.heap.size, 0, C.size⟩ (R.fresh hf)
  have q := R.alloc hf (.cells C elem) (.cells c elem) C.size (by
    refine ⟨C, (0, 0), heap_alloc_new w _, rfl, by simpa using hsz, ?_, fun _ => .inl rfl⟩
    intro i v hv
    obtain ⟨v', e, r⟩ := hC.2 i v hv
    rw [List.getElem?_take] at e
    split at e
    · exact ⟨v', by simpa using e, r.mono hle⟩
    · cases e)
  exact ⟨_, q.1, by simp [newRow], PMap.upd_same _ _ _, q.2⟩

def boxA (elem : TypeId) (v : Value) : AM Value := AM.andThen (AM.guard (known v = true)) fun _ => AM.andThen (newRowA elem (cellsL v)) fun n => AM.ret (.pointer (some ⟨n, 0, none⟩))
theorem boxA_sim {P : Program} {B : Nat} {w0 : World} {π : PMap} {w : World} {s s' : ST} {elem : TypeId} {v v' x : Value} (h : boxA elem v s = some (x, s')) (R : Rel B w0 π s.heap w) (hv : VRel π v v') :
    ∃ π' x' w', π.le π' ∧ (Instr.box elem v').run P w = .ok x' w' ∧ VRel π' x x' ∧ Rel B w0 π' s'.heap w' := by
  have hh := AM.andThen_some h; clear h; obtain ⟨_, s0, h0, h⟩ := hh
  obtain ⟨hk, rfl⟩ := guard_some h0
  obtain ⟨n, s1, h1, h2⟩ := AM.andThen_some h
  obtain ⟨rfl, rfl⟩ := ret_some h2
  have hc := cells_rel hv hk
  obtain ⟨π', hle, hr, hn, R'⟩ := newRow_sim (P := P) h1 R v'.cells (by rw [hc.1, List.take_length]; exact hc) (by have := hc.1; simp at this; omega)
  refine ⟨π', .pointer (some ⟨w.heap.size, 0, none⟩), _, hle, ?_, ?_, R'⟩
  · simp only [Instr.box, newVar, Sem.run_bind, hr, Result.andThen_ok, Sem.run_pure]
  · exact .ptr n 0 _ hn

def allocA (P : Program) (elem : TypeId) : AM Value := AM.andThen (AM.ofOption (zeroL P elem)) fun c => AM.andThen (newRowA elem c) fun n => AM.ret (.pointer (some ⟨n, 0, none⟩))
theorem allocA_sim {P : Program} {B : Nat} {w0 : World} {π : PMap} {w : World} {s s' : ST} {elem : TypeId} {x : Value} (h : allocA P elem s = some (x, s')) (R : Rel B w0 π s.heap w) :
    ∃ π' x' w', π.le π' ∧ (Instr.alloc elem true (.tuple #[])).run P w = .ok x' w' ∧ VRel π' x x' ∧ Rel B w0 π' s'.heap w' := by
  have hh := AM.andThen_some h; clear h; obtain ⟨c, s0, h0, h⟩ := hh
  obtain ⟨hc, rfl⟩ := ofOption_some h0
  obtain ⟨n, s1, h1, h2⟩ := AM.andThen_some h
  obtain ⟨rfl, rfl⟩ := ret_some h2
  obtain ⟨z, hz, hzc, hzz⟩ := zero_sim hc
  have hl : c.length = z.cells.size := by rw [hzc]; simp
  obtain ⟨π', hle, hr, hn, R'⟩ := newRow_sim (P := P) h1 R z.cells (by rw [← hzc, List.take_length]; exact hzz π) (by omega)
  refine ⟨π', .pointer (some ⟨w.heap.size, 0, none⟩), _, hle, ?_, ?_, R'⟩
  · simp only [Instr.alloc, newVar, Sem.run_bind, hz w, hr, Result.andThen_ok, Sem.run_pure]
  · exact .ptr n 0 _ hn

/-! ### a slice's literal -/
def zerosL (P : Program) (elem : TypeId) (size n : Nat) : Option (List Value) := if n * size = 0 then some [] else match zeroL P elem with
  | some z => if z.length = size then some (List.replicate n z).flatten else none
  | none => none
theorem flatten_get {α : Type} (z : List α) : ∀ (n i : Nat), i < n * z.length → (List.replicate n z).flatten[i]? = z[i % z.length]?
  | 0, i, h => by simp at h
  | n + 1, i, h => by
    rw [List.replicate_succ, List.flatten_cons, List.getElem?_append]
    split
    · rename_i hi; rw [Nat.mod_eq_of_lt hi]
    · rename_i hi
      have h2 : (n + 1) * z.length = n * z.length + z.length := Nat.succ_mul _ _
      rw [flatten_get z n (i - z.length) (by omega)]
      rw [← Nat.mod_eq_sub_mod (by omega)]
theorem zerosL_sim {P : Program} {elem : TypeId} {size n : Nat} {c : List Value} (h : zerosL P elem size n = some c) :
    ∃ Z : Array Value, ((n * size = 0 ∧ Z = #[]) ∨ (n * size ≠ 0 ∧ ∃ zv, (∀ w, (zeroValue elem).run P w = .ok zv w) ∧ Z = zv.cells)) ∧ ((Array.range (n * size)).map (Z[· % Z.size]!)).toList = c ∧ (∀ π, LRel π c c) ∧ c.length = n * size := by
  unfold zerosL at h
  split at h
  · rename_i h0
    simp only [Option.some.injEq] at h
    subst h
    exact ⟨#[], .inl ⟨h0, rfl⟩, by rw [h0]; simp, fun π => LRel.nil, h0.symm⟩
  · rename_i h0
    split at h
    · rename_i z hz
      split at h
      · rename_i hs
        simp only [Option.some.injEq] at h
        subst h
        obtain ⟨zv, hzr, hzc, hzz⟩ := zero_sim hz
        have hzs : zv.cells.size = size := by rw [← hs, hzc]; simp
        have hlen : (List.replicate n z).flatten.length = n * size := by simp [hs]
        refine ⟨zv.cells, .inr ⟨h0, zv, hzr, rfl⟩, ?_, fun π => ?_, hlen⟩
        · apply List.ext_getElem?
          intro i
          by_cases hi : i < n * size
          · rw [flatten_get z n i (by rw [hs]; exact hi)]
            have hmod : i % size < size := Nat.mod_lt _ (by
              rcases Nat.eq_zero_or_pos size with e | e
              · rw [e] at h0; simp at h0
              · exact e)
            simp [hi, hzs, hs, hzc, hmod]
          · rw [List.getElem?_eq_none (by simp; omega), List.getElem?_eq_none (by rw [hlen]; omega)]
        · refine ⟨rfl, fun i v hv => ⟨v, hv, ?_⟩⟩
          have hi : i < n * z.length := by
            have := (List.getElem?_eq_some_iff.1 hv).1
            rw [hlen] at this; rw [hs]; exact this
          rw [flatten_get z n i hi] at hv
          obtain ⟨v', e, r⟩ := (hzz π).2 _ v hv
          rw [hv] at e
          simp only [Option.some.injEq] at e
          subst e
          exact r
      · cases h
    · cases h

def sliceCells (P : Program) (elem : TypeId) (size len : Nat) (parts : List (Nat × Value)) : Option (List Value) :=
  if len * size ≤ 16777216 then match zerosL P elem size len with
    | some z => fillL (fun i => some (i * size, size)) z parts
    | none => none
  else none
def buildSliceA (P : Program) (t : TypeId) (len : Nat) (parts : List (Nat × Value)) : AM Value :=
  AM.andThen (AM.ofOption (sliceElem P t)) fun elem => AM.andThen (AM.ofOption (sizeA P elem)) fun size => AM.andThen (AM.ofOption (sliceCells P elem size len parts)) fun c =>
  AM.andThen (newRowA elem c) fun n => AM.ret (.slice (some ⟨n, 0, none⟩) len size)
theorem fillL_length {place : Nat → Option (Nat × Nat)} : ∀ (parts : List (Nat × Value)) (c d : List Value), fillL place c parts = some d → d.length = c.length
  | [], c, d, h => by simp only [fillL, Option.some.injEq] at h; rw [h]
  | (i, v) :: r, c, d, h => by
    simp only [fillL] at h
    split at h
    · cases h
    · split at h
      · rename_i hb
        rw [fillL_length r _ d h, splice_length (by omega)]
      · cases h
theorem buildSliceA_sim {P : Program} {B : Nat} {w0 : World} {π : PMap} {w : World} {s s' : ST} {t : TypeId} {len : Nat} {parts parts' : List (Nat × Value)} {x : Value} (h : buildSliceA P t len parts s = some (x, s'))
    (R : Rel B w0 π s.heap w) (hp : PartsRel π parts parts') :
    ∃ π' x' w', π.le π' ∧ (Instr.buildSlice t len parts'.toArray).run P w = .ok x' w' ∧ VRel π' x x' ∧ Rel B w0 π' s'.heap w' := by
  have hh := AM.andThen_some h; clear h; obtain ⟨elem, s0, h0, h⟩ := hh
  obtain ⟨hu, rfl⟩ := ofOption_some h0
  have hu := sliceElem_some hu
  have hh := AM.andThen_some h; clear h; obtain ⟨size, s0, h0, h⟩ := hh
  obtain ⟨hs, rfl⟩ := ofOption_some h0
  have hh := AM.andThen_some h; clear h; obtain ⟨c, s0, h0, h⟩ := hh
  obtain ⟨hc, rfl⟩ := ofOption_some h0
  obtain ⟨n, s1, h1, h2⟩ := AM.andThen_some h
  obtain ⟨rfl, rfl⟩ := ret_some h2
  unfold sliceCells at hc
  split at hc
  · rename_i hb
    split at hc
    · rename_i z hz
      obtain ⟨Z, hZ, hZz, hzz, hzl⟩ := zerosL_sim hz
      obtain ⟨D, e, hD⟩ := fill_sim parts parts' z c _ hc hp (by rw [hZz]; exact hzz π)
      have hcl : c.length = len * size := by rw [fillL_length _ _ _ hc, hzl]
      have hDs : D.size = len * size := by have := hD.1; simp at this; omega
      obtain ⟨π', hle, hr, hn, R'⟩ := newRow_sim (P := P) h1 R D (by rw [hD.1, List.take_of_length_le (by simp)]; exact hD) (by omega)
      refine ⟨π', .slice (some ⟨w.heap.size, 0, none⟩) len len, _, hle, ?_, ?_, R'⟩
      · have hb' : ¬ (len * size > 2 ^ 24) := by omega
        have e' : Instr.fill (fun i => some (i * size, size)) ((Array.range (len * size)).map (Z[· % Z.size]!)) parts'.toArray.toList = some D := by simpa using e
        unfold Instr.buildSlice
        rcases hZ with ⟨h0, rfl⟩ | ⟨h0, zv, hzv, rfl⟩
        · simp only [Sem.run_bind, run_underlying hu, Result.andThen_ok, sizeA_run hs, if_neg hb', Sem.run_pure, if_pos h0, e', hr]
        · simp only [Sem.run_bind, run_underlying hu, Result.andThen_ok, sizeA_run hs, if_neg hb', Sem.run_pure, if_neg h0, hzv w, e', hr]
      · exact .slice n 0 len size _ 0 len hn (fun _ => rfl) (Nat.le_refl _) (.inr (by simp; omega))
    · cases hc
  · cases hc

/-! ### load, store -/
def loadFrom (P : Program) (t : TypeId) (c : List Value) (off : Nat) : Option Value := match aggA P t with
  | some true => match sizeA P t with
    | some sz => if off + sz ≤ c.length then some (.agg ((c.drop off).take sz).toArray) else none
    | none => none
  | some false => c[off]?
  | none => none
def loadA (P : Program) (t : TypeId) (a : Value) : AM Value :=
  AM.andThen (AM.ofOption (asPtr a)) fun p => AM.andThen (AM.read p.1) fun o => AM.andThen (AM.ofOption (asCells o)) fun ce => AM.ofOption (loadFrom P t ce.1 p.2)
theorem cell_at {w : World} {b o : Nat} {C : Array Value} {e : TypeId} {fr : Nat × Nat} (h : w.heap[b]? = some (.cells C e fr)) : w.cell? ⟨b, o, none⟩ = C[o]? := by simp [World.cell?, h]
theorem loadA_sim {P : Program} {B : Nat} {w0 : World} {π : PMap} {w : World} {s s' : ST} {t : TypeId} {a a' x : Value} (h : loadA P t a s = some (x, s')) (R : Rel B w0 π s.heap w) (ha : VRel π a a') :
    ∃ x', (Instr.loadAt t a').run P w = .ok x' w ∧ VRel π x x' ∧ s' = s := by
  have hh := AM.andThen_some h; clear h; obtain ⟨q, s0, h0, h⟩ := hh
  obtain ⟨hq, rfl⟩ := ofOption_some h0
  have hq := asPtr_some hq
  obtain ⟨n, off⟩ := q
  subst hq
  have hh := AM.andThen_some h; clear h; obtain ⟨o, s1, h1, h⟩ := hh
  obtain ⟨hf, rfl⟩ := read_some h1
  have hh := AM.andThen_some h; clear h; obtain ⟨ce, s1, h1, h⟩ := hh
  obtain ⟨hce, rfl⟩ := ofOption_some h1
  obtain ⟨c, e⟩ := ce
  have hce := asCells_some hce
  subst hce
  obtain ⟨hx, rfl⟩ := ofOption_some h
  refine (fun (g : ∃ x', (Instr.loadAt t a').run P w = .ok x' w ∧ VRel π x x') => let ⟨x', a, b⟩ := g; ⟨x', a, b, rfl⟩) ?_
  simp only at hf hx
  cases ha with
  | ptr _ _ p hp =>
    obtain ⟨p', hp', hO⟩ := R.obj n _ hf
    rw [hp] at hp'; cases hp'
    obtain ⟨C, fr, hh, hsz, hlen, hcr, _⟩ := hO
    unfold loadFrom at hx
    split at hx
    · rename_i hag
      split at hx
      · rename_i sz hsz'
        split at hx
        · rename_i hle
          simp only [Option.some.injEq] at hx
          subst hx
          have hrun : (loadCells ⟨p.blk, p.base + off, none⟩ sz).run P w = .ok ((C.toList.drop (p.base + off)).take sz).toArray w := by
            have hl : ((C.toList.drop (p.base + off)).take sz).length = sz := by simp; omega
            have := run_loadCells_list (P := P) w ⟨p.blk, p.base + off, none⟩ ((C.toList.drop (p.base + off)).take sz) (by
              intro j v hv
              rw [drop_take_getElem?] at hv
              split at hv
              · rw [add_eq, cell_at hh]; simpa using hv
              · cases hv)
            rwa [hl] at this
          refine ⟨.agg ((C.toList.drop (p.base + off)).take sz).toArray, ?_, ?_⟩
          · simp only [Instr.loadAt, Instr.sureAddr, loadVar, Sem.run_bind, Sem.run_pure, Result.andThen_ok, aggA_run hag, if_true, sizeA_run hsz', hrun]
          · have q := VRels.of_lists (π := π) (xs := (c.drop off).take sz) (ys := (C.toList.drop (p.base + off)).take sz) (by simp; omega) (by
              intro i v hv
              rw [drop_take_getElem?] at hv ⊢
              split at hv
              · rename_i hi
                rw [if_pos hi]
                obtain ⟨v', e', r⟩ := hcr _ v hv
                exact ⟨v', by rw [Nat.add_assoc]; simpa using e', r⟩
              · cases hv)
            exact .agg _ _ q.1 q.2
        · cases hx
      · cases hx
    · rename_i hag
      obtain ⟨v', e', r⟩ := hcr off x hx
      refine ⟨v', ?_, r⟩
      have : w.cell? ⟨p.blk, p.base + off, none⟩ = some v' := by rw [cell_at hh]; exact e'
      simp only [Instr.loadAt, Instr.sureAddr, loadVar, Sem.run_bind, Sem.run_pure, Result.andThen_ok, aggA_run hag, Bool.false_eq_true, if_false, run_load, this]
    · cases hx

def storeTo (P : Program) (t : TypeId) (c : List Value) (off : Nat) (v : Value) : Option (List Value) := match sizeA P t with
  | some sz => if known v ∧ (cellsL v).length = sz ∧ off + sz ≤ c.length ∧ (cellsL v).all cellOk = true then some (spliceL c off (cellsL v)) else none
  | none => none
def storeA (P : Program) (t : TypeId) (a v : Value) : AM Unit :=
  AM.andThen (AM.ofOption (asPtr a)) fun p => AM.andThen (AM.read p.1) fun o => AM.andThen (AM.ofOption (asCells o)) fun ce => AM.andThen (AM.ofOption (storeTo P t ce.1 p.2 v)) fun c => AM.write p.1 (some (.cells c ce.2))
theorem splice_sim {π : PMap} {c vs ws : List Value} {C : Array Value} {base off : Nat} (h : CellsRel π c C base) (k : LRel π vs ws) (hl : off + vs.length ≤ c.length) (hC : base + c.length ≤ C.size) :
    CellsRel π (spliceL c off vs) (spliceL C.toList (base + off) ws).toArray base := by
  intro i v hv
  rw [splice_get (by omega)] at hv
  simp only [List.getElem?_toArray]
  rw [splice_get (by rw [← k.1]; simp; omega), ← k.1]
  split at hv
  · rename_i hi
    rw [if_pos (by omega), show base + i - (base + off) = i - off by omega]
    exact k.2 _ v hv
  · rename_i hi
    rw [if_neg (by omega)]
    simpa using h i v hv
theorem storeA_sim {P : Program} {B : Nat} {w0 : World} {π : PMap} {w : World} {s s' : ST} {t : TypeId} {a a' v v' : Value} {u : Unit} (h : storeA P t a v s = some (u, s')) (R : Rel B w0 π s.heap w) (ha : VRel π a a') (hv : VRel π v v') :
    ∃ w', (Instr.storeAt t a' v').run P w = .ok () w' ∧ Rel B w0 π s'.heap w' := by
  have hh := AM.andThen_some h; clear h; obtain ⟨q, s0, h0, h⟩ := hh
  obtain ⟨hq, rfl⟩ := ofOption_some h0
  have hq := asPtr_some hq
  obtain ⟨n, off⟩ := q
  subst hq
  have hh := AM.andThen_some h; clear h; obtain ⟨o, s1, h1, h⟩ := hh
  obtain ⟨hf, rfl⟩ := read_some h1
  have hh := AM.andThen_some h; clear h; obtain ⟨ce, s1, h1, h⟩ := hh
  obtain ⟨hce, rfl⟩ := ofOption_some h1
  obtain ⟨c, e⟩ := ce
  have hce := asCells_some hce
  subst hce
  have hh := AM.andThen_some h; clear h; obtain ⟨d, s1, h1, h⟩ := hh
  obtain ⟨hd, rfl⟩ := ofOption_some h1
  obtain ⟨⟨x, hx⟩, rfl⟩ := write_some h
  simp only at hf hd hx
  unfold storeTo at hd
  split at hd
  · rename_i sz hsz'
    split at hd
    · rename_i hb
      simp only [Option.some.injEq] at hd
      subst hd
      cases ha with
      | ptr _ _ p hp =>
        obtain ⟨p', hp', hO⟩ := R.obj n _ hf
        rw [hp] at hp'; cases hp'
        obtain ⟨C, fr, hh, hsz, hlen, hcr, hfr⟩ := hO
        have hB := R.dynB n p (by rw [hx]; simp) hp
        have hc := cells_rel hv hb.1
        have hws : v'.cells.size = sz := by have := hc.1; simp at this; omega
        have hst := run_storeCells_fr P p.blk (p.base + off) e fr v'.cells.toList 0 C w hh (by simp; omega) (hc.oneCell hb.2.2.2) (fun k hk => (hfr hB.1).at_ k (by omega))
        simp only [Nat.add_zero] at hst
        refine ⟨w.setRow p.blk (spliceL C.toList (p.base + off) v'.cells.toList).toArray, ?_, R.turn hx hp (by simp) (by simp) (by simp) (by simp) (fun k hk => setRow_other w p.blk k _ hk) _ ?_⟩
        · simp only [Instr.storeAt, Instr.sureAddr, storeVar, Sem.run_bind, Sem.run_pure, Result.andThen_ok, sizeA_run hsz']
          rw [if_neg (by simp [hws])]
          exact hst
        · have hlen' : (spliceL C.toList (p.base + off) v'.cells.toList).length = C.size := by rw [splice_length (by simp; omega)]; simp
          refine ⟨_, fr, setRow_heap w p.blk C _ e fr hh, by simp [hlen', hsz], by rw [splice_length (by omega)]; exact hlen, splice_sim hcr hc (by omega) (by omega), hfr⟩
    · cases hd
  · cases hd
end Go.Proofs.YtgpfgcbolinncaaGreat.Abs
set_option linter.unusedVariables false
set_option linter.unusedSimpArgs false
namespace Go.Proofs.YtgpfgcbolinncaaGreat.Abs
open Go Go.RowKit

/-- the elements of a slice: its object's part -/
def rowOf (c : List Value) (off n size : Nat) : Option (List Value) := if off + n * size ≤ c.length then some ((c.drop off).take (n * size)) else none
def asSlice : Value → Option (Nat × Nat × Nat × Nat)
  | .slice (some ⟨n, off, none⟩) len cs => some (n, off, len, cs)
  | _ => none
theorem asSlice_some {v : Value} {p : Nat × Nat × Nat × Nat} (h : asSlice v = some p) : v = .slice (some ⟨p.1, p.2.1, none⟩) p.2.2.1 p.2.2.2 := by
  unfold asSlice at h
  split at h
  · simp only [Option.some.injEq] at h; subst h; rfl
  · cases h
/-- read n elements of a slice -/
def elemsA (x : Value) (n size : Nat) : AM (List Value × TypeId) :=
  AM.andThen (AM.ofOption (asSlice x)) fun p => AM.andThen (AM.read p.1) fun o => AM.andThen (AM.ofOption (asCells o)) fun ce => AM.andThen (AM.ofOption (rowOf ce.1 p.2.1 n size)) fun c => AM.ret (c, ce.2)
def isEmptyS : Value → Bool
  | .slice none 0 0 => true
  | .slice (some _) l _ => l == 0
  | _ => false
def isNilS : Value → Bool
  | .slice none 0 0 => true
  | _ => false
def isSlice : Value → Bool
  | .slice _ _ _ => true
  | _ => false
structure ElemI where
  size : Nat
  bytes : Nat
def elemI (P : Program) (e : TypeId) : Option ElemI := match P.info? e with
  | some i => match i.zero with
    | some z => if (cellsL z).length = i.size then some ⟨i.size, i.bytes⟩ else none
    | none => none
  | none => none

/-- append(s, x...), both slices of one type -/
def appendA (P : Program) (t : TypeId) (s x : Value) : AM Value :=
  AM.andThen (AM.ofOption (sliceElem P t)) fun e => AM.andThen (AM.ofOption (elemI P e)) fun i =>
  if isEmptyS x then AM.andThen (AM.guard (isSlice s = true)) fun _ => AM.ret s
  else AM.andThen (AM.ofOption (asSlice x)) fun q => AM.andThen (elemsA x q.2.2.1 i.size) fun news =>
    if isNilS s then AM.andThen (AM.guard (q.2.2.1 * i.bytes ≤ 140737488355328 ∧ q.2.2.1 ≤ 9223372036854775807)) fun _ => AM.andThen (newRowA e news.1) fun n => AM.ret (.slice (some ⟨n, 0, none⟩) q.2.2.1 i.size)
    else AM.andThen (AM.ofOption (asSlice s)) fun p => AM.andThen (elemsA s p.2.2.1 i.size) fun olds =>
      AM.andThen (AM.guard ((p.2.2.1 + q.2.2.1) * i.bytes ≤ 140737488355328 ∧ p.2.2.1 + q.2.2.1 ≤ 9223372036854775807 ∧ p.2.2.2 = i.size ∧ 0 < i.size ∧ news.1.all cellOk = true ∧ olds.2 = e)) fun _ =>
      AM.andThen (AM.write p.1 none) fun _ => AM.andThen (newRowA e (olds.1 ++ news.1)) fun n => AM.ret (.slice (some ⟨n, 0, none⟩) (p.2.2.1 + q.2.2.1) i.size)

theorem elemI_some {P : Program} {e : TypeId} {i : ElemI} (h : elemI P e = some i) : ∃ j z, P.info? e = some j ∧ j.zero = some z ∧ j.size = i.size ∧ j.bytes = i.bytes ∧ z.cells.size = i.size := by
  unfold elemI at h
  split at h
  · rename_i j hj
    split at h
    · rename_i z hz
      split at h
      · rename_i hc
        simp only [Option.some.injEq] at h
        subst h
        exact ⟨j, z, hj, hz, rfl, rfl, by rw [← hc]; cases z <;> rfl⟩
      · cases h
    · cases h
  · cases h

theorem zeroCells_size (z : Array Value) (n : Nat) : (Builtin.zeroCells z n).size = n * z.size := by simp [Builtin.zeroCells]
theorem elemsA_sim {B : Nat} {w0 : World} {π : PMap} {w : World} {s s' : ST} {x x' : Value} {n size : Nat} {c : List Value} {et : TypeId} (h : elemsA x n size s = some ((c, et), s')) (R : Rel B w0 π s.heap w) (hx : VRel π x x') :
    s' = s ∧ ∃ q cap o p b, x = .slice (some ⟨q.1, q.2.1, none⟩) q.2.2.1 q.2.2.2 ∧ x' = .slice (some ⟨p.blk, o, none⟩) q.2.2.1 cap ∧ π q.1 = some p ∧ asSlice x = some q ∧ s.heap.find q.1 = some (some b) ∧ (0 < q.2.2.1 → o = p.base + q.2.1) ∧ q.2.2.1 ≤ cap ∧ (q.2.2.2 = 0 ∨ o + cap * q.2.2.2 ≤ p.sz) ∧
      c.length = n * size ∧ (∃ C fr, w.heap[p.blk]? = some (.cells C et fr) ∧ C.size = p.sz ∧ (B ≤ p.blk → Thaw fr p.sz) ∧ (∃ cc, b = .cells cc et)) ∧
      (n ≤ q.2.2.1 → 0 < n → ∃ cs' : List Value, LRel π c cs' ∧ ∀ j v, cs'[j]? = some v → w.cell? ((⟨p.blk, o, none⟩ : Addr).add j) = some v) := by
  have hh := AM.andThen_some h; clear h; obtain ⟨q, s0, h0, h⟩ := hh
  obtain ⟨hq, rfl⟩ := ofOption_some h0
  have hq' := asSlice_some hq
  have hh := AM.andThen_some h; clear h; obtain ⟨o, s1, h1, h⟩ := hh
  obtain ⟨hf, rfl⟩ := read_some h1
  have hh := AM.andThen_some h; clear h; obtain ⟨ce, s1, h1, h⟩ := hh
  obtain ⟨hce, rfl⟩ := ofOption_some h1
  have hh := AM.andThen_some h; clear h; obtain ⟨c0, s1, h1, h⟩ := hh
  obtain ⟨hx', rfl⟩ := ofOption_some h1
  obtain ⟨hc0, rfl⟩ := ret_some h
  obtain ⟨cc, e⟩ := ce
  simp only [Prod.mk.injEq] at hc0
  obtain ⟨rfl, rfl⟩ := hc0
  refine ⟨rfl, ?_⟩
  have hce' := asCells_some hce
  subst hce'
  obtain ⟨qn, qo, ql, qc⟩ := q
  simp only at hq' hf hx'
  subst hq'
  cases hx with
  | slice _ _ _ _ p o cap hp ho hl hc =>
    obtain ⟨p', hp', hO⟩ := R.obj _ _ hf
    rw [hp] at hp'; cases hp'
    obtain ⟨C, fr, hh, hsz, hlen, hcr, hfr⟩ := hO
    unfold rowOf at hx'
    split at hx'
    · rename_i hle
      simp only [Option.some.injEq] at hx'
      subst hx'
      refine ⟨(qn, qo, ql, qc), cap, o, p, _, rfl, rfl, hp, rfl, hf, ho, hl, hc, by simp; omega, ⟨C, fr, hh, hsz, hfr, cc, rfl⟩, fun hn h0 => ?_⟩
      have ho' := ho (Nat.lt_of_lt_of_le h0 hn)
      subst ho'
      refine ⟨(C.toList.drop (p.base + qo)).take (n * size), ⟨by simp; omega, fun i v hv => ?_⟩, fun j v hv => ?_⟩
      · rw [drop_take_getElem?] at hv ⊢
        split at hv
        · rename_i hi
          rw [if_pos hi]
          obtain ⟨v', e', r⟩ := hcr _ v hv
          exact ⟨v', by rw [Nat.add_assoc]; simpa using e', r⟩
        · cases hv
      · rw [drop_take_getElem?] at hv
        split at hv
        · rw [add_eq, cell_at hh]; simpa using hv
        · cases hv
    · cases hx'

theorem run_append_empty {P : Program} {t ty e : TypeId} {i : TypeInfo} (ht : P.underlying t = some (.slice e)) (hi : P.info? e = some i) (b : Option Addr) (l c : Nat) (hl : l ≤ c) (x : Value) (hx : x = .slice none 0 0 ∨ ∃ a c', x = .slice (some a) 0 c') (w : World) :
    (Builtin.append_ #[t, t] ty #[.slice b l c, x]).run P w = .ok (.slice b l c) w := by
  have h1 : (Builtin.lenOf x).run P w = .ok 0 w := by
    rcases hx with rfl | ⟨a, c', rfl⟩ <;> rfl
  have h2 : (Builtin.firstCells i.size 0 x).run P w = .ok #[] w := by
    rcases hx with rfl | ⟨a, c', rfl⟩
    · rfl
    · simp [Builtin.firstCells, loadCells, loadCellsFrom]
  cases b with
  | none => simp [Builtin.append_, run_underlying ht, sizeOf, typeInfo, hi, h1, hl, h2]
  | some a => simp [Builtin.append_, run_underlying ht, sizeOf, typeInfo, hi, h1, hl, h2, storeCells]
theorem run_append_fits {P : Program} {t ty e : TypeId} {i : TypeInfo} (ht : P.underlying t = some (.slice e)) (hi : P.info? e = some i) (b : Addr) (sLen sCap : Nat) (a : Addr) (n c : Nat) (news : List Value) (w : World)
    (hl : news.length = n * i.size) (hnews : ∀ j v, news[j]? = some v → w.cell? (a.add j) = some v) (hfit : sLen + n ≤ sCap) :
    (Builtin.append_ #[t, t] ty #[.slice (some b) sLen sCap, .slice (some a) n c]).run P w = ((storeCells (b.add (sLen * i.size)) news).run P w).andThen fun _ w' => .ok (.slice (some b) (sLen + n) sCap) w' := by
  have hf := run_firstCells_some (P := P) w i.size n a n c news hl hnews
  simp [Builtin.append_, run_underlying ht, sizeOf, typeInfo, hi, Builtin.lenOf, hfit, hf]

theorem appendA_sim {P : Program} {B : Nat} {w0 : World} {π : PMap} {w : World} {s s' : ST} {t ty : TypeId} {a a' x x' r : Value} (h : appendA P t a x s = some (r, s')) (R : Rel B w0 π s.heap w) (ha : VRel π a a') (hx : VRel π x x') :
    ∃ π' r' w', π.le π' ∧ (Builtin.append_ #[t, t] ty #[a', x']).run P w = .ok r' w' ∧ VRel π' r r' ∧ Rel B w0 π' s'.heap w' := by
  unfold appendA at h
  have hh := AM.andThen_some h; clear h; obtain ⟨e, s0, h0, h⟩ := hh
  obtain ⟨hu, rfl⟩ := ofOption_some h0
  have hu := sliceElem_some hu
  have hh := AM.andThen_some h; clear h; obtain ⟨i, s0, h0, h⟩ := hh
  obtain ⟨hi, rfl⟩ := ofOption_some h0
  obtain ⟨j, z, hj, hz, hjs, hjb, hzs⟩ := elemI_some hi
  clear h0
  by_cases hem : isEmptyS x = true
  · rw [if_pos hem] at h
    have hh := AM.andThen_some h; clear h; obtain ⟨_, s0, h0, h⟩ := hh
    obtain ⟨hs, rfl⟩ := guard_some h0
    obtain ⟨rfl, rfl⟩ := ret_some h
    have hx' : x' = .slice none 0 0 ∨ ∃ b c', x' = .slice (some b) 0 c' := by
      cases hx <;> simp [isEmptyS] at hem
      · exact .inl rfl
      · subst hem; exact .inr ⟨_, _, rfl⟩
    cases ha <;> simp [isSlice] at hs
    · exact ⟨π, _, w, PMap.le.refl π, run_append_empty hu hj _ 0 0 (Nat.le_refl _) _ hx' w, .nilSlice, R⟩
    · rename_i n off len cs p o cap hp ho hl hc
      exact ⟨π, _, w, PMap.le.refl π, run_append_empty hu hj _ _ _ hl _ hx' w, .slice _ _ _ _ p o cap hp ho hl hc, R⟩
    · rename_i b cap
      exact ⟨π, _, w, PMap.le.refl π, run_append_empty hu hj _ 0 cap (Nat.zero_le _) _ hx' w, .empty b cap, R⟩
  · rw [if_neg hem] at h
    have hh := AM.andThen_some h; clear h; obtain ⟨q, s0, h0, h⟩ := hh
    obtain ⟨hq, rfl⟩ := ofOption_some h0
    clear h0
    have hh := AM.andThen_some h; clear h; obtain ⟨⟨news, net⟩, s0, h0, h⟩ := hh
    obtain ⟨rfl, q', xcap, xo, xp, xb, hxe, hxe', hxp, hxq, hxf, hxo, hxl, hxc, hnl, _, hnews⟩ := elemsA_sim h0 R hx
    rw [hq] at hxq; cases hxq
    obtain ⟨qn, qo, n, qc⟩ := q
    simp only at *
    subst hxe hxe'
    have hn0 : 0 < n := by
      rcases Nat.eq_zero_or_pos n with e0 | e0
      · subst e0; simp [isEmptyS] at hem
      · exact e0
    obtain ⟨news', hnr, hncell⟩ := hnews (Nat.le_refl _) hn0
    have hnl' : news'.length = n * j.size := by rw [← hnr.1, hnl, hjs]
    by_cases hnil : isNilS a = true
    · rw [if_pos hnil] at h
      have hh := AM.andThen_some h; clear h; obtain ⟨_, s0, h1, h⟩ := hh
      obtain ⟨hg, rfl⟩ := guard_some h1
      have hh := AM.andThen_some h; clear h; obtain ⟨m, s0, h1, h⟩ := hh
      obtain ⟨rfl, rfl⟩ := ret_some h
      have ha0 : a' = .slice none 0 0 := by
        cases ha <;> simp [isNilS] at hnil
        rfl
      subst ha0
      have hrun := run_append_nil (P := P) w t ty e j z hu hj hz ⟨xp.blk, xo, none⟩ n xcap news' hnl' hncell hn0 (by omega) (by rw [hjb]; omega)
      obtain ⟨π', hle, _, hm, R'⟩ := newRow_sim (P := P) h1 R.drew (news'.toArray ++ Builtin.zeroCells z.cells (grownCap w n 0 e - n)) (by
        simp only [Array.toList_append]
        rw [hnr.1, List.take_left' (by simp)]
        exact hnr) (by simp [hnr.1])
      refine ⟨π', _, _, hle, hrun, ?_, R'⟩
      have hcapge : n ≤ grownCap w n 0 e := by unfold grownCap Question.cut; simp
      refine .slice m 0 n i.size _ 0 _ hm (fun _ => rfl) hcapge (.inr ?_)
      simp only [Nat.zero_add, Array.size_append, List.size_toArray, zeroCells_size, hzs, hnl', hjs]
      rw [← Nat.add_mul, Nat.add_sub_cancel' hcapge]
      exact Nat.le_refl _
    · rw [if_neg hnil] at h
      have hh := AM.andThen_some h; clear h; obtain ⟨p, s0, h1, h⟩ := hh
      obtain ⟨hp, rfl⟩ := ofOption_some h1
      clear h1
      have hh := AM.andThen_some h; clear h; obtain ⟨⟨olds, oet⟩, s0, h1, h⟩ := hh
      obtain ⟨rfl, p', acap, ao, ap, ab, hae, hae', hap, hapq, haf, hao, hal, hac, hol, ⟨C, fr, hC, hCs, hfr, cc, hcc⟩, holds⟩ := elemsA_sim h1 R ha
      rw [hp] at hapq; cases hapq
      obtain ⟨pn, po, l, pc⟩ := p
      simp only at *
      subst hae hae'
      have hh := AM.andThen_some h; clear h; obtain ⟨_, s0, h2, h⟩ := hh
      obtain ⟨hg, rfl⟩ := guard_some h2
      clear h2
      obtain ⟨hg1, hg2, rfl, hg4, hg5, hg6⟩ := hg
      subst hg6
      have hh := AM.andThen_some h; clear h; obtain ⟨_, s1, h2, h⟩ := hh
      obtain ⟨⟨y, hy⟩, rfl⟩ := write_some h2
      have hh := AM.andThen_some h; clear h; obtain ⟨m, s2, h3, h⟩ := hh
      obtain ⟨rfl, rfl⟩ := ret_some h
      have hac : ao + acap * i.size ≤ ap.sz := hac.resolve_left (by omega)
      have holds' : ∃ cs' : List Value, LRel π olds cs' ∧ ∀ j v, cs'[j]? = some v → w.cell? ((⟨ap.blk, ao, none⟩ : Addr).add j) = some v := by
        rcases Nat.eq_zero_or_pos l with e0 | e0
        · subst e0
          have : olds = [] := List.eq_nil_of_length_eq_zero (by simpa using hol)
          subst this
          exact ⟨[], LRel.nil, by simp⟩
        · exact holds (Nat.le_refl _) e0
      obtain ⟨olds', hor, hocell⟩ := holds'
      have hol' : olds'.length = l * j.size := by rw [← hor.1, hol, hjs]
      by_cases hfit : l + n ≤ acap
      · -- in place
        have hB := R.dynB pn ap (by rw [hy]; simp) hap
        have hfr' := (hfr hB.1).at_
        obtain ⟨hmeq, hmf, hs'⟩ := alloc_some h3
        simp only [Heap.find_set] at hmf
        have hmne : m ≠ pn := by intro c; rw [if_pos c] at hmf; cases hmf
        rw [if_neg hmne] at hmf
        have hle1 : ao + l * i.size + n * i.size ≤ ap.sz := by
          have : (l + n) * i.size ≤ acap * i.size := Nat.mul_le_mul_right _ hfit
          rw [Nat.add_mul] at this
          omega
        have hst := run_storeCells_fr P ap.blk (ao + l * i.size) oet fr news' 0 C w hC (by rw [← hnr.1, hnl]; omega) (hnr.oneCell hg5) (fun k hk => hfr' k (by omega))
        simp only [Nat.add_zero] at hst
        have hrun := run_append_fits (P := P) (ty := ty) hu hj ⟨ap.blk, ao, none⟩ l acap ⟨xp.blk, xo, none⟩ n xcap news' w hnl' hncell hfit
        rw [add_eq, hjs, hst] at hrun
        have hsl : (spliceL C.toList (ao + l * i.size) news').length = C.size := by rw [splice_length (by simp; rw [← hnr.1, hnl]; omega)]; simp
        have q := R.over (p2 := ⟨ap.blk, ao, ap.sz⟩) (w' := w.setRow ap.blk (spliceL C.toList (ao + l * i.size) news').toArray) hy hap hmf rfl (by simp) (by simp) (by simp) (by simp) (fun k hk => setRow_other w ap.blk k _ hk) (.cells (olds ++ news) oet) (by
          have hlen1 : olds'.length = l * i.size := by rw [← hor.1, hol]
          have hlen2 : news'.length = n * i.size := by rw [← hnr.1, hnl]
          refine ⟨_, fr, setRow_heap w ap.blk C _ oet fr hC, by simp [hsl, hCs], by simp [hol, hnl]; omega, ?_, hfr⟩
          intro k v hv
          simp only [List.getElem?_toArray]
          rw [splice_get (by simp; omega), hlen2]
          rw [List.getElem?_append, hol] at hv
          split at hv
          · rename_i hk
            rw [if_neg (by omega)]
            obtain ⟨v', e', r⟩ := hor.2 k v hv
            have := hocell k v' e'
            rw [add_eq, cell_at hC] at this
            exact ⟨v', by simpa using this, r.mono (PMap.le_upd _ (R.fresh hmf))⟩
          · rename_i hk
            have hk2 : k - l * i.size < n * i.size := by
              have := (List.getElem?_eq_some_iff.1 hv).1
              omega
            rw [if_pos (by omega), show ao + k - (ao + l * i.size) = k - l * i.size by omega]
            obtain ⟨v', e', r⟩ := hnr.2 _ v hv
            exact ⟨v', e', r.mono (PMap.le_upd _ (R.fresh hmf))⟩)
        refine ⟨_, _, _, q.1, hrun, ?_, ?_⟩
        · exact .slice m 0 (l + n) i.size ⟨ap.blk, ao, ap.sz⟩ ao acap (PMap.upd_same _ _ _) (fun _ => rfl) hfit (.inr hac)
        · rw [hs']; exact q.2
      · -- a new row
        have hrun := run_append_grow (P := P) w t ty oet j z hu hj hz ⟨ap.blk, ao, none⟩ l acap olds' hol' hocell ⟨xp.blk, xo, none⟩ n xcap news' hnl' hncell (by omega) (by omega) (by
          rw [hjb]; exact growslice_fits (by omega) hg1)
        have hlr : LRel π (olds ++ news) (olds' ++ news') := hor.append hnr
        obtain ⟨π', hle, _, hm, R'⟩ := newRow_sim (P := P) h3 (R.kill hy).drew (olds'.toArray ++ news'.toArray ++ Builtin.zeroCells z.cells (grownCap w (l + n) acap oet - (l + n))) (by
          simp only [Array.toList_append]
          rw [hlr.1, List.take_left' (by simp)]
          exact hlr) (by simp [hor.1, hnr.1])
        refine ⟨π', _, _, hle, hrun, ?_, R'⟩
        have hcapge : l + n ≤ grownCap w (l + n) acap oet := by unfold grownCap Question.cut; simp
        refine .slice m 0 (l + n) i.size _ 0 _ hm (fun _ => rfl) hcapge (.inr ?_)
        simp only [Nat.zero_add, Array.size_append, List.size_toArray, zeroCells_size, hzs, hnl', hol', hjs]
        rw [← Nat.add_mul, ← Nat.add_mul, Nat.add_sub_cancel' hcapge]
        exact Nat.le_refl _
end Go.Proofs.YtgpfgcbolinncaaGreat.Abs
set_option linter.unusedVariables false
set_option linter.unusedSimpArgs false
namespace Go.Proofs.YtgpfgcbolinncaaGreat.Abs
open Go Go.RowKit

/-! ### maps -/
def asMap : AObj → Option (List MapEntry × Nat)
  | .map es clk => some (es, clk)
  | _ => none
theorem asMap_some {o : AObj} {p : List MapEntry × Nat} (h : asMap o = some p) : o = .map p.1 p.2 := by
  cases o <;> simp [asMap] at h
  subst h; rfl
def mapName : Value → Option Nat
  | .map (some n) => some n
  | _ => none
theorem mapName_some {v : Value} {n : Nat} (h : mapName v = some n) : v = .map (some n) := by
  unfold mapName at h
  split at h
  · simp only [Option.some.injEq] at h; subst h; rfl
  · cases h
structure MapT where
  key : TypeId
  kd : TypeDesc
  elem : TypeId
def simpleKey : TypeDesc → Bool
  | .int _ | .string | .bool => true
  | _ => false
def mapT (P : Program) (t : TypeId) : Option MapT := match P.underlying t with
  | some (.map k e) => match P.underlying k with
    | some d => if simpleKey d then some ⟨k, d, e⟩ else none
    | none => none
  | _ => none
theorem mapT_some {P : Program} {t : TypeId} {m : MapT} (h : mapT P t = some m) : P.underlying t = some (.map m.key m.elem) ∧ P.underlying m.key = some m.kd ∧ simpleKey m.kd = true := by
  unfold mapT at h
  split at h
  · rename_i k e hu
    split at h
    · rename_i d hd
      split at h
      · rename_i hs
        simp only [Option.some.injEq] at h
        subst h
        exact ⟨hu, hd, hs⟩
      · cases h
    · cases h
  · cases h
theorem checkKey_ok {P : Program} {k : TypeId} {d : TypeDesc} (hd : P.underlying k = some d) (hs : simpleKey d = true) (b : Bool) (v : Value) (w : World) : (Instr.checkKey b 10000 k v).run P w = .ok () w := by
  show (Instr.checkKey b (9999 + 1) k v).run P w = _
  unfold Instr.checkKey
  simp only [Sem.run_bind, run_underlying hd, Result.andThen_ok]
  cases d <;> simp [simpleKey] at hs <;> rfl

theorem sameNow_rel {π : PMap} {d : TypeDesc} {k k' e e' : Value} {b : Bool} (h : Instr.sameNow d k e = some b) (hk : VRel π k k') (he : VRel π e e') : k' = k ∧ e' = e := by
  unfold Instr.sameNow at h
  split at h <;> first
    | (cases hk; cases he; exact ⟨rfl, rfl⟩)
    | (cases h)
theorem EntsRel.tail {π : PMap} {e : MapEntry} {es : List MapEntry} {ES : List MapEntry} (h : ES.length = (e :: es).length ∧ ∀ (i : Nat) (x : MapEntry), (e :: es)[i]? = some x → ∃ X : MapEntry, ES[i]? = some X ∧ EntRel π x X) :
    ∃ E R, ES = E :: R ∧ EntRel π e E ∧ (R.length = es.length ∧ ∀ (i : Nat) (x : MapEntry), es[i]? = some x → ∃ X : MapEntry, R[i]? = some X ∧ EntRel π x X) := by
  cases ES with
  | nil => simp at h
  | cons E R =>
    obtain ⟨X, a, b⟩ := h.2 0 e rfl
    simp at a; subst a
    refine ⟨E, R, rfl, b, by simpa using h.1, fun i x hx => ?_⟩
    have := h.2 (i + 1) x (by simpa using hx)
    simpa using this
theorem findNow_rel {π : PMap} {d : TypeDesc} {k k' : Value} (hk : VRel π k k') : ∀ (es ES : List MapEntry) (i : Nat) (r : Option (Nat × Value)), Instr.findNow d k es i = some r →
    (ES.length = es.length ∧ ∀ (i : Nat) (x : MapEntry), es[i]? = some x → ∃ X : MapEntry, ES[i]? = some X ∧ EntRel π x X) →
    ∃ r', Instr.findNow d k' ES i = some r' ∧ (match r, r' with | none, none => True | some (a, v), some (b, v') => a = b ∧ VRel π v v' ∧ i ≤ a ∧ ∃ E, ES[a - i]? = some E ∧ Instr.sameNow d k' E.key = some true | _, _ => False)
  | [], ES, i, r, h, hr => by
    simp only [Instr.findNow, Option.some.injEq] at h
    subst h
    have : ES = [] := List.eq_nil_of_length_eq_zero (by simpa using hr.1)
    subst this
    exact ⟨none, rfl, trivial⟩
  | e :: es, ES, i, r, h, hr => by
    obtain ⟨E, R, rfl, he, hR⟩ := EntsRel.tail hr
    simp only [Instr.findNow] at h ⊢
    split at h
    · rename_i hs
      simp only [Option.some.injEq] at h
      subst h
      obtain ⟨e1, e2⟩ := sameNow_rel hs hk he.key
      rw [e1, e2, hs]
      exact ⟨some (i, E.val), rfl, rfl, he.val, Nat.le_refl _, E, by simp, by rw [e2]; exact hs⟩
    · rename_i hs
      obtain ⟨e1, e2⟩ := sameNow_rel hs hk he.key
      obtain ⟨r', a, b⟩ := findNow_rel hk es R (i + 1) r h hR
      rw [e2]
      rw [e1] at a ⊢
      rw [hs]
      refine ⟨r', a, ?_⟩
      cases r with
      | none => cases r' with
        | none => trivial
        | some q => exact b
      | some p => cases r' with
        | none => exact b
        | some q =>
          obtain ⟨b1, b2, b3, X, b4, b5⟩ := b
          refine ⟨b1, b2, by omega, X, ?_, by rw [e1] at b5; exact b5⟩
          rw [show p.1 - i = (p.1 - (i + 1)) + 1 by omega]
          simpa using b4
    · cases h
def zeroV (P : Program) (t : TypeId) : Option Value := match P.info? t with
  | some i => match i.zero with
    | some z => if plain 2 z then some z else none
    | none => none
  | none => none
theorem zeroV_sim {P : Program} {t : TypeId} {z : Value} (h : zeroV P t = some z) (w : World) : (zeroValue t).run P w = .ok z w ∧ ∀ π, VRel π z z := by
  unfold zeroV at h
  split at h
  · rename_i i hi
    split at h
    · rename_i z' hz
      split at h
      · rename_i hp
        simp only [Option.some.injEq] at h
        subst h
        exact ⟨by simp [zeroValue, typeInfo, hi, hz], fun π => plain_rel π 2 _ hp⟩
      · cases h
    · cases h
  · cases h
def entriesA (m : Value) : AM (List MapEntry) := match m with
  | .map none => AM.ret []
  | m => AM.andThen (AM.ofOption (mapName m)) fun n => AM.andThen (AM.read n) fun o => AM.andThen (AM.ofOption (asMap o)) fun p => AM.ret p.1
def lookRes (P : Program) (et : TypeId) (ok : Bool) : Option (Nat × Value) → Option Value
  | some (_, v) => some (if ok then .tuple #[v, .bool true] else v)
  | none => match zeroV P et with
    | some z => some (if ok then .tuple #[z, .bool false] else z)
    | none => none
def lookupA (P : Program) (t : TypeId) (m k : Value) (ok : Bool) : AM Value :=
  AM.andThen (AM.ofOption (mapT P t)) fun mt => AM.andThen (entriesA m) fun es => AM.andThen (AM.ofOption (Instr.findNow mt.kd k es 0)) fun r => AM.ofOption (lookRes P mt.elem ok r)
theorem entriesA_sim {B : Nat} {w0 : World} {π : PMap} {w : World} {s s' : ST} {m m' : Value} {es : List MapEntry} (h : entriesA m s = some (es, s')) (R : Rel B w0 π s.heap w) (hm : VRel π m m') :
    s' = s ∧ ∃ ES : Array MapEntry, ((m' = .map none ∧ ES = #[]) ∨ (∃ b clk, m' = .map (some b) ∧ w.heap[b]? = some (.map ES clk))) ∧ EntsRel π es ES := by
  unfold entriesA at h
  cases hm with
  | nilMap =>
    obtain ⟨rfl, rfl⟩ := ret_some h
    exact ⟨rfl, #[], .inl ⟨rfl, rfl⟩, rfl, by simp⟩
  | map n p hp =>
    have hh := AM.andThen_some h; clear h; obtain ⟨q, s0, h0, h⟩ := hh
    obtain ⟨hq, rfl⟩ := ofOption_some h0
    simp [mapName] at hq
    subst hq
    have hh := AM.andThen_some h; clear h; obtain ⟨o, s1, h1, h⟩ := hh
    obtain ⟨hf, rfl⟩ := read_some h1
    have hh := AM.andThen_some h; clear h; obtain ⟨ec, s1, h1, h⟩ := hh
    obtain ⟨hce, rfl⟩ := ofOption_some h1
    obtain ⟨rfl, rfl⟩ := ret_some h
    have hce := asMap_some hce
    subst hce
    obtain ⟨p', hp', hO⟩ := R.obj _ _ hf
    rw [hp] at hp'; cases hp'
    obtain ⟨ES, hh, hE⟩ := hO
    exact ⟨rfl, ES, .inr ⟨p.blk, _, rfl, hh⟩, hE⟩
  | _ =>
    have hh := AM.andThen_some h; clear h; obtain ⟨q, s0, h0, h⟩ := hh
    obtain ⟨hq, rfl⟩ := ofOption_some h0
    simp [mapName] at hq
theorem run_getObj_map {P : Program} {w : World} {b : Nat} {ES : Array MapEntry} {clk : Nat} (h : w.heap[b]? = some (.map ES clk)) : (getObj b).run P w = .ok (.map ES clk) w := by
  simp [getObj, Sem.run, h]
theorem lookupA_sim {P : Program} {B : Nat} {w0 : World} {π : PMap} {w : World} {s s' : ST} {t : TypeId} {m m' k k' x : Value} {ok : Bool} (h : lookupA P t m k ok s = some (x, s')) (R : Rel B w0 π s.heap w) (hm : VRel π m m') (hk : VRel π k k') :
    ∃ x', (Instr.lookup t m' k' ok).run P w = .ok x' w ∧ VRel π x x' ∧ s' = s := by
  unfold lookupA at h
  have hh := AM.andThen_some h; clear h; obtain ⟨mt, s0, h0, h⟩ := hh
  obtain ⟨hmt, rfl⟩ := ofOption_some h0
  obtain ⟨hu, hd, hs⟩ := mapT_some hmt
  have hh := AM.andThen_some h; clear h; obtain ⟨es, s1, h1, h⟩ := hh
  obtain ⟨rfl, ES, hrun, hE⟩ := entriesA_sim h1 R hm
  have hh := AM.andThen_some h; clear h; obtain ⟨r, s1, h1, h⟩ := hh
  obtain ⟨hr, rfl⟩ := ofOption_some h1
  obtain ⟨hx, rfl⟩ := ofOption_some h
  obtain ⟨r', hr', hrr⟩ := findNow_rel hk es ES.toList 0 r hr ⟨by simpa using hE.1, fun i x hx => by simpa using hE.2 i x hx⟩
  refine (fun (g : ∃ x', (Instr.lookup t m' k' ok).run P w = .ok x' w ∧ VRel π x x') => let ⟨x', a, b⟩ := g; ⟨x', a, b, rfl⟩) ?_
  have key : ∀ g : Option (Nat × Value) → Sem Value, (Instr.lookup t m' k' ok).run P w = (do
      let (v, ok') ← (match r' with
        | some (_, v) => pure (v, true)
        | none => do pure (← zeroValue mt.elem, false) : Sem (Value × Bool))
      pure (if ok then .tuple #[v, .bool ok'] else v) : Sem Value).run P w := by
    intro _
    unfold Instr.lookup
    simp only [Sem.run_bind, run_underlying hu, Result.andThen_ok]
    rcases hrun with ⟨rfl, rfl⟩ | ⟨b, clk, rfl, hb⟩
    · simp only [Sem.run_pure, Result.andThen_ok, checkKey_ok hd hs, Instr.findKey, Sem.run_bind, run_underlying hd, hr']
      cases r' with
      | none => simp only [Sem.run_bind]; cases (zeroValue mt.elem).run P w <;> rfl
      | some p => rfl
    · simp only [Sem.run_bind, run_getObj_map hb, Sem.run_pure, Result.andThen_ok, checkKey_ok hd hs, Instr.findKey, run_underlying hd, hr']
      cases r' with
      | none => simp only [Sem.run_bind]; cases (zeroValue mt.elem).run P w <;> rfl
      | some p => rfl
  rw [key (fun _ => stuck "")]
  cases r with
  | none => cases r' with
    | some q => exact hrr.elim
    | none =>
      simp only [lookRes] at hx
      split at hx
      · rename_i z hz
        simp only [Option.some.injEq] at hx
        subst hx
        obtain ⟨hz1, hz2⟩ := zeroV_sim hz w
        cases ok
        · exact ⟨z, by simp [hz1], hz2 π⟩
        · have q := VRels.two (hz2 π) (.bool false)
          exact ⟨.tuple #[z, .bool false], by simp [hz1], .tuple _ _ q.1 q.2⟩
      · cases hx
  | some p => cases r' with
    | none => exact hrr.elim
    | some q =>
      obtain ⟨a, v⟩ := p
      obtain ⟨b, v'⟩ := q
      obtain ⟨_, hv, _⟩ := hrr
      simp only [lookRes, Option.some.injEq] at hx
      subst hx
      cases ok
      · exact ⟨v', by simp, hv⟩
      · have q := VRels.two hv (.bool true)
        exact ⟨.tuple #[v', .bool true], by simp, .tuple _ _ q.1 q.2⟩
end Go.Proofs.YtgpfgcbolinncaaGreat.Abs
set_option linter.unusedVariables false
set_option linter.unusedSimpArgs false
namespace Go.Proofs.YtgpfgcbolinncaaGreat.Abs
open Go Go.RowKit

theorem run_setObj {P : Program} {w : World} {b : Nat} {o : Obj} (o' : Obj) (h : w.heap[b]? = some o) (hc : ∀ c e f, o ≠ .cells c e f) : (setObj b o').run P w = .ok () { w with heap := w.heap.setIfInBounds b o' } := by
  unfold setObj
  simp only [Sem.run, h]
  all_goals (cases o <;> first | rfl | exact absurd rfl (hc _ _ _))

/-! ### make(map), len, m[k] = v -/
def makeMapA (P : Program) (t : TypeId) (r : Option Value) : AM Value :=
  AM.andThen (AM.guard (r.isNone = true)) fun _ => AM.andThen (AM.alloc (.map [] 0)) fun n => AM.ret (.map (some n))
theorem makeMapA_sim {P : Program} {B : Nat} {w0 : World} {π : PMap} {w : World} {s s' : ST} {t : TypeId} {r r' : Option Value} {x : Value} (h : makeMapA P t r s = some (x, s')) (R : Rel B w0 π s.heap w) (hr : ORelV π r r') :
    ∃ π' x' w', π.le π' ∧ (Instr.makeMap t r').run P w = .ok x' w' ∧ VRel π' x x' ∧ Rel B w0 π' s'.heap w' := by
  unfold makeMapA at h
  have hh := AM.andThen_some h; clear h; obtain ⟨_, s0, h0, h⟩ := hh
  obtain ⟨hg, rfl⟩ := guard_some h0
  have hh := AM.andThen_some h; clear h; obtain ⟨n, s1, h1, h⟩ := hh
  obtain ⟨rfl, rfl⟩ := ret_some h
  obtain ⟨hn, hf, rfl⟩ := alloc_some h1
  cases r with
  | some _ => simp at hg
  | none => cases r' with
    | some _ => exact hr.elim
    | none =>
      have q := R.alloc hf (.map #[] 0) (.map [] 0) 0 ⟨#[], heap_alloc_new w _, rfl, by simp⟩
      exact ⟨_, .map (some w.heap.size), _, q.1, rfl, .map n ⟨w.heap.size, 0, 0⟩ (PMap.upd_same _ _ _), q.2⟩
def mapLenA (P : Program) (t : TypeId) (m : Value) : AM Value :=
  AM.andThen (AM.ofOption (mapT P t)) fun mt => AM.andThen (entriesA m) fun es => AM.ret (.int .i64 es.length)
theorem mapLenA_sim {P : Program} {B : Nat} {w0 : World} {π : PMap} {w : World} {s s' : ST} {t ty : TypeId} {ts : Array TypeId} {m m' x : Value} (h : mapLenA P t m s = some (x, s')) (R : Rel B w0 π s.heap w) (hm : VRel π m m') (ht : ts[0]? = some t) :
    (Builtin.len_ ts ty #[m']).run P w = .ok x w ∧ VRel π x x ∧ s' = s := by
  unfold mapLenA at h
  have hh := AM.andThen_some h; clear h; obtain ⟨mt, s0, h0, h⟩ := hh
  obtain ⟨hmt, rfl⟩ := ofOption_some h0
  obtain ⟨hu, hd, hs⟩ := mapT_some hmt
  have hh := AM.andThen_some h; clear h; obtain ⟨es, s1, h1, h⟩ := hh
  obtain ⟨rfl, ES, hrun, hE⟩ := entriesA_sim h1 R hm
  obtain ⟨rfl, rfl⟩ := ret_some h
  refine ⟨?_, .int _ _, rfl⟩
  rcases hrun with ⟨rfl, rfl⟩ | ⟨b, clk, rfl, hb⟩
  · have := hE.1
    simp at this
    simp [Builtin.len_, ht, run_underlying hu, goInt, ← this]
  · simp [Builtin.len_, ht, run_underlying hu, goInt, run_getObj_map hb, hE.1]

def putEntry (es : List MapEntry) (clk : Nat) (k v : Value) : Option (Nat × Value) → List MapEntry × Nat
  | some (i, _) => (match es[i]? with | some e => es.set i { e with key := k, val := v } | none => es, clk)
  | none => (es ++ [{ key := k, val := v, born := clk }], clk + 1)
def mapUpdateA (P : Program) (t : TypeId) (m k v : Value) : AM Unit :=
  AM.andThen (AM.ofOption (mapT P t)) fun mt => AM.andThen (AM.ofOption (mapName m)) fun n => AM.andThen (AM.read n) fun o => AM.andThen (AM.ofOption (asMap o)) fun p =>
  AM.andThen (AM.ofOption (Instr.findNow mt.kd k p.1 0)) fun r => AM.write n (some (.map (putEntry p.1 p.2 k v r).1 (putEntry p.1 p.2 k v r).2))
theorem bytes_eq {a b : ByteArray} (h : (a == b) = true) : a = b := by
  cases a; cases b
  congr 1
  exact eq_of_beq h
theorem bytes_refl (a : ByteArray) : (a == a) = true := by
  cases a with
  | mk d => exact beq_self_eq_true d
theorem sameBits_of {d : TypeDesc} {a b : Value} (h : Instr.sameNow d a b = some true) (n : Nat) : Instr.sameBits n b a = true := by
  unfold Instr.sameNow at h
  split at h
  · split at h
    · rename_i hk
      simp only [Option.some.injEq, beq_iff_eq] at h
      subst hk h
      cases n <;> simp [Instr.sameBits]
    · cases h
  · simp only [Option.some.injEq] at h
    have h := bytes_eq h
    subst h
    cases n <;> simp [Instr.sameBits, bytes_refl]
  · simp only [Option.some.injEq, beq_iff_eq] at h
    subst h
    cases n <;> simp [Instr.sameBits]
  · cases h
theorem EntsRel.set {π : PMap} {es : List MapEntry} {ES : Array MapEntry} (h : EntsRel π es ES) (i : Nat) (f : MapEntry → MapEntry) (e : MapEntry) (he : es[i]? = some e) (e' : MapEntry) (hE : ∀ E, ES[i]? = some E → EntRel π e' (f E)) :
    EntsRel π (es.set i e') (ES.modify i f) := by
  refine ⟨by simp [h.1], fun j x hx => ?_⟩
  rw [List.getElem?_set] at hx
  rw [Array.getElem?_modify]
  split at hx
  · rename_i hij
    split at hx
    · rename_i hl
      simp only [Option.some.injEq] at hx
      subst hx
      rw [if_pos hij]
      have hlt : j < ES.size := by rw [h.1]; omega
      refine ⟨f ES[j], by simp [Array.getElem?_eq_getElem hlt], hE _ (by rw [hij]; exact Array.getElem?_eq_getElem hlt)⟩
    · cases hx
  · rename_i hij
    rw [if_neg hij]
    exact h.2 j x hx
theorem EntsRel.push {π : PMap} {es : List MapEntry} {ES : Array MapEntry} (h : EntsRel π es ES) {e E : MapEntry} (he : EntRel π e E) : EntsRel π (es ++ [e]) (ES.push E) := by
  refine ⟨by simp [h.1], fun j x hx => ?_⟩
  rw [List.getElem?_append] at hx
  rw [Array.getElem?_push, h.1]
  split at hx
  · rename_i hl
    rw [if_neg (by omega)]
    exact h.2 j x hx
  · rename_i hl
    have : j = es.length := by
      have := (List.getElem?_eq_some_iff.1 hx).1
      simp at this; omega
    subst this
    simp at hx
    subst hx
    exact ⟨E, by simp, he⟩
theorem mapUpdateA_sim {P : Program} {B : Nat} {w0 : World} {π : PMap} {w : World} {s s' : ST} {t : TypeId} {m m' k k' v v' : Value} {u : Unit} (h : mapUpdateA P t m k v s = some (u, s')) (R : Rel B w0 π s.heap w) (hm : VRel π m m') (hk : VRel π k k') (hv : VRel π v v') :
    ∃ w', (Instr.mapUpdate t m' k' v').run P w = .ok () w' ∧ Rel B w0 π s'.heap w' := by
  unfold mapUpdateA at h
  have hh := AM.andThen_some h; clear h; obtain ⟨mt, s0, h0, h⟩ := hh
  obtain ⟨hmt, rfl⟩ := ofOption_some h0
  obtain ⟨hu, hd, hs⟩ := mapT_some hmt
  have hh := AM.andThen_some h; clear h; obtain ⟨n, s1, h1, h⟩ := hh
  obtain ⟨hn, rfl⟩ := ofOption_some h1
  have hn := mapName_some hn
  subst hn
  have hh := AM.andThen_some h; clear h; obtain ⟨o, s1, h1, h⟩ := hh
  obtain ⟨hf, rfl⟩ := read_some h1
  have hh := AM.andThen_some h; clear h; obtain ⟨ec, s1, h1, h⟩ := hh
  obtain ⟨hce, rfl⟩ := ofOption_some h1
  obtain ⟨es, clk⟩ := ec
  have hce := asMap_some hce
  subst hce
  have hh := AM.andThen_some h; clear h; obtain ⟨r, s1, h1, h⟩ := hh
  obtain ⟨hr, rfl⟩ := ofOption_some h1
  obtain ⟨⟨x, hx⟩, rfl⟩ := write_some h
  simp only at *
  cases hm with
  | map _ p hp =>
    obtain ⟨p', hp', hO⟩ := R.obj _ _ hf
    rw [hp] at hp'; cases hp'
    obtain ⟨ES, hh, hE⟩ := hO
    obtain ⟨r', hr', hrr⟩ := findNow_rel hk es ES.toList 0 r hr ⟨by simpa using hE.1, fun i x hx => by simpa using hE.2 i x hx⟩
    have hB := R.dynB n p (by rw [hx]; simp) hp
    have hput : ∀ o', ({ w with heap := w.heap.setIfInBounds p.blk o' } : World).heap[p.blk]? = some o' := fun o' => by
      simp [Array.getElem?_setIfInBounds, hB.2]
    have hoth : ∀ o' k, k ≠ p.blk → ({ w with heap := w.heap.setIfInBounds p.blk o' } : World).heap[k]? = w.heap[k]? := fun o' k hk' => by
      simp [Array.getElem?_setIfInBounds, Ne.symm hk']
    cases r with
    | none => cases r' with
      | some q => exact hrr.elim
      | none =>
        refine ⟨{ w with heap := w.heap.setIfInBounds p.blk (.map (ES.push { key := k', val := v', born := clk }) (clk + 1)) }, ?_, R.turn hx hp (w' := { w with heap := w.heap.setIfInBounds p.blk (.map (ES.push { key := k', val := v', born := clk }) (clk + 1)) }) rfl rfl rfl (by simp) (fun k hk' => hoth _ k hk') (.map (es ++ [⟨k, v, clk⟩]) (clk + 1)) ⟨_, hput _, hE.push (e := ⟨k, v, clk⟩) (E := ⟨k', v', clk⟩) ⟨hk, hv, rfl⟩⟩⟩
        unfold Instr.mapUpdate
        simp only [Sem.run_bind, run_underlying hu, Result.andThen_ok, run_getObj_map hh, checkKey_ok hd hs, Instr.findKey, run_underlying hd, hr', Sem.run_pure]
        exact run_setObj _ hh (by simp)
    | some a => cases r' with
      | none => exact hrr.elim
      | some b =>
        obtain ⟨i, av⟩ := a
        obtain ⟨j, bv⟩ := b
        obtain ⟨rfl, _, _, E, hEi, hsb⟩ := hrr
        simp only [Nat.sub_zero, Array.getElem?_toList] at hEi
        have hi : i < es.length := by
          have := (Array.getElem?_eq_some_iff.1 hEi).1
          rw [hE.1] at this; exact this
        refine ⟨{ w with heap := w.heap.setIfInBounds p.blk (.map (ES.modify i fun e => { e with key := k', val := v' }) clk) }, ?_, ?_⟩
        · unfold Instr.mapUpdate
          simp only [Sem.run_bind, run_underlying hu, Result.andThen_ok, run_getObj_map hh, checkKey_ok hd hs, Instr.findKey, run_underlying hd, hr', Sem.run_pure]
          have hks : (Instr.keyThatStays (((ES[i]?).map (·.key)).getD k') k').run P w = .ok k' w := by
            unfold Instr.keyThatStays
            rw [hEi]
            simp [sameBits_of hsb]
          rw [hks]
          simp only [Result.andThen_ok]
          exact run_setObj _ hh (by simp)
        · have := R.turn hx hp (w' := { w with heap := w.heap.setIfInBounds p.blk (.map (ES.modify i fun e => { e with key := k', val := v' }) clk) }) rfl rfl rfl (by simp) (fun k hk' => hoth _ k hk') (.map (es.set i { es[i] with key := k, val := v }) clk) ⟨_, hput _, hE.set i _ es[i] (List.getElem?_eq_getElem hi) _ (fun E' hE' => by
            obtain ⟨X, hX, hXr⟩ := hE.2 i es[i] (List.getElem?_eq_getElem hi)
            rw [hX] at hE'; cases hE'
            exact ⟨hk, hv, hXr.born⟩)⟩
          simpa [putEntry, List.getElem?_eq_getElem hi] using this

/-! ### clear of a slice -/
def clearA (P : Program) (t : TypeId) (x : Value) : AM Unit :=
  AM.andThen (AM.ofOption (sliceElem P t)) fun e =>
  if isEmptyS x then AM.ret ()
  else AM.andThen (AM.ofOption (asSlice x)) fun q => AM.andThen (AM.read q.1) fun o => AM.andThen (AM.ofOption (asCells o)) fun ce => AM.andThen (AM.ofOption (zeroL P e)) fun z =>
    AM.andThen (AM.guard (z.all cellOk = true ∧ q.2.1 + q.2.2.1 * z.length ≤ ce.1.length)) fun _ => AM.write q.1 (some (.cells (spliceL ce.1 q.2.1 (List.replicate q.2.2.1 z).flatten) ce.2))
theorem zeroCells_list (z : Array Value) (n : Nat) : (Builtin.zeroCells z n).toList = (List.replicate n z.toList).flatten := by
  apply List.ext_getElem?
  intro i
  by_cases hi : i < n * z.size
  · rw [flatten_get z.toList n i (by simpa using hi)]
    have hz : 0 < z.size := by rcases Nat.eq_zero_or_pos z.size with e | e; · rw [e] at hi; simp at hi
                               · exact e
    have hmod : i % z.size < z.size := Nat.mod_lt _ hz
    simp [Builtin.zeroCells, hi, hmod]
  · rw [List.getElem?_eq_none (by simp [Builtin.zeroCells]; omega), List.getElem?_eq_none (by simp; omega)]
theorem LRel.flat {π : PMap} {z : List Value} (h : LRel π z z) (n : Nat) : LRel π (List.replicate n z).flatten (List.replicate n z).flatten := by
  induction n with
  | zero => exact LRel.nil
  | succ n ih => rw [List.replicate_succ, List.flatten_cons]; exact h.append ih
theorem clearA_sim {P : Program} {B : Nat} {w0 : World} {π : PMap} {w : World} {s s' : ST} {t ty : TypeId} {ts : Array TypeId} {x x' : Value} {u : Unit} (h : clearA P t x s = some (u, s')) (R : Rel B w0 π s.heap w) (hx : VRel π x x') (ht : ts[0]? = some t) :
    ∃ w', (Builtin.clear_ ts ty #[x']).run P w = .ok (.tuple #[]) w' ∧ Rel B w0 π s'.heap w' := by
  unfold clearA at h
  have hh := AM.andThen_some h; clear h; obtain ⟨e, s0, h0, h⟩ := hh
  obtain ⟨hu, rfl⟩ := ofOption_some h0
  have hu := sliceElem_some hu
  by_cases hem : isEmptyS x = true
  · rw [if_pos hem] at h
    obtain ⟨_, rfl⟩ := ret_some h
    refine ⟨w, ?_, R⟩
    cases hx <;> simp [isEmptyS] at hem
    · simp [Builtin.clear_, ht, run_underlying hu]
    · subst hem; simp [Builtin.clear_, ht, run_underlying hu]
  · rw [if_neg hem] at h
    have hh := AM.andThen_some h; clear h; obtain ⟨q, s1, h1, h⟩ := hh
    obtain ⟨hq, rfl⟩ := ofOption_some h1
    obtain ⟨n, off, len, cs⟩ := q
    have hq := asSlice_some hq
    simp only at hq
    subst hq
    have hh := AM.andThen_some h; clear h; obtain ⟨o, s1, h1, h⟩ := hh
    obtain ⟨hf, rfl⟩ := read_some h1
    have hh := AM.andThen_some h; clear h; obtain ⟨ce, s1, h1, h⟩ := hh
    obtain ⟨hce, rfl⟩ := ofOption_some h1
    obtain ⟨c, et⟩ := ce
    have hce := asCells_some hce
    subst hce
    have hh := AM.andThen_some h; clear h; obtain ⟨z, s1, h1, h⟩ := hh
    obtain ⟨hz, rfl⟩ := ofOption_some h1
    have hh := AM.andThen_some h; clear h; obtain ⟨_, s1, h1, h⟩ := hh
    obtain ⟨hg, rfl⟩ := guard_some h1
    obtain ⟨⟨y, hy⟩, rfl⟩ := write_some h
    simp only at *
    obtain ⟨zv, hzr, hzc, hzz⟩ := zero_sim hz
    cases hx with
    | slice _ _ _ _ p o cap hp ho hl hc =>
      have hlen : len ≠ 0 := by intro c; subst c; simp [isEmptyS] at hem
      have ho := ho (by omega)
      subst ho
      obtain ⟨p', hp', hO⟩ := R.obj n _ hf
      rw [hp] at hp'; cases hp'
      obtain ⟨C, fr, hh, hsz, hlc, hcr, hfr⟩ := hO
      have hB := R.dynB n p (by rw [hy]; simp) hp
      have hfl : (List.replicate len z).flatten.length = len * z.length := by simp
      have hzzl := (hzz π).flat len
      have hst := run_storeCells_fr P p.blk (p.base + off) et fr (List.replicate len z).flatten 0 C w hh (by rw [hfl]; omega) (hzzl.oneCell (by
        rw [List.all_eq_true]
        intro v hv
        obtain ⟨l, hl', hv'⟩ := List.mem_flatten.1 hv
        rw [(List.mem_replicate.1 hl').2] at hv'
        exact List.all_eq_true.1 hg.1 v hv')) (fun k hk => (hfr hB.1).at_ k (by omega))
      simp only [Nat.add_zero] at hst
      refine ⟨w.setRow p.blk (spliceL C.toList (p.base + off) (List.replicate len z).flatten).toArray, ?_, R.turn hy hp (by simp) (by simp) (by simp) (by simp) (fun k hk => setRow_other w p.blk k _ hk) _ ?_⟩
      · have hzl : (Builtin.zeroCells zv.cells len).toList = (List.replicate len z).flatten := by rw [zeroCells_list, hzc]
        obtain ⟨l, rfl⟩ : ∃ l, len = l + 1 := ⟨len - 1, by omega⟩
        simp [Builtin.clear_, ht, run_underlying hu, hzr w, hzl, hst]
      · have hlen' : (spliceL C.toList (p.base + off) (List.replicate len z).flatten).length = C.size := by rw [splice_length (by rw [hfl]; simp; omega)]; simp
        refine ⟨_, fr, setRow_heap w p.blk C _ et fr hh, by simp [hlen', hsz], by rw [splice_length (by rw [hfl]; omega)]; exact hlc, splice_sim hcr hzzl (by rw [hfl]; omega) (by omega), hfr⟩
end Go.Proofs.YtgpfgcbolinncaaGreat.Abs
set_option linter.unusedVariables false
set_option linter.unusedSimpArgs false
namespace Go.Proofs.YtgpfgcbolinncaaGreat.Abs
open Go Go.RowKit

/-! ### make([]T, n) -/
def natI : Value → Option Nat
  | .int .i64 n => if 0 ≤ n ∧ n ≤ 16777216 then some n.toNat else none
  | _ => none
theorem natI_some {v : Value} {n : Nat} (h : natI v = some n) : v = .int .i64 n ∧ n ≤ 16777216 := by
  unfold natI at h
  split at h
  · split at h
    · rename_i hb
      simp only [Option.some.injEq] at h
      subst h
      exact ⟨by congr 1; omega, by omega⟩
    · cases h
  · cases h
def infoB (P : Program) (e : TypeId) : Option Nat := (P.info? e).map (·.bytes)
def makeSliceA (P : Program) (t : TypeId) (l c : Value) : AM Value :=
  AM.andThen (AM.ofOption (sliceElem P t)) fun e => AM.andThen (AM.ofOption (sizeA P e)) fun size => AM.andThen (AM.ofOption (infoB P e)) fun bytes =>
  AM.andThen (AM.ofOption (natI l)) fun ln => AM.andThen (AM.ofOption (natI c)) fun cn => AM.andThen (AM.ofOption (zerosL P e size cn)) fun z =>
  AM.andThen (AM.guard (ln ≤ cn ∧ bytes * cn ≤ 281474976710656)) fun _ => AM.andThen (newRowA e z) fun n => AM.ret (.slice (some ⟨n, 0, none⟩) ln size)
theorem makeSliceA_sim {P : Program} {B : Nat} {w0 : World} {π : PMap} {w : World} {s s' : ST} {t : TypeId} {l l' c c' x : Value} (h : makeSliceA P t l c s = some (x, s')) (R : Rel B w0 π s.heap w) (hl : VRel π l l') (hc : VRel π c c') :
    ∃ π' x' w', π.le π' ∧ (Instr.makeSlice t l' c').run P w = .ok x' w' ∧ VRel π' x x' ∧ Rel B w0 π' s'.heap w' := by
  unfold makeSliceA at h
  have hh := AM.andThen_some h; clear h; obtain ⟨e, s0, h0, h⟩ := hh
  obtain ⟨hu, rfl⟩ := ofOption_some h0
  have hu := sliceElem_some hu
  have hh := AM.andThen_some h; clear h; obtain ⟨size, s1, h1, h⟩ := hh
  obtain ⟨hs, rfl⟩ := ofOption_some h1
  have hh := AM.andThen_some h; clear h; obtain ⟨bytes, s1, h1, h⟩ := hh
  obtain ⟨hb, rfl⟩ := ofOption_some h1
  have hh := AM.andThen_some h; clear h; obtain ⟨ln, s1, h1, h⟩ := hh
  obtain ⟨hln, rfl⟩ := ofOption_some h1
  obtain ⟨rfl, hl1⟩ := natI_some hln
  have hh := AM.andThen_some h; clear h; obtain ⟨cn, s1, h1, h⟩ := hh
  obtain ⟨hcn, rfl⟩ := ofOption_some h1
  obtain ⟨rfl, hc1⟩ := natI_some hcn
  have hh := AM.andThen_some h; clear h; obtain ⟨z, s1, h1, h⟩ := hh
  obtain ⟨hz, rfl⟩ := ofOption_some h1
  have hh := AM.andThen_some h; clear h; obtain ⟨_, s1, h1, h⟩ := hh
  obtain ⟨hg, rfl⟩ := guard_some h1
  have hh := AM.andThen_some h; clear h; obtain ⟨n, s1, h2, h⟩ := hh
  obtain ⟨rfl, rfl⟩ := ret_some h
  cases hl; cases hc
  obtain ⟨Z, hZ, hZz, hzz, hzl⟩ := zerosL_sim hz
  have hsz : ((Array.range (cn * size)).map (Z[· % Z.size]!)).size = cn * size := by simp
  obtain ⟨π', hle, hr, hn, R'⟩ := newRow_sim (P := P) h2 R ((Array.range (cn * size)).map (Z[· % Z.size]!)) (by rw [hZz, List.take_of_length_le (Nat.le_refl _)]; exact hzz π) (by rw [hsz, hzl]; exact Nat.le_refl _)
  refine ⟨π', .slice (some ⟨w.heap.size, 0, none⟩) ln cn, _, hle, ?_, ?_, R'⟩
  · obtain ⟨i, hi, hib⟩ : ∃ i, P.info? e = some i ∧ i.bytes = bytes := by
      unfold infoB at hb
      cases q : P.info? e with
      | none => simp [q] at hb
      | some i => simp [q] at hb; exact ⟨i, rfl, hb⟩
    have wl : IntKind.i64.wrap (ln : Int) = ln := wrap_range (by simp only [inRange, Bool.and_eq_true, decide_eq_true_eq]; omega)
    have wc : IntKind.i64.wrap (cn : Int) = cn := wrap_range (by simp only [inRange, Bool.and_eq_true, decide_eq_true_eq]; omega)
    unfold Instr.makeSlice
    simp only [Sem.run_bind, run_underlying hu, Result.andThen_ok, asInt, asIntOf, Sem.run_pure, typeInfo, run_program, hi, wl, wc, hib]
    have hb2 : (bytes : Int) * (cn : Int) ≤ 281474976710656 := by rw [← Int.natCast_mul]; exact Int.ofNat_le.2 hg.2
    rw [if_neg (by simp; omega)]
    rcases hZ with ⟨h0, rfl⟩ | ⟨h0, zv, hzv, rfl⟩
    · simp [sizeA_run hs, h0]
      simp [h0] at hr
      simp [hr]
    · simp [sizeA_run hs, h0, hzv w, hr]
  · refine .slice n 0 ln size _ 0 cn hn (fun _ => rfl) hg.1 (.inr ?_)
    simp

/-! ### strings and bytes -/
def isU8 (P : Program) (e : TypeId) : Bool := match P.underlying e with | some (.int .u8) => true | _ => false
def isStrT (P : Program) (t : TypeId) : Bool := match P.underlying t with | some .string => true | _ => false
theorem isU8_some {P : Program} {e : TypeId} (h : isU8 P e = true) : P.underlying e = some (.int .u8) := by
  unfold isU8 at h; split at h
  · assumption
  · cases h
theorem isStrT_some {P : Program} {e : TypeId} (h : isStrT P e = true) : P.underlying e = some .string := by
  unfold isStrT at h; split at h
  · assumption
  · cases h
def asStr : Value → Option ByteArray
  | .string s => some s
  | _ => none
theorem asStr_some {v : Value} {s : ByteArray} (h : asStr v = some s) : v = .string s := by
  cases v <;> simp [asStr] at h
  subst h; rfl
def byteOfV : Value → Option UInt8
  | .int .u8 n => some (UInt8.ofNat n.toNat)
  | _ => none
def bytesOf : List Value → Option (List UInt8)
  | [] => some []
  | v :: r => match byteOfV v, bytesOf r with
    | some b, some l => some (b :: l)
    | _, _ => none
theorem bytesOf_some : ∀ (c : List Value) (l : List UInt8), bytesOf c = some l → ∃ xs : List Int, c = xs.map (Value.int .u8) ∧ l = xs.map fun n => UInt8.ofNat n.toNat
  | [], l, h => by simp only [bytesOf, Option.some.injEq] at h; subst h; exact ⟨[], rfl, rfl⟩
  | v :: r, l, h => by
    simp only [bytesOf] at h
    split at h
    · rename_i b l' hb hl
      simp only [Option.some.injEq] at h
      subst h
      obtain ⟨xs, rfl, rfl⟩ := bytesOf_some r l' hl
      unfold byteOfV at hb
      split at hb
      · rename_i n
        simp only [Option.some.injEq] at hb
        subst hb
        exact ⟨n :: xs, rfl, rfl⟩
      · cases hb
    · cases h
/-- string(b) of bytes -/
def toStringA (P : Program) (src dst : TypeId) (x : Value) : AM Value :=
  AM.andThen (AM.ofOption (sliceElem P src)) fun e => AM.andThen (AM.guard (isStrT P dst = true ∧ isU8 P e = true)) fun _ =>
  if isNilS x then AM.ret (.string ⟨#[]⟩) else
  AM.andThen (AM.ofOption (asSlice x)) fun q => AM.andThen (elemsA x q.2.2.1 1) fun c => AM.andThen (AM.ofOption (bytesOf c.1)) fun l => AM.ret (.string ⟨l.toArray⟩)
theorem toStringA_sim {P : Program} {B : Nat} {w0 : World} {π : PMap} {w : World} {s s' : ST} {src dst : TypeId} {x x' r : Value} (h : toStringA P src dst x s = some (r, s')) (R : Rel B w0 π s.heap w) (hx : VRel π x x') :
    ∃ r', (convert src dst x').run P w = .ok r' w ∧ VRel π r r' ∧ s' = s := by
  unfold toStringA at h
  have hh := AM.andThen_some h; clear h; obtain ⟨e, s0, h0, h⟩ := hh
  obtain ⟨hu, rfl⟩ := ofOption_some h0
  have hu := sliceElem_some hu
  have hh := AM.andThen_some h; clear h; obtain ⟨_, s1, h1, h⟩ := hh
  obtain ⟨⟨hg1, hg2⟩, rfl⟩ := guard_some h1
  have he := isU8_some hg2
  have hd := isStrT_some hg1
  by_cases hnil : isNilS x = true
  · rw [if_pos hnil] at h
    obtain ⟨rfl, rfl⟩ := ret_some h
    have : x' = .slice none 0 0 := by
      cases hx <;> simp [isNilS] at hnil
      rfl
    subst this
    exact ⟨_, run_convert_bytes_nil w src e hu he 0 0 dst hd, .string _, rfl⟩
  · rw [if_neg hnil] at h
    have hh := AM.andThen_some h; clear h; obtain ⟨q, s1, h1, h⟩ := hh
    obtain ⟨hq, rfl⟩ := ofOption_some h1
    have hh := AM.andThen_some h; clear h; obtain ⟨⟨c, ce⟩, s1, h1, h⟩ := hh
    obtain ⟨rfl, q', xcap, xo, xp, xb, hxe, hxe', hxp, hxq, hxf, hxo, hxl, hxc, hnl, _, hnews⟩ := elemsA_sim h1 R hx
    rw [hq] at hxq; cases hxq
    obtain ⟨qn, qo, n, qc⟩ := q
    simp only at *
    subst hxe hxe'
    have hh := AM.andThen_some h; clear h; obtain ⟨l, s1, h2, h⟩ := hh
    obtain ⟨hl, rfl⟩ := ofOption_some h2
    obtain ⟨rfl, rfl⟩ := ret_some h
    obtain ⟨xs, rfl, rfl⟩ := bytesOf_some c l hl
    have hxl' : xs.length = n := by simpa using hnl
    refine ⟨.string (strOfNums xs), ?_, .string _, rfl⟩
    refine run_convert_bytes_arg w src e hu he xp.blk xo n xcap xs hxl' (fun i hi => ?_) dst hd
    obtain ⟨cs', hcr, hcc⟩ := hnews (Nat.le_refl _) (by omega)
    obtain ⟨v', e', r⟩ := hcr.2 i (.int .u8 (xs.getD i 0)) (by simp [List.getD, List.getElem?_eq_getElem (show i < xs.length by omega)])
    cases r
    have := hcc i _ e'
    rwa [add_eq] at this

/-! ### ranges -/
def asIter : AObj → Option (Option Nat × Nat × List Nat × Nat)
  | .mapIter m a b c => some (m, a, b, c)
  | _ => none
theorem asIter_some {o : AObj} {p : Option Nat × Nat × List Nat × Nat} (h : asIter o = some p) : o = .mapIter p.1 p.2.1 p.2.2.1 p.2.2.2 := by
  cases o <;> simp [asIter] at h
  subst h; rfl
def asSIter : AObj → Option (ByteArray × Nat)
  | .strIter s p => some (s, p)
  | _ => none
theorem asSIter_some {o : AObj} {p : ByteArray × Nat} (h : asSIter o = some p) : o = .strIter p.1 p.2 := by
  cases o <;> simp [asSIter] at h
  subst h; rfl
def rangeStrA (P : Program) (t : TypeId) (x : Value) : AM Value :=
  AM.andThen (AM.ofOption (asStr x)) fun s => AM.andThen (AM.guard (isStrT P t = true)) fun _ => AM.andThen (AM.alloc (.strIter s 0)) fun n => AM.ret (.pointer (some ⟨n, 0, none⟩))
theorem rangeStrA_sim {P : Program} {B : Nat} {w0 : World} {π : PMap} {w : World} {s s' : ST} {t : TypeId} {x x' r : Value} (h : rangeStrA P t x s = some (r, s')) (R : Rel B w0 π s.heap w) (hx : VRel π x x') :
    ∃ π' r' w', π.le π' ∧ (Instr.range t x').run P w = .ok r' w' ∧ VRel π' r r' ∧ Rel B w0 π' s'.heap w' := by
  unfold rangeStrA at h
  have hh := AM.andThen_some h; clear h; obtain ⟨b, s1, h1, h⟩ := hh
  obtain ⟨hb, rfl⟩ := ofOption_some h1
  have hb := asStr_some hb
  subst hb
  have hh := AM.andThen_some h; clear h; obtain ⟨_, s1, h1, h⟩ := hh
  obtain ⟨hg1, rfl⟩ := guard_some h1
  have hh := AM.andThen_some h; clear h; obtain ⟨n, s1, h2, h⟩ := hh
  obtain ⟨rfl, rfl⟩ := ret_some h
  cases hx
  obtain ⟨hn, hf, rfl⟩ := alloc_some h2
  have q := R.alloc hf (.stringIter b 0) (.strIter b 0) 0 ⟨heap_alloc_new w _, rfl⟩
  refine ⟨_, .pointer (some ⟨w.heap.size, 0, none⟩), _, q.1, ?_, .ptr n 0 ⟨w.heap.size, 0, 0⟩ (PMap.upd_same _ _ _), q.2⟩
  simp [Instr.range, run_underlying (isStrT_some hg1)]
def nextStrA (x : Value) : AM Value :=
  AM.andThen (AM.ofOption (asPtr x)) fun p => AM.andThen (AM.guard (p.2 = 0)) fun _ => AM.andThen (AM.read p.1) fun o => AM.andThen (AM.ofOption (asSIter o)) fun q =>
  if q.2 < q.1.size then AM.andThen (AM.write p.1 (some (.strIter q.1 (q.2 + (Utf8.decode q.1 q.2).2)))) fun _ => AM.ret (.tuple #[.bool true, .int .i64 q.2, .int .i32 (Utf8.decode q.1 q.2).1])
  else AM.ret (.tuple #[.bool false])
theorem VRels.three {π : PMap} {a a' b b' c c' : Value} (h : VRel π a a') (k : VRel π b b') (l : VRel π c c') : VRels π #[a, b, c] #[a', b', c'] := ⟨rfl, fun i x y => by
  have : i = 0 ∨ i = 1 ∨ i = 2 := by simp at x; omega
  rcases this with rfl | rfl | rfl
  · exact h
  · exact k
  · exact l⟩
theorem plain_tuple {π : PMap} {v : Value} (h : plain 1 v = true) : VRel π v v := plain_rel π 1 v h
theorem nextStrA_sim {P : Program} {B : Nat} {w0 : World} {π : PMap} {w : World} {s s' : ST} {ty : TypeId} {x x' r : Value} (h : nextStrA x s = some (r, s')) (R : Rel B w0 π s.heap w) (hx : VRel π x x') :
    ∃ r' w', (Instr.next x' true ty).run P w = .ok r' w' ∧ VRel π r r' ∧ Rel B w0 π s'.heap w' := by
  unfold nextStrA at h
  have hh := AM.andThen_some h; clear h; obtain ⟨p, s1, h1, h⟩ := hh
  obtain ⟨hp, rfl⟩ := ofOption_some h1
  obtain ⟨n, off⟩ := p
  have hp := asPtr_some hp
  simp only at hp
  subst hp
  have hh := AM.andThen_some h; clear h; obtain ⟨_, s1, h1, h⟩ := hh
  obtain ⟨hg1, rfl⟩ := guard_some h1
  simp only at hg1
  subst hg1
  have hh := AM.andThen_some h; clear h; obtain ⟨o, s1, h1, h⟩ := hh
  obtain ⟨hf, rfl⟩ := read_some h1
  have hh := AM.andThen_some h; clear h; obtain ⟨q, s1, h1, h⟩ := hh
  obtain ⟨hq, rfl⟩ := ofOption_some h1
  obtain ⟨b, pos⟩ := q
  have hq := asSIter_some hq
  subst hq
  simp only at *
  cases hx with
  | ptr _ _ p hp =>
    obtain ⟨p', hp', hO⟩ := R.obj n _ hf
    rw [hp] at hp'; cases hp'
    have hh : w.heap[p.blk]? = some (.stringIter b pos) := hO.1
    have hb0 : p.base = 0 := hO.2
    have hg : (getObj p.blk).run P w = .ok (.stringIter b pos) w := by simp [getObj, Sem.run, hh]
    have he : (⟨p.blk, p.base + 0, none⟩ : Addr) = ⟨p.blk, 0, none⟩ := by rw [hb0]
    rw [he]
    by_cases hpos : pos < b.size
    · rw [if_pos hpos] at h
      have hh2 := AM.andThen_some h; clear h; obtain ⟨_, s1, h1, h⟩ := hh2
      obtain ⟨⟨y, hy⟩, rfl⟩ := write_some h1
      obtain ⟨rfl, rfl⟩ := ret_some h
      have hB := R.dynB n p (by rw [hy]; simp) hp
      have hput : ∀ o', ({ w with heap := w.heap.setIfInBounds p.blk o' } : World).heap[p.blk]? = some o' := fun o' => by
        simp [Array.getElem?_setIfInBounds, hB.2]
      have hoth : ∀ o' k, k ≠ p.blk → ({ w with heap := w.heap.setIfInBounds p.blk o' } : World).heap[k]? = w.heap[k]? := fun o' k hk' => by
        simp [Array.getElem?_setIfInBounds, Ne.symm hk']
      have q := VRels.three (π := π) (.bool true) (.int .i64 (pos : Int)) (.int .i32 ((Utf8.decode b pos).1 : Int))
      refine ⟨.tuple #[.bool true, .int .i64 pos, .int .i32 (Utf8.decode b pos).1], { w with heap := w.heap.setIfInBounds p.blk (.stringIter b (pos + (Utf8.decode b pos).2)) }, ?_, .tuple _ _ q.1 q.2, ?_⟩
      · unfold Instr.next
        simp only [Sem.run_bind, hg, Result.andThen_ok, if_pos hpos, run_setObj _ hh (by simp), Sem.run_pure, goInt]
      · exact R.turn hy hp (w' := { w with heap := w.heap.setIfInBounds p.blk (.stringIter b (pos + (Utf8.decode b pos).2)) }) rfl rfl rfl (by simp) (fun k hk' => hoth _ k hk') (.strIter b (pos + (Utf8.decode b pos).2)) ⟨hput _, hb0⟩
    · rw [if_neg hpos] at h
      obtain ⟨rfl, rfl⟩ := ret_some h
      have q := VRels.one (π := π) (.bool false)
      refine ⟨.tuple #[.bool false], w, ?_, .tuple _ _ q.1 q.2, R⟩
      unfold Instr.next
      simp only [Sem.run_bind, hg, Result.andThen_ok, if_neg hpos, Sem.run_pure]
/-! ### a row of bytes gets the run-time's mark behind its last cell: nothing that an abstract run sees -/
def markA (P : Program) (t : TypeId) (x : Value) : AM Value :=
  AM.andThen (AM.ofOption (sliceElem P t)) fun e => AM.andThen (AM.guard (isU8 P e = true)) fun _ => AM.andThen (AM.ofOption (asSlice x)) fun q => AM.andThen (AM.read q.1) fun o =>
    AM.andThen (AM.ofOption (asCells o)) fun ce => AM.andThen (AM.write q.1 (some (.cells ce.1 ce.2))) fun _ => AM.ret x
def memConv (P : Program) (s d : TypeId) : Bool := (isStrT P d && (sliceElem P s).isSome) || (s == d && (sliceElem P s).isSome)
def convM (P : Program) (s d : TypeId) (x : Value) : AM Value := if s == d then markA P s x else toStringA P s d x
theorem heap_modify (a : Array Obj) (f : Obj → Obj) (i k : Nat) (h : k ≠ i) : (a.modify i f)[k]? = a[k]? := by
  rw [Array.getElem?_modify, if_neg (fun e => h e.symm)]
theorem markA_sim {P : Program} {B : Nat} {w0 : World} {π : PMap} {w : World} {s s' : ST} {t : TypeId} {x x' r : Value} (h : markA P t x s = some (r, s')) (R : Rel B w0 π s.heap w) (hx : VRel π x x') :
    ∃ r' w', (convert t t x').run P w = .ok r' w' ∧ VRel π r r' ∧ Rel B w0 π s'.heap w' := by
  unfold markA at h
  have hh := AM.andThen_some h; clear h; obtain ⟨e, s0, h0, h⟩ := hh
  obtain ⟨hu, rfl⟩ := ofOption_some h0
  have hu := sliceElem_some hu
  have hh := AM.andThen_some h; clear h; obtain ⟨_, s1, h1, h⟩ := hh
  obtain ⟨hg, rfl⟩ := guard_some h1
  have he := isU8_some hg
  have hh := AM.andThen_some h; clear h; obtain ⟨q, s1, h1, h⟩ := hh
  obtain ⟨hq, rfl⟩ := ofOption_some h1
  have hh := AM.andThen_some h; clear h; obtain ⟨o, s1, h1, h⟩ := hh
  obtain ⟨hf, rfl⟩ := read_some h1
  have hh := AM.andThen_some h; clear h; obtain ⟨ce, s1, h1, h⟩ := hh
  obtain ⟨hce, rfl⟩ := ofOption_some h1
  have hce := asCells_some hce
  subst hce
  have hh := AM.andThen_some h; clear h; obtain ⟨_, s1, h1, h⟩ := hh
  obtain ⟨rfl, rfl⟩ := ret_some h
  obtain ⟨⟨y, hy⟩, rfl⟩ := write_some h1
  obtain ⟨c, et⟩ := ce
  obtain ⟨qn, qo, ql, qc⟩ := q
  have hxe := asSlice_some hq
  subst hxe
  simp only at *
  cases hx with
  | slice _ _ _ _ p oo cap hp ho hl hc =>
    obtain ⟨p', hp', hO⟩ := R.obj _ _ hf
    rw [hp] at hp'; cases hp'
    obtain ⟨C, fr, hh, hsz, hlen, hcr, hfr⟩ := hO
    have hsh : w.shape? p.blk = some (et, C.size) := by simp [World.shape?, hh]
    refine ⟨.slice (some ⟨p.blk, oo, none⟩) ql cap, w.freeze ⟨p.blk, C.size, none⟩ 1, ?_, .slice _ _ _ _ p oo cap hp ho hl hc, ?_⟩
    · simp [convert, run_underlying hu, run_underlying he, markStringish, hsh]
    · have hb : (w.freeze ⟨p.blk, C.size, none⟩ 1).heap[p.blk]? = some (.cells C et (if fr.1 == fr.2 then (C.size, C.size + 1) else (min fr.1 C.size, max fr.2 (C.size + 1)))) := by
        unfold World.freeze
        rw [if_neg (by decide)]
        simp only [Array.getElem?_modify, if_true, hh, Option.map_some]
      refine R.turn hy hp (by simp [World.freeze]) (by simp [World.freeze]) (by simp [World.freeze]) (by simp [World.freeze]) (fun k hk => ?_) _ ⟨C, _, hb, hsz, hlen, hcr, fun hB => ?_⟩
      · unfold World.freeze
        rw [if_neg (by decide)]
        exact heap_modify _ _ _ _ hk
      · have := hfr hB
        unfold Thaw at this ⊢
        split
        · right; simp only; omega
        · rename_i hne
          have hne : fr.1 ≠ fr.2 := by simpa using hne
          right
          simp only
          omega
theorem convM_sim {P : Program} {B : Nat} {w0 : World} {π : PMap} {w : World} {s s' : ST} {src dst : TypeId} {x x' r : Value} (h : convM P src dst x s = some (r, s')) (R : Rel B w0 π s.heap w) (hx : VRel π x x') :
    ∃ r' w', (convert src dst x').run P w = .ok r' w' ∧ VRel π r r' ∧ Rel B w0 π s'.heap w' := by
  unfold convM at h
  split at h
  · rename_i e
    have e : src = dst := by simpa using e
    subst e
    exact markA_sim h R hx
  · obtain ⟨r', e, v, rfl⟩ := toStringA_sim h R hx
    exact ⟨r', w, e, v, R⟩
end Go.Proofs.YtgpfgcbolinncaaGreat.Abs
