/- From the machine's world to a heap of nodes; no row is longer than a row may be. law25.ProveChains: the contract. -/
import Derived.Test.YtgpfgcbolinncaaGreatZ12
import Derived.Test.YtgpfgcbolinncaaGreatRows
import Derived.WalkKit
import Derived.ProofKit
import Derived.OpenShut
import Derived.JoinedCond
import Derived.Carry
import Derived.SizedLaws
set_option linter.unusedVariables false
set_option linter.unusedSimpArgs false
set_option maxRecDepth 10000
namespace Go.Proofs.YtgpfgcbolinncaaGreat.Abs
open Go Go.RowKit

/-- a machine's value, as the abstract heap has it: names are block numbers -/
def absV (W : World) : Value → Value
  | .int k n => .int k n
  | .slice none 0 0 => .slice none 0 0
  | .slice (some a) len cap => if len = 0 then .slice none 0 1 else if a.spot = none ∧ len ≤ cap ∧ (W.shape? a.block).isSome = true then .slice (some ⟨a.block, a.off, none⟩) len 0 else topV
  | _ => topV
def stW (W : World) (n : Nat) : Option AObj := match W.heap[n]? with
  | some (.cells C e _) => some (.cells (C.toList.map (absV W)) e)
  | _ => none
def piW (W : World) (n : Nat) : Option Place := match W.heap[n]? with
  | some (.cells C _ _) => some ⟨n, 0, C.size⟩
  | _ => none
def sW (W : World) : ST := { heap := { st := stW W, dyn := .leaf }, base := W.heap.size, str := 0, ctr := 0, jr := [] }
theorem sW_find (W : World) (n : Nat) : (sW W).heap.find n = (stW W n).map some := by simp [sW, Heap.find, Trie.get]
theorem sW_free (W : World) : (sW W).Free := by
  intro k _
  show (sW W).heap.find _ = none
  rw [sW_find, stW, Array.getElem?_eq_none (by show W.heap.size ≤ W.heap.size + _; omega)]
  rfl
theorem absV_rel (W : World) (v : Value) : VRel (piW W) (absV W v) v := by
  unfold absV
  split
  · exact .int _ _
  · exact .nilSlice
  · rename_i a len cap
    split
    · rename_i h; subst h; exact .empty a cap
    · split
      · rename_i h
        obtain ⟨h1, h2, h3⟩ := h
        obtain ⟨b, o, sp⟩ := a
        simp only at h1 h3
        subst h1
        unfold World.shape? at h3
        split at h3
        · rename_i C e fr hh
          exact .slice b o len 0 ⟨b, 0, C.size⟩ o cap (by simp [piW, hh]) (fun _ => by simp) h2 (.inl rfl)
        · cases h3
      · exact .top _ _ _
  · exact .top _ _ _
theorem sW_rel (W : World) : Rel W.heap.size W (piW W) (sW W).heap W := by
  have hst : ∀ n o, stW W n = some o → ∃ C e fr, W.heap[n]? = some (.cells C e fr) ∧ o = .cells (C.toList.map (absV W)) e := by
    intro n o h
    unfold stW at h
    split at h
    · rename_i C e fr hh
      cases h
      exact ⟨C, e, fr, hh, rfl⟩
    · cases h
  refine ⟨Below.refl _ W, Nat.le_refl _, ?_, ?_, fun n p h => by simp [sW, Trie.get] at h, fun n m o q p p' h => by simp [sW, Trie.get] at h, ?_⟩
  · intro n o h
    rw [sW_find] at h
    simp only [Option.map_eq_some_iff] at h
    obtain ⟨o', h, e⟩ := h
    cases e
    obtain ⟨C, e, fr, hh, rfl⟩ := hst n _ h
    refine ⟨⟨n, 0, C.size⟩, by simp [piW, hh], C, fr, hh, rfl, by simp, ?_, fun hB => ?_⟩
    · intro i v hi
      simp only [List.getElem?_map, Option.map_eq_some_iff] at hi
      obtain ⟨x, hx, rfl⟩ := hi
      exact ⟨x, by simpa using hx, absV_rel W x⟩
    · have := (Array.getElem?_eq_some_iff.1 hh).1
      exact absurd this (Nat.not_lt.2 hB)
  · intro n p h
    rw [sW_find]
    unfold piW at h
    split at h
    · rename_i C e fr hh
      simp [stW, hh]
    · cases h
  · intro n o h
    refine ⟨by simp [sW, Trie.get], ?_⟩
    obtain ⟨C, e, fr, hh, rfl⟩ := hst n o h
    exact ⟨⟨n, 0, C.size⟩, by simp [piW, hh], (Array.getElem?_eq_some_iff.1 hh).1⟩
theorem cellsOf27 : Tryz.prog.cellsOf 27 = 7 := by kernel_rfl
theorem cellsOf22 : Tryz.prog.cellsOf 22 = 1 := by kernel_rfl
theorem cellsOf25 : Tryz.prog.cellsOf 25 = 2 := by kernel_rfl
theorem cellsOf3 : Tryz.prog.cellsOf 3 = 1 := by kernel_rfl
theorem cellsOf23 : Tryz.prog.cellsOf 23 = 1 := by kernel_rfl
section
variable {H : Type} {enc : TypeId × Value → H} {W : World} {base : Nat} {sp : Nat → Bool} {held : Bool}
theorem trod_int {t : TypeId} {k : IntKind} (ht : Tryz.prog.underlying t = some (.int k)) {n : Nat} {cs : List Value} {x : DataW H × List MemPlace} (h : DataW.trod enc Tryz.prog W base sp held n t cs = some x) : ∃ i, cs = [.int k i] := by
  cases n with
  | zero => simp [DataW.trod] at h
  | succ m =>
    unfold DataW.trod at h
    rw [ht] at h
    split at h <;> simp_all
theorem trod_slice27 {n : Nat} {cs : List Value} {x : DataW H × List MemPlace} (h : DataW.trod enc Tryz.prog W base sp held n 22 cs = some x) : cs = [.slice none 0 0] ∨
    ∃ a len cap elems spare m, cs = [.slice (some a) len cap] ∧ n = m + 1 ∧ len ≤ cap ∧ x.1 = .slice elems spare ∧ elems.length = len ∧ ∀ i, i < len → ∃ d p, elems[i]? = some d ∧ (W.cells? base (a.add (i * 7)) 7).bind (DataW.trod enc Tryz.prog W base sp held m 27) = some (d, p) := by
  cases n with
  | zero => simp [DataW.trod] at h
  | succ m =>
    unfold DataW.trod at h
    rw [Tryz.underlying22] at h
    split at h
    all_goals first | (simp_all; done) | skip
    · rename_i e a len cap he
      cases he
      simp only [cellsOf27] at h
      split at h
      · rename_i hb
        obtain ⟨els, h1, h2⟩ := Option.bind_eq_some_iff.1 h
        obtain ⟨rest, h3, rfl⟩ := Option.map_eq_some_iff.1 h2
        have hlen : els.length = len := by simpa using mapM_some_length h1
        refine .inr ⟨a, len, cap, _, _, m, rfl, rfl, hb.2.1, rfl, by simp [hlen], fun i hi => ?_⟩
        have hg := mapM_some_get h1 i i (by simp [hi])
        rw [List.getElem?_eq_getElem (by omega)] at hg
        exact ⟨(els[i]'(by omega)).1, (els[i]'(by omega)).2, by simp [hlen, hi], hg⟩
      · cases h
theorem cells_at {a : Addr} {n : Nat} {cs : List Value} (h : W.cells? base a n = some cs) (hn : 0 < n) : ∃ C e fr, W.heap[a.block]? = some (.cells C e fr) ∧ a.off + n ≤ C.size ∧ cs = (C.toList.drop a.off).take n := by
  obtain ⟨hb, hl, hc⟩ := World.cells?_some h
  have hh : ∃ C e fr, W.heap[a.block]? = some (.cells C e fr) := by
    have h0 := hc 0 hn
    rw [List.getElem?_eq_getElem (by omega)] at h0
    unfold World.cell? at h0
    simp only [Addr.add, if_true] at h0
    split at h0
    · rename_i C e fr hh; exact ⟨C, e, fr, hh⟩
    · cases h0
  obtain ⟨C, e, fr, hh⟩ := hh
  have hc2 : ∀ i, i < n → C[a.off + i]? = cs[i]? := by
    intro i hi
    have hi2 := hc i hi
    rw [List.getElem?_eq_getElem (by omega)] at hi2
    unfold World.cell? at hi2
    have hblk : (a.add i).block = a.block := by unfold Addr.add; split <;> rfl
    have hoff : (a.add i).off = a.off + i := by
      unfold Addr.add; split
      · rename_i h; subst h; rfl
      · rfl
    rw [hblk, hh] at hi2
    simp only [hoff] at hi2
    split at hi2
    · cases hi2
    · rw [hi2, List.getElem?_eq_getElem (by omega)]
  refine ⟨C, e, fr, hh, ?_, ?_⟩
  · have := hc2 (n - 1) (by omega)
    rw [List.getElem?_eq_getElem (by omega)] at this
    have := (Array.getElem?_eq_some_iff.1 this).1
    omega
  · apply List.ext_getElem?
    intro i
    by_cases hi : i < n
    · rw [List.getElem?_take, if_pos hi, List.getElem?_drop, ← hc2 i hi, Array.getElem?_toList]
    · rw [List.getElem?_eq_none (by omega), List.getElem?_eq_none (by simp; omega)]
theorem spot_at {a : Addr} {n : Nat} {cs : List Value} (h : W.cells? base a n = some cs) (hn : 0 < n) : a.spot = none := by
  obtain ⟨hb, hl, hc⟩ := World.cells?_some h
  have h0 := hc 0 hn
  rw [List.getElem?_eq_getElem (by omega)] at h0
  unfold World.cell? at h0
  simp only [Addr.add, if_true] at h0
  split at h0
  · split at h0
    · cases h0
    · rename_i h; simpa using h
  · cases h0
theorem list_of {α : Type} {P : Nat → α → Prop} : ∀ (n : Nat), (∀ i, i < n → ∃ t, P i t) → ∃ l : List α, l.length = n ∧ ∀ i t, l[i]? = some t → P i t
  | 0, _ => ⟨[], rfl, by simp⟩
  | n + 1, h => by
    obtain ⟨l, hl, hp⟩ := list_of n fun i hi => h i (by omega)
    obtain ⟨t, ht⟩ := h n (by omega)
    refine ⟨l ++ [t], by simp [hl], fun i u hu => ?_⟩
    by_cases hi : i < l.length
    · rw [List.getElem?_append_left hi] at hu
      exact hp i u hu
    · rw [List.getElem?_append_right (by omega)] at hu
      have : i - l.length = 0 := by
        apply Classical.byContradiction
        intro hne
        rw [List.getElem?_eq_none (by simp; omega)] at hu
        cases hu
      rw [this] at hu
      simp only [List.getElem?_cons_zero, Option.some.injEq] at hu
      subst hu
      have : i = n := by omega
      subst this
      exact ht
theorem weights_all {P : Program} {e : TypeId} : ∀ {ds : List (DataW H)} {d : DataW H}, d ∈ ds → ∀ n ∈ d.weights P e, n ∈ DataW.weightsAll P e ds
  | d0 :: r, d, hd, n, hn => by
    simp only [DataW.weightsAll, List.mem_append]
    rcases List.mem_cons.1 hd with rfl | hd
    · exact .inl hn
    · exact .inr (weights_all hd n hn)
  | [], _, hd, _, _ => by cases hd
theorem bytes27 : Tryz.prog.bytesOf 27 = 72 := by kernel_rfl
def Light (t : TypeId) (d : DataW H) : Prop := ∀ n ∈ d.weights Tryz.prog t, n ≤ reachBytes
theorem Light.elem {elems spare : List (DataW H)} (h : Light 22 (.slice elems spare)) {d : DataW H} (hd : d ∈ elems) : Light 27 d := fun n hn => h n (by
  simp only [DataW.weights, Tryz.underlying22, List.mem_cons, List.mem_append]
  exact .inr (.inl (weights_all hd n hn)))
theorem Light.len {elems spare : List (DataW H)} (h : Light 22 (.slice elems spare)) : elems.length * 72 ≤ 140737488355328 := by
  have := h ((elems.length + spare.length) * Tryz.prog.bytesOf 27) (by simp only [DataW.weights, Tryz.underlying22, List.mem_cons, true_or])
  rw [bytes27] at this
  have h2 : reachBytes ≤ 140737488355328 := by decide
  have h3 : elems.length * 72 ≤ (elems.length + spare.length) * 72 := by omega
  omega
theorem read_node : ∀ (n : Nat) (cs : List Value) (x : DataW H × List MemPlace), DataW.trod enc Tryz.prog W base sp held n 27 cs = some x →
    cs.length = 7 ∧ ∃ t, NodeV (sW W).heap t (.agg (cs.map (absV W)).toArray) ∧ (Light 27 x.1 → Fit t) := by
  intro n
  induction n using Nat.strongRecOn with
  | ind n ih =>
    intro cs x h
    obtain ⟨xs, m, rfl, rfl, hl, hlen, hf⟩ := DataW.trod_struct Tryz.underlying27 h
    rw [cellsOf27] at hl
    match cs, hl with
    | [c0, c1, c2, c3, c4, c5, c6], _ =>
    match xs, hlen with
    | [y0, y1, y2, y3, y4, y5], _ =>
    have g0 : DataW.trod enc Tryz.prog W base sp held m 3 [c0] = some y0 := by simpa [cellsOf3, cellsOf22, cellsOf25, cellsOf23] using hf 0 _ rfl
    have g1 : DataW.trod enc Tryz.prog W base sp held m 3 [c1] = some y1 := by simpa [cellsOf3, cellsOf22, cellsOf25, cellsOf23] using hf 1 _ rfl
    have g2 : DataW.trod enc Tryz.prog W base sp held m 22 [c2] = some y2 := by simpa [cellsOf3, cellsOf22, cellsOf25, cellsOf23] using hf 2 _ rfl
    have g3 : DataW.trod enc Tryz.prog W base sp held m 25 [c3, c4] = some y3 := by simpa [cellsOf3, cellsOf22, cellsOf25, cellsOf23] using hf 3 _ rfl
    have g4 : DataW.trod enc Tryz.prog W base sp held m 3 [c5] = some y4 := by simpa [cellsOf3, cellsOf22, cellsOf25, cellsOf23] using hf 4 _ rfl
    have g5 : DataW.trod enc Tryz.prog W base sp held m 3 [c6] = some y5 := by simpa [cellsOf3, cellsOf22, cellsOf25, cellsOf23] using hf 5 _ rfl
    obtain ⟨op, e0⟩ := trod_int Tryz.underlying3 g0
    obtain ⟨kind, e1⟩ := trod_int Tryz.underlying3 g1
    obtain ⟨pos, e5⟩ := trod_int Tryz.underlying3 g4
    obtain ⟨attr, e6⟩ := trod_int Tryz.underlying3 g5
    obtain ⟨zs, m3, rfl, ex3, hl3, hlen3, hf3⟩ := DataW.trod_struct Tryz.underlying25 g3
    match zs, hlen3 with
    | [z0, z1], _ =>
    have k0 : DataW.trod enc Tryz.prog W base sp held m3 3 [c3] = some z0 := by simpa [cellsOf3, cellsOf22, cellsOf25, cellsOf23] using hf3 0 _ rfl
    have k1 : DataW.trod enc Tryz.prog W base sp held m3 23 [c4] = some z1 := by simpa [cellsOf3, cellsOf22, cellsOf25, cellsOf23] using hf3 1 _ rfl
    obtain ⟨vk, e3⟩ := trod_int Tryz.underlying3 k0
    obtain ⟨bits, e4⟩ := trod_int Tryz.underlying23 k1
    simp only [List.cons.injEq, and_true] at e0 e1 e3 e4 e5 e6
    subst e0 e1 e3 e4 e5 e6
    refine ⟨rfl, ?_⟩
    have leaf : ∀ k, c2 = .slice none 0 0 ∧ k = 0 ∨ absV W c2 = .slice none 0 k → ∃ t, NodeV (sW W).heap t (.agg (([.int .i64 op, .int .i64 kind, c2, .int .i64 vk, .int .u64 bits, .int .i64 pos, .int .i64 attr] : List Value).map (absV W)).toArray) ∧ Fit t := by
      intro k hk
      have hk : absV W c2 = .slice none 0 k := by
        rcases hk with ⟨rfl, rfl⟩ | hk
        · rfl
        · exact hk
      refine ⟨.mk op kind vk bits pos attr [], ?_, .mk _ _ _ _ _ _ _ (by simp) (by simp)⟩
      have : (Value.agg (([.int .i64 op, .int .i64 kind, c2, .int .i64 vk, .int .u64 bits, .int .i64 pos, .int .i64 attr] : List Value).map (absV W)).toArray) = nodeVal op kind (.slice none 0 k) vk bits pos attr := by
        simp only [List.map_cons, List.map_nil, hk]
        rfl
      rw [this]
      exact .mk op kind vk bits pos attr [] _ 0 0 0 [] 0 (.inl ⟨k, rfl, rfl⟩) (fun h => absurd rfl h) (by simp) (by simp)
    rcases trod_slice27 g2 with e2 | ⟨a, len, cap, elems, spare, m2, e2, hm2, hlc, ey2, hel, hat⟩
    · simp only [List.cons.injEq, and_true] at e2
      subst e2
      obtain ⟨t, h1, h2⟩ := leaf 0 (.inl ⟨rfl, rfl⟩)
      exact ⟨t, h1, fun _ => h2⟩
    · simp only [List.cons.injEq, and_true] at e2
      subst e2
      by_cases h0 : len = 0
      · obtain ⟨t, h1, h2⟩ := leaf 1 (.inr (by simp [absV, h0]))
        exact ⟨t, h1, fun _ => h2⟩
      · have each : ∀ i, i < len → ∃ t, ∃ d cs, elems[i]? = some d ∧ W.cells? base (a.add (i * 7)) 7 = some cs ∧ NodeV (sW W).heap t (.agg (cs.map (absV W)).toArray) ∧ (Light 27 d → Fit t) := by
          intro i hi
          obtain ⟨d, p, hd, hb⟩ := hat i hi
          obtain ⟨cs, hcs, hr⟩ := Option.bind_eq_some_iff.1 hb
          obtain ⟨_, t, hN, hC⟩ := ih m2 (by omega) cs (d, p) hr
          exact ⟨t, d, cs, hd, hcs, hN, hC⟩
        obtain ⟨ts, hts, hP⟩ := list_of len each
        obtain ⟨t0, d0, cs0, hd0, hcs0, _⟩ := each 0 (by omega)
        simp only [Nat.zero_mul, show a.add 0 = a from rfl] at hcs0
        have hsp := spot_at hcs0 (by omega)
        obtain ⟨C, e, fr, hh, _⟩ := cells_at hcs0 (by omega)
        have hcell : ∀ i, i < len → ∀ cs, W.cells? base (a.add (i * 7)) 7 = some cs → a.off + i * 7 + 7 ≤ C.size ∧ cs = (C.toList.drop (a.off + i * 7)).take 7 := by
          intro i hi cs hcs
          obtain ⟨C', e', fr', hh', h1, h2⟩ := cells_at hcs (by omega)
          have hblk : (a.add (i * 7)).block = a.block := by unfold Addr.add; split <;> rfl
          have hoff : (a.add (i * 7)).off = a.off + i * 7 := by
            unfold Addr.add; split
            · rename_i h; rw [h]; rfl
            · rfl
          rw [hblk, hh] at hh'
          cases hh'
          rw [hoff] at h1 h2
          exact ⟨h1, h2⟩
        refine ⟨.mk op kind vk bits pos attr ts, ?_, ?_⟩
        · have hsl : absV W (.slice (some a) len cap) = .slice (some ⟨a.block, a.off, none⟩) ts.length 0 := by
            simp [absV, h0, hsp, hlc, World.shape?, hh, hts]
          have : (Value.agg (([.int .i64 op, .int .i64 kind, .slice (some a) len cap, .int .i64 vk, .int .u64 bits, .int .i64 pos, .int .i64 attr] : List Value).map (absV W)).toArray) = nodeVal op kind (.slice (some ⟨a.block, a.off, none⟩) ts.length 0) vk bits pos attr := by
            simp only [List.map_cons, List.map_nil, hsl]
            rfl
          rw [this]
          refine .mk op kind vk bits pos attr ts _ a.block a.off 0 (C.toList.map (absV W)) e (.inr rfl) (fun _ => by rw [sW_find]; simp [stW, hh]) ?_ ?_
          · intro i hi
            rw [hts] at hi
            obtain ⟨_, _, cs, _, hcs, _⟩ := each i hi
            have := (hcell i hi cs hcs).1
            simpa using this
          · intro i t ht
            have hi : i < len := by have := (List.getElem?_eq_some_iff.1 ht).1; omega
            obtain ⟨d, cs, hd, hcs, hN, _⟩ := hP i t ht
            have := (hcell i hi cs hcs).2
            rw [← List.map_drop, ← List.map_take, ← this]
            exact hN
        · intro hw
          have hw2 : Light 22 y2.1 := fun n hn => hw n (by
            show n ∈ DataW.weightsEach Tryz.prog _ _
            exact DataW.weights_mem_each (j := 2) (t := 22) (d := y2.1) rfl rfl n hn)
          rw [ey2] at hw2
          refine .mk _ _ _ _ _ _ _ (by rw [hts, ← hel]; exact hw2.len) fun a ha => ?_
          obtain ⟨i, hi, rfl⟩ := List.getElem_of_mem ha
          obtain ⟨d, cs, hd, _, _, hC⟩ := hP i _ (List.getElem?_eq_getElem hi)
          exact hC (hw2.elem (List.mem_of_getElem? hd))
theorem read_list {n : Nat} {v : Value} {x : DataW H × List MemPlace} (h : DataW.trod enc Tryz.prog W base sp held n 22 [v] = some x) : ∃ ts, ListV (sW W).heap ts (absV W v) ∧ Cut ts (absV W v) ∧ (Light 22 x.1 → FitL ts) := by
  have leaf : ∀ k, absV W v = .slice none 0 k → ∃ ts, ListV (sW W).heap ts (absV W v) ∧ Cut ts (absV W v) ∧ (Light 22 x.1 → FitL ts) := by
    intro k hk
    rw [hk]
    exact ⟨[], fun op kind vk bits pos attr => .mk op kind vk bits pos attr [] _ 0 0 0 [] 0 (.inl ⟨k, rfl, rfl⟩) (fun h => absurd rfl h) (by simp) (by simp), fun h => absurd rfl h, fun _ => ⟨by simp, by simp⟩⟩
  rcases trod_slice27 h with e2 | ⟨a, len, cap, elems, spare, m2, e2, hm2, hlc, ey2, hel, hat⟩
  · simp only [List.cons.injEq, and_true] at e2
    subst e2
    exact leaf 0 rfl
  · simp only [List.cons.injEq, and_true] at e2
    subst e2
    by_cases h0 : len = 0
    · exact leaf 1 (by simp [absV, h0])
    · have each : ∀ i, i < len → ∃ t, ∃ d cs, elems[i]? = some d ∧ W.cells? base (a.add (i * 7)) 7 = some cs ∧ NodeV (sW W).heap t (.agg (cs.map (absV W)).toArray) ∧ (Light 27 d → Fit t) := by
        intro i hi
        obtain ⟨d, p, hd, hb⟩ := hat i hi
        obtain ⟨cs, hcs, hr⟩ := Option.bind_eq_some_iff.1 hb
        obtain ⟨_, t, hN, hC⟩ := read_node m2 cs (d, p) hr
        exact ⟨t, d, cs, hd, hcs, hN, hC⟩
      obtain ⟨ts, hts, hP⟩ := list_of len each
      obtain ⟨t0, d0, cs0, hd0, hcs0, _⟩ := each 0 (by omega)
      simp only [Nat.zero_mul, show a.add 0 = a from rfl] at hcs0
      have hsp := spot_at hcs0 (by omega)
      obtain ⟨C, e, fr, hh, _⟩ := cells_at hcs0 (by omega)
      have hcell : ∀ i, i < len → ∀ cs, W.cells? base (a.add (i * 7)) 7 = some cs → a.off + i * 7 + 7 ≤ C.size ∧ cs = (C.toList.drop (a.off + i * 7)).take 7 := by
        intro i hi cs hcs
        obtain ⟨C', e', fr', hh', h1, h2⟩ := cells_at hcs (by omega)
        have hblk : (a.add (i * 7)).block = a.block := by unfold Addr.add; split <;> rfl
        have hoff : (a.add (i * 7)).off = a.off + i * 7 := by
          unfold Addr.add; split
          · rename_i h; rw [h]; rfl
          · rfl
        rw [hblk, hh] at hh'
        cases hh'
        rw [hoff] at h1 h2
        exact ⟨h1, h2⟩
      have hsl : absV W (.slice (some a) len cap) = .slice (some ⟨a.block, a.off, none⟩) ts.length 0 := by
        simp [absV, h0, hsp, hlc, World.shape?, hh, hts]
      rw [hsl]
      refine ⟨ts, fun op kind vk bits pos attr => ?_, fun _ => ⟨_, _, 0, rfl, .inl rfl⟩, fun hw => ?_⟩
      · refine .mk op kind vk bits pos attr ts _ a.block a.off 0 (C.toList.map (absV W)) e (.inr rfl) (fun _ => by rw [sW_find]; simp [stW, hh]) ?_ ?_
        · intro i hi
          rw [hts] at hi
          obtain ⟨_, _, cs, _, hcs, _⟩ := each i hi
          have := (hcell i hi cs hcs).1
          simpa using this
        · intro i t ht
          have hi : i < len := by have := (List.getElem?_eq_some_iff.1 ht).1; omega
          obtain ⟨d, cs, hd, hcs, hN, _⟩ := hP i t ht
          have := (hcell i hi cs hcs).2
          rw [← List.map_drop, ← List.map_take, ← this]
          exact hN
      · rw [ey2] at hw
        refine ⟨by rw [hts, ← hel]; exact hw.len, fun a ha => ?_⟩
        obtain ⟨i, hi, rfl⟩ := List.getElem_of_mem ha
        obtain ⟨d, cs, hd, _, _, hC⟩ := hP i _ (List.getElem?_eq_getElem hi)
        exact hC (hw.elem (List.mem_of_getElem? hd))
end
end Go.Proofs.YtgpfgcbolinncaaGreat.Abs
set_option linter.unusedVariables false
set_option linter.unusedSimpArgs false
set_option maxRecDepth 10000
namespace Go.Proofs.YtgpfgcbolinncaaGreat.Abs
open Go Go.RowKit Go.ChangeShapes Go.WideShapes Go.ChangeAt

section
variable {H : Type} {enc : TypeId × Value → H} {P : Program}
/-- the post, where below the old heap nothing has turned -/
theorem post_below {f : Func} {s : ChangeSpec} {apart fresh handsOn again : Bool} {W W' : World} {args : Array Value} {v : Value} {ds gs : List (DataW H)} {before pa pv : List MemPlace}
    (hW : DataW.Whole enc P f.params.toList s.vars apart W args.toList ds gs before)
    (hres : ∀ (b : Nat) (sp : Nat → Bool) (hd : Bool), DataW.TrodAll enc P W' b sp hd f.resultTypes.toList (v.resultList f.resultTypes.size) (s.fn H (ds ++ gs)).results [])
    (hargs : ∀ sp : Nat → Bool, (∀ p ∈ before, sp p.block = true) → DataW.TrodAll enc P W' 0 sp true f.params.toList args.toList (s.fn H (ds ++ gs)).args pa)
    (hvars : ∀ sp : Nat → Bool, (∀ p ∈ before, sp p.block = true) → DataW.TrodVars enc P W' sp s.vars (s.fn H (ds ++ gs)).vars pv)
    (hps : before = pa ++ pv) (hb : Below W.heap.size W W')
    (hok : ∀ (j : Nat) (t : TypeId) (r : Value), f.resultTypes[j]? = some t → (v.resultList f.resultTypes.size)[j]? = some r → Value.okWide P W' .any 0 t r) :
    s.post enc P f apart fresh handsOn again W args v W' := by
  have hlt : ∀ p ∈ before, p.block < W.heap.size := fun p hp => hW.lt p hp
  have hold : ∀ p ∈ before, (fun b => decide (b < W.heap.size)) p.block = true := fun p hp => by simpa using hlt p hp
  refine ⟨ds, gs, before, [], pa, pv, hW, hres _ _ _, hargs _ hold, hvars _ hold, World.keptBut_mono (fun p hp => ⟨hp, .inr (by rw [hps, List.mem_append] at hp; exact hp)⟩) (hb.frame (· ∈ before)), fun _ => ?_⟩
  have hW2 := hW
  obtain ⟨_, _, _, _, _, hz, hn⟩ := hW2
  refine ⟨hok, _, _, ([] ++ pa) ++ pv, ⟨[] ++ pa, pv, trodAll_append (hargs _ (fun _ _ => rfl)) (hres _ _ _), hvars _ (fun _ _ => rfl), rfl, ?_, ?_⟩, ?_⟩
  · intro b off hp
    have hp' : MemPlace.cell b off ∈ before := by rw [hps]; simpa using hp
    rw [hb.frozen (hlt _ hp')]
    exact hz b off hp'
  · intro ha
    have := hn ha
    rw [hps] at this
    simpa using this
  · intro p hp _
    rw [hps]
    simpa using hp
end
theorem own : ownKnob Tryz.prog.godebug = none := by kernel_rfl
theorem laid : laidOutB Tryz.prog = true := by kernel_rfl
theorem contract (H : Type) (enc : TypeId × Value → H) (W : World) (base : Nat) (args : Array Value) (ds gs : List (DataW H)) (before : List MemPlace)
    (hval : ∀ (j : Nat) t v, Tryz.f3.params[j]? = some t → args[j]? = some v → Value.okWide Tryz.prog W .any base t v)
    (hW : DataW.Whole enc Tryz.prog Tryz.f3.params.toList Rows.proveChainsSpec.vars false W args.toList ds gs before)
    (hk : (DataW.weightsEach Tryz.prog (Tryz.f3.params.toList ++ Rows.proveChainsSpec.plain.varTypes Tryz.prog) (ds ++ gs)).all (· ≤ reachBytes) = true) :
    Calls Tryz.prog 3 args W fun e W' => ∃ v, e = .returned v ∧ Rows.proveChainsSpec.post enc Tryz.prog Tryz.f3 false true false false W args v W' := by
  have hW' := hW
  obtain ⟨p, q, hA0, hV, rfl, hfz, hnd⟩ := hW
  have hA : DataW.TrodAll enc Tryz.prog W 0 (fun _ => true) true Tryz.f3.params.toList args.toList ds p := hA0
  have hk : ∀ n ∈ DataW.weightsEach Tryz.prog (Tryz.f3.params.toList ++ Rows.proveChainsSpec.plain.varTypes Tryz.prog) (ds ++ gs), n ≤ reachBytes := fun n hn => by simpa using List.all_eq_true.1 hk n hn
  rw [Tryz.params3] at hA hval hk
  obtain ⟨v0, vs0, d0, ds0, p0, q0, hargs, rfl, rfl, h0, r0⟩ := trodAll_cons hA
  obtain ⟨v1, vs1, d1, ds1, p1, q1, hargs1, rfl, rfl, h1, r1⟩ := trodAll_cons r0
  obtain ⟨v2, vs2, d2, ds2, p2, q2, hargs2, rfl, rfl, h2, r2⟩ := trodAll_cons r1
  obtain ⟨rfl, rfl, rfl⟩ := trodAll_nil r2
  subst hargs2 hargs1
  obtain rfl : args = #[v0, v1, v2] := by cases args; simp_all
  obtain ⟨rfl, rfl⟩ := trodVars_none hV
  clear hA0
  have l0 : Light 22 d0 := fun n hn => hk n (DataW.weights_mem_each (j := 0) rfl rfl n hn)
  have l1 : Light 27 d1 := fun n hn => hk n (DataW.weights_mem_each (j := 1) rfl rfl n hn)
  have l2 : Light 27 d2 := fun n hn => hk n (DataW.weights_mem_each (j := 2) rfl rfl n hn)
  have h0k := h0
  have h1k := h1
  have h2k := h2
  obtain ⟨fuel0, t0⟩ := h0
  obtain ⟨fuel1, t1⟩ := h1
  obtain ⟨fuel2, t2⟩ := h2
  have hv1 := hval 1 27 v1 rfl rfl
  have hv2 := hval 2 27 v2 rfl rfl
  unfold Value.okWide at hv1 hv2
  rw [Tryz.underlying27] at hv1 hv2
  obtain ⟨cs1, rfl, hcs1, _⟩ := hv1
  obtain ⟨cs2, rfl, hcs2, _⟩ := hv2
  have c0 : v0.cells.toList = [v0] := by
    have hv0 := hval 0 22 v0 rfl rfl
    cases v0 with
    | agg c =>
      exfalso
      unfold Value.okWide at hv0
      rw [Tryz.underlying22] at hv0
      have hv0 : Cell.okWide Tryz.prog W .any base 22 (.agg c) := hv0
      unfold Cell.okWide at hv0
      rw [Tryz.underlying22] at hv0
      have hv0 : Cell.ok Tryz.prog W .any base 22 (.agg c) := hv0
      unfold Cell.ok at hv0
      rw [Tryz.underlying22] at hv0
      exact hv0
    | _ => rfl
  rw [c0] at t0
  obtain ⟨ts, hL, hcut, hF⟩ := read_list t0
  obtain ⟨_, ta, hNa, hFa⟩ := read_node _ _ _ t1
  obtain ⟨_, tb, hNb, hFb⟩ := read_node _ _ _ t2
  have hrel : VRels (piW W) #[absV W v0, .agg ((Value.agg cs1).cells.toList.map (absV W)).toArray, .agg ((Value.agg cs2).cells.toList.map (absV W)).toArray] #[v0, .agg cs1, .agg cs2] := by
    have ag : ∀ cs : Array Value, VRel (piW W) (.agg ((Value.agg cs).cells.toList.map (absV W)).toArray) (.agg cs) := fun cs => by
      refine .agg _ _ (by simp [Value.cells]) fun j ha hb => ?_
      simp only [Value.cells, List.getElem_toArray, List.getElem_map, Array.getElem_toList]
      exact absV_rel W _
    refine VRels.three (absV_rel W v0) (ag cs1) (ag cs2)
  have D := chains_run hL hcut hNa hNb (hF l0) (hFa l1) W.heap.size W (piW W) W #[v0, .agg cs1, .agg cs2] (sW_free W) (sW_rel W) hrel
  rw [callFunc_run (fnOf_ok known0.names) (by rw [fn3]; rfl) _ W] at D
  have D' : Calls Tryz.prog 3 #[v0, .agg cs1, .agg cs2] W (After W.heap.size W (piW W) fun r _ => r = .ret (.bool true)) := D
  refine D'.mono fun e W' ⟨r, s, π', _, _, R, hc, hr⟩ => ?_
  subst hr
  cases e with
  | returned v =>
    have hv : VRel π' (.bool true) v := hc
    cases hv
    have hb := R.below
    have hlt : ∀ x ∈ p0 ++ (p1 ++ (p2 ++ [])), x.block < W.heap.size := fun x hx => by simpa using hW'.lt x (by simpa using hx)
    refine ⟨_, rfl, post_below (pa := p0 ++ (p1 ++ (p2 ++ []))) (pv := []) hW' (fun _ _ _ => trodAll_cons_mk (shut_bool Tryz.underlying4 _) trodAll_mk0) (fun sp hs => trodAll_cons_mk ?_ (trodAll_cons_mk ?_ (trodAll_cons_mk ?_ trodAll_mk0))) (fun _ _ => rfl) rfl hb (ok_one (by kernel_rfl) rfl (okWide_bool_mk Tryz.underlying4 _))⟩
    · exact WideElems.Trod_stays laid (by kernel_rfl) (of_decide_eq_true (by kernel_rfl)) h0k (fun x hx => hb.same (hlt x (by simp [hx]))) (fun x hx => hs x (by simp [hx]))
    · exact WideElems.Trod_stays laid (by kernel_rfl) (of_decide_eq_true (by kernel_rfl)) h1k (fun x hx => hb.same (hlt x (by simp [hx]))) (fun x hx => hs x (by simp [hx]))
    · exact WideElems.Trod_stays laid (by kernel_rfl) (of_decide_eq_true (by kernel_rfl)) h2k (fun x hx => hb.same (hlt x (by simp [hx]))) (fun x hx => hs x (by simp [hx]))
  | _ => exact hc.elim
end Go.Proofs.YtgpfgcbolinncaaGreat.Abs
