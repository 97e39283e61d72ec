/- PROVED: 'auspicelaw12.FoldTwice' returns true and leaves its argument reading as it read, for every node tree (api.Node) whose reading, shared parts counted each time they are met, holds at most 1048576 values: Rows.FoldTwiceUptoSaid.
   CONDITIONS: none beyond the statement's own: the row's bound (bulk at most 1048576) and the row's cells. No hypothesis is added. -/
import Derived.Test.YtgpfgcbolinncaaG19
import Derived.Test.YtgpfgcbolinncaaRows
import Derived.WalkKit
import Derived.ProofKit
import Derived.OpenShut
import Derived.JoinedCond
import Derived.Carry
set_option linter.unusedVariables false
set_option linter.unusedSimpArgs false
namespace Go.Proofs.Ytgpfgcbolinncaa.Abs
open Go Go.RowKit

/-- a machine's value, as the abstract heap has it: names are block numbers -/
def absV (W : World) : Value → Value
  | .int k n => .int k n
  | .slice none 0 0 => .slice none 0 0
  | .slice (some a) len cap => if len = 0 then .slice none 0 1 else if a.spot = none ∧ len ≤ cap ∧ (W.shape? a.block).isSome = true then .slice (some ⟨a.block, a.off, none⟩) len 0 else topV
  | _ => topV
def stW (W : World) (n : Nat) : Option AObj := match W.heap[n]? with
  | some (.cells C e _) => some (.cells (C.toList.map (absV W)) e)
  | _ => none
def piW (W : World) (n : Nat) : Option Place := match W.heap[n]? with
  | some (.cells C _ _) => some ⟨n, 0, C.size⟩
  | _ => none
def sW (W : World) : ST := { heap := { st := stW W, dyn := .leaf }, base := W.heap.size, str := 0, ctr := 0, jr := [] }
theorem sW_find (W : World) (n : Nat) : (sW W).heap.find n = (stW W n).map some := by simp [sW, Heap.find, Trie.get]
theorem sW_free (W : World) : (sW W).Free := by
  intro k _
  show (sW W).heap.find _ = none
  rw [sW_find, stW, Array.getElem?_eq_none (by show W.heap.size ≤ W.heap.size + _; omega)]
  rfl
theorem absV_rel (W : World) (v : Value) : VRel (piW W) (absV W v) v := by
  unfold absV
  split
  · exact .int _ _
  · exact .nilSlice
  · rename_i a len cap
    split
    · rename_i h; subst h; exact .empty a cap
    · split
      · rename_i h
        obtain ⟨h1, h2, h3⟩ := h
        obtain ⟨b, o, sp⟩ := a
        simp only at h1 h3
        subst h1
        unfold World.shape? at h3
        split at h3
        · rename_i C e fr hh
          exact .slice b o len 0 ⟨b, 0, C.size⟩ o cap (by simp [piW, hh]) (fun _ => by simp) h2 (.inl rfl)
        · cases h3
      · exact .top _ _ _
  · exact .top _ _ _
theorem sW_rel (W : World) : Rel W.heap.size W (piW W) (sW W).heap W := by
  have hst : ∀ n o, stW W n = some o → ∃ C e fr, W.heap[n]? = some (.cells C e fr) ∧ o = .cells (C.toList.map (absV W)) e := by
    intro n o h
    unfold stW at h
    split at h
    · rename_i C e fr hh
      cases h
      exact ⟨C, e, fr, hh, rfl⟩
    · cases h
  refine ⟨Below.refl _ W, Nat.le_refl _, ?_, ?_, fun n p h => by simp [sW, Trie.get] at h, fun n m o q p p' h => by simp [sW, Trie.get] at h, ?_⟩
  · intro n o h
    rw [sW_find] at h
    simp only [Option.map_eq_some_iff] at h
    obtain ⟨o', h, e⟩ := h
    cases e
    obtain ⟨C, e, fr, hh, rfl⟩ := hst n _ h
    refine ⟨⟨n, 0, C.size⟩, by simp [piW, hh], C, fr, hh, rfl, by simp, ?_, fun hB => ?_⟩
    · intro i v hi
      simp only [List.getElem?_map, Option.map_eq_some_iff] at hi
      obtain ⟨x, hx, rfl⟩ := hi
      exact ⟨x, by simpa using hx, absV_rel W x⟩
    · have := (Array.getElem?_eq_some_iff.1 hh).1
      exact absurd this (Nat.not_lt.2 hB)
  · intro n p h
    rw [sW_find]
    unfold piW at h
    split at h
    · rename_i C e fr hh
      simp [stW, hh]
    · cases h
  · intro n o h
    refine ⟨by simp [sW, Trie.get], ?_⟩
    obtain ⟨C, e, fr, hh, rfl⟩ := hst n o h
    exact ⟨⟨n, 0, C.size⟩, by simp [piW, hh], (Array.getElem?_eq_some_iff.1 hh).1⟩
theorem cellsOf27 : Try.prog.cellsOf 27 = 7 := by kernel_rfl
theorem cellsOf22 : Try.prog.cellsOf 22 = 1 := by kernel_rfl
theorem cellsOf25 : Try.prog.cellsOf 25 = 2 := by kernel_rfl
theorem cellsOf3 : Try.prog.cellsOf 3 = 1 := by kernel_rfl
theorem cellsOf23 : Try.prog.cellsOf 23 = 1 := by kernel_rfl
section
variable {H : Type} {enc : TypeId × Value → H} {W : World} {base : Nat} {sp : Nat → Bool} {held : Bool}
theorem trod_int {t : TypeId} {k : IntKind} (ht : Try.prog.underlying t = some (.int k)) {n : Nat} {cs : List Value} {x : DataW H × List MemPlace} (h : DataW.trod enc Try.prog W base sp held n t cs = some x) : ∃ i, cs = [.int k i] := by
  cases n with
  | zero => simp [DataW.trod] at h
  | succ m =>
    unfold DataW.trod at h
    rw [ht] at h
    split at h <;> simp_all
theorem trod_slice27 {n : Nat} {cs : List Value} {x : DataW H × List MemPlace} (h : DataW.trod enc Try.prog W base sp held n 22 cs = some x) : cs = [.slice none 0 0] ∨
    ∃ a len cap elems spare m, cs = [.slice (some a) len cap] ∧ n = m + 1 ∧ len ≤ cap ∧ x.1 = .slice elems spare ∧ elems.length = len ∧ ∀ i, i < len → ∃ d p, elems[i]? = some d ∧ (W.cells? base (a.add (i * 7)) 7).bind (DataW.trod enc Try.prog W base sp held m 27) = some (d, p) := by
  cases n with
  | zero => simp [DataW.trod] at h
  | succ m =>
    unfold DataW.trod at h
    rw [Try.underlying22] at h
    split at h
    all_goals first | (simp_all; done) | skip
    · rename_i e a len cap he
      cases he
      simp only [cellsOf27] at h
      split at h
      · rename_i hb
        obtain ⟨els, h1, h2⟩ := Option.bind_eq_some_iff.1 h
        obtain ⟨rest, h3, rfl⟩ := Option.map_eq_some_iff.1 h2
        have hlen : els.length = len := by simpa using mapM_some_length h1
        refine .inr ⟨a, len, cap, _, _, m, rfl, rfl, hb.2.1, rfl, by simp [hlen], fun i hi => ?_⟩
        have hg := mapM_some_get h1 i i (by simp [hi])
        rw [List.getElem?_eq_getElem (by omega)] at hg
        exact ⟨(els[i]'(by omega)).1, (els[i]'(by omega)).2, by simp [hlen, hi], hg⟩
      · cases h
theorem cells_at {a : Addr} {n : Nat} {cs : List Value} (h : W.cells? base a n = some cs) (hn : 0 < n) : ∃ C e fr, W.heap[a.block]? = some (.cells C e fr) ∧ a.off + n ≤ C.size ∧ cs = (C.toList.drop a.off).take n := by
  obtain ⟨hb, hl, hc⟩ := World.cells?_some h
  have hh : ∃ C e fr, W.heap[a.block]? = some (.cells C e fr) := by
    have h0 := hc 0 hn
    rw [List.getElem?_eq_getElem (by omega)] at h0
    unfold World.cell? at h0
    simp only [Addr.add, if_true] at h0
    split at h0
    · rename_i C e fr hh; exact ⟨C, e, fr, hh⟩
    · cases h0
  obtain ⟨C, e, fr, hh⟩ := hh
  have hc2 : ∀ i, i < n → C[a.off + i]? = cs[i]? := by
    intro i hi
    have hi2 := hc i hi
    rw [List.getElem?_eq_getElem (by omega)] at hi2
    unfold World.cell? at hi2
    have hblk : (a.add i).block = a.block := by unfold Addr.add; split <;> rfl
    have hoff : (a.add i).off = a.off + i := by
      unfold Addr.add; split
      · rename_i h; subst h; rfl
      · rfl
    rw [hblk, hh] at hi2
    simp only [hoff] at hi2
    split at hi2
    · cases hi2
    · rw [hi2, List.getElem?_eq_getElem (by omega)]
  refine ⟨C, e, fr, hh, ?_, ?_⟩
  · have := hc2 (n - 1) (by omega)
    rw [List.getElem?_eq_getElem (by omega)] at this
    have := (Array.getElem?_eq_some_iff.1 this).1
    omega
  · apply List.ext_getElem?
    intro i
    by_cases hi : i < n
    · rw [List.getElem?_take, if_pos hi, List.getElem?_drop, ← hc2 i hi, Array.getElem?_toList]
    · rw [List.getElem?_eq_none (by omega), List.getElem?_eq_none (by simp; omega)]
theorem spot_at {a : Addr} {n : Nat} {cs : List Value} (h : W.cells? base a n = some cs) (hn : 0 < n) : a.spot = none := by
  obtain ⟨hb, hl, hc⟩ := World.cells?_some h
  have h0 := hc 0 hn
  rw [List.getElem?_eq_getElem (by omega)] at h0
  unfold World.cell? at h0
  simp only [Addr.add, if_true] at h0
  split at h0
  · split at h0
    · cases h0
    · rename_i h; simpa using h
  · cases h0
theorem list_of {α : Type} {P : Nat → α → Prop} : ∀ (n : Nat), (∀ i, i < n → ∃ t, P i t) → ∃ l : List α, l.length = n ∧ ∀ i t, l[i]? = some t → P i t
  | 0, _ => ⟨[], rfl, by simp⟩
  | n + 1, h => by
    obtain ⟨l, hl, hp⟩ := list_of n fun i hi => h i (by omega)
    obtain ⟨t, ht⟩ := h n (by omega)
    refine ⟨l ++ [t], by simp [hl], fun i u hu => ?_⟩
    by_cases hi : i < l.length
    · rw [List.getElem?_append_left hi] at hu
      exact hp i u hu
    · rw [List.getElem?_append_right (by omega)] at hu
      have : i - l.length = 0 := by
        apply Classical.byContradiction
        intro hne
        rw [List.getElem?_eq_none (by simp; omega)] at hu
        cases hu
      rw [this] at hu
      simp only [List.getElem?_cons_zero, Option.some.injEq] at hu
      subst hu
      have : i = n := by omega
      subst this
      exact ht
theorem sum_bulk : ∀ {ts : List Tree} {ds : List (DataW H)}, ts.length = ds.length → (∀ (i : Nat) (t : Tree) (d : DataW H), ts[i]? = some t → ds[i]? = some d → cnt t ≤ Rows.uptoBulk d) → (ts.map cnt).sum ≤ Rows.uptoBulkAll ds
  | [], [], _, _ => by simp [Rows.uptoBulkAll]
  | [], _ :: _, h, _ => by simp at h
  | _ :: _, [], h, _ => by simp at h
  | t :: ts, d :: ds, h, k => by
    have h0 := k 0 t d rfl rfl
    have := sum_bulk (ts := ts) (ds := ds) (by simpa using h) fun i t d ht hd => k (i + 1) t d (by simpa using ht) (by simpa using hd)
    simp only [List.map_cons, List.sum_cons, Rows.uptoBulkAll]
    omega
theorem read_node : ∀ (n : Nat) (cs : List Value) (x : DataW H × List MemPlace), DataW.trod enc Try.prog W base sp held n 27 cs = some x →
    cs.length = 7 ∧ ∃ t, NodeV (sW W).heap t (.agg (cs.map (absV W)).toArray) ∧ cnt t ≤ Rows.uptoBulk x.1 := by
  intro n
  induction n using Nat.strongRecOn with
  | ind n ih =>
    intro cs x h
    obtain ⟨xs, m, rfl, rfl, hl, hlen, hf⟩ := DataW.trod_struct Try.underlying27 h
    rw [cellsOf27] at hl
    match cs, hl with
    | [c0, c1, c2, c3, c4, c5, c6], _ =>
    match xs, hlen with
    | [y0, y1, y2, y3, y4, y5], _ =>
    have g0 : DataW.trod enc Try.prog W base sp held m 3 [c0] = some y0 := by simpa [cellsOf3, cellsOf22, cellsOf25, cellsOf23] using hf 0 _ rfl
    have g1 : DataW.trod enc Try.prog W base sp held m 3 [c1] = some y1 := by simpa [cellsOf3, cellsOf22, cellsOf25, cellsOf23] using hf 1 _ rfl
    have g2 : DataW.trod enc Try.prog W base sp held m 22 [c2] = some y2 := by simpa [cellsOf3, cellsOf22, cellsOf25, cellsOf23] using hf 2 _ rfl
    have g3 : DataW.trod enc Try.prog W base sp held m 25 [c3, c4] = some y3 := by simpa [cellsOf3, cellsOf22, cellsOf25, cellsOf23] using hf 3 _ rfl
    have g4 : DataW.trod enc Try.prog W base sp held m 3 [c5] = some y4 := by simpa [cellsOf3, cellsOf22, cellsOf25, cellsOf23] using hf 4 _ rfl
    have g5 : DataW.trod enc Try.prog W base sp held m 3 [c6] = some y5 := by simpa [cellsOf3, cellsOf22, cellsOf25, cellsOf23] using hf 5 _ rfl
    obtain ⟨op, e0⟩ := trod_int Try.underlying3 g0
    obtain ⟨kind, e1⟩ := trod_int Try.underlying3 g1
    obtain ⟨pos, e5⟩ := trod_int Try.underlying3 g4
    obtain ⟨attr, e6⟩ := trod_int Try.underlying3 g5
    obtain ⟨zs, m3, rfl, ex3, hl3, hlen3, hf3⟩ := DataW.trod_struct Try.underlying25 g3
    match zs, hlen3 with
    | [z0, z1], _ =>
    have k0 : DataW.trod enc Try.prog W base sp held m3 3 [c3] = some z0 := by simpa [cellsOf3, cellsOf22, cellsOf25, cellsOf23] using hf3 0 _ rfl
    have k1 : DataW.trod enc Try.prog W base sp held m3 23 [c4] = some z1 := by simpa [cellsOf3, cellsOf22, cellsOf25, cellsOf23] using hf3 1 _ rfl
    obtain ⟨vk, e3⟩ := trod_int Try.underlying3 k0
    obtain ⟨bits, e4⟩ := trod_int Try.underlying23 k1
    simp only [List.cons.injEq, and_true] at e0 e1 e3 e4 e5 e6
    subst e0 e1 e3 e4 e5 e6
    refine ⟨rfl, ?_⟩
    have leaf : ∀ k, c2 = .slice none 0 0 ∧ k = 0 ∨ absV W c2 = .slice none 0 k → ∃ t, NodeV (sW W).heap t (.agg (([.int .i64 op, .int .i64 kind, c2, .int .i64 vk, .int .u64 bits, .int .i64 pos, .int .i64 attr] : List Value).map (absV W)).toArray) ∧ cnt t ≤ Rows.uptoBulk (DataW.agg (([y0, y1, y2, y3, y4, y5] : List (DataW H × List MemPlace)).map (·.1))) := by
      intro k hk
      have hk : absV W c2 = .slice none 0 k := by
        rcases hk with ⟨rfl, rfl⟩ | hk
        · rfl
        · exact hk
      refine ⟨.mk op kind vk bits pos attr [], ?_, by rw [cnt_eq]; simp only [List.map_nil, List.sum_nil, Rows.uptoBulk]; omega⟩
      have : (Value.agg (([.int .i64 op, .int .i64 kind, c2, .int .i64 vk, .int .u64 bits, .int .i64 pos, .int .i64 attr] : List Value).map (absV W)).toArray) = nodeVal op kind (.slice none 0 k) vk bits pos attr := by
        simp only [List.map_cons, List.map_nil, hk]
        rfl
      rw [this]
      exact .mk op kind vk bits pos attr [] _ 0 0 0 [] 0 (.inl ⟨k, rfl, rfl⟩) (fun h => absurd rfl h) (by simp) (by simp)
    rcases trod_slice27 g2 with e2 | ⟨a, len, cap, elems, spare, m2, e2, hm2, hlc, ey2, hel, hat⟩
    · simp only [List.cons.injEq, and_true] at e2
      subst e2
      exact leaf 0 (.inl ⟨rfl, rfl⟩)
    · simp only [List.cons.injEq, and_true] at e2
      subst e2
      by_cases h0 : len = 0
      · exact leaf 1 (.inr (by simp [absV, h0]))
      · have each : ∀ i, i < len → ∃ t, ∃ d cs, elems[i]? = some d ∧ W.cells? base (a.add (i * 7)) 7 = some cs ∧ NodeV (sW W).heap t (.agg (cs.map (absV W)).toArray) ∧ cnt t ≤ Rows.uptoBulk d := by
          intro i hi
          obtain ⟨d, p, hd, hb⟩ := hat i hi
          obtain ⟨cs, hcs, hr⟩ := Option.bind_eq_some_iff.1 hb
          obtain ⟨_, t, hN, hC⟩ := ih m2 (by omega) cs (d, p) hr
          exact ⟨t, d, cs, hd, hcs, hN, hC⟩
        obtain ⟨ts, hts, hP⟩ := list_of len each
        obtain ⟨t0, d0, cs0, hd0, hcs0, _⟩ := each 0 (by omega)
        simp only [Nat.zero_mul, show a.add 0 = a from rfl] at hcs0
        have hsp := spot_at hcs0 (by omega)
        obtain ⟨C, e, fr, hh, _⟩ := cells_at hcs0 (by omega)
        have hcell : ∀ i, i < len → ∀ cs, W.cells? base (a.add (i * 7)) 7 = some cs → a.off + i * 7 + 7 ≤ C.size ∧ cs = (C.toList.drop (a.off + i * 7)).take 7 := by
          intro i hi cs hcs
          obtain ⟨C', e', fr', hh', h1, h2⟩ := cells_at hcs (by omega)
          have hblk : (a.add (i * 7)).block = a.block := by unfold Addr.add; split <;> rfl
          have hoff : (a.add (i * 7)).off = a.off + i * 7 := by
            unfold Addr.add; split
            · rename_i h; rw [h]; rfl
            · rfl
          rw [hblk, hh] at hh'
          cases hh'
          rw [hoff] at h1 h2
          exact ⟨h1, h2⟩
        refine ⟨.mk op kind vk bits pos attr ts, ?_, ?_⟩
        · have hsl : absV W (.slice (some a) len cap) = .slice (some ⟨a.block, a.off, none⟩) ts.length 0 := by
            simp [absV, h0, hsp, hlc, World.shape?, hh, hts]
          have : (Value.agg (([.int .i64 op, .int .i64 kind, .slice (some a) len cap, .int .i64 vk, .int .u64 bits, .int .i64 pos, .int .i64 attr] : List Value).map (absV W)).toArray) = nodeVal op kind (.slice (some ⟨a.block, a.off, none⟩) ts.length 0) vk bits pos attr := by
            simp only [List.map_cons, List.map_nil, hsl]
            rfl
          rw [this]
          refine .mk op kind vk bits pos attr ts _ a.block a.off 0 (C.toList.map (absV W)) e (.inr rfl) (fun _ => by rw [sW_find]; simp [stW, hh]) ?_ ?_
          · intro i hi
            rw [hts] at hi
            obtain ⟨_, _, cs, _, hcs, _⟩ := each i hi
            have := (hcell i hi cs hcs).1
            simpa using this
          · intro i t ht
            have hi : i < len := by have := (List.getElem?_eq_some_iff.1 ht).1; omega
            obtain ⟨d, cs, hd, hcs, hN, _⟩ := hP i t ht
            have := (hcell i hi cs hcs).2
            rw [← List.map_drop, ← List.map_take, ← this]
            exact hN
        · rw [cnt_eq]
          have hs := sum_bulk (ts := ts) (ds := elems) (by omega) fun i t d ht hd => by
            obtain ⟨d', cs, hd', _, _, hC⟩ := hP i t ht
            rw [hd] at hd'
            cases hd'
            exact hC
          simp only [List.map_cons, List.map_nil, Rows.uptoBulk, Rows.uptoBulkAll, ey2]
          omega
end
end Go.Proofs.Ytgpfgcbolinncaa.Abs
set_option linter.unusedVariables false
set_option linter.unusedSimpArgs false
namespace Go.Proofs.Ytgpfgcbolinncaa.Abs
open Go Go.RowKit Go.ChangeShapes Go.WideShapes Go.ChangeAt

section
variable {H : Type} {enc : TypeId × Value → H} {P : Program}
/-- the post, where below the old heap nothing has turned -/
theorem post_below {f : Func} {s : ChangeSpec} {apart fresh handsOn again : Bool} {W W' : World} {args : Array Value} {v : Value} {ds gs : List (DataW H)} {before pa pv : List MemPlace}
    (hW : DataW.Whole enc P f.params.toList s.vars apart W args.toList ds gs before)
    (hres : ∀ (b : Nat) (sp : Nat → Bool) (hd : Bool), DataW.TrodAll enc P W' b sp hd f.resultTypes.toList (v.resultList f.resultTypes.size) (s.fn H (ds ++ gs)).results [])
    (hargs : ∀ sp : Nat → Bool, (∀ p ∈ before, sp p.block = true) → DataW.TrodAll enc P W' 0 sp true f.params.toList args.toList (s.fn H (ds ++ gs)).args pa)
    (hvars : ∀ sp : Nat → Bool, (∀ p ∈ before, sp p.block = true) → DataW.TrodVars enc P W' sp s.vars (s.fn H (ds ++ gs)).vars pv)
    (hps : before = pa ++ pv) (hb : Below W.heap.size W W')
    (hok : ∀ (j : Nat) (t : TypeId) (r : Value), f.resultTypes[j]? = some t → (v.resultList f.resultTypes.size)[j]? = some r → Value.okWide P W' .any 0 t r) :
    s.post enc P f apart fresh handsOn again W args v W' := by
  have hlt : ∀ p ∈ before, p.block < W.heap.size := fun p hp => hW.lt p hp
  have hold : ∀ p ∈ before, (fun b => decide (b < W.heap.size)) p.block = true := fun p hp => by simpa using hlt p hp
  refine ⟨ds, gs, before, [], pa, pv, hW, hres _ _ _, hargs _ hold, hvars _ hold, World.keptBut_mono (fun p hp => ⟨hp, .inr (by rw [hps, List.mem_append] at hp; exact hp)⟩) (hb.frame (· ∈ before)), fun _ => ?_⟩
  have hW2 := hW
  obtain ⟨_, _, _, _, _, hz, hn⟩ := hW2
  refine ⟨hok, _, _, ([] ++ pa) ++ pv, ⟨[] ++ pa, pv, trodAll_append (hargs _ (fun _ _ => rfl)) (hres _ _ _), hvars _ (fun _ _ => rfl), rfl, ?_, ?_⟩, ?_⟩
  · intro b off hp
    have hp' : MemPlace.cell b off ∈ before := by rw [hps]; simpa using hp
    rw [hb.frozen (hlt _ hp')]
    exact hz b off hp'
  · intro ha
    have := hn ha
    rw [hps] at this
    simpa using this
  · intro p hp _
    rw [hps]
    simpa using hp
end
theorem own : ownKnob Try.prog.godebug = none := by kernel_rfl
theorem laid : laidOutB Try.prog = true := by kernel_rfl
theorem contract (H : Type) (enc : TypeId × Value → H) (W : World) (base : Nat) (args : Array Value) (ds gs : List (DataW H)) (before : List MemPlace)
    (hval : ∀ (j : Nat) t v, Try.f3.params[j]? = some t → args[j]? = some v → Value.okWide Try.prog W .any base t v)
    (hW : DataW.Whole enc Try.prog Try.f3.params.toList Rows.foldTwiceSpec.vars false W args.toList ds gs before) (hk : Rows.uptoSmall H (ds ++ gs) = true) :
    Calls Try.prog 3 args W fun e W' => ∃ v, e = .returned v ∧ Rows.foldTwiceSpec.post enc Try.prog Try.f3 false true false false W args v W' := by
  have hW' := hW
  obtain ⟨p, q, hA0, hV, rfl, hfz, hnd⟩ := hW
  have hA : DataW.TrodAll enc Try.prog W 0 (fun _ => true) true Try.f3.params.toList args.toList ds p := hA0
  rw [Try.params3] at hA hval
  obtain ⟨v0, vs0, d0, ds0, p0, q0, hargs, rfl, rfl, h0, r0⟩ := trodAll_cons hA
  obtain ⟨rfl, rfl, rfl⟩ := trodAll_nil r0
  obtain rfl : args = #[v0] := by cases args; simp_all
  obtain ⟨rfl, rfl⟩ := trodVars_none hV
  clear hA0
  have h0k := h0
  obtain ⟨fuel, ht⟩ := h0
  obtain ⟨hl7, t, hN, hC⟩ := read_node _ _ _ ht
  have hv := hval 0 27 v0 rfl rfl
  unfold Value.okWide at hv
  rw [Try.underlying27] at hv
  obtain ⟨cs, rfl, hcs, _⟩ := hv
  have hcnt : cnt t < 2 ^ 40 := by
    have h : Rows.uptoBulkAll ([d0] ++ []) ≤ 1048576 := of_decide_eq_true hk
    simp only [List.append_nil, Rows.uptoBulkAll] at h
    have : cnt t ≤ Rows.uptoBulk d0 := hC
    omega
  have hrel : VRels (piW W) #[.agg ((Value.agg cs).cells.toList.map (absV W)).toArray] #[.agg cs] := by
    refine ⟨rfl, fun i a b => ?_⟩
    have : i = 0 := by simp at a; omega
    subst this
    refine .agg _ _ (by simp [Value.cells]) fun j ha hb => ?_
    simp only [Value.cells, List.getElem_toArray, List.getElem_map, Array.getElem_toList]
    exact absV_rel W _
  have D := fold_run hN hcnt W.heap.size W (piW W) W #[.agg cs] (sW_free W) (sW_rel W) hrel
  rw [callFunc_run (fnOf_ok known0.names) (by rw [fn3]; rfl) _ W] at D
  have D' : Calls Try.prog 3 #[.agg cs] W (After W.heap.size W (piW W) fun r _ => r = .ret (.bool true)) := D
  refine D'.mono fun e W' ⟨r, s, π', _, _, R, hc, hr⟩ => ?_
  subst hr
  cases e with
  | returned v =>
    have hv : VRel π' (.bool true) v := hc
    cases hv
    have hb := R.below
    have hlt : ∀ x ∈ p0, x.block < W.heap.size := fun x hx => by simpa using hW'.lt x (by simpa using hx)
    refine ⟨_, rfl, post_below (pa := p0 ++ []) (pv := []) hW' (fun _ _ _ => trodAll_cons_mk (shut_bool Try.underlying4 _) trodAll_mk0) (fun sp hs => trodAll_cons_mk ?_ trodAll_mk0) (fun _ _ => rfl) rfl hb (ok_one (by kernel_rfl) rfl (okWide_bool_mk Try.underlying4 _))⟩
    exact WideElems.Trod_stays laid (by kernel_rfl) (of_decide_eq_true (by kernel_rfl)) h0k (fun x hx => hb.same (hlt x hx)) (fun x hx => hs x (by simpa using hx))
  | _ => exact hc.elim
end Go.Proofs.Ytgpfgcbolinncaa.Abs
set_option linter.unusedVariables false
set_option linter.unusedSimpArgs false
namespace Go.Proofs.Ytgpfgcbolinncaa.foldTwice
open Go Go.RowKit Go.ChangeShapes Go.WideShapes Go.ChangeAt Go.Proofs.Ytgpfgcbolinncaa.Abs

set_option maxRecDepth 100000 in
theorem lifted (os : Os) (started : os.Started) (H : Type) (enc : TypeId × Value → H) (F : Stop.Interp) :
    ReturnsInHanded {} Try.checked os 3 .any ((Rows.OpenSpec.upto Rows.foldTwiceSpec).pre6 enc Try.prog Try.f3 Rows.foldTwiceUptoRow.domain false) (((Rows.OpenSpec.upto Rows.foldTwiceSpec).at F).post enc Try.prog Try.f3 false true false false) := by
  refine returnsInHanded_of_cond (C := Try.checked) (s := Rows.OpenSpec.upto Rows.foldTwiceSpec) (k := Rows.uptoSmall) rfl own started (by kernel_rfl) Try.func3
    (OpenSpec.witness (enc := enc) (C := Try.checked) (s := Rows.OpenSpec.upto Rows.foldTwiceSpec) (k := Rows.uptoSmall) rfl false ⟨#[], #[.agg #[.int .i64 0, .int .i64 0, .slice none 0 0, .int .i64 0, .int .u64 0, .int .i64 0, .int .i64 0]], []⟩ 8 (by kernel_rfl) (by kernel_rfl) (by kernel_rfl)
      (x := ([.agg [.lit (.int .i64 0), .lit (.int .i64 0), .nil, .agg [.lit (.int .i64 0), .lit (.int .u64 0)], .lit (.int .i64 0), .lit (.int .i64 0)]], [], [])) (by kernel_rfl) rfl (by kernel_rfl)) ?_
  intro W base args ds gs before hval hW _ hk _
  exact contract H enc W base args ds gs before hval hW hk

theorem over : Rows.foldTwiceUptoRow.holds Try.pinned (Rows.OpenSpec.upto Rows.foldTwiceSpec) :=
  OpenClaim.holds_of_cond 3 Try.f3 rfl rfl rfl rfl rfl rfl rfl ⟨rfl, rfl, rfl, rfl, rfl⟩ rfl rfl rfl rfl rfl (by kernel_rfl) Try.func3 (by kernel_rfl)
    (of_decide_eq_true (by kernel_rfl)) (by unfold Func.isWrapper; first | (rw [if_pos (by decide +kernel)]; kernel_rfl) | (rw [if_neg (by decide +kernel)]; exact ⟨rfl, rfl⟩))
    (fun os started H enc _ F => lifted os started H enc F)

theorem proved : Rows.FoldTwiceUptoSaid :=
  over
#print axioms proved
end Go.Proofs.Ytgpfgcbolinncaa.foldTwice
