/- prove.Chain: conditions as one. -/
import Derived.Test.YtgpfgcbolinncaaGreatZ8
set_option linter.unusedVariables false
set_option linter.unusedSimpArgs false
namespace Go.Proofs.YtgpfgcbolinncaaGreat.Abs
open Go Go.RowKit

def andT (n x : Tree) : Tree := .mk 13 2 0 0 0 0 [n, x]
def chainT : List Tree → Tree
  | [] => .mk 0 0 0 0 0 0 []
  | t :: ts => ts.foldl andT t
theorem chainT_snoc (ts : List Tree) (h : ts ≠ []) (x : Tree) : chainT (ts ++ [x]) = andT (chainT ts) x := by
  cases ts with
  | nil => exact absurd rfl h
  | cons t ts => simp [chainT, List.foldl_append]
theorem fn5 : fnOf Tryz.prog 5 = some ((Tryz.f5.body.getD .skip), Tryz.f5.ntmps, Tryz.f5.results) := by kernel_rfl
theorem zeros27b : zerosL Tryz.prog 27 7 2 = some (z27 ++ z27) := by kernel_rfl
theorem lit22b (op kind : Int) {sl : Value} (hs : cellOk sl = true) (vk bits pos attr op2 kind2 : Int) {sl2 : Value} (hs2 : cellOk sl2 = true) (vk2 bits2 pos2 attr2 : Int) :
    sliceCells Tryz.prog 27 7 2 [(0, nodeVal op kind sl vk bits pos attr), (1, nodeVal op2 kind2 sl2 vk2 bits2 pos2 attr2)] = some (nodeCells op kind sl vk bits pos attr ++ nodeCells op2 kind2 sl2 vk2 bits2 pos2 attr2) := by
  unfold sliceCells
  simp [zeros27b, z27, fillL, spliceL, known, cellsL, nodeVal, nodeCells, hs, hs2]
theorem build27 (a : Option Addr) (l k : Nat) : buildA Tryz.prog 27 [(0, .int .i64 13), (1, .int .i64 2), (2, .slice a l k)] = some (nodeVal 13 2 (.slice a l k) 0 0 0 0) := by
  unfold buildA
  simp [Tryz.underlying27, zero27, placesL, z27, fillL, spliceL, known, cellsL, nodeVal]
def chA (stored : Bool) (n4 : Nat) (cur new : List Value) : LE := .obj n4 (.cells (if stored = true then new else cur) 27)
structure InvC (s0 : ST) (H1 : Heap) (X : Tree) (n2 n4 n6 : Nat) (cur xc : List Value) (curV xv : Value) (L : Nat → Bool) (vals : Nat → Value) (s : ST) : Prop where
  v0 : L 0 = true → vals 0 = curV
  v1 : L 1 = true → vals 1 = xv
  o3 : L 3 = true → L 2 = true ∧ L 0 = true
  o4 : L 4 = true → L 3 = true
  o5 : L 5 = true → L 4 = true
  pre : L 3 = false → ∃ b H2, Kept s0 b ∧ Loc b s [.obj n6 (.cells xc 27), .obj n4 (.cells cur 27), .obj n2 (.cells z27 27)] ∧ HLe H1 H2 ∧ Sub H2 b ∧ NewTo H1 H2 s0 ∧ (L 2 = true → NodeV H2 X (vals 2))
  post : L 3 = true → ∃ b H2 m op kind sl vk bits pos attr, Kept s0 b ∧ HLe H1 H2 ∧ Sub H2 b ∧ NewTo H1 H2 s0 ∧ cellOk sl = true ∧ NodeV H2 X (nodeVal op kind sl vk bits pos attr) ∧ vals 3 = .slice (some ⟨m, 0, none⟩) 2 7 ∧
    (L 4 = true → vals 4 = nodeVal 13 2 (.slice (some ⟨m, 0, none⟩) 2 7) 0 0 0 0) ∧
    Loc b s [.obj m (.cells (cur ++ nodeCells op kind sl vk bits pos attr) 27), .obj n6 (.cells xc 27), chA (L 5) n4 cur (nodeCells 13 2 (.slice (some ⟨m, 0, none⟩) 2 7) 0 0 0 0), .obj n2 (.cells z27 27)]
set_option maxHeartbeats 8000000 in
set_option maxRecDepth 10000 in
theorem chain_draw {s0 b0 s : ST} {H1 : Heap} {X : Tree} {n2 n4 n6 : Nat} {op1 kind1 vk1 bits1 pos1 attr1 op kind vk bits pos attr : Int} {sl1 sl : Value} (hf : s.Free) (hs1 : cellOk sl1 = true) (hs : cellOk sl = true) (Kb : Kept s0 b0)
    (L0 : Loc b0 s [.obj n6 (.cells (nodeCells op kind sl vk bits pos attr) 27), .obj n4 (.cells (nodeCells op1 kind1 sl1 vk1 bits1 pos1 attr1) 27), .obj n2 (.cells z27 27)])
    (sub1 : Sub H1 b0) (hv : NodeV H1 X (nodeVal op kind sl vk bits pos attr)) (hc : Fit X)
    {env : Trie Value} (e4 : env.get 4 = some (.pointer (some ⟨n4, 0, none⟩))) (e6 : env.get 6 = some (.pointer (some ⟨n6, 0, none⟩))) {Q : SR → ST → Prop}
    (hnext : ∀ env' s' b H2 m op' kind' sl' vk' bits' pos' attr', (∀ t, t < 22 → env'.get t = env.get t) → Kept s0 b → HLe H1 H2 → Sub H2 b → NewTo H1 H2 s0 → cellOk sl' = true → NodeV H2 X (nodeVal op' kind' sl' vk' bits' pos' attr') →
      Loc b s' [.obj m (.cells (nodeCells op1 kind1 sl1 vk1 bits1 pos1 attr1 ++ nodeCells op' kind' sl' vk' bits' pos' attr') 27), .obj n6 (.cells (nodeCells op kind sl vk bits pos attr) 27), .obj n4 (.cells (nodeCells 13 2 (.slice (some ⟨m, 0, none⟩) 2 7) 0 0 0 0) 27), .obj n2 (.cells z27 27)] → Q (.next ⟨29, env', []⟩) s') :
    wDraw Tryz.prog (opsOf (codeAt [true, true, true, false, true, false, false, true, true, false, false, true] (Tryz.f5.body.getD .skip))).toArray ⟨29, env, []⟩ s Q := by
  dsimp only [Tryz.f5, Option.getD_some, codeAt, opsOf]
  refine w_draw [[], [], [(1, 23)], [(0, 22), (2, 24)], [(3, 25)], [(4, 26)]] [(0, 22), (1, 23), (2, 24), (3, 25), (4, 26)] (by kernel_rfl)
    (InvC s0 H1 X n2 n4 n6 (nodeCells op1 kind1 sl1 vk1 bits1 pos1 attr1) (nodeCells op kind sl vk bits pos attr) (nodeVal op1 kind1 sl1 vk1 bits1 pos1 attr1) (nodeVal op kind sl vk bits pos attr)) (fun _ _ => False)
    ⟨fun h => absurd h (by simp), fun h => absurd h (by simp), fun h => absurd h (by simp), fun h => absurd h (by simp), fun h => absurd h (by simp),
      fun _ => ⟨b0, H1, Kb, L0, fun _ _ => rfl, sub1, NewTo.refl _ _, fun h => absurd h (by simp)⟩, fun h => absurd h (by simp)⟩ hf ?_ ?_ ?_
  · refine ⟨?_, ?_, ?_, ?_, ?_, ?_, trivial⟩
    · rintro L vals s' f I hi hd
      have h3 : L 3 = false := by cases h : L 3 with | false => rfl | true => rw [(I.o3 h).2] at hi; cases hi
      obtain ⟨b, H2, K, LL, le, sub, new, h2⟩ := I.pre h3
      simp -dsimp [setE, e4, (fields LL 1 rfl).all]
      refine SRv.put (by decide) ⟨?_, ?_, ?_, ?_, ?_, ?_, ?_⟩
      · intro _; simp [updV]
      · simpa [updB, updV] using I.v1
      · simp [updB, h3]
      · simpa [updB] using I.o4
      · simpa [updB] using I.o5
      · intro _; exact ⟨b, H2, K, LL, le, sub, new, by simpa [updB, updV] using h2⟩
      · simp [updB, h3]
    · rintro L vals s' f I hi hd
      cases h3 : L 3 with
      | false =>
        obtain ⟨b, H2, K, LL, le, sub, new, h2⟩ := I.pre h3
        simp -dsimp [setE, e6, (fields LL 0 rfl).all]
        refine SRv.put (by decide) ⟨?_, ?_, ?_, ?_, ?_, ?_, ?_⟩
        · simpa [updB, updV] using I.v0
        · intro _; simp [updV]
        · simpa [updB] using I.o3
        · simpa [updB] using I.o4
        · simpa [updB] using I.o5
        · intro _; exact ⟨b, H2, K, LL, le, sub, new, by simpa [updB, updV] using h2⟩
        · simp [updB, h3]
      | true =>
        obtain ⟨b, H2, m, op', kind', sl', vk', bits', pos', attr', K, le, sub, new, hs', hv', h3v, h4v, LL⟩ := I.post h3
        simp -dsimp [setE, e6, (fields LL 1 rfl).all]
        refine SRv.put (by decide) ⟨?_, ?_, ?_, ?_, ?_, ?_, ?_⟩
        · simpa [updB, updV] using I.v0
        · intro _; simp [updV]
        · simpa [updB] using I.o3
        · simpa [updB] using I.o4
        · simpa [updB] using I.o5
        · intro h; simp [updB, h3] at h
        · intro _; exact ⟨b, H2, m, op', kind', sl', vk', bits', pos', attr', K, le, sub, new, hs', hv', by simpa [updV] using h3v, by simpa [updB, updV] using h4v, by simpa [updB] using LL⟩
    · rintro L vals s' f I hi hd
      simp only [allL, and_true] at hd
      have h3 : L 3 = false := by cases h : L 3 with | false => rfl | true => rw [(I.o3 h).1] at hi; cases hi
      obtain ⟨b, H2, K, LL, le, sub, new, h2⟩ := I.pre h3
      simp -dsimp [setE, I.v1 hd]
      refine Does.mono (twin_run X H2 _ s' (sub.kept LL.kept) (hv.keep le) hc) ?_
      rintro _ s7 f7 ⟨K7, H7, v7, rfl, le7, sub7, new7, nv7⟩
      obtain ⟨b7, Kb7, L7, fb7⟩ := (LL.keep K7).rebase
      have sub7' : Sub H7 b7 := Sub.base LL sub new7 sub7 fb7
      simp -dsimp [setE, I.v1 hd]
      refine SRv.put (by decide) ⟨?_, ?_, ?_, ?_, ?_, ?_, ?_⟩
      · simpa [updB, updV] using I.v0
      · simpa [updB, updV] using I.v1
      · simp [updB, h3]
      · simpa [updB] using I.o4
      · simpa [updB] using I.o5
      · intro _; exact ⟨b7, H7, K.trans Kb7, L7, le.trans le7, sub7', new.trans (K.trans LL.kept) new7, fun _ => by simpa [updV] using nv7⟩
      · simp [updB, h3]
    · rintro L vals s' f I hi hd
      simp only [allL, and_true] at hd
      obtain ⟨b, H2, K, LL, le, sub, new, h2⟩ := I.pre hi
      have h4 : L 4 = false := by cases h : L 4 with | false => rfl | true => rw [I.o4 h] at hi; cases hi
      have h5 : L 5 = false := by cases h : L 5 with | false => rfl | true => rw [I.o5 h] at h4; cases h4
      have nv := h2 hd.2
      obtain ⟨op', kind', vk', bits', pos', attr', ts', sl', eX, eV, hA'⟩ := nv.open_
      rw [eV] at nv
      simp -dsimp [setE, I.v0 hd.1, eV]
      refine x_buildSlice LL slice22 sz27 (lit22b _ _ hs1 _ _ _ _ _ _ hA'.cell _ _ _ _) fun mm s8 L8 => ?_
      simp -dsimp [setE, I.v0 hd.1, eV]
      refine SRv.put (by decide) ⟨?_, ?_, ?_, ?_, ?_, ?_, ?_⟩
      · simpa [updB, updV] using I.v0
      · simpa [updB, updV] using I.v1
      · intro _; simp [updB, hd.1, hd.2]
      · simp [updB]
      · simpa [updB] using I.o5
      · intro h; simp [updB] at h
      · intro _
        exact ⟨b, H2, mm, op', kind', sl', vk', bits', pos', attr', K, le, sub, new, hA'.cell, nv, by simp [updV], by simp [updB, h4], by simpa [chA, updB, h5] using L8⟩
    · rintro L vals s' f I hi hd
      simp only [allL, and_true] at hd
      obtain ⟨b, H2, m, op', kind', sl', vk', bits', pos', attr', K, le, sub, new, hs', hv', h3v, h4v, LL⟩ := I.post hd
      have h5 : L 5 = false := by cases h : L 5 with | false => rfl | true => rw [I.o5 h] at hi; cases hi
      simp -dsimp [setE, h3v, build27]
      refine SRv.put (by decide) ⟨?_, ?_, ?_, ?_, ?_, ?_, ?_⟩
      · simpa [updB, updV] using I.v0
      · simpa [updB, updV] using I.v1
      · simpa [updB] using I.o3
      · intro _; simpa [updB] using hd
      · simp [updB]
      · intro h; simp [updB, hd] at h
      · intro _
        exact ⟨b, H2, m, op', kind', sl', vk', bits', pos', attr', K, le, sub, new, hs', hv', by simpa [updV] using h3v, by simp [updV], by simpa [updB] using LL⟩
    · rintro L vals s' f I hi hd
      simp only [allL, and_true] at hd
      have h3 := I.o4 hd
      obtain ⟨b, H2, m, op', kind', sl', vk', bits', pos', attr', K, le, sub, new, hs', hv', h3v, h4v, LL⟩ := I.post h3
      rw [show chA (L 5) n4 (nodeCells op1 kind1 sl1 vk1 bits1 pos1 attr1) (nodeCells 13 2 (.slice (some ⟨m, 0, none⟩) 2 7) 0 0 0 0) = .obj n4 (.cells (nodeCells op1 kind1 sl1 vk1 bits1 pos1 attr1) 27) by simp [chA, hi]] at LL
      simp -dsimp [setE, e4, h4v hd]
      refine x_store LL 2 rfl (storeTo27 _ rfl _ _ rfl _ _ _ _) fun s2 L2 => ?_
      simp -dsimp [setE, e4, h4v hd]
      refine SRv.skip undef ⟨?_, ?_, ?_, ?_, ?_, ?_, ?_⟩
      · simpa [updB, updV] using I.v0
      · simpa [updB, updV] using I.v1
      · simpa [updB] using I.o3
      · simpa [updB] using I.o4
      · intro _; simpa [updB] using hd
      · intro h; simp [updB, h3] at h
      · intro _
        exact ⟨b, H2, m, op', kind', sl', vk', bits', pos', attr', K, le, sub, new, hs', hv', by simpa [updV] using h3v, by simpa [updB, updV] using h4v, by simpa [chA, updB] using L2⟩
  · intro L vals s' f hL I
    obtain ⟨b, H2, m, op', kind', sl', vk', bits', pos', attr', K, le, sub, new, hs', hv', h3v, h4v, LL⟩ := I.post (hL 3 (by simp))
    refine hnext _ s' b H2 m op' kind' sl' vk' bits' pos' attr' (fun t ht => setE_out _ _ (by simp; omega)) K le sub new hs' hv' ?_
    simpa [chA, hL 5 (by simp)] using LL
  · rintro v f s' f' hn hd he hx
    exact hx.elim
def MadeC (ts : List Tree) (H : Heap) (s : ST) (r : CRes) (s' : ST) : Prop := Kept s s' ∧ ∃ H' v', r = .ret (.tuple #[v', .bool (!ts.isEmpty)]) ∧ HLe H H' ∧ Sub H' s' ∧ NewTo H H' s ∧ NodeV H' (chainT ts) v'
theorem row_two {H : Heap} {t u : Tree} {op kind vk bits pos attr op' kind' vk' bits' pos' attr' : Int} {sl sl' : Value} (h1 : NodeV H t (nodeVal op kind sl vk bits pos attr)) (h2 : NodeV H u (nodeVal op' kind' sl' vk' bits' pos' attr')) (hs : cellOk sl = true) (hs' : cellOk sl' = true) :
    Row H [t, u] (nodeCells op kind sl vk bits pos attr ++ nodeCells op' kind' sl' vk' bits' pos' attr') := by
  have := ((Row.nil H).snoc h1 hs).snoc h2 hs'
  simpa using this
theorem cut_slice {ts : List Tree} {n off cs : Nat} (hcs : cs = 0 ∨ cs = 7) (h : 1 ≤ ts.length) : sliceA Tryz.prog 22 (.slice (some ⟨n, off, none⟩) ts.length cs) (some (.int .i64 1)) none none = some (.slice (some ⟨n, off + 1 * 7, none⟩) ((ts.drop 1).length) cs) := by
  have h0 : ¬ ts.length < 1 := by omega
  rcases hcs with rfl | rfl <;> simp [sliceA, natOf, h, sz27]
theorem Loc.toAcc {b s : ST} {l : List LE} {n m : Nat} {c : List Value} (L : Loc b s (.obj n (.cells c 27) :: l)) (hc : c.length = m * 7) (hm : 0 < m) : Loc b s (.acc (.slice (some ⟨n, 0, none⟩) m 7) 7 27 c :: l) := by
  refine ⟨L.kept, fun z hz => ?_, L.new, L.nodup⟩
  rcases List.mem_cons.1 hz with rfl | hz
  · exact .inr ⟨n, m, rfl, hc, hm, L.own (.obj n (.cells c 27)) (by simp)⟩
  · exact L.own z (List.mem_cons_of_mem _ hz)
set_option maxHeartbeats 8000000 in
set_option maxRecDepth 10000 in
theorem chain_run {ts : List Tree} {H : Heap} {sl : Value} {s : ST} (hH : Sub H s) (hv : ListV H ts sl) (hcut : Cut ts sl) (hc : FitL ts) : Does Tryz.prog 5 #[sl] s (MadeC ts H s) := by
  refine Does.pre fun hf => ?_
  have hA := hv.args
  refine Does.code known0 fn5 [] (by kernel_rfl) ?_
  have draw1 := @chain_draw
  dsimp only [Tryz.f5, Option.getD_some, codeAt, opsOf] at draw1
  dsimp only [Tryz.f5, Option.getD_some, undraw, noId, cond_true, cond_false, frOf]
  simp -dsimp [envOf]
  refine x_alloc (Loc.nil hf) zero27 fun n2 s2 L2 => ?_
  by_cases h0 : ts = []
  · subst h0
    simp -dsimp [hA.len]
    have hz : buildA Tryz.prog 27 [] = some (nodeVal 0 0 (.slice none 0 0) 0 0 0 0) := by
      unfold buildA
      simp [Tryz.underlying27, zero27, placesL, z27, fillL, nodeVal]
    simp -dsimp [hz]
    refine x_store L2 0 rfl (storeTo27 _ rfl _ _ rfl _ _ _ _) fun s3 L3 => ?_
    simp -dsimp [(fields L3 0 rfl).all]
    exact ⟨L3.kept, H, _, rfl, fun _ _ => rfl, hH.kept L3.kept, NewTo.refl _ _, node_leaf _ _ _ _ _ _ _⟩
  · have hpos : 0 < ts.length := List.length_pos_iff.2 h0
    have hne : ((ts.length : Int) == 0) = false := by rw [beq_eq_false_iff_ne]; omega
    obtain ⟨nn, off, cs, rfl, hcs⟩ := hcut h0
    obtain ⟨ad, op1, kind1, sl1, vk1, bits1, pos1, attr1, ha, hs1, hv1, hl1⟩ := arg_atH hH hA hpos
    have ha : indexAddrA Tryz.prog 22 (.slice (some ⟨nn, off, none⟩) ts.length cs) (.int .i64 0) = some ad := ha
    simp -dsimp [hA.len, hne, ha, hl1 s2 L2.kept]
    refine Does.mono (twin_run ts[0] H _ s2 (hH.kept L2.kept) hv1 (hc.at hpos)) ?_
    rintro _ s3 f3 ⟨K3, H3, v3, rfl, le3, sub3, new3, nv3⟩
    obtain ⟨b3, Kb3, L3, fb3⟩ := (L2.keep K3).rebase
    have sub3' : Sub H3 b3 := Sub.base L2 hH new3 sub3 fb3
    simp -dsimp
    refine x_alloc L3 zero27 fun n4 s4 L4 => ?_
    obtain ⟨op3, kind3, vk3, bits3, pos3, attr3, ts3, sl3, e3, rfl, hA3⟩ := nv3.open_
    simp -dsimp
    refine x_store L4 0 rfl (storeTo27 _ rfl _ _ hA3.cell _ _ _ _) fun s5 L5 => ?_
    have hTl : ListV H ((ts.drop 1).take ts.length) (.slice (some ⟨nn, off + 1 * 7, none⟩) ((ts.drop 1).take ts.length).length cs) := hv.part
    have htk : (ts.drop 1).take ts.length = ts.drop 1 := List.take_of_length_le (by simp)
    rw [htk] at hTl
    have hcutS := cut_slice (n := nn) (off := off) hcs hpos
    have hdl : (ts.drop 1).length = ts.length - 1 := by simp
    have hDm : ∀ t ∈ ts.drop 1, Fit t := fun t ht => hc.each t (List.mem_of_mem_drop ht)
    have hDi : ∀ i (hi : i < (ts.drop 1).length), ts[1 + i]? = some (ts.drop 1)[i] := fun i hi => by
      rw [List.getElem_drop, List.getElem?_eq_getElem]
    generalize ts.drop 1 = D at hTl hcutS hdl hDm hDi
    have hAT := hTl.args
    simp -dsimp [hcutS, hAT.len]
    have hlen := hc.len
    have hch1 : chainT (ts.take 1) = ts[0] := by
      cases ts with
      | nil => exact absurd rfl h0
      | cons t r => rfl
    refine w_for (fun m fr s' => ∃ i env H' b op kind sl vk bits pos attr, i + m = D.length ∧ fr = ⟨29, env, []⟩ ∧ Kept s b ∧
      Loc b s' [.obj n4 (.cells (nodeCells op kind sl vk bits pos attr) 27), .obj n2 (.cells z27 27)] ∧ HLe H H' ∧ Sub H' b ∧ NewTo H H' s ∧ cellOk sl = true ∧ NodeV H' (chainT (ts.take (1 + i))) (nodeVal op kind sl vk bits pos attr) ∧
      env.get 2 = some (.pointer (some ⟨n2, 0, none⟩)) ∧ env.get 4 = some (.pointer (some ⟨n4, 0, none⟩)) ∧ env.get 16 = some (.slice (some ⟨nn, off + 1 * 7, none⟩) D.length cs) ∧ env.get 17 = some (.int .i64 D.length) ∧ env.get 18 = some (.int .i64 i)) (m := D.length) ?_ L5.free ?_
    rotate_left
    · exact ⟨0, _, H3, b3, _, _, _, _, _, _, _, by omega, rfl, Kb3, L5, le3, sub3', (NewTo.refl H s).trans (Kept.refl hf) (new3.kept L2.kept), hA3.cell, by rw [Nat.add_zero, hch1]; exact nv3, by simp, by simp, by simp, by simp, by simp⟩
    rintro m fr s' f ⟨i, env, H4, b, op, kind, slc, vk, bits, pos, attr, him, rfl, Kb, LL, le1, sub1, new1, hsc, nvc, h2, h4, h16, h17, h18⟩
    by_cases hi : i < D.length
    · have hi' : (i : Int) < D.length := by omega
      obtain ⟨ax, opx, kindx, slx, vkx, bitsx, posx, attrx, hax, hsx, hvx, hlx⟩ := arg_atH hH hAT hi
      simp -dsimp [h16, h17, h18, hi', hax, hlx s' (Kb.trans LL.kept)]
      refine x_alloc LL zero27 fun n6 s6 L6 => ?_
      simp -dsimp
      refine x_store L6 0 rfl (storeTo27 _ rfl _ _ hsx _ _ _ _) fun s7 L7 => ?_
      simp -dsimp
      refine draw1 L7.free hsc hsx Kb L7 sub1 (hvx.keep le1) (hDm _ (List.getElem_mem hi)) (by simp [h4]) (by simp) ?_
      intro env' s8 b8 H8 m8 op' kind' sl' vk' bits' pos' attr' he K8 le8 sub8 new8 hs8 nv8 L8
      have row := row_two (nvc.keep le8) nv8 hsc hs8
      obtain ⟨b9, H9, Kb9, L9, le9, sub9, new9, hmu, nv9⟩ := own_row (L8.toAcc (m := 2) (by simp [nodeCells]) (by omega)) sub8 row (by simp)
      have w1 : wrapA .i64 ((i : Int) + 1) = (i : Int) + 1 := wrap_small (by omega) (by omega)
      have g18 : env'.get 18 = some (.int .i64 i) := by rw [he 18 (by omega)]; simp [h18]
      simp -dsimp [g18, w1]
      refine Goal.mk ⟨m - 1, by omega, i + 1, _, H9, b9, 13, 2, .slice (some ⟨m8, 0, none⟩) 2 7, 0, 0, 0, 0, by omega, rfl, K8.trans Kb9, ?_, le1.trans (le8.trans le9), sub9, ?_, rfl, ?_, ?_, ?_, ?_, ?_, ?_⟩
      · exact L9.sub (l' := [.obj n4 (.cells (nodeCells 13 2 (.slice (some ⟨m8, 0, none⟩) 2 7) 0 0 0 0) 27), .obj n2 (.cells z27 27)]) (by simp)
      · exact (new1.trans (Kept.refl hf) new8).trans K8 new9
      · have hx : ts[1 + i]? = some D[i] := hDi i hi
        rw [show 1 + (i + 1) = (1 + i) + 1 by omega, List.take_add_one, hx, Option.toList_some, chainT_snoc _ (by simp [h0])]
        exact nv9 _ _ _ _ _ _
      all_goals simp [he, h2, h4, h16, h17]
    · have hi' : ¬ ((i : Int) < D.length) := by omega
      rw [List.take_of_length_le (by omega)] at nvc
      simp -dsimp [h17, h18, hi', h4, h2, (fields LL 0 rfl).all]
      refine x_store LL 1 rfl (storeTo27 _ rfl _ _ hsc _ _ _ _) fun s9 L9 => ?_
      simp -dsimp [h2, (fields L9 1 rfl).all]
      exact ⟨Kb.trans L9.kept, H4, _, by cases ts; exact absurd rfl h0; rfl, le1, sub1.kept L9.kept, new1, nvc⟩
end Go.Proofs.YtgpfgcbolinncaaGreat.Abs
