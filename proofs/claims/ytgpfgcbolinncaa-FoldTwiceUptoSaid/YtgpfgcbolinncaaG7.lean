/- value.Apply: what is deferred. value.Apply: whatever it gets, it gives a value. value.Apply: the loop that cleans. value.Apply: whatever it gets, it gives a value. -/
import Derived.Test.YtgpfgcbolinncaaG5
set_option linter.unusedVariables false
set_option linter.unusedSimpArgs false
namespace Go.Proofs.Ytgpfgcbolinncaa.Abs
open Go Go.RowKit
theorem fn21 : fnOf Try.prog 21 = some ((Try.f21.body.getD .skip), Try.f21.ntmps, Try.f21.results) := rfl
def d21 (n : Nat) : Deferred := { target := .fn (.func 21) #[.pointer (some ⟨n, 0, none⟩)], args := #[] }
theorem zero46 : zeroL Try.prog 46 = some [] := by kernel_rfl
theorem neqNil : binA Try.prog .neq 20 (.tmp 5) (.const .nilIface) .nilIface .nilIface = some (.bool false) := by kernel_rfl
theorem neqNone : binA Try.prog .neq 20 (.tmp 5) (.const .nilIface) noneV .nilIface = some (.bool true) := by kernel_rfl
theorem assertNone : assertA Try.prog noneV 20 46 true = some (.tuple #[.agg #[], .bool true]) := by kernel_rfl
theorem end_ret {s : ST} {n : Nat} {env : Trie Value} {rs : Array ResultVar} {Q : CRes → ST → Prop} {nn : Nat} {v : Value} (hr : resultsA Try.prog rs ⟨n, env, [d21 nn]⟩ s = some (v, s)) (hq : Q (.ret v) s) : wEnd Try.prog rs Q .ret ⟨n, env, [d21 nn]⟩ s := by
  refine ⟨0, .ret v, s, ?_, hq⟩
  have hr' := hr
  unfold d21 at hr'
  simp [endA, leavesA, asTarget, d21, fn21, evalD, andThen_bind, ofOption_eq, bindR_some, ret_eq, evalCodeS, Try.f21, evalOpsS, frOf, envOf, evalOp, builtinA, putF, recA, valO, opRes, applyOV, ofSR, neqNil, evalCode, endD, res_nil, settleU, hr']
theorem end_pan {s0 s : ST} {n : Nat} {env : Trie Value} {rs : Array ResultVar} {Q : CRes → ST → Prop} {nn : Nat} {l : List LE} {a b : Int} (L : Loc s0 s l) (i : Nat) (hi : l[i]? = some (.obj nn (.cells [.int .i64 a, .int .u64 b] 25))) (hr : ∀ s', loadA Try.prog 25 (.pointer (some ⟨nn, 0, none⟩)) s' = some (valV 0 0, s') → resultsA Try.prog rs ⟨n, env, [d21 nn]⟩ s' = some (valV 0 0, s'))
    (hq : ∀ s', Kept s0 s' → Q (.ret (valV 0 0)) s') : wEnd Try.prog rs Q (.panic noneV) ⟨n, env, [d21 nn]⟩ s := by
  have L1 := L.push (.cells [] 46)
  have ho1 : Own (s.push (.cells [] 46)) (s.nm s.ctr) (.cells [] 46) := Own.push_new _ _
  have L2 := L1.put (i := 0) (o := some (.cells [] 46)) (z := .obj (s.nm s.ctr) (.cells [] 46)) rfl rfl (Own.put_same _ _ _) (.inl rfl)
  simp only [List.set_cons_zero] at L2
  have hi2 : (LE.obj (s.nm s.ctr) (.cells [] 46) :: l)[i + 1]? = some (.obj nn (.cells [.int .i64 a, .int .u64 b] 25)) := by simpa using hi
  have ho2 : Own ((s.push (.cells [] 46)).put (s.nm s.ctr) (some (.cells [] 46))) nn (.cells [.int .i64 a, .int .u64 b] 25) := L2.at hi2
  have L3 := L2.put (i := i + 1) (o := some (.cells [.int .i64 0, .int .u64 0] 25)) (z := .obj nn (.cells [.int .i64 0, .int .u64 0] 25)) hi2 rfl (Own.put_same _ _ _) (.inl rfl)
  have hal : allocA Try.prog 46 s = some (.pointer (some ⟨s.nm s.ctr, 0, none⟩), s.push (.cells [] 46)) := by
    unfold allocA
    rw [zero46]
    simp [AM.andThen, AM.ofOption, AM.ret, newRow_eq L.free]
  have hst : storeA Try.prog 46 (.pointer (some ⟨s.nm s.ctr, 0, none⟩)) (.agg #[]) (s.push (.cells [] 46)) = some ((), (s.push (.cells [] 46)).put (s.nm s.ctr) (some (.cells [] 46))) := by
    unfold storeA
    have hc : storeTo Try.prog 46 [] 0 (.agg #[]) = some [] := by simp [storeTo, known, cellsL, spliceL]
    simp only [AM.andThen, AM.ofOption, asPtr, AM.ret, read_eq ho1.find, asCells, hc]
    exact write_eq ho1 _
  have hst2 : storeA Try.prog 25 (.pointer (some ⟨nn, 0, none⟩)) (valV 0 0) ((s.push (.cells [] 46)).put (s.nm s.ctr) (some (.cells [] 46))) = some ((), ((s.push (.cells [] 46)).put (s.nm s.ctr) (some (.cells [] 46))).put nn (some (.cells [.int .i64 0, .int .u64 0] 25))) := by
    unfold storeA
    have hc : storeTo Try.prog 25 [.int .i64 a, .int .u64 b] 0 (valV 0 0) = some [.int .i64 0, .int .u64 0] := storeTo25 _ rfl _ _
    simp only [AM.andThen, AM.ofOption, asPtr, AM.ret, read_eq ho2.find, asCells, hc]
    exact write_eq ho2 _
  have hl : loadA Try.prog 25 (.pointer (some ⟨nn, 0, none⟩)) (((s.push (.cells [] 46)).put (s.nm s.ctr) (some (.cells [] 46))).put nn (some (.cells [.int .i64 0, .int .u64 0] 25))) = some (valV 0 0, _) :=
    load_find (Own.find (Own.put_same _ _ _)) (by simp [loadFrom, valV])
  have hr' := hr _ hl
  have hq' := hq _ L3.kept
  unfold d21 at hr'
  refine ⟨0, .ret (valV 0 0), _, ?_, hq'⟩
  simp [endA, leavesA, asTarget, d21, fn21, evalD, andThen_bind, ofOption_eq, bindR_some, ret_eq, evalCodeS, Try.f21, evalOpsS, frOf, envOf, evalOp, builtinA, putF, recA, valO, valOf, skipOf, opRes, applyOV, ofSR, neqNone, assertNone, extractA, evalCode, evalOps, opVal, endD, res_nil, settleU, hal, hst, hst2, build25_0, hr']
end Go.Proofs.Ytgpfgcbolinncaa.Abs
set_option linter.unusedVariables false
set_option linter.unusedSimpArgs false
namespace Go.Proofs.Ytgpfgcbolinncaa.Abs
open Go Go.RowKit

def AA (s0 : ST) (n4 : Nat) (sl a0 a1 : Value) (op : Int) (L : Nat → Bool) (vals : Nat → Value) (s' : ST) : Prop := (∃ c d : Int, Loc s0 s' [.obj n4 (.cells [.int .i64 c, .int .u64 d] 25)]) ∧ (L 0 = true → vals 0 = sl) ∧ (L 1 = true → vals 1 = a0) ∧ (L 2 = true → ∃ a b : Int, vals 2 = valV a b) ∧ (L 3 = true → ∃ c : Int, vals 3 = .int .i64 c) ∧ (L 4 = true → vals 4 = sl) ∧ (L 5 = true → vals 5 = a1) ∧ (L 6 = true → ∃ a b : Int, vals 6 = valV a b) ∧ (L 7 = true → ∃ c : Int, vals 7 = .int .i64 c) ∧ (L 8 = true → vals 8 = .int .i64 op) ∧ (L 9 = true → ∃ b : Bool, vals 9 = .bool b) ∧ (L 10 = true → ∃ a b : Int, vals 10 = valV a b)
theorem fn19 : fnOf Try.prog 19 = some ((Try.f19.body.getD .skip), Try.f19.ntmps, Try.f19.results) := rfl
set_option maxHeartbeats 4000000 in
theorem apply_logic {op : Int} {vs : List (Int × Int)} {sl : Value} {s0 s : ST} (hv : ValsV s0.heap vs sl) (hlen : vs.length = 2) {n4 : Nat} {c d : Int} (LL : Loc s0 s [.obj n4 (.cells [.int .i64 c, .int .u64 d] 25)])
    {env : Trie Value} (h31 : env.get 0 = some (.int .i64 op)) (h30 : env.get 1 = some sl) (h34 : env.get 4 = some (.pointer (some ⟨n4, 0, none⟩))) {Q : SR → ST → Prop}
    (hret : ∀ env' s' a b, env'.get 4 = some (.pointer (some ⟨n4, 0, none⟩)) → Loc s0 s' [.obj n4 (.cells [.int .i64 a, .int .u64 b] 25)] → Q (.next ⟨70, env', [d21 n4]⟩) s')
    (hpan : ∀ env' s' a b, env'.get 4 = some (.pointer (some ⟨n4, 0, none⟩)) → Loc s0 s' [.obj n4 (.cells [.int .i64 a, .int .u64 b] 25)] → Q (.panic noneV ⟨70, env', [d21 n4]⟩) s') :
    wDraw Try.prog (opsOf (codeAt [true, true, false, true, false, false] (Try.f19.body.getD .skip))).toArray ⟨70, env, [d21 n4]⟩ s Q := by
  obtain ⟨n0, o0, ha0, hl0⟩ := hv.at_ 0 (vs[0]'(by omega)) (by simp)
  obtain ⟨n9, o9, ha1, hl1⟩ := hv.at_ 1 (vs[1]'(by omega)) (by simp)
  simp only [Int.ofNat_zero] at ha0
  simp only [Int.ofNat_one] at ha1
  dsimp only [Try.f19, Option.getD_some, codeAt, opsOf]
  refine w_draw [[], [(0, 23)], [(1, 24)], [(2, 25)], [], [(4, 27)], [(5, 28)], [(6, 29)], [], [(8, 31)], [(3, 26), (7, 30), (9, 32)], [(10, 33)]]
    [(0, 23), (1, 24), (2, 25), (3, 26), (4, 27), (5, 28), (6, 29), (7, 30), (8, 31), (9, 32), (10, 33)] (by kernel_rfl)
    (AA s0 n4 sl (.pointer (some ⟨n0, o0, none⟩)) (.pointer (some ⟨n9, o9, none⟩)) op) (fun v s' => v = noneV ∧ ∃ c d : Int, Loc s0 s' [.obj n4 (.cells [.int .i64 c, .int .u64 d] 25)]) ⟨⟨_, _, LL⟩, by simp⟩ LL.free ?_ ?_ ?_
  · refine ⟨?_, ?_, ?_, ?_, ?_, ?_, ?_, ?_, ?_, ?_, ?_, ?_, trivial⟩
    · rintro L vals s' f ⟨⟨c, d, LL⟩, h0, h1, h2, h3, h4, h5, h6, h7, h8, h9, h10⟩ hi hl
      simp only [allL, and_true] at hl
      simp -dsimp [setE, h30]
      refine SRv.put (by decide) ⟨⟨_, _, LL⟩, ?_, ?_, ?_, ?_, ?_, ?_, ?_, ?_, ?_, ?_, ?_⟩ <;> simp only [updB, updV] <;> first | assumption | simp <;> first | assumption | exact ⟨_, rfl⟩ | exact ⟨_, _, rfl⟩
    · rintro L vals s' f ⟨⟨c, d, LL⟩, h0, h1, h2, h3, h4, h5, h6, h7, h8, h9, h10⟩ hi hl
      simp only [allL, and_true] at hl
      simp -dsimp [setE, h0 hl, ha0]
      refine SRv.put (by decide) ⟨⟨_, _, LL⟩, ?_, ?_, ?_, ?_, ?_, ?_, ?_, ?_, ?_, ?_, ?_⟩ <;> simp only [updB, updV] <;> first | assumption | simp <;> first | assumption | exact ⟨_, rfl⟩ | exact ⟨_, _, rfl⟩
    · rintro L vals s' f ⟨⟨c, d, LL⟩, h0, h1, h2, h3, h4, h5, h6, h7, h8, h9, h10⟩ hi hl
      simp only [allL, and_true] at hl
      obtain ⟨l0, _, _⟩ := hl0 s' fun n hn => LL.kept.find hn
      simp -dsimp [setE, h1 hl, l0]
      refine SRv.put (by decide) ⟨⟨_, _, LL⟩, ?_, ?_, ?_, ?_, ?_, ?_, ?_, ?_, ?_, ?_, ?_⟩ <;> simp only [updB, updV] <;> first | assumption | simp <;> first | assumption | exact ⟨_, rfl⟩ | exact ⟨_, _, rfl⟩
    · rintro L vals s' f ⟨⟨c, d, LL⟩, h0, h1, h2, h3, h4, h5, h6, h7, h8, h9, h10⟩ hi hl
      simp only [allL, and_true] at hl
      obtain ⟨a, b, h2'⟩ := h2 hl
      simp -dsimp [setE, h2']
      refine Does.mono (truth_run _ _ _) ?_
      rintro _ s2 f2 ⟨K2, x, rfl⟩
      simp -dsimp [setE, h2']
      refine SRv.put (by decide) ⟨⟨_, _, LL.keep K2⟩, ?_, ?_, ?_, ?_, ?_, ?_, ?_, ?_, ?_, ?_, ?_⟩ <;> simp only [updB, updV] <;> first | assumption | simp <;> first | assumption | exact ⟨_, rfl⟩ | exact ⟨_, _, rfl⟩
    · rintro L vals s' f ⟨⟨c, d, LL⟩, h0, h1, h2, h3, h4, h5, h6, h7, h8, h9, h10⟩ hi hl
      simp only [allL, and_true] at hl
      simp -dsimp [setE, h30]
      refine SRv.put (by decide) ⟨⟨_, _, LL⟩, ?_, ?_, ?_, ?_, ?_, ?_, ?_, ?_, ?_, ?_, ?_⟩ <;> simp only [updB, updV] <;> first | assumption | simp <;> first | assumption | exact ⟨_, rfl⟩ | exact ⟨_, _, rfl⟩
    · rintro L vals s' f ⟨⟨c, d, LL⟩, h0, h1, h2, h3, h4, h5, h6, h7, h8, h9, h10⟩ hi hl
      simp only [allL, and_true] at hl
      simp -dsimp [setE, h4 hl, ha1]
      refine SRv.put (by decide) ⟨⟨_, _, LL⟩, ?_, ?_, ?_, ?_, ?_, ?_, ?_, ?_, ?_, ?_, ?_⟩ <;> simp only [updB, updV] <;> first | assumption | simp <;> first | assumption | exact ⟨_, rfl⟩ | exact ⟨_, _, rfl⟩
    · rintro L vals s' f ⟨⟨c, d, LL⟩, h0, h1, h2, h3, h4, h5, h6, h7, h8, h9, h10⟩ hi hl
      simp only [allL, and_true] at hl
      obtain ⟨l0, _, _⟩ := hl1 s' fun n hn => LL.kept.find hn
      simp -dsimp [setE, h5 hl, l0]
      refine SRv.put (by decide) ⟨⟨_, _, LL⟩, ?_, ?_, ?_, ?_, ?_, ?_, ?_, ?_, ?_, ?_, ?_⟩ <;> simp only [updB, updV] <;> first | assumption | simp <;> first | assumption | exact ⟨_, rfl⟩ | exact ⟨_, _, rfl⟩
    · rintro L vals s' f ⟨⟨c, d, LL⟩, h0, h1, h2, h3, h4, h5, h6, h7, h8, h9, h10⟩ hi hl
      simp only [allL, and_true] at hl
      obtain ⟨a, b, h2'⟩ := h6 hl
      simp -dsimp [setE, h2']
      refine Does.mono (truth_run _ _ _) ?_
      rintro _ s2 f2 ⟨K2, x, rfl⟩
      simp -dsimp [setE, h2']
      refine SRv.put (by decide) ⟨⟨_, _, LL.keep K2⟩, ?_, ?_, ?_, ?_, ?_, ?_, ?_, ?_, ?_, ?_, ?_⟩ <;> simp only [updB, updV] <;> first | assumption | simp <;> first | assumption | exact ⟨_, rfl⟩ | exact ⟨_, _, rfl⟩
    · rintro L vals s' f ⟨⟨c, d, LL⟩, h0, h1, h2, h3, h4, h5, h6, h7, h8, h9, h10⟩ hi hl
      simp only [allL, and_true] at hl
      simp -dsimp [setE, h31]
      refine SRv.put (by decide) ⟨⟨_, _, LL⟩, ?_, ?_, ?_, ?_, ?_, ?_, ?_, ?_, ?_, ?_, ?_⟩ <;> simp only [updB, updV] <;> first | assumption | simp <;> first | assumption | exact ⟨_, rfl⟩ | exact ⟨_, _, rfl⟩
    · rintro L vals s' f ⟨⟨c, d, LL⟩, h0, h1, h2, h3, h4, h5, h6, h7, h8, h9, h10⟩ hi hl
      simp only [allL, and_true] at hl
      simp -dsimp [setE, h8 hl]
      refine SRv.put (by decide) ⟨⟨_, _, LL⟩, ?_, ?_, ?_, ?_, ?_, ?_, ?_, ?_, ?_, ?_, ?_⟩ <;> simp only [updB, updV] <;> first | assumption | simp <;> first | assumption | exact ⟨_, rfl⟩ | exact ⟨_, _, rfl⟩
    · rintro L vals s' f ⟨⟨c, d, LL⟩, h0, h1, h2, h3, h4, h5, h6, h7, h8, h9, h10⟩ hi hl
      simp only [allL, and_true] at hl
      obtain ⟨x, hx⟩ := h3 hl.1
      obtain ⟨y, hy⟩ := h7 hl.2.1
      obtain ⟨z, hz⟩ := h9 hl.2.2
      simp -dsimp [setE, hx, hy, hz]
      refine Does.mono (logic_run _ _ _ _) ?_
      rintro _ s2 f2 ⟨K2, ⟨a, b, rfl⟩ | rfl⟩
      · simp -dsimp [setE, hx, hy, hz]
        refine SRv.put (by decide) ⟨⟨_, _, LL.keep K2⟩, ?_, ?_, ?_, ?_, ?_, ?_, ?_, ?_, ?_, ?_, ?_⟩ <;> simp only [updB, updV] <;> first | assumption | simp <;> first | assumption | exact ⟨_, rfl⟩ | exact ⟨_, _, rfl⟩
      · simp -dsimp [setE, hx, hy, hz]
        exact SRv.panic ⟨rfl, _, _, LL.keep K2⟩
    · rintro L vals s' f ⟨⟨c, d, LL⟩, h0, h1, h2, h3, h4, h5, h6, h7, h8, h9, h10⟩ hi hl
      simp only [allL, and_true] at hl
      obtain ⟨a, b, h2'⟩ := h10 hl
      simp -dsimp [setE, h2', h34]
      refine x_store LL 0 rfl (storeTo25 _ rfl _ _) fun s3 L3 => ?_
      simp -dsimp [setE, h2', h34]
      refine SRv.skip (.bool true) ⟨⟨_, _, L3⟩, ?_, ?_, ?_, ?_, ?_, ?_, ?_, ?_, ?_, ?_, ?_⟩ <;> simp only [updB, updV] <;> assumption
  · intro L vals s' f hL hA
    obtain ⟨⟨a, b, L2⟩, _⟩ := hA
    exact hret _ _ _ _ (by simp [setE, h34]) L2
  · rintro v f s' f' hn hd he ⟨rfl, a, b, L2⟩
    obtain ⟨n, env', defs⟩ := f
    simp only at hn hd
    subst hn hd
    exact hpan _ _ _ _ (by rw [← h34]; exact he 4 (by kernel_rfl)) L2
end Go.Proofs.Ytgpfgcbolinncaa.Abs
set_option linter.unusedVariables false
set_option linter.unusedSimpArgs false
namespace Go.Proofs.Ytgpfgcbolinncaa.Abs
open Go Go.RowKit

def flat2 (us : List (Int × Int)) : List Value := us.flatMap fun p => [.int .i64 p.1, .int .u64 p.2]
def flat1 (ks : List Int) : List Value := ks.map fun k => .int .i64 k
theorem flat2_length (us : List (Int × Int)) : (flat2 us).length = us.length * 2 := by
  induction us with
  | nil => rfl
  | cons a r ih => simp [flat2] at ih ⊢; omega
theorem flat2_snoc (us : List (Int × Int)) (a b : Int) : flat2 us ++ [.int .i64 a, .int .u64 b] = flat2 (us ++ [(a, b)]) := by simp [flat2]
theorem flat1_snoc (us : List (Int × Int)) (a b : Int) : flat1 (us.map (·.1)) ++ [.int .i64 a] = flat1 ((us ++ [(a, b)]).map (·.1)) := by simp [flat1]
theorem elem25 : elemI Try.prog 25 = some ⟨2, 16⟩ := by kernel_rfl
theorem elem3 : elemI Try.prog 3 = some ⟨1, 8⟩ := by kernel_rfl
theorem slice41 : sliceElem Try.prog 41 = some 25 := by kernel_rfl
theorem slice50 : sliceElem Try.prog 50 = some 3 := by kernel_rfl
theorem zeros25 : zerosL Try.prog 25 2 1 = some [.int .i64 0, .int .u64 0] := by kernel_rfl
theorem zeros3 : zerosL Try.prog 3 1 1 = some [.int .i64 0] := by kernel_rfl
theorem lit41 (a b : Int) : sliceCells Try.prog 25 2 1 [(0, valV a b)] = some [.int .i64 a, .int .u64 b] := by
  unfold sliceCells
  simp [zeros25, fillL, spliceL, known, cellsL, valV]
theorem lit50 (a : Int) : sliceCells Try.prog 3 1 1 [(0, .int .i64 a)] = some [.int .i64 a] := by
  unfold sliceCells
  simp [zeros3, fillL, spliceL, known, cellsL]
def BB (s0 : ST) (n4 n9 : Nat) (c4 : List Value) (lv kv : Value) (us : List (Int × Int)) (a b : Int) (L : Nat → Bool) (vals : Nat → Value) (s' : ST) : Prop :=
  Loc s0 s' [if L 3 = true then .acc (vals 3) 2 25 (flat2 (us ++ [(a, b)])) else .acc lv 2 25 (flat2 us), if L 8 = true then .acc (vals 8) 1 3 (flat1 ((us ++ [(a, b)]).map (·.1))) else .acc kv 1 3 (flat1 (us.map (·.1))),
    .obj n4 (.cells c4 25), .obj n9 (.cells [.int .i64 a, .int .u64 b] 25), if L 2 = true then .acc (vals 2) 2 25 [.int .i64 a, .int .u64 b] else .acc (.slice none 0 0) 2 25 [], if L 7 = true then .acc (vals 7) 1 3 [.int .i64 a] else .acc (.slice none 0 0) 1 3 []] ∧
  (L 0 = true → vals 0 = lv) ∧ (L 1 = true → vals 1 = valV a b) ∧ (L 4 = true → vals 4 = kv) ∧ (L 5 = true → vals 5 = .pointer (some ⟨n9, 0, none⟩)) ∧ (L 6 = true → vals 6 = .int .i64 a) ∧ (L 9 = true → L 3 = true ∧ vals 9 = vals 3) ∧ (L 10 = true → L 8 = true ∧ vals 10 = vals 8)
set_option maxHeartbeats 4000000 in
theorem apply_push {us : List (Int × Int)} (hus : us.length < 2 ^ 40) {lv kv : Value} {s0 s : ST} {n4 n9 : Nat} {c4 : List Value} {a b : Int}
    (LL : Loc s0 s [.acc lv 2 25 (flat2 us), .acc kv 1 3 (flat1 (us.map (·.1))), .obj n4 (.cells c4 25), .obj n9 (.cells [.int .i64 a, .int .u64 b] 25)]) {defs : List Deferred}
    {env : Trie Value} (h5e : env.get 5 = some kv) (h6e : env.get 6 = some lv) (h9e : env.get 9 = some (.pointer (some ⟨n9, 0, none⟩))) {Q : SR → ST → Prop}
    (hnext : ∀ env' s' lv' kv', env'.get 6 = some lv' → env'.get 5 = some kv' → (∀ t, t < 5 ∨ 6 < t ∧ t < 42 → env'.get t = env.get t) → Loc s0 s' [.acc lv' 2 25 (flat2 (us ++ [(a, b)])), .acc kv' 1 3 (flat1 ((us ++ [(a, b)]).map (·.1))), .obj n4 (.cells c4 25)] → Q (.next ⟨70, env', defs⟩) s') :
    wDraw Try.prog (opsOf (codeAt [true, true, true, true, true, false, true, false, false, true, true, false, false, true, true] (Try.f19.body.getD .skip))).toArray ⟨70, env, defs⟩ s Q := by
  dsimp only [Try.f19, Option.getD_some, codeAt, opsOf]
  refine w_draw [[], [], [(1, 43)], [(0, 42), (2, 44)], [], [], [(5, 47)], [(6, 48)], [(4, 46), (7, 49)], [(3, 45)], [(8, 50)]]
    [(0, 42), (1, 43), (2, 44), (3, 45), (4, 46), (5, 47), (6, 48), (7, 49), (8, 50), (9, 6), (10, 5)] (by kernel_rfl)
    (BB s0 n4 n9 c4 lv kv us a b) (fun _ _ => False) ⟨?_, by simp⟩ LL.free ?_ ?_ ?_
  · simpa using LL.nils [.acc (.slice none 0 0) 2 25 [], .acc (.slice none 0 0) 1 3 []] (by simp [LE.holds, LE.names])
  · refine ⟨?_, ?_, ?_, ?_, ?_, ?_, ?_, ?_, ?_, ?_, ?_, trivial⟩
    · rintro L vals s' f ⟨LL, h0, h1, h4, h5, h6, h9, h10⟩ hi hl
      simp only [allL, and_true] at hl
      simp -dsimp [setE, h6e]
      refine SRv.put (by decide) ⟨?_, ?_, ?_, ?_, ?_, ?_, ?_, ?_⟩
      · simpa [updB, updV] using LL
      all_goals (simp [updB, updV]; try assumption)
    · rintro L vals s' f ⟨LL, h0, h1, h4, h5, h6, h9, h10⟩ hi hl
      simp only [allL, and_true] at hl
      have l9 := load25_of (LL.sub (l' := [.obj n9 (.cells [.int .i64 a, .int .u64 b] 25)]) (by simp)) 0 rfl
      simp -dsimp [setE, h9e, l9.1]
      refine SRv.put (by decide) ⟨?_, ?_, ?_, ?_, ?_, ?_, ?_, ?_⟩
      · simpa [updB, updV] using LL
      all_goals (simp [updB, updV]; try assumption)
    · rintro L vals s' f ⟨LL, h0, h1, h4, h5, h6, h9, h10⟩ hi hl
      simp only [allL, and_true] at hl
      simp -dsimp [setE, h1 hl]
      simp only [hi, Bool.false_eq_true, if_false] at LL
      refine x_buildSlice_at LL 4 rfl slice41 sz25 (lit41 a b) rfl (by omega) fun m s2 L2 => ?_
      simp -dsimp [setE, h1 hl]
      refine SRv.put (by decide) ⟨?_, ?_, ?_, ?_, ?_, ?_, ?_, ?_⟩
      · simpa [updB, updV] using L2
      all_goals (simp [updB, updV]; try assumption)
    · rintro L vals s' f ⟨LL, h0, h1, h4, h5, h6, h9, h10⟩ hi hl
      simp only [allL, and_true] at hl
      simp -dsimp [setE, h0 hl.1]
      simp only [hi, hl.2, Bool.false_eq_true, if_false, if_true] at LL
      refine x_append_acc LL 0 4 (inf := ⟨2, 16⟩) rfl rfl slice41 elem25 (by simp) (by simp) (by rfl) (by simp [flat2_length]; omega) (by simp [flat2_length]; omega) fun v2 s2 L2 => ?_
      rw [flat2_snoc] at L2
      simp -dsimp [setE, h0 hl.1]
      refine SRv.put (by decide) ⟨?_, ?_, ?_, ?_, ?_, ?_, ?_, ?_⟩
      · simpa [updB, updV, hl.2] using L2
      all_goals (simp [updB, updV]; try assumption)
      intro h; have := (h9 h).1; rw [hi] at this; cases this
    · rintro L vals s' f ⟨LL, h0, h1, h4, h5, h6, h9, h10⟩ hi hl
      simp only [allL, and_true] at hl
      simp -dsimp [setE, h5e]
      refine SRv.put (by decide) ⟨?_, ?_, ?_, ?_, ?_, ?_, ?_, ?_⟩
      · simpa [updB, updV] using LL
      all_goals (simp [updB, updV]; try assumption)
    · rintro L vals s' f ⟨LL, h0, h1, h4, h5, h6, h9, h10⟩ hi hl
      simp only [allL, and_true] at hl
      simp -dsimp [setE, h9e, fieldAddrA]
      refine SRv.put (by decide) ⟨?_, ?_, ?_, ?_, ?_, ?_, ?_, ?_⟩
      · simpa [updB, updV] using LL
      all_goals (simp [updB, updV]; try assumption)
    · rintro L vals s' f ⟨LL, h0, h1, h4, h5, h6, h9, h10⟩ hi hl
      simp only [allL, and_true] at hl
      have l9 := load25_of (LL.sub (l' := [.obj n9 (.cells [.int .i64 a, .int .u64 b] 25)]) (by simp)) 0 rfl
      simp -dsimp [setE, h5 hl, l9.2.1]
      refine SRv.put (by decide) ⟨?_, ?_, ?_, ?_, ?_, ?_, ?_, ?_⟩
      · simpa [updB, updV] using LL
      all_goals (simp [updB, updV]; try assumption)
    · rintro L vals s' f ⟨LL, h0, h1, h4, h5, h6, h9, h10⟩ hi hl
      simp only [allL, and_true] at hl
      simp -dsimp [setE, h6 hl]
      simp only [hi, Bool.false_eq_true, if_false] at LL
      refine x_buildSlice_at LL 5 rfl slice50 sz3 (lit50 a) rfl (by omega) fun m s2 L2 => ?_
      simp -dsimp [setE, h6 hl]
      refine SRv.put (by decide) ⟨?_, ?_, ?_, ?_, ?_, ?_, ?_, ?_⟩
      · simpa [updB, updV] using L2
      all_goals (simp [updB, updV]; try assumption)
    · rintro L vals s' f ⟨LL, h0, h1, h4, h5, h6, h9, h10⟩ hi hl
      simp only [allL, and_true] at hl
      simp -dsimp [setE, h4 hl.1]
      simp only [hi, hl.2, Bool.false_eq_true, if_false, if_true] at LL
      refine x_append_acc LL 1 5 (inf := ⟨1, 8⟩) rfl rfl slice50 elem3 (by simp) (by simp) (by rfl) (by simp [flat1]; omega) (by simp [flat1]; omega) fun v2 s2 L2 => ?_
      rw [flat1_snoc us a b] at L2
      simp -dsimp [setE, h4 hl.1]
      refine SRv.put (by decide) ⟨?_, ?_, ?_, ?_, ?_, ?_, ?_, ?_⟩
      · simpa [updB, updV, hl.2] using L2
      all_goals (simp [updB, updV]; try assumption)
      intro h; have := (h10 h).1; rw [hi] at this; cases this
    · rintro L vals s' f ⟨LL, h0, h1, h4, h5, h6, h9, h10⟩ hi hl
      simp only [allL, and_true] at hl
      simp -dsimp [setE]
      refine SRv.put (by decide) ⟨?_, ?_, ?_, ?_, ?_, ?_, ?_, ?_⟩
      · simpa [updB, updV] using LL
      all_goals (simp [updB, updV]; try assumption)
    · rintro L vals s' f ⟨LL, h0, h1, h4, h5, h6, h9, h10⟩ hi hl
      simp only [allL, and_true] at hl
      simp -dsimp [setE]
      refine SRv.put (by decide) ⟨?_, ?_, ?_, ?_, ?_, ?_, ?_, ?_⟩
      · simpa [updB, updV] using LL
      all_goals (simp [updB, updV]; try assumption)
  · intro L vals s' f hL hA
    obtain ⟨L2, h0, h1, h4, h5, h6, h9, h10⟩ := hA
    have e3 := hL 3 (by simp)
    have e8 := hL 8 (by simp)
    have e9 := (h9 (hL 9 (by simp))).2
    have e10 := (h10 (hL 10 (by simp))).2
    simp only [e3, e8, if_true] at L2
    refine hnext _ _ (vals 3) (vals 8) (by simp [setE, e9]) (by simp [setE, e10]) ?_ (L2.sub (by simp))
    intro t ht
    simp only [setE, Trie.get_set]
    repeat rw [if_neg (by omega)]
  · rintro v f s' f' hn hd he hx
    exact hx.elim
end Go.Proofs.Ytgpfgcbolinncaa.Abs
set_option linter.unusedVariables false
set_option linter.unusedSimpArgs false
namespace Go.Proofs.Ytgpfgcbolinncaa.Abs
open Go Go.RowKit

theorem vals_of {s0 s : ST} {l : List LE} (L : Loc s0 s l) (i : Nat) {lv : Value} {us : List (Int × Int)} (hi : l[i]? = some (.acc lv 2 25 (flat2 us))) (hne : us ≠ []) : ValsV s.heap us lv := by
  rcases L.at hi with ⟨_, h0⟩ | ⟨n, m, rfl, hl, hm, ho⟩
  · exfalso
    have := congrArg List.length h0
    rw [flat2_length] at this
    cases us with
    | nil => exact hne rfl
    | cons a r => simp at this
  · rw [flat2_length] at hl
    have hm' : m = us.length := by omega
    subst hm'
    refine ⟨by simp [lenA], ?_⟩
    intro i p hp
    have hlt := (List.getElem?_eq_some_iff.1 hp).1
    refine ⟨n, i * 2, ?_, ?_⟩
    · simp [indexAddrA, hlt]
    · intro s' hs
      have hf := hs n (by rw [ho.find]; simp)
      rw [ho.find] at hf
      have hget : ∀ k, k < 2 → (flat2 us)[i * 2 + k]? = ([.int .i64 p.1, .int .u64 p.2] : List Value)[k]? := by
        clear ho hf hs L hi hm
        intro k hk
        induction us generalizing i with
        | nil => simp at hp
        | cons a r ih =>
          cases i with
          | zero =>
            simp at hp
            subst hp
            have : k = 0 ∨ k = 1 := by omega
            rcases this with rfl | rfl <;> simp [flat2]
          | succ i =>
            have := ih (by intro e; subst e; simp at hp) rfl i (by simpa using hp) (by simpa using hlt)
            rw [show (i + 1) * 2 + k = (i * 2 + k) + 1 + 1 by omega]
            simpa [flat2] using this
      have h0 := hget 0 (by omega)
      have h1 := hget 1 (by omega)
      simp only [Nat.add_zero, List.getElem?_cons_zero] at h0
      simp only [List.getElem?_cons_succ, List.getElem?_cons_zero] at h1
      have hdrop : (List.drop (i * 2) (flat2 us)).take 2 = [.int .i64 p.1, .int .u64 p.2] := by
        apply List.ext_getElem?
        intro k
        rw [List.getElem?_take]
        split
        · rename_i hk
          rw [List.getElem?_drop]
          exact hget k hk
        · rename_i hk
          rw [List.getElem?_eq_none]
          simp; omega
      have hlen := flat2_length us
      refine ⟨load_find hf ?_, load_find hf ?_, load_find hf ?_⟩
      · simp only [loadFrom, ag25, sz25]
        rw [if_pos (by omega), hdrop]
        rfl
      · simp only [loadFrom, ag3]
        exact h0
      · simp only [loadFrom, ag23]
        exact h1
theorem ints_of {s0 s : ST} {l : List LE} (L : Loc s0 s l) (i : Nat) {lv : Value} {ks : List Int} (hi : l[i]? = some (.acc lv 1 3 (flat1 ks))) : IntsV s.heap ks lv := by
  rcases L.at hi with ⟨rfl, h0⟩ | ⟨n, m, rfl, hl, hm, ho⟩
  · have : ks = [] := by simpa [flat1] using h0
    subst this
    exact ⟨by simp [lenA], fun i k hk => by simp at hk⟩
  · have hm' : m = ks.length := by simpa [flat1] using hl.symm
    subst hm'
    refine ⟨by simp [lenA], ?_⟩
    intro i k hk
    have hlt := (List.getElem?_eq_some_iff.1 hk).1
    refine ⟨.pointer (some ⟨n, i, none⟩), by simp [indexAddrA, hlt], ?_⟩
    intro s' hs
    have hf := hs n (by rw [ho.find]; simp)
    rw [ho.find] at hf
    refine load_find hf ?_
    simp only [loadFrom, ag3]
    simp [flat1, hk]
theorem pair_res {P : Program} {a : Tmp} {t : TypeId} {fr : Fr} {s : ST} {v : Value} (h : loadA P t (envD fr.env a) s = some (v, s)) : resultsA P #[.cell a t] fr s = some (v, s) := by
  show AM.andThen (AM.andThen (loadA P t (envD fr.env a)) fun v => AM.andThen (AM.ret []) fun vs => AM.ret (v :: vs)) (fun vs => AM.ret (oneOf vs)) s = _
  unfold AM.andThen
  rw [h]
  rfl
set_option maxHeartbeats 4000000 in
theorem apply_run (op : Int) {vs : List (Int × Int)} {sl : Value} {s : ST} (hv : ValsV s.heap vs sl) (hb : vs.length < 2 ^ 40) : Does Try.prog 19 #[.int .i64 op, sl] s (fun r s' => Kept s s' ∧ ∃ a b : Int, r = .ret (valV a b)) := by
  refine Does.pre fun hf => ?_
  refine Does.code known0 fn19 [] (by kernel_rfl) ?_
  have lgc := @apply_logic op vs sl s
  have psh := @apply_push
  dsimp only [Try.f19, Option.getD_some, codeAt, opsOf] at lgc psh
  dsimp only [Try.f19, Option.getD_some, undraw, noId, Nat.reduceBEq, cond_true, cond_false, frOf]
  simp -dsimp [envOf]
  refine x_alloc (Loc.nil hf) zero25 fun n4 s1 L1 => ?_
  have eret : ∀ {env' : Trie Value} {s' : ST} {a b : Int} {l : List LE} {i : Nat}, env'.get 4 = some (.pointer (some ⟨n4, 0, none⟩)) → Loc s s' l → l[i]? = some (.obj n4 (.cells [.int .i64 a, .int .u64 b] 25)) →
      wEnd Try.prog #[.cell 4 25] (fun r s' => Kept s s' ∧ ∃ a b : Int, r = .ret (valV a b)) .ret ⟨70, env', [d21 n4]⟩ s' := by
    intro env' s' a b l i h4 L hi
    exact end_ret (pair_res (by simp only [envD, h4, Option.getD_some]; exact (load25_of L i hi).1)) ⟨L.kept, a, b, rfl⟩
  have epan : ∀ {env' : Trie Value} {s' : ST} {a b : Int} {l : List LE} {i : Nat}, env'.get 4 = some (.pointer (some ⟨n4, 0, none⟩)) → Loc s s' l → l[i]? = some (.obj n4 (.cells [.int .i64 a, .int .u64 b] 25)) →
      wEnd Try.prog #[.cell 4 25] (fun r s' => Kept s s' ∧ ∃ a b : Int, r = .ret (valV a b)) (.panic noneV) ⟨70, env', [d21 n4]⟩ s' := by
    intro env' s' a b l i h4 L hi
    exact end_pan L i hi (fun s2 h => pair_res (by simp only [envD, h4, Option.getD_some]; exact h)) fun s2 K => ⟨K, 0, 0, rfl⟩
  obtain ⟨b1, e1⟩ : ∃ b, ((vs.length : Int) == 2) = b := ⟨_, rfl⟩
  obtain ⟨b2, e2⟩ : ∃ b, (op == 13) = b := ⟨_, rfl⟩
  obtain ⟨b3, e3⟩ : ∃ b, (op == 14) = b := ⟨_, rfl⟩
  by_cases hA : b1 = true ∧ (b2 = true ∨ b3 = true)
  · obtain ⟨rfl, hA⟩ := hA
    have h2 : vs.length = 2 := by simp at e1; omega
    have fin : ∀ {env : Trie Value} {Q : SR → ST → Prop}, env.get 0 = some (.int .i64 op) → env.get 1 = some sl → env.get 4 = some (.pointer (some ⟨n4, 0, none⟩)) → _ := fun {env Q} h0 h1 h4 => @lgc s1 hv h2 n4 0 0 L1 env h0 h1 h4 Q
    cases b2 with
    | true =>
      simp -dsimp [hv.len, e1, e2]
      refine fin (by simp) (by simp) (by simp) ?_ ?_
      · intro env' s' a b h4 L
        simp -dsimp
        exact eret h4 L (i := 0) rfl
      · intro env' s' a b h4 L
        simp -dsimp
        exact epan h4 L (i := 0) rfl
    | false =>
      have h3 : b3 = true := by simpa using hA
      subst h3
      simp -dsimp [hv.len, e1, e2, e3]
      refine fin (by simp) (by simp) (by simp) ?_ ?_
      · intro env' s' a b h4 L
        simp -dsimp
        exact eret h4 L (i := 0) rfl
      · intro env' s' a b h4 L
        simp -dsimp
        exact epan h4 L (i := 0) rfl
  · have hB : b1 = false ∨ b1 = true ∧ b2 = false ∧ b3 = false := by
      cases b1 <;> cases b2 <;> cases b3 <;> simp at hA ⊢
    rcases hB with rfl | ⟨rfl, rfl, rfl⟩
    all_goals simp -dsimp [hv.len, e1, e2, e3]
    all_goals
      refine w_for (fun m fr s' => ∃ i env us lv kv, i + m = vs.length ∧ fr = ⟨70, env, [d21 n4]⟩ ∧ us.length = i ∧ Loc s s' [.acc lv 2 25 (flat2 us), .acc kv 1 3 (flat1 (us.map (·.1))), .obj n4 (.cells [.int .i64 0, .int .u64 0] 25)] ∧
        env.get 0 = some (.int .i64 op) ∧ env.get 4 = some (.pointer (some ⟨n4, 0, none⟩)) ∧ env.get 5 = some kv ∧ env.get 6 = some lv ∧ env.get 34 = some sl ∧ env.get 35 = some (.int .i64 vs.length) ∧ env.get 36 = some (.int .i64 i)) (m := vs.length) ?_ L1.free ?_
      rotate_left
      · refine ⟨0, _, [], .slice none 0 0, .slice none 0 0, by omega, rfl, rfl, ?_, by simp, by simp, by simp, by simp, by simp, by simp, by simp⟩
        have := (L1.nils [.acc (.slice none 0 0) 2 25 [], .acc (.slice none 0 0) 1 3 []] (by simp [LE.holds, LE.names])).perm (l' := [.acc (.slice none 0 0) 2 25 [], .acc (.slice none 0 0) 1 3 [], .obj n4 (.cells [.int .i64 0, .int .u64 0] 25)]) (by simpa using (List.perm_append_comm (l₁ := [LE.obj n4 (.cells [.int .i64 0, .int .u64 0] 25)]) (l₂ := [.acc (.slice none 0 0) 2 25 [], .acc (.slice none 0 0) 1 3 []])))
        simpa [flat2, flat1] using this
      rintro m fr s' f ⟨i, env, us, lv, kv, him, rfl, hus, LL, h0, h4, h5, h6, h34, h35, h36⟩
      by_cases hi : i < vs.length
      · have hi' : (i : Int) < vs.length := by omega
        obtain ⟨na, oa, ha, hl⟩ := hv.at_ i vs[i] (by simp [hi])
        obtain ⟨l0, _, _⟩ := hl s' fun n hn => LL.kept.find hn
        simp -dsimp [h34, h35, h36, hi', ha, l0]
        refine x_alloc LL zero25 fun n8 s2 L2 => ?_
        simp -dsimp
        refine x_store L2 0 rfl (storeTo25 _ rfl _ _) fun s3 L3 => ?_
        simp -dsimp [(load25_of L3 0 rfl).1]
        refine Does.mono (clean_run _ _ _) ?_
        rintro _ s4 f4 ⟨K4, a, b, rfl⟩
        simp -dsimp
        refine x_alloc (L3.keep K4) zero25 fun n9 s5 L5 => ?_
        simp -dsimp
        refine x_store L5 0 rfl (storeTo25 _ rfl _ _) fun s6 L6 => ?_
        simp -dsimp
        have L7 : Loc s s6 [.acc lv 2 25 (flat2 us), .acc kv 1 3 (flat1 (us.map (·.1))), .obj n4 (.cells [.int .i64 0, .int .u64 0] 25), .obj n9 (.cells [.int .i64 a, .int .u64 b] 25)] :=
          (L6.sub (l' := [.obj n9 (.cells [.int .i64 a, .int .u64 b] 25), .acc lv 2 25 (flat2 us), .acc kv 1 3 (flat1 (us.map (·.1))), .obj n4 (.cells [.int .i64 0, .int .u64 0] 25)]) (by simp)).perm
            (by simpa using (List.perm_append_comm (l₁ := [LE.obj n9 (.cells [.int .i64 a, .int .u64 b] 25)]) (l₂ := [.acc lv 2 25 (flat2 us), .acc kv 1 3 (flat1 (us.map (·.1))), .obj n4 (.cells [.int .i64 0, .int .u64 0] 25)])))
        refine psh (by omega) L7 (by simp [h5]) (by simp [h6]) (by simp) ?_
        intro env' s7 lv' kv' e6 e5 et L8
        have w1 : wrapA .i64 ((i : Int) + 1) = (i : Int) + 1 := wrap_small (by omega) (by omega)
        have e36 := et 36 (by omega)
        have e34 := et 34 (by omega)
        have e35 := et 35 (by omega)
        have e0 := et 0 (by omega)
        have e4 := et 4 (by omega)
        simp [h0, h4, h34, h35, h36] at e36 e34 e35 e0 e4
        simp -dsimp [e36, w1]
        refine Goal.mk ⟨m - 1, by omega, i + 1, _, us ++ [(a, b)], lv', kv', by omega, rfl, by simp [hus], L8, ?_, ?_, ?_, ?_, ?_, ?_, ?_⟩
        all_goals simp [e0, e4, e5, e6, e34, e35]
      · have hi' : ¬ ((i : Int) < vs.length) := by omega
        simp -dsimp [h35, h36, hi', h0, h5]
        refine Does.mono (result_run op (ints_of LL 1 rfl)) ?_
        rintro _ s2 f2 ⟨rfl, c, rfl, hc⟩
        simp -dsimp
        refine wB_cases (fun h => ?_) (fun h => ?_)
        · simp -dsimp [h, build46, iface46, panic46]
          exact epan (by simp [h4]) LL (i := 2) rfl
        have hcn : c ≠ 0 := by simpa using h
        have hul := hc hcn
        simp only [List.length_map] at hul
        have hne : us ≠ [] := by intro e; subst e; simp at hul
        have V := vals_of LL 0 rfl hne
        obtain ⟨n0, o0, ha0, hl0⟩ := V.at_ 0 (us[0]'(by omega)) (by simp)
        obtain ⟨_, l1, _⟩ := hl0 _ fun _ _ => rfl
        simp only [Int.ofNat_zero] at ha0
        simp -dsimp [h, h6, ha0, fieldAddrA, l1]
        refine wB_cases (fun h => ?_) (fun h => ?_)
        · simp -dsimp [h, h0, h6]
          refine Does.mono (reals_run op V (by omega) (by omega)) ?_
          rintro _ s3 f3 ⟨K3, ⟨a, b, rfl⟩ | rfl⟩
          · simp -dsimp [h4]
            refine x_store (LL.keep K3) 2 rfl (storeTo25 _ rfl _ _) fun s4 L4 => ?_
            simp -dsimp
            exact eret (by simp [h4]) L4 (i := 2) rfl
          · simp -dsimp
            exact epan (by simp [h4]) (LL.keep K3) (i := 2) rfl
        · simp -dsimp [h, h0, h6]
          refine Does.mono (ints_run op V (by omega) (by omega)) ?_
          rintro _ s3 f3 ⟨K3, ⟨a, b, rfl⟩ | rfl⟩
          · simp -dsimp [h4]
            refine x_store (LL.keep K3) 2 rfl (storeTo25 _ rfl _ _) fun s4 L4 => ?_
            simp -dsimp
            exact eret (by simp [h4]) L4 (i := 2) rfl
          · simp -dsimp
            exact epan (by simp [h4]) (LL.keep K3) (i := 2) rfl
end Go.Proofs.Ytgpfgcbolinncaa.Abs
