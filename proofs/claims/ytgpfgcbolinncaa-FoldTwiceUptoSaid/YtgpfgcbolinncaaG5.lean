/- values: rows of values, the parts that read them. values: Clean, truth, reals, ints. -/
import Derived.Test.YtgpfgcbolinncaaG4
set_option linter.unusedVariables false
set_option linter.unusedSimpArgs false
namespace Go.Proofs.Ytgpfgcbolinncaa.Abs
open Go Go.RowKit

structure IntsV (h : Heap) (ks : List Int) (sl : Value) : Prop where
  len : lenA Try.prog 50 sl = some (.int .i64 ks.length)
  at_ : ∀ (i : Nat) (k : Int), ks[i]? = some k → ∃ a, indexAddrA Try.prog 50 sl (.int .i64 i) = some a ∧ ∀ s : ST, (∀ n, h.find n ≠ none → s.heap.find n = h.find n) → loadA Try.prog 3 a s = some (.int .i64 k, s)
structure ValsV (h : Heap) (vs : List (Int × Int)) (sl : Value) : Prop where
  len : lenA Try.prog 41 sl = some (.int .i64 vs.length)
  at_ : ∀ (i : Nat) (p : Int × Int), vs[i]? = some p → ∃ n off, indexAddrA Try.prog 41 sl (.int .i64 i) = some (.pointer (some ⟨n, off, none⟩)) ∧ ∀ s : ST, (∀ n, h.find n ≠ none → s.heap.find n = h.find n) →
    loadA Try.prog 25 (.pointer (some ⟨n, off, none⟩)) s = some (valV p.1 p.2, s) ∧ loadA Try.prog 3 (.pointer (some ⟨n, off, none⟩)) s = some (.int .i64 p.1, s) ∧ loadA Try.prog 23 (.pointer (some ⟨n, off + 1, none⟩)) s = some (.int .u64 p.2, s)
@[simp] theorem notFloat23 : isFloatT Try.prog 23 = false := by kernel_rfl
@[simp] theorem notFloat2 : isFloatT Try.prog 2 = false := by kernel_rfl
@[simp] theorem notStr23 : isStrT Try.prog 23 = false := by kernel_rfl
@[simp] theorem notStr2 : isStrT Try.prog 2 = false := by kernel_rfl
@[simp] theorem isFl66 : isFloatT Try.prog 66 = true := by kernel_rfl
def noneV : Value := .iface 46 (.agg #[])
theorem build46 : buildA Try.prog 46 [] = some (.agg #[]) := by kernel_rfl
theorem iface46 : makeIfaceA Try.prog 46 (.agg #[]) = some noneV := by kernel_rfl
theorem panic46 : panicA noneV = some noneV := rfl
@[simp] theorem neq4 (xo yo : Operand) (a b : Bool) : binA Try.prog .neq 4 xo yo (.bool a) (.bool b) = some (.bool (a != b)) := by
  refine binA_pure rfl rfl rfl rfl ?_ rfl
  cases a <;> cases b <;> rfl
theorem fn25 : fnOf Try.prog 25 = some ((Try.f25.body.getD .skip), Try.f25.ntmps, Try.f25.results) := rfl
theorem result_run (op : Int) {ks : List Int} {sl : Value} {s : ST} (hk : IntsV s.heap ks sl) : Does Try.prog 25 #[.int .i64 op, sl] s (fun r s' => s' = s ∧ ∃ c : Int, r = .ret (.int .i64 c) ∧ (c ≠ 0 → ks.length = 1 ∨ ks.length = 2)) := by
  refine Does.code known0 fn25 [5] (by kernel_rfl) ?_
  dsimp only [Try.f25, Option.getD_some, undraw, noId, Nat.reduceBEq, cond_true, cond_false, frOf]
  by_cases h1 : ks.length = 1
  · obtain ⟨a, ha, hl⟩ := hk.at_ 0 (ks[0]'(by omega)) (by simp)
    have hl := hl s fun _ _ => rfl
    simp only [Int.ofNat_zero] at ha
    simp -dsimp [envOf, hk.len, h1, ha, hl]
    refine Does.mono (one_run _ _ _) ?_
    rintro _ s1 f1 ⟨rfl, c, rfl⟩
    simp -dsimp
    exact fun _ => .inl h1
  · have h1' : ((ks.length : Int) == 1) = false := by simp; omega
    by_cases h2 : ks.length = 2
    · obtain ⟨a, ha, hl⟩ := hk.at_ 0 (ks[0]'(by omega)) (by simp)
      have hl := hl s fun _ _ => rfl
      obtain ⟨a2, ha2, hl2⟩ := hk.at_ 1 (ks[1]'(by omega)) (by simp)
      have hl2 := hl2 s fun _ _ => rfl
      simp only [Int.ofNat_zero] at ha
      simp only [Int.ofNat_one] at ha2
      simp -dsimp [envOf, hk.len, h1', h2, ha, hl, ha2, hl2]
      refine wB_cases (fun h => ?_) (fun h => ?_)
      · simp -dsimp [h, ha, hl]
        refine Does.mono (two_run _ _ _) ?_
        rintro _ s1 f1 ⟨rfl, c, rfl⟩
        simp -dsimp
        exact fun _ => .inr h2
      · simp -dsimp [h]
    · have h2' : ((ks.length : Int) == 2) = false := by simp; omega
      simp -dsimp [envOf, hk.len, h1', h2']
theorem fn43 : fnOf Try.prog 43 = some ((Try.f43.body.getD .skip), Try.f43.ntmps, Try.f43.results) := rfl
theorem vsub_run (a b : Int) (s : ST) : Does Try.prog 43 #[.int .i64 a, .int .i64 b] s (fun r s' => s' = s ∧ ((∃ c : Int, r = .ret (.int .i64 c)) ∨ r = .panic noneV)) := by
  refine Does.code known0 fn43 [] (by kernel_rfl) ?_
  dsimp only [Try.f43, Option.getD_some, undraw, noId, Nat.reduceBEq, cond_true, cond_false, frOf]
  simp -dsimp [envOf]
  refine wB_cases (fun h => ?_) (fun h => ?_)
  · simp -dsimp [build46, iface46, panic46]
  · simp -dsimp
theorem fn48 : fnOf Try.prog 48 = some ((Try.f48.body.getD .skip), Try.f48.ntmps, Try.f48.results) := rfl
theorem vadd_run (a b : Int) (s : ST) : Does Try.prog 48 #[.int .i64 a, .int .i64 b] s (fun r s' => s' = s ∧ ((∃ c : Int, r = .ret (.int .i64 c)) ∨ r = .panic noneV)) := by
  refine Does.code known0 fn48 [] (by kernel_rfl) ?_
  dsimp only [Try.f48, Option.getD_some, undraw, noId, Nat.reduceBEq, cond_true, cond_false, frOf]
  simp -dsimp [envOf]
  refine wB_cases (fun h => ?_) (fun h => ?_)
  · simp -dsimp [build46, iface46, panic46]
  · simp -dsimp
theorem fn52 : fnOf Try.prog 52 = some ((Try.f52.body.getD .skip), Try.f52.ntmps, Try.f52.results) := rfl
theorem size_run (a : Int) (s : ST) : Does Try.prog 52 #[.int .i64 a] s (fun r s' => s' = s ∧ ∃ c : Int, r = .ret (.int .u64 c)) := by
  refine Does.code known0 fn52 [] (by kernel_rfl) ?_
  dsimp only [Try.f52, Option.getD_some, undraw, noId, Nat.reduceBEq, cond_true, cond_false, frOf]
  simp -dsimp [envOf]
  refine wB_cases (fun h => ?_) (fun h => ?_)
  · simp -dsimp [conv_int Try.underlying2 Try.underlying23]
  · simp -dsimp [conv_int Try.underlying2 Try.underlying23]
theorem fn53 : fnOf Try.prog 53 = some ((Try.f53.body.getD .skip), Try.f53.ntmps, Try.f53.results) := rfl
theorem mul64_run (a b : Int) (s : ST) : Does Try.prog 53 #[.int .u64 a, .int .u64 b] s (fun r s' => s' = s ∧ ∃ c d : Int, r = .ret (.tuple #[.int .u64 c, .int .u64 d])) := by
  refine Does.code known0 fn53 [] (by kernel_rfl) ?_
  dsimp only [Try.f53, Option.getD_some, undraw, noId, Nat.reduceBEq, cond_true, cond_false, frOf]
  simp -dsimp [envOf, bin_shr]
theorem fn49 : fnOf Try.prog 49 = some ((Try.f49.body.getD .skip), Try.f49.ntmps, Try.f49.results) := rfl
set_option maxHeartbeats 4000000 in
theorem vmul_run (a b : Int) (s : ST) : Does Try.prog 49 #[.int .i64 a, .int .i64 b] s (fun r s' => s' = s ∧ ((∃ c : Int, r = .ret (.int .i64 c)) ∨ r = .panic noneV)) := by
  refine Does.code known0 fn49 [] (by kernel_rfl) ?_
  dsimp only [Try.f49, Option.getD_some, undraw, noId, Nat.reduceBEq, cond_true, cond_false, frOf]
  simp -dsimp [envOf]
  refine Does.mono (size_run _ _) ?_
  rintro _ s1 f1 ⟨rfl, c, rfl⟩
  simp -dsimp
  refine Does.mono (size_run _ _) ?_
  rintro _ s1 f1 ⟨rfl, d, rfl⟩
  simp -dsimp
  refine Does.mono (mul64_run _ _ _) ?_
  rintro _ s1 f1 ⟨rfl, hi, lo, rfl⟩
  simp -dsimp [extractA]
  repeat' first
    | (refine wB_cases (fun h => ?_) (fun h => ?_) <;> (try simp -dsimp [h, build46, iface46, panic46, conv_int Try.underlying23 Try.underlying2]))
    | (refine wG_cases (fun h => ?_) (fun h => ?_) <;> (try simp -dsimp [h, build46, iface46, panic46, conv_int Try.underlying23 Try.underlying2]))
theorem fn44 : fnOf Try.prog 44 = some ((Try.f44.body.getD .skip), Try.f44.ntmps, Try.f44.results) := rfl
set_option maxHeartbeats 4000000 in
theorem number_run (op a b : Int) (s : ST) : Does Try.prog 44 #[.int .i64 op, .int .i64 a, .int .i64 b] s (fun r s' => s' = s ∧ ((∃ c : Int, r = .ret (.int .i64 c)) ∨ r = .panic noneV)) := by
  refine Does.code known0 fn44 [] (by kernel_rfl) ?_
  dsimp only [Try.f44, Option.getD_some, undraw, noId, Nat.reduceBEq, cond_true, cond_false, frOf]
  simp -dsimp [envOf]
  refine wB_cases (fun h => ?_) (fun h => ?_)
  · simp -dsimp [h]
    refine Does.mono (vadd_run _ _ _) ?_
    rintro _ s1 f1 ⟨rfl, ⟨c, rfl⟩ | rfl⟩ <;> simp -dsimp
  simp -dsimp [h]
  refine wB_cases (fun h => ?_) (fun h => ?_)
  · simp -dsimp [h]
    refine Does.mono (vsub_run _ _ _) ?_
    rintro _ s1 f1 ⟨rfl, ⟨c, rfl⟩ | rfl⟩ <;> simp -dsimp
  simp -dsimp [h]
  refine wB_cases (fun h => ?_) (fun h => ?_)
  · simp -dsimp [h]
    refine Does.mono (vmul_run _ _ _) ?_
    rintro _ s1 f1 ⟨rfl, ⟨c, rfl⟩ | rfl⟩ <;> simp -dsimp
  simp -dsimp [h]
  by_cases hb : b = 0
  · subst hb
    simp -dsimp [build46, iface46, panic46]
  have hb' : (b == 0) = false := by simp [hb]
  simp -dsimp [hb']
  refine wB_cases (fun h => ?_) (fun h => ?_)
  · simp -dsimp [h]
    refine wB_cases (fun h => ?_) (fun h => ?_)
    · simp -dsimp [h]
      refine Does.mono (vsub_run _ _ _) ?_
      rintro _ s1 f1 ⟨rfl, ⟨c, rfl⟩ | rfl⟩ <;> simp -dsimp
    · simp -dsimp [h]
  · simp -dsimp [h]
    refine wB_cases (fun h => ?_) (fun h => ?_)
    · simp -dsimp [h, bin_quo _ _ _ _ _ _ hb]
    · simp -dsimp [h, bin_rem _ _ _ _ _ _ hb]
theorem fn28 : fnOf Try.prog 28 = some ((Try.f28.body.getD .skip), Try.f28.ntmps, Try.f28.results) := rfl
theorem told_run (t : Int) (s : ST) : Does Try.prog 28 #[.int .i64 t] s (fun r s' => Kept s s' ∧ ((∃ a b : Int, r = .ret (valV a b)) ∨ r = .panic noneV)) := by
  refine Does.pre fun hf => ?_
  refine Does.code known0 fn28 [] (by kernel_rfl) ?_
  dsimp only [Try.f28, Option.getD_some, undraw, noId, Nat.reduceBEq, cond_true, cond_false, frOf]
  simp -dsimp [envOf]
  refine x_alloc (Loc.nil hf) zero25 fun n1 s1 L1 => ?_
  simp -dsimp
  refine wB_cases (fun h => ?_) (fun h => ?_)
  · simp -dsimp [h]
    refine Does.mono (yes_run _ _) ?_
    rintro _ s2 f2 ⟨K2, rfl⟩
    simp -dsimp
    refine x_store (L1.keep K2) 0 rfl (storeTo25 _ rfl _ _) fun s3 L3 => ?_
    simp -dsimp [(load25_of L3 0 rfl).1]
    exact ⟨L3.kept, _, _, rfl⟩
  simp -dsimp [h]
  refine wB_cases (fun h => ?_) (fun h => ?_)
  · simp -dsimp [h]
    refine Does.mono (yes_run _ _) ?_
    rintro _ s2 f2 ⟨K2, rfl⟩
    simp -dsimp
    refine x_store (L1.keep K2) 0 rfl (storeTo25 _ rfl _ _) fun s3 L3 => ?_
    simp -dsimp [(load25_of L3 0 rfl).1]
    exact ⟨L3.kept, _, _, rfl⟩
  · simp -dsimp [h, build46, iface46, panic46]
    exact L1.kept
theorem fn22 : fnOf Try.prog 22 = some ((Try.f22.body.getD .skip), Try.f22.ntmps, Try.f22.results) := rfl
theorem logic_run (a b : Int) (o : Bool) (s : ST) : Does Try.prog 22 #[.int .i64 a, .int .i64 b, .bool o] s (fun r s' => Kept s s' ∧ ((∃ a b : Int, r = .ret (valV a b)) ∨ r = .panic noneV)) := by
  refine Does.pre fun hf => ?_
  refine Does.code known0 fn22 [] (by kernel_rfl) ?_
  dsimp only [Try.f22, Option.getD_some, undraw, noId, Nat.reduceBEq, cond_true, cond_false, frOf]
  simp -dsimp [envOf]
  refine x_alloc (Loc.nil hf) zero25 fun n1 s1 L1 => ?_
  cases o with
  | true =>
    simp -dsimp [max_two]
    refine Does.mono (told_run _ _) ?_
    rintro _ s2 f2 ⟨K2, ⟨c, d, rfl⟩ | rfl⟩
    · simp -dsimp
      refine x_store (L1.keep K2) 0 rfl (storeTo25 _ rfl _ _) fun s3 L3 => ?_
      simp -dsimp [(load25_of L3 0 rfl).1]
      exact ⟨L3.kept, _, _, rfl⟩
    · simp -dsimp
      exact (L1.keep K2).kept
  | false =>
    have mn : ∀ a b : Int, minA [.int .i64 a, .int .i64 b] = some (.int .i64 (if b < a then b else a)) := fun _ _ => rfl
    simp -dsimp [mn]
    refine Does.mono (told_run _ _) ?_
    rintro _ s2 f2 ⟨K2, ⟨c, d, rfl⟩ | rfl⟩
    · simp -dsimp
      refine x_store (L1.keep K2) 0 rfl (storeTo25 _ rfl _ _) fun s3 L3 => ?_
      simp -dsimp [(load25_of L3 0 rfl).1]
      exact ⟨L3.kept, _, _, rfl⟩
    · simp -dsimp
      exact (L1.keep K2).kept
end Go.Proofs.Ytgpfgcbolinncaa.Abs
set_option linter.unusedVariables false
set_option linter.unusedSimpArgs false
namespace Go.Proofs.Ytgpfgcbolinncaa.Abs
open Go Go.RowKit

theorem cells_val (a b : Int) : cellsL (valV a b) = [.int .i64 a, .int .u64 b] := rfl
theorem fn24 : fnOf Try.prog 24 = some ((Try.f24.body.getD .skip), Try.f24.ntmps, Try.f24.results) := rfl
set_option maxHeartbeats 4000000 in
theorem clean_run (a b : Int) (s : ST) : Does Try.prog 24 #[valV a b] s (fun r s' => Kept s s' ∧ ∃ a b : Int, r = .ret (valV a b)) := by
  refine Does.pre fun hf => ?_
  refine Does.code known0 fn24 [] (by kernel_rfl) ?_
  dsimp only [Try.f24, Option.getD_some, undraw, noId, Nat.reduceBEq, cond_true, cond_false, frOf]
  simp -dsimp [envOf]
  refine x_box (Loc.nil hf) (by rfl) fun n1 s1 L1 => ?_
  simp -dsimp
  refine x_alloc L1 zero25 fun n2 s2 L2 => ?_
  obtain ⟨l0, l1, l2⟩ := load25_of L2 1 rfl
  simp -dsimp [fieldAddrA, l0, l1, l2]
  repeat' first
    | (refine wB_cases (fun h => ?_) (fun h => ?_) <;> (try simp -dsimp [h, l0, l1, l2, fieldAddrA, build25_0]))
    | (refine wG_cases (fun h => ?_) (fun h => ?_) <;> (try simp -dsimp [h, l0, l1, l2, fieldAddrA, build25_0]))
    | (refine x_store L2 0 rfl (storeTo25 _ rfl _ _) fun s3 L3 => ?_; simp -dsimp [(load25_of L3 0 rfl).1]; exact ⟨L3.kept, _, _, rfl⟩)
    | (refine Does.mono (canon_run _ _) ?_; rintro _ s3 f3 ⟨rfl, c, rfl, _⟩; simp -dsimp [build25_2])
theorem fn23 : fnOf Try.prog 23 = some ((Try.f23.body.getD .skip), Try.f23.ntmps, Try.f23.results) := rfl
set_option maxHeartbeats 4000000 in
theorem truth_run (a b : Int) (s : ST) : Does Try.prog 23 #[valV a b] s (fun r s' => Kept s s' ∧ ∃ a : Int, r = .ret (.int .i64 a)) := by
  refine Does.pre fun hf => ?_
  refine Does.code known0 fn23 [] (by kernel_rfl) ?_
  dsimp only [Try.f23, Option.getD_some, undraw, noId, Nat.reduceBEq, cond_true, cond_false, frOf]
  simp -dsimp [envOf]
  refine x_box (Loc.nil hf) (by rfl) fun n1 s1 L1 => ?_
  simp -dsimp [(load25_of L1 0 rfl).1]
  refine Does.mono (clean_run _ _ _) ?_
  rintro _ s2 f2 ⟨K2, c, d, rfl⟩
  simp -dsimp
  refine x_store (L1.keep K2) 0 rfl (storeTo25 _ rfl _ _) fun s3 L3 => ?_
  obtain ⟨l0, l1, l2⟩ := load25_of L3 0 rfl
  have K3 := L3.kept
  simp -dsimp [fieldAddrA, l1]
  repeat' first
    | exact K3
    | (refine wB_cases (fun h => ?_) (fun h => ?_) <;> (try simp -dsimp [h, l1, l2, fieldAddrA]))
theorem fn32 : fnOf Try.prog 32 = some ((Try.f32.body.getD .skip), Try.f32.ntmps, Try.f32.results) := rfl
theorem box_run (b : Int) (s : ST) : Does Try.prog 32 #[.int .u64 b] s (fun r s' => Kept s s' ∧ r = .ret (valV 4 b)) := by
  refine Does.pre fun hf => ?_
  refine Does.code known0 fn32 [] (by kernel_rfl) ?_
  dsimp only [Try.f32, Option.getD_some, undraw, noId, Nat.reduceBEq, cond_true, cond_false, frOf]
  simp -dsimp [envOf]
  refine x_alloc (Loc.nil hf) zero25 fun n1 s1 L1 => ?_
  simp -dsimp [build25_2]
  refine x_store L1 0 rfl (storeTo25 _ rfl _ _) fun s2 L2 => ?_
  simp -dsimp [(load25_of L2 0 rfl).1]
  exact L2.kept
theorem fn26 : fnOf Try.prog 26 = some ((Try.f26.body.getD .skip), Try.f26.ntmps, Try.f26.results) := rfl
set_option maxHeartbeats 4000000 in
theorem reals_run (op : Int) {vs : List (Int × Int)} {sl : Value} {s : ST} (hv : ValsV s.heap vs sl) (h0 : 0 < vs.length) (hb : vs.length < 2 ^ 62) : Does Try.prog 26 #[.int .i64 op, sl] s (fun r s' => Kept s s' ∧ ((∃ a b : Int, r = .ret (valV a b)) ∨ r = .panic noneV)) := by
  refine Does.pre fun hf => ?_
  obtain ⟨n0, o0, ha0, hl0⟩ := hv.at_ 0 (vs[0]'(by omega)) (by simp)
  obtain ⟨n9, o9, ha9, hl9⟩ := hv.at_ (vs.length - 1) (vs[vs.length - 1]'(by omega)) (by simp)
  simp only [Int.ofNat_zero] at ha0
  have hlen9 : ((vs.length - 1 : Nat) : Int) = (vs.length : Int) - 1 := by omega
  rw [hlen9] at ha9
  have w9 : wrapA .i64 ((vs.length : Int) - 1) = (vs.length : Int) - 1 := wrap_small (by omega) (by omega)
  refine Does.code known0 fn26 [] (by kernel_rfl) ?_
  dsimp only [Try.f26, Option.getD_some, undraw, noId, Nat.reduceBEq, cond_true, cond_false, frOf]
  simp -dsimp [envOf]
  refine x_alloc (Loc.nil hf) zero25 fun n1 s1 L1 => ?_
  obtain ⟨p0, p1, p2⟩ := hl0 s1 fun n hn => L1.kept.find hn
  obtain ⟨q0, q1, q2⟩ := hl9 s1 fun n hn => L1.kept.find hn
  simp -dsimp [ha0, fieldAddrA, p2, hv.len, w9, ha9, q2]
  refine wB_cases (fun h => ?_) (fun h => ?_)
  · simp -dsimp [h]
    refine Does.mono (radd_run _ _ _) ?_
    rintro _ s2 f2 ⟨rfl, c, rfl⟩
    simp -dsimp
    refine Does.mono (box_run _ _) ?_
    rintro _ s2 f2 ⟨K2, rfl⟩
    simp -dsimp
    refine x_store (L1.keep K2) 0 rfl (storeTo25 _ rfl _ _) fun s3 L3 => ?_
    simp -dsimp [(load25_of L3 0 rfl).1]
    exact ⟨L3.kept, _, _, rfl⟩
  simp -dsimp [h]
  refine wB_cases (fun h => ?_) (fun h => ?_)
  · simp -dsimp [h]
    refine Does.mono (rsub_run _ _ _) ?_
    rintro _ s2 f2 ⟨rfl, c, rfl⟩
    simp -dsimp
    refine Does.mono (box_run _ _) ?_
    rintro _ s2 f2 ⟨K2, rfl⟩
    simp -dsimp
    refine x_store (L1.keep K2) 0 rfl (storeTo25 _ rfl _ _) fun s3 L3 => ?_
    simp -dsimp [(load25_of L3 0 rfl).1]
    exact ⟨L3.kept, _, _, rfl⟩
  simp -dsimp [h]
  refine wB_cases (fun h => ?_) (fun h => ?_)
  · simp -dsimp [h]
    refine Does.mono (rmul_run _ _ _) ?_
    rintro _ s2 f2 ⟨rfl, c, rfl⟩
    simp -dsimp
    refine Does.mono (box_run _ _) ?_
    rintro _ s2 f2 ⟨K2, rfl⟩
    simp -dsimp
    refine x_store (L1.keep K2) 0 rfl (storeTo25 _ rfl _ _) fun s3 L3 => ?_
    simp -dsimp [(load25_of L3 0 rfl).1]
    exact ⟨L3.kept, _, _, rfl⟩
  simp -dsimp [h]
  refine wB_cases (fun h => ?_) (fun h => ?_)
  · simp -dsimp [h]
    refine Does.mono (rdiv_run _ _ _) ?_
    rintro _ s2 f2 ⟨rfl, c, rfl⟩
    simp -dsimp
    refine Does.mono (box_run _ _) ?_
    rintro _ s2 f2 ⟨K2, rfl⟩
    simp -dsimp
    refine x_store (L1.keep K2) 0 rfl (storeTo25 _ rfl _ _) fun s3 L3 => ?_
    simp -dsimp [(load25_of L3 0 rfl).1]
    exact ⟨L3.kept, _, _, rfl⟩
  simp -dsimp [h]
  refine wB_cases (fun h => ?_) (fun h => ?_)
  · simp -dsimp [h]
    refine Does.mono (rneg_run _ _) ?_
    rintro _ s2 f2 ⟨rfl, c, rfl⟩
    simp -dsimp
    refine Does.mono (box_run _ _) ?_
    rintro _ s2 f2 ⟨K2, rfl⟩
    simp -dsimp
    refine x_store (L1.keep K2) 0 rfl (storeTo25 _ rfl _ _) fun s3 L3 => ?_
    simp -dsimp [(load25_of L3 0 rfl).1]
    exact ⟨L3.kept, _, _, rfl⟩
  simp -dsimp [h]
  refine wB_cases (fun h => ?_) (fun h => ?_)
  · simp -dsimp [h]
    refine Does.mono (requal_run _ _ _) ?_
    rintro _ s2 f2 ⟨rfl, c, rfl⟩
    simp -dsimp
    refine Does.mono (yes_run _ _) ?_
    rintro _ s2 f2 ⟨K2, rfl⟩
    simp -dsimp
    refine x_store (L1.keep K2) 0 rfl (storeTo25 _ rfl _ _) fun s3 L3 => ?_
    simp -dsimp [(load25_of L3 0 rfl).1]
    exact ⟨L3.kept, _, _, rfl⟩
  · simp -dsimp [h]
    refine Does.mono (rless_run _ _ _) ?_
    rintro _ s2 f2 ⟨rfl, c, rfl⟩
    simp -dsimp
    refine Does.mono (requal_run _ _ _) ?_
    rintro _ s2 f2 ⟨rfl, c2, rfl⟩
    simp -dsimp
    refine Does.mono (rless_run _ _ _) ?_
    rintro _ s2 f2 ⟨rfl, c3, rfl⟩
    simp -dsimp
    refine Does.mono (holds_run _ _ _ _ _) ?_
    rintro _ s2 f2 ⟨rfl, c4, rfl⟩
    simp -dsimp
    refine Does.mono (yes_run _ _) ?_
    rintro _ s2 f2 ⟨K2, rfl⟩
    simp -dsimp
    refine x_store (L1.keep K2) 0 rfl (storeTo25 _ rfl _ _) fun s3 L3 => ?_
    simp -dsimp [(load25_of L3 0 rfl).1]
    exact ⟨L3.kept, _, _, rfl⟩
theorem fn27 : fnOf Try.prog 27 = some ((Try.f27.body.getD .skip), Try.f27.ntmps, Try.f27.results) := rfl
set_option maxHeartbeats 4000000 in
theorem ints_run (op : Int) {vs : List (Int × Int)} {sl : Value} {s : ST} (hv : ValsV s.heap vs sl) (h0 : 0 < vs.length) (hb : vs.length < 2 ^ 62) : Does Try.prog 27 #[.int .i64 op, sl] s (fun r s' => Kept s s' ∧ ((∃ a b : Int, r = .ret (valV a b)) ∨ r = .panic noneV)) := by
  refine Does.pre fun hf => ?_
  obtain ⟨n0, o0, ha0, hl0⟩ := hv.at_ 0 (vs[0]'(by omega)) (by simp)
  obtain ⟨n9, o9, ha9, hl9⟩ := hv.at_ (vs.length - 1) (vs[vs.length - 1]'(by omega)) (by simp)
  simp only [Int.ofNat_zero] at ha0
  have hlen9 : ((vs.length - 1 : Nat) : Int) = (vs.length : Int) - 1 := by omega
  rw [hlen9] at ha9
  have w9 : wrapA .i64 ((vs.length : Int) - 1) = (vs.length : Int) - 1 := wrap_small (by omega) (by omega)
  refine Does.code known0 fn27 [] (by kernel_rfl) ?_
  dsimp only [Try.f27, Option.getD_some, undraw, noId, Nat.reduceBEq, cond_true, cond_false, frOf]
  have cv := @conv_int Try.prog 23 2 _ _ Try.underlying23 Try.underlying2
  have cw := @conv_int Try.prog 2 23 _ _ Try.underlying2 Try.underlying23
  simp -dsimp [envOf]
  refine x_alloc (Loc.nil hf) zero25 fun n1 s1 L1 => ?_
  obtain ⟨p0, p1, p2⟩ := hl0 s1 fun n hn => L1.kept.find hn
  obtain ⟨q0, q1, q2⟩ := hl9 s1 fun n hn => L1.kept.find hn
  simp -dsimp [ha0, fieldAddrA, p2, hv.len, w9, ha9, q2, cv]
  refine wB_cases (fun h => ?_) (fun h => ?_)
  · simp -dsimp [h]
    refine Does.mono (yes_run _ _) ?_
    rintro _ s2 f2 ⟨K2, rfl⟩
    simp -dsimp
    refine x_store (L1.keep K2) 0 rfl (storeTo25 _ rfl _ _) fun s3 L3 => ?_
    simp -dsimp [(load25_of L3 0 rfl).1]
    exact ⟨L3.kept, _, _, rfl⟩
  simp -dsimp [h]
  refine wB_cases (fun h => ?_) (fun h => ?_)
  · simp -dsimp [h]
    refine Does.mono (ofint_run _ _) ?_
    rintro _ s2 f2 ⟨rfl, c, rfl⟩
    simp -dsimp [build25_2]
    refine x_store L1 0 rfl (storeTo25 _ rfl _ _) fun s3 L3 => ?_
    simp -dsimp [(load25_of L3 0 rfl).1]
    exact ⟨L3.kept, _, _, rfl⟩
  simp -dsimp [h]
  have rest : ∀ (env : Trie Value) (x y : Int), True := fun _ _ _ => trivial
  repeat' first
    | (refine wG_cases (fun h => ?_) (fun h => ?_) <;> (try simp -dsimp [h]))
    | (refine wB_cases (fun h => ?_) (fun h => ?_) <;> (try simp -dsimp [h]))
    | (refine Does.mono (holds_run _ _ _ _ _) ?_; rintro _ s2 f2 ⟨rfl, c4, rfl⟩; simp -dsimp; refine Does.mono (yes_run _ _) ?_; rintro _ s2 f2 ⟨K2, rfl⟩; simp -dsimp; refine x_store (L1.keep K2) 0 rfl (storeTo25 _ rfl _ _) fun s3 L3 => ?_; simp -dsimp [(load25_of L3 0 rfl).1]; exact ⟨L3.kept, _, _, rfl⟩)
    | (refine Does.mono (vsub_run _ _ _) ?_; rintro _ s2 f2 ⟨rfl, ⟨c, rfl⟩ | rfl⟩ <;> simp -dsimp [cw, build25_2])
    | (refine Does.mono (number_run _ _ _ _) ?_; rintro _ s2 f2 ⟨rfl, ⟨c, rfl⟩ | rfl⟩ <;> simp -dsimp [cw, build25_2])
    | (refine x_store L1 0 rfl (storeTo25 _ rfl _ _) fun s3 L3 => ?_; simp -dsimp [(load25_of L3 0 rfl).1]; exact ⟨L3.kept, _, _, rfl⟩)
    | exact L1.kept
end Go.Proofs.Ytgpfgcbolinncaa.Abs
