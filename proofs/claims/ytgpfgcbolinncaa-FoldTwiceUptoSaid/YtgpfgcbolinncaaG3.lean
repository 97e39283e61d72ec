/- reals: what they give is a number. -/
import Derived.Test.YtgpfgcbolinncaaG2
import Derived.Test.YtgpfgcbolinncaaM5
set_option linter.unusedVariables false
set_option linter.unusedSimpArgs false
namespace Go.Proofs.Ytgpfgcbolinncaa.Abs
open Go Go.RowKit

theorem wBin_float {P : Program} {op : BinOp} {t : TypeId} {xo yo : Operand} {a b : Nat} {k : Value → Prop} (hT : isFloatT P t = true) (h : xFloat op a b k) : wBin P op t xo yo (.float .f64 a) (.float .f64 b) k := ⟨hT, h⟩
theorem float_any {op : BinOp} {a b : Nat} {k : Value → Prop} (ho : arith op = true) (ha : a ≠ nanBits) (hb : b ≠ nanBits) (h : ∀ r, k (.float .f64 r)) : xFloat op a b k := by
  refine ⟨ha, hb, ?_⟩
  cases op <;> first | (cases ho; done) | (simp only; split <;> first | exact h _ | exact fun r _ => h r)
theorem isFloat66 : isFloatT Try.prog 66 = true := by kernel_rfl
def nanI : Int := 9221120237041090561
theorem fn29 : fnOf Try.prog 29 = some ((Try.f29.body.getD .skip), Try.f29.ntmps, Try.f29.results) := rfl
theorem canon_run (a : Int) (s : ST) : Does Try.prog 29 #[.int .u64 a] s (fun r s' => s' = s ∧ ∃ c : Int, r = .ret (.int .u64 c) ∧ c ≠ nanI) := by
  refine Does.code known0 fn29 [] (by kernel_rfl) ?_
  dsimp only [Try.f29, Option.getD_some, undraw, noId, cond_true, cond_false, frOf]
  by_cases h : 9218868437227405312 < bitsA .andNot .u64 a 9223372036854775808
  · simp -dsimp [envOf, h]
    exact fun e => by simp [nanI] at e
  · simp -dsimp [envOf, h]
    intro e
    subst e
    exact h (by decide)
theorem fn51 : Try.prog.funcs[51]? = some Try.f51 := rfl
theorem fn50 : Try.prog.funcs[50]? = some Try.f50 := rfl
theorem frombits_run (n : Int) (s : ST) : Does Try.prog 51 #[.int .u64 n] s (fun r s' => s' = s ∧ r = .ret (.float .f64 n.toNat)) := float64frombits_of fn51 (by kernel_rfl) (by kernel_rfl) (by kernel_rfl) (by kernel_rfl) n s
theorem bits_run (b : Nat) (s : ST) : Does Try.prog 50 #[.float .f64 b] s (fun r s' => s' = s ∧ ∃ c : Nat, r = .ret (.int .u64 c) ∧ (b ≠ nanBits → c = b) ∧ (b = nanBits → isNan c = true)) := float64bits_of fn50 (by kernel_rfl) (by kernel_rfl) (by kernel_rfl) (by kernel_rfl) b s
theorem fn47 : fnOf Try.prog 47 = some ((Try.f47.body.getD .skip), Try.f47.ntmps, Try.f47.results) := rfl
theorem of_run (a : Int) (s : ST) : Does Try.prog 47 #[.int .u64 a] s (fun r s' => s' = s ∧ ∃ b : Nat, r = .ret (.float .f64 b) ∧ b ≠ nanBits) := by
  refine Does.code known0 fn47 [] (by kernel_rfl) ?_
  dsimp only [Try.f47, Option.getD_some, undraw, noId, cond_true, cond_false, frOf]
  simp -dsimp [envOf]
  refine Does.mono (canon_run a s) ?_
  rintro _ s1 f1 ⟨rfl, c, rfl, hc⟩
  simp -dsimp
  refine Does.mono (frombits_run c _) ?_
  rintro _ s1 f1 ⟨rfl, rfl⟩
  simp -dsimp
  unfold nanBits
  unfold nanI at hc
  omega
theorem fn46 : fnOf Try.prog 46 = some ((Try.f46.body.getD .skip), Try.f46.ntmps, Try.f46.results) := rfl
theorem to_run (b : Nat) (s : ST) : Does Try.prog 46 #[.float .f64 b] s (fun r s' => s' = s ∧ ∃ c : Int, r = .ret (.int .u64 c)) := by
  refine Does.code known0 fn46 [] (by kernel_rfl) ?_
  dsimp only [Try.f46, Option.getD_some, undraw, noId, cond_true, cond_false, frOf]
  simp -dsimp [envOf]
  refine Does.mono (bits_run b s) ?_
  rintro _ s1 f1 ⟨rfl, c, rfl, _, _⟩
  simp -dsimp
  refine Does.mono (canon_run c _) ?_
  rintro _ s1 f1 ⟨rfl, c, rfl, _⟩
  simp -dsimp
theorem fn33 : fnOf Try.prog 33 = some ((Try.f33.body.getD .skip), Try.f33.ntmps, Try.f33.results) := rfl
theorem radd_run (a b : Int) (s : ST) : Does Try.prog 33 #[.int .u64 a, .int .u64 b] s (fun r s' => s' = s ∧ ∃ c : Int, r = .ret (.int .u64 c)) := by
  refine Does.code known0 fn33 [] (by kernel_rfl) ?_
  dsimp only [Try.f33, Option.getD_some, undraw, noId, cond_true, cond_false, frOf]
  simp -dsimp [envOf]
  refine Does.mono (of_run a s) ?_
  rintro _ s1 f1 ⟨rfl, x, rfl, hx⟩
  simp -dsimp
  refine Does.mono (of_run b _) ?_
  rintro _ s1 f1 ⟨rfl, y, rfl, hy⟩
  simp -dsimp
  refine wBin_float isFloat66 (float_any rfl hx hy fun r => ?_)
  simp -dsimp
  refine Does.mono (to_run r _) ?_
  rintro _ s1 f1 ⟨rfl, c, rfl⟩
  simp -dsimp
theorem fn34 : fnOf Try.prog 34 = some ((Try.f34.body.getD .skip), Try.f34.ntmps, Try.f34.results) := rfl
theorem rsub_run (a b : Int) (s : ST) : Does Try.prog 34 #[.int .u64 a, .int .u64 b] s (fun r s' => s' = s ∧ ∃ c : Int, r = .ret (.int .u64 c)) := by
  refine Does.code known0 fn34 [] (by kernel_rfl) ?_
  dsimp only [Try.f34, Option.getD_some, undraw, noId, cond_true, cond_false, frOf]
  simp -dsimp [envOf]
  refine Does.mono (of_run a s) ?_
  rintro _ s1 f1 ⟨rfl, x, rfl, hx⟩
  simp -dsimp
  refine Does.mono (of_run b _) ?_
  rintro _ s1 f1 ⟨rfl, y, rfl, hy⟩
  simp -dsimp
  refine wBin_float isFloat66 (float_any rfl hx hy fun r => ?_)
  simp -dsimp
  refine Does.mono (to_run r _) ?_
  rintro _ s1 f1 ⟨rfl, c, rfl⟩
  simp -dsimp
theorem fn35 : fnOf Try.prog 35 = some ((Try.f35.body.getD .skip), Try.f35.ntmps, Try.f35.results) := rfl
theorem rmul_run (a b : Int) (s : ST) : Does Try.prog 35 #[.int .u64 a, .int .u64 b] s (fun r s' => s' = s ∧ ∃ c : Int, r = .ret (.int .u64 c)) := by
  refine Does.code known0 fn35 [] (by kernel_rfl) ?_
  dsimp only [Try.f35, Option.getD_some, undraw, noId, cond_true, cond_false, frOf]
  simp -dsimp [envOf]
  refine Does.mono (of_run a s) ?_
  rintro _ s1 f1 ⟨rfl, x, rfl, hx⟩
  simp -dsimp
  refine Does.mono (of_run b _) ?_
  rintro _ s1 f1 ⟨rfl, y, rfl, hy⟩
  simp -dsimp
  refine wBin_float isFloat66 (float_any rfl hx hy fun r => ?_)
  simp -dsimp
  refine Does.mono (to_run r _) ?_
  rintro _ s1 f1 ⟨rfl, c, rfl⟩
  simp -dsimp
theorem fn36 : fnOf Try.prog 36 = some ((Try.f36.body.getD .skip), Try.f36.ntmps, Try.f36.results) := rfl
theorem rdiv_run (a b : Int) (s : ST) : Does Try.prog 36 #[.int .u64 a, .int .u64 b] s (fun r s' => s' = s ∧ ∃ c : Int, r = .ret (.int .u64 c)) := by
  refine Does.code known0 fn36 [] (by kernel_rfl) ?_
  dsimp only [Try.f36, Option.getD_some, undraw, noId, cond_true, cond_false, frOf]
  simp -dsimp [envOf]
  refine Does.mono (of_run a s) ?_
  rintro _ s1 f1 ⟨rfl, x, rfl, hx⟩
  simp -dsimp
  refine Does.mono (of_run b _) ?_
  rintro _ s1 f1 ⟨rfl, y, rfl, hy⟩
  simp -dsimp
  refine wBin_float isFloat66 (float_any rfl hx hy fun r => ?_)
  simp -dsimp
  refine Does.mono (to_run r _) ?_
  rintro _ s1 f1 ⟨rfl, c, rfl⟩
  simp -dsimp
theorem fn37 : fnOf Try.prog 37 = some ((Try.f37.body.getD .skip), Try.f37.ntmps, Try.f37.results) := rfl
theorem rneg_run (a : Int) (s : ST) : Does Try.prog 37 #[.int .u64 a] s (fun r s' => s' = s ∧ ∃ c : Int, r = .ret (.int .u64 c)) := by
  refine Does.code known0 fn37 [] (by kernel_rfl) ?_
  dsimp only [Try.f37, Option.getD_some, undraw, noId, Nat.reduceBEq, cond_true, cond_false, frOf]
  simp -dsimp [envOf]
  refine Does.mono (canon_run a s) ?_
  rintro _ s1 f1 ⟨rfl, c, rfl, hc⟩
  simp -dsimp
  refine Does.mono (canon_run _ _) ?_
  rintro _ s1 f1 ⟨rfl, c, rfl, hc⟩
  simp -dsimp
theorem fn39 : fnOf Try.prog 39 = some ((Try.f39.body.getD .skip), Try.f39.ntmps, Try.f39.results) := rfl
theorem requal_run (a b : Int) (s : ST) : Does Try.prog 39 #[.int .u64 a, .int .u64 b] s (fun r s' => s' = s ∧ ∃ c : Bool, r = .ret (.bool c)) := by
  refine Does.code known0 fn39 [] (by kernel_rfl) ?_
  dsimp only [Try.f39, Option.getD_some, undraw, noId, Nat.reduceBEq, cond_true, cond_false, frOf]
  simp -dsimp [envOf]
  refine Does.mono (of_run a s) ?_
  rintro _ s1 f1 ⟨rfl, x, rfl, hx⟩
  simp -dsimp
  refine Does.mono (of_run b _) ?_
  rintro _ s1 f1 ⟨rfl, y, rfl, hy⟩
  simp -dsimp
  refine wBin_float isFloat66 ⟨hx, hy, ?_⟩
  simp -dsimp
theorem fn41 : fnOf Try.prog 41 = some ((Try.f41.body.getD .skip), Try.f41.ntmps, Try.f41.results) := rfl
theorem rless_run (a b : Int) (s : ST) : Does Try.prog 41 #[.int .u64 a, .int .u64 b] s (fun r s' => s' = s ∧ ∃ c : Bool, r = .ret (.bool c)) := by
  refine Does.code known0 fn41 [] (by kernel_rfl) ?_
  dsimp only [Try.f41, Option.getD_some, undraw, noId, Nat.reduceBEq, cond_true, cond_false, frOf]
  simp -dsimp [envOf]
  refine Does.mono (of_run a s) ?_
  rintro _ s1 f1 ⟨rfl, x, rfl, hx⟩
  simp -dsimp
  refine Does.mono (of_run b _) ?_
  rintro _ s1 f1 ⟨rfl, y, rfl, hy⟩
  simp -dsimp
  refine wBin_float isFloat66 ⟨hx, hy, ?_⟩
  simp -dsimp
theorem fn42 : fnOf Try.prog 42 = some ((Try.f42.body.getD .skip), Try.f42.ntmps, Try.f42.results) := rfl
theorem ofint_run (a : Int) (s : ST) : Does Try.prog 42 #[.int .i64 a] s (fun r s' => s' = s ∧ ∃ c : Int, r = .ret (.int .u64 c)) := by
  refine Does.code known0 fn42 [] (by kernel_rfl) ?_
  dsimp only [Try.f42, Option.getD_some, undraw, noId, Nat.reduceBEq, cond_true, cond_false, frOf]
  simp -dsimp [envOf, isFloat66, wConv_float (P := Try.prog) Try.underlying2 Try.underlying66]
  refine Does.mono (to_run _ s) ?_
  rintro _ s1 f1 ⟨rfl, c, rfl⟩
  simp -dsimp
theorem zero25 : zeroL Try.prog 25 = some [.int .i64 0, .int .u64 0] := by kernel_rfl
theorem storeTo25 (c : List Value) (hc : c.length = 2) (a b : Int) : storeTo Try.prog 25 c 0 (valV a b) = some [.int .i64 a, .int .u64 b] := by
  have hi : ∀ k x, cellOk (.int k x) = true := fun _ _ => rfl
  have hd : List.drop 2 c = [] := by simp [hc]
  simp [storeTo, known, valV, cellsL, hc, hi, spliceL, hd]
theorem load25_of {s : ST} {s0 : ST} {l : List LE} (L : Loc s0 s l) (i : Nat) {n : Nat} {e : TypeId} {a b : Int} (hi : l[i]? = some (.obj n (.cells [.int .i64 a, .int .u64 b] e))) :
    loadA Try.prog 25 (.pointer (some ⟨n, 0, none⟩)) s = some (valV a b, s) ∧ loadA Try.prog 3 (.pointer (some ⟨n, 0, none⟩)) s = some (.int .i64 a, s) ∧ loadA Try.prog 23 (.pointer (some ⟨n, 1, none⟩)) s = some (.int .u64 b, s) :=
  ⟨load_obj L i hi (by simp [loadFrom, valV]), load_obj L i hi (by simp [loadFrom]), load_obj L i hi (by simp [loadFrom])⟩
theorem build25_0 : buildA Try.prog 25 [] = some (valV 0 0) := by kernel_rfl
theorem build25_2 (a b : Int) : buildA Try.prog 25 [(0, .int .i64 a), (1, .int .u64 b)] = some (valV a b) := by
  unfold buildA
  simp [zero25, placesL, fillL, spliceL, known, cellsL, cellOk, valV]
theorem build25_1 (a : Int) : buildA Try.prog 25 [(0, .int .i64 a)] = some (valV a 0) := by
  unfold buildA
  simp [zero25, placesL, fillL, spliceL, known, cellsL, cellOk, valV]
theorem fn38 : fnOf Try.prog 38 = some ((Try.f38.body.getD .skip), Try.f38.ntmps, Try.f38.results) := rfl
theorem yes_run (b : Bool) (s : ST) : Does Try.prog 38 #[.bool b] s (fun r s' => Kept s s' ∧ r = .ret (valV 2 (if b then 1 else 0))) := by
  refine Does.pre fun hf => ?_
  refine Does.code known0 fn38 [] (by kernel_rfl) ?_
  dsimp only [Try.f38, Option.getD_some, undraw, noId, Nat.reduceBEq, cond_true, cond_false, frOf]
  simp -dsimp [envOf]
  refine x_alloc (Loc.nil hf) zero25 fun n1 s1 L1 => ?_
  cases b with
  | true =>
    simp -dsimp [build25_2]
    refine x_store L1 0 rfl (storeTo25 _ rfl _ _) fun s2 L2 => ?_
    simp -dsimp [(load25_of L2 0 rfl).1]
    exact L2.kept
  | false =>
    simp -dsimp [build25_1]
    refine x_store L1 0 rfl (storeTo25 _ rfl _ _) fun s2 L2 => ?_
    simp -dsimp [(load25_of L2 0 rfl).1]
    exact L2.kept
end Go.Proofs.Ytgpfgcbolinncaa.Abs
