/- values: what the operators' parts give. -/
import Derived.Test.YtgpfgcbolinncaaG3
set_option linter.unusedVariables false
set_option linter.unusedSimpArgs false
namespace Go.Proofs.Ytgpfgcbolinncaa.Abs
open Go Go.RowKit

theorem fn40 : fnOf Try.prog 40 = some ((Try.f40.body.getD .skip), Try.f40.ntmps, Try.f40.results) := rfl
theorem holds_run (op : Int) (a b c : Bool) (s : ST) : Does Try.prog 40 #[.int .i64 op, .bool a, .bool b, .bool c] s (fun r s' => s' = s ∧ ∃ c : Bool, r = .ret (.bool c)) := by
  refine Does.code known0 fn40 [] (by kernel_rfl) ?_
  dsimp only [Try.f40, Option.getD_some, undraw, noId, Nat.reduceBEq, cond_true, cond_false, frOf]
  simp -dsimp [envOf]
  repeat' first
    | (refine wB_cases (fun h => ?_) (fun h => ?_) <;> (try simp -dsimp [h]))
    | (refine wG_cases (fun h => ?_) (fun h => ?_) <;> (try simp -dsimp [h]))
theorem fn45 : fnOf Try.prog 45 = some ((Try.f45.body.getD .skip), Try.f45.ntmps, Try.f45.results) := rfl
theorem numeric_run (k : Int) (s : ST) : Does Try.prog 45 #[.int .i64 k] s (fun r s' => s' = s ∧ ∃ c : Bool, r = .ret (.bool c)) := by
  refine Does.code known0 fn45 [] (by kernel_rfl) ?_
  dsimp only [Try.f45, Option.getD_some, undraw, noId, Nat.reduceBEq, cond_true, cond_false, frOf]
  simp -dsimp [envOf]
  repeat' first
    | (refine wB_cases (fun h => ?_) (fun h => ?_) <;> (try simp -dsimp [h]))
    | (refine wG_cases (fun h => ?_) (fun h => ?_) <;> (try simp -dsimp [h]))
theorem fn30 : fnOf Try.prog 30 = some ((Try.f30.body.getD .skip), Try.f30.ntmps, Try.f30.results) := rfl
set_option maxHeartbeats 4000000 in
theorem one_run (op k : Int) (s : ST) : Does Try.prog 30 #[.int .i64 op, .int .i64 k] s (fun r s' => s' = s ∧ ∃ c : Int, r = .ret (.int .i64 c)) := by
  refine Does.code known0 fn30 [] (by kernel_rfl) ?_
  dsimp only [Try.f30, Option.getD_some, undraw, noId, Nat.reduceBEq, cond_true, cond_false, frOf]
  simp -dsimp [envOf]
  repeat' first
    | (refine wB_cases (fun h => ?_) (fun h => ?_) <;> (try simp -dsimp [h]))
    | (refine wG_cases (fun h => ?_) (fun h => ?_) <;> (try simp -dsimp [h]))
    | (refine Does.mono (numeric_run _ _) ?_; rintro _ s1 f1 ⟨rfl, c, rfl⟩; simp -dsimp)
theorem fn31 : fnOf Try.prog 31 = some ((Try.f31.body.getD .skip), Try.f31.ntmps, Try.f31.results) := rfl
set_option maxHeartbeats 4000000 in
theorem two_run (op k : Int) (s : ST) : Does Try.prog 31 #[.int .i64 op, .int .i64 k] s (fun r s' => s' = s ∧ ∃ c : Int, r = .ret (.int .i64 c)) := by
  refine Does.code known0 fn31 [] (by kernel_rfl) ?_
  dsimp only [Try.f31, Option.getD_some, undraw, noId, Nat.reduceBEq, cond_true, cond_false, frOf]
  simp -dsimp [envOf]
  repeat' first
    | (refine wB_cases (fun h => ?_) (fun h => ?_) <;> (try simp -dsimp [h]))
    | (refine wG_cases (fun h => ?_) (fun h => ?_) <;> (try simp -dsimp [h]))
    | (refine Does.mono (numeric_run _ _) ?_; rintro _ s1 f1 ⟨rfl, c, rfl⟩; simp -dsimp)
end Go.Proofs.Ytgpfgcbolinncaa.Abs
