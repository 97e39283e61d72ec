/- Calls of functions without a body: the bits of a float. -/
import Derived.Test.YtgpfgcbolinncaaM4
set_option linter.unusedVariables false
set_option linter.unusedSimpArgs false
namespace Go.Proofs.Ytgpfgcbolinncaa.Abs
open Go Go.RowKit
section
variable {P : Program}
theorem Does.extern {f : FuncId} {F : Func} (hF : P.funcs[f]? = some F) (hn : (F.name == "runtime.NumGoroutine") = false) (hb : F.body.isNone = true) (h1 : Extern.findNext F = none) {e : Array Value → Sem Value} (h2 : Extern.find F = some e) {args : Array Value} {s : ST} {Q : CRes → ST → Prop}
    (h : ∀ (π : PMap) (w : World) (args' : Array Value), VRels π args args' → ∃ v v', (e args').run P w = .ok v' w ∧ VRel π v v' ∧ Q (.ret v) s) : Does P f args s Q := by
  intro B w0 π w args' fr R ha
  obtain ⟨v, v', he, hv, q⟩ := h π w args' ha
  have : (callFunc f args').run P w = .ok (.value v') w := by
    unfold callFunc
    have hn' : F.name ≠ "runtime.NumGoroutine" := by simpa using hn
    have hb' : F.body = none := by simpa using hb
    simp [Sem.run_bind, hF, hn', hb', h1, h2, he]
  rw [this]
  exact ⟨.ret v, s, π, PMap.le.refl π, fr, R, hv, q⟩
theorem VRels.single {π : PMap} {v : Value} {args' : Array Value} (h : VRels π #[v] args') : ∃ x, args' = #[x] ∧ VRel π v x := by
  obtain ⟨y, hy, hr⟩ := (LRel.of_arrays h).one
  exact ⟨y, by apply Array.ext'; simpa using hy, hr⟩
theorem float64bits_of {f : FuncId} {F : Func} (hF : P.funcs[f]? = some F) (hn : (F.name == "runtime.NumGoroutine") = false) (hb : F.body.isNone = true) (h1 : Extern.findNext F = none) (h2 : Extern.find F = some Extern.MathFloatBits.float64bits) (b : Nat) (s : ST) :
    Does P f #[.float .f64 b] s (fun r s' => s' = s ∧ ∃ c : Nat, r = .ret (.int .u64 c) ∧ (b ≠ nanBits → c = b) ∧ (b = nanBits → isNan c = true)) := by
  refine Does.extern hF hn hb h1 h2 ?_
  intro π w args' ha
  obtain ⟨x, rfl, h0⟩ := ha.single
  by_cases hq : b = nanBits
  · subst hq
    cases h0 with
    | float k b => exact ⟨_, _, rfl, .int .u64 nanBits, rfl, _, rfl, fun h => absurd rfl h, fun _ => rfl⟩
    | nan b h1 h => exact ⟨_, _, rfl, .int .u64 b, rfl, _, rfl, fun h => absurd rfl h, fun _ => h⟩
  · have := float_eq h0 hq
    subst this
    exact ⟨_, _, rfl, .int .u64 b, rfl, _, rfl, fun _ => rfl, fun h => absurd h hq⟩
theorem float64frombits_of {f : FuncId} {F : Func} (hF : P.funcs[f]? = some F) (hn : (F.name == "runtime.NumGoroutine") = false) (hb : F.body.isNone = true) (h1 : Extern.findNext F = none) (h2 : Extern.find F = some Extern.MathFloatBits.float64frombits) (n : Int) (s : ST) :
    Does P f #[.int .u64 n] s (fun r s' => s' = s ∧ r = .ret (.float .f64 n.toNat)) := by
  refine Does.extern hF hn hb h1 h2 ?_
  intro π w args' ha
  obtain ⟨x, rfl, h0⟩ := ha.single
  cases h0 with
  | int k n => exact ⟨_, _, rfl, .float _ _, rfl, rfl⟩
end
end Go.Proofs.Ytgpfgcbolinncaa.Abs
