/- awake: a closed run, by the quick run. -/
import Derived.Test.YtgpfgcbolinncaaGreatZ0
import Derived.Test.YtgpfgcbolinncaaGreatH4
import Derived.Test.YtgpfgcbolinncaaGreatM2
set_option linter.unusedVariables false
set_option linter.unusedSimpArgs false
namespace Go.Proofs.YtgpfgcbolinncaaGreat.Abs
open Go Go.RowKit

def sEmpty : ST := { heap := { st := fun _ => none, dyn := .leaf }, base := 1, str := 1, ctr := 0, jr := [] }
theorem sEmpty_free : sEmpty.Free := by intro k _; simp [sEmpty, Heap.find, Trie.get]
/-- a call that needs nothing: from the empty heap to any -/
theorem Does.sealed {P : Program} {f : FuncId} {v : Value} (hp : plain 2 v = true) (h : Does P f #[] sEmpty (fun r _ => r = .ret v)) (s : ST) : Does P f #[] s (fun r s' => r = .ret v ∧ s' = s) := by
  intro B w0 π w args' hf R ha
  have R0 : Rel w.heap.size w (fun _ => none) sEmpty.heap w :=
    ⟨Below.refl _ w, Nat.le_refl _, fun n o h => by simp [sEmpty, Heap.find, Trie.get] at h, (fun n p h => by cases h), fun n p h => by simp [sEmpty, Trie.get] at h, fun n m o q p p' h => by simp [sEmpty, Trie.get] at h, fun n o h => by simp [sEmpty] at h⟩
  have ha0 : VRels (fun _ => none) #[] args' := ⟨ha.1, fun i a b => by simp at a⟩
  have := h _ w _ w args' sEmpty_free R0 ha0
  refine this.mono ?_
  rintro e w' ⟨r, s', π', hle, hf', R', hr, rfl⟩
  refine ⟨_, s, π, fun _ _ h => h, hf, ?_, ?_, rfl, rfl⟩
  · have hb := R'.below
    have lt : ∀ n o p, s.heap.find n = some (some o) → π n = some p → p.blk < w.heap.size := by
      intro n o p hn hp
      rcases Heap.find_cases hn with h | ⟨h, h2⟩
      · exact (R.dynB n p (by rw [h]; simp) hp).2
      · obtain ⟨_, p', hp', hlt⟩ := R.st n o h2
        rw [hp] at hp'
        cases hp'
        exact Nat.lt_of_lt_of_le hlt R.bsz
    refine ⟨⟨hb.os.trans R.below.os, hb.tape.trans R.below.tape, hb.output.trans R.below.output, Nat.le_trans R.below.size hb.size, fun k hk => (hb.block k (Nat.lt_of_lt_of_le hk R.bsz)).trans (R.below.block k hk)⟩,
      Nat.le_trans R.bsz hb.size, ?_, R.dom, ?_, R.inj, R.st⟩
    · intro n o hn
      obtain ⟨p, hp, ho⟩ := R.obj n o hn
      exact ⟨p, hp, ho.congr (hb.block _ (lt n o p hn hp))⟩
    · intro n p hn hp
      have := R.dynB n p hn hp
      exact ⟨this.1, Nat.lt_of_lt_of_le this.2 hb.size⟩
  · cases e with
    | returned v' =>
      have hv : VRel π' v v' := hr
      have := plain_eq 2 v v' hp hv
      subst this
      exact plain_rel π 2 _ hp
    | _ => exact hr.elim
set_option maxRecDepth 10000 in
theorem awake_run (s : ST) : Does Tryz.prog 7 #[] s (fun r s' => r = .ret (.bool true) ∧ s' = s) := by
  obtain ⟨s', h⟩ := awake_eval
  rw [show sEmptyK = sEmpty from rfl] at h
  exact Does.sealed rfl (Does.of_eval known0 h rfl) s
end Go.Proofs.YtgpfgcbolinncaaGreat.Abs
