/- ref25.Alike; a node is like itself. -/
import Derived.Test.YtgpfgcbolinncaaGreatZ6
set_option linter.unusedVariables false
set_option linter.unusedSimpArgs false
namespace Go.Proofs.YtgpfgcbolinncaaGreat.Abs
open Go Go.RowKit

theorem alikeL_refl : ∀ (l : List Tree), (∀ t ∈ l, alikeT t t = true) → alikeL l l = true
  | [], _ => by rw [alikeL]; simp
  | a :: r, h => by
    rw [alikeL, if_pos (h a (by simp))]
    exact alikeL_refl r fun t ht => h t (by simp [ht])
theorem alikeT_refl (t : Tree) : alikeT t t = true := by
  induction t using Tree.ind with
  | h op kind vk bits pos attr args ih =>
    rw [alikeT, if_pos ⟨rfl, rfl⟩, if_pos (alikeL_refl args ih)]
    unfold leafB
    split
    · simp
    · split <;> simp
theorem fn11 : fnOf Tryz.prog 11 = some ((Tryz.f11.body.getD .skip), Tryz.f11.ntmps, Tryz.f11.results) := by kernel_rfl
set_option maxHeartbeats 8000000 in
set_option maxRecDepth 10000 in
theorem alike2_run (t : Tree) : AlikeOk 11 t := by
  induction t using Tree.ind with
  | h op kind vk bits pos attr args ih =>
    intro u v v' s hv hv' hc
    refine Does.pre fun hf => ?_
    obtain ⟨_, _, _, _, _, _, _, sl, e, rfl, hA⟩ := hv.open_
    cases e
    obtain ⟨op', kind', vk', bits', pos', attr', args', sl', rfl, rfl, hA'⟩ := hv'.open_
    have hc := hc.args
    have hll := hc.len
    have hH : Sub s.heap s := fun _ _ => rfl
    refine Does.code known0 fn11 [5] (by kernel_rfl) ?_
    dsimp only [Tryz.f11, Option.getD_some, undraw, noId, Nat.reduceBEq, cond_true, cond_false, frOf]
    simp -dsimp [envOf]
    refine x_box (Loc.nil hf) (by rfl) fun n1 s1 L1 => ?_
    simp -dsimp
    refine x_box L1 (by rfl) fun n2 s2 L2 => ?_
    have F2 := fields L2 0 rfl
    have F1 := fields L2 1 rfl
    cases hop : op == op' <;> cases hlen : (args.length : Int) == args'.length
    all_goals simp -dsimp [fieldAddrA, F1.f0, F2.f0, F1.f2, F2.f2, hA.len, hA'.len, hop, hlen]
    all_goals refine w_for (fun m fr s' => ∃ i okb env, i + m = args.length + 1 ∧ fr = ⟨81, env, []⟩ ∧ Loc s s' [.obj n2 (.cells (nodeCells op' kind' sl' vk' bits' pos' attr') 27), .obj n1 (.cells (nodeCells op kind sl vk bits pos attr) 27)] ∧
          (okb = true → op = op' ∧ args.length = args'.length ∧ alikeL (args.drop i) (args'.drop i) = alikeL args args') ∧ (okb = false → alikeT (.mk op kind vk bits pos attr args) (.mk op' kind' vk' bits' pos' attr' args') = false) ∧
          env.get 2 = some (.pointer (some ⟨n1, 0, none⟩)) ∧ env.get 3 = some (.pointer (some ⟨n2, 0, none⟩)) ∧ env.get 5 = some (.bool okb) ∧ env.get 6 = some (.int .i64 i)) (m := args.length + 1) ?_ L2.free ?_
    case' h.refl.false.false.refine_2 => refine ⟨0, false, _, by omega, rfl, L2, fun h => (by cases h), fun _ => ?_, by simp, by simp, by simp, by simp⟩
    case' h.refl.false.true.refine_2 => refine ⟨0, false, _, by omega, rfl, L2, fun h => (by cases h), fun _ => ?_, by simp, by simp, by simp, by simp⟩
    case' h.refl.true.false.refine_2 => refine ⟨0, false, _, by omega, rfl, L2, fun h => (by cases h), fun _ => ?_, by simp, by simp, by simp, by simp⟩
    case' h.refl.true.true.refine_2 => refine ⟨0, true, _, by omega, rfl, L2, fun _ => ⟨by simpa using hop, by have := hlen; simp only [beq_iff_eq] at this; omega, rfl⟩, fun h => (by cases h), by simp, by simp, by simp, by simp⟩
    all_goals try (rw [alikeT, if_neg]; rintro ⟨h1, h2⟩; first | (simp [h1] at hop; done) | (simp [h2] at hlen; done))
    all_goals
      rintro m fr s' f ⟨i, okb, env, him, rfl, L, ht, hfl, h2, h3, h5, h6⟩
      have F2 := fields L 0 rfl
      have F1 := fields L 1 rfl
      cases okb with
      | false =>
        simp -dsimp [h2, h3, h5, h6]
        exact ⟨hfl rfl, L.kept⟩
      | true =>
        obtain ⟨hop1, hlen1, hk⟩ := ht rfl
        have hT : alikeT (.mk op kind vk bits pos attr args) (.mk op' kind' vk' bits' pos' attr' args') = if alikeL args args' = true then leafB op kind vk bits pos attr op' kind' vk' bits' pos' attr' args.length else false := by
          rw [alikeT, if_pos ⟨hop1, hlen1⟩]
        by_cases hi : i < args.length
        · have hi' : (i : Int) < args.length := by omega
          have hi2 : i < args'.length := by omega
          obtain ⟨a, opa, kinda, sla, vka, bitsa, posa, attra, ha, hsa, hva, hla⟩ := arg_atH hH hA hi
          obtain ⟨b, opb, kindb, slb, vkb, bitsb, posb, attrb, hb, hsb, hvb, hlb⟩ := arg_atH hH hA' hi2
          rw [List.drop_eq_getElem_cons hi, List.drop_eq_getElem_cons hi2, alikeL] at hk
          simp -dsimp [h2, h3, h5, h6, hi', fieldAddrA, F1.f2, F2.f2, hA.len, ha, hb, hla s' L.kept, hlb s' L.kept]
          refine Does.mono (ih args[i] (List.getElem_mem hi) args'[i] _ _ s' (hva.kept L.kept) (hvb.kept L.kept) (hc.at hi)) ?_
          rintro _ s4 f4 ⟨rfl, K4⟩
          have w1 : wrapA .i64 ((i : Int) + 1) = (i : Int) + 1 := wrap_small (by omega) (by omega)
          simp -dsimp [h6, w1]
          refine Goal.mk ⟨m - 1, by omega, i + 1, alikeT args[i] args'[i], _, by omega, rfl, L.keep K4, fun hr => ?_, fun hr => ?_, ?_, ?_, ?_, ?_⟩
          · rw [hr, if_pos rfl] at hk
            exact ⟨hop1, hlen1, hk⟩
          · rw [hr, if_neg (by simp)] at hk
            rw [hT, ← hk]; rfl
          all_goals simp [h2, h3]
        · have hi' : ¬ ((i : Int) < args.length) := by omega
          rw [List.drop_of_length_le (by omega), List.drop_of_length_le (by omega), alikeL] at hk
          · rw [← hk, if_pos rfl] at hT
            by_cases h40 : op = 40
            · subst h40
              simp -dsimp [h2, h3, h5, h6, hi', fieldAddrA, F1.f0, F1.f2, hA.len, F1.f3, F2.f3, weql25]
              exact ⟨by rw [hT]; simp [leafB], L.kept⟩
            · have h40' : (op == 40) = false := by simp [h40]
              by_cases h0 : args.length = 0
              · have hi0 : ¬ ((i : Int) < 0) := by omega
                cases hk1 : kind == kind' <;> cases hk2 : pos == pos' <;> cases hk3 : attr == attr'
                all_goals simp -dsimp [h2, h3, h5, h6, hi', fieldAddrA, F1.f0, h40', F1.f2, hA.len, h0, hi0, hk1, hk2, hk3, F1.f1, F2.f1, F1.f5, F2.f5, F1.f6, F2.f6]
                all_goals exact ⟨by rw [hT]; simp [leafB, h40, h0, hk1, hk2, hk3], L.kept⟩
              · have h0' : 0 < args.length := by omega
                simp -dsimp [h2, h3, h5, h6, hi', fieldAddrA, F1.f0, h40', F1.f2, hA.len, h0']
                exact ⟨by rw [hT]; simp [leafB, h40, h0], L.kept⟩
          · simp
end Go.Proofs.YtgpfgcbolinncaaGreat.Abs
