/- law25.one: equal nodes answer true. prove.Alike. -/
import Derived.Test.YtgpfgcbolinncaaGreatZ4
set_option linter.unusedVariables false
set_option linter.unusedSimpArgs false
namespace Go.Proofs.YtgpfgcbolinncaaGreat.Abs
open Go Go.RowKit

theorem list_one {h : Heap} {m k : Nat} {t : Tree} {op kind vk bits pos attr : Int} {sl : Value} (hf : h.find m = some (some (.cells (nodeCells op kind sl vk bits pos attr) 27))) (hv : NodeV h t (nodeVal op kind sl vk bits pos attr)) : ListV h [t] (.slice (some ⟨m, 0, none⟩) 1 k) := by
  intro op' kind' vk' bits' pos' attr'
  refine .mk op' kind' vk' bits' pos' attr' [t] _ m 0 k _ 27 (.inr rfl) (fun _ => hf) (fun i hi => ?_) fun i u hu => ?_
  · have : i = 0 := by simpa using hi
    subst this
    simp [nodeCells]
  · match i, hu with
    | 0, hu =>
      cases hu
      exact hv
    | i + 1, hu => simp at hu
theorem fn8 : fnOf Tryz.prog 8 = some ((Tryz.f8.body.getD .skip), Tryz.f8.ntmps, Tryz.f8.results) := by kernel_rfl
set_option maxHeartbeats 4000000 in
set_option maxRecDepth 10000 in
theorem one_run {t : Tree} {v v' : Value} {s : ST} (hv : NodeV s.heap t v) (hv' : NodeV s.heap t v') (hc : Fit t) : Does Tryz.prog 8 #[v, v'] s (fun r s' => r = .ret (.bool true) ∧ Kept s s') := by
  refine Does.pre fun hf => ?_
  obtain ⟨op, kind, vk, bits, pos, attr, ts, sl, e, rfl, hA⟩ := hv.open_
  obtain ⟨op', kind', vk', bits', pos', attr', ts', sl', e', rfl, hA'⟩ := hv'.open_
  refine Does.code known0 fn8 [] (by kernel_rfl) ?_
  dsimp only [Tryz.f8, Option.getD_some, undraw, noId, cond_true, cond_false, frOf]
  simp -dsimp [envOf]
  refine x_box (Loc.nil hf) (by rfl) fun n1 s1 L1 => ?_
  simp -dsimp
  refine x_box L1 (by rfl) fun n2 s2 L2 => ?_
  have F2 := fields L2 0 rfl
  have F1 := fields L2 1 rfl
  simp -dsimp [F1.all]
  refine x_buildSlice L2 slice22 sz27 (lit22 _ _ hA.cell _ _ _ _) fun m1 s3 L3 => ?_
  simp -dsimp [(fields L3 1 rfl).all]
  refine x_buildSlice L3 slice22 sz27 (lit22 _ _ hA'.cell _ _ _ _) fun m2 s4 L4 => ?_
  simp -dsimp
  have l1 : ListV s4.heap [t] (.slice (some ⟨m1, 0, none⟩) 1 7) := list_one (Own.find (L4.at (i := 1) rfl)) (hv.kept L4.kept)
  have l2 : ListV s4.heap [t] (.slice (some ⟨m2, 0, none⟩) 1 7) := list_one (Own.find (L4.at (i := 0) rfl)) (hv'.kept L4.kept)
  refine Does.mono (sames_run (.mk 0 0 0 0 0 0 [t]) _ _ _ _ _ _ _ rfl _ _ s4 l1 l2 ⟨by simp, by simpa using hc⟩) ?_
  rintro _ s5 f5 ⟨rfl, K5⟩
  simp -dsimp
  exact L4.kept.trans K5
end Go.Proofs.YtgpfgcbolinncaaGreat.Abs
set_option linter.unusedVariables false
set_option linter.unusedSimpArgs false
namespace Go.Proofs.YtgpfgcbolinncaaGreat.Abs
open Go Go.RowKit

def leafB (op kind vk bits pos attr op' kind' vk' bits' pos' attr' : Int) (n : Nat) : Bool := if op = 40 then (vk == vk' && bits == bits') else if n = 0 then (kind == kind' && (pos == pos' && attr == attr')) else true
mutual
def alikeT : Tree → Tree → Bool
  | .mk op kind vk bits pos attr xs, .mk op' kind' vk' bits' pos' attr' ys => if op = op' ∧ xs.length = ys.length then (if alikeL xs ys = true then leafB op kind vk bits pos attr op' kind' vk' bits' pos' attr' xs.length else false) else false
def alikeL : List Tree → List Tree → Bool
  | a :: xs, b :: ys => if alikeT a b = true then alikeL xs ys else false
  | _, _ => true
end
theorem fn10 : fnOf Tryz.prog 10 = some ((Tryz.f10.body.getD .skip), Tryz.f10.ntmps, Tryz.f10.results) := by kernel_rfl
def AlikeOk (f : FuncId) (t : Tree) : Prop := ∀ u v v' s, NodeV s.heap t v → NodeV s.heap u v' → Fit t → Does Tryz.prog f #[v, v'] s (fun r s' => r = .ret (.bool (alikeT t u)) ∧ Kept s s')
set_option maxHeartbeats 8000000 in
set_option maxRecDepth 10000 in
theorem alike_run (t : Tree) : AlikeOk 10 t := by
  induction t using Tree.ind with
  | h op kind vk bits pos attr args ih =>
    intro u v v' s hv hv' hc
    refine Does.pre fun hf => ?_
    obtain ⟨_, _, _, _, _, _, _, sl, e, rfl, hA⟩ := hv.open_
    cases e
    obtain ⟨op', kind', vk', bits', pos', attr', args', sl', rfl, rfl, hA'⟩ := hv'.open_
    have hc := hc.args
    refine Does.code known0 fn10 [6] (by kernel_rfl) ?_
    dsimp only [Tryz.f10, Option.getD_some, undraw, noId, Nat.reduceBEq, cond_true, cond_false, frOf]
    simp -dsimp [envOf]
    refine x_box (Loc.nil hf) (by rfl) fun n1 s1 L1 => ?_
    simp -dsimp
    refine x_box L1 (by rfl) fun n2 s2 L2 => ?_
    have F2 := fields L2 0 rfl
    have F1 := fields L2 1 rfl
    by_cases hop : op = op'
    · subst hop
      by_cases hlen : args.length = args'.length
      · have hlen' : ((args.length : Int) != args'.length) = false := by simp [hlen]
        simp -dsimp [fieldAddrA, F1.f0, F2.f0, F1.f2, F2.f2, hA.len, hA'.len, hlen']
        have hT : alikeT (.mk op kind vk bits pos attr args) (.mk op kind' vk' bits' pos' attr' args') = if alikeL args args' = true then leafB op kind vk bits pos attr op kind' vk' bits' pos' attr' args.length else false := by
          rw [alikeT, if_pos ⟨rfl, hlen⟩]
        have hH : Sub s.heap s := fun _ _ => rfl
        have hll := hc.len
        refine w_for (fun m fr s' => ∃ i env, i + m = args.length ∧ fr = ⟨72, env, []⟩ ∧ Loc s s' [.obj n2 (.cells (nodeCells op kind' sl' vk' bits' pos' attr') 27), .obj n1 (.cells (nodeCells op kind sl vk bits pos attr) 27)] ∧
          alikeL (args.drop i) (args'.drop i) = alikeL args args' ∧ env.get 2 = some (.pointer (some ⟨n1, 0, none⟩)) ∧ env.get 3 = some (.pointer (some ⟨n2, 0, none⟩)) ∧ env.get 22 = some (.int .i64 args.length) ∧ env.get 23 = some (.int .i64 i)) (m := args.length) ?_ L2.free ?_
        rotate_left
        · exact ⟨0, _, by omega, rfl, L2, rfl, by simp, by simp, by simp, by simp⟩
        rintro m fr s' f ⟨i, env, him, rfl, L, hk, h2, h3, h22, h23⟩
        have F2 := fields L 0 rfl
        have F1 := fields L 1 rfl
        by_cases hi : i < args.length
        · have hi' : (i : Int) < args.length := by omega
          have hi2 : i < args'.length := by omega
          obtain ⟨a, opa, kinda, sla, vka, bitsa, posa, attra, ha, hsa, hva, hla⟩ := arg_atH hH hA hi
          obtain ⟨b, opb, kindb, slb, vkb, bitsb, posb, attrb, hb, hsb, hvb, hlb⟩ := arg_atH hH hA' hi2
          rw [List.drop_eq_getElem_cons hi, List.drop_eq_getElem_cons hi2, alikeL] at hk
          simp -dsimp [h2, h3, h22, h23, hi', fieldAddrA, F1.f2, F2.f2, ha, hb, hla s' L.kept, hlb s' L.kept]
          refine Does.mono (ih args[i] (List.getElem_mem hi) args'[i] _ _ s' (hva.kept L.kept) (hvb.kept L.kept) (hc.at hi)) ?_
          rintro _ s4 f4 ⟨rfl, K4⟩
          cases hr : alikeT args[i] args'[i] with
          | true =>
            have w1 : wrapA .i64 ((i : Int) + 1) = (i : Int) + 1 := wrap_small (by omega) (by omega)
            rw [hr, if_pos rfl] at hk
            simp -dsimp [h23, w1]
            refine Goal.mk ⟨m - 1, by omega, i + 1, _, by omega, rfl, L.keep K4, hk, ?_, ?_, ?_, ?_⟩
            all_goals simp [h2, h3, h22]
          | false =>
            rw [hr, if_neg (by simp)] at hk
            simp -dsimp
            exact ⟨by rw [hT, ← hk]; rfl, (L.keep K4).kept⟩
        · have hi' : ¬ ((i : Int) < args.length) := by omega
          rw [List.drop_of_length_le (by omega), List.drop_of_length_le (by omega), alikeL] at hk
          · rw [← hk, if_pos rfl] at hT
            by_cases h40 : op = 40
            · subst h40
              simp -dsimp [h2, h3, h22, h23, hi', fieldAddrA, F1.f0, F1.f3, F2.f3, weql25]
              exact ⟨by rw [hT]; simp [leafB], L.kept⟩
            · have h40' : (op == 40) = false := by simp [h40]
              by_cases h0 : args.length = 0
              · have h0' : ((args.length : Int) == 0) = true := by simp [h0]
                cases hk1 : kind == kind' <;> cases hk2 : pos == pos' <;> cases hk3 : attr == attr'
                all_goals simp -dsimp [h2, h3, h22, h23, hi', fieldAddrA, F1.f0, h40', F1.f2, hA.len, h0', hk1, hk2, hk3, F1.f1, F2.f1, F1.f5, F2.f5, F1.f6, F2.f6]
                all_goals exact ⟨by rw [hT]; simp [leafB, h40, h0, hk1, hk2, hk3], L.kept⟩
              · have h0' : ((args.length : Int) == 0) = false := by rw [beq_eq_false_iff_ne]; omega
                simp -dsimp [h2, h3, h22, h23, hi', fieldAddrA, F1.f0, h40', F1.f2, hA.len, h0']
                exact ⟨by rw [hT]; simp [leafB, h40, h0], L.kept⟩
          · simp
      · have hlen' : ((args.length : Int) != args'.length) = true := by simp; omega
        have hT : alikeT (.mk op kind vk bits pos attr args) (.mk op kind' vk' bits' pos' attr' args') = false := by
          rw [alikeT, if_neg]; intro h; exact hlen h.2
        simp -dsimp [fieldAddrA, F1.f0, F2.f0, F1.f2, F2.f2, hA.len, hA'.len, hlen']
        exact ⟨hT, L2.kept⟩
    · have hop' : (op != op') = true := by simp [hop]
      have hT : alikeT (.mk op kind vk bits pos attr args) (.mk op' kind' vk' bits' pos' attr' args') = false := by
        rw [alikeT, if_neg]; intro h; exact hop h.1
      simp -dsimp [fieldAddrA, F1.f0, F2.f0, F1.f2, F2.f2, hA.len, hA'.len, hop']
      exact ⟨hT, L2.kept⟩
end Go.Proofs.YtgpfgcbolinncaaGreat.Abs
