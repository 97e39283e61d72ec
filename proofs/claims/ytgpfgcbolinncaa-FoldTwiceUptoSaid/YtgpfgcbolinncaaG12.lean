/- fold: logical, twice, decided, neutral. fold: decided, neutral. -/
import Derived.Test.YtgpfgcbolinncaaG11
set_option linter.unusedVariables false
set_option linter.unusedSimpArgs false
namespace Go.Proofs.Ytgpfgcbolinncaa.Abs
open Go Go.RowKit

theorem res_cell_cell {a b : Tmp} {t u : TypeId} {fr : Fr} {s : ST} {v w : Value} (h : loadA Try.prog t (envD fr.env a) s = some (v, s)) : resultsA Try.prog #[.cell a t, .tmp b] fr s = some (.tuple #[v, envD fr.env b], s) := by
  show AM.andThen (AM.andThen (loadA Try.prog t (envD fr.env a)) fun v => AM.andThen (AM.andThen (AM.ret []) fun vs => AM.ret (envD fr.env b :: vs)) fun vs => AM.ret (v :: vs)) (fun vs => AM.ret (oneOf vs)) s = _
  unfold AM.andThen
  rw [h]
  rfl
theorem storeTo23 (a b c : Int) : storeTo Try.prog 23 [.int .i64 a, .int .u64 b] 1 (.int .u64 c) = some [.int .i64 a, .int .u64 c] := by
  simp [storeTo, known, cellsL, cellOk, spliceL]
theorem fn20 : fnOf Try.prog 20 = some ((Try.f20.body.getD .skip), Try.f20.ntmps, Try.f20.results) := rfl
set_option maxHeartbeats 4000000 in
theorem logical_run {op kind vk bits pos attr : Int} {ts : List Tree} {sl : Value} {s : ST} (hlen : lenA Try.prog 22 sl = some (.int .i64 ts.length)) : Does Try.prog 20 #[nodeVal op kind sl vk bits pos attr] s (fun r s' => Kept s s' ∧ r = .ret (.tuple #[valV 2 (dec op), .bool (logB op ts)])) := by
  refine Does.pre fun hf => ?_
  refine Does.code known0 fn20 [] (by kernel_rfl) ?_
  dsimp only [Try.f20, Option.getD_some, undraw, noId, Nat.reduceBEq, cond_true, cond_false, frOf]
  have lgc := @logical_draw
  dsimp only [Try.f20, Option.getD_some, codeAt, opsOf] at lgc
  simp -dsimp [envOf]
  refine x_box (Loc.nil hf) (by rfl) fun n1 s1 L1 => ?_
  simp -dsimp
  refine x_alloc L1 zero25 fun n2 s2 L2 => ?_
  simp -dsimp [build25_1]
  refine x_alloc L2 zero25 fun n4 s3 L3 => ?_
  simp -dsimp
  refine x_store L3 0 rfl (storeTo25 _ rfl _ _) fun s4 L4 => ?_
  have F := fields L4 2 rfl
  simp -dsimp [fieldAddrA, F.f0]
  by_cases h14 : op = 14
  · subst h14
    simp -dsimp [fieldAddrA]
    refine x_store L4 0 rfl (storeTo23 _ _ _) fun s5 L5 => ?_
    simp -dsimp
    refine lgc (len := ts.length) _ _ _ rfl rfl rfl hlen L5 (by simp) (by simp) (by simp) ?_
    intro env' s' e2 e3 L6
    have l6 := (load25_of L6 1 rfl).1
    simp -dsimp [e2, e3, l6]
    exact ⟨L6.kept, by simp [dec, logB]⟩
  · have h14' : (op == 14) = false := by simp [h14]
    simp -dsimp [h14']
    refine lgc (len := ts.length) _ _ _ rfl rfl rfl hlen L4 (by simp) (by simp) (by simp) ?_
    intro env' s' e2 e3 L6
    have l6 := (load25_of L6 1 rfl).1
    simp -dsimp [e2, e3, l6]
    exact ⟨L6.kept, by simp [dec, logB, h14]⟩
/-- a heap that a state still knows -/
def Sub (H : Heap) (s : ST) : Prop := ∀ n, H.find n ≠ none → s.heap.find n = H.find n
theorem Sub.kept {H : Heap} {s s' : ST} (h : Sub H s) (k : Kept s s') : Sub H s' := fun n hn => by rw [k.find (by rw [h n hn]; exact hn), h n hn]
theorem arg_atH {H : Heap} {s : ST} (hH : Sub H s) {ts : List Tree} {sl : Value} (hA : ArgsV H ts sl) {i : Nat} (hi : i < ts.length) : ∃ a op kind sl2 vk bits pos attr, indexAddrA Try.prog 22 sl (.int .i64 i) = some a ∧ cellOk sl2 = true ∧
    NodeV H ts[i] (nodeVal op kind sl2 vk bits pos attr) ∧ ∀ s', Kept s s' → loadA Try.prog 27 a s' = some (nodeVal op kind sl2 vk bits pos attr, s') := by
  obtain ⟨a, v, ha, hv2, hl⟩ := hA.at_ i ts[i] (by simp [hi])
  obtain ⟨_, _, _, _, _, _, _, sl2, e2, rfl, hA2⟩ := hv2.open_
  exact ⟨a, _, _, sl2, _, _, _, _, ha, hA2.cell, hv2, fun s' K => hl s' (hH.kept K)⟩
/-- what a rule comes to -/
def RuleOk (f : FuncId) (rule : Tree → Option Tree) : Prop := ∀ H t v s, Sub H s → NodeV H t v → cnt t < 2 ^ 40 → Does Try.prog f #[.agg #[], v] s (fun r s' => Kept s s' ∧ ∃ v', r = .ret (.tuple #[v', .bool (rule t).isSome]) ∧ NodeV H ((rule t).getD t) v')
theorem fn16 : fnOf Try.prog 16 = some ((Try.f16.body.getD .skip), Try.f16.ntmps, Try.f16.results) := rfl
set_option maxHeartbeats 4000000 in
theorem twice_run : RuleOk 16 twice := by
  intro H t v s hH hv hc
  obtain ⟨op, kind, vk, bits, pos, attr, ts, sl, rfl, rfl, hA⟩ := hv.open_
  rw [cnt_eq] at hc
  have hlen := len_le_cnt ts
  refine Does.pre fun hf => ?_
  refine Does.code known0 fn16 [] (by kernel_rfl) ?_
  dsimp only [Try.f16, Option.getD_some, undraw, noId, Nat.reduceBEq, cond_true, cond_false, frOf]
  simp -dsimp [envOf]
  refine x_box (Loc.nil hf) (by rfl) fun n2 s1 L1 => ?_
  simp -dsimp
  refine x_box L1 (by rfl) fun n3 s2 L2 => ?_
  simp -dsimp
  refine x_alloc L2 zero27 fun n4 s3 L3 => ?_
  have F := fields L3 1 rfl
  simp -dsimp [fieldAddrA, F.f0, F.f2, hA.len]
  by_cases h15 : op = 15
  rotate_left
  · have h15' : (op != 15) = true := by simp [h15]
    have hn : twice (.mk op kind vk bits pos attr ts) = none := by
      simp only [twice]
      split
      · rw [if_neg (by simp [h15])]
      · rfl
    simp -dsimp [h15', F.all]
    refine x_store L3 0 rfl (storeTo27 _ rfl _ _ hA.cell _ _ _ _) fun s4 L4 => ?_
    simp -dsimp [(fields L4 0 rfl).all]
    exact ⟨L4.kept, _, ⟨rfl, by simp [hn]⟩, by rw [hn]; exact hv⟩
  subst h15
  by_cases h1 : ts.length = 1
  rotate_left
  · have h1' : ((ts.length : Int) != 1) = true := by simp; omega
    have hn : twice (.mk 15 kind vk bits pos attr ts) = none := by
      simp only [twice]
      split
      · simp at h1
      · rfl
    simp -dsimp [h1', F.all, fieldAddrA, F.f2, hA.len]
    refine x_store L3 0 rfl (storeTo27 _ rfl _ _ hA.cell _ _ _ _) fun s4 L4 => ?_
    simp -dsimp [(fields L4 0 rfl).all]
    exact ⟨L4.kept, _, ⟨rfl, by simp [hn]⟩, by rw [hn]; exact hv⟩
  obtain ⟨a, rfl⟩ : ∃ a, ts = [a] := by
    match ts, h1 with
    | [a], _ => exact ⟨a, rfl⟩
  obtain ⟨ad, op1, kind1, sl1, vk1, bits1, pos1, attr1, ha, hs1, hv1, hl⟩ := arg_atH hH hA (i := 0) (by simp)
  simp only [Int.ofNat_zero, List.getElem_cons_zero] at ha hv1
  simp -dsimp [ha, hl _ L3.kept, fieldAddrA, F.f2, hA.len]
  refine x_alloc L3 zero27 fun n6 s4 L4 => ?_
  simp -dsimp
  refine x_store L4 0 rfl (storeTo27 _ rfl _ _ hs1 _ _ _ _) fun s5 L5 => ?_
  have F6 := fields L5 0 rfl
  have F3 := fields L5 2 rfl
  obtain ⟨_, _, _, _, _, _, ts1, _, rfl, e2, hA1⟩ := hv1.open_
  cases e2
  simp -dsimp [fieldAddrA, F6.f0, F6.f2, hA1.len]
  by_cases h15 : op1 = 15
  rotate_left
  · have h15' : (op1 != 15) = true := by simp [h15]
    have hn : twice (.mk 15 kind vk bits pos attr [.mk op1 kind1 vk1 bits1 pos1 attr1 ts1]) = none := by simp [twice, Tree.op, h15]
    simp -dsimp [h15', F3.all]
    refine x_store L5 1 rfl (storeTo27 _ rfl _ _ hA.cell _ _ _ _) fun s6 L6 => ?_
    simp -dsimp [(fields L6 1 rfl).all]
    exact ⟨L6.kept, _, ⟨rfl, by simp [hn]⟩, by rw [hn]; exact hv⟩
  subst h15
  by_cases h1 : ts1.length = 1
  rotate_left
  · have h1' : ((ts1.length : Int) != 1) = true := by simp; omega
    have hn : twice (.mk 15 kind vk bits pos attr [.mk 15 kind1 vk1 bits1 pos1 attr1 ts1]) = none := by
      simp only [twice, Tree.op, Tree.args, and_self, if_true]
      split
      · simp at h1
      · rfl
    simp -dsimp [h1', F3.all, fieldAddrA, F6.f2, hA1.len]
    refine x_store L5 1 rfl (storeTo27 _ rfl _ _ hA.cell _ _ _ _) fun s6 L6 => ?_
    simp -dsimp [(fields L6 1 rfl).all]
    exact ⟨L6.kept, _, ⟨rfl, by simp [hn]⟩, by rw [hn]; exact hv⟩
  obtain ⟨y, rfl⟩ : ∃ y, ts1 = [y] := by
    match ts1, h1 with
    | [y], _ => exact ⟨y, rfl⟩
  obtain ⟨ad2, op2, kind2, sl2, vk2, bits2, pos2, attr2, ha2, hs2, hv2, hl2⟩ := arg_atH hH hA1 (i := 0) (by simp)
  simp only [Int.ofNat_zero, List.getElem_cons_zero] at ha2 hv2
  have hn : twice (.mk 15 kind vk bits pos attr [.mk 15 kind1 vk1 bits1 pos1 attr1 [y]]) = some y := by simp [twice, Tree.op, Tree.args]
  simp -dsimp [ha2, hl2 _ L5.kept, fieldAddrA, F6.f2, hA1.len]
  refine x_store L5 1 rfl (storeTo27 _ rfl _ _ hs2 _ _ _ _) fun s6 L6 => ?_
  simp -dsimp [(fields L6 1 rfl).all]
  exact ⟨L6.kept, _, ⟨rfl, by simp [hn]⟩, by rw [hn]; exact hv2⟩
end Go.Proofs.Ytgpfgcbolinncaa.Abs
set_option linter.unusedVariables false
set_option linter.unusedSimpArgs false
namespace Go.Proofs.Ytgpfgcbolinncaa.Abs
open Go Go.RowKit

theorem bool_not_of {b : Bool} (h : ¬ b = true) : b = false := by simpa using h
theorem fn14 : fnOf Try.prog 14 = some ((Try.f14.body.getD .skip), Try.f14.ntmps, Try.f14.results) := rfl
set_option maxHeartbeats 4000000 in
theorem decided_run : RuleOk 14 decided := by
  intro H t v s hH hv hc
  obtain ⟨op, kind, vk, bits, pos, attr, ts, sl, rfl, rfl, hA⟩ := hv.open_
  rw [cnt_eq] at hc
  have hlen := len_le_cnt ts
  refine Does.pre fun hf => ?_
  refine Does.code known0 fn14 [] (by kernel_rfl) ?_
  dsimp only [Try.f14, Option.getD_some, undraw, noId, Nat.reduceBEq, cond_true, cond_false, frOf]
  simp -dsimp [envOf]
  refine x_box (Loc.nil hf) (by rfl) fun n2 s1 L1 => ?_
  simp -dsimp
  refine x_box L1 (by rfl) fun n3 s2 L2 => ?_
  simp -dsimp
  refine x_alloc L2 zero27 fun n4 s3 L3 => ?_
  have F := fields L3 1 rfl
  simp -dsimp [F.all]
  refine Does.mono (logical_run hA.len) ?_
  rintro _ s4 f4 ⟨K4, rfl⟩
  simp -dsimp [extractA]
  refine x_alloc (L3.keep K4) zero25 fun n6 s5 L5 => ?_
  simp -dsimp
  refine x_store L5 0 rfl (storeTo25 _ rfl _ _) fun s6 L6 => ?_
  have F6 := fields L6 2 rfl
  by_cases hl : logB op ts = true
  rotate_left
  · have hl' := bool_not_of hl
    have hn : decided (.mk op kind vk bits pos attr ts) = none := by simp [decided, hl']
    simp -dsimp [hl', F6.all]
    refine x_store L6 1 rfl (storeTo27 _ rfl _ _ hA.cell _ _ _ _) fun s9 L9 => ?_
    simp -dsimp [(fields L9 1 rfl).all]
    exact ⟨L9.kept, _, ⟨rfl, by simp [hn]⟩, by rw [hn]; exact hv⟩
  simp -dsimp [hl, fieldAddrA, F6.f2, hA.len]
  refine w_for (fun m fr s' => ∃ i env, i + m = ts.length ∧ fr = ⟨40, env, []⟩ ∧ (∀ j t, j < i → ts[j]? = some t → isC (dec op) t = false) ∧ Loc s s' [.obj n6 (.cells [.int .i64 2, .int .u64 (dec op)] 25), .obj n4 (.cells z27 27), .obj n3 (.cells (nodeCells op kind sl vk bits pos attr) 27), .obj n2 (.cells [] 36)] ∧
      env.get 3 = some (.pointer (some ⟨n3, 0, none⟩)) ∧ env.get 4 = some (.pointer (some ⟨n4, 0, none⟩)) ∧ env.get 6 = some (.pointer (some ⟨n6, 0, none⟩)) ∧ env.get 19 = some sl ∧ env.get 20 = some (.int .i64 ts.length) ∧ env.get 21 = some (.int .i64 i)) (m := ts.length) ?_ L6.free ?_
  rotate_left
  · exact ⟨0, _, by omega, rfl, fun j t h => by omega, L6, by simp, by simp, by simp, by simp, by simp, by simp⟩
  rintro m fr s' f ⟨i, env, him, rfl, hno, LL, h3, h4, h6, h19, h20, h21⟩
  by_cases hi : i < ts.length
  · have hi' : (i : Int) < ts.length := by omega
    obtain ⟨ad, op1, kind1, sl1, vk1, bits1, pos1, attr1, ha, hs1, hv1, hl1⟩ := arg_atH hH hA hi
    simp -dsimp [h19, h20, h21, hi', ha, hl1 _ LL.kept]
    refine x_alloc LL zero27 fun n9 s7 L7 => ?_
    simp -dsimp
    refine x_store L7 0 rfl (storeTo27 _ rfl _ _ hs1 _ _ _ _) fun s8 L8 => ?_
    have F9 := fields L8 0 rfl
    have F3 := fields L8 3 rfl
    have l6 := (load25_of L8 1 rfl).1
    have hT : isC (dec op) ts[i] = (op1 == 40 && (vk1 == 2 && bits1 == dec op)) := by
      obtain ⟨_, _, _, _, _, _, _, _, e1, e2, _⟩ := hv1.open_
      rw [e1]
      injection e2 with e2
      simp at e2
      obtain ⟨rfl, rfl, rfl, rfl, rfl, rfl, rfl⟩ := e2
      rfl
    have w1 : wrapA .i64 ((i : Int) + 1) = (i : Int) + 1 := wrap_small (by omega) (by omega)
    have next : isC (dec op) ts[i] = false → ∀ j t, j < i + 1 → ts[j]? = some t → isC (dec op) t = false := by
      intro h j t hj ht
      by_cases hji : j < i
      · exact hno j t hji ht
      · have : j = i := by omega
        subst this
        rw [List.getElem?_eq_getElem hi] at ht
        simp only [Option.some.injEq] at ht
        subst ht
        exact h
    simp -dsimp [fieldAddrA, F9.f0]
    by_cases h40 : op1 = 40
    · subst h40
      simp -dsimp [F9.f3, h6, l6, weql25, fieldAddrA]
      by_cases he : (vk1 == 2 && bits1 == dec op) = true
      · have hd : decided (.mk op kind vk bits pos attr ts) = some (.mk 40 kind 2 (dec op) 0 0 []) := by
          simp only [decided]
          rw [if_pos]
          refine ⟨hl, List.any_eq_true.2 ⟨ts[i], List.getElem_mem hi, ?_⟩⟩
          rw [hT, he]; rfl
        simp -dsimp [he, h3, h6, F3.f1, l6, fieldAddrA]
        refine Does.mono (constant_run _ _ _ _) ?_
        rintro _ s9 f9 ⟨K9, rfl⟩
        simp -dsimp [h4]
        refine x_store (L8.keep K9) 2 rfl (storeTo27 _ rfl _ _ rfl _ _ _ _) fun s10 L10 => ?_
        simp -dsimp [h4, (fields L10 2 rfl).all]
        exact ⟨L10.kept, _, ⟨rfl, by simp [hd]⟩, by rw [hd]; exact node_leaf _ _ _ _ _ _ _⟩
      · have he' := bool_not_of he
        simp -dsimp [he', h21, w1]
        refine Goal.mk ⟨m - 1, by omega, i + 1, _, by omega, rfl, next (by rw [hT, he']; rfl), L8.sub (by simp), ?_, ?_, ?_, ?_, ?_, ?_⟩
        all_goals simp [h3, h4, h6, h19, h20]
    · have h40' : (op1 == 40) = false := by simp [h40]
      simp -dsimp [h40', h21, w1]
      refine Goal.mk ⟨m - 1, by omega, i + 1, _, by omega, rfl, next (by rw [hT, h40']; rfl), L8.sub (by simp), ?_, ?_, ?_, ?_, ?_, ?_⟩
      all_goals simp [h3, h4, h6, h19, h20]
  · have hi' : ¬ ((i : Int) < ts.length) := by omega
    have hn : decided (.mk op kind vk bits pos attr ts) = none := by
      simp only [decided]
      rw [if_neg]
      rintro ⟨_, h⟩
      obtain ⟨t, ht, hc⟩ := List.any_eq_true.1 h
      obtain ⟨j, hj, rfl⟩ := List.getElem_of_mem ht
      have := hno j ts[j] (by omega) (by simp)
      rw [this] at hc; cases hc
    have F3 := fields LL 2 rfl
    simp -dsimp [h20, h21, hi', h3, h4, F3.all]
    refine x_store LL 1 rfl (storeTo27 _ rfl _ _ hA.cell _ _ _ _) fun s9 L9 => ?_
    simp -dsimp [h4, (fields L9 1 rfl).all]
    exact ⟨L9.kept, _, ⟨rfl, by simp [hn]⟩, by rw [hn]; exact hv⟩
theorem fn15 : fnOf Try.prog 15 = some ((Try.f15.body.getD .skip), Try.f15.ntmps, Try.f15.results) := rfl
set_option maxHeartbeats 8000000 in
theorem neutral_run : RuleOk 15 neutral := by
  intro H t v s hH hv hc
  obtain ⟨op, kind, vk, bits, pos, attr, ts, sl, rfl, rfl, hA⟩ := hv.open_
  rw [cnt_eq] at hc
  have hlen := len_le_cnt ts
  refine Does.pre fun hf => ?_
  refine Does.code known0 fn15 [] (by kernel_rfl) ?_
  dsimp only [Try.f15, Option.getD_some, undraw, noId, Nat.reduceBEq, cond_true, cond_false, frOf]
  simp -dsimp [envOf]
  refine x_box (Loc.nil hf) (by rfl) fun n2 s1 L1 => ?_
  simp -dsimp
  refine x_box L1 (by rfl) fun n3 s2 L2 => ?_
  simp -dsimp
  refine x_alloc L2 zero27 fun n4 s3 L3 => ?_
  have F := fields L3 1 rfl
  simp -dsimp [F.all]
  refine Does.mono (logical_run hA.len) ?_
  rintro _ s4 f4 ⟨K4, rfl⟩
  simp -dsimp [extractA]
  refine x_alloc (L3.keep K4) zero25 fun n6 s5 L5 => ?_
  simp -dsimp
  refine x_store L5 0 rfl (storeTo25 _ rfl _ _) fun s6 L6 => ?_
  have F6 := fields L6 2 rfl
  by_cases hl : logB op ts = true
  rotate_left
  · have hl' := bool_not_of hl
    have hn : neutral (.mk op kind vk bits pos attr ts) = none := by simp [neutral, hl']
    simp -dsimp [hl', F6.all]
    refine x_store L6 1 rfl (storeTo27 _ rfl _ _ hA.cell _ _ _ _) fun s9 L9 => ?_
    simp -dsimp [(fields L9 1 rfl).all]
    exact ⟨L9.kept, _, ⟨rfl, by simp [hn]⟩, by rw [hn]; exact hv⟩
  have h2 : ts.length = 2 := by
    simp only [logB, Bool.and_eq_true, beq_iff_eq] at hl
    omega
  obtain ⟨x, y, rfl⟩ : ∃ x y, ts = [x, y] := by
    match ts, h2 with
    | [x, y], _ => exact ⟨x, y, rfl⟩
  have hw : wrapA .u64 (1 - dec op) = 1 - dec op := by
    unfold dec
    split <;> decide
  simp -dsimp [hl, fieldAddrA, (load25_of L6 0 rfl).2.2, hw]
  refine x_store L6 0 rfl (storeTo23 _ _ _) fun s7 L7 => ?_
  have F7 := fields L7 2 rfl
  simp -dsimp [fieldAddrA, F7.f2, hA.len]
  refine w_for (fun m fr s' => ∃ i env, i + m = 2 ∧ fr = ⟨47, env, []⟩ ∧ (∀ j t, j < i → [x, y][j]? = some t → isC (1 - dec op) t = false) ∧ Loc s s' [.obj n6 (.cells [.int .i64 2, .int .u64 (1 - dec op)] 25), .obj n4 (.cells z27 27), .obj n3 (.cells (nodeCells op kind sl vk bits pos attr) 27), .obj n2 (.cells [] 36)] ∧
      env.get 3 = some (.pointer (some ⟨n3, 0, none⟩)) ∧ env.get 4 = some (.pointer (some ⟨n4, 0, none⟩)) ∧ env.get 6 = some (.pointer (some ⟨n6, 0, none⟩)) ∧ env.get 23 = some sl ∧ env.get 24 = some (.int .i64 2) ∧ env.get 25 = some (.int .i64 i)) (m := 2) ?_ L7.free ?_
  rotate_left
  · exact ⟨0, _, by omega, rfl, fun j t h => by omega, L7, by simp, by simp, by simp, by simp, by simp, by simp⟩
  rintro m fr s' f ⟨i, env, him, rfl, hno, LL, h3, h4, h6, h23, h24, h25⟩
  by_cases hi : i < 2
  · have hi' : (i : Int) < 2 := by omega
    obtain ⟨ad, op1, kind1, sl1, vk1, bits1, pos1, attr1, ha, hs1, hv1, hl1⟩ := arg_atH hH hA (i := i) (by simpa using hi)
    obtain ⟨ad2, op2, kind2, sl2, vk2, bits2, pos2, attr2, ha2, hs2, hv2, hl2⟩ := arg_atH hH hA (i := 1 - i) (by simp; omega)
    have hsub : ((1 - i : Nat) : Int) = 1 - (i : Int) := by omega
    rw [hsub] at ha2
    have w2 : wrapA .i64 (1 - (i : Int)) = 1 - (i : Int) := wrap_small (by omega) (by omega)
    simp -dsimp [h23, h24, h25, hi', ha, hl1 _ LL.kept]
    refine x_alloc LL zero27 fun n9 s8 L8 => ?_
    simp -dsimp
    refine x_store L8 0 rfl (storeTo27 _ rfl _ _ hs1 _ _ _ _) fun s9 L9 => ?_
    have F9 := fields L9 0 rfl
    have F3 := fields L9 3 rfl
    have l6 := (load25_of L9 1 rfl).1
    have hT : isC (1 - dec op) ([x, y][i]'(by simpa using hi)) = (op1 == 40 && (vk1 == 2 && bits1 == 1 - dec op)) := by
      obtain ⟨_, _, _, _, _, _, _, _, e1, e2, _⟩ := hv1.open_
      rw [e1]
      injection e2 with e2
      simp at e2
      obtain ⟨rfl, rfl, rfl, rfl, rfl, rfl, rfl⟩ := e2
      rfl
    have w1 : wrapA .i64 ((i : Int) + 1) = (i : Int) + 1 := wrap_small (by omega) (by omega)
    have next : isC (1 - dec op) ([x, y][i]'(by simpa using hi)) = false → ∀ j t, j < i + 1 → [x, y][j]? = some t → isC (1 - dec op) t = false := by
      intro h j t hj ht
      by_cases hji : j < i
      · exact hno j t hji ht
      · have : j = i := by omega
        subst this
        rw [List.getElem?_eq_getElem (by simpa using hi)] at ht
        simp only [Option.some.injEq] at ht
        subst ht
        exact h
    simp -dsimp [fieldAddrA, F9.f0]
    by_cases h40 : op1 = 40
    · subst h40
      simp -dsimp [F9.f3, h6, l6, weql25, fieldAddrA]
      by_cases he : (vk1 == 2 && bits1 == 1 - dec op) = true
      · have hd : neutral (.mk op kind vk bits pos attr [x, y]) = some ([x, y][1 - i]'(by simp; omega)) := by
          rw [he] at hT
          simp only [neutral, hl, if_true]
          have hcase : i = 0 ∨ i = 1 := by omega
          rcases hcase with rfl | rfl
          · rw [if_pos (by simpa using hT)]; rfl
          · have h0 := hno 0 x (by omega) rfl
            rw [if_neg (by rw [h0]; simp), if_pos (by simpa using hT)]; rfl
        simp -dsimp [he, h3, h25, w2, F3.f2, ha2, hl2 _ L9.kept, fieldAddrA, h4]
        refine x_store L9 2 rfl (storeTo27 _ rfl _ _ hs2 _ _ _ _) fun s10 L10 => ?_
        simp -dsimp [h4, (fields L10 2 rfl).all]
        exact ⟨L10.kept, _, ⟨rfl, by simp [hd]⟩, by rw [hd]; exact hv2⟩
      · have he' := bool_not_of he
        simp -dsimp [he', h25, w1]
        refine Goal.mk ⟨m - 1, by omega, i + 1, _, by omega, rfl, next (by rw [hT, he']; rfl), L9.sub (by simp), ?_, ?_, ?_, ?_, ?_, ?_⟩
        all_goals simp [h3, h4, h6, h23, h24]
    · have h40' : (op1 == 40) = false := by simp [h40]
      simp -dsimp [h40', h25, w1]
      refine Goal.mk ⟨m - 1, by omega, i + 1, _, by omega, rfl, next (by rw [hT, h40']; rfl), L9.sub (by simp), ?_, ?_, ?_, ?_, ?_, ?_⟩
      all_goals simp [h3, h4, h6, h23, h24]
  · have hi' : ¬ ((i : Int) < 2) := by omega
    have hn : neutral (.mk op kind vk bits pos attr [x, y]) = none := by
      have h0 := hno 0 x (by omega) rfl
      have h1 := hno 1 y (by omega) rfl
      simp [neutral, h0, h1]
    have F3 := fields LL 2 rfl
    simp -dsimp [h24, h25, hi', h3, h4, F3.all]
    refine x_store LL 1 rfl (storeTo27 _ rfl _ _ hA.cell _ _ _ _) fun s9 L9 => ?_
    simp -dsimp [h4, (fields L9 1 rfl).all]
    exact ⟨L9.kept, _, ⟨rfl, by simp [hn]⟩, by rw [hn]; exact hv⟩
end Go.Proofs.Ytgpfgcbolinncaa.Abs
