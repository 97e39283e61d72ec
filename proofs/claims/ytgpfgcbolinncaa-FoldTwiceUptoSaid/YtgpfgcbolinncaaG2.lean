/- fold.Last, fold.Asks, fold.Same. -/
import Derived.Test.YtgpfgcbolinncaaG0
import Derived.Test.YtgpfgcbolinncaaM4
set_option linter.unusedVariables false
set_option linter.unusedSimpArgs false
namespace Go.Proofs.Ytgpfgcbolinncaa.Abs
open Go Go.RowKit

def valV (a b : Int) : Value := .agg #[.int .i64 a, .int .u64 b]
structure Fields (s : ST) (n : Nat) (op kind : Int) (sl : Value) (vk bits pos attr : Int) : Prop where
  f0 : loadA Try.prog 3 (.pointer (some ⟨n, 0, none⟩)) s = some (.int .i64 op, s)
  f1 : loadA Try.prog 3 (.pointer (some ⟨n, 1, none⟩)) s = some (.int .i64 kind, s)
  f2 : loadA Try.prog 22 (.pointer (some ⟨n, 2, none⟩)) s = some (sl, s)
  f3 : loadA Try.prog 25 (.pointer (some ⟨n, 3, none⟩)) s = some (valV vk bits, s)
  f5 : loadA Try.prog 3 (.pointer (some ⟨n, 5, none⟩)) s = some (.int .i64 pos, s)
  f6 : loadA Try.prog 3 (.pointer (some ⟨n, 6, none⟩)) s = some (.int .i64 attr, s)
  all : loadA Try.prog 27 (.pointer (some ⟨n, 0, none⟩)) s = some (nodeVal op kind sl vk bits pos attr, s)
theorem fields {s0 s : ST} {l : List LE} (L : Loc s0 s l) (i : Nat) {n : Nat} {e : TypeId} {op kind vk bits pos attr : Int} {sl : Value} (hi : l[i]? = some (.obj n (.cells (nodeCells op kind sl vk bits pos attr) e))) : Fields s n op kind sl vk bits pos attr :=
  ⟨load_obj L i hi (by simp [loadFrom, nodeCells]), load_obj L i hi (by simp [loadFrom, nodeCells]), load_obj L i hi (by simp [loadFrom, nodeCells]), load_obj L i hi (by simp [loadFrom, nodeCells, valV]),
    load_obj L i hi (by simp [loadFrom, nodeCells]), load_obj L i hi (by simp [loadFrom, nodeCells]), load27_of L i hi⟩
/-- a node's operand, from a state on -/
theorem arg_at {s : ST} {ts : List Tree} {sl : Value} (hA : ArgsV s.heap ts sl) {i : Nat} (hi : i < ts.length) : ∃ a op kind sl2 vk bits pos attr, indexAddrA Try.prog 22 sl (.int .i64 i) = some a ∧ cellOk sl2 = true ∧
    NodeV s.heap ts[i] (nodeVal op kind sl2 vk bits pos attr) ∧ ∀ s', Kept s s' → loadA Try.prog 27 a s' = some (nodeVal op kind sl2 vk bits pos attr, s') := by
  obtain ⟨a, v, ha, hv2, hl⟩ := hA.at_ i ts[i] (by simp [hi])
  obtain ⟨_, _, _, _, _, _, _, sl2, e2, rfl, hA2⟩ := hv2.open_
  exact ⟨a, _, _, sl2, _, _, _, _, ha, hA2.cell, hv2, fun s' K => hl s' fun n hn => K.find hn⟩

/-! ### Last -/
def lastStart (op pos : Int) : Int := if op = 42 ∨ 25 ≤ op ∧ op ≤ 31 then (if pos > -1 then pos else -1) else -1
mutual
def lastT : Tree → Int
  | .mk op _ _ _ pos _ args => lastL (lastStart op pos) args
def lastL : Int → List Tree → Int
  | k, [] => k
  | k, a :: r => lastL (if lastT a > k then lastT a else k) r
end
theorem fn8 : fnOf Try.prog 8 = some ((Try.f8.body.getD .skip), Try.f8.ntmps, Try.f8.results) := rfl
theorem max_two (a b : Int) : maxA [.int .i64 a, .int .i64 b] = some (.int .i64 (if b > a then b else a)) := rfl
set_option maxHeartbeats 1000000 in
theorem last_loop {args : List Tree} (ih : ∀ t ∈ args, ∀ v s, NodeV s.heap t v → cnt t < 2 ^ 62 → Does Try.prog 8 #[v] s (fun r s' => r = .ret (.int .i64 (lastT t)) ∧ Kept s s')) {s0 s1 : ST} {sl : Value} (hA : ArgsV s0.heap args sl) (K1 : Kept s0 s1)
    (hc : (args.map cnt).sum < 2 ^ 62) {k : Int} {env : Trie Value} (h3 : env.get 3 = some (.int .i64 k)) (h24 : env.get 24 = some sl) (h25 : env.get 25 = some (.int .i64 args.length)) (h26 : env.get 26 = some (.int .i64 0)) :
    wCode Try.prog (codeAt [true, true, true, false, true, false] (Try.f8.body.getD .skip)) ⟨36, env, []⟩ s1 (fun e f s' => e = .exit 0 ∧ ∃ env', f = ⟨36, env', []⟩ ∧ Kept s0 s' ∧ env'.get 3 = some (.int .i64 (lastL k args))) := by
  dsimp only [Try.f8, Option.getD_some, codeAt]
  refine w_for (fun m fr s' => ∃ i env k', i + m = args.length ∧ fr = ⟨36, env, []⟩ ∧ Kept s0 s' ∧ env.get 3 = some (.int .i64 k') ∧ lastL k' (args.drop i) = lastL k args ∧ env.get 24 = some sl ∧ env.get 25 = some (.int .i64 args.length) ∧ env.get 26 = some (.int .i64 i)) (m := args.length) ?_ K1.free
    ⟨0, env, k, by omega, rfl, K1, h3, rfl, h24, h25, h26⟩
  rintro m fr s' f ⟨i, env, k', him, rfl, K, h3, hk, h24, h25, h26⟩
  have hlen := len_le_cnt args
  by_cases hi : i < args.length
  · have hi' : (i : Int) < args.length := by omega
    obtain ⟨a, op, kind, sl2, vk, bits, pos, attr, ha, hs2, hv2, hl⟩ := arg_at hA hi
    simp -dsimp [h24, h25, h26, hi', ha, hl s' K]
    refine x_alloc (Loc.nil K.free) zero27 fun n2 s2 L2 => ?_
    simp -dsimp
    refine x_store L2 0 rfl (storeTo27 _ rfl _ _ hs2 _ _ _ _) fun s3 L3 => ?_
    simp -dsimp [h3, (fields L3 0 rfl).all]
    refine Does.mono (ih args[i] (List.getElem_mem hi) _ s3 (hv2.kept (K.trans L3.kept)) (by have := cnt_mem (List.getElem_mem hi); omega)) ?_
    rintro _ s4 f4 ⟨rfl, K4⟩
    have w1 : wrapA .i64 ((i : Int) + 1) = (i : Int) + 1 := wrap_small (by omega) (by omega)
    simp -dsimp [h26, w1, max_two]
    refine Goal.mk ⟨m - 1, by omega, i + 1, _, if lastT args[i] > k' then lastT args[i] else k', by omega, rfl, K.trans (L3.kept.trans K4), ?_, ?_, ?_, ?_, ?_⟩
    · simp
    · rw [← hk, List.drop_eq_getElem_cons hi, lastL]
    all_goals simp [h24, h25]
  · have hi' : ¬ ((i : Int) < args.length) := by omega
    simp -dsimp [h25, h26, hi']
    exact ⟨by simpa using K, by rw [← hk, List.drop_of_length_le (by omega)]; simpa [lastL] using h3⟩
set_option maxHeartbeats 1000000 in
theorem last_run (t : Tree) : ∀ v s, NodeV s.heap t v → cnt t < 2 ^ 62 → Does Try.prog 8 #[v] s (fun r s' => r = .ret (.int .i64 (lastT t)) ∧ Kept s s') := by
  induction t using Tree.ind with
  | h op kind vk bits pos attr args ih =>
    intro v s hv hc
    refine Does.pre fun hf => ?_
    obtain ⟨_, _, _, _, _, _, _, sl, e, rfl, hA⟩ := hv.open_
    cases e
    rw [cnt_eq] at hc
    refine Does.code known0 fn8 [] (by kernel_rfl) ?_
    dsimp only [Try.f8, Option.getD_some, undraw, noId, cond_true, cond_false, frOf]
    simp -dsimp [envOf]
    refine x_box (Loc.nil hf) (by rfl) fun n1 s1 L1 => ?_
    have F1 := fields L1 0 rfl
    have fin : ∀ {k : Int} {env : Trie Value}, k = lastStart op pos → env.get 3 = some (.int .i64 k) → env.get 24 = some sl → env.get 25 = some (.int .i64 args.length) → env.get 26 = some (.int .i64 0) → _ := fun hk h3 h24 h25 h26 => last_loop ih hA L1.kept (by omega) h3 h24 h25 h26
    dsimp only [Try.f8, Option.getD_some, codeAt] at fin
    have hT : lastT (.mk op kind vk bits pos attr args) = lastL (lastStart op pos) args := by rw [lastT]
    by_cases h42 : op = 42
    · subst h42
      simp -dsimp [fieldAddrA, F1.f0, F1.f5, F1.f2, max_two, hA.len]
      refine w_mono L1.free (fin (k := if -1 < pos then pos else -1) (by simp [lastStart]) (by simp) (by simp) (by simp) (by simp)) ?_
      rintro _ _ s' f' ⟨rfl, env', rfl, K, h3⟩
      simp -dsimp [h3, hT, K, lastStart]
    · have h42' : (op == 42) = false := by simp [h42]
      by_cases h25 : 25 ≤ op
      · by_cases h31 : op ≤ 31
        · simp -dsimp [fieldAddrA, F1.f0, F1.f5, F1.f2, max_two, hA.len, h42', h25, h31]
          refine w_mono L1.free (fin (k := if -1 < pos then pos else -1) (by simp [lastStart, h25, h31]) (by simp) (by simp) (by simp) (by simp)) ?_
          rintro _ _ s' f' ⟨rfl, env', rfl, K, h3⟩
          simp -dsimp [h3, hT, K, lastStart, h25, h31]
        · simp -dsimp [fieldAddrA, F1.f0, F1.f5, F1.f2, max_two, hA.len, h42', h25, h31]
          refine w_mono L1.free (fin (k := -1) (by simp [lastStart, h42, h31]) (by simp) (by simp) (by simp) (by simp)) ?_
          rintro _ _ s' f' ⟨rfl, env', rfl, K, h3⟩
          simp -dsimp [h3, hT, K, lastStart, h42, h31]
      · simp -dsimp [fieldAddrA, F1.f0, F1.f5, F1.f2, max_two, hA.len, h42', h25]
        refine w_mono L1.free (fin (k := -1) (by simp [lastStart, h42, h25]) (by simp) (by simp) (by simp) (by simp)) ?_
        rintro _ _ s' f' ⟨rfl, env', rfl, K, h3⟩
        simp -dsimp [h3, hT, K, lastStart, h42, h25]
/-! ### Asks -/
mutual
def asksT : Tree → Bool
  | .mk op _ _ _ _ _ args => if op = 41 then true else asksL args
def asksL : List Tree → Bool
  | [] => false
  | a :: r => if asksT a = true then true else asksL r
end
theorem fn9 : fnOf Try.prog 9 = some ((Try.f9.body.getD .skip), Try.f9.ntmps, Try.f9.results) := rfl
set_option maxHeartbeats 1000000 in
theorem asks_run (t : Tree) : ∀ v s, NodeV s.heap t v → cnt t < 2 ^ 62 → Does Try.prog 9 #[v] s (fun r s' => r = .ret (.bool (asksT t)) ∧ Kept s s') := by
  induction t using Tree.ind with
  | h op kind vk bits pos attr args ih =>
    intro v s hv hc
    refine Does.pre fun hf => ?_
    obtain ⟨_, _, _, _, _, _, _, sl, e, rfl, hA⟩ := hv.open_
    cases e
    rw [cnt_eq] at hc
    refine Does.code known0 fn9 [] (by kernel_rfl) ?_
    dsimp only [Try.f9, Option.getD_some, undraw, noId, cond_true, cond_false, frOf]
    simp -dsimp [envOf]
    refine x_box (Loc.nil hf) (by rfl) fun n1 s1 L1 => ?_
    have F1 := fields L1 0 rfl
    by_cases h41 : op = 41
    · subst h41
      simp -dsimp [fieldAddrA, F1.f0]
      exact ⟨by rw [asksT, if_pos rfl], L1.kept⟩
    have h41' : (op == 41) = false := by simp [h41]
    have hT : asksT (.mk op kind vk bits pos attr args) = asksL args := by rw [asksT, if_neg h41]
    simp -dsimp [fieldAddrA, F1.f0, F1.f2, h41', hA.len]
    refine w_for (fun m fr s' => ∃ i env, i + m = args.length ∧ fr = ⟨18, env, []⟩ ∧ Kept s s' ∧ asksL (args.drop i) = asksL args ∧ env.get 9 = some sl ∧ env.get 10 = some (.int .i64 args.length) ∧ env.get 11 = some (.int .i64 i)) (m := args.length) ?_ L1.free
      ?_
    rotate_left
    · exact ⟨0, _, by omega, rfl, L1.kept, rfl, by simp, by simp, by simp⟩
    rintro m fr s' f ⟨i, env, him, rfl, K, hk, h9, h10, h11⟩
    have hlen := len_le_cnt args
    by_cases hi : i < args.length
    · have hi' : (i : Int) < args.length := by omega
      obtain ⟨a, op, kind, sl2, vk, bits, pos, attr, ha, hs2, hv2, hl⟩ := arg_at hA hi
      simp -dsimp [h9, h10, h11, hi', ha, hl s' K]
      refine x_alloc (Loc.nil K.free) zero27 fun n2 s2 L2 => ?_
      simp -dsimp
      refine x_store L2 0 rfl (storeTo27 _ rfl _ _ hs2 _ _ _ _) fun s3 L3 => ?_
      simp -dsimp [(fields L3 0 rfl).all]
      refine Does.mono (ih args[i] (List.getElem_mem hi) _ s3 (hv2.kept (K.trans L3.kept)) (by have := cnt_mem (List.getElem_mem hi); omega)) ?_
      rintro _ s4 f4 ⟨rfl, K4⟩
      have w1 : wrapA .i64 ((i : Int) + 1) = (i : Int) + 1 := wrap_small (by omega) (by omega)
      rw [List.drop_eq_getElem_cons hi, asksL] at hk
      cases hb : asksT args[i] with
      | true =>
        rw [hb, if_pos rfl] at hk
        simp -dsimp
        exact ⟨by rw [hT, hk], K.trans (L3.kept.trans K4)⟩
      | false =>
        rw [hb, if_neg (by simp)] at hk
        simp -dsimp [h11, w1]
        refine Goal.mk ⟨m - 1, by omega, i + 1, _, by omega, rfl, K.trans (L3.kept.trans K4), hk, ?_, ?_, ?_⟩
        all_goals simp [h9, h10]
    · have hi' : ¬ ((i : Int) < args.length) := by omega
      simp -dsimp [h10, h11, hi']
      exact ⟨by rw [hT, ← hk, List.drop_of_length_le (by omega), asksL], by simpa using K⟩
/-! ### Same -/
theorem stood25 : Try.prog.stoodInHeld 25 = false := by kernel_rfl
theorem guard25 : Try.prog.eqGuardType Try.prog.depth 25 = false := by kernel_rfl
theorem structEq25 (a b a' b' : Int) : structEq Try.prog 25 #[.int .i64 a, .int .u64 b] #[.int .i64 a', .int .u64 b'] = some (a == a' && b == b') := by
  simp [structEq, stood25, guard25, Try.underlying25, eqFlat, Try.underlying3, Try.underlying23]
theorem neq25 (xo yo : Operand) (a b a' b' : Int) : binA Try.prog .neq 25 xo yo (valV a b) (valV a' b') = some (.bool (!(a == a' && b == b'))) := by
  simp [binA, fastBin, aggBin, valV, structEq25]
theorem eql25 (xo yo : Operand) (a b a' b' : Int) : binA Try.prog .eql 25 xo yo (valV a b) (valV a' b') = some (.bool (a == a' && b == b')) := by
  simp [binA, fastBin, aggBin, valV, structEq25]
theorem wneq25 (xo yo : Operand) (a b a' b' : Int) (k : Value → Prop) : wBin Try.prog .neq 25 xo yo (valV a b) (valV a' b') k = k (.bool (!(a == a' && b == b'))) := by
  have : wBin Try.prog .neq 25 xo yo (valV a b) (valV a' b') k = wV (binA Try.prog .neq 25 xo yo (valV a b) (valV a' b')) k := rfl
  rw [this, neq25]; rfl
theorem weql25 (xo yo : Operand) (a b a' b' : Int) (k : Value → Prop) : wBin Try.prog .eql 25 xo yo (valV a b) (valV a' b') k = k (.bool (a == a' && b == b')) := by
  have : wBin Try.prog .eql 25 xo yo (valV a b) (valV a' b') k = wV (binA Try.prog .eql 25 xo yo (valV a b) (valV a' b')) k := rfl
  rw [this, eql25]; rfl
theorem fn6 : fnOf Try.prog 6 = some ((Try.f6.body.getD .skip), Try.f6.ntmps, Try.f6.results) := rfl
set_option maxHeartbeats 1000000 in
theorem same_run (t : Tree) : ∀ v v' s, NodeV s.heap t v → NodeV s.heap t v' → cnt t < 2 ^ 62 → Does Try.prog 6 #[v, v'] s (fun r s' => r = .ret (.bool true) ∧ Kept s s') := by
  induction t using Tree.ind with
  | h op kind vk bits pos attr args ih =>
    intro v v' s hv hv' hc
    refine Does.pre fun hf => ?_
    obtain ⟨_, _, _, _, _, _, _, sl, e, rfl, hA⟩ := hv.open_
    cases e
    obtain ⟨_, _, _, _, _, _, _, sl', e, rfl, hA'⟩ := hv'.open_
    cases e
    rw [cnt_eq] at hc
    refine Does.code known0 fn6 [6] (by kernel_rfl) ?_
    dsimp only [Try.f6, Option.getD_some, undraw, noId, Nat.reduceBEq, cond_true, cond_false, frOf]
    simp -dsimp [envOf]
    refine x_box (Loc.nil hf) (by rfl) fun n1 s1 L1 => ?_
    simp -dsimp
    refine x_box L1 (by rfl) fun n2 s2 L2 => ?_
    have F2 := fields L2 0 rfl
    have F1 := fields L2 1 rfl
    simp -dsimp [fieldAddrA, F1.f0, F2.f0, F1.f1, F2.f1, F1.f2, F2.f2, F1.f3, F2.f3, F1.f5, F2.f5, F1.f6, F2.f6, wneq25, hA.len, hA'.len]
    refine w_for (fun m fr s' => ∃ i env, i + m = args.length ∧ fr = ⟨67, env, []⟩ ∧ Loc s s' [.obj n2 (.cells (nodeCells op kind sl' vk bits pos attr) 27), .obj n1 (.cells (nodeCells op kind sl vk bits pos attr) 27)] ∧ env.get 2 = some (.pointer (some ⟨n1, 0, none⟩)) ∧ env.get 3 = some (.pointer (some ⟨n2, 0, none⟩)) ∧ env.get 50 = some (.int .i64 args.length) ∧ env.get 51 = some (.int .i64 i)) (m := args.length) ?_ L2.free
      ?_
    rotate_left
    · exact ⟨0, _, by omega, rfl, L2, by simp, by simp, by simp, by simp⟩
    rintro m fr s' f ⟨i, env, him, rfl, L, h2, h3, h50, h51⟩
    have hlen := len_le_cnt args
    by_cases hi : i < args.length
    · have hi' : (i : Int) < args.length := by omega
      obtain ⟨a, op, kind, sl2, vk, bits, pos, attr, ha, hs2, hv2, hl⟩ := arg_at hA hi
      obtain ⟨a', op', kind', sl2', vk', bits', pos', attr', ha', hs2', hv2', hl'⟩ := arg_at hA' hi
      have F2 := fields L 0 rfl
      have F1 := fields L 1 rfl
      simp -dsimp [h2, h3, h50, h51, hi', fieldAddrA, F1.f2, F2.f2, ha, ha', hl s' L.kept, hl' s' L.kept]
      refine Does.mono (ih args[i] (List.getElem_mem hi) _ _ s' (hv2.kept L.kept) (hv2'.kept L.kept) (by have := cnt_mem (List.getElem_mem hi); omega)) ?_
      rintro _ s4 f4 ⟨rfl, K4⟩
      have w1 : wrapA .i64 ((i : Int) + 1) = (i : Int) + 1 := wrap_small (by omega) (by omega)
      simp -dsimp [h51, w1]
      refine Goal.mk ⟨m - 1, by omega, i + 1, _, by omega, rfl, L.keep K4, ?_, ?_, ?_, ?_⟩
      all_goals simp [h2, h3, h50]
    · have hi' : ¬ ((i : Int) < args.length) := by omega
      simp -dsimp [h50, h51, hi']
      simpa using L.kept
end Go.Proofs.Ytgpfgcbolinncaa.Abs
