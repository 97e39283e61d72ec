/- The plain law: what folding makes of a tree, folded once more. -/
import Derived.Test.YtgpfgcbolinncaaG2
set_option linter.unusedVariables false
set_option linter.unusedSimpArgs false
namespace Go.Proofs.Ytgpfgcbolinncaa.Abs
open Go Go.RowKit

def Tree.op : Tree → Int | .mk op _ _ _ _ _ _ => op
def Tree.vk : Tree → Int | .mk _ _ vk _ _ _ _ => vk
def Tree.bits : Tree → Int | .mk _ _ _ b _ _ _ => b
def Tree.args : Tree → List Tree | .mk _ _ _ _ _ _ a => a
def constsB (op : Int) (ts : List Tree) : Bool := ts.all (fun t => t.op == 40) && (decide (1 ≤ op) && decide (op ≤ 17))
def logB (op : Int) (ts : List Tree) : Bool := ((ts.length : Int) == 2) && (op == 13 || op == 14)
def dec (op : Int) : Int := if op = 14 then 1 else 0
def isC (b : Int) (t : Tree) : Bool := t.op == 40 && (t.vk == 2 && t.bits == b)
def consts (a b : Int) : Tree → Option Tree
  | .mk op kind _ _ _ _ ts => if constsB op ts = true then some (.mk 40 kind a b 0 0 []) else none
def decided : Tree → Option Tree
  | .mk op kind _ _ _ _ ts => if logB op ts = true ∧ ts.any (isC (dec op)) = true then some (.mk 40 kind 2 (dec op) 0 0 []) else none
def neutral : Tree → Option Tree
  | .mk op _ _ _ _ _ ts => if logB op ts = true then (match ts with
    | [x, y] => if isC (1 - dec op) x = true then some y else if isC (1 - dec op) y = true then some x else none
    | _ => none) else none
def twice : Tree → Option Tree
  | .mk op _ _ _ _ _ ts => match ts with
    | [a] => if op = 15 ∧ a.op = 15 then (match a.args with
      | [y] => some y
      | _ => none) else none
    | _ => none
def ruled (a b : Int) (n : Tree) : Tree := ((consts a b n).or ((decided n).or ((neutral n).or (twice n)))).getD n
inductive Folds : Tree → Tree → Prop
  | leaf (op kind vk bits pos attr : Int) : Folds (.mk op kind vk bits pos attr []) (.mk op kind vk bits pos attr [])
  | node (op kind vk bits pos attr : Int) (ts us : List Tree) (a b : Int) (hne : ts ≠ []) (hl : us.length = ts.length) (h : ∀ (i : Nat) (t u : Tree), ts[i]? = some t → us[i]? = some u → Folds t u) :
      Folds (.mk op kind vk bits pos attr ts) (ruled a b (.mk op kind vk bits pos attr us))
inductive Normal : Tree → Prop
  | mk (op kind vk bits pos attr : Int) (ts : List Tree) (h : ∀ t ∈ ts, Normal t) (hr : ts = [] ∨ ∀ a b, ruled a b (.mk op kind vk bits pos attr ts) = .mk op kind vk bits pos attr ts) : Normal (.mk op kind vk bits pos attr ts)
theorem Normal.kids {op kind vk bits pos attr : Int} {ts : List Tree} (h : Normal (.mk op kind vk bits pos attr ts)) : ∀ t ∈ ts, Normal t := by
  cases h with
  | mk _ _ _ _ _ _ _ h _ => exact h
theorem Normal.args {t : Tree} (h : Normal t) : ∀ u ∈ t.args, Normal u := by
  cases t; exact h.kids
/-- where a rule's answer comes from -/
inductive From (op kind vk bits pos attr : Int) (us : List Tree) : Tree → Prop
  | const (a b : Int) : From op kind vk bits pos attr us (.mk 40 kind a b 0 0 [])
  | kid (t : Tree) (h : t ∈ us) : From op kind vk bits pos attr us t
  | grand (t u : Tree) (h : t ∈ us) (h2 : u ∈ t.args) : From op kind vk bits pos attr us u
theorem neutral_mem {op kind vk bits pos attr : Int} {us : List Tree} {x : Tree} (h : neutral (.mk op kind vk bits pos attr us) = some x) : x ∈ us := by
  simp only [neutral] at h
  split at h
  · split at h
    · split at h
      · simp only [Option.some.injEq] at h; subst h; simp
      · split at h
        · simp only [Option.some.injEq] at h; subst h; simp
        · cases h
    · cases h
  · cases h
theorem twice_mem {op kind vk bits pos attr : Int} {us : List Tree} {x : Tree} (h : twice (.mk op kind vk bits pos attr us) = some x) : ∃ t ∈ us, x ∈ t.args := by
  simp only [twice] at h
  split at h
  · rename_i a
    split at h
    · split at h
      · rename_i y hy
        simp only [Option.some.injEq] at h; subst h
        exact ⟨a, by simp, by rw [hy]; simp⟩
      · cases h
    · cases h
  · cases h
theorem ruled_cases (a b op kind vk bits pos attr : Int) (us : List Tree) : From op kind vk bits pos attr us (ruled a b (.mk op kind vk bits pos attr us)) ∨
    (∀ a b, ruled a b (.mk op kind vk bits pos attr us) = .mk op kind vk bits pos attr us) := by
  by_cases hc : constsB op us = true
  · left
    have : ruled a b (.mk op kind vk bits pos attr us) = .mk 40 kind a b 0 0 [] := by simp [ruled, consts, hc]
    rw [this]; exact .const _ _
  · have c : ∀ a b, consts a b (.mk op kind vk bits pos attr us) = none := fun a b => by simp [consts, hc]
    cases hd : decided (.mk op kind vk bits pos attr us) with
    | some x =>
      left
      have : ruled a b (.mk op kind vk bits pos attr us) = x := by simp [ruled, c, hd]
      rw [this]
      simp only [decided] at hd
      split at hd
      · simp only [Option.some.injEq] at hd; subst hd; exact .const _ _
      · cases hd
    | none =>
      cases hn : neutral (.mk op kind vk bits pos attr us) with
      | some x =>
        left
        have : ruled a b (.mk op kind vk bits pos attr us) = x := by simp [ruled, c, hd, hn]
        rw [this]
        exact .kid x (neutral_mem hn)
      | none =>
        cases ht : twice (.mk op kind vk bits pos attr us) with
        | some x =>
          left
          have : ruled a b (.mk op kind vk bits pos attr us) = x := by simp [ruled, c, hd, hn, ht]
          rw [this]
          obtain ⟨t, h1, h2⟩ := twice_mem ht
          exact .grand t x h1 h2
        | none =>
          right
          intro a b
          simp [ruled, c, hd, hn, ht]
theorem normal_const (kind a b : Int) : Normal (.mk 40 kind a b 0 0 []) := .mk _ _ _ _ _ _ _ (by simp) (.inl rfl)
theorem mem_get {us ts : List Tree} {R : Tree → Tree → Prop} (hl : us.length = ts.length) (h : ∀ (i : Nat) (t u : Tree), ts[i]? = some t → us[i]? = some u → R t u) {u : Tree} (hu : u ∈ us) : ∃ t ∈ ts, R t u := by
  obtain ⟨i, hi, rfl⟩ := List.getElem_of_mem hu
  exact ⟨ts[i]'(by omega), List.getElem_mem _, h i _ _ (by simp) (by simp)⟩
theorem folds_normal {t u : Tree} (h : Folds t u) : Normal u := by
  induction h with
  | leaf op kind vk bits pos attr => exact .mk _ _ _ _ _ _ _ (by simp) (.inl rfl)
  | node op kind vk bits pos attr ts us a b hne hl h ih =>
    have hk : ∀ u ∈ us, Normal u := fun u hu => by
      obtain ⟨t, _, n⟩ := mem_get (R := fun _ u => Normal u) hl ih hu
      exact n
    rcases ruled_cases a b op kind vk bits pos attr us with hf | hn
    · generalize ruled a b (.mk op kind vk bits pos attr us) = x at hf
      cases hf with
      | const a b => exact normal_const _ _ _
      | kid _ h => exact hk _ h
      | grand t _ h h2 => exact (hk t h).args _ h2
    · rw [hn]
      exact .mk _ _ _ _ _ _ _ hk (.inr hn)
theorem normal_folds {t u : Tree} (h : Folds t u) : Normal t → u = t := by
  induction h with
  | leaf op kind vk bits pos attr => exact fun _ => rfl
  | node op kind vk bits pos attr ts us a b hne hl h ih =>
    intro hn
    have he : us = ts := by
      apply List.ext_getElem hl
      intro i h1 h2
      exact ih i ts[i] us[i] (by simp) (by simp) (hn.kids _ (List.getElem_mem h2))
    subst he
    cases hn with
    | mk _ _ _ _ _ _ _ _ hr =>
      rcases hr with hr | hr
      · exact absurd hr hne
      · exact hr a b

/-! ### counts, looks -/
theorem sum_le {us ts : List Tree} (hl : us.length = ts.length) (h : ∀ (i : Nat) (t u : Tree), ts[i]? = some t → us[i]? = some u → cnt u ≤ cnt t) : (us.map cnt).sum ≤ (ts.map cnt).sum := by
  induction us generalizing ts with
  | nil => simp
  | cons u us ih =>
    cases ts with
    | nil => simp at hl
    | cons t ts =>
      have h0 := h 0 t u rfl rfl
      have := ih (ts := ts) (by simpa using hl) fun i t u ht hu => h (i + 1) t u (by simpa using ht) (by simpa using hu)
      simp
      omega
theorem cnt_kid {t : Tree} {op kind vk bits pos attr : Int} {us : List Tree} (h : t ∈ us) : cnt t ≤ cnt (.mk op kind vk bits pos attr us) := by
  rw [cnt_eq]
  have := cnt_mem h
  omega
theorem cnt_args {t u : Tree} (h : u ∈ t.args) : cnt u ≤ cnt t := by
  cases t
  exact cnt_kid h
theorem folds_cnt {t u : Tree} (h : Folds t u) : cnt u ≤ cnt t := by
  induction h with
  | leaf op kind vk bits pos attr => exact Nat.le_refl _
  | node op kind vk bits pos attr ts us a b hne hl h ih =>
    have hs := sum_le hl ih
    have hme : cnt (.mk op kind vk bits pos attr us) ≤ cnt (.mk op kind vk bits pos attr ts) := by rw [cnt_eq, cnt_eq]; omega
    rcases ruled_cases a b op kind vk bits pos attr us with hf | hn
    · refine Nat.le_trans ?_ hme
      generalize ruled a b (.mk op kind vk bits pos attr us) = x at hf
      cases hf with
      | const a b => rw [cnt_eq, cnt_eq]; simp
      | kid _ h => exact cnt_kid h
      | grand t _ h h2 => exact Nat.le_trans (cnt_args h2) (cnt_kid h)
    · rw [hn]; exact hme
theorem lastL_le (M : Int) : ∀ (ts : List Tree) (k : Int), lastL k ts ≤ M ↔ k ≤ M ∧ ∀ t ∈ ts, lastT t ≤ M
  | [], k => by simp [lastL]
  | a :: r, k => by
    rw [lastL, lastL_le M r]
    simp only [List.mem_cons, forall_eq_or_imp]
    split
    · constructor
      · rintro ⟨h1, h2⟩; exact ⟨by omega, h1, h2⟩
      · rintro ⟨h1, h2, h3⟩; exact ⟨h2, h3⟩
    · constructor
      · rintro ⟨h1, h2⟩; exact ⟨h1, by omega, h2⟩
      · rintro ⟨h1, h2, h3⟩; exact ⟨h1, h3⟩
theorem lastT_le {M op kind vk bits pos attr : Int} {ts : List Tree} : lastT (.mk op kind vk bits pos attr ts) ≤ M ↔ lastStart op pos ≤ M ∧ ∀ t ∈ ts, lastT t ≤ M := by
  rw [lastT]; exact lastL_le M ts _
theorem lastStart_ge (op pos : Int) : -1 ≤ lastStart op pos := by
  unfold lastStart
  split
  · split <;> omega
  · omega
theorem lastT_ge (t : Tree) : -1 ≤ lastT t := by
  cases t with
  | mk op kind vk bits pos attr ts =>
    have := (lastT_le (M := lastT (.mk op kind vk bits pos attr ts))).1 (Int.le_refl _)
    have := lastStart_ge op pos
    omega
theorem lastT_kid {t : Tree} {op kind vk bits pos attr : Int} {us : List Tree} (h : t ∈ us) : lastT t ≤ lastT (.mk op kind vk bits pos attr us) :=
  ((lastT_le (M := lastT (.mk op kind vk bits pos attr us))).1 (Int.le_refl _)).2 t h
theorem lastT_args {t u : Tree} (h : u ∈ t.args) : lastT u ≤ lastT t := by
  cases t
  exact lastT_kid h
theorem folds_last {t u : Tree} (h : Folds t u) : lastT u ≤ lastT t := by
  induction h with
  | leaf op kind vk bits pos attr => exact Int.le_refl _
  | node op kind vk bits pos attr ts us a b hne hl h ih =>
    have hme : lastT (.mk op kind vk bits pos attr us) ≤ lastT (.mk op kind vk bits pos attr ts) := by
      rw [lastT_le]
      refine ⟨((lastT_le (M := lastT (.mk op kind vk bits pos attr ts))).1 (Int.le_refl _)).1, fun u hu => ?_⟩
      obtain ⟨t, ht, hle⟩ := mem_get (R := fun t u => lastT u ≤ lastT t) hl ih hu
      exact Int.le_trans hle (lastT_kid ht)
    rcases ruled_cases a b op kind vk bits pos attr us with hf | hn
    · refine Int.le_trans ?_ hme
      generalize ruled a b (.mk op kind vk bits pos attr us) = x at hf
      cases hf with
      | const a b =>
        rw [lastT_le]
        refine ⟨?_, by simp⟩
        have : lastStart 40 0 = -1 := by simp [lastStart]
        rw [this]; exact lastT_ge _
      | kid _ h => exact lastT_kid h
      | grand t _ h h2 => exact Int.le_trans (lastT_args h2) (lastT_kid h)
    · rw [hn]; exact hme
theorem asksL_iff : ∀ (ts : List Tree), asksL ts = true ↔ ∃ t ∈ ts, asksT t = true
  | [] => by simp [asksL]
  | a :: r => by
    rw [asksL]
    split
    · rename_i h; simp [h]
    · rename_i h; rw [asksL_iff r]; simp [h]
theorem asksT_iff {op kind vk bits pos attr : Int} {ts : List Tree} : asksT (.mk op kind vk bits pos attr ts) = true ↔ op = 41 ∨ ∃ t ∈ ts, asksT t = true := by
  rw [asksT]
  split
  · rename_i h; simp [h]
  · rename_i h; rw [asksL_iff]; simp [h]
theorem asks_args {t u : Tree} (h : u ∈ t.args) (ha : asksT u = true) : asksT t = true := by
  cases t
  exact asksT_iff.2 (.inr ⟨u, h, ha⟩)
theorem folds_asks {t u : Tree} (h : Folds t u) : asksT u = true → asksT t = true := by
  induction h with
  | leaf op kind vk bits pos attr => exact id
  | node op kind vk bits pos attr ts us a b hne hl h ih =>
    have hk : ∀ u ∈ us, asksT u = true → ∃ t ∈ ts, asksT t = true := fun u hu ha => by
      obtain ⟨t, ht, q⟩ := mem_get (R := fun t u => asksT u = true → asksT t = true) hl ih hu
      exact ⟨t, ht, q ha⟩
    intro ha
    rcases ruled_cases a b op kind vk bits pos attr us with hf | hn
    · generalize ruled a b (.mk op kind vk bits pos attr us) = x at hf ha
      cases hf with
      | const a b => rw [asksT_iff] at ha; simp at ha
      | kid _ h => exact asksT_iff.2 (.inr (hk _ h ha))
      | grand t _ h h2 => exact asksT_iff.2 (.inr (hk t h (asks_args h2 ha)))
    · rw [hn] at ha
      rcases asksT_iff.1 ha with h | ⟨u, hu, hua⟩
      · exact asksT_iff.2 (.inl h)
      · exact asksT_iff.2 (.inr (hk u hu hua))
end Go.Proofs.Ytgpfgcbolinncaa.Abs
