/- law12.FoldTwice. (written by tools/g19.py) law12.FoldTwice: it always says yes. -/
import Derived.Test.YtgpfgcbolinncaaG18
set_option linter.unusedVariables false
set_option linter.unusedSimpArgs false
namespace Go.Proofs.Ytgpfgcbolinncaa.Abs
open Go Go.RowKit

inductive Spec where
  | val (v : Value)
  | node
  | any
def SpecOk (u : Tree) (v : Value) (s : ST) : Spec → Prop
  | .val w => v = w
  | .node => NodeV s.heap u v
  | .any => True
theorem SpecOk.kept {u : Tree} {v : Value} {s s' : ST} (k : Kept s s') {x : Spec} (h : SpecOk u v s x) : SpecOk u v s' x := by
  cases x with
  | val w => exact h
  | node => exact NodeV.kept k h
  | any => trivial
def specs (t u : Tree) (tv uv : Value) (a : Bool) (j : Nat) : Spec := match j with
  | 0 => .val (.bool true)
  | 1 => .val (.bool true)
  | 2 => .val uv
  | 3 => .node
  | 4 => .val uv
  | 5 => .val (.bool true)
  | 6 => .val (.bool true)
  | 7 => .val (.bool true)
  | 8 => .val uv
  | 9 => .val (.int .i64 (cnt u))
  | 10 => .val tv
  | 11 => .val (.int .i64 (cnt t))
  | 12 => .val (.bool true)
  | 13 => .val (.bool true)
  | 14 => .val (.bool true)
  | 15 => .val uv
  | 16 => .val (.int .i64 (lastT u))
  | 17 => .val tv
  | 18 => .val (.int .i64 (lastT t))
  | 19 => .val (.bool true)
  | 20 => .val (.bool true)
  | 21 => .val (.bool true)
  | 22 => .val tv
  | 23 => .val (.bool a)
  | 24 => .val (.bool a)
  | 25 => if a then .any else .val uv
  | 26 => if a then .any else .val (.bool (asksT u))
  | 27 => if a then .any else .val (.bool (!asksT u))
  | 28 => .val (.bool true)
  | 29 => .val (.bool true)
  | 30 => .val (.bool true)
  | _ => .any
def Inv (b : ST) (t u : Tree) (tv uv : Value) (a : Bool) (l : List LE) (L : Nat → Bool) (vals : Nat → Value) (s : ST) : Prop := Loc b s l ∧ ∀ j, L j = true → SpecOk u (vals j) s (specs t u tv uv a j)
theorem Inv.step {b : ST} {t u : Tree} {tv uv : Value} {a : Bool} {l : List LE} {L : Nat → Bool} {vals : Nat → Value} {s s' : ST} (h : Inv b t u tv uv a l L vals s) (k : Kept s s') {i : Nat} {v : Value} (hv : SpecOk u v s' (specs t u tv uv a i)) :
    Inv b t u tv uv a l (updB L i) (updV vals i v) s' := by
  refine ⟨h.1.keep k, fun j hj => ?_⟩
  by_cases e : j = i
  · subst e
    simpa [updV] using hv
  · have : L j = true := by simpa [updB, e] using hj
    have := (h.2 j this).kept k
    simpa [updV, e] using this
set_option maxHeartbeats 8000000 in
theorem fold_draw {b s : ST} {t u : Tree} {n1 n3 : Nat} {op kind vk bits pos attr op2 kind2 vk2 bits2 pos2 attr2 : Int} {sl sl2 : Value} (a : Bool) (ha : asksT t = a) (hF : Folds t u) (hc : cnt t < 2 ^ 40)
    (ht : NodeV b.heap t (nodeVal op kind sl vk bits pos attr)) (hu : NodeV b.heap u (nodeVal op2 kind2 sl2 vk2 bits2 pos2 attr2))
    (L0 : Loc b s [.obj n3 (.cells (nodeCells op2 kind2 sl2 vk2 bits2 pos2 attr2) 27), .obj n1 (.cells (nodeCells op kind sl vk bits pos attr) 27)]) {env : Trie Value}
    (e1 : env.get 1 = some (.pointer (some ⟨n1, 0, none⟩))) (e3 : env.get 3 = some (.pointer (some ⟨n3, 0, none⟩))) {Q : SR → ST → Prop}
    (hnext : ∀ env' s', env'.get 2 = some (.bool true) → Kept b s' → Q (.next ⟨36, env', []⟩) s') :
    wDraw Try.prog (opsOf (codeAt [true, true, false] (Try.f3.body.getD .skip))).toArray ⟨36, env, []⟩ s Q := by
  have hcu : cnt u ≤ cnt t := folds_cnt hF
  have hlast : lastT u ≤ lastT t := folds_last hF
  have hasks := folds_asks hF
  have hnorm : Normal u := folds_normal hF
  dsimp only [Try.f3, Option.getD_some, codeAt, opsOf]
  refine w_draw [[], [(0, 6)], [(1, 7)], [(1, 7), (2, 8)], [(1, 7)], [(1, 7), (3, 9), (4, 10)], [(1, 7), (5, 11)], [(6, 12)], [(7, 13)], [(7, 13), (8, 14)], [(7, 13)], [(7, 13), (10, 16)], [(7, 13), (9, 15), (11, 17)], [(7, 13), (12, 18)], [(13, 19)], [(14, 20)], [(14, 20), (15, 21)], [(14, 20)], [(14, 20), (17, 23)], [(14, 20), (16, 22), (18, 24)], [(14, 20), (19, 25)], [(20, 26)], [(21, 27)], [(21, 27), (22, 28)], [(21, 27), (23, 29)], [(24, 30)], [(24, 30), (25, 31)], [(24, 30), (26, 32)], [(21, 27), (24, 30), (27, 33)], [(21, 27), (28, 34)], [(29, 35)]]
    [(0, 6), (1, 7), (2, 8), (3, 9), (4, 10), (5, 11), (6, 12), (7, 13), (8, 14), (9, 15), (10, 16), (11, 17), (12, 18), (13, 19), (14, 20), (15, 21), (16, 22), (17, 23), (18, 24), (19, 25), (20, 26), (21, 27), (22, 28), (23, 29), (24, 30), (25, 31), (26, 32), (27, 33), (28, 34), (29, 35), (30, 2)] (by kernel_rfl)
    (Inv b t u (nodeVal op kind sl vk bits pos attr) (nodeVal op2 kind2 sl2 vk2 bits2 pos2 attr2) a [.obj n3 (.cells (nodeCells op2 kind2 sl2 vk2 bits2 pos2 attr2) 27), .obj n1 (.cells (nodeCells op kind sl vk bits pos attr) 27)]) (fun _ _ => False) ⟨L0, fun j hj => by cases hj⟩ L0.free ?_ ?_ ?_
  · refine ⟨?_, ?_, ?_, ?_, ?_, ?_, ?_, ?_, ?_, ?_, ?_, ?_, ?_, ?_, ?_, ?_, ?_, ?_, ?_, ?_, ?_, ?_, ?_, ?_, ?_, ?_, ?_, ?_, ?_, ?_, ?_, trivial⟩
    · rintro L vals s' f ⟨LL, hJ⟩ hi hl
      simp only [allL, and_true] at hl
      have F3 := fields LL 0 rfl
      have F1 := fields LL 1 rfl
      have nu := hu.kept LL.kept
      have nt := ht.kept LL.kept
      simp -dsimp [setE, e1, e3, F3.all, F1.all]
      refine Does.mono (awake_run s') ?_
      rintro _ s2 f2 ⟨rfl, rfl⟩
      simp -dsimp [setE, e1, e3, F3.all, F1.all]
      exact SRv.put (by decide) (Inv.step ⟨LL, hJ⟩ (Kept.refl f) rfl)
    · rintro L vals s' f ⟨LL, hJ⟩ hi hl
      simp only [allL, and_true] at hl
      have F3 := fields LL 0 rfl
      have F1 := fields LL 1 rfl
      have nu := hu.kept LL.kept
      have nt := ht.kept LL.kept
      have hd0 : vals 0 = (.bool true) := hJ 0 hl
      simp -dsimp [setE, hd0, e1, e3, F3.all, F1.all]
      exact SRv.put (by decide) (Inv.step ⟨LL, hJ⟩ (Kept.refl f) rfl)
    · rintro L vals s' f ⟨LL, hJ⟩ hi hl
      simp only [allL, and_true] at hl
      have F3 := fields LL 0 rfl
      have F1 := fields LL 1 rfl
      have nu := hu.kept LL.kept
      have nt := ht.kept LL.kept
      have hd1 : vals 1 = (.bool true) := hJ 1 hl
      simp -dsimp [setE, hd1, e1, e3, F3.all, F1.all]
      exact SRv.put (by decide) (Inv.step ⟨LL, hJ⟩ (Kept.refl f) rfl)
    · rintro L vals s' f ⟨LL, hJ⟩ hi hl
      simp only [allL, and_true] at hl
      have F3 := fields LL 0 rfl
      have F1 := fields LL 1 rfl
      have nu := hu.kept LL.kept
      have nt := ht.kept LL.kept
      have hd1 : vals 1 = (.bool true) := hJ 1 hl.1
      have hd2 : vals 2 = (nodeVal op2 kind2 sl2 vk2 bits2 pos2 attr2) := hJ 2 hl.2
      simp -dsimp [setE, hd1, hd2, e1, e3, F3.all, F1.all]
      refine Does.mono (node_run u s'.heap _ s' (fun _ _ => rfl) nu (by omega)) ?_
      rintro _ s2 f2 ⟨K2, H2, w, v2, rfl, le2, sub2, new2, fo2, nv2⟩
      have hw := normal_folds fo2 hnorm
      subst hw
      simp -dsimp [setE, hd1, hd2, e1, e3, F3.all, F1.all]
      exact SRv.put (by decide) (Inv.step ⟨LL, hJ⟩ K2 (nv2.keep sub2))
    · rintro L vals s' f ⟨LL, hJ⟩ hi hl
      simp only [allL, and_true] at hl
      have F3 := fields LL 0 rfl
      have F1 := fields LL 1 rfl
      have nu := hu.kept LL.kept
      have nt := ht.kept LL.kept
      have hd1 : vals 1 = (.bool true) := hJ 1 hl
      simp -dsimp [setE, hd1, e1, e3, F3.all, F1.all]
      exact SRv.put (by decide) (Inv.step ⟨LL, hJ⟩ (Kept.refl f) rfl)
    · rintro L vals s' f ⟨LL, hJ⟩ hi hl
      simp only [allL, and_true] at hl
      have F3 := fields LL 0 rfl
      have F1 := fields LL 1 rfl
      have nu := hu.kept LL.kept
      have nt := ht.kept LL.kept
      have hd1 : vals 1 = (.bool true) := hJ 1 hl.1
      have hd3 : NodeV s'.heap u (vals 3) := hJ 3 hl.2.1
      have hd4 : vals 4 = (nodeVal op2 kind2 sl2 vk2 bits2 pos2 attr2) := hJ 4 hl.2.2
      simp -dsimp [setE, hd1, hd4, e1, e3, F3.all, F1.all]
      refine Does.mono (same_run u _ _ s' hd3 nu (by omega)) ?_
      rintro _ s2 f2 ⟨rfl, K2⟩
      simp -dsimp [setE, hd1, hd4, e1, e3, F3.all, F1.all]
      exact SRv.put (by decide) (Inv.step ⟨LL, hJ⟩ K2 rfl)
    · rintro L vals s' f ⟨LL, hJ⟩ hi hl
      simp only [allL, and_true] at hl
      have F3 := fields LL 0 rfl
      have F1 := fields LL 1 rfl
      have nu := hu.kept LL.kept
      have nt := ht.kept LL.kept
      have hd1 : vals 1 = (.bool true) := hJ 1 hl.1
      have hd5 : vals 5 = (.bool true) := hJ 5 hl.2
      simp -dsimp [setE, hd1, hd5, e1, e3, F3.all, F1.all]
      exact SRv.put (by decide) (Inv.step ⟨LL, hJ⟩ (Kept.refl f) rfl)
    · rintro L vals s' f ⟨LL, hJ⟩ hi hl
      simp only [allL, and_true] at hl
      have F3 := fields LL 0 rfl
      have F1 := fields LL 1 rfl
      have nu := hu.kept LL.kept
      have nt := ht.kept LL.kept
      have hd6 : vals 6 = (.bool true) := hJ 6 hl
      simp -dsimp [setE, hd6, e1, e3, F3.all, F1.all]
      exact SRv.put (by decide) (Inv.step ⟨LL, hJ⟩ (Kept.refl f) rfl)
    · rintro L vals s' f ⟨LL, hJ⟩ hi hl
      simp only [allL, and_true] at hl
      have F3 := fields LL 0 rfl
      have F1 := fields LL 1 rfl
      have nu := hu.kept LL.kept
      have nt := ht.kept LL.kept
      have hd7 : vals 7 = (.bool true) := hJ 7 hl
      simp -dsimp [setE, hd7, e1, e3, F3.all, F1.all]
      exact SRv.put (by decide) (Inv.step ⟨LL, hJ⟩ (Kept.refl f) rfl)
    · rintro L vals s' f ⟨LL, hJ⟩ hi hl
      simp only [allL, and_true] at hl
      have F3 := fields LL 0 rfl
      have F1 := fields LL 1 rfl
      have nu := hu.kept LL.kept
      have nt := ht.kept LL.kept
      have hd7 : vals 7 = (.bool true) := hJ 7 hl.1
      have hd8 : vals 8 = (nodeVal op2 kind2 sl2 vk2 bits2 pos2 attr2) := hJ 8 hl.2
      simp -dsimp [setE, hd7, hd8, e1, e3, F3.all, F1.all]
      refine Does.mono (nodes_run u _ s' nu (by omega)) ?_
      rintro _ s2 f2 ⟨rfl, K2⟩
      simp -dsimp [setE, hd7, hd8, e1, e3, F3.all, F1.all]
      exact SRv.put (by decide) (Inv.step ⟨LL, hJ⟩ K2 rfl)
    · rintro L vals s' f ⟨LL, hJ⟩ hi hl
      simp only [allL, and_true] at hl
      have F3 := fields LL 0 rfl
      have F1 := fields LL 1 rfl
      have nu := hu.kept LL.kept
      have nt := ht.kept LL.kept
      have hd7 : vals 7 = (.bool true) := hJ 7 hl
      simp -dsimp [setE, hd7, e1, e3, F3.all, F1.all]
      exact SRv.put (by decide) (Inv.step ⟨LL, hJ⟩ (Kept.refl f) rfl)
    · rintro L vals s' f ⟨LL, hJ⟩ hi hl
      simp only [allL, and_true] at hl
      have F3 := fields LL 0 rfl
      have F1 := fields LL 1 rfl
      have nu := hu.kept LL.kept
      have nt := ht.kept LL.kept
      have hd7 : vals 7 = (.bool true) := hJ 7 hl.1
      have hd10 : vals 10 = (nodeVal op kind sl vk bits pos attr) := hJ 10 hl.2
      simp -dsimp [setE, hd7, hd10, e1, e3, F3.all, F1.all]
      refine Does.mono (nodes_run t _ s' nt (by omega)) ?_
      rintro _ s2 f2 ⟨rfl, K2⟩
      simp -dsimp [setE, hd7, hd10, e1, e3, F3.all, F1.all]
      exact SRv.put (by decide) (Inv.step ⟨LL, hJ⟩ K2 rfl)
    · rintro L vals s' f ⟨LL, hJ⟩ hi hl
      simp only [allL, and_true] at hl
      have F3 := fields LL 0 rfl
      have F1 := fields LL 1 rfl
      have nu := hu.kept LL.kept
      have nt := ht.kept LL.kept
      have hd7 : vals 7 = (.bool true) := hJ 7 hl.1
      have hd9 : vals 9 = (.int .i64 (cnt u)) := hJ 9 hl.2.1
      have hd11 : vals 11 = (.int .i64 (cnt t)) := hJ 11 hl.2.2
      simp -dsimp [setE, hd7, hd9, hd11, e1, e3, F3.all, F1.all, (show (cnt u : Int) ≤ cnt t by omega)]
      exact SRv.put (by decide) (Inv.step ⟨LL, hJ⟩ (Kept.refl f) rfl)
    · rintro L vals s' f ⟨LL, hJ⟩ hi hl
      simp only [allL, and_true] at hl
      have F3 := fields LL 0 rfl
      have F1 := fields LL 1 rfl
      have nu := hu.kept LL.kept
      have nt := ht.kept LL.kept
      have hd7 : vals 7 = (.bool true) := hJ 7 hl.1
      have hd12 : vals 12 = (.bool true) := hJ 12 hl.2
      simp -dsimp [setE, hd7, hd12, e1, e3, F3.all, F1.all]
      exact SRv.put (by decide) (Inv.step ⟨LL, hJ⟩ (Kept.refl f) rfl)
    · rintro L vals s' f ⟨LL, hJ⟩ hi hl
      simp only [allL, and_true] at hl
      have F3 := fields LL 0 rfl
      have F1 := fields LL 1 rfl
      have nu := hu.kept LL.kept
      have nt := ht.kept LL.kept
      have hd13 : vals 13 = (.bool true) := hJ 13 hl
      simp -dsimp [setE, hd13, e1, e3, F3.all, F1.all]
      exact SRv.put (by decide) (Inv.step ⟨LL, hJ⟩ (Kept.refl f) rfl)
    · rintro L vals s' f ⟨LL, hJ⟩ hi hl
      simp only [allL, and_true] at hl
      have F3 := fields LL 0 rfl
      have F1 := fields LL 1 rfl
      have nu := hu.kept LL.kept
      have nt := ht.kept LL.kept
      have hd14 : vals 14 = (.bool true) := hJ 14 hl
      simp -dsimp [setE, hd14, e1, e3, F3.all, F1.all]
      exact SRv.put (by decide) (Inv.step ⟨LL, hJ⟩ (Kept.refl f) rfl)
    · rintro L vals s' f ⟨LL, hJ⟩ hi hl
      simp only [allL, and_true] at hl
      have F3 := fields LL 0 rfl
      have F1 := fields LL 1 rfl
      have nu := hu.kept LL.kept
      have nt := ht.kept LL.kept
      have hd14 : vals 14 = (.bool true) := hJ 14 hl.1
      have hd15 : vals 15 = (nodeVal op2 kind2 sl2 vk2 bits2 pos2 attr2) := hJ 15 hl.2
      simp -dsimp [setE, hd14, hd15, e1, e3, F3.all, F1.all]
      refine Does.mono (last_run u _ s' nu (by omega)) ?_
      rintro _ s2 f2 ⟨rfl, K2⟩
      simp -dsimp [setE, hd14, hd15, e1, e3, F3.all, F1.all]
      exact SRv.put (by decide) (Inv.step ⟨LL, hJ⟩ K2 rfl)
    · rintro L vals s' f ⟨LL, hJ⟩ hi hl
      simp only [allL, and_true] at hl
      have F3 := fields LL 0 rfl
      have F1 := fields LL 1 rfl
      have nu := hu.kept LL.kept
      have nt := ht.kept LL.kept
      have hd14 : vals 14 = (.bool true) := hJ 14 hl
      simp -dsimp [setE, hd14, e1, e3, F3.all, F1.all]
      exact SRv.put (by decide) (Inv.step ⟨LL, hJ⟩ (Kept.refl f) rfl)
    · rintro L vals s' f ⟨LL, hJ⟩ hi hl
      simp only [allL, and_true] at hl
      have F3 := fields LL 0 rfl
      have F1 := fields LL 1 rfl
      have nu := hu.kept LL.kept
      have nt := ht.kept LL.kept
      have hd14 : vals 14 = (.bool true) := hJ 14 hl.1
      have hd17 : vals 17 = (nodeVal op kind sl vk bits pos attr) := hJ 17 hl.2
      simp -dsimp [setE, hd14, hd17, e1, e3, F3.all, F1.all]
      refine Does.mono (last_run t _ s' nt (by omega)) ?_
      rintro _ s2 f2 ⟨rfl, K2⟩
      simp -dsimp [setE, hd14, hd17, e1, e3, F3.all, F1.all]
      exact SRv.put (by decide) (Inv.step ⟨LL, hJ⟩ K2 rfl)
    · rintro L vals s' f ⟨LL, hJ⟩ hi hl
      simp only [allL, and_true] at hl
      have F3 := fields LL 0 rfl
      have F1 := fields LL 1 rfl
      have nu := hu.kept LL.kept
      have nt := ht.kept LL.kept
      have hd14 : vals 14 = (.bool true) := hJ 14 hl.1
      have hd16 : vals 16 = (.int .i64 (lastT u)) := hJ 16 hl.2.1
      have hd18 : vals 18 = (.int .i64 (lastT t)) := hJ 18 hl.2.2
      simp -dsimp [setE, hd14, hd16, hd18, e1, e3, F3.all, F1.all, hlast]
      exact SRv.put (by decide) (Inv.step ⟨LL, hJ⟩ (Kept.refl f) rfl)
    · rintro L vals s' f ⟨LL, hJ⟩ hi hl
      simp only [allL, and_true] at hl
      have F3 := fields LL 0 rfl
      have F1 := fields LL 1 rfl
      have nu := hu.kept LL.kept
      have nt := ht.kept LL.kept
      have hd14 : vals 14 = (.bool true) := hJ 14 hl.1
      have hd19 : vals 19 = (.bool true) := hJ 19 hl.2
      simp -dsimp [setE, hd14, hd19, e1, e3, F3.all, F1.all]
      exact SRv.put (by decide) (Inv.step ⟨LL, hJ⟩ (Kept.refl f) rfl)
    · rintro L vals s' f ⟨LL, hJ⟩ hi hl
      simp only [allL, and_true] at hl
      have F3 := fields LL 0 rfl
      have F1 := fields LL 1 rfl
      have nu := hu.kept LL.kept
      have nt := ht.kept LL.kept
      have hd20 : vals 20 = (.bool true) := hJ 20 hl
      simp -dsimp [setE, hd20, e1, e3, F3.all, F1.all]
      exact SRv.put (by decide) (Inv.step ⟨LL, hJ⟩ (Kept.refl f) rfl)
    · rintro L vals s' f ⟨LL, hJ⟩ hi hl
      simp only [allL, and_true] at hl
      have F3 := fields LL 0 rfl
      have F1 := fields LL 1 rfl
      have nu := hu.kept LL.kept
      have nt := ht.kept LL.kept
      have hd21 : vals 21 = (.bool true) := hJ 21 hl
      simp -dsimp [setE, hd21, e1, e3, F3.all, F1.all]
      exact SRv.put (by decide) (Inv.step ⟨LL, hJ⟩ (Kept.refl f) rfl)
    · rintro L vals s' f ⟨LL, hJ⟩ hi hl
      simp only [allL, and_true] at hl
      have F3 := fields LL 0 rfl
      have F1 := fields LL 1 rfl
      have nu := hu.kept LL.kept
      have nt := ht.kept LL.kept
      have hd21 : vals 21 = (.bool true) := hJ 21 hl.1
      have hd22 : vals 22 = (nodeVal op kind sl vk bits pos attr) := hJ 22 hl.2
      simp -dsimp [setE, hd21, hd22, e1, e3, F3.all, F1.all]
      refine Does.mono (asks_run t _ s' nt (by omega)) ?_
      rintro _ s2 f2 ⟨rfl, K2⟩
      simp -dsimp [setE, hd21, hd22, e1, e3, F3.all, F1.all, ha]
      exact SRv.put (by decide) (Inv.step ⟨LL, hJ⟩ K2 rfl)
    · rintro L vals s' f ⟨LL, hJ⟩ hi hl
      simp only [allL, and_true] at hl
      have F3 := fields LL 0 rfl
      have F1 := fields LL 1 rfl
      have nu := hu.kept LL.kept
      have nt := ht.kept LL.kept
      have hd21 : vals 21 = (.bool true) := hJ 21 hl.1
      have hd23 : vals 23 = (.bool a) := hJ 23 hl.2
      simp -dsimp [setE, hd21, hd23, e1, e3, F3.all, F1.all]
      exact SRv.put (by decide) (Inv.step ⟨LL, hJ⟩ (Kept.refl f) rfl)
    · rintro L vals s' f ⟨LL, hJ⟩ hi hl
      simp only [allL, and_true] at hl
      have F3 := fields LL 0 rfl
      have F1 := fields LL 1 rfl
      have nu := hu.kept LL.kept
      have nt := ht.kept LL.kept
      have hd24 : vals 24 = (.bool a) := hJ 24 hl
      cases a with
      | true =>
        simp -dsimp [setE, hd24, e1, e3, F3.all, F1.all]
        exact SRv.put (by decide) (Inv.step ⟨LL, hJ⟩ (Kept.refl f) trivial)
      | false =>
        simp -dsimp [setE, hd24, e1, e3, F3.all, F1.all]
        exact SRv.put (by decide) (Inv.step ⟨LL, hJ⟩ (Kept.refl f) rfl)
    · rintro L vals s' f ⟨LL, hJ⟩ hi hl
      simp only [allL, and_true] at hl
      have F3 := fields LL 0 rfl
      have F1 := fields LL 1 rfl
      have nu := hu.kept LL.kept
      have nt := ht.kept LL.kept
      have hd24 : vals 24 = (.bool a) := hJ 24 hl.1
      cases a with
      | true =>
        simp -dsimp [setE, hd24, e1, e3, F3.all, F1.all]
        exact SRv.put (by decide) (Inv.step ⟨LL, hJ⟩ (Kept.refl f) trivial)
      | false =>
        have hd25 : vals 25 = (nodeVal op2 kind2 sl2 vk2 bits2 pos2 attr2) := hJ 25 hl.2
        simp -dsimp [setE, hd24, e1, e3, F3.all, F1.all, hd25]
        refine Does.mono (asks_run u _ s' nu (by omega)) ?_
        rintro _ s2 f2 ⟨rfl, K2⟩
        simp -dsimp [setE, hd24, e1, e3, F3.all, F1.all, hd25]
        exact SRv.put (by decide) (Inv.step ⟨LL, hJ⟩ K2 rfl)
    · rintro L vals s' f ⟨LL, hJ⟩ hi hl
      simp only [allL, and_true] at hl
      have F3 := fields LL 0 rfl
      have F1 := fields LL 1 rfl
      have nu := hu.kept LL.kept
      have nt := ht.kept LL.kept
      have hd24 : vals 24 = (.bool a) := hJ 24 hl.1
      cases a with
      | true =>
        simp -dsimp [setE, hd24, e1, e3, F3.all, F1.all]
        exact SRv.put (by decide) (Inv.step ⟨LL, hJ⟩ (Kept.refl f) trivial)
      | false =>
        have hd26 : vals 26 = .bool (asksT u) := hJ 26 hl.2
        simp -dsimp [setE, hd24, e1, e3, F3.all, F1.all, hd26]
        exact SRv.put (by decide) (Inv.step ⟨LL, hJ⟩ (Kept.refl f) rfl)
    · rintro L vals s' f ⟨LL, hJ⟩ hi hl
      simp only [allL, and_true] at hl
      have F3 := fields LL 0 rfl
      have F1 := fields LL 1 rfl
      have nu := hu.kept LL.kept
      have nt := ht.kept LL.kept
      have hd21 : vals 21 = (.bool true) := hJ 21 hl.1
      have hd24 : vals 24 = (.bool a) := hJ 24 hl.2.1
      cases a with
      | true =>
        simp -dsimp [setE, hd21, hd24, e1, e3, F3.all, F1.all]
        exact SRv.put (by decide) (Inv.step ⟨LL, hJ⟩ (Kept.refl f) rfl)
      | false =>
        have hd27 : vals 27 = .bool (!asksT u) := hJ 27 hl.2.2
        have hau : asksT u = false := by
          cases h : asksT u with
          | false => rfl
          | true => rw [hasks h] at ha; cases ha
        simp -dsimp [setE, hd21, hd24, e1, e3, F3.all, F1.all, hd27, hau]
        exact SRv.put (by decide) (Inv.step ⟨LL, hJ⟩ (Kept.refl f) rfl)
    · rintro L vals s' f ⟨LL, hJ⟩ hi hl
      simp only [allL, and_true] at hl
      have F3 := fields LL 0 rfl
      have F1 := fields LL 1 rfl
      have nu := hu.kept LL.kept
      have nt := ht.kept LL.kept
      have hd21 : vals 21 = (.bool true) := hJ 21 hl.1
      have hd28 : vals 28 = (.bool true) := hJ 28 hl.2
      simp -dsimp [setE, hd21, hd28, e1, e3, F3.all, F1.all]
      exact SRv.put (by decide) (Inv.step ⟨LL, hJ⟩ (Kept.refl f) rfl)
    · rintro L vals s' f ⟨LL, hJ⟩ hi hl
      simp only [allL, and_true] at hl
      have F3 := fields LL 0 rfl
      have F1 := fields LL 1 rfl
      have nu := hu.kept LL.kept
      have nt := ht.kept LL.kept
      have hd29 : vals 29 = (.bool true) := hJ 29 hl
      simp -dsimp [setE, hd29, e1, e3, F3.all, F1.all]
      exact SRv.put (by decide) (Inv.step ⟨LL, hJ⟩ (Kept.refl f) rfl)
  · rintro L vals s' f hL ⟨LL, hJ⟩
    have h30 : vals 30 = .bool true := hJ 30 (hL 30 (by simp))
    exact hnext _ _ (by simp [setE, h30]) LL.kept
  · rintro v f s' f' hn hd he hx
    exact hx.elim
end Go.Proofs.Ytgpfgcbolinncaa.Abs
set_option linter.unusedVariables false
set_option linter.unusedSimpArgs false
namespace Go.Proofs.Ytgpfgcbolinncaa.Abs
open Go Go.RowKit

theorem fn3 : fnOf Try.prog 3 = some ((Try.f3.body.getD .skip), Try.f3.ntmps, Try.f3.results) := rfl
set_option maxHeartbeats 4000000 in
theorem fold_run {t : Tree} {v : Value} {s : ST} (hv : NodeV s.heap t v) (hc : cnt t < 2 ^ 40) : Does Try.prog 3 #[v] s (fun r s' => r = .ret (.bool true)) := by
  refine Does.pre fun hf => ?_
  obtain ⟨op, kind, vk, bits, pos, attr, ts, sl, e, rfl, hA⟩ := hv.open_
  refine Does.code known0 fn3 [] (by kernel_rfl) ?_
  have draw := @fold_draw
  dsimp only [Try.f3, Option.getD_some, codeAt, opsOf] at draw
  dsimp only [Try.f3, Option.getD_some, undraw, noId, cond_true, cond_false, frOf]
  simp -dsimp [envOf]
  refine x_box (Loc.nil hf) (by rfl) fun n1 s1 L1 => ?_
  have F := fields L1 0 rfl
  simp -dsimp [F.all]
  refine Does.mono (node_run t s.heap _ s1 (fun n hn => L1.kept.find hn) hv hc) ?_
  rintro _ s3 f3 ⟨K3, H2, u, v2, rfl, le2, sub2, new2, fo, nv2⟩
  obtain ⟨b3, Kb3, L3, fb3⟩ := (L1.keep K3).rebase
  have subb : Sub H2 b3 := by
    intro n hn
    rw [fb3, if_neg, sub2 n hn]
    intro hm
    have hs : s.heap.find n = none := L1.new n hm
    have h1 := new2 n hn hs
    obtain ⟨z, hz, hnz⟩ := mem_namesOf.1 hm
    obtain ⟨o, ho⟩ := LE.owned (L1.own z hz) hnz
    rw [Own.find ho] at h1
    cases h1
  have nu : NodeV b3.heap u v2 := nv2.keep subb
  have nt := hv.kept Kb3
  obtain ⟨op2, kind2, vk2, bits2, pos2, attr2, ts2, sl2, e2, rfl, hA2⟩ := nv2.open_
  simp -dsimp
  refine x_alloc L3 zero27 fun n3 s4 L4 => ?_
  simp -dsimp
  refine x_store L4 0 rfl (storeTo27 _ rfl _ _ hA2.cell _ _ _ _) fun s5 L5 => ?_
  simp -dsimp
  refine draw (asksT t) rfl fo hc nt nu L5 (by simp) (by simp) ?_
  intro env' s6 h2 K6
  simp -dsimp [h2]
end Go.Proofs.Ytgpfgcbolinncaa.Abs
