/- law25.ProveChains. (written by tools/z11.py) -/
import Derived.Test.YtgpfgcbolinncaaGreatZ10
import Derived.Test.YtgpfgcbolinncaaGreatZ8b
set_option linter.unusedVariables false
set_option linter.unusedSimpArgs false
namespace Go.Proofs.YtgpfgcbolinncaaGreat.Abs
open Go Go.RowKit

def specZ (okB : Bool) (xV yV inV lV aV bV : Value) (ta tb : Tree) (j : Nat) : Value := match j with
  | 0 => .bool true
  | 1 => .bool true
  | 2 => .bool okB
  | 3 => .bool okB
  | 4 => .bool true
  | 5 => .bool true
  | 6 => .bool true
  | 7 => xV
  | 8 => yV
  | 9 => .bool true
  | 10 => .bool true
  | 11 => .bool true
  | 12 => inV
  | 13 => lV
  | 14 => .bool true
  | 15 => .bool true
  | 16 => .bool true
  | 17 => aV
  | 18 => bV
  | 19 => .bool (alikeT ta tb)
  | 20 => aV
  | 21 => bV
  | 22 => .bool (alikeT ta tb)
  | 23 => .bool true
  | 24 => .bool true
  | 25 => .bool true
  | 26 => aV
  | 27 => aV
  | 28 => .bool true
  | 29 => .bool true
  | 30 => .bool true
  | _ => undef
def InvZ (b : ST) (l : List LE) (vs : Nat → Value) (L : Nat → Bool) (vals : Nat → Value) (s : ST) : Prop := Loc b s l ∧ ∀ j, L j = true → vals j = vs j
theorem InvZ.step {b : ST} {l : List LE} {vs : Nat → Value} {L : Nat → Bool} {vals : Nat → Value} {s s' : ST} (h : InvZ b l vs L vals s) (k : Kept s s') {i : Nat} {v : Value} (hv : v = vs i) : InvZ b l vs (updB L i) (updV vals i v) s' := by
  refine ⟨h.1.keep k, fun j hj => ?_⟩
  by_cases e : j = i
  · subst e
    simpa [updV] using hv
  · have : L j = true := by simpa [updB, e] using hj
    simpa [updV, e] using h.2 j this
theorem eqlB (xo yo : Operand) (a : Bool) : binA Tryz.prog .eql 4 xo yo (.bool a) (.bool a) = some (.bool true) := by
  unfold binA
  have h : pureRun Tryz.prog (do eqGuard .eql 4 xo yo (.bool a) (.bool a); binOp .eql 4 (.bool a) (.bool a)) = some (.bool true) := by
    cases a <;> kernel_rfl
  simp [fastBin, aggBin, plain, h]
set_option maxHeartbeats 8000000 in
set_option maxRecDepth 10000 in
theorem chains_draw {b s : ST} {H : Heap} {ts : List Tree} {tx ta tb : Tree} {okB : Bool} {n4 n5 n8 n10 : Nat} {inV lV : Value} {opa kinda vka bitsa posa attra opb kindb vkb bitsb posb attrb opx kindx vkx bitsx posx attrx opy kindy vky bitsy posy attry : Int} {sla slb slx sly : Value}
    (sub : Sub H b) (hx : NodeV H tx (nodeVal opx kindx slx vkx bitsx posx attrx)) (hy : NodeV H tx (nodeVal opy kindy sly vky bitsy posy attry)) (ha : NodeV H ta (nodeVal opa kinda sla vka bitsa posa attra)) (hb : NodeV H tb (nodeVal opb kindb slb vkb bitsb posb attrb))
    (hin : ListV H ts inV) (hl : ListV H ts lV) (hcx : Fit tx) (hcl : FitL ts) (hca : Fit ta)
    (L0 : Loc b s [.obj n10 (.cells (nodeCells opy kindy sly vky bitsy posy attry) 27), .obj n8 (.cells (nodeCells opx kindx slx vkx bitsx posx attrx) 27), .obj n5 (.cells (nodeCells opb kindb slb vkb bitsb posb attrb) 27), .obj n4 (.cells (nodeCells opa kinda sla vka bitsa posa attra) 27)]) {env : Trie Value}
    (e0 : env.get 0 = some lV) (e4 : env.get 4 = some (.pointer (some ⟨n4, 0, none⟩))) (e5 : env.get 5 = some (.pointer (some ⟨n5, 0, none⟩))) (e7 : env.get 7 = some inV) (e8 : env.get 8 = some (.pointer (some ⟨n8, 0, none⟩))) (e10 : env.get 10 = some (.pointer (some ⟨n10, 0, none⟩)))
    (e9 : env.get 9 = some (.bool okB)) (e11 : env.get 11 = some (.bool okB)) {Q : SR → ST → Prop}
    (hnext : ∀ env' s', env'.get 6 = some (.bool true) → Kept b s' → Q (.next ⟨54, env', []⟩) s') :
    wDraw Tryz.prog (opsOf (codeAt [true, true, true, true, false] (Tryz.f3.body.getD .skip))).toArray ⟨54, env, []⟩ s Q := by
  dsimp only [Tryz.f3, Option.getD_some, codeAt, opsOf]
  refine w_draw [[], [(0, 24)], [(1, 25)], [(1, 25)], [(1, 25), (2, 26), (3, 27)], [(1, 25), (4, 28)], [(5, 29)], [(6, 30)], [(6, 30)], [(6, 30), (7, 31), (8, 32)], [(6, 30), (9, 33)], [(10, 34)], [(11, 35)], [(11, 35)], [(11, 35), (12, 36), (13, 37)], [(11, 35), (14, 38)], [(15, 39)], [(16, 40)], [(16, 40)], [(16, 40), (17, 41), (18, 42)], [(16, 40)], [(16, 40)], [(16, 40), (20, 44), (21, 45)], [(16, 40), (19, 43), (22, 46)], [(16, 40), (23, 47)], [(24, 48)], [(25, 49)], [(25, 49)], [(25, 49), (26, 50), (27, 51)], [(25, 49), (28, 52)], [(29, 53)]]
    [(0, 24), (1, 25), (2, 26), (3, 27), (4, 28), (5, 29), (6, 30), (7, 31), (8, 32), (9, 33), (10, 34), (11, 35), (12, 36), (13, 37), (14, 38), (15, 39), (16, 40), (17, 41), (18, 42), (19, 43), (20, 44), (21, 45), (22, 46), (23, 47), (24, 48), (25, 49), (26, 50), (27, 51), (28, 52), (29, 53), (30, 6)] (by kernel_rfl)
    (InvZ b [.obj n10 (.cells (nodeCells opy kindy sly vky bitsy posy attry) 27), .obj n8 (.cells (nodeCells opx kindx slx vkx bitsx posx attrx) 27), .obj n5 (.cells (nodeCells opb kindb slb vkb bitsb posb attrb) 27), .obj n4 (.cells (nodeCells opa kinda sla vka bitsa posa attra) 27)] (specZ okB (nodeVal opx kindx slx vkx bitsx posx attrx) (nodeVal opy kindy sly vky bitsy posy attry) inV lV (nodeVal opa kinda sla vka bitsa posa attra) (nodeVal opb kindb slb vkb bitsb posb attrb) ta tb)) (fun _ _ => False) ⟨L0, fun j hj => by cases hj⟩ L0.free ?_ ?_ ?_
  · refine ⟨?_, ?_, ?_, ?_, ?_, ?_, ?_, ?_, ?_, ?_, ?_, ?_, ?_, ?_, ?_, ?_, ?_, ?_, ?_, ?_, ?_, ?_, ?_, ?_, ?_, ?_, ?_, ?_, ?_, ?_, ?_, trivial⟩
    · rintro L vals s' f ⟨LL, hJ⟩ hi hl'
      simp only [allL, and_true] at hl'
      have sk := sub.kept LL.kept
      simp -dsimp [setE, e0, e4, e5, e7, e8, e9, e10, e11]
      refine Does.mono (awake_run s') ?_
      rintro _ s2 f2 ⟨rfl, rfl⟩
      simp -dsimp [setE, e0, e4, e5, e7, e8, e9, e10, e11]
      exact SRv.put (by decide) (InvZ.step ⟨LL, hJ⟩ (Kept.refl f) rfl)
    · rintro L vals s' f ⟨LL, hJ⟩ hi hl'
      simp only [allL, and_true] at hl'
      have hd0 : vals 0 = .bool true := hJ 0 hl'
      simp -dsimp [setE, hd0, e0, e4, e5, e7, e8, e9, e10, e11]
      exact SRv.put (by decide) (InvZ.step ⟨LL, hJ⟩ (Kept.refl f) rfl)
    · rintro L vals s' f ⟨LL, hJ⟩ hi hl'
      simp only [allL, and_true] at hl'
      have hd1 : vals 1 = .bool true := hJ 1 hl'
      simp -dsimp [setE, hd1, e0, e4, e5, e7, e8, e9, e10, e11]
      exact SRv.put (by decide) (InvZ.step ⟨LL, hJ⟩ (Kept.refl f) rfl)
    · rintro L vals s' f ⟨LL, hJ⟩ hi hl'
      simp only [allL, and_true] at hl'
      have hd1 : vals 1 = .bool true := hJ 1 hl'
      simp -dsimp [setE, hd1, e0, e4, e5, e7, e8, e9, e10, e11]
      exact SRv.put (by decide) (InvZ.step ⟨LL, hJ⟩ (Kept.refl f) rfl)
    · rintro L vals s' f ⟨LL, hJ⟩ hi hl'
      simp only [allL, and_true] at hl'
      have hd1 : vals 1 = .bool true := hJ 1 hl'.1
      have hd2 : vals 2 = .bool okB := hJ 2 hl'.2.1
      have hd3 : vals 3 = .bool okB := hJ 3 hl'.2.2
      simp -dsimp [setE, hd1, hd2, hd3, e0, e4, e5, e7, e8, e9, e10, e11, eqlB]
      exact SRv.put (by decide) (InvZ.step ⟨LL, hJ⟩ (Kept.refl f) rfl)
    · rintro L vals s' f ⟨LL, hJ⟩ hi hl'
      simp only [allL, and_true] at hl'
      have hd1 : vals 1 = .bool true := hJ 1 hl'.1
      have hd4 : vals 4 = .bool true := hJ 4 hl'.2
      simp -dsimp [setE, hd1, hd4, e0, e4, e5, e7, e8, e9, e10, e11]
      exact SRv.put (by decide) (InvZ.step ⟨LL, hJ⟩ (Kept.refl f) rfl)
    · rintro L vals s' f ⟨LL, hJ⟩ hi hl'
      simp only [allL, and_true] at hl'
      have hd5 : vals 5 = .bool true := hJ 5 hl'
      simp -dsimp [setE, hd5, e0, e4, e5, e7, e8, e9, e10, e11]
      exact SRv.put (by decide) (InvZ.step ⟨LL, hJ⟩ (Kept.refl f) rfl)
    · rintro L vals s' f ⟨LL, hJ⟩ hi hl'
      simp only [allL, and_true] at hl'
      have hd6 : vals 6 = .bool true := hJ 6 hl'
      simp -dsimp [setE, hd6, e0, e4, e5, e7, e8, e9, e10, e11, (fields LL 1 rfl).all]
      exact SRv.put (by decide) (InvZ.step ⟨LL, hJ⟩ (Kept.refl f) rfl)
    · rintro L vals s' f ⟨LL, hJ⟩ hi hl'
      simp only [allL, and_true] at hl'
      have hd6 : vals 6 = .bool true := hJ 6 hl'
      simp -dsimp [setE, hd6, e0, e4, e5, e7, e8, e9, e10, e11, (fields LL 0 rfl).all]
      exact SRv.put (by decide) (InvZ.step ⟨LL, hJ⟩ (Kept.refl f) rfl)
    · rintro L vals s' f ⟨LL, hJ⟩ hi hl'
      simp only [allL, and_true] at hl'
      have hd6 : vals 6 = .bool true := hJ 6 hl'.1
      have hd7 : vals 7 = (nodeVal opx kindx slx vkx bitsx posx attrx) := hJ 7 hl'.2.1
      have hd8 : vals 8 = (nodeVal opy kindy sly vky bitsy posy attry) := hJ 8 hl'.2.2
      have sk := sub.kept LL.kept
      have nx : NodeV s'.heap tx _ := hx.keep sk
      have ny : NodeV s'.heap tx _ := hy.keep sk
      simp -dsimp [setE, hd6, hd7, hd8, e0, e4, e5, e7, e8, e9, e10, e11]
      refine Does.mono (one_run nx ny hcx) ?_
      rintro _ s2 f2 ⟨rfl, K2⟩
      simp -dsimp [setE, hd6, hd7, hd8, e0, e4, e5, e7, e8, e9, e10, e11]
      exact SRv.put (by decide) (InvZ.step ⟨LL, hJ⟩ K2 rfl)
    · rintro L vals s' f ⟨LL, hJ⟩ hi hl'
      simp only [allL, and_true] at hl'
      have hd6 : vals 6 = .bool true := hJ 6 hl'.1
      have hd9 : vals 9 = .bool true := hJ 9 hl'.2
      simp -dsimp [setE, hd6, hd9, e0, e4, e5, e7, e8, e9, e10, e11]
      exact SRv.put (by decide) (InvZ.step ⟨LL, hJ⟩ (Kept.refl f) rfl)
    · rintro L vals s' f ⟨LL, hJ⟩ hi hl'
      simp only [allL, and_true] at hl'
      have hd10 : vals 10 = .bool true := hJ 10 hl'
      simp -dsimp [setE, hd10, e0, e4, e5, e7, e8, e9, e10, e11]
      exact SRv.put (by decide) (InvZ.step ⟨LL, hJ⟩ (Kept.refl f) rfl)
    · rintro L vals s' f ⟨LL, hJ⟩ hi hl'
      simp only [allL, and_true] at hl'
      have hd11 : vals 11 = .bool true := hJ 11 hl'
      simp -dsimp [setE, hd11, e0, e4, e5, e7, e8, e9, e10, e11]
      exact SRv.put (by decide) (InvZ.step ⟨LL, hJ⟩ (Kept.refl f) rfl)
    · rintro L vals s' f ⟨LL, hJ⟩ hi hl'
      simp only [allL, and_true] at hl'
      have hd11 : vals 11 = .bool true := hJ 11 hl'
      simp -dsimp [setE, hd11, e0, e4, e5, e7, e8, e9, e10, e11]
      exact SRv.put (by decide) (InvZ.step ⟨LL, hJ⟩ (Kept.refl f) rfl)
    · rintro L vals s' f ⟨LL, hJ⟩ hi hl'
      simp only [allL, and_true] at hl'
      have hd11 : vals 11 = .bool true := hJ 11 hl'.1
      have hd12 : vals 12 = inV := hJ 12 hl'.2.1
      have hd13 : vals 13 = lV := hJ 13 hl'.2.2
      have sk := sub.kept LL.kept
      have nin : ListV s'.heap ts inV := hin.keep sk
      have nl : ListV s'.heap ts lV := hl.keep sk
      simp -dsimp [setE, hd11, hd12, hd13, e0, e4, e5, e7, e8, e9, e10, e11]
      refine Does.mono (sames_run (.mk 0 0 0 0 0 0 ts) _ _ _ _ _ _ _ rfl _ _ s' nin nl hcl) ?_
      rintro _ s2 f2 ⟨rfl, K2⟩
      simp -dsimp [setE, hd11, hd12, hd13, e0, e4, e5, e7, e8, e9, e10, e11]
      exact SRv.put (by decide) (InvZ.step ⟨LL, hJ⟩ K2 rfl)
    · rintro L vals s' f ⟨LL, hJ⟩ hi hl'
      simp only [allL, and_true] at hl'
      have hd11 : vals 11 = .bool true := hJ 11 hl'.1
      have hd14 : vals 14 = .bool true := hJ 14 hl'.2
      simp -dsimp [setE, hd11, hd14, e0, e4, e5, e7, e8, e9, e10, e11]
      exact SRv.put (by decide) (InvZ.step ⟨LL, hJ⟩ (Kept.refl f) rfl)
    · rintro L vals s' f ⟨LL, hJ⟩ hi hl'
      simp only [allL, and_true] at hl'
      have hd15 : vals 15 = .bool true := hJ 15 hl'
      simp -dsimp [setE, hd15, e0, e4, e5, e7, e8, e9, e10, e11]
      exact SRv.put (by decide) (InvZ.step ⟨LL, hJ⟩ (Kept.refl f) rfl)
    · rintro L vals s' f ⟨LL, hJ⟩ hi hl'
      simp only [allL, and_true] at hl'
      have hd16 : vals 16 = .bool true := hJ 16 hl'
      simp -dsimp [setE, hd16, e0, e4, e5, e7, e8, e9, e10, e11, (fields LL 3 rfl).all]
      exact SRv.put (by decide) (InvZ.step ⟨LL, hJ⟩ (Kept.refl f) rfl)
    · rintro L vals s' f ⟨LL, hJ⟩ hi hl'
      simp only [allL, and_true] at hl'
      have hd16 : vals 16 = .bool true := hJ 16 hl'
      simp -dsimp [setE, hd16, e0, e4, e5, e7, e8, e9, e10, e11, (fields LL 2 rfl).all]
      exact SRv.put (by decide) (InvZ.step ⟨LL, hJ⟩ (Kept.refl f) rfl)
    · rintro L vals s' f ⟨LL, hJ⟩ hi hl'
      simp only [allL, and_true] at hl'
      have hd16 : vals 16 = .bool true := hJ 16 hl'.1
      have hd17 : vals 17 = (nodeVal opa kinda sla vka bitsa posa attra) := hJ 17 hl'.2.1
      have hd18 : vals 18 = (nodeVal opb kindb slb vkb bitsb posb attrb) := hJ 18 hl'.2.2
      have sk := sub.kept LL.kept
      have na : NodeV s'.heap ta _ := ha.keep sk
      have nb : NodeV s'.heap tb _ := hb.keep sk
      simp -dsimp [setE, hd16, hd17, hd18, e0, e4, e5, e7, e8, e9, e10, e11]
      refine Does.mono (alike_run ta tb _ _ s' na nb hca) ?_
      rintro _ s2 f2 ⟨rfl, K2⟩
      simp -dsimp [setE, hd16, hd17, hd18, e0, e4, e5, e7, e8, e9, e10, e11]
      exact SRv.put (by decide) (InvZ.step ⟨LL, hJ⟩ K2 rfl)
    · rintro L vals s' f ⟨LL, hJ⟩ hi hl'
      simp only [allL, and_true] at hl'
      have hd16 : vals 16 = .bool true := hJ 16 hl'
      simp -dsimp [setE, hd16, e0, e4, e5, e7, e8, e9, e10, e11, (fields LL 3 rfl).all]
      exact SRv.put (by decide) (InvZ.step ⟨LL, hJ⟩ (Kept.refl f) rfl)
    · rintro L vals s' f ⟨LL, hJ⟩ hi hl'
      simp only [allL, and_true] at hl'
      have hd16 : vals 16 = .bool true := hJ 16 hl'
      simp -dsimp [setE, hd16, e0, e4, e5, e7, e8, e9, e10, e11, (fields LL 2 rfl).all]
      exact SRv.put (by decide) (InvZ.step ⟨LL, hJ⟩ (Kept.refl f) rfl)
    · rintro L vals s' f ⟨LL, hJ⟩ hi hl'
      simp only [allL, and_true] at hl'
      have hd16 : vals 16 = .bool true := hJ 16 hl'.1
      have hd20 : vals 20 = (nodeVal opa kinda sla vka bitsa posa attra) := hJ 20 hl'.2.1
      have hd21 : vals 21 = (nodeVal opb kindb slb vkb bitsb posb attrb) := hJ 21 hl'.2.2
      have sk := sub.kept LL.kept
      have na : NodeV s'.heap ta _ := ha.keep sk
      have nb : NodeV s'.heap tb _ := hb.keep sk
      simp -dsimp [setE, hd16, hd20, hd21, e0, e4, e5, e7, e8, e9, e10, e11]
      refine Does.mono (alike2_run ta tb _ _ s' na nb hca) ?_
      rintro _ s2 f2 ⟨rfl, K2⟩
      simp -dsimp [setE, hd16, hd20, hd21, e0, e4, e5, e7, e8, e9, e10, e11]
      exact SRv.put (by decide) (InvZ.step ⟨LL, hJ⟩ K2 rfl)
    · rintro L vals s' f ⟨LL, hJ⟩ hi hl'
      simp only [allL, and_true] at hl'
      have hd16 : vals 16 = .bool true := hJ 16 hl'.1
      have hd19 : vals 19 = .bool (alikeT ta tb) := hJ 19 hl'.2.1
      have hd22 : vals 22 = .bool (alikeT ta tb) := hJ 22 hl'.2.2
      simp -dsimp [setE, hd16, hd19, hd22, e0, e4, e5, e7, e8, e9, e10, e11, eqlB]
      exact SRv.put (by decide) (InvZ.step ⟨LL, hJ⟩ (Kept.refl f) rfl)
    · rintro L vals s' f ⟨LL, hJ⟩ hi hl'
      simp only [allL, and_true] at hl'
      have hd16 : vals 16 = .bool true := hJ 16 hl'.1
      have hd23 : vals 23 = .bool true := hJ 23 hl'.2
      simp -dsimp [setE, hd16, hd23, e0, e4, e5, e7, e8, e9, e10, e11]
      exact SRv.put (by decide) (InvZ.step ⟨LL, hJ⟩ (Kept.refl f) rfl)
    · rintro L vals s' f ⟨LL, hJ⟩ hi hl'
      simp only [allL, and_true] at hl'
      have hd24 : vals 24 = .bool true := hJ 24 hl'
      simp -dsimp [setE, hd24, e0, e4, e5, e7, e8, e9, e10, e11]
      exact SRv.put (by decide) (InvZ.step ⟨LL, hJ⟩ (Kept.refl f) rfl)
    · rintro L vals s' f ⟨LL, hJ⟩ hi hl'
      simp only [allL, and_true] at hl'
      have hd25 : vals 25 = .bool true := hJ 25 hl'
      simp -dsimp [setE, hd25, e0, e4, e5, e7, e8, e9, e10, e11, (fields LL 3 rfl).all]
      exact SRv.put (by decide) (InvZ.step ⟨LL, hJ⟩ (Kept.refl f) rfl)
    · rintro L vals s' f ⟨LL, hJ⟩ hi hl'
      simp only [allL, and_true] at hl'
      have hd25 : vals 25 = .bool true := hJ 25 hl'
      simp -dsimp [setE, hd25, e0, e4, e5, e7, e8, e9, e10, e11, (fields LL 3 rfl).all]
      exact SRv.put (by decide) (InvZ.step ⟨LL, hJ⟩ (Kept.refl f) rfl)
    · rintro L vals s' f ⟨LL, hJ⟩ hi hl'
      simp only [allL, and_true] at hl'
      have hd25 : vals 25 = .bool true := hJ 25 hl'.1
      have hd26 : vals 26 = (nodeVal opa kinda sla vka bitsa posa attra) := hJ 26 hl'.2.1
      have hd27 : vals 27 = (nodeVal opa kinda sla vka bitsa posa attra) := hJ 27 hl'.2.2
      have sk := sub.kept LL.kept
      have na : NodeV s'.heap ta _ := ha.keep sk
      simp -dsimp [setE, hd25, hd26, hd27, e0, e4, e5, e7, e8, e9, e10, e11]
      refine Does.mono (alike_run ta ta _ _ s' na na hca) ?_
      rintro _ s2 f2 ⟨rfl, K2⟩
      rw [alikeT_refl]
      simp -dsimp [setE, hd25, hd26, hd27, e0, e4, e5, e7, e8, e9, e10, e11]
      exact SRv.put (by decide) (InvZ.step ⟨LL, hJ⟩ K2 rfl)
    · rintro L vals s' f ⟨LL, hJ⟩ hi hl'
      simp only [allL, and_true] at hl'
      have hd25 : vals 25 = .bool true := hJ 25 hl'.1
      have hd28 : vals 28 = .bool true := hJ 28 hl'.2
      simp -dsimp [setE, hd25, hd28, e0, e4, e5, e7, e8, e9, e10, e11]
      exact SRv.put (by decide) (InvZ.step ⟨LL, hJ⟩ (Kept.refl f) rfl)
    · rintro L vals s' f ⟨LL, hJ⟩ hi hl'
      simp only [allL, and_true] at hl'
      have hd29 : vals 29 = .bool true := hJ 29 hl'
      simp -dsimp [setE, hd29, e0, e4, e5, e7, e8, e9, e10, e11]
      exact SRv.put (by decide) (InvZ.step ⟨LL, hJ⟩ (Kept.refl f) rfl)
  · rintro L vals s' f hL ⟨LL, hJ⟩
    have h30 : vals 30 = .bool true := hJ 30 (hL 30 (by simp))
    exact hnext _ _ (by simp [setE, h30]) LL.kept
  · rintro v f s' f' hn hd he hx
    exact hx.elim
end Go.Proofs.YtgpfgcbolinncaaGreat.Abs
