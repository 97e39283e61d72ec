/- law25.ProveChains: it always says yes. -/
import Derived.Test.YtgpfgcbolinncaaGreatZ11
set_option linter.unusedVariables false
set_option linter.unusedSimpArgs false
namespace Go.Proofs.YtgpfgcbolinncaaGreat.Abs
open Go Go.RowKit

theorem fit_foldl (ts : List Tree) (t : Tree) (h : Fit t) (k : ∀ x ∈ ts, Fit x) : Fit (ts.foldl andT t) := by
  induction ts generalizing t with
  | nil => exact h
  | cons a r ih =>
    refine ih _ ?_ fun x hx => k x (by simp [hx])
    exact .mk _ _ _ _ _ _ _ (by simp) (by simpa using ⟨h, k a (by simp)⟩)
theorem fit_chain {ts : List Tree} (h : FitL ts) : Fit (chainT ts) := by
  cases ts with
  | nil => exact .mk _ _ _ _ _ _ _ (by simp) (by simp)
  | cons t r => exact fit_foldl r t (h.each t (by simp)) fun x hx => h.each x (by simp [hx])
theorem fn3 : fnOf Tryz.prog 3 = some ((Tryz.f3.body.getD .skip), Tryz.f3.ntmps, Tryz.f3.results) := by kernel_rfl
set_option maxHeartbeats 8000000 in
set_option maxRecDepth 10000 in
theorem chains_run {ts : List Tree} {ta tb : Tree} {lV aV bV : Value} {s : ST} (hl : ListV s.heap ts lV) (hcut : Cut ts lV) (ha : NodeV s.heap ta aV) (hb : NodeV s.heap tb bV) (hc : FitL ts) (hca : Fit ta) :
    Does Tryz.prog 3 #[lV, aV, bV] s (fun r s' => r = .ret (.bool true)) := by
  refine Does.pre fun hf => ?_
  obtain ⟨opa, kinda, vka, bitsa, posa, attra, tsa, sla, ea, rfl, hAa⟩ := ha.open_
  obtain ⟨opb, kindb, vkb, bitsb, posb, attrb, tsb, slb, eb, rfl, hAb⟩ := hb.open_
  have hcc := fit_chain hc
  refine Does.code known0 fn3 [] (by kernel_rfl) ?_
  have draw := @chains_draw
  dsimp only [Tryz.f3, Option.getD_some, codeAt, opsOf] at draw
  dsimp only [Tryz.f3, Option.getD_some, undraw, noId, cond_true, cond_false, frOf]
  simp -dsimp [envOf]
  refine x_box (Loc.nil hf) (by rfl) fun n4 s1 L1 => ?_
  simp -dsimp
  refine x_box L1 (by rfl) fun n5 s2 L2 => ?_
  simp -dsimp
  have sub2 : Sub s.heap s2 := fun n hn => L2.kept.find hn
  refine Does.mono (twins_run (.mk 0 0 0 0 0 0 ts) _ _ _ _ _ _ _ rfl s.heap _ s2 sub2 hl hc) ?_
  rintro _ s3 f3 ⟨K3, H3, v3, rfl, le3, sub3, new3, nv3, ct3⟩
  obtain ⟨b3, Kb3, L3, fb3⟩ := (L2.keep K3).rebase
  have subb3 : Sub H3 b3 := Sub.base L2 (fun _ _ => rfl) new3 sub3 fb3
  simp -dsimp
  refine Does.mono (chain_run (subb3.kept L3.kept) nv3 ct3 hc) ?_
  rintro _ s4 f4 ⟨K4, H4, v4, rfl, le4, sub4, new4, nv4⟩
  obtain ⟨b4, Kb4, L4, fb4⟩ := (L3.keep K4).rebase
  have subb4 : Sub H4 b4 := Sub.base L3 subb3 new4 sub4 fb4
  obtain ⟨opx, kindx, vkx, bitsx, posx, attrx, tsx, slx, ex, rfl, hAx⟩ := nv4.open_
  simp -dsimp [ext0, ext1]
  refine x_alloc L4 zero27 fun n8 s5 L5 => ?_
  simp -dsimp
  refine x_store L5 0 rfl (storeTo27 _ rfl _ _ hAx.cell _ _ _ _) fun s6 L6 => ?_
  simp -dsimp
  refine Does.mono (chain2_run ts.length ts rfl H4 _ s6 (subb4.kept L6.kept) (hl.keep (le3.trans le4)) hcut hc) ?_
  rintro _ s7 f7 ⟨K7, H7, v7, rfl, le7, sub7, new7, nv7⟩
  obtain ⟨b7, Kb7, L7, fb7⟩ := (L6.keep K7).rebase
  have subb7 : Sub H7 b7 := Sub.base L6 subb4 new7 sub7 fb7
  obtain ⟨opy, kindy, vky, bitsy, posy, attry, tsy, sly, ey, rfl, hAy⟩ := nv7.open_
  simp -dsimp [ext0, ext1]
  refine x_alloc L7 zero27 fun n10 s8 L8 => ?_
  simp -dsimp
  refine x_store L8 0 rfl (storeTo27 _ rfl _ _ hAy.cell _ _ _ _) fun s9 L9 => ?_
  simp -dsimp
  have leH : HLe s.heap H7 := le3.trans (le4.trans le7)
  refine draw (okB := !ts.isEmpty) subb7 (nv4.keep le7) nv7 (ha.keep leH) (hb.keep leH) (nv3.keep (le4.trans le7)) (hl.keep leH) hcc hc hca L9 (by simp) (by simp) (by simp) (by simp) (by simp) (by simp) (by simp) (by simp) ?_
  intro env' s10 h6 K10
  simp -dsimp [h6]
end Go.Proofs.YtgpfgcbolinncaaGreat.Abs
