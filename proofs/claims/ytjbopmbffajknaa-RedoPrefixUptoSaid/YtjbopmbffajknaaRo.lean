/- Redo: alive. -/
import Derived.Test.YtjbopmbffajknaaRn
set_option linter.unusedVariables false
set_option linter.unusedSimpArgs false
set_option maxRecDepth 100000
namespace Go.Proofs.Ytjbopmbffajknaa
open Go Go.Vc Go.Vault Go.Redo

theorem undPD : Go.Proofs.Try.prog.underlying 23 = some (.pointer (Go.Proofs.Try.prog.pointee 23)) := by kernel_rfl
theorem undPL : Go.Proofs.Try.prog.underlying 33 = some (.pointer (Go.Proofs.Try.prog.pointee 33)) := by kernel_rfl
set_option maxHeartbeats 2000000 in
theorem alive_spec (w : World) : Calls Go.Proofs.Try.prog 8 #[] w fun e w' => e = .returned (.bool true) ∧ Hp [] w w' [] := by
  obtain ⟨f1, f2, f3, f4, f5, f6, f7, f8, f9, f10, f11, f12, f13⟩ := aliveF
  have nlen : ¬ 2 ≤ (Dk.new 40).size nLog := by
    have : (Dk.new 40).size nLog = -1 := by kernel_rfl
    omega
  apply alive.ok; unfold alive.vc
  have H := Hp.start w
  refine callV (new_spec 40 w) ?_
  rintro e w1 ⟨x, rfl, hx, H'⟩
  replace H := H.ext H'; clear H'
  rw [List.append_nil] at H
  have fit0 := new_fit 40 0
  refine ⟨_, rfl, _, eqv_ptrE undPD, br_false ?_⟩
  have ho := open_spec x (Dk.new 40) hx fit0 (by omega) nLog w1 H.std
  have fit1 := openP_fit fit0 nLog
  refine callV ho ?_
  clear ho
  rintro e w2 ⟨x1, hx1b, hx1, (⟨hr, _⟩ | ⟨_, y1, LB, rfl, hLB, H'⟩)⟩
  · exact absurd f1 hr
  rw [hLB nlen] at H'; clear hLB nlen
  replace H := H.useAll H'; clear H'
  change Hp [] w w2 (lgA y1 x.b aO1.2.2 :: lgT y1 aO1.2.2 :: ([lgB y1 aO1.2.2] ++ dkL x1 aO1.1)) at H
  change x1.Ok aO1.1 at hx1
  change aO1.1.Fit _ at fit1
  refine ⟨_, _, rfl, br_not (fun h => by cases h) (fun _ => ⟨_, eqv_ptrE undPL, br_false ?_⟩)⟩
  -- Append
  have H1 : Hp [] w w2 ([lgA y1 x.b aO1.2.2, lgT y1 aO1.2.2, lgB y1 aO1.2.2] ++ dkL x1 aO1.1) := H
  have hap := lappend_spec y1 x.b aO1.2.2 sA (by omega) (by omega) w2 H1.std1
  refine callV hap ?_
  clear hap
  rintro e w3 ⟨⟨i3, rfl⟩, y2, hy2, H'⟩
  replace H1 := H1.useL H'; clear H' H
  change Hp [] w w3 ([lgA y2 x.b aL2, lgT y2 aL2, lgB y2 aL2] ++ dkL x1 aO1.1) at H1
  refine ⟨_, _, rfl, ?_⟩
  -- Flush
  have H2 : Hp [] w w3 (lgL y2 x1 aO1.1 aL2) := by
    rw [← lgL_b hx1b]
    exact H1.perm (perm_cnt fun ff gg h0 hc ha hpm => by simp only [ha, hc, h0]; omega)
  clear H1
  have hfl := lflush_spec y2 x1 aO1.1 aL2 hx1 fit1 (by omega) (by omega) (by omega) (by omega) w3 H2.std
  rw [hy2] at hfl
  have fit2 := flushP_fit fit1 aL2
  refine callV hfl ?_
  clear hfl
  rintro e w4 ⟨rfl, x2, y3, hx2b, hy3, hx2, H'⟩
  replace H2 := H2.useAll H'; clear H'
  change Hp [] w w4 (lgL y3 x2 aF.1 aF.2.1) at H2
  change x2.Ok aF.1 at hx2
  change aF.1.Fit _ at fit2
  refine ⟨_, rfl, ?_⟩
  -- Append
  have hxb2 : x2.b = x.b := by rw [hx2b, hx1b]
  have hyb3 : y3.b = y1.b := by rw [hy3, hy2]
  have H3 : Hp [] w w4 ([lgA y3 x2.b aF.2.1, lgT y3 aF.2.1, lgB y3 aF.2.1] ++ dkL x2 aF.1) := by
    rw [lgL] at H2
    exact H2.perm (perm_cnt fun ff gg h0 hc ha hpm => by simp only [ha, hc, h0]; omega)
  clear H2
  have hap := lappend_spec y3 x2.b aF.2.1 sB (by omega) (by omega) w4 H3.std1
  rw [hyb3] at hap
  refine callV hap ?_
  clear hap
  rintro e w5 ⟨⟨i5, rfl⟩, y4, hy4, H'⟩
  replace H3 := H3.useL H'; clear H'
  change Hp [] w w5 ([lgA y4 x2.b aL4, lgT y4 aL4, lgB y4 aL4] ++ dkL x2 aF.1) at H3
  refine ⟨_, _, rfl, ?_⟩
  -- Crash
  have H4 : Hp [] w w5 (dkL x2 aF.1 ++ [lgA y4 x2.b aL4, lgT y4 aL4, lgB y4 aL4]) := H3.perm List.perm_append_comm
  clear H3
  have hcr := crash_spec x2 aF.1 hx2 fit2.few (by omega) 0 none 0 [] w5 H4.std1 (fun W hW => by intro j v hj; simp [ints] at hj) (Nat.le_refl _)
  rw [hxb2] at hcr
  refine callV hcr ?_
  clear hcr
  rintro e w6 ⟨z, rfl, hz, H'⟩
  replace H4 := H4.useL H'; clear H'
  refine ⟨_, rfl, _, eqv_ptrE undPD, br_false ?_⟩
  have fit3 : aD3.Fit _ := Fit.crash fit2 hx2.dk 0 []
  change z.Ok aD3 at hz
  rw [List.append_assoc] at H4
  change Hp [] w w6 (dkL z aD3 ++ _) at H4
  have ho := open_spec z aD3 hz fit3 (by omega) nLog w6 H4.std1
  refine callV ho ?_
  clear ho
  rintro e w7 ⟨z1, hz1b, hz1, (⟨hr, _⟩ | ⟨_, y5, LB, rfl, _, H'⟩)⟩
  · exact absurd f12 hr
  replace H4 := H4.useL H'; clear H'
  change Hp [] w w7 ((lgA y5 z.b aO2.2.2 :: lgT y5 aO2.2.2 :: (LB ++ dkL z1 aO2.1)) ++ _) at H4
  refine ⟨_, _, rfl, ?_⟩
  have f7' : (flushP aO1.1 aL2).2.2 = 0 := f7
  rw [f7']
  refine br_true (br_true ⟨true, eqv_ptrN undPL, br_true ?_⟩)
  have H5 : Hp [] w w7 ([lgA y5 z.b aO2.2.2, lgT y5 aO2.2.2] ++ ([lgA y4 x2.b aL4] ++ (LB ++ (dkL z1 aO2.1 ++ (dkL x2 aF.1 ++ [lgT y4 aL4, lgB y4 aL4]))))) := H4.perm (perm_cnt fun ff gg h0 hc ha hpm => by simp only [ha, hc, h0]; omega)
  clear H4
  refine callV (lall_spec y5 z.b aO2.2.2 (by rw [f13]; simp) w7 H5.std1) ?_
  rintro e w8 ⟨a8, c8, rfl, H'⟩
  replace H5 := H5.ext1 H'; clear H'
  refine ⟨_, _, _, rfl, ?_⟩
  intro b w9 hn; replace H5 := H5.new (cs := [.string ⟨#[97]⟩]) (by exact ⟨rfl, rfl, rfl, rfl⟩) hn; clear hn
  have hs := same_spec a8 c8 aO2.2.2.all (some ⟨b, 0, none⟩) 1 [sA] (by rw [f13]; simp) w9 (H5.ownA (e := 9) (.tail _ (.head _))).cells (H5.blk (.head _)).cells
  refine callV hs ?_
  clear hs
  rintro e w10 ⟨rfl, H'⟩
  replace H5 := H5.ext0 H'; clear H'
  rw [f13]
  refine ⟨_, rfl, br_mk (fun _ => ?_) (fun h => by simp at h)⟩
  have H6 : Hp [] w w10 ([lgA y4 x2.b aL4] ++ []) := by
    have h7 := H5.drop.drop.drop.drop
    exact (Hp.takeL (L := [lgA y4 x2.b aL4]) h7).perm (by simp)
  have hln := llen_spec y4 x2.b aL4 w10 H6.std1
  rw [hy4, hyb3] at hln
  refine callV hln ?_
  clear hln
  rintro e w11 ⟨rfl, H'⟩
  replace H6 := H6.ext0 H'; clear H'
  rw [f10]
  refine ⟨_, rfl, br_true ?_⟩
  have hfm := lfirm_spec y4 x2.b aL4 w11 H6.std1
  rw [hy4, hyb3] at hfm
  refine callV hfm ?_
  clear hfm
  rintro e w12 ⟨rfl, H'⟩
  replace H6 := H6.ext0 H'; clear H'
  rw [f11]
  exact ⟨_, rfl, rfl, H6.done⟩
end Go.Proofs.Ytjbopmbffajknaa
