/- Press: Export. -/
import Derived.Test.YtdpkamajecmebaaQa
set_option linter.unusedVariables false
set_option linter.unusedSimpArgs false
set_option maxRecDepth 100000
namespace Go.Proofs.Ytdpkamajecmebaa
open Go Go.Vc Go.Vault Go.Redo Go.Press

variable {B : List Nat} {w0 w w' : World} {L M : List Asn} {a b : Asn}
theorem _root_.Go.Vc.Hp.useT (H : Hp B w0 w (a :: L)) (H' : Hp (feet L) w w' M) : Hp B w0 w' (a :: M) :=
  (Hp.useL (L1 := L) (L2 := [a]) (H.perm (List.perm_append_comm (l₁ := [a]) (l₂ := L))) H').perm (List.perm_append_comm (l₁ := M) (l₂ := [a]))
theorem _root_.Go.Vc.Hp.useT2 (H : Hp B w0 w (a :: b :: L)) (H' : Hp (feet L) w w' M) : Hp B w0 w' (a :: b :: M) :=
  (Hp.useL (L1 := L) (L2 := [a, b]) (H.perm (List.perm_append_comm (l₁ := [a, b]) (l₂ := L))) H').perm (List.perm_append_comm (l₁ := M) (l₂ := [a, b]))
theorem sectors_spec (t : ByteArray) (ht : t.size ≤ 1048576) (w : World) : Calls Go.Proofs.Try.prog 31 #[.string t] w fun e w' => ∃ fb a c, e = .returned (.func (.func 60) #[] #[.pointer (some ⟨fb, 0, none⟩)]) ∧ Hp [] w w' [.blk fb [.slice a t.size c] 46, .own 5 1 a t.size c (byteCells t)] := by
  apply sectors.ok; unfold sectors.vc
  have H := Hp.start w
  have hmax : maxLen = 9223372036854775807 := by simp [maxLen]
  refine Hp.s2b H (by exact ⟨rfl, rfl, rfl, rfl⟩) qundStr undBS undU8s (by omega) ?_
  clear H; intro a c w1 H
  intro b w2 hn
  replace H := H.new (cs := [.slice none 0 0]) (by exact ⟨rfl, rfl, rfl, rfl⟩) hn; clear hn
  refine Hp.st H (by exact ⟨rfl, rfl, rfl, rfl⟩) sclBS rfl rfl (by simp) rfl ?_
  clear H; intro w3 H
  exact ⟨b, a, c, rfl, H⟩
theorem byteCells_bcells (t : ByteArray) : byteCells t = bcells t.data.toList := rfl
theorem len_data (t : ByteArray) : t.data.toList.length = t.size := Array.length_toList

set_option maxHeartbeats 1000000 in
theorem export_spec (x : DW) (d : Dk) (hok : x.Ok d) {N : Nat} (fit : d.Fit N) (hN : N ≤ 400000) (n t : ByteArray) (w : World) (st : Std w (dkL x d)) :
    Calls Go.Proofs.Try.prog 13 #[.pointer (some ⟨x.b, 0, none⟩), .string n, .string t] w (DkPost x d w (.int .i64 (dexport d n t).2) (dexport d n t).1) := by
  apply export.ok; unfold export.vc DkPost
  have H := Hp.startL st
  generalize hB : feet (dkL x d) = B at H ⊢
  intro b w1 hn
  replace H := H.new (cs := [.pointer (some ⟨x.b, 0, none⟩)]) (by exact ⟨rfl, rfl, rfl, rfl⟩) hn; clear hn
  intro b1 w2 hn
  replace H := H.new (cs := [.int .i64 0]) (by exact ⟨rfl, rfl, rfl, rfl⟩) hn; clear hn
  refine callV (file_spec n w2) ?_
  rintro e w3 ⟨rfl, H'⟩
  replace H := H.ext0 H'; clear H'
  -- the answer is laid and told
  have fin : ∀ (w4 : World) (x4 : DW) (d4 : Dk) (i : Int), x4.b = x.b → x4.Ok d4 → Hp B w w4 (.blk b1 [.int .i64 0] 31 :: .blk b [.pointer (some ⟨x.b, 0, none⟩)] 23 :: dkL x4 d4) →
      ∃ w5, St Go.Proofs.Try.prog 31 w4 ⟨b1, 0, none⟩ (.int .i64 i) w5 ∧ ∃ j, Ld Go.Proofs.Try.prog 31 w5 ⟨b1, 0, none⟩ (.int .i64 j) ∧ (Ending.returned (.int .i64 j) = .returned (.int .i64 i) ∧ ∃ x', x'.b = x.b ∧ x'.Ok d4 ∧ Hp B w w5 (dkL x' d4)) := by
    intro w4 x4 d4 i hb hx H
    refine Hp.st H (by exact ⟨rfl, rfl, rfl, rfl⟩) sclEr rfl rfl (by simp) rfl ?_
    clear H; intro w5 H
    exact ⟨_, H.ld (cs := [.int .i64 i]) (by exact ⟨rfl, rfl, rfl, rfl⟩) sclEr (.head _) rfl, rfl, x4, hb, hx, H.drop.drop⟩
  refine ⟨_, _, rfl, br_not (fun h => ?_) (fun h => ?_)⟩
  · have e0 : dexport d n t = (d, 92) := by unfold dexport; rw [h]; rfl
    rw [e0]
    exact fin w3 x d 92 rfl hok H
  have hnr : nright n = true := h
  rw [h, if_pos rfl]
  refine br_dec (fun h1 => ?_) (fun h1 => ?_)
  · have e0 : dexport d n t = (d, 91) := by unfold dexport; rw [h, if_neg (by simp), if_pos (by omega)]
    rw [e0]
    exact fin w3 x d 91 rfl hok H
  have e0 : dexport d n t = thn (thn (thn (thn (d.create nPart) fun d => dsec t.data.toList (nsecs t.data.toList) 0 d) fun d => d.sync nPart) fun d => d.rename nPart (pfile n)) fun d => d.syncNames := by
    unfold dexport; rw [h, if_neg (by simp), if_neg (by omega)]
  rw [e0]; clear e0
  refine ⟨_, H.ld (cs := [.pointer (some ⟨x.b, 0, none⟩)]) (by exact ⟨rfl, rfl, rfl, rfl⟩) sclDP (.tail _ (.head _)) rfl, ?_⟩
  refine callV (create_spec x d hok (by have := fit.chs; omega) (by have := fit.files; omega) nPart w3 H.drop.drop.std) ?_
  rintro e w4 ⟨rfl, x1, hx1b, hx1, H'⟩
  replace H := H.useT2 H'; clear H'
  have fit1 := Fit.create fit nPart
  refine ⟨_, rfl, br_not (fun h2 => ?_) (fun h2 => ?_)⟩
  · have h2 := of_decide_eq_false h2
    rw [thn_no _ h2, thn_no _ h2, thn_no _ h2, thn_no _ h2]
    exact fin w4 x1 _ _ hx1b hx1 H
  have h2 := of_decide_eq_true h2
  rw [thn_yes _ h2]
  generalize (d.create nPart).1 = d1 at hx1 H fit1 ⊢
  have htl : t.data.toList.length ≤ 1048576 := by rw [len_data]; omega
  refine callV (sectors_spec t (by omega) w4) ?_
  rintro e w5 ⟨fb, a, c, rfl, H'⟩
  replace H := H.ext H'; clear H'
  have H0 : Hp B w w5 ((.blk b1 [.int .i64 0] 31 :: .blk b [.pointer (some ⟨x.b, 0, none⟩)] 23 :: dkL x1 d1) ++ [.blk fb [.slice a t.data.toList.length c] 46, .own 5 1 a t.data.toList.length c (bcells t.data.toList)]) := H.perm (List.perm_append_comm (l₁ := [_, _]))
  clear H
  -- the answer behind the range
  have fin2 : ∀ (w4 : World) (x4 : DW) (d4 : Dk) (i : Int) (D : Nat), x4.b = x.b → x4.Ok d4 → Hp B w w4 (objA D (.deferred (some [])) :: .blk b1 [.int .i64 0] 31 :: .blk b [.pointer (some ⟨x.b, 0, none⟩)] 23 :: dkL x4 d4) →
      ∃ w5, St Go.Proofs.Try.prog 31 w4 ⟨b1, 0, none⟩ (.int .i64 i) w5 ∧ ∃ w6, ShutD w5 D w6 ∧ ∃ j, Ld Go.Proofs.Try.prog 31 w6 ⟨b1, 0, none⟩ (.int .i64 j) ∧ (Ending.returned (.int .i64 j) = .returned (.int .i64 i) ∧ ∃ x', x'.b = x.b ∧ x'.Ok d4 ∧ Hp B w w6 (dkL x' d4)) := by
    intro w4 x4 d4 i D hb hx H
    refine Hp.st H.pull1 (by exact ⟨rfl, rfl, rfl, rfl⟩) sclEr rfl rfl (by simp) rfl ?_
    clear H; intro w5 H
    refine Hp.shut H.pull1 ?_
    clear H; intro w6 H
    exact ⟨_, H.ld (cs := [.int .i64 i]) (by exact ⟨rfl, rfl, rfl, rfl⟩) sclEr (.head _) rfl, rfl, x4, hb, hx, H.drop.drop⟩
  obtain ⟨T, hT⟩ : ∃ T, T = t.data.toList := ⟨_, rfl⟩
  rw [← hT] at H0 htl ⊢
  have hns : nsecs T ≤ 2049 := by unfold nsecs; omega
  refine ⟨_, rfl, _, _, _, rfl, ⟨_, _, Go.Proofs.Try.func60, rfl⟩, ?_⟩
  refine range_sectors (σ := DW × Dk) (ρ := DW × Dk × Int) fb a c T htl (fun _ y => .blk b1 [.int .i64 0] 31 :: .blk b [.pointer (some ⟨x.b, 0, none⟩)] 23 :: dkL y.1 y.2)
    (fun k y => y.1.b = x.b ∧ y.1.Ok y.2 ∧ y.2.Fit (N + 1 + k) ∧ dsec T (nsecs T - k) k y.2 = dsec T (nsecs T) 0 d1) (fun y => .blk b1 [.int .i64 y.2.2] 31 :: .blk b [.pointer (some ⟨x.b, 0, none⟩)] 23 :: dkL y.1 y.2.1)
    (fun y => y.1.b = x.b ∧ y.1.Ok y.2.1 ∧ ¬ y.2.2 = 0 ∧ dsec T (nsecs T) 0 d1 = (y.2.1, y.2.2)) (x1, d1) ⟨hx1b, hx1, fit1, rfl⟩ H0 ?_ ?_ ?_
  · rintro k ⟨y, dy⟩ hk ⟨hyb, hy, hfit, hd⟩ w' p cp T1 begin kn kr kx hp hbegin hkn hkr
    dsimp only at hyb hy hfit hd
    refine hbegin _ fun w2 H hc => ?_
    have hL : ∀ k ∈ feet (dkL y dy), k ∈ feet (.blk b1 [.int .i64 0] 31 :: .blk b [.pointer (some ⟨x.b, 0, none⟩)] 23 :: dkL y dy) := fun k hk => by
      rw [show (Asn.blk b1 [.int .i64 0] 31 :: .blk b [.pointer (some ⟨x.b, 0, none⟩)] 23 :: dkL y dy) = [.blk b1 [.int .i64 0] 31, .blk b [.pointer (some ⟨x.b, 0, none⟩)] 23] ++ dkL y dy from rfl, feet_append]
      exact List.mem_append_right _ hk
    have H1 : Hp B w w2 (dkL y dy ++ (.blk b1 [.int .i64 0] 31 :: .blk b [.pointer (some ⟨x.b, 0, none⟩)] 23 :: T1)) := H.perm (by (refine perm_cnt fun ff gg h0 hc ha hpm => ?_; simp only [ha, hc, h0]; omega))
    refine ⟨_, H1.ld (cs := [.pointer (some ⟨x.b, 0, none⟩)]) (by exact ⟨rfl, rfl, rfl, rfl⟩) sclDP (List.mem_append_right _ (.tail _ (.head _))) rfl, ?_⟩
    have hw := write_spec y dy hy hfit.few (by omega) (hfit.used (by omega)) nPart (k : Int) p cp (sec T k) w2 H1.std1 (fun W hW => hc W (hW.more hL)) hp
    rw [hyb] at hw
    refine callV hw ?_
    clear hw
    rintro e w3 ⟨rfl, y2, hy2b, hy2, H'⟩
    replace H1 := H1.useL H'; clear H' H
    have hstep : dsec T (nsecs T - k) k dy = thn (dy.write nPart (k : Int) (sec T k)) (dsec T (nsecs T - (k + 1)) (k + 1)) := by
      rw [show nsecs T - k = (nsecs T - (k + 1)) + 1 by omega]; rfl
    have fit2 := Fit.write hfit nPart (k : Int) (sec T k)
    refine ⟨_, rfl, br_not (fun h3 => ?_) (fun h3 => ?_)⟩
    · have h3 := of_decide_eq_false h3
      rw [hstep, thn_no _ h3] at hd
      have H2 : Hp B w w3 (.blk b1 [.int .i64 0] 31 :: (.blk b [.pointer (some ⟨x.b, 0, none⟩)] 23 :: (dkL y2 (dy.write nPart (k : Int) (sec T k)).1 ++ T1))) := H1.perm (by (refine perm_cnt fun ff gg h0 hc ha hpm => ?_; simp only [ha, hc, h0]; omega))
      refine Hp.st H2 (by exact ⟨rfl, rfl, rfl, rfl⟩) sclEr rfl rfl (by simp) rfl ?_
      intro w4 H3
      exact hkr w4 (y2, (dy.write nPart (k : Int) (sec T k)).1, (dy.write nPart (k : Int) (sec T k)).2) ⟨hy2b.trans hyb, hy2, h3, hd.symm⟩ H3
    · have h3 := of_decide_eq_true h3
      rw [hstep, thn_yes _ h3] at hd
      exact hkn w3 (y2, (dy.write nPart (k : Int) (sec T k)).1) ⟨hy2b.trans hyb, hy2, fit2.mono (by omega), hd⟩ (H1.perm (by (refine perm_cnt fun ff gg h0 hc ha hpm => ?_; simp only [ha, hc, h0]; omega)))
  · rintro ⟨y, dy⟩ D w' ⟨hyb, hy, hfit, hd⟩ H
    dsimp only at hyb hy hfit hd H ⊢
    rw [Nat.sub_self] at hd
    have hd0 : dsec T (nsecs T) 0 d1 = (dy, 0) := hd.symm
    rw [hd0, thn_yes (r := (dy, 0)) (fun d => d.sync nPart) rfl]
    have H1 : Hp B w w' (dkL y dy ++ [objA D (.deferred (some [])), .blk b1 [.int .i64 0] 31, .blk b [.pointer (some ⟨x.b, 0, none⟩)] 23]) := H.perm (by (refine perm_cnt fun ff gg h0 hc ha hpm => ?_; simp only [ha, hc, h0]; omega))
    clear H
    refine ⟨_, H1.ld (cs := [.pointer (some ⟨x.b, 0, none⟩)]) (by exact ⟨rfl, rfl, rfl, rfl⟩) sclDP (List.mem_append_right _ (.tail _ (.tail _ (.head _)))) rfl, ?_⟩
    have hs := sync_spec y dy hy hfit.few (by omega) nPart w' H1.std1
    rw [hyb] at hs
    refine callV hs ?_
    clear hs
    rintro e w3 ⟨rfl, y2, hy2b, hy2, H'⟩
    replace H1 := H1.useL H'; clear H'
    have fit2 := Fit.sync hfit nPart
    refine ⟨_, rfl, br_dec (fun h3 => ?_) (fun h3 => ?_)⟩
    · rw [thn_yes _ h3]
      generalize (dy.sync nPart).1 = d2 at hy2 H1 fit2 ⊢
      refine ⟨_, H1.ld (cs := [.pointer (some ⟨x.b, 0, none⟩)]) (by exact ⟨rfl, rfl, rfl, rfl⟩) sclDP (List.mem_append_right _ (.tail _ (.tail _ (.head _)))) rfl, ?_⟩
      have hr := rename_spec y2 d2 hy2 (by have := fit2.chs; omega) nPart (pfile n) w3 H1.std1
      rw [hy2b, hyb] at hr
      refine callV hr ?_
      clear hr
      rintro e w4 ⟨rfl, y3, hy3b, hy3, H'⟩
      replace H1 := H1.useL H'; clear H'
      refine ⟨_, rfl, br_dec (fun h4 => ?_) (fun h4 => ?_)⟩
      · rw [thn_yes _ h4]
        generalize (d2.rename nPart (pfile n)).1 = d3 at hy3 H1 ⊢
        refine ⟨_, H1.ld (cs := [.pointer (some ⟨x.b, 0, none⟩)]) (by exact ⟨rfl, rfl, rfl, rfl⟩) sclDP (List.mem_append_right _ (.tail _ (.tail _ (.head _)))) rfl, ?_⟩
        have hr := syncNames_spec y3 d3 hy3 w4 H1.std1
        rw [hy3b, hy2b, hyb] at hr
        refine callV hr ?_
        clear hr
        rintro e w5 ⟨rfl, y4, hy4b, hy4, H'⟩
        replace H1 := H1.useL H'; clear H'
        exact ⟨_, rfl, fin2 w5 y4 _ _ D (by rw [hy4b, hy3b, hy2b, hyb]) hy4 (H1.perm (by (refine perm_cnt fun ff gg h0 hc ha hpm => ?_; simp only [ha, hc, h0]; omega)))⟩
      · rw [thn_no _ h4]
        exact fin2 w4 y3 _ _ D (by rw [hy3b, hy2b, hyb]) hy3 (H1.perm (by (refine perm_cnt fun ff gg h0 hc ha hpm => ?_; simp only [ha, hc, h0]; omega)))
    · rw [thn_no _ h3, thn_no _ h3]
      refine br_dec (fun h => absurd h h3) (fun _ => ?_)
      exact fin2 w3 y2 _ _ D (hy2b.trans hyb) hy2 (H1.perm (by (refine perm_cnt fun ff gg h0 hc ha hpm => ?_; simp only [ha, hc, h0]; omega)))
  · rintro ⟨y, dy, i⟩ D w' ⟨hyb, hy, hi, hd⟩ H
    dsimp only at hyb hy hi hd H ⊢
    have hi' : ¬ ((dy, i) : Dk × Int).2 = 0 := hi
    rw [hd, thn_no _ hi', thn_no _ hi', thn_no _ hi']
    refine Hp.shut H ?_
    clear H; intro w6 H
    exact ⟨_, H.ld (cs := [.int .i64 i]) (by exact ⟨rfl, rfl, rfl, rfl⟩) sclEr (.head _) rfl, rfl, y, hyb, hy, H.drop.drop⟩
end Go.Proofs.Ytdpkamajecmebaa
