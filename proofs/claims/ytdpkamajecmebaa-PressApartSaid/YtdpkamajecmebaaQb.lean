/- Press: Export. -/
import Derived.Test.YtdpkamajecmebaaQa
import Derived.Test.YtdpkamajecmebaaShelf
set_option linter.unusedVariables false
set_option linter.unusedSimpArgs false
set_option maxRecDepth 100000
namespace Go.Proofs.Ytdpkamajecmebaa
open Go Go.Vc Go.Vault Go.Redo Go.Press

variable {B : List Nat} {w0 w w' : World} {L M : List Asn} {a b : Asn}
theorem _root_.Go.Vc.Hp.useT (H : Hp B w0 w (a :: L)) (H' : Hp (feet L) w w' M) : Hp B w0 w' (a :: M) :=
  (Hp.useL (L1 := L) (L2 := [a]) (H.perm (List.perm_append_comm (l₁ := [a]) (l₂ := L))) H').perm (List.perm_append_comm (l₁ := M) (l₂ := [a]))
theorem _root_.Go.Vc.Hp.useT2 (H : Hp B w0 w (a :: b :: L)) (H' : Hp (feet L) w w' M) : Hp B w0 w' (a :: b :: M) :=
  (Hp.useL (L1 := L) (L2 := [a, b]) (H.perm (List.perm_append_comm (l₁ := [a, b]) (l₂ := L))) H').perm (List.perm_append_comm (l₁ := M) (l₂ := [a, b]))
theorem sectors_spec (t : ByteArray) (ht : t.size ≤ 1048576) (w : World) : Calls Go.Proofs.Try.prog 31 #[.string t] w fun e w' => ∃ fb a c, e = .returned (.func (.func 60) #[] #[.pointer (some ⟨fb, 0, none⟩)]) ∧ Hp [] w w' [.blk fb [.slice a t.size c] 46, .own 5 1 a t.size c (byteCells t)] := by
  apply sectors.ok; unfold sectors.vc
  have H := Hp.start w
  have hmax : maxLen = 9223372036854775807 := by simp [maxLen]
  refine Hp.s2b H (by exact ⟨rfl, rfl, rfl, rfl⟩) qundStr undBS undU8s (by omega) ?_
  clear H; intro a c w1 H
  intro b w2 hn
  replace H := H.new (cs := [.slice none 0 0]) (by exact ⟨rfl, rfl, rfl, rfl⟩) hn; clear hn
  refine Hp.st H (by exact ⟨rfl, rfl, rfl, rfl⟩) sclBS rfl rfl (by simp) rfl ?_
  clear H; intro w3 H
  exact ⟨b, a, c, rfl, H⟩
theorem byteCells_bcells (t : ByteArray) : byteCells t = bcells t.data.toList := rfl
theorem len_data (t : ByteArray) : t.data.toList.length = t.size := Array.length_toList

set_option maxHeartbeats 1000000 in
theorem export_spec (x : DW) (d : Dk) (hok : x.Ok d) {N : Nat} (fit : d.Fit N) (hN : N ≤ 400000) (n t : ByteArray) (w : World) (st : Std w (dkL x d)) :
    Calls Go.Proofs.Try.prog 13 #[.pointer (some ⟨x.b, 0, none⟩), .string n, .string t] w (DkPost x d w (.int .i64 (dexport d n t).2) (dexport d n t).1) := by
  apply export.ok; unfold export.vc DkPost
  have H := Hp.startL st
  generalize hB : feet (dkL x d) = B at H ⊢
  intro b w1 hn
  replace H := H.new (cs := [.pointer (some ⟨x.b, 0, none⟩)]) (by exact ⟨rfl, rfl, rfl, rfl⟩) hn; clear hn
  intro b1 w2 hn
  replace H := H.new (cs := [.int .i64 0]) (by exact ⟨rfl, rfl, rfl, rfl⟩) hn; clear hn
  refine callV (file_spec n w2) ?_
  rintro e w3 ⟨rfl, H'⟩
  replace H := H.ext0 H'; clear H'
  -- the answer is laid and told
  have fin : ∀ (w4 : World) (x4 : DW) (d4 : Dk) (i : Int), x4.b = x.b → x4.Ok d4 → Hp B w w4 (.blk b1 [.int .i64 0] 31 :: .blk b [.pointer (some ⟨x.b, 0, none⟩)] 23 :: dkL x4 d4) →
      ∃ w5, St Go.Proofs.Try.prog 31 w4 ⟨b1, 0, none⟩ (.int .i64 i) w5 ∧ ∃ j, Ld Go.Proofs.Try.prog 31 w5 ⟨b1, 0, none⟩ (.int .i64 j) ∧ (Ending.returned (.int .i64 j) = .returned (.int .i64 i) ∧ ∃ x', x'.b = x.b ∧ x'.Ok d4 ∧ Hp B w w5 (dkL x' d4)) := by
    intro w4 x4 d4 i hb hx H
    refine Hp.st H (by exact ⟨rfl, rfl, rfl, rfl⟩) sclEr rfl rfl (by simp) rfl ?_
    clear H; intro w5 H
    exact ⟨_, H.ld (cs := [.int .i64 i]) (by exact ⟨rfl, rfl, rfl, rfl⟩) sclEr (.head _) rfl, rfl, x4, hb, hx, H.drop.drop⟩
  refine ⟨_, _, rfl, br_not (fun h => ?_) (fun h => ?_)⟩
  · have e0 : dexport d n t = (d, 92) := by unfold dexport; rw [h]; rfl
    rw [e0]
    exact fin w3 x d 92 rfl hok H
  have hnr : nright n = true := h
  rw [h, if_pos rfl]
  refine br_dec (fun h1 => ?_) (fun h1 => ?_)
  · have e0 : dexport d n t = (d, 91) := by unfold dexport; rw [h, if_neg (by simp), if_pos (by omega)]
    rw [e0]
    exact fin w3 x d 91 rfl hok H
  have e0 : dexport d n t = thn (thn (thn (thn (d.create nPart) fun d => dsec t.data.toList (nsecs t.data.toList) 0 d) fun d => d.sync nPart) fun d => d.rename nPart (pfile n)) fun d => d.syncNames := by
    unfold dexport; rw [h, if_neg (by simp), if_neg (by omega)]
  rw [e0]; clear e0
  refine ⟨_, H.ld (cs := [.pointer (some ⟨x.b, 0, none⟩)]) (by exact ⟨rfl, rfl, rfl, rfl⟩) sclDP (.tail _ (.head _)) rfl, ?_⟩
  refine callV (create_spec x d hok (by have := fit.chs; omega) (by have := fit.files; omega) nPart w3 H.drop.drop.std) ?_
  rintro e w4 ⟨rfl, x1, hx1b, hx1, H'⟩
  replace H := H.useT2 H'; clear H'
  have fit1 := Fit.create fit nPart
  refine ⟨_, rfl, br_not (fun h2 => ?_) (fun h2 => ?_)⟩
  · have h2 := of_decide_eq_false h2
    rw [thn_no _ h2, thn_no _ h2, thn_no _ h2, thn_no _ h2]
    exact fin w4 x1 _ _ hx1b hx1 H
  have h2 := of_decide_eq_true h2
  rw [thn_yes _ h2]
  generalize (d.create nPart).1 = d1 at hx1 H fit1 ⊢
  have htl : t.data.toList.length ≤ 1048576 := by rw [len_data]; omega
  refine callV (sectors_spec t (by omega) w4) ?_
  rintro e w5 ⟨fb, a, c, rfl, H'⟩
  replace H := H.ext H'; clear H'
  have H0 : Hp B w w5 ((.blk b1 [.int .i64 0] 31 :: .blk b [.pointer (some ⟨x.b, 0, none⟩)] 23 :: dkL x1 d1) ++ [.blk fb [.slice a t.data.toList.length c] 46, .own 5 1 a t.data.toList.length c (bcells t.data.toList)]) := H.perm (List.perm_append_comm (l₁ := [_, _]))
  clear H
  -- the answer behind the range
  have fin2 : ∀ (w4 : World) (x4 : DW) (d4 : Dk) (i : Int) (D : Nat), x4.b = x.b → x4.Ok d4 → Hp B w w4 (objA D (.deferred (some [])) :: .blk b1 [.int .i64 0] 31 :: .blk b [.pointer (some ⟨x.b, 0, none⟩)] 23 :: dkL x4 d4) →
      ∃ w5, St Go.Proofs.Try.prog 31 w4 ⟨b1, 0, none⟩ (.int .i64 i) w5 ∧ ∃ w6, ShutD w5 D w6 ∧ ∃ j, Ld Go.Proofs.Try.prog 31 w6 ⟨b1, 0, none⟩ (.int .i64 j) ∧ (Ending.returned (.int .i64 j) = .returned (.int .i64 i) ∧ ∃ x', x'.b = x.b ∧ x'.Ok d4 ∧ Hp B w w6 (dkL x' d4)) := by
    intro w4 x4 d4 i D hb hx H
    refine Hp.st H.pull1 (by exact ⟨rfl, rfl, rfl, rfl⟩) sclEr rfl rfl (by simp) rfl ?_
    clear H; intro w5 H
    refine Hp.shut H.pull1 ?_
    clear H; intro w6 H
    exact ⟨_, H.ld (cs := [.int .i64 i]) (by exact ⟨rfl, rfl, rfl, rfl⟩) sclEr (.head _) rfl, rfl, x4, hb, hx, H.drop.drop⟩
  obtain ⟨T, hT⟩ : ∃ T, T = t.data.toList := ⟨_, rfl⟩
  rw [← hT] at H0 htl ⊢
  have hns : nsecs T ≤ 2049 := by unfold nsecs; omega
  refine ⟨_, rfl, _, _, _, rfl, ⟨_, _, Go.Proofs.Try.func60, rfl⟩, ?_⟩
  refine range_sectors (σ := DW × Dk) (ρ := DW × Dk × Int) fb a c T htl (fun _ y => .blk b1 [.int .i64 0] 31 :: .blk b [.pointer (some ⟨x.b, 0, none⟩)] 23 :: dkL y.1 y.2)
    (fun k y => y.1.b = x.b ∧ y.1.Ok y.2 ∧ y.2.Fit (N + 1 + k) ∧ dsec T (nsecs T - k) k y.2 = dsec T (nsecs T) 0 d1) (fun y => .blk b1 [.int .i64 y.2.2] 31 :: .blk b [.pointer (some ⟨x.b, 0, none⟩)] 23 :: dkL y.1 y.2.1)
    (fun y => y.1.b = x.b ∧ y.1.Ok y.2.1 ∧ ¬ y.2.2 = 0 ∧ dsec T (nsecs T) 0 d1 = (y.2.1, y.2.2)) (x1, d1) ⟨hx1b, hx1, fit1, rfl⟩ H0 ?_ ?_ ?_
  · rintro k ⟨y, dy⟩ hk ⟨hyb, hy, hfit, hd⟩ w' p cp T1 begin kn kr kx hp hbegin hkn hkr
    dsimp only at hyb hy hfit hd
    refine hbegin _ fun w2 H hc => ?_
    have hL : ∀ k ∈ feet (dkL y dy), k ∈ feet (.blk b1 [.int .i64 0] 31 :: .blk b [.pointer (some ⟨x.b, 0, none⟩)] 23 :: dkL y dy) := fun k hk => by
      rw [show (Asn.blk b1 [.int .i64 0] 31 :: .blk b [.pointer (some ⟨x.b, 0, none⟩)] 23 :: dkL y dy) = [.blk b1 [.int .i64 0] 31, .blk b [.pointer (some ⟨x.b, 0, none⟩)] 23] ++ dkL y dy from rfl, feet_append]
      exact List.mem_append_right _ hk
    have H1 : Hp B w w2 (dkL y dy ++ (.blk b1 [.int .i64 0] 31 :: .blk b [.pointer (some ⟨x.b, 0, none⟩)] 23 :: T1)) := H.perm (by (refine perm_cnt fun ff gg h0 hc ha hpm => ?_; simp only [ha, hc, h0]; omega))
    refine ⟨_, H1.ld (cs := [.pointer (some ⟨x.b, 0, none⟩)]) (by exact ⟨rfl, rfl, rfl, rfl⟩) sclDP (List.mem_append_right _ (.tail _ (.head _))) rfl, ?_⟩
    have hw := write_spec y dy hy hfit.few (by omega) (hfit.used (by omega)) nPart (k : Int) p cp (sec T k) w2 H1.std1 (fun W hW => hc W (hW.more hL)) hp
    rw [hyb] at hw
    refine callV hw ?_
    clear hw
    rintro e w3 ⟨rfl, y2, hy2b, hy2, H'⟩
    replace H1 := H1.useL H'; clear H' H
    have hstep : dsec T (nsecs T - k) k dy = thn (dy.write nPart (k : Int) (sec T k)) (dsec T (nsecs T - (k + 1)) (k + 1)) := by
      rw [show nsecs T - k = (nsecs T - (k + 1)) + 1 by omega]; rfl
    have fit2 := Fit.write hfit nPart (k : Int) (sec T k)
    refine ⟨_, rfl, br_not (fun h3 => ?_) (fun h3 => ?_)⟩
    · have h3 := of_decide_eq_false h3
      rw [hstep, thn_no _ h3] at hd
      have H2 : Hp B w w3 (.blk b1 [.int .i64 0] 31 :: (.blk b [.pointer (some ⟨x.b, 0, none⟩)] 23 :: (dkL y2 (dy.write nPart (k : Int) (sec T k)).1 ++ T1))) := H1.perm (by (refine perm_cnt fun ff gg h0 hc ha hpm => ?_; simp only [ha, hc, h0]; omega))
      refine Hp.st H2 (by exact ⟨rfl, rfl, rfl, rfl⟩) sclEr rfl rfl (by simp) rfl ?_
      intro w4 H3
      exact hkr w4 (y2, (dy.write nPart (k : Int) (sec T k)).1, (dy.write nPart (k : Int) (sec T k)).2) ⟨hy2b.trans hyb, hy2, h3, hd.symm⟩ H3
    · have h3 := of_decide_eq_true h3
      rw [hstep, thn_yes _ h3] at hd
      exact hkn w3 (y2, (dy.write nPart (k : Int) (sec T k)).1) ⟨hy2b.trans hyb, hy2, fit2.mono (by omega), hd⟩ (H1.perm (by (refine perm_cnt fun ff gg h0 hc ha hpm => ?_; simp only [ha, hc, h0]; omega)))
  · rintro ⟨y, dy⟩ D w' ⟨hyb, hy, hfit, hd⟩ H
    dsimp only at hyb hy hfit hd H ⊢
    rw [Nat.sub_self] at hd
    have hd0 : dsec T (nsecs T) 0 d1 = (dy, 0) := hd.symm
    rw [hd0, thn_yes (r := (dy, 0)) (fun d => d.sync nPart) rfl]
    have H1 : Hp B w w' (dkL y dy ++ [objA D (.deferred (some [])), .blk b1 [.int .i64 0] 31, .blk b [.pointer (some ⟨x.b, 0, none⟩)] 23]) := H.perm (by (refine perm_cnt fun ff gg h0 hc ha hpm => ?_; simp only [ha, hc, h0]; omega))
    clear H
    refine ⟨_, H1.ld (cs := [.pointer (some ⟨x.b, 0, none⟩)]) (by exact ⟨rfl, rfl, rfl, rfl⟩) sclDP (List.mem_append_right _ (.tail _ (.tail _ (.head _)))) rfl, ?_⟩
    have hs := sync_spec y dy hy hfit.few (by omega) nPart w' H1.std1
    rw [hyb] at hs
    refine callV hs ?_
    clear hs
    rintro e w3 ⟨rfl, y2, hy2b, hy2, H'⟩
    replace H1 := H1.useL H'; clear H'
    have fit2 := Fit.sync hfit nPart
    refine ⟨_, rfl, br_dec (fun h3 => ?_) (fun h3 => ?_)⟩
    · rw [thn_yes _ h3]
      generalize (dy.sync nPart).1 = d2 at hy2 H1 fit2 ⊢
      refine ⟨_, H1.ld (cs := [.pointer (some ⟨x.b, 0, none⟩)]) (by exact ⟨rfl, rfl, rfl, rfl⟩) sclDP (List.mem_append_right _ (.tail _ (.tail _ (.head _)))) rfl, ?_⟩
      have hr := rename_spec y2 d2 hy2 (by have := fit2.chs; omega) nPart (pfile n) w3 H1.std1
      rw [hy2b, hyb] at hr
      refine callV hr ?_
      clear hr
      rintro e w4 ⟨rfl, y3, hy3b, hy3, H'⟩
      replace H1 := H1.useL H'; clear H'
      refine ⟨_, rfl, br_dec (fun h4 => ?_) (fun h4 => ?_)⟩
      · rw [thn_yes _ h4]
        generalize (d2.rename nPart (pfile n)).1 = d3 at hy3 H1 ⊢
        refine ⟨_, H1.ld (cs := [.pointer (some ⟨x.b, 0, none⟩)]) (by exact ⟨rfl, rfl, rfl, rfl⟩) sclDP (List.mem_append_right _ (.tail _ (.tail _ (.head _)))) rfl, ?_⟩
        have hr := syncNames_spec y3 d3 hy3 w4 H1.std1
        rw [hy3b, hy2b, hyb] at hr
        refine callV hr ?_
        clear hr
        rintro e w5 ⟨rfl, y4, hy4b, hy4, H'⟩
        replace H1 := H1.useL H'; clear H'
        exact ⟨_, rfl, fin2 w5 y4 _ _ D (by rw [hy4b, hy3b, hy2b, hyb]) hy4 (H1.perm (by (refine perm_cnt fun ff gg h0 hc ha hpm => ?_; simp only [ha, hc, h0]; omega)))⟩
      · rw [thn_no _ h4]
        exact fin2 w4 y3 _ _ D (by rw [hy3b, hy2b, hyb]) hy3 (H1.perm (by (refine perm_cnt fun ff gg h0 hc ha hpm => ?_; simp only [ha, hc, h0]; omega)))
    · rw [thn_no _ h3, thn_no _ h3]
      refine br_dec (fun h => absurd h h3) (fun _ => ?_)
      exact fin2 w3 y2 _ _ D (hy2b.trans hyb) hy2 (H1.perm (by (refine perm_cnt fun ff gg h0 hc ha hpm => ?_; simp only [ha, hc, h0]; omega)))
  · rintro ⟨y, dy, i⟩ D w' ⟨hyb, hy, hi, hd⟩ H
    dsimp only at hyb hy hi hd H ⊢
    have hi' : ¬ ((dy, i) : Dk × Int).2 = 0 := hi
    rw [hd, thn_no _ hi', thn_no _ hi', thn_no _ hi']
    refine Hp.shut H ?_
    clear H; intro w6 H
    exact ⟨_, H.ld (cs := [.int .i64 i]) (by exact ⟨rfl, rfl, rfl, rfl⟩) sclEr (.head _) rfl, rfl, y, hyb, hy, H.drop.drop⟩
end Go.Proofs.Ytdpkamajecmebaa
/- Press: strings.Builder, Import, Names. -/
namespace Go.Proofs.Ytdpkamajecmebaa
open Go Go.Vc Go.Vault Go.Redo Go.Press

theorem sclPB : Scl Go.Proofs.Try.prog 85 := scl_of (by kernel_rfl)
theorem undPB : Go.Proofs.Try.prog.underlying 85 = some (.pointer (Go.Proofs.Try.prog.pointee 85)) := by kernel_rfl
/-- a row of bytes of one's own, nothing of it frozen -/
def rowA (a : Option Addr) (n c : Nat) (xs : List Value) : Asn := .any (blks a) fun w => w.ownsRow 0 5 1 (.slice a n c) n xs
theorem row_ok {w : World} {a : Option Addr} {n c : Nat} {xs : List Value} (h : w.ownsRow 0 5 1 (.slice a n c) n xs) : (rowA a n c xs).ok w := by
  refine ⟨fun k hk => ?_, fun w' h' => ⟨h.1, ?_⟩⟩
  · cases a with
    | none => simp [blks] at hk
    | some ad => simp [blks] at hk; subst hk; exact (h.lt _ rfl).2
  · rcases h.2 with h1 | ⟨g, cap, cur, hv, hb, hg, r⟩
    · exact .inl h1
    · refine .inr ⟨g, cap, cur, hv, hb, ?_, r⟩
      cases hv
      rw [h' g (by simp [blks])]; exact hg
theorem row_get {w : World} {a : Option Addr} {n c : Nat} {xs : List Value} (h : (rowA a n c xs).ok w) : w.ownsRow 0 5 1 (.slice a n c) n xs := h.2 w fun _ _ => rfl
theorem row_own {w : World} {a : Option Addr} {n c : Nat} {xs : List Value} (h : w.ownsRow 0 5 1 (.slice a n c) n xs) : Own w 0 5 1 a n c xs := by
  refine ⟨h.1, ?_⟩
  rcases h.2 with ⟨h1, h2⟩ | ⟨g, cap, cur, hv, hb, hg, h4, h5, h6, h7⟩
  · cases h1; exact .inl ⟨rfl, rfl, rfl⟩
  · cases hv; exact .inr ⟨g, cur, (0, 0), rfl, hb, hg, Thaw.zero _, h4, h5, h6, h7⟩
/-- append to it -/
theorem Hp.appR {B : List Nat} {w0 w : World} {L : List Asn} {a : Option Addr} {n c m pc : Nat} {xs news : List Value} {pa : Addr} {G : Option Addr → Nat → Nat → World → Prop} (H : Hp B w0 w (rowA a n c xs :: L)) (hc : Cells w (some pa) news) (hl : news.length = m) (h1 : ∀ u ∈ news, u.oneCell' = true) (hn : n + m ≤ 1099511627776)
    (k : ∀ a' c' w1, Hp B w0 w1 (rowA a' (n + m) c' (xs ++ news) :: L) → G a' (n + m) c' w1) :
    ∃ a' n' c' w1, App Go.Proofs.Try.prog #[46, 46] 46 w (.slice a n c) (.slice (some pa) m pc) (.slice a' n' c') w1 ∧ G a' n' c' w1 := by
  have T := qeltU8
  obtain ⟨hu, i, z, hi, hz, hs, hb, hzs⟩ := qeltU8
  have hown := row_get (H.ok _ (.head _))
  have hcell : ∀ j u, news[j]? = some u → w.cell? (pa.add j) = some u := fun j u hj => by
    obtain ⟨ad, h2, h3⟩ := hc j u hj
    cases h2; exact h3
  obtain ⟨v', w1, hr, ho, _, _⟩ := run_append_own (P := Go.Proofs.Try.prog) w (ty := 46) 0 46 5 i z 1 1 hu hi hz hs hb hzs (by omega) (.slice a n c) n xs hown pa m pc news (by omega) hcell h1 (by simp only [maxLen]; omega) (by omega) (Nat.zero_le _)
  have hsrc : Src Go.Proofs.Try.prog 1 46 (.slice (some pa) m pc) m news w := Cells.src hu hc (by omega) h1 (fun h => by cases h)
  obtain ⟨a', c', w2, h2, h3, h4, h5⟩ := app_own (P := Go.Proofs.Try.prog) (ty := 46) T (by omega) (row_own hown) hsrc (by simp only [maxLen]; omega) (by omega) (Nat.zero_le _)
  have e := hr.symm.trans h2
  injection e with e1 e2
  subst e1 e2
  exact ⟨a', _, c', _, h2, k a' c' _ (H.set h4 (row_ok ho) h5)⟩

def sbL (b : Nat) (u : Bool) (a : Option Addr) (n c : Nat) (xs : List Value) : List Asn := [.blk b [.pointer (if u then some ⟨b, 0, none⟩ else none), .slice a n c] 87, rowA a n c xs]
theorem sbLen_spec (b : Nat) (p : Value) (a : Option Addr) (n c : Nat) (w : World) (h : Blk w b [p, .slice a n c] 87) :
    Calls Go.Proofs.Try.prog 39 #[.pointer (some ⟨b, 0, none⟩)] w fun e w' => e = .returned (.int .i64 (n : Int)) ∧ Hp [] w w' [] := by
  apply sbLen.ok; unfold sbLen.vc
  exact onP_mk rfl ⟨_, _, _, h.ld (o := 1) sclBS.agg rfl, rfl, Hp.start w⟩
theorem sbCheck_spec (b : Nat) (u : Bool) (v : Value) (w : World) (h : Blk w b [.pointer (if u then some ⟨b, 0, none⟩ else none), v] 87) :
    Calls Go.Proofs.Try.prog 65 #[.pointer (some ⟨b, 0, none⟩)] w fun e w' => e = .returned (.tuple #[]) ∧ Hp [b] w w' [.blk b [.pointer (some ⟨b, 0, none⟩), v] 87] := by
  cases u with
  | false =>
    refine (Any.Builder_copyCheck_fresh sbccL sbccX b w (h.cell (o := 0) rfl) ?_ ?_).mono ?_
    · rw [Blk] at h; simp [World.shape?, h]; rfl
    · rw [Blk] at h; simp [World.frozen?, h]
    · rintro e w' ⟨rfl, rfl⟩
      refine ⟨rfl, ?_⟩
      have e1 := setCell_setB h 0 (.pointer (some ⟨b, 0, none⟩))
      rw [e1]
      exact ⟨setB_chg _ _ _, fun q hq => by rw [List.mem_singleton.1 hq]; exact setB_at h.lt, by simp [Asn.foot], by simp⟩
  | true =>
    refine (Any.Builder_copyCheck_used sbccL sbccX b w (h.cell (o := 0) rfl)).mono ?_
    rintro e w' ⟨rfl, rfl⟩
    exact ⟨rfl, Chg.refl _ _, fun q hq => by rw [List.mem_singleton.1 hq]; exact h, by simp [Asn.foot], by simp⟩
theorem sbWrite_spec (b : Nat) (u : Bool) (a : Option Addr) (n c : Nat) (xs : List Value) (pa : Addr) (pc : Nat) (bs : List UInt8) (w : World) (st : Std w (sbL b u a n c xs)) (hc : ∀ W, Chg (feet (sbL b u a n c xs)) w W → Cells W (some pa) (bcells bs)) (hn : n + bs.length ≤ 1099511627776) :
    Calls Go.Proofs.Try.prog 40 #[.pointer (some ⟨b, 0, none⟩), .slice (some pa) bs.length pc] w fun e w' => e = .returned (.tuple #[.int .i64 (bs.length : Int), .nilIface]) ∧ ∃ a' c', Hp (feet (sbL b u a n c xs)) w w' (sbL b true a' (n + bs.length) c' (xs ++ bcells bs)) := by
  apply sbWrite.ok; unfold sbWrite.vc
  have H := Hp.startL st
  generalize hB : feet (sbL b u a n c xs) = B at H hc ⊢
  refine callV (sbCheck_spec b u _ w (H.blk (.head _))) ?_
  rintro e w1 ⟨rfl, H'⟩
  replace H : Hp B w w1 [.blk b [.pointer (some ⟨b, 0, none⟩), .slice a n c] 87, rowA a n c xs] := Hp.use11 H H'
  clear H'
  refine ⟨rfl, onP_mk rfl ⟨_, _, _, H.ld (o := 1) (cs := [.pointer (some ⟨b, 0, none⟩), .slice a n c]) (by exact ⟨rfl, rfl, rfl, rfl⟩) sclBS (.head _) rfl, ?_⟩⟩
  have hc1 := hc w1 H.chg
  refine Hp.appR H.pull1 hc1 (bcells_length _) (bcells_one bs) hn ?_
  clear H; intro a' c' w2 H
  refine onP_mk rfl (Hp.st (o := 1) H.pull1 (by exact ⟨rfl, rfl, rfl, rfl⟩) sclBS rfl rfl (by simp) rfl ?_)
  clear H; intro w3 H
  exact ⟨rfl, a', c', H⟩
theorem sbString_spec (b : Nat) (u : Bool) (a : Option Addr) (c : Nat) (l : List UInt8) (w0 w : World) (H : Hp [] w0 w (sbL b u a l.length c (bcells l))) :
    Calls Go.Proofs.Try.prog 41 #[.pointer (some ⟨b, 0, none⟩)] w fun e w' => e = .returned (.string ⟨l.toArray⟩) ∧ Hp [] w0 w' [] := by
  have hb : w0.heap.size ≤ b := by
    rcases H.own _ (.head _) b (by simp [Asn.foot]) with h | h
    · cases h
    · exact h
  have hblk := H.blk (.head _)
  have hrow := row_get (H.ok _ (.tail _ (.head _)))
  have hB : Lib.BuilderAt 87 5 w0.heap.size b (.pointer (if u then some ⟨b, 0, none⟩ else none)) (Lib.byteCells l) w := by
    refine ⟨hb, .slice a l.length c, by simpa [Blk] using hblk, ⟨by simp [bcells], ?_⟩, ?_⟩
    · rcases hrow.2 with h1 | ⟨g, cap, cur, hv, h0, hg, r⟩
      · exact .inl (by rw [Lib.byteCells_length]; exact h1)
      · refine .inr ⟨g, cap, cur, by rw [Lib.byteCells_length]; exact hv, ?_, hg, by rw [Lib.byteCells_length]; exact r⟩
        cases hv
        rcases H.own _ (.tail _ (.head _)) g (by simp [rowA, Asn.foot, blks]) with h | h
        · cases h
        · exact h
    · intro h
      have hs := (List.pairwise_cons.1 H.sep).1 _ (.head _) b (by simp [Asn.foot])
      cases a with
      | none => cases h
      | some ad => exact hs (by simpa [rowA, Asn.foot, blks, Value.ownBlock] using h.symm)
  have hI : Lib.IsBuilder 87 5 w0.heap.size b (Lib.byteCells l) w := by
    cases u with
    | false => exact .inl hB
    | true => exact .inr hB
  refine (Any.Builder_String_any sbstrL sbstrX w0.heap.size b l w hI H.chg.size).mono ?_
  rintro e w' ⟨rfl, hbl⟩
  refine ⟨rfl, ⟨hbl.os.trans H.chg.1, hbl.tape.trans H.chg.2.1, hbl.output.trans H.chg.2.2.1, Nat.le_trans H.chg.size hbl.size, fun k hk _ => (hbl.block k hk).trans (H.chg.2.2.2.2 k hk (by simp))⟩, by simp, by simp, .nil⟩
end Go.Proofs.Ytdpkamajecmebaa
/- Press: Import. -/
namespace Go.Proofs.Ytdpkamajecmebaa
open Go Go.Vc Go.Vault Go.Redo Go.Press

theorem valN_grow (b : List UInt8) : ∀ (j i : Nat), i + j ≤ b.length → valN (b.take i) ≤ valN (b.take (i + j))
  | 0, i, _ => Nat.le_refl _
  | j + 1, i, h => by
    have h1 := valN_grow b j i (by omega)
    have h2 := valN_take_succ b (i + j) (by omega)
    rw [show i + (j + 1) = i + j + 1 by omega, h2]
    omega
theorem many_spec (ba : Option Addr) (bc : Nat) (b : List UInt8) (w : World) (hc : Cells w ba (bcells b)) (hl : 8 ≤ b.length) (hbc : b.length ≤ bc) :
    Calls Go.Proofs.Try.prog 37 #[.slice ba b.length bc] w fun e w' => (∃ v : Nat, e = .returned (.int .i64 (v : Int)) ∧ (v = many8 b ∨ 1048576 < v ∧ 1048576 < many8 b)) ∧ Hp [] w w' [] := by
  apply many.ok; unfold many.vc
  refine ⟨⟨by omega, by omega⟩, ?_⟩
  obtain ⟨ad, had⟩ := hc.some (by intro h; have := congrArg List.length h; rw [bcells_length, List.length_nil] at this; omega)
  refine LoopP.mk (fun m s w' => ∃ i : Nat, m = 8 - i ∧ i ≤ 8 ∧ s = ((valN (b.take i) : Int), (i : Int)) ∧ w' = w) 8 ⟨0, rfl, by omega, rfl, rfl⟩ ?_
  rintro m s w1 next ⟨i, rfl, hi, rfl, rfl⟩ hnext
  refine br_dec (fun h => ?_) (fun h => ?_)
  · dsimp only at h ⊢
    have hi8 : i < 8 := by omega
    have hlt : i < b.length := by omega
    have hld : (bcells b)[i]? = some (.int .u8 (b[i].toNat : Int)) := by simp [bcells, hlt]
    have hld := hc.ld sclU8 had hld
    have e1 : Int.toNat (i : Int) * 1 = i := by omega
    refine onP_mk had ⟨⟨by omega, by omega⟩, _, by rw [e1]; exact hld, br_dec (fun h2 => ?_) (fun h2 => ?_)⟩
    · refine ⟨⟨valN (b.take i), rfl, .inr ⟨by omega, ?_⟩⟩, Hp.start _⟩
      have := valN_grow b (8 - i) i (by omega)
      rw [show i + (8 - i) = 8 by omega] at this
      show 1048576 < valN (b.take 8)
      omega
    · have hsm : valN (b.take i) ≤ 1048576 := by omega
      have hb := b[i].toNat_lt
      refine ⟨by omega, ?_, inR64.2 (by omega), hnext (8 - (i + 1)) _ _ (by omega) ⟨i + 1, rfl, by omega, ?_, rfl⟩⟩
      · have e2 : (2 : Int) ^ min (Int.toNat 8) (IntKind.bits .i64) = 256 := by decide
        rw [e2]; exact inR64.2 (by omega)
      · rw [or_byte2 _ _ (by omega) (by omega), valN_take_succ b i hlt]
        rfl
  · have hi8 : i = 8 := by omega
    subst hi8
    exact ⟨⟨_, rfl, .inl rfl⟩, Hp.start _⟩
theorem read512 {d : Dk} (hok : d.Ok) {n : ByteArray} {i : Int} (h : (d.read n i).2 = 0) : (d.read n i).1.length = 512 := by
  cases hd : d.dead with
  | true => simp [Dk.read, hd] at h
  | false =>
    cases hk : d.find n with
    | none => simp [Dk.read, hd, hk] at h
    | some k =>
      by_cases hi : i < 0 ∨ (d.len k : Int) ≤ i
      · simp [Dk.read, hd, hk, hi] at h
      · have e : d.read n i = ((d.file k).now.getD i.toNat [], 0) := by simp only [Dk.read, hd, hk, Bool.false_eq_true, if_false, if_neg hi]
        rw [e]
        have hlt : i.toNat < (d.file k).now.length := by
          have : d.len k = (d.file k).now.length := rfl
          omega
        have hf := hok.find hk
        have hm : d.file k ∈ d.files := by
          rw [Dk.file, List.getD_eq_getElem?_getD, List.getElem?_eq_getElem hf]
          exact List.getElem_mem _
        show ((d.file k).now.getD i.toNat []).length = 512
        rw [List.getD_eq_getElem?_getD, List.getElem?_eq_getElem hlt]
        exact (hok.files _ hm).now _ (List.getElem_mem _)
theorem size_le {d : Dk} {N : Nat} (h : d.Fit N) (n : ByteArray) : -1 ≤ d.size n ∧ d.size n ≤ N := by
  unfold Dk.size
  split
  · rename_i k _
    have := Fit.file h k
    exact ⟨by omega, by show ((d.file k).now.length : Int) ≤ N; omega⟩
  · omega
theorem own_pos {w : World} {e : TypeId} {sz n c : Nat} {a : Option Addr} {xs : List Value} (h : Own w 0 e sz a n c xs) (hn : 0 < n) : ∃ ad, a = some ad := by
  rcases h.2 with ⟨_, h, _⟩ | ⟨g, _, _, rfl, _⟩
  · omega
  · exact ⟨_, rfl⟩
theorem Hp.cellsSt {B : List Nat} {w0 w : World} {L1 L2 : List Asn} {e : TypeId} {sz n c : Nat} {a : Option Addr} {xs : List Value} (H : Hp B w0 w (L1 ++ L2)) (m : Asn.own e sz a n c xs ∈ L2) : ∀ W, Chg (feet L1) w W → Cells W a xs := fun W hW =>
  (H.ownA (List.mem_append_right _ m)).cells.chg hW fun k hk hf => by
    obtain ⟨b, hb, h2⟩ := mem_feet.1 hf
    exact (List.pairwise_append.1 H.sep).2.2 b hb _ m k h2 hk

set_option maxHeartbeats 1000000 in
theorem import_spec (x : DW) (d : Dk) (hok : x.Ok d) {N : Nat} (fit : d.Fit N) (hN : N ≤ 1000000) (n : ByteArray) (w : World) (st : Std w (dkL x d)) :
    Calls Go.Proofs.Try.prog 16 #[.pointer (some ⟨x.b, 0, none⟩), .string n] w fun e w' => e = .returned (.tuple #[.string ⟨(dimport d n).1.toArray⟩, .int .i64 (dimport d n).2]) ∧ Hp [] w w' [] := by
  apply import_.ok; unfold import_.vc
  have stw : ∀ w', Chg [] w w' → Std w' (dkL x d) := fun w' h => ((Hp.startL st).chg0 h).std
  have H := Hp.start w
  refine callV (file_spec n w) ?_
  rintro e w1 ⟨rfl, H'⟩
  replace H := H.ext0 H'; clear H'
  refine ⟨_, _, rfl, br_not (fun h => ?_) (fun h => ?_)⟩
  · have e0 : dimport d n = ([], 92) := by unfold dimport; rw [h]; rfl
    rw [e0]; exact ⟨rfl, H⟩
  rw [h, if_pos rfl]
  refine callV (read_spec x d hok (pfile n) 0 w1 (stw _ H.chg)) ?_
  rintro e w2 ⟨a, c, rfl, H'⟩
  replace H := H.ext1 H'; clear H'
  have e0 : dimport d n = if (d.read (pfile n) 0).2 = 0 then
    if 1048576 < many8 (d.read (pfile n) 0).1 ∨ (d.size (pfile n) - 1) * 512 < many8 (d.read (pfile n) 0).1 then ([], 91) else gat d (pfile n) (many8 (d.read (pfile n) 0).1) (many8 (d.read (pfile n) 0).1 + 1) 1 []
    else ([], (d.read (pfile n) 0).2) := by unfold dimport; rw [h]; rfl
  rw [e0]; clear e0
  refine ⟨_, _, _, _, rfl, br_not (fun h2 => ?_) (fun h2 => ?_)⟩
  · rw [if_neg (of_decide_eq_false h2)]; exact ⟨rfl, H.done⟩
  have h2 := of_decide_eq_true h2
  rw [if_pos h2]
  have h512 := read512 hok.dk h2
  have hown := H.ownA (.head _)
  refine callV (many_spec a c _ w2 hown.cells (by omega) hown.le.1) ?_
  rintro e w3 ⟨⟨v, rfl, hv⟩, H'⟩
  replace H := H.ext0 H'; clear H' hown
  generalize many8 (d.read (pfile n) 0).1 = M at hv ⊢
  refine ⟨_, rfl, br_dec (fun h3 => ?_) (fun h3 => ?_)⟩
  · rw [if_pos (.inl (by omega))]; exact ⟨rfl, H.done⟩
  have hvM : v = M := by omega
  subst hvM
  clear hv
  refine callV (size_spec x d hok (pfile n) w3 (stw _ H.chg)) ?_
  rintro e w4 ⟨rfl, H'⟩
  replace H := H.ext0 H'; clear H'
  have hsz := size_le fit (pfile n)
  refine ⟨_, rfl, inR64.2 (by omega), inR64.2 (by omega), br_dec (fun h4 => ?_) (fun h4 => ?_)⟩
  · rw [if_pos (.inr h4)]; exact ⟨rfl, H.done⟩
  rw [if_neg (by omega)]
  replace H := H.done
  intro b w5 hn
  -- the builder's own world
  have K : Hp [] w4 w5 (sbL b false none 0 0 []) := ((Hp.start w4).add (a' := rowA none 0 0 []) (Chg.refl _ _) (row_ok (World.ownsRow_nil _ _ _ _)) (by simp [rowA, Asn.foot, blks])).new (by exact ⟨rfl, rfl, rfl, rfl⟩) hn
  clear hn
  refine LoopP.mk (fun m s w' => ∃ (k : Nat) (bs : List UInt8) (u : Bool) (a : Option Addr) (c : Nat), s = (k : Int) ∧ k + m = v + 2 ∧ bs.length ≤ v ∧ v < m + bs.length ∧ gat d (pfile n) v m k bs = gat d (pfile n) v (v + 1) 1 [] ∧ Hp [] w4 w' (sbL b u a bs.length c (bcells bs))) (v + 1) ⟨1, [], false, none, 0, rfl, by omega, by simp, by simp, rfl, K⟩ ?_
  clear K
  rintro m s w6 next ⟨k, bs, u, a1, c1, rfl, hkm, hle, hlt, hg, K⟩ hnext
  obtain ⟨m, rfl⟩ : ∃ m', m = m' + 1 := ⟨m - 1, by omega⟩
  refine callV (sbLen_spec b _ a1 bs.length c1 w6 (K.blk (.head _))) ?_
  rintro e w7 ⟨rfl, H'⟩
  replace K := K.ext0 H'; clear H'
  refine ⟨_, rfl, br_dec (fun h5 => ?_) (fun h5 => ?_)⟩
  · refine callV (read_spec x d hok (pfile n) (k : Int) w7 (stw _ (H.chg.ext K.chg))) ?_
    rintro e w8 ⟨a2, c2, rfl, H'⟩
    replace K := K.ext1 H'; clear H'
    rw [gat, if_neg (by omega)] at hg
    refine ⟨_, _, _, _, rfl, br_not (fun h6 => ?_) (fun h6 => ?_)⟩
    · rw [if_neg (of_decide_eq_false h6)] at hg
      rw [← hg]; exact ⟨rfl, H.ext0 K.done⟩
    · have h6 := of_decide_eq_true h6
      rw [if_pos h6] at hg
      have h512 := read512 hok.dk h6
      have hown := K.ownA (.head _)
      obtain ⟨ad, rfl⟩ := own_pos hown (by omega)
      have hc2 := hown.le
      refine callV (sbLen_spec b _ a1 bs.length c1 w8 (K.blk (.tail _ (.head _)))) ?_
      rintro e w9 ⟨rfl, H'⟩
      replace K := K.ext0 H'; clear H' hown
      refine ⟨_, rfl, inR64.2 (by omega), ⟨by omega, by omega⟩, ?_⟩
      have e1 : Int.toNat (min ((d.read (pfile n) (k : Int)).1.length : Int) ((v : Int) - (bs.length : Int))) = ((d.read (pfile n) (k : Int)).1.take (v - bs.length)).length := by rw [List.length_take]; omega
      rw [e1]
      generalize hB : (d.read (pfile n) (k : Int)).1 = B at *
      have K2 : Hp [] w4 w9 (sbL b u a1 bs.length c1 (bcells bs) ++ [.own 102 1 (some ad) B.length c2 (bcells B)]) := K.perm (List.perm_append_comm (l₁ := [_]))
      have hl2 : (B.take (v - bs.length)).length = min (v - bs.length) 512 := by rw [List.length_take]; omega
      have hwr := sbWrite_spec b u a1 bs.length c1 (bcells bs) ad c2 (B.take (v - bs.length)) w9 K2.std1 (fun W hW => by
        rw [bcells_take]; exact (Hp.cellsSt (sz := 1) K2 (.head _) W hW).take _) (by omega)
      refine callV hwr ?_
      clear hwr
      rintro e w10 ⟨rfl, a3, c3, H'⟩
      replace K2 := (K2.useL H').takeL; clear H' K
      refine ⟨_, _, rfl, inR64.2 (by omega), hnext m _ _ (by omega) ⟨k + 1, bs ++ B.take (v - bs.length), true, a3, c3, by omega, by omega, ?_, ?_, hg, ?_⟩⟩
      · rw [List.length_append]; omega
      · rw [List.length_append]; omega
      · rw [List.length_append, bcells_append]; exact K2
  · refine callV (sbString_spec b u a1 c1 bs w4 w7 K) ?_
    rintro e w8 ⟨rfl, H'⟩
    refine ⟨_, rfl, ?_, H.ext0 H'⟩
    rw [gat, if_pos (by omega)] at hg
    rw [← hg]
end Go.Proofs.Ytdpkamajecmebaa
/- Press: Names; alive. -/
namespace Go.Proofs.Ytdpkamajecmebaa
open Go Go.Vc Go.Vault Go.Redo Go.Press

theorem pnames_spec (x : DW) (d : Dk) (hok : x.Ok d) (hl : d.names.length ≤ 1000000) (w : World) (st : Std w (dkL x d)) :
    Calls Go.Proofs.Try.prog 14 #[.pointer (some ⟨x.b, 0, none⟩)] w fun e w' => ∃ a c, e = .returned (.slice a (pnamesD d).length c) ∧ Hp [] w w' [.own 9 1 a (pnamesD d).length c ((pnamesD d).map .string)] := by
  apply pnames.ok; unfold pnames.vc
  have H := Hp.start w
  refine callV (names_spec x d hok (by omega) w st) ?_
  rintro e w1 ⟨a, c, rfl, H'⟩
  replace H := H.ext1 H'; clear H'
  refine ⟨_, _, _, rfl, ?_⟩
  unfold pnamesD
  generalize d.names = L at H hl ⊢
  replace H := H.nilS 9 1
  obtain ⟨fN, hfN⟩ : ∃ f : Nm → Option ByteArray, f = fun p => cutName p.name := ⟨_, rfl⟩
  rw [← hfN]
  refine LoopP.mk (fun m s w' => ∃ (i : Nat) (a2 : Option Addr) (c2 : Nat), m = L.length - i ∧ i ≤ L.length ∧ s = ((a2, ((L.take i).filterMap fN).length, c2), (i : Int)) ∧ Hp [] w w' [.own 9 1 a2 ((L.take i).filterMap fN).length c2 (((L.take i).filterMap fN).map .string), .own 9 1 a L.length c (L.map fun p => .string p.name)]) L.length ⟨0, none, 0, rfl, by omega, by simp, by simpa using H⟩ ?_
  clear H w1
  rintro m s w1 next ⟨i, a2, c2, rfl, hi, rfl, H⟩ hnext
  dsimp only
  refine br_dec (fun h => ?_) (fun h => ?_)
  · have hil : i < L.length := by omega
    have hg : (L.map fun p => Value.string p.name)[i]? = some (.string L[i].name) := by simp [hil]
    have hcl := (H.ownA (.tail _ (.head _))).cells
    obtain ⟨ad, had, _⟩ := hcl _ _ hg
    have hld := hcl.ld sclStr had hg
    have e1 : Int.toNat (i : Int) * 1 = i := by omega
    have hle : ((L.take i).filterMap fN).length ≤ i := Nat.le_trans (List.length_filterMap_le _ _) (by rw [List.length_take]; omega)
    have hstep : (L.take (i + 1)).filterMap fN = ((L.take i).filterMap fN) ++ (cutName L[i].name).toList := by
      rw [List.take_succ_eq_append_getElem hil, List.filterMap_append]
      congr 1
      subst hfN
      cases h : cutName L[i].name <;> simp [h]
    generalize hF : ((L.take i).filterMap fN) = F at *
    refine onP_mk had ⟨⟨by omega, by omega⟩, _, by rw [e1]; exact hld, ?_⟩
    generalize hs : L[i].name = s at *
    refine callV (cutPrefix_spec s nAhead w1) ?_
    rintro e w2 ⟨rfl, H'⟩
    replace H := H.ext0 H'; clear H'
    refine ⟨_, _, rfl, ?_⟩
    refine callV (file_spec _ w2) ?_
    rintro e w3 ⟨rfl, H'⟩
    replace H := H.ext0 H'; clear H'
    have skip : ∀ w4, Hp [] w w4 [.own 9 1 a2 F.length c2 (F.map .string), .own 9 1 a L.length c (L.map fun p => .string p.name)] → cutName s = none → next ((a2, F.length, c2), (i : Int) + 1) w4 := by
      intro w4 H hc
      have e2 : (L.take (i + 1)).filterMap fN = F := by rw [hstep, hc]; simp
      exact hnext (L.length - (i + 1)) _ _ (by omega) ⟨i + 1, a2, c2, rfl, by omega, by rw [e2]; rfl, by rw [e2]; exact H⟩
    refine ⟨_, _, rfl, br_dec (fun h2 => ?_) (fun h2 => ?_)⟩
    · rw [if_pos h2]
      refine br_mk (fun h3 => ?_) (fun h3 => ?_)
      · have hc : cutName s = some (s.extract nAhead.size s.size) := by
          unfold cutName
          rw [if_pos ⟨h2.1, h2.2, h3⟩]; rfl
        generalize s.extract nAhead.size s.size = t at hc ⊢
        intro b w4 hn
        replace H := H.new (cs := [.string t]) (by exact ⟨rfl, rfl, rfl, rfl⟩) hn; clear hn
        refine Hp.app eltT (by omega) H.pull1 (by exact ⟨rfl, rfl, rfl, rfl⟩) (Blk.src (n := 1) undST (H.blk (.head _)) (by simp) (by rfl)) (by simp only [maxLen]; omega) (by omega) ?_
        clear H; intro a5 c5 w5 H
        replace H := H.del1
        have e2 : (L.take (i + 1)).filterMap fN = F ++ [t] := by rw [hstep, hc]; rfl
        exact ⟨inR64.2 (by omega), hnext (L.length - (i + 1)) _ _ (by omega) ⟨i + 1, a5, c5, rfl, by omega, by rw [e2, List.length_append]; rfl, by rw [e2, List.length_append, List.map_append]; exact H⟩⟩
      · exact ⟨inR64.2 (by omega), skip w3 H (by unfold cutName; rw [if_neg (fun h4 => by rw [show s.extract 2 s.size = s.extract nAhead.size s.size from rfl, h3] at h4; exact absurd h4.2.2 (by simp))])⟩
    · exact ⟨inR64.2 (by omega), skip w3 H (by unfold cutName; rw [if_neg (fun h4 => h2 ⟨h4.1, h4.2.1⟩)])⟩
  · have hie : i = L.length := by omega
    subst hie
    rw [List.take_length] at H ⊢
    exact ⟨a2, c2, rfl, H.takeL (L := [_])⟩

def sA : ByteArray := ⟨#[97]⟩
def sB : ByteArray := ⟨#[98]⟩
def sX : ByteArray := ⟨#[120]⟩
def aD : Dk := (dexport (Dk.new 20) sA sX).1
theorem aliveF : (dexport (Dk.new 20) sA sX).2 = 0 ∧ dimport aD sA = ([120], 0) ∧ dimport aD sB = ([], 90) ∧ pnamesD aD = [sA] ∧ aD.names.length = 1 := by
  refine ⟨by kernel_rfl, by kernel_rfl, by kernel_rfl, by kernel_rfl, by kernel_rfl⟩
set_option maxHeartbeats 1000000 in
theorem alive_spec (w : World) : Calls Go.Proofs.Try.prog 10 #[] w fun e w' => e = .returned (.bool true) ∧ Hp [] w w' [] := by
  obtain ⟨f1, f2, f3, f4, f5⟩ := aliveF
  apply alive.ok; unfold alive.vc
  have H := Hp.start w
  refine callV (new_spec 20 w) ?_
  rintro e w1 ⟨x, rfl, hx, H'⟩
  replace H := H.ext H'; clear H'
  rw [List.append_nil] at H
  have fit0 := new_fit 20 0
  refine ⟨_, rfl, _, eqv_ptrE undPD, br_false ?_⟩
  have he := export_spec x (Dk.new 20) hx fit0 (by omega) sA sX w1 H.std
  have fit1 := dexport_fit fit0 sA sX
  refine callV he ?_
  clear he
  rintro e w2 ⟨rfl, x1, hx1b, hx1, H'⟩
  replace H := H.useAll H'; clear H'
  rw [f1]
  change Hp [] w w2 (dkL x1 aD) at H
  change x1.Ok aD at hx1
  change aD.Fit _ at fit1
  have hi := import_spec x1 aD hx1 fit1 (by decide) sA w2 H.std
  rw [hx1b, f2] at hi
  refine ⟨_, rfl, callV hi ?_⟩
  clear hi
  rintro e w3 ⟨rfl, H'⟩
  replace H := H.ext0 H'; clear H'
  have hi := import_spec x1 aD hx1 fit1 (by decide) sB w3 H.std
  rw [hx1b, f3] at hi
  refine ⟨_, _, rfl, callV hi ?_⟩
  clear hi
  rintro e w4 ⟨rfl, H'⟩
  replace H := H.ext0 H'; clear H'
  have hp := pnames_spec x1 aD hx1 (by omega) w4 H.std
  rw [hx1b, f4] at hp
  refine ⟨_, _, rfl, callV hp ?_⟩
  clear hp
  rintro e w5 ⟨a, c, rfl, H'⟩
  replace H := H.ext1 H'; clear H'
  have hcl := (H.ownA (.head _)).cells
  obtain ⟨ad, had, _⟩ := hcl 0 (.string sA) rfl
  have hld := hcl.ld (o := 0) sclStr had rfl
  rw [show ad.add 0 = ad by unfold Addr.add; split <;> simp_all] at hld
  refine ⟨_, _, _, rfl, br_true (br_true (br_true (br_true (br_true (onP_mk had ⟨⟨by omega, by decide⟩, _, hld, rfl, H.done⟩)))))⟩
theorem aliveRet {w w1 : World} {L : List Asn} (H : Hp [] w w1 L) : CallV Go.Proofs.Try.prog 10 [] w1 fun e w' => ∃ b, e = .returned (.bool b) ∧ (Ending.returned (.bool b) = .returned (.bool true) ∧ Hp [] w w' []) := by
  refine callV (alive_spec w1) ?_
  rintro e w2 ⟨rfl, H'⟩
  exact ⟨_, rfl, rfl, H.done.ext0 H'⟩
end Go.Proofs.Ytdpkamajecmebaa
/- Press: the law of PressLong. -/
namespace Go.Proofs.Ytdpkamajecmebaa
open Go Go.Vc Go.Vault Go.Redo Go.Press

theorem pright_spec (n : ByteArray) (w : World) : Calls Go.Proofs.Try.prog 11 #[.string n] w fun e w' => e = .returned (.bool (nright n)) ∧ Hp [] w w' [] := by
  apply pright.ok; unfold pright.vc nright
  refine br_dec (fun h => ?_) (fun h => ?_)
  · rw [decide_eq_true (p := 1 ≤ n.size) (by omega), Bool.true_and]
    have : decide ((n.size : Int) ≤ 50) = decide (n.size ≤ 50) := by rw [decide_eq_decide]; omega
    rw [this]
    exact ⟨rfl, Hp.start w⟩
  · rw [decide_eq_false (p := 1 ≤ n.size) (by omega), Bool.false_and]
    exact ⟨rfl, Hp.start w⟩
theorem qzeroU8 : zeroOf Go.Proofs.Try.prog 5 = some (.int .u8 0) := by kernel_rfl
theorem made_bcells (k : Nat) : (madeCells (Value.int .u8 0).cells (k * 1)).toList = bcells (List.replicate k 0) := by
  rw [Nat.mul_one]
  have e : (Value.int .u8 0).cells = #[.int .u8 0] := rfl
  apply List.ext_getElem?
  intro i
  rw [Array.getElem?_toList, e, madeCells]
  by_cases h : i < k
  · simp [h, bcells, Nat.mod_one]
  · simp [h, bcells]

set_option maxHeartbeats 1000000 in
theorem pressLong_law (n : ByteArray) (more : Int) (W : World) : Calls Go.Proofs.Try.prog 5 #[.string n, .int .i64 more] W fun e W' => e = .returned (.bool true) ∧ Hp [] W W' [] := by
  apply pressLong.ok; unfold pressLong.vc
  have H := Hp.start W
  refine callV (new_spec 100 W) ?_
  rintro e w1 ⟨x, rfl, hx, H'⟩
  replace H := H.ext H'; clear H'
  rw [List.append_nil] at H
  refine ⟨_, rfl, _, eqv_ptrE undPD, br_false ?_⟩
  refine br_dec (fun _ => ⟨_, eqv_ptrN undPD, br_true (aliveRet H)⟩) (fun h1 => ?_)
  refine br_dec (fun _ => ⟨_, eqv_ptrN undPD, br_true (aliveRet H)⟩) (fun h2 => ?_)
  refine callV (pright_spec n w1) ?_
  rintro e w2 ⟨rfl, H'⟩
  replace H := H.ext0 H'; clear H'
  refine ⟨_, rfl, br_not (fun _ => ⟨_, eqv_ptrN undPD, br_true (aliveRet H)⟩) (fun hr => ?_)⟩
  refine ⟨inR64.2 (by omega), ?_⟩
  obtain ⟨k, hk⟩ : ∃ k : Nat, 1048576 + more = (k : Int) := ⟨(1048576 + more).toNat, by omega⟩
  rw [hk]
  have hk2 : 1048576 < k ∧ k ≤ 1049576 := by omega
  refine Hp.mkS qeltU8 H (by exact ⟨rfl, rfl, rfl, rfl⟩) (by omega) (by rw [Int.toNat_natCast]; simp only [maxLen]; omega) (by omega) qzeroU8 ?_
  clear H; intro a w3 H
  rw [Int.toNat_natCast, made_bcells] at H
  have hcl := (H.ownA (.head _)).cells
  have hsz : (ByteArray.mk (List.replicate k (0 : UInt8)).toArray).size = k := by simp [ByteArray.size]
  refine ⟨_, b2s (s := ⟨(List.replicate k 0).toArray⟩) undBS undU8s qundStr (by rw [byteCells_mk]; exact hcl) (by rw [hsz, Int.toNat_natCast]), ?_⟩
  generalize ByteArray.mk (List.replicate k (0 : UInt8)).toArray = t at hsz ⊢
  replace H := H.drop
  have hd : dexport (Dk.new 100) n t = (Dk.new 100, 91) := by
    unfold dexport
    rw [hr, if_neg (by simp), if_pos (by omega)]
  have he := export_spec x (Dk.new 100) hx (new_fit 100 0) (by omega) n t w3 H.std
  rw [hd] at he
  refine callV he ?_
  clear he
  rintro e w4 ⟨rfl, x1, hx1b, hx1, H'⟩
  replace H := H.useAll H'; clear H'
  refine ⟨_, rfl, ?_⟩
  refine callV (alive_spec w4) ?_
  rintro e w5 ⟨rfl, H'⟩
  replace H := H.ext0 H'; clear H'
  refine ⟨_, rfl, br_true (br_true ?_)⟩
  have hn := names_spec x1 (Dk.new 100) hx1 (by decide) w5 H.std
  rw [hx1b] at hn
  refine callV hn ?_
  rintro e w6 ⟨a6, c6, rfl, H'⟩
  replace H := H.ext1 H'; clear H'
  exact ⟨_, _, _, rfl, rfl, H.done⟩
end Go.Proofs.Ytdpkamajecmebaa
