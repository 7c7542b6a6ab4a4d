/- Press: the law of PressApart. -/
import Derived.Test.YtdpkamajecmebaaQt
import Derived.Test.YtdpkamajecmebaaQj
import Derived.Test.YtdpkamajecmebaaQv
set_option linter.unusedVariables false
set_option linter.unusedSimpArgs false
set_option maxRecDepth 100000
namespace Go.Proofs.Ytdpkamajecmebaa
open Go Go.Vc Go.Vault Go.Redo Go.Press

theorem br_kind {k : Int} {X Y : Prop} (hY : (k = 0 ∨ k = 1) → Y) (hX : ¬ k = 0 → (k = 1 → Y) → X) : br (!decide (k = 0)) X Y :=
  br_ndec (fun h => hX h fun h1 => hY (.inr h1)) (fun h => hY (.inl h))
theorem dexport_fit3 {d : Dk} {N : Nat} (h : d.Fit N) (n : ByteArray) {t : ByteArray} (ht : t.size ≤ 20000) : (dexport d n t).1.Fit (N + 64) :=
  (dexport_fit h n t).mono (by have := nsecs_le (t := t) (by omega); omega)

set_option maxHeartbeats 8000000 in
theorem pressApart_law (sa : Option Addr) (sc : Nat) (os : List (OW × Op)) (t : Tx) (hns : t.1.size ≤ 4611686018427387904) (W : World) (hs : Scr W sa os) :
    Calls Go.Proofs.Try.prog 6 #[.slice sa os.length sc, .agg #[.string t.1, .string t.2]] W fun e W' => e = .returned (.bool true) ∧ Hp [] W W' [] := by
  apply pressApart.ok; unfold pressApart.vc
  have H := Hp.start W
  have hsz : ((nAhead.size + t.1.size : Nat) : Int) ≤ 9223372036854775807 := by
    have : nAhead.size = 2 := rfl
    omega
  intro bt w0 hn
  replace H := H.new (cs := txC t) (by exact ⟨rfl, rfl, rfl, rfl⟩) hn; clear hn
  refine callV (new_spec 3000 w0) ?_
  rintro e w1 ⟨x, rfl, hx, H'⟩
  replace H := H.ext H'; clear H'
  refine ⟨_, rfl, ?_⟩
  refine callV (rnew_spec2 3000 w1) ?_
  rintro e w2 ⟨rfl, H'⟩
  replace H := H.ext0 H'; clear H'
  refine ⟨_, _, _, _, _, _, _, _, _, _, _, _, _, _, _, _, rfl, ?_⟩
  intro br_ w3 hn
  replace H := H.new (cs := valZ) (by exact ⟨rfl, rfl, rfl, rfl⟩) hn; clear hn
  refine Hp.stA H (by exact ⟨rfl, rfl, rfl, rfl⟩) raggD (vs := valC RV0 (Dk.new 3000)) (cs' := valC RV0 (Dk.new 3000)) rfl rfl (by simp [valZ]) rfl ?_
  clear H; intro w4 H
  have H0 : Hp [] W w4 (dkL x (Dk.new 3000) ++ [refA [] RV0 (Dk.new 3000), .blk br_ (valC RV0 (Dk.new 3000)) 44, .blk bt (txC t) 28]) := by
    have h1 : Hp [] W w4 (refA [] RV0 (Dk.new 3000) :: _) := Hp.add H (Chg.refl _ _) (refA_ok (rd0 _ _) (by simp)) (by simp [refA, Asn.foot])
    refine h1.perm ?_
    (refine perm_cnt fun ff gg h0 hc ha hpm => ?_; simp only [ha, hc, h0]; omega)
  clear H
  refine JoinP.mk (fun (s : Bool) (w' : World) => Hp [] W w' (dkL x (Dk.new 3000) ++ [refA [] RV0 (Dk.new 3000), .blk br_ (valC RV0 (Dk.new 3000)) 44, .blk bt (txC t) 28]) ∧ (s = false → os.length ≤ 100 ∧ t.2.size ≤ 20000)) ?hR_1 ?hX_1
  case hX_1 =>
    intro J hJ
    refine ⟨_, eqv_ptrE undPD, br_false ?_⟩
    refine br_dec (fun _ => hJ _ _ ⟨H0, by simp⟩) (fun h1 => ?_)
    refine ⟨_, H0.ld (cs := txC t) (by exact ⟨rfl, rfl, rfl, rfl⟩) sclStr (List.mem_append_right _ (.tail _ (.tail _ (.head _)))) rfl, ?_⟩
    exact hJ _ _ ⟨H0, fun h2 => by have := of_decide_eq_false h2; omega⟩
  clear H0
  rintro s w5 ⟨H0, hfew⟩
  refine br_mk (fun _ => ⟨_, eqv_ptrN undPD, br_true (aliveRet H0)⟩) (fun hs0 => ?_)
  obtain ⟨hos, hts⟩ := hfew hs0
  clear hfew hs0 s
  refine LoopP.mk (fun (m : Nat) (s : Int) (w' : World) => ∃ (k : Nat) (y : DW) (d : Dk) (F : List Nat) (v : RV), m = os.length - k ∧ k ≤ os.length ∧ s = (k : Int) ∧ y.b = x.b ∧ y.Ok d ∧ d.Fit k ∧ Others d t.1 k ∧ Hp [] W w' (dkL y d ++ [refA F v d, .blk br_ (valC v d) 44, .blk bt (txC t) 28])) os.length ⟨0, x, Dk.new 3000, [], RV0, rfl, by omega, rfl, rfl, hx, new_fit 3000 0, others_new _, H0⟩ ?_
  clear H0 w0 w1 w2 w3 w4 w5
  rintro m s w1 next ⟨k, y, d, F, v, rfl, hk, rfl, hyb, hy, fit, hoth, H⟩ hnext
  refine br_dec (fun h3 => ?_) (fun h3 => ?_)
  · have hkl : k < os.length := by omega
    obtain ⟨p, hp⟩ : ∃ p, os[k]? = some p := ⟨_, List.getElem?_eq_getElem hkl⟩
    have hpm := List.mem_of_getElem? hp
    obtain ⟨ad, ha, hld⟩ := (hs.chg0 H.chg).ldA hp
    refine onP_mk ha ⟨⟨by omega, by omega⟩, _, _, _, _, _, _, _, _, _, _, by rw [Int.toNat_natCast]; exact hld, ?_⟩
    clear hld
    intro bo w2 hn
    replace H := H.new (cs := opZ) (by exact ⟨rfl, rfl, rfl, rfl⟩) hn; clear hn
    refine Hp.stA H (by exact ⟨rfl, rfl, rfl, rfl⟩) raggO (vs := opC p) (cs' := opC p) rfl rfl (by simp [opZ]) rfl ?_
    clear H; intro w4 H
    have H2 : Hp [] W w4 (dkL y d ++ [.blk bo (opC p) 49, refA F v d, .blk br_ (valC v d) 44, .blk bt (txC t) 28]) := H.perm (by (refine perm_cnt fun ff gg h0 hc ha hpm => ?_; simp only [ha, hc, h0]; omega))
    clear H
    have hst := fun W' hW => hs.stable H2 hpm W' hW
    have skip : inR .i64 ((k : Int) + 1) ∧ next ((k : Int) + 1) w4 := by
      refine ⟨inR64.2 (by omega), hnext (os.length - (k + 1)) _ _ (by omega) ⟨k + 1, y, d, F, v, rfl, by omega, by simp, hyb, hy, fit.mono (by omega), hoth.mono (by omega), ?_⟩⟩
      have h9 : Hp [] W w4 (.blk bo (opC p) 49 :: (dkL y d ++ [refA F v d, .blk br_ (valC v d) 44, .blk bt (txC t) 28])) := H2.perm (by (refine perm_cnt fun ff gg h0 hc ha hpm => ?_; simp only [ha, hc, h0]; omega))
      exact h9.drop
    have tail : ∀ (w5 : World) (y2 : DW) (d2 : Dk), y2.b = x.b → y2.Ok d2 → d2 = (doP d p.2).1 → Others d2 t.1 (k + 1) → Hp [] W w5 (dkL y2 d2 ++ [.blk bo (opC p) 49, refA F v d, .blk br_ (valC v d) 44, .blk bt (txC t) 28]) → ∃ (i : Int) (a : Option Addr) (l c : Nat) (a_7 : Option Addr) (l_5 c_5 : Nat) (a_8 : Option Addr) (l_6 c_6 : Nat) (a_9 : Option Addr) (l_7 c_7 : Nat) (i_4 i_5 : Int) (b_2 : Bool), Ld Go.Proofs.Try.prog 44 w5 ⟨br_, 0, none⟩ (.agg #[.int .i64 i, .slice a l c, .slice a_7 l_5 c_5, .slice a_8 l_6 c_6, .slice a_9 l_7 c_7, .int .i64 i_4, .int .i64 i_5, .bool b_2]) ∧
        ∃ (i_6 i_7 : Int) (s_4 s_5 : ByteArray) (a_10 : Option Addr) (l_8 c_8 : Nat) (a_11 : Option Addr) (l_9 c_9 : Nat), Ld Go.Proofs.Try.prog 49 w5 ⟨bo, 0, none⟩ (.agg #[.int .i64 i_6, .int .i64 i_7, .string s_4, .string s_5, .slice a_10 l_8 c_8, .slice a_11 l_9 c_9]) ∧
        CallV Go.Proofs.Try.prog 20 [.agg #[.int .i64 i, .slice a l c, .slice a_7 l_5 c_5, .slice a_8 l_6 c_6, .slice a_9 l_7 c_7, .int .i64 i_4, .int .i64 i_5, .bool b_2], .agg #[.int .i64 i_6, .int .i64 i_7, .string s_4, .string s_5, .slice a_10 l_8 c_8, .slice a_11 l_9 c_9]] w5 fun e w' => ∃ (i : Int) (a : Option Addr) (l c : Nat) (a1 : Option Addr) (l1 c1 : Nat) (a2 : Option Addr) (l2 c2 : Nat) (a3 : Option Addr) (l3 c3 : Nat) (i1 i2 : Int) (b : Bool) (s : ByteArray) (i3 : Int),
          e = .returned (.tuple #[.agg #[.int .i64 i, .slice a l c, .slice a1 l1 c1, .slice a2 l2 c2, .slice a3 l3 c3, .int .i64 i1, .int .i64 i2, .bool b], .agg #[.string s, .int .i64 i3]]) ∧ ∃ w1, St Go.Proofs.Try.prog 44 w' ⟨br_, 0, none⟩ (.agg #[.int .i64 i, .slice a l c, .slice a1 l1 c1, .slice a2 l2 c2, .slice a3 l3 c3, .int .i64 i1, .int .i64 i2, .bool b]) w1 ∧ (inR .i64 ((k : Int) + 1) ∧ next ((k : Int) + 1) w1) := by
      intro w5 y2 d2 hb hok2 hd2 ho2 H
      refine ⟨_, _, _, _, _, _, _, _, _, _, _, _, _, _, _, _, H.ldA (cs := valC v d) (by exact ⟨rfl, rfl, rfl, rfl⟩) raggD (List.mem_append_right _ (.tail _ (.tail _ (.head _)))) rfl rfl, ?_⟩
      refine ⟨_, _, _, _, _, _, _, _, _, _, H.ldA (cs := opC p) (by exact ⟨rfl, rfl, rfl, rfl⟩) raggO (List.mem_append_right _ (.head _)) rfl rfl, ?_⟩
      have hod := (hs.chg0 H.chg).ops p hpm
      have H3 : Hp [] W w5 (refA F v d :: .blk br_ (valC v d) 44 :: (dkL y2 d2 ++ [.blk bo (opC p) 49, .blk bt (txC t) 28])) := H.perm (by (refine perm_cnt fun ff gg h0 hc ha hpm => ?_; simp only [ha, hc, h0]; omega))
      have fit2 := doP_fit fit hy.dk p.2
      refine rstep (R := fun w' => inR .i64 ((k : Int) + 1) ∧ next ((k : Int) + 1) w') hy.dk fit (by omega) H3 hod ?_
      intro w6 F' v' H4
      rw [← hd2] at H4 fit2
      refine ⟨inR64.2 (by omega), hnext (os.length - (k + 1)) _ _ (by omega) ⟨k + 1, y2, d2, F', v', rfl, by omega, by simp, hb, hok2, fit2, ho2, ?_⟩⟩
      have h9 : Hp [] W w6 (.blk bo (opC p) 49 :: (dkL y2 d2 ++ [refA F' v' d2, .blk br_ (valC v' d2) 44, .blk bt (txC t) 28])) := H4.perm (by (refine perm_cnt fun ff gg h0 hc ha hpm => ?_; simp only [ha, hc, h0]; omega))
      exact h9.drop
    have mo : Asn.blk bo (opC p) 49 ∈ dkL y d ++ [.blk bo (opC p) 49, refA F v d, .blk br_ (valC v d) 44, .blk bt (txC t) 28] := List.mem_append_right _ (.head _)
    have mt : Asn.blk bt (txC t) 28 ∈ dkL y d ++ [.blk bo (opC p) 49, refA F v d, .blk br_ (valC v d) 44, .blk bt (txC t) 28] := List.mem_append_right _ (.tail _ (.tail _ (.tail _ (.head _))))
    refine ⟨_, H2.ld (cs := opC p) (by exact ⟨rfl, rfl, rfl, rfl⟩) sclInt mo rfl, ?_⟩
    refine br_kind (fun hkd => ?_) (fun k0 hY => ⟨_, H2.ld (cs := opC p) (by exact ⟨rfl, rfl, rfl, rfl⟩) sclInt mo rfl, br_ndec (fun _ => skip) (fun k1 => hY k1)⟩)
    refine ⟨_, H2.ld (cs := opC p) (by exact ⟨rfl, rfl, rfl, rfl⟩) sclStr mo rfl, br_dec (fun _ => skip) (fun n1 => ?_)⟩
    refine ⟨_, H2.ld (cs := opC p) (by exact ⟨rfl, rfl, rfl, rfl⟩) sclStr mo rfl, _, H2.ld (cs := txC t) (by exact ⟨rfl, rfl, rfl, rfl⟩) sclStr mt rfl, hsz, br_dec (fun _ => skip) (fun n2 => ?_)⟩
    have n1 : p.2.name ≠ nPart := n1
    have n2 : p.2.name ≠ pfile t.1 := n2
    refine ⟨_, H2.ld (cs := opC p) (by exact ⟨rfl, rfl, rfl, rfl⟩) sclInt mo rfl, br_dec (fun k0 => ?_) (fun k0 => ?_)⟩
    · refine ⟨_, H2.ld (cs := opC p) (by exact ⟨rfl, rfl, rfl, rfl⟩) sclStr mo rfl, ?_⟩
      have hcs := create_spec y d hy (by have := fit.chs; omega) (by have := fit.files; omega) p.2.name w4 H2.std1
      rw [hyb] at hcs
      refine callV hcs ?_
      clear hcs
      rintro e w5 ⟨rfl, y2, hy2b, hy2, H'⟩
      exact ⟨_, rfl, tail w5 y2 _ (hy2b.trans hyb) hy2 (by rw [doP, if_pos k0]) (hoth.create n1 n2) (H2.useL H')⟩
    · refine ⟨_, H2.ld (cs := opC p) (by exact ⟨rfl, rfl, rfl, rfl⟩) sclStr mo rfl, _, H2.ld (cs := opC p) (by exact ⟨rfl, rfl, rfl, rfl⟩) sclInt mo rfl, _, _, _, H2.ld (cs := opC p) (by exact ⟨rfl, rfl, rfl, rfl⟩) rsclU mo rfl, ?_⟩
      have hws := write_spec y d hy fit.few (by omega) (fit.used (by omega)) p.2.name p.2.n p.1.ba p.1.bc p.2.b w4 H2.std1 (fun W' hW => (hst W' hW).b.cells) (hs.ops p hpm).b.nil
      rw [hyb] at hws
      refine callV hws ?_
      clear hws
      rintro e w5 ⟨rfl, y2, hy2b, hy2, H'⟩
      exact ⟨_, rfl, tail w5 y2 _ (hy2b.trans hyb) hy2 (by rw [doP, if_neg k0, if_pos (hkd.resolve_left k0)]) (hoth.write _ _ _) (H2.useL H')⟩
  · clear hnext
    replace hoth := hoth.mono (show k ≤ 100 by omega)
    replace fit := fit.mono (show k ≤ 100 by omega)
    have mt : ∀ {L : List Asn}, Asn.blk bt (txC t) 28 ∈ L ++ [refA F v d, .blk br_ (valC v d) 44, .blk bt (txC t) 28] := List.mem_append_right _ (.tail _ (.tail _ (.head _)))
    have mr : ∀ {L : List Asn}, Asn.blk br_ (valC v d) 44 ∈ L ++ [refA F v d, .blk br_ (valC v d) 44, .blk bt (txC t) 28] := List.mem_append_right _ (.tail _ (.head _))
    -- the end: alive, same
    have fin : ∀ (w' : World) (z : DW) (q : Dk), z.b = x.b → z.Ok q → q.Fit 400 → Same q d → Hp [] W w' (dkL z q ++ [refA F v d, .blk br_ (valC v d) 44, .blk bt (txC t) 28]) →
        CallV Go.Proofs.Try.prog 10 [] w' fun e w' => ∃ b, e = .returned (.bool b) ∧ br b (∃ (i : Int) (a : Option Addr) (l c : Nat) (a_5 : Option Addr) (l_4 c_4 : Nat) (a_6 : Option Addr) (l_5 c_5 : Nat) (a_7 : Option Addr) (l_6 c_6 : Nat) (i_5 i_6 : Int) (b : Bool), Ld Go.Proofs.Try.prog 44 w' ⟨br_, 0, none⟩ (.agg #[.int .i64 i, .slice a l c, .slice a_5 l_4 c_4, .slice a_6 l_5 c_5, .slice a_7 l_6 c_6, .int .i64 i_5, .int .i64 i_6, .bool b]) ∧
          CallV Go.Proofs.Try.prog 26 [.pointer (some ⟨x.b, 0, none⟩), .agg #[.int .i64 i, .slice a l c, .slice a_5 l_4 c_4, .slice a_6 l_5 c_5, .slice a_7 l_6 c_6, .int .i64 i_5, .int .i64 i_6, .bool b]] w' fun e w' => ∃ b, e = .returned (.bool b) ∧ (Ending.returned (.bool b) = .returned (.bool true) ∧ Hp [] W w' [])) (Ending.returned (.bool false) = .returned (.bool true) ∧ Hp [] W w' []) := by
      intro w2 z q hzb hz hfit hsame H
      refine callV (alive_spec w2) ?_
      rintro e w3 ⟨rfl, H'⟩
      replace H := H.ext0 H'; clear H'
      refine ⟨_, rfl, br_true ?_⟩
      refine ⟨_, _, _, _, _, _, _, _, _, _, _, _, _, _, _, _, H.ldA (cs := valC v d) (by exact ⟨rfl, rfl, rfl, rfl⟩) raggD mr rfl rfl, ?_⟩
      obtain ⟨hR, hF⟩ := refA_rd (H.ok (refA F v d) (List.mem_append_right _ (.head _)))
      have hsp := same_spec z q d hz hfit (by omega) hsame hy.dk w3 H.std1 hR
      rw [hzb] at hsp
      refine callV hsp ?_
      rintro e w4 ⟨rfl, H'⟩
      exact ⟨_, rfl, rfl, (H.ext0 H').done⟩
    refine ⟨_, H.ld (cs := txC t) (by exact ⟨rfl, rfl, rfl, rfl⟩) sclStr mt rfl, _, H.ld (cs := txC t) (by exact ⟨rfl, rfl, rfl, rfl⟩) sclStr mt rfl, ?_⟩
    have hes := export_spec y d hy fit (by omega) t.1 t.2 w1 H.std1
    have fit1 := dexport_fit3 fit t.1 hts
    rw [hyb] at hes
    cases hr : nright t.1 with
    | false =>
      have he : dexport d t.1 t.2 = (d, 92) := by unfold dexport; rw [hr]; rfl
      rw [he] at hes fit1
      refine callV hes ?_
      clear hes
      rintro e w2 ⟨rfl, y2, hy2b, hy2, H'⟩
      replace H := H.useL H'; clear H'
      refine ⟨_, rfl, _, H.ld (cs := txC t) (by exact ⟨rfl, rfl, rfl, rfl⟩) sclStr mt rfl, ?_⟩
      refine callV (pright_spec t.1 w2) ?_
      rintro e w3 ⟨rfl, H'⟩
      replace H := H.ext0 H'; clear H'
      refine ⟨_, rfl, ?_⟩
      rw [hr]
      refine br_false ?_
      have hus := used_spec y2 d hy2 (fit.used (by omega)) w3 H.std1
      rw [hy2b, hyb] at hus
      refine callV hus ?_
      clear hus
      rintro e w4 ⟨rfl, H'⟩
      replace H := H.ext0 H'; clear H'
      refine ⟨_, rfl, _, H.ld (cs := txC t) (by exact ⟨rfl, rfl, rfl, rfl⟩) sclStr mt rfl, _, H.ld (cs := txC t) (by exact ⟨rfl, rfl, rfl, rfl⟩) sclStr mt rfl, ?_⟩
      have hes := export_spec y2 d hy2 fit (by omega) t.1 t.2 w4 H.std1
      rw [hy2b, hyb, he] at hes
      refine callV hes ?_
      clear hes
      rintro e w5 ⟨rfl, y3, hy3b, hy3, H'⟩
      replace H := H.useL H'; clear H'
      refine ⟨_, rfl, ?_⟩
      refine JoinP.mk (fun (s : Bool) (w' : World) => s = false ∧ Hp [] W w' (dkL y3 d ++ [refA F v d, .blk br_ (valC v d) 44, .blk bt (txC t) 28])) ?hR_2 ?hX_2
      case hX_2 =>
        intro J hJ
        refine br_ndec (fun h => absurd rfl h) (fun _ => ?_)
        have hus := used_spec y3 d hy3 (fit.used (by omega)) w5 H.std1
        rw [hy3b, hy2b, hyb] at hus
        refine callV hus ?_
        rintro e w6 ⟨rfl, H'⟩
        exact ⟨_, rfl, hJ _ _ ⟨by simp, H.ext0 H'⟩⟩
      clear H
      rintro s w6 ⟨rfl, H⟩
      refine br_false ?_
      refine JoinP.mk (fun (s : Bool) (w' : World) => s = false ∧ Hp [] W w' (dkL y3 d ++ [refA F v d, .blk br_ (valC v d) 44, .blk bt (txC t) 28])) ?hR_3 ?hX_3
      case hX_3 =>
        intro J hJ
        exact br_dec (fun h => by cases h) (fun _ => hJ _ _ ⟨rfl, H⟩)
      clear H
      rintro s w7 ⟨rfl, H⟩
      exact br_false (fin w7 y3 d (by rw [hy3b, hy2b, hyb]) hy3 (fit.mono (by omega)) (Same.refl d) H)
    | true =>
      obtain ⟨q1, he, ho1⟩ := apart_one hy.dk (t := t.2) hoth hr hts
      rw [he] at hes fit1
      refine callV hes ?_
      clear hes
      rintro e w2 ⟨rfl, y2, hy2b, hy2, H'⟩
      replace H := H.useL H'; clear H'
      refine ⟨_, rfl, _, H.ld (cs := txC t) (by exact ⟨rfl, rfl, rfl, rfl⟩) sclStr mt rfl, ?_⟩
      refine callV (pright_spec t.1 w2) ?_
      rintro e w3 ⟨rfl, H'⟩
      replace H := H.ext0 H'; clear H'
      refine ⟨_, rfl, ?_⟩
      rw [hr]
      refine br_false ?_
      have hus := used_spec y2 q1 hy2 (fit1.used (by omega)) w3 H.std1
      rw [hy2b, hyb] at hus
      refine callV hus ?_
      clear hus
      rintro e w4 ⟨rfl, H'⟩
      replace H := H.ext0 H'; clear H'
      refine ⟨_, rfl, _, H.ld (cs := txC t) (by exact ⟨rfl, rfl, rfl, rfl⟩) sclStr mt rfl, _, H.ld (cs := txC t) (by exact ⟨rfl, rfl, rfl, rfl⟩) sclStr mt rfl, ?_⟩
      obtain ⟨q2, he2, ho2⟩ := apart_two hy.dk hy2.dk hoth ho1 hr hts
      have hes := export_spec y2 q1 hy2 fit1 (by omega) t.1 t.2 w4 H.std1
      have fit2 := dexport_fit3 fit1 t.1 hts
      rw [he2] at fit2
      rw [hy2b, hyb, he2] at hes
      refine callV hes ?_
      clear hes
      rintro e w5 ⟨rfl, y3, hy3b, hy3, H'⟩
      replace H := H.useL H'; clear H'
      refine ⟨_, rfl, ?_⟩
      refine JoinP.mk (fun (s : Bool) (w' : World) => s = false ∧ Hp [] W w' (dkL y3 q2 ++ [refA F v d, .blk br_ (valC v d) 44, .blk bt (txC t) 28])) ?hR_4 ?hX_4
      case hX_4 =>
        intro J hJ
        refine br_ndec (fun h => absurd rfl h) (fun _ => ?_)
        have hus := used_spec y3 q2 hy3 (fit2.used (by omega)) w5 H.std1
        rw [hy3b, hy2b, hyb] at hus
        refine callV hus ?_
        rintro e w6 ⟨rfl, H'⟩
        refine ⟨_, rfl, hJ _ _ ⟨?_, H.ext0 H'⟩⟩
        rw [ho2.used hy.dk hoth.free, ho1.used hy.dk hoth.free]
        simp
      clear H
      rintro s w6 ⟨rfl, H⟩
      refine br_false ?_
      obtain ⟨q3, he3, hsame⟩ := apart_gone hy.dk hoth ho2
      refine JoinP.mk (fun (s : Bool) (w' : World) => s = false ∧ ∃ z : DW, z.b = x.b ∧ z.Ok q3 ∧ Hp [] W w' (dkL z q3 ++ [refA F v d, .blk br_ (valC v d) 44, .blk bt (txC t) 28])) ?hR_5 ?hX_5
      case hX_5 =>
        intro J hJ
        refine br_dec (fun _ => ?_) (fun h => absurd rfl h)
        refine ⟨_, H.ld (cs := txC t) (by exact ⟨rfl, rfl, rfl, rfl⟩) sclStr mt rfl, hsz, ?_⟩
        have hrs := remove_spec y3 q2 hy3 (by rw [ho2.chs]; simp) (pfile t.1) w6 H.std1
        rw [hy3b, hy2b, hyb, he3] at hrs
        refine callV hrs ?_
        rintro e w7 ⟨rfl, z, hzb, hz, H'⟩
        exact ⟨_, rfl, hJ _ _ ⟨rfl, z, by rw [hzb, hy3b, hy2b, hyb], hz, H.useL H'⟩⟩
      clear H
      rintro s w7 ⟨rfl, z, hzb, hz, H⟩
      have fit3 : q3.Fit 400 := by
        have h1 := doP_fit fit2 hy3.dk ⟨5, 0, pfile t.1, ⟨#[]⟩, [], []⟩
        have e : (doP q2 ⟨5, 0, pfile t.1, ⟨#[]⟩, [], []⟩).1 = (q2.remove (pfile t.1)).1 := rfl
        rw [e, he3] at h1
        exact h1.mono (by omega)
      exact br_false (fin w7 z q3 hzb hz fit3 hsame H)
end Go.Proofs.Ytdpkamajecmebaa
