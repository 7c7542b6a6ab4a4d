/- Press: the law of PressRaw. -/
import Derived.Test.YtdpkamajecmebaaQr
set_option linter.unusedVariables false
set_option linter.unusedSimpArgs false
set_option maxRecDepth 100000
namespace Go.Proofs.Ytdpkamajecmebaa
open Go Go.Vc Go.Vault Go.Redo Go.Press

def opZ : List Value := [.int .i64 0, .int .i64 0, .string ⟨#[]⟩, .string ⟨#[]⟩, .slice none 0 0, .slice none 0 0]
/-- a call by the document, its answer left, the disk put in its place -/
theorem rstep {W w : World} {F : List Nat} {v : RV} {d : Dk} {L : List Asn} {br : Nat} (hok : d.Ok) {N : Nat} (fit : d.Fit N) (hN : N ≤ 1000000) {G0 : List Nat} {ow : OW} {o : Op} (H : Hp [] W w (refA F v d :: .blk br (valC v d) 44 :: L)) (ho : OD G0 w ow o) {R : World → Prop}
    (k : ∀ (w2 : World) (F' : List Nat) (v' : RV), Hp [] W w2 (refA F' v' (doP d o).1 :: .blk br (valC v' (doP d o).1) 44 :: L) → R w2) :
    CallV Go.Proofs.Try.prog 20 [.agg (valC v d).toArray, ow.val o] w fun e w' => ∃ (i : Int) (a : Option Addr) (l c : Nat) (a1 : Option Addr) (l1 c1 : Nat) (a2 : Option Addr) (l2 c2 : Nat) (a3 : Option Addr) (l3 c3 : Nat) (i1 i2 : Int) (b : Bool) (s : ByteArray) (i3 : Int),
      e = .returned (.tuple #[.agg #[.int .i64 i, .slice a l c, .slice a1 l1 c1, .slice a2 l2 c2, .slice a3 l3 c3, .int .i64 i1, .int .i64 i2, .bool b], .agg #[.string s, .int .i64 i3]]) ∧ ∃ w1, St Go.Proofs.Try.prog 44 w' ⟨br, 0, none⟩ (.agg #[.int .i64 i, .slice a l c, .slice a1 l1 c1, .slice a2 l2 c2, .slice a3 l3 c3, .int .i64 i1, .int .i64 i2, .bool b]) w1 ∧ R w1 := by
  obtain ⟨hR, hF⟩ := refA_rd (H.ok (refA F v d) (.head _))
  have hdo := rdo_spec hR hF hok fit.few (by omega) (fit.since hok (by omega)) (fit.used (by omega)) ho
  rw [← doP_doR] at hdo
  refine callV hdo ?_
  intro e w4 hpost
  obtain ⟨v', F', rfl, H2⟩ := RPostK.use H hpost
  refine ⟨_, _, _, _, _, _, _, _, _, _, _, _, _, _, _, _, _, _, rfl, ?_⟩
  refine Hp.stA H2.pull1 (by exact ⟨rfl, rfl, rfl, rfl⟩) raggD (vs := valC v' (doP d o).1) (cs' := valC v' (doP d o).1) rfl rfl (by simp [valC]) rfl ?_
  intro w5 H3
  exact k w5 F' v' H3.pull1

set_option maxHeartbeats 4000000 in
theorem pressRaw_law (n : ByteArray) (hns : n.size ≤ 4611686018427387904) (sa : Option Addr) (sc : Nat) (os : List (OW × Op)) (W : World) (hs : Scr W sa os) :
    Calls Go.Proofs.Try.prog 4 #[.string n, .slice sa os.length sc] W fun e W' => e = .returned (.bool true) ∧ Hp [] W W' [] := by
  apply pressRaw.ok; unfold pressRaw.vc
  have H := Hp.start W
  have hsz : ((nAhead.size + n.size : Nat) : Int) ≤ 9223372036854775807 := by
    have : nAhead.size = 2 := rfl
    omega
  refine callV (new_spec 60 W) ?_
  rintro e w1 ⟨x, rfl, hx, H'⟩
  replace H := H.ext H'; clear H'
  refine ⟨_, rfl, ?_⟩
  refine callV (rnew_spec2 60 w1) ?_
  rintro e w2 ⟨rfl, H'⟩
  replace H := H.ext0 H'; clear H'
  refine ⟨_, _, _, _, _, _, _, _, _, _, _, _, _, _, _, _, rfl, ?_⟩
  intro br w3 hn
  replace H := H.new (cs := valZ) (by exact ⟨rfl, rfl, rfl, rfl⟩) hn; clear hn
  refine Hp.stA H (by exact ⟨rfl, rfl, rfl, rfl⟩) raggD (vs := valC RV0 (Dk.new 60)) (cs' := valC RV0 (Dk.new 60)) rfl rfl (by simp [valZ]) rfl ?_
  clear H; intro w4 H
  refine ⟨_, eqv_ptrE undPD, br_false ?_⟩
  refine br_dec (fun _ => ⟨_, eqv_ptrN undPD, br_true (aliveRet H)⟩) (fun hos => ?_)
  have H0 : Hp [] W w4 (dkL x (Dk.new 60) ++ [refA [] RV0 (Dk.new 60), .blk br (valC RV0 (Dk.new 60)) 44]) := by
    have h1 : Hp [] W w4 (refA [] RV0 (Dk.new 60) :: _) := Hp.add H (Chg.refl _ _) (refA_ok (rd0 _ _) (by simp)) (by simp [refA, Asn.foot])
    refine h1.perm ?_
    (refine perm_cnt fun ff gg h0 hc ha hpm => ?_; simp only [ha, hc, h0]; omega)
  clear H
  refine LoopP.mk (fun (m : Nat) (s : Int) (w' : World) => ∃ (k : Nat) (y : DW) (d : Dk) (F : List Nat) (v : RV), m = os.length - k ∧ k ≤ os.length ∧ s = (k : Int) ∧ y.b = x.b ∧ y.Ok d ∧ d.Fit k ∧ Hp [] W w' (dkL y d ++ [refA F v d, .blk br (valC v d) 44])) os.length ⟨0, x, Dk.new 60, [], RV0, rfl, by omega, rfl, rfl, hx, new_fit 60 0, H0⟩ ?_
  clear H0 w1 w2 w3 w4
  rintro m s w1 next ⟨k, y, d, F, v, rfl, hk, rfl, hyb, hy, fit, H⟩ hnext
  refine br_dec (fun h3 => ?_) (fun h3 => ?_)
  · have hkl : k < os.length := by omega
    obtain ⟨p, hp⟩ : ∃ p, os[k]? = some p := ⟨_, List.getElem?_eq_getElem hkl⟩
    have hpm := List.mem_of_getElem? hp
    obtain ⟨ad, ha, hld⟩ := (hs.chg0 H.chg).ldA hp
    refine onP_mk ha ⟨⟨by omega, by omega⟩, _, _, _, _, _, _, _, _, _, _, by rw [Int.toNat_natCast]; exact hld, ?_⟩
    clear hld
    intro bo w2 hn
    replace H := H.new (cs := opZ) (by exact ⟨rfl, rfl, rfl, rfl⟩) hn; clear hn
    refine Hp.stA H (by exact ⟨rfl, rfl, rfl, rfl⟩) raggO (vs := opC p) (cs' := opC p) rfl rfl (by simp [opZ]) rfl ?_
    clear H; intro w3 H
    refine ⟨hsz, ?_⟩
    obtain ⟨q, hq⟩ : ∃ q : OW × Op, q = (p.1, { p.2 with name := pfile n }) := ⟨_, rfl⟩
    refine Hp.st (o := 2) H (by exact ⟨rfl, rfl, rfl, rfl⟩) sclStr rfl rfl (by simp [opC]) (cs' := opC q) (by rw [hq]; rfl) ?_
    clear H; intro w4 H
    have hqk : q.2.kind = p.2.kind := by rw [hq]
    have hqn : q.2.name = pfile n := by rw [hq]
    have hqod : ∀ W', OD (opF p) W' p.1 p.2 → OD (opF p) W' q.1 q.2 := fun W' h => by rw [hq]; exact ⟨h.b, h.picks⟩
    have H2 : Hp [] W w4 (dkL y d ++ [.blk bo (opC q) 49, refA F v d, .blk br (valC v d) 44]) := H.perm (by (refine perm_cnt fun ff gg h0 hc ha hpm => ?_; simp only [ha, hc, h0]; omega))
    clear H
    have hst := fun W' hW => hqod W' (hs.stable H2 hpm W' hW)
    refine ⟨_, H2.ld (cs := opC q) (by exact ⟨rfl, rfl, rfl, rfl⟩) sclInt (List.mem_append_right _ (.head _)) rfl, ?_⟩
    -- the document does the same
    have tail : ∀ (w5 : World) (y2 : DW) (d2 : Dk), y2.b = x.b → y2.Ok d2 → d2 = (doP d q.2).1 → Hp [] W w5 (dkL y2 d2 ++ [.blk bo (opC q) 49, refA F v d, .blk br (valC v d) 44]) → ∃ (i : Int) (a : Option Addr) (l c : Nat) (a_7 : Option Addr) (l_5 c_5 : Nat) (a_8 : Option Addr) (l_6 c_6 : Nat) (a_9 : Option Addr) (l_7 c_7 : Nat) (i_4 i_5 : Int) (b_2 : Bool), Ld Go.Proofs.Try.prog 44 w5 ⟨br, 0, none⟩ (.agg #[.int .i64 i, .slice a l c, .slice a_7 l_5 c_5, .slice a_8 l_6 c_6, .slice a_9 l_7 c_7, .int .i64 i_4, .int .i64 i_5, .bool b_2]) ∧
        ∃ (i_6 i_7 : Int) (s_4 s_5 : ByteArray) (a_10 : Option Addr) (l_8 c_8 : Nat) (a_11 : Option Addr) (l_9 c_9 : Nat), Ld Go.Proofs.Try.prog 49 w5 ⟨bo, 0, none⟩ (.agg #[.int .i64 i_6, .int .i64 i_7, .string s_4, .string s_5, .slice a_10 l_8 c_8, .slice a_11 l_9 c_9]) ∧
        CallV Go.Proofs.Try.prog 20 [.agg #[.int .i64 i, .slice a l c, .slice a_7 l_5 c_5, .slice a_8 l_6 c_6, .slice a_9 l_7 c_7, .int .i64 i_4, .int .i64 i_5, .bool b_2], .agg #[.int .i64 i_6, .int .i64 i_7, .string s_4, .string s_5, .slice a_10 l_8 c_8, .slice a_11 l_9 c_9]] w5 fun e w' => ∃ (i : Int) (a : Option Addr) (l c : Nat) (a1 : Option Addr) (l1 c1 : Nat) (a2 : Option Addr) (l2 c2 : Nat) (a3 : Option Addr) (l3 c3 : Nat) (i1 i2 : Int) (b : Bool) (s : ByteArray) (i3 : Int),
          e = .returned (.tuple #[.agg #[.int .i64 i, .slice a l c, .slice a1 l1 c1, .slice a2 l2 c2, .slice a3 l3 c3, .int .i64 i1, .int .i64 i2, .bool b], .agg #[.string s, .int .i64 i3]]) ∧ ∃ w1, St Go.Proofs.Try.prog 44 w' ⟨br, 0, none⟩ (.agg #[.int .i64 i, .slice a l c, .slice a1 l1 c1, .slice a2 l2 c2, .slice a3 l3 c3, .int .i64 i1, .int .i64 i2, .bool b]) w1 ∧ (inR .i64 ((k : Int) + 1) ∧ next ((k : Int) + 1) w1) := by
      intro w5 y2 d2 hb hok2 hd2 H
      refine ⟨_, _, _, _, _, _, _, _, _, _, _, _, _, _, _, _, H.ldA (cs := valC v d) (by exact ⟨rfl, rfl, rfl, rfl⟩) raggD (List.mem_append_right _ (.tail _ (.tail _ (.head _)))) rfl rfl, ?_⟩
      refine ⟨_, _, _, _, _, _, _, _, _, _, H.ldA (cs := opC q) (by exact ⟨rfl, rfl, rfl, rfl⟩) raggO (List.mem_append_right _ (.head _)) rfl rfl, ?_⟩
      have hod := hqod _ ((hs.chg0 H.chg).ops p hpm)
      have H3 : Hp [] W w5 (refA F v d :: .blk br (valC v d) 44 :: (dkL y2 d2 ++ [.blk bo (opC q) 49])) := H.perm (by (refine perm_cnt fun ff gg h0 hc ha hpm => ?_; simp only [ha, hc, h0]; omega))
      have fit2 := doP_fit fit hy.dk q.2
      refine rstep (R := fun w' => inR .i64 ((k : Int) + 1) ∧ next ((k : Int) + 1) w') hy.dk fit (by omega) H3 hod ?_
      intro w6 F' v' H4
      rw [← hd2] at H4 fit2
      refine ⟨inR64.2 (by omega), hnext (os.length - (k + 1)) _ _ (by omega) ⟨k + 1, y2, d2, F', v', rfl, by omega, by simp, hb, hok2, fit2, ?_⟩⟩
      have h9 : Hp [] W w6 (.blk bo (opC q) 49 :: (dkL y2 d2 ++ [refA F' v' d2, .blk br (valC v' d2) 44])) := H4.perm (by (refine perm_cnt fun ff gg h0 hc ha hpm => ?_; simp only [ha, hc, h0]; omega))
      exact h9.drop
    refine br_dec (fun k1 => ?_) (fun k1 => br_dec (fun k2 => ?_) (fun k2 => ?_))
    · refine ⟨_, H2.ld (cs := opC q) (by exact ⟨rfl, rfl, rfl, rfl⟩) sclStr (List.mem_append_right _ (.head _)) rfl, ?_⟩
      have hcs := create_spec y d hy (by have := fit.chs; omega) (by have := fit.files; omega) q.2.name w4 H2.std1
      rw [hyb] at hcs
      refine callV hcs ?_
      clear hcs
      rintro e w5 ⟨rfl, y2, hy2b, hy2, H'⟩
      exact ⟨_, rfl, tail w5 y2 _ (hy2b.trans hyb) hy2 (by rw [doP, if_pos k1]) (H2.useL H')⟩
    · refine ⟨_, H2.ld (cs := opC q) (by exact ⟨rfl, rfl, rfl, rfl⟩) sclStr (List.mem_append_right _ (.head _)) rfl, _, H2.ld (cs := opC q) (by exact ⟨rfl, rfl, rfl, rfl⟩) sclInt (List.mem_append_right _ (.head _)) rfl, _, _, _, H2.ld (cs := opC q) (by exact ⟨rfl, rfl, rfl, rfl⟩) rsclU (List.mem_append_right _ (.head _)) rfl, ?_⟩
      have hws := write_spec y d hy fit.few (by omega) (fit.used (by omega)) q.2.name q.2.n q.1.ba q.1.bc q.2.b w4 H2.std1 (fun W' hW => (hst W' hW).b.cells) (hqod _ (hs.ops p hpm)).b.nil
      rw [hyb] at hws
      refine callV hws ?_
      clear hws
      rintro e w5 ⟨rfl, y2, hy2b, hy2, H'⟩
      exact ⟨_, rfl, tail w5 y2 _ (hy2b.trans hyb) hy2 (by rw [doP, if_neg k1, if_pos k2]) (H2.useL H')⟩
    · refine ⟨inR64.2 (by omega), hnext (os.length - (k + 1)) _ _ (by omega) ⟨k + 1, y, d, F, v, rfl, by omega, by simp, hyb, hy, fit.mono (by omega), ?_⟩⟩
      have h9 : Hp [] W w4 (.blk bo (opC q) 49 :: (dkL y d ++ [refA F v d, .blk br (valC v d) 44])) := H2.perm (by (refine perm_cnt fun ff gg h0 hc ha hpm => ?_; simp only [ha, hc, h0]; omega))
      exact h9.drop
  · have him := import_spec y d hy fit (by omega) n w1 H.std1
    rw [hyb] at him
    refine callV him ?_
    clear him
    rintro e w2 ⟨rfl, H'⟩
    replace H := H.ext0 H'; clear H'
    refine ⟨_, _, rfl, ?_⟩
    refine ⟨_, _, _, _, _, _, _, _, _, _, _, _, _, _, _, _, H.ldA (cs := valC v d) (by exact ⟨rfl, rfl, rfl, rfl⟩) raggD (List.mem_append_right _ (.tail _ (.head _))) rfl rfl, ?_⟩
    obtain ⟨hR, hF⟩ := refA_rd (H.ok (refA F v d) (List.mem_append_right _ (.head _)))
    refine callV (rimport_spec hR hF hy.dk fit (by omega) n hns) ?_
    rintro e w3 ⟨rfl, H'⟩
    replace H := H.ext0 H'; clear H'
    refine ⟨_, _, rfl, ?_⟩
    refine callV (file_spec n w3) ?_
    rintro e w4 ⟨rfl, H'⟩
    replace H := H.ext0 H'; clear H'
    refine ⟨_, _, rfl, ?_⟩
    refine callV (alive_spec w4) ?_
    rintro e w5 ⟨rfl, H'⟩
    replace H := H.ext0 H'; clear H'
    refine ⟨_, rfl, br_true (br_dec (fun _ => br_dec (fun _ => ?_) (fun h => absurd rfl h)) (fun h => absurd rfl h))⟩
    refine callV (pright_spec n w5) ?_
    rintro e w6 ⟨rfl, H'⟩
    replace H := H.ext0 H'; clear H'
    refine ⟨_, rfl, br_mk (fun _ => ?_) (fun h => by simp at h)⟩
    refine br_not (fun _ => ⟨rfl, H.done⟩) (fun hr => ⟨hsz, ?_, H.done⟩)
    rw [hr, if_pos rfl]
    exact congrArg (fun b => Ending.returned (.bool b)) (decide_eq_true rfl)
end Go.Proofs.Ytdpkamajecmebaa
