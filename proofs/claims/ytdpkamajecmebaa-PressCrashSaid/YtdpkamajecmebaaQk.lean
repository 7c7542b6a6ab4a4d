/- Press: the law of PressBack. -/
import Derived.Test.YtdpkamajecmebaaQj
set_option linter.unusedVariables false
set_option linter.unusedSimpArgs false
set_option maxRecDepth 100000
namespace Go.Proofs.Ytdpkamajecmebaa
open Go Go.Vc Go.Vault Go.Redo Go.Press

theorem laid_new : Laid (Dk.new 2000) [] 0 := by
  refine ⟨⟨rfl, rfl, rfl⟩, rfl, by decide, by simp [Dk.new], by simp [Dk.new], by simp, by simp [Dk.new], by simp⟩
theorem withT_len (l : List Tx) (t : Tx) : (withT l t).length ≤ l.length + 1 := by
  rw [withT, List.length_append]
  have := filt_len l t.1
  simp only [List.length_singleton]; omega
theorem dexport_fit2 {d : Dk} {N : Nat} (h : d.Fit N) (n : ByteArray) {t : ByteArray} (ht : t.size ≤ 30000) : (dexport d n t).1.Fit (N + 64) :=
  (dexport_fit h n t).mono (by have := nsecs_le ht; omega)

set_option maxHeartbeats 4000000 in
theorem pressBack_law (la : Option Addr) (lc : Nat) (l : List Tx) (hlm : l.length ≤ maxLen) (hls : ∀ t ∈ l, t.2.size ≤ reachBytes) (W : World) (hcW : Cells W la (txCs l)) :
    Calls Go.Proofs.Try.prog 3 #[.slice la l.length lc] W fun e W' => e = .returned (.bool true) ∧ Hp [] W W' [] := by
  apply pressBack.ok; unfold pressBack.vc
  have H := Hp.start W
  refine callV (new_spec 2000 W) ?_
  rintro e w1 ⟨x, rfl, hx, H'⟩
  replace H := H.ext H'; clear H'
  rw [List.append_nil] at H
  refine ⟨_, rfl, _, eqv_ptrE undPD, br_false ?_⟩
  refine callV (few_spec la lc l hlm hls w1 (hcW.chg H.chg (by simp))) ?_
  rintro e w2 ⟨rfl, H'⟩
  replace H := H.ext0 H'; clear H'
  refine ⟨_, rfl, br_not (fun _ => ⟨_, eqv_ptrN undPD, br_true (aliveRet H)⟩) (fun hfew => ?_)⟩
  obtain ⟨hl30, hsz⟩ := few_true hfew
  have H0 : Hp [] W w2 (dkL x (Dk.new 2000) ++ [.own 28 2 none 0 0 (txCs [])]) := (H.nilS 28 2).perm (List.perm_append_comm (l₁ := [_]))
  clear H
  refine LoopP.mk (fun (m : Nat) (s : (Option Addr × Nat × Nat) × Int) (w' : World) => ∃ (k : Nat) (all : List Tx) (d : Dk) (y : DW) (a : Option Addr) (c : Nat), m = l.length - k ∧ k ≤ l.length ∧ s = ((a, all.length, c), (k : Int)) ∧ y.b = x.b ∧ y.Ok d ∧ d.Fit (64 * k) ∧ Laid d all k ∧ all.length ≤ k ∧ Hp [] W w' (dkL y d ++ [.own 28 2 a all.length c (txCs all)])) l.length
    ⟨0, [], Dk.new 2000, x, none, 0, rfl, by omega, rfl, rfl, hx, new_fit 2000 0, laid_new, by simp, H0⟩ ?_
  clear H0 w1 w2
  rintro m s w1 next ⟨k, all, d, y, a, c, rfl, hk, rfl, hyb, hy, fit, hlaid, hall, H⟩ hnext
  dsimp only
  refine br_dec (fun h => ?_) (fun h => ?_)
  · have hkl : k < l.length := by omega
    obtain ⟨t, hg⟩ : ∃ t, l[k]? = some t := ⟨_, List.getElem?_eq_getElem hkl⟩
    have htsz := hsz t (List.mem_of_getElem? hg)
    have hc1 := hcW.chg H.chg (by simp)
    obtain ⟨ad, ha⟩ := tx_some hc1 hg
    obtain ⟨_, _, h3⟩ := txCs_at hg
    have e1 : Int.toNat (k : Int) * 2 = k * 2 := by omega
    refine onP_mk ha ⟨⟨by omega, by omega⟩, _, _, by rw [e1]; exact hc1.ldA aggTx ha h3 rfl, ?_⟩
    intro b2 w2 hn
    replace H := H.new (cs := [.string ⟨#[]⟩, .string ⟨#[]⟩]) (by exact ⟨rfl, rfl, rfl, rfl⟩) hn; clear hn
    refine Hp.stA H (by exact ⟨rfl, rfl, rfl, rfl⟩) aggTx (vs := txC t) (cs' := txC t) rfl rfl (by simp) rfl ?_
    clear H hc1; intro w3 H
    refine ⟨_, H.ld (cs := txC t) (by exact ⟨rfl, rfl, rfl, rfl⟩) sclStr (.head _) rfl, ?_⟩
    refine callV (pright_spec t.1 w3) ?_
    rintro e w4 ⟨rfl, H'⟩
    replace H := H.ext0 H'; clear H'
    have H2 : Hp [] W w4 (dkL y d ++ [.own 28 2 a all.length c (txCs all), .blk b2 (txC t) 28]) := H.perm (by (refine perm_cnt fun ff gg h0 hc ha hpm => ?_; simp only [ha, hc, h0]; omega))
    clear H
    have fit2 := dexport_fit2 fit t.1 htsz
    have hex := hlaid.export hy.dk (by omega) (n := t.1) htsz
    refine ⟨_, rfl, br_mk (fun hr => ?_) (fun hr => ?_)⟩
    · obtain ⟨_, d', he, hl'⟩ := hex.resolve_right (fun h => by rw [hr] at h; cases h.1)
      rw [he] at fit2
      refine ⟨_, _, H2.ldA (cs := txC t) (by exact ⟨rfl, rfl, rfl, rfl⟩) aggTx (List.mem_append_right _ (.tail _ (.head _))) rfl rfl, ?_⟩
      refine callV (pwith_spec a c all t (by omega) w4 (H2.ownA (List.mem_append_right _ (.head _))).cells) ?_
      rintro e w5 ⟨a5, c5, rfl, H'⟩
      replace H2 := H2.ext1 H'; clear H'
      have H3 : Hp [] W w5 (dkL y d ++ [.own 28 2 a5 (withT all t).length c5 (txCs (withT all t)), .blk b2 (txC t) 28]) := by
        have h9 : Hp [] W w5 (.own 28 2 a all.length c (txCs all) :: (dkL y d ++ [.own 28 2 a5 (withT all t).length c5 (txCs (withT all t)), .blk b2 (txC t) 28])) := H2.perm (by (refine perm_cnt fun ff gg h0 hc ha hpm => ?_; simp only [ha, hc, h0]; omega))
        exact h9.drop
      clear H2
      refine ⟨_, _, _, rfl, _, H3.ld (cs := txC t) (by exact ⟨rfl, rfl, rfl, rfl⟩) sclStr (List.mem_append_right _ (.tail _ (.head _))) rfl, _, H3.ld (cs := txC t) (by exact ⟨rfl, rfl, rfl, rfl⟩) sclStr (List.mem_append_right _ (.tail _ (.head _))) rfl, _, H3.ld (cs := txC t) (by exact ⟨rfl, rfl, rfl, rfl⟩) sclStr (List.mem_append_right _ (.tail _ (.head _))) rfl, ?_⟩
      have hes := export_spec y d hy fit (by omega) t.1 t.2 w5.drew H3.drew.std1
      rw [hyb, he] at hes
      refine callV hes ?_
      clear hes
      rintro e w6 ⟨rfl, y2, hy2b, hy2, H'⟩
      replace H3 := H3.drew.useL H'; clear H'
      refine ⟨_, rfl, H3.ld (cs := txC t) (by exact ⟨rfl, rfl, rfl, rfl⟩) sclStr (List.mem_append_right _ (.tail _ (.head _))) rfl, ?_⟩
      refine callV (pright_spec t.1 w6) ?_
      rintro e w7 ⟨rfl, H'⟩
      replace H3 := H3.ext0 H'; clear H'
      refine ⟨_, rfl, ?_⟩
      rw [hr]
      refine br_false ⟨inR64.2 (by omega), hnext (l.length - (k + 1)) _ _ (by omega) ⟨k + 1, withT all t, d', y2, a5, c5, rfl, by omega, rfl, hy2b.trans hyb, hy2, fit2.mono (by omega), hl', ?_, ?_⟩⟩
      · have := withT_len all t; omega
      · have h9 : Hp [] W w7 (.blk b2 (txC t) 28 :: (dkL y2 d' ++ [.own 28 2 a5 (withT all t).length c5 (txCs (withT all t))])) := H3.perm (by (refine perm_cnt fun ff gg h0 hc ha hpm => ?_; simp only [ha, hc, h0]; omega))
        exact h9.drop
    · obtain ⟨_, he⟩ := hex.resolve_left (fun h => by rw [hr] at h; cases h.1)
      rw [he] at fit2
      refine ⟨_, H2.ld (cs := txC t) (by exact ⟨rfl, rfl, rfl, rfl⟩) sclStr (List.mem_append_right _ (.tail _ (.head _))) rfl, _, H2.ld (cs := txC t) (by exact ⟨rfl, rfl, rfl, rfl⟩) sclStr (List.mem_append_right _ (.tail _ (.head _))) rfl, _, H2.ld (cs := txC t) (by exact ⟨rfl, rfl, rfl, rfl⟩) sclStr (List.mem_append_right _ (.tail _ (.head _))) rfl, ?_⟩
      have hes := export_spec y d hy fit (by omega) t.1 t.2 w4.drew H2.drew.std1
      rw [hyb, he] at hes
      refine callV hes ?_
      clear hes
      rintro e w6 ⟨rfl, y2, hy2b, hy2, H'⟩
      have H3 := H2.drew.useL H'; clear H' H2
      refine ⟨_, rfl, H3.ld (cs := txC t) (by exact ⟨rfl, rfl, rfl, rfl⟩) sclStr (List.mem_append_right _ (.tail _ (.head _))) rfl, ?_⟩
      refine callV (pright_spec t.1 w6) ?_
      rintro e w7 ⟨rfl, H'⟩
      replace H3 := H3.ext0 H'; clear H'
      refine ⟨_, rfl, ?_⟩
      rw [hr]
      refine br_false ⟨inR64.2 (by omega), hnext (l.length - (k + 1)) _ _ (by omega) ⟨k + 1, all, d, y2, a, c, rfl, by omega, rfl, hy2b.trans hyb, hy2, fit.mono (by omega), hlaid.mono (by omega), by omega, ?_⟩⟩
      have h9 : Hp [] W w7 (.blk b2 (txC t) 28 :: (dkL y2 d ++ [.own 28 2 a all.length c (txCs all)])) := H3.perm (by (refine perm_cnt fun ff gg h0 hc ha hpm => ?_; simp only [ha, hc, h0]; omega))
      exact h9.drop
  · have hkl : k = l.length := by omega
    have hnl := hlaid.len
    rw [← hlaid.names] at hnl
    have hnm := pnames_spec y d hy (by omega) w1 H.std1
    rw [hyb] at hnm
    refine callV hnm ?_
    clear hnm hnext
    rintro e w2 ⟨a2, c2, rfl, H'⟩
    replace H := H.ext1 H'; clear H'
    have hsame := hlaid.same hy.dk
    have hrise := pnames_rise hy.dk
    have hmem := fun s => hlaid.mem (s := s)
    refine ⟨_, _, _, rfl, br_ndec (fun h2 => absurd (by omega) h2) (fun _ => ?_)⟩
    generalize hP : pnamesD d = Pn at *
    have Hc : Cells w2 a2 (Pn.map .string) := (H.ownA (.head _)).cells
    have H1 : Hp [] W w2 (dkL y d ++ [.own 28 2 a all.length c (txCs all), .own 9 1 a2 Pn.length c2 (Pn.map .string)]) := H.perm (by (refine perm_cnt fun ff gg h0 hc ha hpm => ?_; simp only [ha, hc, h0]; omega))
    clear H Hc
    refine LoopP.mk (fun (m : Nat) (s : ByteArray × Int) (w' : World) => ∃ j : Nat, m = Pn.length - j ∧ j ≤ Pn.length ∧ s.2 = (j : Int) ∧ (j = 0 ∧ s.1 = ⟨#[]⟩ ∨ 0 < j ∧ Pn[j - 1]? = some s.1) ∧ Hp [] W w' (dkL y d ++ [.own 28 2 a all.length c (txCs all), .own 9 1 a2 Pn.length c2 (Pn.map .string)])) Pn.length
      ⟨0, rfl, by omega, rfl, .inl ⟨rfl, rfl⟩, H1⟩ ?_
    clear H1 w1 w2
    rintro m ⟨last, i⟩ w1 next ⟨j, rfl, hj, hs2, hlast, H⟩ hnext
    dsimp only at hs2 hlast ⊢
    subst hs2
    refine br_dec (fun h => ?_) (fun h => ?_)
    · have hjl : j < Pn.length := by omega
      obtain ⟨s, hs⟩ : ∃ s, Pn[j]? = some s := ⟨_, List.getElem?_eq_getElem hjl⟩
      have hcl := (H.ownA (List.mem_append_right _ (.tail _ (.head _)))).cells
      have hgs : (Pn.map Value.string)[j]? = some (.string s) := by simp [hs]
      obtain ⟨ad, had, _⟩ := hcl _ _ hgs
      have hld := hcl.ld sclStr had hgs
      have e1 : Int.toNat (j : Int) * 1 = j := by omega
      refine onP_mk had ⟨⟨by omega, by omega⟩, _, by rw [e1]; exact hld, ?_⟩
      obtain ⟨t, ht, rfl⟩ := List.mem_map.1 ((hmem s).1 (List.mem_of_getElem? hs))
      have hfind := findT_of hlaid.apart ht
      refine callV (pfind_spec a c all t.1 (by omega) w1 (H.ownA (List.mem_append_right _ (.head _))).cells) ?_
      rintro e w2 ⟨rfl, rfl⟩
      rw [hfind]
      refine ⟨_, _, rfl, ?_⟩
      have him := import_spec y d hy fit (by omega) t.1 w2 H.std1
      rw [hyb, hlaid.import ht] at him
      refine callV him ?_
      clear him
      rintro e w3 ⟨rfl, H'⟩
      replace H := H.ext0 H'; clear H'
      have hself : (⟨t.2.data.toList.toArray⟩ : ByteArray) = t.2 := (mk_self t.2).symm
      refine ⟨_, _, rfl, br_false (br_false ?_)⟩
      refine br_ndec (fun h2 => absurd hself h2) (fun _ => ?_)
      have hle : nameLe t.1 last = false := by
        rw [Bool.eq_false_iff]
        intro h3
        have h3 := nameLe_iff.1 h3
        have hlt : last.data.toList < t.1.data.toList := by
          rcases hlast with ⟨_, rfl⟩ | ⟨h0, h4⟩
          · have hr := (hlaid.has t ht).1
            have := (nright_iff.1 hr).1
            rw [← size_data] at this
            cases h5 : t.1.data.toList with
            | nil => rw [h5] at this; simp at this
            | cons u v => exact List.nil_lt_cons u v
          · have h6 : j - 1 < Pn.length := by omega
            have := List.pairwise_iff_getElem.1 hrise (j - 1) j h6 hjl (by omega)
            rw [List.getElem?_eq_getElem h6] at h4
            rw [List.getElem?_eq_getElem hjl] at hs
            rw [Option.some.inj h4, Option.some.inj hs] at this
            exact this
        exact absurd hlt (List.not_lt.2 h3)
      rw [nameLe] at hle
      rw [hle]
      exact br_false ⟨inR64.2 (by omega), hnext (Pn.length - (j + 1)) _ _ (by omega) ⟨j + 1, rfl, by omega, rfl, .inr ⟨by omega, hs⟩, H⟩⟩
    · exact aliveRet H
end Go.Proofs.Ytdpkamajecmebaa
