/- Redo: the law of RedoRaw. -/
import Derived.Test.YtjbopmbffajknaaRq
import Derived.Test.YtjbopmbffajknaaScr
set_option linter.unusedVariables false
set_option linter.unusedSimpArgs false
set_option maxRecDepth 100000
namespace Go.Proofs.Ytjbopmbffajknaa
open Go Go.Vc Go.Vault Go.Redo

theorem aliveRet {w w1 : World} (H : Hp [] w w1 []) : CallV Go.Proofs.Try.prog 8 [] w1 fun e w' => ∃ b, e = .returned (.bool b) ∧ (Ending.returned (.bool b) = .returned (.bool true) ∧ Hp [] w w' []) := by
  refine callV (alive_spec w1) ?_
  rintro e w2 ⟨rfl, H'⟩
  exact ⟨_, rfl, rfl, H.ext0 H'⟩
set_option maxHeartbeats 4000000 in
theorem redoRaw_law (sa : Option Addr) (sc : Nat) (os : List (OW × Op)) (name : ByteArray) (W : World) (hs : Scr W sa os) :
    Calls Go.Proofs.Try.prog 3 #[.slice sa os.length sc, .string name] W fun e W' => e = .returned (.bool true) ∧ Hp [] W W' [] := by
  apply redoRaw.ok; unfold redoRaw.vc
  have H := Hp.start W
  refine callV (new_spec 100 W) ?_
  rintro e w1 ⟨x, rfl, hx, H'⟩
  replace H := H.ext H'; clear H'
  rw [List.append_nil] at H
  refine ⟨_, rfl, _, eqv_ptrE undPD, br_false ?_⟩
  refine br_dec (fun _ => ⟨_, eqv_ptrN undPD, br_true (aliveRet H.done)⟩) (fun hos => ?_)
  have fit0 := new_fit 100 0
  refine callV (create_spec x (Dk.new 100) hx (by have := fit0.chs; omega) (by have := fit0.files; omega) nLog w1 H.std) ?_
  rintro e w2 ⟨rfl, x1, hx1b, hx1, H'⟩
  replace H := H.useAll H'; clear H'
  have fit1 := Fit.create fit0 nLog
  have calm1 : Calm ((Dk.new 100).create nLog).1 := (create_has (new_calm 100) (right_of (by decide) (by decide))).1
  refine ⟨_, rfl, ?_⟩
  generalize ((Dk.new 100).create nLog).1 = d1 at hx1 H fit1 calm1
  refine LoopP.mk (fun (m : Nat) (s : Int) (w' : World) => ∃ (k : Nat) (x2 : DW) (d2 : Dk), m = os.length - k ∧ k ≤ os.length ∧ s = (k : Int) ∧ x2.b = x.b ∧ x2.Ok d2 ∧ d2.Fit (0 + 1 + k) ∧ Calm d2 ∧ Hp [] W w' (dkL x2 d2)) os.length ⟨0, x1, d1, rfl, by omega, rfl, hx1b, hx1, fit1, calm1, H⟩ ?_
  clear H fit1 calm1 hx1 hx1b d1 x1 w1 w2
  rintro m s w1 next ⟨k, x1, d1, rfl, hk, rfl, hxb, hx1, fit1, calm1, H⟩ hnext
  refine br_dec (fun h3 => ?_) (fun h3 => ?_)
  · have hkl : k < os.length := by omega
    obtain ⟨p, hp⟩ : ∃ p, os[k]? = some p := ⟨_, List.getElem?_eq_getElem hkl⟩
    have hpm := List.mem_of_getElem? hp
    obtain ⟨ad, ha, hld⟩ := (hs.chg0 H.chg).ldA hp
    refine onP_mk ha ⟨⟨by omega, by omega⟩, _, _, _, _, _, _, _, _, _, _, by rw [Int.toNat_natCast]; exact hld, ?_⟩
    intro bo w2 hn; replace H := H.new (by exact ⟨rfl, rfl, rfl, rfl⟩) hn; clear hn
    refine Hp.stA H (by exact ⟨rfl, rfl, rfl, rfl⟩) raggO (vs := opC p) (cs' := opC p) rfl rfl (by simp) rfl ?_
    clear H; intro w3 H
    refine ⟨_, H.ld (cs := opC p) (by exact ⟨rfl, rfl, rfl, rfl⟩) sclInt (.head _) rfl, ?_⟩
    refine br_dec (fun k1 => ?_) (fun k1 => ⟨inR64.2 (by omega), hnext (os.length - (k + 1)) _ _ (by omega) ⟨k + 1, x1, d1, rfl, by omega, by simp, hxb, hx1, fit1.mono (by omega), calm1, H.drop⟩⟩)
    refine ⟨_, H.ld (cs := opC p) (by exact ⟨rfl, rfl, rfl, rfl⟩) sclInt (.head _) rfl, ?_⟩
    refine ⟨_, _, _, H.ld (cs := opC p) (by exact ⟨rfl, rfl, rfl, rfl⟩) rsclU (.head _) rfl, ?_⟩
    have H2 : Hp [] W w3 (dkL x1 d1 ++ [.blk bo (opC p) 31]) := H.perm (List.perm_append_comm (l₁ := [_]))
    have hws := write_spec x1 d1 hx1 fit1.few (by omega) (fit1.used (by omega)) nLog p.2.n p.1.ba p.1.bc p.2.b w3 H2.std1 (fun W' hW => (hs.stable H2 hpm W' hW).b.cells) (hs.ops p hpm).b.nil
    rw [hxb] at hws
    refine callV hws ?_
    rintro e w4 ⟨rfl, x2, hx2b, hx2, H'⟩
    replace H2 := H2.useL H'; clear H' H hws
    refine ⟨_, rfl, inR64.2 (by omega), hnext (os.length - (k + 1)) _ _ (by omega) ⟨k + 1, x2, _, rfl, by omega, by simp, by rw [hx2b, hxb], hx2, (Fit.write fit1 nLog p.2.n p.2.b).mono (by omega), write_stays calm1 _ _ _, H2.takeL⟩⟩
  · have hk2 : k = os.length := by omega
    clear hnext
    -- the two openings
    have ho := open_spec x1 d1 hx1 fit1 (by omega) nLog w1 H.std
    rw [hxb] at ho
    have fit2 := openP_fit fit1 nLog
    obtain ⟨calm2, hcode⟩ := openP_codes calm1 hx1.dk nLog
    have hnb : ¬ badN nLog := by unfold badN; decide
    have hcode := (hcode.resolve_left fun h => hnb h.1).2
    refine callV ho ?_
    clear ho
    rintro e w2 ⟨x2, hx2b, hx2, hcases⟩
    obtain ⟨p1, L1, hp1, he, H2⟩ : ∃ (p1 : Option Addr) (L1 : List Asn), ((openP d1 nLog).2.1 ≠ 0 ∧ p1 = none ∨ (openP d1 nLog).2.1 = 0 ∧ ∃ y : LW, p1 = some ⟨y.b, 0, none⟩ ∧ lgA y x1.b (openP d1 nLog).2.2 ∈ L1) ∧ e = .returned (.tuple #[.pointer p1, .int .i64 (openP d1 nLog).2.1]) ∧ Hp [] W w2 (dkL x2 (openP d1 nLog).1 ++ L1) := by
      rcases hcases with ⟨hr, rfl, H'⟩ | ⟨hr, y, LB, rfl, _, H'⟩
      · exact ⟨none, [], .inl ⟨hr, rfl⟩, rfl, by rw [List.append_nil]; exact H.useAll H'⟩
      · refine ⟨_, [lgA y x1.b (openP d1 nLog).2.2, lgT y (openP d1 nLog).2.2] ++ LB, .inr ⟨hr, y, rfl, .head _⟩, by rw [hr], (H.useAll H').perm ?_⟩
        exact (List.perm_append_comm (l₁ := [lgA y x1.b (openP d1 nLog).2.2, lgT y (openP d1 nLog).2.2] ++ LB) (l₂ := dkL x2 (openP d1 nLog).1))
    subst he
    clear hcases H
    refine ⟨_, _, rfl, ?_⟩
    generalize openP d1 nLog = o1 at hx2 fit2 calm2 hcode hp1 H2 ⊢
    have ho := open_spec x2 o1.1 hx2 fit2 (by omega) name w2 H2.std1
    obtain ⟨calm3, hcode2⟩ := openP_codes calm2 hx2.dk name
    rw [hx2b, hxb] at ho
    refine callV ho ?_
    clear ho
    rintro e w3 ⟨x3, hx3b, hx3, hcases⟩
    obtain ⟨p2, L2, hp2, he, H3⟩ : ∃ (p2 : Option Addr) (L2 : List Asn), (!p2.isNone) = decide ((openP o1.1 name).2.1 = 0) ∧ e = .returned (.tuple #[.pointer p2, .int .i64 (openP o1.1 name).2.1]) ∧ Hp [] W w3 (L2 ++ L1) := by
      rcases hcases with ⟨hr, rfl, H'⟩ | ⟨hr, y, LB, rfl, _, H'⟩
      · exact ⟨none, _, by rw [decide_eq_false hr]; rfl, rfl, H2.useL H'⟩
      · exact ⟨some ⟨y.b, 0, none⟩, _, by rw [decide_eq_true hr]; rfl, by rw [hr], H2.useL H'⟩
    subst he
    clear hcases H2
    refine ⟨_, _, rfl, ?_⟩
    generalize openP o1.1 name = o2 at hp2 hcode2 ⊢
    have H3 : Hp [] W w3 L1 := (H3.perm List.perm_append_comm).takeL
    have hb1 : (!p1.isNone) = decide (o1.2.1 = 0) := by
      rcases hp1 with ⟨h, rfl⟩ | ⟨h, y, rfl, _⟩
      · rw [decide_eq_false h]; rfl
      · rw [decide_eq_true h]; rfl
    refine br_dec (fun hn => ?_) (fun hn => ?_)
    · have hbad : badN name := .inl (size0.1 hn)
      have h92 : o2.2.1 = 92 := by
        rcases hcode2 with ⟨_, h⟩ | ⟨h, _⟩
        · exact h
        · exact absurd hbad h
      refine br_not (fun h => by rw [h92] at h; cases h) (fun _ => ?_)
      refine ⟨_, eqv_ptrN undPL, ?_⟩
      refine br_not (fun h => by rw [hp2] at h; simp at h) (fun _ => ?_)
      refine callV (alive_spec w3) ?_
      rintro e w4 ⟨rfl, H'⟩
      replace H3 := H3.ext0 H'; clear H'
      refine ⟨_, rfl, br_true ?_⟩
      refine ⟨_, eqv_ptrN undPL, ?_⟩
      refine br_mk (fun _ => ?_) (fun h => by rw [hb1] at h; simp at h)
      have ends : ∀ w5, Hp [] W w5 L1 → o1.2.1 ≠ 0 → Ending.returned (.bool true) = .returned (.bool true) ∧ Hp [] W w5 [] := fun w5 H _ => ⟨rfl, H.done⟩
      refine br_dec (fun hc => ?_) (fun hc => ?_)
      · refine br_not (fun h => absurd hc (of_decide_eq_false h)) (fun _ => ?_)
        rcases hp1 with ⟨h, _⟩ | ⟨_, y, rfl, hm⟩
        · exact absurd hc h
        have hgood : Good o1.2.2 := by
          rcases hcode with ⟨_, h⟩ | h | h
          · exact h
          · omega
          · omega
        have stA : ∀ w5, Hp [] W w5 L1 → Std w5 [lgA y x1.b o1.2.2] := fun w5 H => ⟨fun a ha => by rw [List.mem_singleton.1 ha]; exact H.ok _ hm, by simp⟩
        refine callV (lfirm_spec y x1.b o1.2.2 w4 (stA w4 H3)) ?_
        rintro e w5 ⟨rfl, H'⟩
        replace H3 := H3.ext0 H'; clear H'
        refine ⟨_, rfl, ?_⟩
        refine callV (llen_spec y x1.b o1.2.2 w5 (stA w5 H3)) ?_
        rintro e w6 ⟨rfl, H'⟩
        replace H3 := H3.ext0 H'; clear H'
        refine ⟨_, rfl, ?_⟩
        refine br_dec (fun _ => ?_) (fun h => absurd (by rw [hgood.1]) h)
        refine callV (lstuck_spec y x1.b o1.2.2 w6 (stA w6 H3)) ?_
        rintro e w7 ⟨rfl, H'⟩
        replace H3 := H3.ext0 H'; clear H'
        exact ⟨_, rfl, by rw [decide_eq_true hgood.2], H3.done⟩
      · refine br_dec (fun h100 => ?_) (fun h100 => ?_)
        · exact br_not (fun _ => ends w4 H3 hc) (fun h => absurd (of_decide_eq_true h) hc)
        · refine br_dec (fun h94 => ?_) (fun h94 => ?_)
          · exact br_not (fun _ => ends w4 H3 hc) (fun h => absurd (of_decide_eq_true h) hc)
          · exfalso
            rcases hcode with ⟨h, _⟩ | h | h
            · exact hc h
            · exact h94 h
            · exact h100 h
    · have hne : name.size ≠ 0 := fun h => hn (size0.2 h)
      have h92 : decide (56 < (name.size : Int)) = decide (o2.2.1 = 92) := by
        rcases hcode2 with ⟨h1, h⟩ | ⟨h1, h⟩
        · rw [decide_eq_true h, decide_eq_true]
          rcases h1 with h1 | h1
          · exact absurd h1 hne
          · omega
        · rw [decide_eq_false, decide_eq_false]
          · rcases h with ⟨h, _⟩ | h | h <;> omega
          · intro h2; exact h1 (.inr (by omega))
      refine br_not (fun h => by rw [h92] at h; simp at h) (fun _ => ?_)
      refine ⟨_, eqv_ptrN undPL, ?_⟩
      refine br_not (fun h => by rw [hp2] at h; simp at h) (fun _ => ?_)
      refine callV (alive_spec w3) ?_
      rintro e w4 ⟨rfl, H'⟩
      replace H3 := H3.ext0 H'; clear H'
      refine ⟨_, rfl, br_true ?_⟩
      refine ⟨_, eqv_ptrN undPL, ?_⟩
      refine br_mk (fun _ => ?_) (fun h => by rw [hb1] at h; simp at h)
      have ends : ∀ w5, Hp [] W w5 L1 → o1.2.1 ≠ 0 → Ending.returned (.bool true) = .returned (.bool true) ∧ Hp [] W w5 [] := fun w5 H _ => ⟨rfl, H.done⟩
      refine br_dec (fun hc => ?_) (fun hc => ?_)
      · refine br_not (fun h => absurd hc (of_decide_eq_false h)) (fun _ => ?_)
        rcases hp1 with ⟨h, _⟩ | ⟨_, y, rfl, hm⟩
        · exact absurd hc h
        have hgood : Good o1.2.2 := by
          rcases hcode with ⟨_, h⟩ | h | h
          · exact h
          · omega
          · omega
        have stA : ∀ w5, Hp [] W w5 L1 → Std w5 [lgA y x1.b o1.2.2] := fun w5 H => ⟨fun a ha => by rw [List.mem_singleton.1 ha]; exact H.ok _ hm, by simp⟩
        refine callV (lfirm_spec y x1.b o1.2.2 w4 (stA w4 H3)) ?_
        rintro e w5 ⟨rfl, H'⟩
        replace H3 := H3.ext0 H'; clear H'
        refine ⟨_, rfl, ?_⟩
        refine callV (llen_spec y x1.b o1.2.2 w5 (stA w5 H3)) ?_
        rintro e w6 ⟨rfl, H'⟩
        replace H3 := H3.ext0 H'; clear H'
        refine ⟨_, rfl, ?_⟩
        refine br_dec (fun _ => ?_) (fun h => absurd (by rw [hgood.1]) h)
        refine callV (lstuck_spec y x1.b o1.2.2 w6 (stA w6 H3)) ?_
        rintro e w7 ⟨rfl, H'⟩
        replace H3 := H3.ext0 H'; clear H'
        exact ⟨_, rfl, by rw [decide_eq_true hgood.2], H3.done⟩
      · refine br_dec (fun h100 => ?_) (fun h100 => ?_)
        · exact br_not (fun _ => ends w4 H3 hc) (fun h => absurd (of_decide_eq_true h) hc)
        · refine br_dec (fun h94 => ?_) (fun h94 => ?_)
          · exact br_not (fun _ => ends w4 H3 hc) (fun h => absurd (of_decide_eq_true h) hc)
          · exfalso
            rcases hcode with ⟨h, _⟩ | h | h
            · exact hc h
            · exact h94 h
            · exact h100 h
end Go.Proofs.Ytjbopmbffajknaa
