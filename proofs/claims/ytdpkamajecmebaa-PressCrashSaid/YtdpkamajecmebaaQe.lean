/- Press: Names; alive. -/
import Derived.Test.YtdpkamajecmebaaQd
set_option linter.unusedVariables false
set_option linter.unusedSimpArgs false
set_option maxRecDepth 100000
namespace Go.Proofs.Ytdpkamajecmebaa
open Go Go.Vc Go.Vault Go.Redo Go.Press

theorem pnames_spec (x : DW) (d : Dk) (hok : x.Ok d) (hl : d.names.length ≤ 1000000) (w : World) (st : Std w (dkL x d)) :
    Calls Go.Proofs.Try.prog 14 #[.pointer (some ⟨x.b, 0, none⟩)] w fun e w' => ∃ a c, e = .returned (.slice a (pnamesD d).length c) ∧ Hp [] w w' [.own 9 1 a (pnamesD d).length c ((pnamesD d).map .string)] := by
  apply pnames.ok; unfold pnames.vc
  have H := Hp.start w
  refine callV (names_spec x d hok (by omega) w st) ?_
  rintro e w1 ⟨a, c, rfl, H'⟩
  replace H := H.ext1 H'; clear H'
  refine ⟨_, _, _, rfl, ?_⟩
  unfold pnamesD
  generalize d.names = L at H hl ⊢
  replace H := H.nilS 9 1
  obtain ⟨fN, hfN⟩ : ∃ f : Nm → Option ByteArray, f = fun p => cutName p.name := ⟨_, rfl⟩
  rw [← hfN]
  refine LoopP.mk (fun m s w' => ∃ (i : Nat) (a2 : Option Addr) (c2 : Nat), m = L.length - i ∧ i ≤ L.length ∧ s = ((a2, ((L.take i).filterMap fN).length, c2), (i : Int)) ∧ Hp [] w w' [.own 9 1 a2 ((L.take i).filterMap fN).length c2 (((L.take i).filterMap fN).map .string), .own 9 1 a L.length c (L.map fun p => .string p.name)]) L.length ⟨0, none, 0, rfl, by omega, by simp, by simpa using H⟩ ?_
  clear H w1
  rintro m s w1 next ⟨i, a2, c2, rfl, hi, rfl, H⟩ hnext
  dsimp only
  refine br_dec (fun h => ?_) (fun h => ?_)
  · have hil : i < L.length := by omega
    have hg : (L.map fun p => Value.string p.name)[i]? = some (.string L[i].name) := by simp [hil]
    have hcl := (H.ownA (.tail _ (.head _))).cells
    obtain ⟨ad, had, _⟩ := hcl _ _ hg
    have hld := hcl.ld sclStr had hg
    have e1 : Int.toNat (i : Int) * 1 = i := by omega
    have hle : ((L.take i).filterMap fN).length ≤ i := Nat.le_trans (List.length_filterMap_le _ _) (by rw [List.length_take]; omega)
    have hstep : (L.take (i + 1)).filterMap fN = ((L.take i).filterMap fN) ++ (cutName L[i].name).toList := by
      rw [List.take_succ_eq_append_getElem hil, List.filterMap_append]
      congr 1
      subst hfN
      cases h : cutName L[i].name <;> simp [h]
    generalize hF : ((L.take i).filterMap fN) = F at *
    refine onP_mk had ⟨⟨by omega, by omega⟩, _, by rw [e1]; exact hld, ?_⟩
    generalize hs : L[i].name = s at *
    refine callV (cutPrefix_spec s nAhead w1) ?_
    rintro e w2 ⟨rfl, H'⟩
    replace H := H.ext0 H'; clear H'
    refine ⟨_, _, rfl, ?_⟩
    refine callV (file_spec _ w2) ?_
    rintro e w3 ⟨rfl, H'⟩
    replace H := H.ext0 H'; clear H'
    have skip : ∀ w4, Hp [] w w4 [.own 9 1 a2 F.length c2 (F.map .string), .own 9 1 a L.length c (L.map fun p => .string p.name)] → cutName s = none → next ((a2, F.length, c2), (i : Int) + 1) w4 := by
      intro w4 H hc
      have e2 : (L.take (i + 1)).filterMap fN = F := by rw [hstep, hc]; simp
      exact hnext (L.length - (i + 1)) _ _ (by omega) ⟨i + 1, a2, c2, rfl, by omega, by rw [e2]; rfl, by rw [e2]; exact H⟩
    refine ⟨_, _, rfl, br_dec (fun h2 => ?_) (fun h2 => ?_)⟩
    · rw [if_pos h2]
      refine br_mk (fun h3 => ?_) (fun h3 => ?_)
      · have hc : cutName s = some (s.extract nAhead.size s.size) := by
          unfold cutName
          rw [if_pos ⟨h2.1, h2.2, h3⟩]; rfl
        generalize s.extract nAhead.size s.size = t at hc ⊢
        intro b w4 hn
        replace H := H.new (cs := [.string t]) (by exact ⟨rfl, rfl, rfl, rfl⟩) hn; clear hn
        refine Hp.app eltT (by omega) H.pull1 (by exact ⟨rfl, rfl, rfl, rfl⟩) (Blk.src (n := 1) undST (H.blk (.head _)) (by simp) (by rfl)) (by simp only [maxLen]; omega) (by omega) ?_
        clear H; intro a5 c5 w5 H
        replace H := H.del1
        have e2 : (L.take (i + 1)).filterMap fN = F ++ [t] := by rw [hstep, hc]; rfl
        exact ⟨inR64.2 (by omega), hnext (L.length - (i + 1)) _ _ (by omega) ⟨i + 1, a5, c5, rfl, by omega, by rw [e2, List.length_append]; rfl, by rw [e2, List.length_append, List.map_append]; exact H⟩⟩
      · exact ⟨inR64.2 (by omega), skip w3 H (by unfold cutName; rw [if_neg (fun h4 => by rw [show s.extract 2 s.size = s.extract nAhead.size s.size from rfl, h3] at h4; exact absurd h4.2.2 (by simp))])⟩
    · exact ⟨inR64.2 (by omega), skip w3 H (by unfold cutName; rw [if_neg (fun h4 => h2 ⟨h4.1, h4.2.1⟩)])⟩
  · have hie : i = L.length := by omega
    subst hie
    rw [List.take_length] at H ⊢
    exact ⟨a2, c2, rfl, H.takeL (L := [_])⟩

def sA : ByteArray := ⟨#[97]⟩
def sB : ByteArray := ⟨#[98]⟩
def sX : ByteArray := ⟨#[120]⟩
def aD : Dk := (dexport (Dk.new 20) sA sX).1
theorem aliveF : (dexport (Dk.new 20) sA sX).2 = 0 ∧ dimport aD sA = ([120], 0) ∧ dimport aD sB = ([], 90) ∧ pnamesD aD = [sA] ∧ aD.names.length = 1 := by
  refine ⟨by kernel_rfl, by kernel_rfl, by kernel_rfl, by kernel_rfl, by kernel_rfl⟩
set_option maxHeartbeats 1000000 in
theorem alive_spec (w : World) : Calls Go.Proofs.Try.prog 10 #[] w fun e w' => e = .returned (.bool true) ∧ Hp [] w w' [] := by
  obtain ⟨f1, f2, f3, f4, f5⟩ := aliveF
  apply alive.ok; unfold alive.vc
  have H := Hp.start w
  refine callV (new_spec 20 w) ?_
  rintro e w1 ⟨x, rfl, hx, H'⟩
  replace H := H.ext H'; clear H'
  rw [List.append_nil] at H
  have fit0 := new_fit 20 0
  refine ⟨_, rfl, _, eqv_ptrE undPD, br_false ?_⟩
  have he := export_spec x (Dk.new 20) hx fit0 (by omega) sA sX w1 H.std
  have fit1 := dexport_fit fit0 sA sX
  refine callV he ?_
  clear he
  rintro e w2 ⟨rfl, x1, hx1b, hx1, H'⟩
  replace H := H.useAll H'; clear H'
  rw [f1]
  change Hp [] w w2 (dkL x1 aD) at H
  change x1.Ok aD at hx1
  change aD.Fit _ at fit1
  have hi := import_spec x1 aD hx1 fit1 (by decide) sA w2 H.std
  rw [hx1b, f2] at hi
  refine ⟨_, rfl, callV hi ?_⟩
  clear hi
  rintro e w3 ⟨rfl, H'⟩
  replace H := H.ext0 H'; clear H'
  have hi := import_spec x1 aD hx1 fit1 (by decide) sB w3 H.std
  rw [hx1b, f3] at hi
  refine ⟨_, _, rfl, callV hi ?_⟩
  clear hi
  rintro e w4 ⟨rfl, H'⟩
  replace H := H.ext0 H'; clear H'
  have hp := pnames_spec x1 aD hx1 (by omega) w4 H.std
  rw [hx1b, f4] at hp
  refine ⟨_, _, rfl, callV hp ?_⟩
  clear hp
  rintro e w5 ⟨a, c, rfl, H'⟩
  replace H := H.ext1 H'; clear H'
  have hcl := (H.ownA (.head _)).cells
  obtain ⟨ad, had, _⟩ := hcl 0 (.string sA) rfl
  have hld := hcl.ld (o := 0) sclStr had rfl
  rw [show ad.add 0 = ad by unfold Addr.add; split <;> simp_all] at hld
  refine ⟨_, _, _, rfl, br_true (br_true (br_true (br_true (br_true (onP_mk had ⟨⟨by omega, by decide⟩, _, hld, rfl, H.done⟩)))))⟩
theorem aliveRet {w w1 : World} {L : List Asn} (H : Hp [] w w1 L) : CallV Go.Proofs.Try.prog 10 [] w1 fun e w' => ∃ b, e = .returned (.bool b) ∧ (Ending.returned (.bool b) = .returned (.bool true) ∧ Hp [] w w' []) := by
  refine callV (alive_spec w1) ?_
  rintro e w2 ⟨rfl, H'⟩
  exact ⟨_, rfl, rfl, H.done.ext0 H'⟩
end Go.Proofs.Ytdpkamajecmebaa
