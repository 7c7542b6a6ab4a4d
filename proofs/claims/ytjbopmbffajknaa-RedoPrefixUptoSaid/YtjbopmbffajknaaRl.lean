/- Redo: Reset; two rows of records compared. -/
import Derived.Test.YtjbopmbffajknaaRk
set_option linter.unusedVariables false
set_option linter.unusedSimpArgs false
set_option maxRecDepth 100000
namespace Go.Proofs.Ytjbopmbffajknaa
open Go Go.Vc Go.Vault Go.Redo

set_option maxHeartbeats 1000000 in
theorem lreset_spec (y : LW) (x : DW) (d : Dk) (l : Lg) (hok : x.Ok d) {N : Nat} (fit : d.Fit N) (hN : N ≤ 400000) (hn : l.name.size ≤ 1000) (aa : Option Addr) (ac : Nat) (all : List ByteArray) (hS : (framedAll all).length ≤ 100000000) (hl : all.length ≤ 100000000) (w : World) (st : Std w (lgL y x d l))
    (hA : ∀ W, Chg (feet (lgL y x d l)) w W → Cells W aa (all.map .string)) (h0 : aa = none → all.length = 0) :
    Calls Go.Proofs.Try.prog 41 #[.pointer (some ⟨y.b, 0, none⟩), .slice aa all.length ac] w (LogPost y x w (feet (lgL y x d l)) (resetP d l all)) := by
  apply lreset.ok; unfold lreset.vc LogPost
  have H := Hp.startL st
  generalize hB : feet (lgL y x d l) = B at H hA ⊢
  unfold lgL at H
  refine callV (contains_spec aa ac all (by omega) w (hA w H.chg)) ?_
  rintro e w1 ⟨rfl, H'⟩
  replace H := H.ext0 H'; clear H'
  refine ⟨_, rfl, ?_⟩
  refine br_mk (fun h => ?_) (fun h => ?_)
  · have e1 : resetP d l all = (d, l, 101) := by rw [resetP, if_pos h]
    rw [e1]
    exact ⟨rfl, x, y, rfl, rfl, hok, H⟩
  have e0 : resetP d l all = if l.code = 0 then (if (drenew d l.name all).2 = 0 then ((drenew d l.name all).1, l.anew all, 0) else ((drenew d l.name all).1, { l with code := (drenew d l.name all).2 }, (drenew d l.name all).2)) else (d, l, l.code) := by rw [resetP, if_neg (by rw [h]; simp)]
  rw [e0]
  refine onP_mk rfl ⟨_, H.ld (cs := lgC y x.b l) (by exact ⟨rfl, rfl, rfl, rfl⟩) sclEr (.tail _ (.tail _ (.head _))) rfl, ?_⟩
  refine br_not (fun h1 => ?_) (fun h1 => ?_)
  · rw [if_neg (of_decide_eq_false h1)]
    exact onP_mk rfl ⟨_, H.ld (cs := lgC y x.b l) (by exact ⟨rfl, rfl, rfl, rfl⟩) sclEr (.tail _ (.tail _ (.head _))) rfl, rfl, x, y, rfl, rfl, hok, H⟩
  have hcode := of_decide_eq_true h1
  rw [if_pos hcode]
  refine callV (lrenew_spec y x d l hok fit aa ac all hS hl (by omega) hn w1 H.drop.drop.std (fun W hW => hA W (H.drop.drop.later hW)) h0) ?_
  rintro e w2 ⟨rfl, x', hxb, hx', (⟨hr, y', hy', H'⟩ | ⟨hr, H'⟩)⟩
  · replace H := H.useT2 H'; clear H'
    refine ⟨_, rfl, ?_⟩
    refine br_not (fun h2 => absurd hr (of_decide_eq_false h2)) (fun _ => ?_)
    rw [if_pos hr]
    refine ⟨rfl, x', y', hxb, hy', hx', ?_⟩
    rw [← lgL_b hxb]
    have H2 : Hp B w w2 (lgA y' x.b (l.anew all) :: lgB y' (l.anew all) :: lgT y' (l.anew all) :: dkL x' (drenew d l.name all).1) := H.drop.drop
    exact H2.perm (perm_cnt fun ff gg h0 hc ha hpm => by simp only [ha, hc, h0]; omega)
  · replace H := H.useT2 H'; clear H'
    refine ⟨_, rfl, ?_⟩
    refine br_not (fun _ => ?_) (fun h2 => absurd (of_decide_eq_true h2) hr)
    rw [if_neg hr]
    have H1 : Hp B w w2 ([lgA y x.b l] ++ (lgT y l :: lgB y l :: dkL x' (drenew d l.name all).1)) := H.pull2
    refine callV (stuck_spec y x.b l _ w2 H1.std1) ?_
    rintro e w3 ⟨rfl, H'⟩
    replace H1 := H1.useL H'
    rw [if_pos hcode] at H1 ⊢
    refine ⟨_, rfl, rfl, x', y, hxb, rfl, hx', ?_⟩
    rw [← lgL_b hxb]
    exact H1.perm (((List.Perm.swap _ _ _).trans ((List.Perm.swap _ _ _).cons _)))
end Go.Proofs.Ytjbopmbffajknaa
