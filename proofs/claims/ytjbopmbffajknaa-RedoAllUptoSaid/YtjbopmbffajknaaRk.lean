/- Redo: Flush, Reset. -/
import Derived.Test.YtjbopmbffajknaaRj
set_option linter.unusedVariables false
set_option linter.unusedSimpArgs false
set_option maxRecDepth 100000
namespace Go.Proofs.Ytjbopmbffajknaa
open Go Go.Vc Go.Vault Go.Redo

/-- a log and its disk -/
def lgL (y : LW) (x : DW) (d : Dk) (l : Lg) : List Asn := lgT y l :: lgB y l :: lgA y x.b l :: dkL x d
def LogPost (y : LW) (x : DW) (w : World) (B : List Nat) (r : Dk × Lg × Int) (e : Ending) (w' : World) : Prop :=
  e = .returned (.int .i64 r.2.2) ∧ ∃ (x' : DW) (y' : LW), x'.b = x.b ∧ y'.b = y.b ∧ x'.Ok r.1 ∧ Hp B w w' (lgL y' x' r.1 r.2.1)
theorem lgL_b {y : LW} {x x' : DW} (h : x'.b = x.b) {d : Dk} {l : Lg} : lgT y l :: lgB y l :: lgA y x.b l :: dkL x' d = lgL y x' d l := by rw [lgL, h]
set_option maxHeartbeats 1000000 in
theorem lflush_spec (y : LW) (x : DW) (d : Dk) (l : Lg) (hok : x.Ok d) {N : Nat} (fit : d.Fit N) (hN : N ≤ 400000) (hb : l.b.length ≤ 100000000) (hf : l.firm ≤ 100000000) (hm : l.mark ≤ 100000000) (w : World) (st : Std w (lgL y x d l)) :
    Calls Go.Proofs.Try.prog 26 #[.pointer (some ⟨y.b, 0, none⟩)] w (LogPost y x w (feet (lgL y x d l)) (flushP d l)) := by
  apply lflush.ok; unfold lflush.vc LogPost
  have H := Hp.startL st
  generalize hB : feet (lgL y x d l) = B at H ⊢
  unfold lgL at H
  refine onP_mk rfl ⟨_, H.ld (cs := lgC y x.b l) (by exact ⟨rfl, rfl, rfl, rfl⟩) sclEr (.tail _ (.tail _ (.head _))) rfl, ?_⟩
  refine br_not (fun h => ?_) (fun h => ?_)
  · have h := of_decide_eq_false h
    have e1 : flushP d l = (d, l, l.code) := by rw [flushP, if_neg h]
    rw [e1]
    exact onP_mk rfl ⟨_, H.ld (cs := lgC y x.b l) (by exact ⟨rfl, rfl, rfl, rfl⟩) sclEr (.tail _ (.tail _ (.head _))) rfl, rfl, x, y, rfl, rfl, hok, H⟩
  have h := of_decide_eq_true h
  replace H := H.drew
  refine onP_mk rfl ⟨_, H.ld (cs := lgC y x.b l) (by exact ⟨rfl, rfl, rfl, rfl⟩) sclStr (.tail _ (.tail _ (.head _))) rfl, ?_⟩
  refine onP_mk rfl ⟨_, _, _, H.ld (cs := lgC y x.b l) (by exact ⟨rfl, rfl, rfl, rfl⟩) sclBS (.tail _ (.tail _ (.head _))) rfl, ?_⟩
  refine onP_mk rfl ⟨_, H.ld (cs := lgC y x.b l) (by exact ⟨rfl, rfl, rfl, rfl⟩) sclInt (.tail _ (.tail _ (.head _))) rfl, ?_⟩
  have hown := H.ownA (e := 5) (.tail _ (.head _))
  refine callV (lwrite_spec y.b (lgC y x.b l) x d hok fit l.name y.ba y.bc l.b (by omega) l.firm (by omega) rfl w.drew H.drop.drop.std (fun W hW => H.drop.ownSt W hW) (ownNil hown) hown.le.1) ?_
  rintro e w1 ⟨rfl, x1, hx1b, hx1, H'⟩
  replace H := H.useT2 H'; clear H'
  have fit1 : (dwrite d l.name l.b l.firm).1.Fit (N + l.b.length / 512 + 1) := (dput_fit l.name l.b _ _ fit).mono (by omega)
  have e0 : flushP d l = if (thn (dwrite d l.name l.b l.firm) fun d => dseal d l.name (l.mark + 1) l.b.length).2 = 0 then ((thn (dwrite d l.name l.b l.firm) fun d => dseal d l.name (l.mark + 1) l.b.length).1, { l with mark := l.mark + 1, firm := l.b.length, many := l.all.length }, 0) else ((thn (dwrite d l.name l.b l.firm) fun d => dseal d l.name (l.mark + 1) l.b.length).1, { l with code := (thn (dwrite d l.name l.b l.firm) fun d => dseal d l.name (l.mark + 1) l.b.length).2 }, (thn (dwrite d l.name l.b l.firm) fun d => dseal d l.name (l.mark + 1) l.b.length).2) := by rw [flushP, if_pos h]
  rw [e0]; clear e0
  refine ⟨_, rfl, ?_⟩
  -- it is stuck
  have bad : ∀ (w2 : World) (x2 : DW) (r : Dk × Int), x2.b = x.b → x2.Ok r.1 → r.2 ≠ 0 → Hp B w w2 (lgT y l :: lgB y l :: lgA y x.b l :: dkL x2 r.1) →
      CallV Go.Proofs.Try.prog 46 [.pointer (some ⟨y.b, 0, none⟩), .int .i64 r.2] w2 fun e w' => ∃ i, e = .returned (.int .i64 i) ∧
        (Ending.returned (.int .i64 i) = .returned (.int .i64 r.2) ∧ ∃ (x' : DW) (y' : LW), x'.b = x.b ∧ y'.b = y.b ∧ x'.Ok r.1 ∧ Hp B w w' (lgL y' x' r.1 { l with code := r.2 })) := by
    intro w2 x2 r hxb hx2 hr H
    have H1 : Hp B w w2 ([lgA y x.b l] ++ (lgT y l :: lgB y l :: dkL x2 r.1)) := H.pull2
    refine callV (stuck_spec y x.b l r.2 w2 H1.std1) ?_
    rintro e w3 ⟨rfl, H'⟩
    replace H1 := H1.useL H'
    rw [if_pos h] at H1 ⊢
    refine ⟨_, rfl, rfl, x2, y, hxb, rfl, hx2, ?_⟩
    rw [← lgL_b hxb]
    exact H1.perm (((List.Perm.swap _ _ _).trans ((List.Perm.swap _ _ _).cons _)))
  refine br_dec (fun h1 => ?_) (fun h1 => br_not (fun _ => ?_) (fun h2 => absurd (of_decide_eq_true h2) h1))
  · have e1 : (thn (dwrite d l.name l.b l.firm) fun d => dseal d l.name (l.mark + 1) l.b.length) = dseal (dwrite d l.name l.b l.firm).1 l.name (l.mark + 1) l.b.length := by rw [thn, if_pos h1]
    rw [e1]
    generalize (dwrite d l.name l.b l.firm).1 = d1 at hx1 H fit1 ⊢
    replace H := H.drew
    refine onP_mk rfl ⟨_, H.ld (cs := lgC y x.b l) (by exact ⟨rfl, rfl, rfl, rfl⟩) sclStr (.tail _ (.tail _ (.head _))) rfl, ?_⟩
    refine onP_mk rfl ⟨_, H.ld (cs := lgC y x.b l) (by exact ⟨rfl, rfl, rfl, rfl⟩) sclU64 (.tail _ (.tail _ (.head _))) rfl, inRU.2 (by omega), ?_⟩
    refine onP_mk rfl ⟨_, _, _, H.ld (cs := lgC y x.b l) (by exact ⟨rfl, rfl, rfl, rfl⟩) sclBS (.tail _ (.tail _ (.head _))) rfl, ?_⟩
    have hss := lseal_spec y.b (lgC y x.b l) x1 d1 hx1 fit1 (by omega) l.name (l.mark + 1) l.b.length (by omega) (by omega) (by rw [hx1b]; rfl) w1.drew H.drop.drop.std
    rw [Int.natCast_add] at hss
    refine callV hss ?_
    rintro e w2 ⟨rfl, x2, hx2b, hx2, H'⟩
    replace H := H.useT2 H'; clear H' hss
    refine ⟨_, rfl, ?_⟩
    have hxb2 : x2.b = x.b := by rw [hx2b, hx1b]
    generalize dseal d1 l.name (l.mark + 1) l.b.length = r at hx2 H ⊢
    refine br_not (fun h2 => ?_) (fun h2 => ?_)
    · have h2 := of_decide_eq_false h2
      rw [if_neg h2]
      exact bad w2 x2 r hxb2 hx2 h2 H
    · have h2 := of_decide_eq_true h2
      rw [if_pos h2]
      refine onP_mk rfl ⟨_, H.ld (cs := lgC y x.b l) (by exact ⟨rfl, rfl, rfl, rfl⟩) sclU64 (.tail _ (.tail _ (.head _))) rfl, inRU.2 (by omega), ?_⟩
      refine onP_mk rfl (Hp.st (o := 2) H.pull2 (by exact ⟨rfl, rfl, rfl, rfl⟩) sclU64 rfl rfl (by simp [lgC]) (cs' := lgC y x.b { l with mark := l.mark + 1 }) (by simp [lgC]) ?_)
      clear H; intro w3 H
      replace H := H.drew
      refine onP_mk rfl ⟨_, _, _, H.ld (cs := lgC y x.b { l with mark := l.mark + 1 }) (by exact ⟨rfl, rfl, rfl, rfl⟩) sclBS (.head _) rfl, ?_⟩
      refine onP_mk rfl ⟨_, _, _, H.ld (cs := lgC y x.b { l with mark := l.mark + 1 }) (by exact ⟨rfl, rfl, rfl, rfl⟩) sclTS (.head _) rfl, ?_⟩
      refine onP_mk rfl (Hp.st (o := 4) H (by exact ⟨rfl, rfl, rfl, rfl⟩) sclInt rfl rfl (by simp [lgC]) (cs' := lgC y x.b { l with mark := l.mark + 1, firm := l.b.length }) rfl ?_)
      clear H; intro w4 H
      refine onP_mk rfl (Hp.st (o := 5) H (by exact ⟨rfl, rfl, rfl, rfl⟩) sclInt rfl rfl (by simp [lgC]) (cs' := lgC y x.b { l with mark := l.mark + 1, firm := l.b.length, many := l.all.length }) rfl ?_)
      clear H; intro w5 H
      refine ⟨rfl, x2, y, hxb2, rfl, hx2, ?_⟩
      rw [← lgL_b hxb2]
      exact H.perm (((List.Perm.swap _ _ _).trans ((List.Perm.swap _ _ _).cons _)))
  · have e1 : (thn (dwrite d l.name l.b l.firm) fun d => dseal d l.name (l.mark + 1) l.b.length) = dwrite d l.name l.b l.firm := by rw [thn, if_neg h1]
    rw [e1, if_neg h1]
    exact bad w1 x1 _ hx1b hx1 h1 H

theorem resetC_spec (s : ByteArray) (w : World) : Calls Go.Proofs.Try.prog 59 #[.string s] w fun e w' => e = .returned (.bool (decide (65536 < (s.size : Int)))) ∧ Hp [] w w' [] := by
  apply resetC.ok; unfold resetC.vc
  exact ⟨rfl, Hp.start w⟩
theorem index_spec (aa : Option Addr) (ac : Nat) (all : List ByteArray) (hl : all.length ≤ 1000000000) (w : World) (hc : Cells w aa (all.map .string)) :
    Calls Go.Proofs.Try.prog 68 #[.slice aa all.length ac, .func (.func 59) #[] #[]] w fun e w' => ∃ i : Int, e = .returned (.int .i64 i) ∧ (0 ≤ i ↔ tooLong all = true) ∧ Hp [] w w' [] := by
  apply indexT.ok; unfold indexT.vc
  refine LoopP.mk (fun m s w' => ∃ k : Nat, m = all.length - k ∧ k ≤ all.length ∧ s = (k : Int) ∧ tooLong (all.take k) = false ∧ Hp [] w w' []) all.length ⟨0, rfl, by omega, rfl, rfl, Hp.start w⟩ ?_
  rintro m s w1 next ⟨k, rfl, hk, rfl, hno, H⟩ hnext
  refine br_dec (fun h3 => ?_) (fun h3 => ?_)
  · have hkl : k < all.length := by omega
    have hv : (all.map Value.string)[k]? = some (.string all[k]) := by simp [hkl]
    have hcw := hc.chg H.chg (by simp)
    obtain ⟨ad, ha, _⟩ := hcw k _ hv
    refine onP_mk ha ⟨⟨by omega, by omega⟩, _, by rw [Int.toNat_natCast, Nat.mul_one]; exact hcw.ld sclStr ha hv, ?_⟩
    refine callX (callX_fn Go.Proofs.Try.func59 rfl (callV (resetC_spec all[k] w1) fun _ _ h => h)) ?_
    rintro e w2 ⟨rfl, H'⟩
    replace H := H.ext0 H'; clear H'
    refine ⟨_, rfl, ?_⟩
    refine br_dec (fun h4 => ?_) (fun h4 => ?_)
    · refine ⟨_, rfl, ⟨fun _ => ?_, fun _ => by omega⟩, H⟩
      rw [tooLong, List.any_eq_true]
      exact ⟨all[k], List.getElem_mem _, by rw [decide_eq_true_eq]; omega⟩
    · refine ⟨inR64.2 (by omega), hnext (all.length - (k + 1)) _ _ (by omega) ⟨k + 1, rfl, by omega, by omega, ?_, H⟩⟩
      rw [List.take_succ_eq_append_getElem hkl, tooLong, List.any_append, ← tooLong, hno]
      simp; omega
  · have hkl : k = all.length := by omega
    subst hkl
    rw [List.take_length] at hno
    exact ⟨_, rfl, ⟨fun h => by omega, fun h => by rw [hno] at h; cases h⟩, H⟩
theorem contains_spec (aa : Option Addr) (ac : Nat) (all : List ByteArray) (hl : all.length ≤ 1000000000) (w : World) (hc : Cells w aa (all.map .string)) :
    Calls Go.Proofs.Try.prog 58 #[.slice aa all.length ac, .func (.func 59) #[] #[]] w fun e w' => e = .returned (.bool (tooLong all)) ∧ Hp [] w w' [] := by
  apply containsT.ok; unfold containsT.vc
  refine callV (index_spec aa ac all hl w hc) ?_
  rintro e w1 ⟨i, rfl, hi, H⟩
  refine ⟨_, rfl, ?_, H⟩
  congr 2
  rw [Bool.eq_iff_iff, decide_eq_true_eq]; exact hi
end Go.Proofs.Ytjbopmbffajknaa
