/- Redo: a log in memory; made anew. -/
import Derived.Test.YtjbopmbffajknaaRd
set_option linter.unusedVariables false
set_option linter.unusedSimpArgs false
set_option maxRecDepth 100000
namespace Go.Proofs.Ytjbopmbffajknaa
open Go Go.Vc Go.Vault Go.Redo

structure LW where
  b : Nat
  ba : Option Addr
  bc : Nat
  ta : Option Addr
  tc : Nat
def lgC (y : LW) (db : Nat) (l : Lg) : List Value := [.pointer (some ⟨db, 0, none⟩), .string l.name, .int .u64 (l.mark : Int), .slice y.ba l.b.length y.bc, .int .i64 (l.firm : Int), .int .i64 (l.many : Int), .slice y.ta l.all.length y.tc, .int .i64 l.code]
def lgA (y : LW) (db : Nat) (l : Lg) : Asn := .blk y.b (lgC y db l) 79
def lgO (y : LW) (l : Lg) : List Asn := [.own 5 1 y.ba l.b.length y.bc (bcells l.b), .own 9 1 y.ta l.all.length y.tc (l.all.map .string)]
theorem stuck_spec (y : LW) (db : Nat) (l : Lg) (c : Int) (w : World) (st : Std w [lgA y db l]) :
    Calls Go.Proofs.Try.prog 46 #[.pointer (some ⟨y.b, 0, none⟩), .int .i64 c] w fun e w' => e = .returned (.int .i64 (if l.code = 0 then c else l.code)) ∧ Hp (feet [lgA y db l]) w w' [lgA y db { l with code := if l.code = 0 then c else l.code }] := by
  apply stuck.ok; unfold stuck.vc
  have H := Hp.startL st
  generalize feet [lgA y db l] = B at H ⊢
  refine onP_mk rfl ⟨_, H.ld (cs := lgC y db l) (by exact ⟨rfl, rfl, rfl, rfl⟩) sclEr (.head _) rfl, ?_⟩
  refine br_dec (fun h => ?_) (fun h => ?_)
  · rw [if_pos h]
    refine onP_mk rfl (Hp.st (o := 7) H (by exact ⟨rfl, rfl, rfl, rfl⟩) sclEr rfl rfl (by simp [lgC]) (cs' := lgC y db { l with code := c }) rfl ?_)
    clear H; intro w1 H
    exact onP_mk rfl ⟨_, H.ld (by exact ⟨rfl, rfl, rfl, rfl⟩) sclEr (.head _) rfl, rfl, H⟩
  · rw [if_neg h]
    exact onP_mk rfl ⟨_, H.ld (cs := lgC y db l) (by exact ⟨rfl, rfl, rfl, rfl⟩) sclEr (.head _) rfl, rfl, H⟩
def RenPost (y : LW) (x : DW) (d : Dk) (l : Lg) (w : World) (all : List ByteArray) (r : Dk × Int) (e : Ending) (w' : World) : Prop :=
  e = .returned (.int .i64 r.2) ∧ ∃ x' : DW, x'.b = x.b ∧ x'.Ok r.1 ∧
    ((r.2 = 0 ∧ ∃ y' : LW, y'.b = y.b ∧ Hp (feet (lgA y x.b l :: dkL x d)) w w' (lgA y' x.b (l.anew all) :: (lgO y' (l.anew all) ++ dkL x' r.1))) ∨
     (r.2 ≠ 0 ∧ Hp (feet (lgA y x.b l :: dkL x d)) w w' (lgA y x.b l :: dkL x' r.1)))

theorem dfill_fit {d : Dk} {N : Nat} (h : d.Fit N) (name : ByteArray) (b : List UInt8) : (dfill d name b).1.Fit (N + b.length / 512 + 10) := by
  have thnF : ∀ {r : Dk × Int} {f : Dk → Dk × Int} {M K : Nat}, r.1.Fit M → (r.1.Fit M → (f r.1).1.Fit K) → M ≤ K → (thn r f).1.Fit K := by
    intro r f M K h1 h2 h3
    rw [thn]
    split
    · exact h2 h1
    · exact h1.mono h3
  have h1 : (dmarks d name 2).1.Fit (N + 3) := thnF (thnF (Fit.create h name) (fun h => Fit.write h _ _ _) (by omega)) (fun h => Fit.write h _ _ _) (by omega)
  have h2 := thnF (f := fun d => dwrite d name b 0) h1 (fun h => dwrite_fit h name b) (by omega)
  have h3 := thnF (f := fun d => dseal d name 1 b.length) h2 (K := N + b.length / 512 + 10) (fun h => by
    refine Dk.Fit.mono (N := N + 3 + b.length / 512 + 1 + 3) ?_ (by omega)
    exact thnF (thnF (Fit.sync h name) (fun h => Fit.write h _ _ _) (by omega)) (fun h => Fit.sync h _) (by omega)) (by omega)
  exact h3

set_option maxHeartbeats 2000000 in
theorem lrenew_spec (y : LW) (x : DW) (d : Dk) (l : Lg) (hok : x.Ok d) {N : Nat} (fit : d.Fit N) (aa : Option Addr) (ac : Nat) (all : List ByteArray) (hS : (framedAll all).length ≤ 100000000) (hl : all.length ≤ 100000000) (hN : N ≤ 500000) (hn : l.name.size ≤ 1000)
    (w : World) (st : Std w (lgA y x.b l :: dkL x d)) (hA : ∀ W, Chg (feet (lgA y x.b l :: dkL x d)) w W → Cells W aa (all.map .string)) (h0 : aa = none → all.length = 0) :
    Calls Go.Proofs.Try.prog 37 #[.pointer (some ⟨y.b, 0, none⟩), .slice aa all.length ac] w (RenPost y x d l w all (drenew d l.name all)) := by
  apply lrenew.ok; unfold lrenew.vc RenPost
  have H := Hp.startL st
  generalize hB : feet (lgA y x.b l :: dkL x d) = B at H hA ⊢
  refine LoopP.mk (fun m s w' => ∃ (k : Nat) (a : Option Addr) (c : Nat), m = all.length - k ∧ k ≤ all.length ∧ s = ((a, (framedAll (all.take k)).length, c), (k : Int)) ∧
    Hp B w w' (.own 5 1 a (framedAll (all.take k)).length c (bcells (framedAll (all.take k))) :: lgA y x.b l :: dkL x d)) all.length ⟨0, none, 0, rfl, by omega, rfl, H.nilS _ _⟩ ?_
  clear H
  rintro m s w1 next ⟨k, a, c, rfl, hk, rfl, H⟩ hnext
  refine br_dec (fun h3 => ?_) (fun h3 => ?_)
  · have hkl : k < all.length := by simp only at h3; omega
    have hv : (all.map Value.string)[k]? = some (.string all[k]) := by simp [hkl]
    have hcw := hA w1 H.chg
    obtain ⟨ad, ha, _⟩ := hcw k _ hv
    refine onP_mk ha ⟨⟨by simp only; omega, by simp only; omega⟩, _, by simp only; rw [Int.toNat_natCast, Nat.mul_one]; exact hcw.ld sclStr ha hv, ?_⟩
    have hsn : framedAll (all.take (k + 1)) = framed (framedAll (all.take k)) all[k] := by rw [List.take_succ_eq_append_getElem hkl, framedAll_snoc]
    have hle := framedAll_take all (k + 1)
    rw [hsn, framed_len] at hle
    refine callV (framed_spec a c (framedAll (all.take k)) all[k] (by omega) w1 (H.std1 (L1 := [_]))) ?_
    rintro e w2 ⟨a', c', rfl, H'⟩
    replace H := Hp.useL (L1 := [_]) H H'; clear H'
    rw [← hsn] at H ⊢
    exact ⟨_, _, _, rfl, inR64.2 (by simp only; omega), hnext (all.length - (k + 1)) _ _ (by omega) ⟨k + 1, a', c', rfl, by omega, rfl, H⟩⟩
  · have hkl : k = all.length := by simp only at h3; omega
    subst hkl
    simp only [List.take_length] at H ⊢
    refine onP_mk rfl ⟨_, H.ld (cs := lgC y x.b l) (by exact ⟨rfl, rfl, rfl, rfl⟩) sclStr (.tail _ (.head _)) rfl, ?_⟩
    refine ⟨by show ((l.name.size + 4 : Nat) : Int) ≤ _; omega, ?_⟩
    have hown := (H.ownA (.head _))
    refine callV (lfill_spec y.b (lgC y x.b l) x d hok fit (newN l.name) a c (framedAll all) (by omega) (by omega) rfl w1 H.drop.std (fun W hW => H.ownSt W hW) (ownNil hown) hown.le.1) ?_
    rintro e w2 ⟨rfl, x1, hx1b, hx1, H'⟩
    replace H := H.useT H'; clear H'
    have fit1 := dfill_fit fit (newN l.name) (framedAll all)
    refine ⟨_, rfl, ?_⟩
    have e0 : drenew d l.name all = thn (thn (dfill d (newN l.name) (framedAll all)) fun d => d.rename (newN l.name) l.name) fun d => d.syncNames := rfl
    generalize dfill d (newN l.name) (framedAll all) = r1 at hx1 H fit1 e0 ⊢
    refine br_dec (fun h4 => ?_) (fun h4 => br_dec (fun h5 => absurd h5 h4) (fun _ => br_not (fun _ => ?_) (fun h5 => absurd (of_decide_eq_true h5) h4)))
    · have e1 : drenew d l.name all = thn (r1.1.rename (newN l.name) l.name) fun d => d.syncNames := by rw [e0]; congr 1; rw [thn, if_pos h4]
      replace H := H.drew
      refine onP_mk rfl ⟨_, H.ld (cs := lgC y x.b l) (by exact ⟨rfl, rfl, rfl, rfl⟩) sclDP (.tail _ (.head _)) rfl, ?_⟩
      refine onP_mk rfl ⟨_, H.ld (cs := lgC y x.b l) (by exact ⟨rfl, rfl, rfl, rfl⟩) sclStr (.tail _ (.head _)) rfl, ?_⟩
      refine ⟨by show ((l.name.size + 4 : Nat) : Int) ≤ _; omega, ?_⟩
      refine onP_mk rfl ⟨_, H.ld (cs := lgC y x.b l) (by exact ⟨rfl, rfl, rfl, rfl⟩) sclStr (.tail _ (.head _)) rfl, ?_⟩
      have hrs := rename_spec x1 r1.1 hx1 (by have := fit1.chs; omega) (newN l.name) l.name w2.drew H.drop.drop.std
      rw [hx1b] at hrs
      refine callV hrs ?_
      rintro e w3 ⟨rfl, x2, hx2b, hx2, H'⟩
      replace H := H.useT2 H'; clear H' hrs
      have fit2 := Fit.rename fit1 (newN l.name) l.name
      refine ⟨_, rfl, ?_⟩
      generalize r1.1.rename (newN l.name) l.name = r2 at hx2 H fit2 e1 ⊢
      refine br_dec (fun h5 => ?_) (fun h5 => br_not (fun _ => ?_) (fun h6 => absurd (of_decide_eq_true h6) h5))
      · have e2 : drenew d l.name all = r2.1.syncNames := by rw [e1, thn, if_pos h5]
        rw [e2]
        refine onP_mk rfl ⟨_, H.ld (cs := lgC y x.b l) (by exact ⟨rfl, rfl, rfl, rfl⟩) sclDP (.tail _ (.head _)) rfl, ?_⟩
        have hss := syncNames_spec x2 r2.1 hx2 w3 H.drop.drop.std
        rw [hx2b, hx1b] at hss
        refine callV hss ?_
        rintro e w4 ⟨rfl, x3, hx3b, hx3, H'⟩
        replace H := H.useT2 H'; clear H' hss
        refine ⟨_, rfl, ?_⟩
        have hxb3 : x3.b = x.b := by rw [hx3b, hx2b, hx1b]
        refine br_not (fun h6 => ⟨rfl, x3, hxb3, hx3, .inr ⟨of_decide_eq_false h6, H.drop⟩⟩) (fun h6 => ?_)
        have h6 := of_decide_eq_true h6
        refine onP_mk rfl (Hp.st (o := 2) H.pull1 (by exact ⟨rfl, rfl, rfl, rfl⟩) sclU64 rfl rfl (by simp [lgC]) rfl ?_)
        clear H; intro w5 H
        refine onP_mk rfl (Hp.st (o := 3) H (by exact ⟨rfl, rfl, rfl, rfl⟩) sclBS rfl rfl (by simp [lgC]) rfl ?_)
        clear H; intro w6 H
        refine onP_mk rfl (Hp.st (o := 4) H (by exact ⟨rfl, rfl, rfl, rfl⟩) sclInt rfl rfl (by simp [lgC]) rfl ?_)
        clear H; intro w7 H
        refine callV (cloneT_spec aa ac all (by omega) w7 (hA w7 H.chg) h0) ?_
        rintro e w8 ⟨ta, tc, rfl, H'⟩
        replace H := H.ext1 H'; clear H'
        refine ⟨_, _, _, rfl, ?_⟩
        refine onP_mk rfl (Hp.st (o := 6) H.pull1 (by exact ⟨rfl, rfl, rfl, rfl⟩) sclTS rfl rfl (by simp [lgC]) rfl ?_)
        clear H; intro w9 H
        refine onP_mk rfl (Hp.st (o := 5) H (by exact ⟨rfl, rfl, rfl, rfl⟩) sclInt rfl rfl (by simp [lgC]) rfl ?_)
        clear H; intro w10 H
        rw [h6]
        refine ⟨rfl, x3, hxb3, hx3, .inl ⟨rfl, ⟨y.b, a, c, ta, tc⟩, rfl, ?_⟩⟩
        have H2 := H.perm (((List.Perm.swap _ _ _).cons _))
        exact H2
      · have e2 : drenew d l.name all = r2 := by rw [e1, thn, if_neg h5]
        rw [e2]
        exact ⟨rfl, x2, by rw [hx2b, hx1b], hx2, .inr ⟨h5, H.drop⟩⟩
    · have e1 : drenew d l.name all = r1 := by rw [e0, thn, thn, if_neg h4, if_neg h4]
      rw [e1]
      exact ⟨rfl, x1, hx1b, hx1, .inr ⟨h4, H.drop⟩⟩
end Go.Proofs.Ytjbopmbffajknaa
