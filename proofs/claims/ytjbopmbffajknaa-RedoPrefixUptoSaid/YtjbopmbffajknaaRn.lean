/- Redo: a log at work. -/
import Derived.Test.YtjbopmbffajknaaRl
set_option linter.unusedVariables false
set_option linter.unusedSimpArgs false
set_option maxRecDepth 100000
namespace Go.Proofs.Ytjbopmbffajknaa
open Go Go.Vc Go.Vault Go.Redo

theorem same_spec (aa : Option Addr) (ac : Nat) (A : List ByteArray) (ba : Option Addr) (bc : Nat) (b : List ByteArray) (hl : A.length ≤ 1000000000) (w : World) (hA : Cells w aa (A.map .string)) (hB : Cells w ba (b.map .string)) :
    Calls Go.Proofs.Try.prog 22 #[.slice aa A.length ac, .slice ba b.length bc] w fun e w' => e = .returned (.bool (decide (A = b))) ∧ Hp [] w w' [] := by
  apply same.ok; unfold same.vc
  refine br_not (fun h => ?_) (fun h => ?_)
  · have h := of_decide_eq_false h
    rw [decide_eq_false (fun e => h (by rw [e]))]
    exact ⟨rfl, Hp.start w⟩
  have hlen : A.length = b.length := by have := of_decide_eq_true h; omega
  refine LoopP.mk (fun m s w' => ∃ k : Nat, m = A.length - k ∧ k ≤ A.length ∧ s = (k : Int) ∧ A.take k = b.take k ∧ Hp [] w w' []) A.length ⟨0, rfl, by omega, rfl, rfl, Hp.start w⟩ ?_
  rintro m s w1 next ⟨k, rfl, hk, rfl, hp, H⟩ hnext
  refine br_dec (fun h3 => ?_) (fun h3 => ?_)
  · have hkl : k < A.length := by omega
    have hkb : k < b.length := by omega
    have hv : (A.map Value.string)[k]? = some (.string A[k]) := by simp [hkl]
    have hv2 : (b.map Value.string)[k]? = some (.string b[k]) := by simp [hkb]
    replace H := H.drew
    have hcw := hA.chg H.chg (by simp)
    have hcw2 := hB.chg H.chg (by simp)
    obtain ⟨ad, ha, _⟩ := hcw k _ hv
    obtain ⟨ad2, ha2, _⟩ := hcw2 k _ hv2
    refine onP_mk ha ⟨⟨by omega, by omega⟩, _, by rw [Int.toNat_natCast, Nat.mul_one]; exact hcw.ld sclStr ha hv, ?_⟩
    refine onP_mk ha2 ⟨⟨by omega, by omega⟩, _, by rw [Int.toNat_natCast, Nat.mul_one]; exact hcw2.ld sclStr ha2 hv2, ?_⟩
    refine br_not (fun h4 => ?_) (fun h4 => ?_)
    · have h4 := of_decide_eq_false h4
      rw [decide_eq_false (fun e => h4 (by subst e; rfl))]
      exact ⟨rfl, H⟩
    · have h4 := of_decide_eq_true h4
      exact ⟨inR64.2 (by omega), hnext (A.length - (k + 1)) _ _ (by omega) ⟨k + 1, rfl, by omega, by omega, by rw [List.take_succ_eq_append_getElem hkl, List.take_succ_eq_append_getElem hkb, hp, h4], H⟩⟩
  · have hkl : k = A.length := by omega
    subst hkl
    rw [List.take_length, hlen, List.take_length] at hp
    rw [decide_eq_true hp]
    exact ⟨rfl, H⟩
theorem thnFit {r : Dk × Int} {f : Dk → Dk × Int} {M K : Nat} (h1 : r.1.Fit M) (h2 : r.1.Fit M → (f r.1).1.Fit K) (h3 : M ≤ K) : (thn r f).1.Fit K := by
  rw [thn]
  split
  · exact h2 h1
  · exact h1.mono h3
theorem dseal_fit {d : Dk} {N : Nat} (h : d.Fit N) (name : ByteArray) (m f : Nat) : (dseal d name m f).1.Fit (N + 3) :=
  thnFit (thnFit (Fit.sync h name) (fun h => Fit.write h _ _ _) (by omega)) (fun h => Fit.sync h _) (by omega)
theorem drenew_fit {d : Dk} {N : Nat} (h : d.Fit N) (name : ByteArray) (all : List ByteArray) : (drenew d name all).1.Fit (N + (framedAll all).length / 512 + 12) :=
  thnFit (thnFit (dfill_fit h (newN name) (framedAll all)) (fun h => Fit.rename h _ _) (by omega)) (fun h => Fit.syncNames h) (by omega)
theorem flushP_fit {d : Dk} {N : Nat} (h : d.Fit N) (l : Lg) : (flushP d l).1.Fit (N + l.b.length / 512 + 4) := by
  have h1 : (thn (dwrite d l.name l.b l.firm) fun d => dseal d l.name (l.mark + 1) l.b.length).1.Fit (N + l.b.length / 512 + 4) :=
    thnFit (M := N + l.b.length / 512 + 1) ((dput_fit l.name l.b _ _ h).mono (by omega)) (fun h => (dseal_fit h _ _ _)) (by omega)
  unfold flushP
  split
  · dsimp only
    split
    · exact h1
    · exact h1
  · exact h.mono (by omega)
theorem resetP_fit {d : Dk} {N : Nat} (h : d.Fit N) (l : Lg) (all : List ByteArray) : (resetP d l all).1.Fit (N + (framedAll all).length / 512 + 12) := by
  unfold resetP
  split
  · exact h.mono (by omega)
  · split
    · dsimp only
      split
      · exact drenew_fit h _ _
      · exact drenew_fit h _ _
    · exact h.mono (by omega)
theorem openP_fit {d : Dk} {N : Nat} (h : d.Fit N) (name : ByteArray) : (openP d name).1.Fit (N + 12) := by
  unfold openP
  split
  · exact h.mono (by omega)
  · split
    · exact h.mono (by omega)
    · split
      · exact h.mono (by omega)
      · exact drenew_fit h name []
def nLog : ByteArray := ⟨#[108, 111, 103]⟩
def sA : ByteArray := ⟨#[97]⟩
def sB : ByteArray := ⟨#[98]⟩
def aO1 : Dk × Int × Lg := openP (Dk.new 40) nLog
def aL2 : Lg := (aO1.2.2.append sA).1
def aF : Dk × Lg × Int := flushP aO1.1 aL2
def aL4 : Lg := (aF.2.1.append sB).1
def aD3 : Dk := aF.1.crash 0 []
def aO2 : Dk × Int × Lg := openP aD3 nLog
theorem aliveF : aO1.2.1 = 0 ∧ aO1.2.2.b.length = 0 ∧ aO1.2.2.all.length = 0 ∧ aL2.b.length = 5 ∧ aL2.firm = 0 ∧ aL2.mark = 1 ∧ aF.2.2 = 0 ∧ aF.2.1.b.length = 5 ∧ aF.2.1.all.length = 1 ∧ aL4.all.length = 2 ∧ aL4.many = 1 ∧ aO2.2.1 = 0 ∧ aO2.2.2.all = [sA] := by
  refine ⟨by kernel_rfl, by kernel_rfl, by kernel_rfl, by kernel_rfl, by kernel_rfl, by kernel_rfl, by kernel_rfl, by kernel_rfl, by kernel_rfl, by kernel_rfl, by kernel_rfl, by kernel_rfl, by kernel_rfl⟩
end Go.Proofs.Ytjbopmbffajknaa
