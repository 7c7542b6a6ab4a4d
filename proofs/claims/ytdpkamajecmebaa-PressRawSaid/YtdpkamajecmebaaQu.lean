/- PressRaw is true: for every name and script, from every world that may be reached. -/
import Derived.Test.YtdpkamajecmebaaArgU
import Derived.Test.YtdpkamajecmebaaQt
set_option linter.unusedVariables false
set_option linter.unusedSimpArgs false
set_option maxRecDepth 100000
namespace Go.Proofs.Ytdpkamajecmebaa
open Go Go.Vc Go.Vault Go.ChangeAt

theorem rd_raw (W : World) (K : List Value → Prop) : RdA Go.Proofs.Try.prog W 4 [9, 39] K = (∃ s : ByteArray, s.size ≤ reachBytes ∧ ArgG W 3 49 (fun cs => K (.string s :: ofC (some false) cs :: []))) := by kernel_rfl
theorem open_raw {W : World} {args : Array Value} (h : RdA Go.Proofs.Try.prog W 4 [9, 39] (fun l => args.toList = l)) : ∃ (s : ByteArray) (a : Option Addr) (c : Nat) (os : List (OW × Op)), args = #[.string s, .slice a os.length c] ∧ s.size ≤ reachBytes ∧ Scr W a os := by
  rw [rd_raw] at h
  obtain ⟨s, hs, h⟩ := h
  obtain ⟨a, c, os, h1, h⟩ := argG_script h
  exact ⟨s, a, c, os, by cases args; simp_all [ofC], hs, h1⟩
theorem reach_le {n : Nat} (h : n ≤ reachBytes) : n ≤ 4611686018427387904 := Nat.le_trans h (by decide)
theorem pressRaw_holds : Rows.PressRawSaid :=
  OpenClaim.holds_of_wide 4 Try.f4 rfl rfl rfl rfl rfl rfl rfl ⟨rfl, rfl, rfl, rfl, rfl⟩ rfl rfl rfl rfl rfl (by kernel_rfl) Try.func4 (by kernel_rfl)
    (of_decide_eq_true (by kernel_rfl)) (by unfold Func.isWrapper; first | (rw [if_pos (by decide +kernel)]; kernel_rfl) | (rw [if_neg (by decide +kernel)]; exact ⟨rfl, rfl⟩))
    (fun os started H enc _ => law_lift (C := Try.checked) (s := Rows.pressRawSpec) 4 Try.f4 4 own_ started (by kernel_rfl) Try.func4 laid_ (by kernel_rfl) rfl (by kernel_rfl) und4
      (fun ds h => by
        match ds, h with
        | [d0, d1], _ => rfl)
      (ChangeSpec.witness6 (enc := enc) (C := Try.checked) false ⟨#[], #[.string ⟨#[]⟩, .slice none 0 0], []⟩ 8 (by kernel_rfl) (by kernel_rfl) (by kernel_rfl) (by kernel_rfl))
      (fun W args hrd => by
        obtain ⟨s, a, c, so, rfl, h1, h2⟩ := open_raw hrd
        exact (pressRaw_law s (reach_le h1) a c so W h2).mono fun e W' ⟨he, hh⟩ => ⟨he, hh.chg⟩))
end Go.Proofs.Ytdpkamajecmebaa
