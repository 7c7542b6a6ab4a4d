/- PressApart is true: for every script and text, from every world that may be reached. -/
import Derived.Test.YtdpkamajecmebaaArgU
import Derived.Test.YtdpkamajecmebaaQw
set_option linter.unusedVariables false
set_option linter.unusedSimpArgs false
set_option maxRecDepth 100000
namespace Go.Proofs.Ytdpkamajecmebaa
open Go Go.Vc Go.Vault Go.Press Go.ChangeAt

theorem rd_apart (W : World) (K : List Value → Prop) : RdA Go.Proofs.Try.prog W 4 [39, 28] K = ArgG W 3 49 (fun cs => ∃ s : ByteArray, s.size ≤ reachBytes ∧ ∃ s2 : ByteArray, s2.size ≤ reachBytes ∧ K (ofC (some false) cs :: ofC (some true) [.string s, .string s2] :: [])) := by kernel_rfl
theorem open_apart {W : World} {args : Array Value} (h : RdA Go.Proofs.Try.prog W 4 [39, 28] (fun l => args.toList = l)) : ∃ (a : Option Addr) (c : Nat) (os : List (OW × Op)) (t : Tx), args = #[.slice a os.length c, .agg #[.string t.1, .string t.2]] ∧ t.1.size ≤ reachBytes ∧ Scr W a os := by
  rw [rd_apart] at h
  obtain ⟨a, c, os, h1, h⟩ := argG_script h
  obtain ⟨s, hs, s2, hs2, h⟩ := h
  exact ⟨a, c, os, (s, s2), by cases args; simp_all [ofC], hs, h1⟩
theorem reach_le {n : Nat} (h : n ≤ reachBytes) : n ≤ 4611686018427387904 := Nat.le_trans h (by decide)
theorem pressApart_holds : Rows.PressApartSaid :=
  OpenClaim.holds_of_wide 6 Try.f6 rfl rfl rfl rfl rfl rfl rfl ⟨rfl, rfl, rfl, rfl, rfl⟩ rfl rfl rfl rfl rfl (by kernel_rfl) Try.func6 (by kernel_rfl)
    (of_decide_eq_true (by kernel_rfl)) (by unfold Func.isWrapper; first | (rw [if_pos (by decide +kernel)]; kernel_rfl) | (rw [if_neg (by decide +kernel)]; exact ⟨rfl, rfl⟩))
    (fun os started H enc _ => law_lift (C := Try.checked) (s := Rows.pressApartSpec) 6 Try.f6 4 own_ started (by kernel_rfl) Try.func6 laid_ (by kernel_rfl) rfl (by kernel_rfl) und4
      (fun ds h => by
        match ds, h with
        | [d0, d1], _ => rfl)
      (ChangeSpec.witness6 (enc := enc) (C := Try.checked) false ⟨#[], #[.slice none 0 0, .agg #[.string ⟨#[]⟩, .string ⟨#[]⟩]], []⟩ 8 (by kernel_rfl) (by kernel_rfl) (by kernel_rfl) (by kernel_rfl))
      (fun W args hrd => by
        obtain ⟨a, c, so, t, rfl, h1, h2⟩ := open_apart hrd
        exact (pressApart_law a c so t (reach_le h1) W h2).mono fun e W' ⟨he, hh⟩ => ⟨he, hh.chg⟩))
end Go.Proofs.Ytdpkamajecmebaa
