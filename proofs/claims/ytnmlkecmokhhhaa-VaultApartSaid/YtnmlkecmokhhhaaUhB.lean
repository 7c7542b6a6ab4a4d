/- Vault: VaultApart. -/
import Derived.Test.YtnmlkecmokhhhaaUhA
import Derived.Test.YtnmlkecmokhhhaaUaP
import Derived.Test.YtnmlkecmokhhhaaRows
set_option linter.unusedVariables false
set_option linter.unusedSimpArgs false
set_option maxRecDepth 100000
namespace Go.Proofs.Ytnmlkecmokhhhaa
open Go Go.Vc Go.Vault Go.ChangeAt

theorem vaultApart_holds : Rows.VaultApartSaid :=
  OpenClaim.holds_of_wide 9 Try.f9 rfl rfl rfl rfl rfl rfl rfl ⟨rfl, rfl, rfl, rfl, rfl⟩ rfl rfl rfl rfl rfl (by kernel_rfl) Try.func9 (by kernel_rfl)
    (of_decide_eq_true (by kernel_rfl)) (by unfold Func.isWrapper; first | (rw [if_pos (by decide +kernel)]; kernel_rfl) | (rw [if_neg (by decide +kernel)]; exact ⟨rfl, rfl⟩))
    (fun os started H enc _ => law_lift (C := Try.checked) (s := Rows.vaultApartSpec) 9 Try.f9 4 own_ started (by kernel_rfl) Try.func9 laid_ (by kernel_rfl) rfl (by kernel_rfl) und4
      (fun ds h => by
        match ds, h with
        | [d0, d1], _ => rfl)
      (ChangeSpec.witness6 (enc := enc) (C := Try.checked) false ⟨#[], #[.slice none 0 0, .slice none 0 0], []⟩ 8 (by kernel_rfl) (by kernel_rfl) (by kernel_rfl) (by kernel_rfl))
      (fun W args hrd => by
        obtain ⟨sa, sc, so, s2a, s2c, s2o, rfl, sh, s2h, s2b⟩ := open_apart hrd
        exact (vaultApart_law sa sc so s2a s2c s2o W sh s2h s2b).mono fun e W' ⟨he, hh⟩ => ⟨he, hh.chg⟩))
end Go.Proofs.Ytnmlkecmokhhhaa
