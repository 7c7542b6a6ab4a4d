/- BinderyClosed is true: for every script, from every world that may be reached. -/
import Derived.Test.YtfcofkdpbmjefaaGreatCl8
set_option linter.unusedVariables false
set_option linter.unusedSimpArgs false
set_option maxRecDepth 100000
namespace Go.Proofs.YtfcofkdpbmjefaaGreat
open Go Go.Vc Go.ChangeAt
theorem binderyClosed_1 : (Rows.binderyClosedRow.inPlace == Tryz.prog.inPlace 3) = true := by kernel_rfl
theorem binderyClosed_2 : (Rows.binderyClosedRow.unfollowed == Tryz.prog.unfollowed 3) = true := by kernel_rfl
theorem binderyClosed_3 : (Rows.binderyClosedRow.recurses == Tryz.prog.recurses 3) = true := by kernel_rfl
theorem binderyClosed_4 : (Rows.binderyClosedRow.named == Tryz.prog.varsNamed 3) = true := by kernel_rfl
theorem binderyClosed_holds : Rows.BinderyClosedSaid :=
  OpenClaim.holds_of_wide 3 Tryz.f3 rfl rfl rfl rfl rfl rfl rfl ⟨rfl, rfl, rfl, rfl, rfl⟩ rfl rfl rfl rfl rfl (by kernel_rfl) Tryz.func3 (joined_of laid_ rowed_ binderyClosed_1 binderyClosed_2 binderyClosed_3 binderyClosed_4 heard_ enter_ (beq_iff_eq.2 lifts_.symm) (beq_iff_eq.2 make_) (by kernel_rfl) (by kernel_rfl) (by kernel_rfl) (by kernel_rfl))
    (of_decide_eq_true (by kernel_rfl)) (by unfold Func.isWrapper; first | (rw [if_pos (by decide +kernel)]; kernel_rfl) | (rw [if_neg (by decide +kernel)]; exact ⟨rfl, rfl⟩))
    (fun os started H enc _ => law_lift (C := Tryz.checked) (s := Rows.binderyClosedSpec) 3 Tryz.f3 8 own_ started (by kernel_rfl) Tryz.func3 laid_ (by kernel_rfl) rfl (by kernel_rfl) und4
      (fun ds h => by
        match ds, h with
        | [d0], _ => rfl)
      (ChangeSpec.witness6 (enc := enc) (C := Tryz.checked) false ⟨#[], #[.slice none 0 0], []⟩ 8 (by kernel_rfl) (by kernel_rfl) (by kernel_rfl) (by kernel_rfl))
      (fun W args hrd => by
        obtain ⟨a, c, els, rfl, h⟩ := open_scr hrd
        exact closed_law a c els W h))
end Go.Proofs.YtfcofkdpbmjefaaGreat
