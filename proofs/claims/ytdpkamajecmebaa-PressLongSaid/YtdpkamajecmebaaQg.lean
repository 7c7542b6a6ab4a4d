/- PressLong is true: for every name and number, from every world that may be reached. -/
import Derived.Test.YtdpkamajecmebaaArg
import Derived.Test.YtdpkamajecmebaaQf
set_option linter.unusedVariables false
set_option linter.unusedSimpArgs false
set_option maxRecDepth 100000
namespace Go.Proofs.Ytdpkamajecmebaa
open Go Go.Vc Go.Vault Go.ChangeAt

theorem rd_long (W : World) (K : List Value → Prop) : RdA Go.Proofs.Try.prog W 4 [9, 3] K = (∃ s : ByteArray, s.size ≤ reachBytes ∧ ∃ i, inR .i64 i ∧ K (.string s :: .int .i64 i :: [])) := by kernel_rfl
theorem open_long {W : World} {args : Array Value} (h : RdA Go.Proofs.Try.prog W 4 [9, 3] (fun l => args.toList = l)) : ∃ (s : ByteArray) (i : Int), args = #[.string s, .int .i64 i] := by
  rw [rd_long] at h
  obtain ⟨s, _, i, _, h⟩ := h
  exact ⟨s, i, by cases args; simp_all⟩
theorem pressLong_holds : Rows.PressLongSaid :=
  OpenClaim.holds_of_wide 5 Try.f5 rfl rfl rfl rfl rfl rfl rfl ⟨rfl, rfl, rfl, rfl, rfl⟩ rfl rfl rfl rfl rfl (by kernel_rfl) Try.func5 (by kernel_rfl)
    (of_decide_eq_true (by kernel_rfl)) (by unfold Func.isWrapper; first | (rw [if_pos (by decide +kernel)]; kernel_rfl) | (rw [if_neg (by decide +kernel)]; exact ⟨rfl, rfl⟩))
    (fun os started H enc _ => law_lift (C := Try.checked) (s := Rows.pressLongSpec) 5 Try.f5 4 own_ started (by kernel_rfl) Try.func5 laid_ (by kernel_rfl) rfl (by kernel_rfl) und4
      (fun ds h => by
        match ds, h with
        | [d0, d1], _ => rfl)
      (ChangeSpec.witness6 (enc := enc) (C := Try.checked) false ⟨#[], #[.string ⟨#[]⟩, .int .i64 0], []⟩ 8 (by kernel_rfl) (by kernel_rfl) (by kernel_rfl) (by kernel_rfl))
      (fun W args hrd => by
        obtain ⟨s, i, rfl⟩ := open_long hrd
        exact (pressLong_law s i W).mono fun e W' ⟨he, hh⟩ => ⟨he, hh.chg⟩))
end Go.Proofs.Ytdpkamajecmebaa
