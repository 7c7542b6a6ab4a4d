/- RedoBegins is true: for every two faults, from every world that may be reached. -/
import Derived.Test.YtjbopmbffajknaaArg
import Derived.Test.YtjbopmbffajknaaRv
set_option linter.unusedVariables false
set_option linter.unusedSimpArgs false
set_option maxRecDepth 100000
namespace Go.Proofs.Ytjbopmbffajknaa
open Go Go.Vc Go.Vault Go.ChangeAt

theorem rd_begins (W : World) (K : List Value → Prop) : RdA Go.Proofs.Try.prog W 4 [40, 40] K = (∃ i, inR .i64 i ∧ ∃ j, inR .i64 j ∧ ∃ k, inR .i64 k ∧ ArgG W 2 3 fun x => ∃ i2, inR .i64 i2 ∧ ∃ j2, inR .i64 j2 ∧ ∃ k2, inR .i64 k2 ∧ ArgG W 2 3 fun y =>
    K (ofC (some true) (.int .i64 i :: .int .i64 j :: .int .i64 k :: (x ++ [])) :: ofC (some true) (.int .i64 i2 :: .int .i64 j2 :: .int .i64 k2 :: (y ++ [])) :: [])) := by kernel_rfl
theorem open_begins {W : World} {args : Array Value} (h : RdA Go.Proofs.Try.prog W 4 [40, 40] (fun l => args.toList = l)) : ∃ f g : FV, args = #[.agg (fC f).toArray, .agg (fC g).toArray] ∧ FOk W f ∧ FOk W g := by
  rw [rd_begins] at h
  obtain ⟨i, hi, j, hj, k, _, h⟩ := h
  obtain ⟨a, c, l, hs, i2, hi2, j2, hj2, k2, _, h⟩ := argG_ints h
  obtain ⟨a2, c2, l2, hs2, h⟩ := argG_ints h
  exact ⟨⟨i, j, k, a, c, l⟩, ⟨i2, j2, k2, a2, c2, l2⟩, by cases args; simp_all [ofC, fC], ⟨(inR64.1 hi).2, (inR64.1 hj).2, hs.cells, hs.le⟩, ⟨(inR64.1 hi2).2, (inR64.1 hj2).2, hs2.cells, hs2.le⟩⟩
theorem redoBegins_holds : Rows.RedoBeginsSaid :=
  OpenClaim.holds_of_wide 4 Try.f4 rfl rfl rfl rfl rfl rfl rfl ⟨rfl, rfl, rfl, rfl, rfl⟩ rfl rfl rfl rfl rfl (by kernel_rfl) Try.func4 (by kernel_rfl)
    (of_decide_eq_true (by kernel_rfl)) (by unfold Func.isWrapper; first | (rw [if_pos (by decide +kernel)]; kernel_rfl) | (rw [if_neg (by decide +kernel)]; exact ⟨rfl, rfl⟩))
    (fun os started H enc _ => law_lift (C := Try.checked) (s := Rows.redoBeginsSpec) 4 Try.f4 4 own_ started (by kernel_rfl) Try.func4 laid_ (by kernel_rfl) rfl (by kernel_rfl) und4
      (fun ds h => by
        match ds, h with
        | [d0, d1], _ => rfl)
      (ChangeSpec.witness6 (enc := enc) (C := Try.checked) false ⟨#[], #[.agg #[.int .i64 0, .int .i64 0, .int .i64 0, .slice none 0 0], .agg #[.int .i64 0, .int .i64 0, .int .i64 0, .slice none 0 0]], []⟩ 8 (by kernel_rfl) (by kernel_rfl) (by kernel_rfl) (by kernel_rfl))
      (fun W args hrd => by
        obtain ⟨f, g, rfl, h1, h2⟩ := open_begins hrd
        exact (redoBegins_law f g W h1 h2).mono fun e W' ⟨he, hh⟩ => ⟨he, hh.chg⟩))
end Go.Proofs.Ytjbopmbffajknaa
