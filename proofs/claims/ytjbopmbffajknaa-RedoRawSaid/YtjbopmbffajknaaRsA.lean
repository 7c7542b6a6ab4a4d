/- RedoRaw is true: for every script and name, from every world that may be reached. -/
import Derived.Test.YtjbopmbffajknaaArg
import Derived.Test.YtjbopmbffajknaaRr
set_option linter.unusedVariables false
set_option linter.unusedSimpArgs false
set_option maxRecDepth 100000
namespace Go.Proofs.Ytjbopmbffajknaa
open Go Go.Vc Go.Vault Go.ChangeAt

theorem rd_names (W : World) (K : List Value → Prop) : RdA Go.Proofs.Try.prog W 4 [22, 9] K = ArgG W 3 31 (fun cs => ∃ s : ByteArray, s.size ≤ reachBytes ∧ K (ofC (some false) cs :: .string s :: [])) := by kernel_rfl
theorem open_names {W : World} {args : Array Value} (h : RdA Go.Proofs.Try.prog W 4 [22, 9] (fun l => args.toList = l)) : ∃ (a : Option Addr) (c : Nat) (os : List (OW × Op)) (s : ByteArray), args = #[.slice a os.length c, .string s] ∧ Scr W a os := by
  rw [rd_names] at h
  obtain ⟨a, c, os, h1, s, _, h⟩ := argG_script h
  exact ⟨a, c, os, s, by cases args; simp_all [ofC], h1⟩
theorem redoRaw_holds : Rows.RedoRawSaid :=
  OpenClaim.holds_of_wide 3 Try.f3 rfl rfl rfl rfl rfl rfl rfl ⟨rfl, rfl, rfl, rfl, rfl⟩ rfl rfl rfl rfl rfl (by kernel_rfl) Try.func3 (by kernel_rfl)
    (of_decide_eq_true (by kernel_rfl)) (by unfold Func.isWrapper; first | (rw [if_pos (by decide +kernel)]; kernel_rfl) | (rw [if_neg (by decide +kernel)]; exact ⟨rfl, rfl⟩))
    (fun os started H enc _ => law_lift (C := Try.checked) (s := Rows.redoRawSpec) 3 Try.f3 4 own_ started (by kernel_rfl) Try.func3 laid_ (by kernel_rfl) rfl (by kernel_rfl) und4
      (fun ds h => by
        match ds, h with
        | [d0, d1], _ => rfl)
      (ChangeSpec.witness6 (enc := enc) (C := Try.checked) false ⟨#[], #[.slice none 0 0, .string ⟨#[]⟩], []⟩ 8 (by kernel_rfl) (by kernel_rfl) (by kernel_rfl) (by kernel_rfl))
      (fun W args hrd => by
        obtain ⟨sa, sc, so, s, rfl, sh⟩ := open_names hrd
        exact (redoRaw_law sa sc so s W sh).mono fun e W' ⟨he, hh⟩ => ⟨he, hh.chg⟩))
end Go.Proofs.Ytjbopmbffajknaa
