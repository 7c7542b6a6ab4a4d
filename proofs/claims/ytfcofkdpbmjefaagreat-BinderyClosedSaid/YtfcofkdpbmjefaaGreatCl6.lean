/- Part 6: What the evaluator comes to at alive(), reckoned by the kernel: true; so every run of it. -/
import Derived.Test.YtfcofkdpbmjefaaGreatCl5
set_option linter.unusedVariables false
set_option maxRecDepth 100000
namespace Go.Ev
open Go Go.Vc
theorem alive_okA : okA (callE 100000 B0 (.fn 7 .nl .nl) .nl (fun v _ _ => isT v) .e 0) = true := by kernel_rfl
end Go.Ev
namespace Go.Proofs.YtfcofkdpbmjefaaGreat
open Go Go.Vc Go.Ev
theorem hasB7 : (Go.Ev.PP.funcs[7]?).map (fun f => f.body.isSome) = some true := by rw [PP_eq]; kernel_rfl
theorem alive_spec (w : World) : Calls Go.Proofs.Tryz.prog 7 #[] w fun e w' => e = .returned (.bool true) ∧ Chg [] w w' := by
  have h := run_ok (by rw [PP_eq]; exact noNum) alive_okA w
  rw [CallX] at h
  have hb := hasB7
  cases hf : Go.Ev.PP.funcs[7]? with
  | none => rw [hf] at hb; cases hb
  | some fn =>
    rw [hf] at hb
    cases hc : fn.body with
    | none => simp [hc] at hb
    | some c =>
      simp only [hf, hc] at h
      have h := h.run
      rw [PP_eq] at h
      exact h
end Go.Proofs.YtfcofkdpbmjefaaGreat
