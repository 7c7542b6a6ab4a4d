/- Slate: the statements. -/
import Derived.Test.YtmaocnnhfmledaaSo
import Derived.Test.YtmaocnnhfmledaaJoin
set_option linter.unusedVariables false
set_option linter.unusedSimpArgs false
set_option maxRecDepth 100000
namespace Go.Proofs.Ytmaocnnhfmledaa
open Go Go.Vc Go.ChangeAt

theorem own_ : ownKnob Go.Proofs.Try.prog.godebug = none := by kernel_rfl
theorem laid_ : laidOutB Go.Proofs.Try.prog = true := by kernel_rfl
theorem und4 : Go.Proofs.Try.prog.underlying 4 = some .bool := by kernel_rfl
/-- an argument that is a script -/
def ArgS (W : World) (K : List Value → Prop) : Prop := ∃ (a : Option Addr) (cap : Nat) (els : List (List Value)), els.length ≤ cap ∧ cap ≤ maxLen ∧ els.length * Go.Proofs.Try.prog.bytesOf 43 ≤ reachBytes ∧ (a = none → els = []) ∧ (∀ x ∈ els, RdK Go.Proofs.Try.prog W 3 43 (fun cs => x = cs)) ∧ Cells W a els.flatten ∧ K [.slice a els.length cap]
theorem rd_op (W : World) (K : List Value → Prop) : RdK Go.Proofs.Try.prog W 3 43 K = (∃ i, inR .i64 i ∧ ∃ j, inR .i64 j ∧ ∃ k, inR .i64 k ∧ ∃ s : ByteArray, s.size ≤ reachBytes ∧ K [.int .i64 i, .int .i64 j, .int .i64 k, .string s]) := by kernel_rfl
theorem rd_1 (W : World) (K : List Value → Prop) : RdA Go.Proofs.Try.prog W 4 [22] K = ArgS W (fun cs => K (ofC (some false) cs :: [])) := by kernel_rfl
theorem rd_2 (W : World) (K : List Value → Prop) : RdA Go.Proofs.Try.prog W 4 [22, 3] K = ArgS W (fun cs => ∃ i, inR .i64 i ∧ K (ofC (some false) cs :: [.int .i64 i])) := by kernel_rfl
theorem rd_3 (W : World) (K : List Value → Prop) : RdA Go.Proofs.Try.prog W 4 [22, 22] K = ArgS W (fun cs => ArgS W fun ds => K (ofC (some false) cs :: ofC (some false) ds :: [])) := by kernel_rfl
theorem rd_4 (W : World) (K : List Value → Prop) : RdA Go.Proofs.Try.prog W 4 [22, 22, 3] K = ArgS W (fun cs => ArgS W fun ds => ∃ i, inR .i64 i ∧ K (ofC (some false) cs :: ofC (some false) ds :: [.int .i64 i])) := by kernel_rfl
theorem els_map {α : Type} {f : α → List Value} {Q : α → Prop} : ∀ (els : List (List Value)), (∀ x ∈ els, ∃ p, Q p ∧ x = f p) → ∃ l : List α, els = l.map f ∧ ∀ p ∈ l, Q p
  | [], _ => ⟨[], rfl, by simp⟩
  | x :: r, h => by
    obtain ⟨p, hq, rfl⟩ := h x (.head _)
    obtain ⟨l, rfl, hl⟩ := els_map r fun y hy => h y (.tail _ hy)
    exact ⟨p :: l, rfl, by simpa using ⟨hq, hl⟩⟩
def opF (o : Op') : List Value := [.int .i64 o.kind, .int .i64 o.slot, .int .i64 o.n, sv o.s]
theorem argS_open {W : World} {K : List Value → Prop} (h : ArgS W K) : ∃ (a : Option Addr) (c : Nat) (ops : List Op'), Cells W a (opC ops) ∧ K [.slice a ops.length c] := by
  obtain ⟨a, cap, els, _, _, _, _, hels, hc, he⟩ := h
  obtain ⟨l, rfl, _⟩ := els_map (f := opF) (Q := fun _ => True) els fun x hx => by
    have := hels x hx
    rw [rd_op] at this
    obtain ⟨i, _, j, _, k, _, s, _, rfl⟩ := this
    exact ⟨⟨i, j, k, s.data.toList⟩, trivial, by simp [opF, sv]⟩
  rw [List.length_map] at he
  exact ⟨a, cap, l, hc, he⟩
theorem open_1 {W : World} {args : Array Value} (h : RdA Go.Proofs.Try.prog W 4 [22] (fun l => args.toList = l)) : ∃ (a : Option Addr) (c : Nat) (ops : List Op'), args = #[.slice a ops.length c] ∧ Cells W a (opC ops) := by
  rw [rd_1] at h
  obtain ⟨a, c, ops, h1, h⟩ := argS_open h
  exact ⟨a, c, ops, by cases args; simp_all [ofC], h1⟩
theorem open_2 {W : World} {args : Array Value} (h : RdA Go.Proofs.Try.prog W 4 [22, 3] (fun l => args.toList = l)) : ∃ (a : Option Addr) (c : Nat) (ops : List Op') (i : Int), args = #[.slice a ops.length c, .int .i64 i] ∧ Cells W a (opC ops) := by
  rw [rd_2] at h
  obtain ⟨a, c, ops, h1, i, _, h⟩ := argS_open h
  exact ⟨a, c, ops, i, by cases args; simp_all [ofC], h1⟩
theorem open_3 {W : World} {args : Array Value} (h : RdA Go.Proofs.Try.prog W 4 [22, 22] (fun l => args.toList = l)) : ∃ (a : Option Addr) (c : Nat) (ops : List Op') (a2 : Option Addr) (c2 : Nat) (ops2 : List Op'), args = #[.slice a ops.length c, .slice a2 ops2.length c2] ∧ Cells W a (opC ops) ∧ Cells W a2 (opC ops2) := by
  rw [rd_3] at h
  obtain ⟨a, c, ops, h1, h⟩ := argS_open h
  obtain ⟨a2, c2, ops2, h2, h⟩ := argS_open h
  exact ⟨a, c, ops, a2, c2, ops2, by cases args; simp_all [ofC], h1, h2⟩
theorem open_4 {W : World} {args : Array Value} (h : RdA Go.Proofs.Try.prog W 4 [22, 22, 3] (fun l => args.toList = l)) : ∃ (a : Option Addr) (c : Nat) (ops : List Op') (a2 : Option Addr) (c2 : Nat) (ops2 : List Op') (i : Int), args = #[.slice a ops.length c, .slice a2 ops2.length c2, .int .i64 i] ∧ Cells W a (opC ops) ∧ Cells W a2 (opC ops2) := by
  rw [rd_4] at h
  obtain ⟨a, c, ops, h1, h⟩ := argS_open h
  obtain ⟨a2, c2, ops2, h2, i, _, h⟩ := argS_open h
  exact ⟨a, c, ops, a2, c2, ops2, i, by cases args; simp_all [ofC], h1, h2⟩
theorem slateFills_holds : Rows.SlateFillsSaid :=
  OpenClaim.holds_of_wide 3 Try.f3 rfl rfl rfl rfl rfl rfl rfl ⟨rfl, rfl, rfl, rfl, rfl⟩ rfl rfl rfl rfl rfl (by kernel_rfl) Try.func3 (by kernel_rfl)
    (of_decide_eq_true (by kernel_rfl)) (by unfold Func.isWrapper; first | (rw [if_pos (by decide +kernel)]; kernel_rfl) | (rw [if_neg (by decide +kernel)]; exact ⟨rfl, rfl⟩))
    (fun os started H enc _ => law_lift (C := Try.checked) (s := Rows.slateFillsSpec) 3 Try.f3 4 own_ started (by kernel_rfl) Try.func3 laid_ (by kernel_rfl) rfl (by kernel_rfl) und4
      (fun ds h => by
        match ds, h with
        | [d0, d1], _ => rfl)
      (ChangeSpec.witness6 (enc := enc) (C := Try.checked) false ⟨#[], #[.slice none 0 0, .int .i64 0], []⟩ 8 (by kernel_rfl) (by kernel_rfl) (by kernel_rfl) (by kernel_rfl))
      (fun W args hrd => by
        obtain ⟨sa, sc, so, i, rfl, sh⟩ := open_2 hrd
        exact (slateFills_law sa sc so i W sh).mono fun e W' ⟨he, hh⟩ => ⟨he, hh.chg⟩))
theorem slateAll_holds : Rows.SlateAllSaid :=
  OpenClaim.holds_of_wide 4 Try.f4 rfl rfl rfl rfl rfl rfl rfl ⟨rfl, rfl, rfl, rfl, rfl⟩ rfl rfl rfl rfl rfl (by kernel_rfl) Try.func4 (by kernel_rfl)
    (of_decide_eq_true (by kernel_rfl)) (by unfold Func.isWrapper; first | (rw [if_pos (by decide +kernel)]; kernel_rfl) | (rw [if_neg (by decide +kernel)]; exact ⟨rfl, rfl⟩))
    (fun os started H enc _ => law_lift (C := Try.checked) (s := Rows.slateAllSpec) 4 Try.f4 4 own_ started (by kernel_rfl) Try.func4 laid_ (by kernel_rfl) rfl (by kernel_rfl) und4
      (fun ds h => by
        match ds, h with
        | [d0], _ => rfl)
      (ChangeSpec.witness6 (enc := enc) (C := Try.checked) false ⟨#[], #[.slice none 0 0], []⟩ 8 (by kernel_rfl) (by kernel_rfl) (by kernel_rfl) (by kernel_rfl))
      (fun W args hrd => by
        obtain ⟨sa, sc, so, rfl, sh⟩ := open_1 hrd
        exact (slateAll_law sa sc so W sh).mono fun e W' ⟨he, hh⟩ => ⟨he, hh.chg⟩))
theorem slateStamps_holds : Rows.SlateStampsSaid :=
  OpenClaim.holds_of_wide 5 Try.f5 rfl rfl rfl rfl rfl rfl rfl ⟨rfl, rfl, rfl, rfl, rfl⟩ rfl rfl rfl rfl rfl (by kernel_rfl) Try.func5 (by kernel_rfl)
    (of_decide_eq_true (by kernel_rfl)) (by unfold Func.isWrapper; first | (rw [if_pos (by decide +kernel)]; kernel_rfl) | (rw [if_neg (by decide +kernel)]; exact ⟨rfl, rfl⟩))
    (fun os started H enc _ => law_lift (C := Try.checked) (s := Rows.slateStampsSpec) 5 Try.f5 4 own_ started (by kernel_rfl) Try.func5 laid_ (by kernel_rfl) rfl (by kernel_rfl) und4
      (fun ds h => by
        match ds, h with
        | [d0, d1], _ => rfl)
      (ChangeSpec.witness6 (enc := enc) (C := Try.checked) false ⟨#[], #[.slice none 0 0, .int .i64 0], []⟩ 8 (by kernel_rfl) (by kernel_rfl) (by kernel_rfl) (by kernel_rfl))
      (fun W args hrd => by
        obtain ⟨sa, sc, so, i, rfl, sh⟩ := open_2 hrd
        exact (slateStamps_law sa sc so i W sh).mono fun e W' ⟨he, hh⟩ => ⟨he, hh.chg⟩))
theorem slateApart_holds : Rows.SlateApartSaid :=
  OpenClaim.holds_of_wide 6 Try.f6 rfl rfl rfl rfl rfl rfl rfl ⟨rfl, rfl, rfl, rfl, rfl⟩ rfl rfl rfl rfl rfl (by kernel_rfl) Try.func6 (by kernel_rfl)
    (of_decide_eq_true (by kernel_rfl)) (by unfold Func.isWrapper; first | (rw [if_pos (by decide +kernel)]; kernel_rfl) | (rw [if_neg (by decide +kernel)]; exact ⟨rfl, rfl⟩))
    (fun os started H enc _ => law_lift (C := Try.checked) (s := Rows.slateApartSpec) 6 Try.f6 4 own_ started (by kernel_rfl) Try.func6 laid_ (by kernel_rfl) rfl (by kernel_rfl) und4
      (fun ds h => by
        match ds, h with
        | [d0, d1, d2], _ => rfl)
      (ChangeSpec.witness6 (enc := enc) (C := Try.checked) false ⟨#[], #[.slice none 0 0, .slice none 0 0, .int .i64 0], []⟩ 8 (by kernel_rfl) (by kernel_rfl) (by kernel_rfl) (by kernel_rfl))
      (fun W args hrd => by
        obtain ⟨sa, sc, so, s2a, s2c, s2o, i, rfl, sh, s2h⟩ := open_4 hrd
        exact (slateApart_law sa sc so s2a s2c s2o i W sh s2h).mono fun e W' ⟨he, hh⟩ => ⟨he, hh.chg⟩))
theorem slateBack_holds : Rows.SlateBackSaid :=
  OpenClaim.holds_of_wide 7 Try.f7 rfl rfl rfl rfl rfl rfl rfl ⟨rfl, rfl, rfl, rfl, rfl⟩ rfl rfl rfl rfl rfl (by kernel_rfl) Try.func7 (by kernel_rfl)
    (of_decide_eq_true (by kernel_rfl)) (by unfold Func.isWrapper; first | (rw [if_pos (by decide +kernel)]; kernel_rfl) | (rw [if_neg (by decide +kernel)]; exact ⟨rfl, rfl⟩))
    (fun os started H enc _ => law_lift (C := Try.checked) (s := Rows.slateBackSpec) 7 Try.f7 4 own_ started (by kernel_rfl) Try.func7 laid_ (by kernel_rfl) rfl (by kernel_rfl) und4
      (fun ds h => by
        match ds, h with
        | [d0, d1], _ => rfl)
      (ChangeSpec.witness6 (enc := enc) (C := Try.checked) false ⟨#[], #[.slice none 0 0, .slice none 0 0], []⟩ 8 (by kernel_rfl) (by kernel_rfl) (by kernel_rfl) (by kernel_rfl))
      (fun W args hrd => by
        obtain ⟨sa, sc, so, s2a, s2c, s2o, rfl, sh, s2h⟩ := open_3 hrd
        exact (slateBack_law sa sc so s2a s2c s2o W sh s2h).mono fun e W' ⟨he, hh⟩ => ⟨he, hh.chg⟩))
end Go.Proofs.Ytmaocnnhfmledaa
