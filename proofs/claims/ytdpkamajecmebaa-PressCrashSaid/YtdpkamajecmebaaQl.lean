/- PressBack is true: for every list of texts, from every world that may be reached. -/
import Derived.Test.YtdpkamajecmebaaArg
import Derived.Test.YtdpkamajecmebaaQk
set_option linter.unusedVariables false
set_option linter.unusedSimpArgs false
set_option maxRecDepth 100000
namespace Go.Proofs.Ytdpkamajecmebaa
open Go Go.Vc Go.Vault Go.Press Go.ChangeAt

theorem rd_text (W : World) (K : List Value → Prop) : RdK Go.Proofs.Try.prog W 3 28 K = (∃ s : ByteArray, s.size ≤ reachBytes ∧ ∃ s2 : ByteArray, s2.size ≤ reachBytes ∧ K [.string s, .string s2]) := by kernel_rfl
theorem flat_txs : ∀ l : List Tx, (l.map txC).flatten = txCs l
  | [] => rfl
  | x :: r => by rw [List.map_cons, List.flatten_cons, flat_txs r]; rfl
theorem argG_texts {W : World} {K : List Value → Prop} (h : ArgG W 3 28 K) : ∃ (a : Option Addr) (c : Nat) (l : List Tx), Cells W a (txCs l) ∧ l.length ≤ maxLen ∧ (∀ t ∈ l, t.1.size ≤ reachBytes ∧ t.2.size ≤ reachBytes) ∧ K [.slice a l.length c] := by
  obtain ⟨a, cap, els, h1, h0, _, h2, hels, hc, he⟩ := h
  obtain ⟨l, rfl, hl⟩ := els_map (f := txC) (Q := fun t => t.1.size ≤ reachBytes ∧ t.2.size ≤ reachBytes) els fun x hx => by
    have := hels x hx
    rw [rd_text] at this
    obtain ⟨s, hs, s2, hs2, rfl⟩ := this
    exact ⟨(s, s2), ⟨hs, hs2⟩, rfl⟩
  rw [List.length_map] at he h1
  rw [flat_txs] at hc
  exact ⟨a, cap, l, hc, by omega, hl, he⟩
theorem rd_back (W : World) (K : List Value → Prop) : RdA Go.Proofs.Try.prog W 4 [22] K = ArgG W 3 28 (fun cs => K (ofC (some false) cs :: [])) := by kernel_rfl
theorem open_back {W : World} {args : Array Value} (h : RdA Go.Proofs.Try.prog W 4 [22] (fun l => args.toList = l)) : ∃ (a : Option Addr) (c : Nat) (l : List Tx), args = #[.slice a l.length c] ∧ Cells W a (txCs l) ∧ l.length ≤ maxLen ∧ ∀ t ∈ l, t.2.size ≤ reachBytes := by
  rw [rd_back] at h
  obtain ⟨a, c, l, h1, h2, h3, h⟩ := argG_texts h
  exact ⟨a, c, l, by cases args; simp_all [ofC], h1, h2, fun t ht => (h3 t ht).2⟩
theorem pressBack_holds : Rows.PressBackSaid :=
  OpenClaim.holds_of_wide 3 Try.f3 rfl rfl rfl rfl rfl rfl rfl ⟨rfl, rfl, rfl, rfl, rfl⟩ rfl rfl rfl rfl rfl (by kernel_rfl) Try.func3 (by kernel_rfl)
    (of_decide_eq_true (by kernel_rfl)) (by unfold Func.isWrapper; first | (rw [if_pos (by decide +kernel)]; kernel_rfl) | (rw [if_neg (by decide +kernel)]; exact ⟨rfl, rfl⟩))
    (fun os started H enc _ => law_lift (C := Try.checked) (s := Rows.pressBackSpec) 3 Try.f3 4 own_ started (by kernel_rfl) Try.func3 laid_ (by kernel_rfl) rfl (by kernel_rfl) und4
      (fun ds h => by
        match ds, h with
        | [d0], _ => rfl)
      (ChangeSpec.witness6 (enc := enc) (C := Try.checked) false ⟨#[], #[.slice none 0 0], []⟩ 8 (by kernel_rfl) (by kernel_rfl) (by kernel_rfl) (by kernel_rfl))
      (fun W args hrd => by
        obtain ⟨a, c, l, rfl, h1, h2, h3⟩ := open_back hrd
        exact (pressBack_law a c l h2 h3 W h1).mono fun e W' ⟨he, hh⟩ => ⟨he, hh.chg⟩))
end Go.Proofs.Ytdpkamajecmebaa
