/- Folio: the statements. -/
import Derived.Test.YtcgaobfbgfefhaaFr
import Derived.Test.YtcgaobfbgfefhaaJoin
set_option linter.unusedVariables false
set_option linter.unusedSimpArgs false
set_option maxRecDepth 100000
namespace Go.Proofs.Ytcgaobfbgfefhaa
open Go Go.Vc Go.ChangeAt

theorem own_ : ownKnob Go.Proofs.Try.prog.godebug = none := by kernel_rfl
theorem laid_ : laidOutB Go.Proofs.Try.prog = true := by kernel_rfl
theorem und4 : Go.Proofs.Try.prog.underlying 4 = some .bool := by kernel_rfl
theorem bytes52 : Go.Proofs.Try.prog.bytesOf 52 = 24 := by kernel_rfl
theorem bytes9 : Go.Proofs.Try.prog.bytesOf 9 = 16 := by kernel_rfl
theorem rd_rec (W : World) (K : List Value → Prop) : RdA Go.Proofs.Try.prog W 4 [24] K = (∃ id, inR .i64 id ∧ ∃ parent, inR .i64 parent ∧ ∃ kind, inR .i64 kind ∧ ∃ name, inR .i64 name ∧ ∃ frm, inR .i64 frm ∧ ∃ to, inR .i64 to ∧ ∃ s : ByteArray, s.size ≤ reachBytes ∧
    ∃ (a : Option Addr) (cap : Nat) (els : List (List Value)), els.length ≤ cap ∧ cap ≤ maxLen ∧ els.length * Go.Proofs.Try.prog.bytesOf 52 ≤ reachBytes ∧ (a = none → els = []) ∧ (∀ x ∈ els, RdK Go.Proofs.Try.prog W 2 52 (fun cs => x = cs)) ∧ Cells W a els.flatten ∧
    K [.agg #[.int .i64 id, .int .i64 parent, .int .i64 kind, .int .i64 name, .int .i64 frm, .int .i64 to, .string s, .slice a els.length cap]]) := by kernel_rfl
theorem rd_pair (W : World) (K : List Value → Prop) : RdK Go.Proofs.Try.prog W 2 52 K = (∃ i, inR .i64 i ∧ ∃ s : ByteArray, s.size ≤ reachBytes ∧ K [.int .i64 i, .string s]) := by kernel_rfl
theorem rd_strs (W : World) (K : List Value → Prop) : RdA Go.Proofs.Try.prog W 4 [26] K = (∃ (a : Option Addr) (cap : Nat) (els : List (List Value)), els.length ≤ cap ∧ cap ≤ maxLen ∧ els.length * Go.Proofs.Try.prog.bytesOf 9 ≤ reachBytes ∧ (a = none → els = []) ∧ (∀ x ∈ els, RdK Go.Proofs.Try.prog W 3 9 (fun cs => x = cs)) ∧ Cells W a els.flatten ∧ K [.slice a els.length cap]) := by kernel_rfl
theorem rd_str (W : World) (K : List Value → Prop) : RdK Go.Proofs.Try.prog W 3 9 K = (∃ s : ByteArray, s.size ≤ reachBytes ∧ K [.string s]) := by kernel_rfl
theorem rd_str1 (W : World) (K : List Value → Prop) : RdA Go.Proofs.Try.prog W 4 [9] K = (∃ s : ByteArray, s.size ≤ reachBytes ∧ K [.string s]) := by kernel_rfl
theorem rd_rec2 (W : World) (K : List Value → Prop) : RdA Go.Proofs.Try.prog W 4 [24, 3, 3] K = (∃ id, inR .i64 id ∧ ∃ parent, inR .i64 parent ∧ ∃ kind, inR .i64 kind ∧ ∃ name, inR .i64 name ∧ ∃ frm, inR .i64 frm ∧ ∃ to, inR .i64 to ∧ ∃ s : ByteArray, s.size ≤ reachBytes ∧
    ∃ (a : Option Addr) (cap : Nat) (els : List (List Value)), els.length ≤ cap ∧ cap ≤ maxLen ∧ els.length * Go.Proofs.Try.prog.bytesOf 52 ≤ reachBytes ∧ (a = none → els = []) ∧ (∀ x ∈ els, RdK Go.Proofs.Try.prog W 2 52 (fun cs => x = cs)) ∧ Cells W a els.flatten ∧
    ∃ i, inR .i64 i ∧ ∃ k, inR .i64 k ∧ K [.agg #[.int .i64 id, .int .i64 parent, .int .i64 kind, .int .i64 name, .int .i64 frm, .int .i64 to, .string s, .slice a els.length cap], .int .i64 i, .int .i64 k]) := by kernel_rfl

theorem els_map {α : Type} {f : α → List Value} {Q : α → Prop} : ∀ (els : List (List Value)), (∀ x ∈ els, ∃ p, Q p ∧ x = f p) → ∃ l : List α, els = l.map f ∧ ∀ p ∈ l, Q p
  | [], _ => ⟨[], rfl, by simp⟩
  | x :: r, h => by
    obtain ⟨p, hq, rfl⟩ := h x (.head _)
    obtain ⟨l, rfl, hl⟩ := els_map r fun y hy => h y (.tail _ hy)
    exact ⟨p :: l, rfl, by simpa using ⟨hq, hl⟩⟩
theorem reach_le : reachBytes ≤ 140737488355328 := by decide
theorem rec_open {W : World} {args : Array Value} (h : RdA Go.Proofs.Try.prog W 4 [24] (fun l => args.toList = l)) : ∃ (r : Rec) (a : Option Addr) (n c : Nat), args = #[r.val a n c] ∧ AtS W a n r.attrs ∧ n * 24 ≤ 140737488355328 := by
  rw [rd_rec] at h
  obtain ⟨id, _, parent, _, kind, _, name, _, frm, _, to, _, s, _, a, cap, els, _, _, hb, _, hels, hc, he⟩ := h
  obtain ⟨l, rfl, _⟩ := els_map (f := attrCell) (Q := fun _ => True) els fun x hx => by
    have := hels x hx
    rw [rd_pair] at this
    obtain ⟨i, _, s, _, rfl⟩ := this
    exact ⟨(i, s), trivial, rfl⟩
  rw [bytes52] at hb
  refine ⟨⟨id, parent, kind, name, frm, to, s, l⟩, a, _, cap, ?_, ⟨List.length_map .., ?_⟩, Nat.le_trans hb reach_le⟩
  · cases args; simp_all [Rec.val]
  · simpa [attrCells, List.flatMap] using hc
theorem flat_one (l : List (List UInt8)) : (l.map fun s => [sv s]).flatten = l.map sv := by
  induction l with
  | nil => rfl
  | cons x r ih => simp only [List.map_cons, List.flatten_cons, ih]; rfl
theorem strs_open {W : World} {args : Array Value} (h : RdA Go.Proofs.Try.prog W 4 [26] (fun l => args.toList = l)) : ∃ (l : List (List UInt8)) (a : Option Addr) (n c : Nat), args = #[.slice a n c] ∧ StrS W a n l ∧ n ≤ maxLen ∧ ∀ s ∈ l, s.length ≤ 140737488355328 := by
  rw [rd_strs] at h
  obtain ⟨a, cap, els, h1, h2, hb, _, hels, hc, he⟩ := h
  obtain ⟨l, rfl, hl⟩ := els_map (f := fun s : List UInt8 => [sv s]) (Q := fun s => s.length ≤ 140737488355328) els fun x hx => by
    have := hels x hx
    rw [rd_str] at this
    obtain ⟨s, hs, rfl⟩ := this
    exact ⟨s.data.toList, by rw [Array.length_toList]; exact Nat.le_trans hs reach_le, by simp [sv]⟩
  refine ⟨l, a, _, cap, ?_, ⟨List.length_map .., ?_⟩, Nat.le_trans h1 h2, hl⟩
  · cases args; simp_all
  · rw [flat_one] at hc; exact hc


theorem str_open {W : World} {args : Array Value} (h : RdA Go.Proofs.Try.prog W 4 [9] (fun l => args.toList = l)) : ∃ s, args = #[.string s] := by
  rw [rd_str1] at h
  obtain ⟨s, _, he⟩ := h
  exact ⟨s, by cases args; simp_all⟩
theorem rec2_open {W : World} {args : Array Value} (h : RdA Go.Proofs.Try.prog W 4 [24, 3, 3] (fun l => args.toList = l)) : ∃ (r : Rec) (a : Option Addr) (n c : Nat) (i k : Int), args = #[r.val a n c, .int .i64 i, .int .i64 k] ∧ AtS W a n r.attrs ∧ n * 24 ≤ 140737488355328 := by
  rw [rd_rec2] at h
  obtain ⟨id, _, parent, _, kind, _, name, _, frm, _, to, _, s, _, a, cap, els, _, _, hb, _, hels, hc, i, _, k, _, he⟩ := h
  obtain ⟨l, rfl, _⟩ := els_map (f := attrCell) (Q := fun _ => True) els fun x hx => by
    have := hels x hx
    rw [rd_pair] at this
    obtain ⟨i, _, s, _, rfl⟩ := this
    exact ⟨(i, s), trivial, rfl⟩
  rw [bytes52] at hb
  refine ⟨⟨id, parent, kind, name, frm, to, s, l⟩, a, _, cap, i, k, ?_, ⟨List.length_map .., ?_⟩, Nat.le_trans hb reach_le⟩
  · cases args; simp_all [Rec.val]
  · simpa [attrCells, List.flatMap] using hc
theorem folioWrites_holds : Rows.FolioWritesSaid :=
  OpenClaim.holds_of_wide 3 Try.f3 rfl rfl rfl rfl rfl rfl rfl ⟨rfl, rfl, rfl, rfl, rfl⟩ rfl rfl rfl rfl rfl (by kernel_rfl) Try.func3 (by kernel_rfl)
    (of_decide_eq_true (by kernel_rfl)) (by unfold Func.isWrapper; first | (rw [if_pos (by decide +kernel)]; kernel_rfl) | (rw [if_neg (by decide +kernel)]; exact ⟨rfl, rfl⟩))
    (fun os started H enc _ => law_lift (C := Try.checked) (s := Rows.folioWritesSpec) 3 Try.f3 4 own_ started (by kernel_rfl) Try.func3 laid_ (by kernel_rfl) rfl (by kernel_rfl) und4
      (fun ds h => by
        match ds, h with
        | [d0], _ => rfl)
      (ChangeSpec.witness6 (enc := enc) (C := Try.checked) false ⟨#[], #[.agg #[.int .i64 0, .int .i64 0, .int .i64 0, .int .i64 0, .int .i64 0, .int .i64 0, .string ⟨#[]⟩, .slice none 0 0]], []⟩ 8 (by kernel_rfl) (by kernel_rfl) (by kernel_rfl) (by kernel_rfl))
      (fun W args hrd => by
        obtain ⟨r, a, n, c, rfl, hA, hn⟩ := rec_open hrd
        exact (folioWrites_law r a n c W hA hn).mono fun e W' ⟨he, hh⟩ => ⟨he, hh.chg⟩))
theorem folioReads_holds : Rows.FolioReadsSaid :=
  OpenClaim.holds_of_wide 4 Try.f4 rfl rfl rfl rfl rfl rfl rfl ⟨rfl, rfl, rfl, rfl, rfl⟩ rfl rfl rfl rfl rfl (by kernel_rfl) Try.func4 (by kernel_rfl)
    (of_decide_eq_true (by kernel_rfl)) (by unfold Func.isWrapper; first | (rw [if_pos (by decide +kernel)]; kernel_rfl) | (rw [if_neg (by decide +kernel)]; exact ⟨rfl, rfl⟩))
    (fun os started H enc _ => law_lift (C := Try.checked) (s := Rows.folioReadsSpec) 4 Try.f4 4 own_ started (by kernel_rfl) Try.func4 laid_ (by kernel_rfl) rfl (by kernel_rfl) und4
      (fun ds h => by
        match ds, h with
        | [d0], _ => rfl)
      (ChangeSpec.witness6 (enc := enc) (C := Try.checked) false ⟨#[], #[.slice none 0 0], []⟩ 8 (by kernel_rfl) (by kernel_rfl) (by kernel_rfl) (by kernel_rfl))
      (fun W args hrd => by
        obtain ⟨l, a, n, c, rfl, hS, hn, hb⟩ := strs_open hrd
        exact (folioReads_law l a n c W hS hn hb).mono fun e W' ⟨he, hh⟩ => ⟨he, hh.chg⟩))
theorem folioHeads_holds : Rows.FolioHeadsSaid :=
  OpenClaim.holds_of_wide 5 Try.f5 rfl rfl rfl rfl rfl rfl rfl ⟨rfl, rfl, rfl, rfl, rfl⟩ rfl rfl rfl rfl rfl (by kernel_rfl) Try.func5 (by kernel_rfl)
    (of_decide_eq_true (by kernel_rfl)) (by unfold Func.isWrapper; first | (rw [if_pos (by decide +kernel)]; kernel_rfl) | (rw [if_neg (by decide +kernel)]; exact ⟨rfl, rfl⟩))
    (fun os started H enc _ => law_lift (C := Try.checked) (s := Rows.folioHeadsSpec) 5 Try.f5 4 own_ started (by kernel_rfl) Try.func5 laid_ (by kernel_rfl) rfl (by kernel_rfl) und4
      (fun ds h => by
        match ds, h with
        | [d0], _ => rfl)
      (ChangeSpec.witness6 (enc := enc) (C := Try.checked) false ⟨#[], #[.string ⟨#[]⟩], []⟩ 8 (by kernel_rfl) (by kernel_rfl) (by kernel_rfl) (by kernel_rfl))
      (fun W args hrd => by
        obtain ⟨s, rfl⟩ := str_open hrd
        exact (folioHeads_law s W).mono fun e W' ⟨he, hh⟩ => ⟨he, hh.chg⟩))
theorem folioBack_holds : Rows.FolioBackSaid :=
  OpenClaim.holds_of_wide 6 Try.f6 rfl rfl rfl rfl rfl rfl rfl ⟨rfl, rfl, rfl, rfl, rfl⟩ rfl rfl rfl rfl rfl (by kernel_rfl) Try.func6 (by kernel_rfl)
    (of_decide_eq_true (by kernel_rfl)) (by unfold Func.isWrapper; first | (rw [if_pos (by decide +kernel)]; kernel_rfl) | (rw [if_neg (by decide +kernel)]; exact ⟨rfl, rfl⟩))
    (fun os started H enc _ => law_lift (C := Try.checked) (s := Rows.folioBackSpec) 6 Try.f6 4 own_ started (by kernel_rfl) Try.func6 laid_ (by kernel_rfl) rfl (by kernel_rfl) und4
      (fun ds h => by
        match ds, h with
        | [d0], _ => rfl)
      (ChangeSpec.witness6 (enc := enc) (C := Try.checked) false ⟨#[], #[.agg #[.int .i64 0, .int .i64 0, .int .i64 0, .int .i64 0, .int .i64 0, .int .i64 0, .string ⟨#[]⟩, .slice none 0 0]], []⟩ 8 (by kernel_rfl) (by kernel_rfl) (by kernel_rfl) (by kernel_rfl))
      (fun W args hrd => by
        obtain ⟨r, a, n, c, rfl, hA, hn⟩ := rec_open hrd
        exact (folioBack_law r a n c W hA hn).mono fun e W' ⟨he, hh⟩ => ⟨he, hh.chg⟩))
theorem folioAgain_holds : Rows.FolioAgainSaid :=
  OpenClaim.holds_of_wide 7 Try.f7 rfl rfl rfl rfl rfl rfl rfl ⟨rfl, rfl, rfl, rfl, rfl⟩ rfl rfl rfl rfl rfl (by kernel_rfl) Try.func7 (by kernel_rfl)
    (of_decide_eq_true (by kernel_rfl)) (by unfold Func.isWrapper; first | (rw [if_pos (by decide +kernel)]; kernel_rfl) | (rw [if_neg (by decide +kernel)]; exact ⟨rfl, rfl⟩))
    (fun os started H enc _ => law_lift (C := Try.checked) (s := Rows.folioAgainSpec) 7 Try.f7 4 own_ started (by kernel_rfl) Try.func7 laid_ (by kernel_rfl) rfl (by kernel_rfl) und4
      (fun ds h => by
        match ds, h with
        | [d0], _ => rfl)
      (ChangeSpec.witness6 (enc := enc) (C := Try.checked) false ⟨#[], #[.slice none 0 0], []⟩ 8 (by kernel_rfl) (by kernel_rfl) (by kernel_rfl) (by kernel_rfl))
      (fun W args hrd => by
        obtain ⟨l, a, n, c, rfl, hS, hn, hb⟩ := strs_open hrd
        exact (folioAgain_law l a n c W hS hn).mono fun e W' ⟨he, hh⟩ => ⟨he, hh.chg⟩))
theorem folioSizes_holds : Rows.FolioSizesSaid :=
  OpenClaim.holds_of_wide 9 Try.f9 rfl rfl rfl rfl rfl rfl rfl ⟨rfl, rfl, rfl, rfl, rfl⟩ rfl rfl rfl rfl rfl (by kernel_rfl) Try.func9 (by kernel_rfl)
    (of_decide_eq_true (by kernel_rfl)) (by unfold Func.isWrapper; first | (rw [if_pos (by decide +kernel)]; kernel_rfl) | (rw [if_neg (by decide +kernel)]; exact ⟨rfl, rfl⟩))
    (fun os started H enc _ => law_lift (C := Try.checked) (s := Rows.folioSizesSpec) 9 Try.f9 4 own_ started (by kernel_rfl) Try.func9 laid_ (by kernel_rfl) rfl (by kernel_rfl) und4
      (fun ds h => by
        match ds, h with
        | [d0], _ => rfl)
      (ChangeSpec.witness6 (enc := enc) (C := Try.checked) false ⟨#[], #[.agg #[.int .i64 0, .int .i64 0, .int .i64 0, .int .i64 0, .int .i64 0, .int .i64 0, .string ⟨#[]⟩, .slice none 0 0]], []⟩ 8 (by kernel_rfl) (by kernel_rfl) (by kernel_rfl) (by kernel_rfl))
      (fun W args hrd => by
        obtain ⟨r, a, n, c, rfl, hA, hn⟩ := rec_open hrd
        exact (folioSizes_law r a n c W hA hn).mono fun e W' ⟨he, hh⟩ => ⟨he, hh.chg⟩))
theorem folioTurned_holds : Rows.FolioTurnedSaid :=
  OpenClaim.holds_of_wide 8 Try.f8 rfl rfl rfl rfl rfl rfl rfl ⟨rfl, rfl, rfl, rfl, rfl⟩ rfl rfl rfl rfl rfl (by kernel_rfl) Try.func8 (by kernel_rfl)
    (of_decide_eq_true (by kernel_rfl)) (by unfold Func.isWrapper; first | (rw [if_pos (by decide +kernel)]; kernel_rfl) | (rw [if_neg (by decide +kernel)]; exact ⟨rfl, rfl⟩))
    (fun os started H enc _ => law_lift (C := Try.checked) (s := Rows.folioTurnedSpec) 8 Try.f8 4 own_ started (by kernel_rfl) Try.func8 laid_ (by kernel_rfl) rfl (by kernel_rfl) und4
      (fun ds h => by
        match ds, h with
        | [d0, d1, d2], _ => rfl)
      (ChangeSpec.witness6 (enc := enc) (C := Try.checked) false ⟨#[], #[.agg #[.int .i64 0, .int .i64 0, .int .i64 0, .int .i64 0, .int .i64 0, .int .i64 0, .string ⟨#[]⟩, .slice none 0 0], .int .i64 0, .int .i64 0], []⟩ 8 (by kernel_rfl) (by kernel_rfl) (by kernel_rfl) (by kernel_rfl))
      (fun W args hrd => by
        obtain ⟨r, a, n, c, i, k, rfl, hA, hn⟩ := rec2_open hrd
        exact (folioTurned_law r a n c i k W hA hn).mono fun e W' ⟨he, hh⟩ => ⟨he, hh.chg⟩))
end Go.Proofs.Ytcgaobfbgfefhaa
