/- RedoPrefix and RedoAll are true, where what their arguments hold is of bulk at most 1048576: for every script, from every world that may be reached. -/
import Derived.Test.YtjbopmbffajknaaTa
import Derived.Test.YtjbopmbffajknaaUpt
import Derived.Test.YtjbopmbffajknaaRows
set_option linter.unusedVariables false
set_option linter.unusedSimpArgs false
set_option maxRecDepth 100000
namespace Go.Proofs.Ytjbopmbffajknaa
open Go Go.Vc Go.Vault Go.Redo Go.ChangeAt

theorem own_ : ownKnob Go.Proofs.Try.prog.godebug = none := by kernel_rfl
theorem laid_ : laidOutB Go.Proofs.Try.prog = true := by kernel_rfl
theorem und4 : Go.Proofs.Try.prog.underlying 4 = some .bool := by kernel_rfl
/-- the bulk is a measure -/
theorem bulk_all {H : Type} : ∀ l : List (DataW H), Rows.uptoBulkAll l = (l.map Rows.uptoBulk).sum
  | [] => rfl
  | d :: r => by rw [Rows.uptoBulkAll, bulk_all r]; rfl
theorem bulk_ok {H : Type} : Bulk (H := H) Rows.uptoBulk := by
  refine ⟨fun d => ?_, fun b => ?_, fun l s => ?_, fun l => ?_⟩
  · cases d with
    | lit l => cases l <;> simp [Rows.uptoBulk]
    | nil => simp [Rows.uptoBulk]
    | ptr d => simp [Rows.uptoBulk]
    | slice a b => simp [Rows.uptoBulk]
    | agg l => simp [Rows.uptoBulk]
    | iface t d => simp [Rows.uptoBulk]
    | map l => simp [Rows.uptoBulk]
    | held h => simp [Rows.uptoBulk]
  · simp [Rows.uptoBulk]
  · rw [Rows.uptoBulk, bulk_all]; omega
  · rw [Rows.uptoBulk, bulk_all]; omega
theorem bulk_small {H : Type} (ds : List (DataW H)) (h : Rows.uptoSmall H ds = true) : (ds.map Rows.uptoBulk).sum ≤ 1048576 := by
  rw [← bulk_all]
  exact of_decide_eq_true h

/-- an argument that is a slice, and how great it is -/
def ArgU (W : World) (n : Nat) (e : TypeId) (K : List Value → Nat → Prop) : Prop := ∃ (a : Option Addr) (cap : Nat) (els : List (List Value × Nat)), els.length ≤ cap ∧ cap ≤ maxLen ∧ (a = none → els = []) ∧ (∀ x ∈ els, RdW Go.Proofs.Try.prog W n e (fun cs m => x.1 = cs ∧ m ≤ x.2)) ∧ Cells W a (els.map (·.1)).flatten ∧ K [.slice a els.length cap] ((els.map fun x => x.2 + 1).sum)
theorem rdu_op (W : World) (K : List Value → Nat → Prop) : RdW Go.Proofs.Try.prog W 3 51 K = (∃ i, inR .i64 i ∧ ∃ s : ByteArray, ArgU W 1 9 fun x m => K (.int .i64 i :: .string s :: (x ++ [])) (0 + (s.size + (m + 0)))) := by kernel_rfl
theorem rdu_str (W : World) (K : List Value → Nat → Prop) : RdW Go.Proofs.Try.prog W 1 9 K = ∃ s : ByteArray, K [.string s] s.size := by kernel_rfl
theorem rdu_script (W : World) (K : List Value → Nat → Prop) : RdAW Go.Proofs.Try.prog W 4 [45] K = ArgU W 3 51 fun cs m => K (ofC (some false) cs :: []) (m + 0) := by kernel_rfl
/-- readings of which each is of a form -/
theorem elsU {α : Type} {f : α → List Value} {g : α → Nat} {Q : α → Prop} : ∀ (els : List (List Value × Nat)), (∀ x ∈ els, ∃ p, Q p ∧ x.1 = f p ∧ g p ≤ x.2) → ∃ l : List α, els.map (·.1) = l.map f ∧ l.length = els.length ∧ (∀ p ∈ l, Q p) ∧ (l.map fun p => g p + 1).sum ≤ (els.map fun x => x.2 + 1).sum
  | [], _ => ⟨[], rfl, rfl, by simp, by simp⟩
  | x :: r, h => by
    obtain ⟨p, hq, e, hg⟩ := h x (.head _)
    obtain ⟨l, h1, h2, h3, h4⟩ := elsU r fun y hy => h y (.tail _ hy)
    refine ⟨p :: l, by simp [h1, e], by simp [h2], by simpa using ⟨hq, h3⟩, ?_⟩
    simp only [List.map_cons, List.sum_cons]; omega
theorem flat_strs : ∀ l : List ByteArray, (l.map fun s : ByteArray => [Value.string s]).flatten = l.map .string
  | [] => rfl
  | x :: r => by rw [List.map_cons, List.flatten_cons, flat_strs r]; rfl
theorem argU_strs {W : World} {K : List Value → Nat → Prop} (h : ArgU W 1 9 K) : ∃ (a : Option Addr) (c : Nat) (l : List ByteArray) (m : Nat), Cells W a (l.map .string) ∧ (a = none → l.length = 0) ∧ (l.map fun s => s.size + 1).sum ≤ m ∧ K [.slice a l.length c] m := by
  obtain ⟨a, cap, els, h1, _, h2, hels, hc, he⟩ := h
  obtain ⟨l, e1, e2, _, e4⟩ := elsU (f := fun s : ByteArray => [Value.string s]) (g := fun s => s.size) (Q := fun _ => True) els fun x hx => by
    have := hels x hx
    rw [rdu_str] at this
    obtain ⟨s, hs, hm⟩ := this
    exact ⟨s, trivial, hs, hm⟩
  rw [e1, flat_strs] at hc
  exact ⟨a, cap, l, _, hc, fun ha => by have := h2 ha; subst this; simpa using e2, e4, by rw [e2]; exact he⟩
theorem sum17 (l : List ByteArray) : (l.map fun s => s.size + 17).sum ≤ 17 * (l.map fun s => s.size + 1).sum := by
  induction l with
  | nil => exact Nat.le_refl _
  | cons s r ih => simp only [List.map_cons, List.sum_cons]; omega
theorem sum17o (os : List (RW × ROp)) : fewN (ops os) ≤ 17 * (os.map fun p => (p.2.s.size + (p.2.all.map fun s => s.size + 1).sum) + 1).sum ∧ os.length ≤ (os.map fun p => (p.2.s.size + (p.2.all.map fun s => s.size + 1).sum) + 1).sum := by
  induction os with
  | nil => exact ⟨Nat.le_refl _, Nat.le_refl _⟩
  | cons p r ih =>
    have h1 := sum17 p.2.all
    have h2 : fewN (ops (p :: r)) = opN p.2 + fewN (ops r) := by simp [fewN, ops]
    have h3 : opN p.2 = p.2.s.size + (p.2.all.map fun s => s.size + 17).sum := rfl
    rw [h2, h3, List.map_cons, List.sum_cons, List.length_cons]
    omega
theorem open_script {W : World} {args : Array Value} (h : RdAW Go.Proofs.Try.prog W 4 [45] (fun l m => args.toList = l ∧ m ≤ 1048576)) : ∃ (a : Option Addr) (c : Nat) (os : List (RW × ROp)), args = #[.slice a os.length c] ∧ RScr W a os ∧ os.length ≤ 1000000000 ∧ fewN (ops os) ≤ 1000000000 := by
  rw [rdu_script] at h
  obtain ⟨a, cap, els, h1, _, h2, hels, hc, he, hm⟩ := h
  obtain ⟨l, e1, e2, e3, e4⟩ := elsU (f := ropC) (g := fun p => p.2.s.size + (p.2.all.map fun s => s.size + 1).sum) (Q := fun p => Cells W p.1.a (p.2.all.map .string) ∧ (p.1.a = none → p.2.all.length = 0)) els fun x hx => by
    have := hels x hx
    rw [rdu_op] at this
    obtain ⟨i, _, s, h⟩ := this
    obtain ⟨ba, bc, b, m, hb, hn, hs, hx1, hm⟩ := argU_strs h
    exact ⟨(⟨ba, bc⟩, ⟨i, s, b⟩), ⟨hb, hn⟩, hx1, by dsimp only; omega⟩
  obtain ⟨s1, s2⟩ := sum17o l
  refine ⟨a, cap, l, ?_, ⟨?_, fun p hp => (e3 p hp).1, fun p hp => (e3 p hp).2⟩, by omega, by omega⟩
  · rw [e2]; cases args; simp_all [ofC]
  · rw [e1] at hc
    rw [ropCs, List.flatMap_def]; exact hc
theorem redoPrefix_holds : Rows.RedoPrefixUptoSaid :=
  OpenClaim.holds_of_cond 5 Try.f5 rfl rfl rfl rfl rfl rfl rfl ⟨rfl, rfl, rfl, rfl, rfl⟩ rfl rfl rfl rfl rfl (by kernel_rfl) Try.func5 (by kernel_rfl)
    (of_decide_eq_true (by kernel_rfl)) (by unfold Func.isWrapper; first | (rw [if_pos (by decide +kernel)]; kernel_rfl) | (rw [if_neg (by decide +kernel)]; exact ⟨rfl, rfl⟩))
    (fun os started H enc _ F => law_liftU (C := Try.checked) (s := Rows.redoPrefixSpec) (kk := Rows.uptoSmall) 5 Try.f5 4 own_ started (by kernel_rfl) Try.func5 laid_ (by kernel_rfl) rfl (by kernel_rfl) und4
      (fun ds h => by
        match ds, h with
        | [d0], _ => rfl)
      Rows.uptoBulk bulk_ok 1048576 bulk_small
      (OpenSpec.witness (enc := enc) (C := Try.checked) (s := Rows.OpenSpec.upto Rows.redoPrefixSpec) (k := Rows.uptoSmall) rfl false ⟨#[], #[.slice none 0 0], []⟩ 8 (by kernel_rfl) (by kernel_rfl) (by kernel_rfl) (x := ([.nil], [], [])) (by kernel_rfl) rfl (by kernel_rfl))
      (fun W args hrd => by
        obtain ⟨sa, sc, so, rfl, sh, hl, hb⟩ := open_script hrd
        exact (redoPrefix_law sa sc so W sh hl hb).mono fun e W' ⟨he, hh⟩ => ⟨he, hh.chg⟩))
theorem redoAll_holds : Rows.RedoAllUptoSaid :=
  OpenClaim.holds_of_cond 6 Try.f6 rfl rfl rfl rfl rfl rfl rfl ⟨rfl, rfl, rfl, rfl, rfl⟩ rfl rfl rfl rfl rfl (by kernel_rfl) Try.func6 (by kernel_rfl)
    (of_decide_eq_true (by kernel_rfl)) (by unfold Func.isWrapper; first | (rw [if_pos (by decide +kernel)]; kernel_rfl) | (rw [if_neg (by decide +kernel)]; exact ⟨rfl, rfl⟩))
    (fun os started H enc _ F => law_liftU (C := Try.checked) (s := Rows.redoAllSpec) (kk := Rows.uptoSmall) 6 Try.f6 4 own_ started (by kernel_rfl) Try.func6 laid_ (by kernel_rfl) rfl (by kernel_rfl) und4
      (fun ds h => by
        match ds, h with
        | [d0], _ => rfl)
      Rows.uptoBulk bulk_ok 1048576 bulk_small
      (OpenSpec.witness (enc := enc) (C := Try.checked) (s := Rows.OpenSpec.upto Rows.redoAllSpec) (k := Rows.uptoSmall) rfl false ⟨#[], #[.slice none 0 0], []⟩ 8 (by kernel_rfl) (by kernel_rfl) (by kernel_rfl) (x := ([.nil], [], [])) (by kernel_rfl) rfl (by kernel_rfl))
      (fun W args hrd => by
        obtain ⟨sa, sc, so, rfl, sh, hl, hb⟩ := open_script hrd
        exact (redoAll_law sa sc so W sh hl hb).mono fun e W' ⟨he, hh⟩ => ⟨he, hh.chg⟩))
#print axioms redoPrefix_holds
#print axioms redoAll_holds
end Go.Proofs.Ytjbopmbffajknaa
