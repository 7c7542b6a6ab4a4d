/- Frames: FramesFlush is true: for every script, every number of frames, every crash. -/
import Derived.Test.YtiagjabdfppgkaaGreatGw
import Derived.Test.YtiagjabdfppgkaaGreatJoin
import Derived.Test.YtiagjabdfppgkaaGreatRows
set_option linter.unusedVariables false
set_option linter.unusedSimpArgs false
set_option maxRecDepth 100000
namespace Go.Proofs.YtiagjabdfppgkaaGreat
open Go Go.Vc Go.Vault Go.ChangeAt

theorem own_ : ownKnob Tryz.prog.godebug = none := by kernel_rfl
theorem laid_ : laidOutB Tryz.prog = true := by kernel_rfl
theorem und4 : Tryz.prog.underlying 4 = some .bool := by kernel_rfl
/-- an argument that is a slice -/
def ArgG (W : World) (n : Nat) (e : TypeId) (K : List Value → Prop) : Prop := ∃ (a : Option Addr) (cap : Nat) (els : List (List Value)), els.length ≤ cap ∧ cap ≤ maxLen ∧ els.length * Tryz.prog.bytesOf e ≤ reachBytes ∧ (a = none → els = []) ∧ (∀ x ∈ els, RdK Tryz.prog W n e (fun cs => x = cs)) ∧ Cells W a els.flatten ∧ K [.slice a els.length cap]
theorem rd_o12 (W : World) (K : List Value → Prop) : RdK Tryz.prog W 3 49 K = (∃ kd, inR .i64 kd ∧ ∃ n, inR .i64 n ∧ ∃ ch, ∃ k2, inR .i64 k2 ∧ ∃ sl, inR .i64 sl ∧ ∃ n2, inR .i64 n2 ∧ ∃ s2 : ByteArray, s2.size ≤ reachBytes ∧ ∃ s : ByteArray, s.size ≤ reachBytes ∧ ∃ st, inR .i64 st ∧ K [.int .i64 kd, .int .i64 n, .bool ch, .int .i64 k2, .int .i64 sl, .int .i64 n2, .string s2, .string s, .int .i64 st]) := by kernel_rfl
theorem rd_int (W : World) (n : Nat) (K : List Value → Prop) : RdK Tryz.prog W (n + 1) 3 K = ∃ i, inR .i64 i ∧ K [.int .i64 i] := by kernel_rfl
theorem els_map {α : Type} {f : α → List Value} {Q : α → Prop} : ∀ (els : List (List Value)), (∀ x ∈ els, ∃ p, Q p ∧ x = f p) → ∃ l : List α, els = l.map f ∧ ∀ p ∈ l, Q p
  | [], _ => ⟨[], rfl, by simp⟩
  | x :: r, h => by
    obtain ⟨p, hq, rfl⟩ := h x (.head _)
    obtain ⟨l, rfl, hl⟩ := els_map r fun y hy => h y (.tail _ hy)
    exact ⟨p :: l, rfl, by simpa using ⟨hq, hl⟩⟩
theorem flat_ints : ∀ l : List Int, (l.map fun i : Int => [Value.int .i64 i]).flatten = ints l
  | [] => rfl
  | x :: r => by rw [List.map_cons, List.flatten_cons, flat_ints r]; rfl
theorem argG_ints {W : World} {n : Nat} {K : List Value → Prop} (h : ArgG W (n + 1) 3 K) : ∃ (a : Option Addr) (c : Nat) (l : List Int), Cells W a (ints l) ∧ l.length ≤ c ∧ (∀ v ∈ l, v ≤ 9223372036854775807) ∧ K [.slice a l.length c] := by
  obtain ⟨a, cap, els, h1, _, _, h2, hels, hc, he⟩ := h
  obtain ⟨l, rfl, hl⟩ := els_map (f := fun i : Int => [Value.int .i64 i]) (Q := fun i => i ≤ 9223372036854775807) els fun x hx => by
    have := hels x hx
    rw [rd_int] at this
    obtain ⟨i, hi, rfl⟩ := this
    exact ⟨i, (inR64.1 hi).2, rfl⟩
  rw [List.length_map] at he h1
  rw [flat_ints] at hc
  exact ⟨a, cap, l, hc, h1, hl, he⟩
theorem argG_ops {W : World} {K : List Value → Prop} (h : ArgG W 3 49 K) : ∃ (a : Option Addr) (c : Nat) (l : List Op12), Cells W a (scrC l) ∧ l.length ≤ 9223372036854775807 ∧ K [.slice a l.length c] := by
  obtain ⟨a, cap, els, h1, h0, _, h2, hels, hc, he⟩ := h
  obtain ⟨l, rfl, _⟩ := els_map (f := op12C) (Q := fun _ => True) els fun x hx => by
    have := hels x hx
    rw [rd_o12] at this
    obtain ⟨kd, _, n, _, ch, k2, _, sl, _, n2, _, s2, _, s, _, st, _, rfl⟩ := this
    exact ⟨⟨kd, n, ch, ⟨k2, sl, n2, s2.data.toList⟩, s.data.toList, st⟩, trivial, by simp [op12C, sv]⟩
  rw [List.length_map] at he h1
  rw [← List.flatMap_def] at hc
  simp only [maxLen] at h0
  exact ⟨a, cap, l, hc, by omega, he⟩
theorem rd_is (W : World) (K : List Value → Prop) : RdA Tryz.prog W 4 [3, 22] K = ∃ i, inR .i64 i ∧ ArgG W 3 49 (fun cs => K (.int .i64 i :: ofC (some false) cs :: [])) := by kernel_rfl
theorem rd_si (W : World) (K : List Value → Prop) : RdA Tryz.prog W 4 [22, 3] K = ArgG W 3 49 (fun cs => ∃ i, inR .i64 i ∧ K (ofC (some false) cs :: [.int .i64 i])) := by kernel_rfl
theorem rd_isi (W : World) (K : List Value → Prop) : RdA Tryz.prog W 4 [3, 22, 23] K = ∃ i, inR .i64 i ∧ ArgG W 3 49 (fun cs => ArgG W 3 3 (fun ds => K (.int .i64 i :: ofC (some false) cs :: ofC (some false) ds :: []))) := by kernel_rfl
theorem open_is {W : World} {args : Array Value} (h : RdA Tryz.prog W 4 [3, 22] (fun l => args.toList = l)) : ∃ (i : Int) (a : Option Addr) (c : Nat) (l : List Op12), args = #[.int .i64 i, .slice a l.length c] ∧ l.length ≤ 9223372036854775807 ∧ Cells W a (scrC l) := by
  rw [rd_is] at h
  obtain ⟨i, _, h⟩ := h
  obtain ⟨a, c, l, h1, h2, h⟩ := argG_ops h
  exact ⟨i, a, c, l, by cases args; simp_all [ofC], h2, h1⟩
theorem open_si {W : World} {args : Array Value} (h : RdA Tryz.prog W 4 [22, 3] (fun l => args.toList = l)) : ∃ (i : Int) (a : Option Addr) (c : Nat) (l : List Op12), args = #[.slice a l.length c, .int .i64 i] ∧ l.length ≤ 9223372036854775807 ∧ Cells W a (scrC l) := by
  rw [rd_si] at h
  obtain ⟨a, c, l, h1, h2, i, _, h⟩ := argG_ops h
  exact ⟨i, a, c, l, by cases args; simp_all [ofC], h2, h1⟩
theorem open_isi {W : World} {args : Array Value} (h : RdA Tryz.prog W 4 [3, 22, 23] (fun l => args.toList = l)) : ∃ (i : Int) (a : Option Addr) (c : Nat) (l : List Op12) (da : Option Addr) (dc : Nat) (ds : List Int), args = #[.int .i64 i, .slice a l.length c, .slice da ds.length dc] ∧ l.length ≤ 9223372036854775807 ∧ Cells W a (scrC l) ∧ Cells W da (ints ds) ∧ ds.length ≤ dc ∧ ∀ v ∈ ds, v ≤ 9223372036854775807 := by
  rw [rd_isi] at h
  obtain ⟨i, _, h⟩ := h
  obtain ⟨a, c, l, h1, h2, h⟩ := argG_ops h
  obtain ⟨da, dc, ds, h3, h5, h4, h⟩ := argG_ints h
  exact ⟨i, a, c, l, da, dc, ds, by cases args; simp_all [ofC], h2, h1, h3, h5, h4⟩
theorem framesFlush_holds : Rows.FramesFlushSaid :=
  OpenClaim.holds_of_wide 3 Tryz.f3 rfl rfl rfl rfl rfl rfl rfl ⟨rfl, rfl, rfl, rfl, rfl⟩ rfl rfl rfl rfl rfl (by kernel_rfl) Tryz.func3 (by kernel_rfl)
    (of_decide_eq_true (by kernel_rfl)) (by unfold Func.isWrapper; first | (rw [if_pos (by decide +kernel)]; kernel_rfl) | (rw [if_neg (by decide +kernel)]; exact ⟨rfl, rfl⟩))
    (fun os started H enc _ => law_lift (C := Tryz.checked) (s := Rows.framesFlushSpec) 3 Tryz.f3 4 own_ started (by kernel_rfl) Tryz.func3 laid_ (by kernel_rfl) rfl (by kernel_rfl) und4
      (fun ds h => by
        match ds, h with
        | [d0, d1, d2], _ => rfl)
      (ChangeSpec.witness6 (enc := enc) (C := Tryz.checked) false ⟨#[], #[.int .i64 0, .slice none 0 0, .slice none 0 0], []⟩ 8 (by kernel_rfl) (by kernel_rfl) (by kernel_rfl) (by kernel_rfl))
      (fun W args hrd => by
        obtain ⟨i, sa, sc, l, da, dc, ds, rfl, h1, h2, h3, h5, h4⟩ := open_isi hrd
        exact (framesFlush_law i sa sc l h1 da dc ds h5 W h2 h3).mono fun e W' ⟨he, hh⟩ => ⟨he, hh.chg⟩))
end Go.Proofs.YtiagjabdfppgkaaGreat
