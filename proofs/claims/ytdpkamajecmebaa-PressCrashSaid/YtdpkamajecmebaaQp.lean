/- PressCrash is true: for every list of texts and of troubles, from every world that may be reached. -/
import Derived.Test.YtdpkamajecmebaaQl
import Derived.Test.YtdpkamajecmebaaQo
set_option linter.unusedVariables false
set_option linter.unusedSimpArgs false
set_option maxRecDepth 100000
namespace Go.Proofs.Ytdpkamajecmebaa
open Go Go.Vc Go.Vault Go.Press Go.ChangeAt

theorem rd_tr (W : World) (K : List Value → Prop) : RdK Go.Proofs.Try.prog W 3 66 K = (∃ i, inR .i64 i ∧ ∃ j, inR .i64 j ∧ ∃ n, inR .i64 n ∧ ArgG W 1 3 fun x => K (.int .i64 i :: .int .i64 j :: .int .i64 n :: (x ++ []))) := by kernel_rfl
theorem flat_trs : ∀ l : List ((Option Addr × Nat) × Tr), (l.map trC).flatten = trCs l
  | [] => rfl
  | x :: r => by rw [List.map_cons, List.flatten_cons, flat_trs r]; rfl
theorem argG_trs {W : World} {K : List Value → Prop} (h : ArgG W 3 66 K) : ∃ (a : Option Addr) (c : Nat) (l : List ((Option Addr × Nat) × Tr)), Trs W a l ∧ K [.slice a l.length c] := by
  obtain ⟨a, cap, els, h1, h0, _, h2, hels, hc, he⟩ := h
  obtain ⟨l, rfl, hl⟩ := els_map (f := trC) (Q := fun p => (Cells W p.1.1 (ints p.2.picks) ∧ p.2.picks.length ≤ p.1.2) ∧ p.2.dies ≤ 9223372036854775807 ∧ p.2.denies ≤ 9223372036854775807) els fun x hx => by
    have := hels x hx
    rw [rd_tr] at this
    obtain ⟨i, hi, j, hj, n, _, h⟩ := this
    obtain ⟨pa, pc, ps, hp, rfl⟩ := argG_ints h
    exact ⟨((pa, pc), ⟨i, j, n, ps⟩), ⟨⟨hp.cells, hp.le⟩, (inR64.1 hi).2, (inR64.1 hj).2⟩, rfl⟩
  rw [List.length_map] at he
  rw [flat_trs] at hc
  exact ⟨a, cap, l, ⟨hc, fun p hp => (hl p hp).1, fun p hp => (hl p hp).2⟩, he⟩
theorem rd_crash (W : World) (K : List Value → Prop) : RdA Go.Proofs.Try.prog W 4 [22, 64] K = ArgG W 3 28 (fun cs => ArgG W 3 66 (fun cs2 => K (ofC (some false) cs :: ofC (some false) cs2 :: []))) := by kernel_rfl
theorem open_crash {W : World} {args : Array Value} (h : RdA Go.Proofs.Try.prog W 4 [22, 64] (fun l => args.toList = l)) : ∃ (a : Option Addr) (c : Nat) (l : List Tx) (ta : Option Addr) (tc : Nat) (ts : List ((Option Addr × Nat) × Tr)), args = #[.slice a l.length c, .slice ta ts.length tc] ∧ Cells W a (txCs l) ∧ l.length ≤ maxLen ∧ (∀ t ∈ l, t.2.size ≤ reachBytes) ∧ Trs W ta ts := by
  rw [rd_crash] at h
  obtain ⟨a, c, l, h1, h2, h3, h⟩ := argG_texts h
  obtain ⟨ta, tc, ts, h4, h⟩ := argG_trs h
  exact ⟨a, c, l, ta, tc, ts, by cases args; simp_all [ofC], h1, h2, fun t ht => (h3 t ht).2, h4⟩
theorem pressCrash_holds : Rows.PressCrashSaid :=
  OpenClaim.holds_of_wide 7 Try.f7 rfl rfl rfl rfl rfl rfl rfl ⟨rfl, rfl, rfl, rfl, rfl⟩ rfl rfl rfl rfl rfl (by kernel_rfl) Try.func7 (by kernel_rfl)
    (of_decide_eq_true (by kernel_rfl)) (by unfold Func.isWrapper; first | (rw [if_pos (by decide +kernel)]; kernel_rfl) | (rw [if_neg (by decide +kernel)]; exact ⟨rfl, rfl⟩))
    (fun os started H enc _ => law_lift (C := Try.checked) (s := Rows.pressCrashSpec) 7 Try.f7 4 own_ started (by kernel_rfl) Try.func7 laid_ (by kernel_rfl) rfl (by kernel_rfl) und4
      (fun ds h => by
        match ds, h with
        | [d0, d1], _ => rfl)
      (ChangeSpec.witness6 (enc := enc) (C := Try.checked) false ⟨#[], #[.slice none 0 0, .slice none 0 0], []⟩ 8 (by kernel_rfl) (by kernel_rfl) (by kernel_rfl) (by kernel_rfl))
      (fun W args hrd => by
        obtain ⟨a, c, l, ta, tc, ts, rfl, h1, h2, h3, h4⟩ := open_crash hrd
        exact (pressCrash_law a c l h2 h3 ta tc ts W h1 h4).mono fun e W' ⟨he, hh⟩ => ⟨he, hh.chg⟩))
end Go.Proofs.Ytdpkamajecmebaa
