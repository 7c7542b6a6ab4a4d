/- Redo: what opening a log may answer. -/
import Derived.Test.YtjbopmbffajknaaRp
import Derived.Test.YtjbopmbffajknaaRo
set_option linter.unusedVariables false
set_option linter.unusedSimpArgs false
set_option maxRecDepth 100000
namespace Go.Proofs.Ytjbopmbffajknaa
open Go Go.Vc Go.Vault Go.Redo

theorem read_ok {d : Dk} (hd : d.dead = false) {n : ByteArray} {k : Nat} (hk : d.find n = some k) {i : Nat} (hi : i < d.len k) : d.read n (i : Int) = ((d.file k).now.getD i [], 0) := by
  have h : ¬((i : Int) < 0 ∨ (d.len k : Int) ≤ (i : Int)) := by omega
  simp only [Dk.read, hd, hk, Bool.false_eq_true, if_false, if_neg h, Int.toNat_natCast]
theorem gath_ok {d : Dk} (hd : d.dead = false) (hok : d.Ok) {n : ByteArray} {k : Nat} (hk : d.find n = some k) {F : Nat} (hF : F ≤ (d.len k - 2) * 512) : ∀ (m i : Nat) (b : List UInt8), 2 ≤ i → b.length = (i - 2) * 512 → (gath d n F m i b).2 = 0
  | 0, i, b, _, _ => rfl
  | m + 1, i, b, hi, hb => by
    rw [gath]
    split
    · rfl
    · have hlt : i < d.len k := by
        by_cases h : i < d.len k
        · exact h
        · have : (d.len k - 2) * 512 ≤ (i - 2) * 512 := Nat.mul_le_mul_right _ (by omega)
          omega
      have hr := read_ok hd hk hlt
      have h0 : (d.read n (i : Int)).2 = 0 := by rw [hr]
      have hl := read512 hok h0
      rw [if_pos h0]
      exact gath_ok hd hok hk hF m (i + 1) _ (by omega) (by rw [List.length_append, hl, hb]; omega)
/-- a log that is found is as good as new -/
def Good (l : Lg) : Prop := l.many = l.all.length ∧ l.code = 0
theorem findP_codes {d : Dk} (h : Calm d) (hok : d.Ok) {n : ByteArray} (h2 : 2 ≤ d.size n) : ((findP d n).1 = 0 ∧ Good (findP d n).2) ∨ (findP d n).1 = 100 := by
  cases hk : d.find n with
  | none => simp [Dk.size, hk] at h2
  | some k =>
    have hs : d.size n = (d.len k : Int) := by simp [Dk.size, hk]
    rw [hs] at h2
    unfold findP
    rw [hs]
    by_cases h3 : ((d.len k : Int) - 2) * 512 < ((mark2 d n).2 : Int)
    · rw [if_pos h3]; exact .inr rfl
    · rw [if_neg h3]
      dsimp only
      rw [if_pos (gath_ok h.dead hok hk (by omega) _ 2 [] (Nat.le_refl _) rfl)]
      cases Redo.records ((gath d n (mark2 d n).2 ((mark2 d n).2 + 1) 2 []).1.take (mark2 d n).2) with
      | none => exact .inr rfl
      | some l => exact .inl ⟨rfl, rfl, rfl⟩
def badN (n : ByteArray) : Prop := n.size = 0 ∨ 56 < n.size
theorem openP_codes {d : Dk} (h : Calm d) (hok : d.Ok) (n : ByteArray) : Calm (openP d n).1 ∧ ((badN n ∧ (openP d n).2.1 = 92) ∨ (¬ badN n ∧ (((openP d n).2.1 = 0 ∧ Good (openP d n).2.2) ∨ (openP d n).2.1 = 94 ∨ (openP d n).2.1 = 100))) := by
  unfold openP
  rw [if_neg (by rw [h.dead]; simp)]
  by_cases h1 : n.size = 0 ∨ 56 < n.size
  · rw [if_pos h1]; exact ⟨h, .inl ⟨h1, rfl⟩⟩
  rw [if_neg h1]
  by_cases h2 : 2 ≤ d.size n
  · rw [if_pos h2]
    refine ⟨h, .inr ⟨h1, ?_⟩⟩
    rcases findP_codes h hok h2 with h3 | h3
    · exact .inl h3
    · exact .inr (.inr h3)
  · rw [if_neg h2]
    obtain ⟨hc, ⟨h3, _⟩ | h3⟩ := drenew_codes h (n := n) (by omega) (by omega) []
    · exact ⟨hc, .inr ⟨h1, .inl ⟨h3, rfl, rfl⟩⟩⟩
    · exact ⟨hc, .inr ⟨h1, .inr (.inl h3)⟩⟩
theorem write_stays {d : Dk} (h : Calm d) (n : ByteArray) (i : Int) (b : List UInt8) : Calm (d.write n i b).1 := by
  unfold Dk.write
  split
  · exact h
  · split
    · exact h
    · split
      · exact h
      · split
        · exact h
        · split
          · rw [h.denies]; exact h
          · rw [h.denies]
            have := h.put
            dsimp only
            rw [(h.put _ _).dies]
            exact h.put _ _
theorem new_calm (room : Int) : Calm (Dk.new room) := ⟨rfl, rfl, rfl⟩
end Go.Proofs.Ytjbopmbffajknaa
