/- Vault: plain laws of names; a disk on which nothing fails. -/
import Derived.Test.YtiagjabdfppgkaaGreatFit
set_option linter.unusedVariables false
set_option linter.unusedSimpArgs false
set_option maxRecDepth 100000
namespace Go.Proofs.YtiagjabdfppgkaaGreat
open Go Go.Vc Go.Vault

theorem nget_without (n m : ByteArray) : ∀ l : List Nm, nget (without l n) m = if m = n then none else nget l m
  | [] => by simp [without, nget]
  | p :: r => by
    have ih := nget_without n m r
    by_cases h : p.name = n
    · have e : without (p :: r) n = without r n := by simp [without, h]
      rw [e, ih, nget]
      by_cases hm : m = n
      · rw [if_pos hm, if_pos hm]
      · rw [if_neg hm, if_neg hm, if_neg (fun h2 => hm (h2.symm.trans h))]
    · have e : without (p :: r) n = p :: without r n := by simp [without, h]
      rw [e, nget, nget, ih]
      by_cases hm : m = n
      · rw [if_pos hm, if_pos hm, if_neg (fun h2 => h (h2.trans hm))]
      · rw [if_neg hm, if_neg hm]
theorem nget_ins (n : Nm) (m : ByteArray) : ∀ l : List Nm, (∀ p ∈ l, p.name ≠ n.name) → nget (ins n l) m = if m = n.name then some n.file else nget l m
  | [], _ => by
    simp only [ins, nget]
    by_cases h : m = n.name
    · rw [if_pos h, if_pos h.symm]
    · rw [if_neg h, if_neg (fun h2 => h h2.symm)]
  | p :: r, h => by
    have ih := nget_ins n m r fun q hq => h q (.tail _ hq)
    have hp := h p (.head _)
    simp only [ins]
    split
    · rw [nget, nget, ih]
      by_cases hm : m = n.name
      · rw [if_neg (fun h2 => hp (h2.trans hm)), if_pos hm, if_pos hm]
      · rw [if_neg hm, if_neg hm]
    · rw [nget]
      by_cases hm : m = n.name
      · rw [if_pos hm, if_pos hm.symm]
      · rw [if_neg hm, if_neg (fun h2 => hm h2.symm)]
theorem nget_with (l : List Nm) (n : Nm) (m : ByteArray) : nget (with_ l n) m = if m = n.name then some n.file else nget l m := by
  rw [with_, nget_ins _ _ _ fun p hp => by simpa using (List.mem_filter.1 hp).2, nget_without]
  by_cases h : m = n.name
  · rw [if_pos h, if_pos h]
  · rw [if_neg h, if_neg h, if_neg h]
theorem mem_without {l : List Nm} {n : ByteArray} {p : Nm} : p ∈ without l n ↔ p ∈ l ∧ p.name ≠ n := by simp [without, List.mem_filter]
theorem mem_with {l : List Nm} {n p : Nm} (h : p ∈ with_ l n) : p = n ∨ (p ∈ l ∧ p.name ≠ n.name) := by
  rcases List.mem_cons.1 ((with_perm l n).mem_iff.1 h) with h | h
  · exact .inl h
  · exact .inr (mem_without.1 h)
structure Calm (q : Dk) : Prop where
  armed : q.armed = 0
  denied : q.denied = 0
  dead : q.dead = false
theorem Calm.dies {q : Dk} (h : Calm q) : q.dies = q := by unfold Dk.dies; rw [if_neg (by have := h.armed; omega)]
theorem Calm.denies {q : Dk} (h : Calm q) : q.denies = q := by
  have h2 := h.denied
  obtain ⟨_, _, _, _, _, _, _⟩ := q
  simp only [Dk.denies] at h2 ⊢
  rw [h2]
theorem Calm.refused {q : Dk} (h : Calm q) : q.refused = false := by simp [Dk.refused, h.denied]
theorem Calm.code {q : Dk} (h : Calm q) : q.code = 0 := by simp [Dk.code, h.dead]
theorem Calm.change {q : Dk} (h : Calm q) (c : Ch) : Calm (q.change c) := ⟨h.armed, h.denied, h.dead⟩
theorem Calm.put {q : Dk} (h : Calm q) (k : Nat) (f : Fl) : Calm (q.put k f) := ⟨h.armed, h.denied, h.dead⟩
theorem calm0 {d : Dk} (h : d.dead = false) : Calm ((d.arm 0).deny 0) := ⟨rfl, rfl, h⟩
theorem create_calm {q : Dk} (h : Calm q) {n : ByteArray} (hr : Vault.right n = true) : q.create n = (Dk.change { q with files := q.files ++ [Fl.none] } (.create n q.files.length), 0) := by
  have hc : Calm (Dk.change { q with files := q.files ++ [Fl.none] } (.create n q.files.length)) := ⟨h.armed, h.denied, h.dead⟩
  unfold Dk.create
  rw [if_neg (by rw [h.dead]; simp), if_neg (by rw [hr]; simp)]
  simp only [hc.dies, hc.code]
theorem rename_calm {q : Dk} (h : Calm q) {a b : ByteArray} {k : Nat} (hk : q.find a = some k) (hr : Vault.right b = true) (hab : a ≠ b) : q.rename a b = (q.change (.rename a b k), 0) := by
  unfold Dk.rename
  rw [h.dead, hk, hr]
  simp only [Bool.false_eq_true, if_false, Bool.not_true, if_neg hab, (h.change _).dies, (h.change _).code]
theorem remove_calm {q : Dk} (h : Calm q) {n : ByteArray} {k : Nat} (hk : q.find n = some k) : q.remove n = (q.change (.remove n), 0) := by
  unfold Dk.remove
  rw [h.dead, hk]
  simp only [Bool.false_eq_true, if_false, (h.change _).dies, (h.change _).code]
theorem remove_none {q : Dk} (h : Calm q) {n : ByteArray} (hk : q.find n = none) : q.remove n = (q, 90) := by
  unfold Dk.remove
  rw [h.dead, hk]
  simp
theorem read_calm {q : Dk} (h : q.dead = false) {n : ByteArray} {k : Nat} {s : List UInt8} {l : List (List UInt8)} (hk : q.find n = some k) (hf : (q.file k).now = s :: l) : q.read n 0 = (s, 0) := by
  unfold Dk.read
  rw [h, hk]
  have : ¬((0 : Int) < 0 ∨ (q.len k : Int) ≤ 0) := by
    have : q.len k = l.length + 1 := by simp [Dk.len, hf]
    omega
  simp only [Bool.false_eq_true, if_false, if_neg this, hf]
  rfl
/-- the first sector of a new file -/
theorem write_calm {q : Dk} (h : Calm q) {n : ByteArray} {k : Nat} {b : List UInt8} (hb : b.length ≤ 512) (hk : q.find n = some k) (hf : q.file k = Fl.none) : (q.write n 0 b = (q, 94) ∧ q.room ≤ q.used) ∨ q.write n 0 b = (q.put k ⟨[pad b], [], [0]⟩, 0) := by
  have hl : q.len k = 0 := by simp [Dk.len, hf, Fl.none]
  have hp : ¬((0 : Int) < 0 ∨ (q.len k : Int) < 0 ∨ 512 < b.length) := by rw [hl]; omega
  by_cases hu : q.room ≤ q.used
  · left
    refine ⟨?_, hu⟩
    unfold Dk.write
    rw [h.dead, hk]
    simp only [Bool.false_eq_true, if_false, if_neg hp]
    rw [if_pos ⟨by rw [hl]; rfl, hu⟩]
  · right
    unfold Dk.write
    rw [h.dead, hk]
    simp only [Bool.false_eq_true, if_false, if_neg hp]
    rw [if_neg (fun h2 => hu h2.2), h.refused]
    simp only [Bool.false_eq_true, if_false, h.denies, hf, (h.put _ _).dies, (h.put _ _).code]
    rfl
theorem find_change (q : Dk) (c : Ch) (m : ByteArray) : (q.change c).find m = nget (c.on q.names) m := by
  rw [Dk.find, Dk.change_names]

theorem dies_change (d : Dk) (c : Ch) : (d.change c).dies = d.dies.change c := by
  unfold Dk.dies Dk.change; split <;> rfl
theorem dies_put (d : Dk) (k : Nat) (f : Fl) : (d.put k f).dies = d.dies.put k f := by
  unfold Dk.dies Dk.put; split <;> rfl
theorem dies_files (d : Dk) (l : List Fl) : ({ d with files := l } : Dk).dies = { d.dies with files := l } := by
  unfold Dk.dies; split <;> rfl
theorem dies_both (d : Dk) (l : List Fl) (c : Ch) : (Dk.change { d with files := l } c).dies = Dk.change { d.dies with files := l } c := by
  have h1 : ∀ q : Dk, 0 < q.armed → q.dies = { q with armed := q.armed - 1, dead := decide (q.armed - 1 = 0) } := fun q h => if_pos h
  have h2 : ∀ q : Dk, ¬ 0 < q.armed → q.dies = q := fun q h => if_neg h
  by_cases h0 : 0 < d.armed
  · rw [h1 d h0, h1 (Dk.change { d with files := l } c) h0]; rfl
  · rw [h2 d h0, h2 (Dk.change { d with files := l } c) h0]
theorem dies_file (d : Dk) (k : Nat) : d.dies.file k = d.file k := by
  unfold Dk.dies; split <;> rfl
theorem dies_find (d : Dk) (n : ByteArray) : d.dies.find n = d.find n := by
  unfold Dk.dies; split <;> rfl
theorem dies_fs (d : Dk) : d.dies.files = d.files := by
  unfold Dk.dies; split <;> rfl
end Go.Proofs.YtiagjabdfppgkaaGreat
