/- Redo: plain laws of a log on a disk on which nothing fails. -/
import Derived.Test.YtjbopmbffajknaaPl
import Derived.Test.YtjbopmbffajknaaRm
set_option linter.unusedVariables false
set_option linter.unusedSimpArgs false
set_option maxRecDepth 100000
namespace Go.Proofs.Ytjbopmbffajknaa
open Go Go.Vc Go.Vault Go.Redo

theorem write_calmG {q : Dk} (h : Calm q) {n : ByteArray} {k : Nat} {b : List UInt8} (hb : b.length ≤ 512) (hk : q.find n = some k) {i : Nat} (hi : i ≤ q.len k) :
    (q.write n (i : Int) b = (q, 94) ∧ i = q.len k ∧ q.room ≤ q.used) ∨ (q.write n (i : Int) b = (q.put k ((q.file k).write i b), 0) ∧ ¬ (i = q.len k ∧ q.room ≤ q.used)) := by
  have hp : ¬((i : Int) < 0 ∨ (q.len k : Int) < (i : Int) ∨ 512 < b.length) := by omega
  by_cases hu : i = q.len k ∧ q.room ≤ q.used
  · left
    refine ⟨?_, hu⟩
    unfold Dk.write
    rw [h.dead, hk]
    simp only [Bool.false_eq_true, if_false, if_neg hp]
    rw [if_pos ⟨by rw [hu.1], hu.2⟩]
  · right
    refine ⟨?_, hu⟩
    unfold Dk.write
    rw [h.dead, hk]
    simp only [Bool.false_eq_true, if_false, if_neg hp]
    rw [if_neg (fun h2 => hu ⟨by have := h2.1; omega, h2.2⟩), h.refused]
    simp only [Bool.false_eq_true, if_false, h.denies, Int.toNat_natCast, (h.put _ _).dies, (h.put _ _).code]
theorem sync_calm {q : Dk} (h : Calm q) {n : ByteArray} {k : Nat} (hk : q.find n = some k) : q.sync n = (q.put k (q.file k).sync, 0) := by
  unfold Dk.sync
  rw [h.dead, hk]
  simp only [Bool.false_eq_true, if_false, h.refused, h.denies, h.dies, h.dead]
theorem syncNames_calm {q : Dk} (h : Calm q) : q.syncNames = ({ q with firm := q.names, chs := [] }, 0) := by
  unfold Dk.syncNames
  rw [h.dead]
  simp only [Bool.false_eq_true, if_false, h.dies, h.dead]
theorem put_find (q : Dk) (k : Nat) (f : Fl) (n : ByteArray) : (q.put k f).find n = q.find n := rfl
theorem put_file {q : Dk} {k : Nat} (hk : k < q.files.length) (f : Fl) : (q.put k f).file k = f := by
  rw [Dk.file, Dk.put, List.getD_eq_getElem?_getD, List.getElem?_set_self hk]
  rfl
theorem put_len {q : Dk} {k : Nat} (hk : k < q.files.length) (f : Fl) : (q.put k f).len k = f.now.length := by rw [Dk.len, put_file hk]
theorem write_len (f : Fl) {i : Nat} (b : List UInt8) (hi : i ≤ f.now.length) : (f.write i b).now.length = max f.now.length (i + 1) := by
  rw [Fl.write]
  dsimp only
  split
  · rw [List.length_append, List.length_singleton]; omega
  · rw [List.length_set]; omega
/-- what calls lead to where nothing fails: all is well, or there is no room -/
def Q (J : Dk → Prop) (r : Dk × Int) : Prop := Calm r.1 ∧ ((r.2 = 0 ∧ J r.1) ∨ r.2 = 94)
theorem Q.thn {J J' : Dk → Prop} {r : Dk × Int} {f : Dk → Dk × Int} (h : Q J r) (hf : ∀ d, Calm d → J d → Q J' (f d)) : Q J' (thn r f) := by
  rcases h with ⟨h1, ⟨h2, h3⟩ | h2⟩
  · rw [Redo.thn, if_pos h2]; exact hf _ h1 h3
  · rw [Redo.thn, if_neg (by omega)]; exact ⟨h1, .inr h2⟩
/-- a file of so many sectors -/
def Has (n : ByteArray) (m : Nat) (d : Dk) : Prop := ∃ k, d.find n = some k ∧ k < d.files.length ∧ m ≤ d.len k
theorem create_has {d : Dk} (h : Calm d) {n : ByteArray} (hr : Vault.right n = true) : Q (Has n 0) (d.create n) := by
  rw [create_calm h hr]
  refine ⟨⟨h.armed, h.denied, h.dead⟩, .inl ⟨rfl, d.files.length, ?_, by simp [Dk.change], Nat.zero_le _⟩⟩
  rw [find_change, Ch.on, nget_with, if_pos rfl]
theorem write_has {d : Dk} (h : Calm d) {n : ByteArray} {m i : Nat} (hi : i ≤ m) {b : List UInt8} (hb : b.length ≤ 512) (hd : Has n m d) : Q (Has n (max m (i + 1))) (d.write n (i : Int) b) := by
  obtain ⟨k, h1, h2, h3⟩ := hd
  rcases write_calmG h hb h1 (show i ≤ d.len k by omega) with ⟨e, _⟩ | ⟨e, _⟩
  · rw [e]; exact ⟨h, .inr rfl⟩
  · rw [e]
    refine ⟨h.put _ _, .inl ⟨rfl, k, h1, by simpa [Dk.put] using h2, ?_⟩⟩
    rw [put_len h2, write_len _ _ (show i ≤ (d.file k).now.length by have : d.len k = (d.file k).now.length := rfl; omega)]
    have : d.len k = (d.file k).now.length := rfl
    omega
theorem sync_has {d : Dk} (h : Calm d) {n : ByteArray} {m : Nat} (hd : Has n m d) : Q (Has n m) (d.sync n) := by
  obtain ⟨k, h1, h2, h3⟩ := hd
  rw [sync_calm h h1]
  exact ⟨h.put _ _, .inl ⟨rfl, k, h1, by simpa [Dk.put] using h2, by rw [put_len h2]; exact h3⟩⟩
theorem dseal_has {d : Dk} (h : Calm d) {n : ByteArray} {m : Nat} (hm : 2 ≤ m) (hd : Has n m d) (mark firm : Nat) : Q (Has n m) (dseal d n mark firm) := by
  refine Q.thn (J := Has n m) (Q.thn (sync_has h hd) fun d1 h1 hd1 => ?_) fun d1 h1 hd1 => sync_has h1 hd1
  have := write_has h1 (i := mark % 2) (m := m) (by omega) (b := sealB mark firm) (by simp only [sealB, List.length_append, be_length, List.length_replicate]; omega) hd1
  rwa [Nat.max_eq_left (by omega)] at this
theorem dput_has {n : ByteArray} (b : List UInt8) : ∀ (m k : Nat) {d : Dk}, Calm d → Has n (2 + k) d → Q (Has n 2) (dput n b m k d)
  | 0, k, d, h, hd => ⟨h, .inl ⟨rfl, by obtain ⟨j, h1, h2, h3⟩ := hd; exact ⟨j, h1, h2, Nat.le_trans (by omega : 2 ≤ 2 + k) h3⟩⟩⟩
  | m + 1, k, d, h, hd => by
    rw [dput]
    split
    · exact ⟨h, .inl ⟨rfl, by obtain ⟨j, h1, h2, h3⟩ := hd; exact ⟨j, h1, h2, Nat.le_trans (by omega : 2 ≤ 2 + k) h3⟩⟩⟩
    · refine Q.thn (J := Has n (2 + (k + 1))) ?_ fun d1 h1 hd1 => dput_has b m (k + 1) h1 hd1
      have := write_has h (i := 2 + k) (m := 2 + k) (Nat.le_refl _) (b := (b.drop (k * 512)).take 512) (by rw [List.length_take]; omega) hd
      rwa [Nat.max_eq_right (by omega)] at this
theorem dfill_has {d : Dk} (h : Calm d) {n : ByteArray} (hr : Vault.right n = true) (b : List UInt8) : Q (Has n 2) (dfill d n b) := by
  refine Q.thn (J := Has n 2) (Q.thn (J := Has n 2) (Q.thn (J := Has n 1) (Q.thn (create_has h hr) fun d1 h1 hd1 => ?_) fun d1 h1 hd1 => ?_) fun d1 h1 hd1 => dput_has b _ 0 h1 hd1) fun d1 h1 hd1 => dseal_has h1 (Nat.le_refl _) hd1 _ _
  · exact write_has h1 (i := 0) (Nat.le_refl _) (by simp) hd1
  · exact write_has h1 (i := 1) (Nat.le_refl _) (by simp) hd1
theorem newN_size (n : ByteArray) : (newN n).size = n.size + 4 := by
  show (n ++ _).size = _
  rw [ByteArray.size_append]; rfl
theorem newN_ne (n : ByteArray) : newN n ≠ n := fun h => by
  have := congrArg ByteArray.size h
  rw [newN_size] at this; omega
theorem right_of {n : ByteArray} (h1 : 1 ≤ n.size) (h2 : n.size ≤ 60) : Vault.right n = true := by simp [Vault.right, h1, h2]
theorem drenew_codes {d : Dk} (h : Calm d) {n : ByteArray} (h1 : 1 ≤ n.size) (h2 : n.size ≤ 56) (all : List ByteArray) : Q (fun _ => True) (drenew d n all) := by
  have hn := newN_size n
  refine Q.thn (J := fun _ => True) (Q.thn (dfill_has h (right_of (by omega) (by omega)) _) fun d1 hc hd1 => ?_) fun d1 hc _ => ?_
  · obtain ⟨k, hk, _, _⟩ := hd1
    rw [rename_calm hc hk (right_of h1 (by omega)) (newN_ne n)]
    exact ⟨hc.change _, .inl ⟨rfl, trivial⟩⟩
  · rw [syncNames_calm hc]
    exact ⟨⟨hc.armed, hc.denied, hc.dead⟩, .inl ⟨rfl, trivial⟩⟩
end Go.Proofs.Ytjbopmbffajknaa
