/- Redo: records behind one another are told apart again. -/
import Derived.Test.YtjbopmbffajknaaRd
set_option linter.unusedVariables false
set_option linter.unusedSimpArgs false
set_option maxRecDepth 100000
namespace Go.Redo
open Go Go.Vc Go.Vault

def frame (s : ByteArray) : List UInt8 := be (s.size : Int) 4 ++ s.data.toList
def frames (l : List ByteArray) : List UInt8 := l.flatMap frame
theorem foldl_frames (l : List ByteArray) : ∀ b : List UInt8, l.foldl framed b = b ++ frames l := by
  induction l with
  | nil => intro b; simp [frames]
  | cons s r ih => intro b; rw [List.foldl_cons, ih, framed, frames, frames, List.flatMap_cons, frame]; simp only [List.append_assoc]
theorem framedAll_frames (l : List ByteArray) : framedAll l = frames l := by rw [framedAll, foldl_frames]; rfl
theorem frame_len (s : ByteArray) : (frame s).length = s.size + 4 := by
  have : s.data.toList.length = s.size := Array.length_toList
  rw [frame, List.length_append, be_length, this]; omega
theorem recordsF_frame (s : ByteArray) (hs : s.size ≤ 65536) (r : List UInt8) (m : Nat) : recordsF (m + 1) (frame s ++ r) = (recordsF m r).map (s :: ·) := by
  have hd : s.data.toList.length = s.size := Array.length_toList
  have hne : frame s ++ r ≠ [] := by
    intro h
    have := congrArg List.length h
    rw [List.length_append, frame_len] at this
    simp at this
  have hl : (frame s ++ r).length = s.size + 4 + r.length := by rw [List.length_append, frame_len]
  have ht : (frame s ++ r).take 4 = be (s.size : Int) 4 := by
    rw [frame, List.append_assoc]
    exact List.take_left' (be_length _ _)
  have hv : valN (be (s.size : Int) 4) = s.size := by
    have := valN_be' (n := (s.size : Int)) (k := 4) (by omega) (by omega)
    omega
  have hd4 : (frame s ++ r).drop 4 = s.data.toList ++ r := by
    rw [frame, List.append_assoc]
    exact List.drop_left' (be_length _ _)
  have hdn : (frame s ++ r).drop (4 + s.size) = r := by
    rw [← List.drop_drop, hd4]
    exact List.drop_left' hd
  rw [recordsF, if_neg hne, if_neg (by omega), ht, hv, if_neg (by omega), if_neg (by omega), hd4, hdn, List.take_left' hd]
theorem recordsF_frames : ∀ (l : List ByteArray) (m : Nat), (∀ s ∈ l, s.size ≤ 65536) → (frames l).length ≤ m → recordsF m (frames l) = some l
  | [], m, _, _ => by
    cases m with
    | zero => rfl
    | succ m => simp [recordsF, frames]
  | s :: r, m, h, hm => by
    have e : frames (s :: r) = frame s ++ frames r := by simp [frames]
    rw [e, List.length_append, frame_len] at hm
    obtain ⟨m2, rfl⟩ : ∃ m2, m = m2 + 1 := ⟨m - 1, by omega⟩
    rw [e, recordsF_frame s (h s (.head _)), recordsF_frames r m2 (fun t ht => h t (.tail _ ht)) (by omega)]
    rfl
theorem records_framed {l : List ByteArray} (h : ∀ s ∈ l, s.size ≤ 65536) : records (framedAll l) = some l := by
  rw [framedAll_frames]
  exact recordsF_frames l _ h (Nat.le_refl _)
theorem frames_append (a b : List ByteArray) : frames (a ++ b) = frames a ++ frames b := by simp [frames]
/-! ### Bytes in sectors -/
/-- a chunk of bytes -/
def chunk (b : List UInt8) (k : Nat) : List UInt8 := (b.drop (k * 512)).take 512
def nsec (n : Nat) : Nat := (n + 511) / 512
theorem pad_take {c : List UInt8} (h : c.length ≤ 512) : (pad c).take c.length = c := by rw [pad]; exact List.take_left' rfl
theorem pad_len {c : List UInt8} (h : c.length ≤ 512) : (pad c).length = 512 := by rw [pad, List.length_append, List.length_replicate]; omega
end Go.Redo
