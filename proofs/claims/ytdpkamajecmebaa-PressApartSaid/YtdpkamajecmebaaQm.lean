/- Press: texts in files as plain lists, and what Export and Import do to a disk. -/
import Derived.Test.YtdpkamajecmebaaRm
import Derived.Test.YtdpkamajecmebaaPl
set_option linter.unusedVariables false
set_option linter.unusedSimpArgs false
set_option maxRecDepth 100000
namespace Go.Press
open Go Go.Vc Go.Vault Go.Redo

def nPart : ByteArray := ⟨#[120, 46, 112, 97, 114, 116]⟩
def nAhead : ByteArray := ⟨#[120, 45]⟩
def pfile (n : ByteArray) : ByteArray := nAhead ++ n
def nright (n : ByteArray) : Bool := decide (1 ≤ n.size) && decide (n.size ≤ 50)
/-- a text's sectors -/
def sec (t : List UInt8) : Nat → List UInt8
  | 0 => be (t.length : Int) 8
  | k + 1 => (t.drop (k * 512)).take 512
def nsecs (t : List UInt8) : Nat := 1 + (t.length + 511) / 512
/-- they are written, from the k-th on -/
def dsec (t : List UInt8) : Nat → Nat → Dk → Dk × Int
  | 0, _, d => (d, 0)
  | m + 1, k, d => thn (d.write nPart (k : Int) (sec t k)) (dsec t m (k + 1))
def dexport (d : Dk) (n t : ByteArray) : Dk × Int :=
  if !nright n then (d, 92) else if 1048576 < t.size then (d, 91) else
  thn (thn (thn (thn (d.create nPart) fun d => dsec t.data.toList (nsecs t.data.toList) 0 d) fun d => d.sync nPart) fun d => d.rename nPart (pfile n)) fun d => d.syncNames
/-- a file's sectors, one behind the other, till there are so many bytes -/
def gat (d : Dk) (f : ByteArray) (n : Nat) : Nat → Nat → List UInt8 → List UInt8 × Int
  | 0, _, b => (b, 0)
  | m + 1, k, b => if n ≤ b.length then (b, 0) else if (d.read f (k : Int)).2 = 0 then gat d f n m (k + 1) (b ++ (d.read f (k : Int)).1.take (n - b.length)) else ([], (d.read f (k : Int)).2)
def many8 (b : List UInt8) : Nat := valN (b.take 8)
def dimport (d : Dk) (n : ByteArray) : List UInt8 × Int :=
  if !nright n then ([], 92) else if (d.read (pfile n) 0).2 = 0 then
    if 1048576 < many8 (d.read (pfile n) 0).1 ∨ (d.size (pfile n) - 1) * 512 < many8 (d.read (pfile n) 0).1 then ([], 91) else gat d (pfile n) (many8 (d.read (pfile n) 0).1) (many8 (d.read (pfile n) 0).1 + 1) 1 []
  else ([], (d.read (pfile n) 0).2)
/-- a name of a text, by a file's name -/
def cutName (s : ByteArray) : Option ByteArray := if nAhead.size ≤ s.size ∧ s.extract 0 2 = nAhead ∧ nright (s.extract 2 s.size) then some (s.extract 2 s.size) else none
def pnamesD (d : Dk) : List ByteArray := d.names.filterMap fun p => cutName p.name

theorem thn_no {r : Dk × Int} (f : Dk → Dk × Int) (h : ¬ r.2 = 0) : thn r f = r := if_neg h
theorem thn_yes {r : Dk × Int} (f : Dk → Dk × Int) (h : r.2 = 0) : thn r f = f r.1 := if_pos h
theorem sec_len (t : List UInt8) (k : Nat) : (sec t k).length ≤ 512 := by
  cases k with
  | zero => rw [sec, be_length]; omega
  | succ k => rw [sec, List.length_take]; omega
theorem sec_pos {t : List UInt8} {k : Nat} (h : k < nsecs t) : 0 < (sec t k).length := by
  cases k with
  | zero => rw [sec, be_length]; omega
  | succ k => rw [sec, List.length_take, List.length_drop]; unfold nsecs at h; omega
end Go.Press
namespace Go.Proofs.Ytdpkamajecmebaa
open Go Go.Vc Go.Vault Go.Redo Go.Press

theorem dsec_fit (t : List UInt8) : ∀ (m k : Nat) {d : Dk} {N : Nat}, d.Fit N → (dsec t m k d).1.Fit (N + m)
  | 0, _, d, N, h => h
  | m + 1, k, d, N, h => by
    rw [dsec, thn]
    have h1 := Fit.write h nPart (k : Int) (sec t k)
    split
    · exact (dsec_fit t m (k + 1) h1).mono (by omega)
    · exact h1.mono (by omega)
theorem thn_fit {r : Dk × Int} {f : Dk → Dk × Int} {N M : Nat} (h : r.1.Fit N) (hf : ∀ d : Dk, d.Fit N → (f d).1.Fit M) (hm : N ≤ M) : (thn r f).1.Fit M := by
  unfold thn
  split
  · exact hf _ h
  · exact h.mono hm
theorem dexport_fit {d : Dk} {N : Nat} (h : d.Fit N) (n t : ByteArray) : (dexport d n t).1.Fit (N + nsecs t.data.toList + 4) := by
  unfold dexport
  split
  · exact h.mono (by omega)
  · split
    · exact h.mono (by omega)
    · have h1 := Fit.create h nPart
      have h2 : (thn (d.create nPart) fun d => dsec t.data.toList (nsecs t.data.toList) 0 d).1.Fit (N + 1 + nsecs t.data.toList) := thn_fit h1 (fun d hd => dsec_fit _ _ _ hd) (by omega)
      have h3 := thn_fit (f := fun d => d.sync nPart) h2 (fun d hd => Fit.sync hd nPart) (Nat.le_succ _)
      have h4 := thn_fit (f := fun d => d.rename nPart (pfile n)) h3 (fun d hd => Fit.rename hd nPart (pfile n)) (Nat.le_succ _)
      exact (thn_fit (f := fun d => d.syncNames) h4 (fun d hd => Fit.syncNames hd) (Nat.le_succ _)).mono (by omega)
end Go.Proofs.Ytdpkamajecmebaa
