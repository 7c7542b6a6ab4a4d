/- Redo: the log as plain lists, and what its calls do to a disk. -/
import Derived.Test.YtdpkamajecmebaaUm
import Derived.Test.YtdpkamajecmebaaNum
set_option linter.unusedVariables false
set_option linter.unusedSimpArgs false
namespace Go.Redo
open Go Go.Vc Go.Vault

/-- the next call, if the one before was answered well -/
def thn (r : Dk × Int) (f : Dk → Dk × Int) : Dk × Int := if r.2 = 0 then f r.1 else r
def framed (b : List UInt8) (s : ByteArray) : List UInt8 := b ++ (be (s.size : Int) 4 ++ s.data.toList)
def framedAll (l : List ByteArray) : List UInt8 := l.foldl framed []
def recordsF : Nat → List UInt8 → Option (List ByteArray)
  | 0, _ => some []
  | m + 1, b => if b = [] then some [] else if b.length < 4 then none else
    if 65536 < valN (b.take 4) then none else if b.length - 4 < valN (b.take 4) then none else
    (recordsF m (b.drop (4 + valN (b.take 4)))).map fun l => ⟨((b.drop 4).take (valN (b.take 4))).toArray⟩ :: l
def records (b : List UInt8) : Option (List ByteArray) := recordsF b.length b

/-- a log -/
structure Lg where
  name : ByteArray
  mark : Nat
  b : List UInt8
  firm : Nat
  many : Nat
  all : List ByteArray
  code : Int
def sealB (mark firm : Nat) : List UInt8 := be (mark : Int) 8 ++ (be (firm : Int) 8 ++ (List.replicate 488 0 ++ be (mark : Int) 8))
def dseal (d : Dk) (name : ByteArray) (mark firm : Nat) : Dk × Int :=
  thn (thn (d.sync name) fun d => d.write name ((mark % 2 : Nat) : Int) (sealB mark firm)) fun d => d.sync name
def dput (name : ByteArray) (b : List UInt8) : Nat → Nat → Dk → Dk × Int
  | 0, _, d => (d, 0)
  | m + 1, k, d => if b.length ≤ k * 512 then (d, 0) else thn (d.write name ((2 + k : Nat) : Int) ((b.drop (k * 512)).take 512)) (dput name b m (k + 1))
def dwrite (d : Dk) (name : ByteArray) (b : List UInt8) (from_ : Nat) : Dk × Int := dput name b (b.length / 512 + 1 - from_ / 512) (from_ / 512) d
def dfill (d : Dk) (name : ByteArray) (b : List UInt8) : Dk × Int :=
  thn (thn (thn (thn (d.create name) fun d => d.write name 0 []) fun d => d.write name 1 []) fun d => dwrite d name b 0) fun d => dseal d name 1 b.length
def newN (name : ByteArray) : ByteArray := name ++ ⟨#[46, 110, 101, 119]⟩
def drenew (d : Dk) (name : ByteArray) (all : List ByteArray) : Dk × Int :=
  thn (thn (dfill d (newN name) (framedAll all)) fun d => d.rename (newN name) name) fun d => d.syncNames
def Lg.anew (l : Lg) (all : List ByteArray) : Lg := { l with mark := 1, b := framedAll all, firm := (framedAll all).length, all := all, many := all.length }
def Lg.none (name : ByteArray) : Lg := ⟨name, 0, [], 0, 0, [], 0⟩
/-- a mark, as it is read -/
def lookP (d : Dk) (name : ByteArray) (n : Nat) : Option (Nat × Nat) :=
  if (d.read name n).2 = 0 ∧ (d.read name n).1.take 8 = (d.read name n).1.drop 504 then some (valN ((d.read name n).1.take 8), valN (((d.read name n).1.drop 8).take 8)) else none
def better (m : Nat × Nat) (l : Option (Nat × Nat)) : Nat × Nat := match l with
  | some p => if m.1 < p.1 then p else m
  | .none => m
def mark2 (d : Dk) (name : ByteArray) : Nat × Nat := better (better (0, 0) (lookP d name 0)) (lookP d name 1)
/-- sectors, one behind the other, till these are enough -/
def gath (d : Dk) (name : ByteArray) (firm : Nat) : Nat → Nat → List UInt8 → List UInt8 × Int
  | 0, _, b => (b, 0)
  | m + 1, n, b => if firm ≤ b.length then (b, 0) else if (d.read name n).2 = 0 then gath d name firm m (n + 1) (b ++ (d.read name n).1) else (b, (d.read name n).2)
def findP (d : Dk) (name : ByteArray) : Int × Lg :=
  if (d.size name - 2) * 512 < (mark2 d name).2 then (100, Lg.none name) else
  let g := gath d name (mark2 d name).2 ((mark2 d name).2 + 1) 2 []
  if g.2 = 0 then match records (g.1.take (mark2 d name).2) with
    | some l => (0, ⟨name, (mark2 d name).1, g.1.take (mark2 d name).2, (mark2 d name).2, l.length, l, 0⟩)
    | .none => (100, Lg.none name)
  else (g.2, Lg.none name)
def openP (d : Dk) (name : ByteArray) : Dk × Int × Lg :=
  if d.dead then (d, 93, Lg.none name) else if name.size = 0 ∨ 56 < name.size then (d, 92, Lg.none name) else
  if 2 ≤ d.size name then (d, findP d name) else
  ((drenew d name []).1, (drenew d name []).2, (Lg.none name).anew [])
/-- what is found is there -/
def Lg.append (l : Lg) (s : ByteArray) : Lg × Int := if 65536 < s.size then (l, 101) else ({ l with b := framed l.b s, all := l.all ++ [s] }, 0)
def flushP (d : Dk) (l : Lg) : Dk × Lg × Int :=
  if l.code = 0 then
    let r := thn (dwrite d l.name l.b l.firm) fun d => dseal d l.name (l.mark + 1) l.b.length
    if r.2 = 0 then (r.1, { l with mark := l.mark + 1, firm := l.b.length, many := l.all.length }, 0) else (r.1, { l with code := r.2 }, r.2)
  else (d, l, l.code)
def tooLong (all : List ByteArray) : Bool := all.any fun s => decide (65536 < s.size)
def resetP (d : Dk) (l : Lg) (all : List ByteArray) : Dk × Lg × Int :=
  if tooLong all then (d, l, 101) else if l.code = 0 then
    let r := drenew d l.name all
    if r.2 = 0 then (r.1, l.anew all, 0) else (r.1, { l with code := r.2 }, r.2)
  else (d, l, l.code)
end Go.Redo
