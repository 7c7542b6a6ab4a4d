/- Vault: the disk as plain lists, and what its calls do to it. -/
import Derived.Test.YtiagjabdfppgkaaGreatPm
import Derived.Sort.Walk0
set_option linter.unusedVariables false
set_option linter.unusedSimpArgs false
namespace Go.Vault
open Go Go.Vc

/-- a file: sectors as they were written last, as they last, the numbers of those written since, rising -/
structure Fl where
  now : List (List UInt8)
  firm : List (List UInt8)
  since : List Nat
def Fl.none : Fl := ⟨[], [], []⟩
structure Nm where
  name : ByteArray
  file : Nat
inductive Ch where
  | create (n : ByteArray) (k : Nat)
  | rename (a b : ByteArray) (k : Nat)
  | remove (n : ByteArray)
structure Dk where
  room : Nat
  files : List Fl
  firm : List Nm
  chs : List Ch
  armed : Nat
  denied : Nat
  dead : Bool

def nget : List Nm → ByteArray → Option Nat
  | [], _ => none
  | p :: r, n => if p.name = n then some p.file else nget r n
def without (l : List Nm) (n : ByteArray) : List Nm := l.filter fun p => !decide (p.name = n)
/-- one that is not greater comes ahead -/
def nameLe (a b : ByteArray) : Bool := Op.bytesLess a.data.toList b.data.toList || decide (a = b)
def ins (n : Nm) : List Nm → List Nm
  | [] => [n]
  | p :: r => if nameLe p.name n.name then p :: ins n r else n :: p :: r
def with_ (l : List Nm) (n : Nm) : List Nm := ins n (without l n.name)
def Ch.on (l : List Nm) : Ch → List Nm
  | .create n k => with_ l ⟨n, k⟩
  | .rename a b k => with_ (without l a) ⟨b, k⟩
  | .remove n => without l n
def ons (l : List Nm) (cs : List Ch) : List Nm := cs.foldl Ch.on l
def Dk.names (d : Dk) : List Nm := ons d.firm d.chs
/-- the names behind each change -/
def Dk.snaps (d : Dk) : List (List Nm) := (List.range d.chs.length).map fun i => ons d.firm (d.chs.take (i + 1))
def Dk.find (d : Dk) (n : ByteArray) : Option Nat := nget d.names n
def Dk.file (d : Dk) (k : Nat) : Fl := d.files.getD k Fl.none
def Dk.len (d : Dk) (k : Nat) : Nat := (d.file k).now.length
def Dk.size (d : Dk) (n : ByteArray) : Int := match d.find n with
  | some k => d.len k
  | none => -1
def Dk.used (d : Dk) : Nat := (d.names.map fun p => d.len p.file).sum
def Dk.new (room : Int) : Dk := ⟨(min (max room 0) 65536).toNat, [], [], [], 0, 0, false⟩

def right (n : ByteArray) : Bool := decide (1 ≤ n.size) && decide (n.size ≤ 60)
/-- a call that may be its last -/
def Dk.dies (d : Dk) : Dk := if 0 < d.armed then { d with armed := d.armed - 1, dead := decide (d.armed - 1 = 0) } else d
def Dk.code (d : Dk) : Int := if d.dead then 93 else 0
/-- one refused less; is this one? -/
def Dk.denies (d : Dk) : Dk := { d with denied := d.denied - 1 }
def Dk.refused (d : Dk) : Bool := decide (d.denied = 1)
def Dk.change (d : Dk) (c : Ch) : Dk := { d with chs := d.chs ++ [c] }
def Dk.put (d : Dk) (k : Nat) (f : Fl) : Dk := { d with files := d.files.set k f }

def zsec : List UInt8 := List.replicate 512 0
/-- bytes as a sector: bytes 0 behind them -/
def pad (b : List UInt8) : List UInt8 := b ++ List.replicate (512 - b.length) 0
def addN (n : Nat) : List Nat → List Nat
  | [] => [n]
  | x :: r => if n < x then n :: x :: r else if n = x then x :: r else x :: addN n r
def Fl.write (f : Fl) (n : Nat) (b : List UInt8) : Fl :=
  { f with now := (if n = f.now.length then f.now ++ [pad b] else f.now.set n (pad b)), since := addN n f.since }
def Fl.sync (f : Fl) : Fl := ⟨f.now, f.now, []⟩

def Dk.create (d : Dk) (n : ByteArray) : Dk × Int :=
  if d.dead then (d, 93) else if !right n then (d, 92) else
  let d1 := (Dk.change { d with files := d.files ++ [Fl.none] } (.create n d.files.length)).dies
  (d1, d1.code)
def Dk.rename (d : Dk) (a b : ByteArray) : Dk × Int :=
  if d.dead then (d, 93) else match d.find a with
  | none => (d, 90)
  | some k => if !right b then (d, 92) else if a = b then (d, 0) else
    let d1 := (d.change (.rename a b k)).dies
    (d1, d1.code)
def Dk.remove (d : Dk) (n : ByteArray) : Dk × Int :=
  if d.dead then (d, 93) else match d.find n with
  | none => (d, 90)
  | some _ =>
    let d1 := (d.change (.remove n)).dies
    (d1, d1.code)
def Dk.write (d : Dk) (n : ByteArray) (i : Int) (b : List UInt8) : Dk × Int :=
  if d.dead then (d, 93) else match d.find n with
  | none => (d, 90)
  | some k =>
    if i < 0 ∨ d.len k < i ∨ 512 < b.length then (d, 91) else
    if i = d.len k ∧ d.room ≤ d.used then (d, 94) else
    if d.refused then (d.denies, 95) else
    let d1 := (d.denies.put k ((d.file k).write i.toNat b)).dies
    (d1, d1.code)
def Dk.read (d : Dk) (n : ByteArray) (i : Int) : List UInt8 × Int :=
  if d.dead then ([], 93) else match d.find n with
  | none => ([], 90)
  | some k => if i < 0 ∨ d.len k ≤ i then ([], 91) else ((d.file k).now.getD i.toNat [], 0)
def Dk.sync (d : Dk) (n : ByteArray) : Dk × Int :=
  if d.dead then (d, 93) else match d.find n with
  | none => (d, 90)
  | some k =>
    if d.refused then (d.denies, 95) else
    let d1 := d.denies.dies
    if d1.dead then (d1, 93) else (d1.put k (d.file k).sync, 0)
def Dk.syncNames (d : Dk) : Dk × Int :=
  if d.dead then (d, 93) else
  let d1 := d.dies
  if d1.dead then (d1, 93) else ({ d1 with firm := d.names, chs := [] }, 0)
def Dk.arm (d : Dk) (k : Int) : Dk := { d with armed := (max k 0).toNat }
def Dk.deny (d : Dk) (k : Int) : Dk := { d with denied := (max k 0).toNat }

def pick (p : Int) : Nat := (min (max p 0) 512).toNat
def fill (l : List (List UInt8)) (n : Nat) : List (List UInt8) := l ++ List.replicate (n + 1 - l.length) zsec
/-- a sector of which the first bytes are found -/
def mend (now l : List (List UInt8)) (n p : Nat) : List (List UInt8) :=
  if p = 0 then l else (fill l n).set n ((now.getD n []).take p ++ ((fill l n).getD n []).drop p)
def foundL (now : List (List UInt8)) : List Nat → List Int → List (List UInt8) → List (List UInt8)
  | [], _, l => l
  | n :: r, ps, l => foundL now r ps.tail (mend now l n (pick (ps.headD 0)))
def Fl.found (f : Fl) (ps : List Int) : Fl :=
  let l := foundL f.now f.since ps f.firm
  ⟨l, l, []⟩
def foundF : List Fl → List Int → List Fl
  | [], _ => []
  | f :: r, ps => f.found ps :: foundF r (ps.drop f.since.length)
def Dk.crash (d : Dk) (names : Int) (ps : List Int) : Dk :=
  ⟨d.room, foundF d.files ps, ons d.firm (d.chs.take (min (max names 0) d.chs.length).toNat), [], 0, 0, false⟩

/-- what is always so -/
structure Fl.Ok (f : Fl) : Prop where
  now : ∀ s ∈ f.now, s.length = 512
  firm : ∀ s ∈ f.firm, s.length = 512
  since : f.since.Pairwise (· < ·)
  below : ∀ n ∈ f.since, n < f.now.length
  len : f.firm.length ≤ f.now.length
def Nm.Ok (m : Nat) (p : Nm) : Prop := p.file < m ∧ p.name.size ≤ 60
/-- does the code that is reached take names away? -/
def canRemove : Prop := False
def Ch.Ok (m : Nat) : Ch → Prop
  | .create n k => (Nm.mk n k).Ok m
  | .rename _ _ _ => False
  | .remove _ => canRemove
/-- names rising -/
def Rising (l : List Nm) : Prop := l.Pairwise fun a b => a.name.data.toList < b.name.data.toList
structure Dk.Ok (d : Dk) : Prop where
  room : d.room ≤ 65536
  files : ∀ f ∈ d.files, f.Ok
  firm : ∀ p ∈ d.firm, p.Ok d.files.length
  chs : ∀ c ∈ d.chs, c.Ok d.files.length
  rise : Rising d.firm
  armed : (d.armed : Int) ≤ 9223372036854775807
  denied : (d.denied : Int) ≤ 9223372036854775807
/-- how great it is -/
structure Dk.Few (d : Dk) (N : Nat) : Prop where
  files : d.files.length ≤ N
  now : ∀ f ∈ d.files, f.now.length ≤ N
  firm : d.firm.length ≤ N
  chs : d.chs.length ≤ N

/-! ### The order of names -/
def ltN (a b : Nm) : Prop := a.name.data.toList < b.name.data.toList
theorem nameLe_iff {a b : ByteArray} : nameLe a b = true ↔ a.data.toList ≤ b.data.toList := by
  rw [nameLe, Proofs.bytesLess_eq, Bool.or_eq_true, decide_eq_true_eq, decide_eq_true_eq]
  constructor
  · rintro (h | rfl)
    · exact List.le_of_lt h
    · exact List.le_refl _
  · intro h
    rcases List.le_iff_lt_or_eq.1 h with h | h
    · exact .inl h
    · obtain ⟨a⟩ := a
      obtain ⟨b⟩ := b
      exact .inr (congrArg ByteArray.mk (Array.ext' h))
theorem ltN_of {a b : ByteArray} (h : nameLe a b = false) : b.data.toList < a.data.toList := by
  have : ¬ a.data.toList ≤ b.data.toList := fun h2 => by rw [nameLe_iff.2 h2] at h; cases h
  exact List.not_le.1 this
theorem ltN_ne {a b : Nm} (h : ltN a b) : a.name ≠ b.name := fun e => by
  rw [ltN, e] at h; exact List.lt_irrefl _ h
theorem name_eq {a b : ByteArray} (h : a.data.toList = b.data.toList) : a = b := by
  obtain ⟨a⟩ := a
  obtain ⟨b⟩ := b
  exact congrArg ByteArray.mk (Array.ext' h)
theorem ins_perm (n : Nm) : ∀ l, (ins n l).Perm (n :: l)
  | [] => .refl _
  | p :: r => by
    simp only [ins]
    split
    · exact ((ins_perm n r).cons p).trans (.swap n p r)
    · exact .refl _
theorem with_perm (l : List Nm) (n : Nm) : (with_ l n).Perm (n :: without l n.name) := ins_perm n _
theorem rising_without {l : List Nm} (h : Rising l) (n : ByteArray) : Rising (without l n) := h.filter _
theorem rising_ins {n : Nm} : ∀ {l : List Nm}, Rising l → (∀ p ∈ l, p.name ≠ n.name) → Rising (ins n l)
  | [], h, hn => by simp [ins, Rising]
  | p :: r, h, hn => by
    simp only [ins]
    have hp := List.pairwise_cons.1 h
    split
    · rename_i h1
      refine List.pairwise_cons.2 ⟨fun q hq => ?_, rising_ins hp.2 fun q hq => hn q (.tail _ hq)⟩
      rcases List.mem_cons.1 ((ins_perm n r).mem_iff.1 hq) with rfl | hq
      · rcases List.le_iff_lt_or_eq.1 (nameLe_iff.1 h1) with h2 | h2
        · exact h2
        · exact absurd (name_eq h2) (hn p (.head _))
      · exact hp.1 q hq
    · rename_i h1
      have h2 := ltN_of (Bool.eq_false_iff.2 h1)
      exact List.pairwise_cons.2 ⟨fun q hq => by
        rcases List.mem_cons.1 hq with rfl | hq
        · exact h2
        · exact List.lt_trans h2 (hp.1 q hq), h⟩
theorem rising_with {l : List Nm} (h : Rising l) (n : Nm) : Rising (with_ l n) :=
  rising_ins (rising_without h _) fun p hp => by simpa using (List.mem_filter.1 hp).2
theorem Ch.rising {l : List Nm} (h : Rising l) : ∀ c : Ch, Rising (c.on l)
  | .create n k => rising_with h _
  | .rename a b k => rising_with (rising_without h _) _
  | .remove n => rising_without h _
theorem rising_ons : ∀ (cs : List Ch) {l : List Nm}, Rising l → Rising (ons l cs)
  | [], l, h => h
  | c :: r, l, h => rising_ons r (c.rising h)
theorem Dk.Ok.names {d : Dk} (h : d.Ok) : Rising d.names := rising_ons _ h.rise
theorem without_len (l : List Nm) (n : ByteArray) : (without l n).length ≤ l.length := List.length_filter_le ..
theorem with_len (l : List Nm) (n : Nm) : (with_ l n).length ≤ l.length + 1 := by
  have := (with_perm l n).length_eq
  have h2 := without_len l n.name
  simp only [List.length_cons] at this
  omega
theorem Ch.len (l : List Nm) : ∀ c : Ch, (c.on l).length ≤ l.length + 1
  | .create n k => with_len _ _
  | .rename a b k => by
    have h1 := with_len (without l a) ⟨b, k⟩
    have h2 := without_len l a
    show (with_ (without l a) ⟨b, k⟩).length ≤ _
    omega
  | .remove n => by
    have := without_len l n
    show (without l n).length ≤ _
    omega
theorem ons_len : ∀ (cs : List Ch) (l : List Nm), (ons l cs).length ≤ l.length + cs.length
  | [], l => Nat.le_refl _
  | c :: r, l => by
    have h1 := ons_len r (c.on l)
    have h2 := c.len l
    show (ons (c.on l) r).length ≤ _
    simp only [List.length_cons]; omega
/-- where all lead -/
theorem with_file {l : List Nm} {n : Nm} {m : Nat} (h : ∀ p ∈ l, p.Ok m) (hn : n.Ok m) : ∀ p ∈ with_ l n, p.Ok m := fun p hp => by
  rcases List.mem_cons.1 ((with_perm l n).mem_iff.1 hp) with rfl | hp
  · exact hn
  · exact h p (List.mem_filter.1 hp).1
theorem without_file {l : List Nm} {n : ByteArray} {m : Nat} (h : ∀ p ∈ l, p.Ok m) : ∀ p ∈ without l n, p.Ok m := fun p hp => h p (List.mem_filter.1 hp).1
theorem Ch.file {l : List Nm} {m : Nat} (h : ∀ p ∈ l, p.Ok m) : ∀ c : Ch, c.Ok m → ∀ p ∈ c.on l, p.Ok m
  | .create n k, hc => with_file h hc
  | .rename a b k, hc => hc.elim
  | .remove n, hc => without_file h
theorem ons_file {m : Nat} : ∀ (cs : List Ch) {l : List Nm}, (∀ p ∈ l, p.Ok m) → (∀ c ∈ cs, c.Ok m) → ∀ p ∈ ons l cs, p.Ok m
  | [], l, h, hc => h
  | c :: r, l, h, hc => ons_file r (c.file h (hc c (.head _))) fun x hx => hc x (.tail _ hx)
theorem Dk.Ok.nms {d : Dk} (h : d.Ok) : ∀ p ∈ d.names, p.Ok d.files.length := ons_file _ h.firm h.chs
theorem Dk.Ok.file {d : Dk} (h : d.Ok) : ∀ p ∈ d.names, p.file < d.files.length := fun p hp => (h.nms p hp).1
theorem Nm.Ok.mono {m m' : Nat} {p : Nm} (h : p.Ok m) (hm : m ≤ m') : p.Ok m' := ⟨Nat.lt_of_lt_of_le h.1 hm, h.2⟩
theorem Ch.Ok.mono {m m' : Nat} {c : Ch} (h : c.Ok m) (hm : m ≤ m') : c.Ok m' := by
  cases c with
  | create n k => exact Nm.Ok.mono h hm
  | rename a b k => exact h.elim
  | remove n => exact h
theorem nget_mem : ∀ {l : List Nm} {n : ByteArray} {k : Nat}, nget l n = some k → ∃ p ∈ l, p.name = n ∧ p.file = k
  | p :: r, n, k, h => by
    simp only [nget] at h
    split at h
    · rename_i e; exact ⟨p, .head _, e, Option.some.inj h⟩
    · obtain ⟨q, hq, h2⟩ := nget_mem h; exact ⟨q, .tail _ hq, h2⟩
theorem Dk.Ok.find {d : Dk} (h : d.Ok) {n : ByteArray} {k : Nat} (hk : d.find n = some k) : k < d.files.length := by
  obtain ⟨p, hp, _, rfl⟩ := nget_mem hk
  exact h.file p hp
theorem Dk.names_len {d : Dk} : d.names.length ≤ d.firm.length + d.chs.length := ons_len _ _

/-! ### Names as a map's entries -/
def nvl (l : List Nm) : List (ByteArray × Value) := l.map fun p => (p.name, .int .i64 (p.file : Int))
theorem nvl_apart {l : List Nm} (h : Rising l) : KApart (nvl l) := by
  have e : (nvl l).map (·.1) = l.map (·.name) := by simp [nvl, Function.comp_def]
  rw [KApart, e]
  exact List.pairwise_map.2 (h.imp fun h => ltN_ne h)
theorem nvl_get : ∀ (l : List Nm) (n : ByteArray), aget (nvl l) n = (nget l n).map fun k => .int .i64 (k : Int)
  | [], n => rfl
  | p :: r, n => by
    simp only [nvl, List.map_cons, aget, nget]
    by_cases e : p.name = n
    · rw [if_pos e.symm, if_pos e]; rfl
    · rw [if_neg (fun h => e h.symm), if_neg e]; exact nvl_get r n
theorem nvl_without (l : List Nm) (n : ByteArray) : nvl (without l n) = acut (nvl l) n := by
  simp only [nvl, without, acut, List.filter_map]; rfl
theorem nvl_put {l : List Nm} (h : Rising l) {al : List (ByteArray × Value)} (p : al.Perm (nvl l)) (n : Nm) : (aput al n.name (.int .i64 (n.file : Int))).Perm (nvl (with_ l n)) := by
  have ha : KApart al := (nvl_apart h).perm p.symm
  refine (aput_perm ha _ _).trans ?_
  refine List.Perm.trans ?_ ((with_perm l n).map _).symm
  simp only [List.map_cons]
  refine List.Perm.cons _ ?_
  have := acut_perm p n.name
  rw [← nvl_without] at this
  exact this
theorem nvl_del {l : List Nm} (h : Rising l) {al : List (ByteArray × Value)} (p : al.Perm (nvl l)) (n : ByteArray) : (adel al n).Perm (nvl (without l n)) := by
  have ha : KApart al := (nvl_apart h).perm p.symm
  rw [adel_cut ha, nvl_without]
  exact acut_perm p n
theorem nget_perm {l : List Nm} (h : Rising l) {al : List (ByteArray × Value)} (p : al.Perm (nvl l)) (n : ByteArray) : aget al n = (nget l n).map fun k => .int .i64 (k : Int) := by
  rw [← nvl_get]
  exact aget_perm ((nvl_apart h).perm p.symm) p n
end Go.Vault
