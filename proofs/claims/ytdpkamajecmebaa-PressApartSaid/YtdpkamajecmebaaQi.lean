/- Press: what was laid is read; texts by their names. -/
import Derived.Test.YtdpkamajecmebaaQh
set_option linter.unusedVariables false
set_option linter.unusedSimpArgs false
set_option maxRecDepth 100000
namespace Go.Proofs.Ytdpkamajecmebaa
open Go Go.Vc Go.Vault Go.Redo Go.Press

/-! ### Import of a file that holds a text -/
theorem read_psec {d : Dk} {f : ByteArray} {K : Nat} {t : List UInt8} (hd : d.dead = false) (hf : d.find f = some K) (hn : (d.file K).now = psecs t) {k : Nat} (hk : k < nsecs t) : d.read f (k : Int) = (pad (sec t k), 0) := by
  unfold Dk.read
  rw [hd, hf]
  have hl : d.len K = nsecs t := by rw [Dk.len, hn, psecs_len]
  have : ¬ ((k : Int) < 0 ∨ (d.len K : Int) ≤ (k : Int)) := by rw [hl]; omega
  simp only [Bool.false_eq_true, if_false, if_neg this, hn, Int.toNat_natCast]
  rw [List.getD_eq_getElem?_getD, psecs, List.getElem?_map, List.getElem?_range hk]; rfl
theorem pad_take (t : List UInt8) (k : Nat) : (pad (sec t (k + 1))).take (t.length - k * 512) = (t.drop (k * 512)).take 512 := by
  show ((t.drop (k * 512)).take 512 ++ List.replicate (512 - ((t.drop (k * 512)).take 512).length) 0).take (t.length - k * 512) = _
  by_cases h : t.length - k * 512 ≤ 512
  · exact List.take_left' (by rw [List.length_take, List.length_drop]; omega)
  · have e : ((t.drop (k * 512)).take 512).length = 512 := by rw [List.length_take, List.length_drop]; omega
    rw [e, Nat.sub_self, List.replicate_zero, List.append_nil, List.take_of_length_le (by omega)]
theorem gat_psecs {d : Dk} {f : ByteArray} {K : Nat} {t : List UInt8} (hd : d.dead = false) (hf : d.find f = some K) (hn : (d.file K).now = psecs t) : ∀ (m k : Nat), t.length + 1 ≤ m + k → gat d f t.length m (k + 1) (t.take (k * 512)) = (t, 0)
  | 0, k, h => by rw [gat, List.take_of_length_le (by omega)]
  | m + 1, k, h => by
    rw [gat]
    by_cases h1 : t.length ≤ k * 512
    · rw [List.take_of_length_le h1, if_pos (Nat.le_refl _)]
    · have hl : (t.take (k * 512)).length = k * 512 := by rw [List.length_take]; omega
      rw [hl, if_neg h1, read_psec hd hf hn (k := k + 1) (by unfold nsecs; omega), if_pos rfl]
      show gat d f t.length m (k + 1 + 1) (t.take (k * 512) ++ (pad (sec t (k + 1))).take (t.length - k * 512)) = _
      rw [pad_take]
      have e : t.take (k * 512) ++ (t.drop (k * 512)).take 512 = t.take ((k + 1) * 512) := by
        rw [show (k + 1) * 512 = k * 512 + 512 by omega, List.take_add]
      rw [e]
      exact gat_psecs hd hf hn m (k + 1) (by omega)
theorem many8_pad (t : List UInt8) (h : t.length ≤ 1048576) : many8 (pad (sec t 0)) = t.length := by
  have e : (pad (sec t 0)).take 8 = be (t.length : Int) 8 := take_left _ _ _ (by rw [sec, be_length])
  rw [many8, e, valN_be _ (by omega), Nat.mod_eq_of_lt]
  · omega
  · have : (256 : Nat) ^ 8 = 18446744073709551616 := by decide
    omega
theorem dimport_of {d : Dk} {n t : ByteArray} {K : Nat} (hn : nright n = true) (ht : t.size ≤ 1048576) (hd : d.dead = false) (hf : d.find (pfile n) = some K) (hK : (d.file K).now = psecs t.data.toList) : dimport d n = (t.data.toList, 0) := by
  have hl := size_data t
  generalize t.data.toList = T at *
  have h0 := read_psec hd hf hK (k := 0) (by unfold nsecs; omega)
  have hs : d.size (pfile n) = (nsecs T : Int) := by
    rw [Dk.size, hf]
    show (((d.file K).now.length : Nat) : Int) = _
    rw [hK, psecs_len]
  have h0' : d.read (pfile n) 0 = (pad (sec T 0), 0) := h0
  unfold dimport
  rw [hn, if_neg (by simp), h0', if_pos rfl]
  dsimp only
  rw [many8_pad T (by omega), hs, if_neg (by unfold nsecs; omega)]
  exact gat_psecs hd hf hK (T.length + 1) 0 (by omega)
theorem dimport_none {d : Dk} {n : ByteArray} (hn : nright n = true) (hd : d.dead = false) (hf : d.find (pfile n) = none) : dimport d n = ([], 90) := by
  have h0 : d.read (pfile n) 0 = ([], 90) := by unfold Dk.read; rw [hd, hf]; rfl
  unfold dimport
  rw [hn, if_neg (by simp), h0, if_neg (by decide)]
theorem dimport_bad {d : Dk} {n : ByteArray} (hn : nright n = false) : dimport d n = ([], 92) := by
  unfold dimport; rw [hn]; rfl

/-! ### Texts by their names -/
abbrev Tx := ByteArray × ByteArray
def withT (l : List Tx) (t : Tx) : List Tx := l.filter (fun x => !decide (x.1 = t.1)) ++ [t]
def findT : List Tx → ByteArray → ByteArray × Bool
  | [], _ => (⟨#[]⟩, false)
  | x :: r, n => if x.1 = n then (x.2, true) else findT r n
theorem mem_withT {l : List Tx} {t x : Tx} : x ∈ withT l t ↔ (x ∈ l ∧ x.1 ≠ t.1) ∨ x = t := by
  simp [withT, List.mem_filter]
theorem withT_nodup {l : List Tx} (t : Tx) (h : (l.map (·.1)).Nodup) : ((withT l t).map (·.1)).Nodup := by
  rw [withT, List.map_append, List.nodup_append]
  refine ⟨?_, by simp, ?_⟩
  · exact h.sublist (List.filter_sublist.map _)
  · intro a ha b hb
    simp only [List.map_cons, List.map_nil, List.mem_singleton] at hb
    subst hb
    obtain ⟨x, hx, rfl⟩ := List.mem_map.1 ha
    simpa using (List.mem_filter.1 hx).2
theorem findT_of {l : List Tx} (h : (l.map (·.1)).Nodup) {t : Tx} (ht : t ∈ l) : findT l t.1 = (t.2, true) := by
  induction l with
  | nil => cases ht
  | cons x r ih =>
    rw [List.map_cons, List.nodup_cons] at h
    rw [findT]
    rcases List.mem_cons.1 ht with rfl | ht
    · rw [if_pos rfl]
    · rw [if_neg (fun e => h.1 (by rw [e]; exact List.mem_map.2 ⟨t, ht, rfl⟩))]
      exact ih h.2 ht
theorem findT_is {l : List Tx} {n : ByteArray} : (findT l n).2 = true ↔ ∃ t ∈ l, t.1 = n := by
  induction l with
  | nil => simp [findT]
  | cons x r ih =>
    rw [findT]
    by_cases h : x.1 = n
    · rw [if_pos h]; simp [h]
    · rw [if_neg h, ih]; simp [h]
/-- no two alike, all in another list: not longer -/
theorem nodup_len {α : Type} [DecidableEq α] : ∀ {l m : List α}, l.Nodup → (∀ x ∈ l, x ∈ m) → l.length ≤ m.length
  | [], m, _, _ => Nat.zero_le _
  | x :: r, m, h, hs => by
    have h := List.nodup_cons.1 h
    have hx := hs x (.head _)
    have := nodup_len (l := r) (m := m.erase x) h.2 fun y hy => by
      have hne : y ≠ x := fun e => h.1 (e ▸ hy)
      exact (List.mem_erase_of_ne hne).2 (hs y (.tail _ hy))
    have hl := List.length_erase_of_mem hx
    have : 0 < m.length := List.length_pos_of_mem hx
    simp only [List.length_cons]; omega

/-- a disk that holds texts -/
structure Laid (d : Dk) (all : List Tx) (k : Nat) : Prop where
  calm : Calm d
  chs : d.chs = []
  room : d.room = 2000
  files : ∀ f ∈ d.files, f.now.length ≤ 60
  len : d.firm.length ≤ k
  has : ∀ t ∈ all, nright t.1 = true ∧ t.2.size ≤ 30000 ∧ ∃ K, nget d.firm (pfile t.1) = some K ∧ K < d.files.length ∧ d.file K = ⟨psecs t.2.data.toList, psecs t.2.data.toList, []⟩
  only : ∀ p ∈ d.firm, p.name = nPart ∨ ∃ t ∈ all, p.name = pfile t.1
  apart : (all.map (·.1)).Nodup
theorem Laid.names {d : Dk} {all : List Tx} {k : Nat} (h : Laid d all k) : d.names = d.firm := by rw [Dk.names, h.chs]; rfl
theorem Laid.mono {d : Dk} {all : List Tx} {k m : Nat} (h : Laid d all k) (hm : k ≤ m) : Laid d all m := ⟨h.calm, h.chs, h.room, h.files, Nat.le_trans h.len hm, h.has, h.only, h.apart⟩
theorem sum_le' {l : List Nm} {f : Nm → Nat} {B : Nat} (h : ∀ p ∈ l, f p ≤ B) : (l.map f).sum ≤ l.length * B := by
  induction l with
  | nil => simp
  | cons p r ih =>
    have h1 := ih fun q hq => h q (.tail _ hq)
    have h2 := h p (.head _)
    rw [List.map_cons, List.sum_cons, List.length_cons, Nat.add_mul]
    omega
theorem len_le_of {d : Dk} {B : Nat} (h : ∀ f ∈ d.files, f.now.length ≤ B) (k : Nat) : d.len k ≤ B := by
  rw [Dk.len, Dk.file, List.getD_eq_getElem?_getD]
  cases h1 : d.files[k]? with
  | none => simp [Fl.none]
  | some f => exact h f (List.mem_of_getElem? h1)
theorem Laid.use {d : Dk} {all : List Tx} {k : Nat} (h : Laid d all k) : oUse d ≤ k * 60 := by
  have h1 := oUse_le d
  have h2 : d.used ≤ d.names.length * 60 := sum_le' fun p _ => len_le_of h.files p.file
  have h3 : d.names.length ≤ k := by rw [h.names]; exact h.len
  have := Nat.mul_le_mul_right 60 h3
  omega
theorem nsecs_le {t : ByteArray} (h : t.size ≤ 30000) : nsecs t.data.toList ≤ 60 := by
  have := size_data t
  unfold nsecs; omega
theorem file_app {d : Dk} {f : Fl} {k : Nat} : ({ d with files := d.files ++ [f] } : Dk).file k = if k = d.files.length then f else d.file k := by
  simp only [Dk.file, List.getD_eq_getElem?_getD]
  by_cases h : k = d.files.length
  · subst h; simp
  · rw [if_neg h]
    rcases Nat.lt_or_ge k d.files.length with h1 | h1
    · rw [List.getElem?_append_left h1]
    · rw [List.getElem?_eq_none (by simp; omega), List.getElem?_eq_none h1]
theorem nget_putN (l : List Nm) (n m : ByteArray) (K : Nat) : nget (putN l n K) m = if m = pfile n then some K else if m = nPart then none else nget l m := by
  rw [putN, nget_with, nget_without]
theorem mem_putN {l : List Nm} {n : ByteArray} {K : Nat} {p : Nm} (h : p ∈ putN l n K) : p = ⟨pfile n, K⟩ ∨ (p ∈ l ∧ p.name ≠ pfile n ∧ p.name ≠ nPart) := by
  rcases mem_with h with h | ⟨h, h2⟩
  · exact .inl h
  · have := mem_without.1 h
    exact .inr ⟨this.1, h2, this.2⟩
/-- a text is laid -/
theorem Laid.put {d : Dk} {all : List Tx} {k : Nat} (h : Laid d all k) {n t : ByteArray} (hn : nright n = true) (ht : t.size ≤ 30000) :
    Laid { d with files := d.files ++ [⟨psecs t.data.toList, psecs t.data.toList, []⟩], firm := putN d.firm n d.files.length, chs := [] } (withT all (n, t)) (k + 1) := by
  have hfile : ∀ j, ({ d with files := d.files ++ [⟨psecs t.data.toList, psecs t.data.toList, []⟩], firm := putN d.firm n d.files.length, chs := [] } : Dk).file j = if j = d.files.length then ⟨psecs t.data.toList, psecs t.data.toList, []⟩ else d.file j := fun j => file_app
  refine ⟨⟨h.calm.armed, h.calm.denied, h.calm.dead⟩, rfl, h.room, ?_, ?_, ?_, ?_, withT_nodup _ h.apart⟩
  · intro f hf
    rcases List.mem_append.1 hf with hf | hf
    · exact h.files f hf
    · rw [List.mem_singleton.1 hf, psecs_len]; exact nsecs_le ht
  · have h1 := with_len (without d.firm nPart) ⟨pfile n, d.files.length⟩
    have h2 := without_len d.firm nPart
    have h3 := h.len
    show (with_ (without d.firm nPart) ⟨pfile n, d.files.length⟩).length ≤ _
    omega
  · intro x hx
    rcases mem_withT.1 hx with ⟨hx, hne⟩ | rfl
    · obtain ⟨h1, h2, K, h3, h4, h5⟩ := h.has x hx
      refine ⟨h1, h2, K, ?_, by simp; omega, ?_⟩
      · show nget (putN d.firm n d.files.length) _ = _
        rw [nget_putN, if_neg (fun e => hne (pfile_inj e)), if_neg (fun e => pfile_part _ e.symm)]; exact h3
      · rw [hfile, if_neg (by omega)]; exact h5
    · refine ⟨hn, ht, d.files.length, ?_, by simp, by rw [hfile, if_pos rfl]⟩
      show nget (putN d.firm n d.files.length) _ = _
      rw [nget_putN, if_pos rfl]
  · intro p hp
    rcases mem_putN hp with rfl | ⟨h1, h2, h3⟩
    · exact .inr ⟨_, mem_withT.2 (.inr rfl), rfl⟩
    · rcases h.only p h1 with h4 | ⟨x, hx, e⟩
      · exact absurd h4 h3
      · exact .inr ⟨x, mem_withT.2 (.inl ⟨hx, fun e2 => h2 (by rw [e, e2])⟩), e⟩
theorem Laid.export {d : Dk} (hok : d.Ok) {all : List Tx} {k : Nat} (h : Laid d all k) (hk : k ≤ 30) {n t : ByteArray} (ht : t.size ≤ 30000) :
    (nright n = true ∧ ∃ d', dexport d n t = (d', 0) ∧ Laid d' (withT all (n, t)) (k + 1)) ∨ (nright n = false ∧ dexport d n t = (d, 92)) := by
  cases hn : nright n with
  | false => exact .inr ⟨rfl, by unfold dexport; rw [hn]; rfl⟩
  | true =>
    refine .inl ⟨rfl, _, dexport_calm hok h.calm hn (by omega) ?_, by rw [h.names]; exact h.put hn ht⟩
    have := h.use
    have := nsecs_le ht
    rw [h.room]; omega
theorem Laid.import {d : Dk} {all : List Tx} {k : Nat} (h : Laid d all k) {t : Tx} (ht : t ∈ all) : dimport d t.1 = (t.2.data.toList, 0) := by
  obtain ⟨h1, h2, K, h3, _, h5⟩ := h.has t ht
  exact dimport_of h1 (by omega) h.calm.dead (by rw [Dk.find, h.names]; exact h3) (by rw [h5])
theorem Laid.mem {d : Dk} {all : List Tx} {k : Nat} (h : Laid d all k) {s : ByteArray} : s ∈ pnamesD d ↔ s ∈ all.map (·.1) := by
  constructor
  · intro hs
    obtain ⟨p, hp, e⟩ := List.mem_filterMap.1 hs
    rw [h.names] at hp
    obtain ⟨e1, e2⟩ := cut_some.1 e
    rcases h.only p hp with h1 | ⟨t, ht, h1⟩
    · rw [e1] at h1; exact absurd h1.symm (pfile_part s)
    · rw [e1] at h1
      exact List.mem_map.2 ⟨t, ht, (pfile_inj h1).symm⟩
  · intro hs
    obtain ⟨t, ht, rfl⟩ := List.mem_map.1 hs
    obtain ⟨h1, h2, K, h3, _⟩ := h.has t ht
    obtain ⟨p, hp, e, _⟩ := nget_mem h3
    exact List.mem_filterMap.2 ⟨p, by rw [h.names]; exact hp, cut_some.2 ⟨e, h1⟩⟩
theorem pnames_rise {d : Dk} (hok : d.Ok) : (pnamesD d).Pairwise fun a b => a.data.toList < b.data.toList := by
  unfold pnamesD
  refine (List.Pairwise.filterMap (R := fun a b : Nm => a.name.data.toList < b.name.data.toList) _ ?_ hok.names)
  intro a b hab x hx y hy
  obtain ⟨e1, _⟩ := cut_some.1 hx
  obtain ⟨e2, _⟩ := cut_some.1 hy
  rw [e1, e2, pfile_data, pfile_data] at hab
  have h1 := (List.cons_lt_cons_iff.1 hab).resolve_left (by decide)
  exact ((List.cons_lt_cons_iff.1 h1.2).resolve_left (by decide)).2
theorem Laid.same {d : Dk} (hok : d.Ok) {all : List Tx} {k : Nat} (h : Laid d all k) : (pnamesD d).length = all.length := by
  have hn : (pnamesD d).Nodup := (pnames_rise hok).imp fun {a b} h e => by subst e; exact List.lt_irrefl _ h
  have h1 := nodup_len hn fun s hs => h.mem.1 hs
  have h2 := nodup_len h.apart fun s hs => h.mem.2 hs
  rw [List.length_map] at h1 h2
  omega
end Go.Proofs.Ytdpkamajecmebaa
