/- Redo: plain laws of a log on a disk with room on which nothing fails. -/
import Derived.Test.YtjbopmbffajknaaRx
import Derived.Test.YtjbopmbffajknaaRt
set_option linter.unusedVariables false
set_option linter.unusedSimpArgs false
set_option maxRecDepth 100000
namespace Go.Proofs.Ytjbopmbffajknaa
open Go Go.Vc Go.Vault Go.Redo

/-! ### Bytes in sectors -/
def padded (b : List UInt8) : List (List UInt8) := (List.range (nsec b.length)).map fun k => pad (chunk b k)
theorem padded_len (b : List UInt8) : (padded b).length = nsec b.length := by simp [padded]
theorem chunk_len (b : List UInt8) (k : Nat) : (chunk b k).length ≤ 512 := by rw [chunk, List.length_take]; omega
theorem padded_get {b : List UInt8} {k : Nat} (h : k < nsec b.length) : (padded b)[k]? = some (pad (chunk b k)) := by
  rw [padded, List.getElem?_map, List.getElem?_range h]; rfl
theorem padded_drop {b : List UInt8} {k : Nat} (h : k < nsec b.length) : (padded b).drop k = pad (chunk b k) :: (padded b).drop (k + 1) := by
  have hl : k < (padded b).length := by rw [padded_len]; exact h
  rw [List.drop_eq_getElem_cons hl]
  have := padded_get h
  rw [List.getElem?_eq_getElem hl] at this
  rw [Option.some.inj this]
theorem padded_512 (b : List UInt8) : ∀ s ∈ padded b, s.length = 512 := fun s hs => by
  obtain ⟨k, _, rfl⟩ := List.mem_map.1 hs
  exact Redo.pad_len (chunk_len b k)
theorem padded_cons {b : List UInt8} (h : b ≠ []) : padded b = pad (b.take 512) :: padded (b.drop 512) := by
  have h0 : 0 < b.length := List.length_pos_iff.2 h
  have e : nsec b.length = nsec (b.drop 512).length + 1 := by
    rw [List.length_drop]; unfold nsec; omega
  have e2 : ((List.range (nsec (b.drop 512).length)).map ((fun k => pad (chunk b k)) ∘ Nat.succ)) = (List.range (nsec (b.drop 512).length)).map fun k => pad (chunk (b.drop 512) k) := by
    refine List.map_congr_left fun k _ => ?_
    show pad (chunk b (k + 1)) = pad (chunk (b.drop 512) k)
    rw [chunk, chunk, List.drop_drop, show (k + 1) * 512 = 512 + k * 512 by omega]
  rw [padded, e, List.range_succ_eq_map, List.map_cons, List.map_map, e2, padded]
  simp [chunk]
theorem padded_nil : padded [] = [] := rfl
theorem padded_flat : ∀ (n : Nat) (b : List UInt8), b.length ≤ n → (padded b).flatten.take b.length = b
  | n, [], _ => rfl
  | 0, x :: r, h => by simp at h
  | n + 1, x :: r, h => by
    rw [padded_cons (by simp), List.flatten_cons]
    generalize x :: r = b at h ⊢
    by_cases hb : b.length ≤ 512
    · have e1 : b.take 512 = b := List.take_of_length_le hb
      rw [e1, pad, List.append_assoc]
      exact List.take_left' rfl
    · have e1 : (b.take 512).length = 512 := by rw [List.length_take]; omega
      have e2 : pad (b.take 512) = b.take 512 := by rw [pad, e1]; simp
      have ih := padded_flat n (b.drop 512) (by rw [List.length_drop]; omega)
      rw [List.length_drop] at ih
      rw [e2, List.take_append, e1, ih, List.take_of_length_le (by rw [e1]; omega), List.take_append_drop]
/-- the sectors ahead of one are the same, whatever is behind -/
theorem padded_take (b : List UInt8) {n k : Nat} (hk : k * 512 ≤ n) (hn : n ≤ b.length) : (padded (b.take n)).take k = (padded b).take k := by
  have hl : (b.take n).length = n := by rw [List.length_take]; omega
  refine List.ext_getElem? fun j => ?_
  by_cases hj : j < k
  · rw [List.getElem?_take_of_lt hj, List.getElem?_take_of_lt hj]
    have h1 : (j + 1) * 512 ≤ n := Nat.le_trans (Nat.mul_le_mul_right _ hj) hk
    rw [padded_get (by rw [hl]; unfold nsec; omega), padded_get (by unfold nsec; omega)]
    congr 2
    rw [chunk, chunk, List.drop_take, List.take_take, Nat.min_eq_left (by omega)]
  · rw [List.getElem?_eq_none (by rw [List.length_take]; omega), List.getElem?_eq_none (by rw [List.length_take]; omega)]

/-! ### One file of a disk -/
theorem put_put (d : Dk) (k : Nat) (f g : Fl) : (d.put k f).put k g = d.put k g := by simp [Dk.put, List.set_set]
theorem put_self {d : Dk} {k : Nat} (h : k < d.files.length) : d.put k (d.file k) = d := by
  obtain ⟨room, files, firm, chs, a, b, c⟩ := d
  have hk : k < files.length := h
  simp only [Dk.put, Dk.file, Dk.mk.injEq, _root_.and_true, true_and, List.getD_eq_getElem?_getD, List.getElem?_eq_getElem hk, Option.getD_some]
  exact List.set_getElem_self hk
/-- a name, its file, and what the others use -/
structure One (d : Dk) (n : ByteArray) (k o : Nat) : Prop where
  calm : Calm d
  find : d.find n = some k
  lt : k < d.files.length
  used : ∀ f, (d.put k f).used = f.now.length + o
theorem One.put {d : Dk} {n : ByteArray} {k o : Nat} (h : One d n k o) (f : Fl) : One (d.put k f) n k o :=
  ⟨h.calm.put _ _, h.find, by simpa [Dk.put] using h.lt, fun g => by rw [put_put]; exact h.used g⟩
theorem One.used' {d : Dk} {n : ByteArray} {k o : Nat} (h : One d n k o) : d.used = (d.file k).now.length + o := by
  have := h.used (d.file k)
  rwa [put_self h.lt] at this
theorem One.fil {d : Dk} {n : ByteArray} {k o : Nat} (h : One d n k o) (f : Fl) : (d.put k f).file k = f := put_file h.lt f
theorem One.write {d : Dk} {n : ByteArray} {k o i : Nat} (h : One d n k o) {b : List UInt8} (hb : b.length ≤ 512) (hi : i ≤ (d.file k).now.length) (hr : i = (d.file k).now.length → i + o < d.room) :
    d.write n (i : Int) b = (d.put k ((d.file k).write i b), 0) := by
  rcases write_calmG h.calm hb h.find (show i ≤ d.len k from hi) with ⟨_, h1, h2⟩ | ⟨e, _⟩
  · have h3 := hr h1
    rw [h.used'] at h2
    have h1 : i = (d.file k).now.length := h1
    omega
  · exact e
theorem One.sync {d : Dk} {n : ByteArray} {k o : Nat} (h : One d n k o) : d.sync n = (d.put k (d.file k).sync, 0) := sync_calm h.calm h.find
theorem thn0 {r : Dk × Int} {d : Dk} {f : Dk → Dk × Int} (h : r = (d, 0)) : thn r f = f d := by rw [h]; rfl
theorem write_now {f : Fl} {i : Nat} {b : List UInt8} (hi : i ≤ f.now.length) : (f.write i b).now.take (i + 1) = f.now.take i ++ [pad b] := by
  rw [Fl.write]
  dsimp only
  split
  · rename_i h
    rw [h, List.take_length]
    exact List.take_of_length_le (by rw [List.length_append]; exact Nat.le_refl _)
  · rename_i h
    have hlt : i < f.now.length := by omega
    rw [List.take_succ_eq_append_getElem (by rw [List.length_set]; exact hlt), List.getElem_set_self, List.take_set_of_le (Nat.le_refl _)]
theorem dput_one {n : ByteArray} (b : List UInt8) {k o : Nat} : ∀ (m j : Nat) {d : Dk}, One d n k o → 2 + j ≤ (d.file k).now.length → ((d.file k).now.length ≤ 2 + nsec b.length ∨ (d.file k).now.length = 2 + j) → nsec b.length ≤ j + m → o + 2 + nsec b.length ≤ d.room →
    ∃ f, dput n b m j d = (d.put k f, 0) ∧ f.now = (d.file k).now.take (2 + j) ++ (padded b).drop j
  | 0, j, d, h, h1, h2, h3, h4 => by
    refine ⟨d.file k, by rw [dput, put_self h.lt], ?_⟩
    rw [List.drop_eq_nil_of_le (by rw [padded_len]; omega), List.append_nil, List.take_of_length_le (by omega)]
  | m + 1, j, d, h, h1, h2, h3, h4 => by
    rw [dput]
    by_cases hj : b.length ≤ j * 512
    · refine ⟨d.file k, by rw [if_pos hj, put_self h.lt], ?_⟩
      have : nsec b.length ≤ j := by unfold nsec; omega
      rw [List.drop_eq_nil_of_le (by rw [padded_len]; exact this), List.append_nil, List.take_of_length_le (by omega)]
    · rw [if_neg hj]
      have hjn : j < nsec b.length := by unfold nsec; omega
      have hw := h.write (i := 2 + j) (b := chunk b j) (chunk_len b j) h1 (fun _ => by omega)
      have hc : (b.drop (j * 512)).take 512 = chunk b j := rfl
      rw [hc, thn0 hw]
      have hl := write_len (d.file k) (chunk b j) h1
      obtain ⟨f, e1, e2⟩ := dput_one b m (j + 1) (h.put ((d.file k).write (2 + j) (chunk b j))) (by rw [h.fil, hl]; omega) (by rw [h.fil, hl]; omega) (by omega) h4
      refine ⟨f, by rw [e1, put_put], ?_⟩
      rw [e2, h.fil, show 2 + (j + 1) = 2 + j + 1 by omega, write_now h1, padded_drop hjn]
      simp
theorem dwrite_one {d : Dk} {n : ByteArray} (b : List UInt8) {k o from_ : Nat} (h : One d n k o) (h1 : 2 + from_ / 512 ≤ (d.file k).now.length) (h2 : (d.file k).now.length ≤ 2 + nsec b.length) (h4 : o + 2 + nsec b.length ≤ d.room) :
    ∃ f, dwrite d n b from_ = (d.put k f, 0) ∧ f.now = (d.file k).now.take (2 + from_ / 512) ++ (padded b).drop (from_ / 512) :=
  dput_one b _ _ h h1 (.inl h2) (by unfold nsec; omega) h4
theorem sealB_pad (m f : Nat) : pad (sealB m f) = sealB m f := by rw [pad, sealB_len, Nat.sub_self]; simp
theorem dseal_one {d : Dk} {n : ByteArray} {k o : Nat} (h : One d n k o) (h1 : 2 ≤ (d.file k).now.length) (m f : Nat) : ∃ g, dseal d n m f = (d.put k g, 0) ∧ g.now = (d.file k).now.set (m % 2) (sealB m f) := by
  have hs : (sealB m f).length ≤ 512 := by rw [sealB_len]; omega
  have h2 : m % 2 < 2 := Nat.mod_lt _ (by omega)
  have e1 := h.sync
  have p1 := h.put (d.file k).sync
  have hw := p1.write (i := m % 2) hs (by rw [h.fil]; show _ ≤ (d.file k).now.length; omega) (by rw [h.fil]; intro h3; have h3 : m % 2 = (d.file k).now.length := h3; omega)
  rw [put_put, h.fil] at hw
  have p2 := h.put ((d.file k).sync.write (m % 2) (sealB m f))
  have e3 := p2.sync
  rw [put_put, h.fil] at e3
  refine ⟨_, by rw [dseal, thn0 e1, thn0 hw, e3], ?_⟩
  show (Fl.write _ _ _).now = _
  have hne : ¬ m % 2 = (d.file k).sync.now.length := by show ¬ m % 2 = (d.file k).now.length; omega
  rw [Fl.write]
  dsimp only
  rw [if_neg hne, sealB_pad]; rfl

/-! ### Marks -/
def lookS (s : List UInt8) : Option (Nat × Nat) := if s.take 8 = s.drop 504 then some (valN (s.take 8), valN ((s.drop 8).take 8)) else none
theorem lookS_seal {m f : Nat} (hm : m < 9223372036854775808) (hf : f < 9223372036854775808) : lookS (sealB m f) = some (m, f) := by
  have e1 : (sealB m f).take 8 = be (m : Int) 8 := List.take_left' (be_length _ _)
  have e2 : (sealB m f).drop 8 = be (f : Int) 8 ++ (List.replicate 488 0 ++ be (m : Int) 8) := List.drop_left' (be_length _ _)
  have e3 : (sealB m f).drop 504 = be (m : Int) 8 := by
    rw [show 504 = 8 + (8 + 488) by rfl, ← List.drop_drop, ← List.drop_drop, e2, List.drop_left' (be_length _ _)]
    exact List.drop_left' (by simp)
  have e4 : ((sealB m f).drop 8).take 8 = be (f : Int) 8 := by rw [e2]; exact List.take_left' (be_length _ _)
  have v1 := valN_be' (n := (m : Int)) (k := 8) (by omega) (by omega)
  have v2 := valN_be' (n := (f : Int)) (k := 8) (by omega) (by omega)
  rw [lookS, e1, e3, if_pos rfl, e4]
  congr 2 <;> omega
theorem lookS_zero : lookS zsec = some (0, 0) := by decide +kernel
/-- the marks of a file of which so much lasts -/
structure Marks (s0 s1 : List UInt8) (mark firm : Nat) : Prop where
  pos : 0 < mark
  here : lookS (if mark % 2 = 0 then s0 else s1) = some (mark, firm)
  there : ∀ p, lookS (if mark % 2 = 0 then s1 else s0) = some p → p.1 < mark
theorem Marks.best {s0 s1 : List UInt8} {mark firm : Nat} (h : Marks s0 s1 mark firm) : better (better (0, 0) (lookS s0)) (lookS s1) = (mark, firm) := by
  have h1 := h.here
  have h2 := h.there
  have h0 := h.pos
  by_cases hm : mark % 2 = 0
  · rw [if_pos hm] at h1 h2
    have e1 : better (0, 0) (lookS s0) = (mark, firm) := by rw [h1, better, if_pos h0]
    rw [e1]
    cases hp : lookS s1 with
    | none => rfl
    | some p => rw [better, if_neg (by have := h2 p hp; show ¬ mark < p.1; omega)]
  · rw [if_neg hm] at h1 h2
    rw [h1]
    have : (better (0, 0) (lookS s0)).1 < mark := by
      cases hp : lookS s0 with
      | none => exact h0
      | some p =>
        rw [better]
        split
        · exact h2 p hp
        · exact h0
    rw [better, if_pos this]
theorem Marks.next {s0 s1 : List UInt8} {mark firm : Nat} (h : Marks s0 s1 mark firm) {f : Nat} (hm : mark + 1 < 9223372036854775808) (hf : f < 9223372036854775808) :
    Marks (if (mark + 1) % 2 = 0 then sealB (mark + 1) f else s0) (if (mark + 1) % 2 = 0 then s1 else sealB (mark + 1) f) (mark + 1) f := by
  have h1 := h.here
  have hs := lookS_seal hm hf
  by_cases hk : mark % 2 = 0
  · have hk2 : ¬ (mark + 1) % 2 = 0 := by omega
    rw [if_pos hk] at h1
    simp only [if_neg hk2]
    refine ⟨by omega, by rw [if_neg hk2]; exact hs, fun p hp => ?_⟩
    rw [if_neg hk2, h1] at hp
    cases hp
    exact Nat.lt_succ_self _
  · have hk2 : (mark + 1) % 2 = 0 := by omega
    rw [if_neg hk] at h1
    simp only [if_pos hk2]
    refine ⟨by omega, by rw [if_pos hk2]; exact hs, fun p hp => ?_⟩
    rw [if_pos hk2, h1] at hp
    cases hp
    exact Nat.lt_succ_self _
end Go.Proofs.Ytjbopmbffajknaa
/- Redo: what stands in the file of a log as long as nothing fails, and what is found there. -/
namespace Go.Proofs.Ytjbopmbffajknaa
open Go Go.Vc Go.Vault Go.Redo

/-- the log's name alone, or none -/
inductive Lone (d : Dk) : Nat → Prop where
  | none (h : d.firm = []) : Lone d 0
  | one (K : Nat) (h : d.firm = [⟨nLog, K⟩]) (hk : K < d.files.length) : Lone d (d.file K).now.length
theorem with0 (k : Nat) : with_ [] ⟨nNew, k⟩ = [⟨nNew, k⟩] := rfl
theorem with1 (K k : Nat) : with_ [⟨nLog, K⟩] ⟨nNew, k⟩ = [⟨nLog, K⟩, ⟨nNew, k⟩] := by kernel_rfl
theorem ren0 (k : Nat) : with_ (without [⟨nNew, k⟩] nNew) ⟨nLog, k⟩ = [⟨nLog, k⟩] := by kernel_rfl
theorem ren1 (K k : Nat) : with_ (without [⟨nLog, K⟩, ⟨nNew, k⟩] nNew) ⟨nLog, k⟩ = [⟨nLog, k⟩] := by kernel_rfl
theorem file_new {d : Dk} {c : Ch} {g : Fl} {K : Nat} (h : K < d.files.length) : (Dk.change { d with files := d.files ++ [g] } c).file K = d.file K := by
  show (d.files ++ [g]).getD K Fl.none = d.files.getD K Fl.none
  rw [List.getD_eq_getElem?_getD, List.getD_eq_getElem?_getD, List.getElem?_append_left h]
theorem put_other {d : Dk} {k K : Nat} (f : Fl) (h : K ≠ k) : (d.put k f).file K = d.file K := by
  show (d.files.set k f).getD K Fl.none = d.files.getD K Fl.none
  rw [List.getD_eq_getElem?_getD, List.getD_eq_getElem?_getD, List.getElem?_set_ne (by omega)]
theorem nNew_right : Vault.right nNew = true := by decide +kernel
theorem nLog_right : Vault.right nLog = true := by decide +kernel
/-- a new file beside it -/
theorem create_one {d : Dk} {o : Nat} (hc : Calm d) (hchs : d.chs = []) (hl : Lone d o) : ∃ d1, d.create nNew = (d1, 0) ∧ One d1 nNew d.files.length o ∧ d1.file d.files.length = Fl.none ∧ d1.room = d.room ∧ ∀ f, ((d1.put d.files.length f).change (.rename nNew nLog d.files.length)).names = [⟨nLog, d.files.length⟩] := by
  refine ⟨_, create_calm hc nNew_right, ⟨⟨hc.armed, hc.denied, hc.dead⟩, ?_, by simp [Dk.change], ?_⟩, ?_, rfl, ?_⟩
  · rw [find_change, Ch.on, nget_with, if_pos rfl]
  · intro f
    have e0 : (Dk.put (Dk.change { d with files := d.files ++ [Fl.none] } (.create nNew d.files.length)) d.files.length f).names = with_ (ons d.firm d.chs) ⟨nNew, d.files.length⟩ := by
      show ons d.firm (d.chs ++ [Ch.create nNew d.files.length]) = _
      simp [ons, Ch.on]
    have ef : (Dk.put (Dk.change { d with files := d.files ++ [Fl.none] } (.create nNew d.files.length)) d.files.length f).len d.files.length = f.now.length := put_len (by simp [Dk.change]) f
    have eK : ∀ K, K < d.files.length → (Dk.put (Dk.change { d with files := d.files ++ [Fl.none] } (.create nNew d.files.length)) d.files.length f).len K = (d.file K).now.length := fun K hk => by
      rw [Dk.len, put_other _ (by omega), file_new hk]
    generalize Dk.put (Dk.change { d with files := d.files ++ [Fl.none] } (.create nNew d.files.length)) d.files.length f = q at e0 ef eK ⊢
    rw [Dk.used, e0, hchs]
    show ((with_ d.firm _).map _).sum = _
    cases hl with
    | none h => rw [h, with0]; simp [ef]
    | one K h hk => rw [h, with1]; simp [ef, eK K hk]; omega
  · rw [Dk.file]
    simp [Dk.change, Fl.none]
  · intro f
    have e0 : (Dk.change (Dk.put (Dk.change { d with files := d.files ++ [Fl.none] } (.create nNew d.files.length)) d.files.length f) (.rename nNew nLog d.files.length)).names = with_ (without (with_ (ons d.firm d.chs) ⟨nNew, d.files.length⟩) nNew) ⟨nLog, d.files.length⟩ := by
      show ons d.firm ((d.chs ++ [Ch.create nNew d.files.length]) ++ [Ch.rename nNew nLog d.files.length]) = _
      simp [ons, Ch.on]
    rw [e0, hchs]
    show with_ (without (with_ d.firm _) nNew) _ = _
    cases hl with
    | none h => rw [h, with0, ren0]
    | one K h hk => rw [h, with1, ren1]
/-- what was made lasts -/
structure Made (d : Dk) (now : List (List UInt8)) : Prop where
  calm : Calm d
  chs : d.chs = []
  file : ∃ k, d.firm = [⟨nLog, k⟩] ∧ k < d.files.length ∧ (d.file k).now = now
theorem Made.lone {d : Dk} {now : List (List UInt8)} (h : Made d now) : Lone d now.length := by
  obtain ⟨k, h1, h2, rfl⟩ := h.file
  exact .one k h1 h2
theorem zpad : pad [] = zsec := rfl
theorem drenew_made {d : Dk} {o : Nat} (hc : Calm d) (hchs : d.chs = []) (hl : Lone d o) (all : List ByteArray) (hr : o + 2 + nsec (framedAll all).length ≤ d.room) :
    ∃ d', drenew d nLog all = (d', 0) ∧ d'.room = d.room ∧ Made d' (zsec :: sealB 1 (framedAll all).length :: padded (framedAll all)) := by
  obtain ⟨d1, e1, o1, f1, r1, n1⟩ := create_one hc hchs hl
  have w0 := o1.write (i := 0) (b := []) (by simp) (Nat.zero_le _) (fun _ => by rw [r1]; omega)
  rw [f1] at w0
  have o2 := o1.put (Fl.none.write 0 [])
  have g2 : (Fl.none.write 0 []).now = [zsec] := by simp [Fl.write, Fl.none, zpad]
  have w1 := o2.write (i := 1) (b := []) (by simp) (by rw [o1.fil, g2]; exact Nat.le_refl _) (fun _ => by show _ < d1.room; rw [r1]; omega)
  rw [o1.fil, put_put] at w1
  have o3 := o1.put ((Fl.none.write 0 []).write 1 [])
  have g3 : ((Fl.none.write 0 []).write 1 []).now = [zsec, zsec] := by rw [Fl.write, g2]; simp [zpad]
  obtain ⟨f, e4, g4⟩ := dwrite_one (framedAll all) (from_ := 0) o3 (by rw [o1.fil, g3]; exact Nat.le_refl _) (by rw [o1.fil, g3]; simp) (by show _ ≤ d1.room; rw [r1]; exact hr)
  rw [o1.fil, g3] at g4
  rw [put_put] at e4
  have g4 : f.now = zsec :: zsec :: padded (framedAll all) := by simpa using g4
  have o4 := o1.put f
  obtain ⟨g, e5, g5⟩ := dseal_one o4 (by rw [o1.fil, g4]; simp) 1 (framedAll all).length
  rw [o1.fil, g4] at g5
  rw [put_put] at e5
  have g5 : g.now = zsec :: sealB 1 (framedAll all).length :: padded (framedAll all) := by simpa using g5
  have e6 : dfill d (newN nLog) (framedAll all) = (d1.put d.files.length g, 0) := by
    exact (thn0 ((thn0 ((thn0 ((thn0 e1).trans w0)).trans w1)).trans e4)).trans e5
  have o5 := o1.put g
  have e7 : (d1.put d.files.length g).rename (newN nLog) nLog = _ := rename_calm o5.calm o5.find nLog_right nNew_ne
  have e8 : drenew d nLog all = _ := (thn0 ((thn0 e6).trans e7)).trans (syncNames_calm (o5.calm.change _))
  refine ⟨_, e8, r1, ⟨o5.calm.armed, o5.calm.denied, o5.calm.dead⟩, rfl, d.files.length, n1 g, by simpa [Dk.change] using o5.lt, ?_⟩
  show ((d1.put d.files.length g).file d.files.length).now = _
  rw [o1.fil, g5]

/-! ### A log at work -/
structure Inv (d : Dk) (l : Lg) : Prop where
  room : d.room = 2000
  name : l.name = nLog
  code : l.code = 0
  b : l.b = framedAll l.all
  short : ∀ s ∈ l.all, s.size ≤ 65536
  many : l.many ≤ l.all.length
  firm : l.firm ≤ l.b.length
  lasts : l.b.take l.firm = framedAll (l.all.take l.many)
  made : ∃ s0 s1, Made d (s0 :: s1 :: padded (l.b.take l.firm)) ∧ Marks s0 s1 l.mark l.firm
theorem Made.one {d : Dk} {now : List (List UInt8)} (h : Made d now) : ∃ k, One d nLog k 0 ∧ (d.file k).now = now ∧ d.firm = [⟨nLog, k⟩] := by
  obtain ⟨k, h1, h2, h3⟩ := h.file
  have hn : d.names = [⟨nLog, k⟩] := by rw [Dk.names, h.chs, h1]; rfl
  refine ⟨k, ⟨h.calm, by rw [Dk.find, hn]; simp [nget], h2, fun f => ?_⟩, h3, h1⟩
  have : (d.put k f).names = [⟨nLog, k⟩] := hn
  rw [Dk.used, this]
  simp [put_len h2]
theorem Made.put {d : Dk} {now : List (List UInt8)} (h : Made d now) {k : Nat} (hk : d.firm = [⟨nLog, k⟩]) (hlt : k < d.files.length) (f : Fl) : Made (d.put k f) f.now :=
  ⟨h.calm.put _ _, h.chs, k, hk, by simpa [Dk.put] using hlt, by rw [put_file hlt]⟩
theorem marks_new {n : Nat} (h : n < 9223372036854775808) : Marks zsec (sealB 1 n) 1 n := by
  refine ⟨by omega, by rw [if_neg (by omega)]; exact lookS_seal (by omega) h, fun p hp => ?_⟩
  rw [if_neg (by omega), lookS_zero] at hp
  cases hp; exact Nat.zero_lt_one
theorem framedAll_nil : framedAll [] = [] := rfl
theorem take_all (b : List UInt8) : b.take b.length = b := List.take_of_length_le (Nat.le_refl _)
/-- made anew -/
theorem inv_anew {d' : Dk} {l : Lg} {all : List ByteArray} (hn : l.name = nLog) (hc : l.code = 0) (hr : d'.room = 2000) (hs : ∀ s ∈ all, s.size ≤ 65536) (hl : (framedAll all).length < 9223372036854775808) (hm : Made d' (zsec :: sealB 1 (framedAll all).length :: padded (framedAll all))) : Inv d' (l.anew all) := by
  refine ⟨hr, hn, hc, rfl, hs, Nat.le_refl _, Nat.le_refl _, ?_, zsec, sealB 1 (framedAll all).length, ?_, marks_new hl⟩
  · show (framedAll all).take (framedAll all).length = framedAll (all.take all.length)
    rw [take_all, List.take_length]
  · show Made d' (zsec :: sealB 1 (framedAll all).length :: padded ((framedAll all).take (framedAll all).length))
    rw [take_all]; exact hm
theorem nsec_mono {a b : Nat} (h : a ≤ b) : nsec a ≤ nsec b := by unfold nsec; omega
theorem inv_reset {d : Dk} {l : Lg} (h : Inv d l) (all : List ByteArray) (hb : nsec l.b.length + nsec (framedAll all).length ≤ 1990) :
    (tooLong all = true ∧ resetP d l all = (d, l, 101)) ∨ (tooLong all = false ∧ ∃ d', resetP d l all = (d', l.anew all, 0) ∧ Inv d' (l.anew all)) := by
  unfold resetP
  cases ht : tooLong all with
  | true => exact .inl ⟨rfl, rfl⟩
  | false =>
    right
    obtain ⟨s0, s1, hm, _⟩ := h.made
    have hlen : (s0 :: s1 :: padded (l.b.take l.firm)).length = 2 + nsec l.firm := by
      have := h.firm
      rw [List.length_cons, List.length_cons, padded_len, List.length_take, Nat.min_eq_left this]; omega
    have hmono := nsec_mono h.firm
    obtain ⟨d', e, hr, hmade⟩ := drenew_made hm.calm hm.chs hm.lone all (by rw [hlen, h.room]; omega)
    have hshort : ∀ s ∈ all, s.size ≤ 65536 := by
      intro s hs
      simp only [tooLong, List.any_eq_false, decide_eq_true_eq] at ht
      have := ht s hs; omega
    have hl : (framedAll all).length < 9223372036854775808 := by unfold nsec at hb; omega
    refine ⟨rfl, d', ?_, inv_anew h.name h.code (hr.trans h.room) hshort hl hmade⟩
    rw [h.code, h.name, e]; rfl
theorem inv_flush {d : Dk} {l : Lg} (h : Inv d l) (hb : nsec l.b.length ≤ 1990) (hm : l.mark ≤ 1000000) :
    ∃ d', flushP d l = (d', { l with mark := l.mark + 1, firm := l.b.length, many := l.all.length }, 0) ∧ Inv d' { l with mark := l.mark + 1, firm := l.b.length, many := l.all.length } := by
  obtain ⟨s0, s1, hmd, hmk⟩ := h.made
  obtain ⟨k, o, hnow, hfirm⟩ := hmd.one
  have hlen : (d.file k).now.length = 2 + nsec l.firm := by
    have := h.firm
    rw [hnow, List.length_cons, List.length_cons, padded_len, List.length_take, Nat.min_eq_left this]; omega
  have hmono := nsec_mono h.firm
  obtain ⟨f, e1, g1⟩ := dwrite_one l.b (from_ := l.firm) o (by rw [hlen]; unfold nsec; omega) (by rw [hlen]; omega) (by rw [h.room]; omega)
  have g1 : f.now = s0 :: s1 :: padded l.b := by
    rw [g1, hnow, show 2 + l.firm / 512 = l.firm / 512 + 1 + 1 by omega, List.take_succ_cons, List.take_succ_cons, padded_take l.b (by omega) h.firm]
    simp
  obtain ⟨g, e2, g2⟩ := dseal_one (o.put f) (by rw [o.fil, g1]; simp) (l.mark + 1) l.b.length
  rw [put_put] at e2
  rw [o.fil, g1] at g2
  refine ⟨d.put k g, ?_, h.room, h.name, h.code, h.b, h.short, Nat.le_refl _, Nat.le_refl _, ?_, ?_⟩
  · unfold flushP
    rw [h.code, h.name, thn0 e1, e2]; rfl
  · show l.b.take l.b.length = framedAll (l.all.take l.all.length)
    rw [take_all, List.take_length, h.b]
  · refine ⟨_, _, ?_, hmk.next (f := l.b.length) (by omega) (by unfold nsec at hb; omega)⟩
    have hp := hmd.put hfirm o.lt g
    rw [g2] at hp
    show Made (d.put k g) (_ :: _ :: padded (l.b.take l.b.length))
    rw [take_all]
    by_cases h2 : (l.mark + 1) % 2 = 0
    · rw [h2] at hp
      rw [if_pos h2, if_pos h2]
      exact hp
    · have h3 : (l.mark + 1) % 2 = 1 := by omega
      rw [h3] at hp
      rw [if_neg h2, if_neg h2]
      exact hp
theorem inv_append {d : Dk} {l : Lg} (h : Inv d l) (s : ByteArray) : (65536 < s.size ∧ l.append s = (l, 101)) ∨ (s.size ≤ 65536 ∧ l.append s = ({ l with b := framed l.b s, all := l.all ++ [s] }, 0) ∧ Inv d { l with b := framed l.b s, all := l.all ++ [s] }) := by
  unfold Lg.append
  by_cases hs : 65536 < s.size
  · rw [if_pos hs]; exact .inl ⟨hs, rfl⟩
  · rw [if_neg hs]
    refine .inr ⟨by omega, rfl, ?_⟩
    have hf := h.firm
    have ht : (framed l.b s).take l.firm = l.b.take l.firm := by rw [framed, List.take_append_of_le_length hf]
    obtain ⟨s0, s1, hmd, hmk⟩ := h.made
    refine ⟨h.room, h.name, h.code, ?_, ?_, ?_, ?_, ?_, s0, s1, ?_, hmk⟩
    · show framed l.b s = framedAll (l.all ++ [s])
      rw [h.b, framedAll, framedAll, List.foldl_append]; rfl
    · intro t ht
      rcases List.mem_append.1 ht with ht | ht
      · exact h.short t ht
      · rw [List.mem_singleton.1 ht]; omega
    · show l.many ≤ (l.all ++ [s]).length
      have := h.many
      rw [List.length_append]; omega
    · show l.firm ≤ (framed l.b s).length
      rw [framed, List.length_append]; omega
    · show (framed l.b s).take l.firm = framedAll ((l.all ++ [s]).take l.many)
      rw [ht, List.take_append_of_le_length h.many, h.lasts]
    · show Made d (s0 :: s1 :: padded ((framed l.b s).take l.firm))
      rw [ht]; exact hmd
/-- sectors, one behind the other -/
theorem gath_val {d : Dk} (hd : d.dead = false) {n : ByteArray} {k F : Nat} (hk : d.find n = some k) {s0 s1 : List UInt8} {P : List (List UInt8)} (hnow : (d.file k).now = s0 :: s1 :: P) (hP : ∀ s ∈ P, s.length = 512) (hF : F ≤ P.length * 512) :
    ∀ (m j : Nat), P.length ≤ j + m → ∃ J, gath d n F m (2 + j) (P.take j).flatten = ((P.take J).flatten, 0) ∧ F ≤ (P.take J).flatten.length := by
  have hfl : ∀ (Q : List (List UInt8)), (∀ s ∈ Q, s.length = 512) → Q.flatten.length = Q.length * 512 := by
    intro Q
    induction Q with
    | nil => intro _; rfl
    | cons s r ih =>
      intro h
      rw [List.flatten_cons, List.length_append, h s (.head _), ih fun t ht => h t (.tail _ ht), List.length_cons]; omega
  intro m
  induction m with
  | zero =>
    intro j hj
    refine ⟨j, rfl, ?_⟩
    rw [List.take_of_length_le (by omega), hfl P hP]; exact hF
  | succ m ih =>
    intro j hj
    rw [gath]
    by_cases h1 : F ≤ (P.take j).flatten.length
    · rw [if_pos h1]; exact ⟨j, rfl, h1⟩
    · rw [if_neg h1]
      have hlt : j < P.length := by
        by_cases h : j < P.length
        · exact h
        · rw [List.take_of_length_le (by omega), hfl P hP] at h1
          exact absurd hF h1
      have hlen : d.len k = P.length + 2 := by rw [Dk.len, hnow]; rfl
      have hr := read_ok hd hk (i := 2 + j) (by omega)
      have hg : (d.file k).now.getD (2 + j) [] = P[j] := by
        rw [hnow, show 2 + j = j + 1 + 1 by omega]
        simp [List.getD_eq_getElem?_getD, List.getElem?_eq_getElem hlt]
      rw [hr, hg, if_pos rfl]
      obtain ⟨J, e1, e2⟩ := ih (j + 1) (by omega)
      refine ⟨J, ?_, e2⟩
      rw [← e1, List.take_succ_eq_append_getElem hlt, List.flatten_append, show 2 + (j + 1) = 2 + j + 1 by omega]
      simp
theorem look_of {d : Dk} (hd : d.dead = false) {n : ByteArray} {k : Nat} (hk : d.find n = some k) {i : Nat} (hi : i < d.len k) : lookP d n i = lookS ((d.file k).now.getD i []) := by
  rw [lookP, read_ok hd hk hi, lookS]; simp
theorem inv_find {d : Dk} {l : Lg} (h : Inv d l) : findP d nLog = (0, ⟨nLog, l.mark, l.b.take l.firm, l.firm, (l.all.take l.many).length, l.all.take l.many, 0⟩) := by
  obtain ⟨s0, s1, hmd, hmk⟩ := h.made
  obtain ⟨k, o, hnow, hfirm⟩ := hmd.one
  have hf := h.firm
  have hlb : (l.b.take l.firm).length = l.firm := by rw [List.length_take]; omega
  have hlen : d.len k = 2 + nsec l.firm := by rw [Dk.len, hnow, List.length_cons, List.length_cons, padded_len, hlb]; omega
  have hs : d.size nLog = ((2 + nsec l.firm : Nat) : Int) := by simp [Dk.size, o.find, hlen]
  have hm : mark2 d nLog = (l.mark, l.firm) := by
    rw [mark2, show ((0 : Nat)) = 0 from rfl, look_of hmd.calm.dead o.find (by omega), look_of hmd.calm.dead o.find (by omega), hnow]
    exact hmk.best
  obtain ⟨J, e1, e2⟩ := gath_val (F := l.firm) hmd.calm.dead o.find hnow (padded_512 _) (by rw [padded_len, hlb]; unfold nsec; omega) (l.firm + 1) 0 (by rw [padded_len, hlb]; unfold nsec; omega)
  have e3 : ((padded (l.b.take l.firm)).take J).flatten.take l.firm = l.b.take l.firm := by
    have h1 := padded_flat _ (l.b.take l.firm) (Nat.le_refl _)
    rw [hlb] at h1
    have h2 : (padded (l.b.take l.firm)).flatten = ((padded (l.b.take l.firm)).take J).flatten ++ ((padded (l.b.take l.firm)).drop J).flatten := by
      rw [← List.flatten_append, List.take_append_drop]
    rw [h2, List.take_append_of_le_length e2] at h1
    exact h1
  have e4 : gath d nLog l.firm (l.firm + 1) 2 [] = (((padded (l.b.take l.firm)).take J).flatten, 0) := e1
  unfold findP
  rw [hs, hm, if_neg (by unfold nsec; omega)]
  dsimp only
  rw [e4, if_pos rfl]
  dsimp only
  rw [e3, h.lasts, records_framed fun s hs => h.short s (List.mem_of_mem_take hs)]
theorem inv_open {d : Dk} {l : Lg} (h : Inv d l) : openP d nLog = (d, 0, ⟨nLog, l.mark, l.b.take l.firm, l.firm, (l.all.take l.many).length, l.all.take l.many, 0⟩) := by
  obtain ⟨s0, s1, hmd, hmk⟩ := h.made
  obtain ⟨k, o, hnow, hfirm⟩ := hmd.one
  have hlen : d.len k = (padded (l.b.take l.firm)).length + 2 := by rw [Dk.len, hnow]; rfl
  have hs : d.size nLog = (((padded (l.b.take l.firm)).length + 2 : Nat) : Int) := by simp [Dk.size, o.find, hlen]
  unfold openP
  rw [if_neg (by rw [hmd.calm.dead]; simp), if_neg (by decide), if_pos (by rw [hs]; omega), inv_find h]
/-- the first opening -/
theorem inv_first : ∃ d l, openP (Dk.new 2000) nLog = (d, 0, l) ∧ Inv d l ∧ l.all = [] ∧ l.many = 0 ∧ l.b = [] ∧ l.mark = 1 := by
  obtain ⟨d', e, hr, hm⟩ := drenew_made (new_calm 2000) rfl (o := 0) (Lone.none rfl) [] (by decide)
  refine ⟨d', (Lg.none nLog).anew [], ?_, inv_anew rfl rfl hr (by simp) (by decide) hm, rfl, rfl, rfl, rfl⟩
  unfold openP
  rw [if_neg (by simp [Dk.new]), if_neg (by decide), if_neg (by decide), e]
end Go.Proofs.Ytjbopmbffajknaa
