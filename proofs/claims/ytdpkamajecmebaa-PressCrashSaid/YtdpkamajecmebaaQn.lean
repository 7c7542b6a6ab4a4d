/- Press: an Export that is cut off, and a crash. -/
import Derived.Test.YtdpkamajecmebaaQi
set_option linter.unusedVariables false
set_option linter.unusedSimpArgs false
set_option maxRecDepth 100000
namespace Go.Proofs.Ytdpkamajecmebaa
open Go Go.Vc Go.Vault Go.Redo Go.Press

/-- a disk in the midst of an Export: but for its flags -/
structure Mid (d q : Dk) (f : Fl) (cs : List Ch) : Prop where
  room : q.room = d.room
  files : q.files = d.files ++ [f]
  firm : q.firm = d.firm
  chs : q.chs = cs
theorem Mid.dies {d q : Dk} {f : Fl} {cs : List Ch} (h : Mid d q f cs) : Mid d q.dies f cs := by
  unfold Dk.dies; split
  · exact ⟨h.room, h.files, h.firm, h.chs⟩
  · exact h
theorem Mid.denies {d q : Dk} {f : Fl} {cs : List Ch} (h : Mid d q f cs) : Mid d q.denies f cs := ⟨h.room, h.files, h.firm, h.chs⟩
theorem Mid.calm {d q : Dk} {f : Fl} {cs : List Ch} (h : Mid d q f cs) (i j : Int) : Mid d ((q.arm i).deny j) f cs := ⟨h.room, h.files, h.firm, h.chs⟩
theorem Mid.put {d q : Dk} {f : Fl} {cs : List Ch} (h : Mid d q f cs) (g : Fl) : Mid d (q.put d.files.length g) g cs := by
  refine ⟨h.room, ?_, h.firm, h.chs⟩
  show q.files.set d.files.length g = _
  rw [h.files, List.set_append_right _ _ (Nat.le_refl _), Nat.sub_self]; rfl
theorem Mid.change {d q : Dk} {f : Fl} {cs : List Ch} (h : Mid d q f cs) (c : Ch) : Mid d (q.change c) f (cs ++ [c]) :=
  ⟨h.room, h.files, h.firm, by show q.chs ++ [c] = _; rw [h.chs]⟩
theorem Mid.file {d q : Dk} {f : Fl} {cs : List Ch} (h : Mid d q f cs) : q.file d.files.length = f := by
  rw [Dk.file, h.files]; simp [List.getD_eq_getElem?_getD]
section
variable {d : Dk} (hok : d.Ok) (hc : Calm d) (hchs : d.chs = [])
theorem mid_names {q : Dk} {f : Fl} (h : Mid d q f [.create nPart d.files.length]) : q.names = with_ d.firm ⟨nPart, d.files.length⟩ := by
  rw [Dk.names, h.firm, h.chs]; rfl
theorem mid_find {q : Dk} {f : Fl} (h : Mid d q f [.create nPart d.files.length]) : q.find nPart = some d.files.length := by
  rw [Dk.find, mid_names h, nget_with, if_pos rfl]
include hok hc hchs in
theorem mid_used {q : Dk} {f : Fl} (h : Mid d q f [.create nPart d.files.length]) : q.used = f.now.length + oUse d := by
  have h1 := (made_one hok hc).used f
  rw [← h1]
  have e1 : q.names = ((Dk.change { d with files := d.files ++ [Fl.none] } (.create nPart d.files.length)).put d.files.length f).names := by
    rw [mid_names h]
    show _ = (Dk.change { d with files := d.files ++ [Fl.none] } (.create nPart d.files.length)).names
    rw [Dk.change_names]
    show _ = with_ d.names _
    rw [Dk.names, hchs]; rfl
  have e2 : q.files = ((Dk.change { d with files := d.files ++ [Fl.none] } (.create nPart d.files.length)).put d.files.length f).files := by
    rw [h.files]
    show _ = (d.files ++ [Fl.none]).set d.files.length f
    rw [List.set_append_right _ _ (Nat.le_refl _), Nat.sub_self]; rfl
  simp only [Dk.used, Dk.len, Dk.file, e1, e2]
def Cut (d : Dk) (r : Dk × Int) (b : Nat) : Prop := (r.2 = 93 ∨ r.2 = 95) ∧ ∃ f, f.now.length ≤ b ∧ Mid d r.1 f [.create nPart d.files.length]
include hok hc hchs in
theorem mid_write {q : Dk} {f : Fl} (h : Mid d q f [.create nPart d.files.length]) (hd : q.dead = false) {k : Nat} (hk : f.now.length = k) {b : List UInt8} (hb : b.length ≤ 512) (hr : k + oUse d < d.room) :
    ((q.write nPart (k : Int) b).2 = 0 ∧ (q.write nPart (k : Int) b).1.dead = false ∧ Mid d (q.write nPart (k : Int) b).1 (f.write k b) [.create nPart d.files.length]) ∨ Cut d (q.write nPart (k : Int) b) (k + 1) := by
  have hf := mid_find h
  have hu := mid_used hok hc hchs h
  have hl : q.len d.files.length = k := by rw [Dk.len, h.file, hk]
  have hp : ¬((k : Int) < 0 ∨ (q.len d.files.length : Int) < (k : Int) ∨ 512 < b.length) := by rw [hl]; omega
  have hroom : ¬((k : Int) = (q.len d.files.length : Int) ∧ q.room ≤ q.used) := by rw [h.room, hu]; omega
  have e : q.write nPart (k : Int) b = if q.refused then (q.denies, 95) else
    ((q.denies.put d.files.length ((q.file d.files.length).write k b)).dies, (q.denies.put d.files.length ((q.file d.files.length).write k b)).dies.code) := by
    unfold Dk.write
    rw [hd, hf]
    simp only [Bool.false_eq_true, if_false, if_neg hp, if_neg hroom, Int.toNat_natCast]
  rw [e, h.file]
  cases hq : q.refused with
  | true => exact .inr ⟨.inr rfl, f, by omega, h.denies⟩
  | false =>
    simp only [Bool.false_eq_true, if_false]
    have h2 := (h.denies.put (f.write k b)).dies
    have hlw : (f.write k b).now.length ≤ k + 1 := by rw [write_len f b (by omega)]; omega
    generalize (q.denies.put d.files.length (f.write k b)).dies = q2 at h2 ⊢
    cases hd2 : q2.dead with
    | true => exact .inr ⟨.inl (by simp [Dk.code, hd2]), _, hlw, h2⟩
    | false => exact .inl ⟨by simp [Dk.code, hd2], rfl, h2⟩
include hok hc hchs in
theorem mid_dsec (t : List UInt8) : ∀ (m k : Nat) {q : Dk} {f : Fl}, Mid d q f [.create nPart d.files.length] → q.dead = false → f.now.length = k → k + m + oUse d ≤ d.room →
    ((dsec t m k q).2 = 0 ∧ (dsec t m k q).1.dead = false ∧ ∃ f', f'.now = f.now ++ (List.range' k m).map (fun j => pad (sec t j)) ∧ Mid d (dsec t m k q).1 f' [.create nPart d.files.length]) ∨ Cut d (dsec t m k q) (k + m)
  | 0, k, q, f, h, hd, hk, hr => .inl ⟨rfl, hd, f, by simp, h⟩
  | m + 1, k, q, f, h, hd, hk, hr => by
    rw [dsec]
    rcases mid_write hok hc hchs h hd hk (sec_len t k) (by omega) with ⟨h1, h2, h3⟩ | ⟨h1, f', h2, h3⟩
    · rw [thn_yes _ h1]
      have hn : (f.write k (sec t k)).now = f.now ++ [pad (sec t k)] := by
        rw [Fl.write]; dsimp only; rw [if_pos hk.symm]
      rcases mid_dsec t m (k + 1) h3 h2 (by rw [hn, List.length_append, List.length_singleton]; omega) (by omega) with ⟨g1, g2, f', g3, g4⟩ | ⟨g1, f', g2, g3⟩
      · exact .inl ⟨g1, g2, f', by rw [g3, hn, List.range'_succ, List.map_cons, List.append_assoc]; rfl, g4⟩
      · exact .inr ⟨g1, f', by omega, g3⟩
    · rw [thn_no _ (by rcases h1 with h1 | h1 <;> omega)]
      exact .inr ⟨h1, f', by omega, h3⟩
end
/-- where an Export ends: done; refused; cut off, its text laid for sure, or not -/
theorem export_ends {d : Dk} (hok : d.Ok) (hc : Calm d) (hchs : d.chs = []) {n t : ByteArray} (hn : nright n = true) (ht : t.size ≤ 1048576) (hr : nsecs t.data.toList + oUse d ≤ d.room) (i j : Int) :
    ((dexport ((d.arm i).deny j) n t).2 = 0 ∧ (dexport ((d.arm i).deny j) n t).1.dead = false ∧ (dexport ((d.arm i).deny j) n t).1.room = d.room ∧ (dexport ((d.arm i).deny j) n t).1.files = d.files ++ [⟨psecs t.data.toList, psecs t.data.toList, []⟩] ∧ (dexport ((d.arm i).deny j) n t).1.firm = putN d.firm n d.files.length ∧ (dexport ((d.arm i).deny j) n t).1.chs = [])
    ∨ Cut d (dexport ((d.arm i).deny j) n t) (nsecs t.data.toList)
    ∨ ((dexport ((d.arm i).deny j) n t).2 = 93 ∧ Mid d (dexport ((d.arm i).deny j) n t).1 ⟨psecs t.data.toList, psecs t.data.toList, []⟩ [.create nPart d.files.length, .rename nPart (pfile n) d.files.length]) := by
  generalize hT : t.data.toList = T at *
  generalize hq0 : (d.arm i).deny j = q0
  have hd0 : q0.dead = false := by rw [← hq0]; exact hc.dead
  have hcr : q0.create nPart = ((Dk.change { q0 with files := q0.files ++ [Fl.none] } (.create nPart q0.files.length)).dies, (Dk.change { q0 with files := q0.files ++ [Fl.none] } (.create nPart q0.files.length)).dies.code) := by
    unfold Dk.create
    rw [if_neg (by rw [hd0]; simp), if_neg (by rw [right_part]; simp)]
  have hm1 : Mid d (Dk.change { q0 with files := q0.files ++ [Fl.none] } (.create nPart q0.files.length)) Fl.none [.create nPart d.files.length] := by
    subst hq0
    exact ⟨rfl, rfl, rfl, by show d.chs ++ _ = _; rw [hchs]; rfl⟩
  have hm1 := hm1.dies
  unfold dexport
  rw [hn, if_neg (by simp), if_neg (by omega), hcr, hT]
  generalize (Dk.change { q0 with files := q0.files ++ [Fl.none] } (.create nPart q0.files.length)).dies = q1 at hm1 ⊢
  cases hd1 : q1.dead with
  | true =>
    have hcode : q1.code = 93 := by simp [Dk.code, hd1]
    rw [hcode]
    have h93 : ¬ ((q1, (93 : Int)) : Dk × Int).2 = 0 := by show ¬ (93 : Int) = 0; omega
    rw [thn_no _ h93, thn_no _ h93, thn_no _ h93, thn_no _ h93]
    exact .inr (.inl ⟨.inl rfl, _, by simp [Fl.none], hm1⟩)
  | false =>
    have hcode : q1.code = 0 := by simp [Dk.code, hd1]
    rw [hcode, thn_yes (r := (q1, 0)) _ rfl]
    show (_ ∨ _ ∨ _)
    rcases mid_dsec hok hc hchs T (nsecs T) 0 hm1 hd1 rfl (by omega) with ⟨h1, h2, f, h3, h4⟩ | hcut
    · rw [thn_yes _ h1]
      rw [← psecs_range, show Fl.none.now = [] from rfl, List.nil_append] at h3
      generalize (dsec T (nsecs T) 0 q1).1 = q2 at h2 h4 ⊢
      have hlen : f.now.length = nsecs T := by rw [h3, psecs_len]
      have hsy : q2.sync nPart = if q2.refused then (q2.denies, 95) else if q2.denies.dies.dead then (q2.denies.dies, 93) else (q2.denies.dies.put d.files.length (q2.file d.files.length).sync, 0) := by
        unfold Dk.sync
        rw [h2, mid_find h4]
        rfl
      rw [hsy, h4.file]
      cases hrf : q2.refused with
      | true =>
        simp only [if_true]
        have h95 : ¬ ((q2.denies, (95 : Int)) : Dk × Int).2 = 0 := by show ¬ (95 : Int) = 0; omega
        rw [thn_no _ h95, thn_no _ h95]
        exact .inr (.inl ⟨.inr rfl, f, by omega, h4.denies⟩)
      | false =>
        simp only [Bool.false_eq_true, if_false]
        have h5 := h4.denies.dies
        generalize q2.denies.dies = q3 at h5 ⊢
        cases hd3 : q3.dead with
        | true =>
          simp only [if_true]
          have h93 : ¬ ((q3, (93 : Int)) : Dk × Int).2 = 0 := by show ¬ (93 : Int) = 0; omega
          rw [thn_no _ h93, thn_no _ h93]
          exact .inr (.inl ⟨.inl rfl, f, by omega, h5⟩)
        | false =>
          simp only [Bool.false_eq_true, if_false]
          rw [thn_yes (r := (q3.put d.files.length f.sync, 0)) _ rfl]
          have h6 := h5.put f.sync
          have hd4 : (q3.put d.files.length f.sync).dead = false := hd3
          have hfs : f.sync = ⟨psecs T, psecs T, []⟩ := by rw [Fl.sync, h3]
          rw [hfs] at h6 hd4 ⊢
          have hrn : (q3.put d.files.length ⟨psecs T, psecs T, []⟩).rename nPart (pfile n) = (((q3.put d.files.length ⟨psecs T, psecs T, []⟩).change (.rename nPart (pfile n) d.files.length)).dies, ((q3.put d.files.length ⟨psecs T, psecs T, []⟩).change (.rename nPart (pfile n) d.files.length)).dies.code) := by
            unfold Dk.rename
            rw [hd4, mid_find h6, right_pfile hn]
            simp only [Bool.false_eq_true, if_false, Bool.not_true, if_neg (pfile_part n)]
          show (_ ∨ _ ∨ _)
          rw [hrn]
          have h7 := (h6.change (.rename nPart (pfile n) d.files.length)).dies
          generalize ((q3.put d.files.length ⟨psecs T, psecs T, []⟩).change (.rename nPart (pfile n) d.files.length)).dies = q4 at h7 ⊢
          cases hd5 : q4.dead with
          | true =>
            have hcode : q4.code = 93 := by simp [Dk.code, hd5]
            rw [hcode]
            have h93 : ¬ ((q4, (93 : Int)) : Dk × Int).2 = 0 := by show ¬ (93 : Int) = 0; omega
            rw [thn_no _ h93]
            exact .inr (.inr ⟨rfl, h7⟩)
          | false =>
            have hcode : q4.code = 0 := by simp [Dk.code, hd5]
            rw [hcode, thn_yes (r := (q4, 0)) _ rfl]
            have hsn : q4.syncNames = if q4.dies.dead then (q4.dies, 93) else ({ q4.dies with firm := q4.names, chs := [] }, 0) := by
              unfold Dk.syncNames
              rw [hd5]
              rfl
            show (_ ∨ _ ∨ _)
            rw [hsn]
            have hnames : q4.names = putN d.firm n d.files.length := by
              rw [Dk.names, h7.firm, h7.chs]
              show with_ (without (with_ d.firm ⟨nPart, d.files.length⟩) nPart) _ = _
              rw [without_with d.firm ⟨nPart, d.files.length⟩]; rfl
            have h8 := h7.dies
            generalize q4.dies = q5 at h8 ⊢
            cases hd6 : q5.dead with
            | true => exact .inr (.inr ⟨rfl, h8⟩)
            | false => exact .inl ⟨rfl, hd6, h8.room, h8.files, hnames, rfl⟩
    · have hne : ¬ (dsec T (nsecs T) 0 q1).2 = 0 := by rcases hcut.1 with h | h <;> omega
      rw [thn_no _ hne, thn_no _ hne, thn_no _ hne]
      have : 0 + nsecs T = nsecs T := by omega
      rw [this] at hcut
      exact .inr (.inl hcut)

/-! ### A crash -/
theorem foundF_at : ∀ {fs : List Fl} {ps : List Int} {k : Nat} {f : Fl}, fs[k]? = some f → ∃ qs, (foundF fs ps)[k]? = some (f.found qs)
  | [], _, _, _, h => by simp at h
  | g :: r, ps, 0, f, h => by
    simp at h; subst h
    exact ⟨ps, rfl⟩
  | g :: r, ps, k + 1, f, h => by
    rw [List.getElem?_cons_succ] at h
    obtain ⟨qs, h2⟩ := foundF_at (ps := ps.drop g.since.length) h
    exact ⟨qs, by rw [foundF, List.getElem?_cons_succ]; exact h2⟩
/-- behind a crash: names that are the same, or of which one is a text's more; files that were synced are as they were -/
theorem crash_file {q : Dk} (names : Int) (ps : List Int) {K : Nat} {l : List (List UInt8)} (hK : K < q.files.length) (h : q.file K = ⟨l, l, []⟩) : (q.crash names ps).file K = ⟨l, l, []⟩ := by
  have h1 : q.files[K]? = some ⟨l, l, []⟩ := by
    rw [List.getElem?_eq_getElem hK]
    rw [Dk.file, List.getD_eq_getElem?_getD, List.getElem?_eq_getElem hK] at h
    exact congrArg some h
  obtain ⟨qs, h2⟩ := foundF_at (ps := ps) h1
  show (foundF q.files ps).getD K Fl.none = _
  rw [List.getD_eq_getElem?_getD, h2]; rfl
theorem crash_lens {q : Dk} (hok : q.Ok) (names : Int) (ps : List Int) {B : Nat} (h : ∀ f ∈ q.files, f.now.length ≤ B) : ∀ f ∈ (q.crash names ps).files, f.now.length ≤ B := fun f hf => by
  obtain ⟨g, hg, qs, rfl⟩ := foundF_mem (show f ∈ foundF q.files ps from hf)
  exact Nat.le_trans (found_ok (hok.files g hg) qs).2 (h g hg)
theorem crash_calm (q : Dk) (names : Int) (ps : List Int) : Calm (q.crash names ps) := ⟨rfl, rfl, rfl⟩
theorem crash_n (q : Dk) (names : Int) (ps : List Int) : (q.crash names ps).files.length = q.files.length := foundF_len _ _
/-- names with or without the file that was begun -/
theorem Laid.crashed {d : Dk} {all : List Tx} {k : Nat} (h : Laid d all k) {q : Dk} (hq : q.Ok) {f : Fl} {cs : List Ch} (hm : Mid d q f cs) (hf : f.now.length ≤ 60) (names : Int) (ps : List Int) (hn : (q.crash names ps).firm = d.firm ∨ (q.crash names ps).firm = with_ d.firm ⟨nPart, d.files.length⟩) :
    Laid (q.crash names ps) all (k + 1) := by
  have hlen : ∀ g ∈ q.files, g.now.length ≤ 60 := fun g hg => by
    rw [hm.files] at hg
    rcases List.mem_append.1 hg with hg | hg
    · exact h.files g hg
    · rw [List.mem_singleton.1 hg]; exact hf
  refine ⟨crash_calm _ _ _, rfl, by show q.room = _; rw [hm.room, h.room], crash_lens hq names ps hlen, ?_, ?_, ?_, h.apart⟩
  · rcases hn with e | e
    · rw [e]; have := h.len; omega
    · rw [e]
      have := with_len d.firm ⟨nPart, d.files.length⟩
      have := h.len; omega
  · intro t ht
    obtain ⟨h1, h2, K, h3, h4, h5⟩ := h.has t ht
    have h6 : q.file K = ⟨psecs t.2.data.toList, psecs t.2.data.toList, []⟩ := by
      rw [← h5, Dk.file, Dk.file, hm.files, List.getD_eq_getElem?_getD, List.getD_eq_getElem?_getD, List.getElem?_append_left h4]
    refine ⟨h1, h2, K, ?_, by rw [crash_n, hm.files]; simp; omega, crash_file names ps (by rw [hm.files]; simp; omega) h6⟩
    rcases hn with e | e
    · rw [e]; exact h3
    · rw [e, nget_with, if_neg (fun e => pfile_part _ e.symm)]; exact h3
  · intro p hp
    rcases hn with e | e
    · rw [e] at hp; exact h.only p hp
    · rw [e] at hp
      rcases mem_with hp with rfl | ⟨hp, _⟩
      · exact .inl rfl
      · exact h.only p hp
theorem Laid.crash0 {d : Dk} (hok : d.Ok) {all : List Tx} {k : Nat} (h : Laid d all k) (names : Int) (ps : List Int) : Laid (d.crash names ps) all k := by
  have hfirm : (d.crash names ps).firm = d.firm := by
    show ons d.firm (d.chs.take _) = _
    rw [h.chs, List.take_nil]; rfl
  refine ⟨crash_calm _ _ _, rfl, h.room, crash_lens hok names ps h.files, by rw [hfirm]; exact h.len, ?_, by rw [hfirm]; exact h.only, h.apart⟩
  intro t ht
  obtain ⟨h1, h2, K, h3, h4, h5⟩ := h.has t ht
  exact ⟨h1, h2, K, by rw [hfirm]; exact h3, by rw [crash_n]; exact h4, crash_file names ps h4 h5⟩
/-- the text was laid for sure; of its names' changes so many are found -/
theorem Laid.crashed2 {d : Dk} {all : List Tx} {k : Nat} (h : Laid d all k) {q : Dk} (hq : q.Ok) {n t : ByteArray} (hn : nright n = true) (ht : t.size ≤ 30000) {cs : List Ch} (hm : Mid d q ⟨psecs t.data.toList, psecs t.data.toList, []⟩ cs) (names : Int) (ps : List Int) (hf : (q.crash names ps).firm = putN d.firm n d.files.length) :
    Laid (q.crash names ps) (withT all (n, t)) (k + 1) := by
  have h1 := h.put hn ht
  have hfile : ∀ j, j < d.files.length → q.file j = d.file j := fun j hj => by
    rw [Dk.file, Dk.file, hm.files, List.getD_eq_getElem?_getD, List.getD_eq_getElem?_getD, List.getElem?_append_left hj]
  have hfull : ∀ j, q.file j = ({ d with files := d.files ++ [⟨psecs t.data.toList, psecs t.data.toList, []⟩], firm := putN d.firm n d.files.length, chs := [] } : Dk).file j := fun j => by
    rw [Dk.file, Dk.file, hm.files]
  refine ⟨crash_calm _ _ _, rfl, by show q.room = _; rw [hm.room, h.room], crash_lens hq names ps (fun g hg => h1.files g (by rw [hm.files] at hg; exact hg)), by rw [hf]; exact h1.len, ?_, by rw [hf]; exact h1.only, h1.apart⟩
  intro x hx
  obtain ⟨g1, g2, K, g3, g4, g5⟩ := h1.has x hx
  have g4' : K < q.files.length := by rw [hm.files]; exact g4
  exact ⟨g1, g2, K, by rw [hf]; exact g3, by rw [crash_n]; exact g4', crash_file names ps g4' (by rw [hfull]; exact g5)⟩
theorem take_cs {cs : List Ch} (m : Nat) : cs.length ≤ 2 → cs.take m = [] ∨ cs.take m = cs.take 1 ∨ cs.take m = cs := by
  intro h
  match m with
  | 0 => exact .inl rfl
  | 1 => exact .inr (.inl rfl)
  | m + 2 => exact .inr (.inr (List.take_of_length_le (by omega)))
/-- an Export at a disk that may die or refuse, its flags taken away, and a crash of it -/
theorem crash_export {d : Dk} (hok : d.Ok) {all : List Tx} {k : Nat} (h : Laid d all k) (hk : k ≤ 30) {n t : ByteArray} (ht : t.size ≤ 30000) (i j names : Int) (ps : List Int) {q : Dk} (hq : q = ((dexport ((d.arm i).deny j) n t).1.arm 0).deny 0) (hqk : q.Ok) :
    ((dexport ((d.arm i).deny j) n t).2 = 0 ∧ Laid q (withT all (n, t)) (k + 1) ∧ Laid (q.crash names ps) (withT all (n, t)) (k + 1))
    ∨ ((dexport ((d.arm i).deny j) n t).2 = 92 ∧ nright n = false ∧ Laid q all k ∧ Laid (q.crash names ps) all k)
    ∨ (((dexport ((d.arm i).deny j) n t).2 = 93 ∨ (dexport ((d.arm i).deny j) n t).2 = 95) ∧ nright n = true ∧ (Laid (q.crash names ps) all (k + 1) ∨ Laid (q.crash names ps) (withT all (n, t)) (k + 1))) := by
  cases hn : nright n with
  | false =>
    have e : dexport ((d.arm i).deny j) n t = ((d.arm i).deny j, 92) := by unfold dexport; rw [hn]; rfl
    rw [e] at hq ⊢
    have hl : Laid q all k := by
      rw [hq]
      exact ⟨⟨rfl, rfl, h.calm.dead⟩, h.chs, h.room, h.files, h.len, h.has, h.only, h.apart⟩
    exact .inr (.inl ⟨rfl, rfl, hl, hl.crash0 hqk names ps⟩)
  | true =>
    have hu := h.use
    have hns := nsecs_le ht
    rcases export_ends hok h.calm h.chs hn (by omega) (by rw [h.room]; omega) i j (t := t) with ⟨e, h1, h2, h3, h4, h5⟩ | ⟨e, f, hf, hm⟩ | ⟨e, hm⟩
    · refine .inl ⟨e, ?_⟩
      have hp := h.put hn ht
      have hl : Laid q (withT all (n, t)) (k + 1) := by
        have e1 : q.files = d.files ++ [⟨psecs t.data.toList, psecs t.data.toList, []⟩] := by rw [hq]; exact h3
        have e2 : q.firm = putN d.firm n d.files.length := by rw [hq]; exact h4
        have e3 : ∀ j, q.file j = ({ d with files := d.files ++ [⟨psecs t.data.toList, psecs t.data.toList, []⟩], firm := putN d.firm n d.files.length, chs := [] } : Dk).file j := fun j => by rw [Dk.file, Dk.file, e1]
        refine ⟨by rw [hq]; exact ⟨rfl, rfl, h1⟩, by rw [hq]; exact h5, by rw [hq]; exact h2.trans h.room, by rw [e1]; exact hp.files, by rw [e2]; exact hp.len, ?_, by rw [e2]; exact hp.only, hp.apart⟩
        intro x hx
        obtain ⟨g1, g2, K, g3, g4, g5⟩ := hp.has x hx
        exact ⟨g1, g2, K, by rw [e2]; exact g3, by rw [e1]; exact g4, by rw [e3]; exact g5⟩
      exact ⟨hl, hl.crash0 hqk names ps⟩
    · refine .inr (.inr ⟨e, rfl, .inl ?_⟩)
      have hm2 : Mid d q f [.create nPart d.files.length] := by rw [hq]; exact hm.calm 0 0
      refine h.crashed hqk hm2 (by omega) names ps ?_
      have e1 : (q.crash names ps).firm = ons d.firm ([Ch.create nPart d.files.length].take (min (max names 0) q.chs.length).toNat) := by
        show ons q.firm (q.chs.take _) = _
        rw [hm2.firm, hm2.chs]
      rw [e1]
      rcases take_cs (cs := [Ch.create nPart d.files.length]) ((min (max names 0) q.chs.length).toNat) (by simp) with e2 | e2 | e2
      · rw [e2]; exact .inl rfl
      · rw [e2]; exact .inr rfl
      · rw [e2]; exact .inr rfl
    · refine .inr (.inr ⟨.inl e, rfl, ?_⟩)
      have hm2 : Mid d q ⟨psecs t.data.toList, psecs t.data.toList, []⟩ [.create nPart d.files.length, .rename nPart (pfile n) d.files.length] := by rw [hq]; exact hm.calm 0 0
      have e1 : (q.crash names ps).firm = ons d.firm ([Ch.create nPart d.files.length, .rename nPart (pfile n) d.files.length].take (min (max names 0) q.chs.length).toNat) := by
        show ons q.firm (q.chs.take _) = _
        rw [hm2.firm, hm2.chs]
      have hl60 : (Fl.mk (psecs t.data.toList) (psecs t.data.toList) []).now.length ≤ 60 := by rw [psecs_len]; exact hns
      rcases take_cs (cs := [Ch.create nPart d.files.length, .rename nPart (pfile n) d.files.length]) ((min (max names 0) q.chs.length).toNat) (by simp) with e2 | e2 | e2
      · exact .inl (h.crashed hqk hm2 hl60 names ps (.inl (by rw [e1, e2]; rfl)))
      · exact .inl (h.crashed hqk hm2 hl60 names ps (.inr (by rw [e1, e2]; rfl)))
      · refine .inr (h.crashed2 hqk hn ht hm2 names ps ?_)
        rw [e1, e2]
        show with_ (without (with_ d.firm ⟨nPart, d.files.length⟩) nPart) _ = _
        rw [without_with d.firm ⟨nPart, d.files.length⟩]; rfl
theorem Laid.again {d : Dk} {all : List Tx} {k : Nat} (h : Laid d all k) {n s : ByteArray} (hs : (n, s) ∈ all) : Laid d (withT all (n, s)) k := by
  refine ⟨h.calm, h.chs, h.room, h.files, h.len, ?_, ?_, withT_nodup _ h.apart⟩
  · intro x hx
    rcases mem_withT.1 hx with ⟨hx, _⟩ | rfl
    · exact h.has x hx
    · exact h.has _ hs
  · intro p hp
    rcases h.only p hp with e | ⟨x, hx, e⟩
    · exact .inl e
    · by_cases hxn : x.1 = n
      · exact .inr ⟨(n, s), mem_withT.2 (.inr rfl), by rw [e, hxn]⟩
      · exact .inr ⟨x, mem_withT.2 (.inl ⟨hx, hxn⟩), e⟩
theorem Laid.absent {d : Dk} {all : List Tx} {k : Nat} (h : Laid d all k) {n : ByteArray} (hn : nright n = true) (ha : ∀ x ∈ all, x.1 ≠ n) : dimport d n = ([], 90) := by
  refine dimport_none hn h.calm.dead ?_
  rw [Dk.find, h.names]
  refine nget_none_of fun p hp e => ?_
  rcases h.only p hp with e2 | ⟨x, hx, e2⟩
  · rw [e] at e2; exact pfile_part n e2.symm
  · rw [e] at e2; exact ha x hx (pfile_inj e2).symm
end Go.Proofs.Ytdpkamajecmebaa
