/- Press: plain laws of Export and Import on a disk on which nothing fails. -/
import Derived.Test.YtdpkamajecmebaaQm
set_option linter.unusedVariables false
set_option linter.unusedSimpArgs false
set_option maxRecDepth 100000
namespace Go.Proofs.Ytdpkamajecmebaa
open Go Go.Vc Go.Vault Go.Redo Go.Press

theorem write_calmG {q : Dk} (h : Calm q) {n : ByteArray} {k : Nat} {b : List UInt8} (hb : b.length ≤ 512) (hk : q.find n = some k) {i : Nat} (hi : i ≤ q.len k) :
    (q.write n (i : Int) b = (q, 94) ∧ i = q.len k ∧ q.room ≤ q.used) ∨ (q.write n (i : Int) b = (q.put k ((q.file k).write i b), 0) ∧ ¬ (i = q.len k ∧ q.room ≤ q.used)) := by
  have hp : ¬((i : Int) < 0 ∨ (q.len k : Int) < (i : Int) ∨ 512 < b.length) := by omega
  by_cases hu : i = q.len k ∧ q.room ≤ q.used
  · left
    refine ⟨?_, hu⟩
    unfold Dk.write
    rw [h.dead, hk]
    simp only [Bool.false_eq_true, if_false, if_neg hp]
    rw [if_pos ⟨by rw [hu.1], hu.2⟩]
  · right
    refine ⟨?_, hu⟩
    unfold Dk.write
    rw [h.dead, hk]
    simp only [Bool.false_eq_true, if_false, if_neg hp]
    rw [if_neg (fun h2 => hu ⟨by have := h2.1; omega, h2.2⟩), h.refused]
    simp only [Bool.false_eq_true, if_false, h.denies, Int.toNat_natCast, (h.put _ _).dies, (h.put _ _).code]
theorem sync_calm {q : Dk} (h : Calm q) {n : ByteArray} {k : Nat} (hk : q.find n = some k) : q.sync n = (q.put k (q.file k).sync, 0) := by
  unfold Dk.sync
  rw [h.dead, hk]
  simp only [Bool.false_eq_true, if_false, h.refused, h.denies, h.dies, h.dead]
theorem syncNames_calm {q : Dk} (h : Calm q) : q.syncNames = ({ q with firm := q.names, chs := [] }, 0) := by
  unfold Dk.syncNames
  rw [h.dead]
  simp only [Bool.false_eq_true, if_false, h.dies, h.dead]
theorem put_find (q : Dk) (k : Nat) (f : Fl) (n : ByteArray) : (q.put k f).find n = q.find n := rfl
theorem put_file {q : Dk} {k : Nat} (hk : k < q.files.length) (f : Fl) : (q.put k f).file k = f := by
  rw [Dk.file, Dk.put, List.getD_eq_getElem?_getD, List.getElem?_set_self hk]
  rfl
theorem put_len {q : Dk} {k : Nat} (hk : k < q.files.length) (f : Fl) : (q.put k f).len k = f.now.length := by rw [Dk.len, put_file hk]
theorem write_len (f : Fl) {i : Nat} (b : List UInt8) (hi : i ≤ f.now.length) : (f.write i b).now.length = max f.now.length (i + 1) := by
  rw [Fl.write]
  dsimp only
  split
  · rw [List.length_append, List.length_singleton]; omega
  · rw [List.length_set]; omega
theorem put_put (d : Dk) (k : Nat) (f g : Fl) : (d.put k f).put k g = d.put k g := by simp [Dk.put, List.set_set]
theorem put_self {d : Dk} {k : Nat} (h : k < d.files.length) : d.put k (d.file k) = d := by
  obtain ⟨room, files, firm, chs, a, b, c⟩ := d
  have hk : k < files.length := h
  simp only [Dk.put, Dk.file, Dk.mk.injEq, _root_.and_true, true_and, List.getD_eq_getElem?_getD, List.getElem?_eq_getElem hk, Option.getD_some]
  exact List.set_getElem_self hk
/-- a name, its file, and what the others use -/
structure One (d : Dk) (n : ByteArray) (k o : Nat) : Prop where
  calm : Calm d
  find : d.find n = some k
  lt : k < d.files.length
  used : ∀ f, (d.put k f).used = f.now.length + o
theorem One.put {d : Dk} {n : ByteArray} {k o : Nat} (h : One d n k o) (f : Fl) : One (d.put k f) n k o :=
  ⟨h.calm.put _ _, h.find, by simpa [Dk.put] using h.lt, fun g => by rw [put_put]; exact h.used g⟩
theorem One.used' {d : Dk} {n : ByteArray} {k o : Nat} (h : One d n k o) : d.used = (d.file k).now.length + o := by
  have := h.used (d.file k)
  rwa [put_self h.lt] at this
theorem One.fil {d : Dk} {n : ByteArray} {k o : Nat} (h : One d n k o) (f : Fl) : (d.put k f).file k = f := put_file h.lt f
theorem One.write {d : Dk} {n : ByteArray} {k o i : Nat} (h : One d n k o) {b : List UInt8} (hb : b.length ≤ 512) (hi : i ≤ (d.file k).now.length) (hr : i = (d.file k).now.length → i + o < d.room) :
    d.write n (i : Int) b = (d.put k ((d.file k).write i b), 0) := by
  rcases write_calmG h.calm hb h.find (show i ≤ d.len k from hi) with ⟨_, h1, h2⟩ | ⟨e, _⟩
  · have h3 := hr h1
    rw [h.used'] at h2
    have h1 : i = (d.file k).now.length := h1
    omega
  · exact e
theorem One.sync {d : Dk} {n : ByteArray} {k o : Nat} (h : One d n k o) : d.sync n = (d.put k (d.file k).sync, 0) := sync_calm h.calm h.find
theorem thn0 {r : Dk × Int} {d : Dk} {f : Dk → Dk × Int} (h : r = (d, 0)) : thn r f = f d := by rw [h]; rfl
theorem write_now {f : Fl} {i : Nat} {b : List UInt8} (hi : i ≤ f.now.length) : (f.write i b).now.take (i + 1) = f.now.take i ++ [pad b] := by
  rw [Fl.write]
  dsimp only
  split
  · rename_i h
    rw [h, List.take_length]
    exact List.take_of_length_le (by rw [List.length_append]; exact Nat.le_refl _)
  · rename_i h
    have hlt : i < f.now.length := by omega
    rw [List.take_succ_eq_append_getElem (by rw [List.length_set]; exact hlt), List.getElem_set_self, List.take_set_of_le (Nat.le_refl _)]

/-! ### Names -/
theorem bx {a b : ByteArray} (h : a.data.toList = b.data.toList) : a = b := name_eq h
theorem app_data (a b : ByteArray) : (a ++ b).data.toList = a.data.toList ++ b.data.toList := by
  rw [ByteArray.data_append, Array.toList_append]
theorem ext_data (s : ByteArray) (i j : Nat) : (s.extract i j).data.toList = (s.data.toList.take j).drop i := by
  rw [ByteArray.data_extract, Array.toList_extract, List.extract_eq_take_drop, List.drop_take]
theorem pfile_data (n : ByteArray) : (pfile n).data.toList = 120 :: 45 :: n.data.toList := by rw [pfile, app_data]; rfl
theorem pfile_inj {a b : ByteArray} (h : pfile a = pfile b) : a = b := by
  refine bx ?_
  have := congrArg (fun x : ByteArray => x.data.toList) h
  simp only [pfile_data] at this
  exact (List.cons.inj (List.cons.inj this).2).2
theorem pfile_part (n : ByteArray) : nPart ≠ pfile n := fun h => by
  have := congrArg (fun x : ByteArray => x.data.toList) h
  simp only [pfile_data] at this
  have := (List.cons.inj (List.cons.inj this).2).1
  cases this
theorem size_data (s : ByteArray) : s.data.toList.length = s.size := Array.length_toList
theorem pfile_size (n : ByteArray) : (pfile n).size = n.size + 2 := by rw [← size_data, pfile_data]; simp [size_data]
theorem nright_iff {n : ByteArray} : nright n = true ↔ 1 ≤ n.size ∧ n.size ≤ 50 := by simp [nright]
theorem right_part : Vault.right nPart = true := by kernel_rfl
theorem right_pfile {n : ByteArray} (h : nright n = true) : Vault.right (pfile n) = true := by
  have := nright_iff.1 h
  have h2 := pfile_size n
  simp only [Vault.right, Bool.and_eq_true, decide_eq_true_eq]; omega
theorem cut_some {s n : ByteArray} : cutName s = some n ↔ s = pfile n ∧ nright n = true := by
  constructor
  · intro h
    unfold cutName at h
    split at h
    · rename_i h1
      obtain ⟨h1, h2, h3⟩ := h1
      have h := Option.some.inj h
      subst h
      refine ⟨bx ?_, h3⟩
      rw [pfile_data, ext_data]
      have e := congrArg (fun x : ByteArray => x.data.toList) h2
      simp only [ext_data] at e
      have hl := size_data s
      have e3 : nAhead.data.toList = [120, 45] := rfl
      have e4 : nAhead.size = 2 := rfl
      rw [List.drop_zero, e3] at e
      rw [List.take_of_length_le (by omega)]
      have := List.take_append_drop 2 s.data.toList
      rw [e] at this
      exact this.symm
    · cases h
  · rintro ⟨rfl, h⟩
    have e : (pfile n).extract 2 (pfile n).size = n := by
      refine bx ?_
      rw [ext_data, pfile_data, ← size_data, pfile_data]
      rw [List.take_of_length_le (Nat.le_refl _)]
      rfl
    have e2 : (pfile n).extract 0 2 = nAhead := by
      refine bx ?_
      rw [ext_data, pfile_data]; rfl
    have hs := pfile_size n
    have e4 : nAhead.size = 2 := rfl
    unfold cutName
    rw [e, e2, if_pos ⟨by omega, rfl, h⟩]
theorem without_ins (n : Nm) : ∀ l : List Nm, without (ins n l) n.name = without l n.name
  | [] => by simp [ins, without]
  | p :: r => by
    simp only [ins]
    split
    · have ih := without_ins n r
      simp only [without, List.filter_cons] at ih ⊢
      split
      · rw [ih]
      · exact ih
    · simp [without]
theorem without_with (l : List Nm) (n : Nm) : without (with_ l n) n.name = without l n.name := by
  rw [with_, without_ins]
  simp [without, List.filter_filter]
theorem without_none {l : List Nm} {n : ByteArray} (h : ∀ p ∈ l, p.name ≠ n) : without l n = l := List.filter_eq_self.2 fun p hp => by simpa using h p hp
theorem without_comm (l : List Nm) (a b : ByteArray) : without (without l a) b = without (without l b) a := by
  simp only [without, List.filter_filter]
  congr 1; funext p
  exact Bool.and_comm _ _
/-- where a text is laid -/
def putN (l : List Nm) (n : ByteArray) (K : Nat) : List Nm := with_ (without l nPart) ⟨pfile n, K⟩
def psecs (t : List UInt8) : List (List UInt8) := (List.range (nsecs t)).map fun k => pad (sec t k)
theorem psecs_len (t : List UInt8) : (psecs t).length = nsecs t := by simp [psecs]
def oUse (d : Dk) : Nat := ((without d.names nPart).map fun p => d.len p.file).sum
theorem sum_filter_le (f : Nm → Nat) (q : Nm → Bool) : ∀ l : List Nm, ((l.filter q).map f).sum ≤ (l.map f).sum
  | [] => Nat.le_refl _
  | p :: r => by
    have ih := sum_filter_le f q r
    rw [List.filter_cons]
    split
    · simp only [List.map_cons, List.sum_cons]; omega
    · simp only [List.map_cons, List.sum_cons]; omega
theorem oUse_le (d : Dk) : oUse d ≤ d.used := sum_filter_le _ _ _
theorem nget_none_of {l : List Nm} {n : ByteArray} (h : ∀ p ∈ l, p.name ≠ n) : nget l n = none := by
  cases h1 : nget l n with
  | none => rfl
  | some k =>
    obtain ⟨p, hp, e, _⟩ := nget_mem h1
    exact absurd e (h p hp)

/-! ### Sectors are written -/
theorem dsec_one (t : List UInt8) {K o : Nat} : ∀ (m k : Nat) {q : Dk}, One q nPart K o → (q.file K).now.length = k → k + m + o ≤ q.room →
    ∃ f, dsec t m k q = (q.put K f, 0) ∧ f.now = (q.file K).now ++ (List.range' k m).map fun j => pad (sec t j)
  | 0, k, q, h, hl, hr => ⟨q.file K, by rw [dsec, put_self h.lt], by simp⟩
  | m + 1, k, q, h, hl, hr => by
    have hw := h.write (i := k) (b := sec t k) (sec_len t k) (by omega) (fun _ => by omega)
    have h2 := h.put ((q.file K).write k (sec t k))
    have hn : ((q.file K).write k (sec t k)).now = (q.file K).now ++ [pad (sec t k)] := by
      rw [Fl.write]; dsimp only; rw [if_pos hl.symm]
    obtain ⟨f, e1, e2⟩ := dsec_one t m (k + 1) h2 (by rw [h.fil, hn, List.length_append, List.length_singleton]; omega) (by show k + 1 + m + o ≤ q.room; omega)
    refine ⟨f, ?_, ?_⟩
    · rw [dsec, hw]
      show dsec t m (k + 1) _ = _
      rw [e1, put_put]
    · rw [e2, h.fil, hn, List.range'_succ, List.map_cons, List.append_assoc]; rfl
theorem psecs_range (t : List UInt8) : psecs t = (List.range' 0 (nsecs t)).map fun j => pad (sec t j) := by rw [psecs, List.range_eq_range']
theorem made_one {d : Dk} (hok : d.Ok) (hc : Calm d) : One (Dk.change { d with files := d.files ++ [Fl.none] } (.create nPart d.files.length)) nPart d.files.length (oUse d) := by
  have hn : ∀ f : Fl, ((Dk.change { d with files := d.files ++ [Fl.none] } (.create nPart d.files.length)).put d.files.length f).names = with_ d.names ⟨nPart, d.files.length⟩ := fun f => by
    show (Dk.change { d with files := d.files ++ [Fl.none] } (.create nPart d.files.length)).names = _
    rw [Dk.change_names]; rfl
  refine ⟨⟨hc.armed, hc.denied, hc.dead⟩, ?_, by simp [Dk.change], fun f => ?_⟩
  · show nget (Dk.change { d with files := d.files ++ [Fl.none] } (.create nPart d.files.length)).names nPart = _
    have := hn Fl.none
    rw [show (Dk.change { d with files := d.files ++ [Fl.none] } (.create nPart d.files.length)).names = with_ d.names ⟨nPart, d.files.length⟩ from this, nget_with, if_pos rfl]
  · unfold Dk.used
    rw [hn, ((with_perm d.names ⟨nPart, d.files.length⟩).map _).sum_nat, List.map_cons, List.sum_cons]
    have e1 : ∀ q : Nat, q < d.files.length → ((Dk.change { d with files := d.files ++ [Fl.none] } (.create nPart d.files.length)).put d.files.length f).len q = d.len q := fun q hq => by
      simp only [Dk.len, Dk.file, Dk.put, Dk.change, List.getD_eq_getElem?_getD]
      rw [List.getElem?_set_ne (by omega), List.getElem?_append_left hq]
    have e2 : ((Dk.change { d with files := d.files ++ [Fl.none] } (.create nPart d.files.length)).put d.files.length f).len d.files.length = f.now.length := by
      simp only [Dk.len, Dk.file, Dk.put, Dk.change, List.getD_eq_getElem?_getD]
      rw [List.getElem?_set_self (by simp)]; rfl
    rw [e2]
    congr 1
    unfold oUse
    congr 1
    refine List.map_congr_left fun p hp => e1 _ (hok.file p (List.mem_filter.1 hp).1)
theorem dexport_calm {d : Dk} (hok : d.Ok) (hc : Calm d) {n t : ByteArray} (hn : nright n = true) (ht : t.size ≤ 1048576) (hr : nsecs t.data.toList + oUse d ≤ d.room) :
    dexport d n t = ({ d with files := d.files ++ [⟨psecs t.data.toList, psecs t.data.toList, []⟩], firm := putN d.names n d.files.length, chs := [] }, 0) := by
  have h1 := made_one hok hc
  have hcr := create_calm hc right_part
  generalize hT : t.data.toList = T at *
  obtain ⟨q, hq⟩ : ∃ q, q = Dk.change { d with files := d.files ++ [Fl.none] } (.create nPart d.files.length) := ⟨_, rfl⟩
  rw [← hq] at h1 hcr
  have hnone : q.file d.files.length = Fl.none := by
    rw [hq]; simp [Dk.file, Dk.change, List.getD_eq_getElem?_getD]
  have hroom : q.room = d.room := by rw [hq]; rfl
  obtain ⟨f, e1, e2⟩ := dsec_one T (nsecs T) 0 h1 (by rw [hnone]; rfl) (by rw [hroom]; omega)
  rw [hnone, show Fl.none.now = [] from rfl, List.nil_append, ← psecs_range] at e2
  have h2 := h1.put f
  have e3 := h2.sync
  rw [h1.fil, put_put] at e3
  have h3 := h1.put f.sync
  have e4 := rename_calm h3.calm h3.find (right_pfile hn) (pfile_part n)
  have hc5 : Calm ((q.put d.files.length f.sync).change (.rename nPart (pfile n) d.files.length)) := h3.calm.change _
  have e5 := syncNames_calm hc5
  unfold dexport
  rw [hn, if_neg (by simp), if_neg (by omega), hT, hcr]
  have g1 : thn (q, 0) (fun d => dsec T (nsecs T) 0 d) = (q.put d.files.length f, 0) := by rw [← e1]; rfl
  rw [g1]
  have g2 : thn (q.put d.files.length f, 0) (fun d => d.sync nPart) = (q.put d.files.length f.sync, 0) := by rw [← e3]; rfl
  rw [g2]
  have g3 : thn (q.put d.files.length f.sync, 0) (fun d => d.rename nPart (pfile n)) = ((q.put d.files.length f.sync).change (.rename nPart (pfile n) d.files.length), 0) := by rw [← e4]; rfl
  rw [g3]
  have g4 : thn ((q.put d.files.length f.sync).change (.rename nPart (pfile n) d.files.length), 0) (fun d => d.syncNames) = ((q.put d.files.length f.sync).change (.rename nPart (pfile n) d.files.length)).syncNames := rfl
  rw [g4, e5]
  have hnames : ((q.put d.files.length f.sync).change (.rename nPart (pfile n) d.files.length)).names = putN d.names n d.files.length := by
    rw [Dk.change_names]
    show with_ (without q.names nPart) _ = _
    rw [hq, Dk.change_names]
    show with_ (without (with_ d.names ⟨nPart, d.files.length⟩) nPart) _ = _
    rw [without_with d.names ⟨nPart, d.files.length⟩]; rfl
  have hfs : ((q.put d.files.length f.sync).change (.rename nPart (pfile n) d.files.length)).files = d.files ++ [⟨psecs T, psecs T, []⟩] := by
    show (q.files.set d.files.length f.sync) = _
    rw [hq]
    show (d.files ++ [Fl.none]).set d.files.length f.sync = _
    rw [List.set_append_right _ _ (Nat.le_refl _), Nat.sub_self, Fl.sync, e2]; rfl
  have hx : ∀ e : Dk, e = { d with files := e.files, firm := e.firm, chs := e.chs } → True := fun _ _ => trivial
  have hall : ({ (q.put d.files.length f.sync).change (.rename nPart (pfile n) d.files.length) with firm := ((q.put d.files.length f.sync).change (.rename nPart (pfile n) d.files.length)).names, chs := [] } : Dk) = { d with files := ((q.put d.files.length f.sync).change (.rename nPart (pfile n) d.files.length)).files, firm := ((q.put d.files.length f.sync).change (.rename nPart (pfile n) d.files.length)).names, chs := [] } := by rw [hq]; rfl
  rw [hall, hnames, hfs]
end Go.Proofs.Ytdpkamajecmebaa
