/- Press: plain laws of PressApart. -/
import Derived.Test.YtdpkamajecmebaaQi
import Derived.Test.YtdpkamajecmebaaQs
set_option linter.unusedVariables false
set_option linter.unusedSimpArgs false
set_option maxRecDepth 100000
namespace Go.Proofs.Ytdpkamajecmebaa
open Go Go.Vc Go.Vault Go.Redo Go.Press

/-- a disk in which others work -/
structure Others (d : Dk) (n : ByteArray) (k : Nat) : Prop where
  calm : Calm d
  room : d.room = 3000
  free : ∀ p ∈ d.names, p.name ≠ nPart ∧ p.name ≠ pfile n
  few : ∃ c u, d.names.length ≤ c ∧ (∀ f ∈ d.files, f.now.length ≤ u) ∧ c + u ≤ k
theorem Others.mono {d : Dk} {n : ByteArray} {k m : Nat} (h : Others d n k) (hm : k ≤ m) : Others d n m :=
  ⟨h.calm, h.room, h.free, by obtain ⟨c, u, h1, h2, h3⟩ := h.few; exact ⟨c, u, h1, h2, by omega⟩⟩
theorem others_new (n : ByteArray) : Others (Dk.new 3000) n 0 := ⟨⟨rfl, rfl, rfl⟩, by decide, by simp [Dk.new, Dk.names, ons], 0, 0, by simp [Dk.new, Dk.names, ons], by simp [Dk.new], by omega⟩
theorem Others.create {d : Dk} {n : ByteArray} {k : Nat} (h : Others d n k) {m : ByteArray} (h1 : m ≠ nPart) (h2 : m ≠ pfile n) : Others (d.create m).1 n (k + 1) := by
  cases hr : Vault.right m with
  | false =>
    have e : d.create m = (d, 92) := by unfold Dk.create; rw [h.calm.dead, hr]; rfl
    rw [e]; exact h.mono (by omega)
  | true =>
    rw [create_calm h.calm hr]
    have hn : (Dk.change { d with files := d.files ++ [Fl.none] } (.create m d.files.length)).names = with_ d.names ⟨m, d.files.length⟩ := by rw [Dk.change_names]; rfl
    obtain ⟨c, u, g1, g2, g3⟩ := h.few
    refine ⟨⟨h.calm.armed, h.calm.denied, h.calm.dead⟩, h.room, ?_, c + 1, u, ?_, ?_, by omega⟩
    · intro p hp
      rw [hn] at hp
      rcases mem_with hp with rfl | ⟨hp, _⟩
      · exact ⟨h1, h2⟩
      · exact h.free p hp
    · rw [hn]; have := with_len d.names ⟨m, d.files.length⟩; omega
    · intro f hf
      rcases List.mem_append.1 hf with hf | hf
      · exact g2 f hf
      · rw [List.mem_singleton.1 hf]; simp [Fl.none]
theorem Others.write {d : Dk} {n : ByteArray} {k : Nat} (h : Others d n k) (m : ByteArray) (i : Int) (b : List UInt8) : Others (d.write m i b).1 n (k + 1) := by
  unfold Dk.write
  rw [h.calm.dead]
  simp only [Bool.false_eq_true, if_false]
  split
  · exact h.mono (by omega)
  · rename_i K hK
    split
    · exact h.mono (by omega)
    · split
      · exact h.mono (by omega)
      · rename_i hi _
        rw [h.calm.refused]
        simp only [Bool.false_eq_true, if_false, h.calm.denies, (h.calm.put _ _).dies]
        obtain ⟨c, u, g1, g2, g3⟩ := h.few
        refine ⟨h.calm.put _ _, h.room, h.free, c, u + 1, g1, ?_, by omega⟩
        intro f hf
        rcases List.mem_or_eq_of_mem_set hf with hf | rfl
        · have := g2 f hf; omega
        · have hl : (d.file K).now.length ≤ u := len_le_of g2 K
          have hl2 : d.len K = (d.file K).now.length := rfl
          rw [write_len (d.file K) b (by omega)]
          omega
theorem sq_le : ∀ c : Fin 101, c.val * (100 - c.val) ≤ 2500 := by decide
theorem Others.use {d : Dk} {n : ByteArray} (h : Others d n 100) : d.used ≤ 2500 := by
  obtain ⟨c, u, g1, g2, g3⟩ := h.few
  have h1 : d.used ≤ d.names.length * u := sum_le' fun p _ => len_le_of g2 p.file
  have h2 : d.names.length * u ≤ c * u := Nat.mul_le_mul_right _ g1
  have h3 : c * u ≤ c * (100 - c) := Nat.mul_le_mul_left _ (by omega)
  have h4 := sq_le ⟨c, by omega⟩
  have h4 : c * (100 - c) ≤ 2500 := h4
  omega
/-- others' files are what they were -/
structure Over (d q : Dk) (n t : ByteArray) (J : Nat) : Prop where
  calm : Calm q
  room : q.room = 3000
  chs : q.chs = []
  firm : q.firm = with_ d.names ⟨pfile n, J⟩
  file : ∀ k, k < d.files.length → q.file k = d.file k
  len : d.files.length ≤ J ∧ J < q.files.length
  at_ : (q.file J).now = psecs t.data.toList
theorem Over.names {d q : Dk} {n t : ByteArray} {J : Nat} (h : Over d q n t J) : q.names = with_ d.names ⟨pfile n, J⟩ := by rw [Dk.names, h.chs, h.firm]; rfl
theorem Over.used {d q : Dk} (hok : d.Ok) {n t : ByteArray} {J : Nat} (h : Over d q n t J) (hf : ∀ p ∈ d.names, p.name ≠ nPart ∧ p.name ≠ pfile n) : q.used = nsecs t.data.toList + d.used := by
  unfold Dk.used
  rw [h.names, ((with_perm d.names ⟨pfile n, J⟩).map _).sum_nat, List.map_cons, List.sum_cons, without_none (fun p hp => (hf p hp).2)]
  have e1 : q.len J = nsecs t.data.toList := by rw [Dk.len, h.at_, psecs_len]
  rw [e1]
  congr 2
  refine List.map_congr_left fun p hp => ?_
  rw [Dk.len, h.file _ (hok.file p hp)]; rfl
theorem with_again (l : List Nm) (n : ByteArray) (J K : Nat) : with_ (with_ l ⟨n, J⟩) ⟨n, K⟩ = with_ l ⟨n, K⟩ := by
  rw [with_, without_with l ⟨n, J⟩]; rfl
theorem apart_one {d : Dk} (hok : d.Ok) {n t : ByteArray} (h : Others d n 100) (hn : nright n = true) (ht : t.size ≤ 20000) : ∃ q, dexport d n t = (q, 0) ∧ Over d q n t d.files.length := by
  have hu := h.use
  have ho := oUse_le d
  have hs : nsecs t.data.toList ≤ 41 := by have := size_data t; unfold nsecs; omega
  refine ⟨_, dexport_calm hok h.calm hn (by omega) (by rw [h.room]; omega), ⟨h.calm.armed, h.calm.denied, h.calm.dead⟩, h.room, rfl, ?_, ?_, ⟨Nat.le_refl _, by simp⟩, ?_⟩
  · show with_ (without d.names nPart) _ = _
    rw [without_none fun p hp => (h.free p hp).1]
  · intro k hk
    show ({ d with files := d.files ++ [⟨psecs t.data.toList, psecs t.data.toList, []⟩] } : Dk).file k = _
    rw [file_app, if_neg (by omega)]
  · show (({ d with files := d.files ++ [⟨psecs t.data.toList, psecs t.data.toList, []⟩] } : Dk).file d.files.length).now = _
    rw [file_app, if_pos rfl]
theorem apart_two {d q : Dk} (hok : d.Ok) (hq : q.Ok) {n t : ByteArray} {J : Nat} (h : Others d n 100) (ho : Over d q n t J) (hn : nright n = true) (ht : t.size ≤ 20000) : ∃ q2, dexport q n t = (q2, 0) ∧ Over d q2 n t q.files.length := by
  have hu := h.use
  have h2 := ho.used hok h.free
  have ho2 := oUse_le q
  have hs : nsecs t.data.toList ≤ 41 := by have := size_data t; unfold nsecs; omega
  refine ⟨_, dexport_calm hq ho.calm hn (by omega) (by rw [ho.room]; omega), ⟨ho.calm.armed, ho.calm.denied, ho.calm.dead⟩, ho.room, rfl, ?_, ?_, ⟨by have := ho.len; omega, by simp⟩, ?_⟩
  · show with_ (without q.names nPart) _ = _
    rw [without_none, ho.names, with_again]
    intro p hp
    rw [ho.names] at hp
    rcases mem_with hp with rfl | ⟨hp, _⟩
    · exact fun e => pfile_part n e.symm
    · exact (h.free p hp).1
  · intro k hk
    show ({ q with files := q.files ++ [⟨psecs t.data.toList, psecs t.data.toList, []⟩] } : Dk).file k = _
    rw [file_app, if_neg (by have := ho.len; omega)]
    exact ho.file k hk
  · show (({ q with files := q.files ++ [⟨psecs t.data.toList, psecs t.data.toList, []⟩] } : Dk).file q.files.length).now = _
    rw [file_app, if_pos rfl]
theorem apart_gone {d q : Dk} (hok : d.Ok) {n t : ByteArray} {J : Nat} (h : Others d n 100) (ho : Over d q n t J) : ∃ q2, q.remove (pfile n) = (q2, 0) ∧ Same q2 d := by
  have hf : q.find (pfile n) = some J := by rw [Dk.find, ho.names, nget_with, if_pos rfl]
  have hn : (q.change (.remove (pfile n))).names = d.names := by
    rw [Dk.change_names, ho.names]
    show without (with_ d.names ⟨pfile n, J⟩) (pfile n) = _
    rw [without_with d.names ⟨pfile n, J⟩, without_none fun p hp => (h.free p hp).2]
  refine ⟨_, remove_calm ho.calm hf, hn, ?_, ?_⟩
  · show q.dead = d.dead
    rw [ho.calm.dead, h.calm.dead]
  · intro p hp
    rw [hn] at hp
    show (q.file p.file).now = _
    rw [ho.file _ (hok.file p hp)]
end Go.Proofs.Ytdpkamajecmebaa
