/- Vault: plain laws of what is kept. -/
import Derived.Test.YtnmlkecmokhhhaaUx
set_option linter.unusedVariables false
set_option linter.unusedSimpArgs false
set_option maxRecDepth 100000
namespace Go.Proofs.Ytnmlkecmokhhhaa
open Go Go.Vc Go.Vault

structure Calm (q : Dk) : Prop where
  armed : q.armed = 0
  denied : q.denied = 0
  dead : q.dead = false
theorem Calm.dies {q : Dk} (h : Calm q) : q.dies = q := by unfold Dk.dies; rw [if_neg (by have := h.armed; omega)]
theorem Calm.denies {q : Dk} (h : Calm q) : q.denies = q := by
  have h2 := h.denied
  obtain ⟨_, _, _, _, _, _, _⟩ := q
  simp only [Dk.denies] at h2 ⊢
  rw [h2]
theorem Calm.refused {q : Dk} (h : Calm q) : q.refused = false := by simp [Dk.refused, h.denied]
theorem Calm.code {q : Dk} (h : Calm q) : q.code = 0 := by simp [Dk.code, h.dead]
theorem Calm.change {q : Dk} (h : Calm q) (c : Ch) : Calm (q.change c) := ⟨h.armed, h.denied, h.dead⟩
theorem Calm.put {q : Dk} (h : Calm q) (k : Nat) (f : Fl) : Calm (q.put k f) := ⟨h.armed, h.denied, h.dead⟩
theorem calm0 {d : Dk} (h : d.dead = false) : Calm ((d.arm 0).deny 0) := ⟨rfl, rfl, h⟩
theorem create_calm {q : Dk} (h : Calm q) {n : ByteArray} (hr : Vault.right n = true) : q.create n = (Dk.change { q with files := q.files ++ [Fl.none] } (.create n q.files.length), 0) := by
  have hc : Calm (Dk.change { q with files := q.files ++ [Fl.none] } (.create n q.files.length)) := ⟨h.armed, h.denied, h.dead⟩
  unfold Dk.create
  rw [if_neg (by rw [h.dead]; simp), if_neg (by rw [hr]; simp)]
  simp only [hc.dies, hc.code]
theorem rename_calm {q : Dk} (h : Calm q) {a b : ByteArray} {k : Nat} (hk : q.find a = some k) (hr : Vault.right b = true) (hab : a ≠ b) : q.rename a b = (q.change (.rename a b k), 0) := by
  unfold Dk.rename
  rw [h.dead, hk, hr]
  simp only [Bool.false_eq_true, if_false, Bool.not_true, if_neg hab, (h.change _).dies, (h.change _).code]
theorem remove_calm {q : Dk} (h : Calm q) {n : ByteArray} {k : Nat} (hk : q.find n = some k) : q.remove n = (q.change (.remove n), 0) := by
  unfold Dk.remove
  rw [h.dead, hk]
  simp only [Bool.false_eq_true, if_false, (h.change _).dies, (h.change _).code]
theorem remove_none {q : Dk} (h : Calm q) {n : ByteArray} (hk : q.find n = none) : q.remove n = (q, 90) := by
  unfold Dk.remove
  rw [h.dead, hk]
  simp
theorem read_calm {q : Dk} (h : q.dead = false) {n : ByteArray} {k : Nat} {s : List UInt8} {l : List (List UInt8)} (hk : q.find n = some k) (hf : (q.file k).now = s :: l) : q.read n 0 = (s, 0) := by
  unfold Dk.read
  rw [h, hk]
  have : ¬((0 : Int) < 0 ∨ (q.len k : Int) ≤ 0) := by
    have : q.len k = l.length + 1 := by simp [Dk.len, hf]
    omega
  simp only [Bool.false_eq_true, if_false, if_neg this, hf]
  rfl
/-- the first sector of a new file -/
theorem write_calm {q : Dk} (h : Calm q) {n : ByteArray} {k : Nat} {b : List UInt8} (hb : b.length ≤ 512) (hk : q.find n = some k) (hf : q.file k = Fl.none) : (q.write n 0 b = (q, 94) ∧ q.room ≤ q.used) ∨ q.write n 0 b = (q.put k ⟨[pad b], [], [0]⟩, 0) := by
  have hl : q.len k = 0 := by simp [Dk.len, hf, Fl.none]
  have hp : ¬((0 : Int) < 0 ∨ (q.len k : Int) < 0 ∨ 512 < b.length) := by rw [hl]; omega
  by_cases hu : q.room ≤ q.used
  · left
    refine ⟨?_, hu⟩
    unfold Dk.write
    rw [h.dead, hk]
    simp only [Bool.false_eq_true, if_false, if_neg hp]
    rw [if_pos ⟨by rw [hl]; rfl, hu⟩]
  · right
    unfold Dk.write
    rw [h.dead, hk]
    simp only [Bool.false_eq_true, if_false, if_neg hp]
    rw [if_neg (fun h2 => hu h2.2), h.refused]
    simp only [Bool.false_eq_true, if_false, h.denies, hf, (h.put _ _).dies, (h.put _ _).code]
    rfl
theorem find_change (q : Dk) (c : Ch) (m : ByteArray) : (q.change c).find m = nget (c.on q.names) m := by
  rw [Dk.find, Dk.change_names]

/-! ### A file that no one else may reach -/
structure Keeps (q : Dk) (n : ByteArray) (K : Nat) (all : Prop) : Prop where
  find : all → ∀ M, nget (ons q.firm (q.chs.take M)) n = some K
  now : q.find n = some K
  only : ∀ p ∈ q.names, p.file = K → p.name = n
  lt : K < q.files.length
theorem on_other {l : List Nm} {n : ByteArray} (c : Ch) (h : match c with | .create a _ => n ≠ a | .rename a b _ => n ≠ a ∧ n ≠ b | .remove a => n ≠ a) : nget (c.on l) n = nget l n := by
  cases c with
  | create a k => show nget (with_ l ⟨a, k⟩) n = _; rw [nget_with, if_neg h]
  | rename a b k => show nget (with_ (without l a) ⟨b, k⟩) n = _; rw [nget_with, if_neg h.2, nget_without, if_neg h.1]
  | remove a => show nget (without l a) n = _; rw [nget_without, if_neg h]
theorem Keeps.change {q : Dk} {n : ByteArray} {K : Nat} {all : Prop} (h : Keeps q n K all) (c : Ch) (hc : match c with | .create a _ => n ≠ a | .rename a b _ => n ≠ a ∧ n ≠ b | .remove a => n ≠ a) (ho : ∀ p ∈ c.on q.names, p.file = K → p.name = n) : Keeps (q.change c) n K all := by
  have hnow : nget (c.on q.names) n = some K := by rw [on_other c hc]; exact h.now
  refine ⟨fun ha M => ?_, by rw [find_change]; exact hnow, by rw [Dk.change_names]; exact ho, h.lt⟩
  show nget (ons q.firm ((q.chs ++ [c]).take M)) n = some K
  by_cases hM : M ≤ q.chs.length
  · rw [List.take_append_of_le_length hM]; exact h.find ha M
  · rw [List.take_of_length_le (by simp; omega)]
    have e : ons q.firm (q.chs ++ [c]) = c.on q.names := by simp [ons, Dk.names]
    rw [e]; exact hnow
theorem Keeps.flags {q : Dk} {n : ByteArray} {K : Nat} {all : Prop} (h : Keeps q n K all) (a b : Nat) (c : Bool) : Keeps { q with armed := a, denied := b, dead := c } n K all := ⟨h.find, h.now, h.only, h.lt⟩
theorem Keeps.dies {q : Dk} {n : ByteArray} {K : Nat} {all : Prop} (h : Keeps q n K all) : Keeps q.dies n K all := by
  obtain ⟨a, b, e⟩ := dies_eq q
  rw [e]; exact ⟨h.find, h.now, h.only, h.lt⟩
theorem Keeps.put {q : Dk} {n : ByteArray} {K : Nat} {all : Prop} (h : Keeps q n K all) (k : Nat) (f : Fl) : Keeps (q.put k f) n K all := ⟨h.find, h.now, h.only, by simp [Dk.put]; exact h.lt⟩
theorem Keeps.other {q : Dk} {n m : ByteArray} {K k : Nat} {all : Prop} (h : Keeps q n K all) (hm : m ≠ n) (hk : q.find m = some k) : k ≠ K := by
  rintro rfl
  obtain ⟨p, hp, h1, h2⟩ := nget_mem hk
  exact hm (h1.symm.trans (h.only p hp h2))
theorem file_put' {d : Dk} {k : Nat} {f : Fl} (j : Nat) (h : j ≠ k) : (d.put k f).file j = d.file j := by
  simp only [Dk.file, Dk.put, List.getD_eq_getElem?_getD, List.getElem?_set, if_neg (fun e : k = j => h e.symm)]
theorem keep_step {q : Dk} {n : ByteArray} {K : Nat} {all : Prop} (h : Keeps q n K all) (o : Op) (h9 : o.kind ≠ 9) (h1 : o.name ≠ n) (h2 : o.to ≠ n) : Keeps (doP q o).1 n K all ∧ (doP q o).1.file K = q.file K := by
  have e1 : n ≠ o.name := fun e => h1 e.symm
  have e2 : n ≠ o.to := fun e => h2 e.symm
  unfold doP
  split
  · unfold Dk.create
    split
    · exact ⟨h, rfl⟩
    · split
      · exact ⟨h, rfl⟩
      · have hlt := h.lt
        have hf : ({ q with files := q.files ++ [Fl.none] } : Dk).file K = q.file K := by
          simp only [Dk.file, List.getD_eq_getElem?_getD]
          rw [List.getElem?_append_left hlt]
        have hk : Keeps { q with files := q.files ++ [Fl.none] } n K all := ⟨h.find, h.now, h.only, by simp; omega⟩
        refine ⟨Keeps.dies (hk.change _ e1 fun p hp hpk => ?_), by rw [dies_file]; exact hf⟩
        rcases mem_with hp with rfl | hp
        · simp only at hpk; omega
        · exact h.only p hp.1 hpk
  · split
    · unfold Dk.write
      split
      · exact ⟨h, rfl⟩
      · split
        · exact ⟨h, rfl⟩
        · rename_i k hk
          have hne := h.other h1 hk
          split
          · exact ⟨h, rfl⟩
          · split
            · exact ⟨h, rfl⟩
            · split
              · exact ⟨h.flags _ _ _, rfl⟩
              · exact ⟨Keeps.dies (Keeps.put (h.flags q.armed (q.denied - 1) q.dead) k _), by rw [dies_file, file_put' _ (fun e => hne e.symm)]; rfl⟩
    · split
      · exact ⟨h, rfl⟩
      · split
        · unfold Dk.sync
          split
          · exact ⟨h, rfl⟩
          · split
            · exact ⟨h, rfl⟩
            · rename_i k hk
              have hne := h.other h1 hk
              have hd : Keeps q.denies.dies n K all := Keeps.dies (h.flags q.armed (q.denied - 1) q.dead)
              split
              · exact ⟨h.flags _ _ _, rfl⟩
              · dsimp only
                split
                · exact ⟨hd, by rw [dies_file]; rfl⟩
                · exact ⟨hd.put k _, by rw [file_put' _ (fun e => hne e.symm), dies_file]; rfl⟩
        · split
          · unfold Dk.rename
            split
            · exact ⟨h, rfl⟩
            · split
              · exact ⟨h, rfl⟩
              · rename_i k hk
                have hne := h.other h1 hk
                split
                · exact ⟨h, rfl⟩
                · split
                  · exact ⟨h, rfl⟩
                  · refine ⟨Keeps.dies (h.change _ ⟨e1, e2⟩ fun p hp hpk => ?_), by rw [dies_file]; rfl⟩
                    rcases mem_with hp with rfl | hp
                    · exact absurd hpk hne
                    · exact h.only p (mem_without.1 hp.1).1 hpk
          · split
            · unfold Dk.remove
              split
              · exact ⟨h, rfl⟩
              · split
                · exact ⟨h, rfl⟩
                · refine ⟨Keeps.dies (h.change _ e1 fun p hp hpk => ?_), by rw [dies_file]; rfl⟩
                  exact h.only p (mem_without.1 hp).1 hpk
            · split
              · unfold Dk.syncNames
                split
                · exact ⟨h, rfl⟩
                · dsimp only
                  have hd : Keeps q.dies n K all := h.dies
                  split
                  · exact ⟨hd, dies_file _ _⟩
                  · refine ⟨⟨fun _ M => ?_, h.now, ?_, hd.lt⟩, dies_file _ _⟩
                    · show nget (ons q.names (([] : List Ch).take M)) n = some K
                      rw [List.take_nil]
                      exact h.now
                    · exact h.only
              · split
                · exact ⟨h.flags _ _ _, rfl⟩
                · split
                  · exact ⟨h.flags _ _ _, rfl⟩
                  · exact ⟨h, rfl⟩
theorem calm_step {q : Dk} (h : Calm q) (o : Op) (h0 : o.kind < 7) : Calm (doP q o).1 := by
  unfold doP
  split
  · unfold Dk.create
    split
    · exact h
    · split
      · exact h
      · have hc : Calm (Dk.change { q with files := q.files ++ [Fl.none] } (.create o.name q.files.length)) := ⟨h.armed, h.denied, h.dead⟩
        rw [hc.dies]; exact hc
  · split
    · unfold Dk.write
      split
      · exact h
      · split
        · exact h
        · split
          · exact h
          · split
            · exact h
            · split
              · rw [h.denies]; exact h
              · rw [h.denies, (h.put _ _).dies]; exact h.put _ _
    · split
      · exact h
      · split
        · unfold Dk.sync
          split
          · exact h
          · split
            · exact h
            · split
              · rw [h.denies]; exact h
              · dsimp only
                rw [h.denies, h.dies]
                split
                · exact h
                · exact h.put _ _
        · split
          · unfold Dk.rename
            split
            · exact h
            · split
              · exact h
              · split
                · exact h
                · split
                  · exact h
                  · rw [(h.change _).dies]; exact h.change _
          · split
            · unfold Dk.remove
              split
              · exact h
              · split
                · exact h
                · rw [(h.change _).dies]; exact h.change _
            · split
              · unfold Dk.syncNames
                split
                · exact h
                · dsimp only
                  rw [h.dies]
                  split
                  · exact h
                  · exact ⟨h.armed, h.denied, h.dead⟩
              · rw [if_neg (by omega), if_neg (by omega), if_neg (by omega)]
                exact h
/-- a file just made -/
theorem made_keeps {q : Dk} (hok : q.Ok) (n : ByteArray) : let q1 := Dk.change { q with files := q.files ++ [Fl.none] } (.create n q.files.length)
    q1.find n = some q.files.length ∧ q1.file q.files.length = Fl.none ∧ (∀ p ∈ q1.names, p.file = q.files.length → p.name = n) ∧ q.files.length < q1.files.length := by
  refine ⟨?_, ?_, ?_, by simp [Dk.change]⟩
  · rw [find_change]
    show nget (with_ q.names ⟨n, q.files.length⟩) n = _
    rw [nget_with, if_pos rfl]
  · simp [Dk.file, Dk.change]
  · rw [Dk.change_names]
    intro p hp hpk
    rcases mem_with (l := q.names) hp with rfl | hp
    · rfl
    · have := hok.file p hp.1
      omega
theorem crash_reads {q : Dk} {n : ByteArray} {K : Nat} (h : Keeps q n K True) {s : List UInt8} (h1 : (q.file K).firm = [s]) (h2 : (q.file K).since = []) (m : Int) (ps : List Int) : (q.crash m ps).read n 0 = (s, 0) := by
  obtain ⟨qs, hqs⟩ := foundF_get (ps := ps) (List.getElem?_eq_getElem h.lt)
  have hf : (q.crash m ps).file K = (q.files[K]'h.lt).found qs := by
    simp only [Dk.file, Dk.crash, List.getD_eq_getElem?_getD]
    rw [hqs]; rfl
  have hqf : q.files[K]'h.lt = q.file K := by simp [Dk.file, h.lt]
  refine read_calm (l := []) rfl (k := K) ?_ ?_
  · show nget (ons (ons q.firm (q.chs.take _)) []) n = some K
    exact h.find trivial _
  · rw [hf, hqf, Fl.found, h2]
    show (q.file K).firm = _
    exact h1
theorem made_zeros (n : Nat) : (madeCells (Value.int .u8 0).cells (n * 1)).toList = List.replicate n (Value.int .u8 0) := by
  apply List.ext_getElem?
  intro k
  rw [Nat.mul_one]
  by_cases hk : k < n
  · have : (madeCells (Value.int .u8 0).cells n).toList.length = n := by rw [Array.length_toList, size_madeCells]
    rw [List.getElem?_eq_getElem (by omega), List.getElem?_replicate, if_pos hk]
    simp [madeCells, Value.cells, Nat.mod_one]
  · rw [List.getElem?_eq_none (by rw [Array.length_toList, size_madeCells]; omega), List.getElem?_replicate, if_neg hk]

end Go.Proofs.Ytnmlkecmokhhhaa
