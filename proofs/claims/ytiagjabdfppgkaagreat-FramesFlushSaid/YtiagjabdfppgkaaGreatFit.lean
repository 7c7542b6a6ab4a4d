/- Vault: how great a disk grows. -/
import Derived.Test.YtiagjabdfppgkaaGreatUg
set_option linter.unusedVariables false
set_option linter.unusedSimpArgs false
namespace Go.Vault
open Go Go.Vc
structure Dk.Fit (d : Dk) (N : Nat) : Prop where
  files : d.files.length ≤ N
  now : ∀ f ∈ d.files, f.now.length ≤ N
  names : ∀ M, (ons d.firm (d.chs.take M)).length ≤ N
  chs : d.chs.length ≤ N
end Go.Vault
namespace Go.Proofs.YtiagjabdfppgkaaGreat
open Go Go.Vc Go.Vault
theorem _root_.Go.Vault.Dk.Fit.few {d : Dk} {N : Nat} (h : d.Fit N) : d.Few N := ⟨h.files, h.now, by have := h.names 0; simpa [ons] using this, h.chs⟩
theorem _root_.Go.Vault.Dk.Fit.nl {d : Dk} {N : Nat} (h : d.Fit N) : d.names.length ≤ N := by
  have := h.names d.chs.length
  rwa [List.take_length] at this
theorem _root_.Go.Vault.Dk.Fit.mono {d : Dk} {N M : Nat} (h : d.Fit N) (hm : N ≤ M) : d.Fit M := ⟨by have := h.files; omega, fun f hf => by have := h.now f hf; omega, fun m => by have := h.names m; omega, by have := h.chs; omega⟩
theorem sum_le {l : List Nat} {N : Nat} (h : ∀ x ∈ l, x ≤ N) : l.sum ≤ l.length * N := by
  induction l with
  | nil => simp
  | cons x r ih =>
    have h1 := h x (.head _)
    have h2 := ih fun y hy => h y (.tail _ hy)
    simp only [List.sum_cons, List.length_cons, Nat.add_mul, Nat.one_mul]; omega
theorem Dk.len_le {d : Dk} {N : Nat} (h : ∀ f ∈ d.files, f.now.length ≤ N) (k : Nat) : d.len k ≤ N := by
  unfold Dk.len Dk.file
  rw [List.getD_eq_getElem?_getD]
  cases hk : d.files[k]? with
  | none => simp [Fl.none]
  | some f => exact h f (List.mem_of_getElem? hk)
theorem _root_.Go.Vault.Dk.Fit.used {d : Dk} {N : Nat} (h : d.Fit N) (hN : N ≤ 1000000) : (d.used : Int) ≤ 9223372036854775807 := by
  have h1 := sum_le (l := d.names.map fun p => d.len p.file) (N := N) fun x hx => by
    obtain ⟨p, _, rfl⟩ := List.mem_map.1 hx
    exact Dk.len_le h.now _
  rw [List.length_map] at h1
  have h2 := Nat.mul_le_mul h.nl (Nat.le_refl N)
  have h3 := Nat.mul_le_mul hN hN
  have : d.used ≤ 1000000 * 1000000 := Nat.le_trans h1 (Nat.le_trans h2 h3)
  omega
theorem since_len {f : Fl} (h : f.Ok) : f.since.length ≤ f.now.length := by
  have : ∀ (l : List Nat) (lo N : Nat), l.Pairwise (· < ·) → (∀ n ∈ l, lo ≤ n ∧ n < N) → lo ≤ N → l.length ≤ N - lo := by
    intro l
    induction l with
    | nil => intro lo N _ _ _; simp
    | cons x r ih =>
      intro lo N hs hb hlo
      have hp := List.pairwise_cons.1 hs
      have hx := hb x (.head _)
      have := ih (x + 1) N hp.2 (fun n hn => ⟨hp.1 n hn, (hb n (.tail _ hn)).2⟩) (by omega)
      simp only [List.length_cons]; omega
  have := this f.since 0 f.now.length h.since (fun n hn => ⟨Nat.zero_le _, h.below n hn⟩) (Nat.zero_le _)
  omega
theorem Fit.change {d : Dk} {N : Nat} (h : d.Fit N) (c : Ch) : (d.change c).Fit (N + 1) := by
  refine ⟨by have := h.files; show d.files.length ≤ _; omega, fun f hf => by have := h.now f hf; omega, fun M => ?_, by have := h.chs; simp only [Dk.change, List.length_append, List.length_singleton]; omega⟩
  show (ons d.firm ((d.chs ++ [c]).take M)).length ≤ _
  by_cases hM : M ≤ d.chs.length
  · rw [List.take_append_of_le_length hM]; have := h.names M; omega
  · rw [List.take_of_length_le (by simp; omega)]
    have e : ons d.firm (d.chs ++ [c]) = c.on d.names := by simp [ons, Dk.names]
    rw [e]
    have := c.len d.names
    have := h.nl
    omega
theorem Fit.dies {d : Dk} {N : Nat} (h : d.Fit N) : d.dies.Fit N := by
  obtain ⟨a, b, e⟩ := dies_eq d
  rw [e]; exact ⟨h.files, h.now, h.names, h.chs⟩
theorem Fit.denies {d : Dk} {N : Nat} (h : d.Fit N) : d.denies.Fit N := ⟨h.files, h.now, h.names, h.chs⟩
theorem Fit.put {d : Dk} {N : Nat} (h : d.Fit N) {k : Nat} {f : Fl} (hf : f.now.length ≤ N + 1) : (d.put k f).Fit (N + 1) := by
  refine ⟨by have := h.files; simp only [Dk.put, List.length_set]; omega, fun g hg => ?_, fun M => by have := h.names M; show (ons d.firm (d.chs.take M)).length ≤ _; omega, by have := h.chs; show d.chs.length ≤ _; omega⟩
  rcases List.mem_or_eq_of_mem_set hg with hg | rfl
  · have := h.now g hg; omega
  · exact hf
theorem Fit.file {d : Dk} {N : Nat} (h : d.Fit N) (k : Nat) : (d.file k).now.length ≤ N := Dk.len_le h.now k
theorem Fit.crash {d : Dk} {N : Nat} (h : d.Fit N) (hok : d.Ok) (n : Int) (ps : List Int) : (d.crash n ps).Fit N := by
  refine ⟨by simp only [Dk.crash, foundF_len]; exact h.files, fun f hf => ?_, fun M => ?_, by simp [Dk.crash]⟩
  · obtain ⟨g, hg, qs, rfl⟩ := foundF_mem hf
    have := (found_ok (hok.files g hg) qs).2
    have := h.now g hg
    omega
  · show (ons (ons d.firm (d.chs.take _)) (([] : List Ch).take M)).length ≤ N
    rw [List.take_nil]
    exact h.names _
theorem Fit.sub {d : Dk} {N : Nat} (h : d.Fit N) (l : List Nm) (hl : l.length ≤ N) : ({ d with firm := l, chs := [] } : Dk).Fit N :=
  ⟨h.files, h.now, fun M => by show (ons l (([] : List Ch).take M)).length ≤ N; rw [List.take_nil]; exact hl, by simp⟩
theorem new_fit (room : Int) (N : Nat) : (Dk.new room).Fit N := ⟨by simp [Dk.new], by simp [Dk.new], fun M => by simp [Dk.new, ons], by simp [Dk.new]⟩
theorem Fit.create {d : Dk} {N : Nat} (h : d.Fit N) (n : ByteArray) : (d.create n).1.Fit (N + 1) := by
  have hm := h.mono (Nat.le_succ N)
  unfold Dk.create
  split
  · exact hm
  · split
    · exact hm
    · refine Fit.dies ?_
      have h1 := Fit.change h (.create n d.files.length)
      refine ⟨by simp only [Dk.change, List.length_append, List.length_singleton]; have := h.files; omega, fun f hf => ?_, h1.names, h1.chs⟩
      rcases List.mem_append.1 hf with hf | hf
      · have := h.now f hf; omega
      · rw [List.mem_singleton.1 hf]; simp [Fl.none]
theorem Fit.write {d : Dk} {N : Nat} (h : d.Fit N) (n : ByteArray) (i : Int) (b : List UInt8) : (d.write n i b).1.Fit (N + 1) := by
  have hm := h.mono (Nat.le_succ N)
  unfold Dk.write
  split
  · exact hm
  · split
    · exact hm
    · split
      · exact hm
      · split
        · exact hm
        · split
          · exact Fit.denies hm
          · refine Fit.dies (Fit.put (Fit.denies h) ?_)
            rename_i k _ _ _ _
            have := Fit.file h k
            simp only [Fl.write]
            split
            · simp; omega
            · simp; omega
theorem Fit.sync {d : Dk} {N : Nat} (h : d.Fit N) (n : ByteArray) : (d.sync n).1.Fit (N + 1) := by
  have hm := h.mono (Nat.le_succ N)
  unfold Dk.sync
  split
  · exact hm
  · split
    · exact hm
    · split
      · exact Fit.denies hm
      · dsimp only
        split
        · exact Fit.dies (Fit.denies hm)
        · rename_i k _ _ _
          exact Fit.put (Fit.dies (Fit.denies h)) (by have := Fit.file h k; simp only [Fl.sync]; omega)
theorem Fit.rename {d : Dk} {N : Nat} (h : d.Fit N) (a b : ByteArray) : (d.rename a b).1.Fit (N + 1) := by
  have hm := h.mono (Nat.le_succ N)
  unfold Dk.rename
  split
  · exact hm
  · split
    · exact hm
    · split
      · exact hm
      · split
        · exact hm
        · exact Fit.dies (Fit.change h _)
theorem Fit.syncNames {d : Dk} {N : Nat} (h : d.Fit N) : d.syncNames.1.Fit (N + 1) := by
  have hm := h.mono (Nat.le_succ N)
  unfold Dk.syncNames
  split
  · exact hm
  · dsimp only
    split
    · exact Fit.dies hm
    · exact Fit.sub (Fit.dies hm) _ (by have := h.nl; omega)
end Go.Proofs.YtiagjabdfppgkaaGreat
