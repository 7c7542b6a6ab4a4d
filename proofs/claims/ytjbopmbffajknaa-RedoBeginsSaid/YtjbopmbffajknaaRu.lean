/- Redo: a log that is made, whatever fails, and what a crash leaves of it. -/
import Derived.Test.YtjbopmbffajknaaRt
set_option linter.unusedVariables false
set_option linter.unusedSimpArgs false
set_option maxRecDepth 100000
namespace Go.Proofs.Ytjbopmbffajknaa
open Go Go.Vc Go.Vault Go.Redo

structure Clean (d : Dk) : Prop where
  log : ∀ i k, nget (lists d i) nLog = some k → k < d.files.length ∧ d.file k = goodF
  room : d.room = 2000
theorem Weak.clean {d : Dk} (h : Weak d) : Clean d := ⟨fun i k hk => (by rw [h.no i] at hk; cases hk), h.room⟩
theorem clean_dies {d : Dk} (h : Clean d) : Clean d.dies := by
  obtain ⟨a, b, e⟩ := dies_eq d
  rw [e]; exact ⟨h.log, h.room⟩
def Qc (J : Dk → Prop) (r : Dk × Int) : Prop := Clean r.1 ∧ ((r.2 = 0 ∧ J r.1) ∨ r.2 = 93 ∨ r.2 = 95)
theorem Qc.thn {J J' : Dk → Prop} {r : Dk × Int} {f : Dk → Dk × Int} (h : Qc J r) (hf : ∀ d, Clean d → J d → Qc J' (f d)) : Qc J' (thn r f) := by
  rcases h with ⟨h1, ⟨h2, h3⟩ | h2⟩
  · rw [Redo.thn, if_pos h2]; exact hf _ h1 h3
  · rw [Redo.thn, if_neg (by omega)]; exact ⟨h1, .inr h2⟩
theorem rename_st {N : Nat} {d : Dk} (h : StB N goodF d) : Qc (fun d => d.dead = false) (d.rename nNew nLog) := by
  obtain ⟨K, h1, h2, h3⟩ := h.file
  have hr : Vault.right nLog = true := by decide +kernel
  obtain ⟨q, hq⟩ : ∃ q, q = d.change (.rename nNew nLog K) := ⟨_, rfl⟩
  have e0 : d.rename nNew nLog = (q.dies, q.dies.code) := by
    unfold Dk.rename
    rw [h.dead, h1, hr]
    simp only [Bool.false_eq_true, if_false, Bool.not_true, if_neg nNew_ne, hq]
  have eL : ons d.firm (d.chs ++ [Ch.rename nNew nLog K]) = with_ (without (ons d.firm d.chs) nNew) ⟨nLog, K⟩ := by simp [ons, Ch.on]
  have hc : Clean q := by
    rw [hq]
    refine ⟨fun i k hk => ?_, h.weak.room⟩
    change nget (ons d.firm ((d.chs ++ [Ch.rename nNew nLog K]).take i)) nLog = some k at hk
    by_cases hi : i ≤ d.chs.length
    · rw [List.take_append_of_le_length hi] at hk
      have := h.weak.no i
      rw [lists, hk] at this; cases this
    · rw [List.take_of_length_le (by simp; omega), eL, nget_with, if_pos rfl] at hk
      cases hk
      exact ⟨h2, h3⟩
  rw [e0]
  refine ⟨clean_dies hc, ?_⟩
  rcases dies_code q with ⟨hd, hcd⟩ | hcd
  · exact .inl ⟨hcd, hd⟩
  · exact .inr (.inl hcd)
theorem syncNames_st {d : Dk} (h : Clean d) (hd : d.dead = false) : Qc (fun _ => True) d.syncNames := by
  unfold Dk.syncNames
  rw [hd]
  simp only [Bool.false_eq_true, if_false]
  split
  · exact ⟨clean_dies h, .inr (.inl rfl)⟩
  · refine ⟨⟨fun i k hk => ?_, ?_⟩, .inl ⟨rfl, trivial⟩⟩
    · have hk2 : nget (ons d.names (([] : List Ch).take i)) nLog = some k := hk
      rw [List.take_nil] at hk2
      have := h.log d.chs.length k (by rw [lists, List.take_length]; exact hk2)
      obtain ⟨a, b, e⟩ := dies_eq d
      rw [e]; exact this
    · obtain ⟨a, b, e⟩ := dies_eq d
      rw [e]; exact h.room
theorem drenew_st {N : Nat} {d : Dk} (hw : Weak d) (hd : d.dead = false) (fit : d.Fit N) (hN : N ≤ 36) : Qc (fun _ => True) (drenew d nLog []) := by
  have h1 : Qc (StB (N + 6) goodF) (dfill d (newN nLog) (framedAll [])) := by
    obtain ⟨h2, h3⟩ := dfill_st hw hd fit hN
    exact ⟨h2.clean, h3⟩
  exact Qc.thn (Qc.thn h1 fun d1 _ hd1 => rename_st hd1) fun d1 hc hd1 => syncNames_st hc hd1
theorem find_good {d : Dk} (hd : d.dead = false) {k : Nat} (hk : d.find nLog = some k) (hf : d.file k = goodF) : findP d nLog = (0, ⟨nLog, 1, [], 0, 0, [], 0⟩) := by
  have hl : d.len k = 2 := by rw [Dk.len, hf]; rfl
  have hs : d.size nLog = 2 := by simp [Dk.size, hk, hl]
  have r0 : d.read nLog ((0 : Nat) : Int) = (zsec, 0) := by rw [read_ok hd hk (by omega), hf]; rfl
  have r1 : d.read nLog ((1 : Nat) : Int) = (sealB 1 0, 0) := by rw [read_ok hd hk (by omega), hf]; rfl
  have l0 : lookP d nLog 0 = some (0, 0) := by
    rw [lookP, r0]; decide +kernel
  have l1 : lookP d nLog 1 = some (1, 0) := by
    rw [lookP, r1]; decide +kernel
  have hm : mark2 d nLog = (1, 0) := by rw [mark2, l0, l1]; rfl
  unfold findP
  rw [hs, hm]
  have hg : gath d nLog 0 1 2 [] = ([], 0) := by rw [gath]; simp
  rw [if_neg (by decide), hg]
  simp [Redo.records, recordsF]
theorem open_begin {N : Nat} {d : Dk} (hc : Clean d) (hchs : d.chs = []) (hd : d.dead = false) (fit : d.Fit N) (hN : N ≤ 36) :
    Clean (openP d nLog).1 ∧ (((openP d nLog).2.1 = 0 ∧ (openP d nLog).2.2.all = []) ∨ (openP d nLog).2.1 = 93 ∨ (openP d nLog).2.1 = 95) := by
  unfold openP
  rw [if_neg (by rw [hd]; simp), if_neg (by decide)]
  cases hk : d.find nLog with
  | none =>
    rw [if_neg (by simp [Dk.size, hk])]
    have hw : Weak d := ⟨fun i => by rw [lists, hchs, List.take_nil]; have : nget (ons d.firm d.chs) nLog = none := hk; rwa [hchs] at this, hc.room⟩
    obtain ⟨h1, h2⟩ := drenew_st hw hd fit hN
    refine ⟨h1, ?_⟩
    rcases h2 with ⟨h2, _⟩ | h2
    · exact .inl ⟨h2, rfl⟩
    · exact .inr h2
  | some k =>
    obtain ⟨_, hf⟩ := hc.log d.chs.length k (by rw [lists, List.take_length]; exact hk)
    have hl : d.len k = 2 := by rw [Dk.len, hf]; rfl
    rw [if_pos (by simp [Dk.size, hk, hl]), find_good hd hk hf]
    exact ⟨hc, .inl ⟨rfl, rfl⟩⟩
theorem foundF_at : ∀ {fs : List Fl} {ps : List Int} {k : Nat} {f : Fl}, fs[k]? = some f → ∃ qs, (foundF fs ps)[k]? = some (f.found qs)
  | [], ps, k, f, h => by simp at h
  | g :: r, ps, 0, f, h => by
    simp at h; subst h
    exact ⟨ps, by simp [foundF]⟩
  | g :: r, ps, k + 1, f, h => by
    rw [List.getElem?_cons_succ] at h
    obtain ⟨qs, hq⟩ := foundF_at (ps := ps.drop g.since.length) h
    exact ⟨qs, by simpa [foundF] using hq⟩
theorem crash_clean {d : Dk} (h : Clean d) (n : Int) (ps : List Int) : Clean (d.crash n ps) := by
  refine ⟨fun i k hk => ?_, h.room⟩
  have hk2 : nget (ons (ons d.firm (d.chs.take (min (max n 0) d.chs.length).toNat)) (([] : List Ch).take i)) nLog = some k := hk
  rw [List.take_nil] at hk2
  obtain ⟨h1, h2⟩ := h.log _ k hk2
  have hl : (d.crash n ps).files.length = d.files.length := by simp only [Dk.crash, foundF_len]
  refine ⟨by rw [hl]; exact h1, ?_⟩
  have hf : d.files[k]? = some goodF := by
    rw [Dk.file, List.getD_eq_getElem?_getD, List.getElem?_eq_getElem h1] at h2
    rw [List.getElem?_eq_getElem h1]
    exact congrArg some h2
  obtain ⟨qs, hq⟩ := foundF_at (ps := ps) hf
  show (foundF d.files ps).getD k Fl.none = goodF
  rw [List.getD_eq_getElem?_getD, hq]
  rfl
theorem new_clean : Clean (Dk.new 2000) := by
  refine ⟨fun i k hk => ?_, rfl⟩
  have : lists (Dk.new 2000) i = [] := by simp [lists, Dk.new, ons]
  rw [this] at hk; cases hk
theorem armed_clean {d : Dk} (h : Clean d) (a b : Int) : Clean ((d.arm a).deny b) := ⟨h.log, h.room⟩
/-- where nothing fails it is made -/
theorem open_last {N : Nat} {d : Dk} (hc : Clean d) (hcalm : Calm d) (hok : d.Ok) (hchs : d.chs = []) (fit : d.Fit N) (hN : N ≤ 36) : (openP d nLog).2.1 = 0 ∧ (openP d nLog).2.2.all = [] := by
  have h1 := (open_begin hc hchs hcalm.dead fit hN).2
  have h2 := (openP_codes hcalm hok nLog).2
  have hnb : ¬ badN nLog := by unfold badN; decide
  have h3 := (h2.resolve_left fun h => hnb h.1).2
  rcases h1 with h1 | h1 | h1
  · exact h1
  · omega
  · omega
end Go.Proofs.Ytjbopmbffajknaa
