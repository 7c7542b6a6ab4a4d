/- Redo: plain laws of a log that is made on a disk that may die or refuse. -/
import Derived.Test.YtjbopmbffajknaaRq
set_option linter.unusedVariables false
set_option linter.unusedSimpArgs false
set_option maxRecDepth 100000
namespace Go.Proofs.Ytjbopmbffajknaa
open Go Go.Vc Go.Vault Go.Redo

def nNew : ByteArray := newN nLog
def lists (d : Dk) (i : Nat) : List Nm := ons d.firm (d.chs.take i)
/-- in no list of names that a crash may leave is a log -/
structure Weak (d : Dk) : Prop where
  no : ∀ i, nget (lists d i) nLog = none
  room : d.room = 2000
structure StB (N : Nat) (f : Fl) (d : Dk) : Prop where
  weak : Weak d
  dead : d.dead = false
  fit : d.Fit N
  file : ∃ K, d.find nNew = some K ∧ K < d.files.length ∧ d.file K = f
def Qb (J : Dk → Prop) (r : Dk × Int) : Prop := Weak r.1 ∧ ((r.2 = 0 ∧ J r.1) ∨ r.2 = 93 ∨ r.2 = 95)
theorem Qb.thn {J J' : Dk → Prop} {r : Dk × Int} {f : Dk → Dk × Int} (h : Qb J r) (hf : ∀ d, J d → Qb J' (f d)) : Qb J' (thn r f) := by
  rcases h with ⟨h1, ⟨h2, h3⟩ | h2⟩
  · rw [Redo.thn, if_pos h2]; exact hf _ h3
  · rw [Redo.thn, if_neg (by omega)]; exact ⟨h1, .inr h2⟩
theorem weak_dies {d : Dk} (h : Weak d) : Weak d.dies := by
  obtain ⟨a, b, e⟩ := dies_eq d
  rw [e]; exact ⟨h.no, h.room⟩
theorem weak_denies {d : Dk} (h : Weak d) : Weak d.denies := ⟨h.no, h.room⟩
theorem weak_put {d : Dk} (h : Weak d) (k : Nat) (f : Fl) : Weak (d.put k f) := ⟨h.no, h.room⟩
theorem dies_code (d : Dk) : (d.dies.dead = false ∧ d.dies.code = 0) ∨ d.dies.code = 93 := by
  unfold Dk.code
  cases d.dies.dead <;> simp
theorem used_le {d : Dk} {N : Nat} (h : d.Fit N) (hN : N ≤ 44) : d.used < 2000 := by
  have h1 := sum_le (l := d.names.map fun p => d.len p.file) (N := N) fun x hx => by
    obtain ⟨p, _, rfl⟩ := List.mem_map.1 hx
    exact Dk.len_le h.now _
  rw [List.length_map] at h1
  have h2 := Nat.mul_le_mul h.nl (Nat.le_refl N)
  have h3 := Nat.mul_le_mul hN hN
  have : d.used ≤ 44 * 44 := Nat.le_trans h1 (Nat.le_trans h2 h3)
  omega
/-- a file that was put, behind a call that may be the last -/
theorem put_st {N : Nat} {f : Fl} {d : Dk} (h : StB N f d) {K : Nat} (h1 : d.find nNew = some K) (h2 : K < d.files.length) (g : Fl) (hg : g.now.length ≤ N + 1) (hd : (d.put K g).dies.dead = false) : StB (N + 1) g (d.put K g).dies := by
  refine ⟨weak_dies (weak_put h.weak _ _), hd, Fit.dies (Fit.put h.fit hg), K, ?_, ?_, ?_⟩
  · obtain ⟨a, b, e⟩ := dies_eq (d.put K g)
    rw [e]; exact h1
  · obtain ⟨a, b, e⟩ := dies_eq (d.put K g)
    rw [e]; simpa [Dk.put] using h2
  · obtain ⟨a, b, e⟩ := dies_eq (d.put K g)
    rw [e]; exact put_file h2 g
theorem write_st {N : Nat} {f : Fl} {d : Dk} (h : StB N f d) (hN : N ≤ 44) {i : Nat} (hi : i ≤ f.now.length) {b : List UInt8} (hb : b.length ≤ 512) : Qb (StB (N + 1) (f.write i b)) (d.write nNew (i : Int) b) := by
  obtain ⟨K, h1, h2, h3⟩ := h.file
  have hu := used_le h.fit hN
  have hl : d.len K = f.now.length := by rw [Dk.len, h3]
  have hfl := Fit.file h.fit K
  rw [h3] at hfl
  have hp : ¬((i : Int) < 0 ∨ (d.len K : Int) < (i : Int) ∨ 512 < b.length) := by omega
  have hr : ¬ ((i : Int) = (d.len K : Int) ∧ d.room ≤ d.used) := by have := h.weak.room; omega
  unfold Dk.write
  rw [h.dead, h1]
  simp only [Bool.false_eq_true, if_false, if_neg hp, if_neg hr, Int.toNat_natCast, h3]
  split
  · exact ⟨weak_denies h.weak, .inr (.inr rfl)⟩
  · have hdn : StB N f d.denies := ⟨weak_denies h.weak, h.dead, Fit.denies h.fit, K, h1, h2, h3⟩
    have hw : (f.write i b).now.length ≤ N + 1 := by rw [write_len _ _ hi]; omega
    refine ⟨weak_dies (weak_put hdn.weak _ _), ?_⟩
    rcases dies_code (d.denies.put K (f.write i b)) with ⟨hd, hc⟩ | hc
    · exact .inl ⟨hc, put_st hdn h1 h2 _ hw hd⟩
    · exact .inr (.inl hc)
theorem sync_st {N : Nat} {f : Fl} {d : Dk} (h : StB N f d) : Qb (StB (N + 1) f.sync) (d.sync nNew) := by
  obtain ⟨K, h1, h2, h3⟩ := h.file
  have hfl := Fit.file h.fit K
  rw [h3] at hfl
  unfold Dk.sync
  rw [h.dead, h1]
  simp only [Bool.false_eq_true, if_false]
  split
  · exact ⟨weak_denies h.weak, .inr (.inr rfl)⟩
  · split
    · exact ⟨weak_dies (weak_denies h.weak), .inr (.inl rfl)⟩
    · rename_i hd
      obtain ⟨a, b, e⟩ := dies_eq d.denies
      refine ⟨weak_put (weak_dies (weak_denies h.weak)) _ _, .inl ⟨rfl, weak_put (weak_dies (weak_denies h.weak)) _ _, by show d.denies.dies.dead = false; simpa using hd, Fit.put (Fit.dies (Fit.denies h.fit)) (by simp only [Fl.sync, h3]; omega), K, ?_, ?_, ?_⟩⟩
      · rw [e]; exact h1
      · rw [e]; simpa [Dk.put, Dk.denies] using h2
      · rw [h3]; exact put_file (by rw [e]; exact h2) _
theorem nNew_ne : nNew ≠ nLog := newN_ne nLog
theorem create_st {N : Nat} {d : Dk} (hw : Weak d) (hd : d.dead = false) (fit : d.Fit N) : Qb (StB (N + 1) Fl.none) (d.create nNew) := by
  have hfit := Fit.create fit nNew
  have hr : Vault.right nNew = true := by decide +kernel
  obtain ⟨q, hq⟩ : ∃ q, q = Dk.change { d with files := d.files ++ [Fl.none] } (.create nNew d.files.length) := ⟨_, rfl⟩
  have e0 : d.create nNew = (q.dies, q.dies.code) := by
    rw [hq]; unfold Dk.create
    rw [if_neg (by rw [hd]; simp), if_neg (by rw [hr]; simp)]
  have eL : ons d.firm (d.chs ++ [Ch.create nNew d.files.length]) = with_ (ons d.firm d.chs) ⟨nNew, d.files.length⟩ := by simp [ons, Ch.on]
  have hw2 : Weak q := by
    rw [hq]
    refine ⟨fun i => ?_, hw.room⟩
    show nget (ons d.firm ((d.chs ++ [Ch.create nNew d.files.length]).take i)) nLog = none
    by_cases hi : i ≤ d.chs.length
    · rw [List.take_append_of_le_length hi]; exact hw.no i
    · rw [List.take_of_length_le (by simp; omega), eL, nget_with, if_neg nNew_ne.symm]
      have := hw.no d.chs.length
      rwa [lists, List.take_length] at this
  rw [e0] at hfit ⊢
  refine ⟨weak_dies hw2, ?_⟩
  rcases dies_code q with ⟨hd2, hc⟩ | hc
  · obtain ⟨a, b, e⟩ := dies_eq q
    refine .inl ⟨hc, weak_dies hw2, hd2, hfit, d.files.length, ?_, ?_, ?_⟩
    · show q.dies.find nNew = _
      rw [e, hq]
      show nget (ons d.firm (d.chs ++ [Ch.create nNew d.files.length])) nNew = _
      rw [eL, nget_with, if_pos rfl]
    · show d.files.length < q.dies.files.length
      rw [e, hq]; simp [Dk.change]
    · show q.dies.file d.files.length = _
      rw [e, hq]; simp [Dk.file, Dk.change, Fl.none]
  · exact .inr (.inl hc)
def goodF : Fl := ⟨[zsec, sealB 1 0], [zsec, sealB 1 0], []⟩
theorem goodF_eq : ((((((Fl.none.write 0 []).write 1 []).sync).write (1 % 2) (sealB 1 0)).sync)) = goodF := by
  have h1 : pad [] = zsec := rfl
  have h2 : pad (sealB 1 0) = sealB 1 0 := by
    rw [pad, sealB_len, Nat.sub_self]; simp
  have e1 : Fl.none.write 0 [] = ⟨[zsec], [], [0]⟩ := by simp [Fl.none, Fl.write, h1, addN]
  have e2 : Fl.write ⟨[zsec], [], [0]⟩ 1 [] = ⟨[zsec, zsec], [], [0, 1]⟩ := by simp [Fl.write, h1, addN]
  have e3 : Fl.sync ⟨[zsec, zsec], [], [0, 1]⟩ = ⟨[zsec, zsec], [zsec, zsec], []⟩ := rfl
  have e4 : Fl.write ⟨[zsec, zsec], [zsec, zsec], []⟩ (1 % 2) (sealB 1 0) = ⟨[zsec, sealB 1 0], [zsec, zsec], [1]⟩ := by simp [Fl.write, h2, addN]
  rw [e1, e2, e3, e4]; rfl
theorem dfill_st {N : Nat} {d : Dk} (hw : Weak d) (hd : d.dead = false) (fit : d.Fit N) (hN : N ≤ 36) : Qb (StB (N + 6) goodF) (dfill d nNew []) := by
  have hs : (sealB 1 0).length ≤ 512 := by rw [sealB_len]; omega
  rw [← goodF_eq]
  refine Qb.thn (J := StB (N + 3) ((Fl.none.write 0 []).write 1 [])) (Qb.thn (J := StB (N + 3) ((Fl.none.write 0 []).write 1 [])) (Qb.thn (J := StB (N + 2) (Fl.none.write 0 [])) (Qb.thn (create_st hw hd fit) fun d1 h1 => ?_) fun d1 h1 => ?_) fun d1 h1 => ⟨h1.weak, .inl ⟨rfl, h1⟩⟩) fun d1 h1 => ?_
  · exact write_st h1 (by omega) (i := 0) (Nat.zero_le _) (by simp)
  · exact write_st h1 (by omega) (i := 1) (by simp [Fl.none, Fl.write]) (by simp)
  · refine Qb.thn (J := StB (N + 5) ((((Fl.none.write 0 []).write 1 []).sync).write (1 % 2) (sealB 1 0))) (Qb.thn (J := StB (N + 4) (((Fl.none.write 0 []).write 1 []).sync)) (sync_st h1) fun d2 h2 => ?_) fun d2 h2 => sync_st h2
    exact write_st h2 (by omega) (i := 1 % 2) (by simp [Fl.none, Fl.write, Fl.sync]) hs
end Go.Proofs.Ytjbopmbffajknaa
