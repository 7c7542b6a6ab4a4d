/- Frames: plain laws of the pool's disk: what a page's write leaves; the clock. -/
import Derived.Test.YtiagjabdfppgkaaGreatGs
set_option linter.unusedVariables false
set_option linter.unusedSimpArgs false
set_option maxRecDepth 100000
namespace Go.Proofs.YtiagjabdfppgkaaGreat
open Go Go.Vc Go.Vault

structure DD (d : Dk) : Prop where
  ok : d.Ok
  dead : d.dead = false
  armed : d.armed = 0
  room : d.room = 2000
  one : d.files.length = 1
  nm : (d.firm = [] ∧ d.chs = [.create nData 0]) ∨ (d.firm = [⟨nData, 0⟩] ∧ d.chs = [])
section
variable {d : Dk}
theorem DD.names (h : DD d) : d.names = [⟨nData, 0⟩] := by
  rcases h.nm with ⟨h1, h2⟩ | ⟨h1, h2⟩ <;> simp [Dk.names, h1, h2, ons, Ch.on, with_, without, ins]
theorem DD.find (h : DD d) : d.find nData = some 0 := by rw [Dk.find, h.names]; simp [nget]
theorem DD.used (h : DD d) : d.used = d.len 0 := by simp [Dk.used, h.names]
theorem DD.size (h : DD d) : d.size nData = (d.len 0 : Int) := by rw [Dk.size, h.find]
theorem DD.files (h : DD d) : d.files = [d.file 0] := by
  have h1 := h.one
  match hf : d.files, h1 with
  | [f], _ => simp [Dk.file, hf]
theorem DD.fok (h : DD d) : (d.file 0).Ok := h.ok.files _ (by rw [h.files]; exact .head _)
theorem DD.fit (h : DD d) {N : Nat} (hN : d.len 0 ≤ N) (h1 : 1 ≤ N) : d.Fit N := by
  refine ⟨by rw [h.one]; exact h1, fun f hf => ?_, fun M => ?_, ?_⟩
  · rw [h.files] at hf
    rw [List.mem_singleton.1 hf]; exact hN
  · rcases h.nm with ⟨e1, e2⟩ | ⟨e1, e2⟩
    · rw [e1, e2]
      cases M with
      | zero => simp [ons]
      | succ M => simp [ons, Ch.on, with_, without, ins]; omega
    · rw [e1, e2]; simp [ons]; omega
  · rcases h.nm with ⟨e1, e2⟩ | ⟨e1, e2⟩ <;> rw [e2] <;> simp
    omega
theorem DD.denies (h : DD d) : DD d.denies := ⟨h.ok.denies, h.dead, h.armed, h.room, h.one, h.nm⟩
theorem DD.deny (h : DD d) {k : Int} (hk : k ≤ 9223372036854775807) : DD (d.deny k) :=
  ⟨⟨h.ok.room, h.ok.files, h.ok.firm, h.ok.chs, h.ok.rise, h.ok.armed, by show (((max k 0).toNat : Nat) : Int) ≤ _; omega⟩, h.dead, h.armed, h.room, h.one, h.nm⟩
theorem DD.put (h : DD d) {f : Fl} (hf : f.Ok) : DD (d.put 0 f) := by
  have hl : (d.put 0 f).files.length = d.files.length := by simp [Dk.put]
  refine ⟨⟨h.ok.room, fun g hg => ?_, fun p hp => by rw [hl]; exact h.ok.firm p hp, fun p hp => by rw [hl]; exact h.ok.chs p hp, h.ok.rise, h.ok.armed, h.ok.denied⟩, h.dead, h.armed, h.room, by rw [hl]; exact h.one, h.nm⟩
  rcases List.mem_or_eq_of_mem_set hg with hg | rfl
  · exact h.ok.files g hg
  · exact hf
theorem DD.file_put (h : DD d) (f : Fl) : (d.put 0 f).file 0 = f := by
  have h1 := h.one
  rw [Dk.file, Dk.put, List.getD_eq_getElem?_getD]
  simp [h1]
theorem DD.write (h : DD d) {i : Nat} (hi : i ≤ d.len 0) (hr : i < 2000) {b : List UInt8} (hb : b.length ≤ 512) :
    d.write nData (i : Int) b = if d.denied = 1 then (d.denies, 95) else (d.denies.put 0 ((d.file 0).write i b), 0) := by
  unfold Dk.write
  rw [h.dead, h.find]
  simp only [Bool.false_eq_true, if_false]
  rw [if_neg (by omega), if_neg (by rw [h.used, h.room]; omega)]
  by_cases hd : d.denied = 1
  · rw [if_pos (by simp [Dk.refused, hd]), if_pos hd]
  · rw [if_neg (by simp [Dk.refused, hd]), if_neg hd]
    have e : ∀ f, (d.denies.put 0 f).dies = d.denies.put 0 f := fun f => by
      unfold Dk.dies
      rw [if_neg (by show ¬ 0 < d.armed; rw [h.armed]; omega)]
    have e2 : ∀ f, (d.denies.put 0 f).code = 0 := fun f => by
      unfold Dk.code
      rw [if_neg (by show ¬ d.dead = true; rw [h.dead]; simp)]
    rw [e, e2]; simp
theorem DD.sync (h : DD d) : d.sync nData = if d.denied = 1 then (d.denies, 95) else (d.denies.put 0 (d.file 0).sync, 0) := by
  unfold Dk.sync
  rw [h.dead, h.find]
  simp only [Bool.false_eq_true, if_false]
  by_cases hd : d.denied = 1
  · rw [if_pos (by simp [Dk.refused, hd]), if_pos hd]
  · rw [if_neg (by simp [Dk.refused, hd]), if_neg hd]
    have e : d.denies.dies = d.denies := by
      unfold Dk.dies
      rw [if_neg (by show ¬ 0 < d.armed; rw [h.armed]; omega)]
    rw [e, if_neg (by show ¬ d.dead = true; rw [h.dead]; simp)]
end
theorem write_now {f : Fl} {i : Nat} (hi : i ≤ f.now.length) (b : List UInt8) (j : Nat) : (f.write i b).now.getD j zsec = if j = i then pad b else f.now.getD j zsec := by
  simp only [Fl.write, List.getD_eq_getElem?_getD]
  by_cases hl : i = f.now.length
  · rw [if_pos hl, List.getElem?_append]
    by_cases hj : j = i
    · subst hj; rw [if_neg (by omega), if_pos rfl, hl]; simp
    · rw [if_neg hj]
      by_cases h2 : j < f.now.length
      · rw [if_pos h2]
      · rw [if_neg h2, List.getElem?_eq_none (by simp; omega), List.getElem?_eq_none (by omega)]
  · rw [if_neg hl, List.getElem?_set]
    by_cases hj : i = j
    · subst hj; rw [if_pos rfl, if_pos (by omega), if_pos rfl]; simp
    · rw [if_neg hj, if_neg (Ne.symm hj)]
theorem write_len {f : Fl} {i : Nat} (hi : i ≤ f.now.length) (b : List UInt8) : (f.write i b).now.length = max f.now.length (i + 1) := by
  simp only [Fl.write]
  split
  · simp; omega
  · simp; omega
theorem file_denies (d : Dk) (k : Nat) : d.denies.file k = d.file k := rfl
theorem sec_denies (d : Dk) (k i : Nat) : secAt d.denies k i = secAt d k i := rfl

/-- what is laid from lo up to hi -/
structure Laid (lo hi : Nat) (r r' : Dk × Int) : Prop where
  dd : DD r'.1
  out : ∀ j, (j < lo ∨ hi ≤ j) → secAt r'.1 0 j = secAt r.1 0 j
  len : r'.1.len 0 ≤ max (r.1.len 0) hi
  grow : r.1.len 0 ≤ r'.1.len 0
  err : r'.2 = 0 ∨ r'.2 = 95 ∨ r'.2 = r.2
  calm : r.1.denied = 0 → r.2 = 0 → r'.2 = 0 ∧ r'.1.denied = 0
  bad : r.2 ≠ 0 → r' = r
  all : r'.2 = 0 → r.2 = 0 ∧ (lo < hi → hi ≤ r'.1.len 0)
theorem Laid.refl {r : Dk × Int} (h : DD r.1) (lo hi : Nat) (hh : lo = hi) : Laid lo hi r r :=
  ⟨h, fun _ _ => rfl, by omega, Nat.le_refl _, .inr (.inr rfl), fun a b => ⟨b, a⟩, fun _ => rfl, fun a => ⟨a, fun h2 => by omega⟩⟩
theorem Laid.trans {lo mid hi : Nat} {r r1 r2 : Dk × Int} (h : Laid lo mid r r1) (h' : Laid mid hi r1 r2) (h1 : lo ≤ mid) (h2 : mid ≤ hi) : Laid lo hi r r2 := by
  refine ⟨h'.dd, fun j hj => ?_, ?_, Nat.le_trans h.grow h'.grow, ?_, fun a b => ?_, fun a => ?_, fun a => ?_⟩
  · rw [h'.out j (by omega), h.out j (by omega)]
  · have := h.len; have := h'.len; omega
  · rcases h'.err with e | e | e
    · exact .inl e
    · exact .inr (.inl e)
    · rcases h.err with e2 | e2 | e2
      · exact .inl (e.trans e2)
      · exact .inr (.inl (e.trans e2))
      · exact .inr (.inr (e.trans e2))
  · obtain ⟨e1, e2⟩ := h.calm a b
    exact h'.calm e2 e1
  · have e := h.bad a
    rw [e] at h'
    exact h'.bad a
  · obtain ⟨e1, e2⟩ := h'.all a
    obtain ⟨e3, e4⟩ := h.all e1
    refine ⟨e3, fun hlt => ?_⟩
    by_cases hm : mid < hi
    · exact e2 hm
    · have := e4 (by omega)
      have := h'.grow
      omega
theorem lay_one {r : Dk × Int} (h : DD r.1) {i : Nat} (hi : r.2 = 0 → i ≤ r.1.len 0) (hr : i < 2000) {b : List UInt8} (hb : b.length ≤ 512) : Laid i (i + 1) r (layD r i b) ∧ ((layD r i b).2 = 0 → secAt (layD r i b).1 0 i = pad b) ∧ (secAt (layD r i b).1 0 i = pad b ∨ secAt (layD r i b).1 0 i = secAt r.1 0 i) ∧ ((layD r i b).2 = 0 → (layD r i b).1.len 0 = max (r.1.len 0) (i + 1)) := by
  unfold layD
  by_cases h0 : r.2 = 0
  · rw [if_pos h0, h.write (hi h0) hr hb]
    have hi := hi h0
    by_cases hd : r.1.denied = 1
    · rw [if_pos hd]
      exact ⟨⟨h.denies, fun j _ => rfl, by show r.1.len 0 ≤ _; omega, Nat.le_refl _, .inr (.inl rfl), fun a _ => absurd a (by omega), fun a => absurd h0 a, fun a => by cases a⟩, (fun a => by cases a), .inr rfl, (fun a => by cases a)⟩
    · rw [if_neg hd]
      have hfo : ((r.1.file 0).write i b).Ok := h.fok.write hi hb
      have hD := h.denies
      have hs : ∀ j, secAt (r.1.denies.put 0 ((r.1.file 0).write i b)) 0 j = if j = i then pad b else secAt r.1 0 j := fun j => by
        rw [secAt, hD.file_put, write_now hi]; rfl
      have hl : (r.1.denies.put 0 ((r.1.file 0).write i b)).len 0 = max (r.1.len 0) (i + 1) := by
        rw [Dk.len, hD.file_put, write_len hi]; rfl
      refine ⟨⟨hD.put hfo, fun j hj => ?_, ?_, ?_, .inl rfl, fun a _ => ⟨rfl, ?_⟩, fun a => absurd h0 a, fun _ => ⟨h0, fun _ => ?_⟩⟩, fun _ => ?_, .inl ?_, fun _ => hl⟩
      · show secAt (r.1.denies.put 0 _) 0 j = _
        rw [hs, if_neg (by omega)]
      · show (r.1.denies.put 0 _).len 0 ≤ _
        rw [hl]; omega
      · show _ ≤ (r.1.denies.put 0 _).len 0
        rw [hl]; omega
      · show r.1.denied - 1 = 0
        omega
      · show _ ≤ (r.1.denies.put 0 _).len 0
        rw [hl]; omega
      · show secAt (r.1.denies.put 0 _) 0 i = _
        rw [hs, if_pos rfl]
      · show secAt (r.1.denies.put 0 _) 0 i = _
        rw [hs, if_pos rfl]
  · rw [if_neg h0]
    exact ⟨⟨h, fun _ _ => rfl, by omega, Nat.le_refl _, .inr (.inr rfl), fun _ a => absurd a h0, fun _ => rfl, fun a => absurd a h0⟩, fun a => absurd a h0, .inr rfl, fun a => absurd a h0⟩
theorem pad_nil : pad [] = zsec := rfl
theorem sec_behind {d : Dk} {i : Nat} (h : d.len 0 ≤ i) : secAt d 0 i = zsec := by
  rw [secAt, List.getD_eq_getElem?_getD, List.getElem?_eq_none h]; rfl
theorem gap_laid : ∀ (m i : Nat) {r : Dk × Int}, DD r.1 → (r.2 = 0 → i = r.1.len 0) → i + m ≤ 2000 → Laid i (i + m) r (gapD m i r) ∧ (∀ j, secAt (gapD m i r).1 0 j = secAt r.1 0 j) ∧ ((gapD m i r).2 = 0 → (gapD m i r).1.len 0 = i + m)
  | 0, i, r, h, hi, hr => ⟨Laid.refl h _ _ rfl, fun _ => rfl, fun a => (hi a).symm⟩
  | m + 1, i, r, h, hi, hr => by
    obtain ⟨h1, h2, h3, h4⟩ := lay_one h (i := i) (fun a => by rw [hi a]; exact Nat.le_refl _) (by omega) (b := []) (by simp)
    obtain ⟨h5, h6, h7⟩ := gap_laid m (i + 1) (r := layD r i []) h1.dd (fun a => by
      rw [h4 a, ← hi (h1.all a).1]; omega) (by omega)
    show Laid i (i + (m + 1)) r (gapD m (i + 1) (layD r i [])) ∧ (∀ j, secAt (gapD m (i + 1) (layD r i [])).1 0 j = secAt r.1 0 j) ∧ ((gapD m (i + 1) (layD r i [])).2 = 0 → (gapD m (i + 1) (layD r i [])).1.len 0 = i + (m + 1))
    have e1 : i + 1 + m = i + (m + 1) := by omega
    rw [e1] at h5 h7
    refine ⟨h1.trans h5 (by omega) (by omega), fun j => ?_, h7⟩
    rw [h6]
    by_cases hj : j = i
    · subst hj
      by_cases h0 : r.2 = 0
      · rcases h3 with e | e
        · rw [e, sec_behind (by rw [← hi h0]; exact Nat.le_refl _)]; rfl
        · exact e
      · rw [h1.bad h0]
    · exact h1.out j (by omega)
theorem row_laid (bs : List UInt8) (base : Nat) : ∀ (m k : Nat) {r : Dk × Int}, DD r.1 → (r.2 = 0 → base + k ≤ r.1.len 0) → base + k + m ≤ 2000 → (∀ k', k' < k + m → (chunk8 bs k').length = 512) →
    Laid (base + k) (base + k + m) r (rowD bs base m k r) ∧ ((rowD bs base m k r).2 = 0 → ∀ t, t < m → secAt (rowD bs base m k r).1 0 (base + k + t) = chunk8 bs (k + t))
  | 0, k, r, h, hi, hr, hc => ⟨Laid.refl h _ _ rfl, fun _ t ht => by omega⟩
  | m + 1, k, r, h, hi, hr, hc => by
    have hck := hc k (by omega)
    obtain ⟨h1, h2, h3, h4⟩ := lay_one h (i := base + k) hi (by omega) (b := chunk8 bs k) (by omega)
    obtain ⟨h5, h6⟩ := row_laid bs base m (k + 1) (r := layD r (base + k) (chunk8 bs k)) h1.dd (fun a => by
      rw [h4 a]; omega) (by omega) (fun k' hk' => hc k' (by omega))
    show Laid (base + k) (base + k + (m + 1)) r (rowD bs base m (k + 1) (layD r (base + k) (chunk8 bs k))) ∧ ((rowD bs base m (k + 1) (layD r (base + k) (chunk8 bs k))).2 = 0 → ∀ t, t < m + 1 → secAt (rowD bs base m (k + 1) (layD r (base + k) (chunk8 bs k))).1 0 (base + k + t) = chunk8 bs (k + t))
    have e1 : base + (k + 1) + m = base + k + (m + 1) := by omega
    have e2 : base + (k + 1) = base + k + 1 := by omega
    rw [e1] at h5
    rw [e2] at h5
    refine ⟨h1.trans h5 (by omega) (by omega), fun a t ht => ?_⟩
    cases t with
    | zero =>
      rw [Nat.add_zero, h5.out _ (by omega), Nat.add_zero, h2 (h5.all a).1, pad, hck]
      simp
    | succ t =>
      have := h6 a t (by omega)
      rw [show base + k + (t + 1) = base + (k + 1) + t by omega, this]
      congr 1; omega
theorem chunks {bs : List UInt8} : ∀ m, ((List.range m).flatMap fun k => chunk8 bs k) = bs.take (m * 512)
  | 0 => by simp
  | m + 1 => by
    rw [List.range_succ, List.flatMap_append, chunks m]
    simp only [List.flatMap_cons, List.flatMap_nil, List.append_nil]
    rw [show (m + 1) * 512 = m * 512 + 512 by omega, List.take_add]
    rfl
theorem pageB_eq {d : Dk} {n : Nat} {bs : List UInt8} (hl : bs.length = 4096) (h : ∀ t, t < 8 → secAt d 0 (n * 8 + t) = chunk8 bs t) : pageB d 0 n = bs := by
  have e : pageB d 0 n = (List.range 8).flatMap fun k => chunk8 bs k := by
    rw [pageB, List.flatMap_def, List.flatMap_def]
    congr 1
    exact List.map_congr_left fun k hk => h k (by simpa using hk)
  rw [e, chunks, List.take_of_length_le (by omega)]
theorem pageB_same {d d' : Dk} {n : Nat} (h : ∀ t, t < 8 → secAt d' 0 (n * 8 + t) = secAt d 0 (n * 8 + t)) : pageB d' 0 n = pageB d 0 n := by
  rw [pageB, pageB, List.flatMap_def, List.flatMap_def]
  congr 1
  exact List.map_congr_left fun k hk => h k (by simpa using hk)
/-- what a page's write leaves -/
structure Wrote (d : Dk) (n : Nat) (bs : List UInt8) (r : Dk × Int) : Prop where
  dd : DD r.1
  len : r.1.len 0 ≤ max (d.len 0) (n * 8 + 8)
  out : ∀ m, m ≠ n → pageB r.1 0 m = pageB d 0 m
  all : r.2 = 0 → pageB r.1 0 n = bs
  err : r.2 = 0 ∨ r.2 = 95
  calm : d.denied = 0 → r.2 = 0 ∧ r.1.denied = 0
  low : r.2 = 0 → n * 8 + 8 ≤ r.1.len 0
  grow : d.len 0 ≤ r.1.len 0
theorem write_bad (d : Dk) {e : Int} (he : e ≠ 0) (n : Nat) (bs : List UInt8) : writeD d e n bs = (d, e) := by
  have hl : ∀ i b, layD (d, e) i b = (d, e) := fun i b => by unfold layD; rw [if_neg (show ¬ e = 0 from he)]
  have hg : ∀ m i, gapD m i (d, e) = (d, e) := fun m => by
    induction m with
    | zero => intro i; rfl
    | succ m ih => intro i; show gapD m (i + 1) (layD (d, e) i []) = _; rw [hl, ih]
  have hr : ∀ m k, rowD bs (n * 8) m k (d, e) = (d, e) := fun m => by
    induction m with
    | zero => intro k; rfl
    | succ m ih => intro k; show rowD bs (n * 8) m (k + 1) (layD (d, e) _ _) = _; rw [hl, ih]
  rw [writeD, hg, hr]
theorem write_all {d : Dk} (h : DD d) {n : Nat} (hn : n < 200) {bs : List UInt8} (hl : bs.length = 4096) : Wrote d n bs (writeD d 0 n bs) := by
  have hs : (d.size nData).toNat = d.len 0 := by rw [h.size]; rfl
  rw [writeD, hs]
  generalize hr1 : gapD (n * 8 - d.len 0) (d.len 0) (d, 0) = r1
  have hg : d.len 0 ≤ r1.1.len 0 ∧ DD r1.1 ∧ (∀ j, secAt r1.1 0 j = secAt d 0 j) ∧ (r1.2 = 0 → n * 8 ≤ r1.1.len 0) ∧ r1.1.len 0 ≤ max (d.len 0) (n * 8) ∧ (r1.2 = 0 ∨ r1.2 = 95) ∧ (d.denied = 0 → r1.2 = 0 ∧ r1.1.denied = 0) := by
    by_cases hlt : n * 8 ≤ d.len 0
    · rw [show n * 8 - d.len 0 = 0 by omega] at hr1
      have : r1 = (d, 0) := hr1.symm
      subst this
      exact ⟨Nat.le_refl _, h, fun _ => rfl, fun _ => hlt, by show d.len 0 ≤ _; omega, .inl rfl, fun a => ⟨rfl, a⟩⟩
    · obtain ⟨h1, h2, h3⟩ := gap_laid (n * 8 - d.len 0) (d.len 0) (r := (d, 0)) h (fun _ => rfl) (by omega)
      rw [hr1] at h1 h2 h3
      refine ⟨h1.grow, h1.dd, h2, fun a => by rw [h3 a]; omega, ?_, ?_, fun a => h1.calm a rfl⟩
      · have := h1.len
        have e : d.len 0 + (n * 8 - d.len 0) = n * 8 := by omega
        rw [e] at this; exact this
      · rcases h1.err with e | e | e
        · exact .inl e
        · exact .inr e
        · exact .inl e
  obtain ⟨hgr, hd1, hs1, hl1, hm1, he1, hc1⟩ := hg
  obtain ⟨h5, h6⟩ := row_laid bs (n * 8) 8 0 (r := r1) hd1 (fun a => by have := hl1 a; omega) (by omega) (fun k' hk' => chunk8_len hl (by omega))
  refine ⟨h5.dd, ?_, fun m hm => ?_, fun a => ?_, ?_, fun a => ?_, fun a => by have := (h5.all a).2 (by omega); omega, Nat.le_trans hgr h5.grow⟩
  · have := h5.len; omega
  · rw [pageB_same (d := r1.1) fun t ht => h5.out _ (by omega), pageB_same fun t ht => hs1 _]
  · exact pageB_eq hl fun t ht => by have := h6 a t ht; simpa using this
  · rcases h5.err with e | e | e
    · exact .inl e
    · exact .inr e
    · rw [e]; exact he1
  · exact h5.calm (hc1 a).2 (hc1 a).1

/-! ### The clock -/
def clockP : Nat → List Fr → Nat → Option Nat × List Fr × Nat
  | 0, fs, h => (none, fs, h)
  | m + 1, fs, h => match fs[h]? with
    | none => (none, fs, h)
    | some f => if 0 < f.pins then clockP m fs ((h + 1) % fs.length) else if f.used then clockP m (fs.set h { f with used := false }) ((h + 1) % fs.length) else (some h, fs, (h + 1) % fs.length)
/-- alike but for what is used -/
def SameF (f g : Fr) : Prop := g.n = f.n ∧ g.pg = f.pg ∧ g.pins = f.pins ∧ g.dirty = f.dirty
structure SameFs (fs gs : List Fr) : Prop where
  len : gs.length = fs.length
  at_ : ∀ (k : Nat) (f g : Fr), fs[k]? = some f → gs[k]? = some g → SameF f g
theorem SameFs.refl (fs : List Fr) : SameFs fs fs := ⟨rfl, fun k f g h1 h2 => by rw [h1] at h2; cases h2; exact ⟨rfl, rfl, rfl, rfl⟩⟩
theorem SameFs.trans {a b c : List Fr} (h : SameFs a b) (h' : SameFs b c) : SameFs a c := by
  refine ⟨h'.len.trans h.len, fun k f g h1 h2 => ?_⟩
  have hk := (List.getElem?_eq_some_iff.1 h1).1
  have hb : k < b.length := by rw [h.len]; exact hk
  have e1 := h.at_ k f _ h1 (List.getElem?_eq_getElem hb)
  have e2 := h'.at_ k _ g (List.getElem?_eq_getElem hb) h2
  exact ⟨e2.1.trans e1.1, e2.2.1.trans e1.2.1, e2.2.2.1.trans e1.2.2.1, e2.2.2.2.trans e1.2.2.2⟩
theorem SameFs.set {fs : List Fr} {k : Nat} {f : Fr} (h : fs[k]? = some f) : SameFs fs (fs.set k { f with used := false }) := by
  refine ⟨by simp, fun j a b h1 h2 => ?_⟩
  rw [List.getElem?_set] at h2
  by_cases hj : k = j
  · subst hj
    rw [if_pos rfl, if_pos (List.getElem?_eq_some_iff.1 h).1] at h2
    rw [h1] at h; cases h; cases h2
    exact ⟨rfl, rfl, rfl, rfl⟩
  · rw [if_neg hj, h1] at h2; cases h2; exact ⟨rfl, rfl, rfl, rfl⟩
theorem clock_same : ∀ (m : Nat) (fs : List Fr) (h : Nat), SameFs fs (clockP m fs h).2.1
  | 0, fs, h => SameFs.refl fs
  | m + 1, fs, h => by
    unfold clockP
    split
    · exact SameFs.refl fs
    · rename_i f hf
      split
      · exact clock_same m fs _
      · split
        · exact (SameFs.set hf).trans (clock_same m _ _)
        · exact SameFs.refl fs
theorem clock_hand : ∀ (m : Nat) (fs : List Fr) (h : Nat), h < fs.length → (clockP m fs h).2.2 < fs.length
  | 0, fs, h, hh => hh
  | m + 1, fs, h, hh => by
    have hmod : (h + 1) % fs.length < fs.length := Nat.mod_lt _ (by omega)
    unfold clockP
    split
    · exact hh
    · rename_i f hf
      split
      · exact clock_hand m fs _ hmod
      · split
        · have := clock_hand m (fs.set h { f with used := false }) ((h + 1) % fs.length) (by simpa using hmod)
          simpa using this
        · exact hmod
theorem clock_found : ∀ (m : Nat) (fs : List Fr) (h k : Nat), (clockP m fs h).1 = some k → ∃ f, (clockP m fs h).2.1[k]? = some f ∧ f.pins = 0
  | 0, fs, h, k, e => by cases e
  | m + 1, fs, h, k, e => by
    unfold clockP at e ⊢
    split at e
    · cases e
    · rename_i f hf
      split at e
      · rename_i hp
        simp only [hf, if_pos hp]
        exact clock_found m fs _ k e
      · rename_i hp
        split at e
        · rename_i hu
          simp only [hf, if_neg hp, if_pos hu]
          exact clock_found m _ _ k e
        · rename_i hu
          simp only [hf, if_neg hp, if_neg hu]
          cases e
          exact ⟨f, hf, by omega⟩
theorem clock_step (m : Nat) {fs : List Fr} {h : Nat} {f : Fr} (hf : fs[h]? = some f) : clockP (m + 1) fs h = if 0 < f.pins then clockP m fs ((h + 1) % fs.length) else if f.used then clockP m (fs.set h { f with used := false }) ((h + 1) % fs.length) else (some h, fs, (h + 1) % fs.length) := by
  rw [clockP, hf]
theorem clock_add : ∀ (a b : Nat) (fs : List Fr) (h : Nat), h < fs.length → (clockP (a + b) fs h).1 = none → (clockP a fs h).1 = none ∧ clockP (a + b) fs h = clockP b (clockP a fs h).2.1 (clockP a fs h).2.2
  | 0, b, fs, h, hh, e => by rw [Nat.zero_add]; exact ⟨rfl, rfl⟩
  | a + 1, b, fs, h, hh, e => by
    have hmod : (h + 1) % fs.length < fs.length := Nat.mod_lt _ (by omega)
    rw [show a + 1 + b = (a + b) + 1 by omega] at e ⊢
    have hf : fs[h]? = some fs[h] := List.getElem?_eq_getElem hh
    rw [clock_step _ hf] at e
    rw [clock_step a hf, clock_step (a + b) hf]
    by_cases hp : 0 < (fs[h]).pins
    · rw [if_pos hp] at e
      rw [if_pos hp, if_pos hp]
      exact clock_add a b fs _ hmod e
    · rw [if_neg hp] at e
      rw [if_neg hp, if_neg hp]
      by_cases hu : (fs[h]).used = true
      · rw [if_pos hu] at e
        rw [if_pos hu, if_pos hu]
        exact clock_add a b _ _ (by simpa using hmod) e
      · rw [if_neg hu] at e
        cases e
theorem clock_none : ∀ (m : Nat) (fs : List Fr) (h : Nat), h < fs.length → m ≤ fs.length → (clockP m fs h).1 = none →
    (clockP m fs h).2.2 = (h + m) % fs.length ∧ (∀ (p : Nat) (f : Fr), (clockP m fs h).2.1[p]? = some f → (∃ j, j < m ∧ p = (h + j) % fs.length) → 0 < f.pins ∨ f.used = false) ∧ (∀ (p : Nat) (f : Fr), (clockP m fs h).2.1[p]? = some f → (∀ g, fs[p]? = some g → 0 < g.pins ∨ g.used = false) → 0 < f.pins ∨ f.used = false) ∧ ((∀ (p : Nat) (g : Fr), fs[p]? = some g → 0 < g.pins ∨ g.used = false) → ∀ (p : Nat) (g : Fr), fs[p]? = some g → (∃ j, j < m ∧ p = (h + j) % fs.length) → 0 < g.pins)
  | 0, fs, h, hh, hm, e => ⟨by rw [Nat.add_zero, Nat.mod_eq_of_lt hh]; rfl, fun p f _ ⟨j, hj, _⟩ => by omega, fun p f hf hg => hg f hf, fun _ p g _ ⟨j, hj, _⟩ => by omega⟩
  | m + 1, fs, h, hh, hm, e => by
    have hmod : (h + 1) % fs.length < fs.length := Nat.mod_lt _ (by omega)
    have hf : fs[h]? = some fs[h] := List.getElem?_eq_getElem hh
    have hsum : ∀ j, ((h + 1) % fs.length + j) % fs.length = (h + (j + 1)) % fs.length := fun j => by
      rw [Nat.mod_add_mod]; congr 1; omega
    unfold clockP at e ⊢
    simp only [hf] at e ⊢
    by_cases hp : 0 < (fs[h]).pins
    · simp only [if_pos hp] at e ⊢
      obtain ⟨h1, h2, h3, h4⟩ := clock_none m fs _ hmod (by omega) e
      refine ⟨by rw [h1, hsum], fun p f hpf ⟨j, hj, ej⟩ => ?_, h3, fun hall p g hg ⟨j, hj, ej⟩ => ?_⟩
      · cases j with
        | zero =>
          rw [Nat.add_zero, Nat.mod_eq_of_lt hh] at ej
          subst ej
          exact h3 _ f hpf fun g hg => by rw [hf] at hg; cases hg; exact .inl hp
        | succ j => exact h2 p f hpf ⟨j, by omega, by rw [hsum]; exact ej⟩
      · cases j with
        | zero =>
          rw [Nat.add_zero, Nat.mod_eq_of_lt hh] at ej
          subst ej
          rw [hf] at hg; cases hg; exact hp
        | succ j => exact h4 hall p g hg ⟨j, by omega, by rw [hsum]; exact ej⟩
    · simp only [if_neg hp] at e ⊢
      by_cases hu : (fs[h]).used = true
      · simp only [if_pos hu] at e ⊢
        have hlen : (fs.set h { fs[h] with used := false }).length = fs.length := by simp
        obtain ⟨h1, h2, h3, h4⟩ := clock_none m (fs.set h { fs[h] with used := false }) ((h + 1) % fs.length) (by rw [hlen]; exact hmod) (by rw [hlen]; omega) e
        rw [hlen] at h1 h2
        have hat : (fs.set h { fs[h] with used := false })[h]? = some { fs[h] with used := false } := by rw [List.getElem?_set_self hh]
        refine ⟨by rw [h1, hsum], fun p f hpf ⟨j, hj, ej⟩ => ?_, fun p f hpf hg => ?_, fun hall p g hg _ => ?_⟩
        · cases j with
          | zero =>
            rw [Nat.add_zero, Nat.mod_eq_of_lt hh] at ej
            subst ej
            exact h3 _ f hpf fun g hg => by rw [hat] at hg; cases hg; exact .inr rfl
          | succ j => exact h2 p f hpf ⟨j, by omega, by rw [hsum]; exact ej⟩
        · refine h3 p f hpf fun g hg2 => ?_
          by_cases hph : p = h
          · subst hph; rw [hat] at hg2; cases hg2; exact .inr rfl
          · rw [List.getElem?_set_ne (Ne.symm hph)] at hg2
            exact hg g hg2
        · have := hall h _ hf
          rw [hu] at this
          rcases this with h9 | h9
          · exact absurd h9 hp
          · cases h9
      · simp only [if_neg hu] at e
        cases e
theorem clock_full {fs : List Fr} {h : Nat} (hh : h < fs.length) (e : (clockP (2 * fs.length) fs h).1 = none) : ∀ f ∈ fs, 0 < f.pins := by
  have h2 : 2 * fs.length = fs.length + fs.length := by omega
  rw [h2] at e
  obtain ⟨e1, e2⟩ := clock_add fs.length fs.length fs h hh e
  obtain ⟨a1, a2, a3, a4⟩ := clock_none fs.length fs h hh (Nat.le_refl _) e1
  have hs := clock_same fs.length fs h
  have hhand := clock_hand fs.length fs h hh
  rw [e2] at e
  generalize hfs1 : (clockP fs.length fs h).2.1 = fs1 at *
  generalize hh1 : (clockP fs.length fs h).2.2 = h1 at *
  have hlen := hs.len
  have hcov : ∀ (q p : Nat), q < fs.length → p < fs.length → ∃ j, j < fs.length ∧ p = (q + j) % fs.length := fun q p hq hp => by
    by_cases hqp : q ≤ p
    · exact ⟨p - q, by omega, by rw [show q + (p - q) = p by omega, Nat.mod_eq_of_lt hp]⟩
    · refine ⟨fs.length - q + p, by omega, ?_⟩
      rw [show q + (fs.length - q + p) = p + fs.length by omega, Nat.add_mod_right, Nat.mod_eq_of_lt hp]
  have hall : ∀ (p : Nat) (g : Fr), fs1[p]? = some g → 0 < g.pins ∨ g.used = false := fun p g hg =>
    a2 p g hg (hcov h p hh (by have := (List.getElem?_eq_some_iff.1 hg).1; omega))
  rw [← hlen] at e
  obtain ⟨b1, b2, b3, b4⟩ := clock_none fs1.length fs1 h1 (by omega) (Nat.le_refl _) e
  intro f hf
  obtain ⟨p, hp, rfl⟩ := List.getElem_of_mem hf
  have hp1 : p < fs1.length := by omega
  have := b4 hall p _ (List.getElem?_eq_getElem hp1) (by rw [hlen]; exact hcov h1 p (by omega) hp)
  rw [(hs.at_ p _ _ (List.getElem?_eq_getElem hp) (List.getElem?_eq_getElem hp1)).2.2.1] at this
  exact this
end Go.Proofs.YtiagjabdfppgkaaGreat
/- Frames: a frame is made free; a page is held in it. -/
namespace Go.Proofs.YtiagjabdfppgkaaGreat
open Go Go.Vc Go.Vault

/-- all but a frame's own -/
def stK (y : GW) (x : DW) (s : St) (k : Nat) : List Asn := poolA y x s :: fsA y s :: (deskL y x s ++ (frsL (y.fs.eraseIdx k) (s.fs.eraseIdx k) ++ dkL x s.d))
theorem frsL_get {ws : List (Nat × Nat)} {fs : List Fr} {k : Nat} {w : Nat × Nat} {f : Fr} (h : ws[k]? = some w) (h' : fs[k]? = some f) : (frsL ws fs).Perm (frL w f ++ frsL (ws.eraseIdx k) (fs.eraseIdx k)) := zipL_get frL h h'
theorem st_open {y : GW} {x : DW} {s : St} {k : Nat} {w : Nat × Nat} {f : Fr} (h : y.fs[k]? = some w) (h' : s.fs[k]? = some f) : (stL y x s).Perm (frL w f ++ stK y x s k) := by
  have hp := frsL_get h h'
  rw [stL, stK]
  refine perm_cnt fun ff gg h0 hc ha hpm => ?_
  have h9 := hpm _ _ hp
  simp only [ha, hc, h0] at h9 ⊢
  omega
/-- another frame in its place, at another address perhaps -/
theorem st_shut {y : GW} {x : DW} {s : St} {k : Nat} (hk : k < s.fs.length) (hl : y.fs.length = s.fs.length) (w : Nat × Nat) (f : Fr) : (stL { y with fs := y.fs.set k w } x { s with fs := s.fs.set k f }).Perm (frL w f ++ (poolA y x s :: .own 61 1 y.fa s.fs.length y.fc (ptrsF (y.fs.set k w)) :: (deskL y x s ++ (frsL (y.fs.eraseIdx k) (s.fs.eraseIdx k) ++ dkL x s.d)))) := by
  have h1 : (y.fs.set k w)[k]? = some w := by rw [List.getElem?_set_self (by omega)]
  have h2 : (s.fs.set k f)[k]? = some f := by rw [List.getElem?_set_self hk]
  have hp := frsL_get h1 h2
  rw [List.eraseIdx_set_eq, List.eraseIdx_set_eq] at hp
  have e1 : poolA { y with fs := y.fs.set k w } x { s with fs := s.fs.set k f } = poolA y x s := by simp [poolA, poolC]
  have e2 : fsA { y with fs := y.fs.set k w } { s with fs := s.fs.set k f } = .own 61 1 y.fa s.fs.length y.fc (ptrsF (y.fs.set k w)) := by simp [fsA]
  have e3 : deskL { y with fs := y.fs.set k w } x { s with fs := s.fs.set k f } = deskL y x s := rfl
  rw [stL, e1, e2, e3]
  refine perm_cnt fun ff gg h0 hc ha hpm => ?_
  have h9 := hpm _ _ hp
  simp only [ha, hc, h0] at h9 ⊢
  omega
theorem ptrsF_set {ws : List (Nat × Nat)} {k : Nat} {w w' : Nat × Nat} (h : ws[k]? = some w) (hb : w'.1 = w.1) : ptrsF (ws.set k w') = ptrsF ws := by
  apply List.ext_getElem?
  intro j
  simp only [ptrsF, List.getElem?_map, List.getElem?_set]
  by_cases hj : k = j
  · subst hj
    rw [if_pos rfl, if_pos (List.getElem?_eq_some_iff.1 h).1, h]
    simp [hb]
  · rw [if_neg hj]
/-- the same frame, turned -/
theorem st_turn {y : GW} {x : DW} {s : St} {k : Nat} {w w' : Nat × Nat} (hw : y.fs[k]? = some w) (hk : k < s.fs.length) (hl : y.fs.length = s.fs.length) (hb : w'.1 = w.1) (f : Fr) : (stL { y with fs := y.fs.set k w' } x { s with fs := s.fs.set k f }).Perm (frL w' f ++ stK y x s k) := by
  have := st_shut (x := x) hk hl w' f
  rw [ptrsF_set hw hb] at this
  exact this
theorem set_same {α : Type} {l : List α} {k : Nat} {x : α} (h : l[k]? = some x) : l.set k x = l := by
  apply List.ext_getElem?
  intro j
  rw [List.getElem?_set]
  split
  · rename_i e; subst e
    rw [if_pos (List.getElem?_eq_some_iff.1 h).1, h]
  · rfl
theorem st_turn1 {y : GW} {x : DW} {s : St} {k : Nat} {w : Nat × Nat} (hw : y.fs[k]? = some w) (hk : k < s.fs.length) (hl : y.fs.length = s.fs.length) (f : Fr) : (stL y x { s with fs := s.fs.set k f }).Perm (frL w f ++ stK y x s k) := by
  have := st_turn (x := x) hw hk hl (w' := w) rfl f
  rw [set_same hw] at this
  exact this

/-- the same desk -/
structure SeatY (y y1 : GW) (x x1 : DW) : Prop where
  kb : y1.kb = y.kb
  kv : y1.kv = y.kv
  pb : y1.pb = y.pb
  got : y1.got = y.got
  xb : x1.b = x.b
theorem SeatY.refl (y : GW) (x : DW) : SeatY y y x x := ⟨rfl, rfl, rfl, rfl, rfl⟩
theorem SeatY.trans {y y1 y2 : GW} {x x1 x2 : DW} (h : SeatY y y1 x x1) (h' : SeatY y1 y2 x1 x2) : SeatY y y2 x x2 := ⟨h'.kb.trans h.kb, h'.kv.trans h.kv, h'.pb.trans h.pb, h'.got.trans h.got, h'.xb.trans h.xb⟩
def FreeOk (s s1 : St) (k : Nat) : Prop :=
  (s.fs.length < s.many ∧ k = s.fs.length ∧ ∃ F, s1 = { s with fs := s.fs ++ [F] }) ∨
  (¬ s.fs.length < s.many ∧ ∃ (fs1 : List Fr) (h1 : Nat) (f : Fr), SameFs s.fs fs1 ∧ h1 < fs1.length ∧ fs1[k]? = some f ∧ f.pins = 0 ∧
    ((f.dirty = false ∧ s1 = { s with fs := fs1, hand := h1 }) ∨ (f.dirty = true ∧ ∃ g, Sl.Rep g f.pg.1 f.pg.2 ∧ wroteE s f g.bs = 0 ∧ s1 = St.wrote { s with fs := fs1, hand := h1 } f g.bs)))
def FreeBad (s s1 : St) (c : Int) : Prop :=
  ¬ s.fs.length < s.many ∧ ∃ (fs1 : List Fr) (h1 : Nat), SameFs s.fs fs1 ∧ h1 < fs1.length ∧
    ((c = 120 ∧ (∀ f ∈ s.fs, 0 < f.pins) ∧ s1 = { s with fs := fs1, hand := h1 }) ∨
     (∃ (k : Nat) (f : Fr) (g : Sl.Pg), fs1[k]? = some f ∧ f.pins = 0 ∧ f.dirty = true ∧ Sl.Rep g f.pg.1 f.pg.2 ∧ wroteE s f g.bs = c ∧ s1 = St.wrote { s with fs := fs1, hand := h1 } f g.bs))
def FreePost (y : GW) (x : DW) (s : St) (B : List Nat) (w : World) (e : Ending) (w' : World) : Prop :=
  (∃ (y1 : GW) (x1 : DW) (s1 : St) (k : Nat), e = .returned (.tuple #[.int .i64 (k : Int), .int .i64 0]) ∧ SeatY y y1 x x1 ∧ x1.Ok s1.d ∧ y1.fs.length = s1.fs.length ∧ k < s1.fs.length ∧ (∀ i, i ≠ k → y1.fs[i]? = y.fs[i]?) ∧ FreeOk s s1 k ∧ Hp B w w' (stK y1 x1 s1 k)) ∨
  (∃ (y1 : GW) (x1 : DW) (s1 : St) (c : Int), c ≠ 0 ∧ e = .returned (.tuple #[.int .i64 0, .int .i64 c]) ∧ SeatY y y1 x x1 ∧ x1.Ok s1.d ∧ y1.fs = y.fs ∧ FreeBad s s1 c ∧ Hp B w w' (stL y1 x1 s1))
theorem StOk.same {y : GW} {x : DW} {s : St} (h : StOk y x s) {fs1 : List Fr} (hs : SameFs s.fs fs1) {h1 : Nat} (hh : h1 < fs1.length) : StOk y x { s with fs := fs1, hand := h1 } := by
  have hl := hs.len
  have hh2 := h.len
  have hat : ∀ g ∈ fs1, ∃ f ∈ s.fs, SameF f g := fun g hg => by
    obtain ⟨k, hk, rfl⟩ := List.getElem_of_mem hg
    exact ⟨_, List.getElem_mem (by omega), hs.at_ k _ _ (List.getElem?_eq_getElem (by omega)) (List.getElem?_eq_getElem hk)⟩
  refine ⟨by show y.fs.length = fs1.length; rw [hl]; exact h.fs, h.got, h.dk, by show fs1.length ≤ 64; omega, fun g hg => ?_, fun g hg => ?_, h.asked, by show h1 < 64; omega, h.pages, h.many⟩
  · obtain ⟨f, hf, hs⟩ := hat g hg
    rw [hs.1]; exact h.num f hf
  · obtain ⟨f, hf, hs⟩ := hat g hg
    rw [hs.2.2.1]; exact h.pins f hf
/-- a frame's write, at all that there is -/
theorem wr_perm {y : GW} {x : DW} {s : St} {k : Nat} {w : Nat × Nat} {f : Fr} (h : y.fs[k]? = some w) (h' : s.fs[k]? = some f) : (stL y x s).Perm (wrL y x s w f ++ (fsA y s :: frsL (y.fs.eraseIdx k) (s.fs.eraseIdx k))) := by
  have hp := frsL_get h h'
  rw [stL, wrL]
  refine perm_cnt fun ff gg h0 hc ha hpm => ?_
  have h9 := hpm _ _ hp
  simp only [frL] at h9
  simp only [ha, hc, h0] at h9 ⊢
  omega
set_option maxHeartbeats 2000000 in
theorem free_spec (y : GW) (x : DW) (s : St) (ok : StOk y x s) {N : Nat} (fit : s.d.Fit N) (hN : N ≤ 800000) (hsz : 0 ≤ s.d.size nData) (hfl : s.fs.length ≤ s.many) (hh : s.fs.length = s.many → s.hand < s.fs.length) (w : World) (st : Std w (stL y x s)) :
    Calls Tryz.prog 67 #[.pointer (some ⟨y.pb, 0, none⟩)] w fun e w' => FreePost y x s (feet (stL y x s)) w e w' := by
  apply free.ok; unfold free.vc
  have H := Hp.startL st
  generalize hB : feet (stL y x s) = B at H ⊢
  have hlen := ok.len
  have hmany := ok.many
  have ldF : ∀ {s1 : St} {w1 w2 : World} {L : List Asn}, Hp B w w1 L → Eqw w1 w2 → poolA y x s1 ∈ L → Ld Tryz.prog 68 w2 ⟨y.pb, 4, none⟩ (.slice y.fa s1.fs.length y.fc) := fun {s1 _ _ _} K e m => K.ld (o := 4) (cs := poolC y x s1) e gSF m rfl
  have ldH : ∀ {s1 : St} {w1 w2 : World} {L : List Asn}, Hp B w w1 L → Eqw w1 w2 → poolA y x s1 ∈ L → Ld Tryz.prog 3 w2 ⟨y.pb, 5, none⟩ (.int .i64 (s1.hand : Int)) := fun {s1 _ _ _} K e m => K.ld (o := 5) (cs := poolC y x s1) e gInt m rfl
  refine onP_mk rfl ⟨_, _, _, ldF H (by exact ⟨rfl, rfl, rfl, rfl⟩) (mem_pool y x s), onP_mk rfl ⟨_, H.ld (o := 2) (cs := poolC y x s) (by exact ⟨rfl, rfl, rfl, rfl⟩) gInt (mem_pool y x s) rfl, br_dec (fun h => ?_) (fun h => ?_)⟩⟩
  · -- one more
    have hlt : s.fs.length < s.many := by omega
    refine onP_mk rfl ⟨_, _, _, ldF H (by exact ⟨rfl, rfl, rfl, rfl⟩) (mem_pool y x s), ?_⟩
    intro b w1 hn1
    replace H := H.drew.new (cs := [.int .i64 (-1), .pointer none, .int .i64 0, .bool false, .bool false]) (by exact ⟨rfl, rfl, rfl, rfl⟩) hn1; clear hn1
    intro b1 w2 hn1
    replace H := H.new (cs := [.pointer (some ⟨b, 0, none⟩)]) (by exact ⟨rfl, rfl, rfl, rfl⟩) hn1; clear hn1
    rw [stL] at H
    have H2 := H.pull3
    clear H
    rw [fsA] at H2
    refine Hp.app geltF (by omega) H2 (by exact ⟨rfl, rfl, rfl, rfl⟩) (Blk.src (n := 1) gundF (H2.blk (.tail _ (.head _))) (by simp) (by rfl)) (by simp only [maxLen]; omega) (by omega) ?_
    clear H2; intro a5 c5 w5 H
    replace H := H.pull3
    rw [poolA] at H
    refine onP_mk rfl (Hp.st (o := 4) H (by exact ⟨rfl, rfl, rfl, rfl⟩) gSF rfl rfl (by simp [poolC]) (cs' := poolC { y with fa := a5, fc := c5 } x { s with fs := s.fs ++ [⟨0, ([], 0), 0, false, false⟩] }) (by simp [poolC]) ?_)
    clear H; intro w6 H
    refine onP_mk rfl ⟨_, _, _, H.ld (o := 4) (cs := poolC { y with fa := a5, fc := c5 } x { s with fs := s.fs ++ [⟨0, ([], 0), 0, false, false⟩] }) (by exact ⟨rfl, rfl, rfl, rfl⟩) gSF (.head _) rfl, inR64.2 ?_, ?_⟩
    · rw [List.length_append]; simp only [List.length_singleton]; omega
    · left
      have hyl := ok.fs
      refine ⟨{ y with fa := a5, fc := c5, fs := y.fs ++ [(b, 0)] }, x, { s with fs := s.fs ++ [⟨0, ([], 0), 0, false, false⟩] }, s.fs.length, ?_, ⟨rfl, rfl, rfl, rfl, rfl⟩, ok.dk, by simp [hyl], by simp, fun i hi => ?_, .inl ⟨hlt, rfl, _, rfl⟩, ?_⟩
      · have : (((s.fs ++ [(⟨0, ([], 0), 0, false, false⟩ : Fr)]).length : Int) - 1) = (s.fs.length : Int) := by simp
        rw [this]
      · rw [List.getElem?_append]
        by_cases h2 : i < y.fs.length
        · rw [if_pos h2]
        · rw [if_neg h2, List.getElem?_eq_none (by simp; omega), List.getElem?_eq_none (by omega)]
      · have e1 : (y.fs ++ [(b, 0)]).eraseIdx s.fs.length = y.fs := by rw [← hyl, List.eraseIdx_append_of_length_le (Nat.le_refl _)]; simp
        have e2 : (s.fs ++ [(⟨0, ([], 0), 0, false, false⟩ : Fr)]).eraseIdx s.fs.length = s.fs := by rw [List.eraseIdx_append_of_length_le (Nat.le_refl _)]; simp
        have e3 : ptrsF (y.fs ++ [(b, 0)]) = ptrsF y.fs ++ [.pointer (some ⟨b, 0, none⟩)] := by simp [ptrsF]
        have H2 : Hp B w w6 (.blk b1 [.pointer (some ⟨b, 0, none⟩)] 61 :: .blk b [.int .i64 (-1), .pointer none, .int .i64 0, .bool false, .bool false] 63 :: stK { y with fa := a5, fc := c5, fs := y.fs ++ [(b, 0)] } x { s with fs := s.fs ++ [⟨0, ([], 0), 0, false, false⟩] } s.fs.length) := by
          rw [stK, e1, e2, fsA, e3]
          have e4 : (s.fs ++ [(⟨0, ([], 0), 0, false, false⟩ : Fr)]).length = s.fs.length + 1 := by simp
          rw [e4]
          refine H.perm ?_
          rw [poolA]
          have e5 : deskL { y with fa := a5, fc := c5, fs := y.fs ++ [(b, 0)] } x { s with fs := s.fs ++ [⟨0, ([], 0), 0, false, false⟩] } = deskL y x s := rfl
          have e6 : poolC { y with fa := a5, fc := c5, fs := y.fs ++ [(b, 0)] } x { s with fs := s.fs ++ [⟨0, ([], 0), 0, false, false⟩] } = poolC { y with fa := a5, fc := c5 } x { s with fs := s.fs ++ [⟨0, ([], 0), 0, false, false⟩] } := rfl
          rw [e5, e6]
          (refine perm_cnt fun ff gg h0 hc ha hpm => ?_; simp only [ha, hc, h0]; omega)
        exact H2.drop.drop
  · -- the clock
    have hnl : ¬ s.fs.length < s.many := by omega
    have hhand := hh (by omega)
    refine onP_mk rfl ⟨_, _, _, ldF H (by exact ⟨rfl, rfl, rfl, rfl⟩) (mem_pool y x s), inR64.2 (by omega), ?_⟩
    refine LoopP.mk (fun m (i : Int × Int) w' => ∃ (c : Nat) (fs1 : List Fr) (h1 : Nat), m = 2 * s.fs.length - c ∧ c ≤ 2 * s.fs.length ∧ i = (-1, (c : Int)) ∧ SameFs s.fs fs1 ∧ h1 < fs1.length ∧ clockP (2 * s.fs.length - c) fs1 h1 = clockP (2 * s.fs.length) s.fs s.hand ∧ Hp B w w' (stL y x { s with fs := fs1, hand := h1 })) (2 * s.fs.length) ⟨0, s.fs, s.hand, rfl, by omega, rfl, SameFs.refl _, hhand, rfl, H.drew⟩ ?_
    clear H
    rintro m i w1 next ⟨c, fs1, h1, rfl, hc, rfl, hsame, hh1, hcl, H⟩ hnext
    dsimp only
    have ok1 := ok.same hsame hh1
    have hl1 := hsame.len
    refine br_dec (fun h2 => ?_) (fun h2 => ?_)
    · have hcl2 : c < 2 * s.fs.length := by omega
      obtain ⟨wf, f, hw, hf⟩ := ok1.at hh1
      have hpf : f.pins ≤ 1000000 := ok1.pins f (List.mem_of_getElem? hf)
      have hnf : f.n < 4096 := ok1.num f (List.mem_of_getElem? hf)
      have K := (H.ownA (mem_fs y x { s with fs := fs1, hand := h1 })).cells
      have hp := ptrsF_at hw
      obtain ⟨ad, had, _⟩ := K _ _ hp
      have e1 : Int.toNat (h1 : Int) * 1 = h1 := by omega
      have et : Int.tmod ((h1 : Int) + 1) (fs1.length : Int) = (((h1 + 1) % fs1.length : Nat) : Int) := by rw [Int.natCast_emod]; exact Int.tmod_eq_emod_of_nonneg (by omega)
      have hmod : (h1 + 1) % fs1.length < fs1.length := Nat.mod_lt _ (by omega)
      have mp := mem_pool y x { s with fs := fs1, hand := h1 }
      refine onP_mk rfl ⟨_, _, _, ldF H (by exact ⟨rfl, rfl, rfl, rfl⟩) mp, onP_mk rfl ⟨_, ldH H (by exact ⟨rfl, rfl, rfl, rfl⟩) mp, ?_⟩⟩
      refine onP_mk had ⟨⟨by show (0 : Int) ≤ (h1 : Int); omega, by show (h1 : Int) < (fs1.length : Int); omega⟩, _, by dsimp only; rw [e1]; exact (H.drew.ownA (mem_fs y x { s with fs := fs1, hand := h1 })).cells.ld gPF had hp, ?_⟩
      refine onP_mk rfl ⟨_, ldH H (by exact ⟨rfl, rfl, rfl, rfl⟩) mp, onP_mk rfl ⟨_, ldH H (by exact ⟨rfl, rfl, rfl, rfl⟩) mp, inR64.2 (by dsimp only; omega), onP_mk rfl ⟨_, _, _, ldF H (by exact ⟨rfl, rfl, rfl, rfl⟩) mp, by show (fs1.length : Int) ≠ 0; omega, ?_⟩⟩⟩
      dsimp only
      rw [et]
      have H0 : Hp B w w1.drew.drew (.blk y.pb (poolC y x { s with fs := fs1, hand := h1 }) 70 :: (fsA y { s with fs := fs1, hand := h1 } :: (deskL y x { s with fs := fs1, hand := h1 } ++ (frsL y.fs fs1 ++ dkL x s.d)))) := H.drew.drew
      refine onP_mk rfl (Hp.st (o := 5) H0 (by exact ⟨rfl, rfl, rfl, rfl⟩) gInt rfl rfl (by simp [poolC]) (cs' := poolC y x { s with fs := fs1, hand := (h1 + 1) % fs1.length }) rfl ?_)
      clear H0 H mp K; intro w2 H
      replace H : Hp B w w2 (stL y x { s with fs := fs1, hand := (h1 + 1) % fs1.length }) := H
      have mp := mem_pool y x { s with fs := fs1, hand := (h1 + 1) % fs1.length }
      have mf := mem_fr (x := x) (s := { s with fs := fs1, hand := (h1 + 1) % fs1.length }) hw hf
      have hstep := clock_step (2 * s.fs.length - (c + 1)) hf
      have hcs : 2 * s.fs.length - c = (2 * s.fs.length - (c + 1)) + 1 := by omega
      rw [hcs, hstep] at hcl
      refine onP_mk rfl ⟨_, H.ld (o := 2) (cs := frC wf f) (by exact ⟨rfl, rfl, rfl, rfl⟩) gInt mf rfl, br_dec (fun h3 => ?_) (fun h3 => ?_)⟩
      · rw [if_pos (by omega)] at hcl
        exact ⟨inR64.2 (by omega), hnext (2 * s.fs.length - (c + 1)) _ _ (by omega) ⟨c + 1, fs1, (h1 + 1) % fs1.length, rfl, by omega, by simp, hsame, hmod, hcl, H⟩⟩
      · have hp0 : f.pins = 0 := by omega
        rw [if_neg (by omega)] at hcl
        refine onP_mk rfl ⟨_, H.ld (o := 4) (cs := frC wf f) (by exact ⟨rfl, rfl, rfl, rfl⟩) gBool mf rfl, br_mk (fun hu => ?_) (fun hu => ?_)⟩
        · rw [if_pos hu] at hcl
          have H2 : Hp B w w2 (.blk wf.1 (frC wf f) 63 :: pageA wf.2 f.pg :: stK y x { s with fs := fs1, hand := (h1 + 1) % fs1.length } h1) := H.perm (st_open hw hf)
          refine onP_mk rfl (Hp.st (o := 4) H2 (by exact ⟨rfl, rfl, rfl, rfl⟩) gBool rfl rfl (by simp [frC]) (cs' := frC wf { f with used := false }) rfl ?_)
          clear H2 H; intro w3 H
          have H3 : Hp B w w3 (stL y x { s with fs := fs1.set h1 { f with used := false }, hand := (h1 + 1) % fs1.length }) := H.perm (st_turn1 (x := x) (s := { s with fs := fs1, hand := (h1 + 1) % fs1.length }) hw hh1 ok1.fs _).symm
          exact ⟨inR64.2 (by omega), hnext (2 * s.fs.length - (c + 1)) _ _ (by omega) ⟨c + 1, _, (h1 + 1) % fs1.length, rfl, by omega, by simp, hsame.trans (SameFs.set hf), by simpa using hmod, hcl, H3⟩⟩
        · rw [if_neg (by simp [hu])] at hcl
          have K2 := (H.ownA (mem_fs y x { s with fs := fs1, hand := (h1 + 1) % fs1.length })).cells
          refine br_dec (fun h4 => by omega) (fun _ => ?_)
          refine onP_mk rfl ⟨_, _, _, ldF H (by exact ⟨rfl, rfl, rfl, rfl⟩) mp, ?_⟩
          refine onP_mk had ⟨⟨by omega, by show (h1 : Int) < (fs1.length : Int); omega⟩, _, by rw [e1]; exact K2.ld gPF had hp, ?_⟩
          refine onP_mk rfl ⟨_, H.ld (o := 3) (cs := frC wf f) (by exact ⟨rfl, rfl, rfl, rfl⟩) gBool mf rfl, br_mk (fun hd => ?_) (fun hd => ?_)⟩
          · refine onP_mk rfl ⟨_, _, _, ldF H (by exact ⟨rfl, rfl, rfl, rfl⟩) mp, onP_mk had ⟨⟨by omega, by show (h1 : Int) < (fs1.length : Int); omega⟩, _, by rw [e1]; exact K2.ld gPF had hp, ?_⟩⟩
            have ok2 : StOk y x { s with fs := fs1, hand := (h1 + 1) % fs1.length } := ok.same hsame hmod
            have H2 := H.perm (wr_perm (x := x) (s := { s with fs := fs1, hand := (h1 + 1) % fs1.length }) hw hf)
            clear H
            refine callV (fwrite_spec y x { s with fs := fs1, hand := (h1 + 1) % fs1.length } ok2 fit hN hsz wf f hnf w2 H2.std1) ?_
            rintro e w3 ⟨g, hR, rfl, x2, a, ca, hx2b, hx2, H'⟩
            have H3 := H2.useL H'
            clear H2 H'
            have eE : wroteE { s with fs := fs1, hand := (h1 + 1) % fs1.length } f g.bs = wroteE s f g.bs := rfl
            rw [eE] at H3 ⊢
            refine ⟨_, rfl, br_ndec (fun hE => ?_) (fun hE => ?_)⟩
            · right
              have hfw : f.wrote (wroteE s f g.bs) = f := by rw [Fr.wrote, if_neg hE]
              rw [hfw] at H3
              refine ⟨{ y with aa := a, ac := ca }, x2, St.wrote { s with fs := fs1, hand := (h1 + 1) % fs1.length } f g.bs, _, hE, rfl, ⟨rfl, rfl, rfl, rfl, hx2b⟩, hx2, rfl, ⟨hnl, fs1, _, hsame, hmod, .inr ⟨h1, f, g, hf, hp0, hd, hR, rfl, rfl⟩⟩, ?_⟩
              exact H3.perm (wr_perm (y := { y with aa := a, ac := ca }) (x := x2) (s := St.wrote { s with fs := fs1, hand := (h1 + 1) % fs1.length } f g.bs) hw hf).symm
            · left
              refine ⟨{ y with aa := a, ac := ca }, x2, St.wrote { s with fs := fs1, hand := (h1 + 1) % fs1.length } f g.bs, h1, ?_, ⟨rfl, rfl, rfl, rfl, hx2b⟩, hx2, ok1.fs, hh1, fun _ _ => rfl, .inr ⟨hnl, fs1, _, f, hsame, hmod, hf, hp0, .inr ⟨hd, g, hR, hE, rfl⟩⟩, ?_⟩
              · rfl
              · have H4 : Hp B w w3 (.blk wf.1 (frC wf (f.wrote (wroteE s f g.bs))) 63 :: pageA wf.2 f.pg :: stK { y with aa := a, ac := ca } x2 (St.wrote { s with fs := fs1, hand := (h1 + 1) % fs1.length } f g.bs) h1) := H3.perm (by
                  rw [wrL, stK]
                  show List.Perm (.blk wf.1 (frC wf (f.wrote (wroteE s f g.bs))) 63 :: pageA wf.2 f.pg :: poolA { y with aa := a, ac := ca } x2 (St.wrote { s with fs := fs1, hand := (h1 + 1) % fs1.length } f g.bs) :: (deskL { y with aa := a, ac := ca } x2 (St.wrote { s with fs := fs1, hand := (h1 + 1) % fs1.length } f g.bs) ++ dkL x2 (St.wrote { s with fs := fs1, hand := (h1 + 1) % fs1.length } f g.bs).d) ++ (fsA y { s with fs := fs1, hand := (h1 + 1) % fs1.length } :: frsL (y.fs.eraseIdx h1) (fs1.eraseIdx h1))) (.blk wf.1 (frC wf (f.wrote (wroteE s f g.bs))) 63 :: pageA wf.2 f.pg :: poolA { y with aa := a, ac := ca } x2 (St.wrote { s with fs := fs1, hand := (h1 + 1) % fs1.length } f g.bs) :: fsA y { s with fs := fs1, hand := (h1 + 1) % fs1.length } :: (deskL { y with aa := a, ac := ca } x2 (St.wrote { s with fs := fs1, hand := (h1 + 1) % fs1.length } f g.bs) ++ (frsL (y.fs.eraseIdx h1) (fs1.eraseIdx h1) ++ dkL x2 (St.wrote { s with fs := fs1, hand := (h1 + 1) % fs1.length } f g.bs).d)))
                  (refine perm_cnt fun ff gg h0 hc ha hpm => ?_; simp only [ha, hc, h0]; omega))
                exact H4.drop.drop
          · left
            have H2 : Hp B w w2 (.blk wf.1 (frC wf f) 63 :: pageA wf.2 f.pg :: stK y x { s with fs := fs1, hand := (h1 + 1) % fs1.length } h1) := H.perm (st_open hw hf)
            exact ⟨y, x, { s with fs := fs1, hand := (h1 + 1) % fs1.length }, h1, rfl, SeatY.refl y x, ok.dk, ok1.fs, hh1, fun _ _ => rfl, .inr ⟨hnl, fs1, _, f, hsame, hmod, hf, hp0, .inl ⟨hd, rfl⟩⟩, H2.drop.drop⟩
    · have hce : 2 * s.fs.length - c = 0 := by omega
      rw [hce] at hcl
      have hnone : (clockP (2 * s.fs.length) s.fs s.hand).1 = none := by rw [← hcl]; rfl
      refine br_dec (fun _ => ?_) (fun h3 => by omega)
      right
      exact ⟨y, x, { s with fs := fs1, hand := h1 }, 120, by omega, rfl, SeatY.refl y x, ok.dk, rfl, ⟨hnl, fs1, h1, hsame, hh1, .inl ⟨rfl, clock_full hhand hnone, rfl⟩⟩, H⟩
end Go.Proofs.YtiagjabdfppgkaaGreat
/- Frames: what a pool holds, as plain contents: pages and pins by their numbers. -/
namespace Go.Proofs.YtiagjabdfppgkaaGreat
open Go Go.Vc Go.Vault

/-- a page that stands in the file -/
def InFile (d : Dk) (n : Nat) (P : AP) : Prop := ∃ g, Sl.Rep g P.1 P.2 ∧ pageB d 0 n = g.bs
structure Core (d : Dk) (fs : List Fr) (pg : Nat → AP) (pin : Nat → Nat) : Prop where
  small : ∀ f ∈ fs, f.n < 12
  nd : (fs.map (·.n)).Nodup
  held : ∀ f ∈ fs, f.pg = pg f.n ∧ f.pins = pin f.n
  free : ∀ n, (∀ f ∈ fs, f.n ≠ n) → pin n = 0
  file : ∀ n, (∀ f ∈ fs, f.n = n → f.dirty = false ∧ f.pins = 0) → InFile d n (pg n)
def upd {α : Type} (g : Nat → α) (n : Nat) (x : α) : Nat → α := fun m => if m = n then x else g m
theorem upd_self {α : Type} (g : Nat → α) (n : Nat) (x : α) : upd g n x n = x := if_pos rfl
theorem upd_ne {α : Type} (g : Nat → α) {n m : Nat} (x : α) (h : m ≠ n) : upd g n x m = g m := if_neg h
theorem upd_same {α : Type} (g : Nat → α) {n : Nat} {x : α} (h : g n = x) : upd g n x = g := by
  funext m
  by_cases hm : m = n
  · subst hm; rw [upd_self, h]
  · rw [upd_ne _ _ hm]
section
variable {d d' : Dk} {fs fs' : List Fr} {pg : Nat → AP} {pin : Nat → Nat} {f : Fr}
theorem Core.perm (h : Core d fs pg pin) (p : fs.Perm fs') : Core d fs' pg pin :=
  ⟨fun f hf => h.small f (p.mem_iff.2 hf), (p.map _).nodup_iff.1 h.nd, fun f hf => h.held f (p.mem_iff.2 hf), fun n hn => h.free n fun f hf => hn f (p.mem_iff.1 hf), fun n hn => h.file n fun f hf => hn f (p.mem_iff.1 hf)⟩
theorem Core.other (h : Core d (f :: fs) pg pin) : ∀ g ∈ fs, g.n ≠ f.n := fun g hg e => by
  have := (List.nodup_cons.1 h.nd).1
  exact this (List.mem_map.2 ⟨g, hg, e⟩)
theorem Core.disk (h : Core d fs pg pin) (hd : ∀ n, InFile d n (pg n) → InFile d' n (pg n)) : Core d' fs pg pin := ⟨h.small, h.nd, h.held, h.free, fun n hn => hd n (h.file n hn)⟩
theorem Core.same (h : Core d fs pg pin) {gs : List Fr} (hs : SameFs fs gs) : Core d gs pg pin := by
  have hl := hs.len
  have bck : ∀ g ∈ gs, ∃ f ∈ fs, SameF f g := fun g hg => by
    obtain ⟨k, hk, rfl⟩ := List.getElem_of_mem hg
    exact ⟨_, List.getElem_mem (by omega), hs.at_ k _ _ (List.getElem?_eq_getElem (by omega)) (List.getElem?_eq_getElem hk)⟩
  have fwd : ∀ f ∈ fs, ∃ g ∈ gs, SameF f g := fun f hf => by
    obtain ⟨k, hk, rfl⟩ := List.getElem_of_mem hf
    exact ⟨_, List.getElem_mem (by omega), hs.at_ k _ _ (List.getElem?_eq_getElem hk) (List.getElem?_eq_getElem (by omega))⟩
  have hm : gs.map (·.n) = fs.map (·.n) := by
    apply List.ext_getElem (by simp [hl])
    intro k h1 h2
    simp only [List.getElem_map]
    simp only [List.length_map] at h1 h2
    exact (hs.at_ k _ _ (List.getElem?_eq_getElem h2) (List.getElem?_eq_getElem h1)).1
  refine ⟨fun g hg => ?_, by rw [hm]; exact h.nd, fun g hg => ?_, fun n hn => h.free n fun f hf => ?_, fun n hn => h.file n fun f hf e => ?_⟩
  · obtain ⟨f, hf, s⟩ := bck g hg
    rw [s.1]; exact h.small f hf
  · obtain ⟨f, hf, s⟩ := bck g hg
    rw [s.1, s.2.1, s.2.2.1]; exact h.held f hf
  · obtain ⟨g, hg, s⟩ := fwd f hf
    rw [← s.1]; exact hn g hg
  · obtain ⟨g, hg, s⟩ := fwd f hf
    have := hn g hg (by rw [s.1]; exact e)
    rw [s.2.2.2, s.2.2.1] at this; exact this
/-- one that is clean is let go -/
theorem Core.drop (h : Core d (f :: fs) pg pin) (h1 : f.pins = 0) (h2 : f.dirty = false) : Core d fs pg pin := by
  refine ⟨fun g hg => h.small g (.tail _ hg), (List.nodup_cons.1 h.nd).2, fun g hg => h.held g (.tail _ hg), fun n hn => ?_, fun n hn => h.file n fun g hg e => ?_⟩
  · by_cases e : f.n = n
    · subst e; rw [← (h.held f (.head _)).2]; exact h1
    · exact h.free n fun g hg => by
        rcases List.mem_cons.1 hg with rfl | hg
        · exact e
        · exact hn g hg
  · rcases List.mem_cons.1 hg with rfl | hg
    · exact ⟨h2, h1⟩
    · exact hn g hg e
/-- one more is held -/
theorem Core.add (h : Core d fs pg pin) (hf : ∀ g ∈ fs, g.n ≠ f.n) (h1 : f.n < 12) (h2 : f.pins = 0) : Core d (f :: fs) (upd pg f.n f.pg) pin ∨ f.dirty = false → (f.dirty = false → f.pg = pg f.n) → Core d (f :: fs) (upd pg f.n f.pg) pin := by
  intro _ hc
  have hp := h.free f.n hf
  refine ⟨fun g hg => ?_, ?_, fun g hg => ?_, fun n hn => h.free n fun g hg => hn g (.tail _ hg), fun n hn => ?_⟩
  · rcases List.mem_cons.1 hg with rfl | hg
    · exact h1
    · exact h.small g hg
  · rw [List.map_cons]
    refine List.nodup_cons.2 ⟨fun hm => ?_, h.nd⟩
    obtain ⟨g, hg, e⟩ := List.mem_map.1 hm
    exact hf g hg e
  · rcases List.mem_cons.1 hg with rfl | hg
    · exact ⟨(upd_self _ _ _).symm, by rw [h2, hp]⟩
    · rw [upd_ne _ _ (hf g hg)]; exact h.held g hg
  · by_cases e : n = f.n
    · subst e
      rw [upd_self, hc (hn f (.head _) rfl).1]
      exact h.file f.n fun g hg e => absurd e (hf g hg)
    · rw [upd_ne _ _ e]
      exact h.file n fun g hg e2 => hn g (.tail _ hg) e2
/-- written -/
theorem Core.wrote (h : Core d (f :: fs) pg pin) {g : Sl.Pg} (hR : Sl.Rep g f.pg.1 f.pg.2) (hout : ∀ m, m ≠ f.n → pageB d' 0 m = pageB d 0 m) (hin : pageB d' 0 f.n = g.bs) : Core d' ({ f with dirty := false } :: fs) pg pin := by
  have h0 := h.held f (.head _)
  refine ⟨fun g hg => ?_, h.nd, fun g hg => ?_, fun n hn => h.free n fun g hg => ?_, fun n hn => ?_⟩
  · rcases List.mem_cons.1 hg with rfl | hg
    · exact h.small f (.head _)
    · exact h.small g (.tail _ hg)
  · rcases List.mem_cons.1 hg with rfl | hg
    · exact h0
    · exact h.held g (.tail _ hg)
  · rcases List.mem_cons.1 hg with rfl | hg
    · exact hn { g with dirty := false } (.head _)
    · exact hn g (.tail _ hg)
  · by_cases e : n = f.n
    · subst e
      exact ⟨g, by rw [← h0.1]; exact hR, hin⟩
    · obtain ⟨g', h1, h2⟩ := h.file n fun g hg e2 => by
        rcases List.mem_cons.1 hg with rfl | hg
        · exact absurd e2.symm e
        · exact hn g (.tail _ hg) e2
      exact ⟨g', h1, by rw [hout n e]; exact h2⟩
/-- a write that was cut short -/
theorem Core.torn (h : Core d (f :: fs) pg pin) (hd : f.dirty = true) (hout : ∀ m, m ≠ f.n → pageB d' 0 m = pageB d 0 m) : Core d' (f :: fs) pg pin := by
  refine ⟨h.small, h.nd, h.held, h.free, fun n hn => ?_⟩
  by_cases e : n = f.n
  · subst e
    have := (hn f (.head _) rfl).1
    rw [hd] at this; cases this
  · obtain ⟨g', h1, h2⟩ := h.file n hn
    exact ⟨g', h1, by rw [hout n e]; exact h2⟩
/-- another page in a frame that is pinned, or dirty then -/
theorem Core.page (h : Core d (f :: fs) pg pin) (P : AP) {b u : Bool} (hb : b = true ∨ 0 < f.pins) : Core d ({ f with pg := P, dirty := b, used := u } :: fs) (upd pg f.n P) pin := by
  have ho := h.other
  refine ⟨fun g hg => ?_, h.nd, fun g hg => ?_, fun n hn => h.free n fun g hg => ?_, fun n hn => ?_⟩
  · rcases List.mem_cons.1 hg with rfl | hg
    · exact h.small f (.head _)
    · exact h.small g (.tail _ hg)
  · rcases List.mem_cons.1 hg with rfl | hg
    · exact ⟨(upd_self _ _ _).symm, (h.held f (.head _)).2⟩
    · rw [upd_ne _ _ (ho g hg)]; exact h.held g (.tail _ hg)
  · rcases List.mem_cons.1 hg with rfl | hg
    · exact hn { g with pg := P, dirty := b, used := u } (.head _)
    · exact hn g (.tail _ hg)
  · by_cases e : n = f.n
    · subst e
      obtain ⟨e1, e2⟩ := hn { f with pg := P, dirty := b, used := u } (.head _) rfl
      rcases hb with hb | hb
      · have e1 : b = false := e1
        rw [hb] at e1; cases e1
      · have e2 : f.pins = 0 := e2
        omega
    · rw [upd_ne _ _ e]
      exact h.file n fun g hg e2 => by
        rcases List.mem_cons.1 hg with rfl | hg
        · exact absurd e2.symm e
        · exact hn g (.tail _ hg) e2
/-- other pins -/
theorem Core.pins (h : Core d (f :: fs) pg pin) (p : Nat) {b u : Bool} (hf : p = 0 → b = false → InFile d f.n (pg f.n)) : Core d ({ f with pins := p, dirty := b, used := u } :: fs) pg (upd pin f.n p) := by
  have ho := h.other
  refine ⟨fun g hg => ?_, h.nd, fun g hg => ?_, fun n hn => ?_, fun n hn => ?_⟩
  · rcases List.mem_cons.1 hg with rfl | hg
    · exact h.small f (.head _)
    · exact h.small g (.tail _ hg)
  · rcases List.mem_cons.1 hg with rfl | hg
    · exact ⟨(h.held f (.head _)).1, (upd_self _ _ _).symm⟩
    · rw [upd_ne _ _ (ho g hg)]; exact h.held g (.tail _ hg)
  · have e : n ≠ f.n := fun e => hn _ (.head _) e.symm
    rw [upd_ne _ _ e]
    exact h.free n fun g hg => by
      rcases List.mem_cons.1 hg with rfl | hg
      · exact fun e2 => e e2.symm
      · exact hn g (.tail _ hg)
  · by_cases e : n = f.n
    · subst e
      obtain ⟨e1, e2⟩ := hn { f with pins := p, dirty := b, used := u } (.head _) rfl
      exact hf e2 e1
    · exact h.file n fun g hg e2 => by
        rcases List.mem_cons.1 hg with rfl | hg
        · exact absurd e2.symm e
        · exact hn g (.tail _ hg) e2
end
theorem at_perm : ∀ {fs : List Fr} {k : Nat} {f : Fr}, fs[k]? = some f → fs.Perm (f :: fs.eraseIdx k)
  | [], _, _, h => by simp at h
  | a :: r, 0, f, h => by simp at h; subst h; exact .refl _
  | a :: r, k + 1, f, h => by
    simp only [List.getElem?_cons_succ] at h
    exact ((at_perm h).cons a).trans (.swap f a _)
theorem set_perm {fs : List Fr} {k : Nat} (hk : k < fs.length) (f : Fr) : (fs.set k f).Perm (f :: fs.eraseIdx k) := by
  have h1 : (fs.set k f)[k]? = some f := by rw [List.getElem?_set_self hk]
  have := at_perm h1
  rwa [List.eraseIdx_set_eq] at this
/-- how many pages are pinned -/
def pinN (pin : Nat → Nat) : Nat := ((List.range 12).filter fun n => decide (0 < pin n)).length
theorem Core.pinned {d : Dk} {fs : List Fr} {pg : Nat → AP} {pin : Nat → Nat} (h : Core d fs pg pin) : pinN pin = (fs.filter fun f => decide (0 < f.pins)).length := by
  have h1 : ((List.range 12).filter fun n => decide (0 < pin n)).Nodup := List.nodup_range.filter _
  have h2 : ((fs.filter fun f => decide (0 < f.pins)).map (·.n)).Nodup := h.nd.sublist (List.filter_sublist.map _)
  have hp : ((List.range 12).filter fun n => decide (0 < pin n)).Perm ((fs.filter fun f => decide (0 < f.pins)).map (·.n)) := by
    refine (List.perm_ext_iff_of_nodup h1 h2).2 fun n => ?_
    simp only [List.mem_filter, List.mem_range, decide_eq_true_eq, List.mem_map]
    constructor
    · rintro ⟨hn, hpn⟩
      by_cases hx : ∀ f ∈ fs, f.n ≠ n
      · have := h.free n hx; omega
      · obtain ⟨f, hf, e⟩ : ∃ f ∈ fs, f.n = n := by
          apply Classical.byContradiction
          intro hne
          exact hx fun f hf e => hne ⟨f, hf, e⟩
        exact ⟨f, ⟨hf, by rw [(h.held f hf).2, e]; exact hpn⟩, e⟩
    · rintro ⟨f, ⟨hf, hpf⟩, rfl⟩
      exact ⟨h.small f hf, by rw [← (h.held f hf).2]; exact hpf⟩
  have := hp.length_eq
  rw [List.length_map] at this
  exact this
theorem Core.pinned_le {d : Dk} {fs : List Fr} {pg : Nat → AP} {pin : Nat → Nat} (h : Core d fs pg pin) : pinN pin ≤ fs.length := by
  rw [h.pinned]; exact List.length_filter_le _ _
/-- one that is not pinned -/
theorem Core.pinned_lt {d : Dk} {fs : List Fr} {pg : Nat → AP} {pin : Nat → Nat} (h : Core d fs pg pin) {f : Fr} (hf : f ∈ fs) (h0 : f.pins = 0) : pinN pin < fs.length := by
  rw [h.pinned]
  rcases Nat.lt_or_ge (fs.filter fun f : Fr => decide (0 < f.pins)).length fs.length with h1 | h1
  · exact h1
  · have h2 := List.length_filter_le (fun f : Fr => decide (0 < f.pins)) fs
    have h3 : fs.filter (fun f : Fr => decide (0 < f.pins)) = fs := List.filter_sublist.eq_of_length (by omega)
    have := (List.mem_filter.1 (by rw [h3]; exact hf)).2
    simp [h0] at this
theorem Core.pinned_all {d : Dk} {fs : List Fr} {pg : Nat → AP} {pin : Nat → Nat} (h : Core d fs pg pin) (ha : ∀ f ∈ fs, 0 < f.pins) : pinN pin = fs.length := by
  rw [h.pinned, List.filter_eq_self.2 fun f hf => by simpa using ha f hf]

/-! ### a pool -/
structure Inv (C : Nat) (s : St) (pg : Nat → AP) (pin : Nat → Nat) : Prop where
  core : Core s.d s.fs pg pin
  dd : DD s.d
  len : s.d.len 0 ≤ 8 * s.pages
  le : ∀ f ∈ s.fs, f.n < s.pages
  pages : s.pages ≤ 12
  many : 4 ≤ s.many ∧ s.many ≤ 64
  fl : s.fs.length ≤ s.many
  hand : s.hand = 0 ∨ s.hand < s.fs.length
  cp : ∀ f ∈ s.fs, f.pins ≤ C
  ca : s.asked.length ≤ 100 * C
/-- all that stands in the file was asked for -/
def Ah (s : St) : Prop := ∀ n, ∃ P : AP, InFile s.d n P ∧ (P.2 = 0 ∨ P.2 ∈ s.asked)
/-- from one to another: what stays -/
structure Mv (s s' : St) : Prop where
  many : s'.many = s.many
  deny : s'.deny = s.deny
  asked : ∀ n ∈ s.asked, n ∈ s'.asked
  calm : s.d.denied = 0 → s'.d.denied = 0 ∧ (Ah s → Ah s')
  no : s.deny = true → s'.d.len 0 = s.d.len 0
theorem Mv.refl (s : St) : Mv s s := ⟨rfl, rfl, fun _ h => h, fun h => ⟨h, fun h => h⟩, fun _ => rfl⟩
theorem Mv.trans {a b c : St} (h : Mv a b) (h' : Mv b c) : Mv a c :=
  ⟨h'.many.trans h.many, h'.deny.trans h.deny, fun n hn => h'.asked n (h.asked n hn), fun h1 => by
    obtain ⟨e1, e2⟩ := h.calm h1
    obtain ⟨e3, e4⟩ := h'.calm e1
    exact ⟨e3, fun h => e4 (e2 h)⟩, fun h1 => by rw [h'.no (by rw [h.deny]; exact h1), h.no h1]⟩
/-- an error that the disk, or what is asked ahead, gives -/
def Trouble (s : St) (e : Int) : Prop := (e = 190 ∧ s.deny = true) ∨ (e = 95 ∧ s.d.denied ≠ 0)
theorem Trouble.back {s s' : St} {e : Int} (h : Trouble s' e) (m : Mv s s') : Trouble s e := by
  rcases h with ⟨h1, h2⟩ | ⟨h1, h2⟩
  · exact .inl ⟨h1, by rw [← m.deny]; exact h2⟩
  · exact .inr ⟨h1, fun h => h2 (m.calm h).1⟩
theorem Trouble.not {s : St} {e : Int} (h : Trouble s e) (h1 : s.deny = false) (h2 : s.d.denied = 0) : False := by
  rcases h with ⟨_, h⟩ | ⟨_, h⟩
  · rw [h1] at h; cases h
  · exact h h2
theorem Trouble.ne {s : St} {e : Int} (h : Trouble s e) : e ≠ 0 ∧ e ≠ 120 := by
  rcases h with ⟨h, _⟩ | ⟨h, _⟩ <;> omega
theorem Inv.stOk {C : Nat} {s : St} {pg : Nat → AP} {pin : Nat → Nat} (h : Inv C s pg pin) (hC : C ≤ 1000) {y : GW} {x : DW} (hx : x.Ok s.d) (hf : y.fs.length = s.fs.length) (hg : y.got.length = 12) : StOk y x s := by
  have h1 := h.many
  have h2 := h.fl
  have h3 := h.hand
  have h4 := h.pages
  have h5 := h.ca
  exact ⟨hf, hg, hx, by omega, fun f hf => by have := h.core.small f hf; omega, fun f hf => by have := h.cp f hf; omega, by omega, by omega, by omega, by omega⟩
theorem Inv.fit {C : Nat} {s : St} {pg : Nat → AP} {pin : Nat → Nat} (h : Inv C s pg pin) : s.d.Fit 800000 := h.dd.fit (by have := h.len; have := h.pages; omega) (by omega)
/-- a page's write, in all -/
theorem wrote_step {s : St} (hdd : DD s.d) {f : Fr} (hn : f.n < 12) {g : Sl.Pg} (hR : Sl.Rep g f.pg.1 f.pg.2) :
    DD (s.wrote f g.bs).d ∧ (∀ m, m ≠ f.n → pageB (s.wrote f g.bs).d 0 m = pageB s.d 0 m) ∧ (wroteE s f g.bs = 0 → pageB (s.wrote f g.bs).d 0 f.n = g.bs) ∧ (wroteE s f g.bs = 0 ∨ Trouble s (wroteE s f g.bs)) ∧ (s.wrote f g.bs).d.len 0 ≤ max (s.d.len 0) (f.n * 8 + 8) ∧ Mv s (s.wrote f g.bs) ∧ (wroteE s f g.bs = 0 → f.n * 8 + 8 ≤ (s.wrote f g.bs).d.len 0) ∧ s.d.len 0 ≤ (s.wrote f g.bs).d.len 0 := by
  have hl : g.bs.length = 4096 := hR.ok.len
  cases hd : s.deny with
  | true =>
    have e0 : aheadE s = 190 := by rw [aheadE, hd]; rfl
    have ew : writeD s.d (aheadE s) f.n g.bs = (s.d, 190) := by rw [e0]; exact write_bad _ (by omega) _ _
    have e1 : (s.wrote f g.bs).d = s.d := by rw [St.wrote]; exact congrArg Prod.fst ew
    have e2 : wroteE s f g.bs = 190 := by rw [wroteE, ew]
    rw [e1, e2]
    exact ⟨hdd, fun _ _ => rfl, (fun h => by cases h), .inr (.inl ⟨rfl, hd⟩), by omega, ⟨rfl, rfl, fun n hn => List.mem_append_left _ hn, fun h => ⟨by rw [e1]; exact h, fun hA n => by
      obtain ⟨P, h1, h2⟩ := hA n
      refine ⟨P, by rw [e1]; exact h1, ?_⟩
      rcases h2 with h2 | h2
      · exact .inl h2
      · exact .inr (List.mem_append_left _ h2)⟩, (fun _ => by rw [e1])⟩, (fun h => by cases h), by omega⟩
  | false =>
    have e0 : aheadE s = 0 := by rw [aheadE, hd]; rfl
    have W := write_all hdd (n := f.n) (by omega) hl
    have ew : writeD s.d (aheadE s) f.n g.bs = writeD s.d 0 f.n g.bs := by rw [e0]
    have e1 : (s.wrote f g.bs).d = (writeD s.d 0 f.n g.bs).1 := by rw [St.wrote]; exact congrArg Prod.fst ew
    have e2 : wroteE s f g.bs = (writeD s.d 0 f.n g.bs).2 := by rw [wroteE, ew]
    rw [e1, e2]
    refine ⟨W.dd, W.out, W.all, ?_, W.len, ⟨rfl, rfl, fun n hn => List.mem_append_left _ hn, fun h => ?_, (fun h => by rw [hd] at h; cases h)⟩, W.low, W.grow⟩
    · rcases W.err with h | h
      · exact .inl h
      · refine .inr (.inr ⟨h, fun h2 => ?_⟩)
        have := (W.calm h2).1
        rw [this] at h; cases h
    · obtain ⟨h1, h2⟩ := W.calm h
      refine ⟨by rw [e1]; exact h2, fun hA n => ?_⟩
      by_cases e : n = f.n
      · subst e
        exact ⟨f.pg, ⟨g, hR, by rw [e1]; exact W.all h1⟩, .inr (List.mem_append_right _ (.head _))⟩
      · obtain ⟨P, ⟨g', h3, h4⟩, h5⟩ := hA n
        refine ⟨P, ⟨g', h3, by rw [e1, W.out n e]; exact h4⟩, ?_⟩
        rcases h5 with h5 | h5
        · exact .inl h5
        · exact .inr (List.mem_append_left _ h5)
theorem ah_same {s s' : St} (hd : s'.d = s.d) (ha : s'.asked = s.asked) (h : Ah s) : Ah s' := fun n => by
  rw [hd, ha]; exact h n
/-- what a frame that was made free leaves -/
theorem free_ok {C : Nat} {s s1 : St} {pg : Nat → AP} {pin : Nat → Nat} (h : Inv C s pg pin) {k : Nat} (hk : k < s1.fs.length) (hf : FreeOk s s1 k) :
    Core s1.d (s1.fs.eraseIdx k) pg pin ∧ DD s1.d ∧ s1.d.len 0 ≤ 8 * s.pages ∧ s1.pages = s.pages ∧ (∀ f ∈ s1.fs.eraseIdx k, f.n < s.pages ∧ f.pins ≤ C) ∧ s1.fs.length ≤ s.many ∧ s1.asked.length ≤ 100 * C + 1 ∧ (s1.hand = 0 ∨ s1.hand < s1.fs.length) ∧ Mv s s1 ∧ pinN pin < s.many ∧ (∀ n, (∀ f ∈ s.fs, f.n ≠ n) → ∀ f ∈ s1.fs.eraseIdx k, f.n ≠ n) := by
  rcases hf with ⟨hlt, rfl, F, rfl⟩ | ⟨hnl, fs1, h1, f, hs, hh1, hf, hp0, hcase⟩
  · have e : (s.fs ++ [F]).eraseIdx s.fs.length = s.fs := by rw [List.eraseIdx_append_of_length_le (Nat.le_refl _)]; simp
    have hpl := h.core.pinned_le
    refine ⟨by rw [e]; exact h.core, h.dd, h.len, rfl, fun f hf => ?_, by simp; omega, by have := h.ca; show s.asked.length ≤ _; omega, ?_, ⟨rfl, rfl, fun _ h => h, fun h => ⟨h, fun h => h⟩, fun _ => rfl⟩, by omega, fun n hn f hf => ?_⟩
    · rw [e] at hf; exact ⟨h.le f hf, h.cp f hf⟩
    · have := h.hand
      simp only [List.length_append, List.length_singleton]
      show s.hand = 0 ∨ s.hand < _
      omega
    · rw [e] at hf; exact hn f hf
  · have hC := h.core.same hs
    have hC1 := hC.perm (at_perm hf)
    have hlen := hs.len
    have hfl := h.fl
    have hlt := hC.pinned_lt (List.mem_of_getElem? hf) hp0
    have hsub : ∀ g ∈ fs1.eraseIdx k, ∃ f' ∈ s.fs, SameF f' g := fun g hg => by
      have hg := List.mem_of_mem_eraseIdx hg
      obtain ⟨j, hj, rfl⟩ := List.getElem_of_mem hg
      exact ⟨_, List.getElem_mem (by omega), hs.at_ j _ _ (List.getElem?_eq_getElem (by omega)) (List.getElem?_eq_getElem hj)⟩
    have hsm : ∀ g ∈ fs1.eraseIdx k, g.n < s.pages ∧ g.pins ≤ C := fun g hg => by
      obtain ⟨f', hf', e⟩ := hsub g hg
      rw [e.1, e.2.2.1]; exact ⟨h.le f' hf', h.cp f' hf'⟩
    have hno : ∀ n, (∀ f ∈ s.fs, f.n ≠ n) → ∀ f ∈ fs1.eraseIdx k, f.n ≠ n := fun n hn g hg => by
      obtain ⟨f', hf', e⟩ := hsub g hg
      rw [e.1]; exact hn f' hf'
    rcases hcase with ⟨hd, rfl⟩ | ⟨hd, g, hR, hE, rfl⟩
    · exact ⟨hC1.drop hp0 hd, h.dd, h.len, rfl, hsm, by show fs1.length ≤ _; omega, by have := h.ca; show s.asked.length ≤ _; omega, .inr hh1, ⟨rfl, rfl, fun _ h => h, fun h => ⟨h, fun h => h⟩, fun _ => rfl⟩, by omega, hno⟩
    · obtain ⟨w1, w2, w3, w4, w5, w6, w7, w8⟩ := wrote_step (s := { s with fs := fs1, hand := h1 }) h.dd (hC1.small f (.head _)) hR
      have hC2 := (hC1.wrote hR w2 (w3 hE)).drop (f := { f with dirty := false }) hp0 rfl
      have hfp : f.n < s.pages := by
        obtain ⟨j, hj⟩ : ∃ j, j = k := ⟨k, rfl⟩
        have hk2 := (List.getElem?_eq_some_iff.1 hf).1
        have e := hs.at_ k _ f (List.getElem?_eq_getElem (by omega)) hf
        rw [e.1]; exact h.le _ (List.getElem_mem _)
      have hle := h.len
      have w5 : (St.wrote { s with fs := fs1, hand := h1 } f g.bs).d.len 0 ≤ max (s.d.len 0) (f.n * 8 + 8) := w5
      refine ⟨hC2, w1, by omega, rfl, hsm, by show fs1.length ≤ _; omega, by have := h.ca; simp only [St.wrote, List.length_append, List.length_singleton]; omega, .inr hh1, ?_, by omega, hno⟩
      exact Mv.trans (b := { s with fs := fs1, hand := h1 }) ⟨rfl, rfl, fun _ h => h, fun h => ⟨h, fun h => h⟩, fun _ => rfl⟩ w6
theorem free_bad {C : Nat} {s s1 : St} {pg : Nat → AP} {pin : Nat → Nat} (h : Inv C s pg pin) {c : Int} (hc : c ≠ 0) (hf : FreeBad s s1 c) :
    Inv (C + 1) s1 pg pin ∧ Mv s s1 ∧ s1.pages = s.pages ∧ ((c = 120 ∧ s.many ≤ pinN pin) ∨ Trouble s c) := by
  obtain ⟨hnl, fs1, h1, hs, hh1, hcase⟩ := hf
  have hC := h.core.same hs
  have hlen := hs.len
  have hfl := h.fl
  have hat : ∀ g ∈ fs1, g.n < s.pages ∧ g.pins ≤ C := fun g hg => by
    obtain ⟨j, hj, rfl⟩ := List.getElem_of_mem hg
    have e := hs.at_ j _ _ (List.getElem?_eq_getElem (by omega)) (List.getElem?_eq_getElem hj)
    rw [e.1, e.2.2.1]
    exact ⟨h.le _ (List.getElem_mem _), h.cp _ (List.getElem_mem _)⟩
  rcases hcase with ⟨rfl, hall, rfl⟩ | ⟨k, f, g, hf, hp0, hd, hR, hE, rfl⟩
  · have := h.core.pinned_all hall
    exact ⟨⟨hC, h.dd, h.len, fun g hg => (hat g hg).1, h.pages, h.many, by show fs1.length ≤ s.many; omega, .inr hh1, fun g hg => Nat.le_succ_of_le (hat g hg).2, by have := h.ca; show s.asked.length ≤ _; omega⟩, ⟨rfl, rfl, fun _ h => h, fun h => ⟨h, fun h => h⟩, fun _ => rfl⟩, rfl, .inl ⟨rfl, by omega⟩⟩
  · have hC1 := hC.perm (at_perm hf)
    obtain ⟨w1, w2, w3, w4, w5, w6, w7, w8⟩ := wrote_step (s := { s with fs := fs1, hand := h1 }) h.dd (hC1.small f (.head _)) hR
    have hC2 := (hC1.torn hd w2).perm (at_perm hf).symm
    have hfp := (hat f (List.mem_of_getElem? hf)).1
    have w5 : (St.wrote { s with fs := fs1, hand := h1 } f g.bs).d.len 0 ≤ max (s.d.len 0) (f.n * 8 + 8) := w5
    have hle := h.len
    refine ⟨⟨hC2, w1, by show _ ≤ 8 * s.pages; omega, fun g hg => (hat g hg).1, h.pages, h.many, by show fs1.length ≤ s.many; omega, .inr hh1, fun g hg => Nat.le_succ_of_le (hat g hg).2, by have := h.ca; simp only [St.wrote, List.length_append, List.length_singleton]; omega⟩, ?_, rfl, .inr ?_⟩
    · exact Mv.trans (b := { s with fs := fs1, hand := h1 }) ⟨rfl, rfl, fun _ h => h, fun h => ⟨h, fun h => h⟩, fun _ => rfl⟩ w6
    · have e : wroteE { s with fs := fs1, hand := h1 } f g.bs = c := hE
      rw [e] at w4
      rcases w4 with w4 | w4
      · exact absurd w4 hc
      · exact w4
end Go.Proofs.YtiagjabdfppgkaaGreat
