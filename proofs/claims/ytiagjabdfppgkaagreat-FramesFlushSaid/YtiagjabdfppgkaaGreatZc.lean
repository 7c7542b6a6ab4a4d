/- Slate: what a page stands for; plain lemmas. -/
import Derived.Test.YtiagjabdfppgkaaGreatZb
import Derived.Test.YtiagjabdfppgkaaGreatCpy
set_option linter.unusedVariables false
set_option linter.unusedSimpArgs false
namespace Go.Proofs.YtiagjabdfppgkaaGreat.Sl
open Go Go.Vc

abbrev Recs := List (Nat × List UInt8)
def tot (L : Recs) : Nat := (L.map (·.2.length)).sum
def Laid (d : List (Nat × Nat)) : Nat → Recs → Prop
  | a, [] => a = 4096
  | a, (k, s) :: r => d[k]? = some (a, s.length) ∧ Laid d (a + s.length) r
structure Rep (g : Pg) (L : Recs) (stamp : Nat) : Prop where
  ok : g.Ok
  st : g.st = be (stamp : Int) 8
  stamp : stamp ≤ 4611686018427387904
  hdr : g.hdr = g.many
  sorted : L.Pairwise fun x y => x.1 < y.1
  below : ∀ p ∈ L, p.1 < g.many
  last : g.many = 0 ∨ ∃ s, (g.many - 1, s) ∈ L
  free : ∀ k, k < g.many → (∀ s, (k, s) ∉ L) → g.dir.getD k (0, 0) = (0, 0)
  ord : ∃ ord : Recs, ord.Perm L ∧ Laid g.dir g.low ord ∧ g.data.drop (g.low - 490) = ord.flatMap (·.2)
  small : tot L ≤ 3600
  low : g.low + tot L = 4096

theorem tot_perm {x y : Recs} (h : x.Perm y) : tot x = tot y := (h.map _).sum_nat
theorem tot_append (x y : Recs) : tot (x ++ y) = tot x + tot y := by simp [tot]
theorem tot_cons (p : Nat × List UInt8) (y : Recs) : tot (p :: y) = p.2.length + tot y := by simp [tot]
theorem flat_len (x : Recs) : (x.flatMap (·.2)).length = tot x := by
  induction x with
  | nil => rfl
  | cons p r ih => rw [List.flatMap_cons, List.length_append, ih, tot_cons]
theorem laid_split {d : List (Nat × Nat)} : ∀ (pre : Recs) {a k : Nat} {s : List UInt8} {post : Recs}, Laid d a (pre ++ (k, s) :: post) → d[k]? = some (a + tot pre, s.length) ∧ Laid d (a + tot pre + s.length) post
  | [], a, k, s, post, h => by simpa [tot, Laid] using h
  | (j, t) :: pre, a, k, s, post, h => by
    obtain ⟨_, h2⟩ := h
    have := laid_split pre h2
    rw [tot_cons, show a + (t.length + tot pre) = a + t.length + tot pre by omega]
    exact this
theorem laid_end {d : List (Nat × Nat)} : ∀ (x : Recs) {a : Nat}, Laid d a x → a + tot x = 4096
  | [], a, h => by simpa [tot, Laid] using h
  | (k, s) :: r, a, h => by
    have := laid_end r h.2
    rw [tot_cons]; simp only; omega
/-- the same records, laid from elsewhere by another directory -/
theorem laid_to {d d' : List (Nat × Nat)} : ∀ (x : Recs) {a a' : Nat}, Laid d a x → (∀ k s, (k, s) ∈ x → ∀ at_, d[k]? = some (at_, s.length) → a ≤ at_ → d'[k]? = some (at_ - a + a', s.length)) → a' + tot x = 4096 → Laid d' a' x
  | [], a, a', h, hd, he => by simpa [tot, Laid] using he
  | (k, s) :: r, a, a', h, hd, he => by
    obtain ⟨h1, h2⟩ := h
    rw [tot_cons] at he
    refine ⟨by have := hd k s (.head _) a h1 (Nat.le_refl _); simpa using this, laid_to r h2 (fun j t hj at_ h3 h4 => ?_) (by simp only at he; omega)⟩
    have := hd j t (.tail _ hj) at_ h3 (by omega)
    rw [this]; congr 2; omega

theorem sorted_nodup {L : Recs} (h : L.Pairwise fun x y => x.1 < y.1) : (L.map (·.1)).Nodup := by
  rw [List.nodup_iff_pairwise_ne, List.pairwise_map]
  exact h.imp fun h => by omega
theorem one_key {L : Recs} (h : L.Pairwise fun x y => x.1 < y.1) {k : Nat} {s t : List UInt8} (h1 : (k, s) ∈ L) (h2 : (k, t) ∈ L) : s = t := by
  induction L with
  | nil => cases h1
  | cons p r ih =>
    obtain ⟨ha, hb⟩ := List.pairwise_cons.1 h
    rcases List.mem_cons.1 h1 with e1 | m1 <;> rcases List.mem_cons.1 h2 with e2 | m2
    · rw [← e1] at e2; exact (Prod.mk.inj e2).2.symm
    · have := ha _ m2; rw [← e1] at this; simp at this
    · have := ha _ m1; rw [← e2] at this; simp at this
    · exact ih hb m1 m2
/-- strictly rising lists of the same members are one -/
theorem rising_eq : ∀ {x y : List Nat}, x.Pairwise (· < ·) → y.Pairwise (· < ·) → (∀ k, k ∈ x ↔ k ∈ y) → x = y
  | [], [], _, _, _ => rfl
  | [], b :: y, _, _, h => by have := (h b).2 (.head _); cases this
  | a :: x, [], _, _, h => by have := (h a).1 (.head _); cases this
  | a :: x, b :: y, hx, hy, h => by
    obtain ⟨hx1, hx2⟩ := List.pairwise_cons.1 hx
    obtain ⟨hy1, hy2⟩ := List.pairwise_cons.1 hy
    have hab : a = b := by
      rcases List.mem_cons.1 ((h a).1 (.head _)) with e | m
      · exact e
      · rcases List.mem_cons.1 ((h b).2 (.head _)) with e | m'
        · exact e.symm
        · have := hy1 a m; have := hx1 b m'; omega
    subst hab
    congr 1
    refine rising_eq hx2 hy2 fun k => ⟨fun hk => ?_, fun hk => ?_⟩
    · rcases List.mem_cons.1 ((h k).1 (.tail _ hk)) with e | m
      · subst e; have := hx1 k hk; omega
      · exact m
    · rcases List.mem_cons.1 ((h k).2 (.tail _ hk)) with e | m
      · subst e; have := hy1 k hk; omega
      · exact m

section
variable {g : Pg} {L : Recs} {stamp : Nat}
theorem Rep.entry (h : Rep g L stamp) {k : Nat} {s : List UInt8} (hm : (k, s) ∈ L) : ∃ pre post : Recs, (pre ++ (k, s) :: post).Perm L ∧ Laid g.dir g.low (pre ++ (k, s) :: post) ∧ g.data.drop (g.low - 490) = (pre ++ (k, s) :: post).flatMap (·.2) ∧ g.dir[k]? = some (g.low + tot pre, s.length) ∧ g.low + tot pre + s.length + tot post = 4096 ∧ 496 ≤ g.low := by
  obtain ⟨ord, h1, h2, h3⟩ := h.ord
  obtain ⟨pre, post, e⟩ := List.append_of_mem (h1.mem_iff.2 hm)
  subst e
  have h4 := laid_split pre h2
  have h5 := laid_end post h4.2
  have := h.low
  have := h.small
  exact ⟨pre, post, h1, h2, h3, h4.1, h5, by omega⟩
theorem getD_of {d : List (Nat × Nat)} {k : Nat} {p : Nat × Nat} (h : d[k]? = some p) : d.getD k (0, 0) = p := by rw [List.getD_eq_getElem?_getD, h]; rfl
theorem Rep.at_ (h : Rep g L stamp) {k : Nat} {s : List UInt8} (hm : (k, s) ∈ L) : 496 ≤ atOf g k ∧ lenOf g k = s.length ∧ atOf g k + lenOf g k ≤ 4096 ∧ recB g k = s := by
  obtain ⟨pre, post, h1, h2, h3, h4, h5, h6⟩ := h.entry hm
  have e := getD_of h4
  have ea : atOf g k = g.low + tot pre := by rw [atOf, e]
  have el : lenOf g k = s.length := by rw [lenOf, e]
  refine ⟨by omega, el, by omega, ?_⟩
  have hb : g.bs.drop 490 = g.data := by
    have : g.bs = (g.st ++ (be g.hdr 2 ++ dirB g.dir)) ++ g.data := by simp [Pg.bs]
    rw [this]
    exact drop_left _ _ _ (by simp only [List.length_append, be_length, dirB_len, h.ok.st, h.ok.dir])
  have hlow := h.ok.low
  have : g.bs.drop (atOf g k) = (g.data.drop (g.low - 490)).drop (tot pre) := by
    have e5 : atOf g k = 490 + (g.low - 490) + tot pre := by
      rw [ea]; clear hb h4 e; omega
    rw [← hb, List.drop_drop, List.drop_drop, e5, Nat.add_assoc]
  rw [recB, this, h3, el, List.flatMap_append, List.flatMap_cons]
  rw [drop_left _ _ _ (flat_len pre)]
  exact take_left _ _ _ rfl
theorem Rep.mem_live (h : Rep g L stamp) {k : Nat} : (k < g.many ∧ 0 < atOf g k) ↔ ∃ s, (k, s) ∈ L := by
  constructor
  · rintro ⟨h1, h2⟩
    refine Classical.byContradiction fun hn => ?_
    have := h.free k h1 fun s hs => hn ⟨s, hs⟩
    rw [atOf, this] at h2; simp at h2
  · rintro ⟨s, hs⟩
    have := h.at_ hs
    exact ⟨h.below _ hs, by omega⟩
theorem Rep.live_eq (h : Rep g L stamp) : live g g.many = L.map (·.1) := by
  refine rising_eq ?_ ?_ fun k => ?_
  · exact List.pairwise_lt_range.filter _
  · rw [List.pairwise_map]; exact h.sorted
  · simp only [live, List.mem_filter, List.mem_range, decide_eq_true_eq, h.mem_live, List.mem_map]
    constructor
    · rintro ⟨s, hs⟩; exact ⟨_, hs, rfl⟩
    · rintro ⟨⟨k', s⟩, hs, rfl⟩; exact ⟨s, hs⟩
theorem Rep.total_eq (h : Rep g L stamp) : total g g.many = tot L := by
  rw [total, h.live_eq, tot, List.map_map]
  congr 1
  refine List.map_congr_left fun p hp => ?_
  exact (h.at_ (k := p.1) (s := p.2) hp).2.1
theorem Rep.fit (h : Rep g L stamp) (j : Nat) (hj : j < g.many) : atOf g j + lenOf g j ≤ 4096 := by
  by_cases hs : ∃ s, (j, s) ∈ L
  · obtain ⟨s, hs⟩ := hs; exact (h.at_ hs).2.2.1
  · have := h.free j hj fun s hm => hs ⟨s, hm⟩
    rw [atOf, lenOf, this]; simp
end

/-! ### 'drop' -/
def shiftD (d : List (Nat × Nat)) (a n k : Nat) : List (Nat × Nat) := d.mapIdx fun j p => if j < k ∧ 0 < p.1 ∧ p.1 ≤ a then (p.1 + n, p.2) else p
theorem shiftD_get (d : List (Nat × Nat)) (a n k j : Nat) : (shiftD d a n k)[j]? = d[j]?.map fun p => if j < k ∧ 0 < p.1 ∧ p.1 ≤ a then (p.1 + n, p.2) else p := by
  simp [shiftD]
theorem shiftD_zero (d : List (Nat × Nat)) (a n : Nat) : shiftD d a n 0 = d := by
  apply List.ext_getElem?
  intro j
  rw [shiftD_get]
  cases d[j]? <;> simp
theorem shiftD_len (d : List (Nat × Nat)) (a n k : Nat) : (shiftD d a n k).length = d.length := by simp [shiftD]
theorem shiftD_at (d : List (Nat × Nat)) (a n k : Nat) : (shiftD d a n k).getD k (0, 0) = d.getD k (0, 0) := by
  simp only [List.getD_eq_getElem?_getD, shiftD_get]
  cases d[k]? <;> simp
theorem shiftD_succ (d : List (Nat × Nat)) (a n k : Nat) : shiftD d a n (k + 1) = if 0 < (d.getD k (0, 0)).1 ∧ (d.getD k (0, 0)).1 ≤ a then (shiftD d a n k).set k ((d.getD k (0, 0)).1 + n, (d.getD k (0, 0)).2) else shiftD d a n k := by
  apply List.ext_getElem?
  intro j
  by_cases hj : j = k
  · subst hj
    by_cases hl : j < d.length
    · have e : d[j]? = some d[j] := List.getElem?_eq_getElem hl
      have eD : d.getD j (0, 0) = d[j] := getD_of e
      rw [eD]
      split
      · rename_i hc
        rw [List.getElem?_set_self (by rw [shiftD_len]; exact hl), shiftD_get, e]
        simp [hc.1, hc.2]
      · rename_i hc
        rw [shiftD_get, shiftD_get, e]
        simp only [Option.map_some]
        rw [if_neg (fun hh => hc hh.2), if_neg (by omega)]
    · have e : d[j]? = none := List.getElem?_eq_none (by omega)
      have eD : d.getD j (0, 0) = (0, 0) := by rw [List.getD_eq_getElem?_getD, e]; rfl
      rw [eD, if_neg (by simp), shiftD_get, shiftD_get, e]; rfl
  · have h1 : (shiftD d a n (k + 1))[j]? = (shiftD d a n k)[j]? := by
      rw [shiftD_get, shiftD_get]
      cases d[j]? with
      | none => rfl
      | some p =>
        simp only [Option.map_some, Option.some.injEq]
        by_cases hjk : j < k
        · simp [hjk, show j < k + 1 by omega]
        · simp [hjk, show ¬ j < k + 1 by omega]
    rw [h1]
    split
    · rw [List.getElem?_set_ne (Ne.symm hj)]
    · rfl

/-- a directory's greatest slot that is taken, and one -/
def trim (d : List (Nat × Nat)) : Nat → Nat
  | 0 => 0
  | m + 1 => if (d.getD m (0, 0)).1 = 0 then trim d m else m + 1
theorem trim_le (d : List (Nat × Nat)) : ∀ m, trim d m ≤ m
  | 0 => Nat.le_refl _
  | m + 1 => by
    rw [trim]
    split
    · exact Nat.le_succ_of_le (trim_le d m)
    · exact Nat.le_refl _
theorem trim_last (d : List (Nat × Nat)) : ∀ m, trim d m = 0 ∨ (d.getD (trim d m - 1) (0, 0)).1 ≠ 0
  | 0 => .inl rfl
  | m + 1 => by
    rw [trim]
    split
    · exact trim_last d m
    · right; simpa using ‹_›
theorem trim_above (d : List (Nat × Nat)) : ∀ m k, trim d m ≤ k → k < m → (d.getD k (0, 0)).1 = 0
  | 0, k, _, h => by omega
  | m + 1, k, h1, h2 => by
    rw [trim] at h1
    split at h1
    · by_cases hk : k = m
      · subst hk; assumption
      · exact trim_above d m k h1 (by omega)
    · omega
/-- the page behind a record's removal -/
def dropG (g : Pg) (k : Nat) : Pg :=
  let a := atOf g k
  let n := lenOf g k
  let d := (shiftD g.dir a n g.many).set k (0, 0)
  { g with dir := d, low := g.low + n, many := trim d g.many, hdr := trim d g.many
           data := g.data.take (g.low - 490) ++ (List.replicate n 0 ++ ((g.data.drop (g.low - 490)).take (a - g.low) ++ g.data.drop (a + n - 490))) }
theorem Rep.drop {g : Pg} {L : Recs} {stamp : Nat} (h : Rep g L stamp) {k : Nat} {s : List UInt8} (hm : (k, s) ∈ L) : Rep (dropG g k) (L.filter fun p => p.1 != k) stamp := by
  obtain ⟨pre, post, h1, h2, h3, h4, h5, h6⟩ := h.entry hm
  have hat := h.at_ hm
  have hkm := h.below _ hm
  have e := getD_of h4
  have ea : atOf g k = g.low + tot pre := by rw [atOf, e]
  have el : lenOf g k = s.length := by rw [lenOf, e]
  have hok := h.ok
  have hdl := hok.data
  have hml := hok.many
  have hnd : ((pre ++ (k, s) :: post).map (·.1)).Nodup := (h1.map _).nodup_iff.2 (sorted_nodup h.sorted)
  have hkpre : ∀ p ∈ pre, p.1 ≠ k := by
    intro p hp he
    rw [List.map_append, List.map_cons, List.nodup_append] at hnd
    exact hnd.2.2 _ (List.mem_map_of_mem hp) _ (.head _) he
  have hkpost : ∀ p ∈ post, p.1 ≠ k := by
    intro p hp he
    rw [List.map_append, List.map_cons, List.nodup_append] at hnd
    exact (List.nodup_cons.1 hnd.2.1).1 (by show k ∈ post.map (·.1); rw [← he]; exact List.mem_map_of_mem hp)
  have hfilt : (pre ++ (k, s) :: post).filter (fun p => p.1 != k) = pre ++ post := by
    rw [List.filter_append, List.filter_cons]
    have a1 : pre.filter (fun p => p.1 != k) = pre := List.filter_eq_self.2 fun p hp => by simpa using hkpre p hp
    have a2 : post.filter (fun p => p.1 != k) = post := List.filter_eq_self.2 fun p hp => by simpa using hkpost p hp
    simp [a1, a2]
  have hperm : (pre ++ post).Perm (L.filter fun p => p.1 != k) := by rw [← hfilt]; exact h1.filter _
  have htot : tot (pre ++ (k, s) :: post) = tot L := tot_perm h1
  rw [tot_append, tot_cons] at htot
  simp only at htot
  have hlow := h.low
  have hsmall := h.small
  -- the new directory
  have hd' : ∀ j t a, (j, t) ∈ pre ++ post → g.dir[j]? = some (a, t.length) → (dropG g k).dir[j]? = some (if 0 < a ∧ a ≤ atOf g k then a + s.length else a, t.length) := by
    intro j t a hj hd
    have hjk : j ≠ k := by
      rcases List.mem_append.1 hj with hj | hj
      · exact hkpre _ hj
      · exact hkpost _ hj
    have hjm : j < g.many := h.below (j, t) (h1.mem_iff.1 (by simp only [List.mem_append, List.mem_cons] at hj ⊢; rcases hj with hj | hj <;> simp [hj]))
    show ((shiftD g.dir (atOf g k) (lenOf g k) g.many).set k (0, 0))[j]? = _
    rw [List.getElem?_set_ne (Ne.symm hjk), shiftD_get, hd]
    simp only [Option.map_some, hjm, true_and, el]
    split <;> simp
  have hfree : ∀ j, j < g.many → (∀ t, (j, t) ∉ pre ++ post) → (dropG g k).dir.getD j (0, 0) = (0, 0) := by
    intro j hj hn
    show ((shiftD g.dir (atOf g k) (lenOf g k) g.many).set k (0, 0)).getD j (0, 0) = _
    rw [List.getD_eq_getElem?_getD]
    by_cases hjk : j = k
    · subst hjk
      rw [List.getElem?_set_self (by rw [shiftD_len, hok.dir]; omega)]; rfl
    · rw [List.getElem?_set_ne (Ne.symm hjk), shiftD_get]
      have := h.free j hj fun t ht => by
        rcases List.mem_append.1 (h1.mem_iff.2 ht) with h7 | h7
        · exact hn t (List.mem_append_left _ h7)
        · rcases List.mem_cons.1 h7 with h8 | h8
          · exact hjk (Prod.mk.inj h8).1
          · exact hn t (List.mem_append_right _ h8)
      rw [List.getD_eq_getElem?_getD] at this
      cases hd : g.dir[j]? with
      | none => rfl
      | some p => rw [hd] at this; simp only [Option.getD_some] at this; subst this; simp
  have hlaid : Laid (dropG g k).dir (dropG g k).low (pre ++ post) := by
    have hpo := (laid_split pre h2).2
    -- ahead of it
    have hpre : ∀ (x : Recs) (a : Nat) (y : Recs), Laid g.dir a (x ++ (k, s) :: y) → (∀ p ∈ x, p ∈ pre ++ post) → 0 < a → a + tot x = atOf g k → Laid (dropG g k).dir (a + s.length + tot x) y → Laid (dropG g k).dir (a + s.length) (x ++ y) := by
      intro x
      induction x with
      | nil => intro a y _ _ _ _ hy; simpa [tot] using hy
      | cons p x ih =>
        intro a y hl hx h0 hle hy
        obtain ⟨j, t⟩ := p
        obtain ⟨hl1, hl2⟩ := hl
        rw [tot_cons] at hle hy
        simp only at hle hy
        refine ⟨?_, ?_⟩
        · rw [hd' j t a (hx _ (.head _)) hl1, if_pos ⟨h0, by omega⟩]
        · rw [show a + s.length + t.length = a + t.length + s.length by omega]
          refine ih (a + t.length) y hl2 (fun q hq => hx q (.tail _ hq)) (by omega) (by omega) ?_
          rw [show a + t.length + s.length + tot x = a + s.length + (t.length + tot x) by omega]; exact hy
    have hpost : ∀ (y : Recs) (a : Nat), Laid g.dir a y → (∀ p ∈ y, p ∈ pre ++ post) → atOf g k + s.length ≤ a → Laid (dropG g k).dir a y := by
      intro y
      induction y with
      | nil => intro a hl _ _; exact hl
      | cons p y ih =>
        intro a hl hy hle
        obtain ⟨j, t⟩ := p
        obtain ⟨hl1, hl2⟩ := hl
        refine ⟨?_, ih _ hl2 (fun q hq => hy q (.tail _ hq)) (by omega)⟩
        rw [hd' j t a (hy _ (.head _)) hl1]
        split
        · rename_i hc
          have : s.length = 0 := by omega
          rw [this]; rfl
        · rfl
    have := hpre pre g.low post h2 (fun p hp => List.mem_append_left _ hp) (by omega) (by omega) (by
      rw [show g.low + s.length + tot pre = g.low + tot pre + s.length by omega]
      exact hpost post _ hpo (fun p hp => List.mem_append_right _ hp) (by omega))
    show Laid (dropG g k).dir (g.low + lenOf g k) (pre ++ post)
    rw [el]; exact this
  have hmany : (dropG g k).many = trim (dropG g k).dir g.many := rfl
  have hin : ∀ j t, (j, t) ∈ pre ++ post → j < g.many ∧ 0 < ((dropG g k).dir.getD j (0, 0)).1 := by
    intro j t hj
    have hjm : (j, t) ∈ L := h1.mem_iff.1 (by simp only [List.mem_append, List.mem_cons] at hj ⊢; rcases hj with hj | hj <;> simp [hj])
    obtain ⟨_, _, _, _, _, hj4, _, _⟩ := h.entry hjm
    refine ⟨h.below _ hjm, ?_⟩
    rw [getD_of (hd' j t _ hj hj4)]
    simp only
    split <;> omega
  have hpt : tot (pre ++ post) + s.length = tot L := by rw [tot_append]; omega
  have hpt2 : tot (L.filter fun p => p.1 != k) = tot (pre ++ post) := (tot_perm hperm).symm
  refine ⟨⟨hok.st, ?_, ?_, ?_, ?_, ?_, ?_⟩, h.st, h.stamp, rfl, h.sorted.filter _, ?_, ?_, ?_, ⟨pre ++ post, hperm, hlaid, ?_⟩, by omega, ?_⟩
  · have := trim_le (dropG g k).dir g.many
    show trim (dropG g k).dir g.many < 65536
    omega
  · show ((shiftD g.dir (atOf g k) (lenOf g k) g.many).set k (0, 0)).length = 120
    rw [List.length_set, shiftD_len, hok.dir]
  · show (g.data.take (g.low - 490) ++ (List.replicate (lenOf g k) 0 ++ ((g.data.drop (g.low - 490)).take (atOf g k - g.low) ++ g.data.drop (atOf g k + lenOf g k - 490)))).length = 3606
    simp only [List.length_append, List.length_take, List.length_replicate, List.length_drop, hdl]
    omega
  · have := trim_le (dropG g k).dir g.many
    show trim (dropG g k).dir g.many ≤ 120
    omega
  · intro p hp
    have hp' : p ∈ (shiftD g.dir (atOf g k) (lenOf g k) g.many).set k (0, 0) := hp
    rcases List.mem_or_eq_of_mem_set hp' with hp' | rfl
    · obtain ⟨j, hj⟩ := List.getElem?_of_mem hp'
      rw [shiftD_get] at hj
      cases hd : g.dir[j]? with
      | none => rw [hd] at hj; cases hj
      | some q =>
        rw [hd] at hj
        simp only [Option.map_some, Option.some.injEq] at hj
        have := hok.ent q (List.mem_of_getElem? hd)
        rw [← hj]
        split
        · simp only; omega
        · exact this
    · simp
  · show g.low + lenOf g k ≤ 4096
    omega
  · rintro ⟨j, t⟩ hp
    obtain ⟨hj1, hj2⟩ := hin j t (hperm.mem_iff.2 hp)
    rw [hmany]
    refine Classical.byContradiction fun hn => ?_
    have := trim_above (dropG g k).dir g.many j (by simp only at hn; omega) hj1
    omega
  · rw [hmany]
    rcases trim_last (dropG g k).dir g.many with h0 | h0
    · exact .inl h0
    · refine .inr ?_
      have htl := trim_le (dropG g k).dir g.many
      by_cases hz : trim (dropG g k).dir g.many = 0
      · exfalso
        apply h0
        rw [hz]
        by_cases hmz : 0 < g.many
        · exact trim_above (dropG g k).dir g.many 0 (by omega) hmz
        · omega
      refine Classical.byContradiction fun hn => h0 ?_
      rw [hfree _ (by omega) fun t ht => hn ⟨t, hperm.mem_iff.1 ht⟩]
  · intro j hj hn
    rw [hmany] at hj
    have htl := trim_le (dropG g k).dir g.many
    exact hfree j (by omega) fun t ht => hn t (hperm.mem_iff.1 ht)
  · show (g.data.take (g.low - 490) ++ (List.replicate (lenOf g k) 0 ++ ((g.data.drop (g.low - 490)).take (atOf g k - g.low) ++ g.data.drop (atOf g k + lenOf g k - 490)))).drop (g.low + lenOf g k - 490) = _
    rw [← List.append_assoc, drop_left _ _ _ (by simp only [List.length_append, List.length_take, List.length_replicate, hdl]; omega)]
    have e6 : (g.data.drop (g.low - 490)).take (atOf g k - g.low) = pre.flatMap (·.2) := by
      rw [h3, List.flatMap_append]
      exact take_left _ _ _ (by rw [flat_len]; omega)
    have e7 : g.data.drop (atOf g k + lenOf g k - 490) = post.flatMap (·.2) := by
      have : atOf g k + lenOf g k - 490 = (g.low - 490) + (tot pre + s.length) := by omega
      rw [this, ← List.drop_drop, h3, List.flatMap_append, List.flatMap_cons, ← List.append_assoc]
      exact drop_left _ _ _ (by rw [List.length_append, flat_len])
    rw [e6, e7, List.flatMap_append]
  · show g.low + lenOf g k + _ = 4096
    omega
end Go.Proofs.YtiagjabdfppgkaaGreat.Sl
