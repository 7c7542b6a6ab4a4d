/- Vault: plain laws of names, of room, of what is kept. -/
import Derived.Test.YtnmlkecmokhhhaaUv
set_option linter.unusedVariables false
set_option linter.unusedSimpArgs false
set_option maxRecDepth 100000
namespace Go.Proofs.Ytnmlkecmokhhhaa
open Go Go.Vc Go.Vault

theorem nget_without (n m : ByteArray) : ∀ l : List Nm, nget (without l n) m = if m = n then none else nget l m
  | [] => by simp [without, nget]
  | p :: r => by
    have ih := nget_without n m r
    by_cases h : p.name = n
    · have e : without (p :: r) n = without r n := by simp [without, h]
      rw [e, ih, nget]
      by_cases hm : m = n
      · rw [if_pos hm, if_pos hm]
      · rw [if_neg hm, if_neg hm, if_neg (fun h2 => hm (h2.symm.trans h))]
    · have e : without (p :: r) n = p :: without r n := by simp [without, h]
      rw [e, nget, nget, ih]
      by_cases hm : m = n
      · rw [if_pos hm, if_pos hm, if_neg (fun h2 => h (h2.trans hm))]
      · rw [if_neg hm, if_neg hm]
theorem nget_ins (n : Nm) (m : ByteArray) : ∀ l : List Nm, (∀ p ∈ l, p.name ≠ n.name) → nget (ins n l) m = if m = n.name then some n.file else nget l m
  | [], _ => by
    simp only [ins, nget]
    by_cases h : m = n.name
    · rw [if_pos h, if_pos h.symm]
    · rw [if_neg h, if_neg (fun h2 => h h2.symm)]
  | p :: r, h => by
    have ih := nget_ins n m r fun q hq => h q (.tail _ hq)
    have hp := h p (.head _)
    simp only [ins]
    split
    · rw [nget, nget, ih]
      by_cases hm : m = n.name
      · rw [if_neg (fun h2 => hp (h2.trans hm)), if_pos hm, if_pos hm]
      · rw [if_neg hm, if_neg hm]
    · rw [nget]
      by_cases hm : m = n.name
      · rw [if_pos hm, if_pos hm.symm]
      · rw [if_neg hm, if_neg (fun h2 => hm h2.symm)]
theorem nget_with (l : List Nm) (n : Nm) (m : ByteArray) : nget (with_ l n) m = if m = n.name then some n.file else nget l m := by
  rw [with_, nget_ins _ _ _ fun p hp => by simpa using (List.mem_filter.1 hp).2, nget_without]
  by_cases h : m = n.name
  · rw [if_pos h, if_pos h]
  · rw [if_neg h, if_neg h, if_neg h]
theorem mem_without {l : List Nm} {n : ByteArray} {p : Nm} : p ∈ without l n ↔ p ∈ l ∧ p.name ≠ n := by simp [without, List.mem_filter]
theorem mem_with {l : List Nm} {n p : Nm} (h : p ∈ with_ l n) : p = n ∨ (p ∈ l ∧ p.name ≠ n.name) := by
  rcases List.mem_cons.1 ((with_perm l n).mem_iff.1 h) with h | h
  · exact .inl h
  · exact .inr (mem_without.1 h)
theorem without_perm : ∀ {l : List Nm} {p : Nm}, Rising l → p ∈ l → l.Perm (p :: without l p.name)
  | q :: r, p, h, hp => by
    have h1 := List.pairwise_cons.1 h
    rcases List.mem_cons.1 hp with rfl | hp
    · have e : without (p :: r) p.name = r := by
        have : without r p.name = r := List.filter_eq_self.2 fun q hq => by
          have := ltN_ne (h1.1 q hq)
          simp [this.symm]
        simp [without] at this ⊢
        exact this
      rw [e]
    · have hne : q.name ≠ p.name := ltN_ne (h1.1 p hp)
      have e : without (q :: r) p.name = q :: without r p.name := by simp [without, hne]
      rw [e]
      exact ((without_perm h1.2 hp).cons q).trans (.swap _ _ _)

/-! ### Room -/
def usedOf (d : Dk) (l : List Nm) : Nat := (l.map fun p => d.len p.file).sum
theorem usedOf_perm {d : Dk} {l m : List Nm} (h : l.Perm m) : usedOf d l = usedOf d m := sum_perm (h.map _)
theorem usedOf_sub {d : Dk} {l m : List Nm} (h : l.Sublist m) : usedOf d l ≤ usedOf d m := by
  induction h with
  | slnil => exact Nat.le_refl _
  | cons a _ ih => simp only [usedOf, List.map_cons, List.sum_cons] at ih ⊢; omega
  | cons_cons a _ ih => simp only [usedOf, List.map_cons, List.sum_cons] at ih ⊢; omega
def Once (l : List Nm) : Prop := (l.map (·.file)).Nodup
structure Roomy (d : Dk) : Prop where
  used : d.used ≤ d.room
  once : Once d.names
theorem once_sub {l m : List Nm} (h : l.Sublist m) (ho : Once m) : Once l := ho.sublist (h.map _)
theorem once_perm {l m : List Nm} (h : l.Perm m) (ho : Once l) : Once m := (h.map _).nodup_iff.1 ho
theorem Roomy.flags {d : Dk} (h : Roomy d) (a b : Nat) (c : Bool) : Roomy { d with armed := a, denied := b, dead := c } := ⟨h.used, h.once⟩
theorem Roomy.dies {d : Dk} (h : Roomy d) : Roomy d.dies := by
  obtain ⟨a, b, e⟩ := dies_eq d
  rw [e]; exact ⟨h.used, h.once⟩
theorem len_set {d : Dk} {k : Nat} {f : Fl} (hk : k < d.files.length) (j : Nat) : (d.put k f).len j = if j = k then f.now.length else d.len j := by
  simp only [Dk.len, Dk.file, Dk.put, List.getD_eq_getElem?_getD, List.getElem?_set]
  by_cases h : j = k
  · subst h; simp [hk]
  · rw [if_neg (fun e => h e.symm), if_neg h]
theorem Roomy.put {d : Dk} (h : Roomy d) {k : Nat} {f : Fl} (hk : k < d.files.length) (hf : f.now.length ≤ d.len k ∨ (f.now.length ≤ d.len k + 1 ∧ d.used < d.room)) : Roomy (d.put k f) := by
  refine ⟨?_, h.once⟩
  show usedOf (d.put k f) d.names ≤ d.room
  have h1 : ∀ l : List Nm, Once l → usedOf (d.put k f) l ≤ usedOf d l + (if f.now.length ≤ d.len k then 0 else 1) ∧ (k ∉ l.map (·.file) → usedOf (d.put k f) l = usedOf d l) := by
    intro l
    induction l with
    | nil => intro _; exact ⟨by simp [usedOf], fun _ => rfl⟩
    | cons p r ih =>
      intro ho
      have hn := List.nodup_cons.1 (show (p.file :: r.map (·.file)).Nodup from ho)
      obtain ⟨i1, i2⟩ := ih hn.2
      have e1 : usedOf (d.put k f) (p :: r) = (d.put k f).len p.file + usedOf (d.put k f) r := by simp [usedOf]
      have e2 : usedOf d (p :: r) = d.len p.file + usedOf d r := by simp [usedOf]
      rw [e1, e2, len_set hk]
      refine ⟨?_, fun hm => ?_⟩
      · by_cases hp : p.file = k
        · rw [if_pos hp, i2 (by rw [← hp]; exact hn.1), hp]
          split
          · omega
          · rcases hf with hf | hf <;> omega
        · rw [if_neg hp]; omega
      · simp only [List.map_cons, List.mem_cons, not_or] at hm
        rw [if_neg (fun e => hm.1 e.symm), i2 hm.2]
  have h2 := (h1 d.names h.once).1
  have h3 := h.used
  have h4 : usedOf d d.names = d.used := rfl
  split at h2
  · omega
  · rcases hf with hf | hf <;> omega
theorem doP_room {d : Dk} (hok : d.Ok) (h : Roomy d) (o : Op) (h9 : o.kind ≠ 9) : Roomy (doP d o).1 ∧ (doP d o).1.room = d.room := by
  have dr : ∀ q : Dk, q.dies.room = q.room := fun q => by obtain ⟨a, b, e⟩ := dies_eq q; rw [e]
  unfold doP
  split
  · unfold Dk.create
    split
    · exact ⟨h, rfl⟩
    · split
      · exact ⟨h, rfl⟩
      · refine ⟨Roomy.dies ⟨?_, ?_⟩, by rw [dr]; rfl⟩
        · rw [show ∀ q c, (Dk.change q c).used = usedOf q (c.on q.names) from fun q c => by rw [Dk.used, Dk.change_names]; rfl]
          show usedOf { d with files := d.files ++ [Fl.none] } (with_ d.names ⟨o.name, d.files.length⟩) ≤ d.room
          rw [usedOf_perm (with_perm _ _)]
          have e1 : ∀ l : List Nm, usedOf { d with files := d.files ++ [Fl.none] } l = usedOf d l := fun l => by
            unfold usedOf
            congr 1
            apply List.map_congr_left
            intro p hp
            simp only [Dk.len, Dk.file, List.getD_eq_getElem?_getD, List.getElem?_append]
            split
            · rfl
            · rename_i hlt
              rw [List.getElem?_eq_none (by omega : d.files.length ≤ p.file)]
              by_cases he : p.file - d.files.length = 0
              · rw [he]; rfl
              · rw [List.getElem?_eq_none (by simp; omega)]
          rw [e1]
          have e2 : d.len d.files.length = 0 := by simp [Dk.len, Dk.file, Fl.none]
          have e3 := usedOf_sub (d := d) (List.filter_sublist (p := fun p : Nm => !decide (p.name = o.name)) (l := d.names))
          have e4 : usedOf d (⟨o.name, d.files.length⟩ :: without d.names o.name) = d.len d.files.length + usedOf d (without d.names o.name) := by simp [usedOf]
          rw [e4, e2]
          have := h.used
          have e5 : usedOf d d.names = d.used := rfl
          show 0 + usedOf d (without d.names o.name) ≤ d.room
          simp only [without]; omega
        · rw [Dk.change_names]
          show Once (with_ d.names ⟨o.name, d.files.length⟩)
          refine once_perm (with_perm _ _).symm ?_
          refine List.nodup_cons.2 ⟨fun hm => ?_, once_sub (List.filter_sublist ..) h.once⟩
          obtain ⟨p, hp, hp2⟩ := List.mem_map.1 hm
          have := hok.file p (mem_without.1 hp).1
          simp only at hp2; omega
  · split
    · unfold Dk.write
      split
      · exact ⟨h, rfl⟩
      · split
        · exact ⟨h, rfl⟩
        · rename_i k hk
          have hkl := hok.find hk
          split
          · exact ⟨h, rfl⟩
          · rename_i hpl
            split
            · exact ⟨h, rfl⟩
            · rename_i hfu
              split
              · exact ⟨h.flags d.armed (d.denied - 1) d.dead, rfl⟩
              · refine ⟨Roomy.dies (Roomy.put (h.flags d.armed (d.denied - 1) d.dead) hkl ?_), by rw [dr]; rfl⟩
                show ((d.file k).write o.n.toNat o.b).now.length ≤ d.len k ∨ (((d.file k).write o.n.toNat o.b).now.length ≤ d.len k + 1 ∧ d.used < d.room)
                simp only [Fl.write, Dk.len] at hpl hfu ⊢
                split
                · rename_i he
                  right
                  simp only [List.length_append, List.length_singleton]
                  refine ⟨by omega, ?_⟩
                  have : o.n = ((d.file k).now.length : Int) := by omega
                  omega
                · left; simp
    · split
      · exact ⟨h, rfl⟩
      · split
        · unfold Dk.sync
          split
          · exact ⟨h, rfl⟩
          · split
            · exact ⟨h, rfl⟩
            · rename_i k hk
              have hkl := hok.find hk
              split
              · exact ⟨h.flags d.armed (d.denied - 1) d.dead, rfl⟩
              · dsimp only
                have hd : Roomy d.denies.dies := Roomy.dies (h.flags d.armed (d.denied - 1) d.dead)
                split
                · exact ⟨hd, by rw [dr]; rfl⟩
                · refine ⟨hd.put (by rw [dies_fs]; exact hkl) (.inl ?_), by show d.denies.dies.room = _; rw [dr]; rfl⟩
                  have : d.denies.dies.len k = (d.file k).now.length := by
                    unfold Dk.len; rw [dies_file]; rfl
                  rw [this]; exact Nat.le_refl _
        · split
          · unfold Dk.rename
            split
            · exact ⟨h, rfl⟩
            · split
              · exact ⟨h, rfl⟩
              · rename_i k hk
                split
                · exact ⟨h, rfl⟩
                · split
                  · exact ⟨h, rfl⟩
                  · obtain ⟨p, hp, hpn, hpf⟩ := nget_mem hk
                    have hperm := without_perm hok.names hp
                    rw [hpn] at hperm
                    have hsub : (without (without d.names o.name) o.to).Sublist (without d.names o.name) := List.filter_sublist ..
                    refine ⟨Roomy.dies ⟨?_, ?_⟩, by rw [dr]; rfl⟩
                    · rw [show ∀ q c, (Dk.change q c).used = usedOf q (c.on q.names) from fun q c => by rw [Dk.used, Dk.change_names]; rfl]
                      show usedOf d (with_ (without d.names o.name) ⟨o.to, k⟩) ≤ d.room
                      rw [usedOf_perm (with_perm _ _)]
                      have e1 := usedOf_perm (d := d) hperm
                      have e2 := usedOf_sub (d := d) hsub
                      have e3 : usedOf d (p :: without d.names o.name) = d.len p.file + usedOf d (without d.names o.name) := by simp [usedOf]
                      have e4 : usedOf d (⟨o.to, k⟩ :: without (without d.names o.name) o.to) = d.len k + usedOf d (without (without d.names o.name) o.to) := by simp [usedOf]
                      have e5 : usedOf d d.names = d.used := rfl
                      rw [hpf] at e3
                      have := h.used
                      show usedOf d (⟨o.to, k⟩ :: without (without d.names o.name) o.to) ≤ d.room
                      omega
                    · rw [Dk.change_names]
                      show Once (with_ (without d.names o.name) ⟨o.to, k⟩)
                      refine once_perm (with_perm _ _).symm ?_
                      have ho := once_perm hperm h.once
                      have hn := List.nodup_cons.1 (show (p.file :: (without d.names o.name).map (·.file)).Nodup from ho)
                      rw [hpf] at hn
                      exact List.nodup_cons.2 ⟨fun hm => hn.1 ((hsub.map _).subset hm), once_sub hsub hn.2⟩
          · split
            · unfold Dk.remove
              split
              · exact ⟨h, rfl⟩
              · split
                · exact ⟨h, rfl⟩
                · refine ⟨Roomy.dies ⟨?_, ?_⟩, by rw [dr]; rfl⟩
                  · rw [show ∀ q c, (Dk.change q c).used = usedOf q (c.on q.names) from fun q c => by rw [Dk.used, Dk.change_names]; rfl]
                    have e2 := usedOf_sub (d := d) (List.filter_sublist (p := fun p : Nm => !decide (p.name = o.name)) (l := d.names))
                    have e5 : usedOf d d.names = d.used := rfl
                    have := h.used
                    show usedOf d (without d.names o.name) ≤ d.room
                    simp only [without]; omega
                  · rw [Dk.change_names]
                    exact once_sub (List.filter_sublist ..) h.once
            · split
              · unfold Dk.syncNames
                split
                · exact ⟨h, rfl⟩
                · dsimp only
                  have hd : Roomy d.dies := h.dies
                  split
                  · exact ⟨hd, dr d⟩
                  · refine ⟨⟨?_, ?_⟩, dr d⟩
                    · have h1 := hd.used
                      have h2 : d.dies.used = usedOf d.dies d.names := by rw [Dk.used, dies_names]; rfl
                      show usedOf d.dies (ons d.names []) ≤ d.dies.room
                      show usedOf d.dies d.names ≤ d.dies.room
                      omega
                    · exact h.once
              · split
                · exact ⟨h.flags _ d.denied d.dead, rfl⟩
                · split
                  · exact ⟨h.flags d.armed _ d.dead, rfl⟩
                  · exact ⟨h, rfl⟩
theorem dies_room (q : Dk) : q.dies.room = q.room := by obtain ⟨a, b, e⟩ := dies_eq q; rw [e]
theorem doP_rm (d : Dk) (o : Op) : (doP d o).1.room = d.room := by
  unfold doP Dk.create Dk.write Dk.sync Dk.rename Dk.remove Dk.syncNames
  repeat' split
  all_goals (try dsimp only)
  all_goals (repeat' split)
  all_goals first | rfl | (simp only [dies_room]; rfl) | (show (Dk.dies _).room = _; rw [dies_room]; done) | (show (Dk.dies _).room = _; rw [dies_room]; rfl)
theorem playD_rm (room : Int) : ∀ (os : List (OW × Op)) (d : Dk), (playD d os).room = d.room
  | [], d => rfl
  | p :: r, d => by
    show (playD (doP d p.2).1 r).room = _
    rw [playD_rm room r, doP_rm]
theorem new_room' (room : Int) : Roomy (Dk.new room) ∧ ((Dk.new room).room : Int) ≤ max room 0 := ⟨⟨by simp [Dk.new, Dk.used, Dk.names, ons], by simp [Dk.new, Once, Dk.names, ons]⟩, by simp only [Dk.new]; omega⟩
end Go.Proofs.Ytnmlkecmokhhhaa
