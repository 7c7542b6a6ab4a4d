/- Association lists whose keys are apart: alike but for the order. -/
import Derived.Test.YtiagjabdfppgkaaGreatMaps
import Derived.Test.YtiagjabdfppgkaaGreatCpy
set_option linter.unusedVariables false
set_option linter.unusedSimpArgs false
namespace Go.Vc
open Go
def KApart {K : Type} (al : List (K × Value)) : Prop := (al.map (·.1)).Nodup
theorem KApart.perm {K : Type} {al bl : List (K × Value)} (h : KApart al) (p : al.Perm bl) : KApart bl := (p.map _).nodup_iff.1 h
section
variable {K : Type} [DecidableEq K]
theorem aget_mem : ∀ {al : List (K × Value)}, KApart al → ∀ {k : K} {v : Value}, aget al k = some v ↔ (k, v) ∈ al
  | [], h, k, v => by simp [aget]
  | (x, u) :: r, h, k, v => by
    simp only [KApart, List.map_cons, List.nodup_cons] at h
    simp only [aget, List.mem_cons, Prod.mk.injEq]
    by_cases e : k = x
    · subst e
      rw [if_pos rfl]
      refine ⟨fun h2 => .inl ⟨rfl, (Option.some.inj h2).symm⟩, fun h2 => ?_⟩
      rcases h2 with ⟨_, rfl⟩ | h2
      · rfl
      · exact absurd (List.mem_map.2 ⟨_, h2, rfl⟩) h.1
    · rw [if_neg e, aget_mem (al := r) h.2]
      exact ⟨.inr, fun h2 => h2.elim (fun h3 => absurd h3.1 e) id⟩
theorem aget_none : ∀ {al : List (K × Value)} {k : K}, aget al k = none ↔ k ∉ al.map (·.1)
  | [], k => by simp [aget]
  | (x, u) :: r, k => by
    simp only [aget, List.map_cons, List.mem_cons, not_or]
    by_cases e : k = x
    · rw [if_pos e]; simp [e]
    · rw [if_neg e, aget_none (al := r)]; simp [e]
theorem aget_perm {al bl : List (K × Value)} (h : KApart al) (p : al.Perm bl) (k : K) : aget al k = aget bl k := by
  cases e : aget al k with
  | none => exact (aget_none.2 fun hm => aget_none.1 e ((p.map _).mem_iff.2 hm)).symm
  | some v => exact ((aget_mem (h.perm p)).2 (p.mem_iff.1 ((aget_mem h).1 e))).symm
def acut (al : List (K × Value)) (k : K) : List (K × Value) := al.filter fun p => !decide (p.1 = k)
theorem acut_none : ∀ {al : List (K × Value)} {k : K}, k ∉ al.map (·.1) → acut al k = al := by
  intro al k h
  refine List.filter_eq_self.2 fun p hp => ?_
  have : p.1 ≠ k := fun e => h (List.mem_map.2 ⟨p, hp, e⟩)
  simp [this]
theorem adel_cut : ∀ {al : List (K × Value)}, KApart al → ∀ (k : K), adel al k = acut al k
  | [], h, k => rfl
  | (x, u) :: r, h, k => by
    simp only [KApart, List.map_cons, List.nodup_cons] at h
    simp only [adel, acut, List.filter_cons]
    by_cases e : k = x
    · subst e
      rw [if_pos rfl]
      simp only [decide_true, Bool.not_true, Bool.false_eq_true, if_false]
      exact (acut_none h.1).symm
    · have e' : x ≠ k := fun h => e h.symm
      rw [if_neg e]
      simp only [e', decide_false, Bool.not_false, if_true, adel_cut (al := r) h.2 k, acut]
theorem aput_perm : ∀ {al : List (K × Value)}, KApart al → ∀ (k : K) (v : Value), (aput al k v).Perm ((k, v) :: acut al k)
  | [], h, k, v => .refl _
  | (x, u) :: r, h, k, v => by
    simp only [KApart, List.map_cons, List.nodup_cons] at h
    simp only [aput, acut, List.filter_cons]
    by_cases e : k = x
    · subst e
      rw [if_pos rfl]
      simp only [decide_true, Bool.not_true, Bool.false_eq_true, if_false]
      have := acut_none h.1
      rw [acut] at this
      rw [this]
    · have e' : x ≠ k := fun h => e h.symm
      rw [if_neg e]
      simp only [e', decide_false, Bool.not_false, if_true]
      exact ((aput_perm (al := r) h.2 k v).cons _).trans (.swap _ _ _)
theorem acut_perm {al bl : List (K × Value)} (p : al.Perm bl) (k : K) : (acut al k).Perm (acut bl k) := p.filter _
end

/-! ### Parts of a world that stand by themselves -/
structure Std (w : World) (L : List Asn) : Prop where
  ok : ∀ a ∈ L, a.ok w
  sep : L.Pairwise fun a b => ∀ k ∈ a.foot, k ∉ b.foot
def feet (L : List Asn) : List Nat := L.flatMap Asn.foot
theorem mem_feet {L : List Asn} {k : Nat} : k ∈ feet L ↔ ∃ a ∈ L, k ∈ a.foot := by simp [feet]
section
variable {B : List Nat} {w0 w w' : World} {L L1 L2 M R : List Asn}
theorem Hp.startL (h : Std w L) : Hp (feet L) w w L := ⟨Chg.refl _ _, h.ok, fun a ha k hk => .inl (mem_feet.2 ⟨a, ha, hk⟩), h.sep⟩
theorem Hp.std (H : Hp B w0 w L) : Std w L := ⟨H.ok, H.sep⟩
theorem Hp.std1 (H : Hp B w0 w (L1 ++ L2)) : Std w L1 := H.takeL.std
theorem Hp.useL (H : Hp B w0 w (L1 ++ L2)) (H' : Hp (feet L1) w w' M) : Hp B w0 w' (M ++ L2) := Hp.use H H' fun k hk => mem_feet.1 hk
theorem Hp.useAll (H : Hp B w0 w L) (H' : Hp (feet L) w w' M) : Hp B w0 w' M := by
  have h : Hp B w0 w (L ++ []) := by rw [List.append_nil]; exact H
  have := h.useL H'
  rwa [List.append_nil] at this
theorem feet_perm (h : L.Perm M) {k : Nat} (hk : k ∈ feet L) : k ∈ feet M := by
  obtain ⟨a, ha, h2⟩ := mem_feet.1 hk
  exact mem_feet.2 ⟨a, h.mem_iff.1 ha, h2⟩
theorem Hp.moreB {S : List Nat} (H : Hp B w0 w L) (h : ∀ k ∈ B, k ∈ S) : Hp S w0 w L := ⟨H.chg.more h, H.ok, fun a ha k hk => (H.own a ha k hk).imp (h k) id, H.sep⟩
theorem Std.perm (h : Std w L) (p : L.Perm M) : Std w M := ⟨fun a ha => h.ok a (p.mem_iff.2 ha), (p.pairwise_iff fun h1 k hk hk' => h1 k hk' hk).1 h.sep⟩
theorem Std.take (h : Std w (L1 ++ L2)) : Std w L1 := ⟨fun a ha => h.ok a (List.mem_append_left _ ha), (List.pairwise_append.1 h.sep).1⟩
theorem Std.eqw (h : Std w L) (e : Eqw w w') : Std w' L := ((Hp.startL h).go e).std
theorem Hp.feetP (H : Hp (feet L) w0 w R) (p : L.Perm M) : Hp (feet M) w0 w R := H.moreB fun k hk => feet_perm p hk
end
end Go.Vc
