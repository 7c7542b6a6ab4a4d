/- The keys of a map, sorted; a map cloned: what these calls hand back. -/
import Derived.Test.YtiagjabdfppgkaaShelf
import Derived.StringKeys
set_option linter.unusedVariables false
set_option linter.unusedSimpArgs false
namespace Go.Proofs.Ytiagjabdfppgkaa
open Go Go.Vc Go.Proofs Go.RowKit Go.Maps Go.Sort Go.Shelf

theorem chg_below {w w' : World} (h : Below w.heap.size w w') : Chg [] w w' := ⟨h.os, h.tape, h.output, h.size, fun k hk _ => h.block k hk⟩
theorem hp_row {w w' : World} {e : TypeId} {v : Value} {n : Nat} {xs : List Value} (hb : Below w.heap.size w w') (h : w'.ownsRow w.heap.size e 1 v n xs) :
    ∃ a c, v = .slice a n c ∧ Hp [] w w' [.own e 1 a n c xs] := by
  obtain ⟨h1, ⟨rfl, rfl⟩ | ⟨g, cap, cur, rfl, h2, h3, h4, h5, h6, h7⟩⟩ := h
  · refine ⟨none, 0, rfl, chg_below hb, ?_, by simp [Asn.foot, blks], by simp⟩
    intro a ha
    rw [List.mem_singleton] at ha; subst ha
    exact ⟨h1, .inl ⟨rfl, rfl, rfl⟩⟩
  · refine ⟨some ⟨g, 0, none⟩, cap, rfl, chg_below hb, ?_, ?_, by simp⟩
    · intro a ha
      rw [List.mem_singleton] at ha; subst ha
      exact ⟨h1, .inr ⟨g, cur, (0, 0), rfl, Nat.zero_le _, h3, Thaw.zero _, h4, h5, h6, h7⟩⟩
    · intro a ha k hk
      rw [List.mem_singleton] at ha; subst ha
      simp [Asn.foot, blks] at hk; subst hk
      exact .inr h2


section
variable {K : Type} [DecidableEq K] {kt : KeyT K}
def RR : Value → Option (DataW Unit × List MemPlace) := fun _ => some (.nil, [])
theorem owns_of {P : Program} {k : TypeId} {w : World} {b : Nat} {al : List (K × Value)} (h : MapAt kt w b al) (hn : (al.map (·.1)).Nodup) (hl : al.length ≤ maxLen) (enc : K → Lit) (inj : ∀ x y, kt.enc x = kt.enc y → x = y)
    (hk : ∀ p ∈ al, keyOf P k (kt.enc p.1) = some (enc p.1)) :
    ∃ D : DataW Unit, w.ownsMap P k RR b al.length D ∧ Maps.size D = al.length ∧ ∃ l : List (Lit × DataW Unit), D = .map l ∧ l.Perm (al.map fun p => (enc p.1, DataW.nil)) := by
  obtain ⟨es, clock, h1, h2, h3, h4⟩ := h
  have hlen : es.size = al.length := by
    have := congrArg List.length h2
    simpa using this
  have hrd : ∀ x ∈ es.toList, ∃ p ∈ al, x.key = kt.enc p.1 := by
    intro x hx
    have : (x.key, x.val) ∈ al.map fun p => (kt.enc p.1, p.2) := h2 ▸ List.mem_map.2 ⟨x, hx, rfl⟩
    obtain ⟨p, hp, e⟩ := List.mem_map.1 this
    exact ⟨p, hp, (congrArg Prod.fst e).symm⟩
  have hmap : es.toList.map (WideElems.rg P k RR) = al.map fun p => (enc p.1, DataW.nil) := by
    have e1 : es.toList.map (·.key) = al.map fun p => kt.enc p.1 := by
      have := congrArg (List.map Prod.fst) h2
      simpa [List.map_map, Function.comp_def] using this
    have e2 : ∀ (l : List MapEntry) (al : List (K × Value)), (∀ p ∈ al, keyOf P k (kt.enc p.1) = some (enc p.1)) → l.map (·.key) = (al.map fun p => kt.enc p.1) → l.map (WideElems.rg P k RR) = al.map fun p => (enc p.1, (DataW.nil : DataW Unit)) := by
      intro l
      induction l with
      | nil => intro al _ h; cases al with
        | nil => rfl
        | cons _ _ => cases h
      | cons x r ih =>
        intro al hk h
        cases al with
        | nil => cases h
        | cons p al =>
          simp only [List.map_cons, List.cons.injEq] at h ⊢
          refine ⟨?_, ih al (fun p hp => hk p (.tail _ hp)) h.2⟩
          simp only [WideElems.rg, WideElems.rd, h.1, hk p (.head _)]
          rfl
    exact e2 _ _ hk e1
  refine ⟨_, ⟨es, clock, h1, ⟨by rw [hlen]; exact hl, ⟨h4, h3, ?_⟩, ?_⟩, by rw [hlen]; exact Nat.le_refl _, rfl⟩, ?_, _, rfl, ?_⟩
  · have e1 : es.toList.map (·.key) = (al.map (·.1)).map kt.enc := by
      have := congrArg (List.map Prod.fst) h2
      simpa [List.map_map, Function.comp_def] using this
    rw [e1]
    exact List.pairwise_map.2 (hn.imp fun hne he => hne (inj _ _ he))
  · intro x hx
    obtain ⟨p, hp, e⟩ := hrd x hx
    exact ⟨(enc p.1, .nil), by simp only [WideElems.rd, e, hk p hp]; rfl⟩
  · rw [hmap]
    have := (WideShapes.sorted_perm (al.map fun p => (enc p.1, (DataW.nil : DataW Unit)))).length_eq
    simpa [Maps.size] using this
  · rw [hmap]; exact WideShapes.sorted_perm _
end


/-- rising lists of the same elements are the same -/
theorem rise_eq {α : Type} {lt : α → α → Prop} (asym : ∀ a b, lt a b → lt b a → False) {l l' : List α} (h : l.Perm l') (s : l.Pairwise lt) (s' : l'.Pairwise lt) : l = l' :=
  List.Perm.eq_of_pairwise (le := lt) (fun a b _ _ h1 h2 => (asym a b h1 h2).elim) s s' h

end Go.Proofs.Ytiagjabdfppgkaa
