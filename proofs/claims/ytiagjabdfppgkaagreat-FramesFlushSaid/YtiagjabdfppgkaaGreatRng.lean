/- Ranges over a map that stands still: its rounds, in whatever order. Loads from slices of one's own. -/
import Derived.Test.YtiagjabdfppgkaaGreatOwn
import Derived.Maps.RangeRun
set_option linter.unusedVariables false
set_option linter.unusedSimpArgs false
namespace Go.Vc
open Go
/-- the entries that are left -/
def leftL (es : Array MapEntry) (seen : Array Nat) : List MapEntry := es.toList.filter fun e => !seen.contains e.born
theorem leftL_start (es : Array MapEntry) : leftL es #[] = es.toList := by
  simp [leftL]
theorem filter_ne : ∀ {l : List MapEntry} {e : MapEntry}, e ∈ l → (l.map (·.born)).Nodup → l.Perm (e :: l.filter fun x => !decide (x.born = e.born))
  | x :: r, e, h, hn => by
    simp only [List.map_cons, List.nodup_cons] at hn
    rw [List.filter_cons]
    by_cases hx : x.born = e.born
    · have hxe : x = e := by
        rcases List.mem_cons.1 h with rfl | h
        · rfl
        · exact absurd (hx ▸ List.mem_map.2 ⟨e, h, rfl⟩) hn.1
      subst hxe
      simp only [decide_true, Bool.not_true, Bool.false_eq_true, if_false]
      refine List.Perm.cons _ ?_
      rw [List.filter_eq_self.2]
      intro y hy
      have : y.born ≠ x.born := fun e => hn.1 (e ▸ List.mem_map.2 ⟨y, hy, rfl⟩)
      simp [this]
    · have hr : e ∈ r := by
        rcases List.mem_cons.1 h with rfl | h
        · exact absurd rfl hx
        · exact h
      simp only [hx, decide_false, Bool.not_false, if_true]
      exact ((filter_ne hr hn.2).cons x).trans (.swap _ _ _)
theorem leftL_push {es : Array MapEntry} {seen : Array Nat} {e : MapEntry} (hn : (es.toList.map (·.born)).Nodup) (he : e ∈ leftL es seen) : (leftL es seen).Perm (e :: leftL es (seen.push e.born)) := by
  have hn2 : ((leftL es seen).map (·.born)).Nodup := hn.sublist ((List.filter_sublist ..).map _)
  refine (filter_ne he hn2).trans ?_
  refine List.Perm.cons _ (List.Perm.of_eq ?_)
  simp only [leftL, List.filter_filter]
  congr 1
  funext x
  simp only [Array.contains_push, Bool.not_or]
  rw [Bool.and_comm]
  congr 1
theorem leftOf_list (es : Array MapEntry) (seen : Array Nat) : (leftOf es seen).toList = leftL es seen := by simp [leftOf, leftL]
section
variable {P : Program} {B : List Nat} {w0 w w' : World} {L : List Asn} {t kT eT : TypeId} {b it clock : Nat} {es : Array MapEntry} {seen : Array Nat} {ty : TypeId}
theorem Hp.rng (H : Hp B w0 w L) (eq : Eqw w w') (hu : P.underlying t = some (.map kT eT)) (hb : w.heap[b]? = some (.map es clock)) {G : Option Addr → World → Prop}
    (k : ∀ it w1, Hp B w0 w1 (objA it (.mapIter (some b) clock #[] clock) :: L) → G (some ⟨it, 0, none⟩) w1) : ∃ (p : Option Addr) (w1 : World), Rng P t w' (.map (some b)) (.pointer p) w1 ∧ G p w1 := by
  have hb' : w'.heap[b]? = some (.map es clock) := by rw [eq.heap]; exact hb
  refine ⟨some ⟨w'.heap.size, 0, none⟩, w'.alloc (.mapIter (some b) clock #[] clock), ?_, k _ _ (H.newO eq ⟨rfl, rfl⟩)⟩
  simp only [Rng, Instr.range, Sem.run_bind, run_und hu, Result.andThen_ok, run_getObj_map hb', Sem.run_pure]
  rfl
theorem Hp.nxt (H : Hp B w0 w (objA it (.mapIter (some b) clock seen clock) :: L)) (eq : Eqw w w') (hb : w.heap[b]? = some (.map es clock)) (hold : ∀ e ∈ es.toList, e.born < clock) (hn : (es.toList.map (·.born)).Nodup)
    {G0 : World → Prop} {G1 : Value → Value → World → Prop}
    (k0 : leftL es seen = [] → G0 w')
    (k1 : ∀ (e : MapEntry) (w1 : World), e ∈ es.toList → (leftL es seen).Perm (e :: leftL es (seen.push e.born)) → Hp B w0 w1 (objA it (.mapIter (some b) clock (seen.push e.born) clock) :: L) →
      (Instr.entry (.pointer (some ⟨it, 0, none⟩))).run P w1 = .ok (.tuple #[e.key, e.val]) w1 → G1 e.key e.val w1) :
    (∃ w1, Nxt P false ty w' (.pointer (some ⟨it, 0, none⟩)) (.tuple #[.bool false]) w1 ∧ G0 w1) ∨ (∃ (k v : Value) (w1 : World), Nxt P false ty w' (.pointer (some ⟨it, 0, none⟩)) (.tuple #[.bool true, k, v]) w1 ∧ G1 k v w1) := by
  have H1 := H.go eq
  have hi : w'.heap[it]? = some (.mapIter (some b) clock seen clock) := H1.obj (.head _)
  have hb' : w'.heap[b]? = some (.map es clock) := by rw [eq.heap]; exact hb
  rcases run_next_at (P := P) w' ty it b clock clock seen es clock hi hb' hold (Nat.le_refl _) with ⟨h1, h2⟩ | ⟨e, he, w1, hw, h2⟩
  · refine .inl ⟨w', h2, k0 ?_⟩
    rw [← leftOf_list]
    exact List.eq_nil_of_length_eq_zero (by simpa using h1)
  · rw [leftOf_list] at he
    have hmem : e ∈ es.toList := (List.mem_filter.1 he).1
    have e1 : Eqw w' w1 := by rcases hw with rfl | rfl <;> exact ⟨rfl, rfl, rfl, rfl⟩
    have H2 := H1.go e1
    have hne : it ≠ b := by
      rintro rfl
      rw [hb'] at hi; cases hi
    have H3 : Hp B w0 (setB w1 it (.mapIter (some b) clock (seen.push e.born) clock)) (objA it (.mapIter (some b) clock (seen.push e.born) clock) :: L) := H2.putO (o' := .mapIter (some b) clock (seen.push e.born) clock)
    have hset : ChangeMaps.setBlock w1 it (.mapIter (some b) clock (seen.push e.born) clock) = setB w1 it (.mapIter (some b) clock (seen.push e.born) clock) := rfl
    rw [hset] at h2
    refine .inr ⟨_, _, _, h2, k1 e _ hmem (leftL_push hn he) H3 ?_⟩
    refine run_entry_at (P := P) _ it b clock seen es clock e (H3.obj (.head _)) ?_ hmem hn
    have : (setB w1 it (.mapIter (some b) clock (seen.push e.born) clock)).heap[b]? = w1.heap[b]? := by
      have hc := setB_chg w1 it (.mapIter (some b) clock (seen.push e.born) clock)
      have hlt : b < w1.heap.size := by rw [e1.heap]; exact (Array.getElem?_eq_some_iff.1 hb').1
      exact hc.2.2.2.2 b hlt (by simpa using fun h => hne h.symm)
    rw [this, e1.heap]; exact hb'
end
section
variable {P : Program} {B : List Nat} {w0 w w' : World} {L : List Asn} {e t : TypeId} {sz n c o m : Nat} {a : Option Addr} {xs : List Value} {v : Value}
theorem Hp.ldO (H : Hp B w0 w L) (eq : Eqw w w') (S : Scl P t) (mm : Asn.own e sz a n c xs ∈ L) (ho : xs[o]? = some v) : ∃ ad, a = some ad ∧ Ld P t w' (ad.add o) v := by
  have hc := ((H.go eq).ownA mm).cells
  obtain ⟨ad, ha, _⟩ := hc o v ho
  exact ⟨ad, ha, hc.ld S ha ho⟩
theorem Hp.ldOA (H : Hp B w0 w L) (eq : Eqw w w') (S : Agg P t m) (hm : 0 < m) (mm : Asn.own e sz a n c xs ∈ L) {vs : List Value} (ho : (xs.drop o).take m = vs) (hl : vs.length = m) : ∃ ad, a = some ad ∧ Ld P t w' (ad.add o) (.agg vs.toArray) := by
  have hc := ((H.go eq).ownA mm).cells
  have hx : xs ≠ [] := by
    rintro rfl
    rw [List.drop_nil, List.take_nil] at ho
    subst ho; simp at hl; omega
  obtain ⟨ad, ha⟩ := hc.some hx
  exact ⟨ad, ha, hc.ldA S ha ho hl⟩
end
end Go.Vc
