/- A map's entry asked for and then stored; a map cleared; a block as a slice of one's own; a slice held against nil. -/
import Derived.Test.YtiagjabdfppgkaaGreatRng
import Derived.Test.YtiagjabdfppgkaaGreatCpy
import Derived.Lib.SliceRun
set_option linter.unusedVariables false
set_option linter.unusedSimpArgs false
namespace Go.Vc
open Go
section
variable {K : Type} [DecidableEq K] {kt : KeyT K}
theorem findIdx_at {es : Array MapEntry} {j : Nat} {e : MapEntry} (hn : (es.toList.map (·.born)).Nodup) (hj : es[j]? = some e) : es.findIdx? (fun x => (x.born : Int) == (e.born : Int)) = some j := by
  rw [Array.findIdx?_eq_some_iff_getElem]
  obtain ⟨hlt, he⟩ := Array.getElem?_eq_some_iff.1 hj
  refine ⟨hlt, by simp [he], fun i hi => ?_⟩
  have hne : es[i].born ≠ e.born := by
    intro h
    have h1 : (es.toList.map (·.born))[i]'(by simp; omega) = (es.toList.map (·.born))[j]'(by simp; omega) := by simp [h, he]
    have h2 := List.pairwise_iff_getElem.1 hn i j (by simp; omega) (by simp; omega) hi
    exact h2 h1
  simp; omega
theorem run_asInt {P : Program} (k : IntKind) (i : Int) (w : World) : (asInt (.int k i)).run P w = .ok i w := rfl
theorem men_map {P : Program} {t kT eT : TypeId} {z : Value} (T : MapT P kt t kT eT z) {w : World} {b : Nat} {al : List (K × Value)} (h : MapAt kt w b al) (k : K) (v : Value) :
    ∃ (u : Value) (i : Int) (w1 w2 : World), MEn P t w (.map (some b)) (kt.enc k) (.tuple #[u, .int .i64 i]) w1 ∧ ESt P t w1 (.map (some b)) (.int .i64 i) v w2 ∧ MapAt kt w2 b (aput al k v) ∧ Chg [b] w w2 := by
  obtain ⟨es, clock, h1, h2, h3, h4⟩ := h
  have hck : ∀ e, (Instr.checkKey e 10000 kT (kt.enc k)).run P w = .ok () w := fun e => kt.plain P kT e w T.key k
  have hlt := (Array.getElem?_eq_some_iff.1 h1).1
  rcases find_now 0 k h2 with ⟨g1, g2⟩ | ⟨j, u, e, g1, g2, g3, g4, g5, g6, -⟩
  · obtain ⟨es1, hes1⟩ : ∃ es1, es1 = es.push { key := kt.enc k, val := z, born := clock } := ⟨_, rfl⟩
    have hb1 : (setB w b (.map es1 (clock + 1))).heap[b]? = some (.map es1 (clock + 1)) := setB_at hlt
    have hn1 : (es1.toList.map (·.born)).Nodup := by
      rw [hes1, Array.toList_push, List.map_append, List.nodup_append]
      refine ⟨h3, by simp, ?_⟩
      intro a ha c hc
      simp at hc; subst hc
      obtain ⟨e, he, rfl⟩ := List.mem_map.1 ha
      exact Nat.ne_of_lt (h4 e he)
    have hat : es1[es.size]? = some { key := kt.enc k, val := z, born := clock } := by rw [hes1]; simp
    have hfi := findIdx_at hn1 hat
    have hmod : es1.modify es.size (fun e => { e with val := v }) = es.push { key := kt.enc k, val := v, born := clock } := by
      apply Array.ext_getElem?
      intro i
      rw [Array.getElem?_modify, hes1, Array.getElem?_push, Array.getElem?_push]
      by_cases hi : i = es.size
      · subst hi; simp
      · rw [if_neg (fun h => hi h.symm), if_neg hi, if_neg hi]
    refine ⟨z, clock, setB w b (.map es1 (clock + 1)), setB (setB w b (.map es1 (clock + 1))) b (.map (es.push { key := kt.enc k, val := v, born := clock }) (clock + 1)), ?_, ?_, ?_, ?_⟩
    · simp only [MEn, Instr.mapEntry, Sem.run_bind, run_und T.und, Result.andThen_ok, run_getObj_map h1, hck, run_findKey T.key g2 (al := al), run_zero T.zero, run_setObj_map h1, Sem.run_pure, ← hes1]
      rfl
    · simp only [ESt, Instr.entryStore, Sem.run_bind, Sem.run_pure, Result.andThen_ok, run_getObj_map hb1, run_asInt]
      rw [show es1.findIdx? (fun e => (e.born : Int) == (clock : Int)) = some es.size from hfi]
      simp only [run_setObj_map hb1, hmod]
    · rw [setB_setB]
      refine ⟨_, _, setB_at hlt, ?_, ?_, ?_⟩
      · rw [Array.toList_push]; exact reads_push h2 g1 v clock
      · rw [Array.toList_push, List.map_append, List.nodup_append]
        refine ⟨h3, by simp, ?_⟩
        intro a ha c hc
        simp at hc; subst hc
        obtain ⟨e, he, rfl⟩ := List.mem_map.1 ha
        exact Nat.ne_of_lt (h4 e he)
      · intro e he
        rw [Array.toList_push] at he
        rcases List.mem_append.1 he with he | he
        · exact Nat.lt_succ_of_lt (h4 e he)
        · simp at he; subst he; exact Nat.lt_succ_self _
    · rw [setB_setB]; exact setB_chg _ _ _
  · have hj : es[j]? = some e := by simpa using g3
    rw [Nat.zero_add] at g2
    obtain ⟨es1, hes1⟩ : ∃ es1, es1 = es.modify j fun e => { e with key := kt.enc k } := ⟨_, rfl⟩
    have hb1 : (setB w b (.map es1 clock)).heap[b]? = some (.map es1 clock) := setB_at hlt
    have hborn : es1.toList.map (·.born) = es.toList.map (·.born) := by
      rw [hes1, Array.toList_modify]
      apply List.ext_getElem?
      intro i
      simp only [List.getElem?_map, List.getElem?_modify]
      cases es.toList[i]? with
      | none => rfl
      | some e => simp only [Option.map_some, Functor.map]; split <;> rfl
    have hn1 : (es1.toList.map (·.born)).Nodup := by rw [hborn]; exact h3
    have hat : es1[j]? = some { e with key := kt.enc k } := by rw [hes1, Array.getElem?_modify, if_pos rfl, hj]; rfl
    have hfi := findIdx_at hn1 hat
    have hmod : es1.modify j (fun e => { e with val := v }) = es.modify j fun e => { e with key := kt.enc k, val := v } := by
      apply Array.ext_getElem?
      intro i
      rw [Array.getElem?_modify, hes1, Array.getElem?_modify, Array.getElem?_modify]
      split
      · cases es[i]? <;> rfl
      · rfl
    have hstay : (Instr.keyThatStays (kt.enc k) (kt.enc k)).run P w = .ok (kt.enc k) w := by
      simp [Instr.keyThatStays, kt.bits]
    refine ⟨u, e.born, setB w b (.map es1 clock), setB (setB w b (.map es1 clock)) b (.map (es.modify j fun e => { e with key := kt.enc k, val := v }) clock), ?_, ?_, ?_, ?_⟩
    · simp only [MEn, Instr.mapEntry, Sem.run_bind, run_und T.und, Result.andThen_ok, run_getObj_map h1, hck, run_findKey T.key g2 (al := al), hj, Option.map_some, Option.getD_some, g4, hstay, run_setObj_map h1, Sem.run_pure, ← hes1]
      rfl
    · simp only [ESt, Instr.entryStore, Sem.run_bind, Sem.run_pure, Result.andThen_ok, run_getObj_map hb1, run_asInt]
      rw [show es1.findIdx? (fun x => (x.born : Int) == (e.born : Int)) = some j from hfi]
      simp only [run_setObj_map hb1, hmod]
    · rw [setB_setB]
      refine ⟨_, _, setB_at hlt, ?_, ?_, ?_⟩
      · rw [Array.toList_modify]; exact g6 v
      · rw [Array.toList_modify, born_modify]; exact h3
      · intro e' he'
        have : e'.born ∈ (es.modify j fun e => { e with key := kt.enc k, val := v }).toList.map (·.born) := List.mem_map.2 ⟨e', he', rfl⟩
        rw [Array.toList_modify, born_modify] at this
        obtain ⟨e2, he2, e3⟩ := List.mem_map.1 this
        rw [← e3]; exact h4 e2 he2
    · rw [setB_setB]; exact setB_chg _ _ _
/-- clear -/
theorem clr_map {P : Program} {t kT eT : TypeId} {z : Value} (T : MapT P kt t kT eT z) {ts : Array TypeId} (hts : ts[0]? = some t) {ty : TypeId} {w : World} {b : Nat} {al : List (K × Value)} (h : MapAt kt w b al) :
    ∃ w1, Clr P ts ty w (.map (some b)) w1 ∧ MapAt kt w1 b [] ∧ Chg [b] w w1 := by
  obtain ⟨es, clock, h1, h2, h3, h4⟩ := h
  have hlt := (Array.getElem?_eq_some_iff.1 h1).1
  refine ⟨setB w b (.map #[] clock), ?_, ⟨#[], clock, setB_at hlt, rfl, by simp, by simp⟩, setB_chg _ _ _⟩
  simp only [Clr, Builtin.clear_, hts, List.getElem?_toArray, List.getElem?_cons_zero, Sem.run_bind, run_und T.und, Result.andThen_ok, run_getObj_map h1, run_setObj_map h1, Sem.run_pure]
end
section
variable {P : Program} {B : List Nat} {w0 w w' : World} {L : List Asn} {t kT eT : TypeId} {z v : Value} {b : Nat}
theorem Hp.menI {k : IntKind} {al : List (Int × Value)} (T : MapT P (intKey k) t kT eT z) (H : Hp B w0 w (.imap b k al :: L)) (e : Eqw w w') {x : Int} {G : World → Prop}
    (kk : ∀ w1, Hp B w0 w1 (.imap b k (aput al x v) :: L) → G w1) : ∃ (u : Value) (i : Int) (w1 : World), MEn P t w' (.map (some b)) (.int k x) (.tuple #[u, .int .i64 i]) w1 ∧ ∃ w2, ESt P t w1 (.map (some b)) (.int .i64 i) v w2 ∧ G w2 := by
  obtain ⟨u, i, w1, w2, h1, h2, h3, h4⟩ := men_map T ((H.go e).ok _ (.head _)) x v
  exact ⟨u, i, w1, h1, w2, h2, kk w2 ((H.go e).set h4 h3 fun k hk => .inl hk)⟩
theorem Hp.clrI {k : IntKind} {al : List (Int × Value)} (T : MapT P (intKey k) t kT eT z) {ts : Array TypeId} (hts : ts[0]? = some t) {ty : TypeId} (H : Hp B w0 w (.imap b k al :: L)) (e : Eqw w w') {G : World → Prop}
    (kk : ∀ w1, Hp B w0 w1 (.imap b k [] :: L) → G w1) : ∃ w1, Clr P ts ty w' (.map (some b)) w1 ∧ G w1 := by
  obtain ⟨w1, h1, h2, h3⟩ := clr_map (ty := ty) T hts ((H.go e).ok _ (.head _))
  exact ⟨w1, h1, kk w1 ((H.go e).set h3 h2 fun k hk => .inl hk)⟩
/-- a block is a slice of one's own -/
theorem Hp.reown {cs : List Value} {T : TypeId} (H : Hp B w0 w (.blk b cs T :: L)) (sz n : Nat) (hl : cs.length = n * sz) (hn : n ≤ maxLen) : Hp B w0 w (.own T sz (some ⟨b, 0, none⟩) n n cs :: L) :=
  H.set (Chg.refl _ _) ⟨hl, .inr ⟨b, cs.toArray, (0, 0), rfl, Nat.zero_le _, H.blk (.head _), Thaw.zero _, Nat.le_refl _, hn, by simpa using hl, by simp [← hl]⟩⟩ (fun k hk => .inl hk)
end
theorem eqv_slcE {P : Program} {t e : TypeId} {a : Option Addr} {n c n' c' : Nat} {x y : Operand} {w : World} (h : P.underlying t = some (.slice e)) : Eqv P .eql t x y w (.slice a n c) (.slice none n' c') a.isNone := by
  have := Go.Lib.run_eql_slice_nil (P := P) w t e a n c n' c' h
  simp only [Eqv, Sem.run_bind, eqGuard]
  simp [this]
theorem over_all (vs cs : List Value) (h : vs.length = cs.length) : over vs 0 cs = vs := by
  apply List.ext_getElem?
  intro k
  rw [over_get vs 0 cs (by omega)]
  by_cases hk : k < vs.length
  · rw [if_pos (by omega)]; simp
  · rw [if_neg (by omega), List.getElem?_eq_none (by omega), List.getElem?_eq_none (by omega)]
end Go.Vc
