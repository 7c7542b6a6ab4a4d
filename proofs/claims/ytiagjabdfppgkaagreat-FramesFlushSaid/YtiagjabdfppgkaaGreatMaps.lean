/- Maps whose keys are integers or strings: what their operations do, by association lists. -/
import Derived.Test.YtiagjabdfppgkaaGreatLib
set_option linter.unusedVariables false
set_option linter.unusedSimpArgs false
namespace Go.Vc
open Go

/-- a kind of key -/
structure KeyT (K : Type) [DecidableEq K] where
  kd : TypeDesc
  enc : K → Value
  same : ∀ a b, Instr.sameNow kd (enc a) (enc b) = some (decide (a = b))
  bits : ∀ a, Instr.sameBits 10000 (enc a) (enc a) = true
  plain : ∀ P t empty w, P.underlying t = some kd → ∀ a, (Instr.checkKey empty (9999 + 1) t (enc a)).run P w = .ok () w

theorem plain_key {P : Program} {t : TypeId} {D : TypeDesc} (h : P.underlying t = some D) (hd : (∃ k, D = .int k) ∨ D = .string) (empty : Bool) (d : Nat) (w : World) (v : Value) : (Instr.checkKey empty (d + 1) t v).run P w = .ok () w := by
  rcases hd with ⟨k, rfl⟩ | rfl <;> simp only [Instr.checkKey, Sem.run_bind, run_und h, Result.andThen_ok, Sem.run_pure]
def intKey (k : IntKind) : KeyT Int where
  kd := .int k
  enc := .int k
  same := fun a b => by simp only [Instr.sameNow, if_true]; rfl
  bits := fun a => by simp [Instr.sameBits]
  plain := fun P t empty w h a => plain_key h (.inl ⟨k, rfl⟩) empty 9999 w _
theorem beq_bytes (a b : ByteArray) : (a == b) = decide (a = b) := by
  obtain ⟨a⟩ := a
  obtain ⟨b⟩ := b
  rw [Bool.eq_iff_iff, decide_eq_true_iff, ByteArray.mk.injEq]
  show (a == b) = true ↔ a = b
  exact beq_iff_eq
def strKey : KeyT ByteArray where
  kd := .string
  enc := .string
  same := fun a b => by simp only [Instr.sameNow, beq_bytes]
  bits := fun a => by simp [Instr.sameBits, beq_bytes]
  plain := fun P t empty w h a => plain_key h (.inr rfl) empty 9999 w _

section
variable {K : Type} [DecidableEq K] (kt : KeyT K)

/-- the value of a key -/
def aget (l : List (K × Value)) (k : K) : Option Value := match l with
  | [] => none
  | (x, v) :: r => if k = x then some v else aget r k
/-- a key's value put: in its place, or behind -/
def aput (l : List (K × Value)) (k : K) (v : Value) : List (K × Value) := match l with
  | [] => [(k, v)]
  | (x, u) :: r => if k = x then (x, v) :: r else (x, u) :: aput r k v
/-- a key struck -/
def adel (l : List (K × Value)) (k : K) : List (K × Value) := match l with
  | [] => []
  | (x, u) :: r => if k = x then r else (x, u) :: adel r k

/-- entries that read as a list -/
def Reads (es : List MapEntry) (al : List (K × Value)) : Prop := es.map (fun e => (e.key, e.val)) = al.map fun p => (kt.enc p.1, p.2)
/-- a map in memory: its entries, each with a stamp of its own below the clock -/
def MapAt (w : World) (b : Nat) (al : List (K × Value)) : Prop :=
  ∃ es clock, w.heap[b]? = some (.map es clock) ∧ Reads kt es.toList al ∧ (es.toList.map (·.born)).Nodup ∧ ∀ e ∈ es.toList, e.born < clock

variable {kt}
theorem MapAt.chg {w w' : World} {b : Nat} {al : List (K × Value)} {S : List Nat} (h : MapAt kt w b al) (hc : Chg S w w') (hs : b ∉ S) : MapAt kt w' b al := by
  obtain ⟨es, clock, h1, h2⟩ := h
  exact ⟨es, clock, hc.block h1 hs, h2⟩
theorem MapAt.lt {w : World} {b : Nat} {al : List (K × Value)} (h : MapAt kt w b al) : b < w.heap.size := by
  obtain ⟨es, clock, h1, h2⟩ := h
  exact (Array.getElem?_eq_some_iff.1 h1).1
theorem MapAt.new {w w1 : World} {b : Nat} (h : New w (.map #[] 0) b w1) : MapAt kt w1 b [] := ⟨#[], 0, h.blk, rfl, by simp, by simp⟩

theorem find_now : ∀ {es : List MapEntry} {al : List (K × Value)} (i : Nat) (k : K), Reads kt es al →
    (aget al k = none ∧ Instr.findNow kt.kd (kt.enc k) es i = some none) ∨
    ∃ j v e, aget al k = some v ∧ Instr.findNow kt.kd (kt.enc k) es i = some (some (i + j, v)) ∧ es[j]? = some e ∧ e.key = kt.enc k ∧ e.val = v ∧
      (∀ v', Reads kt (es.modify j fun e => { e with key := kt.enc k, val := v' }) (aput al k v')) ∧ Reads kt (es.eraseIdx j) (adel al k)
  | [], al, i, k, h => by
    have : al = [] := by cases al with
      | nil => rfl
      | cons p r => simp [Reads] at h
    subst this
    exact .inl ⟨rfl, rfl⟩
  | e :: es, al, i, k, h => by
    cases al with
    | nil => simp [Reads] at h
    | cons p al =>
      obtain ⟨x, u⟩ := p
      simp only [Reads, List.map_cons, List.cons.injEq, Prod.mk.injEq] at h
      obtain ⟨⟨hk, hv⟩, h⟩ := h
      simp only [Instr.findNow, hk, kt.same, aget, aput, adel]
      by_cases hkx : k = x
      · subst hkx
        right
        refine ⟨0, u, e, by simp, by simp [hv], by simp, hk, hv, fun v' => ?_, ?_⟩
        · simp only [if_true, Reads, List.modify_zero_cons, List.map_cons, hk]
          rw [h]
        · simp only [if_true, List.eraseIdx_cons_zero, Reads]; exact h
      · simp only [hkx, decide_false, if_false]
        rcases find_now (i + 1) k h with ⟨h1, h2⟩ | ⟨j, v, e', h1, h2, h3, h4, h5, h6, h7⟩
        · exact .inl ⟨h1, h2⟩
        · right
          refine ⟨j + 1, v, e', h1, by rw [h2]; congr 3; omega, by simpa using h3, h4, h5, fun v' => ?_, ?_⟩
          · have := h6 v'
            simp only [Reads, List.modify_succ_cons, List.map_cons, hk, hv] at this ⊢
            rw [this]
          · simp only [Reads, List.eraseIdx_cons_succ, List.map_cons, hk, hv] at h7 ⊢
            rw [h7]
theorem reads_push {es : List MapEntry} {al : List (K × Value)} (h : Reads kt es al) {k : K} (hn : aget al k = none) (v : Value) (c : Nat) : Reads kt (es ++ [{ key := kt.enc k, val := v, born := c }]) (aput al k v) := by
  have : ∀ (al : List (K × Value)), aget al k = none → aput al k v = al ++ [(k, v)] := by
    intro al
    induction al with
    | nil => intro _; rfl
    | cons p r ih =>
      obtain ⟨x, u⟩ := p
      intro hn
      simp only [aget] at hn
      split at hn
      · cases hn
      · rename_i hne
        simp only [aput, if_neg hne, ih hn, List.cons_append]
  rw [this al hn]
  simp only [Reads, List.map_append, List.map_cons, List.map_nil] at h ⊢
  rw [h]

theorem run_findKey {P : Program} {w : World} {t : TypeId} {es : List MapEntry} {al : List (K × Value)} {k : K} {r : Option (Nat × Value)} (hu : P.underlying t = some kt.kd) (h : Instr.findNow kt.kd (kt.enc k) es 0 = some r) :
    (Instr.findKey t (kt.enc k) es).run P w = .ok r w := by
  simp only [Instr.findKey, Sem.run_bind, run_und hu, Result.andThen_ok, h, Sem.run_pure]

theorem run_getObj_map {P : Program} {w : World} {b : Nat} {es : Array MapEntry} {c : Nat} (h : w.heap[b]? = some (.map es c)) : (getObj b).run P w = .ok (.map es c) w := by
  simp only [getObj, Sem.run, h]
theorem run_setObj_map {P : Program} {w : World} {b : Nat} {es : Array MapEntry} {c : Nat} (h : w.heap[b]? = some (.map es c)) (o : Obj) : (setObj b o).run P w = .ok () (setB w b o) := by
  simp only [setObj, Sem.run, h]; rfl

/-- the types of a map -/
structure MapT (P : Program) (kt : KeyT K) (t kT eT : TypeId) (z : Value) : Prop where
  und : P.underlying t = some (.map kT eT)
  key : P.underlying kT = some kt.kd
  zero : zeroOf P eT = some z

theorem lk_map {P : Program} {t kT eT : TypeId} {z : Value} (T : MapT P kt t kT eT z) {w : World} {b : Nat} {al : List (K × Value)} (h : MapAt kt w b al) (k : K) :
    Lk P t false w (.map (some b)) (kt.enc k) ((aget al k).getD z) ∧ Lk P t true w (.map (some b)) (kt.enc k) (.tuple #[(aget al k).getD z, .bool (aget al k).isSome]) := by
  obtain ⟨es, clock, h1, h2, h3⟩ := h
  have hck : ∀ e, (Instr.checkKey e 10000 kT (kt.enc k)).run P w = .ok () w := fun e => kt.plain P kT e w T.key k
  rcases find_now 0 k h2 with ⟨g1, g2⟩ | ⟨j, v, e, g1, g2, -⟩
  · simp only [Lk, Instr.lookup, Sem.run_bind, run_und T.und, Result.andThen_ok, run_getObj_map h1, Sem.run_pure, hck, run_findKey T.key g2 (al := al), Sem.run_map, run_zero T.zero, g1]
    constructor <;> rfl
  · simp only [Lk, Instr.lookup, Sem.run_bind, run_und T.und, Result.andThen_ok, run_getObj_map h1, Sem.run_pure, hck, run_findKey T.key g2 (al := al), g1]
    constructor <;> rfl
theorem lk_nil {P : Program} {t kT eT : TypeId} {z : Value} (T : MapT P kt t kT eT z) {w : World} (k : K) :
    Lk P t false w (.map none) (kt.enc k) z ∧ Lk P t true w (.map none) (kt.enc k) (.tuple #[z, .bool false]) := by
  have hck : ∀ e, (Instr.checkKey e 10000 kT (kt.enc k)).run P w = .ok () w := fun e => kt.plain P kT e w T.key k
  have g2 : Instr.findNow kt.kd (kt.enc k) ([] : List MapEntry) 0 = some none := rfl
  simp only [Lk, Instr.lookup, Sem.run_bind, run_und T.und, Result.andThen_ok, Sem.run_pure, hck, run_findKey T.key g2 (al := []), Sem.run_map, run_zero T.zero]
  constructor <;> rfl

theorem born_modify {es : List MapEntry} {j : Nat} {k v : Value} : (es.modify j fun e => { e with key := k, val := v }).map (·.born) = es.map (·.born) := by
  apply List.ext_getElem?
  intro i
  simp only [List.getElem?_map, List.getElem?_modify]
  cases es[i]? with
  | none => rfl
  | some e => simp only [Option.map_some, Functor.map]; split <;> rfl

/-- a store -/
theorem mup_map {P : Program} {t kT eT : TypeId} {z : Value} (T : MapT P kt t kT eT z) {w : World} {b : Nat} {al : List (K × Value)} (h : MapAt kt w b al) (k : K) (v : Value) :
    ∃ w1, MUp P t w (.map (some b)) (kt.enc k) v w1 ∧ MapAt kt w1 b (aput al k v) ∧ Chg [b] w w1 := by
  obtain ⟨es, clock, h1, h2, h3, h4⟩ := h
  have hck : ∀ e, (Instr.checkKey e 10000 kT (kt.enc k)).run P w = .ok () w := fun e => kt.plain P kT e w T.key k
  have hlt := (Array.getElem?_eq_some_iff.1 h1).1
  rcases find_now 0 k h2 with ⟨g1, g2⟩ | ⟨j, u, e, g1, g2, g3, g4, g5, g6, -⟩
  · refine ⟨setB w b (.map (es.push { key := kt.enc k, val := v, born := clock }) (clock + 1)), ?_, ⟨_, _, setB_at hlt, ?_, ?_, ?_⟩, setB_chg _ _ _⟩
    · simp only [MUp, Instr.mapUpdate, Sem.run_bind, run_und T.und, Result.andThen_ok, run_getObj_map h1, hck, run_findKey T.key g2 (al := al), run_setObj_map h1]
    · rw [Array.toList_push]; exact reads_push h2 g1 v clock
    · rw [Array.toList_push, List.map_append, List.nodup_append]
      refine ⟨h3, by simp, ?_⟩
      intro a ha c hc
      simp at hc; subst hc
      obtain ⟨e, he, rfl⟩ := List.mem_map.1 ha
      exact Nat.ne_of_lt (h4 e he)
    · intro e he
      rw [Array.toList_push] at he
      rcases List.mem_append.1 he with he | he
      · exact Nat.lt_succ_of_lt (h4 e he)
      · simp at he; subst he; exact Nat.lt_succ_self _
  · have hj : es[j]? = some e := by simpa using g3
    refine ⟨setB w b (.map (es.modify j fun e => { e with key := kt.enc k, val := v }) clock), ?_, ⟨_, _, setB_at hlt, ?_, ?_, ?_⟩, setB_chg _ _ _⟩
    · rw [Nat.zero_add] at g2
      have hstay : (Instr.keyThatStays (kt.enc k) (kt.enc k)).run P w = .ok (kt.enc k) w := by
        simp [Instr.keyThatStays, kt.bits]
      simp only [MUp, Instr.mapUpdate, Sem.run_bind, run_und T.und, Result.andThen_ok, run_getObj_map h1, hck, run_findKey T.key g2 (al := al), hj, Option.map_some, Option.getD_some, g4, hstay, run_setObj_map h1]
    · rw [Array.toList_modify]; exact g6 v
    · rw [Array.toList_modify, born_modify]; exact h3
    · intro e' he'
      have : e'.born ∈ (es.modify j fun e => { e with key := kt.enc k, val := v }).toList.map (·.born) := List.mem_map.2 ⟨e', he', rfl⟩
      rw [Array.toList_modify, born_modify] at this
      obtain ⟨e2, he2, e3⟩ := List.mem_map.1 this
      rw [← e3]; exact h4 e2 he2

theorem erase_list (es : Array MapEntry) (j : Nat) : (es.eraseIdxIfInBounds j).toList = es.toList.eraseIdx j := by
  rw [Array.eraseIdxIfInBounds]
  split
  · simp
  · rw [List.eraseIdx_of_length_le (by simpa using (by omega : es.size ≤ j))]
/-- delete -/
theorem del_map {P : Program} {ts : Array TypeId} {ty t kT eT : TypeId} {z : Value} (T : MapT P kt t kT eT z) (hts : ts[0]? = some t) {w : World} {b : Nat} {al : List (K × Value)} (h : MapAt kt w b al) (k : K) :
    ∃ w1, Del P ts ty w (.map (some b)) (kt.enc k) w1 ∧ MapAt kt w1 b (adel al k) ∧ Chg [b] w w1 := by
  obtain ⟨es, clock, h1, h2, h3, h4⟩ := h
  have hck : ∀ e, (Instr.checkKey e 10000 kT (kt.enc k)).run P w = .ok () w := fun e => kt.plain P kT e w T.key k
  have hlt := (Array.getElem?_eq_some_iff.1 h1).1
  rcases find_now 0 k h2 with ⟨g1, g2⟩ | ⟨j, u, e, g1, g2, g3, g4, g5, -, g7⟩
  · have hsame : ∀ (al : List (K × Value)), aget al k = none → adel al k = al := by
      intro al
      induction al with
      | nil => intro _; rfl
      | cons p r ih =>
        obtain ⟨x, u⟩ := p
        intro hn
        simp only [aget] at hn
        split at hn
        · cases hn
        · rename_i hne
          simp only [adel, if_neg hne, ih hn]
    refine ⟨setB w b (.map es clock), ?_, ⟨_, _, setB_at hlt, by rw [hsame al g1]; exact h2, h3, h4⟩, setB_chg _ _ _⟩
    simp only [Del, Builtin.delete_, hts, List.getElem?_toArray, List.getElem?_cons_zero, List.getElem?_cons_succ, Sem.run_bind, run_und T.und, Result.andThen_ok, run_getObj_map h1, hck, run_findKey T.key g2 (al := al), run_setObj_map h1, Sem.run_pure]
  · refine ⟨setB w b (.map (es.eraseIdxIfInBounds j) clock), ?_, ⟨_, _, setB_at hlt, ?_, ?_, ?_⟩, setB_chg _ _ _⟩
    · rw [Nat.zero_add] at g2
      simp only [Del, Builtin.delete_, hts, List.getElem?_toArray, List.getElem?_cons_zero, List.getElem?_cons_succ, Sem.run_bind, run_und T.und, Result.andThen_ok, run_getObj_map h1, hck, run_findKey T.key g2 (al := al), run_setObj_map h1, Sem.run_pure]
    · rw [erase_list]; exact g7
    · rw [erase_list]; exact h3.sublist ((List.eraseIdx_sublist ..).map _)
    · intro e' he'
      rw [erase_list] at he'
      exact h4 e' ((List.eraseIdx_sublist ..).subset he')
end
end Go.Vc
