/- Equality of flat structs: their parts are integers, bools and strings. -/
import Derived.Test.YtiagjabdfppgkaaGreatOwn
import Derived.Laws.StructEq
import Derived.ChangeKeysEq
set_option linter.unusedVariables false
set_option linter.unusedSimpArgs false
namespace Go.Vc
open Go

def sEq : Value → Value → Bool
  | .int _ a, .int _ b => decide (a = b)
  | .bool a, .bool b => a == b
  | .string a, .string b => decide (a = b)
  | _, _ => false
theorem beqB (a b : ByteArray) : (a == b) = decide (a = b) := by
  obtain ⟨x⟩ := a
  obtain ⟨y⟩ := b
  show (x == y) = _
  rw [Bool.eq_iff_iff]
  simp
def kdB (P : Program) (t : TypeId) (k : Kd) : Bool := match P.underlying t, k with
  | some (.int q), .inl q' => decide (q = q')
  | some .bool, .inr 0 => true
  | some .string, .inr 1 => true
  | _, _ => false
def flatFs (P : Program) : List Field → List (Nat × Kd) → Bool
  | [], [] => true
  | f :: fs, (o, k) :: l => Nat.beq f.offset o && f.name != "_" && kdB P f.type k && flatFs P fs l
  | _, _ => false
structure FlatT (P : Program) (t : TypeId) (l : List (Nat × Kd)) : Prop where
  und : ∃ fs, P.underlying t = some (.struct fs) ∧ flatFs P fs.toList l = true
  guard : P.eqGuardType P.depth t = false
  stood : P.stoodInHeld t = false
def flatB (P : Program) (t : TypeId) (l : List (Nat × Kd)) : Bool := match P.underlying t with
  | some (.struct fs) => flatFs P fs.toList l && !P.eqGuardType P.depth t && !P.stoodInHeld t
  | _ => false
theorem flat_of {P : Program} {t : TypeId} {l : List (Nat × Kd)} (h : flatB P t l = true) : FlatT P t l := by
  unfold flatB at h
  split at h
  · rename_i fs hu
    simp only [Bool.and_eq_true, Bool.not_eq_true'] at h
    exact ⟨⟨fs, hu, h.1.1⟩, h.1.2, h.2⟩
  · cases h
def fitL (l : List (Nat × Kd)) (cs : List Value) : Bool := l.all fun p => match cs[p.1]? with
  | some v => (fromV p.2 v).isSome
  | none => false
def eqL (l : List (Nat × Kd)) (xs ys : List Value) : Bool := l.all fun p => match xs[p.1]?, ys[p.1]? with
  | some a, some b => sEq a b
  | _, _ => false

section
variable {P : Program} {w : World}
theorem run_sEq {t : TypeId} {k : Kd} {a b : Value} {d : Nat} (hk : kdB P t k = true) (ha : (fromV k a).isSome = true) (hb : (fromV k b).isSome = true) : (Op.equalIn (d + 1) t a b).run P w = .ok (sEq a b) w := by
  unfold kdB at hk
  split at hk
  · rename_i q q' hu
    have := of_decide_eq_true hk; subst this
    cases a <;> simp only [fromV, Option.isSome_none, Bool.false_eq_true] at ha
    cases b <;> simp only [fromV, Option.isSome_none, Bool.false_eq_true] at hb
    split at ha
    · split at hb
      · rename_i e1 _ e2
        have e1 := of_decide_eq_true e1
        have e2 := of_decide_eq_true e2
        subst e1; subst e2
        exact (run_equalIn_int w d t _ _ _ _ hu).trans (by rw [sEq, Bool.beq_eq_decide_eq])
      · cases hb
    · cases ha
  · rename_i hu
    cases a <;> simp [fromV] at ha
    cases b <;> simp [fromV] at hb
    exact run_equalIn_bool w d t _ _ hu
  · rename_i hu
    cases a <;> simp [fromV] at ha
    cases b <;> simp [fromV] at hb
    simp [Op.equalIn, run_underlying hu, sEq, beqB]
  · cases hk
theorem run_part_kd {t : TypeId} {k : Kd} {xs : Array Value} {o : Nat} {v : Value} (hk : kdB P t k = true) (hx : xs[o]? = some v) : (part t xs o).run P w = .ok v w := by
  refine run_part_plain w ?_ hx
  unfold kdB at hk
  unfold Program.plainKey
  split at hk <;> simp_all
theorem run_eqFields {d : Nat} {xs ys : List Value} : ∀ (fs : List Field) (l : List (Nat × Kd)), flatFs P fs l = true → fitL l xs = true → fitL l ys = true → (Op.eqFields (d + 1) xs.toArray ys.toArray fs).run P w = .ok (eqL l xs ys) w
  | [], [], _, _, _ => rfl
  | f :: fs, (o, k) :: l, h, hx, hy => by
    simp only [flatFs, Bool.and_eq_true] at h
    obtain ⟨⟨⟨h1, h2⟩, h3⟩, h4⟩ := h
    have := Nat.eq_of_beq_eq_true h1; subst this
    simp only [fitL, List.all_cons, Bool.and_eq_true] at hx hy
    cases ha : xs[f.offset]? with
    | none => rw [ha] at hx; cases hx.1
    | some a =>
      cases hb : ys[f.offset]? with
      | none => rw [hb] at hy; cases hy.1
      | some b =>
        rw [ha] at hx; rw [hb] at hy
        have ih := run_eqFields (d := d) fs l h4 hx.2 hy.2
        simp only [Op.eqFields]
        rw [if_pos (by simpa using h2)]
        simp only [Sem.run_bind, run_part_kd (w := w) h3 (show xs.toArray[f.offset]? = some a by simpa using ha), run_part_kd (w := w) h3 (show ys.toArray[f.offset]? = some b by simpa using hb), Result.andThen_ok, run_sEq h3 hx.1 hy.1]
        have he : eqL ((f.offset, k) :: l) xs ys = (sEq a b && eqL l xs ys) := by simp only [eqL, List.all_cons, ha, hb]
        rw [he]
        cases sEq a b with
        | true => simpa using ih
        | false => simp
theorem run_flat {t : TypeId} {l : List (Nat × Kd)} (T : FlatT P t l) {xs ys : List Value} (hx : fitL l xs = true) (hy : fitL l ys = true) : (Op.equalIn 10000 t (.agg xs.toArray) (.agg ys.toArray)).run P w = .ok (eqL l xs ys) w := by
  obtain ⟨⟨fs, hu, hf⟩, hg, hs⟩ := T
  have e : P.fieldsOf t = fs := by simp [Program.fieldsOf, hu]
  rw [run_equalIn_struct w 9999 t _ _ (by rw [e]; exact hu) hs, e]
  exact run_eqFields fs.toList l hf hx hy
theorem eqv_eql {t : TypeId} {l : List (Nat × Kd)} (T : FlatT P t l) {xs ys : List Value} {x y : Operand} {b : Bool} (hx : fitL l xs = true) (hy : fitL l ys = true) (hb : eqL l xs ys = b) : Eqv P .eql t x y w (.agg xs.toArray) (.agg ys.toArray) b := by
  subst hb
  simp only [Eqv, Sem.run_bind, run_eqGuard_agg w .eql t x y _ _ T.guard, Result.andThen_ok, run_eql_struct, run_flat T hx hy]
theorem eqv_neq {t : TypeId} {l : List (Nat × Kd)} (T : FlatT P t l) {xs ys : List Value} {x y : Operand} {b : Bool} (hx : fitL l xs = true) (hy : fitL l ys = true) (hb : (!eqL l xs ys) = b) : Eqv P .neq t x y w (.agg xs.toArray) (.agg ys.toArray) b := by
  subst hb
  simp only [Eqv, Sem.run_bind, run_eqGuard_agg w .neq t x y _ _ T.guard, Result.andThen_ok, run_neq_struct, run_flat T hx hy]
end
end Go.Vc
