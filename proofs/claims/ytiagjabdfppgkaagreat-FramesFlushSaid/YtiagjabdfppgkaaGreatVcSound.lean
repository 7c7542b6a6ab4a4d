/- From the statement that the calculus reckons of a function's code follows the function's contract: for every program, function, argument and world. -/
import Derived.Test.YtiagjabdfppgkaaGreatVc
set_option linter.unusedVariables false
set_option linter.unusedSimpArgs false
set_option maxRecDepth 100000
namespace Go.Vc
open Go

/-! ### Frames -/
structure Ref (nt : Nat) (ds : List Deferred) (fr : Fr) (a : Act) : Prop where
  size : a.tmps.size = nt
  defers : a.defers = ds
  val : ∀ t v, fget fr t = some v → a.tmps[t]? = some v

theorem fget_nil (t : Nat) : fget [] t = none := rfl
theorem fget_cons (x : Nat × Option Value) (fr : Fr) (t : Nat) : fget (x :: fr) t = cond (Nat.beq t x.1) x.2 (fget fr t) := rfl
theorem fget_hit (d : Nat) (v : Option Value) (fr : Fr) : fget ((d, v) :: fr) d = v := by rw [fget_cons]; simp
theorem fget_miss (d t : Nat) (v : Option Value) (fr : Fr) (h : t ≠ d) : fget ((d, v) :: fr) t = fget fr t := by
  rw [fget_cons]
  have : Nat.beq t d = false := by cases hb : Nat.beq t d with
    | false => rfl
    | true => exact absurd (Nat.eq_of_beq_eq_true hb) h
  simp [this]

section
variable {nt : Nat} {ds : List Deferred} {fr : Fr} {a : Act}

theorem Ref.ev (hr : Ref nt ds fr a) {x : Operand} {v : Value} (h : ev fr x = some v) : a.eval x = v := by
  cases x with
  | tmp t =>
    have := hr.val t v h
    simp [Act.eval, Array.getD_eq_getD_getElem?, this]
  | const c => simpa [Vc.ev, Act.eval] using h
  | global g => simpa [Vc.ev, Act.eval] using h
  | func f => simpa [Vc.ev, Act.eval] using h

theorem evs_cons {x : Operand} {r : List Operand} {l : List Value} (h : evs fr (x :: r) = some l) : ∃ v l', Vc.ev fr x = some v ∧ evs fr r = some l' ∧ l = v :: l' := by
  simp only [evs] at h
  split at h
  · split at h
    · cases h; exact ⟨_, _, by assumption, by assumption, rfl⟩
    · cases h
  · cases h

theorem Ref.evs (hr : Ref nt ds fr a) : ∀ {xs : List Operand} {l : List Value}, evs fr xs = some l → xs.map a.eval = l
  | [], l, h => by simp [Vc.evs] at h; simp [h]
  | x :: r, l, h => by
    obtain ⟨v, l', h1, h2, rfl⟩ := evs_cons h
    simp [hr.ev h1, Ref.evs hr h2]

theorem Ref.evsA (hr : Ref nt ds fr a) {xs : Array Operand} {l : List Value} (h : Vc.evs fr xs.toList = some l) : xs.map a.eval = l.toArray := by
  have := hr.evs h
  apply Array.toList_inj.1
  simpa using this

theorem Ref.parts (hr : Ref nt ds fr a) : ∀ {xs : List (Nat × Operand)} {l : List (Nat × Value)}, partsOf fr xs = some l → xs.map (fun p => (p.1, a.eval p.2)) = l
  | [], l, h => by simp [partsOf] at h; simp [h]
  | (i, x) :: r, l, h => by
    simp only [partsOf] at h
    split at h
    · split at h
      · cases h; rename_i v hv _ l' hl
        simp [hr.ev hv, Ref.parts hr hl]
      · cases h
    · cases h

theorem Ref.put (hr : Ref nt ds fr a) {d : Nat} (hd : d < nt) (v : Value) : Ref nt ds ((d, some v) :: fr) (a.put (some d) v) := by
  refine ⟨by simp [Act.put, hr.size], by simp [Act.put, hr.defers], fun t u h => ?_⟩
  by_cases ht : t = d
  · subst ht
    rw [fget_hit] at h
    cases h
    simp [Act.put, Array.getElem?_setIfInBounds, hr.size, hd]
  · rw [fget_miss _ _ _ _ ht] at h
    have := hr.val t u h
    simp [Act.put, Array.getElem?_setIfInBounds, Ne.symm ht, this]

theorem Ref.lose (hr : Ref nt ds fr a) (d : Option Nat) (v : Value) : ∀ d', d = some d' → Ref nt ds ((d', none) :: fr) (a.put d v) := by
  rintro d' rfl
  refine ⟨by simp [Act.put, hr.size], by simp [Act.put, hr.defers], fun t u h => ?_⟩
  by_cases ht : t = d'
  · subst ht
    rw [fget_hit] at h
    cases h
  · rw [fget_miss _ _ _ _ ht] at h
    have := hr.val t u h
    simp [Act.put, Array.getElem?_setIfInBounds, Ne.symm ht, this]

/-- a result in its slot -/
theorem Ref.fput (hr : Ref nt ds fr a) {d : Option Nat} {rv : Option Value} {v : Value} (hv : ∀ u, rv = some u → v = u) {k : Fr → Prop} (h : fput nt fr d rv k) :
    ∃ fr', k fr' ∧ Ref nt ds fr' (a.put d v) := by
  cases d with
  | none => exact ⟨fr, h, hr⟩
  | some d =>
    simp only [Vc.fput] at h
    split at h
    · rename_i hb
      have hd : d < nt := by simpa [Nat.blt_eq] using hb
      refine ⟨_, h, ?_⟩
      cases rv with
      | some u => cases hv u rfl; exact hr.put hd v
      | none => exact hr.lose (some d) v d rfl
    · exact h.elim
end

theorem onV_some {x : Option Value} {k : Value → Prop} (h : onV x k) : ∃ v, x = some v ∧ k v := by
  cases x with
  | none => exact h.elim
  | some v => exact ⟨v, rfl, h⟩
theorem onP_some {x : Option Addr} {k : Addr → Prop} (h : onP x k) : ∃ v, x = some v ∧ k v := by
  cases x with
  | none => exact h.elim
  | some v => exact ⟨v, rfl, h⟩

/-! ### Shapes -/
theorem exLs_some {f : TypeId → (List Value → Prop) → Prop} (hf : ∀ t C, f t C → ∃ l, C l) : ∀ {ts : List TypeId} {C : List Value → Prop}, exLs f ts C → ∃ l, C l
  | [], C, h => ⟨_, h⟩
  | t :: r, C, h => by
    obtain ⟨l, h⟩ := hf _ _ h
    obtain ⟨l', h⟩ := exLs_some hf h
    exact ⟨_, h⟩
theorem exC_some {P : Program} : ∀ (n : Nat) (T : TypeId) (C : List Value → Prop), exC P n T C → ∃ l, C l
  | 0, T, C, h => h
  | n + 1, T, C, h => by
    simp only [exC] at h
    split at h
    · obtain ⟨_, h⟩ := h; exact ⟨_, h⟩
    · obtain ⟨_, h⟩ := h; exact ⟨_, h⟩
    · obtain ⟨_, h⟩ := h; exact ⟨_, h⟩
    · obtain ⟨_, h⟩ := h; exact ⟨_, h⟩
    · obtain ⟨_, _, _, h⟩ := h; exact ⟨_, h⟩
    · obtain ⟨_, h⟩ := h; exact ⟨_, h⟩
    · exact exLs_some (exC_some n) h
    · exact h
    · obtain ⟨_, h⟩ := h; exact ⟨_, h⟩
theorem exV_some {P : Program} {T : TypeId} {C : Value → Prop} (h : exV P T C) : ∃ v, C v := by
  simp only [exV] at h
  split at h
  · obtain ⟨_, h⟩ := exC_some _ _ _ h; exact ⟨_, h⟩
  · obtain ⟨_, h⟩ := h; exact ⟨_, h⟩
  · obtain ⟨_, h⟩ := h; exact ⟨_, h⟩
  · obtain ⟨_, h⟩ := h; exact ⟨_, h⟩
  · obtain ⟨_, h⟩ := h; exact ⟨_, h⟩
  · obtain ⟨_, h⟩ := h; exact ⟨_, h⟩
  · obtain ⟨_, _, _, h⟩ := h; exact ⟨_, h⟩
  · obtain ⟨_, h⟩ := h; exact ⟨_, h⟩
  · obtain ⟨_, h⟩ := h; exact ⟨_, h⟩
theorem exVs_some {P : Program} : ∀ {ts : List TypeId} {C : List Value → Prop}, exVs P ts C → ∃ l, C l
  | [], C, h => ⟨_, h⟩
  | t :: r, C, h => by
    obtain ⟨v, h⟩ := exV_some h
    obtain ⟨l, h⟩ := exVs_some h
    exact ⟨_, h⟩
theorem exT_some {P : Program} {T : TypeId} {C : Value → Prop} (h : exT P T C) : ∃ v, C v := by
  simp only [exT] at h
  split at h
  · obtain ⟨_, h⟩ := exVs_some h; exact ⟨_, h⟩
  · exact exV_some h

theorem exLs_mono {f : TypeId → (List Value → Prop) → Prop} (hf : ∀ t (C C' : List Value → Prop), (∀ l, C l → C' l) → f t C → f t C') : ∀ {ts : List TypeId} {C C' : List Value → Prop}, (∀ l, C l → C' l) → exLs f ts C → exLs f ts C'
  | [], C, C', hc, h => hc _ h
  | t :: r, C, C', hc, h => hf _ _ _ (fun l h => exLs_mono hf (fun l' h => hc _ h) h) h
theorem exC_mono {P : Program} : ∀ (n : Nat) (T : TypeId) (C C' : List Value → Prop), (∀ l, C l → C' l) → exC P n T C → exC P n T C'
  | 0, T, C, C', hc, ⟨l, h⟩ => ⟨l, hc _ h⟩
  | n + 1, T, C, C', hc, h => by
    simp only [exC] at h ⊢
    cases hu : P.underlying T with
    | none => rw [hu] at h; obtain ⟨x, h⟩ := h; exact ⟨x, hc _ h⟩
    | some d =>
      rw [hu] at h
      cases d <;> first
        | (obtain ⟨x, y, z, h⟩ := h; exact ⟨x, y, z, hc _ h⟩)
        | (obtain ⟨x, h⟩ := h; exact ⟨x, hc _ h⟩)
        | exact exLs_mono (fun t C C' hc h => exC_mono n t C C' hc h) hc h
theorem exV_mono {P : Program} {T : TypeId} {C C' : Value → Prop} (hc : ∀ v, C v → C' v) (h : exV P T C) : exV P T C' := by
  simp only [exV] at h ⊢
  cases hu : P.underlying T with
  | none => rw [hu] at h; obtain ⟨x, h⟩ := h; exact ⟨x, hc _ h⟩
  | some d =>
    rw [hu] at h
    cases d <;> first
      | (obtain ⟨x, y, z, h⟩ := h; exact ⟨x, y, z, hc _ h⟩)
      | (obtain ⟨x, h⟩ := h; exact ⟨x, hc _ h⟩)
      | exact exC_mono _ _ _ _ (fun l h => hc _ h) h
theorem exVs_mono {P : Program} : ∀ {ts : List TypeId} {C C' : List Value → Prop}, (∀ l, C l → C' l) → exVs P ts C → exVs P ts C'
  | [], C, C', hc, h => hc _ h
  | t :: r, C, C', hc, h => exV_mono (fun v h => exVs_mono (fun l h => hc _ h) h) h
theorem exT_mono {P : Program} {T : TypeId} {C C' : Value → Prop} (hc : ∀ v, C v → C' v) (h : exT P T C) : exT P T C' := by
  simp only [exT] at h ⊢
  cases hu : P.underlying T with
  | none => rw [hu] at h; exact exV_mono hc h
  | some d =>
    rw [hu] at h
    cases d <;> first
      | exact exV_mono hc h
      | exact exVs_mono (fun l h => hc _ h) h
/-- what holds of a value of the shape: the shape is that of this value alone -/
theorem exLs_one {f : TypeId → (List Value → Prop) → Prop} (hf : ∀ t (C : List Value → Prop), f t C → ∃ l, C l ∧ ∀ C' : List Value → Prop, C' l → f t C') : ∀ {ts : List TypeId} {C : List Value → Prop}, exLs f ts C → ∃ l, C l ∧ ∀ C' : List Value → Prop, C' l → exLs f ts C'
  | [], C, h => ⟨_, h, fun _ h => h⟩
  | t :: r, C, h => by
    obtain ⟨l, h, h1⟩ := hf _ _ h
    obtain ⟨l', h, h2⟩ := exLs_one hf h
    exact ⟨_, h, fun C' hc => h1 _ (h2 _ hc)⟩
theorem exC_one {P : Program} : ∀ (n : Nat) (T : TypeId) (C : List Value → Prop), exC P n T C → ∃ l, C l ∧ ∀ C' : List Value → Prop, C' l → exC P n T C'
  | 0, T, C, ⟨l, h⟩ => ⟨l, h, fun C' h => ⟨l, h⟩⟩
  | n + 1, T, C, h => by
    simp only [exC] at h ⊢
    cases hu : P.underlying T with
    | none => rw [hu] at h; obtain ⟨x, h⟩ := h; exact ⟨_, h, fun C' h => ⟨x, h⟩⟩
    | some d =>
      rw [hu] at h
      cases d <;> first
        | (obtain ⟨x, y, z, h⟩ := h; exact ⟨_, h, fun C' h => ⟨x, y, z, h⟩⟩)
        | (obtain ⟨x, h⟩ := h; exact ⟨_, h, fun C' h => ⟨x, h⟩⟩)
        | exact exLs_one (fun t C h => exC_one n t C h) h
theorem exV_one {P : Program} {T : TypeId} {C : Value → Prop} (h : exV P T C) : ∃ v, C v ∧ ∀ C' : Value → Prop, C' v → exV P T C' := by
  simp only [exV] at h ⊢
  cases hu : P.underlying T with
  | none => rw [hu] at h; obtain ⟨x, h⟩ := h; exact ⟨_, h, fun C' h => ⟨x, h⟩⟩
  | some d =>
    rw [hu] at h
    cases d <;> first
      | (obtain ⟨x, y, z, h⟩ := h; exact ⟨_, h, fun C' h => ⟨x, y, z, h⟩⟩)
      | (obtain ⟨x, h⟩ := h; exact ⟨_, h, fun C' h => ⟨x, h⟩⟩)
      | (obtain ⟨l, h, h1⟩ := exC_one _ _ _ h; exact ⟨_, h, fun C' h => h1 _ h⟩)
theorem exVs_one {P : Program} : ∀ {ts : List TypeId} {C : List Value → Prop}, exVs P ts C → ∃ l, C l ∧ ∀ C' : List Value → Prop, C' l → exVs P ts C'
  | [], C, h => ⟨_, h, fun _ h => h⟩
  | t :: r, C, h => by
    obtain ⟨v, h, h1⟩ := exV_one h
    obtain ⟨l, h, h2⟩ := exVs_one h
    exact ⟨_, h, fun C' hc => h1 _ (h2 _ hc)⟩
theorem exT_one {P : Program} {T : TypeId} {C : Value → Prop} (h : exT P T C) : ∃ v, C v ∧ ∀ C' : Value → Prop, C' v → exT P T C' := by
  simp only [exT] at h ⊢
  cases hu : P.underlying T with
  | none => rw [hu] at h; exact exV_one h
  | some d =>
    rw [hu] at h
    cases d <;> first
      | exact exV_one h
      | (obtain ⟨l, h, h1⟩ := exVs_one h; exact ⟨_, h, fun C' h => h1 _ h⟩)
theorem exO_some {P : Program} {T : Option TypeId} {C : Value → Prop} (h : exO P T C) : ∃ v, C v := by
  cases T with
  | none => exact h
  | some t => exact exT_some h
theorem exO_mono {P : Program} {T : Option TypeId} {C C' : Value → Prop} (hc : ∀ v, C v → C' v) (h : exO P T C) : exO P T C' := by
  cases T with
  | none => obtain ⟨v, h⟩ := h; exact ⟨v, hc v h⟩
  | some t => exact exT_mono hc h

/-! ### Numbers -/
theorem wrap_inR {k : IntKind} {z : Int} (h : inR k z) : k.wrap z = z := by
  cases k <;> simp [inR, IntKind.min, IntKind.max, IntKind.signed, IntKind.bits] at h
  · exact IntWalk.i8_in _ (by omega)
  · exact IntWalk.i16_in _ (by omega)
  · exact IntWalk.i32_in _ (by omega)
  · exact IntWalk.i64_in _ (by omega)
  · exact IntWalk.u8_in _ (by omega)
  · exact IntWalk.u16_in _ (by omega)
  · exact IntWalk.u32_in _ (by omega)
  · exact IntWalk.u64_in _ (by omega)

theorem arith_one {wr : Bool} {k : IntKind} {z : Int} {K : Value → Prop} (h : arith wr k z K) : K (.int k (k.wrap z)) ∧ ∀ K' : Value → Prop, K' (.int k (k.wrap z)) → arith wr k z K' := by
  cases wr with
  | true => exact ⟨h, fun K' h => h⟩
  | false => obtain ⟨h1, h2⟩ := h; rw [wrap_inR h1]; exact ⟨h2, fun K' h => ⟨h1, h⟩⟩

theorem toList_eq (a b : ByteArray) : (a.toList == b.toList) = decide (a = b) := by
  rw [ByteArray.toList_eq, ByteArray.toList_eq, Bool.eq_iff_iff]
  simp only [beq_iff_eq, decide_eq_true_eq]
  constructor
  · intro h
    cases a; cases b
    simp only [ByteArray.mk.injEq]
    exact Array.toList_inj.1 h
  · rintro rfl; rfl

/-! ### Literals -/
theorem over_cons (x : Value) (r : List Value) : ∀ (n : Nat) (cs : List Value), n < cs.length → over (x :: r) n cs = over r (n + 1) (cs.set n x) := by
  intro n cs h
  induction cs generalizing n with
  | nil => simp at h
  | cons c cs ih =>
    cases n with
    | zero =>
      simp only [over, List.set_cons_zero]
      cases r <;> simp [over]
    | succ n =>
      simp only [over, List.set_cons_succ]
      rw [ih n (by simpa using h)]
      cases r with
      | nil => simp [over]
      | cons y r => simp [over]
theorem over_nil : ∀ (n : Nat) (cs : List Value), over [] n cs = cs
  | 0, _ => by simp [over]
  | n + 1, _ => by simp [over]
theorem over_length (l : List Value) : ∀ (n : Nat) (cs : List Value), n + l.length ≤ cs.length → (over l n cs).length = cs.length := by
  induction l with
  | nil => intro n cs _; rw [over_nil]
  | cons x r ih =>
    intro n cs h
    simp at h
    rw [over_cons x r n cs (by omega), ih _ _ (by simp; omega)]
    simp
theorem foldl_over (off : Nat) : ∀ (l : List Value) (j : Nat) (cells : Array Value), off + j + l.length ≤ cells.size →
    ((l.zipIdx j).foldl (fun cs (p : Value × Nat) => cs.setIfInBounds (off + p.2) p.1) cells).toList = over l (off + j) cells.toList
  | [], j, cells, h => by simp [over_nil]
  | x :: r, j, cells, h => by
    simp only [List.length_cons] at h
    simp only [List.zipIdx_cons, List.foldl_cons]
    rw [foldl_over off r (j + 1) _ (by simp; omega), over_cons x r _ _ (by simp; omega)]
    simp only [Array.toList_setIfInBounds]
    congr 1
theorem fill_sound (place : Nat → Option (Nat × Nat)) : ∀ (ps : List (Nat × Value)) (cs l : List Value), fillL place ps cs = some l → Instr.fill place cs.toArray ps = some l.toArray
  | [], cs, l, h => by simp [fillL] at h; simp [Instr.fill, h]
  | (i, v) :: r, cs, l, h => by
    simp only [fillL] at h
    simp only [Instr.fill]
    cases hp : place i with
    | none => simp [hp] at h
    | some p =>
      obtain ⟨off, size⟩ := p
      simp only [hp] at h ⊢
      split at h
      · cases h
      · rename_i hc
        have hc' : (decide (v.cells.size ≠ size) || decide (off + v.cells.size > cs.toArray.size)) = false := by simpa using hc
        simp only [Bool.or_eq_false_iff, decide_eq_false_iff_not] at hc'
        rw [if_neg (by simpa using hc)]
        have e := foldl_over off v.cells.toList 0 cs.toArray (by have := hc'.2; simp at this ⊢; omega)
        have e2 : (v.cells.zipIdx.foldl (fun cs (p : Value × Nat) => cs.setIfInBounds (off + p.2) p.1) cs.toArray) = (over v.cells.toList off cs).toArray := by
          apply Array.toList_inj.1
          rw [← Array.foldl_toList, Array.toList_zipIdx]
          simpa using e
        have := fill_sound place r _ l h
        rw [← e2] at this
        exact this
theorem run_sizes {P : Program} {w : World} : ∀ {fs : List Field} {pl : List (Nat × Nat)}, sizesOf P fs = some pl →
    (fs.mapM (m := Sem) fun f => do pure (f.offset, ← sizeOf f.type)).run P w = .ok pl w
  | [], pl, h => by simp [sizesOf] at h; subst h; rfl
  | f :: r, pl, h => by
    simp only [sizesOf] at h
    split at h
    · rename_i i hi
      split at h
      · rename_i l hl
        cases h
        have := run_sizes (w := w) hl
        have hs : (sizeOf f.type).run P w = .ok i.size w := by simp [sizeOf, typeInfo, hi]
        simp only [List.mapM_cons, Sem.run_bind, Sem.run_map, hs, this, Result.andThen_ok, Sem.run_pure]
      · cases h
    · cases h
theorem force_one : ∀ {l : List Value} {k : List Value → Prop}, force l k ↔ k l
  | [], k => Iff.rfl
  | x :: r, k => force_one (l := r) (k := fun r' => k (x :: r'))
theorem forceB_one {b : Bool} {l : List Value} {k : List Value → Prop} : forceB b l k ↔ k l := by
  cases b
  · exact force_one
  · exact Iff.rfl
theorem zl_of {P : Program} {t : TypeId} {z : Value} (h : zeroOf P t = some z) : zl P t = z.cells.toList := by simp [zl, h]
theorem bigL_of {P : Program} {t : TypeId} {ps : List (Nat × Value)} {cs : List Value} (h : buildL P t ps = some cs) : bigL P t ps = cs := by simp [bigL, h]
theorem run_zero {P : Program} {t : TypeId} {z : Value} (h : zeroOf P t = some z) (w : World) : (zeroValue t).run P w = .ok z w := by
  simp only [zeroOf] at h
  split at h
  · rename_i i hi
    simp [zeroValue, typeInfo, hi, h]
  · cases h
theorem run_size {P : Program} {t : TypeId} {n : Nat} (h : sizeV P t = some n) (w : World) : (sizeOf t).run P w = .ok n w := by
  simp only [sizeV] at h
  split at h
  · rename_i i hi
    cases h
    simp [sizeOf, typeInfo, hi]
  · cases h
theorem run_und {P : Program} {t : TypeId} {d : TypeDesc} (h : P.underlying t = some d) (w : World) : (underlying t).run P w = .ok d w := by
  simp [underlying, h]
theorem build_sound {P : Program} {t : TypeId} {ps : List (Nat × Value)} {l : List Value} (h : buildL P t ps = some l) (w : World) :
    (Instr.build t ps.toArray).run P w = .ok (.agg l.toArray) w := by
  simp only [buildL] at h
  split at h
  · cases h
  · rename_i z hz
    split at h
    · rename_i fs hu
      split at h
      · rename_i pl hpl
        have e := fill_sound _ _ _ _ h
        have e1 : (z.cells.toList).toArray = z.cells := by simp
        rw [e1] at e
        have e2 : (fun i : Nat => pl[i]?) = (fun i : Nat => (pl.toArray)[i]?) := by funext i; simp
        rw [e2] at e
        simp only [Instr.build, Sem.run_bind, run_zero hz, run_und hu, Result.andThen_ok, Sem.run_pure]
        rw [Array.mapM_eq_mapM_toList]
        simp only [Sem.run_map, run_sizes hpl, Result.andThen_ok]
        rw [e]
        simp
      · cases h
    · rename_i n e hu
      split at h
      · rename_i sz hsz
        have e := fill_sound _ _ _ _ h
        have e1 : (z.cells.toList).toArray = z.cells := by simp
        rw [e1] at e
        simp [Instr.build, run_zero hz, run_und hu, run_size hsz, e]
      · cases h
    · cases h

/-! ### Slices -/
theorem opI_one {fr : Fr} {nt : Nat} {ds : List Deferred} {x : Option Operand} {k : Option Int → Prop} (h : opI fr x k) :
    ∃ i, k i ∧ (∀ k' : Option Int → Prop, k' i → opI fr x k') ∧ ∀ (a : Act), Ref nt ds fr a → (x = none ∧ i = none ∧ x.map a.eval = none) ∨ (∃ j kd, i = some j ∧ x.map a.eval = some (.int kd j)) := by
  cases x with
  | none => exact ⟨none, h, fun _ h => h, fun a hr => .inl ⟨rfl, rfl, rfl⟩⟩
  | some o =>
    simp only [opI] at h
    cases he : ev fr o with
    | none => simp [he] at h
    | some v =>
      cases v <;> simp only [he] at h <;> try exact h.elim
      rename_i kd i
      exact ⟨some i, h, fun k' h' => by simp only [opI, he]; exact h', fun a hr => .inr ⟨i, kd, rfl, by simp [hr.ev he]⟩⟩
theorem run_bound {P : Program} {w : World} {kd : IntKind} {i : Int} {y : Nat} {c : BoundsCode} (h : 0 ≤ i ∧ i ≤ y) : (Instr.sliceBound (.int kd i) y c).run P w = .ok i.toNat w := by
  simp [Instr.sliceBound, asIntOf, h]
theorem slA_zero (a : Option Addr) (m size : Nat) : (if m = 0 then a else a.map (·.add (0 * size))) = a := by
  split
  · rfl
  · cases a <;> simp [Addr.add]
/-- what an option of an Int stands for -/
def IsI (v : Option Value) (i : Option Int) : Prop := (i = none ∧ v = none) ∨ ∃ j kd, i = some j ∧ v = some (.int kd j)
theorem isI_none {v : Option Value} (h : IsI v none) : v = none := by
  rcases h with ⟨-, h⟩ | ⟨_, _, h, -⟩
  · exact h
  · cases h
theorem isI_some {v : Option Value} {j : Int} (h : IsI v (some j)) : ∃ kd, v = some (.int kd j) := by
  rcases h with ⟨h, -⟩ | ⟨_, kd, h, h'⟩
  · cases h
  · cases h; exact ⟨kd, h'⟩
theorem slc_one {P : Program} {a : Option Addr} {n c size : Nat} {lo hi mx : Option Int} {K : Value → Prop} (h : slcV a n c size lo hi mx K) :
    ∃ v, K v ∧ (∀ K' : Value → Prop, K' v → slcV a n c size lo hi mx K') ∧ ∀ (isS : Bool) (vl vh vm : Option Value), IsI vl lo → IsI vh hi → IsI vm mx → ∀ w, ∃ l h m,
      (Instr.sliceBounds isS n c vl vh vm).run P w = .ok (l, h, m) w ∧ v = .slice (if m = l then a else a.map (·.add (l * size))) (h - l) (m - l) := by
  simp only [slcV] at h ⊢
  cases mx with
  | none =>
    cases hi with
    | none =>
      cases lo with
      | none =>
        refine ⟨_, h, fun _ h => h, fun isS vl vh vm h1 h2 h3 w => ⟨0, n, c, ?_, ?_⟩⟩
        · obtain rfl := isI_none h1
          obtain rfl := isI_none h2
          obtain rfl := isI_none h3
          simp [Instr.sliceBounds]
        · rw [slA_zero]; simp
      | some l =>
        obtain ⟨⟨l0, l1⟩, h⟩ := h
        refine ⟨_, h, fun _ h => ⟨⟨l0, l1⟩, h⟩, fun isS vl vh vm h1 h2 h3 w => ⟨l.toNat, n, c, ?_, rfl⟩⟩
        obtain ⟨_, rfl⟩ := isI_some h1
        obtain rfl := isI_none h2
        obtain rfl := isI_none h3
        simp [Instr.sliceBounds, run_bound (y := n) ⟨l0, l1⟩]
    | some h' =>
      cases lo with
      | none =>
        obtain ⟨⟨l0, l1⟩, h⟩ := h
        refine ⟨_, h, fun _ h => ⟨⟨l0, l1⟩, h⟩, fun isS vl vh vm h1 h2 h3 w => ⟨0, h'.toNat, c, ?_, by rw [slA_zero]; simp⟩⟩
        obtain rfl := isI_none h1
        obtain ⟨_, rfl⟩ := isI_some h2
        obtain rfl := isI_none h3
        simp [Instr.sliceBounds, run_bound (y := c) ⟨l0, l1⟩]
      | some l =>
        obtain ⟨⟨l0, l1, l2⟩, h⟩ := h
        refine ⟨_, h, fun _ h => ⟨⟨l0, l1, l2⟩, h⟩, fun isS vl vh vm h1 h2 h3 w => ⟨l.toNat, h'.toNat, c, ?_, rfl⟩⟩
        obtain ⟨_, rfl⟩ := isI_some h1
        obtain ⟨_, rfl⟩ := isI_some h2
        obtain rfl := isI_none h3
        simp [Instr.sliceBounds, run_bound (y := c) (i := h') ⟨by omega, l2⟩, run_bound (y := h'.toNat) (i := l) ⟨l0, by omega⟩]
  | some m =>
    cases hi with
    | none => cases lo <;> exact h.elim
    | some h' =>
      cases lo with
      | none =>
        obtain ⟨⟨l0, l1, l2⟩, h⟩ := h
        refine ⟨_, h, fun _ h => ⟨⟨l0, l1, l2⟩, h⟩, fun isS vl vh vm h1 h2 h3 w => ⟨0, h'.toNat, m.toNat, ?_, by rw [slA_zero]; simp⟩⟩
        obtain rfl := isI_none h1
        obtain ⟨_, rfl⟩ := isI_some h2
        obtain ⟨_, rfl⟩ := isI_some h3
        simp [Instr.sliceBounds, run_bound (y := c) (i := m) ⟨by omega, l2⟩, run_bound (y := m.toNat) (i := h') ⟨l0, by omega⟩]
      | some l =>
        obtain ⟨⟨l0, l1, l2, l3⟩, h⟩ := h
        refine ⟨_, h, fun _ h => ⟨⟨l0, l1, l2, l3⟩, h⟩, fun isS vl vh vm h1 h2 h3 w => ⟨l.toNat, h'.toNat, m.toNat, ?_, rfl⟩⟩
        obtain ⟨_, rfl⟩ := isI_some h1
        obtain ⟨_, rfl⟩ := isI_some h2
        obtain ⟨_, rfl⟩ := isI_some h3
        simp [Instr.sliceBounds, run_bound (y := c) (i := m) ⟨by omega, l3⟩, run_bound (y := m.toNat) (i := h') ⟨by omega, by omega⟩, run_bound (y := h'.toNat) (i := l) ⟨l0, by omega⟩]

theorem slice_one {P : Program} {nt : Nat} {ds : List Deferred} {fr : Fr} {t : TypeId} {x : Value} {lo hi mx : Option Operand} {K : Value → Prop} (h : sliceV P fr t x lo hi mx K) :
    ∃ v, K v ∧ (∀ K' : Value → Prop, K' v → sliceV P fr t x lo hi mx K') ∧ ∀ a, Ref nt ds fr a → ∀ w, (Instr.sliceAt t x (lo.map a.eval) (hi.map a.eval) (mx.map a.eval)).run P w = .ok v w := by
  simp only [sliceV] at h ⊢
  obtain ⟨l, ha, e1, f1⟩ := opI_one (nt := nt) (ds := ds) h
  clear h
  obtain ⟨hh, hb, e2, f2⟩ := opI_one (nt := nt) (ds := ds) ha
  clear ha
  obtain ⟨m, h, e3, f3⟩ := opI_one (nt := nt) (ds := ds) hb
  clear hb
  have g1 : ∀ a, Ref nt ds fr a → IsI (lo.map a.eval) l := fun a hr => by
    rcases f1 a hr with ⟨h, h', h''⟩ | h
    · exact .inl ⟨h', h''⟩
    · exact .inr h
  have g2 : ∀ a, Ref nt ds fr a → IsI (hi.map a.eval) hh := fun a hr => by
    rcases f2 a hr with ⟨h, h', h''⟩ | h
    · exact .inl ⟨h', h''⟩
    · exact .inr h
  have g3 : ∀ a, Ref nt ds fr a → IsI (mx.map a.eval) m := fun a hr => by
    rcases f3 a hr with ⟨h, h', h''⟩ | h
    · exact .inl ⟨h', h''⟩
    · exact .inr h
  have back : ∀ {v : Value}, (∀ K' : Value → Prop, K' v → slxV P t x l hh m K') → ∀ K' : Value → Prop, K' v → sliceV P fr t x lo hi mx K' := fun hb K' hk => e1 _ (e2 _ (e3 _ (hb K' hk)))
  clear e1 e2 e3 f1 f2 f3
  simp only [slxV] at h back
  split at h
  · rename_i s hu
    have hgo : ∀ (lo' hi' : Nat) (vl vh vm : Option Value) w, vm = none → (Instr.sliceBounds false s.size s.size vl vh none).run P w = .ok (lo', hi', s.size) w → (Instr.sliceAt t (.string s) vl vh vm).run P w = .ok (.string (s.extract lo' hi')) w := by
      rintro lo' hi' vl vh vm w rfl hb
      simp [Instr.sliceAt, run_und hu, Instr.slice, hb]
    cases m with
    | some m => cases hh <;> cases l <;> exact h.elim
    | none =>
      have vm0 : ∀ a, Ref nt ds fr a → mx.map a.eval = none := fun a hr => isI_none (g3 a hr)
      cases hh with
      | none =>
        cases l with
        | none =>
          refine ⟨_, h, back (fun _ h => by simp only [hu]; exact h), fun a hr w => hgo 0 s.size _ _ _ w (vm0 a hr) ?_⟩
          rw [isI_none (g1 a hr)]
          rw [isI_none (g2 a hr)]
          simp [Instr.sliceBounds]
        | some l =>
          obtain ⟨⟨l0, l1⟩, h⟩ := h
          refine ⟨_, h, back (fun _ h => by simp only [hu]; exact ⟨⟨l0, l1⟩, h⟩), fun a hr w => hgo l.toNat s.size _ _ _ w (vm0 a hr) ?_⟩
          obtain ⟨kd, h'⟩ := isI_some (g1 a hr)
          rw [isI_none (g2 a hr)]
          rw [h']
          simp [Instr.sliceBounds, run_bound (y := s.size) ⟨l0, l1⟩]
      | some hh =>
        cases l with
        | none =>
          obtain ⟨⟨l0, l1⟩, h⟩ := h
          refine ⟨_, h, back (fun _ h => by simp only [hu]; exact ⟨⟨l0, l1⟩, h⟩), fun a hr w => hgo 0 hh.toNat _ _ _ w (vm0 a hr) ?_⟩
          rw [isI_none (g1 a hr)]
          obtain ⟨kd, h'⟩ := isI_some (g2 a hr)
          rw [h']
          simp [Instr.sliceBounds, run_bound (y := s.size) ⟨l0, l1⟩]
        | some l =>
          obtain ⟨⟨l0, l1, l2⟩, h⟩ := h
          refine ⟨_, h, back (fun _ h => by simp only [hu]; exact ⟨⟨l0, l1, l2⟩, h⟩), fun a hr w => hgo l.toNat hh.toNat _ _ _ w (vm0 a hr) ?_⟩
          obtain ⟨kd, h'⟩ := isI_some (g1 a hr)
          obtain ⟨kd', h''⟩ := isI_some (g2 a hr)
          rw [h', h'']
          simp [Instr.sliceBounds, run_bound (y := s.size) (i := hh) ⟨by omega, l2⟩, run_bound (y := hh.toNat) (i := l) ⟨l0, by omega⟩]
  · rename_i e ad n c hu
    split at h
    · rename_i size hs
      obtain ⟨v, hv, hk, hrun⟩ := slc_one (P := P) h
      refine ⟨v, hv, back (fun _ h => by simp only [hu, hs]; exact hk _ h), fun a hr w => ?_⟩
      obtain ⟨l', h', m', hb, rfl⟩ := hrun true _ _ _ (g1 a hr) (g2 a hr) (g3 a hr) w
      simp [Instr.sliceAt, run_und hu, Instr.slice, hb, run_size hs]
    · exact h.elim
  · rename_i n e p hu
    split at h
    · rename_i size hs
      obtain ⟨ad, rfl, h⟩ := onP_some h
      obtain ⟨v, hv, hk, hrun⟩ := slc_one (P := P) h
      refine ⟨v, hv, back (fun _ h => by simp only [hu, hs]; exact hk _ h), fun a hr w => ?_⟩
      obtain ⟨l', h', m', hb, rfl⟩ := hrun false _ _ _ (g1 a hr) (g2 a hr) (g3 a hr) w
      simp [Instr.sliceAt, run_und hu, Instr.sureAddr, hb, run_size hs]
      split <;> rfl
    · exact h.elim
  · exact h.elim

/-! ### Operators -/
theorem eqGuard_int {P : Program} {op : BinOp} {t : TypeId} {x y : Operand} {k k' : IntKind} {a b : Int} (w : World) : (eqGuard op t x y (.int k a) (.int k' b)).run P w = .ok () w := by
  unfold eqGuard; split <;> rfl
theorem eqGuard_str {P : Program} {op : BinOp} {t : TypeId} {x y : Operand} {a b : ByteArray} (w : World) : (eqGuard op t x y (.string a) (.string b)).run P w = .ok () w := by
  unfold eqGuard; split <;> rfl
theorem eqGuard_bool {P : Program} {op : BinOp} {t : TypeId} {x y : Operand} {a b : Bool} (w : World) : (eqGuard op t x y (.bool a) (.bool b)).run P w = .ok () w := by
  unfold eqGuard; split <;> rfl
theorem equalIn_bool {P : Program} {t : TypeId} {a b : Bool} (h : P.underlying t = some .bool) (d : Nat) (w : World) : (Op.equalIn (d + 1) t (.bool a) (.bool b)).run P w = .ok (a == b) w := by
  simp [Op.equalIn, run_und h]
theorem equal_bool {P : Program} {t : TypeId} {a b : Bool} (h : P.underlying t = some .bool) (w : World) : (Op.equal t (.bool a) (.bool b)).run P w = .ok (a == b) w :=
  equalIn_bool h 9999 w

theorem data_eq (a b : ByteArray) : (a.data.toList == b.data.toList) = decide (a = b) := by
  have := toList_eq a b
  rwa [ByteArray.toList_eq, ByteArray.toList_eq] at this
theorem beq_dec (a b : Int) : (a == b) = decide (a = b) := rfl
theorem bne_dec (a b : Int) : (a != b) = !decide (a = b) := rfl

/-- an operator's value -/
theorem bin_one {wr : Bool} {P : Program} {op : BinOp} {t : TypeId} {a b : Value} {K : Value → Prop} (h : binV wr P op t a b K) :
    ∃ v, K v ∧ (∀ K' : Value → Prop, K' v → binV wr P op t a b K') ∧ ∀ (x y : Operand) (w : World), (do eqGuard op t x y a b; binOp op t a b : Sem Value).run P w = .ok v w := by
  cases a with
  | int k a =>
    cases b with
    | int k' b =>
      have e : ∀ {v : Value} (x y : Operand) (w : World), (binOp op t (.int k a) (.int k' b)).run P w = .ok v w → (do eqGuard op t x y (.int k a) (.int k' b); binOp op t (.int k a) (.int k' b) : Sem Value).run P w = .ok v w := by
        intro v x y w hb
        simp only [Sem.run_bind, eqGuard_int, Result.andThen_ok, hb]
      by_cases hk : k = k'
      · subst hk
        cases op with
        | shl =>
          simp only [binV] at h
          obtain ⟨h0, h⟩ := h
          obtain ⟨h, hb⟩ := arith_one h
          refine ⟨_, h, fun K' hK => ⟨h0, hb _ hK⟩, fun x y w => e x y w ?_⟩
          simp [binOp, Op.shift, show ¬ b < 0 from by omega]
        | shr =>
          simp only [binV] at h
          obtain ⟨h0, h⟩ := h
          refine ⟨_, h, fun K' hK => ⟨h0, hK⟩, fun x y w => e x y w ?_⟩
          simp [binOp, Op.shift, show ¬ b < 0 from by omega]
        | add | sub | mul =>
          simp only [binV, if_true] at h
          obtain ⟨h, hb⟩ := arith_one h
          refine ⟨_, h, fun K' hK => by simp only [binV, if_true]; exact hb _ hK, fun x y w => e x y w ?_⟩
          simp [binOp, Op.intArith]
        | quo =>
          simp only [binV, if_true] at h
          obtain ⟨h0, h⟩ := h
          obtain ⟨h, hb⟩ := arith_one h
          refine ⟨_, h, fun K' hK => by simp only [binV, if_true]; exact ⟨h0, hb _ hK⟩, fun x y w => e x y w ?_⟩
          simp [binOp, Op.intDiv, h0]
        | rem =>
          simp only [binV, if_true] at h
          obtain ⟨h0, h⟩ := h
          refine ⟨_, h, fun K' hK => by simp only [binV, if_true]; exact ⟨h0, hK⟩, fun x y w => e x y w ?_⟩
          simp [binOp, Op.intDiv, h0]
        | and | or | xor | andNot =>
          simp only [binV, if_true] at h
          refine ⟨_, h, fun K' hK => by simp only [binV, if_true]; exact hK, fun x y w => e x y w ?_⟩
          simp [binOp, Op.intBits, bits]
        | eql | neq | lss | leq | gtr | geq =>
          simp only [binV, if_true] at h
          refine ⟨_, h, fun K' hK => by simp only [binV, if_true]; exact hK, fun x y w => e x y w ?_⟩
          simp [binOp, Op.intCmp, bne_dec, beq_dec]
      · cases op with
        | shl =>
          simp only [binV] at h
          obtain ⟨h0, h⟩ := h
          obtain ⟨h, hb⟩ := arith_one h
          refine ⟨_, h, fun K' hK => ⟨h0, hb _ hK⟩, fun x y w => e x y w ?_⟩
          simp [binOp, Op.shift, show ¬ b < 0 from by omega]
        | shr =>
          simp only [binV] at h
          obtain ⟨h0, h⟩ := h
          refine ⟨_, h, fun K' hK => ⟨h0, hK⟩, fun x y w => e x y w ?_⟩
          simp [binOp, Op.shift, show ¬ b < 0 from by omega]
        | _ => simp [binV, hk] at h
    | _ => cases op <;> exact h.elim
  | string a =>
    cases b with
    | string b =>
      have e : ∀ {v : Value} (x y : Operand) (w : World), (binOp op t (.string a) (.string b)).run P w = .ok v w → (do eqGuard op t x y (.string a) (.string b); binOp op t (.string a) (.string b) : Sem Value).run P w = .ok v w := by
        intro v x y w hb
        simp only [Sem.run_bind, eqGuard_str, Result.andThen_ok, hb]
      cases op <;> simp only [binV] at h <;> first
        | exact h.elim
        | (obtain ⟨h0, h⟩ := h
           refine ⟨_, h, fun K' hK => by simp only [binV]; exact ⟨h0, hK⟩, fun x y w => e x y w ?_⟩
           have hm : IntKind.i64.max = 9223372036854775807 := by decide
           simp only [binOp, Op.stringOp, hm]
           rw [if_neg (by omega)]
           rfl)
        | (refine ⟨_, h, fun K' hK => by simp only [binV]; exact hK, fun x y w => e x y w ?_⟩
           simp only [binOp, Op.stringOp, ByteArray.toList_eq, data_eq, Sem.run_pure])
    | _ => cases op <;> exact h.elim
  | bool a =>
    cases b with
    | bool b =>
      cases op <;> simp only [binV] at h <;> first
        | exact h.elim
        | (split at h
           · rename_i hu
             refine ⟨_, h, fun K' hK => by simp only [binV, hu]; exact hK, fun x y w => ?_⟩
             simp only [Sem.run_bind, eqGuard_bool, Result.andThen_ok, binOp, equal_bool hu, Sem.run_pure]
           · exact h.elim)
    | _ => cases op <;> exact h.elim
  | _ => cases op <;> exact h.elim

theorem un_one {wr : Bool} {P : Program} {op : UnOp} {a : Value} {K : Value → Prop} (h : unV wr op a K) :
    ∃ v, K v ∧ (∀ K' : Value → Prop, K' v → unV wr op a K') ∧ ∀ (w : World), (Op.unary op a).run P w = .ok v w := by
  cases op <;> cases a <;> simp only [unV] at h <;> try exact h.elim
  · obtain ⟨h, hb⟩ := arith_one h
    exact ⟨_, h, fun K' hK => hb _ hK, fun w => rfl⟩
  · exact ⟨_, h, fun K' hK => hK, fun w => rfl⟩
  · exact ⟨_, h, fun K' hK => hK, fun w => rfl⟩

theorem part_one {P : Program} {t : TypeId} {cs : List Value} {off : Nat} {K : Value → Prop} (h : partV P t cs off K) :
    ∃ v, K v ∧ (∀ K' : Value → Prop, K' v → partV P t cs off K') ∧ ∀ (w : World), (part t cs.toArray off).run P w = .ok v w := by
  have agg : ∀ (n : Nat) (w : World), sizeV P t = some n → (isAgg t).run P w = .ok true w → (part t cs.toArray off).run P w = .ok (.agg ((cs.drop off).take n).toArray) w := by
    intro n w hs hi
    simp only [part, Sem.run_bind, hi, Result.andThen_ok, if_true, run_size hs, Sem.run_pure]
    congr 2
    apply Array.toList_inj.1
    simp [Array.toList_extract, List.drop_take]
  simp only [partV] at h ⊢
  split at h
  · rename_i fs hu
    split at h
    · rename_i n hs
      rw [force_one] at h
      exact ⟨_, h, fun K' hK => by simp only [hs, force_one]; exact hK, fun w => agg n w hs (by simp [isAgg, run_und hu])⟩
    · exact h.elim
  · rename_i n e hu
    split at h
    · rename_i n hs
      rw [force_one] at h
      exact ⟨_, h, fun K' hK => by simp only [hs, force_one]; exact hK, fun w => agg n w hs (by simp [isAgg, run_und hu])⟩
    · exact h.elim
  · rename_i d h1 h2 hu
    split at h
    · rename_i v hv
      refine ⟨v, h, fun K' hK => hK, fun w => ?_⟩
      have hi : (isAgg t).run P w = .ok false w := by
        simp only [isAgg, Sem.run_bind, run_und hu, Result.andThen_ok]
        cases d <;> simp_all
      simp only [part, Sem.run_bind, hi, Result.andThen_ok, Bool.false_eq_true, if_false]
      have : cs.toArray[off]? = some v := by simpa using hv
      simp [this]
    · exact h.elim
  · exact h.elim
end Go.Vc
