/- A region whose order is drawn: what the calculus asks in one order suffices for every order that can be drawn. -/
import Derived.Test.YtiagjabdfppgkaaGreatVcRun
set_option linter.unusedVariables false
set_option linter.unusedSimpArgs false
set_option maxRecDepth 100000
namespace Go.Vc
open Go

/-! ### What an operation reads of a frame -/
section
variable {wr : Bool} {P : Program} {ops : List Oper} {fr fr' : Fr}

theorem evs_congr : ∀ {l : List Operand}, (∀ x ∈ l, ev fr x = ev fr' x) → evs fr l = evs fr' l
  | [], _ => rfl
  | x :: r, h => by
    simp only [evs]
    rw [h x (by simp), evs_congr (fun y hy => h y (by simp [hy]))]
theorem parts_congr : ∀ {l : List (Nat × Operand)}, (∀ x ∈ l, ev fr x.2 = ev fr' x.2) → partsOf fr l = partsOf fr' l
  | [], _ => rfl
  | (i, x) :: r, h => by
    simp only [partsOf]
    rw [h (i, x) (by simp), parts_congr (fun y hy => h y (by simp [hy]))]
theorem opI_congr {x : Option Operand} (h : ∀ y ∈ x.toArray, ev fr y = ev fr' y) (k : Option Int → Prop) : opI fr x k = opI fr' x k := by
  cases x with
  | none => rfl
  | some o => simp only [opI]; rw [h o (by simp)]

theorem pure_congr {o : Oper} (h : ∀ x ∈ o.op.operands, ev fr x = ev fr' x) (K : Value → Prop) : pureV wr P fr o K = pureV wr P fr' o K := by
  cases hop : o.op <;> simp only [pureV, hop] <;> rw [hop] at h <;> simp only [Op.operands] at h
  case move x => rw [h x (by simp)]
  case assign x => rw [h x (by simp)]
  case pick a b c => rw [h a (by simp), h b (by simp), h c (by simp)]
  case build t ps => rw [parts_congr (fun x hx => h x.2 (by simp; exact ⟨x.1, Array.mem_toList_iff.1 hx⟩))]
  case nilCheck x => rw [h x (by simp)]
  case binOp op t x y yt => rw [h x (by simp), h y (by simp)]
  case unOp op t x => rw [h x (by simp)]
  case convert s d x => rw [h x (by simp)]
  case makeInterface t x => rw [h x (by simp)]
  case makeFunc fn a b => rw [evs_congr (fun x hx => h x (by simp at hx ⊢; exact .inl hx)), evs_congr (l := b.toList) (fun x hx => h x (by simp at hx ⊢; exact .inr hx))]
  case slice t x lo hi mx =>
    have e : ∀ v, sliceV P fr t v lo hi mx K = sliceV P fr' t v lo hi mx K := by
      intro v
      simp only [sliceV]
      rw [opI_congr (x := lo) (fun y hy => h y (by simp at hy ⊢; simp [hy]))]
      congr 1; funext l
      rw [opI_congr (x := hi) (fun y hy => h y (by simp at hy ⊢; simp [hy]))]
      congr 1; funext hh
      rw [opI_congr (x := mx) (fun y hy => h y (by simp at hy ⊢; simp [hy]))]
    rw [h x (by simp)]
    congr 1; funext v; exact e v
  case sliceToArrayPointer t x => rw [h x (by simp)]
  case fieldAddr s x f => rw [h x (by simp)]
  case field t x f => rw [h x (by simp)]
  case indexAddr t x i => rw [h x (by simp), h i (by simp)]
  case index t x i => rw [h x (by simp), h i (by simp)]
  case extract x i => rw [h x (by simp)]
  case call c =>
    have hm : ∀ x ∈ c.args.toList, ev fr x = ev fr' x := fun x hx => h x (by simp [Call.operands]; exact .inr (by simpa using hx))
    split
    · rename_i x hc hx; rw [hm x (by simp [hx])]
    · rename_i x hc hx; rw [hm x (by simp [hx])]
    · rename_i x y hc hx; rw [hm x (by simp [hx]), hm y (by simp [hx])]
    · rename_i x y hc hx; rw [hm x (by simp [hx]), hm y (by simp [hx])]
    · rfl

theorem read_congr {o : Oper} (h : ∀ x ∈ o.op.operands, ev fr x = ev fr' x) (w : World) (v : Value) : readV P fr o w v = readV P fr' o w v := by
  cases hop : o.op <;> simp only [readV, hop] <;> rw [hop] at h <;> simp only [Op.operands] at h
  case load t x => rw [h x (by simp)]
  case lookup t x k ok => rw [h x (by simp), h k (by simp)]
  case binOp op t x y yt => rw [h x (by simp), h y (by simp)]
  case convert s d x => rw [h x (by simp)]
  case typeAssert x xT t ok => rw [h x (by simp)]
  case call c =>
    have hm : ∀ x ∈ c.args.toList, ev fr x = ev fr' x := fun x hx => h x (by simp [Call.operands]; exact .inr (by simpa using hx))
    split
    · rename_i x hc hx; rw [hm x (by simp [hx])]
    · rfl

theorem eff_congr {o : Oper} (h : ∀ x ∈ o.op.operands, ev fr x = ev fr' x) (w : World) (K : Option Value → World → Prop) : effV P ops fr o w K = effV P ops fr' o w K := by
  cases hop : o.op <;> simp only [effV, hop] <;> rw [hop] at h <;> simp only [Op.operands] at h
  case box t x => rw [h x (by simp)]
  case buildSlice t n ps => rw [parts_congr (fun x hx => h x.2 (by simp; exact ⟨x.1, Array.mem_toList_iff.1 hx⟩))]
  case store t x y => rw [h x (by simp), h y (by simp)]
  case convert s d x => rw [h x (by simp)]
  case makeSlice t x y => rw [h x (by simp), h y (by simp)]
  case makeMap t r =>
    cases r with
    | none => rfl
    | some x => simp only; rw [h x (by simp)]
  case mapUpdate t m k x => rw [h m (by simp), h k (by simp), h x (by simp)]
  case insert t m k x => rw [h m (by simp), h k (by simp), h x (by simp)]
  case mapEntry t m k => rw [h m (by simp), h k (by simp)]
  case entryStore t m k x => rw [h m (by simp), h k (by simp), h x (by simp)]
  case range t x => rw [h x (by simp)]
  case next x s => rw [h x (by simp)]
  case entry x => rw [h x (by simp)]
  case call c =>
    have hm : ∀ x ∈ c.args.toList, ev fr x = ev fr' x := fun x hx => h x (by simp [Call.operands]; exact .inr (by simpa using hx))
    rw [evs_congr hm]
    cases hc : c.callee with
    | value f =>
      have hf := h f (by simp [Call.operands, hc])
      cases evs fr' c.args.toList with
      | none => rfl
      | some args => simp only [hf]
    | invoke r m => rfl
    | builtin b =>
      cases evs fr' c.args.toList with
      | none => rfl
      | some args => cases b <;> rfl
end

/-! ### What turns memory: more, and that it comes to something -/
section
variable {P : Program} {ops : List Oper} {fr : Fr}
theorem callX_mono {fv : Value} {args : List Value} {w : World} {R R' : Ending → World → Prop} (hr : ∀ e w', R e w' → R' e w') (h : CallX P fv args w R) : CallX P fv args w R' := by
  unfold CallX at h ⊢
  split at h
  · split at h
    · split at h
      · exact ⟨Calls.mono h.run hr⟩
      · exact h.elim
    · exact h.elim
  · split at h
    · refine ⟨fun rd n => ?_⟩
      obtain ⟨fn, tm, as, bd, hy, hro⟩ := h.run rd n
      exact ⟨fn, tm, as, bd, hy, hro.mono hr⟩
    · exact h.elim
  · exact h.elim
theorem callX_some {fv : Value} {args : List Value} {w : World} {R : Ending → World → Prop} (h : CallX P fv args w R) : ∃ e w', R e w' := by
  unfold CallX at h
  split at h
  · split at h
    · split at h
      · obtain ⟨e, w', fr', h, _⟩ := h.run []; exact ⟨_, _, h⟩
      · exact h.elim
    · exact h.elim
  · split at h
    · obtain ⟨fn, tm, as, bd, hy, hro⟩ := h.run none 0
      obtain ⟨e, w', h, _⟩ := hro.2 default [] (by simp [Fence.room, W, Fence.wide])
      exact ⟨_, _, h⟩
    · exact h.elim
  · exact h.elim
theorem callF_mono {fv : Value} {args : List Value} {t : TypeId} {w : World} {K K' : Option Value → World → Prop} (hk : ∀ rv w', K rv w' → K' rv w') (h : callXF P fv args t w K) : callXF P fv args t w K' :=
  callX_mono (fun e w' h => exT_mono (fun v h => ⟨h.1, hk _ _ h.2⟩) h) h
theorem eff_mono {o : Oper} {w : World} {K K' : Option Value → World → Prop} (hk : ∀ rv w', K rv w' → K' rv w') (h : effV P ops fr o w K) : effV P ops fr o w K' := by
  cases hop : o.op <;> simp only [effV, hop] at h ⊢ <;> try exact h.elim
  case alloc t =>
    split at h
    · rw [forceB_one] at h ⊢; exact fun b w1 hn => hk _ _ (h b w1 hn)
    · exact h.elim
  case box t x =>
    obtain ⟨v, hv, h⟩ := onV_some h
    rw [hv]; simp only [onV]
    rw [forceB_one] at h ⊢; exact fun b w1 hn => hk _ _ (h b w1 hn)
  case buildSlice t n ps =>
    split at h
    · split at h
      · obtain ⟨e, l, h1, h⟩ := h
        exact ⟨e, l, h1, fun b w1 hn => hk _ _ (h b w1 hn)⟩
      · split at h
        · rw [force_one] at h ⊢; exact fun b w1 hn => hk _ _ (h b w1 hn)
        · exact h.elim
    · exact h.elim
  case store t x y =>
    split at h
    · obtain ⟨p, rfl, w1, h1, h⟩ := onP_some h
      exact ⟨w1, h1, hk _ _ h⟩
    · exact h.elim
  case convert s d x =>
    obtain ⟨v, hv, a, b, c, w1, h1, h⟩ := onV_some h
    rw [hv]; exact ⟨a, b, c, w1, h1, hk _ _ h⟩
  case makeSlice t x y =>
    obtain ⟨v, hv, h⟩ := onV_some h
    obtain ⟨u, hu, a, b, c, w1, h1, h⟩ := onV_some h
    rw [hv, hu]; exact ⟨a, b, c, w1, h1, hk _ _ h⟩
  case makeMap t r =>
    cases r with
    | none => exact fun b w1 hn => hk _ _ (h b w1 hn)
    | some x =>
      obtain ⟨v, hv, m, w1, h1, h⟩ := onV_some h
      simp only; rw [hv]; exact ⟨m, w1, h1, hk _ _ h⟩
  case mapUpdate t m k x =>
    obtain ⟨m', hm, h⟩ := onV_some h
    obtain ⟨k', hk', h⟩ := onV_some h
    obtain ⟨x', hx', w1, h1, h⟩ := onV_some h
    rw [hm, hk', hx']; exact ⟨w1, h1, hk _ _ h⟩
  case insert t m k x =>
    obtain ⟨m', hm, h⟩ := onV_some h
    obtain ⟨k', hk', h⟩ := onV_some h
    obtain ⟨x', hx', w1, h1, h⟩ := onV_some h
    rw [hm, hk', hx']; exact ⟨w1, h1, hk _ _ h⟩
  case mapEntry t m k =>
    obtain ⟨m', hm, h⟩ := onV_some h
    obtain ⟨k', hk', h⟩ := onV_some h
    obtain ⟨v, i, w1, h1, h⟩ := h
    rw [hm, hk']; exact ⟨v, i, w1, h1, hk _ _ h⟩
  case entryStore t m k x =>
    obtain ⟨m', hm, h⟩ := onV_some h
    obtain ⟨k', hk', h⟩ := onV_some h
    obtain ⟨x', hx', w1, h1, h⟩ := onV_some h
    rw [hm, hk', hx']; exact ⟨w1, h1, hk _ _ h⟩
  case range t x =>
    obtain ⟨v, hv, p, w1, h1, h⟩ := onV_some h
    rw [hv]; exact ⟨p, w1, h1, hk _ _ h⟩
  case next x s =>
    obtain ⟨v, hv, h⟩ := onV_some h
    rw [hv]
    rcases h with ⟨w1, h1, h⟩ | ⟨k, u, w1, h1, h⟩
    · exact .inl ⟨w1, h1, hk _ _ h⟩
    · exact .inr ⟨k, u, w1, h1, hk _ _ h⟩
  case entry x =>
    obtain ⟨v, hv, h⟩ := onV_some h
    rw [hv]; exact exO_mono (fun k h => exO_mono (fun v ⟨w1, h1, h⟩ => ⟨w1, h1, hk _ _ h⟩) h) h
  case call c =>
    split at h
    · exact h.elim
    · split at h
      · split at h
        · obtain ⟨a, b, c, w1, h1, h⟩ := h; exact ⟨a, b, c, w1, h1, hk _ _ h⟩
        · exact h.elim
      · split at h
        · obtain ⟨a, w1, h1, h⟩ := h; exact ⟨a, w1, h1, hk _ _ h⟩
        · exact h.elim
      · split at h
        · obtain ⟨w1, h1, h⟩ := h; exact ⟨w1, h1, hk _ _ h⟩
        · exact h.elim
      · split at h
        · obtain ⟨w1, h1, h⟩ := h; exact ⟨w1, h1, hk _ _ h⟩
        · exact h.elim
      · exact h.elim
      · obtain ⟨fv, hf, h⟩ := onV_some h
        rw [hf]
        exact callF_mono hk h
      · exact h.elim
theorem eff_some {o : Oper} {w : World} {K : Option Value → World → Prop} (h : effV P ops fr o w K) : ∃ rv w', K rv w' := by
  cases hop : o.op <;> simp only [effV, hop] at h <;> try exact h.elim
  case alloc t =>
    split at h
    · rw [forceB_one] at h; exact ⟨_, _, h _ _ ⟨rfl, rfl⟩⟩
    · exact h.elim
  case box t x =>
    obtain ⟨v, hv, h⟩ := onV_some h
    rw [forceB_one] at h; exact ⟨_, _, h _ _ ⟨rfl, rfl⟩⟩
  case buildSlice t n ps =>
    split at h
    · split at h
      · obtain ⟨e, l, h1, h⟩ := h
        exact ⟨_, _, h _ _ ⟨rfl, rfl⟩⟩
      · split at h
        · rw [force_one] at h; exact ⟨_, _, h _ _ ⟨rfl, rfl⟩⟩
        · exact h.elim
    · exact h.elim
  case store t x y =>
    split at h
    · obtain ⟨p, rfl, w1, h1, h⟩ := onP_some h
      exact ⟨_, _, h⟩
    · exact h.elim
  case convert s d x =>
    obtain ⟨v, hv, a, b, c, w1, h1, h⟩ := onV_some h
    exact ⟨_, _, h⟩
  case makeSlice t x y =>
    obtain ⟨v, hv, h⟩ := onV_some h
    obtain ⟨u, hu, a, b, c, w1, h1, h⟩ := onV_some h
    exact ⟨_, _, h⟩
  case makeMap t r =>
    cases r with
    | none => exact ⟨_, _, h _ _ ⟨rfl, rfl⟩⟩
    | some x =>
      obtain ⟨v, hv, m, w1, h1, h⟩ := onV_some h
      exact ⟨_, _, h⟩
  case mapUpdate t m k x =>
    obtain ⟨m', hm, h⟩ := onV_some h
    obtain ⟨k', hk', h⟩ := onV_some h
    obtain ⟨x', hx', w1, h1, h⟩ := onV_some h
    exact ⟨_, _, h⟩
  case insert t m k x =>
    obtain ⟨m', hm, h⟩ := onV_some h
    obtain ⟨k', hk', h⟩ := onV_some h
    obtain ⟨x', hx', w1, h1, h⟩ := onV_some h
    exact ⟨_, _, h⟩
  case mapEntry t m k =>
    obtain ⟨m', hm, h⟩ := onV_some h
    obtain ⟨k', hk', h⟩ := onV_some h
    obtain ⟨v, i, w1, h1, h⟩ := h
    exact ⟨_, _, h⟩
  case entryStore t m k x =>
    obtain ⟨m', hm, h⟩ := onV_some h
    obtain ⟨k', hk', h⟩ := onV_some h
    obtain ⟨x', hx', w1, h1, h⟩ := onV_some h
    exact ⟨_, _, h⟩
  case range t x =>
    obtain ⟨v, hv, p, w1, h1, h⟩ := onV_some h
    exact ⟨_, _, h⟩
  case next x s =>
    obtain ⟨v, hv, h⟩ := onV_some h
    rcases h with ⟨w1, h1, h⟩ | ⟨k, u, w1, h1, h⟩ <;> exact ⟨_, _, h⟩
  case entry x =>
    obtain ⟨v, hv, h⟩ := onV_some h
    obtain ⟨k, h⟩ := exO_some h
    obtain ⟨u, w1, h1, h⟩ := exO_some h
    exact ⟨_, _, h⟩
  case call c =>
    split at h
    · exact h.elim
    · split at h
      · split at h
        · obtain ⟨a, b, c, w1, h1, h⟩ := h; exact ⟨_, _, h⟩
        · exact h.elim
      · split at h
        · obtain ⟨a, w1, h1, h⟩ := h; exact ⟨_, _, h⟩
        · exact h.elim
      · split at h
        · obtain ⟨w1, h1, h⟩ := h; exact ⟨_, _, h⟩
        · exact h.elim
      · split at h
        · obtain ⟨w1, h1, h⟩ := h; exact ⟨_, _, h⟩
        · exact h.elim
      · exact h.elim
      · obtain ⟨fv, hf, h⟩ := onV_some h
        obtain ⟨e, w', h⟩ := callX_some h
        obtain ⟨v, h1, h⟩ := exT_some h
        exact ⟨_, _, h⟩
      · exact h.elim
end

/-! ### Steps -/
section
variable {wr : Bool} {P : Program} {bef : Nat → Nat → Bool} {ops : List Oper} {nt : Nat} {ds : List Deferred} {fr fr' : Fr}

/-- two frames that agree on what an operation reads -/
def Agree (ops : List Oper) (o : Oper) (fr fr' : Fr) : Prop :=
  (∀ t ∈ opTs o.op, fget fr t = fget fr' t) ∧ ∀ j want s, o.guard = some (j, want) → slotOf ops j = some s → fget fr s = fget fr' s

theorem Agree.ev {o : Oper} (h : Agree ops o fr fr') : ∀ x ∈ o.op.operands, Vc.ev fr x = Vc.ev fr' x := by
  intro x hx
  cases x with
  | tmp t =>
    exact h.1 t (by simp only [opTs, List.mem_filterMap]; exact ⟨_, by simpa using hx, rfl⟩)
  | _ => rfl

theorem exec_congr {i : Nat} {o : Oper} (h : ∀ x ∈ o.op.operands, ev fr x = ev fr' x) (w : World) (past : Past) (K : Option Value → World → Past → Prop) :
    execV wr P bef ops i o fr w past K = execV wr P bef ops i o fr' w past K := by
  unfold execV
  split
  · exact pure_congr h _
  · congr 1; funext v
    rw [read_congr h w v]
    have : (fun w' => readV P fr o w' v) = (fun w' => readV P fr' o w' v) := funext fun w' => read_congr h w' v
    rw [this]
  · exact eff_congr h _ _
theorem step_congr {i : Nat} {o : Oper} (h : Agree ops o fr fr') (w : World) (past : Past) (K : Option Value → World → Past → Prop) :
    stepD wr P bef ops i o fr w past K = stepD wr P bef ops i o fr' w past K := by
  unfold stepD
  split
  · exact exec_congr h.ev _ _ _
  · rename_i j want hg
    cases hs : slotOf ops j with
    | none => rfl
    | some s =>
      simp only
      rw [h.2 j want s hg hs]
      split
      · split
        · exact exec_congr h.ev _ _ _
        · exact exec_congr h.ev _ _ _
        · rfl
      · rfl
      · rfl

theorem rv_iff {sp : Bool} {rv : Option Value} {K : Option Value → Prop} : (match rv with
    | some v => spl sp v fun v => K (some v)
    | none => K none) ↔ K rv := by
  cases rv with
  | none => rfl
  | some v => exact spl_iff

theorem exec_mono {i : Nat} {o : Oper} {w : World} {past past' : Past} {K K' : Option Value → World → Past → Prop} (hp : ∀ e ∈ past', e ∈ past)
    (hk : ∀ v w' p p', (∀ e ∈ p', e ∈ p) → K v w' p → K' v w' p') (h : execV wr P bef ops i o fr w past K) : execV wr P bef ops i o fr w past' K' := by
  unfold execV at h ⊢
  split at h
  · obtain ⟨v, h, hb, -⟩ := pure_one (nt := 0) (ds := []) h
    exact hb _ (spl_iff.2 (hk _ _ _ _ hp (spl_iff.1 h)))
  · exact exT_mono (fun v h => ⟨h.1, spl_iff.2 (hk _ _ _ _ (fun e he => by
      simp only [List.mem_cons] at he ⊢
      exact he.imp id (hp e)) (spl_iff.1 h.2))⟩) h
  · refine eff_mono (fun rv w' h => ?_) h
    rw [again_iff] at h ⊢
    refine ⟨fun x hx hb => h.1 x (hp x hx) hb, ?_⟩
    have h2 := (rv_iff (K := fun rv => K rv w' past)).1 h.2
    exact (rv_iff (K := fun rv => K' rv w' past')).2 (hk _ _ _ _ hp h2)
theorem step_mono {i : Nat} {o : Oper} {w : World} {past past' : Past} {K K' : Option Value → World → Past → Prop} (hp : ∀ e ∈ past', e ∈ past)
    (hk : ∀ v w' p p', (∀ e ∈ p', e ∈ p) → K v w' p → K' v w' p') (h : stepD wr P bef ops i o fr w past K) : stepD wr P bef ops i o fr w past' K' := by
  unfold stepD at h ⊢
  split at h
  · exact exec_mono hp hk h
  · split at h
    · exact h.elim
    · split at h
      · split at h
        · exact exec_mono hp hk h
        · exact exec_mono hp hk h
        · exact hk _ _ _ _ hp h
      · exact hk _ _ _ _ hp h
      · exact h.elim

/-- what a step is: it gives a value that hangs on nothing; or a reading; or it turns memory -/
theorem step_cases {i : Nat} {o : Oper} {w : World} {past : Past} {K : Option Value → World → Past → Prop} {a : Act} (hr : Ref nt ds fr a) (h : stepD wr P bef ops i o fr w past K) :
    (∃ v, K v w past ∧ (∀ w' p (K' : Option Value → World → Past → Prop), K' v w' p → stepD wr P bef ops i o fr w' p K') ∧
      ∀ w' p (K' : Option Value → World → Past → Prop), stepD wr P bef ops i o fr w' p K' → K' v w' p) ∨
    (cls P o.op = 1 ∧ ∃ v, readV P fr o w v ∧ K (some v) w ((i, fun w' => readV P fr o w' v) :: past) ∧
      ∀ w' p (K' : Option Value → World → Past → Prop), readV P fr o w' v → K' (some v) w' ((i, fun w' => readV P fr o w' v) :: p) → stepD wr P bef ops i o fr w' p K') ∨
    (cls P o.op ≠ 0 ∧ cls P o.op ≠ 1 ∧ ∀ w' p (K' : Option Value → World → Past → Prop), stepD wr P bef ops i o fr w' p K' ↔ effV P ops fr o w' fun rv w'' => again bef i p w'' (K' rv w'' p)) := by
  have ex : (∀ w' p (K' : Option Value → World → Past → Prop), stepD wr P bef ops i o fr w' p K' = execV wr P bef ops i o fr w' p K') → execV wr P bef ops i o fr w past K →
      (∃ v, K v w past ∧ (∀ w' p (K' : Option Value → World → Past → Prop), K' v w' p → stepD wr P bef ops i o fr w' p K') ∧
      ∀ w' p (K' : Option Value → World → Past → Prop), stepD wr P bef ops i o fr w' p K' → K' v w' p) ∨
    (cls P o.op = 1 ∧ ∃ v, readV P fr o w v ∧ K (some v) w ((i, fun w' => readV P fr o w' v) :: past) ∧
      ∀ w' p (K' : Option Value → World → Past → Prop), readV P fr o w' v → K' (some v) w' ((i, fun w' => readV P fr o w' v) :: p) → stepD wr P bef ops i o fr w' p K') ∨
    (cls P o.op ≠ 0 ∧ cls P o.op ≠ 1 ∧ ∀ w' p (K' : Option Value → World → Past → Prop), stepD wr P bef ops i o fr w' p K' ↔ effV P ops fr o w' fun rv w'' => again bef i p w'' (K' rv w'' p)) := by
    intro e h
    simp only [e]
    clear e
    unfold execV at h
    split at h
    · rename_i hc
      left
      obtain ⟨v, h, hb, hrun⟩ := pure_one (nt := nt) (ds := ds) h
      refine ⟨some v, spl_iff.1 h, fun w' p K' hk => ?_, fun w' p K' hk => ?_⟩
      · unfold execV; simp only [hc]; exact hb _ (spl_iff.2 hk)
      · unfold execV at hk; simp only [hc] at hk
        obtain ⟨v', h', -, hrun'⟩ := pure_one (nt := nt) (ds := ds) hk
        have e1 := hrun a hr w
        rw [hrun' a hr w] at e1
        cases e1
        exact spl_iff.1 h'
    · rename_i hc
      right; left
      obtain ⟨v, ⟨hv, h⟩, hb⟩ := exT_one h
      refine ⟨hc, v, hv, spl_iff.1 h, fun w' p K' hv' hk => ?_⟩
      unfold execV; simp only [hc]
      exact hb _ ⟨hv', spl_iff.2 hk⟩
    · rename_i h0 h1
      right; right
      refine ⟨h0, h1, fun w' p K' => ?_⟩
      unfold execV
      split
      · exact absurd (by assumption) h0
      · exact absurd (by assumption) h1
      · constructor <;> refine eff_mono (fun rv w'' h => ?_)
        · rw [again_iff] at h ⊢
          exact ⟨h.1, (rv_iff (K := fun rv => K' rv w'' p)).1 h.2⟩
        · rw [again_iff] at h ⊢
          exact ⟨h.1, (rv_iff (K := fun rv => K' rv w'' p)).2 h.2⟩
  have h0 := h
  unfold stepD at h
  split at h
  · rename_i hg
    exact ex (fun w' p K' => by unfold stepD; simp only [hg]) h
  · rename_i j want hg
    split at h
    · exact h.elim
    · rename_i s hs
      split at h
      · rename_i b hf
        split at h
        · exact ex (fun w' p K' => by unfold stepD; simp only [hg, hs, hf]) h
        · exact ex (fun w' p K' => by unfold stepD; simp only [hg, hs, hf]) h
        · rename_i n1 n2
          left
          refine ⟨some (.tuple #[]), h, fun w' p K' hk => ?_, fun w' p K' hk => ?_⟩
          · unfold stepD; simp only [hg, hs, hf]
            cases b <;> cases want <;> first | exact absurd rfl (n1 rfl) | exact absurd rfl (n2 rfl) | exact hk
          · unfold stepD at hk; simp only [hg, hs, hf] at hk
            cases b <;> cases want <;> first | exact absurd rfl (n1 rfl) | exact absurd rfl (n2 rfl) | exact hk
      · rename_i vs hf
        left
        refine ⟨some (.tuple #[]), h, fun w' p K' hk => ?_, fun w' p K' hk => ?_⟩
        · unfold stepD; simp only [hg, hs, hf]; exact hk
        · unfold stepD at hk; simp only [hg, hs, hf] at hk; exact hk
      · exact h.elim

/-! ### Two steps turned -/
/-- a result put -/
def put (fr : Fr) (d : Option Nat) (v : Option Value) : Fr := match d with
  | some d => (d, v) :: fr
  | none => fr
/-- a slot that is there -/
def Fits (nt : Nat) (d : Option Nat) : Prop := ∀ x, d = some x → x < nt
theorem fput_iff {d : Option Nat} {v : Option Value} {k : Fr → Prop} : fput nt fr d v k ↔ Fits nt d ∧ k (put fr d v) := by
  cases d with
  | none => simp [fput, put, Fits]
  | some d =>
    simp only [fput, put, Fits]
    split
    · rename_i hb
      have : d < nt := by simpa [Nat.blt_eq] using hb
      simp [this]
    · rename_i hb
      have : ¬ d < nt := fun hlt => by
        have h2 : Nat.blt d nt = true := by rw [Nat.blt_eq]; exact hlt
        rw [h2] at hb; cases hb
      simp [this]
theorem put_other {d : Option Nat} {v : Option Value} {t : Nat} (h : ∀ x, d = some x → t ≠ x) : fget (put fr d v) t = fget fr t := by
  cases d with
  | none => rfl
  | some d => exact fget_miss _ _ _ _ (h d rfl)
/-- frames that tell the same -/
def Feq (fr fr' : Fr) : Prop := ∀ t, fget fr t = fget fr' t
theorem Feq.put {d : Option Nat} {v : Option Value} (h : Feq fr fr') : Feq (put fr d v) (put fr' d v) := by
  intro t
  cases d with
  | none => exact h t
  | some d =>
    by_cases ht : t = d
    · subst ht; simp only [Vc.put, fget_hit]
    · simp only [Vc.put, fget_miss _ _ _ _ ht]; exact h t
theorem put_swap {d d' : Option Nat} {v v' : Option Value} (h : ∀ x y, d = some x → d' = some y → x ≠ y) : Feq (put (put fr d v) d' v') (put (put fr d' v') d v) := by
  intro t
  cases d with
  | none => rfl
  | some d => cases d' with
    | none => rfl
    | some d' =>
      have := h d d' rfl rfl
      simp only [put]
      by_cases h1 : t = d
      · subst h1; rw [fget_miss _ _ _ _ this, fget_hit, fget_hit]
      · by_cases h2 : t = d'
        · subst h2; rw [fget_hit, fget_miss _ _ _ _ h1, fget_hit]
        · rw [fget_miss _ _ _ _ h2, fget_miss _ _ _ _ h1, fget_miss _ _ _ _ h1, fget_miss _ _ _ _ h2]
theorem Feq.agree {o : Oper} (h : Feq fr fr') : Agree ops o fr fr' := ⟨fun t _ => h t, fun j want s _ _ => h s⟩

/-- two operations touch different slots -/
structure Apart (ops : List Oper) (a b : Oper) : Prop where
  dst : ∀ x y, a.dst = some x → b.dst = some y → x ≠ y
  left : ∀ y, b.dst = some y → (∀ t ∈ opTs a.op, t ≠ y) ∧ ∀ k want s, a.guard = some (k, want) → slotOf ops k = some s → s ≠ y
  right : ∀ x, a.dst = some x → (∀ t ∈ opTs b.op, t ≠ x) ∧ ∀ k want s, b.guard = some (k, want) → slotOf ops k = some s → s ≠ x

theorem Apart.agreeL {a b : Oper} (h : Apart ops a b) (v : Option Value) : Agree ops a (put fr b.dst v) fr :=
  ⟨fun t ht => put_other fun y hy => (h.left y hy).1 t ht, fun k want s hg hs => put_other fun y hy => (h.left y hy).2 k want s hg hs⟩
theorem Apart.agreeR {a b : Oper} (h : Apart ops a b) (v : Option Value) : Agree ops b (put fr a.dst v) fr :=
  ⟨fun t ht => put_other fun y hy => (h.right y hy).1 t ht, fun k want s hg hs => put_other fun y hy => (h.right y hy).2 k want s hg hs⟩

theorem apart_of {i j : Nat} {a b : Oper} (ha : ops[i]? = some a) (hb : ops[j]? = some b) (h : apartB ops i j = true) : Apart ops a b := by
  have guard : ∀ {o : Oper} {x : Nat}, (match o.guard with
      | some (k, _) => match slotOf ops k with
        | some s => !(s == x)
        | none => true
      | none => true) = true → ∀ k want s, o.guard = some (k, want) → slotOf ops k = some s → s ≠ x := by
    intro o x h k want s hg hs
    simp only [hg, hs] at h
    simpa using h
  simp only [apartB, ha, hb] at h
  split at h
  · rename_i x y hx hy
    simp only [Bool.and_eq_true] at h
    obtain ⟨⟨⟨⟨h1, h2⟩, h3⟩, h4⟩, h5⟩ := h
    refine ⟨fun x' y' hx' hy' => ?_, fun y' hy' => ?_, fun x' hx' => ?_⟩
    · rw [hx] at hx'; rw [hy] at hy'; cases hx'; cases hy'; simpa using h1
    · rw [hy] at hy'; cases hy'
      exact ⟨fun t ht e => by subst e; simp at h2; exact h2 ht, guard h4⟩
    · rw [hx] at hx'; cases hx'
      exact ⟨fun t ht e => by subst e; simp at h3; exact h3 ht, guard h5⟩
  · rename_i x hx hy
    simp only [Bool.and_eq_true] at h
    obtain ⟨h3, h5⟩ := h
    refine ⟨fun x' y' hx' hy' => (by rw [hy] at hy'; cases hy'), fun y' hy' => (by rw [hy] at hy'; cases hy'), fun x' hx' => ?_⟩
    rw [hx] at hx'; cases hx'
    exact ⟨fun t ht e => by subst e; simp at h3; exact h3 ht, guard h5⟩
  · rename_i y hx hy
    simp only [Bool.and_eq_true] at h
    obtain ⟨h3, h5⟩ := h
    refine ⟨fun x' y' hx' hy' => (by rw [hx] at hx'; cases hx'), fun y' hy' => ?_, fun x' hx' => (by rw [hx] at hx'; cases hx')⟩
    rw [hy] at hy'; cases hy'
    exact ⟨fun t ht e => by subst e; simp at h3; exact h3 ht, guard h5⟩
  · rename_i hx hy
    refine ⟨fun x' y' hx' hy' => (by rw [hy] at hy'; cases hy'), fun y' hy' => (by rw [hy] at hy'; cases hy'), fun x' hx' => (by rw [hx] at hx'; cases hx')⟩

theorem turn {i x : Nat} {oi ox : Oper} {w : World} {past : Past} {a : Act} (hr : Ref nt ds fr a) (hap : Apart ops oi ox) (hb : bef i x = false)
    (hc : cls P oi.op = 0 ∨ cls P ox.op = 0 ∨ cls P oi.op = 1)
    {F : Fr → World → Past → Prop} (hF : ∀ f f' w p p', Feq f f' → (∀ e ∈ p', e ∈ p) → F f w p → F f' w p')
    (h : stepD wr P bef ops i oi fr w past fun vi w1 p1 => Fits nt oi.dst ∧ stepD wr P bef ops x ox (put fr oi.dst vi) w1 p1 fun vx w2 p2 => Fits nt ox.dst ∧ F (put (put fr oi.dst vi) ox.dst vx) w2 p2) :
    stepD wr P bef ops x ox fr w past fun vx w1 p1 => Fits nt ox.dst ∧ stepD wr P bef ops i oi (put fr ox.dst vx) w1 p1 fun vi w2 p2 => Fits nt oi.dst ∧ F (put (put fr ox.dst vx) oi.dst vi) w2 p2 := by
  have eR : ∀ vi w1 p1 K, stepD wr P bef ops x ox (put fr oi.dst vi) w1 p1 K = stepD wr P bef ops x ox fr w1 p1 K := fun vi w1 p1 K => step_congr (hap.agreeR vi) _ _ _
  have eL : ∀ vx w1 p1 K, stepD wr P bef ops i oi (put fr ox.dst vx) w1 p1 K = stepD wr P bef ops i oi fr w1 p1 K := fun vx w1 p1 K => step_congr (hap.agreeL vx) _ _ _
  simp only [eR] at h
  simp only [eL]
  have hsw : ∀ vi vx w p p', (∀ e ∈ p', e ∈ p) → F (put (put fr oi.dst vi) ox.dst vx) w p → F (put (put fr ox.dst vx) oi.dst vi) w p' :=
    fun vi vx w p p' hp h => hF _ _ _ _ _ (put_swap hap.dst) hp h
  rcases step_cases hr h with ⟨vi, ⟨hfi, h1⟩, hmk, -⟩ | ⟨hci, vi, hrd, ⟨hfi, h1⟩, hmk⟩ | ⟨h0, hn1, hiff⟩
  · exact step_mono (fun e he => he) (fun vx w1 p p' hp h2 => ⟨h2.1, hmk _ _ _ ⟨hfi, hsw _ _ _ _ _ hp h2.2⟩⟩) h1
  · rcases step_cases hr h1 with ⟨vx, ⟨hfx, h2⟩, hmkx, -⟩ | ⟨hcx, vx, hrdx, ⟨hfx, h2⟩, hmkx⟩ | ⟨hx0, hx1, hxiff⟩
    · exact hmkx _ _ _ ⟨hfx, hmk _ _ _ hrd ⟨hfi, hsw _ _ _ _ _ (fun e he => he) h2⟩⟩
    · exact hmkx _ _ _ hrdx ⟨hfx, hmk _ _ _ hrd ⟨hfi, hsw _ _ _ _ _ (fun e he => by
        simp only [List.mem_cons] at he ⊢
        rcases he with he | he | he
        · exact .inr (.inl he)
        · exact .inl he
        · exact .inr (.inr he)) h2⟩⟩
    · rw [hxiff] at h1 ⊢
      refine eff_mono (fun rv w'' h2 => ?_) h1
      rw [again_iff] at h2 ⊢
      obtain ⟨hag, hfx, h2⟩ := h2
      refine ⟨fun e he hbe => hag e (List.mem_cons_of_mem _ he) hbe, hfx, ?_⟩
      have hread := hag _ (List.mem_cons_self ..) hb
      exact hmk _ _ _ hread ⟨hfi, hsw _ _ _ _ _ (fun e he => he) h2⟩
  · have hx : cls P ox.op = 0 := by
      rcases hc with h | h | h
      · exact absurd h h0
      · exact h
      · exact absurd h hn1
    rw [hiff] at h
    obtain ⟨rv0, w0, hs⟩ := eff_some h
    have hs := (again_iff.1 hs).2.2
    rcases step_cases hr hs with ⟨vx, ⟨hfx, -⟩, hmkx, hdet⟩ | ⟨hcx, -⟩ | ⟨hx0, -⟩
    · refine hmkx _ _ _ ⟨hfx, ?_⟩
      rw [hiff]
      refine eff_mono (fun rv w'' h2 => ?_) h
      rw [again_iff] at h2 ⊢
      obtain ⟨hag, hfi, h2⟩ := h2
      have h3 := hdet _ _ _ h2
      exact ⟨hag, hfi, hsw _ _ _ _ _ (fun e he => he) h3.2⟩
    · rw [hx] at hcx; cases hcx
    · exact absurd hx hx0

/-! ### A run -/
theorem runV_cons {K : Fr → World → Prop} {i : Nat} {r : List Nat} {w : World} {past : Past} : runV wr P nt bef ops K (i :: r) fr w past ↔
    ∃ o, ops[i]? = some o ∧ stepD wr P bef ops i o fr w past fun v w' p' => Fits nt o.dst ∧ runV wr P nt bef ops K r (put fr o.dst v) w' p' := by
  simp only [runV, fput_iff]
  cases ops[i]? with
  | none => simp
  | some o => simp

theorem run_weak {K : Fr → World → Prop} (hK : ∀ f f' w, Feq f f' → K f w → K f' w) : ∀ (σ : List Nat) (fr fr' : Fr) (w : World) (p p' : Past), Feq fr fr' → (∀ e ∈ p', e ∈ p) → runV wr P nt bef ops K σ fr w p → runV wr P nt bef ops K σ fr' w p'
  | [], fr, fr', w, p, p', hf, hp, h => hK _ _ _ hf h
  | i :: r, fr, fr', w, p, p', hf, hp, h => by
    rw [runV_cons] at h ⊢
    obtain ⟨o, ho, h⟩ := h
    refine ⟨o, ho, ?_⟩
    rw [step_congr (fr' := fr') hf.agree] at h
    exact step_mono hp (fun v w' q q' hq h => ⟨h.1, run_weak hK r _ _ _ _ _ hf.put hq h.2⟩) h

/-- may 'i', which stands ahead of 'x', go behind it? -/
structure Turns (P : Program) (bef : Nat → Nat → Bool) (ops : List Oper) (i x : Nat) : Prop where
  bef : bef i x = false
  apart : ∀ a b, ops[i]? = some a → ops[x]? = some b → Apart ops a b
  cls : ∀ a b, ops[i]? = some a → ops[x]? = some b → cls P a.op = 0 ∨ Vc.cls P b.op = 0 ∨ Vc.cls P a.op = 1

theorem Ref.has {a : Act} (hr : Ref nt ds fr a) {d : Option Nat} (hf : Fits nt d) (v : Option Value) : ∃ a, Ref nt ds (Vc.put fr d v) a := by
  cases d with
  | none => exact ⟨a, hr⟩
  | some d =>
    cases v with
    | some v => exact ⟨_, hr.put (hf d rfl) v⟩
    | none => exact ⟨_, hr.lose (some d) undef d rfl⟩

theorem pull {K : Fr → World → Prop} (hK : ∀ f f' w, Feq f f' → K f w → K f' w) {x : Nat} {σ2 : List Nat} : ∀ (σ1 : List Nat) (fr : Fr) (w : World) (past : Past) (a : Act), Ref nt ds fr a → (∀ i ∈ σ1, Turns P bef ops i x) →
    runV wr P nt bef ops K (σ1 ++ x :: σ2) fr w past → runV wr P nt bef ops K (x :: (σ1 ++ σ2)) fr w past
  | [], fr, w, past, a, hr, ht, h => h
  | i :: r, fr, w, past, a, hr, ht, h => by
    rw [List.cons_append, runV_cons] at h
    obtain ⟨oi, hoi, h⟩ := h
    have ht' : ∀ j ∈ r, Turns P bef ops j x := fun j hj => ht j (List.mem_cons_of_mem _ hj)
    have hti := ht i (List.mem_cons_self ..)
    have h2 : stepD wr P bef ops i oi fr w past fun v w' p' => Fits nt oi.dst ∧ runV wr P nt bef ops K (x :: (r ++ σ2)) (put fr oi.dst v) w' p' :=
      step_mono (fun e he => he) (fun v w' p p' hp h => by
        obtain ⟨hf, h⟩ := h
        obtain ⟨a', hr'⟩ := hr.has hf v
        exact ⟨hf, run_weak hK _ _ _ _ _ _ (fun t => rfl) hp (pull hK r _ _ _ a' hr' ht' h)⟩) h
    clear h
    -- the operation at x
    have hox : ∃ ox, ops[x]? = some ox := by
      rcases step_cases hr h2 with ⟨v, h, -⟩ | ⟨-, v, -, h, -⟩ | ⟨-, -, hiff⟩
      · exact (runV_cons.1 h.2).elim fun o h => ⟨o, h.1⟩
      · exact (runV_cons.1 h.2).elim fun o h => ⟨o, h.1⟩
      · rw [hiff] at h2
        obtain ⟨rv, w', h⟩ := eff_some h2
        exact (runV_cons.1 (again_iff.1 h).2.2).elim fun o h => ⟨o, h.1⟩
    obtain ⟨ox, hox⟩ := hox
    have h3 : stepD wr P bef ops i oi fr w past fun v w' p' => Fits nt oi.dst ∧ stepD wr P bef ops x ox (put fr oi.dst v) w' p' fun vx w2 p2 => Fits nt ox.dst ∧ runV wr P nt bef ops K (r ++ σ2) (put (put fr oi.dst v) ox.dst vx) w2 p2 :=
      step_mono (fun e he => he) (fun v w' p p' hp h => by
        obtain ⟨hf, h⟩ := h
        obtain ⟨o', ho', h⟩ := runV_cons.1 h
        rw [hox] at ho'; cases ho'
        exact ⟨hf, step_mono hp (fun vx w2 q q' hq h => ⟨h.1, run_weak hK _ _ _ _ _ _ (fun t => rfl) hq h.2⟩) h⟩) h2
    have h4 := turn hr (hti.apart _ _ hoi hox) hti.bef (hti.cls _ _ hoi hox)
      (F := fun f w p => runV wr P nt bef ops K (r ++ σ2) f w p) (fun f f' w p p' hf hp h => run_weak hK _ _ _ _ _ _ hf hp h) h3
    rw [runV_cons]
    refine ⟨ox, hox, step_mono (fun e he => he) (fun vx w1 p p' hp h => ?_) h4⟩
    obtain ⟨hfx, h⟩ := h
    refine ⟨hfx, ?_⟩
    rw [List.cons_append, runV_cons]
    exact ⟨oi, hoi, step_mono hp (fun v w2 q q' hq h => ⟨h.1, run_weak hK _ _ _ _ _ _ (fun t => rfl) hq h.2⟩) h⟩
end

/-! ### The orders that can be drawn -/
theorem posIn_lt {x : Nat} : ∀ {l : List Nat}, x ∈ l → posIn x l < l.length
  | [], h => by cases h
  | y :: r, h => by
    simp only [posIn]
    split
    · simp
    · rename_i hb
      have : x ≠ y := fun e => by subst e; simp at hb
      simp only [List.length_cons]
      have := posIn_lt (x := x) (l := r) ((List.mem_cons.1 h).resolve_left this)
      omega

/-- what 'linearise' lists from here: each operation behind those that it waits for -/
theorem go_spec (m : Region.Mode) (ops : Array Oper) (σ : List Nat) (hσ : forward m ops.toList σ = true) : ∀ (fuel t : Nat) (listed : Array Bool) (acc : List Nat), listed.size = ops.size →
    (listed.toList.filter (! ·)).length = fuel →
    ∃ L, Region.linearise.go m ops fuel t listed acc = acc.reverse ++ L ∧ (∀ i : Nat, i ∈ L ↔ listed[i]? = some false) ∧ L.Nodup ∧
      ∀ A i B, L = A ++ i :: B → ∀ o, ops[i]? = some o → ∀ e ∈ edgesIn m o, listed[e]? = some true ∨ e ∈ A
  | 0, t, listed, acc, hs, hf => by
    refine ⟨[], by simp [Region.linearise.go], fun i => ?_, List.nodup_nil, fun A i B h => by cases A <;> cases h⟩
    simp only [List.not_mem_nil, false_iff]
    intro h
    have : false ∈ listed.toList := by
      rw [Array.getElem?_eq_some_iff] at h
      obtain ⟨h1, h2⟩ := h
      rw [← h2]; simp
    have h2 : false ∈ listed.toList.filter (! ·) := List.mem_filter.2 ⟨this, rfl⟩
    rw [List.length_eq_zero_iff] at hf
    rw [hf] at h2; cases h2
  | fuel + 1, t, listed, acc, hs, hf => by
    -- someone is not listed; the first such in σ's order waits for nobody
    have hex : ∃ i : Nat, listed[i]? = some false := by
      have : (listed.toList.filter (! ·)) ≠ [] := by intro e; rw [e] at hf; simp at hf
      obtain ⟨b, hb⟩ := List.exists_mem_of_ne_nil _ this
      rw [List.mem_filter] at hb
      obtain ⟨h1, h2⟩ := hb
      obtain ⟨i, hi⟩ := List.getElem?_of_mem h1
      refine ⟨i, ?_⟩
      rw [Array.getElem?_toList] at hi
      rw [hi]; simpa using h2
    have hfree : ∀ (k i : Nat), listed[i]? = some false → posIn i σ ≤ k → ∃ j : Nat, listed[j]? = some false ∧ ∀ o, ops[j]? = some o → ∀ e ∈ edgesIn m o, listed[e]? = some true := by
      intro k
      induction k using Nat.strongRecOn with
      | _ k ih =>
        intro i hi hk
        by_cases hw : ∀ o, ops[i]? = some o → ∀ e ∈ edgesIn m o, listed[e]? = some true
        · exact ⟨i, hi, hw⟩
        · simp only [Classical.not_forall] at hw
          obtain ⟨o, ho, e, he, hne⟩ := hw
          have hilt : i < ops.toList.length := by
            have := (Array.getElem?_eq_some_iff.1 ho).1; simpa using this
          have hall := List.all_eq_true.1 hσ i (List.mem_range.2 hilt)
          have ho' : ops.toList[i]? = some o := by simpa using ho
          simp only [ho'] at hall
          have h2 := List.all_eq_true.1 hall e he
          simp only [Bool.and_eq_true, decide_eq_true_eq] at h2
          have hef : listed[e]? = some false := by
            have hlt : e < listed.size := by rw [hs]; simpa using h2.1
            rw [Array.getElem?_eq_getElem hlt] at hne ⊢
            cases hl : listed[e] with
            | true => exact absurd (by rw [hl]) hne
            | false => rfl
          exact ih (posIn e σ) (by omega) e hef (Nat.le_refl _)
    obtain ⟨i0, hi0⟩ := hex
    obtain ⟨j0, hj0, hj0'⟩ := hfree _ i0 hi0 (Nat.le_refl _)
    -- so the candidates are not none
    have hrs : ∀ i : Nat, i ∈ ((List.range ops.size).filter fun i => !listed.getD i true && ((ops[i]?).map (·.after.all fun e => !Region.binds m e || listed.getD e.on false)).getD false) ↔
        listed[i]? = some false ∧ ∀ o, ops[i]? = some o → ∀ e ∈ edgesIn m o, listed[e]? = some true := by
      intro i
      rw [List.mem_filter, List.mem_range]
      constructor
      · rintro ⟨hlt, h⟩
        simp only [Bool.and_eq_true] at h
        obtain ⟨h1, h2⟩ := h
        have hlt' : i < listed.size := by omega
        refine ⟨?_, fun o ho e he => ?_⟩
        · rw [Array.getElem?_eq_getElem hlt']
          rw [Array.getD_eq_getD_getElem?, Array.getElem?_eq_getElem hlt'] at h1
          simp at h1; rw [h1]
        · rw [ho] at h2
          simp only [Option.map_some, Option.getD_some] at h2
          simp only [edgesIn, List.mem_map, List.mem_filter] at he
          obtain ⟨ed, ⟨he1, he2⟩, rfl⟩ := he
          have := Array.all_eq_true'.1 h2 ed (by simpa using he1)
          simp only [he2, Bool.not_true, Bool.false_or] at this
          rw [Array.getD_eq_getD_getElem?] at this
          cases hx : listed[ed.on]? with
          | none => rw [hx] at this; simp at this
          | some b => rw [hx] at this; simp at this; rw [this]
      · rintro ⟨h1, h2⟩
        have hlt : i < ops.size := by rw [← hs]; exact (Array.getElem?_eq_some_iff.1 h1).1
        refine ⟨hlt, ?_⟩
        simp only [Bool.and_eq_true]
        refine ⟨by rw [Array.getD_eq_getD_getElem?, h1]; rfl, ?_⟩
        rw [Array.getElem?_eq_getElem hlt]
        simp only [Option.map_some, Option.getD_some]
        refine Array.all_eq_true'.2 fun ed hed => ?_
        cases hb : Region.binds m ed with
        | false => rfl
        | true =>
          have := h2 _ (Array.getElem?_eq_getElem hlt) ed.on (by
            simp only [edgesIn, List.mem_map, List.mem_filter]
            exact ⟨ed, ⟨by simpa using hed, hb⟩, rfl⟩)
          rw [Array.getD_eq_getD_getElem?, this]; rfl
    simp only [Region.linearise.go]
    generalize hR : ((List.range ops.size).filter fun i => !listed.getD i true && ((ops[i]?).map (·.after.all fun e => !Region.binds m e || listed.getD e.on false)).getD false) = rs at hrs
    have hne : rs ≠ [] := fun e => by
      have := (hrs j0).2 ⟨hj0, hj0'⟩
      rw [e] at this; cases this
    have hlen : t % rs.length < rs.length := Nat.mod_lt _ (List.length_pos_iff.2 hne)
    rw [List.getElem?_eq_getElem hlen]
    simp only
    have him : rs[t % rs.length] ∈ rs := List.getElem_mem hlen
    generalize rs[t % rs.length] = i at him
    obtain ⟨hi, hie⟩ := (hrs i).1 him
    have hilt : i < listed.size := (Array.getElem?_eq_some_iff.1 hi).1
    have hcount : ((listed.setIfInBounds i true).toList.filter (! ·)).length = fuel := by
      rw [Array.toList_setIfInBounds]
      have h1 : listed.toList[i]? = some false := by rw [Array.getElem?_toList]; exact hi
      have key : ∀ (l : List Bool) (i : Nat), l[i]? = some false → ((l.set i true).filter (! ·)).length + 1 = (l.filter (! ·)).length := by
        intro l
        induction l with
        | nil => intro i h; simp at h
        | cons b l ih =>
          intro i h
          cases i with
          | zero => simp at h; subst h; simp
          | succ i =>
            simp only [List.getElem?_cons_succ] at h
            have := ih i h
            cases b <;> simp [List.set_cons_succ, List.filter_cons] <;> omega
      have := key _ _ h1
      omega
    obtain ⟨L, e1, e2, e3, e4⟩ := go_spec m ops σ hσ fuel (t / rs.length) (listed.setIfInBounds i true) (i :: acc) (by simpa using hs) hcount
    have hget : ∀ k : Nat, (listed.setIfInBounds i true)[k]? = if i = k then some true else listed[k]? := by
      intro k
      rw [Array.getElem?_setIfInBounds]
      split
      · first | rfl | rw [if_pos hilt]
      · rfl
    refine ⟨i :: L, by rw [e1]; simp, fun k => ?_, ?_, ?_⟩
    · rw [List.mem_cons, e2, hget]
      by_cases hk : i = k
      · subst hk; simp [hi]
      · rw [if_neg hk]
        simp [Ne.symm hk]
    · refine List.nodup_cons.2 ⟨fun h => ?_, e3⟩
      rw [e2, hget, if_pos rfl] at h
      cases h
    · intro A k B hL o ho e he
      cases A with
      | nil =>
        simp at hL
        obtain ⟨rfl, rfl⟩ := hL
        exact .inl (hie o ho e he)
      | cons a A =>
        simp at hL
        obtain ⟨rfl, hL⟩ := hL
        rcases e4 A k B hL o ho e he with h | h
        · rw [hget] at h
          split at h
          · rename_i hik; subst hik; exact .inr (List.mem_cons_self ..)
          · exact .inl h
        · exact .inr (List.mem_cons_of_mem _ h)

/-- what is listed of a region: each operation once, none ahead of those that it waits for -/
structure Lists (m : Region.Mode) (ops : Array Oper) (τ : List Nat) : Prop where
  mem : ∀ i, i ∈ τ ↔ i < ops.size
  nodup : τ.Nodup
  edge : ∀ A i B, τ = A ++ i :: B → ∀ o, ops[i]? = some o → ∀ e ∈ edgesIn m o, e ∈ A

theorem lists_of {m : Region.Mode} {ops : Array Oper} {σ : List Nat} (hσ : forward m ops.toList σ = true) (t : Nat) : Lists m ops (Region.linearise m ops t) := by
  obtain ⟨L, e1, e2, e3, e4⟩ := go_spec m ops σ hσ ops.size t (Array.replicate ops.size false) [] (by simp) (by simp)
  have e : Region.linearise m ops t = L := by simpa [Region.linearise] using e1
  rw [e]
  refine ⟨fun i => ?_, e3, fun A i B h o ho e he => ?_⟩
  · rw [e2, Array.getElem?_replicate]
    split <;> simp_all
  · rcases e4 A i B h o ho e he with h | h
    · rw [Array.getElem?_replicate] at h
      split at h <;> cases h
    · exact h

theorem any_of_mode {m : Region.Mode} {o : Oper} {e : Nat} (h : e ∈ edgesIn .any o) : e ∈ edgesIn m o := by
  simp only [edgesIn, List.mem_map, List.mem_filter] at h ⊢
  obtain ⟨ed, ⟨h1, h2⟩, rfl⟩ := h
  refine ⟨ed, ⟨h1, ?_⟩, rfl⟩
  simp only [Region.binds] at h2 ⊢
  split at h2 <;> first | rfl | cases h2

/-- what is ahead of what in a closure is ahead in the list -/
def Good (τ : List Nat) (cl : List Nat) : Prop := ∀ i j, before cl i j = true → ∀ A B, τ = A ++ j :: B → i ∈ A

theorem bits_mem (f g : Nat → Nat) : ∀ (l : List Nat) (s i : Nat), Nat.testBit (l.foldl (fun s e => Nat.lor s (Nat.lor (Nat.pow 2 e) (Nat.lor (f e) (g e)))) s) i = true →
    Nat.testBit s i = true ∨ ∃ e ∈ l, i = e ∨ Nat.testBit (f e) i = true ∨ Nat.testBit (g e) i = true
  | [], s, i, h => .inl h
  | e :: r, s, i, h => by
    rw [List.foldl_cons] at h
    rcases bits_mem f g r _ i h with h | ⟨e', he', h⟩
    · have h : Nat.testBit (s ||| (2 ^ e ||| (f e ||| g e))) i = true := h
      rw [Nat.testBit_or, Nat.testBit_or, Nat.testBit_or] at h
      simp only [Bool.or_eq_true] at h
      rcases h with h | h | h | h
      · exact .inl h
      · rw [Nat.testBit_two_pow] at h
        exact .inr ⟨e, List.mem_cons_self .., .inl (of_decide_eq_true h).symm⟩
      · exact .inr ⟨e, List.mem_cons_self .., .inr (.inl h)⟩
      · exact .inr ⟨e, List.mem_cons_self .., .inr (.inr h)⟩
    · exact .inr ⟨e', List.mem_cons_of_mem _ he', h⟩

theorem good_nil (τ : List Nat) : Good τ [] := by
  intro i j h
  simp [before, getN] at h

theorem good_pass {m : Region.Mode} {ops : Array Oper} {τ : List Nat} (hl : Lists m ops τ) {ex : List (Nat × Nat)} (hex : ∀ p ∈ ex, ∀ A B, τ = A ++ p.2 :: B → p.1 ∈ A) {prev : List Nat} (hp : Good τ prev) :
    Good τ (passM ex prev ops.toList) := by
  have key : ∀ (l done : List Oper) (acc : List Nat), ops.toList = done ++ l → acc.length = done.length → Good τ acc →
      Good τ (l.foldl (fun acc o => acc ++ [(edgesX ex acc.length o).foldl (fun s e => Nat.lor s (Nat.lor (Nat.pow 2 e) (Nat.lor (getN acc e) (getN prev e)))) 0]) acc) := by
    intro l
    induction l with
    | nil => exact fun done acc _ _ h => h
    | cons o r ih =>
      intro done acc ho hlen hg
      rw [List.foldl_cons]
      refine ih (done ++ [o]) _ (by rw [ho]; simp) (by simp [hlen]) ?_
      intro i j hb A B hτ
      simp only [before, getN] at hb
      by_cases hj : j < acc.length
      · rw [List.getElem?_append_left hj] at hb
        exact hg i j hb A B hτ
      · by_cases hj2 : j = acc.length
        · subst hj2
          rw [List.getElem?_append_right (Nat.le_refl _)] at hb
          simp only [Nat.sub_self, List.getElem?_cons_zero, Option.getD_some] at hb
          rcases bits_mem _ _ _ _ _ hb with h | ⟨e, he, h⟩
          · simp at h
          · have heA : e ∈ A := by
              simp only [edgesX, List.mem_append, List.mem_map, List.mem_filter] at he
              rcases he with he | ⟨p, ⟨hp1, hp2⟩, rfl⟩
              · refine hl.edge A _ B hτ o ?_ e (any_of_mode ?_)
                · have : ops.toList[acc.length]? = some o := by rw [ho, hlen]; simp
                  simpa using this
                · simpa [edgesIn, edges] using he
              · have hp2 := Nat.eq_of_beq_eq_true hp2
                exact hex p hp1 A B (by rw [hp2]; exact hτ)
            rcases h with rfl | h | h
            · exact heA
            · obtain ⟨A1, A2, rfl⟩ := List.append_of_mem heA
              exact List.mem_append_left _ (hg i e h A1 (A2 ++ acc.length :: B) (by rw [hτ]; simp))
            · obtain ⟨A1, A2, rfl⟩ := List.append_of_mem heA
              exact List.mem_append_left _ (hp i e h A1 (A2 ++ acc.length :: B) (by rw [hτ]; simp))
        · rw [List.getElem?_eq_none (by simp; omega)] at hb
          simp at hb
  exact key ops.toList [] [] rfl rfl (good_nil τ)

theorem good_closure {m : Region.Mode} {ops : Array Oper} {τ : List Nat} (hl : Lists m ops τ) {ex : List (Nat × Nat)} (hex : ∀ p ∈ ex, ∀ A B, τ = A ++ p.2 :: B → p.1 ∈ A) : Good τ (closure ex ops.toList) := by
  unfold closure
  split
  · exact good_pass hl (fun p hp => by cases hp) (good_nil τ)
  · exact good_pass hl hex (good_pass hl hex (good_pass hl hex (good_nil τ)))

theorem remove_mem {x : Nat} : ∀ {l : List Nat}, l.Nodup → (∀ y, y ∈ remove x l ↔ y ∈ l ∧ y ≠ x) ∧ (remove x l).Nodup ∧ (x ∈ l → (remove x l).length + 1 = l.length)
  | [], h => ⟨by simp [remove], by simp [remove], by simp⟩
  | z :: r, h => by
    simp only [remove]
    rw [List.nodup_cons] at h
    cases hb : Nat.beq x z with
    | true =>
      have := Nat.eq_of_beq_eq_true hb; subst this
      refine ⟨fun y => ?_, h.2, fun _ => by simp⟩
      simp only [List.mem_cons]
      constructor
      · intro hy; exact ⟨.inr hy, fun e => h.1 (e ▸ hy)⟩
      · rintro ⟨hy | hy, hne⟩
        · exact absurd hy hne
        · exact hy
    | false =>
      have hne : x ≠ z := fun e => by subst e; simp at hb
      obtain ⟨h1, h2, h3⟩ := remove_mem (x := x) h.2
      refine ⟨fun y => ?_, ?_, fun hx => ?_⟩
      · simp only [List.mem_cons, h1]
        constructor
        · rintro (rfl | ⟨hy, hn⟩)
          · exact ⟨.inl rfl, Ne.symm hne⟩
          · exact ⟨.inr hy, hn⟩
        · rintro ⟨rfl | hy, hn⟩
          · exact .inl rfl
          · exact .inr ⟨hy, hn⟩
      · exact List.nodup_cons.2 ⟨fun hz => h.1 ((h1 z).1 hz).1, h2⟩
      · have hx' := (List.mem_cons.1 hx).resolve_left hne
        simp [h3 hx']

theorem exts_mem {cl : List Nat} : ∀ (n : Nat) (l eo : List Nat), l.length = n → l.Nodup → eo.Nodup → (∀ x, x ∈ eo ↔ x ∈ l) → (∀ x ∈ l, before cl x x = false) → (∀ A x B, eo = A ++ x :: B → ∀ y ∈ B, before cl y x = false) → eo ∈ extsOf cl n l
  | 0, l, eo, hn, hl, he, hm, hx, hr => by
    have : l = [] := List.eq_nil_of_length_eq_zero hn
    subst this
    have : eo = [] := by
      cases eo with
      | nil => rfl
      | cons x r => exact absurd ((hm x).1 (List.mem_cons_self ..)) (by simp)
    subst this
    simp [extsOf]
  | n + 1, l, eo, hn, hl, he, hm, hx, hr => by
    cases eo with
    | nil =>
      cases l with
      | nil => simp at hn
      | cons x r => exact absurd ((hm x).2 (List.mem_cons_self ..)) (by simp)
    | cons x r =>
      have hxl := (hm x).1 (List.mem_cons_self ..)
      simp only [extsOf, List.mem_flatMap, List.mem_filter, List.mem_map]
      obtain ⟨h1, h2, h3⟩ := remove_mem (x := x) hl
      rw [List.nodup_cons] at he
      refine ⟨x, ⟨hxl, List.all_eq_true.2 fun y hy => ?_⟩, r, ?_, rfl⟩
      · by_cases hyx : y = x
        · subst hyx; rw [hx y hxl]; rfl
        · have := ((hm y).2 hy)
          rw [hr [] x r rfl y ((List.mem_cons.1 this).resolve_left hyx)]; rfl
      · refine exts_mem n (remove x l) r (by have := h3 hxl; omega) h2 he.2 (fun y => ?_) (fun y hy => hx y ((h1 y).1 hy).1) (fun A z B hAB y hy => hr (x :: A) z B (by rw [hAB]; rfl) y hy)
        rw [h1]
        constructor
        · intro hy; exact ⟨(hm y).1 (List.mem_cons_of_mem _ hy), fun e => he.1 (e ▸ hy)⟩
        · rintro ⟨hy, hne⟩
          exact (List.mem_cons.1 ((hm y).2 hy)).resolve_left hne

theorem chain_mem : ∀ {eo : List Nat} {x y : Nat}, (x, y) ∈ chainOf eo → ∃ C D, eo = C ++ x :: y :: D
  | [], x, y, h => by simp [chainOf] at h
  | [z], x, y, h => by simp [chainOf] at h
  | z :: u :: r, x, y, h => by
    simp only [chainOf] at h
    rcases List.mem_cons.1 h with h | h
    · cases h; exact ⟨[], r, rfl⟩
    · obtain ⟨C, D, e⟩ := chain_mem (eo := u :: r) h
      exact ⟨z :: C, D, by rw [e]; rfl⟩

theorem chain_good {τ : List Nat} (hn : τ.Nodup) (p : Nat → Bool) : ∀ q ∈ chainOf (τ.filter p), ∀ A B, τ = A ++ q.2 :: B → q.1 ∈ A := by
  rintro ⟨x, y⟩ hq A B hτ
  obtain ⟨C, D, e⟩ := chain_mem hq
  have hy : p y = true := by
    have : y ∈ τ.filter p := by rw [e]; simp
    exact (List.mem_filter.1 this).2
  have hx : x ∈ τ ∧ p x = true := by
    have : x ∈ τ.filter p := by rw [e]; simp
    exact List.mem_filter.1 this
  simp only at hτ
  rw [hτ, List.filter_append, List.filter_cons_of_pos hy] at e
  have hnf : (A.filter p ++ y :: B.filter p).Nodup := by
    have := hn.filter p
    rwa [hτ, List.filter_append, List.filter_cons_of_pos hy] at this
  -- the two ways to part the list at y are one
  have key : ∀ (l1 l2 r1 r2 : List Nat), l1 ++ y :: r1 = l2 ++ y :: r2 → (l1 ++ y :: r1).Nodup → l1 = l2 := by
    intro l1
    induction l1 with
    | nil =>
      intro l2 r1 r2 h hnd
      cases l2 with
      | nil => rfl
      | cons z l2 =>
        simp only [List.nil_append, List.cons_append, List.cons.injEq] at h
        obtain ⟨rfl, h⟩ := h
        rw [h] at hnd
        simp [List.nodup_cons] at hnd
    | cons z l1 ih =>
      intro l2 r1 r2 h hnd
      cases l2 with
      | nil =>
        simp only [List.nil_append, List.cons_append, List.cons.injEq] at h
        obtain ⟨rfl, h⟩ := h
        simp [List.nodup_cons] at hnd
      | cons u l2 =>
        simp only [List.cons_append, List.cons.injEq] at h
        obtain ⟨rfl, h⟩ := h
        rw [ih l2 r1 r2 h (List.nodup_cons.1 hnd).2]
  have e2 := key (A.filter p) (C ++ [x]) (B.filter p) D (by rw [e]; simp) hnf
  have : x ∈ A.filter p := by rw [e2]; simp
  exact (List.mem_filter.1 this).1

theorem turners_mem {P : Program} : ∀ (l : List Oper) (k i : Nat), i ∈ turners P l k ↔ k ≤ i ∧ ∃ o, l[i - k]? = some o ∧ cls P o.op ≠ 0 ∧ cls P o.op ≠ 1
  | [], k, i => by simp [turners]
  | o :: r, k, i => by
    have ih := turners_mem (P := P) r (k + 1) i
    have rest : (k + 1 ≤ i ∧ ∃ o, r[i - (k + 1)]? = some o ∧ cls P o.op ≠ 0 ∧ cls P o.op ≠ 1) ↔ (k ≤ i ∧ i ≠ k ∧ ∃ o', (o :: r)[i - k]? = some o' ∧ cls P o'.op ≠ 0 ∧ cls P o'.op ≠ 1) := by
      constructor
      · rintro ⟨h1, h2⟩
        refine ⟨by omega, by omega, ?_⟩
        rw [show i - k = (i - (k + 1)) + 1 by omega]
        simpa using h2
      · rintro ⟨h1, h2, h3⟩
        refine ⟨by omega, ?_⟩
        rw [show i - k = (i - (k + 1)) + 1 by omega] at h3
        simpa using h3
    simp only [turners]
    split
    · rename_i hc
      rw [ih, rest]
      constructor
      · rintro ⟨h1, _, h3⟩; exact ⟨h1, h3⟩
      · rintro ⟨h1, o', h3, h4⟩
        refine ⟨h1, fun e => ?_, o', h3, h4⟩
        subst e; simp at h3; subst h3; exact h4.1 hc
    · rename_i hc
      rw [ih, rest]
      constructor
      · rintro ⟨h1, _, h3⟩; exact ⟨h1, h3⟩
      · rintro ⟨h1, o', h3, h4⟩
        refine ⟨h1, fun e => ?_, o', h3, h4⟩
        subst e; simp at h3; subst h3; exact h4.2 hc
    · rename_i h0 h1
      rw [List.mem_cons, ih, rest]
      constructor
      · rintro (rfl | ⟨h1', _, h3⟩)
        · exact ⟨Nat.le_refl _, o, by simp, h0, h1⟩
        · exact ⟨h1', h3⟩
      · rintro ⟨h1', h3⟩
        by_cases e : i = k
        · exact .inl e
        · exact .inr ⟨h1', e, h3⟩
theorem turners_nodup {P : Program} : ∀ (l : List Oper) (k : Nat), (turners P l k).Nodup
  | [], k => List.nodup_nil
  | o :: r, k => by
    have ih := turners_nodup (P := P) r (k + 1)
    simp only [turners]
    split
    · exact ih
    · exact ih
    · refine List.nodup_cons.2 ⟨fun h => ?_, ih⟩
      rw [turners_mem] at h
      omega

theorem nodup_le : ∀ (n : Nat) (σ : List Nat), σ.Nodup → (∀ k ∈ σ, k < n) → σ.length ≤ n
  | 0, σ, h, hk => by
    cases σ with
    | nil => simp
    | cons i r => exact absurd (hk i (List.mem_cons_self ..)) (by omega)
  | n + 1, σ, h, hk => by
    by_cases hn : n ∈ σ
    · have h1 := nodup_le n (σ.erase n) (h.erase n) (fun k hk' => by
        have h2 := hk k (List.mem_of_mem_erase hk')
        have h3 : k ≠ n := (h.mem_erase_iff.1 hk').1
        omega)
      rw [List.length_erase_of_mem hn] at h1
      omega
    · have h1 := nodup_le n σ h (fun k hk' => by
        have h2 := hk k hk'
        have h3 : k ≠ n := fun e => hn (e ▸ hk')
        omega)
      omega
theorem pairs_of {f : Nat → Nat → Bool} : ∀ {σ : List Nat}, pairsOk f σ = true → σ.Pairwise (fun i j => f i j = true)
  | [], _ => List.Pairwise.nil
  | i :: r, h => by
    simp only [pairsOk, Bool.and_eq_true] at h
    exact List.Pairwise.cons (fun j hj => List.all_eq_true.1 h.1 j hj) (pairs_of h.2)
theorem nodup_of : ∀ {σ : List Nat}, nodupB σ = true → σ.Nodup
  | [], _ => List.nodup_nil
  | i :: r, h => by
    simp only [nodupB, Bool.and_eq_true] at h
    exact List.nodup_cons.2 ⟨by simpa using h.1, nodup_of h.2⟩

section
variable {wr : Bool} {P : Program} {nt : Nat} {ds : List Deferred} {rd : Option Nat} {n : Nat}

theorem Ref.putv {fr : Fr} {a : Act} (hr : Ref nt ds fr a) {d : Option Nat} (hf : Fits nt d) {rv : Option Value} {v : Value} (hv : ∀ u, rv = some u → v = u) : Ref nt ds (Vc.put fr d rv) (a.put d v) := by
  cases d with
  | none => exact hr
  | some d =>
    cases rv with
    | some u => cases hv u rfl; exact hr.put (hf d rfl) v
    | none => exact hr.lose (some d) v d rfl

theorem draw_run (hN : NoNum P) {opsA : Array Oper} {Q : Exit → Act → World → Prop} {K : Fr → World → Prop} (hK : ∀ f f' w, Feq f f' → K f w → K f' w) (hQ : ∀ fr w a, K fr w → Ref nt ds fr a → Q .normal a w) :
    ∀ (cl τ σ : List Nat) (fr : Fr) (w : World) (past : Past) (a : Act), (∀ i, i ∈ σ ↔ i ∈ τ) → σ.Nodup → τ.Nodup →
      (∀ A x B, τ = A ++ x :: B → ∀ i ∈ B, before cl i x = false) →
      σ.Pairwise (fun i j => turnOk P opsA.toList cl i j = true) →
      runV wr P nt (before cl) opsA.toList K σ fr w past → Ref nt ds fr a → wpOpsIn (W rd) n P opsA Q τ a w
  | cl, [], σ, fr, w, past, a, hm, hs, ht, hresp, hp, h, hr => by
    have : σ = [] := by
      cases σ with
      | nil => rfl
      | cons i r => exact absurd ((hm i).1 (List.mem_cons_self ..)) (by simp)
    subst this
    exact hQ _ _ _ h hr
  | cl, x :: τ', σ, fr, w, past, a, hm, hs, ht, hresp, hp, h, hr => by
    obtain ⟨σ1, σ2, rfl⟩ := List.append_of_mem ((hm x).2 (List.mem_cons_self ..))
    have hx1 : ∀ i ∈ σ1, i ≠ x := by
      intro i hi e
      subst e
      rw [List.nodup_append] at hs
      exact hs.2.2 i hi i (List.mem_cons_self ..) rfl
    have hturn : ∀ i ∈ σ1, Turns P (before cl) opsA.toList i x := by
      intro i hi
      have hiτ : i ∈ τ' := by
        have := (hm i).1 (List.mem_append_left _ hi)
        exact (List.mem_cons.1 this).resolve_left (hx1 i hi)
      have hb : before cl i x = false := hresp [] x τ' rfl i hiτ
      have hok := (List.pairwise_append.1 hp).2.2 i hi x (List.mem_cons_self ..)
      simp only [turnOk, hb, Bool.false_or, Bool.and_eq_true] at hok
      obtain ⟨⟨-, hap⟩, hc⟩ := hok
      refine ⟨hb, fun a b ha hb' => apart_of ha hb' hap, fun a b ha hb' => ?_⟩
      simp only [ha, hb'] at hc
      split at hc
      · left; assumption
      · right; left; assumption
      · right; right; assumption
      · cases hc
    have h2 := pull hK σ1 fr w past a hr hturn h
    obtain ⟨o, ho, h3⟩ := runV_cons.1 h2
    refine step_upon hN ho h3 hr fun rv w' p' hk v hv => ?_
    refine draw_run hN hK hQ cl τ' (σ1 ++ σ2) _ _ _ _ (fun i => ?_) ?_ (List.nodup_cons.1 ht).2 ?_ ?_ hk.2 (hr.putv hk.1 hv)
    · have h1 := hm i
      simp only [List.mem_append, List.mem_cons] at h1 ⊢
      have hxn : x ∉ τ' := (List.nodup_cons.1 ht).1
      have hx2 : x ∉ σ2 := by
        rw [List.nodup_append] at hs
        exact (List.nodup_cons.1 hs.2.1).1
      constructor
      · intro hh
        have := h1.1 (hh.imp id .inr)
        refine this.resolve_left fun e => ?_
        subst e
        rcases hh with hh | hh
        · exact hx1 _ hh rfl
        · exact hx2 hh
      · intro hh
        have := h1.2 (.inr hh)
        rcases this with h' | h' | h'
        · exact .inl h'
        · subst h'; exact absurd hh hxn
        · exact .inr h'
    · rw [List.nodup_append] at hs ⊢
      refine ⟨hs.1, (List.nodup_cons.1 hs.2.1).2, fun a ha b hb => hs.2.2 a ha b (List.mem_cons_of_mem _ hb)⟩
    · intro A y B hτ i hi
      exact hresp (x :: A) y B (by rw [hτ]; rfl) i hi
    · rw [List.pairwise_append] at hp ⊢
      exact ⟨hp.1, (List.pairwise_cons.1 hp.2.1).2, fun a ha b hb => hp.2.2 a ha b (List.mem_cons_of_mem _ hb)⟩

theorem drawAll_mem {f : List Nat → Prop} : ∀ {l : List (List Nat)} {x : List Nat}, x ∈ l → drawAll f l → f x
  | [y], x, hx, h => by
    simp only [List.mem_singleton] at hx; subst hx; exact h
  | y :: z :: r, x, hx, h => by
    rcases List.mem_cons.1 hx with rfl | hx
    · exact h.1
    · exact drawAll_mem hx h.2

/-- what is asked at one order of the turners -/
def oneV (wr : Bool) (P : Program) (nt : Nat) (opsA : Array Oper) (K : Fr → World → Prop) (fr : Fr) (w : World) (eo : List Nat) : Prop :=
  match closure (chainOf eo) opsA.toList with
  | cl => match orderOf P opsA.toList cl (List.range opsA.toList.length) opsA.toList.length 0 with
    | σ => match drawOk P opsA cl σ with
      | true => runV wr P nt (before cl) opsA.toList K σ fr w []
      | false => False
theorem oneV_mono {opsA : Array Oper} {K K' : Fr → World → Prop} {fr : Fr} {w : World} {eo : List Nat}
    (hk : ∀ cl σ, runV wr P nt (before cl) opsA.toList K σ fr w [] → runV wr P nt (before cl) opsA.toList K' σ fr w []) (h : oneV wr P nt opsA K fr w eo) : oneV wr P nt opsA K' fr w eo := by
  simp only [oneV] at h ⊢
  split at h
  · exact hk _ _ h
  · exact h.elim
theorem drawAll_mono {f g : List Nat → Prop} (hf : ∀ x, f x → g x) : ∀ {l : List (List Nat)}, drawAll f l → drawAll g l
  | [], h => h
  | [x], h => hf x h
  | x :: y :: r, h => ⟨hf x h.1, drawAll_mono hf h.2⟩

theorem draw_upon (hN : NoNum P) {opsA : Array Oper} {Q : Exit → Act → World → Prop} {K : Fr → World → Prop} (hK : ∀ f f' w, Feq f f' → K f w → K f' w) (hQ : ∀ fr w a, K fr w → Ref nt ds fr a → Q .normal a w)
    {fr : Fr} {w : World} {a : Act} (hbase : drawBase opsA = true)
    (h : drawAll (oneV wr P nt opsA K fr w) (extsOf (closure [] opsA.toList) (turners P opsA.toList 0).length (turners P opsA.toList 0))) (hr : Ref nt ds fr a) (mixed : Bool) (t : Nat) :
    wpOpsIn (W rd) n P opsA Q (Region.schedule mixed opsA t) a w := by
  simp only [drawBase, Bool.and_eq_true] at hbase
  obtain ⟨hfa, hdep⟩ := hbase
  have hlists : ∃ m, Lists m opsA (Region.schedule mixed opsA t) := by
    simp only [Region.schedule]
    split
    · exact ⟨_, lists_of hfa t⟩
    · rename_i hc
      have hd : Region.departs opsA = true := by
        cases hd : Region.departs opsA with
        | true => rfl
        | false => rw [hd] at hc; simp at hc
      simp only [hd, Bool.not_true, Bool.false_or, Bool.and_eq_true] at hdep
      split
      · exact ⟨_, lists_of hdep.1 _⟩
      · exact ⟨_, lists_of hdep.2 _⟩
  obtain ⟨m, hl⟩ := hlists
  generalize Region.schedule mixed opsA t = τ at hl ⊢
  -- the order of the turners in τ
  let p : Nat → Bool := fun i => (turners P opsA.toList 0).contains i
  have hgood0 := good_closure (ex := []) hl (fun q hq => by cases hq)
  have hself : ∀ cl, Good τ cl → ∀ x ∈ τ, before cl x x = false := by
    intro cl hg x hx
    cases hb : before cl x x with
    | false => rfl
    | true =>
      obtain ⟨A, B, rfl⟩ := List.append_of_mem hx
      have := hg x x hb A B rfl
      have hn := hl.nodup
      rw [List.nodup_append] at hn
      exact absurd rfl (hn.2.2 x this x (List.mem_cons_self ..))
  have hresp : ∀ cl, Good τ cl → ∀ A x B, τ = A ++ x :: B → ∀ i ∈ B, before cl i x = false := by
    intro cl hg A x B hτ i hi
    cases hb : before cl i x with
    | false => rfl
    | true =>
      have hA := hg i x hb A B hτ
      have hn := hl.nodup
      rw [hτ, List.nodup_append] at hn
      exact absurd rfl (hn.2.2 i hA i (List.mem_cons_of_mem _ hi))
  have htm : ∀ x, x ∈ turners P opsA.toList 0 → x ∈ τ := by
    intro x hx
    rw [turners_mem] at hx
    obtain ⟨-, o, ho, -⟩ := hx
    rw [hl.mem]
    have := (List.getElem?_eq_some_iff.1 ho).1
    simpa using this
  have hmem : τ.filter p ∈ extsOf (closure [] opsA.toList) (turners P opsA.toList 0).length (turners P opsA.toList 0) := by
    refine exts_mem _ _ _ rfl (turners_nodup _ _) (hl.nodup.filter p) (fun x => ?_) (fun x hx => hself _ hgood0 x (htm x hx)) (fun A x B hAB y hy => ?_)
    · rw [List.mem_filter]
      constructor
      · rintro ⟨-, h2⟩; simpa [p] using h2
      · intro hx; exact ⟨htm x hx, by simpa [p] using hx⟩
    · cases hb : before (closure [] opsA.toList) y x with
      | false => rfl
      | true =>
        have hxτ : x ∈ τ := (List.mem_filter.1 (by rw [hAB]; simp : x ∈ τ.filter p)).1
        have hyf : y ∈ τ.filter p := by rw [hAB]; simp [hy]
        obtain ⟨A1, B1, hτ⟩ := List.append_of_mem hxτ
        have hyA := hgood0 y x hb A1 B1 hτ
        have hpx : p x = true := (List.mem_filter.1 (by rw [hAB]; simp : x ∈ τ.filter p)).2
        have hpy : p y = true := (List.mem_filter.1 hyf).2
        -- y stands ahead of x in τ, behind it in the filtered list
        have hnf : (τ.filter p).Nodup := hl.nodup.filter p
        have e : τ.filter p = A1.filter p ++ x :: B1.filter p := by rw [hτ, List.filter_append, List.filter_cons_of_pos hpx]
        have hyA1 : y ∈ A1.filter p := List.mem_filter.2 ⟨hyA, hpy⟩
        have hAeq : A1.filter p = A := by
          rw [hAB] at e hnf
          have key : ∀ (l1 l2 r1 r2 : List Nat), l1 ++ x :: r1 = l2 ++ x :: r2 → (l1 ++ x :: r1).Nodup → l1 = l2 := by
            intro l1
            induction l1 with
            | nil =>
              intro l2 r1 r2 h hnd
              cases l2 with
              | nil => rfl
              | cons z l2 =>
                simp only [List.nil_append, List.cons_append, List.cons.injEq] at h
                obtain ⟨rfl, h⟩ := h
                rw [h] at hnd
                simp [List.nodup_cons] at hnd
            | cons z l1 ih =>
              intro l2 r1 r2 h hnd
              cases l2 with
              | nil =>
                simp only [List.nil_append, List.cons_append, List.cons.injEq] at h
                obtain ⟨rfl, h⟩ := h
                simp [List.nodup_cons] at hnd
              | cons u l2 =>
                simp only [List.cons_append, List.cons.injEq] at h
                obtain ⟨rfl, h⟩ := h
                rw [ih l2 r1 r2 h (List.nodup_cons.1 hnd).2]
          exact (key A (A1.filter p) B (B1.filter p) e hnf).symm
        rw [hAeq] at hyA1
        rw [hAB, List.nodup_append] at hnf
        exact absurd rfl (hnf.2.2 y hyA1 y (List.mem_cons_of_mem _ hy))
  have h1 := drawAll_mem hmem h
  have hgood := good_closure (ex := chainOf (τ.filter p)) hl (chain_good hl.nodup p)
  simp only [oneV] at h1
  split at h1
  · rename_i hok
    simp only [drawOk, Bool.and_eq_true, decide_eq_true_eq] at hok
    obtain ⟨⟨⟨hlen, hnd⟩, hall⟩, hpairs⟩ := hok
    have hs := nodup_of hnd
    refine draw_run hN hK hQ _ _ _ fr w [] a (fun i => ?_) hs hl.nodup (hresp _ hgood) (pairs_of hpairs) h1 hr
    rw [hl.mem]
    constructor
    · intro hi
      have := List.all_eq_true.1 hall i hi
      simpa using this
    · intro hi
      apply Classical.byContradiction
      intro hn
      have := nodup_le opsA.size (i :: _) (List.nodup_cons.2 ⟨hn, hs⟩) (fun k hk => by
        rcases List.mem_cons.1 hk with h | h
        · omega
        · have := List.all_eq_true.1 hall k h
          simpa using this)
      rw [List.length_cons] at this
      have e : opsA.toList.length = opsA.size := Array.length_toList
      omega
  · exact h1.elim
end
end Go.Vc
