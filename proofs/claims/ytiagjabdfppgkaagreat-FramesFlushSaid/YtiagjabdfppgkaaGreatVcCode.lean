/- Code, and a function: from the calculus' statement to the contract. -/
import Derived.Test.YtiagjabdfppgkaaGreatVcDraw
import Derived.RangeFuncLeaves
set_option linter.unusedVariables false
set_option linter.unusedSimpArgs false
set_option maxRecDepth 100000
namespace Go.Vc
open Go

/-! ### What code leaves of a frame -/
def Keep (ms : List Nat) (fr fr' : Fr) : Prop := ∀ t, t ∉ ms → fget fr' t = fget fr t

theorem Keep.refl (ms : List Nat) (fr : Fr) : Keep ms fr fr := fun _ _ => rfl
theorem Keep.trans {ms : List Nat} {a b c : Fr} (h : Keep ms a b) (h' : Keep ms b c) : Keep ms a c := fun t ht => (h' t ht).trans (h t ht)
theorem Keep.more {ms ms' : List Nat} {a b : Fr} (h : Keep ms a b) (hs : ∀ t ∈ ms, t ∈ ms') : Keep ms' a b := fun t ht => h t fun h' => ht (hs t h')

theorem opsMods_mem {ops : List Oper} {o : Oper} {d : Nat} (h : o ∈ ops) (hd : o.dst = some d) : d ∈ opsMods ops := by
  induction ops with
  | nil => cases h
  | cons x r ih =>
    simp only [opsMods]
    rcases List.mem_cons.1 h with rfl | h
    · rw [hd]; exact List.mem_cons_self ..
    · cases x.dst with
      | none => exact ih h
      | some _ => exact List.mem_cons_of_mem _ (ih h)

section
variable {wr : Bool} {P : Program} {bef : Nat → Nat → Bool} {ops : List Oper} {nt : Nat} {ds : List Deferred}

theorem run_past {K : Fr → World → Prop} : ∀ (σ : List Nat) (fr : Fr) (w : World) (p p' : Past), (∀ e ∈ p', e ∈ p) → runV wr P nt bef ops K σ fr w p → runV wr P nt bef ops K σ fr w p'
  | [], fr, w, p, p', hp, h => h
  | i :: r, fr, w, p, p', hp, h => by
    rw [runV_cons] at h ⊢
    obtain ⟨o, ho, h⟩ := h
    exact ⟨o, ho, step_mono hp (fun v w' q q' hq h => ⟨h.1, run_past r _ _ _ _ hq h.2⟩) h⟩

theorem run_keep {K K' : Fr → World → Prop} : ∀ (σ : List Nat) (fr : Fr) (w : World) (p : Past), runV wr P nt bef ops K σ fr w p → (∀ fr' w', K fr' w' → Keep (opsMods ops) fr fr' → K' fr' w') → runV wr P nt bef ops K' σ fr w p
  | [], fr, w, p, h, hk => hk _ _ h (Keep.refl _ _)
  | i :: r, fr, w, p, h, hk => by
    rw [runV_cons] at h ⊢
    obtain ⟨o, ho, h⟩ := h
    refine ⟨o, ho, step_mono (fun e he => he) (fun v w' q q' hq h => ⟨h.1, ?_⟩) h⟩
    refine run_keep r _ _ _ (run_past r _ _ _ _ hq h.2) fun fr' w'' hK hkeep => hk _ _ hK ?_
    refine Keep.trans (b := put fr o.dst v) ?_ hkeep
    intro t ht
    exact put_other fun x hx e => ht (e ▸ opsMods_mem (List.mem_of_getElem? ho) hx)
end

theorem getSt_mono : ∀ {st : List (Nat × Kd)} {fr : Fr} {K K' : StTy st → Prop}, (∀ s, K s → K' s) → getSt st fr K → getSt st fr K'
  | [], fr, K, K', hk, h => hk _ h
  | [x], fr, K, K', hk, h => by
    simp only [getSt] at h ⊢
    split at h
    · split at h
      · exact hk _ h
      · exact h.elim
    · exact h.elim
  | x :: y :: r, fr, K, K', hk, h => by
    simp only [getSt] at h ⊢
    split at h
    · split at h
      · exact getSt_mono (st := y :: r) (fun s h => hk _ h) h
      · exact h.elim
    · exact h.elim

theorem from_to {k : Kd} {v : Value} {s : KTy k} (h : fromV k v = some s) : v = toV k s := by
  cases k with
  | inl k =>
    cases v <;> simp only [fromV] at h <;> try cases h
    split at h
    · rename_i hk
      have hk := of_decide_eq_true hk
      cases h; subst hk; rfl
    · cases h
  | inr n =>
    rcases n with _ | _ | _ | _ | _ | n
    · cases v <;> first | (cases h; rfl) | cases h
    · cases v <;> first | (cases h; rfl) | cases h
    · cases v <;> first | (cases h; rfl) | cases h
    · cases v <;> first | (cases h; rfl) | cases h
    · cases v <;> first | (cases h; rfl) | cases h
    · have h' : (some v : Option (KTy (.inr (n + 5)))) = some s := by cases v <;> exact h
      exact Option.some.inj h'

/-- what a state says of a frame -/
theorem getSt_some : ∀ {st : List (Nat × Kd)} {fr : Fr} {K : StTy st → Prop}, getSt st fr K → ∃ s, K s ∧ ∀ fr0 t v, fget (setSt st s fr0) t = some v → fget fr t = some v ∨ (t ∉ st.map (·.1) ∧ fget fr0 t = some v)
  | [], fr, K, h => ⟨(), h, fun fr0 t v ht => .inr ⟨by simp, ht⟩⟩
  | [x], fr, K, h => by
    simp only [getSt] at h
    split at h
    · rename_i u hu
      split at h
      · rename_i s hs
        refine ⟨s, h, fun fr0 t v ht => ?_⟩
        simp only [setSt] at ht
        by_cases htx : t = x.1
        · subst htx
          rw [fget_hit] at ht
          cases ht
          left; rw [hu, from_to hs]
        · rw [fget_miss _ _ _ _ htx] at ht
          exact .inr ⟨by simpa using htx, ht⟩
      · exact h.elim
    · exact h.elim
  | x :: y :: r, fr, K, h => by
    simp only [getSt] at h
    split at h
    · rename_i u hu
      split at h
      · rename_i s hs
        obtain ⟨s', h, hall⟩ := getSt_some (st := y :: r) h
        refine ⟨(s, s'), h, fun fr0 t v ht => ?_⟩
        simp only [setSt] at ht
        by_cases htx : t = x.1
        · subst htx
          rw [fget_hit] at ht
          cases ht
          left; rw [hu, from_to hs]
        · rw [fget_miss _ _ _ _ htx] at ht
          rcases hall fr0 t v ht with h1 | ⟨h1, h2⟩
          · exact .inl h1
          · exact .inr ⟨by simpa [htx] using h1, h2⟩
      · exact h.elim
    · exact h.elim

theorem setSt_other : ∀ {st : List (Nat × Kd)} {s : StTy st} {fr : Fr} {t : Nat}, t ∉ st.map (·.1) → fget (setSt st s fr) t = fget fr t
  | [], s, fr, t, h => rfl
  | [x], s, fr, t, h => by
    simp at h
    exact fget_miss _ _ _ _ h
  | x :: y :: r, s, fr, t, h => by
    simp only [setSt]
    simp only [List.map_cons, List.mem_cons, not_or] at h
    rw [fget_miss _ _ _ _ h.1]
    exact setSt_other (st := y :: r) (by simp [h.2.1]; simpa using h.2.2)

theorem havoc_in : ∀ {ms : List Nat} {fr : Fr} {t : Nat}, t ∈ ms → fget (havoc ms fr) t = none
  | x :: r, fr, t, h => by
    simp only [havoc]
    by_cases hx : t = x
    · subst hx; exact fget_hit ..
    · rw [fget_miss _ _ _ _ hx]
      exact havoc_in ((List.mem_cons.1 h).resolve_left hx)
theorem havoc_out : ∀ {ms : List Nat} {fr : Fr} {t : Nat}, t ∉ ms → fget (havoc ms fr) t = fget fr t
  | [], fr, t, h => rfl
  | x :: r, fr, t, h => by
    simp only [havoc]
    simp only [List.mem_cons, not_or] at h
    rw [fget_miss _ _ _ _ h.1]
    exact havoc_out h.2
theorem stOk_mem : ∀ {st : List (Nat × Kd)} {ms : List Nat}, stOk st ms = true → ∀ t ∈ st.map (·.1), t ∈ ms
  | [], ms, h, t, ht => by cases ht
  | x :: r, ms, h, t, ht => by
    simp only [stOk, Bool.and_eq_true] at h
    rcases List.mem_cons.1 ht with rfl | ht
    · simpa using h.1
    · exact stOk_mem h.2 t ht

theorem keep_set {st : List (Nat × Kd)} {ms : List Nat} (hst : stOk st ms = true) (s : StTy st) (fr : Fr) : Keep ms fr (setSt st s (havoc ms fr)) := by
  intro t ht
  rw [setSt_other fun h => ht (stOk_mem hst t h), havoc_out ht]

section
variable {P : Program} {nt : Nat} {ds : List Deferred}

/-- at the head of a loop, and where ways meet: the state tells the frame -/
theorem ref_set {st : List (Nat × Kd)} {ms : List Nat} (hst : stOk st ms = true) {fr fr' : Fr} {a : Act} (hr : Ref nt ds fr' a) (hk : Keep ms fr fr') {K : StTy st → Prop} (h : getSt st fr' K) :
    ∃ s, K s ∧ Ref nt ds (setSt st s (havoc ms fr)) a := by
  obtain ⟨s, h, hall⟩ := getSt_some h
  refine ⟨s, h, hr.size, hr.defers, fun t v ht => ?_⟩
  rcases hall _ t v ht with h1 | ⟨h1, h2⟩
  · exact hr.val t v h1
  · by_cases hm : t ∈ ms
    · rw [havoc_in hm] at h2; cases h2
    · rw [havoc_out hm] at h2
      exact hr.val t v (by rw [hk t hm, h2])

theorem loop_mono {St : Type} {body body' : St → World → (St → World → Prop) → Prop} (hb : ∀ s w next, body s w next → body' s w next) {s : St} {w : World} (h : LoopP body s w) : LoopP body' s w := by
  obtain ⟨⟨I, h0, h⟩⟩ := h
  exact ⟨⟨I, h0, fun n s w hI => hb _ _ _ (h n s w hI)⟩⟩

theorem RangeP.mono {St : Type} {gf : FuncId} {fi ca : List Value} {toA : St → List Value} {round : St → World → (World → (World → Prop) → Prop) → (World → Prop) → (World → Prop) → (Nat → World → Prop) → Prop} {w : World} {Qn Qr Qn' Qr' : Nat → World → Prop} {Qx Qx' : Nat → Nat → World → Prop}
    (h : RangeP P gf fi ca toA round w Qn Qr Qx) (hn : ∀ D w, Qn D w → Qn' D w) (hr : ∀ D w, Qr D w → Qr' D w) (hx : ∀ i D w, Qx i D w → Qx' i D w) : RangeP P gf fi ca toA round w Qn' Qr' Qx' := by
  refine ⟨fun D l w0 w1 rec h0 h1 hy => ⟨Calls.mono (h.run D l w0 w1 rec h0 h1 hy).run ?_⟩⟩
  rintro e w2 ⟨v, he, hh⟩
  refine ⟨v, he, ?_⟩
  rcases hh with ⟨g, q⟩ | ⟨g, q⟩ | ⟨id, g, q⟩
  · exact .inl ⟨g, hn _ _ q⟩
  · exact .inr (.inl ⟨g, hr _ _ q⟩)
  · exact .inr (.inr ⟨id, g, hx _ _ _ q⟩)

theorem and_true {a b : Bool} (h : (a && b) = true) : a = true ∧ b = true := by simpa using h

theorem V_keep (an : An) : ∀ (c : Code) (fr : Fr) (ms : List Nat) (w : World) (Q Q' : Exit → Fr → List Nat → World → Prop), V P an nt c fr ms w Q → (∀ e fr' ms' w', Q e fr' ms' w' → Keep (mods c) fr fr' → (noRF c = true → ms' = ms) → Q' e fr' ms' w') → V P an nt c fr ms w Q' := by
  intro c
  induction c with
  | skip => exact fun fr ms w Q Q' h hq => hq _ _ _ _ h (Keep.refl _ _) fun _ => rfl
  | region id ops draw =>
    intro fr ms w Q Q' h hq
    simp only [V] at h ⊢
    split at h
    · exact run_keep _ _ _ _ h fun fr' w' h hk => hq _ _ _ _ h hk fun _ => rfl
    · split at h
      · exact drawAll_mono (fun eo h => oneV_mono (fun cl σ h => run_keep _ _ _ _ h fun fr' w' h hk => hq _ _ _ _ h hk fun _ => rfl) h) h
      · exact h.elim
  | seq a b iha ihb =>
    intro fr ms w Q Q' h hq
    have hma : ∀ t ∈ mods a, t ∈ mods (.seq a b) := fun t ht => List.mem_append_left _ ht
    have hmb : ∀ t ∈ mods b, t ∈ mods (.seq a b) := fun t ht => List.mem_append_right _ ht
    have hra : noRF (.seq a b) = true → noRF a = true := fun h => (and_true h).1
    have hrb : noRF (.seq a b) = true → noRF b = true := fun h => (and_true h).2
    simp only [V] at h ⊢
    split at h
    · rename_i st hf
      split at h
      · rename_i hst
        obtain ⟨hst, hrf⟩ := and_true hst
        obtain ⟨h⟩ := h
        refine ⟨?_⟩
        refine iha _ _ _ _ _ h fun e fr' ms' w' h hk hms => ?_
        cases e with
        | normal =>
          exact getSt_mono (fun s h => ihb _ _ _ _ _ h fun e fr'' ms'' w'' h hk' hms' => hq _ _ _ _ h (Keep.trans ((keep_set hst s fr).more hma) (hk'.more hmb)) fun hh => hms' (hrb hh)) h
        | _ => exact hq _ _ _ _ h (hk.more hma) fun hh => hms (hra hh)
      · exact h.elim
    · refine iha _ _ _ _ _ h fun e fr' ms' w' h hk hms => ?_
      cases e with
      | normal => exact ihb _ _ _ _ _ h fun e fr'' ms'' w'' h hk' hms' => hq _ _ _ _ h (Keep.trans (hk.more hma) (hk'.more hmb)) fun hh => (hms' (hrb hh)).trans (hms (hra hh))
      | _ => exact hq _ _ _ _ h (hk.more hma) fun hh => hms (hra hh)
  | cond c x y ihx ihy =>
    intro fr ms w Q Q' h hq
    simp only [V] at h ⊢
    split at h
    · rename_i b hb
      cases b with
      | true => exact ihx _ _ _ _ _ h fun e fr' ms' w' h hk hms => hq _ _ _ _ h (hk.more fun t ht => List.mem_append_left _ ht) fun hh => hms (and_true hh).1
      | false => exact ihy _ _ _ _ _ h fun e fr' ms' w' h hk hms => hq _ _ _ _ h (hk.more fun t ht => List.mem_append_right _ ht) fun hh => hms (and_true hh).2
    · exact h.elim
  | block id c ih =>
    intro fr ms w Q Q' h hq
    simp only [V] at h ⊢
    refine ih _ _ _ _ _ h fun e fr' ms' w' h hk hms => ?_
    cases e with
    | exit id' =>
      simp only at h ⊢
      split at h <;> exact hq _ _ _ _ h hk hms
    | _ => exact hq _ _ _ _ h hk hms
  | loop c ih =>
    intro fr ms w Q Q' h hq
    simp only [V] at h ⊢
    split at h
    · rename_i st hf
      split at h
      · rename_i hst
        obtain ⟨hst, hrf⟩ := and_true hst
        refine getSt_mono (fun s h => loop_mono (fun s w next h => ?_) h) h
        refine ih _ _ _ _ _ h fun e fr' ms' w' h hk hms => ?_
        cases e with
        | normal => exact h
        | _ => exact hq _ _ _ _ h (Keep.trans (keep_set hst s fr) hk) hms
      · exact h.elim
    · exact h.elim
  | exit id => exact fun fr ms w Q Q' h hq => hq _ _ _ _ h (Keep.refl _ _) fun _ => rfl
  | scope c ih =>
    intro fr ms w Q Q' h hq
    simp only [V] at h ⊢
    refine ih _ _ _ _ _ h fun e fr' ms' w' h hk hms => ?_
    cases e with
    | goto l => exact h
    | _ => exact hq _ _ _ _ h hk hms
  | label l => exact fun fr ms w Q Q' h hq => hq _ _ _ _ h (Keep.refl _ _) fun _ => rfl
  | ret => exact fun fr ms w Q Q' h hq => hq _ _ _ _ h (Keep.refl _ _) fun _ => rfl
  | goto l => exact fun fr ms w Q Q' h hq => h.elim
  | refuse s => exact fun fr ms w Q Q' h hq => h.elim
  | rangeFunc f ps a b iha ihb =>
    intro fr ms w Q Q' h hq
    have hno : noRF (.rangeFunc f ps a b) = true → False := fun h => by cases h
    simp only [V] at h ⊢
    split at h
    · split at h
      · split at h
        · obtain ⟨gf, fi, ca, e, hb, h⟩ := h
          exact ⟨gf, fi, ca, e, hb, h.mono (fun D w' h => hq _ _ _ _ h (Keep.refl _ _) fun hh => (hno hh).elim) (fun D w' h => by
              split at h
              · exact hq _ _ _ _ h (Keep.refl _ _) fun hh => (hno hh).elim
              · exact h.elim) (fun i D w' h => by
              split at h
              · exact hq _ _ _ _ h (Keep.refl _ _) fun hh => (hno hh).elim
              · exact h.elim)⟩
        · exact h.elim
      · exact h.elim
    · exact h.elim

/-! ### The model's rules -/
theorem exists_least {p : Nat → Prop} (h : ∃ n, p n) : ∃ n, p n ∧ ∀ m, m < n → ¬ p m := by
  obtain ⟨n, hn⟩ := h
  induction n using Nat.strongRecOn with
  | _ n ih =>
    by_cases hx : ∃ m, m < n ∧ p m
    · obtain ⟨m, h1, h2⟩ := hx; exact ih m h1 h2
    · exact ⟨n, hn, fun m hm hp => hx ⟨m, hm, hp⟩⟩

theorem wpIn_loop_n {F : Fence} {n : Nat} {c : Code} {Q : Exit → Act → World → Prop} (I : Nat → Act → World → Prop) {a : Act} {w : World} (h0 : ∃ m, I m a w)
    (round : ∀ m a w, I m a w → c.wpIn F n P (Exit.then (fun a' w' => ∃ m', m' < m ∧ I m' a' w') Q) a w) : (Code.loop c).wpIn F n P Q a w := by
  classical
  let μ : Act → World → Nat := fun a w => if h : ∃ m, I m a w then Classical.choose (exists_least h) else 0
  have hμ : ∀ a w, (∃ m, I m a w) → I (μ a w) a w ∧ ∀ m, m < μ a w → ¬ I m a w := by
    intro a w h
    simp only [μ, dif_pos h]
    exact Classical.choose_spec (exists_least h)
  refine wpIn_loop (fun a w => ∃ m, I m a w) μ h0 fun a w h => ?_
  refine wpIn_mono (round _ _ _ (hμ a w h).1) fun e a' w' hq => ?_
  cases e with
  | normal =>
    obtain ⟨m', hlt, hI⟩ := hq
    refine ⟨⟨m', hI⟩, ?_⟩
    have h1 := (hμ a' w' ⟨m', hI⟩).2
    have : ¬ m' < μ a' w' := fun hlt' => h1 m' hlt' hI
    omega
  | _ => exact hq

section
variable {b : Frame} {a : Act} {k : List Item} {cs : List Frame} {w : World}
theorem stepR_scope {c : Code} : step P (lone (b.atR a (.code (.scope c) :: k)) cs w) = .next (lone (b.atR a (.code c :: .inScope c :: k)) cs w) :=
  step_lone_go (by simp [stepG, stepG.exec, Frame.atR])
theorem stepR_inScope {c : Code} : step P (lone (b.atR a (.inScope c :: k)) cs w) = .next (lone (b.atR a k) cs w) :=
  step_lone_go (by simp [stepG, stepG.exec, Frame.atR])
end
theorem wpIn_scope {F : Fence} {n : Nat} {c : Code} {Q : Exit → Act → World → Prop} {a : Act} {w : World} (h : c.wpIn F n P (Exit.noGoto Q) a w) : (Code.scope c).wpIn F n P Q a w := by
  intro b k cs hro hb hr
  obtain ⟨e, a1, w1, hq, harr⟩ := h b (.inScope c :: k) cs hro hb hr
  have s0 : StepsIn (Machine.fenced P F) P (lone (b.atR a (.code (.scope c) :: k)) cs w) (lone (b.atR a (.code c :: .inScope c :: k)) cs w) := .one (fenced_calm (fr := b.atR a (.code (.scope c) :: k)) hb hr rfl) stepR_scope
  cases e with
  | normal => exact ⟨.normal, a1, w1, hq, StepsIn.trans s0 (StepsIn.trans harr (.one (fenced_calm (fr := b.atR a1 (.inScope c :: k)) hb hr rfl) stepR_inScope))⟩
  | exit id =>
    refine ⟨.exit id, a1, w1, hq, fun k' hk => StepsIn.trans s0 (harr.1 k' (by simpa [exitTo] using hk)), fun hs hn => ?_⟩
    obtain ⟨k1, h1, h2⟩ := harr.2 hs (by simpa [exitTo] using hn)
    exact ⟨k1, h1, StepsIn.trans s0 h2⟩
  | goto l => exact hq.elim
  | ret => exact ⟨_, a1, w1, hq, .of_steps s0 harr⟩
  | panic ch => exact ⟨_, a1, w1, hq, .of_steps s0 harr⟩
  | outgrown => exact ⟨_, a1, w1, hq, .of_steps (b := b) (k := k) (cs := cs) (e := .outgrown) s0 harr⟩

/-- the marks of ranges over functions among the deferred calls -/
def mkM (ms : List Nat) (ds : List Deferred) : List Deferred := ms.map (fun D => { target := .collected D, args := #[] }) ++ ds

/-! ### A round's frame -/
theorem setSt_app : ∀ (st : List (Nat × Kd)) (s : StTy st) (fr : Fr), setSt st s fr = ((st.map (·.1)).zip (argsOf st s)).map (fun p => (p.1, some p.2)) ++ fr
  | [], s, fr => rfl
  | [x], s, fr => rfl
  | x :: y :: r, s, fr => by
    simp only [setSt, argsOf, List.map_cons, List.zip_cons_cons, List.cons_append]
    rw [setSt_app (y :: r) s.2 fr]
    rfl
theorem argsOf_len : ∀ (st : List (Nat × Kd)) (s : StTy st), (argsOf st s).length = st.length
  | [], s => rfl
  | [x], s => rfl
  | x :: y :: r, s => by simp only [argsOf, List.length_cons]; rw [argsOf_len (y :: r) s.2]; rfl
theorem fold_get : ∀ (kv : List (Nat × Value)) (tm : Array Value) (t : Nat) (v : Value) (fr : Fr), (kv.map (·.1)).Nodup → (∀ k ∈ kv.map (·.1), k < tm.size) → fget (kv.map (fun p => (p.1, some p.2)) ++ fr) t = some v →
    ((kv.foldl (fun t p => t.setIfInBounds p.1 p.2) tm)[t]? = some v) ∨ (t ∉ kv.map (·.1) ∧ fget fr t = some v ∧ (kv.foldl (fun t p => t.setIfInBounds p.1 p.2) tm)[t]? = tm[t]?)
  | [], tm, t, v, fr, _, _, h => .inr ⟨by simp, h, rfl⟩
  | (k, u) :: r, tm, t, v, fr, hn, hk, h => by
    simp only [List.map_cons, List.nodup_cons] at hn
    simp only [List.map_cons, List.cons_append] at h
    rw [List.foldl_cons]
    have out : ∀ (r : List (Nat × Value)) (tm : Array Value), k ∉ r.map (·.1) → (r.foldl (fun t p => t.setIfInBounds p.1 p.2) tm)[k]? = tm[k]? := by
      intro r
      induction r with
      | nil => intro tm _; rfl
      | cons x q ih =>
        intro tm hx
        simp only [List.map_cons, List.mem_cons, not_or] at hx
        rw [List.foldl_cons, ih _ hx.2, Array.getElem?_setIfInBounds, if_neg (Ne.symm hx.1)]
    by_cases htk : t = k
    · subst htk
      rw [fget_hit] at h
      cases h
      left
      rw [out r _ hn.1]
      have := hk t (by simp)
      simp [this]
    · rw [fget_miss _ _ _ _ htk] at h
      rcases fold_get r (tm.setIfInBounds k u) t v fr hn.2 (fun j hj => by simpa using hk j (by simp [hj])) h with h1 | ⟨h1, h2, h3⟩
      · exact .inl h1
      · refine .inr ⟨by simp [htk]; simpa using h1, h2, ?_⟩
        rw [h3, Array.getElem?_setIfInBounds, if_neg (Ne.symm htk)]
theorem nodupB_iff : ∀ {l : List Nat}, nodupB l = true → l.Nodup
  | [], _ => .nil
  | x :: r, h => by
    simp only [nodupB, Bool.and_eq_true, Bool.not_eq_true', List.contains_iff_mem] at h
    refine List.nodup_cons.2 ⟨?_, nodupB_iff h.2⟩
    intro hx
    have := h.1
    simp [hx] at this
theorem ref_round {st : List (Nat × Kd)} {ps : Array Tmp} {fr : Fr} {a : Act} (hr : Ref nt ds fr a) (hp : psOk nt st ps.toList = true) (s : StTy st) :
    (argsOf st s).toArray.size = ps.size ∧ Ref nt [] (setSt st s fr) { tmps := (ps.zip (argsOf st s).toArray).foldl (fun t (p, v) => t.setIfInBounds p v) a.tmps, defers := [] } := by
  simp only [psOk, Bool.and_eq_true, beq_iff_eq] at hp
  obtain ⟨⟨h1, h2⟩, h3⟩ := hp
  have h2 := nodupB_iff h2
  have hl : ps.size = st.length := by rw [← Array.length_toList, ← h1, List.length_map]
  have hal := argsOf_len st s
  have e : (ps.zip (argsOf st s).toArray).toList = (st.map (·.1)).zip (argsOf st s) := by
    rw [Array.toList_zip, h1]
  have ef : (ps.zip (argsOf st s).toArray).foldl (fun t (p, v) => t.setIfInBounds p v) a.tmps = ((st.map (·.1)).zip (argsOf st s)).foldl (fun t p => t.setIfInBounds p.1 p.2) a.tmps := by
    rw [← Array.foldl_toList, e]
  have hk : ((st.map (·.1)).zip (argsOf st s)).map (·.1) = st.map (·.1) := List.map_fst_zip (by simp [hal])
  refine ⟨by simp [hal, hl], ?_, rfl, ?_⟩
  · show (_ : Array Value).size = nt
    rw [ef]
    have : ∀ (l : List (Nat × Value)) (tm : Array Value), (l.foldl (fun t p => t.setIfInBounds p.1 p.2) tm).size = tm.size := by
      intro l
      induction l with
      | nil => intro tm; rfl
      | cons x r ih => intro tm; rw [List.foldl_cons, ih]; simp
    rw [this]; exact hr.size
  · intro t v ht
    show (_ : Array Value)[t]? = some v
    rw [ef]
    rw [setSt_app] at ht
    rcases fold_get _ a.tmps t v fr (by rw [hk, h1]; exact h2) (fun k hkk => by
      rw [hk, h1] at hkk
      have := List.all_eq_true.1 h3 k hkk
      rw [hr.size]
      exact Nat.lt_of_lt_of_le (Nat.lt_succ_self _) (Nat.le_of_ble_eq_true this)) ht with h4 | ⟨_, h5, h6⟩
    · exact h4
    · rw [h6]; exact hr.val t v h5

theorem V_sound (hN : NoNum P) (an : An) : ∀ (c : Code) (rd : Option Nat) (n : Nat) (ds : List Deferred) (fr : Fr) (ms : List Nat) (w : World) (Q : Exit → Fr → List Nat → World → Prop) (QA : Exit → Act → World → Prop) (a : Act),
    V P an nt c fr ms w Q → Ref nt (mkM ms ds) fr a → (rd ≠ none → noRF c = true) → (∀ e fr' ms' w' a', Q e fr' ms' w' → Ref nt (mkM ms' ds) fr' a' → QA e a' w') → c.wpIn (W rd) n P QA a w := by
  intro c
  induction c with
  | skip => exact fun rd n ds fr ms w Q QA a h hr hrd hq => wpIn_skip (hq _ _ _ _ _ h hr)
  | region id ops draw =>
    intro rd n ds fr ms w Q QA a h hr hrd hq
    simp only [V] at h
    split at h
    · exact wpIn_region (by
        have := run_upon (rd := rd) (n := n) (Q := QA) hN (fun fr w a h hr => hq _ _ _ _ _ h hr) _ _ _ _ a h hr
        simpa using this)
    · split at h
      · rename_i hok
        refine wpIn_region_draw fun t => ?_
        have h2 : drawAll (oneV (an.wraps.contains id) P nt ops (fun fr' w' => ∀ a', Ref nt (mkM ms ds) fr' a' → QA .normal a' w') fr w.drew) (extsOf (closure [] ops.toList) (turners P ops.toList 0).length (turners P ops.toList 0)) :=
          drawAll_mono (fun eo h => oneV_mono (fun cl σ h => run_keep _ _ _ _ h fun fr' w' h hk a' hr' => hq _ _ _ _ _ h hr') h) h
        exact draw_upon hN (fun f f' w hf h a' hr' => h a' ⟨hr'.size, hr'.defers, fun t v ht => hr'.val t v (by rw [← hf t]; exact ht)⟩)
          (fun fr w a h hr => h a hr) hok h2 hr _ t
      · exact h.elim
  | seq x y ihx ihy =>
    intro rd n ds fr ms w Q QA a h hr hrd hq
    have hrx : rd ≠ none → noRF x = true := fun h => (and_true (hrd h)).1
    have hry : rd ≠ none → noRF y = true := fun h => (and_true (hrd h)).2
    simp only [V] at h
    split at h
    · rename_i st hf
      split at h
      · rename_i hst
        obtain ⟨hst, hrf⟩ := and_true hst
        obtain ⟨h⟩ := h
        have h2 := V_keep an x _ _ _ _ (fun e fr' ms' w' => (match e with
          | .normal => getSt st fr' fun s => V P an nt y (setSt st s (havoc (mods x) fr)) ms w' Q
          | e => Q e fr' ms' w') ∧ Keep (mods x) fr fr' ∧ ms' = ms) h fun e fr' ms' w' h hk hms => ⟨h, hk, hms hrf⟩
        refine wpIn_seq (ihx _ _ _ _ _ _ _ _ _ h2 hr hrx fun e fr' ms' w' a' hh hr' => ?_)
        obtain ⟨hh, hk, hms⟩ := hh
        subst hms
        cases e with
        | normal =>
          obtain ⟨s, h3, hr3⟩ := ref_set hst hr' hk hh
          exact ihy _ _ _ _ _ _ _ _ _ h3 hr3 hry hq
        | _ => exact hq _ _ _ _ _ hh hr'
      · exact h.elim
    · refine wpIn_seq (ihx _ _ _ _ _ _ _ _ _ h hr hrx fun e fr' ms' w' a' hh hr' => ?_)
      cases e with
      | normal => exact ihy _ _ _ _ _ _ _ _ _ hh hr' hry hq
      | _ => exact hq _ _ _ _ _ hh hr'
  | cond c x y ihx ihy =>
    intro rd n ds fr ms w Q QA a h hr hrd hq
    simp only [V] at h
    split at h
    · rename_i b hb
      cases b with
      | true => exact wpIn_cond_true (hr.ev hb) (ihx _ _ _ _ _ _ _ _ _ h hr (fun h => (and_true (hrd h)).1) hq)
      | false => exact wpIn_cond_false (hr.ev hb) (ihy _ _ _ _ _ _ _ _ _ h hr (fun h => (and_true (hrd h)).2) hq)
    · exact h.elim
  | block id c ih =>
    intro rd n ds fr ms w Q QA a h hr hrd hq
    simp only [V] at h
    refine wpIn_block (ih _ _ _ _ _ _ _ _ _ h hr hrd fun e fr' ms' w' a' hh hr' => ?_)
    cases e with
    | exit id' =>
      simp only at hh
      simp only [Exit.inBlock]
      split at hh
      · rename_i hb
        rw [if_pos (Nat.eq_of_beq_eq_true hb)]
        exact hq _ _ _ _ _ hh hr'
      · rename_i hb
        rw [if_neg (fun e => by subst e; simp at hb)]
        exact hq _ _ _ _ _ hh hr'
    | _ => exact hq _ _ _ _ _ hh hr'
  | loop c ih =>
    intro rd n ds fr ms w Q QA a h hr hrd hq
    simp only [V] at h
    split at h
    · rename_i st hf
      split at h
      · rename_i hst
        obtain ⟨hst, hrf⟩ := and_true hst
        obtain ⟨s0, ⟨⟨I, ⟨m0, h0⟩, hround⟩⟩, hr0⟩ := ref_set hst hr (Keep.refl (mods c) fr) h
        refine wpIn_loop_n (fun m a w => ∃ s, I m s w ∧ Ref nt (mkM ms ds) (setSt st s (havoc (mods c) fr)) a) ⟨m0, s0, h0, hr0⟩ fun m a w hI => ?_
        obtain ⟨s, hI, hra⟩ := hI
        have h1 := hround m s w hI
        have h2 := V_keep an c _ _ _ _ (fun e fr' ms' w' => (match e with
          | .normal => getSt st fr' fun s' => ∃ m', m' < m ∧ I m' s' w'
          | e => Q e fr' ms' w') ∧ Keep (mods c) (setSt st s (havoc (mods c) fr)) fr' ∧ ms' = ms) h1 fun e fr' ms' w' h hk hms => ⟨h, hk, hms hrf⟩
        refine ih _ _ _ _ _ _ _ _ _ h2 hra (fun _ => hrf) fun e fr' ms' w' a' hh hr' => ?_
        obtain ⟨hh, hk, hms⟩ := hh
        subst hms
        cases e with
        | normal =>
          obtain ⟨s', ⟨m', hlt, hI'⟩, hr3⟩ := ref_set hst hr' (Keep.trans (keep_set hst s fr) hk) hh
          exact ⟨m', hlt, s', hI', hr3⟩
        | _ => exact hq _ _ _ _ _ hh hr'
      · exact h.elim
    · exact h.elim
  | exit id => exact fun rd n ds fr ms w Q QA a h hr hrd hq => wpIn_exit (hq _ _ _ _ _ h hr)
  | scope c ih =>
    intro rd n ds fr ms w Q QA a h hr hrd hq
    simp only [V] at h
    refine wpIn_scope (ih _ _ _ _ _ _ _ _ _ h hr hrd fun e fr' ms' w' a' hh hr' => ?_)
    cases e with
    | goto l => exact hh
    | _ => exact hq _ _ _ _ _ hh hr'
  | label l => exact fun rd n ds fr ms w Q QA a h hr hrd hq => wpIn_label (hq _ _ _ _ _ h hr)
  | ret => exact fun rd n ds fr ms w Q QA a h hr hrd hq => wpIn_ret (hq _ _ _ _ _ h hr)
  | goto l => exact fun rd n ds fr ms w Q QA a h hr hrd hq => h.elim
  | refuse s => exact fun rd n ds fr ms w Q QA a h hr hrd hq => h.elim
  | rangeFunc g ps assign body iha ihb =>
    intro rd n ds fr ms w Q QA a h hr hrd hq
    have hno : rd = none := Classical.byContradiction fun hh => by have := hrd hh; cases this
    subst hno
    simp only [V] at h
    split at h
    · rename_i st hf
      split at h
      · rename_i hst
        obtain ⟨hps, hrfs⟩ := and_true hst
        obtain ⟨hrfa, hrfb⟩ := and_true hrfs
        split at h
        · rename_i v hg
          obtain ⟨gf, fi, ca, rfl, ⟨fn, cd, hfn, hcd⟩, h⟩ := h
          refine wpIn_rangeFunc ?_
          intro f0 hf0
          obtain ⟨rec, hrec⟩ : ∃ rec : LoopState → Option Code → Obj, rec = fun st pe => .loop { state := st, pending := pe, fn := f0, tmps := a.tmps, params := ps, assign, body, defers := w.heap.size } := ⟨_, rfl⟩
          have hy : ∀ (s : StTy st) (w' : World) (R : Ending → World → Prop), V P an nt assign (setSt st s fr) [] w' (fun e fr1 _ w1 => match e with
              | .normal => w1.heap[w.heap.size + 1]? = some (rec .ready none) ∧ V P an nt body fr1 [] (w1.putObj (w.heap.size + 1) (rec .busy none)) (fun e _ _ w3 => match e with
                | .normal => w3.heap[w.heap.size + 1]? = some (rec .busy none) ∧ R (.returned (.bool true)) (w3.putObj (w.heap.size + 1) (rec .ready none))
                | .ret => w3.heap[w.heap.size + 1]? = some (rec .busy none) ∧ R (.returned (.bool false)) (w3.putObj (w.heap.size + 1) (rec .done (some .ret)))
                | .exit id => w3.heap[w.heap.size + 1]? = some (rec .busy none) ∧ R (.returned (.bool false)) (w3.putObj (w.heap.size + 1) (rec .done (some (.exit id))))
                | _ => False)
              | _ => False) → w'.heap[w.heap.size + 1]? = some (rec .ready none) → CallX P (.func (.yield (w.heap.size + 1)) #[] #[]) (argsOf st s) w' R := by
            intro s w' R hround hready
            obtain ⟨hsz, href⟩ := ref_round hr hps s
            show YieldV P (w.heap.size + 1) (argsOf st s) w' R
            refine ⟨fun rd' n' => ?_⟩
            rw [hrec] at hready
            refine ⟨f0, _, assign, body, run_yield (P := P) hready hsz, roundIn_of_wpIn (W_fn _ _) ?_⟩
            have hround2 := V_keep an assign _ _ _ _ (fun e fr1 ms1 w1 => (match e with
              | .normal => w1.heap[w.heap.size + 1]? = some (rec .ready none) ∧ V P an nt body fr1 [] (w1.putObj (w.heap.size + 1) (rec .busy none)) (fun e _ _ w3 => match e with
                | .normal => w3.heap[w.heap.size + 1]? = some (rec .busy none) ∧ R (.returned (.bool true)) (w3.putObj (w.heap.size + 1) (rec .ready none))
                | .ret => w3.heap[w.heap.size + 1]? = some (rec .busy none) ∧ R (.returned (.bool false)) (w3.putObj (w.heap.size + 1) (rec .done (some .ret)))
                | .exit id => w3.heap[w.heap.size + 1]? = some (rec .busy none) ∧ R (.returned (.bool false)) (w3.putObj (w.heap.size + 1) (rec .done (some (.exit id))))
                | _ => False)
              | _ => False) ∧ ms1 = []) hround fun e fr1 ms1 w1 h _ hms => ⟨h, hms hrfa⟩
            refine iha (some (w.heap.size + 1)) n' [] _ _ _ _ _ _ hround2 href (fun _ => hrfa) fun e fr1 ms1 w1 a1 hh hr1 => ?_
            obtain ⟨hh, rfl⟩ := hh
            cases e with
            | normal =>
              obtain ⟨h1, h2⟩ := hh
              rw [hrec] at h1
              refine ⟨_, run_beginRound (P := P) h1 rfl, ?_⟩
              refine ihb (some (w.heap.size + 1)) n' [] _ _ _ _ _ _ (by rw [hrec] at h2; exact h2) hr1 (fun _ => hrfb) fun e fr2 ms2 w2 a2 hh hr2 => ?_
              cases e with
              | normal => exact ⟨_, _, run_endRound (P := P) none hh.1, hh.2⟩
              | ret => exact ⟨_, _, run_endRound (P := P) (some .ret) hh.1, hh.2⟩
              | exit id => exact ⟨_, _, run_endRound (P := P) (some (.exit id)) hh.1, hh.2⟩
              | _ => exact hh.elim
            | _ => exact hh.elim
          have hrun := (h.run w.heap.size (w.heap.size + 1) (w.alloc (.deferred (some []))) ((w.alloc (.deferred (some []))).alloc (rec .ready none)) rec ⟨rfl, rfl⟩ ⟨by simp, rfl⟩ hy).run
          have h1 := call_run (args := (fi.toList ++ [Value.func (.yield (w.heap.size + 1)) #[] #[]] ++ ca.toList).toArray) (w := (w.alloc (.deferred (some []))).alloc (rec .ready none)) hN hfn hcd
          have ea : fi ++ #[Value.func (.yield (w.heap.size + 1)) #[] #[]] ++ ca = (fi.toList ++ [Value.func (.yield (w.heap.size + 1)) #[] #[]] ++ ca.toList).toArray := by
            apply Array.toList_inj.1; simp
          refine ⟨w.heap.size + 1, [{ target := .collected w.heap.size, args := #[] }], (w.alloc (.deferred (some []))).alloc (rec .ready none), { target := .fn (.func gf) ca, args := fi ++ #[Value.func (.yield (w.heap.size + 1)) #[] #[]] }, (w.alloc (.deferred (some []))).alloc (rec .ready none), gf, _, (w.alloc (.deferred (some []))).alloc (rec .ready none), ?_, ?_, fun f' _ => W_fn _ _, ?_, fun hd => by simp [W_depth] at hd, (callsIn_W hrun).mono ?_⟩
          · rw [hrec]; exact run_enterLoop_outer (P := P) _ _ _ _ _
          · simp only [resolve, hr.ev hg]
            simp [go_sem]
          · simp only [invoke, ea, h1]
          rintro e w3 ⟨v, rfl, hh⟩
          have href : Ref nt (mkM (w.heap.size :: ms) ds) fr { a with defers := [{ target := .collected w.heap.size, args := #[] }] ++ a.defers } := ⟨hr.size, by show _ ++ a.defers = _; rw [hr.defers]; rfl, hr.val⟩
          rw [hrec] at hh
          rcases hh with ⟨g1, g2⟩ | ⟨g1, g2⟩ | ⟨id, g1, g2⟩
          · exact ⟨none, _, run_endLoop (P := P) g1 (by simp), hq _ _ _ _ _ g2 href⟩
          · split at g2
            · exact ⟨some .ret, _, run_endLoop (P := P) g1 (by simp), wpIn_ret (hq _ _ _ _ _ g2 href)⟩
            · exact g2.elim
          · split at g2
            · exact ⟨some (.exit id), _, run_endLoop (P := P) g1 (by simp), wpIn_exit (hq _ _ _ _ _ g2 href)⟩
            · exact g2.elim
        · exact h.elim
      · exact h.elim
    · exact h.elim

/-! ### A function -/
theorem res_one {fr : Fr} {w : World} {a : Act} (hr : Ref nt ds fr a) : ∀ {rs : List ResultVar} {K : List Value → Prop}, resV P fr w rs K →
    ∃ l, K l ∧ l.length = rs.length ∧ (rs.mapM (m := Sem) fun
      | .tmp t => pure (a.tmps.getD t undef)
      | .cell x t => do loadVar t (← asAddr (a.tmps.getD x undef))).run P w = .ok l w
  | [], K, h => ⟨[], h, rfl, rfl⟩
  | .tmp t :: r, K, h => by
    simp only [resV] at h
    obtain ⟨v, hv, h⟩ := onV_some h
    obtain ⟨l, h, hl, hrun⟩ := res_one hr h
    refine ⟨v :: l, h, by simp [hl], ?_⟩
    have hv' := hr.val t v hv
    simp only [List.mapM_cons, Sem.run_bind, Sem.run_pure, Result.andThen_ok, hrun]
    simp [Array.getD_eq_getD_getElem?, hv']
  | .cell x t :: r, K, h => by
    simp only [resV] at h
    split at h
    · rename_i p hx
      obtain ⟨ad, rfl, h1⟩ := onP_some h
      obtain ⟨v, hld, h2⟩ := exV_some h1
      clear h h1
      obtain ⟨l, h, hl, hrun⟩ := res_one hr h2
      refine ⟨v :: l, h, by simp [hl], ?_⟩
      have hx' := hr.val x _ hx
      have hld' : (loadVar t ad).run P w = .ok v w := hld
      have e1 : (do loadVar t (← asAddr (a.tmps.getD x undef)) : Sem Value).run P w = .ok v w := by
        simp [Array.getD_eq_getD_getElem?, hx', asAddr, hld']
      rw [List.mapM_cons, Sem.run_bind]
      simp only [e1, Result.andThen_ok, Sem.run_bind, hrun, Sem.run_pure]
    · exact h.elim

theorem ret_post {fn : Func} {fr : Fr} {w : World} {a : Act} {ds : List Deferred} {R : Ending → World → Prop} (hr : Ref nt ds fr a) (h : retV P fn fr w R) : ∃ v, (results fn a.tmps).run P w = .ok v w ∧ R (.returned v) w := by
  obtain ⟨l, h, hl, hrun⟩ := res_one hr h
  have hm : (fn.results.mapM (m := Sem) fun
      | .tmp t => pure (a.tmps.getD t undef)
      | .cell x t => do loadVar t (← asAddr (a.tmps.getD x undef))).run P w = .ok l.toArray w := by
    rw [Array.mapM_eq_mapM_toList]
    simp only [Sem.run_map, hrun, Result.andThen_ok]
  unfold results
  rw [Sem.run_bind]
  refine ⟨_, (congrArg (fun r => Result.andThen r _) hm).trans rfl, ?_⟩
  match l, h with
  | [v], h => exact h
  | [], h => exact h
  | _ :: _ :: _, h =>
    simp only [List.size_toArray, List.length_cons]
    rw [dif_neg (by omega)]
    exact h
theorem shut_post {F : Fence} {n : Nat} {fn : Func} {fr : Fr} {R : Ending → World → Prop} {a : Act} {ds : List Deferred} (hr : Ref nt ds fr a) : ∀ (ms : List Nat) (w : World), shutV P fn fr ms w R → LeavesInM F n P fn a.tmps R (mkM ms []) .returning w
  | [], w, h => by
    obtain ⟨v, h1, h2⟩ := ret_post hr h
    exact ⟨v, h1, h2⟩
  | D :: ms, w, h => by
    obtain ⟨w1, ⟨h1, rfl⟩, h2⟩ := h
    exact ⟨by simp, .inl ⟨D, _, rfl, run_takeDeferred h1, shut_post hr ms _ h2⟩⟩

theorem argFr_get : ∀ (l : List Value) (i t : Nat) (v : Value), fget (argFr i l) t = some v → ∃ j, t = i + j ∧ l[j]? = some v
  | [], i, t, v, h => by simp [argFr, fget_nil] at h
  | x :: r, i, t, v, h => by
    simp only [argFr] at h
    by_cases ht : t = i
    · subst ht
      rw [fget_hit] at h
      exact ⟨0, rfl, by simpa using h⟩
    · rw [fget_miss _ _ _ _ ht] at h
      obtain ⟨j, rfl, hj⟩ := argFr_get r (i + 1) t v h
      exact ⟨j + 1, by omega, by simpa using hj⟩

theorem ref_args {fn : Func} {args : List Value} (h0 : decide (args.length ≤ fn.ntmps) = true) :
    Ref fn.ntmps [] (argFr 0 args) { tmps := args.toArray ++ Array.replicate (fn.ntmps - args.toArray.size) undef, defers := [] } := by
  have h0 := of_decide_eq_true h0
  refine ⟨by simp; omega, rfl, fun t v h => ?_⟩
  obtain ⟨j, rfl, hj⟩ := argFr_get args 0 t v h
  have hlt : j < args.length := (List.getElem?_eq_some_iff.1 hj).1
  simp only [Nat.zero_add]
  rw [Array.getElem?_append_left (by simpa using hlt)]
  simpa using hj

theorem calls_of_bodyV (hN : NoNum P) {an : An} {f : FuncId} {fn : Func} {args : List Value} {w : World} {R : Ending → World → Prop} (hf : P.funcs[f]? = some fn) (h0 : decide (args.length ≤ fn.ntmps) = true)
    (h : bodyV P an fn args w R) : Calls P f args.toArray w R := by
  simp only [bodyV] at h
  split at h
  · exact h.elim
  · rename_i c hc
    refine (callsIn_wide (n := 0)).1 (callsIn_of_wp_marks hf hc trivial ?_ rfl)
    refine V_sound hN an c none 0 [] _ _ _ _ _ _ h (ref_args h0) (fun h => absurd rfl h) fun e fr' ms' w' a' hh hr' => ?_
    cases e with
    | normal =>
      show LeavesInM _ _ _ _ _ _ a'.defers _ _
      rw [hr'.defers]; exact shut_post hr' _ _ hh
    | ret =>
      show LeavesInM _ _ _ _ _ _ a'.defers _ _
      rw [hr'.defers]; exact shut_post hr' _ _ hh
    | _ => exact hh.elim
end
end Go.Vc
