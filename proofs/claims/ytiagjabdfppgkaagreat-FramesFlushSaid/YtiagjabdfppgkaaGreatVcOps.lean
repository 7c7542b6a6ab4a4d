/- Each operation: from the calculus' condition to the operation's run. -/
import Derived.Test.YtiagjabdfppgkaaGreatVcSound
set_option linter.unusedVariables false
set_option linter.unusedSimpArgs false
set_option maxRecDepth 100000
namespace Go.Vc
open Go

theorem run_val {P : Program} {s : Sem Value} {v : Value} {w w1 : World} (h : s.run P w = .ok v w1) : (do pure (Next.value (← s)) : Sem Next).run P w = .ok (.value v) w1 := by
  simp only [Sem.run_map, Sem.run_bind, h, Result.andThen_ok, Sem.run_pure]
theorem run_unit {P : Program} {s : Sem Unit} {w w1 : World} (h : s.run P w = .ok () w1) : (do s; pure Next.skip : Sem Next).run P w = .ok .skip w1 := by
  simp only [Sem.run_bind, h, Result.andThen_ok, Sem.run_pure]

section
variable {nt : Nat} {ds : List Deferred} {fr : Fr} {P : Program} {ops : List Oper}

theorem run_builtin {a : Act} (hr : Ref nt ds fr a) {c : Call} {b : Builtin} {args : List Value} (hc : c.callee = .builtin b) (ha : evs fr c.args.toList = some args) (t : TypeId) (w : World) :
    ∃ cs, (do let d ← resolve a.eval c t; invoke d.target d.args : Sem Next).run P w = (builtin b c.argTypes t cs args.toArray).run P w := by
  refine ⟨c.args.map fun | .const _ => true | _ => false, ?_⟩
  simp only [resolve, hc, Sem.run_bind, Sem.run_pure, Result.andThen_ok, invoke, hr.evsA ha]
  rfl

theorem evs_one {x : Operand} {v : Value} (h : ev fr x = some v) : evs fr [x] = some [v] := by simp [evs, h]
theorem evs_two {x y : Operand} {v u : Value} (h : ev fr x = some v) (h' : ev fr y = some u) : evs fr [x, y] = some [v, u] := by simp [evs, h, h']

theorem run_parts {a : Act} (hr : Ref nt ds fr a) {xs : Array (Nat × Operand)} {ps : List (Nat × Value)} (h : partsOf fr xs.toList = some ps) : (xs.map fun (i, x) => (i, a.eval x)) = ps.toArray := by
  have := hr.parts h
  apply Array.toList_inj.1
  simpa using this

theorem len_one {ts : Array TypeId} {x : Value} {K : Value → Prop} (h : lenV P ts x K) :
    ∃ v, K v ∧ (∀ K' : Value → Prop, K' v → lenV P ts x K') ∧ ∀ (t : TypeId) (w : World), (Builtin.len_ ts t #[x]).run P w = .ok v w := by
  simp only [lenV] at h ⊢
  split at h
  · exact h.elim
  · rename_i t ht
    split at h
    · rename_i s hu
      refine ⟨_, h, fun K' hK => hK, fun t' w => ?_⟩
      simp only [Builtin.len_, ht, List.getElem?_toArray, List.getElem?_cons_zero, Sem.run_bind, run_und hu, Result.andThen_ok]; rfl
    · rename_i e a n c hu
      refine ⟨_, h, fun K' hK => hK, fun t' w => ?_⟩
      simp only [Builtin.len_, ht, List.getElem?_toArray, List.getElem?_cons_zero, Sem.run_bind, run_und hu, Result.andThen_ok]; rfl
    · rename_i n e hu
      refine ⟨_, h, fun K' hK => hK, fun t' w => ?_⟩
      simp only [Builtin.len_, ht, List.getElem?_toArray, List.getElem?_cons_zero, Sem.run_bind, run_und hu, Result.andThen_ok]; rfl
    · rename_i e hu
      split at h
      · rename_i n e' hu'
        refine ⟨_, h, fun K' hK => by first | exact hK | (simp only [hu']; exact hK), fun t' w => ?_⟩
        simp only [Builtin.len_, ht, List.getElem?_toArray, List.getElem?_cons_zero, Sem.run_bind, run_und hu, run_und hu', Result.andThen_ok]; rfl
      · exact h.elim
    · exact h.elim

theorem cap_one {ts : Array TypeId} {x : Value} {K : Value → Prop} (h : capV P ts x K) :
    ∃ v, K v ∧ (∀ K' : Value → Prop, K' v → capV P ts x K') ∧ ∀ (t : TypeId) (w : World), (Builtin.cap_ ts t #[x]).run P w = .ok v w := by
  simp only [capV] at h ⊢
  split at h
  · exact h.elim
  · rename_i t ht
    split at h
    · rename_i e a n c hu
      refine ⟨_, h, fun K' hK => hK, fun t' w => ?_⟩
      simp only [Builtin.cap_, ht, List.getElem?_toArray, List.getElem?_cons_zero, Sem.run_bind, run_und hu, Result.andThen_ok]; rfl
    · rename_i n e hu
      refine ⟨_, h, fun K' hK => hK, fun t' w => ?_⟩
      simp only [Builtin.cap_, ht, List.getElem?_toArray, List.getElem?_cons_zero, Sem.run_bind, run_und hu, Result.andThen_ok]; rfl
    · exact h.elim

theorem pure_one {wr : Bool} {o : Oper} {K : Value → Prop} (h : pureV wr P fr o K) :
    ∃ v, K v ∧ (∀ K' : Value → Prop, K' v → pureV wr P fr o K') ∧ ∀ a, Ref nt ds fr a → ∀ w, (execOp a.eval o).run P w = .ok (.value v) w := by
  cases hop : o.op <;> simp only [pureV, hop] at h ⊢ <;> try exact h.elim
  case move x =>
    obtain ⟨v, hv, h⟩ := onV_some h
    exact ⟨v, h, fun K' hK => by rw [hv]; exact hK, fun a hr w => by simp only [execOp, hop, hr.ev hv]; rfl⟩
  case assign x =>
    obtain ⟨v, hv, h⟩ := onV_some h
    exact ⟨v, h, fun K' hK => by rw [hv]; exact hK, fun a hr w => by simp only [execOp, hop, hr.ev hv]; rfl⟩
  case pick c x y =>
    split at h
    · rename_i t hc
      cases t with
      | true =>
        obtain ⟨v, hv, h⟩ := onV_some h
        exact ⟨v, h, fun K' hK => by simp only [hv]; exact hK, fun a hr w => by simp only [execOp, hop, hr.ev hc, hr.ev hv, asBool]; rfl⟩
      | false =>
        obtain ⟨v, hv, h⟩ := onV_some h
        exact ⟨v, h, fun K' hK => by simp only [hv]; exact hK, fun a hr w => by simp only [execOp, hop, hr.ev hc, hr.ev hv, asBool]; rfl⟩
    · exact h.elim
  case build t parts =>
    split at h
    · rename_i ps hps
      split at h
      · rename_i cs hcs
        rw [forceB_one, bigL_of hcs] at h
        refine ⟨_, h, fun K' hK => by simp only [hcs, forceB_one, bigL_of hcs]; exact hK, fun a hr w => ?_⟩
        simp only [execOp, hop, run_parts hr hps]
        exact run_val (build_sound hcs w)
      · exact h.elim
    · exact h.elim
  case nilCheck x =>
    split at h
    · rename_i p hv
      obtain ⟨ad, rfl, h⟩ := onP_some h
      exact ⟨_, h, fun K' hK => hK, fun a hr w => by simp only [execOp, hop, hr.ev hv]; rfl⟩
    · rename_i f fi ca hv
      exact ⟨_, h, fun K' hK => hK, fun a hr w => by simp only [execOp, hop, hr.ev hv]; rfl⟩
    · rename_i t v hv
      exact ⟨_, h, fun K' hK => hK, fun a hr w => by simp only [execOp, hop, hr.ev hv]; rfl⟩
    · exact h.elim
  case binOp op t x y yt =>
    obtain ⟨u, hx, h⟩ := onV_some h
    obtain ⟨u', hy, h⟩ := onV_some h
    obtain ⟨v, h, hb, hrun⟩ := bin_one h
    exact ⟨v, h, fun K' hK => by simp only [hx, hy]; exact hb _ hK, fun a hr w => by
      simp only [execOp, hop, hr.ev hx, hr.ev hy]
      exact run_val (hrun x y w)⟩
  case unOp op t x =>
    obtain ⟨u, hx, h⟩ := onV_some h
    obtain ⟨v, h, hb, hrun⟩ := un_one h
    exact ⟨v, h, fun K' hK => by simp only [hx]; exact hb _ hK, fun a hr w => by
      simp only [execOp, hop, hr.ev hx]
      exact run_val (hrun w)⟩
  case convert src dst x =>
    split at h
    · rename_i k0 k k1 n hs hd hx
      exact ⟨_, h, fun K' hK => hK, fun a hr w => by
        simp only [execOp, hop, hr.ev hx]
        exact run_val (by simp only [convert, Sem.run_bind, run_und hs, run_und hd, Result.andThen_ok]; rfl)⟩
    · rename_i s hs hd hx
      exact ⟨_, h, fun K' hK => hK, fun a hr w => by
        simp only [execOp, hop, hr.ev hx]
        exact run_val (by simp only [convert, Sem.run_bind, run_und hs, run_und hd, Result.andThen_ok]; rfl)⟩
    · exact h.elim
  case makeInterface t x =>
    split at h
    · exact h.elim
    · rename_i d hd hu
      obtain ⟨v, hv, h⟩ := onV_some h
      exact ⟨_, h, fun K' hK => by rw [hv]; exact hK, fun a hr w => by
        simp only [execOp, hop, hr.ev hv]
        exact run_val (by
          simp only [Instr.makeInterface, Sem.run_bind, run_und hu, Result.andThen_ok]
          cases d <;> first | rfl | simp_all)⟩
    · exact h.elim
  case makeFunc fn first captured =>
    split at h
    · rename_i fi ca h1 h2
      exact ⟨_, h, fun K' hK => hK, fun a hr w => by
        simp only [execOp, hop, hr.evsA h1, hr.evsA h2]
        exact run_val rfl⟩
    · exact h.elim
  case slice t x lo hi mx =>
    obtain ⟨u, hx, h⟩ := onV_some h
    obtain ⟨v, h, hb, hrun⟩ := slice_one (nt := nt) (ds := ds) h
    exact ⟨v, h, fun K' hK => by simp only [hx]; exact hb _ hK, fun a hr w => by
      simp only [execOp, hop, hr.ev hx]
      exact run_val (hrun a hr w)⟩
  case sliceToArrayPointer t x =>
    split at h
    · rename_i n e a0 l c hu hx
      exact ⟨_, h.2, fun K' hK => ⟨h.1, hK⟩, fun a hr w => by
        simp only [execOp, hop, hr.ev hx]
        exact run_val (by simp only [Instr.arrayAt, Sem.run_bind, run_und hu, Result.andThen_ok]; rw [if_neg (Nat.not_lt.2 h.1)]; rfl)⟩
    · exact h.elim
  case fieldAddr s x f =>
    split at h
    · rename_i fs p hu hx
      split at h
      · rename_i fd hf
        split at h
        · rename_i n hs
          obtain ⟨ad, rfl, h⟩ := onP_some h
          exact ⟨_, h, fun K' hK => by first | exact hK | (simp only [hs]; exact hK), fun a hr w => by
            simp only [execOp, hop, hr.ev hx]
            exact run_val (by simp [Instr.fieldAt, run_und hu, hf, Instr.sureAddr, fieldPlace, run_size hs])⟩
        · exact h.elim
      · exact h.elim
    · exact h.elim
  case field t x f =>
    split at h
    · rename_i fs cs hu hx
      split at h
      · rename_i fd hf
        obtain ⟨v, h, hb, hrun⟩ := part_one h
        exact ⟨v, h, fun K' hK => hb _ hK, fun a hr w => by
          simp only [execOp, hop, hr.ev hx]
          refine run_val ?_
          have := hrun w
          simp only [Array.toArray_toList] at this
          simp [Instr.field, run_und hu, hf, asAgg, this]⟩
      · exact h.elim
    · exact h.elim
  case indexAddr t x ix =>
    split at h
    · rename_i e p n c kd i hu hx hi
      split at h
      · rename_i sz hs
        obtain ⟨ad, rfl, h01, h⟩ := onP_some h
        exact ⟨_, h, fun K' hK => ⟨h01, hK⟩, fun a hr w => by
          simp only [execOp, hop, hr.ev hx, hr.ev hi]
          exact run_val (by simp [Instr.indexAt, asIntOf, run_und hu, h01, run_size hs])⟩
      · exact h.elim
    · rename_i n e p kd i hu hx hi
      split at h
      · rename_i sz hs
        obtain ⟨ad, rfl, h01, h⟩ := onP_some h
        exact ⟨_, h, fun K' hK => ⟨h01, hK⟩, fun a hr w => by
          simp only [execOp, hop, hr.ev hx, hr.ev hi]
          exact run_val (by simp [Instr.indexAt, asIntOf, run_und hu, h01, run_size hs, Instr.sureAddr])⟩
      · exact h.elim
    · exact h.elim
  case index t x ix =>
    split at h
    · rename_i s kd i hu hx hi
      obtain ⟨h01, h⟩ := h
      exact ⟨_, h, fun K' hK => ⟨h01, hK⟩, fun a hr w => by
        simp only [execOp, hop, hr.ev hx, hr.ev hi]
        refine run_val ?_
        have hl : i.toNat < s.size := by omega
        have h2 : s[i.toNat]? = some s[i.toNat] := getElem?_pos s i.toNat hl
        have h3 : sb s i = (s[i.toNat].toNat : Int) := by
          simp only [sb]
          have : s.data.toList[i.toNat]? = some s[i.toNat] := by
            rw [Array.getElem?_toList, Array.getElem?_eq_getElem (by simpa using hl)]; rfl
          rw [this]; rfl
        simp [Instr.index, asIntOf, run_und hu, h01.1, h2, h3]⟩
    · exact h.elim
  case extract x i =>
    split at h
    · rename_i vs hx
      split at h
      · rename_i v hv
        exact ⟨v, h, fun K' hK => hK, fun a hr w => by
          simp only [execOp, hop, hr.ev hx]
          exact run_val (by simp [Instr.extract, hv])⟩
      · exact h.elim
    · exact h.elim
  case call c =>
    split at h
    · rename_i x hc hx
      obtain ⟨u, hu, h⟩ := onV_some h
      obtain ⟨v, h, hb, hrun⟩ := len_one h
      exact ⟨v, h, fun K' hK => by simp only [hu]; exact hb _ hK, fun a hr w => by
        simp only [execOp, hop]
        obtain ⟨cs, e⟩ := run_builtin (P := P) hr hc (by rw [hx]; exact evs_one hu) o.type w
        rw [e]
        exact run_val (hrun _ w)⟩
    · rename_i x hc hx
      obtain ⟨u, hu, h⟩ := onV_some h
      obtain ⟨v, h, hb, hrun⟩ := cap_one h
      exact ⟨v, h, fun K' hK => by simp only [hu]; exact hb _ hK, fun a hr w => by
        simp only [execOp, hop]
        obtain ⟨cs, e⟩ := run_builtin (P := P) hr hc (by rw [hx]; exact evs_one hu) o.type w
        rw [e]
        exact run_val (hrun _ w)⟩
    · rename_i x y hc hx
      split at h
      · rename_i k i k' j h1 h2
        exact ⟨_, h, fun K' hK => hK, fun a hr w => by
          simp only [execOp, hop]
          obtain ⟨cs, e⟩ := run_builtin (P := P) hr hc (by rw [hx]; exact evs_two h1 h2) o.type w
          rw [e]
          refine run_val ?_
          simp [Builtin.min_, Builtin.min2]
          omega⟩
      · exact h.elim
    · rename_i x y hc hx
      split at h
      · rename_i k i k' j h1 h2
        exact ⟨_, h, fun K' hK => hK, fun a hr w => by
          simp only [execOp, hop]
          obtain ⟨cs, e⟩ := run_builtin (P := P) hr hc (by rw [hx]; exact evs_two h1 h2) o.type w
          rw [e]
          refine run_val ?_
          simp [Builtin.max_, Builtin.max2]
          omega⟩
      · exact h.elim
    · exact h.elim

theorem read_run {o : Oper} {w : World} {v : Value} (h : readV P fr o w v) {a : Act} (hr : Ref nt ds fr a) : (execOp a.eval o).run P w = .ok (.value v) w := by
  cases hop : o.op <;> simp only [readV, hop] at h <;> try exact h.elim
  case load t x =>
    split at h
    · rename_i p hx
      obtain ⟨ad, rfl, h⟩ := onP_some h
      simp only [execOp, hop, hr.ev hx]
      refine run_val ?_
      have h' : (loadVar t ad).run P w = .ok v w := h
      simp [Instr.loadAt, Instr.sureAddr, h']
    · exact h.elim
  case lookup t x k ok =>
    obtain ⟨m, hm, h⟩ := onV_some h
    obtain ⟨k, hk, h⟩ := onV_some h
    simp only [execOp, hop, hr.ev hm, hr.ev hk]
    exact run_val h
  case binOp op t x y yt =>
    obtain ⟨u, hx, h⟩ := onV_some h
    obtain ⟨u', hy, h⟩ := onV_some h
    split at h
    · simp only [execOp, hop, hr.ev hx, hr.ev hy]
      exact run_val h
    · exact h.elim
  case convert src dst x =>
    obtain ⟨u, hx, h⟩ := onV_some h
    simp only [execOp, hop, hr.ev hx]
    exact run_val h
  case typeAssert x xT t ok =>
    obtain ⟨u, hx, h⟩ := onV_some h
    simp only [execOp, hop, hr.ev hx]
    exact run_val h
  case call c =>
    split at h
    · rename_i x hc hx
      obtain ⟨u, hu, h⟩ := onV_some h
      simp only [execOp, hop]
      obtain ⟨cs, e⟩ := run_builtin (P := P) hr hc (by rw [hx]; exact evs_one hu) o.type w
      rw [e]
      exact run_val h
    · exact h.elim

/-- no function of the program bears the name that the model takes apart -/
def NoNum (P : Program) : Prop := ∀ (f : FuncId) (fn : Func), P.funcs[f]? = some fn → (fn.name == "runtime.NumGoroutine") = false

theorem W_fn (rd : Option Nat) (f : FuncId) : (W rd).fn f := trivial
theorem W_depth (rd : Option Nat) : (W rd).depth = none := rfl
theorem callsIn_W {rd : Option Nat} {n : Nat} {f : FuncId} {args : Array Value} {w : World} {R : Ending → World → Prop} (h : Calls P f args w R) : CallsIn (W rd) n P f args w R :=
  (callsIn_wide (n := n)).2 h

theorem call_run {f : FuncId} {fn : Func} {c : Code} {args : Array Value} {w : World} (hN : NoNum P) (hf : P.funcs[f]? = some fn) (hb : fn.body = some c) : (callFunc f args).run P w = .ok (.enter f args) w := by
  have h1 := hN f fn hf
  simp only [callFunc, Sem.run_bind, run_program, Result.andThen_ok, hf]
  rw [if_neg (by simpa using h1)]
  simp [hb]
theorem arr_nil {a : Array Value} (h : a.toList = []) : a = #[] := by apply Array.toList_inj.1; simpa using h

theorem build_slice_sound {t e : TypeId} {len : Nat} {ps : List (Nat × Value)} {l : List Value} (h : buildSL P t len ps = some (e, l)) (w : World) :
    (Instr.buildSlice t len ps.toArray).run P w = .ok (.slice (some ⟨w.heap.size, 0, none⟩) len len) (w.alloc (.cells l.toArray e)) := by
  simp only [buildSL] at h
  split at h
  · rename_i e' hu
    split at h
    · rename_i i hi
      split at h
      · rename_i z hz
        split at h
        · cases h
        · rename_i hc
          simp only [Bool.or_eq_true, decide_eq_true_eq, not_or, Decidable.not_not] at hc
          obtain ⟨⟨hc1, hc2⟩, hc3⟩ := hc
          split at h
          · rename_i l' hl
            cases h
            have hzero : (zeroValue e).run P w = .ok z w := by simp [zeroValue, typeInfo, hi, hz]
            have hsize : (sizeOf e).run P w = .ok i.size w := by simp [sizeOf, typeInfo, hi]
            have hf := fill_sound _ _ _ _ hl
            have hrep : ∀ n, repL z.cells.toList n = ((Array.range (n * i.size)).map (z.cells[· % z.cells.size]!)).toList := by
              intro n
              induction n with
              | zero => simp [repL]
              | succ n ih =>
                have e1 : repL z.cells.toList (n + 1) = repL z.cells.toList n ++ z.cells.toList := by
                  clear ih
                  induction n with
                  | zero => simp [repL]
                  | succ n ih =>
                    show z.cells.toList ++ repL z.cells.toList (n + 1) = (z.cells.toList ++ repL z.cells.toList n) ++ z.cells.toList
                    rw [ih, List.append_assoc]
                rw [e1, ih]
                rw [show (n + 1) * i.size = n * i.size + i.size from Nat.succ_mul n i.size]
                apply List.ext_getElem?
                intro k
                simp only [Array.toList_map, Array.toList_range, List.getElem?_append, List.length_map, List.length_range, List.getElem?_map]
                by_cases hk : k < n * i.size
                · rw [if_pos hk, List.getElem?_range hk, List.getElem?_range (by omega)]
                · rw [if_neg hk]
                  by_cases hk2 : k < n * i.size + i.size
                  · rw [List.getElem?_range hk2]
                    have hm : k % z.cells.size = k - n * i.size := by
                      rw [hc1, Nat.mod_eq_sub_mul_div]
                      have : k / i.size = n := by
                        apply Nat.div_eq_of_lt_le
                        · omega
                        · rw [Nat.succ_mul]; omega
                      rw [this, Nat.mul_comm]
                    have hlt : k - n * i.size < z.cells.size := by omega
                    simp only [Option.map_some, hm]
                    rw [getElem!_pos z.cells _ hlt]
                    simp [hlt]
                  · rw [List.getElem?_eq_none (by simp; omega), List.getElem?_eq_none (by simp; omega)]
                    rfl
            rw [hrep] at hf
            simp only [Array.toArray_toList] at hf
            simp only [Instr.buildSlice, Sem.run_bind, run_und hu, Result.andThen_ok, hsize]
            rw [if_neg (by omega)]
            by_cases h0 : len * i.size = 0
            · have hlen : len = 0 := (Nat.mul_eq_zero.1 h0).resolve_right hc2
              subst hlen
              have em : ∀ f : Nat → Value, Array.map f (Array.range 0) = #[] := fun f => by apply Array.toList_inj.1; simp
              simp only [Nat.zero_mul, if_true, Sem.run_bind, Sem.run_pure, Result.andThen_ok, em] at hf ⊢
              rw [hf]
              rfl
            · simp only [if_neg h0, Sem.run_bind, Sem.run_map, Sem.run_pure, hzero, Result.andThen_ok]
              rw [hf]
              rfl
          · cases h
      · cases h
    · cases h
  · cases h

/-- what turns memory: from the calculus' condition to what the operation does -/
theorem eff_upon {rd : Option Nat} {n : Nat} (hN : NoNum P) {o : Oper} {w : World} {K : Option Value → World → Prop} (h : effV P ops fr o w K) {a : Act} (hr : Ref nt ds fr a)
    {next : Act → World → Prop} {Q : Exit → Act → World → Prop} (hK : ∀ rv w', K rv w' → ∀ v : Value, (∀ u, rv = some u → v = u) → next (a.put o.dst v) w') :
    o.uponIn (W rd) n P a next Q ((execOp a.eval o).run P w) ∧ ∀ c, o.op ≠ .defer c := by
  have val : ∀ {s : Sem Value} {v : Value} {w1 : World}, s.run P w = .ok v w1 → K (some v) w1 → o.uponIn (W rd) n P a next Q ((do pure (Next.value (← s)) : Sem Next).run P w) := by
    intro s v w1 hs hk
    rw [run_val hs]
    exact hK _ _ hk _ (fun u hu => by cases hu; rfl)
  have uni : ∀ {s : Sem Unit} {w1 : World}, s.run P w = .ok () w1 → K none w1 → o.uponIn (W rd) n P a next Q ((do s; pure Next.skip : Sem Next).run P w) := by
    intro s w1 hs hk
    rw [run_unit hs]
    exact hK _ _ hk _ (fun u hu => by cases hu)
  cases hop : o.op <;> simp only [effV, hop] at h <;> try exact h.elim
  case alloc t =>
    refine ⟨?_, fun c hc => by cases hc⟩
    split at h
    · rename_i z hz
      rw [forceB_one, zl_of hz] at h
      simp only [execOp, hop]
      exact val (v := .pointer (some ⟨w.heap.size, 0, none⟩)) (w1 := w.alloc (.cells z.cells t)) (by simp only [Instr.alloc, Sem.run_bind, run_zero hz, Result.andThen_ok]; rfl) (h _ _ ⟨rfl, by simp⟩)
    · exact h.elim
  case box t x =>
    refine ⟨?_, fun c hc => by cases hc⟩
    obtain ⟨v, hv, h⟩ := onV_some h
    rw [forceB_one] at h
    simp only [execOp, hop, hr.ev hv]
    exact val (v := .pointer (some ⟨w.heap.size, 0, none⟩)) (w1 := w.alloc (.cells v.cells t)) rfl (h _ _ ⟨rfl, by simp⟩)
  case buildSlice t len parts =>
    refine ⟨?_, fun c hc => by cases hc⟩
    split at h
    · rename_i ps hps
      split at h
      · obtain ⟨e, l, h1, h⟩ := h
        simp only [execOp, hop, run_parts hr hps]
        exact val (build_slice_sound h1 w) (h _ _ ⟨rfl, rfl⟩)
      · split at h
        · rename_i e cs hcs
          rw [force_one] at h
          simp only [execOp, hop, run_parts hr hps]
          exact val (build_slice_sound hcs w) (h _ _ ⟨rfl, rfl⟩)
        · exact h.elim
    · exact h.elim
  case store t x y =>
    refine ⟨?_, fun c hc => by cases hc⟩
    split at h
    · rename_i p v hx hy
      obtain ⟨ad, rfl, w1, h1, h⟩ := onP_some h
      simp only [execOp, hop, hr.ev hx, hr.ev hy]
      exact uni (by have h1' : (storeVar t ad v).run P w = .ok () w1 := h1; simp [Instr.storeAt, Instr.sureAddr, h1']) h
    · exact h.elim
  case convert src dst x =>
    refine ⟨?_, fun c hc => by cases hc⟩
    obtain ⟨v, hv, ad, l, c, w1, h1, h⟩ := onV_some h
    simp only [execOp, hop, hr.ev hv]
    exact val h1 h
  case makeSlice t l c =>
    refine ⟨?_, fun c hc => by cases hc⟩
    obtain ⟨l, hl, h⟩ := onV_some h
    obtain ⟨c, hc, ad, n', m, w1, h1, h⟩ := onV_some h
    simp only [execOp, hop, hr.ev hl, hr.ev hc]
    exact val h1 h
  case makeMap t r =>
    refine ⟨?_, fun c hc => by cases hc⟩
    cases r with
    | none =>
      simp only [execOp, hop]
      exact val (v := .map (some w.heap.size)) (w1 := w.alloc (.map #[] 0)) rfl (h _ _ ⟨rfl, rfl⟩)
    | some x =>
      obtain ⟨v, hv, m, w1, h1, h⟩ := onV_some h
      simp only [execOp, hop, Option.map_some, hr.ev hv]
      exact val h1 h
  case mapUpdate t m k x =>
    refine ⟨?_, fun c hc => by cases hc⟩
    obtain ⟨m, hm, h⟩ := onV_some h
    obtain ⟨k, hk, h⟩ := onV_some h
    obtain ⟨v, hv, w1, h1, h⟩ := onV_some h
    simp only [execOp, hop, hr.ev hm, hr.ev hk, hr.ev hv]
    exact uni h1 h
  case insert t m k x =>
    refine ⟨?_, fun c hc => by cases hc⟩
    obtain ⟨m, hm, h⟩ := onV_some h
    obtain ⟨k, hk, h⟩ := onV_some h
    obtain ⟨v, hv, w1, h1, h⟩ := onV_some h
    simp only [execOp, hop, hr.ev hm, hr.ev hk, hr.ev hv]
    exact uni h1 h
  case mapEntry t m k =>
    refine ⟨?_, fun c hc => by cases hc⟩
    obtain ⟨m, hm, h⟩ := onV_some h
    obtain ⟨k, hk, h⟩ := onV_some h
    obtain ⟨v, i, w1, h1, h⟩ := h
    simp only [execOp, hop, hr.ev hm, hr.ev hk]
    exact val h1 h
  case entryStore t m s x =>
    refine ⟨?_, fun c hc => by cases hc⟩
    obtain ⟨m, hm, h⟩ := onV_some h
    obtain ⟨k, hk, h⟩ := onV_some h
    obtain ⟨v, hv, w1, h1, h⟩ := onV_some h
    simp only [execOp, hop, hr.ev hm, hr.ev hk, hr.ev hv]
    exact uni h1 h
  case range t x =>
    refine ⟨?_, fun c hc => by cases hc⟩
    obtain ⟨v, hv, p, w1, h1, h⟩ := onV_some h
    simp only [execOp, hop, hr.ev hv]
    exact val h1 h
  case next it isS =>
    refine ⟨?_, fun c hc => by cases hc⟩
    obtain ⟨v, hv, h⟩ := onV_some h
    simp only [execOp, hop, hr.ev hv]
    rcases h with ⟨w1, h1, h⟩ | ⟨k, v, w1, h1, h⟩
    · exact val h1 h
    · exact val h1 h
  case entry it =>
    refine ⟨?_, fun c hc => by cases hc⟩
    obtain ⟨v, hv, h⟩ := onV_some h
    obtain ⟨k, h⟩ := exO_some h
    obtain ⟨u, w1, h1, h⟩ := exO_some h
    simp only [execOp, hop, hr.ev hv]
    exact val h1 h
  case call c =>
    refine ⟨?_, fun c hc => by cases hc⟩
    split at h
    · exact h.elim
    · rename_i args hargs
      simp only [execOp, hop]
      split at h
      · rename_i hc
        split at h
        · obtain ⟨ad, n', m, w1, h1, h⟩ := h
          obtain ⟨cs, e⟩ := run_builtin (P := P) hr hc hargs o.type w
          rw [e]
          exact val h1 h
        · exact h.elim
      · rename_i hc
        split at h
        · obtain ⟨n', w1, h1, h⟩ := h
          obtain ⟨cs, e⟩ := run_builtin (P := P) hr hc hargs o.type w
          rw [e]
          exact val h1 h
        · exact h.elim
      · rename_i hc
        split at h
        · obtain ⟨w1, h1, h⟩ := h
          obtain ⟨cs, e⟩ := run_builtin (P := P) hr hc hargs o.type w
          rw [e]
          exact val h1 h
        · exact h.elim
      · rename_i hc
        split at h
        · obtain ⟨w1, h1, h⟩ := h
          obtain ⟨cs, e⟩ := run_builtin (P := P) hr hc hargs o.type w
          rw [e]
          exact val h1 h
        · exact h.elim
      · exact h.elim
      · rename_i f hc
        obtain ⟨fv, hf, h⟩ := onV_some h
        unfold callXF CallX at h
        split at h
        · rename_i g fi ca
          split at h
          · rename_i fn hfn
            split at h
            · rename_i cd hb
              have h1 := call_run (args := (fi.toList ++ args ++ ca.toList).toArray) (w := w) hN hfn hb
              have e : (do let d ← resolve a.eval c o.type; invoke d.target d.args : Sem Next).run P w = .ok (.enter g (fi.toList ++ args ++ ca.toList).toArray) w := by
                have ea : fi ++ args.toArray ++ ca = (fi.toList ++ args ++ ca.toList).toArray := by
                  apply Array.toList_inj.1; simp
                simp only [resolve, hc, hr.ev hf, Deferred.ofValue, Sem.run_bind, Sem.run_pure, Result.andThen_ok, invoke, hr.evsA hargs, ea, h1]
              rw [e, Oper.uponIn_enter]
              refine ⟨fun hd => by simp [W_depth] at hd, (callsIn_W h.run).mono ?_⟩
              intro e w' he
              obtain ⟨v, rfl, hk⟩ := exT_some he
              exact hK _ _ hk _ (fun u hu => by cases hu; rfl)
            · exact h.elim
          · exact h.elim
        · rename_i l fi ca
          split at h
          · rename_i hfi hca
            have e1 := arr_nil hfi
            have e2 := arr_nil hca
            subst e1; subst e2
            obtain ⟨fn', tm, as, bd, hy, hro⟩ := h.run rd (n - 1)
            have e : (do let d ← resolve a.eval c o.type; invoke d.target d.args : Sem Next).run P w = .ok (.round l fn' tm as bd) w := by
              simp only [resolve, hc, hr.ev hf, Deferred.ofValue, Sem.run_bind, Sem.run_pure, Result.andThen_ok, invoke, hr.evsA hargs, Array.empty_append, hy]
            rw [e, Oper.uponIn_round]
            refine ⟨fun hd => by simp [W_depth] at hd, hro.mono ?_⟩
            intro e w' he
            obtain ⟨v, rfl, hk⟩ := exT_some he
            exact hK _ _ hk _ (fun u hu => by cases hu; rfl)
          · exact h.elim
        · exact h.elim
      · exact h.elim
end
end Go.Vc
