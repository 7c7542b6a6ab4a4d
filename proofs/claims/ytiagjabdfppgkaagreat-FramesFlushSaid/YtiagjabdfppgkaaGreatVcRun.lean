/- A region: from the calculus' condition to the run of its operations, in the order of the text and in whatever order is drawn. -/
import Derived.Test.YtiagjabdfppgkaaGreatVcOps
set_option linter.unusedVariables false
set_option linter.unusedSimpArgs false
set_option maxRecDepth 100000
namespace Go.Vc
open Go

theorem again_out {bef : Nat → Nat → Bool} {j : Nat} : ∀ {p : Past} {w : World} {X : Prop}, again bef j p w X → X
  | [], w, X, h => h
  | (i, f) :: p, w, X, h => by
    simp only [again] at h
    split at h
    · exact again_out h
    · exact again_out h.2
theorem again_iff {bef : Nat → Nat → Bool} {j : Nat} : ∀ {p : Past} {w : World} {X : Prop}, again bef j p w X ↔ (∀ x ∈ p, bef x.1 j = false → x.2 w) ∧ X
  | [], w, X => by simp [again]
  | (i, f) :: p, w, X => by
    simp only [again]
    split
    · rename_i hb
      rw [again_iff]
      simp [hb]
    · rename_i hb
      rw [again_iff]
      simp [hb, and_assoc]
theorem spl_iff {sp : Bool} {v : Value} {K : Value → Prop} : spl sp v K ↔ K v := by
  unfold spl
  split
  · rename_i b
    cases b <;> simp [br]
  · rfl

section
variable {wr : Bool} {P : Program} {bef : Nat → Nat → Bool} {ops : List Oper} {nt : Nat} {ds : List Deferred} {fr : Fr} {rd : Option Nat} {n : Nat}

theorem pure_defer {o : Oper} {K : Value → Prop} (h : pureV wr P fr o K) : ∀ c, o.op ≠ .defer c := by
  intro c hc; simp [pureV, hc] at h
theorem read_defer {o : Oper} {w : World} {v : Value} (h : readV P fr o w v) : ∀ c, o.op ≠ .defer c := by
  intro c hc; simp [readV, hc] at h

/-- one operation that runs -/
theorem exec_upon (hN : NoNum P) {i : Nat} {o : Oper} {w : World} {past : Past} {K : Option Value → World → Past → Prop} (h : execV wr P bef ops i o fr w past K) {a : Act} (hr : Ref nt ds fr a)
    {next : Act → World → Prop} {Q : Exit → Act → World → Prop} (hK : ∀ rv w' past', K rv w' past' → ∀ v : Value, (∀ u, rv = some u → v = u) → next (a.put o.dst v) w') :
    o.wpIn (W rd) n P a w next Q := by
  refine ⟨fun f _ => trivial, ?_⟩
  have go : ∀ (hd : ∀ c, o.op ≠ .defer c), o.uponIn (W rd) n P a next Q ((execOp a.eval o).run P w) → o.uponIn (W rd) n P a next Q ((o.semAt (W rd).round a.eval).run P w) := fun hd h => by
    rw [Oper.semAt_eq _ _ _ hd]; exact h
  unfold execV at h
  split at h
  · have hd := pure_defer h
    obtain ⟨v, h, -, hrun⟩ := pure_one (nt := nt) (ds := ds) h
    refine go hd ?_
    rw [hrun a hr w]
    exact hK _ _ _ (spl_iff.1 h) v (fun u hu => by cases hu; rfl)
  · obtain ⟨v, hv, h⟩ := exT_some h
    refine go (read_defer hv) ?_
    rw [read_run hv hr]
    exact hK _ _ _ (spl_iff.1 h) v (fun u hu => by cases hu; rfl)
  · obtain ⟨h, hd⟩ := eff_upon (rd := rd) (n := n) (Q := Q) (next := next) hN h hr (fun rv w' hk v hv => by
      have := again_out hk
      split at this
      · exact hK _ _ _ (spl_iff.1 this) v hv
      · exact hK _ _ _ this v hv)
    exact go hd h

theorem wanted_none {o : Oper} (h : o.guard = none) (y : Nat → Option Bool) : Region.wanted o y = true := by simp [Region.wanted, h]

theorem yielded_of {opsA : Array Oper} {a : Act} (hr : Ref nt ds fr a) {j s : Nat} {b : Bool} (hs : slotOf opsA.toList j = some s) (hf : fget fr s = some (.bool b)) : yielded opsA a.tmps j = some b := by
  have hv := hr.val s _ hf
  unfold slotOf at hs
  split at hs
  · rename_i o ho
    have ho' : opsA[j]? = some o := by simpa using ho
    simp [yielded, ho', hs, hv]
  · cases hs

theorem yielded_not {opsA : Array Oper} {a : Act} (hr : Ref nt ds fr a) {j s : Nat} {vs : Array Value} (hs : slotOf opsA.toList j = some s) (hf : fget fr s = some (.tuple vs)) : yielded opsA a.tmps j = none := by
  have hv := hr.val s _ hf
  unfold slotOf at hs
  split at hs
  · rename_i o ho
    have ho' : opsA[j]? = some o := by simpa using ho
    simp [yielded, ho', hs, hv]
  · cases hs
/-- one step of a region, in the model -/
theorem step_upon (hN : NoNum P) {opsA : Array Oper} {Q : Exit → Act → World → Prop} {i : Nat} {o : Oper} {rest : List Nat} {w : World} {past : Past} {K : Option Value → World → Past → Prop} (ho : opsA.toList[i]? = some o)
    (h : stepD wr P bef opsA.toList i o fr w past K) {a : Act} (hr : Ref nt ds fr a)
    (hK : ∀ rv w' past', K rv w' past' → ∀ v : Value, (∀ u, rv = some u → v = u) → wpOpsIn (W rd) n P opsA Q rest (a.put o.dst v) w') :
    wpOpsIn (W rd) n P opsA Q (i :: rest) a w := by
  have ho' : opsA[i]? = some o := by simpa using ho
  simp only [wpOpsIn, ho']
  unfold stepD at h
  split at h
  · rename_i hg
    rw [if_pos (wanted_none hg _)]
    exact exec_upon hN h hr hK
  · rename_i j want hg
    split at h
    · exact h.elim
    · rename_i s hs
      split at h
      · rename_i b hf
        have hy := yielded_of hr hs hf
        have hw : Region.wanted o (yielded opsA a.tmps) = (b == want) := by
          simp [Region.wanted, hg, hy]
        rw [hw]
        split at h
        · exact exec_upon hN h hr hK
        · exact exec_upon hN h hr hK
        · rename_i h1 h2
          have : (b == want) = false := by
            cases b <;> cases want <;> simp_all
          rw [this, if_neg (by simp)]
          exact ⟨fun f _ => trivial, hK _ _ _ h undef (fun u hu => by cases hu; rfl)⟩
      · rename_i vs hf
        have hw : Region.wanted o (yielded opsA a.tmps) = false := by
          simp [Region.wanted, hg, yielded_not hr hs hf]
        rw [hw, if_neg (by simp)]
        exact ⟨fun f _ => trivial, hK _ _ _ h undef (fun u hu => by cases hu; rfl)⟩
      · exact h.elim

theorem run_upon (hN : NoNum P) {opsA : Array Oper} {Q : Exit → Act → World → Prop} {K : Fr → World → Prop} (hQ : ∀ fr w a, K fr w → Ref nt ds fr a → Q .normal a w) :
    ∀ (σ : List Nat) (fr : Fr) (w : World) (past : Past) (a : Act), runV wr P nt bef opsA.toList K σ fr w past → Ref nt ds fr a → wpOpsIn (W rd) n P opsA Q σ a w
  | [], fr, w, past, a, h, hr => hQ _ _ _ h hr
  | i :: r, fr, w, past, a, h, hr => by
    simp only [runV] at h
    split at h
    · exact h.elim
    · rename_i o ho
      refine step_upon hN ho h hr fun rv w' past' hk v hv => ?_
      obtain ⟨fr', hk, hr'⟩ := hr.fput hv hk
      exact run_upon hN hQ r _ _ _ _ hk hr'
end
end Go.Vc
