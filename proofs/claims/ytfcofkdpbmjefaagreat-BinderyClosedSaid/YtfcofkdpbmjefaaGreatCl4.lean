/- Part 4: The evaluator's code: from what it comes to, to the model's own rules. The evaluator's ranges over functions, and all code. The evaluator's functions: marks shut, results taken, a body called. The evaluator's rounds: what a range over a function hands to its iterator is called. The evaluator's merges: what a call leaves, put in order. -/
import Derived.Test.YtfcofkdpbmjefaaGreatCl3
set_option linter.unusedVariables false
set_option linter.unusedSimpArgs false
set_option maxRecDepth 100000
namespace Go.Ev
open Go Go.Vc
def MsR (η : Eta) : List Nat → List Nat → Prop
  | [], l => l = []
  | D :: r, l => ∃ b u q, η D = some (b, u) ∧ MsR η r q ∧ l = b :: q
theorem MsR.mono {η η' : Eta} (he : Ext η η') : ∀ {ms mw : List Nat}, MsR η ms mw → MsR η' ms mw
  | [], mw, h => h
  | D :: r, mw, h => by
    obtain ⟨b, u, q, h1, h2, h3⟩ := h
    exact ⟨b, u, q, he _ _ h1, MsR.mono he h2, h3⟩
structure Here (η0 : Eta) (n0 : Nat) (B : Base) (nt : Nat) (ds : List Deferred) (fr : F) (ms : List Nat) (h : H) (n : Nat) (a : Act) (w : World) (mw : List Nat) : Prop where
  mk' ::
  ex : ∃ η vf, FrR η fr vf ∧ Rel η B h n w ∧ Grow η0 η n0 n B.m ∧ MsR η ms mw ∧ Ref nt (mkM mw ds) vf a
def KAns (x : Ans) (KN : KM) (KX : Nat → KM) (KR : KM) (fr : F) (ms : List Nat) (h : H) (n : Nat) : Exit → Prop
  | .normal => x = KN fr ms h n
  | .exit i => x = KX i fr ms h n
  | .ret => x = KR fr ms h n
  | _ => False
def CodeOK (c : Code) (e : Env) (nt : Nat) : Prop := ∀ {rd : Option Nat} {fu : Nat} {ds : List Deferred} {η0 : Eta} {n0 : Nat} {fr : F} {ms mw : List Nat} {h : H} {n : Nat} {w : World} {a : Act} {x : Ans} {KN : KM} {KX : Nat → KM} {KR : KM} {QA : Exit → Act → World → Prop},
  Here η0 n0 e.B nt ds fr ms h n a w mw → (rd ≠ none → noRF c = true) → x = codeE c e nt fr ms h n KN KX KR → x.ok →
  (∀ ex fr' ms' h' n' a' w' mw', Here η0 n0 e.B nt ds fr' ms' h' n' a' w' mw' → (noRF c = true → ms' = ms ∧ mw' = mw) → KAns x KN KX KR fr' ms' h' n' ex → QA ex a' w') → c.wpIn (W rd) fu PP QA a w
section
variable {η η' η0 : Eta} {h h' : H} {n n' n0 nt fu : Nat} {w w' : World} {e : Env} {fr fr' : F} {vf : Fr} {x : Ans} {rd : Option Nat} {ds : List Deferred}
theorem Here.post {B : Base} {ms mw : List Nat} {K : KF} {vf' : Fr} {a' : Act} (hg : Grow η0 η n0 n B.m) (H0 : Rel η B h n w) (hm : MsR η ms mw) (hp : RPost η B n x K vf' w') (hr : Ref nt (mkM mw ds) vf' a') : ∃ fr' h' n', Here η0 n0 B nt ds fr' ms h' n' a' w' mw ∧ x = K fr' h' n' := by
  obtain ⟨η', fr', h', n', h1, h2, h3, h4⟩ := hp
  exact ⟨fr', h', n', ⟨η', vf', h1, h2, hg.trans h3, hm.mono (H0.ext h3), hr⟩, h4⟩
theorem code_skip : CodeOK .skip e nt := by
  intro rd fu ds η0 n0 fr ms mw h n w a x KN KX KR QA H0 hrd hx hk hq
  exact wpIn_skip (hq .normal fr ms h n a w mw H0 (fun _ => ⟨rfl, rfl⟩) hx)
theorem drew_chg (w : World) : Chg [] w w.drew := ⟨rfl, rfl, rfl, Nat.le_refl _, fun _ _ _ => rfl⟩
theorem code_region (hN : NoNum PP) (hcall : CallOK e.call) {id : Nat} {ops : Array Oper} {draw : Bool} : CodeOK (.region id ops draw) e nt := by
  intro rd fu ds η0 n0 fr ms mw h n w a x KN KX KR QA H0 hrd hx hk hq
  obtain ⟨η, vf, hf, H1, hg, hm, hr⟩ := H0.ex
  cases draw with
  | false =>
    refine wpIn_region ?_
    have := text_ok (rd := rd) (fu := fu) (K := fun fr h n => KN fr ms h n) hN hcall hf H1 (hx : x = runS ops.toList (soOf ops.toList 0) e nt fr h n fun fr h n => KN fr ms h n) hk (Q := QA) (fun vf' w' a' hp hr' => by
      obtain ⟨fr', h', n', g1, g2⟩ := Here.post hg H1 hm hp hr'
      exact hq .normal fr' ms h' n' a' w' mw g1 (fun _ => ⟨rfl, rfl⟩) g2) hr
    simpa using this
  | true =>
    refine wpIn_region_draw fun t => ?_
    have H2 := H1.chg (drew_chg w)
    exact draw_ok (K := fun fr h n => KN fr ms h n) hN hcall hf H2 (hx : x = drawE ops.toList (sched ops) e nt fr h n fun fr h n => KN fr ms h n) hk (fun vf' w' a' hp hr' => by
      obtain ⟨fr', h', n', g1, g2⟩ := Here.post hg H2 hm hp hr'
      exact hq .normal fr' ms h' n' a' w' mw g1 (fun _ => ⟨rfl, rfl⟩) g2) hr _ t
theorem code_seq {c d : Code} (hc : CodeOK c e nt) (hd : CodeOK d e nt) : CodeOK (.seq c d) e nt := by
  intro rd fu ds η0 n0 fr ms mw h n w a x KN KX KR QA H0 hrd hx hk hq
  refine wpIn_seq (hc H0 (fun h => (and_true (hrd h)).1) (hx : x = codeE c e nt fr ms h n (fun fr ms h n => codeE d e nt fr ms h n KN KX KR) KX KR) hk fun ex fr' ms' h' n' a' w' mw' H1 hms hka => ?_)
  cases ex with
  | normal =>
    refine hd H1 (fun h => (and_true (hrd h)).2) hka hk fun ex fr'' ms'' h'' n'' a'' w'' mw'' H2 hms' hka' => ?_
    refine hq ex fr'' ms'' h'' n'' a'' w'' mw'' H2 (fun hh => ?_) hka'
    obtain ⟨h1, h2⟩ := hms (and_true hh).1
    obtain ⟨h3, h4⟩ := hms' (and_true hh).2
    exact ⟨h3.trans h1, h4.trans h2⟩
  | _ => exact hq _ _ _ _ _ _ _ _ H1 (fun hh => hms (and_true hh).1) hka
theorem code_cond {v : Operand} {c d : Code} (hc : CodeOK c e nt) (hd : CodeOK d e nt) : CodeOK (.cond v c d) e nt := by
  intro rd fu ds η0 n0 fr ms mw h n w a x KN KX KR QA H0 hrd hx hk hq
  obtain ⟨η, vf, hf, H1, hg, hm, hr⟩ := H0.ex
  have hx : x = evE fr v fun v => onBool v fun b => bA b (codeE c e nt fr ms h n KN KX KR) (codeE d e nt fr ms h n KN KX KR) := hx
  have hk' := hk
  rw [hx] at hk'
  obtain ⟨u, p, e1, e2, e3⟩ := evE_ok hf hk'
  rw [e1] at hk'
  obtain ⟨b, rfl, e4⟩ := onBool_ok hk'
  simp only [R] at e3
  subst e3
  have hx := hx.trans (e1.trans e4)
  cases b with
  | true => exact wpIn_cond_true (hr.ev e2) (hc H0 (fun h => (and_true (hrd h)).1) hx hk fun ex fr' ms' h' n' a' w' mw' H2 hms hka => hq _ _ _ _ _ _ _ _ H2 (fun hh => hms (and_true hh).1) hka)
  | false => exact wpIn_cond_false (hr.ev e2) (hd H0 (fun h => (and_true (hrd h)).2) hx hk fun ex fr' ms' h' n' a' w' mw' H2 hms hka => hq _ _ _ _ _ _ _ _ H2 (fun hh => hms (and_true hh).2) hka)
theorem code_block {id : Nat} {c : Code} (hc : CodeOK c e nt) : CodeOK (.block id c) e nt := by
  intro rd fu ds η0 n0 fr ms mw h n w a x KN KX KR QA H0 hrd hx hk hq
  refine wpIn_block (hc H0 hrd (hx : x = codeE c e nt fr ms h n KN (fun i fr ms h n => bA (Nat.beq i id) (KN fr ms h n) (KX i fr ms h n)) KR) hk fun ex fr' ms' h' n' a' w' mw' H1 hms hka => ?_)
  cases ex with
  | exit i =>
    have hka : x = bA (Nat.beq i id) (KN fr' ms' h' n') (KX i fr' ms' h' n') := hka
    simp only [Exit.inBlock]
    cases hb : Nat.beq i id with
    | true =>
      rw [hb] at hka
      rw [if_pos (beq_t hb)]
      exact hq .normal _ _ _ _ _ _ _ H1 hms hka
    | false =>
      rw [hb] at hka
      rw [if_neg (Nat.ne_of_beq_eq_false hb)]
      exact hq (.exit i) _ _ _ _ _ _ _ H1 hms hka
  | _ => exact hq _ _ _ _ _ _ _ _ H1 hms hka
theorem code_loop {c : Code} (hc : CodeOK c e nt) : CodeOK (.loop c) e nt := by
  intro rd fu ds η0 n0 fr ms mw h n w a x KN KX KR QA H0 hrd hx hk hq
  have hx : x = loopE (codeE c) 100000 e nt fr ms h n KX KR := hx
  refine wpIn_loop_n (fun m a w => ∃ fr' ms' h' n' mw', Here η0 n0 e.B nt ds fr' ms' h' n' a w mw' ∧ (noRF c = true → ms' = ms ∧ mw' = mw) ∧ x = loopE (codeE c) m e nt fr' ms' h' n' KX KR) ⟨100000, fr, ms, h, n, mw, H0, fun _ => ⟨rfl, rfl⟩, hx⟩ fun m a w hI => ?_
  obtain ⟨fr1, ms1, h1, n1, mw1, H1, hms1, hx1⟩ := hI
  cases m with
  | zero => rw [hx1] at hk; exact False.elim hk
  | succ m =>
    refine hc H1 hrd (hx1 : x = codeE c e nt fr1 ms1 h1 n1 (fun fr ms h n => loopE (codeE c) m e nt fr ms h n KX KR) KX KR) hk fun ex fr' ms' h' n' a' w' mw' H2 hms hka => ?_
    have hms' : noRF c = true → ms' = ms ∧ mw' = mw := fun hh => ⟨(hms hh).1.trans (hms1 hh).1, (hms hh).2.trans (hms1 hh).2⟩
    cases ex with
    | normal => exact ⟨m, Nat.lt_succ_self _, fr', ms', h', n', mw', H2, hms', hka⟩
    | exit i => exact hq (.exit i) _ _ _ _ _ _ _ H2 hms' hka
    | ret => exact hq .ret _ _ _ _ _ _ _ H2 hms' hka
    | _ => exact False.elim hka
theorem code_exit {id : Nat} : CodeOK (.exit id) e nt := by
  intro rd fu ds η0 n0 fr ms mw h n w a x KN KX KR QA H0 hrd hx hk hq
  exact wpIn_exit (hq (.exit id) fr ms h n a w mw H0 (fun _ => ⟨rfl, rfl⟩) hx)
theorem code_ret : CodeOK .ret e nt := by
  intro rd fu ds η0 n0 fr ms mw h n w a x KN KX KR QA H0 hrd hx hk hq
  exact wpIn_ret (hq .ret fr ms h n a w mw H0 (fun _ => ⟨rfl, rfl⟩) hx)
theorem code_label {l : Nat} : CodeOK (.label l) e nt := by
  intro rd fu ds η0 n0 fr ms mw h n w a x KN KX KR QA H0 hrd hx hk hq
  exact wpIn_label (hq .normal fr ms h n a w mw H0 (fun _ => ⟨rfl, rfl⟩) hx)
theorem code_scope {c : Code} (hc : CodeOK c e nt) : CodeOK (.scope c) e nt := by
  intro rd fu ds η0 n0 fr ms mw h n w a x KN KX KR QA H0 hrd hx hk hq
  refine wpIn_scope (hc H0 hrd (hx : x = codeE c e nt fr ms h n KN KX KR) hk fun ex fr' ms' h' n' a' w' mw' H1 hms hka => ?_)
  cases ex with
  | goto l => exact False.elim hka
  | _ => exact hq _ _ _ _ _ _ _ _ H1 hms hka
end
end Go.Ev
namespace Go.Ev
open Go Go.Vc
section
variable {η η' η0 : Eta} {h h' : H} {n n' n0 nt fu : Nat} {w w' : World} {e : Env} {fr fr' : F} {vf : Fr} {x : Ans} {rd : Option Nat} {ds : List Deferred}
theorem onLp_ok {o : VO} {K : Nat → F → List Nat → Code → Code → Nat → Nat → Nat → Ans} (h : (onLp o K).ok) : ∃ nt fr ps a b st pend D, o = .lp nt fr ps a b st pend D ∧ onLp o K = K nt fr ps a b st pend D := by
  cases o with
  | lp nt fr ps a b st pend D => exact ⟨nt, fr, ps, a, b, st, pend, D, rfl, rfl⟩
  | _ => exact False.elim h
theorem jmpE_ok {st pend : Nat} {KN KR : Ans} {KX : Nat → Ans} (h : (jmpE st pend KN KR KX).ok) : (st = 0 ∧ pend = 0 ∧ jmpE st pend KN KR KX = KN) ∨ (st = 2 ∧ pend = 1 ∧ jmpE st pend KN KR KX = KR) ∨ ∃ id, st = 2 ∧ pend = id + 2 ∧ jmpE st pend KN KR KX = KX id := by
  unfold jmpE at h ⊢
  cases h0 : Nat.beq st 0 with
  | true =>
    rw [h0] at h
    obtain ⟨e1, e2⟩ := bA_ok (h : (bA (Nat.beq pend 0) KN (.no 288)).ok)
    exact .inl ⟨beq_t h0, beq_t e1, e2⟩
  | false =>
    rw [h0] at h
    obtain ⟨e1, e2⟩ := bA_ok (h : (bA (Nat.beq st 2) (bA (Nat.beq pend 1) KR (bA (Nat.ble 2 pend) (KX (Nat.sub pend 2)) (.no 289))) (.no 196)).ok)
    rw [show (bA false (bA (Nat.beq pend 0) KN (.no 288)) (bA (Nat.beq st 2) (bA (Nat.beq pend 1) KR (bA (Nat.ble 2 pend) (KX (Nat.sub pend 2)) (.no 289))) (.no 196))) = bA (Nat.beq st 2) (bA (Nat.beq pend 1) KR (bA (Nat.ble 2 pend) (KX (Nat.sub pend 2)) (.no 289))) (.no 196) from rfl] at h ⊢
    rw [e2] at h ⊢
    cases h1 : Nat.beq pend 1 with
    | true => exact .inr (.inl ⟨beq_t e1, beq_t h1, rfl⟩)
    | false =>
      rw [h1] at h
      obtain ⟨e3, e4⟩ := bA_ok (h : (bA (Nat.ble 2 pend) (KX (Nat.sub pend 2)) (.no 289)).ok)
      have := ble_t e3
      exact .inr (.inr ⟨pend - 2, beq_t e1, by omega, e4⟩)
theorem hasB_ok {g : Nat} (h : hasB g = true) : ∃ fn c, PP.funcs[g]? = some fn ∧ fn.body = some c := by
  unfold hasB at h
  split at h
  · rename_i fn hf
    split at h
    · rename_i c hc; exact ⟨fn, c, hf, hc⟩
    · cases h
  · cases h
theorem code_range (hN : NoNum PP) (hcall : CallOK e.call) {f : Operand} {ps : Array Tmp} {ca cb : Code} : CodeOK (.rangeFunc f ps ca cb) e nt := by
  intro rd fu ds η0 n0 fr ms mw h n w a x KN KX KR QA H0 hrd hx hk hq
  have hno : rd = none := Classical.byContradiction fun hh => by have := hrd hh; cases this
  subst hno
  obtain ⟨η, vf, hf, H1, hg, hm, hr⟩ := H0.ex
  have hx : x = bA (rfOk nt ps.toList ca cb) (evE fr f fun v => onFn v fun g fi cp => bA (hasB g) (newH e .dfd h n fun D h n => newH e (.lp nt fr ps.toList ca cb 0 0 D) h n fun l h n =>
    e.call e.B (.fn g fi cp) (.cv (.yld l) .nl) (fun _ h n => onLp (look e.B h l) fun _ _ _ _ _ st pend _ => wr e l .no h fun h => jmpE st pend (KN fr (D :: ms) h n) (KR fr (D :: ms) h n) fun i => KX i fr (D :: ms) h n) h n) (.no 287)) (.no 197) := hx
  have hk' := hk
  rw [hx] at hk'
  obtain ⟨e1, e2⟩ := bA_ok hk'
  rw [e2] at hk'
  obtain ⟨v, va, e3, e4, e5⟩ := evE_ok hf hk'
  rw [e3] at hk'
  obtain ⟨gf, fi, cp, rfl, e6⟩ := onFn_ok hk'
  rw [e6] at hk'
  obtain ⟨e7, e8⟩ := bA_ok hk'
  rw [e8] at hk'
  obtain ⟨fn, cd, hfn, hcd⟩ := hasB_ok e7
  obtain ⟨h1, e9, e10, e11⟩ := newH_ok hk'
  rw [e9] at hk'
  obtain ⟨h2, e12, e13, e14⟩ := newH_ok hk'
  rw [e12] at hk'
  have hx2 := hx.trans (e2.trans (e3.trans (e6.trans (e8.trans (e9.trans e12)))))
  simp only [R] at e5
  obtain ⟨fil, cal, hfi, hca, rfl⟩ := e5
  refine wpIn_rangeFunc ?_
  intro f0 hf0
  obtain ⟨rec, hrec⟩ : ∃ rec : LoopState → Option Code → Loop, rec = fun st pe => { state := st, pending := pe, fn := f0, tmps := a.tmps, params := ps, assign := ca, body := cb, defers := w.heap.size } := ⟨_, rfl⟩
  have n1 : New w (.deferred (some [])) w.heap.size (w.alloc (.deferred (some []))) := ⟨rfl, rfl⟩
  have n2 : New (w.alloc (.deferred (some []))) (.loop (rec .ready none)) (w.heap.size + 1) ((w.alloc (.deferred (some []))).alloc (.loop (rec .ready none))) := ⟨by simp, rfl⟩
  have he1 := H1.ext (addE'_grow η (w.heap.size, 0) e10)
  have H2 := H1.new e10 e11 n1.chg (Nat.le_refl _) (o := .dfd) ⟨w.heap.size, 0, addE'_self _ _ _, n1.blk⟩
  have hD : addE' η n (w.heap.size, 0) n = some (w.heap.size, 0) := addE'_self _ _ _
  have hg2 := addE'_grow (addE' η n (w.heap.size, 0)) (w.heap.size + 1, 0) e13
  have he2 := H2.ext hg2
  have H3 := H2.new e13 e14 n2.chg (by simp) (o := .lp nt fr ps.toList ca cb 0 0 n) ⟨w.heap.size + 1, 0, w.heap.size, 0, f0, a.tmps, vf, addE'_self _ _ _, he2 _ _ hD, by
    rw [n2.blk, hrec]; simp [stOf, pendOf], (hf.mono he1).mono he2, ⟨hr.size, rfl, hr.val⟩, e1⟩
  have hl : addE' (addE' η n (w.heap.size, 0)) (n + 1) (w.heap.size + 1, 0) (n + 1) = some (w.heap.size + 1, 0) := addE'_self _ _ _
  have hg3 : Grow η (addE' (addE' η n (w.heap.size, 0)) (n + 1) (w.heap.size + 1, 0)) n (n + 1 + 1) e.B.m := (addE'_grow η (w.heap.size, 0) e10).trans hg2
  have he3 := H1.ext hg3
  generalize addE' (addE' η n (w.heap.size, 0)) (n + 1) (w.heap.size + 1, 0) = ηa at H3 hl hg3 he3 he2
  have hD3 : ηa n = some (w.heap.size, 0) := he2 _ _ hD
  have hc := hcall (fv := .func (.func gf) fil.toArray cal.toArray) (vs := [.func (.yield (w.heap.size + 1)) #[] #[]]) H3 (by simp only [R]; exact ⟨fil, cal, hfi.mono he3, hca.mono he3, rfl⟩) (.cv (by simp only [R]; exact ⟨_, _, hl, rfl⟩) .nl) hk'
  simp only [CallX, hfn, hcd] at hc
  have hrun := hc.run
  have hla : fil.toArray.toList ++ [Value.func (.yield (w.heap.size + 1)) #[] #[]] ++ cal.toArray.toList = fil ++ [Value.func (.yield (w.heap.size + 1)) #[] #[]] ++ cal := by simp
  rw [hla] at hrun
  have h1' := call_run (args := (fil ++ [Value.func (.yield (w.heap.size + 1)) #[] #[]] ++ cal).toArray) (w := (w.alloc (.deferred (some []))).alloc (.loop (rec .ready none))) hN hfn hcd
  have ea : fil.toArray ++ #[Value.func (.yield (w.heap.size + 1)) #[] #[]] ++ cal.toArray = (fil ++ [Value.func (.yield (w.heap.size + 1)) #[] #[]] ++ cal).toArray := by
    apply Array.toList_inj.1; simp
  refine ⟨w.heap.size + 1, [{ target := .collected w.heap.size, args := #[] }], (w.alloc (.deferred (some []))).alloc (.loop (rec .ready none)), { target := .fn (.func gf) cal.toArray, args := fil.toArray ++ #[Value.func (.yield (w.heap.size + 1)) #[] #[]] }, (w.alloc (.deferred (some []))).alloc (.loop (rec .ready none)), gf, _, (w.alloc (.deferred (some []))).alloc (.loop (rec .ready none)), ?_, ?_, fun f' _ => W_fn _ _, ?_, fun hd => by simp [W_depth] at hd, (callsIn_W hrun).mono ?_⟩
  · rw [hrec]; exact run_enterLoop_outer (P := PP) _ _ _ _ _
  · simp only [resolve, hr.ev e4]
    simp [go_sem]
  · simp only [invoke, ea, h1']
  rintro en w3 ⟨rv, rfl, η', h', n', g1, g2, v', g3, -⟩
  have href : Ref nt (mkM (w.heap.size :: mw) ds) vf { a with defers := [{ target := .collected w.heap.size, args := #[] }] ++ a.defers } := ⟨hr.size, by show _ ++ a.defers = _; rw [hr.defers]; rfl, hr.val⟩
  have hx3 := hx2.trans g3
  have hx3 : x = onLp (look e.B h' (n + 1)) fun _ _ _ _ _ st pend _ => wr e (n + 1) .no h' fun h => jmpE st pend (KN fr (n :: ms) h n') (KR fr (n :: ms) h n') fun i => KX i fr (n :: ms) h n' := hx3
  have hk3 := hk
  rw [hx3] at hk3
  obtain ⟨nt4, fr4, ps4, a4, b4, st, pend, D4, ho, f1⟩ := onLp_ok (o := look e.B h' (n + 1)) hk3
  rw [f1] at hk3
  obtain ⟨h4, f2, f3, f4⟩ := wr_ok hk3
  have hx4 := hx3.trans (f1.trans f2)
  have he4 := H3.ext g2
  have hob := g1.obj (n + 1)
  rw [ho] at hob
  obtain ⟨bl, ul, DB, ud, f5, tm, vf5, p1, p2, p3, -, -⟩ := hob
  rw [he4 _ _ hl] at p1
  cases p1
  have hend : ∀ (hs : stOf st ≠ .busy), (Instr.endLoop (w.heap.size + 1)).run PP w3 = .ok (pendOf pend) _ := fun hs => run_endLoop (P := PP) p3 hs
  have H4 : Rel η' e.B h4 n' (w3.putObj (w.heap.size + 1) (.loop { state := .exhausted, pending := pendOf pend, fn := f5, tmps := tm, params := ps4.toArray, assign := a4, body := b4, defers := DB })) := by
    refine g1.upd (o := .no) f3 f4 trivial (S := [w.heap.size + 1]) (Vc.setB_chg w3 (w.heap.size + 1) _) (fun k' b c hne hn hb hmem => ?_) (fun hh => absurd rfl hh) fun b hm => ?_
    · simp at hmem
      subst hmem
      exact hne (g1.inj k' (n + 1) _ c 0 hn (by rw [ho]; intro hh; cases hh) hb (he4 _ _ hl))
    · rw [List.mem_singleton.1 hm]
      exact g1.young (n + 1) _ 0 (by rw [ho]; intro hh; cases hh) (he4 _ _ hl)
  have hgg := hg.trans (hg3.trans g2)
  have hme := hm.mono (he3.trans he4)
  have hhere : Here η0 n0 e.B nt ds fr (n :: ms) h4 n' { a with defers := [{ target := .collected w.heap.size, args := #[] }] ++ a.defers } (w3.putObj (w.heap.size + 1) (.loop { state := .exhausted, pending := pendOf pend, fn := f5, tmps := tm, params := ps4.toArray, assign := a4, body := b4, defers := DB })) (w.heap.size :: mw) :=
    ⟨η', vf, (hf.mono he3).mono he4, H4, hgg, ⟨w.heap.size, 0, mw, he4 _ _ hD3, hme, rfl⟩, href⟩
  have hk4 := hk
  rw [hx4] at hk4
  rcases jmpE_ok hk4 with ⟨rfl, rfl, j1⟩ | ⟨rfl, rfl, j1⟩ | ⟨id, rfl, rfl, j1⟩
  · exact ⟨none, _, hend (by simp [stOf]), hq .normal _ _ _ _ _ _ _ hhere (fun hh => by cases hh) (hx4.trans j1)⟩
  · exact ⟨some .ret, _, hend (by simp [stOf]), wpIn_ret (hq .ret _ _ _ _ _ _ _ hhere (fun hh => by cases hh) (hx4.trans j1))⟩
  · exact ⟨some (.exit id), _, hend (by simp [stOf]), wpIn_exit (hq (.exit id) _ _ _ _ _ _ _ hhere (fun hh => by cases hh) (hx4.trans j1))⟩
theorem code_ok (hN : NoNum PP) (hcall : CallOK e.call) : ∀ c : Code, CodeOK c e nt := by
  intro c
  induction c with
  | skip => exact code_skip
  | region id ops draw => exact code_region hN hcall
  | seq c d hc hd => exact code_seq hc hd
  | cond v c d hc hd => exact code_cond hc hd
  | block id c hc => exact code_block hc
  | loop c hc => exact code_loop hc
  | rangeFunc f ps ca cb _ _ => exact code_range hN hcall
  | exit id => exact code_exit
  | scope c hc => exact code_scope hc
  | label l => exact code_label
  | goto l =>
    intro rd fu ds η0 n0 fr ms mw h n w a x KN KX KR QA H0 hrd hx hk hq
    rw [hx] at hk; exact False.elim hk
  | ret => exact code_ret
  | refuse s =>
    intro rd fu ds η0 n0 fr ms mw h n w a x KN KX KR QA H0 hrd hx hk hq
    rw [hx] at hk; exact False.elim hk
end
end Go.Ev
namespace Go.Ev
open Go Go.Vc
section
variable {η η' η0 : Eta} {B : Base} {h h' : H} {n n' n0 nt fu : Nat} {w w' : World} {e : Env} {fr fr' : F} {vf : Fr} {x : Ans} {rd : Option Nat} {ds : List Deferred} {a : Act}
theorem resE_ok (hf : FrR η fr vf) (H0 : Rel η e.B h n w) (hr : Ref nt ds vf a) : ∀ {rs : List ResultVar} {K : CV → Ans}, (resE rs e fr h K).ok →
    ∃ c l, resE rs e fr h K = K c ∧ RC η c l ∧ l.length = rs.length ∧ (rs.mapM (m := Sem) fun
      | .tmp t => pure (a.tmps.getD t undef)
      | .cell x t => do loadVar t (← asAddr (a.tmps.getD x undef))).run PP w = .ok l w
  | [], K, h => ⟨.nl, [], rfl, .nl, rfl, rfl⟩
  | .tmp t :: r, K, hk => by
    have e0 : resE (.tmp t :: r) e fr h K = getF t fr fun v => resE r e fr h fun c => K (.cv v c) := rfl
    rw [e0] at hk ⊢
    obtain ⟨v, e1, e2⟩ := getF_ok hk
    rw [e2] at hk ⊢
    obtain ⟨y, e3, e4⟩ := hf.val t v e1
    obtain ⟨c, l, g1, g2, g3, g4⟩ := resE_ok hf H0 hr hk
    refine ⟨.cv v c, y :: l, g1, .cv e4 g2, by simp [g3], ?_⟩
    have hv' := hr.val t y e3
    simp only [List.mapM_cons, Sem.run_bind, Sem.run_pure, Result.andThen_ok, g4]
    simp [Array.getD_eq_getD_getElem?, hv']
  | .cell y t :: r, K, hk => by
    have e0 : resE (.cell y t :: r) e fr h K = getF y fr fun p => loadE e h (piE PP t) p fun v => resE r e fr h fun c => K (.cv v c) := rfl
    rw [e0] at hk ⊢
    obtain ⟨p, e1, e2⟩ := getF_ok hk
    rw [e2] at hk ⊢
    obtain ⟨pa, e3, e4⟩ := hf.val y p e1
    obtain ⟨v, z, ad, e5, e6, rfl, hld⟩ := loadE_ok H0 rfl e4 hk
    rw [e5] at hk ⊢
    obtain ⟨c, l, g1, g2, g3, g4⟩ := resE_ok hf H0 hr hk
    refine ⟨.cv v c, z :: l, g1, .cv e6 g2, by simp [g3], ?_⟩
    have hx' := hr.val y _ e3
    have hld' : (loadVar t ad).run PP w = .ok z w := hld
    have e7 : (do loadVar t (← asAddr (a.tmps.getD y undef)) : Sem Value).run PP w = .ok z w := by
      simp [Array.getD_eq_getD_getElem?, hx', asAddr, hld']
    rw [List.mapM_cons, Sem.run_bind]
    simp only [e7, Result.andThen_ok, Sem.run_bind, g4, Sem.run_pure]
noncomputable def onRes (c : CV) (K : VV → Ans) : Ans := C.rec (motive := fun _ => Ans) (K (.tup .nl)) (fun _ _ _ _ => .no 201) (fun v r _ => C.rec (motive := fun _ => Ans) (K v) (fun _ _ _ _ => .no 202) (fun _ _ _ => K (.tup c)) r) c
def resOf : List Value → Value
  | [v] => v
  | l => .tuple l.toArray
theorem onRes_ok {K : VV → Ans} : ∀ {c : CV} {l : List Value}, RC η c l → (onRes c K).ok → ∃ v, onRes c K = K v ∧ R η v (resOf l)
  | .nl, l, hc, hk => by
    have hc := hc.nl_inv
    subst hc
    exact ⟨_, rfl, by simp only [R, resOf]; exact ⟨[], .nl, rfl⟩⟩
  | .cb _ _ _, l, hc, hk => False.elim hk
  | .cv v .nl, l, hc, hk => by
    obtain ⟨a, q, h1, h2, rfl⟩ := hc.cv_inv
    have h2 := h2.nl_inv
    subst h2
    exact ⟨v, rfl, h1⟩
  | .cv v (.cb _ _ _), l, hc, hk => False.elim hk
  | .cv v (.cv u r), l, hc, hk => by
    have hc0 := hc
    obtain ⟨a, q, h1, h2, rfl⟩ := hc.cv_inv
    obtain ⟨b, q', h3, h4, rfl⟩ := h2.cv_inv
    exact ⟨_, rfl, by simp only [R, resOf]; exact ⟨_, hc0, rfl⟩⟩
theorem results_run {fn : Func} {l : List Value} (hrun : (fn.results.toList.mapM (m := Sem) fun
      | .tmp t => pure (a.tmps.getD t undef)
      | .cell x t => do loadVar t (← asAddr (a.tmps.getD x undef))).run PP w = .ok l w) : (results fn a.tmps).run PP w = .ok (resOf l) w := by
  have hm : (fn.results.mapM (m := Sem) fun
      | .tmp t => pure (a.tmps.getD t undef)
      | .cell x t => do loadVar t (← asAddr (a.tmps.getD x undef))).run PP w = .ok l.toArray w := by
    rw [Array.mapM_eq_mapM_toList]
    simp only [Sem.run_map, hrun, Result.andThen_ok]
  unfold results
  rw [Sem.run_bind]
  refine (congrArg (fun r => Result.andThen r _) hm).trans ?_
  match l with
  | [v] => rfl
  | [] => rfl
  | _ :: _ :: _ =>
    simp only [List.size_toArray, List.length_cons, Result.andThen_ok, resOf]
    rw [dif_neg (by omega)]
    rfl
theorem end_ok {F : Fence} {fn : Func} {K : KV} (hf : FrR η fr vf) (hr : Ref nt ds vf a) : ∀ {ms mw : List Nat} {h : H} {w : World}, Rel η e.B h n w → Grow η0 η n0 n e.B.m → MsR η ms mw → x = endE fn e fr ms h n K → x.ok →
    LeavesInM F fu PP fn a.tmps (fun en w' => ∃ y, en = .returned y ∧ Aft η0 e.B n0 x K (fun _ _ => .no 0) (some y) w') (mkM mw []) .returning w
  | [], mw, h, w, H0, hg, hm, hx, hk => by
    have hm : mw = [] := hm
    subst hm
    have hx : x = resE fn.results.toList e fr h fun c => onRes c fun v => K v h n := hx
    have hk' := hk
    rw [hx] at hk'
    obtain ⟨c, l, g1, g2, g3, g4⟩ := resE_ok hf H0 hr hk'
    rw [g1] at hk'
    obtain ⟨v, g5, g6⟩ := onRes_ok g2 hk'
    exact ⟨resOf l, results_run g4, resOf l, rfl, η, h, n, H0, hg, v, hx.trans (g1.trans g5), g6⟩
  | D :: r, mw, h, w, H0, hg, hm, hx, hk => by
    obtain ⟨b, u, q, hD, hq, rfl⟩ := hm
    have hx : x = VO.rec (motive := fun _ => Ans) (.no 200) (fun _ _ => .no 200) (fun _ _ _ => .no 200) (fun _ _ => .no 200) (fun _ _ _ => .no 200) (.no 200) (fun _ _ _ _ _ _ _ _ => .no 200) (wr e D .no h fun h => endE fn e fr r h n K) (look e.B h D) := hx
    have hob := H0.obj D
    cases ho : look e.B h D with
    | dfd =>
      rw [ho] at hx hob
      obtain ⟨b', u', p1, p2⟩ := hob
      rw [hD] at p1; cases p1
      have hx : x = wr e D .no h fun h => endE fn e fr r h n K := hx
      have hk' := hk
      rw [hx] at hk'
      obtain ⟨h', g1, g2, g3⟩ := wr_ok hk'
      have H1 : Rel η e.B h' n (w.putObj b (.deferred none)) := by
        refine H0.upd (o := .no) g2 g3 trivial (S := [b]) (Vc.setB_chg w b _) (fun k' b' c hne hn hb hmem => ?_) (fun hh => absurd rfl hh) fun b' hm => ?_
        · simp at hmem
          subst hmem
          exact hne (H0.inj k' D _ c _ hn (by rw [ho]; intro hh; cases hh) hb hD)
        · rw [List.mem_singleton.1 hm]
          exact H0.young D _ _ (by rw [ho]; intro hh; cases hh) hD
      exact ⟨by simp, .inl ⟨b, _, rfl, run_takeDeferred p2, end_ok hf hr H1 hg hq (hx.trans g1) hk⟩⟩
    | _ => rw [ho] at hx; rw [hx] at hk; exact False.elim hk
theorem argFr_at : ∀ {l : List Value} {i j : Nat} {y : Value}, l[j]? = some y → fget (argFr i l) (i + j) = some y
  | x :: r, i, 0, y, h => by
    simp at h; subst h
    exact fget_hit ..
  | x :: r, i, j + 1, y, h => by
    show fget ((i, some x) :: argFr (i + 1) r) (i + (j + 1)) = _
    rw [fget_miss _ _ _ _ (by omega), show i + (j + 1) = i + 1 + j by omega]
    exact argFr_at (by simpa using h)
theorem argF_ok : ∀ {c : CV} {l : List Value} {i : Nat} {fr : F} {K : F → Ans}, RC η c l → (argF c i fr K).ok → ∃ fr', argF c i fr K = K fr' ∧ ∀ t v, gF t fr' = .v v → (∃ j y, t = i + j ∧ l[j]? = some y ∧ R η v y) ∨ gF t fr = .v v
  | .nl, l, i, fr, K, hc, hk => ⟨fr, rfl, fun t v h => .inr h⟩
  | .cb _ _ _, l, i, fr, K, hc, hk => False.elim hk
  | .cv v r, l, i, fr, K, hc, hk => by
    obtain ⟨a, q, h1, h2, rfl⟩ := hc.cv_inv
    have e0 : argF (.cv v r) i fr K = setF i fr v fun fr => fN (Nat.add i 1) fun i => argF r i fr K := rfl
    rw [e0] at hk ⊢
    obtain ⟨fr1, e1, e2, e3⟩ := setF_ok hk
    rw [e1, fN_eq] at hk
    obtain ⟨fr2, e4, e5⟩ := argF_ok (i := i + 1) h2 hk
    refine ⟨fr2, e1.trans ((fN_eq _ _).trans e4), fun t u hu => ?_⟩
    rcases e5 t u hu with ⟨j, y, rfl, hj, hR⟩ | hu
    · exact .inl ⟨j + 1, y, by omega, by simpa using hj, hR⟩
    · rw [e3] at hu
      by_cases ht : t = i
      · rw [if_pos ht] at hu
        cases hu
        exact .inl ⟨0, a, by omega, by simp, h1⟩
      · rw [if_neg ht] at hu
        exact .inr hu
theorem body_ok (hN : NoNum PP) (hcall : CallOK e.call) {f : FuncId} {fn : Func} {c : Code} (hfn : PP.funcs[f]? = some fn) (hb : fn.body = some c) {args : CV} {l : List Value} (H0 : Rel η e.B h n w) (ha : RC η args l) {K : KV} (hx : x = bodyE fn c e args K h n) (hk : x.ok) :
    Calls PP f l.toArray w fun en w' => ∃ y, en = .returned y ∧ Aft η e.B n x K (fun _ _ => .no 0) (some y) w' := by
  have hx : x = bA (Nat.ble fn.ntmps 256) (lenC args 0 fun k => bA (Nat.ble k fn.ntmps) (argF args 0 .e fun fr => codeE c e fn.ntmps fr [] h n (fun fr ms h n => endE fn e fr ms h n K) (fun _ _ _ _ _ => .no 214) (fun fr ms h n => endE fn e fr ms h n K)) (.no 215)) (.no 216) := hx
  have hk' := hk
  rw [hx] at hk'
  obtain ⟨e1, e2⟩ := bA_ok hk'
  rw [e2, lenC_eq ha] at hk'
  obtain ⟨e3, e4⟩ := bA_ok hk'
  rw [e4] at hk'
  obtain ⟨fr, e5, e6⟩ := argF_ok ha hk'
  have hx2 := hx.trans (e2.trans ((lenC_eq ha).trans (e4.trans e5)))
  have hlen : decide (l.length ≤ fn.ntmps) = true := by
    have := ble_t e3
    rw [Nat.zero_add] at this
    exact decide_eq_true this
  have hf : FrR η fr (argFr 0 l) := ⟨fun t v ht => by
    rcases e6 t v ht with ⟨j, y, rfl, hj, hR⟩ | hu
    · exact ⟨y, argFr_at hj, hR⟩
    · rw [gF_e] at hu; cases hu⟩
  have hr := ref_args hlen
  refine (callsIn_wide (n := 0)).1 (callsIn_of_wp_marks hfn hb trivial ?_ rfl)
  refine code_ok hN hcall c (rd := none) (ds := []) (η0 := η) (n0 := n) (ms := []) (mw := []) ⟨η, argFr 0 l, hf, H0, Grow.refl _ _ _, rfl, hr⟩ (fun h => absurd rfl h) hx2 hk fun ex fr' ms' h' n' a' w' mw' H1 hms hka => ?_
  obtain ⟨η', vf', g1, g2, g3, g4, g5⟩ := H1.ex
  cases ex with
  | normal =>
    show LeavesInM _ _ _ _ _ _ a'.defers _ _
    rw [g5.defers]; exact end_ok g1 g5 g2 g3 g4 hka hk
  | ret =>
    show LeavesInM _ _ _ _ _ _ a'.defers _ _
    rw [g5.defers]; exact end_ok g1 g5 g2 g3 g4 hka hk
  | exit i =>
    have hka : x = .no 214 := hka
    rw [hka] at hk; exact False.elim hk
  | _ => exact False.elim hka
end
end Go.Ev
namespace Go.Ev
open Go Go.Vc
section
variable {η η' η0 : Eta} {B : Base} {h h' : H} {n n' n0 nt fu : Nat} {w w' : World} {e : Env} {fr fr' : F} {vf : Fr} {x : Ans} {rd : Option Nat} {ds : List Deferred} {a : Act}
theorem setPs_ok : ∀ {ps : List Nat} {c : CV} {l : List Value} {vf : Fr} {fr : F} {K : F → Ans}, RC η c l → FrR η fr vf → (setPs ps c fr K).ok →
    ∃ fr', setPs ps c fr K = K fr' ∧ l.length = ps.length ∧ ∀ t v, gF t fr' = .v v → (∃ (j : Nat) (y : Value), ps[j]? = some t ∧ l[j]? = some y ∧ R η v y) ∨ (t ∉ ps ∧ gF t fr = .v v)
  | [], c, l, vf, fr, K, hc, hf, hk => by
    have e0 : setPs [] c fr K = C.rec (motive := fun _ => Ans) (K fr) (fun _ _ _ _ => .no 204) (fun _ _ _ => .no 205) c := rfl
    rw [e0] at hk ⊢
    cases c with
    | nl =>
      have := hc.nl_inv
      subst this
      exact ⟨fr, rfl, rfl, fun t v h => .inr ⟨by simp, h⟩⟩
    | cb _ _ _ => exact False.elim hk
    | cv _ _ => exact False.elim hk
  | p :: r, c, l, vf, fr, K, hc, hf, hk => by
    have e0 : setPs (p :: r) c fr K = C.rec (motive := fun _ => Ans) (.no 206) (fun _ _ _ _ => .no 206) (fun v q _ => setF p fr v fun fr => setPs r q fr K) c := rfl
    rw [e0] at hk ⊢
    cases c with
    | nl => exact False.elim hk
    | cb _ _ _ => exact False.elim hk
    | cv v q =>
      obtain ⟨a, l', h1, h2, rfl⟩ := hc.cv_inv
      have hk : (setF p fr v fun fr => setPs r q fr K).ok := hk
      obtain ⟨fr1, e1, e2, e3⟩ := setF_ok hk
      rw [e1] at hk
      obtain ⟨fr2, e4, e5, e6⟩ := setPs_ok h2 (hf.put h1 e3) hk
      refine ⟨fr2, (e1.trans e4 : _), by simp [e5], fun t u hu => ?_⟩
      rcases e6 t u hu with ⟨j, y, g1, g2, g3⟩ | ⟨hnr, hu⟩
      · exact .inl ⟨j + 1, y, by simpa using g1, by simpa using g2, g3⟩
      · rw [e3] at hu
        by_cases ht : t = p
        · rw [if_pos ht] at hu
          cases hu
          exact .inl ⟨0, a, by simp [ht], by simp, h1⟩
        · rw [if_neg ht] at hu
          exact .inr ⟨by simp [ht, hnr], hu⟩
theorem kv_get : ∀ {kv : List (Nat × Value)} {t : Nat} {y : Value} {j : Nat}, (kv.map (·.1)).Nodup → kv[j]? = some (t, y) → fget (kv.map (fun p => (p.1, some p.2)) ++ vf) t = some y
  | (k, u) :: r, t, y, 0, hn, hj => by
    simp at hj
    obtain ⟨rfl, rfl⟩ := hj
    exact fget_hit ..
  | (k, u) :: r, t, y, j + 1, hn, hj => by
    rw [List.map_cons, List.nodup_cons] at hn
    have hj : r[j]? = some (t, y) := by simpa using hj
    have hne : t ≠ k := fun e => hn.1 (List.mem_map.2 ⟨(t, y), List.mem_of_getElem? hj, e⟩)
    show fget ((k, some u) :: _) t = _
    rw [fget_miss _ _ _ _ hne]
    exact kv_get hn.2 hj
theorem kv_miss : ∀ {kv : List (Nat × Value)} {t : Nat}, t ∉ kv.map (·.1) → fget (kv.map (fun p => (p.1, some p.2)) ++ vf) t = fget vf t
  | [], t, _ => rfl
  | (k, u) :: r, t, h => by
    rw [List.map_cons, List.mem_cons, not_or] at h
    show fget ((k, some u) :: _) t = _
    rw [fget_miss _ _ _ _ h.1]
    exact kv_miss h.2
theorem round_frame {ps : List Nat} {c : CV} {l : List Value} {K : F → Ans} {tm : Array Value} {ca cb : Code} (hc : RC η c l) (hf : FrR η fr vf) (hr : Ref nt [] vf { tmps := tm, defers := [] }) (hp : rfOk nt ps ca cb = true) (hk : (setPs ps c fr K).ok) :
    ∃ fr' vf', setPs ps c fr K = K fr' ∧ l.length = ps.length ∧ FrR η fr' vf' ∧ Ref nt [] vf' { tmps := (ps.toArray.zip l.toArray).foldl (fun t (p, v) => t.setIfInBounds p v) tm, defers := [] } := by
  obtain ⟨fr', e1, e2, e3⟩ := setPs_ok hc hf hk
  have hp : (noRF ca && noRF cb && nodupB ps && ps.all (Nat.blt · nt)) = true := hp
  simp only [Bool.and_eq_true] at hp
  obtain ⟨⟨⟨-, -⟩, hn⟩, hall⟩ := hp
  have hn := nodup_of hn
  have hkeys : (ps.zip l).map (·.1) = ps := List.map_fst_zip (by omega)
  refine ⟨fr', (ps.zip l).map (fun p => (p.1, some p.2)) ++ vf, e1, e2, ⟨fun t v ht => ?_⟩, ?_, rfl, ?_⟩
  · rcases e3 t v ht with ⟨j, y, g1, g2, g3⟩ | ⟨g1, g2⟩
    · refine ⟨y, kv_get (j := j) (by rw [hkeys]; exact hn) ?_, g3⟩
      rw [List.getElem?_zip_eq_some]
      exact ⟨g1, g2⟩
    · obtain ⟨y, g3, g4⟩ := hf.val t v g2
      exact ⟨y, by rw [kv_miss (by rw [hkeys]; exact g1)]; exact g3, g4⟩
  all_goals
    have ef : (ps.toArray.zip l.toArray).foldl (fun t (p, v) => t.setIfInBounds p v) tm = (ps.zip l).foldl (fun t p => t.setIfInBounds p.1 p.2) tm := by
      rw [← Array.foldl_toList, Array.toList_zip]
  · show (_ : Array Value).size = nt
    rw [ef]
    have : ∀ (l : List (Nat × Value)) (tm : Array Value), (l.foldl (fun t p => t.setIfInBounds p.1 p.2) tm).size = tm.size := by
      intro l
      induction l with
      | nil => intro tm; rfl
      | cons x r ih => intro tm; rw [List.foldl_cons, ih]; simp
    rw [this]; exact hr.size
  · intro t v ht
    show ((ps.toArray.zip l.toArray).foldl (fun t (p, v) => t.setIfInBounds p v) tm)[t]? = some v
    rw [ef]
    rcases fold_get _ tm t v vf (by rw [hkeys]; exact hn) (fun k hkk => by
      rw [hkeys] at hkk
      have h1 := List.all_eq_true.1 hall k hkk
      have h2 : tm.size = nt := hr.size
      rw [h2]
      exact blt_t h1) ht with h4 | ⟨_, h5, h6⟩
    · exact h4
    · rw [h6]; exact hr.val t v h5
theorem wrL_ok (H0 : Rel η e.B h n w) {l bl u st pend : Nat} (hl : η l = some (bl, u)) {K : H → Ans} (hk : (wrL e l st pend h K).ok) :
    ∃ h' r, wrL e l st pend h K = K h' ∧ w.heap[bl]? = some (.loop r) ∧ Rel η e.B h' n (w.putObj bl (.loop { r with state := stOf st, pending := pendOf pend })) := by
  unfold wrL at hk ⊢
  obtain ⟨nt4, fr4, ps4, a4, b4, st4, pend4, D4, ho, f1⟩ := onLp_ok (o := look e.B h l) hk
  rw [f1] at hk ⊢
  obtain ⟨h4, f2, f3, f4⟩ := wr_ok hk
  have hob := H0.obj l
  rw [ho] at hob
  obtain ⟨b', u', DB, ud, f0, tm, vf, p1, p2, p3, p4, p5, p6⟩ := hob
  rw [hl] at p1
  cases p1
  refine ⟨h4, _, f2, p3, H0.put f3 hl (by rw [ho]; intro hh; cases hh) f4 (o := .lp nt4 fr4 ps4 a4 b4 st pend D4) ⟨bl, u, DB, ud, f0, tm, vf, hl, p2, ?_, p4, p5, p6⟩ (Vc.setB_chg w bl _)⟩
  exact Vc.setB_at (Array.getElem?_eq_some_iff.1 p3).1
theorem begL_ok (H0 : Rel η e.B h n w) {l bl u : Nat} (hl : η l = some (bl, u)) {K : H → Ans} (hk : (begL e l h K).ok) :
    ∃ h' r, begL e l h K = K h' ∧ w.heap[bl]? = some (.loop r) ∧ r.state = .ready ∧ Rel η e.B h' n (w.putObj bl (.loop { r with state := .busy })) := by
  unfold begL at hk ⊢
  obtain ⟨nt4, fr4, ps4, a4, b4, st4, pend4, D4, ho, f1⟩ := onLp_ok (o := look e.B h l) hk
  rw [f1] at hk ⊢
  obtain ⟨e1, e2⟩ := bA_ok hk
  rw [e2] at hk ⊢
  obtain ⟨e3, e4⟩ := bnd_t e1
  have e3 := beq_t e3
  have e4 := beq_t e4
  subst e3 e4
  obtain ⟨h4, f2, f3, f4⟩ := wr_ok hk
  have hob := H0.obj l
  rw [ho] at hob
  obtain ⟨b', u', DB, ud, f0, tm, vf, p1, p2, p3, p4, p5, p6⟩ := hob
  rw [hl] at p1
  cases p1
  refine ⟨h4, _, f2, p3, rfl, H0.put f3 hl (by rw [ho]; intro hh; cases hh) f4 (o := .lp nt4 fr4 ps4 a4 b4 1 0 D4) ⟨bl, u, DB, ud, f0, tm, vf, hl, p2, ?_, p4, p5, p6⟩ (Vc.setB_chg w bl _)⟩
  exact Vc.setB_at (Array.getElem?_eq_some_iff.1 p3).1
theorem yld_ok (hN : NoNum PP) {ih : CF} (hcall : CallOK ih) {l : Nat} {fv : Value} {args : CV} {vs : List Value} {K : KV} (H0 : Rel η B h n w) (hR : R η (.yld l) fv) (ha : RC η args vs) (hx : x = yldE ih l B args K h n) (hk : x.ok) :
    CallX PP fv vs w fun en w' => ∃ y, en = .returned y ∧ Aft η B n x K (fun _ _ => .no 0) (some y) w' := by
  simp only [R] at hR
  obtain ⟨bl, u, hl, rfl⟩ := hR
  unfold yldE at hx
  have hk' := hk
  rw [hx] at hk'
  obtain ⟨nt, fr, ps, ca, cb, st, pend, D, ho, f1⟩ := onLp_ok (o := look B h l) hk'
  rw [f1] at hk'
  obtain ⟨e1, e2⟩ := bA_ok hk'
  rw [e2] at hk'
  have hob := H0.obj l
  rw [ho] at hob
  obtain ⟨b', u', DB, ud, f0, tm, vf, p1, p2, p3, p4, p5, p6⟩ := hob
  rw [hl] at p1
  cases p1
  obtain ⟨fr', vf', e3, e4, e5, e6⟩ := round_frame ha p4 p5 p6 hk'
  have hx2 := hx.trans (f1.trans (e2.trans e3))
  have hrf : noRF ca = true ∧ noRF cb = true := by
    have hp : (noRF ca && noRF cb && nodupB ps && ps.all (Nat.blt · nt)) = true := p6
    simp only [Bool.and_eq_true] at hp
    exact hp.1.1
  show YieldV PP bl vs w _
  refine ⟨fun rd' n' => ?_⟩
  refine ⟨f0, _, ca, cb, run_yield (P := PP) p3 (by simp [e4]), roundIn_of_wpIn (W_fn _ _) ?_⟩
  refine code_ok (e := ⟨ih, B⟩) hN hcall ca (rd := some bl) (ds := []) (η0 := η) (n0 := n) (ms := []) (mw := []) ⟨η, vf', e5, H0, Grow.refl _ _ _, rfl, e6⟩ (fun _ => hrf.1) hx2 hk fun ex fr1 ms1 h1 n1 a1 w1 mw1 H1 hms hka => ?_
  obtain ⟨η1, vf1, g1, g2, g3, g4, g5⟩ := H1.ex
  obtain ⟨rfl, rfl⟩ := hms hrf.1
  cases ex with
  | normal =>
    have hka : x = begL ⟨ih, B⟩ l h1 fun h => codeE cb ⟨ih, B⟩ nt fr1 [] h n1 (fun _ _ h n => wrL ⟨ih, B⟩ l 0 0 h fun h => K (.bool true) h n) (fun i _ _ h n => wrL ⟨ih, B⟩ l 2 (Nat.add i 2) h fun h => K (.bool false) h n) (fun _ _ h n => wrL ⟨ih, B⟩ l 2 1 h fun h => K (.bool false) h n) := hka
    have hk1 := hk
    rw [hka] at hk1
    have hl1 : η1 l = some (bl, u) := H0.ext g3 _ _ hl
    obtain ⟨h2, r2, q1, q2, q3, q4⟩ := begL_ok (e := ⟨ih, B⟩) g2 hl1 hk1
    refine ⟨_, run_beginRound (P := PP) q2 q3, ?_⟩
    refine code_ok (e := ⟨ih, B⟩) hN hcall cb (rd := some bl) (ds := []) (η0 := η) (n0 := n) (ms := []) (mw := []) ⟨η1, vf1, g1, q4, g3, g4, g5⟩ (fun _ => hrf.2) (hka.trans q1) hk fun ex fr3 ms3 h3 n3 a3 w3 mw3 H3 hms3 hka3 => ?_
    obtain ⟨η3, vf3, k1, k2, k3, k4, k5⟩ := H3.ex
    have hl3 : η3 l = some (bl, u) := H0.ext k3 _ _ hl
    have hk3 := hk
    cases ex with
    | normal =>
      have hka3 : x = wrL ⟨ih, B⟩ l 0 0 h3 fun h => K (.bool true) h n3 := hka3
      rw [hka3] at hk3
      obtain ⟨h4, r4, s1, s2, s3⟩ := wrL_ok (e := ⟨ih, B⟩) k2 hl3 hk3
      exact ⟨_, _, run_endRound (P := PP) none s2, .bool true, rfl, η3, h4, n3, s3, k3, .bool true, hka3.trans s1, by simp only [R]⟩
    | ret =>
      have hka3 : x = wrL ⟨ih, B⟩ l 2 1 h3 fun h => K (.bool false) h n3 := hka3
      rw [hka3] at hk3
      obtain ⟨h4, r4, s1, s2, s3⟩ := wrL_ok (e := ⟨ih, B⟩) k2 hl3 hk3
      exact ⟨_, _, run_endRound (P := PP) (some .ret) s2, .bool false, rfl, η3, h4, n3, s3, k3, .bool false, hka3.trans s1, by simp only [R]⟩
    | exit i =>
      have hka3 : x = wrL ⟨ih, B⟩ l 2 (Nat.add i 2) h3 fun h => K (.bool false) h n3 := hka3
      rw [hka3] at hk3
      obtain ⟨h4, r4, s1, s2, s3⟩ := wrL_ok (e := ⟨ih, B⟩) k2 hl3 hk3
      exact ⟨_, _, run_endRound (P := PP) (some (.exit i)) s2, .bool false, rfl, η3, h4, n3, s3, k3, .bool false, hka3.trans s1, by simp only [R]⟩
    | _ => exact False.elim hka3
  | exit i =>
    have hka : x = .no 221 := hka
    rw [hka] at hk; exact False.elim hk
  | ret =>
    have hka : x = .no 222 := hka
    rw [hka] at hk; exact False.elim hk
  | _ => exact False.elim hka
end
end Go.Ev
namespace Go.Ev
open Go Go.Vc
section
variable {η η' η2 : Eta} {B : Base} {h h' : H} {n n' lo : Nat} {w w' : World} {ks : List Nat} {x : Ans}
theorem ESR.uni : ∀ {es : ES} {l q : List (Value × Value × Nat)}, ESR η es l → ESR η es q → l = q
  | .nl, l, q, h, h' => by
    have h : l = [] := h
    have h' : q = [] := h'
    rw [h, h']
  | .e k v j r, l, q, h, h' => by
    obtain ⟨x, y, i, c, l1, h1, h2, h3, h4, rfl⟩ := h
    obtain ⟨x', y', i', c', q1, p1, p2, p3, p4, rfl⟩ := h'
    rw [h3] at p3
    cases p3
    rw [R.uni h1 p1, R.uni h2 p2, ESR.uni h4 p4]
theorem SnR.uni : ∀ {s l q : List Nat}, SnR η s l → SnR η s q → l = q
  | [], l, q, h, h' => by
    have h : l = [] := h
    have h' : q = [] := h'
    rw [h, h']
  | j :: r, l, q, h, h' => by
    obtain ⟨i, c, l1, h1, h2, rfl⟩ := h
    obtain ⟨i', c', q1, p1, p2, rfl⟩ := h'
    rw [h1] at p1
    cases p1
    rw [SnR.uni h2 p2]
theorem ObjAt.back (he : Ext η η') {k : Nat} : ∀ {o : VO}, ObjAt η w k o → ObjAt η' w' k o → ObjAt η w' k o
  | .no, h, h' => trivial
  | .cells t c, h, h' => by
    obtain ⟨b, u, l, h1, h2, h3, h4⟩ := h
    obtain ⟨b', u', l', p1, p2, p3, p4⟩ := h'
    rw [he _ _ h1] at p1
    cases p1
    have e := RC.uni (h2.mono he) p2
    subst e
    exact ⟨b, u, l, h1, h2, p3, p4⟩
  | .own t m c, h, h' => by
    obtain ⟨b, u, l, sz, h1, h2, h3, h4, h5⟩ := h
    obtain ⟨b', u', l', sz', p1, p2, p3, p4, p5⟩ := h'
    rw [he _ _ h1] at p1
    cases p1
    have e := RC.uni (h2.mono he) p2
    subst e
    exact ⟨b, u, l, sz', h1, h2, p3, p4, p5⟩
  | .map ck es, h, h' => by
    obtain ⟨b, u, ents, l, s, h1, h2, h3, h4⟩ := h
    obtain ⟨b', u', ents', l', s', p1, p2, p3, p4⟩ := h'
    rw [he _ _ h1] at p1
    cases p1
    have e := ESR.uni (h3.mono he) p3
    subst e
    exact ⟨b, u, ents', l, s', h1, p2, h3, p4⟩
  | .iter b0 ck seen, h, h' => by
    obtain ⟨b, u, B0, u0, sn, h1, h2, h3, h4⟩ := h
    obtain ⟨b', u', B0', u0', sn', p1, p2, p3, p4⟩ := h'
    rw [he _ _ h1] at p1
    cases p1
    rw [he _ _ h2] at p2
    cases p2
    have e := SnR.uni (h4.mono he) p4
    rw [e] at h4
    exact ⟨b, u, B0, u0, sn', h1, h2, p3, h4⟩
  | .itn, h, h' => by
    obtain ⟨b, u, h1, h2⟩ := h
    obtain ⟨b', u', p1, p2⟩ := h'
    rw [he _ _ h1] at p1
    cases p1
    exact ⟨b, u, h1, p2⟩
  | .lp nt fr ps a bd st pend D, h, h' => by
    obtain ⟨b, u, DB, ud, f0, tm, vf, h1, h2, h3, h4, h5⟩ := h
    obtain ⟨b', u', DB', ud', f0', tm', vf', p1, p2, p3, p4, p5⟩ := h'
    rw [he _ _ h1] at p1
    cases p1
    rw [he _ _ h2] at p2
    cases p2
    refine ⟨b, u, DB, ud, f0', tm', vf', h1, h2, p3, ⟨fun t v ht => ?_⟩, p5⟩
    obtain ⟨y, e1, e2⟩ := h4.val t v ht
    obtain ⟨y', e3, e4⟩ := p4.val t v ht
    have e := R.uni (e2.mono he) e4
    subst e
    exact ⟨y, e3, e2⟩
  | .dfd, h, h' => by
    obtain ⟨b, u, h1, h2⟩ := h
    obtain ⟨b', u', p1, p2⟩ := h'
    rw [he _ _ h1] at p1
    cases p1
    exact ⟨b, u, h1, p2⟩
structure RenP (η η2 : Eta) (lo : Nat) (ks : List Nat) : Prop where
  low : ∀ k, k < lo → η2 k = η k
  new : ∀ i k, ks[i]? = some k → η2 (lo + i) = η k
noncomputable def renL (k : Nat) (K : Nat → Ans) (ks : List Nat) : Nat → Ans := List.rec (motive := fun _ => Nat → Ans) (fun _ => .no 211) (fun a _ ih i => bA (Nat.beq k a) (fN i K) (ih (Nat.add i 1))) ks
theorem renL_ok {k : Nat} {K : Nat → Ans} : ∀ {ks : List Nat} {i : Nat}, (renL k K ks i).ok → ∃ j, renL k K ks i = K (i + j) ∧ ks[j]? = some k
  | [], i, h => False.elim h
  | a :: r, i, h => by
    have e0 : renL k K (a :: r) i = bA (Nat.beq k a) (fN i K) (renL k K r (i + 1)) := rfl
    rw [e0] at h ⊢
    cases hb : Nat.beq k a with
    | true => exact ⟨0, fN_eq _ _, by rw [beq_t hb]; rfl⟩
    | false =>
      rw [hb] at h
      obtain ⟨j, e1, e2⟩ := renL_ok (ks := r) (i := i + 1) h
      exact ⟨j + 1, by rw [show i + (j + 1) = i + 1 + j by omega]; exact e1, e2⟩
theorem renN_ok (hr : RenP η η2 lo ks) {k : Nat} {K : Nat → Ans} (h : (renN lo ks k K).ok) : ∃ k', renN lo ks k K = K k' ∧ η2 k' = η k := by
  have e0 : renN lo ks k K = bA (Nat.blt k lo) (K k) (renL k K ks lo) := rfl
  rw [e0] at h ⊢
  cases hb : Nat.blt k lo with
  | true => exact ⟨k, rfl, hr.low _ (blt_t hb)⟩
  | false =>
    rw [hb] at h
    obtain ⟨j, e1, e2⟩ := renL_ok h
    exact ⟨lo + j, e1, hr.new _ _ e2⟩
noncomputable def renCv (lo : Nat) (ks : List Nat) (c : CV) (K : CV → Ans) : Ans := renV lo ks (.agg c) fun v => onAgg v K
mutual
theorem renV_ok (hr : RenP η η2 lo ks) : ∀ {v : VV} {K : VV → Ans}, (renV lo ks v K).ok → ∃ v', renV lo ks v K = K v' ∧ (∀ x, R η v x → R η2 v' x) ∧ (shp v ≠ 0 → v' = v)
  | .bool b, K, h => ⟨_, rfl, fun x hx => by simp only [R] at hx ⊢; exact hx, fun _ => rfl⟩
  | .int k n, K, h => ⟨_, rfl, fun x hx => by simp only [R] at hx ⊢; exact hx, fun _ => rfl⟩
  | .str n y, K, h => ⟨_, rfl, fun x hx => by simp only [R] at hx ⊢; exact hx, fun _ => rfl⟩
  | .nilp, K, h => ⟨_, rfl, fun x hx => by simp only [R] at hx ⊢; exact hx, fun _ => rfl⟩
  | .nils, K, h => ⟨_, rfl, fun x hx => by simp only [R] at hx ⊢; exact hx, fun _ => rfl⟩
  | .nilm, K, h => ⟨_, rfl, fun x hx => by simp only [R] at hx ⊢; exact hx, fun _ => rfl⟩
  | .nilf, K, h => ⟨_, rfl, fun x hx => by simp only [R] at hx ⊢; exact hx, fun _ => rfl⟩
  | .nili, K, h => ⟨_, rfl, fun x hx => by simp only [R] at hx ⊢; exact hx, fun _ => rfl⟩
  | .ptr k off, K, h => by
    have e0 : renV lo ks (.ptr k off) K = renN lo ks k fun k => K (.ptr k off) := rfl
    rw [e0] at h ⊢
    obtain ⟨k', e1, e2⟩ := renN_ok hr h
    refine ⟨_, e1, fun x hx => ?_, fun h => absurd rfl h⟩
    simp only [R] at hx ⊢
    rw [e2]; exact hx
  | .sl k off n c, K, h => by
    have e0 : renV lo ks (.sl k off n c) K = renN lo ks k fun k => K (.sl k off n c) := rfl
    rw [e0] at h ⊢
    obtain ⟨k', e1, e2⟩ := renN_ok hr h
    refine ⟨_, e1, fun x hx => ?_, fun h => absurd rfl h⟩
    simp only [R] at hx ⊢
    rw [e2]; exact hx
  | .sg k off l n, K, h => by
    have e0 : renV lo ks (.sg k off l n) K = renN lo ks k fun k => K (.sg k off l n) := rfl
    rw [e0] at h ⊢
    obtain ⟨k', e1, e2⟩ := renN_ok hr h
    refine ⟨_, e1, fun x hx => ?_, fun h => absurd rfl h⟩
    simp only [R] at hx ⊢
    rw [e2]; exact hx
  | .map k, K, h => by
    have e0 : renV lo ks (.map k) K = renN lo ks k fun k => K (.map k) := rfl
    rw [e0] at h ⊢
    obtain ⟨k', e1, e2⟩ := renN_ok hr h
    refine ⟨_, e1, fun x hx => ?_, fun h => absurd rfl h⟩
    simp only [R] at hx ⊢
    rw [e2]; exact hx
  | .yld k, K, h => by
    have e0 : renV lo ks (.yld k) K = renN lo ks k fun k => K (.yld k) := rfl
    rw [e0] at h ⊢
    obtain ⟨k', e1, e2⟩ := renN_ok hr h
    refine ⟨_, e1, fun x hx => ?_, fun h => absurd rfl h⟩
    simp only [R] at hx ⊢
    rw [e2]; exact hx
  | .gi k, K, h => by
    have e0 : renV lo ks (.gi k) K = renN lo ks k fun k => K (.gi k) := rfl
    rw [e0] at h ⊢
    obtain ⟨k', e1, e2⟩ := renN_ok hr h
    refine ⟨_, e1, fun x hx => ?_, fun h => absurd rfl h⟩
    simp only [R] at hx ⊢
    rw [e2]; exact hx
  | .fn f fi ca, K, h => by
    have e0 : renV lo ks (.fn f fi ca) K = renCv lo ks fi fun a => renCv lo ks ca fun b => K (.fn f a b) := rfl
    rw [e0] at h ⊢
    obtain ⟨a, e1, e2⟩ := renCv_ok hr h
    rw [e1] at h
    obtain ⟨b, e3, e4⟩ := renCv_ok hr h
    refine ⟨_, e1.trans e3, fun x hx => ?_, fun h => absurd rfl h⟩
    simp only [R] at hx ⊢
    obtain ⟨p, q, hp, hq, hx⟩ := hx
    exact ⟨p, q, e2 _ hp, e4 _ hq, hx⟩
  | .ifc t v, K, h => by
    have e0 : renV lo ks (.ifc t v) K = renV lo ks v fun v => K (.ifc t v) := rfl
    rw [e0] at h ⊢
    obtain ⟨v', e1, e2, -⟩ := renV_ok hr h
    refine ⟨_, e1, fun x hx => ?_, fun h => absurd rfl h⟩
    simp only [R] at hx ⊢
    obtain ⟨y, hy, hx⟩ := hx
    exact ⟨y, e2 _ hy, hx⟩
  | .agg c, K, h => by
    by_cases hs : shp (.agg c) = 0
    · have e0 : renV lo ks (.agg c) K = renCv lo ks c fun c => K (.agg c) := rfl
      rw [e0] at h ⊢
      obtain ⟨c', e1, e2⟩ := renCv_ok hr h
      refine ⟨_, e1, fun x hx => ?_, fun h => absurd hs h⟩
      simp only [R] at hx ⊢
      obtain ⟨l, hl, hx⟩ := hx
      exact ⟨l, e2 _ hl, hx⟩
    · rcases shp_ok rfl hs with ⟨kd, n, -, e⟩ | ⟨-, n, x, e⟩ | ⟨-, a, b, e⟩
      · cases e
      · cases e
      · cases e
        refine ⟨_, rfl, fun x hx => ?_, fun _ => rfl⟩
        have e := R.pair hx
        subst e
        simp only [R, RC]
        exact ⟨[.int .i64 a, .int .i64 b], ⟨_, _, rfl, ⟨_, _, rfl, rfl, rfl⟩, rfl⟩, by simp [Value.oneCell'], rfl⟩
  | .tup c, K, h => by
    have e0 : renV lo ks (.tup c) K = renCv lo ks c fun c => K (.tup c) := rfl
    rw [e0] at h ⊢
    obtain ⟨c', e1, e2⟩ := renCv_ok hr h
    refine ⟨_, e1, fun x hx => ?_, fun h => absurd rfl h⟩
    simp only [R] at hx ⊢
    obtain ⟨l, hl, hx⟩ := hx
    exact ⟨l, e2 _ hl, hx⟩
theorem renCv_ok (hr : RenP η η2 lo ks) : ∀ {c : CV} {K : CV → Ans}, (renCv lo ks c K).ok → ∃ c', renCv lo ks c K = K c' ∧ ∀ l, RC η c l → RC η2 c' l
  | .nl, K, h => ⟨.nl, rfl, fun l hl => by rw [hl.nl_inv]; exact .nl⟩
  | .cb n x r, K, h => by
    have e0 : renCv lo ks (.cb n x r) K = renCv lo ks r fun c => K (.cb n x c) := rfl
    rw [e0] at h ⊢
    obtain ⟨c', e1, e2⟩ := renCv_ok hr h
    refine ⟨_, e1, fun l hl => ?_⟩
    obtain ⟨q, hq, rfl⟩ := hl.cb_inv
    exact .cb (e2 _ hq)
  | .cv v r, K, h => by
    have e0 : renCv lo ks (.cv v r) K = renV lo ks v fun v => renCv lo ks r fun c => K (.cv v c) := rfl
    rw [e0] at h ⊢
    obtain ⟨v', e1, e2, -⟩ := renV_ok hr h
    rw [e1] at h
    obtain ⟨c', e3, e4⟩ := renCv_ok hr h
    refine ⟨_, e1.trans e3, fun l hl => ?_⟩
    obtain ⟨a, q, ha, hq, rfl⟩ := hl.cv_inv
    exact .cv (e2 _ ha) (e4 _ hq)
end
theorem renC_ok (hr : RenP η η2 lo ks) : ∀ {c : CV} {K : CV → Ans}, (renC lo ks c K).ok → ∃ c', renC lo ks c K = K c' ∧ ∀ l, RC η c l → RC η2 c' l
  | .nl, K, h => ⟨.nl, rfl, fun l hl => by rw [hl.nl_inv]; exact .nl⟩
  | .cb n x r, K, h => by
    have e0 : renC lo ks (.cb n x r) K = renC lo ks r fun c => K (.cb n x c) := rfl
    rw [e0] at h ⊢
    obtain ⟨c', e1, e2⟩ := renC_ok hr h
    refine ⟨_, e1, fun l hl => ?_⟩
    obtain ⟨q, hq, rfl⟩ := hl.cb_inv
    exact .cb (e2 _ hq)
  | .cv v r, K, h => by
    have e0 : renC lo ks (.cv v r) K = renV lo ks v fun v => renC lo ks r fun c => K (.cv v c) := rfl
    rw [e0] at h ⊢
    obtain ⟨v', e1, e2, -⟩ := renV_ok hr h
    rw [e1] at h
    obtain ⟨c', e3, e4⟩ := renC_ok hr h
    refine ⟨_, e1.trans e3, fun l hl => ?_⟩
    obtain ⟨a, q, ha, hq, rfl⟩ := hl.cv_inv
    exact .cv (e2 _ ha) (e4 _ hq)
theorem renE_ok (hr : RenP η η2 lo ks) : ∀ {es : ES} {K : ES → Ans}, (renE lo ks es K).ok → ∃ es', renE lo ks es K = K es' ∧ ∀ l s, s ≠ 0 → ESR η es l → Hom s es → ESR η2 es' l ∧ Hom s es'
  | .nl, K, h => ⟨.nl, rfl, fun l s _ hl _ => ⟨hl, trivial⟩⟩
  | .e k v j r, K, h => by
    have e0 : renE lo ks (.e k v j r) K = renV lo ks k fun k => renV lo ks v fun v => renN lo ks j fun j => renE lo ks r fun r => K (.e k v j r) := rfl
    rw [e0] at h ⊢
    obtain ⟨k', e1, e2, e9⟩ := renV_ok hr h
    rw [e1] at h
    obtain ⟨v', e3, e4, -⟩ := renV_ok hr h
    rw [e3] at h
    obtain ⟨j', e5, e6⟩ := renN_ok hr h
    rw [e5] at h
    obtain ⟨r', e7, e8⟩ := renE_ok hr h
    refine ⟨.e k' v' j' r', e1.trans (e3.trans (e5.trans e7)), fun l s h0 hl hh => ?_⟩
    obtain ⟨x, y, i, c, q, h1, h2, h3, h4, rfl⟩ := hl
    obtain ⟨hs, hh⟩ := hh
    obtain ⟨g1, g2⟩ := e8 _ _ h0 h4 hh
    have ek := e9 (by rw [hs]; exact h0)
    exact ⟨⟨x, y, i, c, q, e2 _ h1, e4 _ h2, e6.trans h3, g1, rfl⟩, by rw [ek]; exact hs, g2⟩
theorem renO_ok (hr : RenP η η2 lo ks) {o : VO} {K : VO → Ans} (h : (renO lo ks o K).ok) : ∃ o', renO lo ks o K = K o' ∧ (o' ≠ .no → o ≠ .no) ∧ ∀ k k', η2 k' = η k → ObjAt η w k o → ObjAt η2 w k' o' := by
  cases o with
  | no => exact ⟨.no, rfl, fun h => h, fun _ _ _ _ => trivial⟩
  | cells t c =>
    have e0 : renO lo ks (.cells t c) K = renC lo ks c fun c => K (.cells t c) := rfl
    rw [e0] at h ⊢
    obtain ⟨c', e1, e2⟩ := renC_ok hr h
    refine ⟨_, e1, fun _ hn => (by cases hn), fun k k' hk ho => ?_⟩
    obtain ⟨b, u, l, h1, h2, h3, h4⟩ := ho
    exact ⟨b, u, l, hk.trans h1, e2 _ h2, h3, h4⟩
  | own t m c =>
    have e0 : renO lo ks (.own t m c) K = renC lo ks c fun c => K (.own t m c) := rfl
    rw [e0] at h ⊢
    obtain ⟨c', e1, e2⟩ := renC_ok hr h
    refine ⟨_, e1, fun _ hn => (by cases hn), fun k k' hk ho => ?_⟩
    obtain ⟨b, u, l, sz, h1, h2, h3, h4⟩ := ho
    exact ⟨b, u, l, sz, hk.trans h1, e2 _ h2, h3, h4⟩
  | map ck es =>
    have e0 : renO lo ks (.map ck es) K = renE lo ks es fun es => K (.map ck es) := rfl
    rw [e0] at h ⊢
    obtain ⟨es', e1, e2⟩ := renE_ok hr h
    refine ⟨_, e1, fun _ hn => (by cases hn), fun k k' hk ho => ?_⟩
    obtain ⟨b, u, ents, l, s, h1, h2, h3, h4, h5, h6, h7⟩ := ho
    obtain ⟨g1, g2⟩ := e2 _ _ h6 h3 h5
    exact ⟨b, u, ents, l, s, hk.trans h1, h2, g1, h4, g2, h6, h7⟩
  | _ => exact False.elim h
def olL : OL → List VO
  | .nl => []
  | .o x r => x :: olL r
theorem packL_ok (hr : RenP η η2 lo ks) {h : H} : ∀ {l : List Nat} {K : OL → Ans}, (packL' lo ks h l K).ok → ∃ os, packL' lo ks h l K = K os ∧ (olL os).length = l.length ∧
    ∀ (i k : Nat), l[i]? = some k → ∃ o, (olL os)[i]? = some o ∧ (o ≠ .no → getH k h ≠ .no) ∧ ∀ k', η2 k' = η k → ObjAt η w k (getH k h) → ObjAt η2 w k' o
  | [], K, hk => ⟨.nl, rfl, rfl, fun i k hi => by simp at hi⟩
  | a :: r, K, hk => by
    have e0 : packL' lo ks h (a :: r) K = renO lo ks (getH a h) fun o => packL' lo ks h r fun r => K (.o o r) := rfl
    rw [e0] at hk ⊢
    obtain ⟨o', e1, e2, e3⟩ := renO_ok (w := w) hr hk
    rw [e1] at hk
    obtain ⟨os, e4, e5, e6⟩ := packL_ok hr hk
    refine ⟨.o o' os, e1.trans e4, by simp [olL, e5], fun i k hi => ?_⟩
    cases i with
    | zero =>
      simp at hi
      subst hi
      exact ⟨o', rfl, e2, e3 _⟩
    | succ i => exact e6 i k (by simpa using hi)
theorem unpack_ok {e : Env} : ∀ {os : OL} {h : H} {n : Nat} {K : KU}, (unpack e os h n K).ok → ∃ h', unpack e os h n K = K h' (n + (olL os).length) ∧ ((olL os).length = 0 ∨ n + (olL os).length ≤ e.B.m) ∧
    ∀ k, getH k h' = if n ≤ k then ((olL os)[k - n]?).getD (getH k h) else getH k h
  | .nl, h, n, K, hk => ⟨h, rfl, .inl rfl, fun k => by simp [olL]⟩
  | .o o r, h, n, K, hk => by
    have e0 : unpack e (.o o r) h n K = newH e o h n fun _ h n => unpack e r h n K := rfl
    rw [e0] at hk ⊢
    obtain ⟨h1, e1, e2, e3⟩ := newH_ok hk
    rw [e1] at hk
    obtain ⟨h2, e4, e5, e6⟩ := unpack_ok hk
    refine ⟨h2, e1.trans (e4.trans (by rw [show n + (olL (.o o r)).length = n + 1 + (olL r).length by simp [olL]; omega])), .inr (by simp only [olL, List.length_cons]; omega), fun k => ?_⟩
    rw [e6, e3]
    by_cases c1 : n + 1 ≤ k
    · rw [if_pos c1, if_pos (show n ≤ k by omega), if_neg (show ¬ k = n by omega), show k - n = (k - (n + 1)) + 1 by omega]
      rfl
    · rw [if_neg c1]
      by_cases c2 : k = n
      · subst c2
        rw [if_pos rfl, if_pos (Nat.le_refl _), Nat.sub_self]
        rfl
      · rw [if_neg c2, if_neg (show ¬ n ≤ k by omega)]
theorem geL_ok {lo : Nat} : ∀ {ks : List Nat}, geL lo ks = true → ∀ k ∈ ks, lo ≤ k
  | [], _, k, hm => by cases hm
  | a :: r, h, k, hm => by
    have h : bnd (Nat.ble lo a) (geL lo r) = true := h
    obtain ⟨h1, h2⟩ := bnd_t h
    rcases List.mem_cons.1 hm with rfl | hm
    · exact ble_t h1
    · exact geL_ok h2 k hm
theorem nodupB_ok : ∀ {l : List Nat}, nodupB l = true → ∀ i j : Nat, ∀ k, l[i]? = some k → l[j]? = some k → i = j
  | [], _, i, j, k, hi, _ => by simp at hi
  | a :: r, h, i, j, k, hi, hj => by
    have h : (!r.contains a && nodupB r) = true := h
    rw [Bool.and_eq_true] at h
    have hn : a ∉ r := by have := h.1; simpa using this
    cases i with
    | zero =>
      cases j with
      | zero => rfl
      | succ j =>
        simp at hi hj
        subst hi
        exact absurd (List.mem_of_getElem? hj) hn
    | succ i =>
      cases j with
      | zero =>
        simp at hi hj
        subst hj
        exact absurd (List.mem_of_getElem? hi) hn
      | succ j => rw [nodupB_ok h.2 i j k (by simpa using hi) (by simpa using hj)]
theorem Rel.none_at (H0 : Rel η B h n w) {k : Nat} (hk : η k = none) : look B h k = .no := by
  by_cases hl : look B h k = .no
  · exact hl
  · obtain ⟨b, u, x, hb, _⟩ := (H0.obj k).at hl
    rw [hk] at hb; cases hb
theorem getH_big {k : Nat} (hk : 65536 ≤ k) : getH k h = .no := by
  unfold getH
  rw [accH_ge (by omega)]
theorem merge_ok (hN : NoNum PP) {ih : CF} (hcall : CallOK ih) {g : FuncId} {fn : Func} {c : Code} (hfn : PP.funcs[g]? = some fn) (hb : fn.body = some c) {args : CV} {l : List Value} (H0 : Rel η B h n w) (ha : RC η args l) {K : KV} (hx : x = mergeE ih fn c B args K h n) (hk : x.ok) :
    Calls PP g l.toArray w fun en w' => ∃ y, en = .returned y ∧ Aft η B n x K (fun _ _ => .no 0) (some y) w' := by
  obtain ⟨y, hy⟩ : ∃ y, y = bodyE fn c (Env.mk ih ⟨look B h, n, B.m⟩) args (fun v h _ => pack n v h) .e n := ⟨_, rfl⟩
  have hx : x = bA (bnd (Nat.ble 65536 B.m) (Nat.ble n 65536)) (Ans.rec (motive := fun _ => Ans) (fun c => .no c) (.no 217) (fun v os => unpack (Env.mk ih B) os h n fun h n => K v h n) (fun _ _ _ => .no 218) y) (.no 301) := by rw [hy]; exact hx
  have hk' := hk
  rw [hx] at hk'
  obtain ⟨e1, e2⟩ := bA_ok hk'
  rw [e2] at hk'
  have hx := hx.trans e2
  obtain ⟨m1, m2⟩ := bnd_t e1
  have m1 := ble_t m1
  have m2 := ble_t m2
  cases y with
  | no c => exact False.elim hk'
  | yes => exact False.elim hk'
  | reg a b c => exact False.elim hk'
  | val v os =>
    have hx : x = unpack (Env.mk ih B) os h n fun h n => K v h n := hx
    have hk' : (unpack (Env.mk ih B) os h n fun h n => K v h n).ok := hk'
    have lB : ∀ (h' : H) (k : Nat), look ⟨look B h, n, B.m⟩ h' k = if k < n then look B h k else getH k h' := by
      intro h' k
      by_cases hkn : k < n
      · rw [if_pos hkn]; exact look_lt (B := ⟨look B h, n, B.m⟩) hkn
      · rw [if_neg hkn]; exact look_ge (B := ⟨look B h, n, B.m⟩) (by show n ≤ k; omega)
    have HB : Rel η ⟨look B h, n, B.m⟩ .e n w := by
      have live : ∀ k, look ⟨look B h, n, B.m⟩ .e k ≠ .no → look B h k ≠ .no := by
        intro k g1
        rw [lB] at g1
        split at g1
        · exact g1
        · exact absurd (getH_e _) g1
      refine ⟨H0.fresh, Nat.le_refl _, fun k => ?_, fun k k' b c c' g1 g2 => H0.inj k k' b c c' (live k g1) (live k' g2), H0.kept, fun k b c g1 => H0.young k b c (live k g1)⟩
      rw [lB]
      split
      · exact H0.obj k
      · rw [getH_e]; trivial
    refine (body_ok hN (e := ⟨ih, ⟨look B h, n, B.m⟩⟩) hcall hfn hb HB ha hy trivial).mono ?_
    rintro en w' ⟨yv, rfl, η', h', n', g1, g2, v0, g3, g4⟩
    have g1 : Rel η' ⟨look B h, n, B.m⟩ h' n' w' := g1
    have g2 : Grow η η' n n' B.m := g2
    obtain ⟨ks, hks⟩ : ∃ ks, ks = bfs n h' 1000 (idsV v0 []) [] := ⟨_, rfl⟩
    have g3 : Ans.val v os = bA (bnd (nodupB ks) (geL n ks)) (renV n ks v0 fun v => packL' n ks h' ks fun os => .val v os) (.no 213) := by rw [hks]; exact g3
    have hk3 : (bA (bnd (nodupB ks) (geL n ks)) (renV n ks v0 fun v => packL' n ks h' ks fun os => .val v os) (.no 213)).ok := by rw [← g3]; trivial
    obtain ⟨f1, f2⟩ := bA_ok hk3
    rw [f2] at hk3 g3
    obtain ⟨d1, d2⟩ := bnd_t f1
    have d1 := nodupB_ok d1
    have d2 := geL_ok d2
    obtain ⟨η2, hη2⟩ : ∃ η2 : Eta, η2 = ⟨fun k => if n ≤ k ∧ k < n + ks.length then (ks[k - n]?).bind η' else η k, η.w0⟩ := ⟨_, rfl⟩
    have a0 : η2.w0 = η.w0 := by rw [hη2]
    have a1 : ∀ k, ¬(n ≤ k ∧ k < n + ks.length) → η2 k = η k := fun k hkk => by rw [hη2]; exact if_neg hkk
    have a2 : ∀ i k, ks[i]? = some k → η2 (n + i) = η' k := fun i k hi => by
      have hlt := (List.getElem?_eq_some_iff.1 hi).1
      rw [hη2]
      show (if n ≤ n + i ∧ n + i < n + ks.length then _ else _) = _
      rw [if_pos ⟨by omega, by omega⟩, show n + i - n = i by omega, hi]
      rfl
    have hr : RenP η' η2 n ks := ⟨fun k hkn => by rw [a1 k (by omega), g2.same k (.inl hkn)], a2⟩
    obtain ⟨v', p1, p2, -⟩ := renV_ok hr hk3
    rw [p1] at hk3 g3
    obtain ⟨os', p3, p4, p5⟩ := packL_ok (w := w') hr hk3
    rw [p3] at g3
    injection g3 with q1 q2
    subst q1 q2
    obtain ⟨h2, r1, r2, r3⟩ := unpack_ok hk'
    rw [p4] at r1 r2
    have r2 : ks.length = 0 ∨ n + ks.length ≤ B.m := r2
    have above : ∀ k, n ≤ k → look B h k = .no := by
      intro k hkn
      by_cases hm : k < B.m
      · exact H0.none_at (H0.fresh k hkn hm)
      · rw [look_ge (by have := H0.lo; omega), getH_big (by omega)]
    have hl : ∀ k, look B h2 k = if n ≤ k then ((olL os)[k - n]?).getD .no else look B h k := by
      intro k
      by_cases hkn : n ≤ k
      · rw [if_pos hkn, look_ge (by have := H0.lo; omega), r3, if_pos hkn, ← look_ge (B := B) (by have := H0.lo; omega), above k hkn]
      · rw [if_neg hkn]
        by_cases hlo : k < B.lo
        · rw [look_lt hlo, look_lt hlo]
        · rw [look_ge (by omega), look_ge (by omega), r3, if_neg hkn]
    have hE : Ext η η' := H0.ext g2
    have hE2 : Ext η η2 := by
      intro k p hkp
      rw [a1 k (fun hkk => by
        rcases r2 with r2 | r2
        · omega
        · rw [H0.fresh k hkk.1 (by omega)] at hkp; cases hkp)]
      exact hkp
    have inew : ∀ k, n ≤ k → look B h2 k ≠ .no → ∃ q, ks[k - n]? = some q ∧ getH q h' ≠ .no := by
      intro k hkn hne
      rw [hl, if_pos hkn] at hne
      cases ho : (olL os)[k - n]? with
      | none => rw [ho] at hne; exact absurd rfl hne
      | some o =>
        rw [ho] at hne
        have hlt := (List.getElem?_eq_some_iff.1 ho).1
        rw [p4] at hlt
        have hq : ks[k - n]? = some ks[k - n] := List.getElem?_eq_getElem hlt
        obtain ⟨o', s1, s2, s3⟩ := p5 _ _ hq
        rw [ho] at s1
        cases s1
        exact ⟨_, hq, s2 hne⟩
    have HR : Rel η2 B h2 (n + ks.length) w' := by
      have old : ∀ k, ¬ n ≤ k → look B h2 k ≠ .no → look ⟨look B h, n, B.m⟩ h' k ≠ .no := by
        intro k hkn hne
        rw [hl, if_neg hkn] at hne
        rw [lB, if_pos (by omega)]; exact hne
      have new : ∀ k, n ≤ k → look B h2 k ≠ .no → ∃ q, ks[k - n]? = some q ∧ n ≤ q ∧ look ⟨look B h, n, B.m⟩ h' q ≠ .no ∧ η2 k = η' q := by
        intro k hkn hne
        obtain ⟨q, hq, hqn⟩ := inew k hkn hne
        have hge := d2 _ (List.mem_of_getElem? hq)
        refine ⟨q, hq, hge, by rw [lB, if_neg (by omega)]; exact hqn, ?_⟩
        rw [← a2 _ _ hq, show n + (k - n) = k by omega]
      have lowη : ∀ k, ¬ n ≤ k → η2 k = η' k := fun k hkn => hr.low k (by omega)
      refine ⟨fun k h1 h2 => ?_, Nat.le_trans H0.lo (Nat.le_add_right _ _), fun k => ?_, fun k k' b c c' t1 t2 t3 t4 => ?_, by rw [a0, ← g2.w0]; exact g1.kept, fun k b c t1 t3 => ?_⟩
      · rw [a1 k (by omega)]
        exact H0.fresh k (by omega) h2
      · by_cases hkn : n ≤ k
        · rw [hl, if_pos hkn]
          cases ho : (olL os)[k - n]? with
          | none => trivial
          | some o =>
            have hlt := (List.getElem?_eq_some_iff.1 ho).1
            rw [p4] at hlt
            have hq : ks[k - n]? = some ks[k - n] := List.getElem?_eq_getElem hlt
            obtain ⟨o', s1, s2, s3⟩ := p5 _ _ hq
            rw [ho] at s1
            cases s1
            have hge : n ≤ ks[k - n] := d2 _ (List.getElem_mem hlt)
            have hob := g1.obj ks[k - n]
            rw [lB, if_neg (by omega)] at hob
            have := s3 k (by rw [← a2 _ _ hq, show n + (k - n) = k by omega]) hob
            exact this
        · rw [hl, if_neg hkn]
          have hob := g1.obj k
          rw [lB, if_pos (by omega)] at hob
          exact ((H0.obj k).back hE hob).mono hE2
      · by_cases hk1 : n ≤ k <;> by_cases hk2 : n ≤ k'
        · obtain ⟨q, u1, u2, u3, u4⟩ := new k hk1 t1
          obtain ⟨q', v1, v2, v3, v4⟩ := new k' hk2 t2
          rw [u4] at t3
          rw [v4] at t4
          have := g1.inj q q' b c c' u3 v3 t3 t4
          subst this
          have := d1 _ _ _ u1 v1
          omega
        · obtain ⟨q, u1, u2, u3, u4⟩ := new k hk1 t1
          rw [u4] at t3
          rw [lowη k' hk2] at t4
          have := g1.inj q k' b c c' u3 (old k' hk2 t2) t3 t4
          omega
        · obtain ⟨q', v1, v2, v3, v4⟩ := new k' hk2 t2
          rw [v4] at t4
          rw [lowη k hk1] at t3
          have := g1.inj k q' b c c' (old k hk1 t1) v3 t3 t4
          omega
        · rw [lowη k hk1] at t3
          rw [lowη k' hk2] at t4
          exact g1.inj k k' b c c' (old k hk1 t1) (old k' hk2 t2) t3 t4
      · rw [a0, ← g2.w0]
        by_cases hk1 : n ≤ k
        · obtain ⟨q, u1, u2, u3, u4⟩ := new k hk1 t1
          rw [u4] at t3
          exact g1.young q b c u3 t3
        · rw [lowη k hk1] at t3
          exact g1.young k b c (old k hk1 t1) t3
    exact ⟨yv, rfl, η2, h2, n + ks.length, HR, ⟨Nat.le_add_right _ _, fun k hkk => a1 k (by rcases r2 with r2 | r2 <;> omega), a0⟩, v, hx.trans r1, p2 _ g4⟩
end
end Go.Ev
