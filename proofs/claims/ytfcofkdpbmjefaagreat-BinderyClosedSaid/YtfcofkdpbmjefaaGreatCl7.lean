/- Part 7: From a contract of a law's function to its given statement: what an argument reads as, laid open; the law's row. The closed facts of a row, apart from one another: together they are too much for one check. -/
import Derived.Test.YtfcofkdpbmjefaaGreatCl6
import Derived.Test.YtfcofkdpbmjefaaGreatRows
import Derived.ProofKit
set_option linter.unusedVariables false
set_option linter.unusedSimpArgs false
set_option maxRecDepth 100000
namespace Go.Vc
open Go Go.ChangeShapes Go.WideShapes Go.WideElems
noncomputable section
def RdK (P : Program) (w : World) : Nat → TypeId → (List Value → Prop) → Prop
  | 0, _, K => ∃ cs, K cs
  | n + 1, t, K => match P.underlying t with
    | some (.int k) => ∃ i, inR k i ∧ K [.int k i]
    | some .bool => ∃ b, K [.bool b]
    | some .string => ∃ s : ByteArray, s.size ≤ reachBytes ∧ K [.string s]
    | some (.slice e) => ∃ (a : Option Addr) (cap : Nat) (els : List (List Value)), els.length ≤ cap ∧ cap ≤ maxLen ∧ els.length * P.bytesOf e ≤ reachBytes ∧ (a = none → els = []) ∧ (∀ x ∈ els, RdK P w n e (fun cs => x = cs)) ∧ Cells w a els.flatten ∧ K [.slice a els.length cap]
    | some (.struct fs) => exLs (RdK P w n) (fs.toList.map (·.type)) K
    | _ => ∃ cs, K cs
def ofC (b : Option Bool) (cs : List Value) : Value := match b with
  | some true => .agg cs.toArray
  | _ => cs.headD .nilFunc
def RdA (P : Program) (w : World) (n : Nat) : List TypeId → (List Value → Prop) → Prop
  | [], K => K []
  | t :: r, K => RdK P w n t fun cs => RdA P w n r fun l => K (ofC (aggB P t) cs :: l)
section
variable {H : Type} {enc : TypeId × Value → H} {P : Program} {w : World} {base : Nat} {spare : Nat → Bool} {held : Bool}
theorem lit_inR {k : IntKind} {n : Int} (h : (Lit.int k n).wf = true) : inR k n := by
  simpa [Lit.wf, inR] using h
theorem exLs_mk {f : TypeId → (List Value → Prop) → Prop} : ∀ (l : List TypeId) (p : List (List Value)) (K : List Value → Prop), p.length = l.length → (∀ (i : Nat) (t : TypeId) (x : List Value), l[i]? = some t → p[i]? = some x → ∀ K' : List Value → Prop, K' x → f t K') → K p.flatten → exLs f l K
  | [], [], K, _, _, hk => by simpa [exLs] using hk
  | t :: r, x :: q, K, hl, hf, hk => by
    rw [exLs]
    refine hf 0 t x rfl rfl _ ?_
    refine exLs_mk r q _ (by simpa using hl) (fun i t y h1 h2 => hf (i + 1) t y h1 h2) ?_
    simpa using hk
theorem cut_flat : ∀ (sz : List Nat) (cs : List Value), cs.length = sz.sum → ((List.range sz.length).map fun i => (cs.drop (sz.take i).sum).take (sz.getD i 0)).flatten = cs
  | [], cs, h => by
    have : cs = [] := List.eq_nil_of_length_eq_zero (by simpa using h)
    simp [this]
  | n :: r, cs, h => by
    have ih := cut_flat r (cs.drop n) (by simp at h ⊢; omega)
    rw [List.length_cons, List.range_succ_eq_map, List.map_cons, List.flatten_cons, List.map_map]
    have e : ((fun i => (cs.drop ((n :: r).take i).sum).take ((n :: r).getD i 0)) ∘ Nat.succ) = fun i => ((cs.drop n).drop (r.take i).sum).take (r.getD i 0) := by
      funext i
      simp [List.drop_drop]
    rw [e, ih]
    simp [List.take_append_drop]
theorem rdK (hl : laidOutB P = true) : ∀ (n : Nat) (fuel : Nat) (t : TypeId) (cs : List Value) (x : DataW H × List MemPlace) (K : List Value → Prop), t < P.types.size → DataW.trod enc P w base spare held fuel t cs = some x → (x.1.weights P t).all (· ≤ reachBytes) = true → K cs → RdK P w n t K := by
  intro n
  induction n with
  | zero => intro fuel t cs x K _ _ _ hk; exact ⟨cs, hk⟩
  | succ n ih =>
    intro fuel t cs x K ht h hwt hk
    unfold RdK
    split
    · rename_i k hu
      obtain ⟨i, rfl, _, hw⟩ := DataW.trod_int hu h
      exact ⟨i, lit_inR hw, hk⟩
    · rename_i hu
      obtain ⟨b, rfl, _⟩ := DataW.trod_bool hu h
      exact ⟨b, hk⟩
    · rename_i hu
      obtain ⟨s, rfl, rfl, hs⟩ := DataW.trod_string hu h
      simp only [DataW.weights, List.all_cons, List.all_nil, Bool.and_true, decide_eq_true_eq] at hwt
      exact ⟨s, by rw [Array.length_toList] at hwt; exact hwt, hk⟩
    · rename_i e hu
      have he : e < P.types.size := kid_slice hl ht hu
      rcases DataW.trod_slice hu h with ⟨rfl, _⟩ | ⟨a, len, cap, elems, rest, m, rfl, rfl, hxx, hb, h1, h2, hlen, hel, hr1, hr2⟩
      · exact ⟨none, 0, [], Nat.le_refl _, by simp [maxLen], by rw [List.length_nil, Nat.zero_mul]; exact Nat.zero_le _, fun _ => rfl, by simp, by intro j v hj; simp at hj, hk⟩
      · rw [hxx] at hwt
        simp only [DataW.weights, hu, List.all_cons, List.all_append, Bool.and_eq_true, decide_eq_true_eq, List.length_map] at hwt
        have hwe : ∀ z ∈ elems, (z.1.weights P e).all (· ≤ reachBytes) = true := by
          have hmem : ∀ (l : List (DataW H)), (DataW.weightsAll P e l).all (· ≤ reachBytes) = true → ∀ d ∈ l, (d.weights P e).all (· ≤ reachBytes) = true := by
            intro l
            induction l with
            | nil => intro _ d hd; cases hd
            | cons x r ihr =>
              intro hl d hd
              simp only [DataW.weightsAll, List.all_append, Bool.and_eq_true] at hl
              rcases List.mem_cons.1 hd with rfl | hd
              · exact hl.1
              · exact ihr hl.2 d hd
          exact fun z hz => hmem _ hwt.2.1 _ (List.mem_map_of_mem hz)
        have hall : ∀ i, i < len → ∃ y, w.cells? base (a.add (i * P.cellsOf e)) (P.cellsOf e) = some y ∧ ∃ z ∈ elems, DataW.trod enc P w base spare held m e y = some z := by
          intro i hi
          have h3 := hel i hi
          rw [List.getElem?_eq_getElem (by omega), Option.bind_eq_some_iff] at h3
          obtain ⟨y, hy, hz⟩ := h3
          exact ⟨y, hy, _, List.getElem_mem _, hz⟩
        obtain ⟨els, hels, hget⟩ : ∃ els : List (List Value), els.length = len ∧ ∀ i y, els[i]? = some y → w.cells? base (a.add (i * P.cellsOf e)) (P.cellsOf e) = some y ∧ ∃ z ∈ elems, DataW.trod enc P w base spare held m e y = some z := by
          clear hel hlen h hk h1 hr1 hr2 hxx hwt
          induction len with
          | zero => exact ⟨[], rfl, by simp⟩
          | succ q ihq =>
            obtain ⟨els, e1, e2⟩ := ihq fun i hi => hall i (by omega)
            obtain ⟨y, hy⟩ := hall q (by omega)
            refine ⟨els ++ [y], by simp [e1], fun i z hz => ?_⟩
            rw [List.getElem?_append] at hz
            split at hz
            · exact e2 i z hz
            · have hi : i = q := by
                have := (List.getElem?_eq_some_iff.1 hz).1
                simp at this; omega
              subst hi
              simp [e1] at hz; subst hz
              exact hy
        have hsz : ∀ y ∈ els, y.length = P.cellsOf e := by
          intro y hy
          obtain ⟨i, hi⟩ := List.getElem?_of_mem hy
          exact (World.cells?_some (hget i y hi).1).2.1
        refine ⟨some a, cap, els, by omega, h2, Nat.le_trans (Nat.mul_le_mul_right _ (by omega)) hwt.1, by simp, ?_, ?_, by rw [hels]; exact hk⟩
        · intro y hy
          obtain ⟨i, hi⟩ := List.getElem?_of_mem hy
          obtain ⟨_, z, hzm, hz⟩ := hget i y hi
          exact ih m e y z _ he hz (hwe z hzm) rfl
        · have hcell : ∀ (els : List (List Value)) (i0 : Nat), (∀ i y, els[i]? = some y → y.length = P.cellsOf e ∧ ∀ j v, y[j]? = some v → w.cell? (a.add ((i0 + i) * P.cellsOf e + j)) = some v) → ∀ j v, els.flatten[j]? = some v → w.cell? (a.add (i0 * P.cellsOf e + j)) = some v := by
            intro els
            induction els with
            | nil => intro i0 _ j v hj; simp at hj
            | cons y r ihr =>
              intro i0 hh j v hj
              obtain ⟨hy, hyc⟩ := hh 0 y rfl
              rw [List.flatten_cons, List.getElem?_append] at hj
              split at hj
              · simpa using hyc j v hj
              · have := ihr (i0 + 1) (fun i z hz => by
                  have := hh (i + 1) z hz
                  rw [show i0 + 1 + i = i0 + (i + 1) by omega]; exact this) (j - y.length) v hj
                rw [Nat.add_mul, Nat.one_mul] at this
                rw [show i0 * P.cellsOf e + j = i0 * P.cellsOf e + P.cellsOf e + (j - y.length) by omega]; exact this
          intro j v hj
          refine ⟨a, rfl, ?_⟩
          have := hcell els 0 (fun i y hi => ⟨hsz y (List.mem_of_getElem? hi), fun j v hv => by
            have := (World.cells?_some (hget i y hi).1).2.2 j (by rw [← hsz y (List.mem_of_getElem? hi)]; exact (List.getElem?_eq_some_iff.1 hv).1)
            rw [add_add, hv] at this
            simpa using this⟩) j v hj
          simpa using this
    · rename_i fs hu
      obtain ⟨xs, m, _, rfl, hcl, hxl, hf⟩ := DataW.trod_struct hu h
      obtain ⟨k1, k2, k3⟩ := kid_struct hl ht hu
      have hws : ∀ (ts : List TypeId) (l : List (DataW H)), (DataW.weightsEach P ts l).all (· ≤ reachBytes) = true → ∀ (i : Nat) t d, ts[i]? = some t → l[i]? = some d → (d.weights P t).all (· ≤ reachBytes) = true := by
        intro ts
        induction ts with
        | nil => intro l _ i t d h1; simp at h1
        | cons t0 r ihr =>
          intro l hl i t d h1 h2
          cases l with
          | nil => simp at h2
          | cons d0 l =>
            simp only [DataW.weightsEach, List.all_append, Bool.and_eq_true] at hl
            cases i with
            | zero => simp at h1 h2; subst h1 h2; exact hl.1
            | succ i => exact ihr l hl.2 i t d (by simpa using h1) (by simpa using h2)
      simp only [DataW.weights, hu] at hwt
      have hcut := cut_flat (fs.toList.map fun f => P.cellsOf f.type) cs (by rw [hcl, k2])
      refine exLs_mk _ _ _ ?_ ?_ (by rw [hcut]; exact hk)
      · simp
      · intro i t y h1 h2 K' hK'
        simp only [List.getElem?_map, Option.map_eq_some_iff] at h1
        obtain ⟨f, hfi, rfl⟩ := h1
        have hi : i < fs.toList.length := (List.getElem?_eq_some_iff.1 hfi).1
        simp only [List.length_map, List.getElem?_map, List.getElem?_range hi, Option.map_some, Option.some.injEq] at h2
        have e3 := k3 i f hfi
        rw [← List.map_take, ← e3] at h2
        have e4 : (fs.toList.map fun f => P.cellsOf f.type).getD i 0 = P.cellsOf f.type := by
          rw [List.getD_eq_getElem?_getD, List.getElem?_map, hfi]; rfl
        rw [e4] at h2
        have h5 := hf i f (by simpa using hfi)
        rw [h2] at h5
        have h6 : i < xs.length := by rw [hxl]; simpa using hi
        rw [List.getElem?_eq_getElem h6] at h5
        refine ih m f.type y _ _ (k1 f (List.mem_of_getElem? hfi)) h5 (hws _ _ hwt i _ _ (by rw [List.getElem?_map, hfi]; rfl) (by rw [List.getElem?_map, List.getElem?_eq_getElem h6]; rfl)) hK'
    · exact ⟨cs, hk⟩
theorem ofC_eq {r : Reach} {b0 : Nat} {t : TypeId} {v : Value} (hs : match P.underlying t with | some (.int _) | some .bool | some .string | some (.slice _) | some (.struct _) => True | _ => False) (hval : Value.okWide P w r b0 t v) : ofC (aggB P t) v.cells.toList = v := by
  cases hu : P.underlying t with
  | none => rw [hu] at hs; exact hs.elim
  | some d =>
    rw [hu] at hs
    cases d <;> try exact hs.elim
    · obtain ⟨b, rfl⟩ := okWide_bool hu hval; simp [ofC, aggB, hu, Value.cells]
    · obtain ⟨b, rfl⟩ := okWide_int hu hval; simp [ofC, aggB, hu, Value.cells]
    · obtain ⟨b, rfl⟩ := okWide_string hu hval; simp [ofC, aggB, hu, Value.cells]
    · obtain ⟨a, l, c, rfl⟩ := okWide_slice hu hval; simp [ofC, aggB, hu, Value.cells]
    · obtain ⟨cs, rfl, _⟩ := okWide_struct hu hval; simp [ofC, aggB, hu, Value.cells]
def plainB (P : Program) (t : TypeId) : Bool := Nat.blt t P.types.size && P.readableRec t && match P.underlying t with
  | some (.int _) | some .bool | some .string | some (.slice _) | some (.struct _) => true
  | _ => false
theorem plain_of {t : TypeId} (h : plainB P t = true) : t < P.types.size ∧ P.readableRec t = true ∧ match P.underlying t with | some (.int _) | some .bool | some .string | some (.slice _) | some (.struct _) => True | _ => False := by
  simp only [plainB, Bool.and_eq_true] at h
  refine ⟨Nat.lt_of_lt_of_le (Nat.lt_succ_self _) (Nat.le_of_ble_eq_true h.1.1), h.1.2, ?_⟩
  have := h.2
  split at this <;> simp_all
theorem rdA (hl : laidOutB P = true) {r : Reach} {b0 : Nat} (n : Nat) : ∀ (ts : List TypeId) (vs : List Value) (ds : List (DataW H)) (ps : List MemPlace) (K : List Value → Prop), ts.all (plainB P) = true → (∀ (j : Nat) t v, ts[j]? = some t → vs[j]? = some v → Value.okWide P w r b0 t v) →
    DataW.TrodAll enc P w base spare held ts vs ds ps → (DataW.weightsEach P ts ds).all (· ≤ reachBytes) = true → K vs → RdA P w n ts K
  | [], [], [], ps, K, _, _, _, _, hk => hk
  | t :: ts, v :: vs, d :: ds, ps, K, hp, hv, ⟨p, q, ⟨fuel, h1⟩, h2, _⟩, hwt, hk => by
    simp only [DataW.weightsEach, List.all_append, Bool.and_eq_true] at hwt
    simp only [List.all_cons, Bool.and_eq_true] at hp
    obtain ⟨p1, p2, p3⟩ := plain_of hp.1
    rw [RdA]
    refine rdK hl n fuel t _ _ _ p1 h1 hwt.1 ?_
    refine rdA hl n ts vs ds q _ hp.2 (fun j t v h3 h4 => hv (j + 1) t v h3 h4) h2 hwt.2 ?_
    rw [ofC_eq p3 (hv 0 t v rfl rfl)]
    exact hk
theorem trodAll_chg (hl : laidOutB P = true) {W W' : World} {sp : Nat → Bool} (hb : Go.RowKit.Below W.heap.size W W') : ∀ {ts : List TypeId} {vs : List Value} {ds : List (DataW H)} {ps : List MemPlace}, ts.all (plainB P) = true → (∀ x ∈ ps, x.block < W.heap.size) → (∀ x ∈ ps, sp x.block = true) →
    DataW.TrodAll enc P W 0 (fun _ => true) true ts vs ds ps → DataW.TrodAll enc P W' 0 sp true ts vs ds ps
  | [], [], [], _, _, _, _, h => h
  | _ :: _, _ :: _, _ :: _, _, hp, hlt, hs, ⟨p, q, h1, h2, e⟩ => by
    simp only [List.all_cons, Bool.and_eq_true] at hp
    obtain ⟨p1, p2, p3⟩ := plain_of hp.1
    exact ⟨p, q, Trod_stays hl p2 p1 h1 (fun x hx => hb.same (hlt x (by rw [e]; exact List.mem_append_left _ hx))) (fun x hx => hs x (by rw [e]; exact List.mem_append_left _ hx)),
      trodAll_chg hl hb hp.2 (fun x hx => hlt x (by rw [e]; exact List.mem_append_right _ hx)) (fun x hx => hs x (by rw [e]; exact List.mem_append_right _ hx)) h2, e⟩
theorem trodAll_len {W : World} : ∀ {ts : List TypeId} {vs : List Value} {ds : List (DataW H)} {ps : List MemPlace}, DataW.TrodAll enc P W base spare held ts vs ds ps → ds.length = ts.length
  | [], [], [], _, _ => rfl
  | _ :: _, _ :: _, _ :: _, _, ⟨_, _, _, h2, _⟩ => by simp [trodAll_len h2]
end
theorem Chg.below {w w' : World} (h : Chg [] w w') : Go.RowKit.Below w.heap.size w w' := ⟨h.1, h.2.1, h.2.2.1, h.size, fun k hk => h.2.2.2.2 k hk (by simp)⟩
theorem law_lift {C : Checked} {os : Os} {H : Type} {enc : TypeId × Value → H} (f : FuncId) (fn : Func) {s : ChangeSpec} (n : Nat) {t0 : TypeId} (own : ownKnob C.prog.godebug = none) (started : os.Started) (noInit : C.prog.inits.idxOf? f = none) (hfn : C.prog.funcs[f]? = some fn)
    (hl : laidOutB C.prog = true) (hpl : fn.params.toList.all (plainB C.prog) = true) (hsv : s.vars = []) (hrt : fn.resultTypes = #[t0]) (hb : C.prog.underlying t0 = some .bool)
    (hsp : ∀ ds : List (DataW H), ds.length = fn.params.toList.length → s.fn H ds = { results := [.lit (.bool true)], args := ds })
    (witness : ∃ (w : World) (tape : Tape) (i : Input), w.os = os ∧ (w.forCall tape i).Shaped C.prog ∧ i.vars = [] ∧ Input.okWide C.prog (w.forCall tape i) .any w.heap.size f i ∧
      s.pre6 enc C.prog fn [] false (w.forCall tape i).memory i.args ∧ ({} : Assume).holds C.prog (lone (Frame.enter C.prog f i.args .normal) [] (w.forCall tape i)))
    (contract : ∀ (W : World) (args : Array Value), RdA C.prog W n fn.params.toList (fun l => args.toList = l) → Calls C.prog f args W fun e W' => e = .returned (.bool true) ∧ Chg [] W W') :
    ReturnsInHanded {} C os f .any (s.pre6 enc C.prog fn [] false) (s.post enc C.prog fn false true false false) := by
  refine returnsInHanded_of_calls own started noInit witness ?_
  intro w0 tape inp _ _ _ hok hpre _
  obtain ⟨_, _, _, fn', hfn', _, _, _, _, hval⟩ := hok
  have efn : fn' = fn := Option.some.inj (hfn'.symm.trans hfn)
  subst efn
  obtain ⟨⟨ds, gs, before, hW0, _⟩, hsz⟩ := hpre
  have hwts := hsz.weights hW0
  have hW := DataW.Whole.of_heap (w' := w0.forCall tape inp) (by rfl) hW0
  suffices hmain : Calls C.prog f inp.args (w0.forCall tape inp) fun e W' => ∃ v, e = .returned v ∧ s.post enc C.prog fn' false true false false (w0.forCall tape inp) inp.args v W' from hmain.mono fun e W' ⟨v, he, hp⟩ => by
    subst he
    exact ChangeSpec.post_blind hp
  generalize w0.forCall tape inp = W at hW hval
  generalize inp.args = args at hW hval
  have hW' := hW
  obtain ⟨p, q, hA, hV, rfl, hfz, hnd⟩ := hW
  rw [hsv] at hV
  obtain ⟨rfl, rfl⟩ := trodVars_none hV
  have hlen := trodAll_len hA
  have hwA : (DataW.weightsEach C.prog (fn'.params.toList ++ (OpenSpec.ofChange s).bare.plain.varTypes C.prog) (ds ++ [])).all (· ≤ reachBytes) = true → (DataW.weightsEach C.prog fn'.params.toList ds).all (· ≤ reachBytes) = true := by
    rw [List.append_nil]
    have : ∀ (ts us : List TypeId) (l : List (DataW H)), l.length = ts.length → DataW.weightsEach C.prog (ts ++ us) l = DataW.weightsEach C.prog ts l := by
      intro ts
      induction ts with
      | nil => intro us l hl; have : l = [] := List.eq_nil_of_length_eq_zero hl; subst this; cases us <;> rfl
      | cons t r ih =>
        intro us l hl
        cases l with
        | nil => cases hl
        | cons d l => simp only [List.cons_append, DataW.weightsEach]; rw [ih us l (by simpa using hl)]
    rw [this _ _ _ hlen]
    exact id
  have hrd := rdA hl n fn'.params.toList args.toList ds p (fun l => args.toList = l) hpl (fun j t v h1 h2 => hval j t v (by simpa using h1) (by simpa using h2)) hA (hwA hwts) rfl
  refine (contract W args hrd).mono fun e W' ⟨he, hc⟩ => ⟨_, he, ?_⟩
  have hbl := hc.below
  have hlt := hW'.lt
  simp at hlt
  have hspec : s.fn H (ds ++ []) = { results := [.lit (.bool true)], args := ds } := by rw [List.append_nil]; exact hsp ds hlen
  have hR : ∀ (b : Nat) (sp : Nat → Bool) (hd : Bool), DataW.TrodAll enc C.prog W' b sp hd fn'.resultTypes.toList ((Value.bool true).resultList fn'.resultTypes.size) (s.fn H (ds ++ [])).results [] := fun b sp hd => by
    rw [hspec, hrt]
    exact trodAll_mk1 (Go.RowKit.shut_bool hb true)
  have hG : ∀ sp : Nat → Bool, (∀ x ∈ p, sp x.block = true) → DataW.TrodAll enc C.prog W' 0 sp true fn'.params.toList args.toList (s.fn H (ds ++ [])).args p := fun sp hs => by
    rw [hspec]
    exact trodAll_chg hl hbl hpl hlt hs hA
  have hVr : ∀ sp : Nat → Bool, DataW.TrodVars enc C.prog W' sp s.vars (s.fn H (ds ++ [])).vars [] := fun sp => by
    rw [hspec, hsv]
    rfl
  refine ⟨ds, [], p ++ [], [], p, [], hW', hR _ _ _, hG _ (fun x hx => by simpa using hlt x hx), hVr _, World.keptBut_mono (fun x hx => ⟨hx, .inr (by simpa using hx)⟩) (hbl.frame _), fun _ => ?_⟩
  refine ⟨Go.RowKit.ok_one hrt rfl (Go.RowKit.okWide_bool_mk hb true), _, _, ([] ++ p) ++ [], ⟨[] ++ p, [], trodAll_append (hG _ (fun _ _ => rfl)) (hR _ _ _), hVr _, rfl, ?_, ?_⟩, ?_⟩
  · intro b off hx
    have h1 := hlt (.cell b off) (by simpa using hx)
    rw [hbl.frozen h1]
    exact hfz b off (by simpa using hx)
  · intro ha
    simpa using hnd ha
  · intro x hx _
    simpa using hx
end
end Go.Vc
namespace Go
theorem joined_of {P : Program} {f : FuncId} {fn : Func} {s : ChangeSpec} {c : OpenClaim} (h1 : laidOutB P = true) (h2 : mapsRowed P = true) (h3 : (c.inPlace == P.inPlace f) = true) (h4 : (c.unfollowed == P.unfollowed f) = true) (h5 : (c.recurses == P.recurses f) = true) (h6 : (c.named == P.varsNamed f) = true) (h7 : P.stopsHeard = true) (h8 : P.mayEnter = true) (h9 : (c.lifted == P.liftsFinal) = true) (h10 : (P.make == some c.make) = true)
    (r1 : (c.wf (OpenSpec.ofChange s) && fn.params.all (P.readableRec ·) && namedTie P c.named s.vars &&
  (c.stops == []) && (P.stops == []) && (c.knobs == []) && (P.stopKnobs == [])) = true)
    (r2 : ((c.maps == (fn.params.toList ++ s.plain.varTypes P).any (P.mapsRec ·)) && (c.ifaces == (fn.params.toList ++ s.plain.varTypes P).any (P.ifacesRec ·)) && (c.mapsOut == P.mapsAmong fn.resultTypes.toList) &&
  (c.loops == (fn.params.toList ++ s.plain.varTypes P).any (P.loopsFrom ·)) && (c.wideKeys == (fn.params.toList ++ s.plain.varTypes P ++ fn.resultTypes.toList).any (P.wideKeysFrom ·))) = true)
    (r3 : (s.vars.all (P.varReadable ·) && fn.resultTypes.all (fun t => P.readableRec t && decide (t < P.types.size)) && (c.ifacesOut == fn.resultTypes.toList.any (P.ifacesRec ·)) && (c.loopsOut == fn.resultTypes.toList.any (P.loopsFrom ·)) && (c.plainKeys == P.plainKeys) && c.shortTexts.isNone) = true)
    (r4 : ((c.kinds == (if c.domain.isEmpty then [] else fn.params.toList.map fun t => match P.underlying t with | some (.int k) => some k | _ => none)) && (c.pinned == c.pinnedBy) &&
  (c.veiled == (fn.params.toList ++ s.plain.varTypes P ++ fn.resultTypes.toList).any (P.veiledRec ·)) && c.veiledFits P fn.params.toList (fn.params.toList ++ s.plain.varTypes P ++ fn.resultTypes.toList)) = true) : joinedFacts P f fn s c = true := by
  unfold joinedFacts
  simp only [Bool.and_eq_true] at r1 r2 r3 r4 ⊢
  obtain ⟨⟨⟨⟨⟨⟨a1, a2⟩, a3⟩, a4⟩, a5⟩, a6⟩, a7⟩ := r1
  obtain ⟨⟨⟨⟨b1, b2⟩, b3⟩, b4⟩, b5⟩ := r2
  obtain ⟨⟨⟨⟨⟨d1, d2⟩, d3⟩, d4⟩, d5⟩, d6⟩ := r3
  obtain ⟨⟨⟨e1, e2⟩, e3⟩, e4⟩ := r4
  exact ⟨⟨⟨⟨⟨⟨⟨⟨⟨⟨⟨⟨⟨⟨⟨⟨⟨⟨⟨⟨⟨⟨⟨⟨⟨⟨⟨⟨⟨⟨⟨a1, h1⟩, h2⟩, a2⟩, a3⟩, a4⟩, a5⟩, a6⟩, a7⟩, h3⟩, h4⟩, h5⟩, h6⟩, b1⟩, b2⟩, b3⟩, b4⟩, b5⟩, d1⟩, d2⟩, d3⟩, d4⟩, d5⟩, d6⟩, h7⟩, h8⟩, h9⟩, h10⟩, e1⟩, e2⟩, e3⟩, e4⟩
end Go
namespace Go.Proofs.YtfcofkdpbmjefaaGreat
open Go Go.Vc
theorem rowed_ : mapsRowed Tryz.prog = true := by kernel_rfl
theorem heard_ : Tryz.prog.stopsHeard = true := by kernel_rfl
theorem enter_ : Tryz.prog.mayEnter = true := by kernel_rfl
theorem lifts_ : Tryz.prog.liftsFinal = Rows.binderyClosedRow.lifted := by kernel_rfl
theorem make_ : Tryz.prog.make = some Rows.binderyClosedRow.make := by kernel_rfl
end Go.Proofs.YtfcofkdpbmjefaaGreat
