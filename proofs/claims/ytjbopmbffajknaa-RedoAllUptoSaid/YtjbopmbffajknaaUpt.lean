/- From a contract of a law's function to its second form: what an argument reads as, and how great that is. -/
import Derived.Test.YtjbopmbffajknaaJoin
import Derived.JoinedCond
set_option linter.unusedVariables false
set_option linter.unusedSimpArgs false
namespace Go.Vc
open Go Go.ChangeShapes Go.WideShapes Go.WideElems
noncomputable section

def exLsW (f : TypeId → (List Value → Nat → Prop) → Prop) : List TypeId → (List Value → Nat → Prop) → Prop
  | [], K => K [] 0
  | t :: r, K => f t fun cs m => exLsW f r fun l m' => K (cs ++ l) (m + m')
/-- what cells read as, by their type, and a number that the reading is not below -/
def RdW (P : Program) (w : World) : Nat → TypeId → (List Value → Nat → Prop) → Prop
  | 0, _, K => ∃ cs, K cs 0
  | n + 1, t, K => match P.underlying t with
    | some (.int k) => ∃ i, inR k i ∧ K [.int k i] 0
    | some .bool => ∃ b, K [.bool b] 0
    | some .string => ∃ s : ByteArray, K [.string s] s.size
    | some (.slice e) => ∃ (a : Option Addr) (cap : Nat) (els : List (List Value × Nat)), els.length ≤ cap ∧ cap ≤ maxLen ∧ (a = none → els = []) ∧ (∀ x ∈ els, RdW P w n e (fun cs m => x.1 = cs ∧ m ≤ x.2)) ∧ Cells w a (els.map (·.1)).flatten ∧ K [.slice a els.length cap] ((els.map fun x => x.2 + 1).sum)
    | some (.struct fs) => exLsW (RdW P w n) (fs.toList.map (·.type)) K
    | _ => ∃ cs, K cs 0
def RdAW (P : Program) (w : World) (n : Nat) : List TypeId → (List Value → Nat → Prop) → Prop
  | [], K => K [] 0
  | t :: r, K => RdW P w n t fun cs m => RdAW P w n r fun l m' => K (ofC (aggB P t) cs :: l) (m + m')

/-- a measure of readings -/
structure Bulk {H : Type} (bk : DataW H → Nat) : Prop where
  one : ∀ d, 1 ≤ bk d
  str : ∀ b, b.length + 1 ≤ bk (.lit (.string b))
  sl : ∀ (l s : List (DataW H)), (l.map bk).sum + 1 ≤ bk (.slice l s)
  agg : ∀ l : List (DataW H), (l.map bk).sum + 1 ≤ bk (.agg l)
section
variable {H : Type} {enc : TypeId × Value → H} {P : Program} {w : World} {base : Nat} {spare : Nat → Bool} {held : Bool} {bk : DataW H → Nat}
theorem exLsW_mk {f : TypeId → (List Value → Nat → Prop) → Prop} : ∀ (l : List TypeId) (p : List (List Value)) (q : List Nat) (K : List Value → Nat → Prop), p.length = l.length → q.length = l.length →
    (∀ (i : Nat) (t : TypeId) (x : List Value) (b : Nat), l[i]? = some t → p[i]? = some x → q[i]? = some b → ∀ K' : List Value → Nat → Prop, (∀ m, m + 1 ≤ b → K' x m) → f t K') → (∀ m, m ≤ q.sum → K p.flatten m) → exLsW f l K
  | [], [], [], K, _, _, _, hk => hk 0 (Nat.zero_le _)
  | t :: r, x :: p, b :: q, K, hl, hl2, hf, hk => by
    rw [exLsW]
    refine hf 0 t x b rfl rfl rfl _ fun m hm => ?_
    refine exLsW_mk r p q _ (by simpa using hl) (by simpa using hl2) (fun i t y c h1 h2 h3 => hf (i + 1) t y c h1 h2 h3) fun m' hm' => ?_
    have := hk (m + m') (by simp only [List.sum_cons]; omega)
    simpa using this

theorem rdW (hbk : Bulk bk) (hl : laidOutB P = true) : ∀ (n : Nat) (fuel : Nat) (t : TypeId) (cs : List Value) (x : DataW H × List MemPlace) (K : List Value → Nat → Prop), t < P.types.size → DataW.trod enc P w base spare held fuel t cs = some x → (∀ m, m + 1 ≤ bk x.1 → K cs m) → RdW P w n t K := by
  intro n
  induction n with
  | zero => intro fuel t cs x K _ _ hk; exact ⟨cs, hk 0 (hbk.one _)⟩
  | succ n ih =>
    intro fuel t cs x K ht h hk
    unfold RdW
    split
    · rename_i k hu
      obtain ⟨i, rfl, _, hw⟩ := DataW.trod_int hu h
      exact ⟨i, lit_inR hw, hk 0 (hbk.one _)⟩
    · rename_i hu
      obtain ⟨b, rfl, _⟩ := DataW.trod_bool hu h
      exact ⟨b, hk 0 (hbk.one _)⟩
    · rename_i hu
      obtain ⟨s, rfl, rfl, hs⟩ := DataW.trod_string hu h
      have h1 := hbk.str s.data.toList
      rw [Array.length_toList] at h1
      exact ⟨s, hk s.size h1⟩
    · rename_i e hu
      have he : e < P.types.size := kid_slice hl ht hu
      rcases DataW.trod_slice hu h with ⟨rfl, _⟩ | ⟨a, len, cap, elems, rest, m, rfl, rfl, hxx, hb, h1, h2, hlen, hel, hr1, hr2⟩
      · exact ⟨none, 0, [], Nat.le_refl _, by simp [maxLen], fun _ => rfl, by simp, by intro j v hj; simp at hj, hk _ (hbk.one _)⟩
      · rw [hxx] at hk
        have hall : ∀ i (hi : i < len), ∃ y, w.cells? base (a.add (i * P.cellsOf e)) (P.cellsOf e) = some y ∧ ∃ z, elems[i]? = some z ∧ DataW.trod enc P w base spare held m e y = some z := by
          intro i hi
          have h3 := hel i hi
          rw [List.getElem?_eq_getElem (by omega), Option.bind_eq_some_iff] at h3
          obtain ⟨y, hy, hz⟩ := h3
          exact ⟨y, hy, _, List.getElem?_eq_getElem (by omega), hz⟩
        obtain ⟨els, hels, hget⟩ : ∃ els : List (List Value × Nat), els.length = len ∧ ∀ i y, els[i]? = some y → w.cells? base (a.add (i * P.cellsOf e)) (P.cellsOf e) = some y.1 ∧ ∃ z, elems[i]? = some z ∧ DataW.trod enc P w base spare held m e y.1 = some z ∧ y.2 + 1 = bk z.1 := by
          clear hel hlen h hk h1 hr1 hr2 hxx
          induction len with
          | zero => exact ⟨[], rfl, by simp⟩
          | succ q ihq =>
            obtain ⟨els, e1, e2⟩ := ihq fun i hi => hall i (by omega)
            obtain ⟨y, hy, z, hz1, hz2⟩ := hall q (by omega)
            refine ⟨els ++ [(y, bk z.1 - 1)], by simp [e1], fun i u hu => ?_⟩
            rw [List.getElem?_append] at hu
            split at hu
            · exact e2 i u hu
            · have hi : i = q := by
                have := (List.getElem?_eq_some_iff.1 hu).1
                simp at this; omega
              subst hi
              simp [e1] at hu; subst hu
              have := hbk.one z.1
              exact ⟨hy, z, hz1, hz2, by simp only; omega⟩
        have hsum : (els.map fun x => x.2 + 1) = elems.map fun z => bk z.1 := by
          refine List.ext_getElem? fun i => ?_
          rw [List.getElem?_map, List.getElem?_map]
          cases hi : els[i]? with
          | none =>
            have h3 : els.length ≤ i := List.getElem?_eq_none_iff.1 hi
            rw [List.getElem?_eq_none (by omega)]
            rfl
          | some y =>
            obtain ⟨_, z, hz, _, hyz⟩ := hget i y hi
            rw [hz]; simp [hyz]
        have hsz : ∀ y ∈ els, y.1.length = P.cellsOf e := by
          intro y hy
          obtain ⟨i, hi⟩ := List.getElem?_of_mem hy
          exact (World.cells?_some (hget i y hi).1).2.1
        refine ⟨some a, cap, els, by omega, h2, by simp, ?_, ?_, ?_⟩
        · intro y hy
          obtain ⟨i, hi⟩ := List.getElem?_of_mem hy
          obtain ⟨_, z, hzm, hz, hyz⟩ := hget i y hi
          exact ih m e y.1 z _ he hz fun m' hm' => ⟨rfl, by omega⟩
        · have hcell : ∀ (els : List (List Value)) (i0 : Nat), (∀ i y, els[i]? = some y → y.length = P.cellsOf e ∧ ∀ j v, y[j]? = some v → w.cell? (a.add ((i0 + i) * P.cellsOf e + j)) = some v) → ∀ j v, els.flatten[j]? = some v → w.cell? (a.add (i0 * P.cellsOf e + j)) = some v := by
            intro els
            induction els with
            | nil => intro i0 _ j v hj; simp at hj
            | cons y r ihr =>
              intro i0 hh j v hj
              obtain ⟨hy, hyc⟩ := hh 0 y rfl
              rw [List.flatten_cons, List.getElem?_append] at hj
              split at hj
              · simpa using hyc j v hj
              · have := ihr (i0 + 1) (fun i z hz => by
                  have := hh (i + 1) z hz
                  rw [show i0 + 1 + i = i0 + (i + 1) by omega]; exact this) (j - y.length) v hj
                rw [Nat.add_mul, Nat.one_mul] at this
                rw [show i0 * P.cellsOf e + j = i0 * P.cellsOf e + P.cellsOf e + (j - y.length) by omega]; exact this
          intro j v hj
          refine ⟨a, rfl, ?_⟩
          have := hcell (els.map (·.1)) 0 (fun i y hi => by
            rw [List.getElem?_map, Option.map_eq_some_iff] at hi
            obtain ⟨u, hu2, rfl⟩ := hi
            refine ⟨hsz u (List.mem_of_getElem? hu2), fun j v hv => ?_⟩
            have := (World.cells?_some (hget i u hu2).1).2.2 j (by rw [← hsz u (List.mem_of_getElem? hu2)]; exact (List.getElem?_eq_some_iff.1 hv).1)
            rw [add_add, hv] at this
            simpa using this) j v hj
          simpa using this
        · rw [hels]
          refine hk _ ?_
          rw [hsum]
          have := hbk.sl (elems.map (·.1)) (rest.map (·.1))
          rw [List.map_map] at this
          first
            | exact this
            | (refine Nat.le_trans ?_ (hbk.sl _ _); rw [List.map_map]; exact Nat.le_refl _)
    · rename_i fs hu
      obtain ⟨xs, m, _, rfl, hcl, hxl, hf⟩ := DataW.trod_struct hu h
      obtain ⟨k1, k2, k3⟩ := kid_struct hl ht hu
      have hcut := cut_flat (fs.toList.map fun f => P.cellsOf f.type) cs (by rw [hcl, k2])
      refine exLsW_mk _ _ (xs.map fun z => bk z.1) _ ?_ (by simp [hxl]) ?_ (fun m hm => by
        rw [hcut]
        refine hk m (Nat.le_trans (Nat.succ_le_succ hm) ?_)
        have := hbk.agg (xs.map (·.1))
        rw [List.map_map] at this
        exact this)
      · simp
      · intro i t y b h1 h2 h3 K' hK'
        simp only [List.getElem?_map, Option.map_eq_some_iff] at h1
        obtain ⟨f, hfi, rfl⟩ := h1
        have hi : i < fs.toList.length := (List.getElem?_eq_some_iff.1 hfi).1
        simp only [List.length_map, List.getElem?_map, List.getElem?_range hi, Option.map_some, Option.some.injEq] at h2
        have e3 := k3 i f hfi
        rw [← List.map_take, ← e3] at h2
        have e4 : (fs.toList.map fun f => P.cellsOf f.type).getD i 0 = P.cellsOf f.type := by
          rw [List.getD_eq_getElem?_getD, List.getElem?_map, hfi]; rfl
        rw [e4] at h2
        have h5 := hf i f (by simpa using hfi)
        rw [h2] at h5
        have h6 : i < xs.length := by rw [hxl]; simpa using hi
        rw [List.getElem?_eq_getElem h6] at h5
        rw [List.getElem?_map, List.getElem?_eq_getElem h6] at h3
        have h7 := Option.some.inj h3
        exact ih m f.type y _ _ (k1 f (List.mem_of_getElem? hfi)) h5 fun m hm => hK' m (by rw [← h7]; exact hm)
    · exact ⟨cs, hk 0 (hbk.one _)⟩
theorem rdAW (hbk : Bulk bk) (hl : laidOutB P = true) {r : Reach} {b0 : Nat} (n : Nat) : ∀ (ts : List TypeId) (vs : List Value) (ds : List (DataW H)) (ps : List MemPlace) (K : List Value → Nat → Prop), ts.all (plainB P) = true → (∀ (j : Nat) t v, ts[j]? = some t → vs[j]? = some v → Value.okWide P w r b0 t v) →
    DataW.TrodAll enc P w base spare held ts vs ds ps → (∀ m, m ≤ (ds.map bk).sum → K vs m) → RdAW P w n ts K
  | [], [], [], ps, K, _, _, _, hk => hk 0 (Nat.zero_le _)
  | t :: ts, v :: vs, d :: ds, ps, K, hp, hv, ⟨p, q, ⟨fuel, h1⟩, h2, _⟩, hk => by
    simp only [List.all_cons, Bool.and_eq_true] at hp
    obtain ⟨p1, p2, p3⟩ := plain_of hp.1
    rw [RdAW]
    refine rdW hbk hl n fuel t _ _ _ p1 h1 fun m hm => ?_
    refine rdAW hbk hl n ts vs ds q _ hp.2 (fun j t v h3 h4 => hv (j + 1) t v h3 h4) h2 fun m' hm' => ?_
    rw [ofC_eq p3 (hv 0 t v rfl rfl)]
    exact hk _ (by simp only [List.map_cons, List.sum_cons]; simp only at hm; omega)
end
end
end Go.Vc
/- From a contract of a law's function to its second form. -/
namespace Go.Vc
open Go Go.ChangeShapes Go.WideShapes Go.WideElems
noncomputable section
theorem law_liftU {C : Checked} {os : Os} {H : Type} {enc : TypeId × Value → H} (f : FuncId) (fn : Func) {s : ChangeSpec} {kk : (H : Type) → List (DataW H) → Bool} (n : Nat) {t0 : TypeId} (own : ownKnob C.prog.godebug = none) (started : os.Started) (noInit : C.prog.inits.idxOf? f = none) (hfn : C.prog.funcs[f]? = some fn)
    (hl : laidOutB C.prog = true) (hpl : fn.params.toList.all (plainB C.prog) = true) (hsv : s.vars = []) (hrt : fn.resultTypes = #[t0]) (hb : C.prog.underlying t0 = some .bool)
    (hsp : ∀ ds : List (DataW H), ds.length = fn.params.toList.length → s.fn H ds = { results := [.lit (.bool true)], args := ds })
    (bk : DataW H → Nat) (hbk : Bulk bk) (bd : Nat) (hbd : ∀ ds : List (DataW H), kk H ds = true → (ds.map bk).sum ≤ bd) {F : Stop.Interp}
    (witness : ∃ (w : World) (tape : Tape) (i : Input), w.os = os ∧ (w.forCall tape i).Shaped C.prog ∧ i.vars = [] ∧ Input.okWide C.prog (w.forCall tape i) .any w.heap.size f i ∧
      ({ OpenSpec.ofChange s with cond := some kk } : OpenSpec).pre6 enc C.prog fn [] false (w.forCall tape i).memory i.args ∧ ({} : Assume).holds C.prog (lone (Frame.enter C.prog f i.args .normal) [] (w.forCall tape i)))
    (contract : ∀ (W : World) (args : Array Value), RdAW C.prog W n fn.params.toList (fun l m => args.toList = l ∧ m ≤ bd) → Calls C.prog f args W fun e W' => e = .returned (.bool true) ∧ Chg [] W W') :
    ReturnsInHanded {} C os f .any (({ OpenSpec.ofChange s with cond := some kk } : OpenSpec).pre6 enc C.prog fn [] false) ((({ OpenSpec.ofChange s with cond := some kk } : OpenSpec).at F).post enc C.prog fn false true false false) := by
  refine returnsInHanded_of_cond (s := { OpenSpec.ofChange s with cond := some kk }) (k := kk) rfl own started noInit hfn witness ?_
  intro W base args ds gs before hval hW _ hkk _
  have hW' := hW
  obtain ⟨p, q, hA, hV, rfl, hfz, hnd⟩ := hW
  change DataW.TrodVars enc C.prog W (fun _ => true) s.vars gs q at hV
  rw [hsv] at hV
  obtain ⟨rfl, rfl⟩ := trodVars_none hV
  have hlen := trodAll_len hA
  rw [List.append_nil] at hkk
  have hrd := rdAW hbk hl n fn.params.toList args.toList ds p (fun l m => args.toList = l ∧ m ≤ bd) hpl (fun j t v h1 h2 => hval j t v (by simpa using h1) (by simpa using h2)) hA fun m hm => ⟨rfl, Nat.le_trans hm (hbd ds hkk)⟩
  refine (contract W args hrd).mono fun e W' ⟨he, hc⟩ => ⟨_, he, ?_⟩
  have hbl := hc.below
  have hlt := hW'.lt
  simp only [List.append_nil] at hlt
  have hspec : s.fn H (ds ++ []) = { results := [.lit (.bool true)], args := ds } := by rw [List.append_nil]; exact hsp ds hlen
  have hR : ∀ (b : Nat) (sp : Nat → Bool) (hd : Bool), DataW.TrodAll enc C.prog W' b sp hd fn.resultTypes.toList ((Value.bool true).resultList fn.resultTypes.size) (s.fn H (ds ++ [])).results [] := fun b sp hd => by
    rw [hspec, hrt]
    exact trodAll_mk1 (Go.RowKit.shut_bool hb true)
  have hG : ∀ sp : Nat → Bool, (∀ x ∈ p, sp x.block = true) → DataW.TrodAll enc C.prog W' 0 sp true fn.params.toList args.toList (s.fn H (ds ++ [])).args p := fun sp hs => by
    rw [hspec]
    exact trodAll_chg hl hbl hpl hlt hs hA
  have hVr : ∀ sp : Nat → Bool, DataW.TrodVars enc C.prog W' sp s.vars (s.fn H (ds ++ [])).vars [] := fun sp => by
    rw [hspec, hsv]
    rfl
  refine ⟨ds, [], p ++ [], [], p, [], hW', hR _ _ _, hG _ (fun x hx => by simpa using hlt x hx), hVr _, World.keptBut_mono (fun x hx => ⟨hx, .inr (by simpa using hx)⟩) (hbl.frame _), fun _ => ?_⟩
  refine ⟨Go.RowKit.ok_one hrt rfl (Go.RowKit.okWide_bool_mk hb true), _, _, ([] ++ p) ++ [], ⟨[] ++ p, [], trodAll_append (hG _ (fun _ _ => rfl)) (hR _ _ _), hVr _, rfl, ?_, ?_⟩, ?_⟩
  · intro b off hx
    have h1 := hlt (.cell b off) (by simpa using hx)
    rw [hbl.frozen (p := ⟨b, off, none⟩) h1]
    exact hfz b off (by simpa using hx)
  · intro ha
    simpa using hnd ha
  · intro x hx _
    simpa using hx
end
end Go.Vc
