/- Vault: how many sectors are used; the changes of names, as closures. -/
import Derived.Test.YtiagjabdfppgkaaGreatUa
set_option linter.unusedVariables false
set_option linter.unusedSimpArgs false
set_option maxRecDepth 100000
namespace Go.Proofs.YtiagjabdfppgkaaGreat
open Go Go.Vc Go.Vault

def evL (d : Dk) (e : MapEntry) : Nat := match e.val with
  | .int _ k => d.len k.toNat
  | _ => 0
theorem sum_perm {l l' : List Nat} (h : l.Perm l') : l.sum = l'.sum := h.sum_nat
theorem used_spec (x : DW) (d : Dk) (hok : x.Ok d) (hu : (d.used : Int) ≤ 9223372036854775807) (w : World) (st : Std w (dkL x d)) : Calls Tryz.prog 82 #[.pointer (some ⟨x.b, 0, none⟩)] w fun e w' => e = .returned (.int .i64 (d.used : Int)) ∧ Hp [] w w' [] := by
  apply used.ok; unfold used.vc
  have H0 := Hp.startL st
  have hm : MapAt strKey w x.mn x.na := H0.ok (.smap x.mn x.na) (by simp [dkL])
  obtain ⟨es, clock, hb, hr, hn, ho⟩ := hm
  have hbl := (Array.getElem?_eq_some_iff.1 hb).1
  have hvals : es.toList.map (·.val) = x.na.map (·.2) := by
    have := congrArg (List.map Prod.snd) hr
    simpa [List.map_map, Function.comp_def] using this
  have hval : ∀ e ∈ es.toList, ∃ k : Nat, e.val = .int .i64 (k : Int) ∧ k < d.files.length := by
    intro e he
    have h1 : e.val ∈ x.na.map (·.2) := hvals ▸ List.mem_map.2 ⟨e, he, rfl⟩
    obtain ⟨p, hp, hp2⟩ := List.mem_map.1 h1
    obtain ⟨q, hq, rfl⟩ := List.mem_map.1 (hok.na.mem_iff.1 hp)
    exact ⟨q.file, hp2.symm, hok.dk.file q hq⟩
  have htot : (es.toList.map (evL d)).sum = d.used := by
    have e1 : es.toList.map (evL d) = (es.toList.map (·.val)).map fun v => match v with | .int _ k => d.len k.toNat | _ => 0 := by
      rw [List.map_map]; rfl
    rw [e1, hvals, sum_perm ((hok.na.map _).map _)]
    simp only [nvl, List.map_map, Dk.used]
    congr 1
  have K0 := Hp.start w
  have hat : ∀ {w' : World} {L : List Asn}, Hp [] w w' L → w'.heap[x.mn]? = some (.map es clock) := fun K => by rw [K.chg.2.2.2.2 x.mn hbl (by simp)]; exact hb
  simp only [dkL] at H0
  refine onP_mk rfl ?_
  replace st := st
  have H := H0
  ((repeat apply Exists.intro); first | refine ⟨H.ld (by exact ⟨rfl, rfl, rfl, rfl⟩) (by first | exact sclInt | exact sclBool | exact sclStr | exact sclMSI | exact sclSF | exact sclPF | exact sclSS | exact sclMIB | exact sclSC | exact sclC) (by repeat first | exact .head _ | refine .tail _ ?_) rfl, ?_⟩)
  clear H
  refine K0.rng (by exact ⟨rfl, rfl, rfl, rfl⟩) undMSI hb ?_
  intro it w1 K
  refine LoopP.mk (fun (m : Nat) (s : Int) (w' : World) => ∃ (seen : Array Nat) (L : List Asn), m = (leftL es seen).length ∧ s + (((leftL es seen).map (evL d)).sum : Int) = d.used ∧ 0 ≤ s ∧ Hp [] w w' (objA it (.mapIter (some x.mn) clock seen clock) :: L)) (leftL es #[]).length ⟨#[], _, rfl, by rw [leftL_start, htot]; omega, by omega, K⟩ ?_
  clear K w1
  rintro m s w1 next ⟨seen, L, rfl, hs, hs0, K⟩ hnext
  refine K.nxt (by exact ⟨rfl, rfl, rfl, rfl⟩) (hat K) ho hn ?_ ?_
  · intro h0
    rw [h0] at hs
    simp at hs
    rw [hs]
    exact ⟨rfl, K.done⟩
  · intro e w2 he hp K2 hent
    obtain ⟨k, hk, hlt⟩ := hval e he
    obtain ⟨f, g, h1, h2, h3⟩ := hok.at hlt
    rw [hk] at hent
    have hsum := sum_perm (hp.map (evL d))
    simp only [List.map_cons, List.sum_cons] at hsum
    have hek : evL d e = g.now.length := by
      rw [evL, hk]
      simp only [Int.toNat_natCast, Dk.len, h3]
    rw [hek] at hsum
    have hlen : (leftL es (seen.push e.born)).length < (leftL es seen).length := by
      have := hp.length_eq
      simp only [List.length_cons] at this
      omega
    have H := H0.ext K2.done
    rw [List.nil_append] at H
    refine ⟨_, (k : Int), _, hent, ?_⟩
    refine onP_mk rfl ?_
    ((repeat apply Exists.intro); first | refine ⟨H.ld (by exact ⟨rfl, rfl, rfl, rfl⟩) (by first | exact sclInt | exact sclBool | exact sclStr | exact sclMSI | exact sclSF | exact sclPF | exact sclSS | exact sclMIB | exact sclSC | exact sclC) (by repeat first | exact .head _ | refine .tail _ ?_) rfl, ?_⟩)
    obtain ⟨ad, ha, hl⟩ := H.ldO (P := Tryz.prog) (w' := w2) (t := 79) (o := Int.toNat (k : Int) * 1) (by exact ⟨rfl, rfl, rfl, rfl⟩) sclPF (.tail _ (.head _)) (by rw [Int.toNat_natCast, Nat.mul_one]; exact ptrs_get h1)
    refine onP_mk ha ⟨⟨by omega, by omega⟩, _, hl, ?_⟩
    refine onP_mk rfl ?_
    have m1 : Asn.blk f.b [.slice f.an g.now.length f.cn, .slice f.af g.firm.length f.cf, .map (some f.bm)] 97 ∈ dkR x d := by
      simp only [dkR]
      exact List.mem_append_left _ ((filesL_get h1 h2).mem_iff.2 (List.mem_append_left _ (.head _)))
    refine ⟨_, _, _, H.ld (by exact ⟨rfl, rfl, rfl, rfl⟩) sclSS (.tail _ (.tail _ (.tail _ (.tail _ (.tail _ m1))))) rfl, ?_⟩
    refine ⟨inR64.2 (by omega), ?_⟩
    exact hnext _ _ _ hlen ⟨_, _, rfl, by omega, by omega, K2⟩
/-! ### The closures -/
theorem callX_fn {P : Program} {g : FuncId} {fn : Func} {c : Code} {fi ca : Array Value} {args : List Value} {w : World} {R : Ending → World → Prop} (h : P.funcs[g]? = some fn) (hb : fn.body = some c) (hc : CallV P g (fi.toList ++ args ++ ca.toList) w R) : CallX P (.func (.func g) fi ca) args w R := by
  unfold CallX; simp only [h, hb]; exact hc
theorem Hp.del {P : Program} {B : List Nat} {w0 w w' : World} {L : List Asn} {t kT eT : TypeId} {z : Value} {b : Nat} {al : List (ByteArray × Value)} (T : MapT P strKey t kT eT z) {ts : Array TypeId} {ty : TypeId} (hts : ts[0]? = some t) (H : Hp B w0 w (.smap b al :: L)) (e : Eqw w w') {x : ByteArray} {G : World → Prop}
    (kk : ∀ w1, Hp B w0 w1 (.smap b (adel al x) :: L) → G w1) : ∃ w1, Del P ts ty w' (.map (some b)) (.string x) w1 ∧ G w1 := by
  obtain ⟨w1, h1, h2, h3⟩ := del_map (ty := ty) T hts ((H.go e).ok _ (.head _)) x
  exact ⟨w1, h1, kk w1 ((H.go e).set h3 h2 fun k hk => .inl hk)⟩
def onA (al : List (ByteArray × Value)) : Ch → List (ByteArray × Value)
  | .create n k => aput al n (.int .i64 (k : Int))
  | .rename a b k => aput (adel al a) b (.int .i64 (k : Int))
  | .remove n => adel al n
theorem onA_perm {l : List Nm} (h : Rising l) {al : List (ByteArray × Value)} (p : al.Perm (nvl l)) : ∀ c : Ch, (onA al c).Perm (nvl (c.on l))
  | .create n k => nvl_put h p ⟨n, k⟩
  | .rename a b k => nvl_put (rising_without h a) (nvl_del h p a) ⟨b, k⟩
  | .remove n => nvl_del h p n
theorem createC_spec (x : CW) (n : ByteArray) (k : Nat) (b : Nat) (al : List (ByteArray × Value)) (w : World) (st : Std w (.smap b al :: chL x (.create n k))) : Calls Tryz.prog 88 #[.map (some b), .pointer (some ⟨x.k, 0, none⟩), .pointer (some ⟨x.n, 0, none⟩)] w fun e w' =>
    e = .returned (.tuple #[]) ∧ Hp (feet (.smap b al :: chL x (.create n k))) w w' (.smap b (onA al (.create n k)) :: chL x (.create n k)) := by
  apply createC.ok; unfold createC.vc
  have H := Hp.startL st
  generalize hB : feet (.smap b al :: chL x (.create n k)) = B at H ⊢
  simp only [chL] at H
  refine ⟨_, onP_mk rfl (H.ld (by exact ⟨rfl, rfl, rfl, rfl⟩) sclStr (.tail _ (.tail _ (.head _))) rfl), ?_⟩
  refine ⟨_, onP_mk rfl (H.ld (by exact ⟨rfl, rfl, rfl, rfl⟩) sclInt (.tail _ (.head _)) rfl), ?_⟩
  refine Hp.mupS mapSI H (by exact ⟨rfl, rfl, rfl, rfl⟩) ?_
  intro w1 H
  exact ⟨rfl, H⟩
theorem chX_spec (x : CW) (c : Ch) {m : Nat} (hc : c.Ok m) (b : Nat) (al : List (ByteArray × Value)) (w : World) (st : Std w (.smap b al :: chL x c)) : CallX Tryz.prog (chV x c) [.map (some b)] w fun e w' =>
    e = .returned (.tuple #[]) ∧ Hp (feet (.smap b al :: chL x c)) w w' (.smap b (onA al c) :: chL x c) := by
  cases c with
  | create n k => exact callX_fn Tryz.func88 rfl (callV (createC_spec x n k b al w st) fun _ _ h => h)
  | rename n m k => exact hc.elim
  | remove n => exact hc.elim

theorem Dk.change_names (d : Dk) (c : Ch) : (d.change c).names = c.on d.names := by simp [Dk.change, Dk.names, ons]
theorem chsL_snoc {xs : List CW} {cs : List Ch} (h : xs.length = cs.length) (x : CW) (c : Ch) : chsL (xs ++ [x]) (cs ++ [c]) = chsL xs cs ++ chL x c := by
  simp [chsL, List.zipWith_append h]
theorem chVs_snoc {xs : List CW} {cs : List Ch} (h : xs.length = cs.length) (x : CW) (c : Ch) : chVs (xs ++ [x]) (cs ++ [c]) = chVs xs cs ++ [chV x c] := by
  simp [chVs, List.zipWith_append h]
theorem perm_c {a b c d e : Asn} {R C : List Asn} : (a :: b :: c :: d :: e :: (R ++ C)).Perm ((c :: C) ++ (a :: b :: d :: e :: R)) := by
  refine (perm_pull [a, b] c _).trans ?_
  refine List.Perm.cons _ ?_
  exact (List.perm_append_comm (l₁ := a :: b :: d :: e :: R) (l₂ := C))
theorem _root_.Go.Vault.Dk.Ok.dies {d : Dk} (h : d.Ok) : d.dies.Ok := by
  unfold Dk.dies
  split
  · exact ⟨h.room, h.files, h.firm, h.chs, h.rise, by have := h.armed; show (((d.armed - 1 : Nat)) : Int) ≤ _; omega, h.denied⟩
  · exact h
theorem _root_.Go.Vault.Dk.Ok.denies {d : Dk} (h : d.Ok) : d.denies.Ok := ⟨h.room, h.files, h.firm, h.chs, h.rise, h.armed, by have := h.denied; show (((d.denied - 1 : Nat)) : Int) ≤ _; omega⟩
theorem _root_.Go.Vault.Dk.Ok.change {d : Dk} (h : d.Ok) {c : Ch} (hc : c.Ok d.files.length) : (d.change c).Ok :=
  ⟨h.room, h.files, h.firm, fun e he => by
    rcases List.mem_append.1 he with he | he
    · exact h.chs e he
    · rw [List.mem_singleton.1 he]; exact hc, h.rise, h.armed, h.denied⟩
/-- 'dies' leaves all but two parts -/
theorem dies_eq (d : Dk) : ∃ a b, d.dies = { d with armed := a, dead := b } := by
  unfold Dk.dies
  split
  · exact ⟨_, _, rfl⟩
  · exact ⟨_, _, rfl⟩
theorem DW.Ok.dies {x : DW} {d : Dk} (h : x.Ok d) : x.Ok d.dies := by
  have h2 := h.dk.dies
  obtain ⟨a, b, e⟩ := dies_eq d
  rw [e] at h2 ⊢
  exact ⟨h2, h.fl, h.cl, h.keys, h.na, h.fi⟩
theorem DW.Ok.denies {x : DW} {d : Dk} (h : x.Ok d) : x.Ok d.denies := ⟨h.dk.denies, h.fl, h.cl, h.keys, h.na, h.fi⟩
theorem DW.Ok.change {x : DW} {d : Dk} (h : x.Ok d) {c : Ch} (hc : c.Ok d.files.length) (cw : CW) (ca : Option Addr) (cc : Nat) : ({ x with na := onA x.na c, ca := ca, cc := cc, cs := x.cs ++ [cw] } : DW).Ok (d.change c) :=
  ⟨h.dk.change hc, h.fl, by simp [Dk.change, h.cl], h.keys, by rw [Dk.change_names]; exact onA_perm h.dk.names h.na c, h.fi⟩

set_option maxHeartbeats 400000 in
theorem drenameC_spec (x : DW) (d : Dk) (hok : x.Ok d) (hl : d.chs.length ≤ 1073741824) (cw : CW) (n : ByteArray) (k : Nat) (hc : Ch.Ok d.files.length (.create n k)) (w : World) (st : Std w (dkL x d ++ chL cw (.create n k))) :
    Calls Tryz.prog 87 #[.pointer (some ⟨x.b, 0, none⟩), chV cw (.create n k)] w fun e w' => e = .returned (.int .i64 (d.change (.create n k)).dies.code) ∧ ∃ x', x'.b = x.b ∧ x'.Ok (d.change (.create n k)).dies ∧ Hp (feet (dkL x d ++ chL cw (.create n k))) w w' (dkL x' (d.change (.create n k)).dies) := by
  apply drenameC.ok (some ⟨x.b, 0, none⟩) (some ⟨cw.k, 0, none⟩) (some ⟨cw.n, 0, none⟩); unfold drenameC.vc
  have H := Hp.startL st
  generalize hB : feet (dkL x d ++ chL cw (.create n k)) = B at H ⊢
  simp only [dkL, List.cons_append] at H
  refine onP_mk rfl ?_
  ((repeat apply Exists.intro); first | refine ⟨H.ld (by exact ⟨rfl, rfl, rfl, rfl⟩) (by first | exact sclInt | exact sclBool | exact sclStr | exact sclMSI | exact sclSF | exact sclPF | exact sclSS | exact sclMIB | exact sclSC | exact sclC) (by repeat first | exact .head _ | refine .tail _ ?_) rfl, ?_⟩)
  replace H := H.perm perm_c
  refine callV (createC_spec cw n k x.mn x.na w H.std1) ?_
  rintro e w1 ⟨rfl, H'⟩; replace H := H.useL H'; clear H'
  refine ⟨rfl, ?_⟩
  replace H := H.perm perm_c.symm
  refine onP_mk rfl ?_
  ((repeat apply Exists.intro); first | refine ⟨H.ld (by exact ⟨rfl, rfl, rfl, rfl⟩) (by first | exact sclInt | exact sclBool | exact sclStr | exact sclMSI | exact sclSF | exact sclPF | exact sclSS | exact sclMIB | exact sclSC | exact sclC) (by repeat first | exact .head _ | refine .tail _ ?_) rfl, ?_⟩)
  intro b w2 hn
  replace H := H.new (by exact ⟨rfl, rfl, rfl, rfl⟩) hn; clear hn
  refine Hp.app eltC (by omega) H.pull5 (by exact ⟨rfl, rfl, rfl, rfl⟩) (Blk.src undSC ((H.go (w' := w2.drew) (by exact ⟨rfl, rfl, rfl, rfl⟩)).blk (.head _)) rfl rfl) (by simp only [maxLen]; omega) (by omega) ?_
  clear H
  intro a' c' w3 H
  replace H := H.drop1
  refine onP_mk rfl ?_
  ((first | (apply Hp.st; (case H => first | exact H | exact H.pull1 | exact H.pull2 | exact H.pull3 | exact H.pull4 | exact H.pull5 | exact H.pull6 | exact H.pull7); (case e => exact ⟨rfl, rfl, rfl, rfl⟩); (case S => exact (by first | exact sclInt | exact sclBool | exact sclStr | exact sclMSI | exact sclSF | exact sclPF | exact sclSS | exact sclMIB | exact sclSC | exact sclC)); (case hv => exact rfl); (case h1 => exact rfl); (case ho => exact Nat.le_of_ble_eq_true rfl); (case hc => exact rfl))); clear H; intro _ H; (try simp only [over, List.set_cons_zero, List.set_cons_succ] at H))
  rename_i w4
  have hok' := hok.change hc cw a' c'
  have e1 : dkL { x with na := onA x.na (.create n k), ca := a', cc := c', cs := x.cs ++ [cw] } (d.change (.create n k)) =
      .blk x.b [.int .i64 (d.room : Int), .slice x.fa d.files.length x.fc, .map (some x.mn), .map (some x.mf), .slice a' (d.chs.length + 1) c', .int .i64 (d.armed : Int), .int .i64 (d.denied : Int), .bool d.dead] 76 ::
      .own 79 1 x.fa d.files.length x.fc (ptrs x.fs) :: .smap x.mn (onA x.na (.create n k)) :: .smap x.mf x.fi :: .own 82 1 a' (d.chs.length + 1) c' (chVs x.cs d.chs ++ [chV cw (.create n k)]) :: (dkR x d ++ chL cw (.create n k)) := by
    simp only [dkL, dkR, Dk.change, chsL_snoc hok.cl, chVs_snoc hok.cl, List.length_append, List.length_cons, List.length_nil, List.append_assoc]
  have H4 : Hp B w w4 (dkL { x with na := onA x.na (.create n k), ca := a', cc := c', cs := x.cs ++ [cw] } (d.change (.create n k))) := by
    rw [e1]
    ((try dsimp only [List.cons_append, List.nil_append]); (try dsimp only [List.cons_append, List.nil_append] at H); refine Hp.perm H ?_; (repeat (apply perm_step; (focus first | exact perm_p0 | exact perm_p1 | exact perm_p2 | exact perm_p3 | exact perm_p4 | exact perm_p5 | exact perm_p6 | exact perm_p7 | exact perm_p8 | exact perm_p9))); exact List.Perm.refl _)
  obtain ⟨y, hy, hyb⟩ : ∃ y : DW, y = { x with na := onA x.na (.create n k), ca := a', cc := c', cs := x.cs ++ [cw] } ∧ y.b = x.b := ⟨_, rfl, rfl⟩
  rw [← hy] at hok' H4
  have hd := done_spec y _ hok'.dk.armed w4 H4.std
  rw [hyb] at hd
  refine callV hd ?_
  rintro e w5 ⟨rfl, H'⟩
  exact ⟨_, rfl, rfl, y, hyb, hok'.dies, H4.useAll H'⟩


end Go.Proofs.YtiagjabdfppgkaaGreat
