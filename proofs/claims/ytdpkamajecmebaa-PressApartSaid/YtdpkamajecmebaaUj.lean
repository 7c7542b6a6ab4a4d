/- Vault: the document's Write. -/
import Derived.Test.YtdpkamajecmebaaUi
set_option linter.unusedVariables false
set_option linter.unusedSimpArgs false
set_option maxRecDepth 100000
namespace Go.Proofs.Ytdpkamajecmebaa
open Go Go.Vc Go.Vault

theorem add_zero (ad : Addr) : ad.add 0 = ad := by unfold Addr.add; split <;> simp_all
theorem Hp.cpyO {P : Program} {B : List Nat} {w0 w w' : World} {L : List Asn} {e eT dT tx ty : TypeId} {sz : Nat} {a : Option Addr} {n c m dl dc : Nat} {xs news : List Value} {x : Value} {ad : Addr} (H : Hp B w0 w (.own e sz a n c xs :: L)) (eq : Eqw w w') (hd : P.underlying dT = some (.slice eT)) (hs : sizeV P eT = some 1)
    (ha : a = some ad) (hx : Src P 1 tx x m news w') (hm : m ≤ dl) (hfit : m ≤ xs.length) {G : Int → World → Prop}
    (k : ∀ w1, Hp B w0 w1 (.own e sz a n c (over news 0 xs) :: L) → G (m : Int) w1) : ∃ (i : Int) (w1 : World), Cpy P #[dT, tx] ty w' (.slice a dl dc) x (.int .i64 i) w1 ∧ G i w1 := by
  have hO : Own w' 0 e sz a n c xs := (H.go eq).ok _ (.head _)
  have hl := hx.newsLen
  obtain ⟨w1, h2, h3, h4⟩ := Own.stC (P := P) hO ha (List.all_eq_true.2 hx.one) (o := 0) (by omega)
  rw [add_zero] at h2
  refine ⟨(m : Int), w1, ?_, k w1 ((H.go eq).set h4 h3 fun k hk => .inl hk)⟩
  have hz : (sizeOf eT).run P w' = .ok 1 w' := run_size hs w'
  have hmin : Nat.min m dl = m := Nat.min_eq_left hm
  have hc := hx.cells
  subst ha
  simp only [Cpy, Builtin.copy_]
  simp [run_und hd, hx.len w', hmin, hz, hc, h2, goInt]
theorem zeroU8 : zeroOf Go.Proofs.Try.prog 5 = some (.int .u8 0) := by kernel_rfl
theorem made512 : (madeCells (Value.int .u8 0).cells (Int.toNat 512 * 1)).toList = bcells zsec := by kernel_rfl
theorem undU8 : Go.Proofs.Try.prog.underlying 5 = some (.int .u8) := by kernel_rfl
theorem undString : Go.Proofs.Try.prog.underlying 9 = some .string := by kernel_rfl
theorem strs_append (a b : List (List UInt8)) : strs (a ++ b) = strs a ++ strs b := by simp [strs]
theorem strs_ones (l : List (List UInt8)) : (strs l).all (·.oneCell') = true := by
  simp only [strs, List.all_map, List.all_eq_true]; intro b hb; rfl
theorem natC_ones (l : List Nat) : (natC l).all (·.oneCell') = true := by
  simp only [natC, List.all_map, List.all_eq_true]; intro b hb; rfl
theorem strs_set (l : List (List UInt8)) (k : Nat) (s : List UInt8) : (strs l).set k (sv s) = strs (l.set k s) := by simp [strs, List.map_set]
theorem strs_at {l : List (List UInt8)} {k : Nat} {s : List UInt8} (h : l[k]? = some s) : (strs l)[k]? = some (sv s) := by simp [strs, h]
theorem fileCs_set {xs : List RF} {fs : List Fl} (h : xs.length = fs.length) {k : Nat} (hk : k < fs.length) (x : RF) (f : Fl) : over (fileC x f) (k * 3) (fileCs xs fs) = fileCs (xs.set k x) (fs.set k f) := by
  have hk1 : k < xs.length := by omega
  have e1 : fileCs xs fs = fileCs (xs.take k) (fs.take k) ++ (fileC xs[k] fs[k] ++ fileCs (xs.drop (k + 1)) (fs.drop (k + 1))) := by
    conv => lhs; rw [← List.take_append_drop k xs, ← List.take_append_drop k fs]
    rw [List.drop_eq_getElem_cons hk1, List.drop_eq_getElem_cons hk]
    simp only [fileCs]
    rw [List.zipWith_append (by simp; omega), List.flatten_append, List.zipWith_cons_cons, List.flatten_cons]
  have e2 : fileCs (xs.set k x) (fs.set k f) = fileCs (xs.take k) (fs.take k) ++ (fileC x f ++ fileCs (xs.drop (k + 1)) (fs.drop (k + 1))) := by
    rw [List.set_eq_take_append_cons_drop, if_pos hk1, List.set_eq_take_append_cons_drop, if_pos hk]
    simp only [fileCs]
    rw [List.zipWith_append (by simp; omega), List.flatten_append, List.zipWith_cons_cons, List.flatten_cons]
  have h1 : (fileCs (xs.take k) (fs.take k)).length = k * 3 := by
    rw [fileCs_len (by simp; omega), List.length_take]; congr 1; omega
  rw [e1, e2, ← h1]
  exact over_app _ _ _ _ rfl
/-- a file put -/
theorem RD.put {F : List Nat} {w : World} {v : RV} {d : Dk} (h : RD F w v d) {k : Nat} (hk : k < d.files.length) {x' : RF} {f' : Fl} (h' : RFD F w x' f') (a : Option Addr) (c : Nat) (hf : SC F w a d.files.length c 3 (fileCs (v.fs.set k x') (d.files.set k f'))) :
    RD F w { v with fa := a, fc := c, fs := v.fs.set k x' } (d.put k f') := by
  have hk1 : k < v.fs.length := by rw [h.fl]; exact hk
  refine ⟨by simpa [Dk.put] using hf, by simp [Dk.put, h.fl], ?_, h.names, h.firm, h.since, h.sl, h.snap⟩
  intro i x f h1 h2
  simp only [Dk.put, List.getElem?_set] at h1 h2
  split at h1
  · rename_i e
    subst e
    rw [if_pos rfl] at h2
    rw [if_pos hk] at h2
    cases h1; cases h2
    exact h'
  · rename_i e
    rw [if_neg e] at h2
    exact h.each i x f h1 h2

structure Op where
  kind : Int
  n : Int
  name : ByteArray
  to : ByteArray
  b : List UInt8
  picks : List Int
structure OW where
  ba : Option Addr
  bc : Nat
  pa : Option Addr
  pc : Nat
def OW.val (ow : OW) (o : Op) : Value := .agg #[.int .i64 o.kind, .int .i64 o.n, .string o.name, .string o.to, .slice ow.ba o.b.length ow.bc, .slice ow.pa o.picks.length ow.pc]
structure OD (F : List Nat) (w : World) (ow : OW) (o : Op) : Prop where
  b : SC F w ow.ba o.b.length ow.bc 1 (bcells o.b)
  picks : SC F w ow.pa o.picks.length ow.pc 1 (ints o.picks)
theorem OD.chg0 {F : List Nat} {w w' : World} {ow : OW} {o : Op} (h : OD F w ow o) (hc : Chg [] w w') : OD F w' ow o := ⟨h.b.chg0 hc, h.picks.chg0 hc⟩

set_option maxHeartbeats 4000000 in
theorem rwritten_spec {F G0 : List Nat} {w : World} {v : RV} {d : Dk} (h : RD F w v d) (hF : ∀ k ∈ F, k < w.heap.size) (hok : d.Ok) {N : Nat} (few : d.Few N) (hN : N ≤ 536870000) {ow : OW} {o : Op} (ho : OD G0 w ow o) {k : Nat} (hk : d.find o.name = some k) (h0 : 0 ≤ o.n) (hn : o.n ≤ d.len k) (hb : o.b.length ≤ 512) :
    Calls Go.Proofs.Try.prog 72 #[v.val d, ow.val o] w (RPost F w (d.put k ((d.file k).write o.n.toNat o.b))) := by
  apply rwritten.ok; unfold rwritten.vc
  have hlt := hok.find hk
  obtain ⟨x, f, h1, h2, h3⟩ := h.at hlt
  have hfo := hok.files f (List.mem_of_getElem? h2)
  obtain ⟨c1, c2, c3, c4⟩ := fileCs_at h1 h2
  have hlen : d.len k = f.now.length := by rw [Dk.len, h3]
  have hnow : f.now.length ≤ N := few.now f (List.mem_of_getElem? h2)
  have hfl := few.files
  have hnl : d.names.length ≤ N + N := by have := d.names_len; have := few.firm; have := few.chs; omega
  rw [h3]
  have hsl : f.since.length ≤ f.now.length := by
    have : ∀ (l : List Nat) (lo N : Nat), l.Pairwise (· < ·) → (∀ n ∈ l, lo ≤ n ∧ n < N) → lo ≤ N → l.length ≤ N - lo := by
      intro l
      induction l with
      | nil => intro lo N _ _ _; simp
      | cons x r ih =>
        intro lo N hs hb hlo
        have hp := List.pairwise_cons.1 hs
        have hx := hb x (.head _)
        have := ih (x + 1) N hp.2 (fun n hn => ⟨hp.1 n hn, (hb n (.tail _ hn)).2⟩) (by omega)
        simp only [List.length_cons]; omega
    have := this f.since 0 f.now.length hfo.since (fun n hn => ⟨Nat.zero_le _, hfo.below n hn⟩) (Nat.zero_le _)
    omega
  have hiN : (o.n.toNat : Int) = o.n := by omega
  have H := Hp.start w
  intro bd w1 hn1; replace H := H.new (by exact ⟨rfl, rfl, rfl, rfl⟩) hn1; clear hn1
  intro bo w2 hn1; replace H := H.new (by exact ⟨rfl, rfl, rfl, rfl⟩) hn1; clear hn1
  intro bu w3 hn1; replace H := H.new (by exact ⟨rfl, rfl, rfl, rfl⟩) hn1; clear hn1
  ((repeat apply Exists.intro); first | refine ⟨H.ld (by exact ⟨rfl, rfl, rfl, rfl⟩) (by first | exact sclInt | exact sclBool | exact sclStr | exact rsclN | exact rsclF | exact rsclNN | exact rsclSS | exact rsclSI | exact rsclU) (by repeat first | exact .head _ | refine .tail _ ?_) rfl, ?_⟩ | refine ⟨H.ldA (by exact ⟨rfl, rfl, rfl, rfl⟩) (by first | exact raggD | exact raggF | exact raggO | exact raggN | exact raggA) (by repeat first | exact .head _ | refine .tail _ ?_) rfl rfl, ?_⟩)
  ((repeat apply Exists.intro); first | refine ⟨H.ld (by exact ⟨rfl, rfl, rfl, rfl⟩) (by first | exact sclInt | exact sclBool | exact sclStr | exact rsclN | exact rsclF | exact rsclNN | exact rsclSS | exact rsclSI | exact rsclU) (by repeat first | exact .head _ | refine .tail _ ?_) rfl, ?_⟩ | refine ⟨H.ldA (by exact ⟨rfl, rfl, rfl, rfl⟩) (by first | exact raggD | exact raggF | exact raggO | exact raggN | exact raggA) (by repeat first | exact .head _ | refine .tail _ ?_) rfl rfl, ?_⟩)
  refine callV (rfind_spec (h.chg0 H.chg).names (by omega) o.name) ?_
  rintro e w4 ⟨rfl, H'⟩; replace H := H.ext0 H'; clear H'
  have hf : nget d.names o.name = some k := hk
  rw [hf]
  refine ⟨_, rfl, ?_⟩
  refine Hp.mkS eltU8 H (by exact ⟨rfl, rfl, rfl, rfl⟩) (by omega) (by simp [maxLen]) (by omega) zeroU8 ?_
  clear H; intro a5 w5 H
  rw [made512] at H
  ((repeat apply Exists.intro); first | refine ⟨H.ld (by exact ⟨rfl, rfl, rfl, rfl⟩) (by first | exact sclInt | exact sclBool | exact sclStr | exact rsclN | exact rsclF | exact rsclNN | exact rsclSS | exact rsclSI | exact rsclU) (by repeat first | exact .head _ | refine .tail _ ?_) rfl, ?_⟩ | refine ⟨H.ldA (by exact ⟨rfl, rfl, rfl, rfl⟩) (by first | exact raggD | exact raggF | exact raggO | exact raggN | exact raggA) (by repeat first | exact .head _ | refine .tail _ ?_) rfl rfl, ?_⟩)
  have hne : a5 ≠ none := by
    rintro rfl
    have hO : Own w5 0 5 1 none (Int.toNat 512) (Int.toNat 512) (bcells zsec) := H.ok _ (.head _)
    rcases hO.2 with ⟨_, h, _⟩ | ⟨_, _, _, h, _⟩
    · simp at h
    · cases h
  obtain ⟨ad5, had5⟩ := Option.ne_none_iff_exists'.1 hne
  refine Hp.cpyO H (by exact ⟨rfl, rfl, rfl, rfl⟩) undSU8 sclU8.size had5 ((ho.chg0 H.chg).b.src undSU8 (bcells_ones _)) (by simp; omega) (by simp [bcells, zsec]; omega) ?_
  clear H; intro w6 H
  rw [over_pad hb] at H
  ((repeat apply Exists.intro); first | refine ⟨H.ld (by exact ⟨rfl, rfl, rfl, rfl⟩) (by first | exact sclInt | exact sclBool | exact sclStr | exact rsclN | exact rsclF | exact rsclNN | exact rsclSS | exact rsclSI | exact rsclU) (by repeat first | exact .head _ | refine .tail _ ?_) rfl, ?_⟩ | refine ⟨H.ldA (by exact ⟨rfl, rfl, rfl, rfl⟩) (by first | exact raggD | exact raggF | exact raggO | exact raggN | exact raggA) (by repeat first | exact .head _ | refine .tail _ ?_) rfl rfl, ?_⟩)
  obtain ⟨adF, haF, hldF⟩ := (h.chg0 H.chg).files.ldA (P := Go.Proofs.Try.prog) raggF (by omega) c4 rfl
  refine onP_mk haF ⟨⟨by simp only [fcode]; omega, by simp only [fcode]; omega⟩, _, _, _, _, _, _, _, _, _, by simp only [fcode, Int.toNat_natCast]; exact hldF, ?_⟩
  intro bf w7 hn1; replace H := H.new (by exact ⟨rfl, rfl, rfl, rfl⟩) hn1; clear hn1
  refine Hp.stA H (by exact ⟨rfl, rfl, rfl, rfl⟩) raggF (vs := fileC x f) rfl rfl (by simp) (cs' := fileC x f) rfl ?_
  clear H; intro w8 H
  simp only [fileC] at H
  intro bs w9 hn1; replace H := H.new (by exact ⟨rfl, rfl, rfl, rfl⟩) hn1; clear hn1
  replace H := H.reown 1 0 rfl (by simp)
  ((repeat apply Exists.intro); first | refine ⟨H.ld (by exact ⟨rfl, rfl, rfl, rfl⟩) (by first | exact sclInt | exact sclBool | exact sclStr | exact rsclN | exact rsclF | exact rsclNN | exact rsclSS | exact rsclSI | exact rsclU) (by repeat first | exact .head _ | refine .tail _ ?_) rfl, ?_⟩ | refine ⟨H.ldA (by exact ⟨rfl, rfl, rfl, rfl⟩) (by first | exact raggD | exact raggF | exact raggO | exact raggN | exact raggA) (by repeat first | exact .head _ | refine .tail _ ?_) rfl rfl, ?_⟩)
  have hD9 := (h.chg0 H.chg).each k x f h1 h2
  refine Hp.app eltStr (by omega) H (by exact ⟨rfl, rfl, rfl, rfl⟩) (hD9.now.src undStr (strs_ones _)) (by simp only [maxLen]; omega) (by omega) ?_
  clear H; intro a10 c10 w10 H
  simp only [List.nil_append, Nat.zero_add] at H ⊢
  obtain ⟨M, hM⟩ : ∃ M : List (List UInt8), M = if o.n.toNat = f.now.length then f.now ++ [[]] else f.now := ⟨_, rfl⟩
  have hMl : M.length ≤ f.now.length + 1 ∧ o.n.toNat < M.length := by rw [hM]; split <;> simp <;> omega
  have hwr : M.set o.n.toNat (pad o.b) = (f.write o.n.toNat o.b).now := by
    rw [hM]; simp only [Fl.write]
    split
    · rename_i e
      rw [e, List.set_append_right _ _ (Nat.le_refl _), Nat.sub_self]; rfl
    · rfl
  refine JoinP.mk (fun (s : Option Addr × Nat × Nat) (w' : World) => ∃ a11 c11, s = (a11, M.length, c11) ∧ Hp [] w w' [.own 9 1 a11 M.length c11 (strs M), .blk bf [.slice x.na f.now.length x.nc, .slice x.fa f.firm.length x.fc, .slice x.sa f.since.length x.sc] 106, .own 5 1 a5 (Int.toNat 512) (Int.toNat 512) (bcells (pad o.b)),
      .blk bu [.int .i64 0, .slice none 0 0, .slice none 0 0, .slice none 0 0, .slice none 0 0, .int .i64 0, .int .i64 0, .bool false] 44,
      .blk bo [.int .i64 o.kind, .int .i64 o.n, .string o.name, .string o.to, .slice ow.ba o.b.length ow.bc, .slice ow.pa o.picks.length ow.pc] 49,
      .blk bd [.int .i64 (d.room : Int), .slice v.fa d.files.length v.fc, .slice v.na d.names.length v.nc, .slice v.ia d.firm.length v.ic, .slice v.sa d.snaps.length v.sc, .int .i64 (d.armed : Int), .int .i64 (d.denied : Int), .bool d.dead] 44]) ?_ ?_
  · clear H
    rintro s w11 ⟨a11, c11, rfl, H⟩
    dsimp only
    ((repeat apply Exists.intro); first | refine ⟨H.ld (by exact ⟨rfl, rfl, rfl, rfl⟩) (by first | exact sclInt | exact sclBool | exact sclStr | exact rsclN | exact rsclF | exact rsclNN | exact rsclSS | exact rsclSI | exact rsclU) (by repeat first | exact .head _ | refine .tail _ ?_) rfl, ?_⟩ | refine ⟨H.ldA (by exact ⟨rfl, rfl, rfl, rfl⟩) (by first | exact raggD | exact raggF | exact raggO | exact raggN | exact raggA) (by repeat first | exact .head _ | refine .tail _ ?_) rfl rfl, ?_⟩)
    have hsvp : sv (pad o.b) = .string ⟨(pad o.b).toArray⟩ := rfl
    refine ⟨⟨(pad o.b).toArray⟩, b2s undSU8 undU8 undString (by rw [byteCells_mk]; exact (H.ownA (.tail _ (.tail _ (.head _)))).cells) (by
      have := pad_len hb
      show Int.toNat 512 = (pad o.b).toArray.size
      simp [this]), ?_⟩
    have hne2 : a11 ≠ none := by
      rintro rfl
      have hO : Own w11 0 9 1 none M.length c11 (strs M) := H.ok _ (.head _)
      rcases hO.2 with ⟨_, h, _⟩ | ⟨_, _, _, h, _⟩
      · omega
      · cases h
    obtain ⟨ad11, had11⟩ := Option.ne_none_iff_exists'.1 hne2
    refine onP_mk had11 ⟨⟨by omega, by omega⟩, ?_⟩
    refine Hp.stO1 (o := o.n.toNat * 1) H (by exact ⟨rfl, rfl, rfl, rfl⟩) sclStr had11 rfl rfl (by simp [strs]; omega) ?_
    clear H; intro w12 H
    rw [Nat.mul_one, ← hsvp, strs_set, hwr] at H
    have hMw : M.length = (f.write o.n.toNat o.b).now.length := by rw [← hwr, List.length_set]
    rw [hMw] at H ⊢
    intro b13 w13 hn1; replace H := H.new (by exact ⟨rfl, rfl, rfl, rfl⟩) hn1; clear hn1
    replace H := H.reown 3 0 rfl (by simp)
    ((repeat apply Exists.intro); first | refine ⟨H.ld (by exact ⟨rfl, rfl, rfl, rfl⟩) (by first | exact sclInt | exact sclBool | exact sclStr | exact rsclN | exact rsclF | exact rsclNN | exact rsclSS | exact rsclSI | exact rsclU) (by repeat first | exact .head _ | refine .tail _ ?_) rfl, ?_⟩ | refine ⟨H.ldA (by exact ⟨rfl, rfl, rfl, rfl⟩) (by first | exact raggD | exact raggF | exact raggO | exact raggN | exact raggA) (by repeat first | exact .head _ | refine .tail _ ?_) rfl rfl, ?_⟩)
    refine Hp.app eltRF (by omega) H (by exact ⟨rfl, rfl, rfl, rfl⟩) ((h.chg0 H.chg).files.src undRF (fileCs_ones _ _)) (by simp only [maxLen]; omega) (by omega) ?_
    clear H; intro a14 c14 w14 H
    simp only [List.nil_append, Nat.zero_add] at H ⊢
    replace H := H.drew
    ((repeat apply Exists.intro); first | refine ⟨H.ld (by exact ⟨rfl, rfl, rfl, rfl⟩) (by first | exact sclInt | exact sclBool | exact sclStr | exact rsclN | exact rsclF | exact rsclNN | exact rsclSS | exact rsclSI | exact rsclU) (by repeat first | exact .head _ | refine .tail _ ?_) rfl, ?_⟩ | refine ⟨H.ldA (by exact ⟨rfl, rfl, rfl, rfl⟩) (by first | exact raggD | exact raggF | exact raggO | exact raggN | exact raggA) (by repeat first | exact .head _ | refine .tail _ ?_) rfl rfl, ?_⟩)
    ((repeat apply Exists.intro); first | refine ⟨H.ld (by exact ⟨rfl, rfl, rfl, rfl⟩) (by first | exact sclInt | exact sclBool | exact sclStr | exact rsclN | exact rsclF | exact rsclNN | exact rsclSS | exact rsclSI | exact rsclU) (by repeat first | exact .head _ | refine .tail _ ?_) rfl, ?_⟩ | refine ⟨H.ldA (by exact ⟨rfl, rfl, rfl, rfl⟩) (by first | exact raggD | exact raggF | exact raggO | exact raggN | exact raggA) (by repeat first | exact .head _ | refine .tail _ ?_) rfl rfl, ?_⟩)
    ((repeat apply Exists.intro); first | refine ⟨H.ld (by exact ⟨rfl, rfl, rfl, rfl⟩) (by first | exact sclInt | exact sclBool | exact sclStr | exact rsclN | exact rsclF | exact rsclNN | exact rsclSS | exact rsclSI | exact rsclU) (by repeat first | exact .head _ | refine .tail _ ?_) rfl, ?_⟩ | refine ⟨H.ldA (by exact ⟨rfl, rfl, rfl, rfl⟩) (by first | exact raggD | exact raggF | exact raggO | exact raggN | exact raggA) (by repeat first | exact .head _ | refine .tail _ ?_) rfl rfl, ?_⟩)
    rw [← hiN]
    refine callV (radd_spec ((h.chg0 H.chg).each k x f h1 h2).since (by omega) hfo.since o.n.toNat) ?_
    rintro e w15 ⟨a15, c15, rfl, H'⟩; replace H := H.ext H'; clear H'
    simp only [List.cons_append, List.nil_append] at H
    refine ⟨_, _, _, rfl, ?_⟩
    refine ⟨H.ld (by exact ⟨rfl, rfl, rfl, rfl⟩) rsclSS (by repeat first | exact .head _ | refine .tail _ ?_) rfl, ?_⟩
    have hne3 : a14 ≠ none := by
      rintro rfl
      have hO : Own w15 0 106 3 none d.files.length c14 (fileCs v.fs d.files) := H.ok _ (.tail _ (.head _))
      rcases hO.2 with ⟨_, h, _⟩ | ⟨_, _, _, h, _⟩
      · omega
      · cases h
    obtain ⟨ad14, had14⟩ := Option.ne_none_iff_exists'.1 hne3
    refine onP_mk had14 ⟨⟨by simp only [fcode]; omega, by simp only [fcode]; omega⟩, ?_⟩
    obtain ⟨x', hx'⟩ : ∃ x' : RF, x' = ⟨a11, c11, x.fa, x.fc, a15, c15⟩ := ⟨_, rfl⟩
    have hfc : fileC x' (f.write o.n.toNat o.b) = [.slice a11 (f.write o.n.toNat o.b).now.length c11, .slice x.fa f.firm.length x.fc, .slice a15 (addN o.n.toNat f.since).length c15] := by rw [hx']; rfl
    simp only [fcode, Int.toNat_natCast]
    refine Hp.stO (o := k * 3) (v := .agg #[.slice a11 (f.write o.n.toNat o.b).now.length c11, .slice x.fa f.firm.length x.fc, .slice a15 (addN o.n.toNat f.since).length c15]) H.pull1 (by exact ⟨rfl, rfl, rfl, rfl⟩) had14 (by rw [raggF.size]; rfl) rfl (by simp only [Value.cells]; rw [fileCs_len h.fl]; simp only [List.size_toArray, List.length_cons, List.length_nil]; omega)
      (show over [.slice a11 (f.write o.n.toNat o.b).now.length c11, .slice x.fa f.firm.length x.fc, .slice a15 (addN o.n.toNat f.since).length c15] (k * 3) (fileCs v.fs d.files) = fileCs (v.fs.set k x') (d.files.set k (f.write o.n.toNat o.b)) from by rw [← hfc]; exact fileCs_set h.fl hlt x' _) ?_
    clear H; intro w16 H
    ((first | (apply Hp.st; (case H => first | exact H | exact H.pull1 | exact H.pull2 | exact H.pull3 | exact H.pull4 | exact H.pull5 | exact H.pull6 | exact H.pull7); (case e => exact ⟨rfl, rfl, rfl, rfl⟩); (case S => exact (by first | exact sclInt | exact sclBool | exact sclStr | exact rsclN | exact rsclF | exact rsclNN | exact rsclSS | exact rsclSI | exact rsclU)); (case hv => exact rfl); (case h1 => exact rfl); (case ho => exact Nat.le_of_ble_eq_true rfl); (case hc => exact rfl)) | (apply Hp.stA; (case H => first | exact H | exact H.pull1 | exact H.pull2 | exact H.pull3 | exact H.pull4 | exact H.pull5 | exact H.pull6 | exact H.pull7); (case e => exact ⟨rfl, rfl, rfl, rfl⟩); (case S => exact (by first | exact raggD | exact raggF | exact raggO | exact raggN | exact raggA)); (case hn => exact rfl); (case h1 => exact rfl); (case ho => exact Nat.le_of_ble_eq_true rfl); (case hc => exact rfl))); clear H; intro _ H; (try simp only [over, List.set_cons_zero, List.set_cons_succ] at H))
    rename_i w17
    refine ⟨_, _, _, _, _, _, _, _, _, _, _, _, _, _, _, _, H.ldA (by exact ⟨rfl, rfl, rfl, rfl⟩) raggD (.head _) rfl rfl, ?_⟩
    refine Hp.stA H.pull6 (by exact ⟨rfl, rfl, rfl, rfl⟩) raggD rfl rfl (by simp) rfl ?_
    clear H; intro w18 H
    refine ⟨_, _, _, _, _, _, _, _, _, _, _, _, _, _, _, _, H.ldA (by exact ⟨rfl, rfl, rfl, rfl⟩) raggD (.head _) rfl rfl, ?_⟩
    refine RPost.of H hF { v with fa := a14, fc := c14, fs := v.fs.set k x' } ?_ fun G hG hm => ?_
    · simp only [RV.val, Dk.put, List.length_set]; rfl
    · have hD := (h.chg0 H.chg).more hG
      have hE := hD.each k x f h1 h2
      refine hD.put hlt ⟨?_, ?_, ?_⟩ a14 c14 ?_
      · rw [hx']; exact hm _ _ _ _ _ _ (by repeat first | exact .head _ | refine .tail _ ?_)
      · rw [hx']; exact hE.firm
      · rw [hx']; exact hm _ _ _ _ _ _ (by repeat first | exact .head _ | refine .tail _ ?_)
      · exact hm _ _ _ _ _ _ (by repeat first | exact .head _ | refine .tail _ ?_)
  · intro J hJ
    ((repeat apply Exists.intro); first | refine ⟨H.ld (by exact ⟨rfl, rfl, rfl, rfl⟩) (by first | exact sclInt | exact sclBool | exact sclStr | exact rsclN | exact rsclF | exact rsclNN | exact rsclSS | exact rsclSI | exact rsclU) (by repeat first | exact .head _ | refine .tail _ ?_) rfl, ?_⟩ | refine ⟨H.ldA (by exact ⟨rfl, rfl, rfl, rfl⟩) (by first | exact raggD | exact raggF | exact raggO | exact raggN | exact raggA) (by repeat first | exact .head _ | refine .tail _ ?_) rfl rfl, ?_⟩)
    refine br_dec (fun h8 => ?_) (fun h8 => ?_)
    · rw [if_pos (by omega)] at hM
      intro b11 w11 hn1; replace H := H.new (by exact ⟨rfl, rfl, rfl, rfl⟩) hn1; clear hn1
      refine Hp.app (m := 1) eltStr (by omega) H.pull1 (by exact ⟨rfl, rfl, rfl, rfl⟩) (Blk.src undStr ((H.go (w' := w11.drew) (by exact ⟨rfl, rfl, rfl, rfl⟩)).blk (.head _)) rfl rfl) (by simp only [maxLen]; omega) (by omega) ?_
      clear H; intro a12 c12 w12 H
      replace H := H.drop1
      refine hJ _ _ ⟨a12, c12, by rw [hM]; simp, ?_⟩
      rw [hM, strs_append, List.length_append]
      exact H
    · rw [if_neg (by omega)] at hM
      exact hJ _ _ ⟨a10, c10, by rw [hM], by rw [hM]; exact H⟩
end Go.Proofs.Ytdpkamajecmebaa
