/- Vault: what is found of a file. -/
import Derived.Test.YtiagjabdfppgkaaGreatUe
set_option linter.unusedVariables false
set_option linter.unusedSimpArgs false
set_option maxRecDepth 100000
namespace Go.Proofs.YtiagjabdfppgkaaGreat
open Go Go.Vc Go.Vault

theorem sclSI : Scl Tryz.prog 23 := scl_of (by kernel_rfl)
theorem Own.stC {P : Program} {w : World} {e : TypeId} {sz : Nat} {a : Option Addr} {n c : Nat} {xs : List Value} (h : Own w 0 e sz a n c xs) {ad : Addr} (ha : a = some ad) {o : Nat} {vs : List Value} (hv : vs.all (·.oneCell') = true) (hl : o + vs.length ≤ xs.length) :
    ∃ w1, (storeCells (ad.add o) vs).run P w = .ok () w1 ∧ Own w1 0 e sz a n c (over vs o xs) ∧ Chg (blks a) w w1 := by
  have hlen := h.1
  rcases h.2 with ⟨rfl, _⟩ | ⟨g, cur, fz, rfl, hb, hg, hf, hnc, hcm, hcs, ht⟩
  · cases ha
  cases ha
  have hnm : n * sz ≤ c * sz := Nat.mul_le_mul_right _ hnc
  have hcur : w.heap[g]? = some (.cells cur.toList.toArray e fz) := by simpa using hg
  have hcl : cur.toList.length = cur.size := Array.length_toList
  have hrun := run_storeCells_blk (P := P) (b := g) (T := e) (fz := fz) vs w cur.toList ⟨g, o, none⟩ o 0 rfl (fun j => by simp [add_lit]) hcur (by omega) (fun k h1 h2 => hf k (by omega)) (fun u hu => List.all_eq_true.1 hv u hu)
  have e1 : (storeCells ((⟨g, 0, none⟩ : Addr).add o) vs).run P w = (storeCells ⟨g, o, none⟩ vs).run P w := by rw [add_lit, Nat.zero_add]
  refine ⟨_, e1.trans hrun, ?_, ?_⟩
  · split
    · rename_i hn; rw [hn, over_nil]; exact h
    · refine ⟨by rw [over_len _ _ _ (by omega)]; exact hlen, .inr ⟨g, _, fz, rfl, hb, setB_at (Array.getElem?_eq_some_iff.1 hg).1, ?_, hnc, hcm, ?_, ?_⟩⟩
      · rw [List.size_toArray, over_len _ _ _ (by omega), hcl]; exact hf
      · rw [List.size_toArray, over_len _ _ _ (by omega), hcl]; exact hcs
      · simp only [List.toList_toArray]
        rw [over_take_in _ _ _ _ (by omega) (by omega), ht]
  · split
    · exact Chg.refl _ _
    · exact setB_chg _ _ _
theorem Hp.cpyP {P : Program} {B : List Nat} {w0 w w' : World} {L : List Asn} {e eT dT tx ty : TypeId} {sz : Nat} {a : Option Addr} {n c o m dc sn sc : Nat} {xs news : List Value} {ad sa : Addr} (H : Hp B w0 w (.own e sz a n c xs :: L)) (eq : Eqw w w') (hd : P.underlying dT = some (.slice eT)) (hs : sizeV P eT = some 1)
    (ha : a = some ad) (hsrc : ∀ j u, news[j]? = some u → w'.cell? (sa.add j) = some u) (hl : news.length = m) (h1 : news.all (·.oneCell') = true) (hm : m ≤ sn) (hfit : o + m ≤ xs.length) {G : Int → World → Prop}
    (k : ∀ w1, Hp B w0 w1 (.own e sz a n c (over news o xs) :: L) → G (m : Int) w1) : ∃ (i : Int) (w1 : World), Cpy P #[dT, tx] ty w' (.slice (some (ad.add o)) m dc) (.slice (some sa) sn sc) (.int .i64 i) w1 ∧ G i w1 := by
  have hO : Own w' 0 e sz a n c xs := (H.go eq).ok _ (.head _)
  obtain ⟨w1, h2, h3, h4⟩ := Own.stC (P := P) hO ha h1 (o := o) (by omega)
  refine ⟨(m : Int), w1, ?_, k w1 ((H.go eq).set h4 h3 fun k hk => .inl hk)⟩
  have hz : (sizeOf eT).run P w' = .ok 1 w' := run_size hs w'
  have hmin : Nat.min sn m = m := Nat.min_eq_right hm
  have hlen : (Builtin.lenOf (.slice (some sa) sn sc)).run P w' = .ok sn w' := rfl
  have hc := run_firstCells_some (P := P) w' 1 m sa sn sc news (by omega) hsrc
  simp only [Cpy, Builtin.copy_]
  simp [run_und hd, hlen, hmin, hz, hc, h2, goInt]

theorem secs_part {l : List (List UInt8)} (h : ∀ s ∈ l, s.length = 512) {k : Nat} {x : List UInt8} (hx : x.length ≤ 512) (hk : k < l.length) : over (bcells x) (k * 512) (secs l) = secs (l.set k (x ++ (l.getD k []).drop x.length)) := by
  have hgd : l.getD k [] = l[k] := by simp [hk]
  have e1 : l = l.take k ++ (l[k] :: l.drop (k + 1)) := by rw [List.getElem_cons_drop, List.take_append_drop]
  have e2 : l.set k (x ++ (l.getD k []).drop x.length) = l.take k ++ ((x ++ l[k].drop x.length) :: l.drop (k + 1)) := by rw [hgd, List.set_eq_take_append_cons_drop, if_pos hk]
  have h1 : (secs (l.take k)).length = k * 512 := by
    rw [secs_len fun s hs => h s (List.mem_of_mem_take hs), List.length_take]
    congr 1; omega
  have h2 := h _ (List.getElem_mem hk)
  rw [e2]
  conv => lhs; rw [e1]
  rw [secs_append, secs_append, secs_cons, secs_cons, ← h1]
  have e3 : bcells l[k] = bcells (l[k].take x.length) ++ bcells (l[k].drop x.length) := by rw [← bcells_append, List.take_append_drop]
  rw [e3, bcells_append, List.append_assoc, List.append_assoc]
  exact over_app _ _ _ _ (by rw [bcells_length, bcells_length, List.length_take]; omega)

def ints (l : List Int) : List Value := l.map (.int .i64)
theorem ints_drop (l : List Int) (i : Nat) : (ints l).drop i = ints (l.drop i) := by simp [ints]
theorem add_block (ad : Addr) (i : Nat) : (ad.add i).block = ad.block := by unfold Addr.add; split <;> rfl
theorem bcells_ones (l : List UInt8) : (bcells l).all (·.oneCell') = true := by
  simp only [bcells, List.all_map, List.all_eq_true]; intro b hb; rfl
theorem slA_blk {a : Option Addr} {c i : Nat} : ∀ k ∈ blks (slA a c i 1), k ∈ blks a := by
  unfold slA
  intro k hk
  split at hk
  · exact hk
  · cases a with
    | none => exact hk
    | some ad =>
      have h := add_block ad (i * 1)
      simp only [Option.map_some, blks, List.mem_singleton] at hk ⊢
      rw [hk, h]
/-- the next pick -/
theorem crashC_spec (q : Nat) (a : Option Addr) (c : Nat) (ps : List Int) (w : World) (hq : Blk w q [.slice a ps.length c] 23) (hc : Cells w a (ints ps)) (hl : ps.length ≤ c) :
    Calls Tryz.prog 31 #[.pointer (some ⟨q, 0, none⟩)] w fun e w' => e = .returned (.int .i64 (ps.headD 0)) ∧ ∃ a' c', Hp [q] w w' [.blk q [.slice a' ps.tail.length c'] 23] ∧ (∀ W, Cells W a (ints ps) → Cells W a' (ints ps.tail)) ∧ (∀ k ∈ blks a', k ∈ blks a) ∧ ps.tail.length ≤ c' := by
  apply crashC.ok; unfold crashC.vc
  have H : Hp [q] w w [.blk q [.slice a ps.length c] 23] := Hp.start1 (a := .blk q [.slice a ps.length c] 23) hq
  refine ⟨_, _, _, onP_mk rfl (H.ld (by exact ⟨rfl, rfl, rfl, rfl⟩) sclSI (.head _) rfl), ?_⟩
  cases ps with
  | nil => exact br_dec (fun _ => ⟨rfl, a, c, H, fun _ h => h, fun k hk => hk, Nat.zero_le _⟩) (fun h => absurd rfl h)
  | cons p r =>
    refine br_dec (fun h => by simp at h; omega) (fun _ => ?_)
    refine ⟨_, _, _, onP_mk rfl (H.ld (by exact ⟨rfl, rfl, rfl, rfl⟩) sclSI (.head _) rfl), ?_⟩
    obtain ⟨ad, ha, hcell⟩ := hc 0 (.int .i64 p) rfl
    have h0 : ad.add 0 = ad := by
      unfold Addr.add; split <;> simp_all
    rw [h0] at hcell
    refine onP_mk ha ⟨⟨by omega, by simp only [List.length_cons]; omega⟩, p, ld_cell sclInt.agg hcell, ?_⟩
    refine ⟨_, _, _, onP_mk rfl (H.ld (by exact ⟨rfl, rfl, rfl, rfl⟩) sclSI (.head _) rfl), ?_⟩
    refine ⟨⟨by omega, by simp only [List.length_cons]; omega⟩, ?_⟩
    refine onP_mk rfl ?_
    refine Hp.st H (by exact ⟨rfl, rfl, rfl, rfl⟩) sclSI rfl rfl (by simp) rfl ?_
    clear H; intro w1 H
    refine ⟨rfl, slA a c 1 1, c - 1, ?_, ?_, slA_blk, by simp only [List.length_cons, List.tail_cons] at hl ⊢; omega⟩
    · have e1 : (p :: r).length - Int.toNat 1 = (p :: r).tail.length := by simp
      rw [e1] at H
      exact H
    · intro W hW
      have := hW.slA (c := c) (i := 1) (by simpa [ints] using hl)
      rwa [ints_drop] at this
theorem bigSec : bigL Tryz.prog 117 [] = bcells zsec := by kernel_rfl
theorem foundL_nil (now : List (List UInt8)) (ps : List Int) (L : List (List UInt8)) : foundL now [] ps L = L := rfl
theorem fill_len (L : List (List UInt8)) (n : Nat) : (fill L n).length = max L.length (n + 1) := by simp only [fill, List.length_append, List.length_replicate]; omega
theorem fill_ok {L : List (List UInt8)} (h : ∀ s ∈ L, s.length = 512) (n : Nat) : ∀ s ∈ fill L n, s.length = 512 := fun s hs => by
  rcases List.mem_append.1 hs with hs | hs
  · exact h s hs
  · rw [List.eq_of_mem_replicate hs]; simp [zsec]
theorem mend_ok {now L : List (List UInt8)} (hn : ∀ s ∈ now, s.length = 512) (h : ∀ s ∈ L, s.length = 512) {n p : Nat} (hp : p ≤ 512) (hlt : n < now.length) : (∀ s ∈ mend now L n p, s.length = 512) ∧ (L.length ≤ now.length → (mend now L n p).length ≤ now.length) ∧ L.length ≤ (mend now L n p).length := by
  unfold mend
  split
  · exact ⟨h, fun h => h, Nat.le_refl _⟩
  · refine ⟨fun s hs => ?_, fun h2 => ?_, ?_⟩
    · rcases List.mem_or_eq_of_mem_set hs with hs | rfl
      · exact fill_ok h n s hs
      · have h1 := hn _ (List.getElem_mem hlt)
        have h2 : n < (fill L n).length := by rw [fill_len]; omega
        have h3 := fill_ok h n _ (List.getElem_mem h2)
        simp only [List.getD_eq_getElem?_getD, List.getElem?_eq_getElem hlt, List.getElem?_eq_getElem h2, Option.getD_some, List.length_append, List.length_take, List.length_drop, h1, h3]
        omega
    · rw [List.length_set, fill_len]; omega
    · rw [List.length_set, fill_len]; omega
theorem foundL_ok {now : List (List UInt8)} (hn : ∀ s ∈ now, s.length = 512) : ∀ (ns : List Nat) (ps : List Int) (L : List (List UInt8)), (∀ n ∈ ns, n < now.length) → (∀ s ∈ L, s.length = 512) → L.length ≤ now.length → (∀ s ∈ foundL now ns ps L, s.length = 512) ∧ (foundL now ns ps L).length ≤ now.length
  | [], ps, L, h1, h2, h3 => ⟨h2, h3⟩
  | n :: r, ps, L, h1, h2, h3 => by
    obtain ⟨h4, h5, _⟩ := mend_ok hn h2 (n := n) (p := pick (ps.headD 0)) (by simp only [pick]; omega) (h1 n (.head _))
    exact foundL_ok hn r _ _ (fun m hm => h1 m (.tail _ hm)) h4 (h5 h3)
theorem found_ok {g : Fl} (h : g.Ok) (ps : List Int) : (g.found ps).Ok ∧ (g.found ps).now.length ≤ g.now.length := by
  obtain ⟨h1, h2⟩ := foundL_ok h.now g.since ps g.firm h.below h.firm h.len
  exact ⟨⟨h1, h1, by simp [Fl.found], by simp [Fl.found], Nat.le_refl _⟩, h2⟩

set_option maxHeartbeats 4000000 in
theorem found_spec (f : FW) (g : Fl) (hg : g.Ok) (hk : (f.al.map (·.1)).Perm (g.since.map fun n : Nat => (n : Int))) (hN : g.now.length ≤ 1073741824) (q : Nat) (pa : Option Addr) (pc : Nat) (ps : List Int) (w : World) (st : Std w (flL f g ++ [.blk q [.slice pa ps.length pc] 23]))
    (hc : ∀ W, Chg (feet (flL f g ++ [.blk q [.slice pa ps.length pc] 23])) w W → Cells W pa (ints ps)) (hl : ps.length ≤ pc) :
    Calls Tryz.prog 32 #[.pointer (some ⟨f.b, 0, none⟩), .func (.func 31) #[] #[.pointer (some ⟨q, 0, none⟩)]] w fun e w' => ∃ (f' : FW) (a' : Option Addr) (c' : Nat), e = .returned (.pointer (some ⟨f'.b, 0, none⟩)) ∧ f'.al = [] ∧
      Hp (feet (flL f g ++ [.blk q [.slice pa ps.length pc] 23])) w w' (flL f' (g.found ps) ++ (flL f g ++ [.blk q [.slice a' (ps.drop g.since.length).length c'] 23])) ∧ (∀ W, Cells W pa (ints ps) → Cells W a' (ints (ps.drop g.since.length))) ∧ (∀ k ∈ blks a', k ∈ blks pa) ∧ (ps.drop g.since.length).length ≤ c' := by
  apply found.ok; unfold found.vc
  have H := Hp.startL st
  generalize hB : feet (flL f g ++ [.blk q [.slice pa ps.length pc] 23]) = B at H hc ⊢
  simp only [flL, List.cons_append, List.nil_append] at H
  refine onP_mk rfl ?_
  ((repeat apply Exists.intro); first | refine ⟨H.ld (by exact ⟨rfl, rfl, rfl, rfl⟩) (by first | exact sclInt | exact sclBool | exact sclStr | exact sclMSI | exact sclSF | exact sclPF | exact sclSS | exact sclMIB | exact sclSC | exact sclC | exact sclSI) (by repeat first | exact .head _ | refine .tail _ ?_) rfl, ?_⟩)
  refine callV (cloneS_spec f.af g.firm.length f.cf (secs g.firm) w (H.ok _ (.tail _ (.tail _ (.head _)))) (secs_ones _) (by have := hg.len; omega)) ?_
  rintro e w1 ⟨a0, c0, rfl, H'⟩; replace H := H.ext H'; clear H'
  simp only [List.cons_append, List.nil_append] at H
  refine ⟨_, _, _, rfl, ?_⟩
  refine onP_mk rfl ?_
  ((repeat apply Exists.intro); first | refine ⟨H.ld (by exact ⟨rfl, rfl, rfl, rfl⟩) (by first | exact sclInt | exact sclBool | exact sclStr | exact sclMSI | exact sclSF | exact sclPF | exact sclSS | exact sclMIB | exact sclSC | exact sclC | exact sclSI) (by repeat first | exact .head _ | refine .tail _ ?_) rfl, ?_⟩)
  refine callV (keysI_spec (some f.bm) w1) ?_
  rintro e w2 ⟨b2, rfl, H'⟩; replace H := H.ext H'; clear H'
  simp only [List.cons_append, List.nil_append] at H
  refine ⟨_, rfl, ?_⟩
  have hkl := hk.length_eq
  simp only [List.length_map] at hkl
  have hsl : g.since.length ≤ g.now.length := by
    have : ∀ (l : List Nat) (lo N : Nat), l.Pairwise (· < ·) → (∀ n ∈ l, lo ≤ n ∧ n < N) → lo ≤ N → l.length ≤ N - lo := by
      intro l
      induction l with
      | nil => intro lo N _ _ _; simp
      | cons x r ih =>
        intro lo N hs hb hlo
        have hp := List.pairwise_cons.1 hs
        have hx := hb x (.head _)
        have := ih (x + 1) N hp.2 (fun n hn => ⟨hp.1 n hn, (hb n (.tail _ hn)).2⟩) (by omega)
        simp only [List.length_cons]; omega
    have := this g.since 0 g.now.length hg.since (fun n hn => ⟨Nat.zero_le _, hg.below n hn⟩) (Nat.zero_le _)
    omega
  have hs := sortedI_spec b2 f.bm f.al w2 (H.ok _ (.head _)) (H.ok (.imap f.bm .i64 f.al) (by repeat first | exact .head _ | refine .tail _ ?_)) (g.since.map fun n : Nat => (n : Int)) hk.symm (List.pairwise_map.2 (hg.since.imp fun h => by omega)) (fun n hn => by
    obtain ⟨m, hm, rfl⟩ := List.mem_map.1 hn
    have := hg.below m hm
    omega) (by omega)
  refine callV hs ?_
  rintro e w3 ⟨a3, c3, rfl, H'⟩; replace H := H.ext H'; clear H'
  simp only [List.cons_append, List.nil_append, List.length_map] at H ⊢
  replace H := H.del1
  refine ⟨a3, _, c3, rfl, ?_⟩
  obtain ⟨FF, hFF⟩ : ∃ FF : List Asn, FF = [.blk f.b [.slice f.an g.now.length f.cn, .slice f.af g.firm.length f.cf, .map (some f.bm)] 97, .own 117 512 f.an g.now.length f.cn (secs g.now), .own 117 512 f.af g.firm.length f.cf (secs g.firm), .imap f.bm .i64 f.al] := ⟨_, rfl⟩
  have mF1 : Asn.blk f.b [.slice f.an g.now.length f.cn, .slice f.af g.firm.length f.cf, .map (some f.bm)] 97 ∈ FF := by rw [hFF]; exact .head _
  have mF2 : Asn.own 117 512 f.an g.now.length f.cn (secs g.now) ∈ FF := by rw [hFF]; exact .tail _ (.head _)
  refine LoopP.mk (fun (m : Nat) (s : (Option Addr × Nat × Nat) × Int) (w' : World) => ∃ (k : Nat) (L : List (List UInt8)) (a : Option Addr) (c : Nat) (a' : Option Addr) (c' : Nat), m = g.since.length - k ∧ k ≤ g.since.length ∧ s = ((a, L.length, c), (k : Int)) ∧ (∀ s ∈ L, s.length = 512) ∧ L.length ≤ g.now.length ∧
      foundL g.now (g.since.drop k) (ps.drop k) L = foundL g.now g.since ps g.firm ∧
      Hp B w w' (.own 117 512 a L.length c (secs L) :: .blk q [.slice a' (ps.drop k).length c'] 23 :: .own 3 1 a3 g.since.length c3 ((g.since.map fun n : Nat => (n : Int)).map (.int .i64)) :: FF) ∧
      (∀ W, Cells W pa (ints ps) → Cells W a' (ints (ps.drop k))) ∧ (∀ j ∈ blks a', j ∈ blks pa) ∧ (ps.drop k).length ≤ c') g.since.length ⟨0, g.firm, a0, c0, pa, pc, by omega, by omega, rfl, hg.firm, hg.len, rfl, ?_, fun _ h => h, fun _ h => h, hl⟩ ?_
  · rw [hFF]
    ((try dsimp only [List.cons_append, List.nil_append]); (try dsimp only [List.cons_append, List.nil_append] at H); refine Hp.perm H ?_; (repeat (apply perm_step; (focus first | exact perm_p0 | exact perm_p1 | exact perm_p2 | exact perm_p3 | exact perm_p4 | exact perm_p5 | exact perm_p6 | exact perm_p7 | exact perm_p8 | exact perm_p9))); exact List.Perm.refl _)
  clear H
  rintro m s w4 next ⟨k, L, a, c, a', c', rfl, hkl2, rfl, hL, hLn, hfd, H, hcc, hbb, hll⟩ hnext
  dsimp only
  refine br_dec (fun h => ?_) (fun h => ?_)
  · have hk2 : k < g.since.length := by omega
    obtain ⟨n, hn⟩ : ∃ n, g.since[k]? = some n := ⟨_, List.getElem?_eq_getElem hk2⟩
    have hnb := hg.below n (List.mem_of_getElem? hn)
    have hdrop : g.since.drop k = n :: g.since.drop (k + 1) := by
      rw [List.drop_eq_getElem_cons hk2]
      rw [List.getElem?_eq_getElem hk2] at hn
      rw [Option.some.inj hn]
    obtain ⟨ad, ha, hld⟩ := H.ldO (P := Tryz.prog) (w' := w4) (t := 3) (o := Int.toNat (k : Int) * 1) (v := .int .i64 (n : Int)) (by exact ⟨rfl, rfl, rfl, rfl⟩) sclInt (.tail _ (.tail _ (.head _))) (by rw [Int.toNat_natCast, Nat.mul_one]; simp [hn])
    refine onP_mk ha ⟨⟨by omega, by omega⟩, _, hld, ?_⟩
    have hq4 : Blk w4 q [.slice a' (ps.drop k).length c'] 23 := H.ok _ (.tail _ (.head _))
    have hcc4 : Cells w4 a' (ints (ps.drop k)) := hcc w4 (hc w4 H.chg)
    refine callX_fn Tryz.func31 rfl (callV (crashC_spec q a' c' (ps.drop k) w4 hq4 hcc4 hll) ?_)
    rintro e w5 ⟨rfl, a5, c5, H', hc5, hb5, hl5⟩
    replace H := H.pull1.use11 H'; clear H'
    have htail : (ps.drop k).tail = ps.drop (k + 1) := by rw [List.tail_drop]
    rw [htail] at H hc5 hl5
    have hc5' : ∀ W, Cells W pa (ints ps) → Cells W a5 (ints (ps.drop (k + 1))) := fun W hW => hc5 W (hcc W hW)
    have hb5' : ∀ j ∈ blks a5, j ∈ blks pa := fun j hj => hbb j (hb5 j hj)
    have hfd2 : foundL g.now (g.since.drop (k + 1)) (ps.drop (k + 1)) (mend g.now L n (pick ((ps.drop k).headD 0))) = foundL g.now g.since ps g.firm := by
      rw [← hfd, hdrop, foundL, htail]
    refine ⟨_, rfl, ?_⟩
    generalize hp : (ps.drop k).headD 0 = p at hfd2 ⊢
    refine br_dec (fun h0 => ?_) (fun h0 => ?_)
    · have hp0 : pick p = 0 := by simp only [pick]; omega
      rw [hp0, mend, if_pos rfl] at hfd2
      refine ⟨inR64.2 (by omega), ?_⟩
      exact hnext (g.since.length - (k + 1)) _ _ (by omega) ⟨k + 1, L, a, c, a5, c5, rfl, by omega, by simp, hL, hLn, hfd2, H.pull1, hc5', hb5', hl5⟩
    · have hp0 : pick p ≠ 0 := by simp only [pick]; omega
      have hp512 : pick p ≤ 512 := by simp only [pick]; omega
      have hpi : min (max p 0) 512 = (pick p : Int) := by simp only [pick]; omega
      rw [hpi]
      -- the loop that fills
      refine LoopP.mk (fun (m : Nat) (s : Option Addr × Nat × Nat) (w' : World) => ∃ (j : Nat) (a : Option Addr) (c : Nat), m = n + 1 - (L.length + j) ∧ (j = 0 ∨ L.length + j ≤ n + 1) ∧ s = (a, L.length + j, c) ∧
        Hp B w w' (.own 117 512 a (L.length + j) c (secs (L ++ List.replicate j zsec)) :: .blk q [.slice a5 (ps.drop (k + 1)).length c5] 23 :: .own 3 1 a3 g.since.length c3 ((g.since.map fun n : Nat => (n : Int)).map (.int .i64)) :: FF)) (n + 1 - (L.length + 0)) ⟨0, a, c, rfl, .inl rfl, rfl, by rw [List.replicate_zero, List.append_nil]; exact H.pull1⟩ ?_
      clear H w5
      rintro m s w5 next2 ⟨j, a, c, rfl, hj, rfl, H⟩ hnext2
      dsimp only
      refine br_dec (fun h1 => ?_) (fun h1 => ?_)
      · rw [bigSec]
        have hzl : (bcells zsec).length = 512 := by simp [bcells, zsec]
        refine ⟨_, _, buildOne eltSec (by omega) (by omega) hzl, ?_⟩
        intro b1 w6 hn; replace H := H.new (by exact ⟨rfl, rfl, rfl, rfl⟩) hn; clear hn
        refine Hp.app eltSec (by omega) H.pull1 (by exact ⟨rfl, rfl, rfl, rfl⟩) (Blk.src undSS ((H.go (w' := w6.drew) (by exact ⟨rfl, rfl, rfl, rfl⟩)).blk (.head _)) (by rw [hzl]) (by simp [bcells]; intros; rfl)) (by simp only [maxLen]; omega) (by omega) ?_
        clear H; intro a7 c7 w7 H
        replace H := H.drop1
        refine hnext2 (n + 1 - (L.length + (j + 1))) _ _ (by omega) ⟨j + 1, a7, c7, rfl, .inr (by omega), rfl, ?_⟩
        have e1 : secs (L ++ List.replicate j zsec) ++ bcells zsec = secs (L ++ List.replicate (j + 1) zsec) := by
          rw [List.replicate_succ', ← List.append_assoc, secs_append (L ++ List.replicate j zsec), secs_one]
        rw [e1] at H
        exact H
      · have hfl : L ++ List.replicate j zsec = fill L n := by
          rw [fill]; congr 2; omega
        have hlen : (fill L n).length = L.length + j := by rw [← hfl]; simp
        rw [hfl, ← hlen] at H
        rw [← hlen]
        rw [← hlen] at h1
        have hfo := fill_ok hL n
        have hnl : n < (fill L n).length := by omega
        have hne : a ≠ none := by
          rintro rfl
          have hO : Own w5 0 117 512 none (fill L n).length c (secs (fill L n)) := H.ok _ (.head _)
          rcases hO.2 with ⟨_, h, _⟩ | ⟨_, _, _, h, _⟩
          · omega
          · cases h
        obtain ⟨ad, had⟩ := Option.ne_none_iff_exists'.1 hne
        refine onP_mk had ⟨⟨by omega, by omega⟩, ⟨by omega, by omega⟩, ?_⟩
        replace H := H.drew
        refine onP_mk rfl ?_
        refine ⟨_, _, _, H.ld (by exact ⟨rfl, rfl, rfl, rfl⟩) sclSS (.tail _ (.tail _ (.tail _ mF1))) rfl, ?_⟩
        have hcN : Cells w5.drew f.an (secs g.now) := (H.ownA (.tail _ (.tail _ (.tail _ mF2)))).cells
        have hsn := hg.now _ (List.getElem_mem hnb)
        obtain ⟨an, han⟩ := hcN.some (by
          intro h
          have := congrArg List.length h
          rw [secs_len hg.now] at this
          simp at this; omega)
        refine onP_mk han ⟨⟨by omega, by omega⟩, ?_⟩
        rw [Int.toNat_natCast, Int.toNat_natCast]
        have hgd : g.now.getD n [] = g.now[n] := by simp [hnb]
        have hxl : (g.now[n].take (pick p)).length = pick p := by rw [List.length_take]; omega
        refine Hp.cpyP H (by exact ⟨rfl, rfl, rfl, rfl⟩) undSU8 sclU8.size had (news := bcells (g.now[n].take (pick p))) ?_ (by rw [bcells_length, hxl]) (bcells_ones _) hp512 (by rw [secs_len hfo]; omega) ?_
        · intro i u hi
          have h2 := secs_at hg.now (List.getElem?_eq_getElem hnb)
          have h3 : (secs g.now)[n * 512 + i]? = some u := by
            have h4 : (bcells g.now[n])[i]? = some u := by
              have e1 : bcells (g.now[n].take (pick p)) = (bcells g.now[n]).take (pick p) := by simp [bcells, List.map_take]
              rw [e1, List.getElem?_take] at hi
              split at hi
              · exact hi
              · cases hi
            rw [← h2, List.getElem?_take] at h4
            split at h4
            · rwa [List.getElem?_drop] at h4
            · cases h4
          obtain ⟨ad', e1, e2⟩ := hcN _ u h3
          rw [han] at e1; cases e1
          rw [add_add]; exact e2
        clear H; intro w6 H
        rw [secs_part hfo (by rw [hxl]; exact hp512) hnl, hxl] at H
        have hm : mend g.now L n (pick p) = (fill L n).set n (g.now[n].take (pick p) ++ ((fill L n).getD n []).drop (pick p)) := by
          rw [mend, if_neg hp0, hgd]
        rw [← hm] at H
        have hml : (mend g.now L n (pick p)).length = (fill L n).length := by rw [hm, List.length_set]
        rw [← hml] at H ⊢
        obtain ⟨hm1, hm2, _⟩ := mend_ok hg.now hL (n := n) (p := pick p) hp512 hnb
        refine ⟨inR64.2 (by omega), ?_⟩
        exact hnext (g.since.length - (k + 1)) _ _ (by omega) ⟨k + 1, mend g.now L n (pick p), a, c, a5, c5, rfl, by omega, by simp, hm1, hm2 hLn, hfd2, H, hc5', hb5', hl5⟩
  · have hk3 : k = g.since.length := by omega
    subst hk3
    have hfd3 : L = foundL g.now g.since ps g.firm := by rw [← hfd, List.drop_length]; rfl
    have hLf : L = (g.found ps).now := hfd3
    refine callV (cloneS_spec a L.length c (secs L) w4 (H.ok _ (.head _)) (secs_ones _) (by omega)) ?_
    rintro e w5 ⟨a6, c6, rfl, H'⟩; replace H := H.ext H'; clear H'
    simp only [List.cons_append, List.nil_append] at H
    refine ⟨_, _, _, rfl, ?_⟩
    intro b7 w7 hn; replace H := H.newI (by exact ⟨rfl, rfl, rfl, rfl⟩) .i64 hn; clear hn
    intro b8 w8 hn; replace H := H.new (by exact ⟨rfl, rfl, rfl, rfl⟩) hn; clear hn
    refine ⟨⟨b8, a6, c6, a, c, b7, []⟩, a', c', rfl, rfl, ?_, hcc, hbb, hll⟩
    have e1 : flL ⟨b8, a6, c6, a, c, b7, []⟩ (g.found ps) = [.blk b8 [.slice a6 L.length c6, .slice a L.length c, .map (some b7)] 97, .own 117 512 a6 L.length c6 (secs L), .own 117 512 a L.length c (secs L), .imap b7 .i64 []] := by
      rw [hfd3]; rfl
    rw [e1]
    rw [hFF] at H
    have H2 : Hp B w w8 (.own 3 1 a3 g.since.length c3 ((g.since.map fun n : Nat => (n : Int)).map (.int .i64)) :: ([.blk b8 [.slice a6 L.length c6, .slice a L.length c, .map (some b7)] 97, .own 117 512 a6 L.length c6 (secs L), .own 117 512 a L.length c (secs L), .imap b7 .i64 []] ++ (flL f g ++ [.blk q [.slice a' (ps.drop g.since.length).length c'] 23]))) := by
      simp only [flL, List.cons_append, List.nil_append]
      ((try dsimp only [List.cons_append, List.nil_append]); (try dsimp only [List.cons_append, List.nil_append] at H); refine Hp.perm H ?_; (repeat (apply perm_step; (focus first | exact perm_p0 | exact perm_p1 | exact perm_p2 | exact perm_p3 | exact perm_p4 | exact perm_p5 | exact perm_p6 | exact perm_p7 | exact perm_p8 | exact perm_p9))); exact List.Perm.refl _)
    exact H2.drop
end Go.Proofs.YtiagjabdfppgkaaGreat
