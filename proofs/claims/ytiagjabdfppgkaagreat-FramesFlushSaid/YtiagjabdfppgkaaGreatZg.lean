/- Slate: 'Stamp', 'SetStamp', 'New', 'Clone', 'Bytes', 'Load'. -/
import Derived.Test.YtiagjabdfppgkaaGreatZf
set_option linter.unusedVariables false
set_option linter.unusedSimpArgs false
set_option maxRecDepth 100000
namespace Go.Proofs.YtiagjabdfppgkaaGreat.Sl
open Go Go.Vc
theorem scl34 : Scl Tryz.prog 34 := scl_of (by kernel_rfl)
theorem scl37 : Scl Tryz.prog 111 := scl_of (by kernel_rfl)

theorem stamp_spec (b : Nat) (g : Pg) (hv : valN g.st ≤ 4611686018427387904) (w : World) (h : PgAt w b g) :
    Calls Tryz.prog 53 #[.pointer (some ⟨b, 0, none⟩)] w fun e w' => e = .returned (.int .i64 (valN g.st : Int)) ∧ Hp [] w w' [] := by
  apply stamp.ok
  unfold stamp.vc
  have hst := h.1.st
  refine onP_mk rfl ⟨⟨by omega, by omega⟩, ?_⟩
  refine LoopP.mk (fun m s w' => ∃ k : Nat, m = 8 - k ∧ k ≤ 8 ∧ s = ((valN (g.st.take k) : Int), (k : Int)) ∧ Hp [] w w' []) 8 ⟨0, rfl, by omega, rfl, Hp.start w⟩ ?_
  rintro m s w' next ⟨k, rfl, hk, rfl, H⟩ hnext
  refine br_dec (fun h1 => ?_) (fun h1 => ?_)
  · have hk8 : k < 8 := by have h9 : (k : Int) < ((Int.toNat 8 : Nat) : Int) := h1; omega
    have hk' : k < g.st.length := by omega
    have e1 : Int.toNat (k : Int) * 1 = k := by omega
    have hb : g.bs[k]'(by rw [h.1.len]; omega) = g.st[k] := by
      simp only [Pg.bs]
      exact List.getElem_append_left hk'
    have hts := valN_take_succ g.st k hk'
    have hmo := valN_mono g.st (k + 1)
    have hlt := (g.st[k]).toNat_lt
    have e3 : (2 : Int) ^ min (Int.toNat 8) (IntKind.bits .i64) = 256 := by decide
    refine ⟨⟨by simp only; omega, h1⟩, _, by rw [e1, addB, ]; exact (h.chg H.chg (by simp)).ldB (by omega), by omega, inR64.2 (by rw [e3]; simp only; omega), inR64.2 (by simp only; omega), ?_⟩
    rw [hb]
    simp only
    rw [or_byte2 _ _ (by omega) hlt, ← hts]
    exact hnext (8 - (k + 1)) _ _ (by omega) ⟨k + 1, rfl, by omega, by simp, H⟩
  · have hk8 : k = 8 := by have h9 : ¬ (k : Int) < ((Int.toNat 8 : Nat) : Int) := h1; omega
    subst hk8
    rw [List.take_of_length_le (by omega)]
    exact ⟨rfl, H⟩
theorem stamp_any {b : Nat} {g : Pg} {L : Recs} {stamp : Nat} {w : World} (hR : Rep g L stamp) (h : Blk w b g.cells 132) :
    Calls Tryz.prog 53 #[.pointer (some ⟨b, 0, none⟩)] w fun e w' => e = .returned (.int .i64 (stamp : Int)) ∧ Hp [] w w' [] := by
  have hs := hR.stamp
  have e : (valN g.st : Int) = (stamp : Int) := by
    rw [hR.st]; exact valN_be' (by omega) (by omega)
  have := stamp_spec b g (by omega) w ⟨hR.ok, h⟩
  rw [e] at this
  exact this

theorem be_get (n : Int) : ∀ (m k : Nat), k < m → (be n m)[k]? = some (bt n (m - 1 - k))
  | 0, k, h => by omega
  | m + 1, 0, _ => rfl
  | m + 1, k + 1, h => by
    rw [be, List.getElem?_cons_succ, be_get n m k (by omega)]
    congr 2; omega
def stS (st : List UInt8) (n : Int) (k : Nat) : List UInt8 := (be n 8).take k ++ st.drop k
theorem stS_len {st : List UInt8} (h : st.length = 8) (n : Int) {k : Nat} (hk : k ≤ 8) : (stS st n k).length = 8 := by
  simp only [stS, List.length_append, List.length_take, List.length_drop, be_length, h]; omega
theorem stS_succ {st : List UInt8} (h : st.length = 8) (n : Int) {k : Nat} (hk : k < 8) : (stS st n k).set k (bt n (7 - k)) = stS st n (k + 1) := by
  have hl : ((be n 8).take k).length = k := by rw [List.length_take, be_length]; omega
  have hg := be_get n 8 k hk
  obtain ⟨hb, he⟩ := List.getElem?_eq_some_iff.1 hg
  have : st.drop k = st[k] :: st.drop (k + 1) := List.drop_eq_getElem_cons (by omega)
  unfold stS
  rw [List.set_append, if_neg (by omega), hl, Nat.sub_self, this, List.set_cons_zero, List.take_succ_eq_append_getElem hb, he, List.append_assoc]
  rfl
/-- may a number be a stamp? -/
def okStamp (n : Int) : Prop := 0 ≤ n ∧ n ≤ 4611686018427387904
instance (n : Int) : Decidable (okStamp n) := by unfold okStamp; infer_instance
theorem Rep.stamped {g : Pg} {L : Recs} {stamp : Nat} (h : Rep g L stamp) {n : Nat} (hn : n ≤ 4611686018427387904) : Rep { g with st := be (n : Int) 8 } L n :=
  ⟨⟨be_length _ 8, h.ok.hdr, h.ok.dir, h.ok.data, h.ok.many, h.ok.ent, h.ok.low⟩, rfl, hn, h.hdr, h.sorted, h.below, h.last, h.free, h.ord, h.small, h.low⟩
def astamp (stamp : Nat) (n : Int) : Nat := if okStamp n then n.toNat else stamp
theorem setStamp_any {b : Nat} {g : Pg} {L : Recs} {stamp : Nat} {w : World} (hR : Rep g L stamp) (h : Blk w b g.cells 132) (n : Int) :
    Calls Tryz.prog 49 #[.pointer (some ⟨b, 0, none⟩), .int .i64 n] w fun e w' => e = .returned (.bool (decide (okStamp n))) ∧ ∃ g', Rep g' L (astamp stamp n) ∧ Hp [b] w w' [pgA b g'] := by
  apply setStamp.ok
  unfold setStamp.vc
  have H : Hp [b] w w [pgA b g] := Hp.start1 (a := pgA b g) h
  have bad : ¬ okStamp n → (Ending.returned (.bool false) = .returned (.bool (decide (okStamp n)))) ∧ ∃ g', Rep g' L (astamp stamp n) ∧ Hp [b] w w [pgA b g'] := fun hn => by
    rw [astamp, if_neg hn]
    exact ⟨nope hn, g, hR, H⟩
  refine br_dec (fun h1 => bad fun hh => by have := hh.1; omega) (fun h1 => br_dec (fun h2 => bad fun hh => by have := hh.2; omega) (fun h2 => ?_))
  clear bad
  obtain ⟨N, rfl⟩ : ∃ N : Nat, n = N := ⟨n.toNat, by omega⟩
  have hok : okStamp (N : Int) := ⟨by omega, by omega⟩
  have hst := hR.ok.st
  have okS : ∀ k, k ≤ 8 → ({ g with st := stS g.st N k } : Pg).Ok := fun k hk => ⟨stS_len hst _ hk, hR.ok.hdr, hR.ok.dir, hR.ok.data, hR.ok.many, hR.ok.ent, hR.ok.low⟩
  refine LoopP.mk (fun m s w' => ∃ k : Nat, m = 8 - k ∧ k ≤ 8 ∧ s = (k : Int) ∧ Hp [b] w w' [pgA b { g with st := stS g.st N k }]) 8 ⟨0, rfl, by omega, rfl, H⟩ ?_
  clear H
  rintro m s w' next ⟨k, rfl, hk, rfl, H⟩ hnext
  refine br_dec (fun h3 => ?_) (fun h3 => ?_)
  · have hk8 : k < 8 := by omega
    refine ⟨inR64.2 (by omega), inR64.2 (by omega), by omega, onP_mk rfl ⟨⟨by omega, by omega⟩, ?_⟩⟩
    have e1 : Int.toNat (k : Int) * 1 = k := by omega
    have e2 : (56 : Int) - 8 * (k : Int) = 8 * ((7 - k : Nat) : Int) := by omega
    rw [e1, addB, e2, shr_byte (N : Int) (7 - k) (by omega) _ rfl]
    refine Hp.st H (by exact ⟨rfl, rfl, rfl, rfl⟩) scl5 rfl rfl (by rw [(okS k hk).clen]; omega) (Pg.cells_set (okS k hk) (by omega) _) ?_
    clear H
    intro w1 H
    refine ⟨inR64.2 (by omega), hnext (8 - (k + 1)) _ _ (by omega) ⟨k + 1, rfl, by omega, by omega, ?_⟩⟩
    have e : bcells (({ g with st := stS g.st N k } : Pg).bs.set k (bt N (7 - k))) ++ [.int .i64 (g.many : Int), .int .i64 (g.low : Int)] = ({ g with st := stS g.st N (k + 1) } : Pg).cells := by
      have : ({ g with st := stS g.st N k } : Pg).bs.set k (bt N (7 - k)) = ({ g with st := stS g.st N (k + 1) } : Pg).bs := by
        simp only [Pg.bs]
        rw [List.set_append, if_pos (by rw [stS_len hst _ hk]; exact hk8), stS_succ hst _ hk8]
      rw [this]; rfl
    have H : Hp [b] w w1 [.blk b (bcells (({ g with st := stS g.st N k } : Pg).bs.set k (bt N (7 - k))) ++ [.int .i64 (g.many : Int), .int .i64 (g.low : Int)]) 132] := H
    rw [e] at H
    exact H
  · have hk8 : k = 8 := by omega
    subst hk8
    rw [astamp, if_pos hok, Int.toNat_natCast]
    refine ⟨by rw [decide_eq_true hok], _, hR.stamped (by omega), ?_⟩
    have e : stS g.st (N : Int) 8 = be (N : Int) 8 := by
      unfold stS
      rw [List.take_of_length_le (by rw [be_length]; exact Nat.le_refl _), List.drop_eq_nil_of_le (by omega), List.append_nil]
    rw [e] at H
    exact H

/-! ### a new one, a copy, its bytes -/
def gZ (low : Nat) : Pg := { st := List.replicate 8 0, hdr := 0, dir := List.replicate 120 (0, 0), data := List.replicate 3606 0, many := 0, low := low }
theorem gZ_ok {low : Nat} (h : low ≤ 4096) : (gZ low).Ok := ⟨List.length_replicate, by show 0 < 65536; omega, List.length_replicate, List.length_replicate, by show 0 ≤ 120; omega, fun p hp => by rw [List.eq_of_mem_replicate hp]; simp, h⟩
theorem zl54 : zl Tryz.prog 132 = (gZ 0).cells := by kernel_rfl
theorem new54 : bigL Tryz.prog 132 [(2, .int .i64 4096)] = (gZ 4096).cells := by kernel_rfl
theorem zl52 : (zl Tryz.prog 130).length = 4096 := by kernel_rfl
theorem gZ_rep : Rep (gZ 4096) [] 0 := ⟨gZ_ok (by omega), by show List.replicate 8 (0 : UInt8) = be ((0 : Nat) : Int) 8; decide, by omega, rfl, .nil, by simp, .inl rfl, fun k hk => by have : k < 0 := hk; omega, ⟨[], .refl _, rfl, by show (List.replicate 3606 (0 : UInt8)).drop 3606 = []; simp⟩, by simp [tot], by simp [tot, gZ]⟩
theorem new_any (w : World) : Calls Tryz.prog 48 #[] w fun e w' => ∃ b, e = .returned (.pointer (some ⟨b, 0, none⟩)) ∧ Hp [] w w' [pgA b (gZ 4096)] := by
  apply snew.ok
  unfold snew.vc
  have H := Hp.start w
  rw [new54]
  (intro _ _ hn; replace H := H.new (by exact ⟨rfl, rfl, rfl, rfl⟩) hn; clear hn)
  exact ⟨_, rfl, H⟩
theorem over_full {l cs : List Value} (h : l.length = cs.length) : over l 0 cs = l := by
  apply List.ext_getElem?
  intro k
  rw [over_get _ _ _ (by omega)]
  by_cases hk : k < l.length
  · rw [if_pos (by omega), Nat.sub_zero]
  · rw [if_neg (by omega), List.getElem?_eq_none (by omega), List.getElem?_eq_none (by omega)]
theorem cells_one (g : Pg) : g.cells.all (·.oneCell') = true := by
  rw [List.all_eq_true]
  intro u hu
  rcases List.mem_append.1 hu with h | h
  · exact bcells_one _ u h
  · rcases List.mem_cons.1 h with rfl | h
    · rfl
    · rcases List.mem_cons.1 h with rfl | h
      · rfl
      · cases h
theorem clone_any (b : Nat) (g : Pg) (w : World) (h : PgAt w b g) :
    Calls Tryz.prog 79 #[.pointer (some ⟨b, 0, none⟩)] w fun e w' => ∃ b', e = .returned (.pointer (some ⟨b', 0, none⟩)) ∧ Hp [] w w' [pgA b' g] := by
  apply clone.ok
  unfold clone.vc
  have H := Hp.start w
  refine onP_mk rfl ⟨bcells g.bs, _, _, Blk.ldA (vs := g.cells) (o := 0) h.2 agg54.agg (by rw [h.1.clen]; exact agg54.size) (by rw [List.drop_zero]; exact List.take_length), ?_⟩
  rw [zl54]
  (intro _ _ hn; replace H := H.new (by exact ⟨rfl, rfl, rfl, rfl⟩) hn; clear hn)
  refine Hp.stA (vs := g.cells) H (by exact ⟨rfl, rfl, rfl, rfl⟩) agg54 h.1.clen (cells_one g) (by rw [(gZ_ok (by omega)).clen]; omega) (over_full (by rw [h.1.clen, (gZ_ok (by omega)).clen])) ?_
  clear H
  intro w2 H
  exact ⟨_, rfl, H⟩
theorem bytes_any (b : Nat) (g : Pg) (w : World) (h : PgAt w b g) :
    Calls Tryz.prog 56 #[.pointer (some ⟨b, 0, none⟩)] w fun e w' => ∃ b', e = .returned (.slice (some ⟨b', 0, none⟩) 4096 4096) ∧ Hp [] w w' [.blk b' (bcells g.bs) 130] := by
  apply bytes.ok
  unfold bytes.vc
  have H := Hp.start w
  have hl : (bcells g.bs).length = 4096 := by rw [bcells_length, h.1.len]
  refine onP_mk rfl ⟨bcells g.bs, Blk.ldA (vs := bcells g.bs) (o := 0) h.2 agg52.agg (by rw [hl]; exact agg52.size) ?_, ?_⟩
  · rw [List.drop_zero, Pg.cells]
    exact take_left _ _ _ rfl
  have z := zl52
  generalize zl Tryz.prog 130 = zz at z ⊢
  (intro _ _ hn; replace H := H.new (by exact ⟨rfl, rfl, rfl, rfl⟩) hn; clear hn)
  refine Hp.stA (vs := bcells g.bs) H (by exact ⟨rfl, rfl, rfl, rfl⟩) agg52 hl (List.all_eq_true.2 (bcells_one _)) (by omega) (over_full (by omega)) ?_
  clear H
  intro w2 H
  exact ⟨_, rfl, H⟩
end Go.Proofs.YtiagjabdfppgkaaGreat.Sl
