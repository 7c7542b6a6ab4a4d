/- Slate: 'Put'. -/
import Derived.Test.YtiagjabdfppgkaaGreatZd
set_option linter.unusedVariables false
set_option linter.unusedSimpArgs false
set_option maxRecDepth 100000
namespace Go.Proofs.YtiagjabdfppgkaaGreat.Sl
open Go Go.Vc

def insR (x : Nat × List UInt8) : Recs → Recs
  | [] => [x]
  | p :: r => if x.1 < p.1 then x :: p :: r else p :: insR x r
theorem insR_perm (x : Nat × List UInt8) : ∀ L : Recs, (insR x L).Perm (x :: L)
  | [] => .refl _
  | p :: r => by
    rw [insR]
    split
    · exact .refl _
    · exact ((insR_perm x r).cons p).trans (.swap x p r)
theorem insR_mem (x y : Nat × List UInt8) (L : Recs) : y ∈ insR x L ↔ y = x ∨ y ∈ L := by rw [(insR_perm x L).mem_iff, List.mem_cons]
theorem insR_sorted (x : Nat × List UInt8) : ∀ L : Recs, L.Pairwise (fun a b => a.1 < b.1) → (∀ p ∈ L, p.1 ≠ x.1) → (insR x L).Pairwise fun a b => a.1 < b.1
  | [], _, _ => by simp [insR]
  | p :: r, h, hn => by
    obtain ⟨h1, h2⟩ := List.pairwise_cons.1 h
    rw [insR]
    split
    · rename_i hlt
      refine List.pairwise_cons.2 ⟨fun q hq => ?_, h⟩
      rcases List.mem_cons.1 hq with rfl | hq
      · exact hlt
      · have := h1 q hq; omega
    · rename_i hlt
      refine List.pairwise_cons.2 ⟨fun q hq => ?_, insR_sorted x r h2 fun q hq => hn q (.tail _ hq)⟩
      rcases (insR_mem _ _ _).1 hq with rfl | hq
      · have := hn p (.head _); omega
      · exact h1 q hq

def wo (L : Recs) (k : Nat) : Recs := L.filter fun p => p.1 != k
theorem wo_none {L : Recs} {k : Nat} (h : ∀ s, (k, s) ∉ L) : wo L k = L := by
  refine List.filter_eq_self.2 fun p hp => ?_
  have : p.1 ≠ k := fun e => h p.2 (by rw [← e]; exact hp)
  simpa using this
theorem wo_mem {L : Recs} {k : Nat} {p : Nat × List UInt8} : p ∈ wo L k ↔ p ∈ L ∧ p.1 ≠ k := by simp [wo]
theorem wo_tot {L : Recs} (hs : L.Pairwise fun a b => a.1 < b.1) {k : Nat} {s : List UInt8} (h : (k, s) ∈ L) : tot (wo L k) + s.length = tot L := by
  induction L with
  | nil => cases h
  | cons p r ih =>
    obtain ⟨h1, h2⟩ := List.pairwise_cons.1 hs
    by_cases hk : p.1 = k
    · have hp : p = (k, s) := by
        rcases List.mem_cons.1 h with e | m
        · exact e.symm
        · have := h1 _ m; simp only at this; omega
      have hr : wo r k = r := wo_none fun t ht => by have := h1 _ ht; simp only at this; omega
      have e : wo (p :: r) k = r := by
        show List.filter _ (p :: r) = r
        rw [List.filter_cons, if_neg (by simp [hk])]; exact hr
      rw [e, tot_cons, hp]; simp only; omega
    · have hm : (k, s) ∈ r := by
        rcases List.mem_cons.1 h with e | m
        · exact absurd (by rw [← e]) hk
        · exact m
      have e : wo (p :: r) k = p :: wo r k := by
        show List.filter _ (p :: r) = _
        rw [List.filter_cons, if_pos (by simp [hk])]; rfl
      rw [e, tot_cons, tot_cons]
      have := ih h2 hm
      omega

/-- 'drop', of whatever slot -/
theorem drop_any (b : Nat) (g : Pg) (L : Recs) (stamp : Nat) (hR : Rep g L stamp) (K : Nat) (w : World) (h : Blk w b g.cells 132) :
    Calls Tryz.prog 70 #[.pointer (some ⟨b, 0, none⟩), .int .i64 (K : Int)] w fun e w' => e = .returned (.tuple #[]) ∧ ∃ g', Rep g' (wo L K) stamp ∧ Hp [b] w w' [pgA b g'] := by
  by_cases hk : ∃ s, (K, s) ∈ L
  · obtain ⟨s, hs⟩ := hk
    exact Calls.mono (drop_spec b g L stamp hR K s hs w h) fun e w' hh => ⟨hh.1, _, hR.drop hs, hh.2⟩
  · refine Calls.mono (nodrop_spec b g (K : Int) (fun hh => hk (hR.mem_live.1 ⟨by omega, by have := hh.2.2; rwa [Int.toNat_natCast] at this⟩)) w ⟨hR.ok, h⟩) fun e w' hh => ⟨hh.1, g, ?_, ?_⟩
    · rw [wo_none fun s hs => hk ⟨s, hs⟩]; exact hR
    · have H : Hp [b] w w [pgA b g] := Hp.start1 (a := pgA b g) h
      exact H.ext0 hh.2

/-! ### the directory made longer -/
def extD (d : List (Nat × Nat)) (a n : Nat) : List (Nat × Nat) := d.mapIdx fun j p => if a ≤ j ∧ j < n then (0, 0) else p
theorem extD_get (d : List (Nat × Nat)) (a n j : Nat) : (extD d a n)[j]? = d[j]?.map fun p => if a ≤ j ∧ j < n then (0, 0) else p := by
  simp [extD]
theorem extD_len (d : List (Nat × Nat)) (a n : Nat) : (extD d a n).length = d.length := by simp [extD]
theorem extD_self (d : List (Nat × Nat)) (a : Nat) : extD d a a = d := by
  apply List.ext_getElem?
  intro j
  rw [extD_get]
  cases d[j]? with
  | none => rfl
  | some p => rw [Option.map_some, if_neg (by omega)]
theorem extD_succ (d : List (Nat × Nat)) (a m : Nat) (h : a ≤ m) : (extD d a m).set m (0, 0) = extD d a (m + 1) := by
  apply List.ext_getElem?
  intro j
  by_cases hj : m = j
  · subst hj
    rw [extD_get]
    cases hd : d[m]? with
    | none => rw [List.getElem?_eq_none]; · rfl
              rw [List.length_set, extD_len]; exact List.getElem?_eq_none_iff.1 hd
    | some p =>
      rw [List.getElem?_set_self (by rw [extD_len]; exact (List.getElem?_eq_some_iff.1 hd).1), Option.map_some, if_pos ⟨h, by omega⟩]
  · rw [List.getElem?_set_ne hj, extD_get, extD_get]
    cases d[j]? with
    | none => rfl
    | some p =>
      rw [Option.map_some, Option.map_some]
      congr 1
      by_cases hc : a ≤ j ∧ j < m
      · rw [if_pos hc, if_pos ⟨hc.1, by omega⟩]
      · rw [if_neg hc, if_neg (by omega)]
def extG (g : Pg) (m : Nat) : Pg := { g with dir := extD g.dir g.many m, many := m }
theorem extG_ok {g : Pg} (h : g.Ok) {m : Nat} (hm : m ≤ 120) : (extG g m).Ok := ⟨h.st, h.hdr, by show (extD _ _ _).length = 120; rw [extD_len, h.dir], h.data, hm, fun p hp => by
    obtain ⟨j, hj⟩ := List.getElem?_of_mem hp
    have hj : (extD g.dir g.many m)[j]? = some p := hj
    rw [extD_get] at hj
    cases hd : g.dir[j]? with
    | none => rw [hd] at hj; cases hj
    | some q =>
      rw [hd] at hj
      simp only [Option.map_some, Option.some.injEq] at hj
      have := h.ent q (List.mem_of_getElem? hd)
      rw [← hj]
      split
      · simp
      · exact this, h.low⟩
/-- the page behind a record was laid into a free slot -/
def putG (g : Pg) (k : Nat) (s : List UInt8) : Pg :=
  let m := max g.many (k + 1)
  { g with dir := (extD g.dir g.many m).set k (g.low - s.length, s.length), many := m, hdr := m, low := g.low - s.length
           data := g.data.take (g.low - s.length - 490) ++ (s ++ g.data.drop (g.low - s.length - 490 + s.length)) }
theorem Rep.put {g : Pg} {L : Recs} {stamp : Nat} (h : Rep g L stamp) {k : Nat} {s : List UInt8} (hk : k < 120) (hn : ∀ t, (k, t) ∉ L) (hs : tot L + s.length ≤ 3600) : Rep (putG g k s) (insR (k, s) L) stamp := by
  obtain ⟨ord, o1, o2, o3⟩ := h.ord
  have hok := h.ok
  have hlow := h.low
  have hdl := hok.data
  have hml := hok.many
  have hp := insR_perm (k, s) L
  have htot : tot (insR (k, s) L) = s.length + tot L := by rw [tot_perm hp, tot_cons]
  have hmax : g.many ≤ max g.many (k + 1) ∧ k + 1 ≤ max g.many (k + 1) ∧ (max g.many (k + 1) = g.many ∨ max g.many (k + 1) = k + 1) := by omega
  obtain ⟨m, hm⟩ : ∃ m, m = max g.many (k + 1) := ⟨_, rfl⟩
  rw [← hm] at hmax
  have em : (putG g k s).many = m := hm.symm
  have ed : (putG g k s).dir = (extD g.dir g.many m).set k (g.low - s.length, s.length) := by rw [hm]; rfl
  have hdk : (putG g k s).dir[k]? = some (g.low - s.length, s.length) := by
    rw [ed, List.getElem?_set_self (by rw [extD_len, hok.dir]; exact hk)]
  have hdj : ∀ j, j ≠ k → j < g.many → (putG g k s).dir[j]? = g.dir[j]? := by
    intro j hj hjm
    rw [ed, List.getElem?_set_ne (Ne.symm hj), extD_get]
    cases g.dir[j]? with
    | none => rfl
    | some p => rw [Option.map_some, if_neg (by omega)]
  have okp : (putG g k s).Ok := by
    have e1 := extG_ok hok (m := m) (by omega)
    have e2 := e1.ent
    refine ⟨hok.st, by show max g.many (k + 1) < 65536; omega, ?_, ?_, by rw [em]; omega, ?_, by show g.low - s.length ≤ 4096; omega⟩
    · rw [ed, List.length_set, extD_len, hok.dir]
    · show (g.data.take (g.low - s.length - 490) ++ (s ++ g.data.drop (g.low - s.length - 490 + s.length))).length = 3606
      simp only [List.length_append, List.length_take, List.length_drop, hdl]; omega
    · intro p hp
      rw [ed] at hp
      rcases List.mem_or_eq_of_mem_set hp with hp | rfl
      · exact e2 p hp
      · exact ⟨by simp only; omega, by simp only; omega⟩
  refine ⟨okp, h.st, h.stamp, rfl, insR_sorted _ _ h.sorted fun p hp e => hn p.2 (by have e' : p.1 = k := e; rw [← e']; exact hp), ?_, ?_, ?_, ⟨(k, s) :: ord, (o1.cons _).trans hp.symm, ?_, ?_⟩, by omega, ?_⟩
  · intro p hp
    rw [em]
    rcases (insR_mem _ _ _).1 hp with rfl | hp
    · simp only; omega
    · have := h.below _ hp; omega
  · rw [em]
    rcases hmax.2.2 with e | e
    · right
      rcases h.last with h0 | ⟨t, ht⟩
      · omega
      · exact ⟨t, by rw [e]; exact (insR_mem _ _ _).2 (.inr ht)⟩
    · exact .inr ⟨s, by rw [e]; exact (insR_mem _ _ _).2 (.inl rfl)⟩
  · intro j hj hn'
    rw [em] at hj
    have hjk : j ≠ k := fun e => hn' s (by rw [e]; exact (insR_mem _ _ _).2 (.inl rfl))
    by_cases hjm : j < g.many
    · rw [List.getD_eq_getElem?_getD, hdj j hjk hjm, ← List.getD_eq_getElem?_getD]
      exact h.free j hjm fun t ht => hn' t ((insR_mem _ _ _).2 (.inr ht))
    · rw [List.getD_eq_getElem?_getD, ed, List.getElem?_set_ne (Ne.symm hjk), extD_get]
      cases g.dir[j]? with
      | none => rfl
      | some p => rw [Option.map_some, if_pos ⟨by omega, hj⟩]; rfl
  · refine ⟨hdk, ?_⟩
    show Laid (putG g k s).dir (g.low - s.length + s.length) ord
    rw [show g.low - s.length + s.length = g.low by omega]
    have : ∀ (x : Recs) (a : Nat), Laid g.dir a x → (∀ p ∈ x, p ∈ L) → Laid (putG g k s).dir a x := by
      intro x
      induction x with
      | nil => intro a h _; exact h
      | cons p x ih =>
        intro a hl hx
        obtain ⟨j, t⟩ := p
        have hjL := hx (j, t) (.head _)
        refine ⟨?_, ih _ hl.2 fun q hq => hx q (.tail _ hq)⟩
        rw [hdj j (fun e => hn t (by rw [← e]; exact hjL)) (h.below _ hjL)]
        exact hl.1
    exact this ord g.low o2 fun p hp => o1.mem_iff.1 hp
  · show (g.data.take (g.low - s.length - 490) ++ (s ++ g.data.drop (g.low - s.length - 490 + s.length))).drop (g.low - s.length - 490) = _
    rw [drop_left _ _ _ (by rw [List.length_take, hdl]; omega), List.flatMap_cons]
    congr 1
    rw [← o3]
    congr 1
    omega
  · show g.low - s.length + tot (insR (k, s) L) = 4096
    omega

/-- what 'Put' does -/
def aput (L : Recs) (k : Int) (s : List UInt8) : Recs × Int :=
  if k < 0 ∨ 120 ≤ k then (L, 110) else if 3600 < tot (wo L k.toNat) + s.length then (L, 111) else (insR (k.toNat, s) (wo L k.toNat), 0)

set_option maxHeartbeats 1000000 in
theorem put_spec (b : Nat) (g : Pg) (L : Recs) (stamp : Nat) (hR : Rep g L stamp) (k : Int) (s : List UInt8) (w : World) (h : Blk w b g.cells 132) :
    Calls Tryz.prog 39 #[.pointer (some ⟨b, 0, none⟩), .int .i64 k, sv s] w fun e w' => e = .returned (.int .i64 (aput L k s).2) ∧ ∃ g', Rep g' (aput L k s).1 stamp ∧ Hp [b] w w' [pgA b g'] := by
  apply put.ok
  unfold put.vc
  have H : Hp [b] w w [pgA b g] := Hp.start1 (a := pgA b g) h
  have hmax : maxLen = 9223372036854775807 := by simp [maxLen]
  refine br_dec (fun h1 => ?_) (fun h1 => br_dec (fun h2 => ?_) (fun h2 => ?_))
  · rw [aput, if_pos (.inl h1)]; exact ⟨rfl, g, hR, H⟩
  · rw [aput, if_pos (.inr h2)]; exact ⟨rfl, g, hR, H⟩
  obtain ⟨K, rfl⟩ : ∃ K : Nat, k = K := ⟨k.toNat, by omega⟩
  have hK : K < 120 := by omega
  have hsm := hR.small
  rw [aput, if_neg (by omega), Int.toNat_natCast]
  refine callV (room_spec b g _ (pgOf hR.ok H (by exact ⟨rfl, rfl, rfl, rfl⟩) (by repeat first | exact .head _ | refine .tail _ ?_))) ?_
  rintro e w1 ⟨rfl, H'⟩; replace H := H.ext0 H'; clear H'
  refine ⟨_, rfl, ?_⟩
  rw [hR.total_eq]
  refine callV (slot_spec b g K _ (pgOf hR.ok H (by exact ⟨rfl, rfl, rfl, rfl⟩) (by repeat first | exact .head _ | refine .tail _ ?_))) ?_
  rintro e w2 ⟨rfl, H'⟩; replace H := H.ext0 H'; clear H'
  refine ⟨_, _, rfl, ?_⟩
  rw [mk_size]
  have hmem : (if 0 ≤ (K : Int) ∧ (K : Int) < (g.many : Int) then ((g.dir.getD (K : Int).toNat (0, 0)).1 : Int) else 0) = if K < g.many then (atOf g K : Int) else 0 := by
    rw [Int.toNat_natCast]
    by_cases hc : K < g.many
    · rw [if_pos (by omega), if_pos hc]; rfl
    · rw [if_neg (by omega), if_neg hc]
  have hmem2 : (if 0 ≤ (K : Int) ∧ (K : Int) < (g.many : Int) then ((g.dir.getD (K : Int).toNat (0, 0)).2 : Int) else 0) = if K < g.many then (lenOf g K : Int) else 0 := by
    rw [Int.toNat_natCast]
    by_cases hc : K < g.many
    · rw [if_pos (by omega), if_pos hc]; rfl
    · rw [if_neg (by omega), if_neg hc]
  rw [hmem, hmem2]
  have hlive := hR.mem_live (k := K)
  refine JoinP.mk (fun f w' => f = 3600 - (tot (wo L K) : Int) ∧ Hp [b] w w' [pgA b g]) ?_ ?_
  · clear H hmem hmem2
    rintro f w2 ⟨rfl, H⟩
    refine br_dec (fun hf => ?_) (fun hf => ?_)
    · rw [if_pos (by omega)]; exact ⟨rfl, g, hR, H⟩
    rw [if_neg (by omega)]
    refine callV (drop_any b g L stamp hR K _ (H.ok _ (.head _))) ?_
    rintro e w3 ⟨rfl, g', hR', H'⟩; replace H := Hp.use11 (a := pgA b _) H H'; clear H'
    refine ⟨rfl, ?_⟩
    have hno : ∀ t, (K, t) ∉ wo L K := fun t ht => (wo_mem.1 ht).2 rfl
    have hfin := hR'.put hK hno (s := s) (by omega)
    have hgm := hR'.ok.many
    have hgl := hR'.low
    have hgd := hR'.ok.data
    refine LoopP.mk (fun mm _ w' => ∃ m, mm = 121 - m ∧ g'.many ≤ m ∧ m ≤ max g'.many (K + 1) ∧ Hp [b] w w' [pgA b (extG g' m)]) (121 - g'.many) ⟨g'.many, rfl, Nat.le_refl _, by omega, by unfold extG; rw [extD_self]; exact H⟩ ?_
    clear H
    rintro mm u w4 next ⟨m, rfl, hm1, hm2, H⟩ hnext
    have okm := extG_ok hR'.ok (m := m) (by omega)
    refine onP_mk rfl ⟨_, by rw [addB]; exact (pgOf okm H (by exact ⟨rfl, rfl, rfl, rfl⟩) (.head _)).ldMany, ?_⟩
    refine br_dec (fun hle => ?_) (fun hle => ?_)
    · have hle' : m ≤ K := by have h9 : ((m : Nat) : Int) ≤ (K : Int) := hle; omega
      refine onP_mk rfl ⟨_, by rw [addB]; exact (pgOf okm H (by exact ⟨rfl, rfl, rfl, rfl⟩) (.head _)).ldMany, ?_⟩
      refine callV (set_spec b _ m 0 0 (by omega) (by omega) (by omega) _ (pgOf okm H (by exact ⟨rfl, rfl, rfl, rfl⟩) (.head _))) ?_
      rintro e w5 ⟨rfl, ok2, H'⟩; replace H := Hp.use11 (a := pgA b _) H H'; clear H'
      refine ⟨rfl, onP_mk rfl ⟨_, by rw [addB]; exact (pgOf ok2 H (by exact ⟨rfl, rfl, rfl, rfl⟩) (.head _)).ldMany, ?_⟩⟩
      show inR .i64 ((m : Int) + 1) ∧ onP _ fun a => ∃ w1, St Tryz.prog 3 _ (Addr.add a 4096) (.int .i64 ((m : Int) + 1)) w1 ∧ _
      refine ⟨inR64.2 (by omega), onP_mk rfl ?_⟩
      rw [addB, show (m : Int) + 1 = ((m + 1 : Nat) : Int) by omega]
      refine Hp.st H (by exact ⟨rfl, rfl, rfl, rfl⟩) scl3 rfl rfl (by rw [ok2.clen]; omega) (Pg.set_many ok2 _) ?_
      clear H
      intro w6 H
      refine hnext (121 - (m + 1)) _ _ (by omega) ⟨m + 1, rfl, by omega, by omega, ?_⟩
      have e : ({ setD (extG g' m) m 0 0 with many := m + 1 } : Pg) = extG g' (m + 1) := by
        show ({ g' with dir := (extD g'.dir g'.many m).set m (0, 0), many := m + 1 } : Pg) = _
        rw [extD_succ _ _ _ hm1]; rfl
      rw [e] at H
      exact H
    · have hle' : ¬ m ≤ K := fun h9 => hle (by show ((m : Nat) : Int) ≤ (K : Int); omega)
      have hmm : m = max g'.many (K + 1) := by omega
      have hb : ∀ k, ({ extG g' m with hdr := k } : Pg).bs = g'.st ++ (be (k : Int) 2 ++ (dirB (extG g' m).dir ++ g'.data)) := fun k => rfl
      refine onP_mk rfl ⟨_, by rw [addB]; exact (pgOf okm H (by exact ⟨rfl, rfl, rfl, rfl⟩) (.head _)).ldMany, ?_⟩
      refine callV (lay_spec b (extG g' m) { extG g' m with hdr := m } g'.st (be g'.hdr 2) (dirB (extG g' m).dir ++ g'.data) 8 m (be_length _ 2) hR'.ok.st (by omega) rfl (hb m) rfl rfl _ (pgOf okm H (by exact ⟨rfl, rfl, rfl, rfl⟩) (.head _))) ?_
      rintro e w5 ⟨rfl, H'⟩; replace H := Hp.use11 (a := pgA b _) H H'; clear H'
      have ok3 : ({ extG g' m with hdr := m } : Pg).Ok := ⟨okm.st, by show m < 65536; omega, okm.dir, okm.data, okm.many, okm.ent, okm.low⟩
      refine ⟨rfl, onP_mk rfl ⟨_, by rw [addB]; exact (pgOf ok3 H (by exact ⟨rfl, rfl, rfl, rfl⟩) (.head _)).ldLow, ?_⟩⟩
      show inR .i64 ((g'.low : Int) - (s.length : Int)) ∧ onP _ fun a => ∃ w1, St Tryz.prog 3 _ (Addr.add a 4097) (.int .i64 ((g'.low : Int) - (s.length : Int))) w1 ∧ _
      have e1 : (g'.low : Int) - (s.length : Int) = ((g'.low - s.length : Nat) : Int) := by omega
      rw [e1]
      refine ⟨inR64.2 (by omega), onP_mk rfl ?_⟩
      rw [addB]
      refine Hp.st H (by exact ⟨rfl, rfl, rfl, rfl⟩) scl3 rfl rfl (by rw [ok3.clen]; omega) (Pg.set_low ok3 _) ?_
      clear H
      intro w6 H
      obtain ⟨g4, hg4⟩ : ∃ g4 : Pg, g4 = { ({ extG g' m with hdr := m } : Pg) with low := g'.low - s.length } := ⟨_, rfl⟩
      have ok4 : g4.Ok := by rw [hg4]; exact ⟨ok3.st, ok3.hdr, ok3.dir, ok3.data, ok3.many, ok3.ent, by show g'.low - s.length ≤ 4096; omega⟩
      rw [← hg4] at H
      have hlow4 : g4.low = g'.low - s.length := by rw [hg4]
      refine onP_mk rfl (onP_mk rfl ⟨_, by rw [addB]; exact (pgOf ok4 H (by exact ⟨rfl, rfl, rfl, rfl⟩) (.head _)).ldLow, ?_⟩)
      rw [hlow4, Int.toNat_natCast, slA_sl]
      refine ⟨⟨by omega, by omega⟩, ?_⟩
      have hsl2 := sl_le (g'.low - s.length)
      refine Hp.cpy H (by exact ⟨rfl, rfl, rfl, rfl⟩) und37 scl5.size (Src.ofString _ und9 ⟨s.toArray⟩) (by rw [mk_size]; omega) (by rw [mk_size, ok4.clen]; omega) ?_
      clear H
      intro w7 H
      rw [byteCells_mk, over_sl _ _ _ (by rw [bcells_length]; omega), over_data ok4 (by omega) (by omega)] at H
      have ok5 := putData_ok ok4 (i := g'.low - s.length) (x := s) (by omega) (by omega)
      refine onP_mk rfl ⟨_, by rw [addB]; exact (pgOf ok5 H (by exact ⟨rfl, rfl, rfl, rfl⟩) (.head _)).ldLow, ?_⟩
      have hlow5 : (putData g4 (g'.low - s.length) s).low = g'.low - s.length := hlow4
      rw [hlow5]
      refine callV (set_spec b _ K (g'.low - s.length) s.length hK (by omega) (by omega) _ (pgOf ok5 H (by exact ⟨rfl, rfl, rfl, rfl⟩) (.head _))) ?_
      rintro e w8 ⟨rfl, _, H'⟩; replace H := Hp.use11 (a := pgA b _) H H'; clear H'
      refine ⟨rfl, rfl, _, hfin, ?_⟩
      have e : setD (putData g4 (g'.low - s.length) s) K (g'.low - s.length) s.length = putG g' K s := by
        rw [hg4]
        unfold putG setD putData extG
        simp only [← hmm]
      rw [e] at H
      exact H
  · intro J hJ
    refine br_dec (fun h0 => ?_) (fun h0 => ?_)
    · have hkm : K < g.many := by
        refine Classical.byContradiction fun hn => ?_
        rw [if_neg hn] at h0; omega
      rw [if_pos hkm] at h0 ⊢
      obtain ⟨t, ht⟩ := hR.mem_live.1 ⟨hkm, by omega⟩
      have hat := hR.at_ ht
      have hwt := wo_tot hR.sorted ht
      exact ⟨inR64.2 (by omega), hJ _ _ ⟨by omega, H⟩⟩
    · refine hJ _ _ ⟨?_, H⟩
      rw [wo_none]
      intro t ht
      have hat := hR.at_ ht
      have := hR.below _ ht
      rw [if_pos this] at h0
      omega
end Go.Proofs.YtiagjabdfppgkaaGreat.Sl
