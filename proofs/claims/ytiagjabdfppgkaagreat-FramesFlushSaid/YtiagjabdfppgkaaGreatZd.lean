/- Slate: 'drop'. -/
import Derived.Test.YtiagjabdfppgkaaGreatZc
set_option linter.unusedVariables false
set_option linter.unusedSimpArgs false
set_option maxRecDepth 100000
namespace Go.Proofs.YtiagjabdfppgkaaGreat.Sl
open Go Go.Vc

theorem Pg.set_many {g : Pg} (h : g.Ok) (m : Nat) : g.cells.set 4096 (.int .i64 (m : Int)) = ({ g with many := m } : Pg).cells := by
  rw [Pg.cells, List.set_append, if_neg (by rw [bcells_length, h.len]; omega), bcells_length, h.len]; rfl
theorem Pg.set_low {g : Pg} (h : g.Ok) (m : Nat) : g.cells.set 4097 (.int .i64 (m : Int)) = ({ g with low := m } : Pg).cells := by
  rw [Pg.cells, List.set_append, if_neg (by rw [bcells_length, h.len]; omega), bcells_length, h.len]; rfl
def sl (i : Nat) : Nat := if 4096 = i then 0 else i
theorem slA_sl (b i : Nat) : slA (some ⟨b, 0, none⟩) 4096 i 1 = some ⟨b, sl i, none⟩ := by
  unfold slA sl
  split
  · rfl
  · rw [Option.map_some, Nat.mul_one, addB]
theorem over_sl (x : List Value) (i : Nat) (cs : List Value) (h : i + x.length ≤ 4096) : over x (sl i) cs = over x i cs := by
  unfold sl
  split
  · have : x = [] := List.eq_nil_of_length_eq_zero (by omega)
    subst this; rw [over_nil, over_nil]
  · rfl
theorem sl_le (i : Nat) : sl i ≤ i := by unfold sl; split <;> omega
def putData (g : Pg) (i : Nat) (x : List UInt8) : Pg := { g with data := g.data.take (i - 490) ++ (x ++ g.data.drop (i - 490 + x.length)) }
theorem putData_ok {g : Pg} (h : g.Ok) {i : Nat} {x : List UInt8} (h1 : 490 ≤ i) (h2 : i + x.length ≤ 4096) : (putData g i x).Ok :=
  ⟨h.st, h.hdr, h.dir, by simp only [putData, List.length_append, List.length_take, List.length_drop, h.data]; omega, h.many, h.ent, h.low⟩
theorem over_data {g : Pg} (h : g.Ok) {i : Nat} {x : List UInt8} (h1 : 490 ≤ i) (h2 : i + x.length ≤ 4096) : over (bcells x) i g.cells = (putData g i x).cells := by
  have hd := h.data
  have e : g.data = g.data.take (i - 490) ++ ((g.data.drop (i - 490)).take x.length ++ g.data.drop (i - 490 + x.length)) := by
    rw [← List.drop_drop, List.take_append_drop, List.take_append_drop]
  obtain ⟨p, hp⟩ : ∃ p, p = g.st ++ (be g.hdr 2 ++ dirB g.dir) := ⟨_, rfl⟩
  have hpl : p.length = 490 := by rw [hp]; simp only [List.length_append, be_length, dirB_len, h.st, h.dir]
  have hb : ∀ d : List UInt8, ({ g with data := d } : Pg).bs = p ++ d := fun d => by rw [hp]; simp [Pg.bs]
  have hself : g.bs = p ++ g.data := hb g.data
  have e1 : g.cells = bcells (p ++ g.data.take (i - 490)) ++ (bcells ((g.data.drop (i - 490)).take x.length) ++ (bcells (g.data.drop (i - 490 + x.length)) ++ [.int .i64 (g.many : Int), .int .i64 (g.low : Int)])) := by
    conv => lhs; rw [Pg.cells, hself, e]
    simp only [bcells_append, List.append_assoc]
  have e2 : (putData g i x).cells = bcells (p ++ g.data.take (i - 490)) ++ (bcells x ++ (bcells (g.data.drop (i - 490 + x.length)) ++ [.int .i64 (g.many : Int), .int .i64 (g.low : Int)])) := by
    show bcells ({ g with data := g.data.take (i - 490) ++ (x ++ g.data.drop (i - 490 + x.length)) } : Pg).bs ++ _ = _
    rw [hb]
    simp only [bcells_append, List.append_assoc]; rfl
  have hi : (bcells (p ++ g.data.take (i - 490))).length = i := by rw [bcells_length, List.length_append, hpl, List.length_take, hd]; omega
  rw [e1, e2]
  have key := over_app (bcells x) (bcells (p ++ g.data.take (i - 490))) (bcells ((g.data.drop (i - 490)).take x.length)) (bcells (g.data.drop (i - 490 + x.length)) ++ [.int .i64 (g.many : Int), .int .i64 (g.low : Int)]) (by rw [bcells_length, bcells_length, List.length_take, List.length_drop, hd]; omega)
  rw [hi] at key
  exact key
theorem bcells_zero (n : Nat) : List.replicate n (Value.int .u8 0) = bcells (List.replicate n 0) := by simp [bcells]
theorem zero5 : zeroOf Tryz.prog 5 = some (.int .u8 0) := by kernel_rfl

theorem pgOf {B : List Nat} {w0 w w' : World} {L : List Asn} {b : Nat} {g : Pg} (hok : g.Ok) (H : Hp B w0 w L) (e : Eqw w w') (m : pgA b g ∈ L) : PgAt w' b g := ⟨hok, (H.go e).ok _ m⟩
set_option maxHeartbeats 1000000 in
theorem nodrop_spec (b : Nat) (g : Pg) (k : Int) (hk : ¬ (0 ≤ k ∧ k < g.many ∧ 0 < atOf g k.toNat)) (w : World) (h : PgAt w b g) :
    Calls Tryz.prog 70 #[.pointer (some ⟨b, 0, none⟩), .int .i64 k] w fun e w' => e = .returned (.tuple #[]) ∧ Hp [] w w' [] := by
  apply drop.ok
  unfold drop.vc
  have H := Hp.start w
  (intro _ _ hn; replace H := H.new (by exact ⟨rfl, rfl, rfl, rfl⟩) hn; clear hn)
  ((repeat apply Exists.intro); first | refine ⟨H.ld (by exact ⟨rfl, rfl, rfl, rfl⟩) (by first | exact scl3 | exact scl23) (by repeat first | exact .head _ | refine .tail _ ?_) rfl, ?_⟩)
  refine callV (slot_spec b g k _ (h.chg H.chg (by simp))) ?_
  rintro e w1 ⟨rfl, H'⟩; replace H := H.ext0 H'; clear H'
  have h0 : (if 0 ≤ k ∧ k < (g.many : Int) then ((g.dir.getD k.toNat (0, 0)).1 : Int) else 0) = 0 := by
    split
    · rename_i hh
      have : ¬ 0 < atOf g k.toNat := fun h0 => hk ⟨hh.1, hh.2, h0⟩
      have h2 : (g.dir.getD k.toNat (0, 0)).1 = atOf g k.toNat := rfl
      omega
    · rfl
  rw [h0]
  refine ⟨_, _, rfl, ?_⟩
  (intro _ _ hn; replace H := H.new (by exact ⟨rfl, rfl, rfl, rfl⟩) hn; clear hn)
  (intro _ _ hn; replace H := H.new (by exact ⟨rfl, rfl, rfl, rfl⟩) hn; clear hn)
  ((first | (apply Hp.st; (case H => first | exact H | exact H.pull1 | exact H.pull2 | exact H.pull3 | exact H.pull4 | exact H.pull5 | exact H.pull6 | exact H.pull7); (case e => exact ⟨rfl, rfl, rfl, rfl⟩); (case S => exact (by first | exact scl3 | exact scl23)); (case hv => exact rfl); (case h1 => exact rfl); (case ho => exact Nat.le_of_ble_eq_true rfl); (case hc => exact rfl))); clear H; intro _ H; (try simp only [over, List.set_cons_zero, List.set_cons_succ] at H))
  ((first | (apply Hp.st; (case H => first | exact H | exact H.pull1 | exact H.pull2 | exact H.pull3 | exact H.pull4 | exact H.pull5 | exact H.pull6 | exact H.pull7); (case e => exact ⟨rfl, rfl, rfl, rfl⟩); (case S => exact (by first | exact scl3 | exact scl23)); (case hv => exact rfl); (case h1 => exact rfl); (case ho => exact Nat.le_of_ble_eq_true rfl); (case hc => exact rfl))); clear H; intro _ H; (try simp only [over, List.set_cons_zero, List.set_cons_succ] at H))
  ((repeat apply Exists.intro); first | refine ⟨H.ld (by exact ⟨rfl, rfl, rfl, rfl⟩) (by first | exact scl3 | exact scl23) (by repeat first | exact .head _ | refine .tail _ ?_) rfl, ?_⟩)
  exact br_dec (fun _ => ⟨rfl, H.done⟩) (fun h => absurd rfl h)

set_option maxHeartbeats 1000000 in
theorem drop_spec (b : Nat) (g : Pg) (L : Recs) (stamp : Nat) (hR : Rep g L stamp) (K : Nat) (s : List UInt8) (hK : (K, s) ∈ L) (w : World) (h : Blk w b g.cells 132) :
    Calls Tryz.prog 70 #[.pointer (some ⟨b, 0, none⟩), .int .i64 (K : Int)] w fun e w' => e = .returned (.tuple #[]) ∧ Hp [b] w w' [pgA b (dropG g K)] := by
  apply drop.ok
  unfold drop.vc
  have H : Hp [b] w w [pgA b g] := Hp.start1 (a := pgA b g) h
  have hok := hR.ok
  have hml := hok.many
  have hdl := hok.data
  obtain ⟨pre, post, p1, p2, p3, p4, p5, p6⟩ := hR.entry hK
  obtain ⟨q1, q2, q3, q4⟩ := hR.at_ hK
  have hkm := hR.below _ hK
  have ea : atOf g K = g.low + tot pre := by rw [atOf, getD_of p4]
  (intro _ _ hn; replace H := H.new (by exact ⟨rfl, rfl, rfl, rfl⟩) hn; clear hn)
  ((repeat apply Exists.intro); first | refine ⟨H.ld (by exact ⟨rfl, rfl, rfl, rfl⟩) (by first | exact scl3 | exact scl23) (by repeat first | exact .head _ | refine .tail _ ?_) rfl, ?_⟩)
  refine callV (slot_in b g K hkm _ ⟨hok, H.ok _ (.tail _ (.head _))⟩) ?_
  rintro e w1 ⟨rfl, H'⟩; replace H := H.ext0 H'; clear H'
  refine ⟨_, _, rfl, ?_⟩
  (intro _ _ hn; replace H := H.new (by exact ⟨rfl, rfl, rfl, rfl⟩) hn; clear hn)
  (intro _ _ hn; replace H := H.new (by exact ⟨rfl, rfl, rfl, rfl⟩) hn; clear hn)
  ((first | (apply Hp.st; (case H => first | exact H | exact H.pull1 | exact H.pull2 | exact H.pull3 | exact H.pull4 | exact H.pull5 | exact H.pull6 | exact H.pull7); (case e => exact ⟨rfl, rfl, rfl, rfl⟩); (case S => exact (by first | exact scl3 | exact scl23)); (case hv => exact rfl); (case h1 => exact rfl); (case ho => exact Nat.le_of_ble_eq_true rfl); (case hc => exact rfl))); clear H; intro _ H; (try simp only [over, List.set_cons_zero, List.set_cons_succ] at H))
  ((first | (apply Hp.st; (case H => first | exact H | exact H.pull1 | exact H.pull2 | exact H.pull3 | exact H.pull4 | exact H.pull5 | exact H.pull6 | exact H.pull7); (case e => exact ⟨rfl, rfl, rfl, rfl⟩); (case S => exact (by first | exact scl3 | exact scl23)); (case hv => exact rfl); (case h1 => exact rfl); (case ho => exact Nat.le_of_ble_eq_true rfl); (case hc => exact rfl))); clear H; intro _ H; (try simp only [over, List.set_cons_zero, List.set_cons_succ] at H))
  ((repeat apply Exists.intro); first | refine ⟨H.ld (by exact ⟨rfl, rfl, rfl, rfl⟩) (by first | exact scl3 | exact scl23) (by repeat first | exact .head _ | refine .tail _ ?_) rfl, ?_⟩)
  rename_i b0 _ b1 _ b2 _ _ _
  generalize hat : atOf g K = at_ at *
  generalize hln : lenOf g K = n at *
  refine br_dec (fun h0 => absurd h0 (by omega)) (fun _ => ?_)
  replace H := H.drew
  have hpl : ∀ w', Hp [b] w w' [.blk b2 [.int .i64 (n : Int)] 3, .blk b1 [.int .i64 (at_ : Int)] 3, .blk b0 [.pointer (some ⟨b, 0, none⟩)] 37, pgA b g] → PgAt w' b g := fun w' H => ⟨hok, H.ok _ (.tail _ (.tail _ (.tail _ (.head _))))⟩
  ((repeat apply Exists.intro); first | refine ⟨H.ld (by exact ⟨rfl, rfl, rfl, rfl⟩) (by first | exact scl3 | exact scl23) (by repeat first | exact .head _ | refine .tail _ ?_) rfl, ?_⟩)
  refine onP_mk rfl ?_
  ((repeat apply Exists.intro); first | refine ⟨H.ld (by exact ⟨rfl, rfl, rfl, rfl⟩) (by first | exact scl3 | exact scl23) (by repeat first | exact .head _ | refine .tail _ ?_) rfl, ?_⟩)
  refine onP_mk rfl ⟨_, by rw [addB]; exact (hpl _ H).ldLow, ?_⟩
  ((repeat apply Exists.intro); first | refine ⟨H.ld (by exact ⟨rfl, rfl, rfl, rfl⟩) (by first | exact scl3 | exact scl23) (by repeat first | exact .head _ | refine .tail _ ?_) rfl, ?_⟩)
  refine ⟨inR64.2 (by omega), ?_⟩
  ((repeat apply Exists.intro); first | refine ⟨H.ld (by exact ⟨rfl, rfl, rfl, rfl⟩) (by first | exact scl3 | exact scl23) (by repeat first | exact .head _ | refine .tail _ ?_) rfl, ?_⟩)
  ((repeat apply Exists.intro); first | refine ⟨H.ld (by exact ⟨rfl, rfl, rfl, rfl⟩) (by first | exact scl3 | exact scl23) (by repeat first | exact .head _ | refine .tail _ ?_) rfl, ?_⟩)
  have e1 : Int.toNat ((g.low : Int) + (n : Int)) = g.low + n := by omega
  have e2 : Int.toNat ((at_ : Int) + (n : Int)) = at_ + n := by omega
  have e3 : Int.toNat (g.low : Int) = g.low := by omega
  have e4 : Int.toNat (at_ : Int) = at_ := by omega
  rw [e1, e2]
  refine ⟨inR64.2 (by omega), ⟨by omega, by omega, by omega⟩, ?_⟩
  ((repeat apply Exists.intro); first | refine ⟨H.ld (by exact ⟨rfl, rfl, rfl, rfl⟩) (by first | exact scl3 | exact scl23) (by repeat first | exact .head _ | refine .tail _ ?_) rfl, ?_⟩)
  refine onP_mk rfl ?_
  ((repeat apply Exists.intro); first | refine ⟨H.ld (by exact ⟨rfl, rfl, rfl, rfl⟩) (by first | exact scl3 | exact scl23) (by repeat first | exact .head _ | refine .tail _ ?_) rfl, ?_⟩)
  refine onP_mk rfl ⟨_, by rw [addB]; exact (hpl _ H).ldLow, ?_⟩
  ((repeat apply Exists.intro); first | refine ⟨H.ld (by exact ⟨rfl, rfl, rfl, rfl⟩) (by first | exact scl3 | exact scl23) (by repeat first | exact .head _ | refine .tail _ ?_) rfl, ?_⟩)
  rw [e3, e4]
  refine ⟨⟨by omega, by omega, by omega⟩, ?_⟩
  have hcell := (hpl _ H).cellsB g.low (at_ - g.low) (by omega)
  rw [slA_sl] at hcell
  rw [slA_sl, slA_sl]
  have hbl : ((g.bs.drop g.low).take (at_ - g.low)).length = at_ - g.low := by rw [List.length_take, List.length_drop, hok.len]; omega
  have hsl := sl_le (g.low + n)
  refine Hp.cpy H.pull3 (by exact ⟨rfl, rfl, rfl, rfl⟩) und37 scl5.size (Cells.src und37 hcell (by rw [bcells_length, hbl, Nat.mul_one]) (bcells_one _) (fun h => by cases h)) (by omega) (by rw [hok.clen]; omega) ?_
  clear H hcell
  intro w3 H
  have hd490 : g.bs.drop 490 = g.data := by
    have : g.bs = (g.st ++ (be g.hdr 2 ++ dirB g.dir)) ++ g.data := by simp [Pg.bs]
    rw [this]
    exact drop_left _ _ _ (by simp only [List.length_append, be_length, dirB_len, hok.st, hok.dir])
  have hmv : (g.bs.drop g.low).take (at_ - g.low) = (g.data.drop (g.low - 490)).take (at_ - g.low) := by
    rw [← hd490, List.drop_drop, show 490 + (g.low - 490) = g.low by omega]
  rw [over_sl _ _ _ (by rw [bcells_length, hbl]; omega), over_data hok (by omega) (by rw [hbl]; omega)] at H
  have ok1 := putData_ok hok (i := g.low + n) (x := (g.bs.drop g.low).take (at_ - g.low)) (by omega) (by rw [hbl]; omega)
  obtain ⟨g1, hg1⟩ : ∃ g1, g1 = putData g (g.low + n) ((g.bs.drop g.low).take (at_ - g.low)) := ⟨_, rfl⟩
  rw [← hg1] at H ok1
  have hdir1 : g1.dir = g.dir := by rw [hg1]; rfl
  have hmany1 : g1.many = g.many := by rw [hg1]; rfl
  have hlow1 : g1.low = g.low := by rw [hg1]; rfl
  -- the directory
  have okS : ∀ k, ({ g1 with dir := shiftD g.dir at_ n k } : Pg).Ok := fun k => ⟨ok1.st, ok1.hdr, by rw [shiftD_len]; exact hok.dir, ok1.data, ok1.many, fun p hp => by
    obtain ⟨j, hj⟩ := List.getElem?_of_mem hp
    rw [shiftD_get] at hj
    cases hd : g.dir[j]? with
    | none => rw [hd] at hj; cases hj
    | some q =>
      rw [hd] at hj
      simp only [Option.map_some, Option.some.injEq] at hj
      have := hok.ent q (List.mem_of_getElem? hd)
      rw [← hj]
      split
      · simp only; omega
      · exact this, ok1.low⟩
  have hatS : ∀ k, atOf { g1 with dir := shiftD g.dir at_ n k } k = atOf g k ∧ lenOf { g1 with dir := shiftD g.dir at_ n k } k = lenOf g k := fun k => by
    refine ⟨?_, ?_⟩
    · show ((shiftD g.dir at_ n k).getD k (0, 0)).1 = _
      rw [shiftD_at]; rfl
    · show ((shiftD g.dir at_ n k).getD k (0, 0)).2 = _
      rw [shiftD_at]; rfl
  have H : Hp [b] w w3 [pgA b { g1 with dir := shiftD g.dir at_ n 0 }, .blk b2 [.int .i64 (n : Int)] 3, .blk b1 [.int .i64 (at_ : Int)] 3, .blk b0 [.pointer (some ⟨b, 0, none⟩)] 37] := by
    rw [shiftD_zero, ← hdir1]; exact H
  replace H := H.pull3
  ((repeat apply Exists.intro); first | refine ⟨H.ld (by exact ⟨rfl, rfl, rfl, rfl⟩) (by first | exact scl3 | exact scl23) (by repeat first | exact .head _ | refine .tail _ ?_) rfl, ?_⟩)
  refine ⟨_, _, _, rfl, ⟨_, _, Tryz.func38, rfl⟩, ?_⟩
  refine range_each b g.many (fun k (_ : Unit) => { g1 with dir := shiftD g.dir at_ n k }) (fun k (_ : Unit) => [pgA b { g1 with dir := shiftD g.dir at_ n k }, .blk b2 [.int .i64 (n : Int)] 3, .blk b1 [.int .i64 (at_ : Int)] 3, .blk b0 [.pointer (some ⟨b, 0, none⟩)] 37]) (fun _ _ => True) (fun _ : Unit => []) (fun _ => False) () trivial (by ((try dsimp only [List.cons_append, List.nil_append]); (try dsimp only [List.cons_append, List.nil_append] at H); refine Hp.perm H ?_; (repeat (apply perm_step; (focus first | exact perm_p0 | exact perm_p1 | exact perm_p2 | exact perm_p3 | exact perm_p4 | exact perm_p5 | exact perm_p6 | exact perm_p7 | exact perm_p8 | exact perm_p9))); exact List.Perm.refl _))
    (fun k x w' T _ H => ⟨⟨okS k, H.ok _ (.head _)⟩, hmany1⟩) (fun k x hk _ h0 => ⟨x, trivial, by
      rw [(hatS k).1] at h0
      have h0' : (g.dir.getD k (0, 0)).1 = 0 := h0
      rw [shiftD_succ, if_neg (by omega)]⟩) ?_ ?_ (fun y D w' hs _ => hs.elim)
  · clear H
    intro k x hk _ h0 w' T0 T1 begin kn kr kx _ hbeg hkn _
    refine hbeg _ fun w2 H => ?_
    simp only [List.cons_append, List.nil_append] at H
    replace H := H.pull3
    ((repeat apply Exists.intro); first | refine ⟨H.ld (by exact ⟨rfl, rfl, rfl, rfl⟩) (by first | exact scl3 | exact scl23) (by repeat first | exact .head _ | refine .tail _ ?_) rfl, ?_⟩)
    replace H := H.pull1
    have hA := pgOf (okS k) H (by exact ⟨rfl, rfl, rfl, rfl⟩) (by repeat first | exact .head _ | refine .tail _ ?_)
    refine callV (slot_in b _ k (by show k < g1.many; rw [hmany1]; exact hk) _ hA) ?_
    rintro e w4 ⟨rfl, H'⟩; replace H := H.ext0 H'; clear H'
    rw [(hatS k).1, (hatS k).2]
    rw [(hatS k).1] at h0
    have hb := hok.atB k
    refine ⟨_, _, rfl, ?_⟩
    replace H := H.pull3
    ((repeat apply Exists.intro); first | refine ⟨H.ld (by exact ⟨rfl, rfl, rfl, rfl⟩) (by first | exact scl3 | exact scl23) (by repeat first | exact .head _ | refine .tail _ ?_) rfl, ?_⟩)
    have key := shiftD_succ g.dir at_ n k
    refine br_dec (fun hle => ?_) (fun hle => ?_)
    · ((repeat apply Exists.intro); first | refine ⟨H.ld (by exact ⟨rfl, rfl, rfl, rfl⟩) (by first | exact scl3 | exact scl23) (by repeat first | exact .head _ | refine .tail _ ?_) rfl, ?_⟩)
      ((repeat apply Exists.intro); first | refine ⟨H.ld (by exact ⟨rfl, rfl, rfl, rfl⟩) (by first | exact scl3 | exact scl23) (by repeat first | exact .head _ | refine .tail _ ?_) rfl, ?_⟩)
      refine ⟨inR64.2 (by omega), ?_⟩
      have e5 : (atOf g k : Int) + (n : Int) = ((atOf g k + n : Nat) : Int) := by omega
      rw [e5]
      replace H : Hp [b] w w4 (pgA b { g1 with dir := shiftD g.dir at_ n k } :: .blk b2 [.int .i64 (n : Int)] 3 :: .blk b1 [.int .i64 (at_ : Int)] 3 :: .blk b0 [.pointer (some ⟨b, 0, none⟩)] 37 :: T1) := by ((try dsimp only [List.cons_append, List.nil_append]); (try dsimp only [List.cons_append, List.nil_append] at H); refine Hp.perm H ?_; (repeat (apply perm_step; (focus first | exact perm_p0 | exact perm_p1 | exact perm_p2 | exact perm_p3 | exact perm_p4 | exact perm_p5 | exact perm_p6 | exact perm_p7 | exact perm_p8 | exact perm_p9))); exact List.Perm.refl _)
      refine callV (set_spec b _ k (atOf g k + n) (lenOf g k) (by omega) (by omega) (by omega) _ (pgOf (okS k) H (by exact ⟨rfl, rfl, rfl, rfl⟩) (by repeat first | exact .head _ | refine .tail _ ?_))) ?_
      rintro e w5 ⟨rfl, _, H'⟩; replace H := Hp.use11 (a := pgA b _) H H'; clear H'
      have hs : setD { g1 with dir := shiftD g.dir at_ n k } k (atOf g k + n) (lenOf g k) = { g1 with dir := shiftD g.dir at_ n (k + 1) } := by
        rw [key, if_pos ⟨h0, by show atOf g k ≤ at_; omega⟩]; rfl
      rw [hs] at H
      exact ⟨rfl, hkn _ () trivial (by ((try dsimp only [List.cons_append, List.nil_append]); (try dsimp only [List.cons_append, List.nil_append] at H); refine Hp.perm H ?_; (repeat (apply perm_step; (focus first | exact perm_p0 | exact perm_p1 | exact perm_p2 | exact perm_p3 | exact perm_p4 | exact perm_p5 | exact perm_p6 | exact perm_p7 | exact perm_p8 | exact perm_p9))); exact List.Perm.refl _))⟩
    · refine hkn _ () trivial ?_
      have hs : shiftD g.dir at_ n (k + 1) = shiftD g.dir at_ n k := by rw [key, if_neg (fun hh => hle (by have h9 : atOf g k ≤ at_ := hh.2; omega))]
      rw [hs]
      ((try dsimp only [List.cons_append, List.nil_append]); (try dsimp only [List.cons_append, List.nil_append] at H); refine Hp.perm H ?_; (repeat (apply perm_step; (focus first | exact perm_p0 | exact perm_p1 | exact perm_p2 | exact perm_p3 | exact perm_p4 | exact perm_p5 | exact perm_p6 | exact perm_p7 | exact perm_p8 | exact perm_p9))); exact List.Perm.refl _)
  · clear H
    intro x D w' _ H
    simp only [List.cons_append, List.nil_append] at H
    obtain ⟨gS, hgS⟩ : ∃ gS : Pg, gS = { g1 with dir := shiftD g.dir at_ n g.many } := ⟨_, rfl⟩
    have okg : gS.Ok := by rw [hgS]; exact okS _
    rw [← hgS] at H
    have hlowS : gS.low = g.low := by rw [hgS]; exact hlow1
    have hmanyS : gS.many = g.many := by rw [hgS]; exact hmany1
    ((repeat apply Exists.intro); first | refine ⟨H.ld (by exact ⟨rfl, rfl, rfl, rfl⟩) (by first | exact scl3 | exact scl23) (by repeat first | exact .head _ | refine .tail _ ?_) rfl, ?_⟩)
    refine onP_mk rfl ?_
    ((repeat apply Exists.intro); first | refine ⟨H.ld (by exact ⟨rfl, rfl, rfl, rfl⟩) (by first | exact scl3 | exact scl23) (by repeat first | exact .head _ | refine .tail _ ?_) rfl, ?_⟩)
    refine onP_mk rfl ⟨_, by rw [addB]; exact (pgOf okg H (by exact ⟨rfl, rfl, rfl, rfl⟩) (by repeat first | exact .head _ | refine .tail _ ?_)).ldLow, ?_⟩
    ((repeat apply Exists.intro); first | refine ⟨H.ld (by exact ⟨rfl, rfl, rfl, rfl⟩) (by first | exact scl3 | exact scl23) (by repeat first | exact .head _ | refine .tail _ ?_) rfl, ?_⟩)
    refine onP_mk rfl ⟨_, by rw [addB]; exact (pgOf okg H (by exact ⟨rfl, rfl, rfl, rfl⟩) (by repeat first | exact .head _ | refine .tail _ ?_)).ldLow, ?_⟩
    ((repeat apply Exists.intro); first | refine ⟨H.ld (by exact ⟨rfl, rfl, rfl, rfl⟩) (by first | exact scl3 | exact scl23) (by repeat first | exact .head _ | refine .tail _ ?_) rfl, ?_⟩)
    rw [hlowS, e1, e3]
    refine ⟨inR64.2 (by omega), ⟨by omega, by omega, by omega⟩, ?_⟩
    rw [slA_sl, show g.low + n - g.low = n by omega]
    refine Hp.clr (e := 5) H (by exact ⟨rfl, rfl, rfl, rfl⟩) und37 zero5 rfl rfl (by rw [okg.clen]; have := sl_le g.low; omega) ?_
    clear H
    intro w4 H
    rw [over_sl _ _ _ (by rw [List.length_replicate]; omega), bcells_zero, over_data okg (by omega) (by rw [List.length_replicate]; omega)] at H
    have okc := putData_ok okg (i := g.low) (x := List.replicate n 0) (by omega) (by rw [List.length_replicate]; omega)
    obtain ⟨gC, hgC⟩ : ∃ gC : Pg, gC = putData gS g.low (List.replicate n 0) := ⟨_, rfl⟩
    rw [← hgC] at H okc
    have hlowC : gC.low = g.low := by rw [hgC]; exact hlowS
    have hmanyC : gC.many = g.many := by rw [hgC]; exact hmanyS
    replace H : Hp [b] w w4 [.blk b gC.cells 132, .blk b2 [.int .i64 (n : Int)] 3, .blk b1 [.int .i64 (at_ : Int)] 3, .blk b0 [.pointer (some ⟨b, 0, none⟩)] 37, objA D (.deferred (some []))] := by ((try dsimp only [List.cons_append, List.nil_append]); (try dsimp only [List.cons_append, List.nil_append] at H); refine Hp.perm H ?_; (repeat (apply perm_step; (focus first | exact perm_p0 | exact perm_p1 | exact perm_p2 | exact perm_p3 | exact perm_p4 | exact perm_p5 | exact perm_p6 | exact perm_p7 | exact perm_p8 | exact perm_p9))); exact List.Perm.refl _)
    ((repeat apply Exists.intro); first | refine ⟨H.ld (by exact ⟨rfl, rfl, rfl, rfl⟩) (by first | exact scl3 | exact scl23) (by repeat first | exact .head _ | refine .tail _ ?_) rfl, ?_⟩)
    refine onP_mk rfl ⟨_, by rw [addB]; exact (pgOf okc H (by exact ⟨rfl, rfl, rfl, rfl⟩) (.head _)).ldLow, ?_⟩
    ((repeat apply Exists.intro); first | refine ⟨H.ld (by exact ⟨rfl, rfl, rfl, rfl⟩) (by first | exact scl3 | exact scl23) (by repeat first | exact .head _ | refine .tail _ ?_) rfl, ?_⟩)
    rw [hlowC]
    refine ⟨inR64.2 (by omega), onP_mk rfl ?_⟩
    have e6 : (g.low : Int) + (n : Int) = ((g.low + n : Nat) : Int) := by omega
    rw [addB, e6]
    refine Hp.st H (by exact ⟨rfl, rfl, rfl, rfl⟩) scl3 rfl rfl (by rw [okc.clen]; omega) (Pg.set_low okc _) ?_
    clear H
    intro w5 H
    have okl : ({ gC with low := g.low + n } : Pg).Ok := ⟨okc.st, okc.hdr, okc.dir, okc.data, okc.many, okc.ent, by show g.low + n ≤ 4096; omega⟩
    ((repeat apply Exists.intro); first | refine ⟨H.ld (by exact ⟨rfl, rfl, rfl, rfl⟩) (by first | exact scl3 | exact scl23) (by repeat first | exact .head _ | refine .tail _ ?_) rfl, ?_⟩)
    refine callV (set_spec b _ K 0 0 (by omega) (by omega) (by omega) _ (pgOf okl H (by exact ⟨rfl, rfl, rfl, rfl⟩) (.head _))) ?_
    rintro e w6 ⟨rfl, okk, H'⟩; replace H := Hp.use11 (a := pgA b _) H H'; clear H'
    refine ⟨rfl, ?_⟩
    obtain ⟨gK, hgK⟩ : ∃ gK : Pg, gK = setD { gC with low := g.low + n } K 0 0 := ⟨_, rfl⟩
    rw [← hgK] at H okk
    have hmanyK : gK.many = g.many := by rw [hgK]; exact hmanyC
    have okM : ∀ m, m ≤ g.many → ({ gK with many := m } : Pg).Ok := fun m hm => ⟨okk.st, okk.hdr, okk.dir, okk.data, by show m ≤ 120; omega, okk.ent, okk.low⟩
    have hfin : { gK with many := trim gK.dir g.many, hdr := trim gK.dir g.many } = dropG g K := by
      have hD : gK.dir = (shiftD g.dir at_ n g.many).set K (0, 0) := by rw [hgK, hgC, hgS]; rfl
      have hdat : gK.data = g.data.take (g.low - 490) ++ (List.replicate n 0 ++ ((g.data.drop (g.low - 490)).take (at_ - g.low) ++ g.data.drop (at_ + n - 490))) := by
        have a1 : gK.data = gS.data.take (g.low - 490) ++ (List.replicate n 0 ++ gS.data.drop (g.low - 490 + n)) := by rw [hgK, hgC]; simp [setD, putData]
        have a2 : gS.data = g.data.take (g.low + n - 490) ++ ((g.data.drop (g.low - 490)).take (at_ - g.low) ++ g.data.drop (at_ + n - 490)) := by
          rw [hgS, hg1, hmv]
          show g.data.take (g.low + n - 490) ++ ((g.data.drop (g.low - 490)).take (at_ - g.low) ++ g.data.drop (g.low + n - 490 + ((g.data.drop (g.low - 490)).take (at_ - g.low)).length)) = _
          congr 3
          rw [← hmv, hbl]; omega
        rw [a1, a2]
        congr 1
        · rw [List.take_append_of_le_length (by rw [List.length_take, hdl]; omega), List.take_take]; congr 1; omega
        · congr 1
          exact drop_left _ _ _ (by rw [List.length_take, hdl]; omega)
      have hst : gK.st = g.st := by rw [hgK, hgC, hgS, hg1]; rfl
      have hlw : gK.low = g.low + n := by rw [hgK]; rfl
      unfold dropG
      simp only [hat, hln]
      rw [hD, hdat, hst, hlw]
    refine LoopP.mk (fun mm s w' => mm ≤ g.many ∧ trim gK.dir mm = trim gK.dir g.many ∧ Hp [b] w w' [.blk b ({ gK with many := mm } : Pg).cells 132, .blk b2 [.int .i64 (n : Int)] 3, .blk b1 [.int .i64 (at_ : Int)] 3, .blk b0 [.pointer (some ⟨b, 0, none⟩)] 37, objA D (.deferred (some []))]) g.many ⟨Nat.le_refl _, rfl, by rw [← hmanyK]; exact H⟩ ?_
    clear H
    rintro m s w7 next ⟨hm, htr, H⟩ hnext
    have fin : ∀ w7, m ≤ g.many → trim gK.dir m = m → trim gK.dir m = trim gK.dir g.many → Hp [b] w w7 [.blk b ({ gK with many := m } : Pg).cells 132, .blk b2 [.int .i64 (n : Int)] 3, .blk b1 [.int .i64 (at_ : Int)] 3, .blk b0 [.pointer (some ⟨b, 0, none⟩)] 37, objA D (.deferred (some []))] →
        CallV Tryz.prog 72 [.pointer (some ⟨b, 0, none⟩), .int .i64 8, .int .i64 (m : Int)] w7 fun e w' => e = .returned (.tuple #[]) ∧ ∃ w1, ShutD w' D w1 ∧ (fun e w' => e = Ending.returned (.tuple #[]) ∧ Hp [b] w w' [pgA b (dropG g K)]) (.returned (.tuple #[])) w1 := by
      clear hnext H
      intro w7 hm h1 h2 H
      have hb : ∀ k, ({ gK with many := m, hdr := k } : Pg).bs = gK.st ++ (be (k : Int) 2 ++ (dirB gK.dir ++ gK.data)) := fun k => rfl
      refine callV (lay_spec b { gK with many := m } { gK with many := m, hdr := m } gK.st (be gK.hdr 2) (dirB gK.dir ++ gK.data) 8 m (be_length _ 2) okk.st (by omega) rfl (hb m) rfl rfl _ (pgOf (okM m hm) H (by exact ⟨rfl, rfl, rfl, rfl⟩) (.head _))) ?_
      rintro e w8 ⟨rfl, H'⟩; replace H := Hp.use11 (a := pgA b _) H H'; clear H'
      refine ⟨rfl, Hp.shut H.pull4 fun w9 H => ⟨rfl, ?_⟩⟩
      rw [← hfin, ← h2, h1]
      exact H.done1
    ((repeat apply Exists.intro); first | refine ⟨H.ld (by exact ⟨rfl, rfl, rfl, rfl⟩) (by first | exact scl3 | exact scl23) (by repeat first | exact .head _ | refine .tail _ ?_) rfl, ?_⟩)
    refine onP_mk rfl ⟨_, by rw [addB]; exact (pgOf (okM m hm) H (by exact ⟨rfl, rfl, rfl, rfl⟩) (.head _)).ldMany, ?_⟩
    refine br_dec (fun h0 => ?_) (fun h0 => ?_)
    · obtain ⟨m, rfl⟩ : ∃ m', m = m' + 1 := ⟨m - 1, by have : (0 : Int) < ((m : Nat) : Int) := h0; omega⟩
      ((repeat apply Exists.intro); first | refine ⟨H.ld (by exact ⟨rfl, rfl, rfl, rfl⟩) (by first | exact scl3 | exact scl23) (by repeat first | exact .head _ | refine .tail _ ?_) rfl, ?_⟩)
      ((repeat apply Exists.intro); first | refine ⟨H.ld (by exact ⟨rfl, rfl, rfl, rfl⟩) (by first | exact scl3 | exact scl23) (by repeat first | exact .head _ | refine .tail _ ?_) rfl, ?_⟩)
      refine onP_mk rfl ⟨_, by rw [addB]; exact (pgOf (okM _ hm) H (by exact ⟨rfl, rfl, rfl, rfl⟩) (.head _)).ldMany, ?_⟩
      have e7 : (((m + 1 : Nat) : Int)) - 1 = (m : Int) := by omega
      have e8 : (10 : Int) + 4 * (m : Int) = ((10 + 4 * m : Nat) : Int) := by omega
      show inR .i64 (((m + 1 : Nat) : Int) - 1) ∧ inR .i64 (4 * (((m + 1 : Nat) : Int) - 1)) ∧ inR .i64 (10 + 4 * (((m + 1 : Nat) : Int) - 1)) ∧ CallV Tryz.prog 89 [_, .int .i64 (10 + 4 * (((m + 1 : Nat) : Int) - 1))] _ _
      rw [e7, e8]
      refine ⟨inR64.2 (by omega), inR64.2 (by omega), inR64.2 (by omega), ?_⟩
      refine callV (two_spec b _ _ (by omega) _ (pgOf (okM _ hm) H (by exact ⟨rfl, rfl, rfl, rfl⟩) (.head _))) ?_
      rintro e w8 ⟨rfl, H'⟩; replace H := H.drew.ext0 H'; clear H'
      refine ⟨_, rfl, ?_⟩
      have hmd : m < gK.dir.length := by rw [okk.dir]; omega
      rw [Pg.Ok.ent1 (okM _ hm) (by omega)]
      have hgd : gK.dir.getD m (0, 0) = gK.dir[m] := by rw [List.getD_eq_getElem?_getD, List.getElem?_eq_getElem hmd]; rfl
      refine br_dec (fun hz => ?_) (fun hz => ?_)
      · have hz' : (gK.dir[m]).1 = 0 := by have : ((gK.dir[m]).1 : Int) = 0 := hz; omega
        ((repeat apply Exists.intro); first | refine ⟨H.ld (by exact ⟨rfl, rfl, rfl, rfl⟩) (by first | exact scl3 | exact scl23) (by repeat first | exact .head _ | refine .tail _ ?_) rfl, ?_⟩)
        refine onP_mk rfl ⟨_, by rw [addB]; exact (pgOf (okM _ hm) H (by exact ⟨rfl, rfl, rfl, rfl⟩) (.head _)).ldMany, ?_⟩
        show inR .i64 (((m + 1 : Nat) : Int) - 1) ∧ onP _ fun a => ∃ w1, St Tryz.prog 3 _ (Addr.add a 4096) (.int .i64 (((m + 1 : Nat) : Int) - 1)) w1 ∧ _
        rw [e7]
        refine ⟨inR64.2 (by omega), onP_mk rfl ?_⟩
        rw [addB]
        refine Hp.st H (by exact ⟨rfl, rfl, rfl, rfl⟩) scl3 rfl rfl (by rw [(okM _ hm).clen]; omega) (Pg.set_many (okM _ hm) _) ?_
        clear H
        intro w9 H
        refine hnext m _ _ (by omega) ⟨by omega, ?_, H⟩
        rw [← htr, trim, hgd, if_pos hz']
      · have hz' : ¬ (gK.dir[m]).1 = 0 := fun h => hz (by rw [h]; rfl)
        ((repeat apply Exists.intro); first | refine ⟨H.ld (by exact ⟨rfl, rfl, rfl, rfl⟩) (by first | exact scl3 | exact scl23) (by repeat first | exact .head _ | refine .tail _ ?_) rfl, ?_⟩)
        ((repeat apply Exists.intro); first | refine ⟨H.ld (by exact ⟨rfl, rfl, rfl, rfl⟩) (by first | exact scl3 | exact scl23) (by repeat first | exact .head _ | refine .tail _ ?_) rfl, ?_⟩)
        refine onP_mk rfl ⟨_, by rw [addB]; exact (pgOf (okM _ hm) H (by exact ⟨rfl, rfl, rfl, rfl⟩) (.head _)).ldMany, ?_⟩
        exact fin _ hm (by rw [trim, hgd, if_neg hz']) htr H.drew
    · have hm0 : m = 0 := by have : ¬ (0 : Int) < (m : Int) := h0; omega
      ((repeat apply Exists.intro); first | refine ⟨H.ld (by exact ⟨rfl, rfl, rfl, rfl⟩) (by first | exact scl3 | exact scl23) (by repeat first | exact .head _ | refine .tail _ ?_) rfl, ?_⟩)
      ((repeat apply Exists.intro); first | refine ⟨H.ld (by exact ⟨rfl, rfl, rfl, rfl⟩) (by first | exact scl3 | exact scl23) (by repeat first | exact .head _ | refine .tail _ ?_) rfl, ?_⟩)
      refine onP_mk rfl ⟨_, by rw [addB]; exact (pgOf (okM m hm) H (by exact ⟨rfl, rfl, rfl, rfl⟩) (.head _)).ldMany, ?_⟩
      exact fin _ hm (by rw [hm0]; rfl) htr H.drew.drew
end Go.Proofs.YtiagjabdfppgkaaGreat.Sl
