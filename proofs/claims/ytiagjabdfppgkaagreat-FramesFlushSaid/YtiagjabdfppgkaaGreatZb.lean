/- Slate: 'each', ranges over it; 'Slots', 'Room', 'Get', 'Stamp', 'SetStamp', 'New', 'Clone', 'Bytes'. -/
import Derived.Test.YtiagjabdfppgkaaGreatZa
set_option linter.unusedVariables false
set_option linter.unusedSimpArgs false
set_option maxRecDepth 100000
namespace Go.Proofs.YtiagjabdfppgkaaGreat.Sl
open Go Go.Vc

def atOf (g : Pg) (k : Nat) : Nat := (g.dir.getD k (0, 0)).1
def lenOf (g : Pg) (k : Nat) : Nat := (g.dir.getD k (0, 0)).2
theorem Pg.Ok.atB {g : Pg} (h : g.Ok) (k : Nat) : atOf g k < 65536 ∧ lenOf g k < 65536 := by
  simp only [atOf, lenOf, List.getD_eq_getElem?_getD]
  cases hk : g.dir[k]? with
  | none => simp
  | some p => exact h.ent p (List.mem_of_getElem? hk)
theorem slot_in (b : Nat) (g : Pg) (k : Nat) (hk : k < g.many) (w : World) (h : PgAt w b g) :
    Calls Tryz.prog 68 #[.pointer (some ⟨b, 0, none⟩), .int .i64 (k : Int)] w fun e w' => e = .returned (.tuple #[.int .i64 (atOf g k : Int), .int .i64 (lenOf g k : Int)]) ∧ Hp [] w w' [] := by
  refine Calls.mono (slot_spec b g k w h) ?_
  rintro e w' ⟨rfl, H⟩
  rw [if_pos (by omega), if_pos (by omega)]
  exact ⟨rfl, H⟩

theorem each_spec (b : Nat) (fv : Value) (N : Nat) (I : Nat → World → Prop) (J : World → Prop) (w : World) (h0 : I 0 w) (hI0 : ∃ g, PgAt w b g ∧ g.many = N)
    (hI : ∀ k w, k < N → I k w → ∃ g, PgAt w b g ∧ g.many = N ∧ ∀ w', Hp [] w w' [] → (atOf g k = 0 → I (k + 1) w') ∧ (0 < atOf g k → CallX Tryz.prog fv [.int .i64 (k : Int)] w' fun e w'' => (e = .returned (.bool true) ∧ I (k + 1) w'') ∨ (e = .returned (.bool false) ∧ J w''))) :
    Calls Tryz.prog 38 #[.pointer (some ⟨b, 0, none⟩), fv] w fun e w' => e = .returned (.tuple #[]) ∧ (I N w' ∨ J w') := by
  apply each.ok
  unfold each.vc
  obtain ⟨g0, hg0, hN0⟩ := hI0
  have hN : N ≤ 120 := by rw [← hN0]; exact hg0.1.many
  refine onP_mk rfl ⟨_, by rw [addB]; exact hg0.ldMany, ?_⟩
  rw [hN0]
  refine LoopP.mk (fun m s w' => ∃ k : Nat, m = N - k ∧ s = (k : Int) ∧ k ≤ N ∧ I k w') N ⟨0, rfl, rfl, Nat.zero_le _, h0⟩ ?_
  rintro m s w' next ⟨k, rfl, rfl, hk, hIk⟩ hnext
  refine br_dec (fun h => ?_) (fun h => ?_)
  · obtain ⟨g, hg, hgN, hstep⟩ := hI k w' (by omega) hIk
    refine callV (slot_in b g k (by omega) _ hg) ?_
    rintro e w2 ⟨rfl, H⟩
    obtain ⟨hs1, hs2⟩ := hstep w2 H
    refine ⟨_, _, rfl, br_dec (fun h1 => ?_) (fun h1 => ?_)⟩
    · refine callX (hs2 (by omega)) ?_
      rintro e w3 (⟨rfl, hI'⟩ | ⟨rfl, hJ⟩)
      · exact ⟨_, rfl, br_not (fun h => by cases h) fun _ => ⟨inR64.2 (by omega), hnext (N - (k + 1)) _ _ (by omega) ⟨k + 1, rfl, by simp, by omega, hI'⟩⟩⟩
      · exact ⟨_, rfl, br_not (fun _ => ⟨rfl, .inr hJ⟩) fun h => by cases h⟩
    · exact ⟨inR64.2 (by omega), hnext (N - (k + 1)) _ _ (by omega) ⟨k + 1, rfl, by simp, by omega, hs1 (by omega)⟩⟩
  · have : k = N := by omega
    subst this
    exact ⟨rfl, .inl hIk⟩

theorem mid_front {B : List Nat} {w0 w : World} {L R : List Asn} {x : Asn} (H : Hp B w0 w (L ++ x :: R)) : Hp B w0 w (x :: (L ++ R)) := H.perm List.perm_middle
theorem front_mid {B : List Nat} {w0 w : World} {L R : List Asn} {x : Asn} (H : Hp B w0 w (x :: (L ++ R))) : Hp B w0 w (L ++ x :: R) := H.perm List.perm_middle.symm
theorem putO_mid {B : List Nat} {w0 w : World} {L R : List Asn} {l : Nat} {o o' : Obj} (H : Hp B w0 w (L ++ objA l o :: R)) : Hp B w0 (w.putObj l o') (L ++ objA l o' :: R) := front_mid (mid_front H).putO

theorem range_each {σ ρ : Type} {round : Int → World → (World → (World → Prop) → Prop) → (World → Prop) → (World → Prop) → (Nat → World → Prop) → Prop} {Qn Qr : Nat → World → Prop} {Qx : Nat → Nat → World → Prop} {B : List Nat} {w0 w : World}
    (b N : Nat) (pg : Nat → σ → Pg) (Lk : Nat → σ → List Asn) (Inv : Nat → σ → Prop) (Lr : ρ → List Asn) (Stop : ρ → Prop) (x0 : σ) (hx0 : Inv 0 x0) (H : Hp B w0 w (Lk 0 x0))
    (hpg : ∀ k x w' T, Inv k x → Hp B w0 w' (Lk k x ++ T) → PgAt w' b (pg k x) ∧ (pg k x).many = N)
    (hskip : ∀ k x, k < N → Inv k x → atOf (pg k x) k = 0 → ∃ x', Inv (k + 1) x' ∧ Lk (k + 1) x' = Lk k x)
    (hround : ∀ k x, k < N → Inv k x → 0 < atOf (pg k x) k → ∀ (w' : World) (T0 T1 : List Asn) (begin : World → (World → Prop) → Prop) (kn kr : World → Prop) (kx : Nat → World → Prop), Hp B w0 w' (Lk k x ++ T0) →
      (∀ k0 : World → Prop, (∀ w2, Hp B w0 w2 (Lk k x ++ T1) → k0 w2) → begin w' k0) → (∀ w3 x', Inv (k + 1) x' → Hp B w0 w3 (Lk (k + 1) x' ++ T1) → kn w3) → (∀ w3 y, Stop y → Hp B w0 w3 (Lr y ++ T1) → kr w3) → round (k : Int) w' begin kn kr kx)
    (hend : ∀ x D w', Inv N x → Hp B w0 w' (Lk N x ++ [objA D (.deferred (some []))]) → Qn D w')
    (hret : ∀ y D w', Stop y → Hp B w0 w' (Lr y ++ [objA D (.deferred (some []))]) → Qr D w') :
    RangeP Tryz.prog 38 [.pointer (some ⟨b, 0, none⟩)] [] (fun s : Int => [.int .i64 s]) round w Qn Qr Qx := by
  refine ⟨fun D l wa wb rec hD hl hy => ?_⟩
  have H2 : Hp B w0 wb (Lk 0 x0 ++ [objA l (rec .ready none), objA D (.deferred (some []))]) := by
    have h1 := H.newO ⟨rfl, rfl, rfl, rfl⟩ hD
    have h2 := h1.newO ⟨rfl, rfl, rfl, rfl⟩ hl
    refine h2.perm ?_
    exact (List.perm_append_comm (l₁ := [objA l (rec .ready none), objA D (.deferred (some []))]) (l₂ := Lk 0 x0))
  refine callV (each_spec b _ N (fun k w' => ∃ x, Inv k x ∧ Hp B w0 w' (Lk k x ++ [objA l (rec .ready none), objA D (.deferred (some []))])) (fun w' => ∃ y, Stop y ∧ Hp B w0 w' (Lr y ++ [objA l (rec .done (some .ret)), objA D (.deferred (some []))])) wb ⟨x0, hx0, H2⟩ ⟨_, hpg 0 x0 wb _ hx0 H2⟩ ?_) ?_
  · rintro k w' hk ⟨x, hx, Hx⟩
    obtain ⟨hp1, hp2⟩ := hpg k x w' _ hx Hx
    refine ⟨_, hp1, hp2, fun w2 Hw => ⟨fun h0 => ?_, fun h0 => ?_⟩⟩
    · obtain ⟨x', hx', he⟩ := hskip k x hk hx h0
      exact ⟨x', hx', by rw [he]; exact Hx.ext0 Hw⟩
    · have Hy := Hx.ext0 Hw
      have hready := (mid_front Hy).obj (.head _)
      refine hy (k : Int) w2 _ (hround k x hk hx h0 w2 _ [objA l (rec .busy none), objA D (.deferred (some []))] _ _ _ _ Hy ?_ ?_ ?_) hready
      · intro k0 hk0
        exact ⟨hready, hk0 _ (putO_mid Hy)⟩
      · intro w3 x' hx' H3
        exact ⟨(mid_front H3).obj (.head _), .inl ⟨rfl, x', hx', putO_mid H3⟩⟩
      · intro w3 y hs H3
        exact ⟨(mid_front H3).obj (.head _), .inr ⟨rfl, y, hs, putO_mid H3⟩⟩
  · rintro e w2 ⟨rfl, ⟨x, hx, Hx⟩ | ⟨y, hs, Hy⟩⟩
    · exact ⟨_, rfl, .inl ⟨(mid_front Hx).obj (.head _), hend x D _ hx (mid_front Hx).putO.drop⟩⟩
    · exact ⟨_, rfl, .inr (.inl ⟨(mid_front Hy).obj (.head _), hret y D _ hs (mid_front Hy).putO.drop⟩)⟩

def live (g : Pg) (k : Nat) : List Nat := (List.range k).filter fun j => decide (0 < atOf g j)
theorem live_succ (g : Pg) (k : Nat) : live g (k + 1) = if 0 < atOf g k then live g k ++ [k] else live g k := by
  simp only [live, List.range_succ, List.filter_append]
  split <;> rename_i h <;> simp [h]
theorem live_len (g : Pg) (k : Nat) : (live g k).length ≤ k := by
  have := List.length_filter_le (fun j => decide (0 < atOf g j)) (List.range k)
  rwa [List.length_range] at this
def intC (l : List Nat) : List Value := l.map fun (k : Nat) => Value.int .i64 (k : Int)
theorem elt32 : Elt Tryz.prog 23 3 1 8 := elt_of (by kernel_rfl)
theorem und32 : Tryz.prog.underlying 23 = some (.slice 3) := by kernel_rfl
theorem slots_spec (b : Nat) (g : Pg) (w : World) (h : PgAt w b g) :
    Calls Tryz.prog 63 #[.pointer (some ⟨b, 0, none⟩)] w fun e w' => ∃ a c, e = .returned (.slice a (live g g.many).length c) ∧ Hp [] w w' [.own 3 1 a (live g g.many).length c (intC (live g g.many))] := by
  apply slots.ok
  unfold slots.vc
  have H := Hp.start w
  have hmax : maxLen = 9223372036854775807 := by simp [maxLen]
  have hm := h.1.many
  (first | ((repeat apply Exists.intro); first | refine ⟨H.ld (by exact ⟨rfl, rfl, rfl, rfl⟩) (by first | exact scl3 | exact scl5 | exact scl9 | exact scl23 | exact scl32) (by repeat first | exact .head _ | refine .tail _ ?_) rfl, ?_⟩ | refine ⟨H.ldA (by exact ⟨rfl, rfl, rfl, rfl⟩) (by first | exact agg54 | exact agg52) (by repeat first | exact .head _ | refine .tail _ ?_) rfl rfl, ?_⟩) | (intro _ _ hn; replace H := H.new (by exact ⟨rfl, rfl, rfl, rfl⟩) hn; clear hn) | ((first | (apply Hp.st; (case H => first | exact H | exact H.pull1 | exact H.pull2 | exact H.pull3 | exact H.pull4 | exact H.pull5 | exact H.pull6 | exact H.pull7); (case e => exact ⟨rfl, rfl, rfl, rfl⟩); (case S => exact (by first | exact scl3 | exact scl5 | exact scl9 | exact scl23 | exact scl32)); (case hv => exact rfl); (case h1 => exact rfl); (case ho => exact Nat.le_of_ble_eq_true rfl); (case hc => exact rfl)) | (apply Hp.stA; (case H => first | exact H | exact H.pull1 | exact H.pull2 | exact H.pull3 | exact H.pull4 | exact H.pull5 | exact H.pull6 | exact H.pull7); (case e => exact ⟨rfl, rfl, rfl, rfl⟩); (case S => exact (by first | exact agg54 | exact agg52)); (case hn => exact rfl); (case h1 => exact rfl); (case ho => exact Nat.le_of_ble_eq_true rfl); (case hc => exact rfl))); clear H; intro _ H; (try simp only [over, List.set_cons_zero, List.set_cons_succ] at H)))
  rename_i lv _
  refine ⟨_, _, _, rfl, ⟨_, _, Tryz.func38, rfl⟩, ?_⟩
  refine range_each b g.many (fun _ _ => g) (fun k (x : Option Addr × Nat) => [.own 3 1 x.1 (live g k).length x.2 (intC (live g k)), .blk lv [.slice x.1 (live g k).length x.2] 23]) (fun _ _ => True) (fun _ : Unit => []) (fun _ => False) (none, 0) trivial (by simpa [live, intC] using H.nilS 3 1)
    (fun k x w' T _ H => ⟨h.chg H.chg (by simp), rfl⟩) (fun k x hk _ h0 => ⟨x, trivial, by rw [live_succ, if_neg (by omega)]⟩) ?_ ?_ (fun y D w' hs _ => hs.elim)
  · clear H
    intro k x hk _ h0 w' T0 T1 begin kn kr kx _ hbeg hkn _
    refine hbeg _ fun w2 H => ?_
    simp only [List.cons_append, List.nil_append] at H
    have hll := live_len g k
    (repeat (first | ((repeat apply Exists.intro); first | refine ⟨H.ld (by exact ⟨rfl, rfl, rfl, rfl⟩) (by first | exact scl3 | exact scl5 | exact scl9 | exact scl23 | exact scl32) (by repeat first | exact .head _ | refine .tail _ ?_) rfl, ?_⟩ | refine ⟨H.ldA (by exact ⟨rfl, rfl, rfl, rfl⟩) (by first | exact agg54 | exact agg52) (by repeat first | exact .head _ | refine .tail _ ?_) rfl rfl, ?_⟩) | (intro _ _ hn; replace H := H.new (by exact ⟨rfl, rfl, rfl, rfl⟩) hn; clear hn) | ((first | (apply Hp.st; (case H => first | exact H | exact H.pull1 | exact H.pull2 | exact H.pull3 | exact H.pull4 | exact H.pull5 | exact H.pull6 | exact H.pull7); (case e => exact ⟨rfl, rfl, rfl, rfl⟩); (case S => exact (by first | exact scl3 | exact scl5 | exact scl9 | exact scl23 | exact scl32)); (case hv => exact rfl); (case h1 => exact rfl); (case ho => exact Nat.le_of_ble_eq_true rfl); (case hc => exact rfl)) | (apply Hp.stA; (case H => first | exact H | exact H.pull1 | exact H.pull2 | exact H.pull3 | exact H.pull4 | exact H.pull5 | exact H.pull6 | exact H.pull7); (case e => exact ⟨rfl, rfl, rfl, rfl⟩); (case S => exact (by first | exact agg54 | exact agg52)); (case hn => exact rfl); (case h1 => exact rfl); (case ho => exact Nat.le_of_ble_eq_true rfl); (case hc => exact rfl))); clear H; intro _ H; (try simp only [over, List.set_cons_zero, List.set_cons_succ] at H))))
    refine Hp.app elt32 (by omega) H.pull1 (by exact ⟨rfl, rfl, rfl, rfl⟩) (Blk.src und32 (H.blk (.head _)) rfl rfl) (by omega) (by omega) ?_
    clear H
    intro a6 c6 w6 H
    (first | ((repeat apply Exists.intro); first | refine ⟨H.ld (by exact ⟨rfl, rfl, rfl, rfl⟩) (by first | exact scl3 | exact scl5 | exact scl9 | exact scl23 | exact scl32) (by repeat first | exact .head _ | refine .tail _ ?_) rfl, ?_⟩ | refine ⟨H.ldA (by exact ⟨rfl, rfl, rfl, rfl⟩) (by first | exact agg54 | exact agg52) (by repeat first | exact .head _ | refine .tail _ ?_) rfl rfl, ?_⟩) | (intro _ _ hn; replace H := H.new (by exact ⟨rfl, rfl, rfl, rfl⟩) hn; clear hn) | ((first | (apply Hp.st; (case H => first | exact H | exact H.pull1 | exact H.pull2 | exact H.pull3 | exact H.pull4 | exact H.pull5 | exact H.pull6 | exact H.pull7); (case e => exact ⟨rfl, rfl, rfl, rfl⟩); (case S => exact (by first | exact scl3 | exact scl5 | exact scl9 | exact scl23 | exact scl32)); (case hv => exact rfl); (case h1 => exact rfl); (case ho => exact Nat.le_of_ble_eq_true rfl); (case hc => exact rfl)) | (apply Hp.stA; (case H => first | exact H | exact H.pull1 | exact H.pull2 | exact H.pull3 | exact H.pull4 | exact H.pull5 | exact H.pull6 | exact H.pull7); (case e => exact ⟨rfl, rfl, rfl, rfl⟩); (case S => exact (by first | exact agg54 | exact agg52)); (case hn => exact rfl); (case h1 => exact rfl); (case ho => exact Nat.le_of_ble_eq_true rfl); (case hc => exact rfl))); clear H; intro _ H; (try simp only [over, List.set_cons_zero, List.set_cons_succ] at H)))
    have e : live g (k + 1) = live g k ++ [k] := by rw [live_succ, if_pos h0]
    refine hkn _ (a6, c6) trivial ?_
    have el : (live g (k + 1)).length = (live g k).length + 1 := by rw [e]; simp
    have ec : intC (live g (k + 1)) = intC (live g k) ++ [.int .i64 (k : Int)] := by rw [e]; simp [intC]
    rw [el, ec]
    exact H.del2.pull1
  · clear H
    intro x D w' _ H
    simp only [List.cons_append, List.nil_append] at H
    (repeat (first | ((repeat apply Exists.intro); first | refine ⟨H.ld (by exact ⟨rfl, rfl, rfl, rfl⟩) (by first | exact scl3 | exact scl5 | exact scl9 | exact scl23 | exact scl32) (by repeat first | exact .head _ | refine .tail _ ?_) rfl, ?_⟩ | refine ⟨H.ldA (by exact ⟨rfl, rfl, rfl, rfl⟩) (by first | exact agg54 | exact agg52) (by repeat first | exact .head _ | refine .tail _ ?_) rfl rfl, ?_⟩) | (intro _ _ hn; replace H := H.new (by exact ⟨rfl, rfl, rfl, rfl⟩) hn; clear hn) | ((first | (apply Hp.st; (case H => first | exact H | exact H.pull1 | exact H.pull2 | exact H.pull3 | exact H.pull4 | exact H.pull5 | exact H.pull6 | exact H.pull7); (case e => exact ⟨rfl, rfl, rfl, rfl⟩); (case S => exact (by first | exact scl3 | exact scl5 | exact scl9 | exact scl23 | exact scl32)); (case hv => exact rfl); (case h1 => exact rfl); (case ho => exact Nat.le_of_ble_eq_true rfl); (case hc => exact rfl)) | (apply Hp.stA; (case H => first | exact H | exact H.pull1 | exact H.pull2 | exact H.pull3 | exact H.pull4 | exact H.pull5 | exact H.pull6 | exact H.pull7); (case e => exact ⟨rfl, rfl, rfl, rfl⟩); (case S => exact (by first | exact agg54 | exact agg52)); (case hn => exact rfl); (case h1 => exact rfl); (case ho => exact Nat.le_of_ble_eq_true rfl); (case hc => exact rfl))); clear H; intro _ H; (try simp only [over, List.set_cons_zero, List.set_cons_succ] at H))))
    refine Hp.shut H.pull2 fun w1 H => ?_
    exact ⟨x.1, x.2, rfl, H.done1⟩

def total (g : Pg) (k : Nat) : Nat := ((live g k).map (lenOf g)).sum
theorem total_succ (g : Pg) (k : Nat) : total g (k + 1) = if 0 < atOf g k then total g k + lenOf g k else total g k := by
  simp only [total, live_succ]
  split <;> simp
theorem total_le {g : Pg} (h : g.Ok) (k : Nat) : total g k ≤ 65535 * k := by
  induction k with
  | zero => exact Nat.le_of_eq rfl
  | succ k ih =>
    rw [total_succ, Nat.mul_succ]
    have := (h.atB k).2
    generalize 65535 * k = y at ih ⊢
    split <;> omega
theorem room_spec (b : Nat) (g : Pg) (w : World) (h : PgAt w b g) :
    Calls Tryz.prog 69 #[.pointer (some ⟨b, 0, none⟩)] w fun e w' => e = .returned (.int .i64 (3600 - (total g g.many : Int))) ∧ Hp [] w w' [] := by
  apply room.ok
  unfold room.vc
  have H := Hp.start w
  have hm := h.1.many
  (repeat (first | ((repeat apply Exists.intro); first | refine ⟨H.ld (by exact ⟨rfl, rfl, rfl, rfl⟩) (by first | exact scl3 | exact scl5 | exact scl9 | exact scl23 | exact scl32) (by repeat first | exact .head _ | refine .tail _ ?_) rfl, ?_⟩ | refine ⟨H.ldA (by exact ⟨rfl, rfl, rfl, rfl⟩) (by first | exact agg54 | exact agg52) (by repeat first | exact .head _ | refine .tail _ ?_) rfl rfl, ?_⟩) | (intro _ _ hn; replace H := H.new (by exact ⟨rfl, rfl, rfl, rfl⟩) hn; clear hn) | ((first | (apply Hp.st; (case H => first | exact H | exact H.pull1 | exact H.pull2 | exact H.pull3 | exact H.pull4 | exact H.pull5 | exact H.pull6 | exact H.pull7); (case e => exact ⟨rfl, rfl, rfl, rfl⟩); (case S => exact (by first | exact scl3 | exact scl5 | exact scl9 | exact scl23 | exact scl32)); (case hv => exact rfl); (case h1 => exact rfl); (case ho => exact Nat.le_of_ble_eq_true rfl); (case hc => exact rfl)) | (apply Hp.stA; (case H => first | exact H | exact H.pull1 | exact H.pull2 | exact H.pull3 | exact H.pull4 | exact H.pull5 | exact H.pull6 | exact H.pull7); (case e => exact ⟨rfl, rfl, rfl, rfl⟩); (case S => exact (by first | exact agg54 | exact agg52)); (case hn => exact rfl); (case h1 => exact rfl); (case ho => exact Nat.le_of_ble_eq_true rfl); (case hc => exact rfl))); clear H; intro _ H; (try simp only [over, List.set_cons_zero, List.set_cons_succ] at H))))
  rename_i b1 _ b2 _ _
  refine ⟨_, _, _, rfl, ⟨_, _, Tryz.func38, rfl⟩, ?_⟩
  refine range_each b g.many (fun _ _ => g) (fun k (_ : Unit) => [.blk b2 [.int .i64 (3600 - (total g k : Int))] 3, .blk b1 [.pointer (some ⟨b, 0, none⟩)] 37]) (fun _ _ => True) (fun _ : Unit => []) (fun _ => False) () trivial (by simpa [total, live] using H)
    (fun k x w' T _ H => ⟨h.chg H.chg (by simp), rfl⟩) (fun k x hk _ h0 => ⟨x, trivial, by rw [total_succ, if_neg (by omega)]⟩) ?_ ?_ (fun y D w' hs _ => hs.elim)
  · clear H
    intro k x hk _ h0 w' T0 T1 begin kn kr kx _ hbeg hkn _
    refine hbeg _ fun w2 H => ?_
    simp only [List.cons_append, List.nil_append] at H
    have hb := (h.1.atB k).2
    have ht := total_le h.1 k
    (repeat (first | ((repeat apply Exists.intro); first | refine ⟨H.ld (by exact ⟨rfl, rfl, rfl, rfl⟩) (by first | exact scl3 | exact scl5 | exact scl9 | exact scl23 | exact scl32) (by repeat first | exact .head _ | refine .tail _ ?_) rfl, ?_⟩ | refine ⟨H.ldA (by exact ⟨rfl, rfl, rfl, rfl⟩) (by first | exact agg54 | exact agg52) (by repeat first | exact .head _ | refine .tail _ ?_) rfl rfl, ?_⟩) | (intro _ _ hn; replace H := H.new (by exact ⟨rfl, rfl, rfl, rfl⟩) hn; clear hn) | ((first | (apply Hp.st; (case H => first | exact H | exact H.pull1 | exact H.pull2 | exact H.pull3 | exact H.pull4 | exact H.pull5 | exact H.pull6 | exact H.pull7); (case e => exact ⟨rfl, rfl, rfl, rfl⟩); (case S => exact (by first | exact scl3 | exact scl5 | exact scl9 | exact scl23 | exact scl32)); (case hv => exact rfl); (case h1 => exact rfl); (case ho => exact Nat.le_of_ble_eq_true rfl); (case hc => exact rfl)) | (apply Hp.stA; (case H => first | exact H | exact H.pull1 | exact H.pull2 | exact H.pull3 | exact H.pull4 | exact H.pull5 | exact H.pull6 | exact H.pull7); (case e => exact ⟨rfl, rfl, rfl, rfl⟩); (case S => exact (by first | exact agg54 | exact agg52)); (case hn => exact rfl); (case h1 => exact rfl); (case ho => exact Nat.le_of_ble_eq_true rfl); (case hc => exact rfl))); clear H; intro _ H; (try simp only [over, List.set_cons_zero, List.set_cons_succ] at H))))
    refine callV (slot_in b g k hk _ (h.chg H.chg (by simp))) ?_
    rintro e w3 ⟨rfl, H'⟩; replace H := H.ext0 H'; clear H'
    refine ⟨_, _, rfl, ?_⟩
    (first | ((repeat apply Exists.intro); first | refine ⟨H.ld (by exact ⟨rfl, rfl, rfl, rfl⟩) (by first | exact scl3 | exact scl5 | exact scl9 | exact scl23 | exact scl32) (by repeat first | exact .head _ | refine .tail _ ?_) rfl, ?_⟩ | refine ⟨H.ldA (by exact ⟨rfl, rfl, rfl, rfl⟩) (by first | exact agg54 | exact agg52) (by repeat first | exact .head _ | refine .tail _ ?_) rfl rfl, ?_⟩) | (intro _ _ hn; replace H := H.new (by exact ⟨rfl, rfl, rfl, rfl⟩) hn; clear hn) | ((first | (apply Hp.st; (case H => first | exact H | exact H.pull1 | exact H.pull2 | exact H.pull3 | exact H.pull4 | exact H.pull5 | exact H.pull6 | exact H.pull7); (case e => exact ⟨rfl, rfl, rfl, rfl⟩); (case S => exact (by first | exact scl3 | exact scl5 | exact scl9 | exact scl23 | exact scl32)); (case hv => exact rfl); (case h1 => exact rfl); (case ho => exact Nat.le_of_ble_eq_true rfl); (case hc => exact rfl)) | (apply Hp.stA; (case H => first | exact H | exact H.pull1 | exact H.pull2 | exact H.pull3 | exact H.pull4 | exact H.pull5 | exact H.pull6 | exact H.pull7); (case e => exact ⟨rfl, rfl, rfl, rfl⟩); (case S => exact (by first | exact agg54 | exact agg52)); (case hn => exact rfl); (case h1 => exact rfl); (case ho => exact Nat.le_of_ble_eq_true rfl); (case hc => exact rfl))); clear H; intro _ H; (try simp only [over, List.set_cons_zero, List.set_cons_succ] at H)))
    refine ⟨inR64.2 (by omega), ?_⟩
    (first | ((repeat apply Exists.intro); first | refine ⟨H.ld (by exact ⟨rfl, rfl, rfl, rfl⟩) (by first | exact scl3 | exact scl5 | exact scl9 | exact scl23 | exact scl32) (by repeat first | exact .head _ | refine .tail _ ?_) rfl, ?_⟩ | refine ⟨H.ldA (by exact ⟨rfl, rfl, rfl, rfl⟩) (by first | exact agg54 | exact agg52) (by repeat first | exact .head _ | refine .tail _ ?_) rfl rfl, ?_⟩) | (intro _ _ hn; replace H := H.new (by exact ⟨rfl, rfl, rfl, rfl⟩) hn; clear hn) | ((first | (apply Hp.st; (case H => first | exact H | exact H.pull1 | exact H.pull2 | exact H.pull3 | exact H.pull4 | exact H.pull5 | exact H.pull6 | exact H.pull7); (case e => exact ⟨rfl, rfl, rfl, rfl⟩); (case S => exact (by first | exact scl3 | exact scl5 | exact scl9 | exact scl23 | exact scl32)); (case hv => exact rfl); (case h1 => exact rfl); (case ho => exact Nat.le_of_ble_eq_true rfl); (case hc => exact rfl)) | (apply Hp.stA; (case H => first | exact H | exact H.pull1 | exact H.pull2 | exact H.pull3 | exact H.pull4 | exact H.pull5 | exact H.pull6 | exact H.pull7); (case e => exact ⟨rfl, rfl, rfl, rfl⟩); (case S => exact (by first | exact agg54 | exact agg52)); (case hn => exact rfl); (case h1 => exact rfl); (case ho => exact Nat.le_of_ble_eq_true rfl); (case hc => exact rfl))); clear H; intro _ H; (try simp only [over, List.set_cons_zero, List.set_cons_succ] at H)))
    refine hkn _ () trivial ?_
    have e : (3600 : Int) - (total g (k + 1) : Int) = 3600 - (total g k : Int) - (lenOf g k : Int) := by rw [total_succ, if_pos h0]; omega
    rw [e]
    exact H
  · clear H
    intro x D w' _ H
    simp only [List.cons_append, List.nil_append] at H
    (first | ((repeat apply Exists.intro); first | refine ⟨H.ld (by exact ⟨rfl, rfl, rfl, rfl⟩) (by first | exact scl3 | exact scl5 | exact scl9 | exact scl23 | exact scl32) (by repeat first | exact .head _ | refine .tail _ ?_) rfl, ?_⟩ | refine ⟨H.ldA (by exact ⟨rfl, rfl, rfl, rfl⟩) (by first | exact agg54 | exact agg52) (by repeat first | exact .head _ | refine .tail _ ?_) rfl rfl, ?_⟩) | (intro _ _ hn; replace H := H.new (by exact ⟨rfl, rfl, rfl, rfl⟩) hn; clear hn) | ((first | (apply Hp.st; (case H => first | exact H | exact H.pull1 | exact H.pull2 | exact H.pull3 | exact H.pull4 | exact H.pull5 | exact H.pull6 | exact H.pull7); (case e => exact ⟨rfl, rfl, rfl, rfl⟩); (case S => exact (by first | exact scl3 | exact scl5 | exact scl9 | exact scl23 | exact scl32)); (case hv => exact rfl); (case h1 => exact rfl); (case ho => exact Nat.le_of_ble_eq_true rfl); (case hc => exact rfl)) | (apply Hp.stA; (case H => first | exact H | exact H.pull1 | exact H.pull2 | exact H.pull3 | exact H.pull4 | exact H.pull5 | exact H.pull6 | exact H.pull7); (case e => exact ⟨rfl, rfl, rfl, rfl⟩); (case S => exact (by first | exact agg54 | exact agg52)); (case hn => exact rfl); (case h1 => exact rfl); (case ho => exact Nat.le_of_ble_eq_true rfl); (case hc => exact rfl))); clear H; intro _ H; (try simp only [over, List.set_cons_zero, List.set_cons_succ] at H)))
    refine Hp.shut H.pull2 fun w1 H => ?_
    exact ⟨rfl, H.done⟩
theorem und37 : Tryz.prog.underlying 111 = some (.slice 5) := by kernel_rfl
theorem und5 : Tryz.prog.underlying 5 = some (.int .u8) := by kernel_rfl
theorem und9 : Tryz.prog.underlying 9 = some .string := by kernel_rfl

theorem PgAt.cellsB {w : World} {b : Nat} {g : Pg} (h : PgAt w b g) (i : Nat) (n : Nat) (hi : i + n ≤ 4096) : Cells w (slA (some ⟨b, 0, none⟩) 4096 i 1) (bcells ((g.bs.drop i).take n)) := by
  intro j v hj
  have hl := h.1.len
  have hjn : j < n := by
    have := (List.getElem?_eq_some_iff.1 hj).1
    rw [bcells_length, List.length_take, List.length_drop] at this; omega
  have hv : v = .int .u8 ((g.bs[i + j]'(by omega)).toNat : Int) := by
    simp only [bcells, List.getElem?_map, List.getElem?_take, List.getElem?_drop, if_pos hjn, List.getElem?_eq_getElem (show i + j < g.bs.length by omega), Option.map_some, Option.some.injEq] at hj
    exact hj.symm
  subst hv
  unfold slA
  rw [if_neg (by omega)]
  refine ⟨_, rfl, ?_⟩
  rw [Nat.mul_one, add_add, addB]
  exact h.2.cell (h.1.byte (by omega))
/-- a record's bytes -/
def recB (g : Pg) (k : Nat) : List UInt8 := (g.bs.drop (atOf g k)).take (lenOf g k)
theorem get_spec (b : Nat) (g : Pg) (k : Int) (w : World) (h : PgAt w b g) (hfit : ∀ j, j < g.many → atOf g j + lenOf g j ≤ 4096) :
    Calls Tryz.prog 64 #[.pointer (some ⟨b, 0, none⟩), .int .i64 k] w fun e w' => e = .returned (if 0 ≤ k ∧ k < g.many ∧ 0 < atOf g k.toNat then .tuple #[sv (recB g k.toNat), .bool true] else .tuple #[sv [], .bool false]) ∧ Hp [] w w' [] := by
  apply get.ok
  unfold get.vc
  have H := Hp.start w
  refine callV (slot_spec b g k w h) ?_
  rintro e w1 ⟨rfl, H'⟩; replace H := H.ext0 H'; clear H'
  refine ⟨_, _, rfl, ?_⟩
  by_cases hk : 0 ≤ k ∧ k < g.many
  · rw [if_pos hk, if_pos hk]
    obtain ⟨K, rfl⟩ : ∃ K : Nat, k = K := ⟨k.toNat, by omega⟩
    have hK : K < g.many := by omega
    have hf := hfit K hK
    rw [Int.toNat_natCast]
    show br (decide ((atOf g K : Int) = 0)) _ _
    refine br_dec (fun h0 => ?_) (fun h0 => onP_mk rfl ?_)
    · rw [if_neg (by omega)]; exact ⟨rfl, H⟩
    · rw [if_pos ⟨by omega, by omega, by omega⟩]
      have e1 : Int.toNat (atOf g K : Int) = atOf g K := by omega
      have e2 : Int.toNat ((atOf g K : Int) + (lenOf g K : Int)) = atOf g K + lenOf g K := by omega
      show inR .i64 ((atOf g K : Int) + (lenOf g K : Int)) ∧ _
      refine ⟨inR64.2 (by omega), ⟨by omega, by show (atOf g K : Int) ≤ (atOf g K : Int) + (lenOf g K : Int); omega, by show (atOf g K : Int) + (lenOf g K : Int) ≤ 4096; omega⟩, ⟨(recB g K).toArray⟩, ?_, rfl, H⟩
      show B2S Tryz.prog 111 9 w1 (.slice (slA (some ⟨b, 0, none⟩) 4096 (Int.toNat (atOf g K : Int)) 1) (Int.toNat ((atOf g K : Int) + (lenOf g K : Int)) - Int.toNat (atOf g K : Int)) _) _
      rw [e1, e2]
      have hl := h.1.len
      exact b2s und37 und5 und9 (by rw [byteCells_mk]; exact (h.chg H.chg (by simp)).cellsB _ _ hf) (by simp [ByteArray.size, recB]; omega)
  · rw [if_neg hk, if_neg hk, if_neg (fun hh => hk ⟨hh.1, hh.2.1⟩)]
    exact br_dec (fun _ => ⟨rfl, H⟩) (fun h => absurd rfl h)
end Go.Proofs.YtiagjabdfppgkaaGreat.Sl
