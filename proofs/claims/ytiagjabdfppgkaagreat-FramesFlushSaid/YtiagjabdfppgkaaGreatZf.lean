/- Slate: 'Insert', 'Delete', 'Get', 'Slots', 'Room' of what a page stands for. -/
import Derived.Test.YtiagjabdfppgkaaGreatZe
set_option linter.unusedVariables false
set_option linter.unusedSimpArgs false
set_option maxRecDepth 100000
namespace Go.Proofs.YtiagjabdfppgkaaGreat.Sl
open Go Go.Vc

def lk (L : Recs) (k : Int) : Option (List UInt8) := (L.find? fun p => decide ((p.1 : Int) = k)).map (·.2)
theorem lk_none {L : Recs} {k : Int} (h : ∀ p ∈ L, (p.1 : Int) ≠ k) : lk L k = none := by
  unfold lk
  rw [List.find?_eq_none.2 fun p hp => by simpa using h p hp]; rfl
theorem lk_some {L : Recs} (hs : L.Pairwise fun a b => a.1 < b.1) {k : Nat} {s : List UInt8} (h : (k, s) ∈ L) : lk L (k : Int) = some s := by
  unfold lk
  cases hf : L.find? fun p => decide ((p.1 : Int) = (k : Int)) with
  | none => have := List.find?_eq_none.1 hf _ h; simp at this
  | some p =>
    have h1 := List.mem_of_find?_eq_some hf
    have h2 : p.1 = k := by have := List.find?_some hf; simp only [decide_eq_true_eq] at this; omega
    have : (k, p.2) ∈ L := by rw [← h2]; exact h1
    rw [Option.map_some, one_key hs this h]
theorem lk_cases {L : Recs} (k : Int) : (lk L k = none ∧ ∀ p ∈ L, (p.1 : Int) ≠ k) ∨ ∃ (K : Nat) (s : List UInt8), k = K ∧ (K, s) ∈ L ∧ lk L k = some s := by
  unfold lk
  cases hf : L.find? fun p => decide ((p.1 : Int) = k) with
  | none => exact .inl ⟨rfl, fun p hp => by have := List.find?_eq_none.1 hf p hp; simpa using this⟩
  | some p =>
    have h2 := List.find?_some hf
    simp only [decide_eq_true_eq] at h2
    exact .inr ⟨p.1, p.2, h2.symm, List.mem_of_find?_eq_some hf, rfl⟩

section
variable {b : Nat} {g : Pg} {L : Recs} {stamp : Nat} {w : World}
theorem get_any (hR : Rep g L stamp) (h : Blk w b g.cells 132) (k : Int) :
    Calls Tryz.prog 64 #[.pointer (some ⟨b, 0, none⟩), .int .i64 k] w fun e w' => e = .returned (.tuple #[sv ((lk L k).getD []), .bool (lk L k).isSome]) ∧ Hp [] w w' [] := by
  refine Calls.mono (get_spec b g k w ⟨hR.ok, h⟩ hR.fit) ?_
  rintro e w' ⟨rfl, H⟩
  refine ⟨?_, H⟩
  rcases lk_cases (L := L) k with ⟨h1, h2⟩ | ⟨K, s, rfl, h2, h3⟩
  · rw [h1, if_neg]
    · rfl
    · rintro ⟨h3, h4, h5⟩
      obtain ⟨s, hs⟩ := hR.mem_live.1 ⟨by omega, h5⟩
      exact h2 _ hs (by simp only; omega)
  · have hat := hR.at_ h2
    have := hR.below _ h2
    rw [h3, if_pos ⟨by omega, by simp only at this; omega, by rw [Int.toNat_natCast]; omega⟩, Int.toNat_natCast, hat.2.2.2]
    rfl
theorem room_any (hR : Rep g L stamp) (h : Blk w b g.cells 132) :
    Calls Tryz.prog 69 #[.pointer (some ⟨b, 0, none⟩)] w fun e w' => e = .returned (.int .i64 (3600 - (tot L : Int))) ∧ Hp [] w w' [] := by
  refine Calls.mono (room_spec b g w ⟨hR.ok, h⟩) ?_
  rintro e w' ⟨rfl, H⟩
  rw [hR.total_eq]; exact ⟨rfl, H⟩
theorem slots_any (hR : Rep g L stamp) (h : Blk w b g.cells 132) :
    Calls Tryz.prog 63 #[.pointer (some ⟨b, 0, none⟩)] w fun e w' => ∃ a c, e = .returned (.slice a L.length c) ∧ Hp [] w w' [.own 3 1 a L.length c (intC (L.map (·.1)))] := by
  refine Calls.mono (slots_spec b g w ⟨hR.ok, h⟩) ?_
  rintro e w' ⟨a, c, rfl, H⟩
  rw [hR.live_eq, List.length_map] at H ⊢
  exact ⟨a, c, rfl, H⟩

def adel (L : Recs) (k : Int) : Recs × Int := if (lk L k).isSome then (wo L k.toNat, 0) else (L, 110)
theorem delete_any (hR : Rep g L stamp) (h : Blk w b g.cells 132) (k : Int) :
    Calls Tryz.prog 78 #[.pointer (some ⟨b, 0, none⟩), .int .i64 k] w fun e w' => e = .returned (.int .i64 (adel L k).2) ∧ ∃ g', Rep g' (adel L k).1 stamp ∧ Hp [b] w w' [pgA b g'] := by
  apply delete.ok
  unfold delete.vc
  have H : Hp [b] w w [pgA b g] := Hp.start1 (a := pgA b g) h
  refine callV (slot_spec b g k _ (pgOf hR.ok H (by exact ⟨rfl, rfl, rfl, rfl⟩) (by repeat first | exact .head _ | refine .tail _ ?_))) ?_
  rintro e w1 ⟨rfl, H'⟩; replace H := H.ext0 H'; clear H'
  refine ⟨_, _, rfl, ?_⟩
  unfold adel
  rcases lk_cases (L := L) k with ⟨h1, h2⟩ | ⟨K, s, rfl, h2, h3⟩
  · rw [h1]
    refine br_dec (fun _ => ⟨rfl, g, hR, H⟩) (fun h0 => absurd ?_ h0)
    split
    · rename_i hc
      refine Classical.byContradiction fun h4 => ?_
      obtain ⟨s, hs⟩ := hR.mem_live.1 ⟨show k.toNat < g.many by omega, by show 0 < (g.dir.getD k.toNat (0, 0)).1; omega⟩
      exact h2 _ hs (by simp only; omega)
    · rfl
  · have hat := hR.at_ h2
    have hbe := hR.below _ h2
    simp only at hbe
    have e1 : (if 0 ≤ (K : Int) ∧ (K : Int) < (g.many : Int) then ((g.dir.getD (K : Int).toNat (0, 0)).1 : Int) else 0) = (atOf g K : Int) := by
      rw [if_pos (by omega), Int.toNat_natCast]; rfl
    rw [e1, h3]
    refine br_dec (fun h0 => absurd h0 (by omega)) (fun _ => ?_)
    refine callV (drop_any b g L stamp hR K _ (H.ok _ (.head _))) ?_
    rintro e w3 ⟨rfl, g', hR', H'⟩; replace H := Hp.use11 (a := pgA b _) H H'; clear H'
    refine ⟨rfl, rfl, g', ?_, H⟩
    rw [Int.toNat_natCast]
    exact hR'

def ff : List Nat → Nat → Nat
  | [], n => n
  | k :: r, n => ff r (if k = n then n + 1 else n)
theorem ff_snoc (l : List Nat) (k : Nat) : ∀ n, ff (l ++ [k]) n = if k = ff l n then ff l n + 1 else ff l n := by
  induction l with
  | nil => intro n; rfl
  | cons x r ih => intro n; exact ih _
theorem ff_le (l : List Nat) : ∀ n, ff l n ≤ n + l.length := by
  induction l with
  | nil => intro n; exact Nat.le_refl _
  | cons x r ih =>
    intro n
    have := ih (if x = n then n + 1 else n)
    rw [ff, List.length_cons]
    have h2 : (if x = n then n + 1 else n) ≤ n + 1 := by split <;> omega
    omega
theorem ff_eq : ∀ (l : List Nat) (a n : Nat), l.Pairwise (· < ·) → (∀ k ∈ l, a ≤ k) → a ≤ n → (∀ j, a ≤ j → j < n → j ∈ l) → n ∉ l → ff l a = n
  | [], a, n, _, _, h1, h2, _ => by
    refine Classical.byContradiction fun h => ?_
    have := h2 a (Nat.le_refl _) (by simp only [ff] at h; omega)
    cases this
  | k :: r, a, n, hs, hge, h1, h2, h3 => by
    obtain ⟨hs1, hs2⟩ := List.pairwise_cons.1 hs
    have hka := hge k (.head _)
    rw [ff]
    split
    · rename_i e
      have hne : a ≠ n := fun e2 => h3 (by rw [← e2, ← e]; exact .head _)
      refine ff_eq r (a + 1) n hs2 (fun j hj => by have := hs1 j hj; omega) (by omega) (fun j hj hjn => ?_) (fun h => h3 (.tail _ h))
      rcases List.mem_cons.1 (h2 j (by omega) hjn) with e3 | m
      · omega
      · exact m
    · rename_i e
      have han : a = n := by
        refine Classical.byContradiction fun h => ?_
        rcases List.mem_cons.1 (h2 a (Nat.le_refl _) (by omega)) with e3 | m
        · exact e e3.symm
        · have := hs1 a m; omega
      exact ff_eq r a n hs2 (fun j hj => by have := hs1 j hj; omega) h1 (fun j hj hjn => by omega) (fun h => h3 (.tail _ h))

def ains (L : Recs) (s : List UInt8) : Recs × Int × Int :=
  let n := ff (L.map (·.1)) 0
  if 120 ≤ n then (L, 0, 111) else if (aput L n s).2 = 0 then ((aput L n s).1, n, 0) else (L, 0, (aput L n s).2)
theorem aput_bad {L : Recs} {k : Int} {s : List UInt8} (h : (aput L k s).2 ≠ 0) : (aput L k s).1 = L := by
  unfold aput at h ⊢
  split
  · rfl
  · rename_i h1
    rw [if_neg h1] at h
    split
    · rfl
    · rename_i h2
      rw [if_neg h2] at h
      exact absurd rfl h
theorem insert_any (hR : Rep g L stamp) (h : Blk w b g.cells 132) (s : List UInt8) :
    Calls Tryz.prog 16 #[.pointer (some ⟨b, 0, none⟩), sv s] w fun e w' => e = .returned (.tuple #[.int .i64 (ains L s).2.1, .int .i64 (ains L s).2.2]) ∧ ∃ g', Rep g' (ains L s).1 stamp ∧ Hp [b] w w' [pgA b g'] := by
  apply insert.ok
  unfold insert.vc
  have H : Hp [b] w w [pgA b g] := Hp.start1 (a := pgA b g) h
  have hm := hR.ok.many
  (intro _ _ hn; replace H := H.new (by exact ⟨rfl, rfl, rfl, rfl⟩) hn; clear hn)
  ((first | (apply Hp.st; (case H => first | exact H | exact H.pull1 | exact H.pull2 | exact H.pull3 | exact H.pull4 | exact H.pull5 | exact H.pull6 | exact H.pull7); (case e => exact ⟨rfl, rfl, rfl, rfl⟩); (case S => exact (by first | exact scl3 | exact scl23)); (case hv => exact rfl); (case h1 => exact rfl); (case ho => exact Nat.le_of_ble_eq_true rfl); (case hc => exact rfl))); clear H; intro _ H; (try simp only [over, List.set_cons_zero, List.set_cons_succ] at H))
  rename_i b1 _ w1
  replace H : Hp [b] w w1 [pgA b g, .blk b1 [.int .i64 ((ff (live g 0) 0 : Nat) : Int)] 3] := by
    have H : Hp [b] w w1 [.blk b1 [.int .i64 ((ff (live g 0) 0 : Nat) : Int)] 3, pgA b g] := H
    exact H.pull1
  refine ⟨_, _, _, rfl, ⟨_, _, Tryz.func38, rfl⟩, ?_⟩
  refine range_each b g.many (fun _ _ => g) (fun k (_ : Unit) => [pgA b g, .blk b1 [.int .i64 ((ff (live g k) 0 : Nat) : Int)] 3]) (fun _ _ => True) (fun _ : Unit => []) (fun _ => False) () trivial H
    (fun k x w' T _ H => ⟨pgOf hR.ok H (by exact ⟨rfl, rfl, rfl, rfl⟩) (.head _), rfl⟩) (fun k x hk _ h0 => ⟨x, trivial, by rw [live_succ, if_neg (by omega)]⟩) ?_ ?_ (fun y D w' hs _ => hs.elim)
  · clear H
    intro k x hk _ h0 w' T0 T1 begin kn kr kx _ hbeg hkn _
    refine hbeg _ fun w2 H => ?_
    simp only [List.cons_append, List.nil_append] at H
    have hfl := ff_le (live g k) 0
    have hll := live_len g k
    have hsn := ff_snoc (live g k) k 0
    have hsu := live_succ g k
    rw [if_pos h0] at hsu
    rw [← hsu] at hsn
    ((repeat apply Exists.intro); first | refine ⟨H.ld (by exact ⟨rfl, rfl, rfl, rfl⟩) (by first | exact scl3 | exact scl23) (by repeat first | exact .head _ | refine .tail _ ?_) rfl, ?_⟩)
    refine br_dec (fun he => ?_) (fun he => ?_)
    · have he' : k = ff (live g k) 0 := by have h9 : (k : Int) = ((ff (live g k) 0 : Nat) : Int) := he; omega
      rw [if_pos he'] at hsn
      ((repeat apply Exists.intro); first | refine ⟨H.ld (by exact ⟨rfl, rfl, rfl, rfl⟩) (by first | exact scl3 | exact scl23) (by repeat first | exact .head _ | refine .tail _ ?_) rfl, ?_⟩)
      refine ⟨inR64.2 (by omega), ?_⟩
      refine Hp.st H.pull1 (by exact ⟨rfl, rfl, rfl, rfl⟩) scl3 rfl rfl (by simp) rfl ?_
      clear H
      intro w3 H
      refine hkn _ () trivial ?_
      rw [hsn]
      exact H.pull1
    · have he' : ¬ k = ff (live g k) 0 := fun h9 => he (by show (k : Int) = ((ff (live g k) 0 : Nat) : Int); omega)
      rw [if_neg he'] at hsn
      refine hkn _ () trivial ?_
      rw [hsn]
      exact H
  · clear H
    intro x D w' _ H
    simp only [List.cons_append, List.nil_append] at H
    rw [hR.live_eq] at H
    unfold ains
    obtain ⟨n, hn⟩ : ∃ n, n = ff (L.map (·.1)) 0 := ⟨_, rfl⟩
    rw [← hn] at H
    simp only [← hn]
    ((repeat apply Exists.intro); first | refine ⟨H.ld (by exact ⟨rfl, rfl, rfl, rfl⟩) (by first | exact scl3 | exact scl23) (by repeat first | exact .head _ | refine .tail _ ?_) rfl, ?_⟩)
    refine br_dec (fun h0 => ?_) (fun h0 => ?_)
    · rw [if_pos (by have h9 : (120 : Int) ≤ (n : Int) := h0; omega)]
      exact Hp.shut H.pull2 fun w1 H => ⟨rfl, g, hR, H.done1⟩
    · rw [if_neg (by have h9 : ¬ (120 : Int) ≤ (n : Int) := h0; omega)]
      ((repeat apply Exists.intro); first | refine ⟨H.ld (by exact ⟨rfl, rfl, rfl, rfl⟩) (by first | exact scl3 | exact scl23) (by repeat first | exact .head _ | refine .tail _ ?_) rfl, ?_⟩)
      refine callV (put_spec b g L stamp hR n s _ (H.ok _ (.head _))) ?_
      rintro e w3 ⟨rfl, g', hR', H'⟩; replace H := Hp.use11 (a := pgA b _) H H'; clear H'
      refine ⟨_, rfl, br_ndec (fun hz => ?_) (fun hz => ?_)⟩
      · rw [if_neg hz]
        refine Hp.shut H.pull2 fun w1 H => ⟨rfl, g', ?_, H.done1⟩
        rw [aput_bad hz] at hR'
        exact hR'
      · rw [if_pos hz]
        ((repeat apply Exists.intro); first | refine ⟨H.ld (by exact ⟨rfl, rfl, rfl, rfl⟩) (by first | exact scl3 | exact scl23) (by repeat first | exact .head _ | refine .tail _ ?_) rfl, ?_⟩)
        exact Hp.shut H.pull2 fun w1 H => ⟨rfl, g', hR', H.done1⟩
end
end Go.Proofs.YtiagjabdfppgkaaGreat.Sl
