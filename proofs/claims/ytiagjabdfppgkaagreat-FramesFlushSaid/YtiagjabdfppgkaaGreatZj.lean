/- Slate: the document's 'Put', 'Insert', 'Delete', 'Do'. -/
import Derived.Test.YtiagjabdfppgkaaGreatZi
set_option linter.unusedVariables false
set_option linter.unusedSimpArgs false
set_option maxRecDepth 100000
namespace Go.Proofs.YtiagjabdfppgkaaGreat.Sl
open Go Go.Vc

theorem pOc {B : List Nat} {w0 w w' : World} {Ls : List Asn} {a : Option Addr} {c : Nat} {L : Recs} (H : Hp B w0 w Ls) (e : Eqw w w') (m : pO a c L ∈ Ls) : Cells w' a (recC L) := ((H.go e).ownA m).cells
/-- what a call gives: the page that it was given, or one of new memory -/
def Res (a : Option Addr) (c : Nat) (L : Recs) (w : World) (a' : Option Addr) (c' : Nat) (L' : Recs) (w' : World) : Prop := (a' = a ∧ c' = c ∧ L' = L ∧ Hp [] w w' []) ∨ Hp [] w w' [pO a' c' L']
/-- a page of the document's, as a value -/
def pv (a : Option Addr) (c : Nat) (L : Recs) (st : Int) : Value := .agg #[.slice a L.length c, .int .i64 st]
section
variable {w : World} {L : Recs} {a : Option Addr} {c : Nat}
/-- behind a call: what was there, and the new page, if it is one -/
theorem Res.out {B : List Nat} {w0 w w' : World} {Ls : List Asn} {a' : Option Addr} {c' : Nat} {L' : Recs} (h : Res a c L w a' c' L' w') (H : Hp B w0 w Ls) : ∃ T, Hp B w0 w' (Ls ++ T) ∧ ((a' = a ∧ c' = c ∧ L' = L ∧ T = []) ∨ T = [pO a' c' L']) := by
  rcases h with ⟨e1, e2, e3, H'⟩ | H'
  · exact ⟨[], by simpa using H.ext0 H', .inl ⟨e1, e2, e3, rfl⟩⟩
  · exact ⟨_, (H.ext1 H').perm (M := Ls ++ [pO a' c' L']) (List.perm_append_comm (l₁ := [pO a' c' L']) (l₂ := Ls)), .inr rfl⟩
theorem Res.into {w w' : World} {a' : Option Addr} {c' : Nat} {L' : Recs} {T Ls : List Asn} (hT : (a' = a ∧ c' = c ∧ L' = L ∧ T = []) ∨ T = [pO a' c' L']) (H : Hp [] w w' Ls) (h : T = [pO a' c' L'] → Hp [] w w' [pO a' c' L']) : Res a c L w a' c' L' w' := by
  rcases hT with ⟨e1, e2, e3, _⟩ | e
  · exact .inl ⟨e1, e2, e3, H.done⟩
  · exact .inr (h e)

set_option maxHeartbeats 1000000 in
theorem rput_spec (hL : RP L) (h : Cells w a (recC L)) (st : Int) (k : Int) (s : List UInt8) :
    Calls Tryz.prog 46 #[pv a c L st, .int .i64 k, sv s] w fun e w' => ∃ a' c', e = .returned (.tuple #[pv a' c' (aput L k s).1 st, .int .i64 (aput L k s).2]) ∧ ((aput L k s).2 ≠ 0 → a' = a ∧ c' = c ∧ Hp [] w w' []) ∧ Res a c L w a' c' (aput L k s).1 w' := by
  apply rput.ok
  unfold rput.vc
  have H := Hp.start w
  have hlen := hL.len
  (intro _ _ hn; replace H := H.new (by exact ⟨rfl, rfl, rfl, rfl⟩) hn; clear hn)
  rename_i b _
  (intro _ _ hn; replace H := H.new (by exact ⟨rfl, rfl, rfl, rfl⟩) hn; clear hn)
  rename_i b1 _
  refine br_dec (fun h1 => ?_) (fun h1 => br_dec (fun h2 => ?_) (fun h2 => ?_))
  · rw [aput, if_pos (.inl h1)]
    ((repeat apply Exists.intro); first | refine ⟨H.ld (by exact ⟨rfl, rfl, rfl, rfl⟩) (by first | exact scl3 | exact scl9 | exact scl26) (by repeat first | exact .head _ | refine .tail _ ?_) rfl, ?_⟩ | refine ⟨H.ldA (by exact ⟨rfl, rfl, rfl, rfl⟩) (by first | exact agg28 | exact agg43 | exact agg64) (by repeat first | exact .head _ | refine .tail _ ?_) rfl rfl, ?_⟩)
    ((first | (apply Hp.st; (case H => first | exact H | exact H.pull1 | exact H.pull2 | exact H.pull3 | exact H.pull4 | exact H.pull5 | exact H.pull6 | exact H.pull7); (case e => exact ⟨rfl, rfl, rfl, rfl⟩); (case S => exact (by first | exact scl3 | exact scl9 | exact scl26)); (case hv => exact rfl); (case h1 => exact rfl); (case ho => exact Nat.le_of_ble_eq_true rfl); (case hc => exact rfl)) | (apply Hp.stA; (case H => first | exact H | exact H.pull1 | exact H.pull2 | exact H.pull3 | exact H.pull4 | exact H.pull5 | exact H.pull6 | exact H.pull7); (case e => exact ⟨rfl, rfl, rfl, rfl⟩); (case S => exact (by first | exact agg28 | exact agg43 | exact agg64)); (case hn => exact rfl); (case h1 => exact rfl); (case ho => exact Nat.le_of_ble_eq_true rfl); (case hc => exact rfl))); clear H; intro _ H; (try simp only [over, List.set_cons_zero, List.set_cons_succ] at H))
    ((repeat apply Exists.intro); first | refine ⟨H.ld (by exact ⟨rfl, rfl, rfl, rfl⟩) (by first | exact scl3 | exact scl9 | exact scl26) (by repeat first | exact .head _ | refine .tail _ ?_) rfl, ?_⟩ | refine ⟨H.ldA (by exact ⟨rfl, rfl, rfl, rfl⟩) (by first | exact agg28 | exact agg43 | exact agg64) (by repeat first | exact .head _ | refine .tail _ ?_) rfl rfl, ?_⟩)
    exact ⟨a, c, rfl, fun _ => ⟨rfl, rfl, H.done⟩, .inl ⟨rfl, rfl, rfl, H.done⟩⟩
  · rw [aput, if_pos (.inr h2)]
    ((repeat apply Exists.intro); first | refine ⟨H.ld (by exact ⟨rfl, rfl, rfl, rfl⟩) (by first | exact scl3 | exact scl9 | exact scl26) (by repeat first | exact .head _ | refine .tail _ ?_) rfl, ?_⟩ | refine ⟨H.ldA (by exact ⟨rfl, rfl, rfl, rfl⟩) (by first | exact agg28 | exact agg43 | exact agg64) (by repeat first | exact .head _ | refine .tail _ ?_) rfl rfl, ?_⟩)
    ((first | (apply Hp.st; (case H => first | exact H | exact H.pull1 | exact H.pull2 | exact H.pull3 | exact H.pull4 | exact H.pull5 | exact H.pull6 | exact H.pull7); (case e => exact ⟨rfl, rfl, rfl, rfl⟩); (case S => exact (by first | exact scl3 | exact scl9 | exact scl26)); (case hv => exact rfl); (case h1 => exact rfl); (case ho => exact Nat.le_of_ble_eq_true rfl); (case hc => exact rfl)) | (apply Hp.stA; (case H => first | exact H | exact H.pull1 | exact H.pull2 | exact H.pull3 | exact H.pull4 | exact H.pull5 | exact H.pull6 | exact H.pull7); (case e => exact ⟨rfl, rfl, rfl, rfl⟩); (case S => exact (by first | exact agg28 | exact agg43 | exact agg64)); (case hn => exact rfl); (case h1 => exact rfl); (case ho => exact Nat.le_of_ble_eq_true rfl); (case hc => exact rfl))); clear H; intro _ H; (try simp only [over, List.set_cons_zero, List.set_cons_succ] at H))
    ((repeat apply Exists.intro); first | refine ⟨H.ld (by exact ⟨rfl, rfl, rfl, rfl⟩) (by first | exact scl3 | exact scl9 | exact scl26) (by repeat first | exact .head _ | refine .tail _ ?_) rfl, ?_⟩ | refine ⟨H.ldA (by exact ⟨rfl, rfl, rfl, rfl⟩) (by first | exact agg28 | exact agg43 | exact agg64) (by repeat first | exact .head _ | refine .tail _ ?_) rfl rfl, ?_⟩)
    exact ⟨a, c, rfl, fun _ => ⟨rfl, rfl, H.done⟩, .inl ⟨rfl, rfl, rfl, H.done⟩⟩
  · obtain ⟨K, rfl⟩ : ∃ K : Nat, k = K := ⟨k.toNat, by omega⟩
    have hwo := hL.wo K
    have hwl := hwo.len
    have hws := hwo.small
    have ek : (K : Int).toNat = K := by omega
    refine ⟨?_, ?_⟩
    · ((repeat apply Exists.intro); first | refine ⟨H.ld (by exact ⟨rfl, rfl, rfl, rfl⟩) (by first | exact scl3 | exact scl9 | exact scl26) (by repeat first | exact .head _ | refine .tail _ ?_) rfl, ?_⟩ | refine ⟨H.ldA (by exact ⟨rfl, rfl, rfl, rfl⟩) (by first | exact agg28 | exact agg43 | exact agg64) (by repeat first | exact .head _ | refine .tail _ ?_) rfl rfl, ?_⟩)
      ((repeat apply Exists.intro); first | refine ⟨H.ld (by exact ⟨rfl, rfl, rfl, rfl⟩) (by first | exact scl3 | exact scl9 | exact scl26) (by repeat first | exact .head _ | refine .tail _ ?_) rfl, ?_⟩ | refine ⟨H.ldA (by exact ⟨rfl, rfl, rfl, rfl⟩) (by first | exact agg28 | exact agg43 | exact agg64) (by repeat first | exact .head _ | refine .tail _ ?_) rfl rfl, ?_⟩)
      refine callV (without_spec hlen (h.chg (H.go (by exact ⟨rfl, rfl, rfl, rfl⟩)).chg (by simp)) K) ?_
      rintro e w2 ⟨a2, c2, rfl, H'⟩; replace H := H.drew.ext1 H'; clear H'
      refine ⟨_, _, _, rfl, ?_⟩
      ((repeat apply Exists.intro); first | refine ⟨H.ld (by exact ⟨rfl, rfl, rfl, rfl⟩) (by first | exact scl3 | exact scl9 | exact scl26) (by repeat first | exact .head _ | refine .tail _ ?_) rfl, ?_⟩ | refine ⟨H.ldA (by exact ⟨rfl, rfl, rfl, rfl⟩) (by first | exact agg28 | exact agg43 | exact agg64) (by repeat first | exact .head _ | refine .tail _ ?_) rfl rfl, ?_⟩)
      (intro _ _ hn; replace H := H.new (by exact ⟨rfl, rfl, rfl, rfl⟩) hn; clear hn)
      rename_i b2 _
      ((repeat apply Exists.intro); first | refine ⟨H.ld (by exact ⟨rfl, rfl, rfl, rfl⟩) (by first | exact scl3 | exact scl9 | exact scl26) (by repeat first | exact .head _ | refine .tail _ ?_) rfl, ?_⟩ | refine ⟨H.ldA (by exact ⟨rfl, rfl, rfl, rfl⟩) (by first | exact agg28 | exact agg43 | exact agg64) (by repeat first | exact .head _ | refine .tail _ ?_) rfl rfl, ?_⟩)
      ((first | (apply Hp.st; (case H => first | exact H | exact H.pull1 | exact H.pull2 | exact H.pull3 | exact H.pull4 | exact H.pull5 | exact H.pull6 | exact H.pull7); (case e => exact ⟨rfl, rfl, rfl, rfl⟩); (case S => exact (by first | exact scl3 | exact scl9 | exact scl26)); (case hv => exact rfl); (case h1 => exact rfl); (case ho => exact Nat.le_of_ble_eq_true rfl); (case hc => exact rfl)) | (apply Hp.stA; (case H => first | exact H | exact H.pull1 | exact H.pull2 | exact H.pull3 | exact H.pull4 | exact H.pull5 | exact H.pull6 | exact H.pull7); (case e => exact ⟨rfl, rfl, rfl, rfl⟩); (case S => exact (by first | exact agg28 | exact agg43 | exact agg64)); (case hn => exact rfl); (case h1 => exact rfl); (case ho => exact Nat.le_of_ble_eq_true rfl); (case hc => exact rfl))); clear H; intro _ H; (try simp only [over, List.set_cons_zero, List.set_cons_succ] at H))
      ((repeat apply Exists.intro); first | refine ⟨H.ld (by exact ⟨rfl, rfl, rfl, rfl⟩) (by first | exact scl3 | exact scl9 | exact scl26) (by repeat first | exact .head _ | refine .tail _ ?_) rfl, ?_⟩ | refine ⟨H.ldA (by exact ⟨rfl, rfl, rfl, rfl⟩) (by first | exact agg28 | exact agg43 | exact agg64) (by repeat first | exact .head _ | refine .tail _ ?_) rfl rfl, ?_⟩)
      refine callV (rroom_spec hwl (by omega) (pOc H (by exact ⟨rfl, rfl, rfl, rfl⟩) (by repeat first | exact .head _ | refine .tail _ ?_)) st) ?_
      rintro e w5 ⟨rfl, H'⟩; replace H := H.ext0 H'; clear H'
      refine ⟨_, rfl, ?_⟩
      rw [mk_size]
      refine br_dec (fun hf => ?_) (fun hf => ?_)
      · rw [aput, ek, if_neg (by omega), if_pos (by omega)]
        ((repeat apply Exists.intro); first | refine ⟨H.ld (by exact ⟨rfl, rfl, rfl, rfl⟩) (by first | exact scl3 | exact scl9 | exact scl26) (by repeat first | exact .head _ | refine .tail _ ?_) rfl, ?_⟩ | refine ⟨H.ldA (by exact ⟨rfl, rfl, rfl, rfl⟩) (by first | exact agg28 | exact agg43 | exact agg64) (by repeat first | exact .head _ | refine .tail _ ?_) rfl rfl, ?_⟩)
        ((first | (apply Hp.st; (case H => first | exact H | exact H.pull1 | exact H.pull2 | exact H.pull3 | exact H.pull4 | exact H.pull5 | exact H.pull6 | exact H.pull7); (case e => exact ⟨rfl, rfl, rfl, rfl⟩); (case S => exact (by first | exact scl3 | exact scl9 | exact scl26)); (case hv => exact rfl); (case h1 => exact rfl); (case ho => exact Nat.le_of_ble_eq_true rfl); (case hc => exact rfl)) | (apply Hp.stA; (case H => first | exact H | exact H.pull1 | exact H.pull2 | exact H.pull3 | exact H.pull4 | exact H.pull5 | exact H.pull6 | exact H.pull7); (case e => exact ⟨rfl, rfl, rfl, rfl⟩); (case S => exact (by first | exact agg28 | exact agg43 | exact agg64)); (case hn => exact rfl); (case h1 => exact rfl); (case ho => exact Nat.le_of_ble_eq_true rfl); (case hc => exact rfl))); clear H; intro _ H; (try simp only [over, List.set_cons_zero, List.set_cons_succ] at H))
        ((repeat apply Exists.intro); first | refine ⟨H.ld (by exact ⟨rfl, rfl, rfl, rfl⟩) (by first | exact scl3 | exact scl9 | exact scl26) (by repeat first | exact .head _ | refine .tail _ ?_) rfl, ?_⟩ | refine ⟨H.ldA (by exact ⟨rfl, rfl, rfl, rfl⟩) (by first | exact agg28 | exact agg43 | exact agg64) (by repeat first | exact .head _ | refine .tail _ ?_) rfl rfl, ?_⟩)
        exact ⟨a, c, rfl, fun _ => ⟨rfl, rfl, H.done⟩, .inl ⟨rfl, rfl, rfl, H.done⟩⟩
      · have hap : aput L (K : Int) s = (insR (K, s) (wo L K), 0) := by rw [aput, ek, if_neg (by omega), if_neg (by omega)]
        rw [hap]
        ((repeat apply Exists.intro); first | refine ⟨H.ld (by exact ⟨rfl, rfl, rfl, rfl⟩) (by first | exact scl3 | exact scl9 | exact scl26) (by repeat first | exact .head _ | refine .tail _ ?_) rfl, ?_⟩ | refine ⟨H.ldA (by exact ⟨rfl, rfl, rfl, rfl⟩) (by first | exact agg28 | exact agg43 | exact agg64) (by repeat first | exact .head _ | refine .tail _ ?_) rfl rfl, ?_⟩)
        refine callV (rwith_spec hwo.len (pOc H (by exact ⟨rfl, rfl, rfl, rfl⟩) (by repeat first | exact .head _ | refine .tail _ ?_)) K s) ?_
        rintro e w6 ⟨a6, c6, rfl, H'⟩; replace H := H.ext1 H'; clear H'
        refine ⟨_, _, _, rfl, ?_⟩
        ((first | (apply Hp.st; (case H => first | exact H | exact H.pull1 | exact H.pull2 | exact H.pull3 | exact H.pull4 | exact H.pull5 | exact H.pull6 | exact H.pull7); (case e => exact ⟨rfl, rfl, rfl, rfl⟩); (case S => exact (by first | exact scl3 | exact scl9 | exact scl26)); (case hv => exact rfl); (case h1 => exact rfl); (case ho => exact Nat.le_of_ble_eq_true rfl); (case hc => exact rfl)) | (apply Hp.stA; (case H => first | exact H | exact H.pull1 | exact H.pull2 | exact H.pull3 | exact H.pull4 | exact H.pull5 | exact H.pull6 | exact H.pull7); (case e => exact ⟨rfl, rfl, rfl, rfl⟩); (case S => exact (by first | exact agg28 | exact agg43 | exact agg64)); (case hn => exact rfl); (case h1 => exact rfl); (case ho => exact Nat.le_of_ble_eq_true rfl); (case hc => exact rfl))); clear H; intro _ H; (try simp only [over, List.set_cons_zero, List.set_cons_succ] at H))
        ((repeat apply Exists.intro); first | refine ⟨H.ld (by exact ⟨rfl, rfl, rfl, rfl⟩) (by first | exact scl3 | exact scl9 | exact scl26) (by repeat first | exact .head _ | refine .tail _ ?_) rfl, ?_⟩ | refine ⟨H.ldA (by exact ⟨rfl, rfl, rfl, rfl⟩) (by first | exact agg28 | exact agg43 | exact agg64) (by repeat first | exact .head _ | refine .tail _ ?_) rfl rfl, ?_⟩)
        ((first | (apply Hp.st; (case H => first | exact H | exact H.pull1 | exact H.pull2 | exact H.pull3 | exact H.pull4 | exact H.pull5 | exact H.pull6 | exact H.pull7); (case e => exact ⟨rfl, rfl, rfl, rfl⟩); (case S => exact (by first | exact scl3 | exact scl9 | exact scl26)); (case hv => exact rfl); (case h1 => exact rfl); (case ho => exact Nat.le_of_ble_eq_true rfl); (case hc => exact rfl)) | (apply Hp.stA; (case H => first | exact H | exact H.pull1 | exact H.pull2 | exact H.pull3 | exact H.pull4 | exact H.pull5 | exact H.pull6 | exact H.pull7); (case e => exact ⟨rfl, rfl, rfl, rfl⟩); (case S => exact (by first | exact agg28 | exact agg43 | exact agg64)); (case hn => exact rfl); (case h1 => exact rfl); (case ho => exact Nat.le_of_ble_eq_true rfl); (case hc => exact rfl))); clear H; intro _ H; (try simp only [over, List.set_cons_zero, List.set_cons_succ] at H))
        ((repeat apply Exists.intro); first | refine ⟨H.ld (by exact ⟨rfl, rfl, rfl, rfl⟩) (by first | exact scl3 | exact scl9 | exact scl26) (by repeat first | exact .head _ | refine .tail _ ?_) rfl, ?_⟩ | refine ⟨H.ldA (by exact ⟨rfl, rfl, rfl, rfl⟩) (by first | exact agg28 | exact agg43 | exact agg64) (by repeat first | exact .head _ | refine .tail _ ?_) rfl rfl, ?_⟩)
        exact ⟨a6, c6, rfl, fun hz => absurd rfl hz, .inr (H.one (x := pO a6 c6 (insR (K, s) (wo L K))) (by repeat first | exact .head _ | refine .tail _ ?_))⟩
    · ((repeat apply Exists.intro); first | refine ⟨H.ld (by exact ⟨rfl, rfl, rfl, rfl⟩) (by first | exact scl3 | exact scl9 | exact scl26) (by repeat first | exact .head _ | refine .tail _ ?_) rfl, ?_⟩ | refine ⟨H.ldA (by exact ⟨rfl, rfl, rfl, rfl⟩) (by first | exact agg28 | exact agg43 | exact agg64) (by repeat first | exact .head _ | refine .tail _ ?_) rfl rfl, ?_⟩)
      ((repeat apply Exists.intro); first | refine ⟨H.ld (by exact ⟨rfl, rfl, rfl, rfl⟩) (by first | exact scl3 | exact scl9 | exact scl26) (by repeat first | exact .head _ | refine .tail _ ?_) rfl, ?_⟩ | refine ⟨H.ldA (by exact ⟨rfl, rfl, rfl, rfl⟩) (by first | exact agg28 | exact agg43 | exact agg64) (by repeat first | exact .head _ | refine .tail _ ?_) rfl rfl, ?_⟩)
      (intro _ _ hn; replace H := H.new (by exact ⟨rfl, rfl, rfl, rfl⟩) hn; clear hn)
      rename_i b2 _
      ((repeat apply Exists.intro); first | refine ⟨H.ld (by exact ⟨rfl, rfl, rfl, rfl⟩) (by first | exact scl3 | exact scl9 | exact scl26) (by repeat first | exact .head _ | refine .tail _ ?_) rfl, ?_⟩ | refine ⟨H.ldA (by exact ⟨rfl, rfl, rfl, rfl⟩) (by first | exact agg28 | exact agg43 | exact agg64) (by repeat first | exact .head _ | refine .tail _ ?_) rfl rfl, ?_⟩)
      ((repeat apply Exists.intro); first | refine ⟨H.ld (by exact ⟨rfl, rfl, rfl, rfl⟩) (by first | exact scl3 | exact scl9 | exact scl26) (by repeat first | exact .head _ | refine .tail _ ?_) rfl, ?_⟩ | refine ⟨H.ldA (by exact ⟨rfl, rfl, rfl, rfl⟩) (by first | exact agg28 | exact agg43 | exact agg64) (by repeat first | exact .head _ | refine .tail _ ?_) rfl rfl, ?_⟩)
      refine callV (without_spec hlen (h.chg (H.go (by exact ⟨rfl, rfl, rfl, rfl⟩)).chg (by simp)) K) ?_
      rintro e w2 ⟨a2, c2, rfl, H'⟩; replace H := H.ext1 H'; clear H'
      refine ⟨_, _, _, rfl, ?_⟩
      ((repeat apply Exists.intro); first | refine ⟨H.ld (by exact ⟨rfl, rfl, rfl, rfl⟩) (by first | exact scl3 | exact scl9 | exact scl26) (by repeat first | exact .head _ | refine .tail _ ?_) rfl, ?_⟩ | refine ⟨H.ldA (by exact ⟨rfl, rfl, rfl, rfl⟩) (by first | exact agg28 | exact agg43 | exact agg64) (by repeat first | exact .head _ | refine .tail _ ?_) rfl rfl, ?_⟩)
      ((first | (apply Hp.st; (case H => first | exact H | exact H.pull1 | exact H.pull2 | exact H.pull3 | exact H.pull4 | exact H.pull5 | exact H.pull6 | exact H.pull7); (case e => exact ⟨rfl, rfl, rfl, rfl⟩); (case S => exact (by first | exact scl3 | exact scl9 | exact scl26)); (case hv => exact rfl); (case h1 => exact rfl); (case ho => exact Nat.le_of_ble_eq_true rfl); (case hc => exact rfl)) | (apply Hp.stA; (case H => first | exact H | exact H.pull1 | exact H.pull2 | exact H.pull3 | exact H.pull4 | exact H.pull5 | exact H.pull6 | exact H.pull7); (case e => exact ⟨rfl, rfl, rfl, rfl⟩); (case S => exact (by first | exact agg28 | exact agg43 | exact agg64)); (case hn => exact rfl); (case h1 => exact rfl); (case ho => exact Nat.le_of_ble_eq_true rfl); (case hc => exact rfl))); clear H; intro _ H; (try simp only [over, List.set_cons_zero, List.set_cons_succ] at H))
      ((repeat apply Exists.intro); first | refine ⟨H.ld (by exact ⟨rfl, rfl, rfl, rfl⟩) (by first | exact scl3 | exact scl9 | exact scl26) (by repeat first | exact .head _ | refine .tail _ ?_) rfl, ?_⟩ | refine ⟨H.ldA (by exact ⟨rfl, rfl, rfl, rfl⟩) (by first | exact agg28 | exact agg43 | exact agg64) (by repeat first | exact .head _ | refine .tail _ ?_) rfl rfl, ?_⟩)
      refine callV (rroom_spec hwl (by omega) (pOc H (by exact ⟨rfl, rfl, rfl, rfl⟩) (by repeat first | exact .head _ | refine .tail _ ?_)) st) ?_
      rintro e w5 ⟨rfl, H'⟩; replace H := H.ext0 H'; clear H'
      refine ⟨_, rfl, ?_⟩
      rw [mk_size]
      refine br_dec (fun hf => ?_) (fun hf => ?_)
      · rw [aput, ek, if_neg (by omega), if_pos (by omega)]
        ((repeat apply Exists.intro); first | refine ⟨H.ld (by exact ⟨rfl, rfl, rfl, rfl⟩) (by first | exact scl3 | exact scl9 | exact scl26) (by repeat first | exact .head _ | refine .tail _ ?_) rfl, ?_⟩ | refine ⟨H.ldA (by exact ⟨rfl, rfl, rfl, rfl⟩) (by first | exact agg28 | exact agg43 | exact agg64) (by repeat first | exact .head _ | refine .tail _ ?_) rfl rfl, ?_⟩)
        ((first | (apply Hp.st; (case H => first | exact H | exact H.pull1 | exact H.pull2 | exact H.pull3 | exact H.pull4 | exact H.pull5 | exact H.pull6 | exact H.pull7); (case e => exact ⟨rfl, rfl, rfl, rfl⟩); (case S => exact (by first | exact scl3 | exact scl9 | exact scl26)); (case hv => exact rfl); (case h1 => exact rfl); (case ho => exact Nat.le_of_ble_eq_true rfl); (case hc => exact rfl)) | (apply Hp.stA; (case H => first | exact H | exact H.pull1 | exact H.pull2 | exact H.pull3 | exact H.pull4 | exact H.pull5 | exact H.pull6 | exact H.pull7); (case e => exact ⟨rfl, rfl, rfl, rfl⟩); (case S => exact (by first | exact agg28 | exact agg43 | exact agg64)); (case hn => exact rfl); (case h1 => exact rfl); (case ho => exact Nat.le_of_ble_eq_true rfl); (case hc => exact rfl))); clear H; intro _ H; (try simp only [over, List.set_cons_zero, List.set_cons_succ] at H))
        ((repeat apply Exists.intro); first | refine ⟨H.ld (by exact ⟨rfl, rfl, rfl, rfl⟩) (by first | exact scl3 | exact scl9 | exact scl26) (by repeat first | exact .head _ | refine .tail _ ?_) rfl, ?_⟩ | refine ⟨H.ldA (by exact ⟨rfl, rfl, rfl, rfl⟩) (by first | exact agg28 | exact agg43 | exact agg64) (by repeat first | exact .head _ | refine .tail _ ?_) rfl rfl, ?_⟩)
        exact ⟨a, c, rfl, fun _ => ⟨rfl, rfl, H.done⟩, .inl ⟨rfl, rfl, rfl, H.done⟩⟩
      · have hap : aput L (K : Int) s = (insR (K, s) (wo L K), 0) := by rw [aput, ek, if_neg (by omega), if_neg (by omega)]
        rw [hap]
        ((repeat apply Exists.intro); first | refine ⟨H.ld (by exact ⟨rfl, rfl, rfl, rfl⟩) (by first | exact scl3 | exact scl9 | exact scl26) (by repeat first | exact .head _ | refine .tail _ ?_) rfl, ?_⟩ | refine ⟨H.ldA (by exact ⟨rfl, rfl, rfl, rfl⟩) (by first | exact agg28 | exact agg43 | exact agg64) (by repeat first | exact .head _ | refine .tail _ ?_) rfl rfl, ?_⟩)
        refine callV (rwith_spec hwo.len (pOc H (by exact ⟨rfl, rfl, rfl, rfl⟩) (by repeat first | exact .head _ | refine .tail _ ?_)) K s) ?_
        rintro e w6 ⟨a6, c6, rfl, H'⟩; replace H := H.ext1 H'; clear H'
        refine ⟨_, _, _, rfl, ?_⟩
        ((first | (apply Hp.st; (case H => first | exact H | exact H.pull1 | exact H.pull2 | exact H.pull3 | exact H.pull4 | exact H.pull5 | exact H.pull6 | exact H.pull7); (case e => exact ⟨rfl, rfl, rfl, rfl⟩); (case S => exact (by first | exact scl3 | exact scl9 | exact scl26)); (case hv => exact rfl); (case h1 => exact rfl); (case ho => exact Nat.le_of_ble_eq_true rfl); (case hc => exact rfl)) | (apply Hp.stA; (case H => first | exact H | exact H.pull1 | exact H.pull2 | exact H.pull3 | exact H.pull4 | exact H.pull5 | exact H.pull6 | exact H.pull7); (case e => exact ⟨rfl, rfl, rfl, rfl⟩); (case S => exact (by first | exact agg28 | exact agg43 | exact agg64)); (case hn => exact rfl); (case h1 => exact rfl); (case ho => exact Nat.le_of_ble_eq_true rfl); (case hc => exact rfl))); clear H; intro _ H; (try simp only [over, List.set_cons_zero, List.set_cons_succ] at H))
        ((repeat apply Exists.intro); first | refine ⟨H.ld (by exact ⟨rfl, rfl, rfl, rfl⟩) (by first | exact scl3 | exact scl9 | exact scl26) (by repeat first | exact .head _ | refine .tail _ ?_) rfl, ?_⟩ | refine ⟨H.ldA (by exact ⟨rfl, rfl, rfl, rfl⟩) (by first | exact agg28 | exact agg43 | exact agg64) (by repeat first | exact .head _ | refine .tail _ ?_) rfl rfl, ?_⟩)
        ((first | (apply Hp.st; (case H => first | exact H | exact H.pull1 | exact H.pull2 | exact H.pull3 | exact H.pull4 | exact H.pull5 | exact H.pull6 | exact H.pull7); (case e => exact ⟨rfl, rfl, rfl, rfl⟩); (case S => exact (by first | exact scl3 | exact scl9 | exact scl26)); (case hv => exact rfl); (case h1 => exact rfl); (case ho => exact Nat.le_of_ble_eq_true rfl); (case hc => exact rfl)) | (apply Hp.stA; (case H => first | exact H | exact H.pull1 | exact H.pull2 | exact H.pull3 | exact H.pull4 | exact H.pull5 | exact H.pull6 | exact H.pull7); (case e => exact ⟨rfl, rfl, rfl, rfl⟩); (case S => exact (by first | exact agg28 | exact agg43 | exact agg64)); (case hn => exact rfl); (case h1 => exact rfl); (case ho => exact Nat.le_of_ble_eq_true rfl); (case hc => exact rfl))); clear H; intro _ H; (try simp only [over, List.set_cons_zero, List.set_cons_succ] at H))
        ((repeat apply Exists.intro); first | refine ⟨H.ld (by exact ⟨rfl, rfl, rfl, rfl⟩) (by first | exact scl3 | exact scl9 | exact scl26) (by repeat first | exact .head _ | refine .tail _ ?_) rfl, ?_⟩ | refine ⟨H.ldA (by exact ⟨rfl, rfl, rfl, rfl⟩) (by first | exact agg28 | exact agg43 | exact agg64) (by repeat first | exact .head _ | refine .tail _ ?_) rfl rfl, ?_⟩)
        exact ⟨a6, c6, rfl, fun hz => absurd rfl hz, .inr (H.one (x := pO a6 c6 (insR (K, s) (wo L K))) (by repeat first | exact .head _ | refine .tail _ ?_))⟩

theorem lk_ff {L : Recs} (hs : L.Pairwise fun a b => a.1 < b.1) {n : Nat} (h1 : ∀ j : Nat, j < n → (lk L (j : Int)).isSome = true) (h2 : lk L (n : Int) = none) : ff (L.map (·.1)) 0 = n := by
  refine ff_eq _ 0 n (by rw [List.pairwise_map]; exact hs) (fun _ _ => Nat.zero_le _) (Nat.zero_le _) (fun j _ hj => ?_) (fun hn => ?_)
  · rcases lk_cases (L := L) (j : Int) with ⟨h3, _⟩ | ⟨K, s, e, h3, _⟩
    · have := h1 j hj; rw [h3] at this; cases this
    · have : j = K := by omega
      subst this
      exact List.mem_map_of_mem (f := (·.1)) h3
  · obtain ⟨⟨k, s⟩, hp, he⟩ := List.mem_map.1 hn
    simp only at he
    subst he
    rw [lk_some hs hp] at h2; cases h2
theorem ff_full {L : Recs} (hs : L.Pairwise fun a b => a.1 < b.1) (hb : L.length ≤ 120) (h1 : ∀ j : Nat, j < 120 → (lk L (j : Int)).isSome = true) : 120 ≤ ff (L.map (·.1)) 0 := by
  refine Classical.byContradiction fun hn => ?_
  have key : ∀ (l : List Nat) (a : Nat), l.Pairwise (· < ·) → (∀ k ∈ l, a ≤ k) → a ≤ ff l a ∧ ff l a ∉ l := by
    intro l
    induction l with
    | nil => intro a _ _; exact ⟨Nat.le_refl _, by simp⟩
    | cons k r ih =>
      intro a hp hge
      obtain ⟨p1, p2⟩ := List.pairwise_cons.1 hp
      have hka := hge k (.head _)
      rw [ff]
      by_cases hk : k = a
      · rw [if_pos hk]
        obtain ⟨i1, i2⟩ := ih (a + 1) p2 fun j hj => by have := p1 j hj; omega
        refine ⟨by omega, fun hm => ?_⟩
        rcases List.mem_cons.1 hm with e | m
        · omega
        · exact i2 m
      · rw [if_neg hk]
        have hr : ∀ j ∈ r, a + 1 ≤ j := fun j hj => by have := p1 j hj; omega
        have hfr : ∀ (r : List Nat) , (∀ j ∈ r, a + 1 ≤ j) → ff r a = a := by
          intro r
          induction r with
          | nil => intro _; rfl
          | cons x r ihr =>
            intro hx
            have := hx x (.head _)
            rw [ff, if_neg (by omega)]
            exact ihr fun j hj => hx j (.tail _ hj)
        rw [hfr r hr]
        refine ⟨Nat.le_refl _, fun hm => ?_⟩
        rcases List.mem_cons.1 hm with e | m
        · exact hk e.symm
        · have := hr a m; omega
  obtain ⟨_, k2⟩ := key (L.map (·.1)) 0 (by rw [List.pairwise_map]; exact hs) (fun _ _ => Nat.zero_le _)
  rcases lk_cases (L := L) ((ff (L.map (·.1)) 0 : Nat) : Int) with ⟨h3, _⟩ | ⟨K, s, e, h3, _⟩
  · have := h1 (ff (L.map (·.1)) 0) (by omega); rw [h3] at this; cases this
  · have : ff (L.map (·.1)) 0 = K := by omega
    exact k2 (by rw [this]; exact List.mem_map_of_mem (f := (·.1)) h3)

set_option maxHeartbeats 1000000 in
theorem rinsert_spec (hL : RP L) (h : Cells w a (recC L)) (st : Int) (s : List UInt8) :
    Calls Tryz.prog 73 #[pv a c L st, sv s] w fun e w' => ∃ a' c', e = .returned (.tuple #[pv a' c' (ains L s).1 st, .int .i64 (ains L s).2.1, .int .i64 (ains L s).2.2]) ∧ Res a c L w a' c' (ains L s).1 w' := by
  apply rinsert.ok
  unfold rinsert.vc
  have H := Hp.start w
  have hlen := hL.len
  (intro _ _ hn; replace H := H.new (by exact ⟨rfl, rfl, rfl, rfl⟩) hn; clear hn)
  rename_i b _
  (intro _ _ hn; replace H := H.new (by exact ⟨rfl, rfl, rfl, rfl⟩) hn; clear hn)
  rename_i b1 _
  refine LoopP.mk (fun m s' w' => ∃ j : Nat, m = 120 - j ∧ j ≤ 120 ∧ s' = (j : Int) ∧ (∀ i : Nat, i < j → (lk L (i : Int)).isSome = true) ∧ Hp [] w w' [.blk b1 [.slice none 0 0, .int .i64 0] 88, .blk b [.slice a L.length c, .int .i64 st] 88]) 120 ⟨0, rfl, by omega, rfl, fun i hi => by omega, H⟩ ?_
  clear H
  rintro m s' w' next ⟨j, rfl, hj, rfl, hall, H⟩ hnext
  refine br_dec (fun h1 => ?_) (fun h1 => ?_)
  · ((repeat apply Exists.intro); first | refine ⟨H.ld (by exact ⟨rfl, rfl, rfl, rfl⟩) (by first | exact scl3 | exact scl9 | exact scl26) (by repeat first | exact .head _ | refine .tail _ ?_) rfl, ?_⟩ | refine ⟨H.ldA (by exact ⟨rfl, rfl, rfl, rfl⟩) (by first | exact agg28 | exact agg43 | exact agg64) (by repeat first | exact .head _ | refine .tail _ ?_) rfl rfl, ?_⟩)
    refine callV (rget_spec hlen (h.chg (H.go (by exact ⟨rfl, rfl, rfl, rfl⟩)).chg (by simp)) st (j : Int)) ?_
    rintro e w2 ⟨rfl, H'⟩; replace H := H.ext0 H'; clear H'
    refine ⟨_, _, rfl, ?_⟩
    refine br_not (fun h2 => ?_) (fun h2 => ?_)
    · have hn : lk L (j : Int) = none := by
        cases hc : lk L (j : Int) with
        | none => rfl
        | some x => rw [hc] at h2; cases h2
      have hff := lk_ff hL.sorted hall hn
      unfold ains
      rw [hff]
      simp only
      rw [if_neg (by omega)]
      ((repeat apply Exists.intro); first | refine ⟨H.ld (by exact ⟨rfl, rfl, rfl, rfl⟩) (by first | exact scl3 | exact scl9 | exact scl26) (by repeat first | exact .head _ | refine .tail _ ?_) rfl, ?_⟩ | refine ⟨H.ldA (by exact ⟨rfl, rfl, rfl, rfl⟩) (by first | exact agg28 | exact agg43 | exact agg64) (by repeat first | exact .head _ | refine .tail _ ?_) rfl rfl, ?_⟩)
      refine callV (rput_spec hL (h.chg (H.go (by exact ⟨rfl, rfl, rfl, rfl⟩)).chg (by simp)) st (j : Int) s) ?_
      rintro e w3 ⟨a3, c3, rfl, hsam, H'⟩
      refine ⟨_, _, _, _, _, rfl, ?_⟩
      by_cases hz : (aput L (j : Int) s).2 ≠ 0
      · obtain ⟨rfl, rfl, H''⟩ := hsam hz
        have hsame := aput_bad hz
        replace H := H.ext0 H''; clear H'' H'
        rw [if_neg hz]
        (intro _ _ hn; replace H := H.new (by exact ⟨rfl, rfl, rfl, rfl⟩) hn; clear hn)
        ((first | (apply Hp.st; (case H => first | exact H | exact H.pull1 | exact H.pull2 | exact H.pull3 | exact H.pull4 | exact H.pull5 | exact H.pull6 | exact H.pull7); (case e => exact ⟨rfl, rfl, rfl, rfl⟩); (case S => exact (by first | exact scl3 | exact scl9 | exact scl26)); (case hv => exact rfl); (case h1 => exact rfl); (case ho => exact Nat.le_of_ble_eq_true rfl); (case hc => exact rfl)) | (apply Hp.stA; (case H => first | exact H | exact H.pull1 | exact H.pull2 | exact H.pull3 | exact H.pull4 | exact H.pull5 | exact H.pull6 | exact H.pull7); (case e => exact ⟨rfl, rfl, rfl, rfl⟩); (case S => exact (by first | exact agg28 | exact agg43 | exact agg64)); (case hn => exact rfl); (case h1 => exact rfl); (case ho => exact Nat.le_of_ble_eq_true rfl); (case hc => exact rfl))); clear H; intro _ H; (try simp only [over, List.set_cons_zero, List.set_cons_succ] at H))
        refine br_ndec (fun _ => ?_) (fun h9 => absurd h9 hz)
        ((repeat apply Exists.intro); first | refine ⟨H.ld (by exact ⟨rfl, rfl, rfl, rfl⟩) (by first | exact scl3 | exact scl9 | exact scl26) (by repeat first | exact .head _ | refine .tail _ ?_) rfl, ?_⟩ | refine ⟨H.ldA (by exact ⟨rfl, rfl, rfl, rfl⟩) (by first | exact agg28 | exact agg43 | exact agg64) (by repeat first | exact .head _ | refine .tail _ ?_) rfl rfl, ?_⟩)
        ((first | (apply Hp.st; (case H => first | exact H | exact H.pull1 | exact H.pull2 | exact H.pull3 | exact H.pull4 | exact H.pull5 | exact H.pull6 | exact H.pull7); (case e => exact ⟨rfl, rfl, rfl, rfl⟩); (case S => exact (by first | exact scl3 | exact scl9 | exact scl26)); (case hv => exact rfl); (case h1 => exact rfl); (case ho => exact Nat.le_of_ble_eq_true rfl); (case hc => exact rfl)) | (apply Hp.stA; (case H => first | exact H | exact H.pull1 | exact H.pull2 | exact H.pull3 | exact H.pull4 | exact H.pull5 | exact H.pull6 | exact H.pull7); (case e => exact ⟨rfl, rfl, rfl, rfl⟩); (case S => exact (by first | exact agg28 | exact agg43 | exact agg64)); (case hn => exact rfl); (case h1 => exact rfl); (case ho => exact Nat.le_of_ble_eq_true rfl); (case hc => exact rfl))); clear H; intro _ H; (try simp only [over, List.set_cons_zero, List.set_cons_succ] at H))
        ((repeat apply Exists.intro); first | refine ⟨H.ld (by exact ⟨rfl, rfl, rfl, rfl⟩) (by first | exact scl3 | exact scl9 | exact scl26) (by repeat first | exact .head _ | refine .tail _ ?_) rfl, ?_⟩ | refine ⟨H.ldA (by exact ⟨rfl, rfl, rfl, rfl⟩) (by first | exact agg28 | exact agg43 | exact agg64) (by repeat first | exact .head _ | refine .tail _ ?_) rfl rfl, ?_⟩)
        exact ⟨_, _, rfl, .inl ⟨rfl, rfl, rfl, H.done⟩⟩
      · have hz' : (aput L (j : Int) s).2 = 0 := Classical.byContradiction hz
        rw [if_pos hz']
        have H2 : ∃ T, Hp [] w w3 ([.blk b1 [.slice none 0 0, .int .i64 0] 88, .blk b [.slice a L.length c, .int .i64 st] 88] ++ T) ∧ ((a3 = a ∧ c3 = c ∧ (aput L (j : Int) s).1 = L) ∨ T = [pO a3 c3 (aput L (j : Int) s).1]) := by
          rcases H' with ⟨e1, e2, e3, H'⟩ | H'
          · exact ⟨[], by simpa using H.ext0 H', .inl ⟨e1, e2, e3⟩⟩
          · exact ⟨_, (H.ext1 H').perm (M := [.blk b1 [.slice none 0 0, .int .i64 0] 88, .blk b [.slice a L.length c, .int .i64 st] 88] ++ [pO a3 c3 (aput L (j : Int) s).1]) (perm_pull [_, _] _ []).symm, .inr rfl⟩
        clear H H'
        obtain ⟨T, H, hT⟩ := H2
        simp only [List.cons_append, List.nil_append] at H
        (intro _ _ hn; replace H := H.new (by exact ⟨rfl, rfl, rfl, rfl⟩) hn; clear hn)
        rename_i b3 _
        ((first | (apply Hp.st; (case H => first | exact H | exact H.pull1 | exact H.pull2 | exact H.pull3 | exact H.pull4 | exact H.pull5 | exact H.pull6 | exact H.pull7); (case e => exact ⟨rfl, rfl, rfl, rfl⟩); (case S => exact (by first | exact scl3 | exact scl9 | exact scl26)); (case hv => exact rfl); (case h1 => exact rfl); (case ho => exact Nat.le_of_ble_eq_true rfl); (case hc => exact rfl)) | (apply Hp.stA; (case H => first | exact H | exact H.pull1 | exact H.pull2 | exact H.pull3 | exact H.pull4 | exact H.pull5 | exact H.pull6 | exact H.pull7); (case e => exact ⟨rfl, rfl, rfl, rfl⟩); (case S => exact (by first | exact agg28 | exact agg43 | exact agg64)); (case hn => exact rfl); (case h1 => exact rfl); (case ho => exact Nat.le_of_ble_eq_true rfl); (case hc => exact rfl))); clear H; intro _ H; (try simp only [over, List.set_cons_zero, List.set_cons_succ] at H))
        refine br_ndec (fun h9 => absurd hz' h9) (fun _ => ?_)
        ((repeat apply Exists.intro); first | refine ⟨H.ld (by exact ⟨rfl, rfl, rfl, rfl⟩) (by first | exact scl3 | exact scl9 | exact scl26) (by repeat first | exact .head _ | refine .tail _ ?_) rfl, ?_⟩ | refine ⟨H.ldA (by exact ⟨rfl, rfl, rfl, rfl⟩) (by first | exact agg28 | exact agg43 | exact agg64) (by repeat first | exact .head _ | refine .tail _ ?_) rfl rfl, ?_⟩)
        replace H := H.pull1
        ((first | (apply Hp.st; (case H => first | exact H | exact H.pull1 | exact H.pull2 | exact H.pull3 | exact H.pull4 | exact H.pull5 | exact H.pull6 | exact H.pull7); (case e => exact ⟨rfl, rfl, rfl, rfl⟩); (case S => exact (by first | exact scl3 | exact scl9 | exact scl26)); (case hv => exact rfl); (case h1 => exact rfl); (case ho => exact Nat.le_of_ble_eq_true rfl); (case hc => exact rfl)) | (apply Hp.stA; (case H => first | exact H | exact H.pull1 | exact H.pull2 | exact H.pull3 | exact H.pull4 | exact H.pull5 | exact H.pull6 | exact H.pull7); (case e => exact ⟨rfl, rfl, rfl, rfl⟩); (case S => exact (by first | exact agg28 | exact agg43 | exact agg64)); (case hn => exact rfl); (case h1 => exact rfl); (case ho => exact Nat.le_of_ble_eq_true rfl); (case hc => exact rfl))); clear H; intro _ H; (try simp only [over, List.set_cons_zero, List.set_cons_succ] at H))
        ((repeat apply Exists.intro); first | refine ⟨H.ld (by exact ⟨rfl, rfl, rfl, rfl⟩) (by first | exact scl3 | exact scl9 | exact scl26) (by repeat first | exact .head _ | refine .tail _ ?_) rfl, ?_⟩ | refine ⟨H.ldA (by exact ⟨rfl, rfl, rfl, rfl⟩) (by first | exact agg28 | exact agg43 | exact agg64) (by repeat first | exact .head _ | refine .tail _ ?_) rfl rfl, ?_⟩)
        refine ⟨a3, c3, rfl, ?_⟩
        rcases hT with ⟨e1, e2, e3⟩ | rfl
        · exact .inl ⟨e1, e2, e3, H.done⟩
        · exact .inr (H.one (x := pO a3 c3 (aput L (j : Int) s).1) (by repeat first | exact .head _ | refine .tail _ ?_))
    · exact ⟨inR64.2 (by omega), hnext (120 - (j + 1)) _ _ (by omega) ⟨j + 1, rfl, by omega, by omega, fun i hi => by
        by_cases hij : i = j
        · subst hij; exact h2
        · exact hall i (by omega), H⟩⟩
  · have hj' : j = 120 := by omega
    have hff := ff_full hL.sorted hlen fun i hi => hall i (by omega)
    unfold ains
    simp only
    rw [if_pos hff]
    ((repeat apply Exists.intro); first | refine ⟨H.ld (by exact ⟨rfl, rfl, rfl, rfl⟩) (by first | exact scl3 | exact scl9 | exact scl26) (by repeat first | exact .head _ | refine .tail _ ?_) rfl, ?_⟩ | refine ⟨H.ldA (by exact ⟨rfl, rfl, rfl, rfl⟩) (by first | exact agg28 | exact agg43 | exact agg64) (by repeat first | exact .head _ | refine .tail _ ?_) rfl rfl, ?_⟩)
    ((first | (apply Hp.st; (case H => first | exact H | exact H.pull1 | exact H.pull2 | exact H.pull3 | exact H.pull4 | exact H.pull5 | exact H.pull6 | exact H.pull7); (case e => exact ⟨rfl, rfl, rfl, rfl⟩); (case S => exact (by first | exact scl3 | exact scl9 | exact scl26)); (case hv => exact rfl); (case h1 => exact rfl); (case ho => exact Nat.le_of_ble_eq_true rfl); (case hc => exact rfl)) | (apply Hp.stA; (case H => first | exact H | exact H.pull1 | exact H.pull2 | exact H.pull3 | exact H.pull4 | exact H.pull5 | exact H.pull6 | exact H.pull7); (case e => exact ⟨rfl, rfl, rfl, rfl⟩); (case S => exact (by first | exact agg28 | exact agg43 | exact agg64)); (case hn => exact rfl); (case h1 => exact rfl); (case ho => exact Nat.le_of_ble_eq_true rfl); (case hc => exact rfl))); clear H; intro _ H; (try simp only [over, List.set_cons_zero, List.set_cons_succ] at H))
    ((repeat apply Exists.intro); first | refine ⟨H.ld (by exact ⟨rfl, rfl, rfl, rfl⟩) (by first | exact scl3 | exact scl9 | exact scl26) (by repeat first | exact .head _ | refine .tail _ ?_) rfl, ?_⟩ | refine ⟨H.ldA (by exact ⟨rfl, rfl, rfl, rfl⟩) (by first | exact agg28 | exact agg43 | exact agg64) (by repeat first | exact .head _ | refine .tail _ ?_) rfl rfl, ?_⟩)
    exact ⟨a, c, rfl, .inl ⟨rfl, rfl, rfl, H.done⟩⟩

theorem rdelete_spec (hL : RP L) (h : Cells w a (recC L)) (st : Int) (k : Int) :
    Calls Tryz.prog 74 #[pv a c L st, .int .i64 k] w fun e w' => ∃ a' c', e = .returned (.tuple #[pv a' c' (adel L k).1 st, .int .i64 (adel L k).2]) ∧ Res a c L w a' c' (adel L k).1 w' := by
  apply rdelete.ok
  unfold rdelete.vc
  have H := Hp.start w
  have hlen := hL.len
  (intro _ _ hn; replace H := H.new (by exact ⟨rfl, rfl, rfl, rfl⟩) hn; clear hn)
  rename_i b _
  (intro _ _ hn; replace H := H.new (by exact ⟨rfl, rfl, rfl, rfl⟩) hn; clear hn)
  rename_i b1 _
  ((repeat apply Exists.intro); first | refine ⟨H.ld (by exact ⟨rfl, rfl, rfl, rfl⟩) (by first | exact scl3 | exact scl9 | exact scl26) (by repeat first | exact .head _ | refine .tail _ ?_) rfl, ?_⟩ | refine ⟨H.ldA (by exact ⟨rfl, rfl, rfl, rfl⟩) (by first | exact agg28 | exact agg43 | exact agg64) (by repeat first | exact .head _ | refine .tail _ ?_) rfl rfl, ?_⟩)
  refine callV (rget_spec hlen (h.chg (H.go (by exact ⟨rfl, rfl, rfl, rfl⟩)).chg (by simp)) st k) ?_
  rintro e w2 ⟨rfl, H'⟩; replace H := H.ext0 H'; clear H'
  refine ⟨_, _, rfl, ?_⟩
  unfold adel
  refine br_not (fun h2 => ?_) (fun h2 => ?_)
  · rw [if_neg (by simp [h2])]
    ((repeat apply Exists.intro); first | refine ⟨H.ld (by exact ⟨rfl, rfl, rfl, rfl⟩) (by first | exact scl3 | exact scl9 | exact scl26) (by repeat first | exact .head _ | refine .tail _ ?_) rfl, ?_⟩ | refine ⟨H.ldA (by exact ⟨rfl, rfl, rfl, rfl⟩) (by first | exact agg28 | exact agg43 | exact agg64) (by repeat first | exact .head _ | refine .tail _ ?_) rfl rfl, ?_⟩)
    ((first | (apply Hp.st; (case H => first | exact H | exact H.pull1 | exact H.pull2 | exact H.pull3 | exact H.pull4 | exact H.pull5 | exact H.pull6 | exact H.pull7); (case e => exact ⟨rfl, rfl, rfl, rfl⟩); (case S => exact (by first | exact scl3 | exact scl9 | exact scl26)); (case hv => exact rfl); (case h1 => exact rfl); (case ho => exact Nat.le_of_ble_eq_true rfl); (case hc => exact rfl)) | (apply Hp.stA; (case H => first | exact H | exact H.pull1 | exact H.pull2 | exact H.pull3 | exact H.pull4 | exact H.pull5 | exact H.pull6 | exact H.pull7); (case e => exact ⟨rfl, rfl, rfl, rfl⟩); (case S => exact (by first | exact agg28 | exact agg43 | exact agg64)); (case hn => exact rfl); (case h1 => exact rfl); (case ho => exact Nat.le_of_ble_eq_true rfl); (case hc => exact rfl))); clear H; intro _ H; (try simp only [over, List.set_cons_zero, List.set_cons_succ] at H))
    ((repeat apply Exists.intro); first | refine ⟨H.ld (by exact ⟨rfl, rfl, rfl, rfl⟩) (by first | exact scl3 | exact scl9 | exact scl26) (by repeat first | exact .head _ | refine .tail _ ?_) rfl, ?_⟩ | refine ⟨H.ldA (by exact ⟨rfl, rfl, rfl, rfl⟩) (by first | exact agg28 | exact agg43 | exact agg64) (by repeat first | exact .head _ | refine .tail _ ?_) rfl rfl, ?_⟩)
    exact ⟨a, c, rfl, .inl ⟨rfl, rfl, rfl, H.done⟩⟩
  · rw [if_pos h2]
    rcases lk_cases (L := L) k with ⟨h3, _⟩ | ⟨K, s, rfl, h3, h4⟩
    · rw [h3] at h2; cases h2
    rw [Int.toNat_natCast]
    ((repeat apply Exists.intro); first | refine ⟨H.ld (by exact ⟨rfl, rfl, rfl, rfl⟩) (by first | exact scl3 | exact scl9 | exact scl26) (by repeat first | exact .head _ | refine .tail _ ?_) rfl, ?_⟩ | refine ⟨H.ldA (by exact ⟨rfl, rfl, rfl, rfl⟩) (by first | exact agg28 | exact agg43 | exact agg64) (by repeat first | exact .head _ | refine .tail _ ?_) rfl rfl, ?_⟩)
    refine callV (without_spec hlen (h.chg (H.go (by exact ⟨rfl, rfl, rfl, rfl⟩)).chg (by simp)) K) ?_
    rintro e w3 ⟨a3, c3, rfl, H'⟩; replace H := H.ext1 H'; clear H'
    refine ⟨_, _, _, rfl, ?_⟩
    replace H := H.pull2
    ((first | (apply Hp.st; (case H => first | exact H | exact H.pull1 | exact H.pull2 | exact H.pull3 | exact H.pull4 | exact H.pull5 | exact H.pull6 | exact H.pull7); (case e => exact ⟨rfl, rfl, rfl, rfl⟩); (case S => exact (by first | exact scl3 | exact scl9 | exact scl26)); (case hv => exact rfl); (case h1 => exact rfl); (case ho => exact Nat.le_of_ble_eq_true rfl); (case hc => exact rfl)) | (apply Hp.stA; (case H => first | exact H | exact H.pull1 | exact H.pull2 | exact H.pull3 | exact H.pull4 | exact H.pull5 | exact H.pull6 | exact H.pull7); (case e => exact ⟨rfl, rfl, rfl, rfl⟩); (case S => exact (by first | exact agg28 | exact agg43 | exact agg64)); (case hn => exact rfl); (case h1 => exact rfl); (case ho => exact Nat.le_of_ble_eq_true rfl); (case hc => exact rfl))); clear H; intro _ H; (try simp only [over, List.set_cons_zero, List.set_cons_succ] at H))
    ((repeat apply Exists.intro); first | refine ⟨H.ld (by exact ⟨rfl, rfl, rfl, rfl⟩) (by first | exact scl3 | exact scl9 | exact scl26) (by repeat first | exact .head _ | refine .tail _ ?_) rfl, ?_⟩ | refine ⟨H.ldA (by exact ⟨rfl, rfl, rfl, rfl⟩) (by first | exact agg28 | exact agg43 | exact agg64) (by repeat first | exact .head _ | refine .tail _ ?_) rfl rfl, ?_⟩)
    ((first | (apply Hp.st; (case H => first | exact H | exact H.pull1 | exact H.pull2 | exact H.pull3 | exact H.pull4 | exact H.pull5 | exact H.pull6 | exact H.pull7); (case e => exact ⟨rfl, rfl, rfl, rfl⟩); (case S => exact (by first | exact scl3 | exact scl9 | exact scl26)); (case hv => exact rfl); (case h1 => exact rfl); (case ho => exact Nat.le_of_ble_eq_true rfl); (case hc => exact rfl)) | (apply Hp.stA; (case H => first | exact H | exact H.pull1 | exact H.pull2 | exact H.pull3 | exact H.pull4 | exact H.pull5 | exact H.pull6 | exact H.pull7); (case e => exact ⟨rfl, rfl, rfl, rfl⟩); (case S => exact (by first | exact agg28 | exact agg43 | exact agg64)); (case hn => exact rfl); (case h1 => exact rfl); (case ho => exact Nat.le_of_ble_eq_true rfl); (case hc => exact rfl))); clear H; intro _ H; (try simp only [over, List.set_cons_zero, List.set_cons_succ] at H))
    ((repeat apply Exists.intro); first | refine ⟨H.ld (by exact ⟨rfl, rfl, rfl, rfl⟩) (by first | exact scl3 | exact scl9 | exact scl26) (by repeat first | exact .head _ | refine .tail _ ?_) rfl, ?_⟩ | refine ⟨H.ldA (by exact ⟨rfl, rfl, rfl, rfl⟩) (by first | exact agg28 | exact agg43 | exact agg64) (by repeat first | exact .head _ | refine .tail _ ?_) rfl rfl, ?_⟩)
    exact ⟨a3, c3, rfl, .inr (H.one (x := pO a3 c3 (wo L K)) (by repeat first | exact .head _ | refine .tail _ ?_))⟩

structure Op' where
  kind : Int
  slot : Int
  n : Int
  s : List UInt8
def opv (o : Op') : Value := .agg #[.int .i64 o.kind, .int .i64 o.slot, .int .i64 o.n, sv o.s]
/-- what a call does: the records, the stamp, the slot that is told, the error -/
def ado (L : Recs) (st : Nat) (o : Op') : Recs × Nat × Int × Int :=
  if o.kind = 0 then ((ains L o.s).1, st, (ains L o.s).2.1, (ains L o.s).2.2)
  else if o.kind = 1 then ((aput L o.slot o.s).1, st, 0, (aput L o.slot o.s).2)
  else if o.kind = 2 then ((adel L o.slot).1, st, 0, (adel L o.slot).2)
  else if o.kind = 3 then (L, astamp st o.n, 0, if okStamp o.n then 0 else 1)
  else (L, st, 0, 0)
set_option maxHeartbeats 1000000 in
theorem rdo_spec (hL : RP L) (h : Cells w a (recC L)) (st : Nat) (o : Op') :
    Calls Tryz.prog 44 #[pv a c L st, opv o] w fun e w' => ∃ a' c', e = .returned (.tuple #[pv a' c' (ado L st o).1 (ado L st o).2.1, .int .i64 (ado L st o).2.2.1, .int .i64 (ado L st o).2.2.2]) ∧ Res a c L w a' c' (ado L st o).1 w' := by
  obtain ⟨kind, slot, n, s⟩ := o
  apply rdo.ok
  unfold rdo.vc
  have H := Hp.start w
  have hlen := hL.len
  unfold ado
  simp only
  (intro _ _ hn; replace H := H.new (by exact ⟨rfl, rfl, rfl, rfl⟩) hn; clear hn)
  rename_i b _
  (intro _ _ hn; replace H := H.new (by exact ⟨rfl, rfl, rfl, rfl⟩) hn; clear hn)
  rename_i b1 _
  (intro _ _ hn; replace H := H.new (by exact ⟨rfl, rfl, rfl, rfl⟩) hn; clear hn)
  rename_i b2 _
  ((repeat apply Exists.intro); first | refine ⟨H.ld (by exact ⟨rfl, rfl, rfl, rfl⟩) (by first | exact scl3 | exact scl9 | exact scl26) (by repeat first | exact .head _ | refine .tail _ ?_) rfl, ?_⟩ | refine ⟨H.ldA (by exact ⟨rfl, rfl, rfl, rfl⟩) (by first | exact agg28 | exact agg43 | exact agg64) (by repeat first | exact .head _ | refine .tail _ ?_) rfl rfl, ?_⟩)
  refine br_dec (fun h1 => ?_) (fun h1 => br_dec (fun h2 => ?_) (fun h2 => br_dec (fun h3 => ?_) (fun h3 => br_dec (fun h4 => ?_) (fun h4 => ?_))))
  · rw [if_pos h1]
    ((repeat apply Exists.intro); first | refine ⟨H.ld (by exact ⟨rfl, rfl, rfl, rfl⟩) (by first | exact scl3 | exact scl9 | exact scl26) (by repeat first | exact .head _ | refine .tail _ ?_) rfl, ?_⟩ | refine ⟨H.ldA (by exact ⟨rfl, rfl, rfl, rfl⟩) (by first | exact agg28 | exact agg43 | exact agg64) (by repeat first | exact .head _ | refine .tail _ ?_) rfl rfl, ?_⟩)
    ((repeat apply Exists.intro); first | refine ⟨H.ld (by exact ⟨rfl, rfl, rfl, rfl⟩) (by first | exact scl3 | exact scl9 | exact scl26) (by repeat first | exact .head _ | refine .tail _ ?_) rfl, ?_⟩ | refine ⟨H.ldA (by exact ⟨rfl, rfl, rfl, rfl⟩) (by first | exact agg28 | exact agg43 | exact agg64) (by repeat first | exact .head _ | refine .tail _ ?_) rfl rfl, ?_⟩)
    refine callV (rinsert_spec hL (h.chg (H.go (by exact ⟨rfl, rfl, rfl, rfl⟩)).chg (by simp)) st s) ?_
    rintro e w3 ⟨a3, c3, rfl, H'⟩
    obtain ⟨T, H, hT⟩ := H'.out H; clear H'
    simp only [List.cons_append, List.nil_append] at H
    refine ⟨_, _, _, _, _, _, rfl, ?_⟩
    ((first | (apply Hp.st; (case H => first | exact H | exact H.pull1 | exact H.pull2 | exact H.pull3 | exact H.pull4 | exact H.pull5 | exact H.pull6 | exact H.pull7); (case e => exact ⟨rfl, rfl, rfl, rfl⟩); (case S => exact (by first | exact scl3 | exact scl9 | exact scl26)); (case hv => exact rfl); (case h1 => exact rfl); (case ho => exact Nat.le_of_ble_eq_true rfl); (case hc => exact rfl)) | (apply Hp.stA; (case H => first | exact H | exact H.pull1 | exact H.pull2 | exact H.pull3 | exact H.pull4 | exact H.pull5 | exact H.pull6 | exact H.pull7); (case e => exact ⟨rfl, rfl, rfl, rfl⟩); (case S => exact (by first | exact agg28 | exact agg43 | exact agg64)); (case hn => exact rfl); (case h1 => exact rfl); (case ho => exact Nat.le_of_ble_eq_true rfl); (case hc => exact rfl))); clear H; intro _ H; (try simp only [over, List.set_cons_zero, List.set_cons_succ] at H))
    ((repeat apply Exists.intro); first | refine ⟨H.ld (by exact ⟨rfl, rfl, rfl, rfl⟩) (by first | exact scl3 | exact scl9 | exact scl26) (by repeat first | exact .head _ | refine .tail _ ?_) rfl, ?_⟩ | refine ⟨H.ldA (by exact ⟨rfl, rfl, rfl, rfl⟩) (by first | exact agg28 | exact agg43 | exact agg64) (by repeat first | exact .head _ | refine .tail _ ?_) rfl rfl, ?_⟩)
    exact ⟨a3, c3, rfl, Res.into hT H (fun e => by subst e; exact H.one (x := pO a3 c3 _) (by repeat first | exact .head _ | refine .tail _ ?_))⟩
  · rw [if_neg h1, if_pos h2]
    ((repeat apply Exists.intro); first | refine ⟨H.ld (by exact ⟨rfl, rfl, rfl, rfl⟩) (by first | exact scl3 | exact scl9 | exact scl26) (by repeat first | exact .head _ | refine .tail _ ?_) rfl, ?_⟩ | refine ⟨H.ldA (by exact ⟨rfl, rfl, rfl, rfl⟩) (by first | exact agg28 | exact agg43 | exact agg64) (by repeat first | exact .head _ | refine .tail _ ?_) rfl rfl, ?_⟩)
    ((repeat apply Exists.intro); first | refine ⟨H.ld (by exact ⟨rfl, rfl, rfl, rfl⟩) (by first | exact scl3 | exact scl9 | exact scl26) (by repeat first | exact .head _ | refine .tail _ ?_) rfl, ?_⟩ | refine ⟨H.ldA (by exact ⟨rfl, rfl, rfl, rfl⟩) (by first | exact agg28 | exact agg43 | exact agg64) (by repeat first | exact .head _ | refine .tail _ ?_) rfl rfl, ?_⟩)
    ((repeat apply Exists.intro); first | refine ⟨H.ld (by exact ⟨rfl, rfl, rfl, rfl⟩) (by first | exact scl3 | exact scl9 | exact scl26) (by repeat first | exact .head _ | refine .tail _ ?_) rfl, ?_⟩ | refine ⟨H.ldA (by exact ⟨rfl, rfl, rfl, rfl⟩) (by first | exact agg28 | exact agg43 | exact agg64) (by repeat first | exact .head _ | refine .tail _ ?_) rfl rfl, ?_⟩)
    refine callV (rput_spec hL (h.chg (H.go (by exact ⟨rfl, rfl, rfl, rfl⟩)).chg (by simp)) st slot s) ?_
    rintro e w3 ⟨a3, c3, rfl, hsam, H'⟩
    obtain ⟨T, H, hT⟩ := H'.out H; clear H'
    simp only [List.cons_append, List.nil_append] at H
    refine ⟨_, _, _, _, _, rfl, ?_⟩
    (intro _ _ hn; replace H := H.new (by exact ⟨rfl, rfl, rfl, rfl⟩) hn; clear hn)
    ((first | (apply Hp.st; (case H => first | exact H | exact H.pull1 | exact H.pull2 | exact H.pull3 | exact H.pull4 | exact H.pull5 | exact H.pull6 | exact H.pull7); (case e => exact ⟨rfl, rfl, rfl, rfl⟩); (case S => exact (by first | exact scl3 | exact scl9 | exact scl26)); (case hv => exact rfl); (case h1 => exact rfl); (case ho => exact Nat.le_of_ble_eq_true rfl); (case hc => exact rfl)) | (apply Hp.stA; (case H => first | exact H | exact H.pull1 | exact H.pull2 | exact H.pull3 | exact H.pull4 | exact H.pull5 | exact H.pull6 | exact H.pull7); (case e => exact ⟨rfl, rfl, rfl, rfl⟩); (case S => exact (by first | exact agg28 | exact agg43 | exact agg64)); (case hn => exact rfl); (case h1 => exact rfl); (case ho => exact Nat.le_of_ble_eq_true rfl); (case hc => exact rfl))); clear H; intro _ H; (try simp only [over, List.set_cons_zero, List.set_cons_succ] at H))
    ((repeat apply Exists.intro); first | refine ⟨H.ld (by exact ⟨rfl, rfl, rfl, rfl⟩) (by first | exact scl3 | exact scl9 | exact scl26) (by repeat first | exact .head _ | refine .tail _ ?_) rfl, ?_⟩ | refine ⟨H.ldA (by exact ⟨rfl, rfl, rfl, rfl⟩) (by first | exact agg28 | exact agg43 | exact agg64) (by repeat first | exact .head _ | refine .tail _ ?_) rfl rfl, ?_⟩)
    ((first | (apply Hp.st; (case H => first | exact H | exact H.pull1 | exact H.pull2 | exact H.pull3 | exact H.pull4 | exact H.pull5 | exact H.pull6 | exact H.pull7); (case e => exact ⟨rfl, rfl, rfl, rfl⟩); (case S => exact (by first | exact scl3 | exact scl9 | exact scl26)); (case hv => exact rfl); (case h1 => exact rfl); (case ho => exact Nat.le_of_ble_eq_true rfl); (case hc => exact rfl)) | (apply Hp.stA; (case H => first | exact H | exact H.pull1 | exact H.pull2 | exact H.pull3 | exact H.pull4 | exact H.pull5 | exact H.pull6 | exact H.pull7); (case e => exact ⟨rfl, rfl, rfl, rfl⟩); (case S => exact (by first | exact agg28 | exact agg43 | exact agg64)); (case hn => exact rfl); (case h1 => exact rfl); (case ho => exact Nat.le_of_ble_eq_true rfl); (case hc => exact rfl))); clear H; intro _ H; (try simp only [over, List.set_cons_zero, List.set_cons_succ] at H))
    ((repeat apply Exists.intro); first | refine ⟨H.ld (by exact ⟨rfl, rfl, rfl, rfl⟩) (by first | exact scl3 | exact scl9 | exact scl26) (by repeat first | exact .head _ | refine .tail _ ?_) rfl, ?_⟩ | refine ⟨H.ldA (by exact ⟨rfl, rfl, rfl, rfl⟩) (by first | exact agg28 | exact agg43 | exact agg64) (by repeat first | exact .head _ | refine .tail _ ?_) rfl rfl, ?_⟩)
    exact ⟨a3, c3, rfl, Res.into hT H (fun e => by subst e; exact H.one (x := pO a3 c3 _) (by repeat first | exact .head _ | refine .tail _ ?_))⟩
  · rw [if_neg h1, if_neg h2, if_pos h3]
    ((repeat apply Exists.intro); first | refine ⟨H.ld (by exact ⟨rfl, rfl, rfl, rfl⟩) (by first | exact scl3 | exact scl9 | exact scl26) (by repeat first | exact .head _ | refine .tail _ ?_) rfl, ?_⟩ | refine ⟨H.ldA (by exact ⟨rfl, rfl, rfl, rfl⟩) (by first | exact agg28 | exact agg43 | exact agg64) (by repeat first | exact .head _ | refine .tail _ ?_) rfl rfl, ?_⟩)
    ((repeat apply Exists.intro); first | refine ⟨H.ld (by exact ⟨rfl, rfl, rfl, rfl⟩) (by first | exact scl3 | exact scl9 | exact scl26) (by repeat first | exact .head _ | refine .tail _ ?_) rfl, ?_⟩ | refine ⟨H.ldA (by exact ⟨rfl, rfl, rfl, rfl⟩) (by first | exact agg28 | exact agg43 | exact agg64) (by repeat first | exact .head _ | refine .tail _ ?_) rfl rfl, ?_⟩)
    refine callV (rdelete_spec hL (h.chg (H.go (by exact ⟨rfl, rfl, rfl, rfl⟩)).chg (by simp)) st slot) ?_
    rintro e w3 ⟨a3, c3, rfl, H'⟩
    obtain ⟨T, H, hT⟩ := H'.out H; clear H'
    simp only [List.cons_append, List.nil_append] at H
    refine ⟨_, _, _, _, _, rfl, ?_⟩
    (intro _ _ hn; replace H := H.new (by exact ⟨rfl, rfl, rfl, rfl⟩) hn; clear hn)
    ((first | (apply Hp.st; (case H => first | exact H | exact H.pull1 | exact H.pull2 | exact H.pull3 | exact H.pull4 | exact H.pull5 | exact H.pull6 | exact H.pull7); (case e => exact ⟨rfl, rfl, rfl, rfl⟩); (case S => exact (by first | exact scl3 | exact scl9 | exact scl26)); (case hv => exact rfl); (case h1 => exact rfl); (case ho => exact Nat.le_of_ble_eq_true rfl); (case hc => exact rfl)) | (apply Hp.stA; (case H => first | exact H | exact H.pull1 | exact H.pull2 | exact H.pull3 | exact H.pull4 | exact H.pull5 | exact H.pull6 | exact H.pull7); (case e => exact ⟨rfl, rfl, rfl, rfl⟩); (case S => exact (by first | exact agg28 | exact agg43 | exact agg64)); (case hn => exact rfl); (case h1 => exact rfl); (case ho => exact Nat.le_of_ble_eq_true rfl); (case hc => exact rfl))); clear H; intro _ H; (try simp only [over, List.set_cons_zero, List.set_cons_succ] at H))
    ((repeat apply Exists.intro); first | refine ⟨H.ld (by exact ⟨rfl, rfl, rfl, rfl⟩) (by first | exact scl3 | exact scl9 | exact scl26) (by repeat first | exact .head _ | refine .tail _ ?_) rfl, ?_⟩ | refine ⟨H.ldA (by exact ⟨rfl, rfl, rfl, rfl⟩) (by first | exact agg28 | exact agg43 | exact agg64) (by repeat first | exact .head _ | refine .tail _ ?_) rfl rfl, ?_⟩)
    ((first | (apply Hp.st; (case H => first | exact H | exact H.pull1 | exact H.pull2 | exact H.pull3 | exact H.pull4 | exact H.pull5 | exact H.pull6 | exact H.pull7); (case e => exact ⟨rfl, rfl, rfl, rfl⟩); (case S => exact (by first | exact scl3 | exact scl9 | exact scl26)); (case hv => exact rfl); (case h1 => exact rfl); (case ho => exact Nat.le_of_ble_eq_true rfl); (case hc => exact rfl)) | (apply Hp.stA; (case H => first | exact H | exact H.pull1 | exact H.pull2 | exact H.pull3 | exact H.pull4 | exact H.pull5 | exact H.pull6 | exact H.pull7); (case e => exact ⟨rfl, rfl, rfl, rfl⟩); (case S => exact (by first | exact agg28 | exact agg43 | exact agg64)); (case hn => exact rfl); (case h1 => exact rfl); (case ho => exact Nat.le_of_ble_eq_true rfl); (case hc => exact rfl))); clear H; intro _ H; (try simp only [over, List.set_cons_zero, List.set_cons_succ] at H))
    ((repeat apply Exists.intro); first | refine ⟨H.ld (by exact ⟨rfl, rfl, rfl, rfl⟩) (by first | exact scl3 | exact scl9 | exact scl26) (by repeat first | exact .head _ | refine .tail _ ?_) rfl, ?_⟩ | refine ⟨H.ldA (by exact ⟨rfl, rfl, rfl, rfl⟩) (by first | exact agg28 | exact agg43 | exact agg64) (by repeat first | exact .head _ | refine .tail _ ?_) rfl rfl, ?_⟩)
    exact ⟨a3, c3, rfl, Res.into hT H (fun e => by subst e; exact H.one (x := pO a3 c3 _) (by repeat first | exact .head _ | refine .tail _ ?_))⟩
  · rw [if_neg h1, if_neg h2, if_neg h3, if_pos h4]
    simp only
    ((repeat apply Exists.intro); first | refine ⟨H.ld (by exact ⟨rfl, rfl, rfl, rfl⟩) (by first | exact scl3 | exact scl9 | exact scl26) (by repeat first | exact .head _ | refine .tail _ ?_) rfl, ?_⟩ | refine ⟨H.ldA (by exact ⟨rfl, rfl, rfl, rfl⟩) (by first | exact agg28 | exact agg43 | exact agg64) (by repeat first | exact .head _ | refine .tail _ ?_) rfl rfl, ?_⟩)
    refine br_dec (fun h5 => ?_) (fun h5 => ?_)
    · have hno : ¬ okStamp n := fun hh => by have := hh.1; omega
      rw [astamp, if_neg hno, if_neg hno]
      ((repeat apply Exists.intro); first | refine ⟨H.ld (by exact ⟨rfl, rfl, rfl, rfl⟩) (by first | exact scl3 | exact scl9 | exact scl26) (by repeat first | exact .head _ | refine .tail _ ?_) rfl, ?_⟩ | refine ⟨H.ldA (by exact ⟨rfl, rfl, rfl, rfl⟩) (by first | exact agg28 | exact agg43 | exact agg64) (by repeat first | exact .head _ | refine .tail _ ?_) rfl rfl, ?_⟩)
      ((first | (apply Hp.st; (case H => first | exact H | exact H.pull1 | exact H.pull2 | exact H.pull3 | exact H.pull4 | exact H.pull5 | exact H.pull6 | exact H.pull7); (case e => exact ⟨rfl, rfl, rfl, rfl⟩); (case S => exact (by first | exact scl3 | exact scl9 | exact scl26)); (case hv => exact rfl); (case h1 => exact rfl); (case ho => exact Nat.le_of_ble_eq_true rfl); (case hc => exact rfl)) | (apply Hp.stA; (case H => first | exact H | exact H.pull1 | exact H.pull2 | exact H.pull3 | exact H.pull4 | exact H.pull5 | exact H.pull6 | exact H.pull7); (case e => exact ⟨rfl, rfl, rfl, rfl⟩); (case S => exact (by first | exact agg28 | exact agg43 | exact agg64)); (case hn => exact rfl); (case h1 => exact rfl); (case ho => exact Nat.le_of_ble_eq_true rfl); (case hc => exact rfl))); clear H; intro _ H; (try simp only [over, List.set_cons_zero, List.set_cons_succ] at H))
      ((repeat apply Exists.intro); first | refine ⟨H.ld (by exact ⟨rfl, rfl, rfl, rfl⟩) (by first | exact scl3 | exact scl9 | exact scl26) (by repeat first | exact .head _ | refine .tail _ ?_) rfl, ?_⟩ | refine ⟨H.ldA (by exact ⟨rfl, rfl, rfl, rfl⟩) (by first | exact agg28 | exact agg43 | exact agg64) (by repeat first | exact .head _ | refine .tail _ ?_) rfl rfl, ?_⟩)
      exact ⟨a, c, rfl, .inl ⟨rfl, rfl, rfl, H.done⟩⟩
    · ((repeat apply Exists.intro); first | refine ⟨H.ld (by exact ⟨rfl, rfl, rfl, rfl⟩) (by first | exact scl3 | exact scl9 | exact scl26) (by repeat first | exact .head _ | refine .tail _ ?_) rfl, ?_⟩ | refine ⟨H.ldA (by exact ⟨rfl, rfl, rfl, rfl⟩) (by first | exact agg28 | exact agg43 | exact agg64) (by repeat first | exact .head _ | refine .tail _ ?_) rfl rfl, ?_⟩)
      refine br_dec (fun h6 => ?_) (fun h6 => ?_)
      · have hno : ¬ okStamp n := fun hh => by have := hh.2; omega
        rw [astamp, if_neg hno, if_neg hno]
        ((repeat apply Exists.intro); first | refine ⟨H.ld (by exact ⟨rfl, rfl, rfl, rfl⟩) (by first | exact scl3 | exact scl9 | exact scl26) (by repeat first | exact .head _ | refine .tail _ ?_) rfl, ?_⟩ | refine ⟨H.ldA (by exact ⟨rfl, rfl, rfl, rfl⟩) (by first | exact agg28 | exact agg43 | exact agg64) (by repeat first | exact .head _ | refine .tail _ ?_) rfl rfl, ?_⟩)
        ((first | (apply Hp.st; (case H => first | exact H | exact H.pull1 | exact H.pull2 | exact H.pull3 | exact H.pull4 | exact H.pull5 | exact H.pull6 | exact H.pull7); (case e => exact ⟨rfl, rfl, rfl, rfl⟩); (case S => exact (by first | exact scl3 | exact scl9 | exact scl26)); (case hv => exact rfl); (case h1 => exact rfl); (case ho => exact Nat.le_of_ble_eq_true rfl); (case hc => exact rfl)) | (apply Hp.stA; (case H => first | exact H | exact H.pull1 | exact H.pull2 | exact H.pull3 | exact H.pull4 | exact H.pull5 | exact H.pull6 | exact H.pull7); (case e => exact ⟨rfl, rfl, rfl, rfl⟩); (case S => exact (by first | exact agg28 | exact agg43 | exact agg64)); (case hn => exact rfl); (case h1 => exact rfl); (case ho => exact Nat.le_of_ble_eq_true rfl); (case hc => exact rfl))); clear H; intro _ H; (try simp only [over, List.set_cons_zero, List.set_cons_succ] at H))
        ((repeat apply Exists.intro); first | refine ⟨H.ld (by exact ⟨rfl, rfl, rfl, rfl⟩) (by first | exact scl3 | exact scl9 | exact scl26) (by repeat first | exact .head _ | refine .tail _ ?_) rfl, ?_⟩ | refine ⟨H.ldA (by exact ⟨rfl, rfl, rfl, rfl⟩) (by first | exact agg28 | exact agg43 | exact agg64) (by repeat first | exact .head _ | refine .tail _ ?_) rfl rfl, ?_⟩)
        exact ⟨a, c, rfl, .inl ⟨rfl, rfl, rfl, H.done⟩⟩
      · have hno : okStamp n := ⟨by omega, by omega⟩
        rw [astamp, if_pos hno, if_pos hno, show ((n.toNat : Nat) : Int) = n by omega]
        ((repeat apply Exists.intro); first | refine ⟨H.ld (by exact ⟨rfl, rfl, rfl, rfl⟩) (by first | exact scl3 | exact scl9 | exact scl26) (by repeat first | exact .head _ | refine .tail _ ?_) rfl, ?_⟩ | refine ⟨H.ldA (by exact ⟨rfl, rfl, rfl, rfl⟩) (by first | exact agg28 | exact agg43 | exact agg64) (by repeat first | exact .head _ | refine .tail _ ?_) rfl rfl, ?_⟩)
        replace H := H.pull2
        ((first | (apply Hp.st; (case H => first | exact H | exact H.pull1 | exact H.pull2 | exact H.pull3 | exact H.pull4 | exact H.pull5 | exact H.pull6 | exact H.pull7); (case e => exact ⟨rfl, rfl, rfl, rfl⟩); (case S => exact (by first | exact scl3 | exact scl9 | exact scl26)); (case hv => exact rfl); (case h1 => exact rfl); (case ho => exact Nat.le_of_ble_eq_true rfl); (case hc => exact rfl)) | (apply Hp.stA; (case H => first | exact H | exact H.pull1 | exact H.pull2 | exact H.pull3 | exact H.pull4 | exact H.pull5 | exact H.pull6 | exact H.pull7); (case e => exact ⟨rfl, rfl, rfl, rfl⟩); (case S => exact (by first | exact agg28 | exact agg43 | exact agg64)); (case hn => exact rfl); (case h1 => exact rfl); (case ho => exact Nat.le_of_ble_eq_true rfl); (case hc => exact rfl))); clear H; intro _ H; (try simp only [over, List.set_cons_zero, List.set_cons_succ] at H))
        ((repeat apply Exists.intro); first | refine ⟨H.ld (by exact ⟨rfl, rfl, rfl, rfl⟩) (by first | exact scl3 | exact scl9 | exact scl26) (by repeat first | exact .head _ | refine .tail _ ?_) rfl, ?_⟩ | refine ⟨H.ldA (by exact ⟨rfl, rfl, rfl, rfl⟩) (by first | exact agg28 | exact agg43 | exact agg64) (by repeat first | exact .head _ | refine .tail _ ?_) rfl rfl, ?_⟩)
        ((first | (apply Hp.st; (case H => first | exact H | exact H.pull1 | exact H.pull2 | exact H.pull3 | exact H.pull4 | exact H.pull5 | exact H.pull6 | exact H.pull7); (case e => exact ⟨rfl, rfl, rfl, rfl⟩); (case S => exact (by first | exact scl3 | exact scl9 | exact scl26)); (case hv => exact rfl); (case h1 => exact rfl); (case ho => exact Nat.le_of_ble_eq_true rfl); (case hc => exact rfl)) | (apply Hp.stA; (case H => first | exact H | exact H.pull1 | exact H.pull2 | exact H.pull3 | exact H.pull4 | exact H.pull5 | exact H.pull6 | exact H.pull7); (case e => exact ⟨rfl, rfl, rfl, rfl⟩); (case S => exact (by first | exact agg28 | exact agg43 | exact agg64)); (case hn => exact rfl); (case h1 => exact rfl); (case ho => exact Nat.le_of_ble_eq_true rfl); (case hc => exact rfl))); clear H; intro _ H; (try simp only [over, List.set_cons_zero, List.set_cons_succ] at H))
        ((repeat apply Exists.intro); first | refine ⟨H.ld (by exact ⟨rfl, rfl, rfl, rfl⟩) (by first | exact scl3 | exact scl9 | exact scl26) (by repeat first | exact .head _ | refine .tail _ ?_) rfl, ?_⟩ | refine ⟨H.ldA (by exact ⟨rfl, rfl, rfl, rfl⟩) (by first | exact agg28 | exact agg43 | exact agg64) (by repeat first | exact .head _ | refine .tail _ ?_) rfl rfl, ?_⟩)
        exact ⟨a, c, rfl, .inl ⟨rfl, rfl, rfl, H.done⟩⟩
  · rw [if_neg h1, if_neg h2, if_neg h3, if_neg h4]
    ((repeat apply Exists.intro); first | refine ⟨H.ld (by exact ⟨rfl, rfl, rfl, rfl⟩) (by first | exact scl3 | exact scl9 | exact scl26) (by repeat first | exact .head _ | refine .tail _ ?_) rfl, ?_⟩ | refine ⟨H.ldA (by exact ⟨rfl, rfl, rfl, rfl⟩) (by first | exact agg28 | exact agg43 | exact agg64) (by repeat first | exact .head _ | refine .tail _ ?_) rfl rfl, ?_⟩)
    ((first | (apply Hp.st; (case H => first | exact H | exact H.pull1 | exact H.pull2 | exact H.pull3 | exact H.pull4 | exact H.pull5 | exact H.pull6 | exact H.pull7); (case e => exact ⟨rfl, rfl, rfl, rfl⟩); (case S => exact (by first | exact scl3 | exact scl9 | exact scl26)); (case hv => exact rfl); (case h1 => exact rfl); (case ho => exact Nat.le_of_ble_eq_true rfl); (case hc => exact rfl)) | (apply Hp.stA; (case H => first | exact H | exact H.pull1 | exact H.pull2 | exact H.pull3 | exact H.pull4 | exact H.pull5 | exact H.pull6 | exact H.pull7); (case e => exact ⟨rfl, rfl, rfl, rfl⟩); (case S => exact (by first | exact agg28 | exact agg43 | exact agg64)); (case hn => exact rfl); (case h1 => exact rfl); (case ho => exact Nat.le_of_ble_eq_true rfl); (case hc => exact rfl))); clear H; intro _ H; (try simp only [over, List.set_cons_zero, List.set_cons_succ] at H))
    ((repeat apply Exists.intro); first | refine ⟨H.ld (by exact ⟨rfl, rfl, rfl, rfl⟩) (by first | exact scl3 | exact scl9 | exact scl26) (by repeat first | exact .head _ | refine .tail _ ?_) rfl, ?_⟩ | refine ⟨H.ldA (by exact ⟨rfl, rfl, rfl, rfl⟩) (by first | exact agg28 | exact agg43 | exact agg64) (by repeat first | exact .head _ | refine .tail _ ?_) rfl rfl, ?_⟩)
    exact ⟨a, c, rfl, .inl ⟨rfl, rfl, rfl, H.done⟩⟩
end
end Go.Proofs.YtiagjabdfppgkaaGreat.Sl
