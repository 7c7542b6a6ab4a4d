/- Redo: a log is opened; what it tells. -/
import Derived.Test.YtjbopmbffajknaaRh
set_option linter.unusedVariables false
set_option linter.unusedSimpArgs false
set_option maxRecDepth 100000
namespace Go.Proofs.Ytjbopmbffajknaa
open Go Go.Vc Go.Vault Go.Redo

def lgT (y : LW) (l : Lg) : Asn := .own 9 1 y.ta l.all.length y.tc (l.all.map .string)
def lgB (y : LW) (l : Lg) : Asn := .own 5 1 y.ba l.b.length y.bc (bcells l.b)
def OpenPost (x : DW) (d : Dk) (name : ByteArray) (w : World) (r : Dk × Int × Lg) (e : Ending) (w' : World) : Prop := ∃ x' : DW, x'.b = x.b ∧ x'.Ok r.1 ∧
  ((r.2.1 ≠ 0 ∧ e = .returned (.tuple #[.pointer none, .int .i64 r.2.1]) ∧ Hp (feet (dkL x d)) w w' (dkL x' r.1)) ∨
   (r.2.1 = 0 ∧ ∃ (y : LW) (LB : List Asn), e = .returned (.tuple #[.pointer (some ⟨y.b, 0, none⟩), .int .i64 0]) ∧ (¬ 2 ≤ d.size name → LB = [lgB y r.2.2]) ∧ Hp (feet (dkL x d)) w w' (lgA y x.b r.2.2 :: lgT y r.2.2 :: (LB ++ dkL x' r.1))))
theorem size0 {n : ByteArray} : n = ByteArray.mk #[] ↔ n.size = 0 := by
  constructor
  · rintro rfl; rfl
  · intro h
    obtain ⟨a⟩ := n
    exact congrArg ByteArray.mk (Array.eq_empty_of_size_eq_zero h)
set_option maxHeartbeats 1000000 in
theorem open_spec (x : DW) (d : Dk) (hok : x.Ok d) {N : Nat} (fit : d.Fit N) (hN : N ≤ 400000) (name : ByteArray) (w : World) (st : Std w (dkL x d)) :
    Calls Go.Proofs.Try.prog 11 #[.pointer (some ⟨x.b, 0, none⟩), .string name] w (OpenPost x d name w (openP d name)) := by
  apply open_.ok; unfold open_.vc OpenPost
  have H := Hp.startL st
  generalize hB : feet (dkL x d) = B at H ⊢
  intro b w1 hn; replace H := H.new (cs := lgC ⟨b, none, 0, none, 0⟩ x.b (Lg.none name)) (by exact ⟨rfl, rfl, rfl, rfl⟩) hn; clear hn
  refine callV (dead_spec x d w1 H.drop.std) ?_
  rintro e w2 ⟨rfl, H'⟩
  replace H := H.ext0 H'; clear H'
  refine ⟨_, rfl, ?_⟩
  refine br_mk (fun h => ?_) (fun h => ?_)
  · have e1 : openP d name = (d, 93, Lg.none name) := by simp [openP, h]
    rw [e1]
    exact ⟨x, rfl, hok, .inl ⟨by simp, rfl, H.drop⟩⟩
  have e0 : openP d name = if name.size = 0 ∨ 56 < name.size then (d, 92, Lg.none name) else if 2 ≤ d.size name then (d, findP d name) else ((drenew d name []).1, (drenew d name []).2, (Lg.none name).anew []) := by simp [openP, h]
  rw [e0]
  refine br_dec (fun h1 => ?_) (fun h1 => ?_)
  · rw [if_pos (.inl (size0.1 h1))]
    exact ⟨x, rfl, hok, .inl ⟨by simp, rfl, H.drop⟩⟩
  refine br_dec (fun h2 => ?_) (fun h2 => ?_)
  · rw [if_pos (.inr (by omega))]
    exact ⟨x, rfl, hok, .inl ⟨by simp, rfl, H.drop⟩⟩
  rw [if_neg (fun h3 => h3.elim (fun h4 => h1 (size0.2 h4)) (fun h4 => by omega))]
  refine callV (size_spec x d hok name w2 H.drop.std) ?_
  rintro e w3 ⟨rfl, H'⟩
  replace H := H.ext0 H'; clear H'
  refine ⟨_, rfl, ?_⟩
  refine br_dec (fun h3 => ?_) (fun h3 => ?_)
  · rw [if_pos h3]
    refine callV (lfind_spec ⟨b, none, 0, none, 0⟩ x d name hok fit (by omega) h3 ⟨rfl, rfl⟩ w3 H.std) ?_
    rintro e w4 (⟨hr, rfl, H'⟩ | ⟨hr, rfl, y', hy', H'⟩)
    · exact ⟨_, _, rfl, x, rfl, hok, .inl ⟨hr, rfl, H.useAll H'⟩⟩
    · refine ⟨_, _, rfl, x, rfl, hok, .inr ⟨hr, y', [], by rw [hy'], fun h4 => absurd h3 h4, H.useAll H'⟩⟩
  · rw [if_neg h3]
    have hf0 : framedAll [] = [] := rfl
    refine callV (lrenew_spec ⟨b, none, 0, none, 0⟩ x d (Lg.none name) hok fit none 0 [] (by simp [hf0]) (by simp) (by omega) (by show name.size ≤ 1000; omega) w3 H.std (fun W _ => by intro j v hj; simp at hj) (fun _ => rfl)) ?_
    rintro e w4 ⟨rfl, x', hxb, hx', (⟨hr, y', hy', H'⟩ | ⟨hr, H'⟩)⟩
    · refine ⟨_, rfl, ?_⟩
      refine br_not (fun h4 => absurd hr (of_decide_eq_false h4)) (fun _ => ?_)
      have H2 := H.useAll H'
      refine ⟨x', hxb, hx', .inr ⟨hr, y', [lgB y' ((Lg.none name).anew [])], ?_, fun _ => rfl, ?_⟩⟩
      · rw [hy']
      · exact H2.perm ((List.Perm.swap _ _ _).cons _)
    · refine ⟨_, rfl, ?_⟩
      refine br_not (fun _ => ?_) (fun h4 => absurd (of_decide_eq_true h4) hr)
      exact ⟨x', hxb, hx', .inl ⟨hr, rfl, (H.useAll H').drop⟩⟩

/-! ### What a log tells -/
theorem llen_spec (y : LW) (db : Nat) (l : Lg) (w : World) (st : Std w [lgA y db l]) : Calls Go.Proofs.Try.prog 13 #[.pointer (some ⟨y.b, 0, none⟩)] w fun e w' => e = .returned (.int .i64 (l.all.length : Int)) ∧ Hp [] w w' [] := by
  apply llen.ok; unfold llen.vc
  have H := Hp.startL st
  exact onP_mk rfl ⟨_, _, _, H.ld (cs := lgC y db l) (by exact ⟨rfl, rfl, rfl, rfl⟩) sclTS (.head _) rfl, rfl, Hp.start w⟩
theorem lfirm_spec (y : LW) (db : Nat) (l : Lg) (w : World) (st : Std w [lgA y db l]) : Calls Go.Proofs.Try.prog 12 #[.pointer (some ⟨y.b, 0, none⟩)] w fun e w' => e = .returned (.int .i64 (l.many : Int)) ∧ Hp [] w w' [] := by
  apply lfirm.ok; unfold lfirm.vc
  have H := Hp.startL st
  exact onP_mk rfl ⟨_, H.ld (cs := lgC y db l) (by exact ⟨rfl, rfl, rfl, rfl⟩) sclInt (.head _) rfl, rfl, Hp.start w⟩
theorem lstuck_spec (y : LW) (db : Nat) (l : Lg) (w : World) (st : Std w [lgA y db l]) : Calls Go.Proofs.Try.prog 14 #[.pointer (some ⟨y.b, 0, none⟩)] w fun e w' => e = .returned (.int .i64 l.code) ∧ Hp [] w w' [] := by
  apply lstuck.ok; unfold lstuck.vc
  have H := Hp.startL st
  exact onP_mk rfl ⟨_, H.ld (cs := lgC y db l) (by exact ⟨rfl, rfl, rfl, rfl⟩) sclEr (.head _) rfl, rfl, Hp.start w⟩
theorem lall_spec (y : LW) (db : Nat) (l : Lg) (hl : l.all.length ≤ 1000000000) (w : World) (st : Std w [lgA y db l, lgT y l]) : Calls Go.Proofs.Try.prog 21 #[.pointer (some ⟨y.b, 0, none⟩)] w fun e w' =>
    ∃ a c, e = .returned (.slice a l.all.length c) ∧ Hp [] w w' [.own 9 1 a l.all.length c (l.all.map .string)] := by
  apply lall.ok; unfold lall.vc
  have H := Hp.startL st
  refine onP_mk rfl ⟨_, _, _, H.ld (cs := lgC y db l) (by exact ⟨rfl, rfl, rfl, rfl⟩) sclTS (.head _) rfl, ?_⟩
  have hown := H.ownA (e := 9) (.tail _ (.head _))
  refine callV (cloneT_spec y.ta y.tc l.all hl w hown.cells (ownNil hown)) ?_
  rintro e w1 ⟨a, c, rfl, H'⟩
  exact ⟨_, _, _, rfl, a, c, rfl, H'⟩
end Go.Proofs.Ytjbopmbffajknaa
