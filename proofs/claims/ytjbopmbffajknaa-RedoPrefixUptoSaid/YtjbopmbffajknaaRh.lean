/- Redo: a log is found. -/
import Derived.Test.YtjbopmbffajknaaRg
set_option linter.unusedVariables false
set_option linter.unusedSimpArgs false
set_option maxRecDepth 100000
namespace Go.Proofs.Ytjbopmbffajknaa
open Go Go.Vc Go.Vault Go.Redo

def bestK (d : Dk) (name : ByteArray) : Nat → Nat × Nat
  | 0 => (0, 0)
  | k + 1 => better (bestK d name k) (lookP d name k)
theorem valN8 {l : List UInt8} (h : l.length ≤ 8) : valN l ≤ 18446744073709551615 := by
  have h1 := valN_lt l
  have h2 : (256 : Nat) ^ l.length ≤ 256 ^ 8 := Nat.pow_le_pow_right (by omega) h
  have h3 : (256 : Nat) ^ 8 = 18446744073709551616 := by decide
  omega
theorem lookP_le {d : Dk} {name : ByteArray} {k : Nat} {p : Nat × Nat} (h : lookP d name k = some p) : p.1 ≤ 18446744073709551615 ∧ p.2 ≤ 18446744073709551615 := by
  unfold lookP at h
  split at h
  · rw [← Option.some.inj h]
    exact ⟨valN8 (by rw [List.length_take]; omega), valN8 (by rw [List.length_take]; omega)⟩
  · cases h
theorem bestK_le (d : Dk) (name : ByteArray) : ∀ k, (bestK d name k).1 ≤ 18446744073709551615 ∧ (bestK d name k).2 ≤ 18446744073709551615
  | 0 => by simp [bestK]
  | k + 1 => by
    have e : bestK d name (k + 1) = better (bestK d name k) (lookP d name k) := rfl
    rw [e]
    cases h : lookP d name k with
    | none => exact bestK_le d name k
    | some p =>
      by_cases hlt : (bestK d name k).1 < p.1
      · have e2 : better (bestK d name k) (some p) = p := by simp [better, hlt]
        rw [e2]; exact lookP_le h
      · have e2 : better (bestK d name k) (some p) = bestK d name k := by simp [better, hlt]
        rw [e2]; exact bestK_le d name k
def FindPost (y : LW) (db : Nat) (w : World) (B : List Nat) (L : List Asn) (r : Int × Lg) (e : Ending) (w' : World) : Prop :=
  (r.1 ≠ 0 ∧ e = .returned (.tuple #[.pointer none, .int .i64 r.1]) ∧ Hp B w w' L) ∨
  (r.1 = 0 ∧ e = .returned (.tuple #[.pointer (some ⟨y.b, 0, none⟩), .int .i64 0]) ∧ ∃ y' : LW, y'.b = y.b ∧ Hp B w w' (lgA y' db r.2 :: .own 9 1 y'.ta r.2.all.length y'.tc (r.2.all.map .string) :: L))

set_option maxHeartbeats 2000000 in
theorem lfind_spec (y : LW) (x : DW) (d : Dk) (name : ByteArray) (hok : x.Ok d) {N : Nat} (fit : d.Fit N) (hN : N ≤ 1000000) (h2 : 2 ≤ d.size name) (hy : y.ba = none ∧ y.bc = 0) (w : World) (st : Std w (lgA y x.b (Lg.none name) :: dkL x d)) :
    Calls Go.Proofs.Try.prog 36 #[.pointer (some ⟨y.b, 0, none⟩)] w (FindPost y x.b w (feet (lgA y x.b (Lg.none name) :: dkL x d)) (dkL x d) (findP d name)) := by
  apply lfind.ok; unfold lfind.vc
  have H := Hp.startL st
  generalize hB : feet (lgA y x.b (Lg.none name) :: dkL x d) = B at H ⊢
  obtain ⟨yb, yba, ybc, yta, ytc⟩ := y
  obtain ⟨rfl, rfl⟩ := hy
  refine LoopP.mk (fun m s w' => ∃ k : Nat, m = 2 - k ∧ k ≤ 2 ∧ s = (((bestK d name k).2 : Int), (k : Int)) ∧ Hp B w w' (lgA ⟨yb, none, 0, yta, ytc⟩ x.b { Lg.none name with mark := (bestK d name k).1 } :: dkL x d)) 2 ⟨0, rfl, by omega, rfl, H⟩ ?_
  clear H
  rintro m s w1 next ⟨k, rfl, hk, rfl, H⟩ hnext
  refine br_dec (fun h3 => ?_) (fun h3 => ?_)
  · simp only at h3 ⊢
    have hk2 : k < 2 := by omega
    have hbl := bestK_le d name k
    have hls := look_spec ⟨yb, none, 0, yta, ytc⟩ x d { Lg.none name with mark := (bestK d name k).1 } hok k w1 H.std
    dsimp only [Lg.none] at hls
    refine callV hls ?_
    rintro e w2 ⟨rfl, H'⟩
    replace H := H.ext0 H'; clear H'
    have hb1 : bestK d name (k + 1) = better (bestK d name k) (lookP d name k) := rfl
    have nx : ∀ {w3 : World} {f : Int}, f = ((bestK d name (k + 1)).2 : Int) → Hp B w w3 (lgA ⟨yb, none, 0, yta, ytc⟩ x.b { Lg.none name with mark := (bestK d name (k + 1)).1 } :: dkL x d) → next (f, (k : Int) + 1) w3 := by
      rintro w3 f rfl H
      exact hnext (2 - (k + 1)) _ _ (by omega) ⟨k + 1, rfl, by omega, by rw [Int.natCast_add]; rfl, H⟩
    cases hlk : lookP d name k with
    | none =>
      rw [hlk] at hb1
      refine ⟨_, _, _, rfl, br_false ?_⟩
      exact ⟨inR64.2 (by omega), nx (by rw [hb1]; rfl) (by rw [hb1]; exact H)⟩
    | some p =>
      obtain ⟨m1, f1⟩ := p
      rw [hlk] at hb1
      refine ⟨_, _, _, rfl, br_true ?_⟩
      refine onP_mk rfl ⟨_, H.ld (by exact ⟨rfl, rfl, rfl, rfl⟩) sclU64 (.head _) rfl, ?_⟩
      refine br_dec (fun h4 => ?_) (fun h4 => ?_)
      · have h4 : (bestK d name k).1 < m1 := by exact Int.ofNat_lt.1 h4
        have e1 : bestK d name (k + 1) = (m1, f1) := by rw [hb1]; simp [better, h4]
        refine onP_mk rfl (Hp.st (o := 2) H (by exact ⟨rfl, rfl, rfl, rfl⟩) sclU64 rfl rfl (by simp [lgC]) (cs' := lgC ⟨yb, none, 0, yta, ytc⟩ x.b { Lg.none name with mark := m1 }) rfl ?_)
        clear H; intro w3 H
        exact ⟨inR64.2 (by omega), nx (by rw [e1]) (by rw [e1]; exact H)⟩
      · have h4 : ¬ (bestK d name k).1 < m1 := fun h => h4 (Int.ofNat_lt.2 h)
        have e1 : bestK d name (k + 1) = bestK d name k := by rw [hb1]; simp [better, h4]
        exact ⟨inR64.2 (by omega), nx (by rw [e1]) (by rw [e1]; exact H)⟩
  · simp only at h3 ⊢
    have hk2 : k = 2 := by omega
    subst hk2
    have hm2 : bestK d name 2 = mark2 d name := rfl
    rw [hm2] at H ⊢
    obtain ⟨M, F, hMF⟩ : ∃ M F, mark2 d name = (M, F) := ⟨_, _, rfl⟩
    have hFle := (bestK_le d name 2).2
    rw [hm2, hMF] at hFle
    unfold findP
    rw [hMF] at H ⊢
    simp only at H hFle ⊢
    replace H := H.drew
    refine onP_mk rfl ⟨_, H.ld (by exact ⟨rfl, rfl, rfl, rfl⟩) sclDP (.head _) rfl, ?_⟩
    refine onP_mk rfl ⟨_, H.ld (by exact ⟨rfl, rfl, rfl, rfl⟩) sclStr (.head _) rfl, ?_⟩
    refine callV (size_spec x d hok name w1.drew H.drop.std) ?_
    rintro e w2 ⟨rfl, H'⟩
    replace H := H.ext0 H'; clear H'
    have hsz : d.size name ≤ 1000000 := by
      unfold Dk.size
      split
      · have := Fit.file fit
        rename_i k _
        have h5 := Dk.len_le fit.now k
        omega
      · omega
    obtain ⟨S, hS⟩ : ∃ S : Nat, d.size name = (S : Int) := ⟨(d.size name).toNat, by omega⟩
    refine ⟨_, rfl, ?_⟩
    rw [hS] at h2 hsz ⊢
    have hw : IntKind.u64.wrap (((S : Int) - 2) * 512) = ((S : Int) - 2) * 512 := by
      have : ∀ z : Int, IntKind.u64.wrap z = z % 18446744073709551616 := fun z => by simp [IntKind.wrap, IntKind.signed, IntKind.bits]
      rw [this]; omega
    rw [hw]
    refine ⟨inR64.2 (by omega), inR64.2 (by omega), ?_⟩
    refine br_dec (fun h4 => ?_) (fun h4 => ?_)
    · rw [if_pos h4]
      exact .inl ⟨by simp, rfl, H.drop⟩
    rw [if_neg h4]
    have hF : F ≤ 512000000 := by omega
    have hwF : IntKind.i64.wrap (F : Int) = (F : Int) := wrap64_id (by omega)
    rw [hwF]
    obtain ⟨g, hg⟩ : ∃ g, g = gath d name F (F + 1) 2 [] := ⟨_, rfl⟩
    rw [← hg]
    refine LoopP.mk (fun m s w' => ∃ (k : Nat) (acc : List UInt8) (m1 : Nat) (a : Option Addr) (c : Nat), m = (F - acc.length) ∧ s = (k : Int) ∧ k ≤ 2 + acc.length ∧ acc.length ≤ F + 512 ∧ F + 1 ≤ m1 + acc.length ∧ g = gath d name F m1 k acc ∧
      Hp B w w' (lgA ⟨yb, a, c, yta, ytc⟩ x.b { Lg.none name with mark := M, b := acc } :: .own 5 1 a acc.length c (bcells acc) :: dkL x d)) F ⟨2, [], F + 1, none, 0, rfl, rfl, by simp, by simp, by simp, hg, ?_⟩ ?_
    · exact (H.nilS 5 1).pull1
    clear H w1 w2
    rintro m s w1 next ⟨k, acc, m1, a, c, rfl, rfl, hk, hal, hm1, hgk, H⟩ hnext
    refine onP_mk rfl ⟨_, _, _, H.ld (by exact ⟨rfl, rfl, rfl, rfl⟩) sclBS (.head _) rfl, ?_⟩
    have hlen0 : ({ Lg.none name with mark := M, b := acc } : Lg).b.length = acc.length := rfl
    refine br_dec (fun h5 => ?_) (fun h5 => ?_)
    · have h5 : acc.length < F := by exact Int.ofNat_lt.1 h5
      obtain ⟨m2, rfl⟩ : ∃ m2, m1 = m2 + 1 := ⟨m1 - 1, by omega⟩
      rw [gath, if_neg (by omega)] at hgk
      replace H := H.drew
      refine onP_mk rfl ⟨_, H.ld (by exact ⟨rfl, rfl, rfl, rfl⟩) sclDP (.head _) rfl, ?_⟩
      refine onP_mk rfl ⟨_, H.ld (by exact ⟨rfl, rfl, rfl, rfl⟩) sclStr (.head _) rfl, ?_⟩
      refine callV (read_spec x d hok name (k : Int) w1.drew H.drop.drop.std) ?_
      rintro e w2 ⟨ra, rc, rfl, H'⟩
      replace H := H.ext1 H'; clear H'
      refine ⟨_, _, _, _, rfl, ?_⟩
      refine br_not (fun h6 => ?_) (fun h6 => ?_)
      · have h6 := of_decide_eq_false h6
        rw [if_neg h6] at hgk
        have hg2 : g.2 ≠ 0 := by rw [hgk]; exact h6
        rw [if_neg hg2]
        exact .inl ⟨hg2, by rw [hgk], H.drop.drop.drop⟩
      · have h6 := of_decide_eq_true h6
        rw [if_pos h6] at hgk
        have hrl := read512 hok.dk h6
        generalize (d.read name (k : Int)).1 = rb at H hrl hgk ⊢
        refine onP_mk rfl ⟨_, _, _, H.ld (cs := lgC ⟨yb, a, c, yta, ytc⟩ x.b { Lg.none name with mark := M, b := acc }) (by exact ⟨rfl, rfl, rfl, rfl⟩) sclBS (.tail _ (.head _)) rfl, ?_⟩
        have hrc := (H.ownA (e := 76) (.head _)).cells
        refine Hp.app eltU8 (by omega) H.pull2 (by exact ⟨rfl, rfl, rfl, rfl⟩) (Cells.src (n := rb.length) undSU8 hrc (by rw [bcells_length]; omega) (bcells_one _) (ownNil (H.ownA (e := 76) (.head _)))) (by simp only [maxLen]; show acc.length + rb.length ≤ _; omega) (by show (acc.length + rb.length) * 1 ≤ _; omega) ?_
        clear H; intro a3 c3 w3 H
        refine onP_mk rfl (Hp.st (o := 3) H.pull2 (by exact ⟨rfl, rfl, rfl, rfl⟩) sclBS rfl rfl (by simp [lgC]) (cs' := lgC ⟨yb, a3, c3, yta, ytc⟩ x.b { Lg.none name with mark := M, b := acc ++ rb }) (by simp [lgC]) ?_)
        clear H; intro w4 H
        refine ⟨inR64.2 (by omega), hnext (F - (acc ++ rb).length) _ _ (by rw [List.length_append]; omega) ⟨k + 1, acc ++ rb, m2, a3, c3, rfl, by omega, by rw [List.length_append]; omega, by rw [List.length_append]; omega, by rw [List.length_append]; omega, hgk, ?_⟩⟩
        rw [List.length_append, bcells_append]
        exact H.pull2.drop.pull1.pull1
    · have h5 : F ≤ acc.length := by
        have : ¬ acc.length < F := fun h => h5 (Int.ofNat_lt.2 h)
        omega
      have hgv : g = (acc, 0) := by
        rw [hgk]
        cases m1 with
        | zero => rfl
        | succ m => rw [gath, if_pos h5]
      rw [hgv]
      simp only [if_true]
      have hown := H.ownA (.tail _ (.head _))
      refine onP_mk rfl ⟨_, _, _, H.ld (by exact ⟨rfl, rfl, rfl, rfl⟩) sclBS (.head _) rfl, ?_⟩
      refine ⟨⟨by omega, by omega, Int.ofNat_le.2 (Nat.le_trans h5 hown.le.1)⟩, ?_⟩
      rw [Int.toNat_natCast]
      have ltk : (acc.take F).length = F := by rw [List.length_take]; omega
      refine onP_mk rfl (Hp.st (o := 3) H (by exact ⟨rfl, rfl, rfl, rfl⟩) sclBS rfl rfl (by simp [lgC]) (cs' := lgC ⟨yb, a, F, yta, ytc⟩ x.b { Lg.none name with mark := M, b := acc.take F }) (by simp only [lgC, ltk]; rfl) ?_)
      clear H; intro w2 H
      refine onP_mk rfl ⟨_, _, _, H.ld (by exact ⟨rfl, rfl, rfl, rfl⟩) sclBS (.head _) rfl, ?_⟩
      have hcell : Cells w2 a (bcells (acc.take F)) := by
        have h7 := (H.ownA (.tail _ (.head _))).cells.take F
        have e7 : (bcells acc).take F = bcells (acc.take F) := by simp only [bcells, List.map_take]
        rw [e7] at h7; exact h7
      refine callV (records_spec a F (acc.take F) (by omega) (by omega) w2 hcell) ?_
      intro e w3 hrp
      cases hr : Redo.records (acc.take F) with
      | none =>
        rw [hr] at hrp
        obtain ⟨rfl, H'⟩ := hrp
        replace H := H.ext0 H'; clear H'
        refine ⟨_, _, _, _, rfl, ?_⟩
        refine br_not (fun _ => ?_) (fun h => by cases h)
        exact .inl ⟨by simp, rfl, H.drop.drop⟩
      | some l =>
        rw [hr] at hrp
        obtain ⟨ta, tc, rfl, H'⟩ := hrp
        replace H := H.ext1 H'; clear H'
        refine ⟨_, _, _, _, rfl, ?_⟩
        refine br_not (fun h => by cases h) (fun _ => ?_)
        refine onP_mk rfl ⟨_, _, _, H.ld (cs := lgC ⟨yb, a, F, yta, ytc⟩ x.b { Lg.none name with mark := M, b := acc.take F }) (by exact ⟨rfl, rfl, rfl, rfl⟩) sclBS (.tail _ (.head _)) rfl, ?_⟩
        refine onP_mk rfl (Hp.st (o := 6) H.pull1 (by exact ⟨rfl, rfl, rfl, rfl⟩) sclTS rfl rfl (by simp [lgC]) rfl ?_)
        clear H; intro w4 H
        refine onP_mk rfl (Hp.st (o := 4) H (by exact ⟨rfl, rfl, rfl, rfl⟩) sclInt rfl rfl (by simp [lgC]) rfl ?_)
        clear H; intro w5 H
        refine onP_mk rfl (Hp.st (o := 5) H (by exact ⟨rfl, rfl, rfl, rfl⟩) sclInt rfl rfl (by simp [lgC]) rfl ?_)
        clear H; intro w6 H
        refine .inr ⟨rfl, rfl, ⟨yb, a, F, ta, tc⟩, rfl, ?_⟩
        have e8 : lgA ⟨yb, a, F, ta, tc⟩ x.b ⟨name, M, acc.take F, F, l.length, l, 0⟩ = .blk yb (((((lgC ⟨yb, a, F, yta, ytc⟩ x.b { Lg.none name with mark := M, b := acc.take F }).set 6 (.slice ta l.length tc)).set 4 (.int .i64 ((acc.take F).length : Int))).set 5 (.int .i64 (l.length : Int)))) 79 := by
          simp only [lgA, lgC, ltk]; rfl
        rw [e8]
        exact H.pull2.drop.pull1.pull1
end Go.Proofs.Ytjbopmbffajknaa
