/- Redo: a seal; a file of marks and records. -/
import Derived.Test.YtjbopmbffajknaaRb
set_option linter.unusedVariables false
set_option linter.unusedSimpArgs false
set_option maxRecDepth 100000
namespace Go.Proofs.Ytjbopmbffajknaa
open Go Go.Vc Go.Vault Go.Redo

section
variable {B : List Nat} {w0 w w' : World} {L M : List Asn} {a b : Asn}
theorem _root_.Go.Vc.Hp.useT2 (H : Hp B w0 w (a :: b :: L)) (H' : Hp (feet L) w w' M) : Hp B w0 w' (a :: b :: M) :=
  ((H.perm (List.perm_append_comm (l₁ := [a, b]) (l₂ := L)) : Hp B w0 w (L ++ [a, b])).useL H').perm (List.perm_append_comm (l₁ := M) (l₂ := [a, b]))
theorem _root_.Go.Vc.Hp.blkSt {k : Nat} {cs : List Value} {T : TypeId} (H : Hp B w0 w (.blk k cs T :: L)) : ∀ W, Chg (feet L) w W → Blk W k cs T := fun W hW =>
  (H.blk (.head _)).chg hW fun hf => by
    obtain ⟨c, hc, h2⟩ := mem_feet.1 hf
    exact (List.pairwise_cons.1 H.sep).1 c hc k (by simp [Asn.foot]) h2
end
theorem zlMark : zl Go.Proofs.Try.prog 75 = bcells zsec := by kernel_rfl
theorem seal_bytes (mark firm : Nat) :
    (((zsec.take 0 ++ (be (mark : Int) 8 ++ zsec.drop (0 + 8))).take 8 ++ (be (firm : Int) 8 ++ (zsec.take 0 ++ (be (mark : Int) 8 ++ zsec.drop (0 + 8))).drop (8 + 8))).take 504 ++ (be (mark : Int) 8 ++ ((zsec.take 0 ++ (be (mark : Int) 8 ++ zsec.drop (0 + 8))).take 8 ++ (be (firm : Int) 8 ++ (zsec.take 0 ++ (be (mark : Int) 8 ++ zsec.drop (0 + 8))).drop (8 + 8))).drop (504 + 8))) = sealB mark firm := by
  have hm := be_length (mark : Int) 8
  have hf := be_length (firm : Int) 8
  have h1 : zsec.take 0 ++ (be (mark : Int) 8 ++ zsec.drop (0 + 8)) = be (mark : Int) 8 ++ List.replicate 504 0 := by
    rw [List.take_zero, List.nil_append, zsec, List.drop_replicate]
  rw [h1]
  have h2 : (be (mark : Int) 8 ++ List.replicate 504 0).take 8 = be (mark : Int) 8 := List.take_left' hm
  have h3 : (be (mark : Int) 8 ++ List.replicate 504 (0 : UInt8)).drop (8 + 8) = List.replicate 496 0 := by
    rw [List.drop_append, List.drop_eq_nil_of_le (by omega), hm, List.nil_append, List.drop_replicate]
  rw [h2, h3]
  have h4 : (be (mark : Int) 8 ++ (be (firm : Int) 8 ++ List.replicate 496 (0 : UInt8))).take 504 = be (mark : Int) 8 ++ (be (firm : Int) 8 ++ List.replicate 488 0) := by
    rw [List.take_append, List.take_of_length_le (by omega), hm, List.take_append, List.take_of_length_le (by omega), hf, List.take_replicate]
    rfl
  have h5 : (be (mark : Int) 8 ++ (be (firm : Int) 8 ++ List.replicate 496 (0 : UInt8))).drop (504 + 8) = [] := List.drop_eq_nil_of_le (by simp only [List.length_append, hm, hf, List.length_replicate]; omega)
  rw [h4, h5, sealB, List.append_nil]
  simp only [List.append_assoc]
theorem lay_bytes (S X : List UInt8) (o k : Nat) : (bcells S).take o ++ (bcells X ++ (bcells S).drop k) = bcells (S.take o ++ (X ++ S.drop k)) := by
  simp only [bcells, List.map_append, List.map_take, List.map_drop]
theorem tlen {S X : List UInt8} {o : Nat} (h : S.length = 512) (hX : X.length = 8) (ho : o + 8 ≤ 512) : (S.take o ++ (X ++ S.drop (o + 8))).length = 512 := by
  simp only [List.length_append, List.length_take, List.length_drop, h, hX]; omega
theorem sealB_len (mark firm : Nat) : (sealB mark firm).length = 512 := by simp only [sealB, List.length_append, be_length, List.length_replicate]

set_option maxHeartbeats 1000000 in
theorem lseal_spec (lb : Nat) (cs : List Value) (x : DW) (d : Dk) (hok : x.Ok d) {N : Nat} (fit : d.Fit N) (hN : N ≤ 900000) (name : ByteArray) (mark firm : Nat) (hm : mark ≤ 1000000000) (hf : firm ≤ 1000000000) (hcs : cs[0]? = some (.pointer (some ⟨x.b, 0, none⟩)))
    (w : World) (st : Std w (.blk lb cs 79 :: dkL x d)) :
    Calls Go.Proofs.Try.prog 45 #[.pointer (some ⟨lb, 0, none⟩), .string name, .int .u64 (mark : Int), .int .i64 (firm : Int)] w (LPost lb cs x d w (.int .i64 (dseal d name mark firm).2) (dseal d name mark firm).1) := by
  apply lseal.ok; unfold lseal.vc LPost
  have H := Hp.startL st
  generalize hB : feet (.blk lb cs 79 :: dkL x d) = B at H ⊢
  rw [zlMark]
  intro b w1 hn; replace H := H.new (by exact ⟨rfl, rfl, rfl, rfl⟩) hn; clear hn
  have hz : zsec.length = 512 := by simp [zsec]
  have hw : IntKind.u64.wrap (firm : Int) = (firm : Int) := by simp [IntKind.wrap, IntKind.signed, IntKind.bits]; omega
  rw [hw]
  refine ⟨by omega, ?_⟩
  refine callV (lay64_spec b 0 8 512 75 _ _ (by rw [bcells_length, hz]; omega) (by omega) _ (H.blk (.head _))) ?_
  rintro e w2 ⟨rfl, H'⟩
  replace H := H.use1 H'; clear H'
  rw [lay_bytes] at H
  have l1 := tlen (X := be (mark : Int) 8) (o := 0) hz (be_length _ _) (by omega)
  refine ⟨rfl, by omega, ?_⟩
  refine callV (lay64_spec b 8 8 504 75 _ _ (by rw [bcells_length, l1]; omega) (by omega) _ (H.blk (.head _))) ?_
  rintro e w3 ⟨rfl, H'⟩
  replace H := H.use1 H'; clear H'
  rw [lay_bytes] at H
  have l2 := tlen (X := be (firm : Int) 8) (o := 8) l1 (be_length _ _) (by omega)
  refine ⟨rfl, by omega, ?_⟩
  refine callV (lay64_spec b 504 8 8 75 _ _ (by rw [bcells_length, l2]; omega) (by omega) _ (H.blk (.head _))) ?_
  rintro e w4 ⟨rfl, H'⟩
  replace H := H.use1 H'; clear H'
  rw [lay_bytes, seal_bytes] at H
  refine ⟨rfl, ?_⟩
  simp only [List.cons_append, List.nil_append] at H
  refine onP_mk rfl ⟨_, H.ld (by exact ⟨rfl, rfl, rfl, rfl⟩) sclDP (.tail _ (.head _)) hcs, ?_⟩
  refine callV (sync_spec x d hok fit.few (by omega) name w4 H.drop.drop.std) ?_
  rintro e w5 ⟨rfl, x1, hx1b, hx1, H'⟩
  replace H := H.useT2 H'; clear H'
  refine ⟨_, rfl, ?_⟩
  have fit1 : (d.sync name).1.Fit (N + 1) := Fit.sync fit name
  refine br_dec (fun h1 => ?_) (fun h1 => br_dec (fun h2 => absurd h2 h1) (fun _ => ?_))
  · have e1 : dseal d name mark firm = thn ((d.sync name).1.write name ((mark % 2 : Nat) : Int) (sealB mark firm)) fun d => d.sync name := by rw [dseal, thn, thn, if_pos h1]; rfl
    rw [e1]
    generalize (d.sync name).1 = d1 at hx1 H fit1 ⊢
    replace H := H.drew
    refine onP_mk rfl ⟨_, H.ld (by exact ⟨rfl, rfl, rfl, rfl⟩) sclDP (.tail _ (.head _)) hcs, by omega, ?_⟩
    have hmod : IntKind.i64.wrap (Int.tmod (mark : Int) 2) = ((mark % 2 : Nat) : Int) := by
      rw [show Int.tmod (mark : Int) 2 = ((mark % 2 : Nat) : Int) from rfl]
      exact wrap64_id (by omega)
    rw [hmod]
    have hws := write_spec x1 d1 hx1 fit1.few (by omega) (fit1.used (by omega)) name ((mark % 2 : Nat) : Int) (some ⟨b, 0, none⟩) 512 (sealB mark firm) w5.drew H.drop.drop.std
      (fun W hW => (H.drop1.blkSt W hW).cells) (fun h => by cases h)
    rw [hx1b, sealB_len] at hws
    refine callV hws ?_
    rintro e w6 ⟨rfl, x2, hx2b, hx2, H'⟩
    replace H := H.useT2 H'; clear H' hws
    refine ⟨_, rfl, ?_⟩
    have fit2 : (d1.write name ((mark % 2 : Nat) : Int) (sealB mark firm)).1.Fit (N + 2) := Fit.write fit1 name _ _
    generalize d1.write name ((mark % 2 : Nat) : Int) (sealB mark firm) = r at hx2 H fit2 ⊢
    refine br_dec (fun h2 => ?_) (fun h2 => ?_)
    · rw [thn, if_pos h2]
      refine onP_mk rfl ⟨_, H.ld (by exact ⟨rfl, rfl, rfl, rfl⟩) sclDP (.tail _ (.head _)) hcs, ?_⟩
      have hss := sync_spec x2 r.1 hx2 fit2.few (by omega) name w6 H.drop.drop.std
      rw [hx2b, hx1b] at hss
      refine callV hss ?_
      rintro e w7 ⟨rfl, x3, hx3b, hx3, H'⟩
      replace H := H.useT2 H'; clear H' hss
      exact ⟨_, rfl, rfl, x3, by rw [hx3b, hx2b, hx1b], hx3, H.drop⟩
    · rw [thn, if_neg h2]
      exact ⟨rfl, x2, by rw [hx2b, hx1b], hx2, H.drop⟩
  · have e1 : dseal d name mark firm = d.sync name := by rw [dseal, thn, thn, if_neg h1, if_neg h1]
    rw [e1]
    exact ⟨rfl, x1, hx1b, hx1, H.drop⟩
end Go.Proofs.Ytjbopmbffajknaa
