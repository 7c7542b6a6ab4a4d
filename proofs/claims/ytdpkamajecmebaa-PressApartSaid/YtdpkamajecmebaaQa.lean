/- Press: names, a text's sectors one behind the other. -/
import Derived.Test.YtdpkamajecmebaaQm
import Derived.Test.YtdpkamajecmebaaUg
set_option linter.unusedVariables false
set_option linter.unusedSimpArgs false
set_option maxRecDepth 100000
namespace Go.Proofs.Ytdpkamajecmebaa
open Go Go.Vc Go.Vault Go.Redo Go.Press

theorem sclDP : Scl Go.Proofs.Try.prog 23 := scl_of (by kernel_rfl)
theorem sclBS : Scl Go.Proofs.Try.prog 46 := scl_of (by kernel_rfl)
theorem sclTS : Scl Go.Proofs.Try.prog 33 := scl_of (by kernel_rfl)
theorem sclEr : Scl Go.Proofs.Try.prog 31 := scl_of (by kernel_rfl)
theorem qeltU8 : Elt Go.Proofs.Try.prog 46 5 1 1 := elt_of (by kernel_rfl)
theorem eltT : Elt Go.Proofs.Try.prog 33 9 1 16 := elt_of (by kernel_rfl)
theorem undST : Go.Proofs.Try.prog.underlying 33 = some (.slice 9) := by kernel_rfl
theorem qundStr : Go.Proofs.Try.prog.underlying 9 = some .string := by kernel_rfl
theorem undU8s : Go.Proofs.Try.prog.underlying 5 = some (.int .u8) := by kernel_rfl
theorem undBS : Go.Proofs.Try.prog.underlying 46 = some (.slice 5) := by kernel_rfl
theorem undPD : Go.Proofs.Try.prog.underlying 23 = some (.pointer (Go.Proofs.Try.prog.pointee 23)) := by kernel_rfl

theorem size_mk (l : Array UInt8) : (ByteArray.mk l).size = l.size := rfl
theorem file_spec (n : ByteArray) (w : World) : Calls Go.Proofs.Try.prog 22 #[.string n] w fun e w' => e = .returned (.tuple #[.string (if nright n then pfile n else ByteArray.empty), .bool (nright n)]) ∧ Hp [] w w' [] := by
  apply file.ok; unfold file.vc
  have H := Hp.start w
  have h0 : n = ByteArray.empty ↔ n.size = 0 := by
    constructor
    · rintro rfl; rfl
    · intro h
      obtain ⟨d⟩ := n
      have : d = #[] := Array.eq_empty_of_size_eq_zero h
      subst this; rfl
  refine br_dec (fun h => ?_) (fun h => br_dec (fun h2 => ?_) (fun h2 => ?_))
  · have h := h0.1 h
    have e : nright n = false := by unfold nright; rw [decide_eq_false (p := 1 ≤ n.size) (by omega)]; rfl
    rw [e]; exact ⟨rfl, H⟩
  · have e : nright n = false := by unfold nright; rw [decide_eq_false (p := n.size ≤ 50) (by omega), Bool.and_false]
    rw [e]; exact ⟨rfl, H⟩
  · have h3 : n.size ≠ 0 := fun h4 => h (h0.2 h4)
    have e : nright n = true := by unfold nright; rw [decide_eq_true (p := 1 ≤ n.size) (by omega), decide_eq_true (p := n.size ≤ 50) (by omega)]; rfl
    rw [e]
    exact ⟨by rw [size_mk]; simp; omega, rfl, H⟩
theorem hasPrefix_spec (s p : ByteArray) (w : World) : Calls Go.Proofs.Try.prog 80 #[.string s, .string p] w fun e w' => e = .returned (.bool (decide (p.size ≤ s.size ∧ s.extract 0 p.size = p))) ∧ Hp [] w w' [] := by
  apply hasPrefix.ok; unfold hasPrefix.vc
  refine br_dec (fun h => ⟨by omega, ?_, Hp.start w⟩) (fun h => ⟨?_, Hp.start w⟩)
  · rw [Int.toNat_natCast]
    congr 2
    rw [decide_eq_decide]
    exact ⟨fun h2 => ⟨by omega, h2⟩, fun h2 => h2.2⟩
  · rw [decide_eq_false (fun h2 => h (by omega))]
theorem slCut_spec (s p : ByteArray) (w : World) : Calls Go.Proofs.Try.prog 64 #[.string s, .string p] w fun e w' => e = .returned (.tuple #[.string (if p.size ≤ s.size ∧ s.extract 0 p.size = p then s.extract p.size s.size else s), .bool (decide (p.size ≤ s.size ∧ s.extract 0 p.size = p))]) ∧ Hp [] w w' [] := by
  apply slCut.ok; unfold slCut.vc
  refine callV (hasPrefix_spec s p w) ?_
  rintro e w1 ⟨rfl, H⟩
  refine ⟨_, rfl, br_not (fun h => ?_) (fun h => ?_)⟩
  · have h := of_decide_eq_false h
    rw [if_neg h, decide_eq_false h]; exact ⟨rfl, H⟩
  · have h := of_decide_eq_true h
    rw [if_pos h, decide_eq_true h, Int.toNat_natCast]; exact ⟨by omega, rfl, H⟩
theorem cutPrefix_spec (s p : ByteArray) (w : World) : Calls Go.Proofs.Try.prog 35 #[.string s, .string p] w fun e w' => e = .returned (.tuple #[.string (if p.size ≤ s.size ∧ s.extract 0 p.size = p then s.extract p.size s.size else s), .bool (decide (p.size ≤ s.size ∧ s.extract 0 p.size = p))]) ∧ Hp [] w w' [] := by
  apply cutPrefix.ok; unfold cutPrefix.vc
  refine callV (slCut_spec s p w) ?_
  rintro e w1 ⟨rfl, H⟩
  exact ⟨_, _, rfl, rfl, H⟩

theorem shr_b8 (i : Int) (m : Nat) (h : m < 8) (j : Int) (hj : j = m) : IntKind.u8.wrap (Int.fdiv i ((2 : Int) ^ min (Int.toNat ((8 : Int) * j)) (IntKind.bits IntKind.i64))) = ((bt i m).toNat : Int) := by
  subst hj
  rw [wrap8_mod, bt_toNat]
  have e1 : Int.toNat ((8 : Int) * (m : Int)) = 8 * m := by omega
  have e2 : min (8 * m) (IntKind.bits IntKind.i64) = 8 * m := by simp only [IntKind.bits]; omega
  rw [e1, e2, Int.fdiv_eq_ediv_of_nonneg _ (Int.le_of_lt (Int.pow_pos (by omega)))]
theorem be_gt (n : Int) : ∀ (m k : Nat), k < m → (be n m)[k]? = some (bt n (m - 1 - k))
  | 0, k, h => by omega
  | m + 1, 0, _ => rfl
  | m + 1, k + 1, h => by
    rw [be, List.getElem?_cons_succ, be_gt n m k (by omega)]
    congr 2; omega
theorem chunk_cells {w : World} {a : Option Addr} {bs : List UInt8} {i e : Nat} (h : Cells w a (bcells bs)) (he : e = min (i + 512) bs.length) (hi : i < bs.length) : Cells w (slA a e i 1) (bcells ((bs.drop i).take 512)) := by
  have h1 := (h.take e).slA (c := e) (i := i) (by rw [List.length_take]; omega)
  have e1 : ((bcells bs).take e).drop i = bcells ((bs.drop i).take 512) := by
    rw [List.drop_take, bcells, bcells, ← List.map_drop, ← List.map_take]
    congr 1
    by_cases hx : e - i = 512
    · rw [hx]
    · rw [List.take_of_length_le (by rw [List.length_drop]; omega), List.take_of_length_le (by rw [List.length_drop]; omega)]
  rw [← e1]; exact h1
theorem slA_none {a : Option Addr} {m i : Nat} (h : slA a m i 1 = none) : a = none := by
  unfold slA at h
  split at h
  · exact h
  · cases a with
    | none => rfl
    | some _ => cases h

theorem feet_append (L M : List Asn) : feet (L ++ M) = feet L ++ feet M := by simp [feet]
/-- what goes through a text's sectors -/
theorem range_sectors {σ ρ : Type} {round : Int × Option Addr × Nat × Nat → World → (World → (World → Prop) → Prop) → (World → Prop) → (World → Prop) → (Nat → World → Prop) → Prop} {Qn Qr : Nat → World → Prop} {Qx : Nat → Nat → World → Prop} {B : List Nat} {w0 w : World}
    (fb : Nat) (a : Option Addr) (c : Nat) (t : List UInt8) (ht : t.length ≤ 1048576) (Lk : Nat → σ → List Asn) (Inv : Nat → σ → Prop) (Lr : ρ → List Asn) (Stop : ρ → Prop) (x0 : σ) (hx0 : Inv 0 x0)
    (H : Hp B w0 w (Lk 0 x0 ++ [.blk fb [.slice a t.length c] 46, .own 5 1 a t.length c (bcells t)]))
    (hround : ∀ k x, k < nsecs t → Inv k x → ∀ (w' : World) (p : Option Addr) (cp : Nat) (T1 : List Asn) (begin : World → (World → Prop) → Prop) (kn kr : World → Prop) (kx : Nat → World → Prop), (p = none → (sec t k).length = 0) →
      (∀ k0 : World → Prop, (∀ w2, Hp B w0 w2 (Lk k x ++ T1) → (∀ W, Chg (feet (Lk k x)) w2 W → Cells W p (bcells (sec t k))) → k0 w2) → begin w' k0) → (∀ w3 x', Inv (k + 1) x' → Hp B w0 w3 (Lk (k + 1) x' ++ T1) → kn w3) → (∀ w3 y, Stop y → Hp B w0 w3 (Lr y ++ T1) → kr w3) → round ((k : Int), p, (sec t k).length, cp) w' begin kn kr kx)
    (hend : ∀ x D w', Inv (nsecs t) x → Hp B w0 w' (objA D (.deferred (some [])) :: Lk (nsecs t) x) → Qn D w')
    (hret : ∀ y D w', Stop y → Hp B w0 w' (objA D (.deferred (some [])) :: Lr y) → Qr D w') :
    RangeP Go.Proofs.Try.prog 60 [] [.pointer (some ⟨fb, 0, none⟩)] (fun s : Int × Option Addr × Nat × Nat => [.int .i64 s.1, .slice s.2.1 s.2.2.1 s.2.2.2]) round w Qn Qr Qx := by
  refine ⟨fun D hl wa wb rec hD hll hy => ?_⟩
  obtain ⟨FX, hFX⟩ : ∃ FX : List Asn, FX = [.blk fb [.slice a t.length c] 46, .own 5 1 a t.length c (bcells t)] := ⟨_, rfl⟩
  have H2 : Hp B w0 wb ((Lk 0 x0 ++ [objA hl (rec .ready none), objA D (.deferred (some []))]) ++ FX) := by
    have h1 := H.newO ⟨rfl, rfl, rfl, rfl⟩ hD
    have h2 := h1.newO ⟨rfl, rfl, rfl, rfl⟩ hll
    rw [hFX]
    refine h2.perm ?_
    (refine perm_cnt fun ff gg h0 hc ha hpm => ?_; simp only [ha, hc, h0]; omega)
  clear H
  refine callV (h := ?h1) (hr := ?h2) (R := fun e w2 => e = .returned (.tuple #[]) ∧ ((∃ x, Inv (nsecs t) x ∧ Hp B w0 w2 (objA hl (rec .ready none) :: objA D (.deferred (some [])) :: Lk (nsecs t) x)) ∨ ∃ y, Stop y ∧ Hp B w0 w2 (objA hl (rec .done (some .ret)) :: objA D (.deferred (some [])) :: Lr y)))
  case h2 =>
    rintro e w2 ⟨rfl, ⟨x, hx, Hx⟩ | ⟨y, hs, Hy⟩⟩
    · exact ⟨_, rfl, .inl ⟨Hx.obj (.head _), hend x D _ hx Hx.putO.drop⟩⟩
    · exact ⟨_, rfl, .inr (.inl ⟨Hy.obj (.head _), hret y D _ hs Hy.putO.drop⟩)⟩
  apply sectorsC.ok; unfold sectorsC.vc
  -- a sector is handed on
  have one : ∀ (k : Nat) (x : σ), k < nsecs t → Inv k x → ∀ (w' : World) (p : Option Addr) (cp : Nat) (G : List Asn) (R : Ending → World → Prop), (p = none → (sec t k).length = 0) → (∀ W, Chg (feet (Lk k x ++ [objA hl (rec .ready none)])) w' W → Cells W p (bcells (sec t k))) →
      Hp B w0 w' ((Lk k x ++ [objA hl (rec .ready none)]) ++ G) →
      (∀ e w3, ((e = .returned (.bool true) ∧ ∃ x', Inv (k + 1) x' ∧ Hp B w0 w3 ((Lk (k + 1) x' ++ [objA hl (rec .ready none)]) ++ G)) ∨ (e = .returned (.bool false) ∧ ∃ y, Stop y ∧ Hp B w0 w3 (objA hl (rec .done (some .ret)) :: (Lr y ++ G)))) → R e w3) →
      CallX Go.Proofs.Try.prog (.func (.yield hl) #[] #[]) [.int .i64 (k : Int), .slice p (sec t k).length cp] w' R := by
    intro k x hk hx w' p cp G R hp hc Hy hR
    have hA : Hp B w0 w' (objA hl (rec .ready none) :: (Lk k x ++ G)) := by
      refine Hy.perm ?_
      (refine perm_cnt fun ff gg h0 hc ha hpm => ?_; simp only [ha, hc, h0]; omega)
    have hready := hA.obj (.head _)
    refine hy ((k : Int), p, (sec t k).length, cp) w' R (hround k x hk hx w' p cp (objA hl (rec .busy none) :: G) _ _ _ _ hp ?_ ?_ ?_) hready
    · intro k0 hk0
      have hB := hA.putO (o' := rec .busy none)
      refine ⟨hready, hk0 _ (hB.perm (by (refine perm_cnt fun ff gg h0 hc ha hpm => ?_; simp only [ha, hc, h0]; omega))) fun W hW => hc W ?_⟩
      have h1 : Chg [hl] w' (w'.putObj hl (rec .busy none)) := (Hp.putO (Hp.start1 (a := objA hl (rec .ready none)) (hA.ok _ (.head _)))).chg
      refine h1.trans hW (fun k hk => ?_) fun k hk => .inl ?_
      · rw [feet_append]; exact List.mem_append_right _ (by simpa [feet, objA, Asn.foot] using hk)
      · rw [feet_append]; exact List.mem_append_left _ hk
    · intro w3 x' hx' H3
      have hC : Hp B w0 w3 (objA hl (rec .busy none) :: (Lk (k + 1) x' ++ G)) := H3.perm (by (refine perm_cnt fun ff gg h0 hc ha hpm => ?_; simp only [ha, hc, h0]; omega))
      exact ⟨hC.obj (.head _), hR _ _ (.inl ⟨rfl, x', hx', hC.putO.perm (by (refine perm_cnt fun ff gg h0 hc ha hpm => ?_; simp only [ha, hc, h0]; omega))⟩)⟩
    · intro w3 y hs H3
      have hC : Hp B w0 w3 (objA hl (rec .busy none) :: (Lr y ++ G)) := H3.perm (by (refine perm_cnt fun ff gg h0 hc ha hpm => ?_; simp only [ha, hc, h0]; omega))
      exact ⟨hC.obj (.head _), hR _ _ (.inr ⟨rfl, y, hs, hC.putO⟩)⟩
  intro b w1 hn
  have H := H2.new (cs := [.int .u8 0, .int .u8 0, .int .u8 0, .int .u8 0, .int .u8 0, .int .u8 0, .int .u8 0, .int .u8 0]) (by exact ⟨rfl, rfl, rfl, rfl⟩) hn; clear hn H2
  have memF : ∀ (L : List Asn) (q : Asn), q ∈ FX → q ∈ L ++ FX := fun L q h => List.mem_append_right _ h
  have mF1 : Asn.blk fb [.slice a t.length c] 46 ∈ FX := by rw [hFX]; exact .head _
  have mF2 : Asn.own 5 1 a t.length c (bcells t) ∈ FX := by rw [hFX]; exact .tail _ (.head _)
  have hz : [Value.int .u8 0, .int .u8 0, .int .u8 0, .int .u8 0, .int .u8 0, .int .u8 0, .int .u8 0, .int .u8 0] = bcells ((be (t.length : Int) 8).take 0) ++ List.replicate (8 - 0) (Value.int .u8 0) := by simp [bcells, List.replicate]
  rw [hz] at H
  refine LoopP.mk (fun m s w' => ∃ k : Nat, m = 8 - k ∧ k ≤ 8 ∧ s = (k : Int) ∧ Hp B w0 w' (.blk b (bcells ((be (t.length : Int) 8).take k) ++ List.replicate (8 - k) (Value.int .u8 0)) 121 :: ((Lk 0 x0 ++ [objA hl (rec .ready none), objA D (.deferred (some []))]) ++ FX))) 8 ⟨0, rfl, by omega, rfl, H⟩ ?_
  clear H w1 hz
  rintro m s w1 next ⟨k, rfl, hk, rfl, H⟩ hnext
  refine br_dec (fun h3 => ?_) (fun h3 => ?_)
  · have hk8 : k < 8 := by omega
    refine ⟨_, _, _, onP_mk rfl (H.ld (cs := [.slice a t.length c]) (by exact ⟨rfl, rfl, rfl, rfl⟩) sclBS (.tail _ (memF _ _ mF1)) rfl), inR64.2 (by omega), inR64.2 (by omega), by omega, ⟨by omega, by omega⟩, ?_⟩
    have e1 : Int.toNat (k : Int) * 1 = k := by omega
    rw [e1, add_lit, shr_b8 (t.length : Int) (7 - k) (by omega) _ (by omega)]
    refine Hp.st H (by exact ⟨rfl, rfl, rfl, rfl⟩) sclU8 rfl rfl (by simp [bcells, be_length]; omega) (cs' := bcells ((be (t.length : Int) 8).take (k + 1)) ++ List.replicate (8 - (k + 1)) (Value.int .u8 0)) ?_ ?_
    · have hg := be_gt (t.length : Int) 8 k hk8
      have hlt : k < (be (t.length : Int) 8).length := by rw [be_length]; exact hk8
      rw [List.take_succ_eq_append_getElem hlt, List.getElem?_eq_getElem hlt] at *
      have hg := Option.some.inj hg
      rw [hg, show 8 - 1 - k = 7 - k by omega]
      have hl : (bcells ((be (t.length : Int) 8).take k)).length = k := by rw [bcells_length, List.length_take, be_length]; omega
      rw [List.set_append, if_neg (by omega), hl, Nat.zero_add, Nat.sub_self, show 8 - k = (8 - (k + 1)) + 1 by omega, List.replicate_succ, List.set_cons_zero]
      simp [bcells]
    clear H
    intro w2 H
    exact ⟨inR64.2 (by omega), hnext (8 - (k + 1)) _ _ (by omega) ⟨k + 1, rfl, by omega, by omega, H⟩⟩
  · have hk8 : k = 8 := by omega
    subst hk8
    have e1 : bcells ((be (t.length : Int) 8).take 8) ++ List.replicate (8 - 8) (Value.int .u8 0) = bcells (sec t 0) := by
      rw [List.take_of_length_le (by rw [be_length]; omega)]; simp [sec]
    rw [e1] at H
    have hl8 : (sec t 0).length = 8 := by rw [sec, be_length]
    have H1 : Hp B w0 w1 ((Lk 0 x0 ++ [objA hl (rec .ready none)]) ++ (.blk b (bcells (sec t 0)) 121 :: objA D (.deferred (some [])) :: FX)) := H.perm (by (refine perm_cnt fun ff gg h0 hc ha hpm => ?_; simp only [ha, hc, h0]; omega))
    have hcb : ∀ W, Chg (feet (Lk 0 x0 ++ [objA hl (rec .ready none)])) w1 W → Cells W (some ⟨b, 0, none⟩) (bcells (sec t 0)) := by
      intro W hW
      have h5 := (H1.useL (M := []) ⟨hW, by simp, by simp, .nil⟩)
      exact (h5.blk (cs := bcells (sec t 0)) (.head _)).cells
    have h8 := fun R => one 0 x0 (by unfold nsecs; omega) hx0 w1 (some ⟨b, 0, none⟩) 8 _ R (fun h => by cases h) hcb H1
    simp only [hl8] at h8
    refine h8 _ ?_
    clear h8 H H1 hcb
    rintro e w2 (⟨rfl, x1, hx1, H⟩ | ⟨rfl, y, hs, H⟩)
    · refine ⟨_, rfl, br_false ?_⟩
      replace H := Hp.drop (H.perm (M := .blk b (bcells (sec t 0)) 121 :: ((Lk (0 + 1) x1 ++ [objA hl (rec .ready none)]) ++ (objA D (.deferred (some [])) :: FX))) (by (refine perm_cnt fun ff gg h0 hc ha hpm => ?_; simp only [ha, hc, h0]; omega)))
      refine LoopP.mk (fun m s w' => ∃ (j : Nat) (x : σ), m = nsecs t - 1 - j ∧ s = ((j * 512 : Nat) : Int) ∧ j + 1 ≤ nsecs t ∧ Inv (j + 1) x ∧ Hp B w0 w' ((Lk (j + 1) x ++ [objA hl (rec .ready none)]) ++ (objA D (.deferred (some [])) :: FX))) (nsecs t - 1) ⟨0, x1, rfl, by omega, by unfold nsecs; omega, hx1, H⟩ ?_
      clear H hx1 x1 w1 w2
      rintro m s w1 next ⟨j, x1, rfl, rfl, hj, hx1, H⟩ hnext
      refine ⟨_, _, _, onP_mk rfl (H.ld (cs := [.slice a t.length c]) (by exact ⟨rfl, rfl, rfl, rfl⟩) sclBS (List.mem_append_right _ (.tail _ mF1)) rfl), br_dec (fun h3 => ?_) (fun h3 => ?_)⟩
      · have hjl : j * 512 < t.length := by omega
        have hjn : j + 1 < nsecs t := by unfold nsecs; omega
        have q2 : Int.tdiv ((j * 512 : Nat) : Int) 512 = (j : Int) := by
          rw [show Int.tdiv ((j * 512 : Nat) : Int) 512 = ((j * 512 / 512 : Nat) : Int) from rfl, Nat.mul_div_cancel _ (by omega)]
        refine ⟨inR64.2 (by omega), _, _, _, onP_mk rfl (H.ld (cs := [.slice a t.length c]) (by exact ⟨rfl, rfl, rfl, rfl⟩) sclBS (List.mem_append_right _ (.tail _ mF1)) rfl), by omega, ?_⟩
        rw [q2]
        have q3 : min (((j * 512 : Nat) : Int) + 512) (t.length : Int) = ((min (j * 512 + 512) t.length : Nat) : Int) := by omega
        rw [q3, Int.toNat_natCast, Int.toNat_natCast]
        have hown := H.ownA (List.mem_append_right _ (.tail _ mF2))
        have hle := hown.le
        refine ⟨inR64.2 (by omega), inR64.2 (by omega), _, _, _, onP_mk rfl (H.ld (cs := [.slice a t.length c]) (by exact ⟨rfl, rfl, rfl, rfl⟩) sclBS (List.mem_append_right _ (.tail _ mF1)) rfl), ⟨by omega, by omega, by omega, by omega⟩, ?_⟩
        have hsl : (sec t (j + 1)).length = min (j * 512 + 512) t.length - j * 512 := by rw [sec, List.length_take, List.length_drop]; omega
        have hcb : ∀ W, Chg (feet (Lk (j + 1) x1 ++ [objA hl (rec .ready none)])) w1 W → Cells W (slA a (min (j * 512 + 512) t.length) (j * 512) 1) (bcells (sec t (j + 1))) := by
          intro W hW
          have h5 := (H.useL (M := []) ⟨hW, by simp, by simp, .nil⟩)
          exact chunk_cells ((h5.ownA (.tail _ mF2)).cells) rfl hjl
        have h8 := fun R => one (j + 1) x1 hjn hx1 w1 (slA a (min (j * 512 + 512) t.length) (j * 512) 1) (min (j * 512 + 512) t.length - j * 512) _ R (fun h => by
          have := slA_none h
          subst this
          rcases hown.2 with ⟨_, h6, _⟩ | ⟨_, _, _, h6, _⟩
          · omega
          · cases h6) hcb H
        simp only [hsl, show ((j + 1 : Nat) : Int) = 1 + (j : Int) by omega] at h8
        refine h8 _ ?_
        clear h8 hcb H hown
        rintro e w2 (⟨rfl, x2, hx2, H⟩ | ⟨rfl, y, hs, H⟩)
        · exact ⟨_, rfl, br_false ⟨inR64.2 (by omega), hnext (nsecs t - 1 - (j + 1)) _ _ (by omega) ⟨j + 1, x2, rfl, by omega, by omega, hx2, H⟩⟩⟩
        · refine ⟨_, rfl, br_true ⟨rfl, .inr ⟨y, hs, ?_⟩⟩⟩
          exact Hp.takeL (R := FX) (H.perm (by (refine perm_cnt fun ff gg h0 hc ha hpm => ?_; simp only [ha, hc, h0]; omega)))
      · have hjn : j + 1 = nsecs t := by unfold nsecs at hj ⊢; omega
        refine ⟨rfl, .inl ⟨x1, by rw [← hjn]; exact hx1, ?_⟩⟩
        rw [← hjn]
        exact Hp.takeL (R := FX) (H.perm (by (refine perm_cnt fun ff gg h0 hc ha hpm => ?_; simp only [ha, hc, h0]; omega)))
    · refine ⟨_, rfl, br_true ⟨rfl, .inr ⟨y, hs, ?_⟩⟩⟩
      exact Hp.takeL (R := .blk b (bcells (sec t 0)) 121 :: FX) (H.perm (by (refine perm_cnt fun ff gg h0 hc ha hpm => ?_; simp only [ha, hc, h0]; omega)))
end Go.Proofs.Ytdpkamajecmebaa
