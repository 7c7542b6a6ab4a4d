/- Vault: Write. -/
import Derived.Test.YtiagjabdfppgkaaGreatUd
set_option linter.unusedVariables false
set_option linter.unusedSimpArgs false
set_option maxRecDepth 100000
namespace Go.Proofs.YtiagjabdfppgkaaGreat
open Go Go.Vc Go.Vault

theorem buildOne {P : Program} {t e : TypeId} {sz by_ : Nat} (T : Elt P t e sz by_) (h0 : 0 < sz) (hs : sz ≤ 16777216) {cs : List Value} (hl : cs.length = sz) : BuildS P t 1 [(0, .agg cs.toArray)] e cs := by
  obtain ⟨hu, i, z, hi, hz, rfl, rfl, hzs⟩ := T
  have h1 : ¬ (z.cells.size ≠ i.size ∨ i.size = 0 ∨ 1 * i.size > 16777216) := by omega
  simp only [BuildS, buildSL, hu, hi, hz, Bool.or_eq_true, decide_eq_true_eq, bne_iff_ne]
  rw [if_neg (by simp [hzs]; omega)]
  have e0 : (Value.agg cs.toArray).cells = cs.toArray := rfl
  simp only [fillL, repL, e0, List.append_nil, Nat.zero_mul, Array.length_toList]
  rw [if_neg (by simp [hl, hzs])]
  simp only
  rw [over_all _ _ (by simp [hl, hzs])]
theorem undSU8 : Tryz.prog.underlying 111 = some (.slice 5) := by kernel_rfl
theorem sclU8 : Scl Tryz.prog 5 := scl_of (by kernel_rfl)
theorem over_pad {b : List UInt8} (h : b.length ≤ 512) : over (bcells b) 0 (bcells zsec) = bcells (pad b) := by
  have e1 : bcells zsec = [] ++ (bcells (List.replicate b.length 0) ++ bcells (List.replicate (512 - b.length) 0)) := by
    rw [List.nil_append, ← bcells_append, List.replicate_append_replicate, zsec]
    congr 2; omega
  rw [e1]
  have := over_app (bcells b) [] (bcells (List.replicate b.length 0)) (bcells (List.replicate (512 - b.length) 0)) (by simp [bcells])
  rw [List.length_nil] at this
  rw [this, List.nil_append, ← bcells_append]; rfl
theorem pad_len {b : List UInt8} (h : b.length ≤ 512) : (pad b).length = 512 := by simp only [pad, List.length_append, List.length_replicate]; omega
theorem addN_perm : ∀ (n : Nat) (l : List Nat), l.Pairwise (· < ·) → (addN n l).Perm (n :: l.filter fun x => !decide (x = n))
  | n, [], _ => .refl _
  | n, x :: r, h => by
    have hp := List.pairwise_cons.1 h
    have hgt : ∀ y ∈ r, x < y := hp.1
    simp only [addN]
    split
    · rename_i h1
      rw [List.filter_eq_self.2]
      intro y hy
      have : n < y := by
        rcases List.mem_cons.1 hy with rfl | hy
        · exact h1
        · have := hgt y hy; omega
      have h2 : y ≠ n := by omega
      simp [h2]
    · split
      · rename_i h2
        subst h2
        rw [List.filter_cons]
        simp only [decide_true, Bool.not_true, Bool.false_eq_true, if_false]
        rw [List.filter_eq_self.2]
        intro y hy
        have := hgt y hy
        have h2 : y ≠ n := by omega
        simp [h2]
      · rename_i h1 h2
        rw [List.filter_cons]
        have h3 : x ≠ n := fun e => h2 e.symm
        simp only [h3, decide_false, Bool.not_false, if_true]
        exact ((addN_perm n r hp.2).cons x).trans (.swap _ _ _)
theorem mem_addN {n m : Nat} : ∀ {l : List Nat}, m ∈ addN n l ↔ m = n ∨ m ∈ l
  | [] => by simp [addN]
  | x :: r => by
    simp only [addN]
    split
    · simp
    · split
      · rename_i h; subst h; simp
      · simp only [List.mem_cons, mem_addN (l := r)]
        constructor
        · rintro (h | h | h) <;> simp [h]
        · rintro (h | h | h) <;> simp [h]
theorem addN_sorted (n : Nat) : ∀ (l : List Nat), l.Pairwise (· < ·) → (addN n l).Pairwise (· < ·)
  | [], _ => by simp [addN]
  | x :: r, h => by
    have hp := List.pairwise_cons.1 h
    simp only [addN]
    split
    · rename_i h1
      refine List.pairwise_cons.2 ⟨fun y hy => ?_, h⟩
      rcases List.mem_cons.1 hy with rfl | hy
      · exact h1
      · have := hp.1 y hy; omega
    · split
      · exact h
      · rename_i h1 h2
        refine List.pairwise_cons.2 ⟨fun y hy => ?_, addN_sorted n r hp.2⟩
        rcases mem_addN.1 hy with rfl | hy
        · omega
        · exact hp.1 y hy
theorem _root_.Go.Vault.Fl.Ok.write {f : Fl} (h : f.Ok) {n : Nat} (hn : n ≤ f.now.length) {b : List UInt8} (hb : b.length ≤ 512) : (f.write n b).Ok := by
  have hl : (f.write n b).now.length = if n = f.now.length then f.now.length + 1 else f.now.length := by
    simp only [Fl.write]; split <;> simp
  refine ⟨?_, h.firm, addN_sorted n _ h.since, ?_, ?_⟩
  · intro s hs
    simp only [Fl.write] at hs
    split at hs
    · rcases List.mem_append.1 hs with hs | hs
      · exact h.now s hs
      · rw [List.mem_singleton.1 hs]; exact pad_len hb
    · rcases List.mem_or_eq_of_mem_set hs with hs | rfl
      · exact h.now s hs
      · exact pad_len hb
  · intro m hm
    rw [hl]
    rcases mem_addN.1 hm with rfl | hm
    · split <;> omega
    · have := h.below m hm
      split <;> omega
  · have := h.len
    show f.firm.length ≤ _
    rw [hl]; split <;> omega
theorem put_keys {al : List (Int × Value)} {l : List Nat} (hs : l.Pairwise (· < ·)) (hp : (al.map (·.1)).Perm (l.map fun n : Nat => (n : Int))) (n : Nat) : ((aput al (n : Int) (.bool true)).map (·.1)).Perm ((addN n l).map fun n : Nat => (n : Int)) := by
  have hnd : KApart al := by
    rw [KApart, hp.nodup_iff]
    exact List.pairwise_map.2 (hs.imp fun h e => by omega)
  refine ((aput_perm hnd _ _).map _).trans ?_
  refine List.Perm.trans ?_ ((addN_perm n l hs).map _).symm
  simp only [List.map_cons]
  refine List.Perm.cons _ ?_
  have e1 : (acut al (n : Int)).map (·.1) = (al.map (·.1)).filter fun x => !decide (x = (n : Int)) := by
    simp only [acut, List.filter_map]; rfl
  have e2 : (l.filter fun x => !decide (x = n)).map (fun n : Nat => (n : Int)) = (l.map fun n : Nat => (n : Int)).filter fun x => !decide (x = (n : Int)) := by
    rw [List.filter_map]
    congr 1
    apply List.filter_congr
    intro x _
    simp [Function.comp_def]
    exact ⟨fun h => by omega, fun h => by omega⟩
  rw [e1, e2]
  exact hp.filter _

set_option maxHeartbeats 4000000 in
theorem write_spec (x : DW) (d : Dk) (hok : x.Ok d) {N : Nat} (few : d.Few N) (hN : N ≤ 1073741824) (hu : (d.used : Int) ≤ 9223372036854775807) (n : ByteArray) (i : Int) (ba : Option Addr) (bc : Nat) (b : List UInt8) (w : World) (st : Std w (dkL x d))
    (hc : ∀ W, Chg (feet (dkL x d)) w W → Cells W ba (bcells b)) (h0 : ba = none → b.length = 0) :
    Calls Tryz.prog 55 #[.pointer (some ⟨x.b, 0, none⟩), .string n, .int .i64 i, .slice ba b.length bc] w (DkPost x d w (.int .i64 (d.write n i b).2) (d.write n i b).1) := by
  apply write.ok; unfold write.vc DkPost
  refine callV (find_spec x d hok n w st) ?_
  rintro e w1 ⟨rfl, K⟩
  have H := (Hp.startL st).ext0 K
  clear K
  generalize hB : feet (dkL x d) = B at H hc ⊢
  have hdk := dkL_eq x d
  refine ⟨_, rfl, ?_⟩
  rw [hdk] at H
  refine onP_mk rfl ?_
  ((repeat apply Exists.intro); first | refine ⟨H.ld (by exact ⟨rfl, rfl, rfl, rfl⟩) (by first | exact sclInt | exact sclBool | exact sclStr | exact sclMSI | exact sclSF | exact sclPF | exact sclSS | exact sclMIB | exact sclSC | exact sclC) (by repeat first | exact .head _ | refine .tail _ ?_) rfl, ?_⟩)
  rw [← hdk] at H
  refine br_mk (fun h => ?_) (fun h => ?_)
  · have e1 : d.write n i b = (d, 93) := by simp [Dk.write, h]
    rw [e1]
    exact ⟨rfl, x, rfl, hok, H⟩
  cases hk : d.find n with
  | none =>
    refine ⟨_, eqv_ptrE undPF, ?_⟩
    refine br_mk (fun _ => ?_) (fun h => by cases h)
    have e1 : d.write n i b = (d, 90) := by simp [Dk.write, h, hk]
    rw [e1]
    exact ⟨rfl, x, rfl, hok, H⟩
  | some k =>
    obtain ⟨f, g, h1, h2, h3⟩ := hok.at (hok.dk.find hk)
    have hg := fileOk hok h2
    have hlen : d.len k = g.now.length := by rw [Dk.len, h3]
    have hnow : g.now.length ≤ N := few.now g (List.mem_of_getElem? h2)
    rw [fptr_at h1]
    refine ⟨_, eqv_ptrE undPF, ?_⟩
    refine br_mk (fun h => by cases h) (fun _ => ?_)
    have hplace : ∀ w', (i < 0 ∨ (g.now.length : Int) < i ∨ 512 < b.length) → Hp B w w' (dkL x d) → Ending.returned (.int .i64 91) = .returned (.int .i64 (d.write n i b).2) ∧ ∃ x', x'.b = x.b ∧ x'.Ok (d.write n i b).1 ∧ Hp B w w' (dkL x' (d.write n i b).1) := by
      intro w' hp H
      have e1 : d.write n i b = (d, 91) := by
        simp only [Dk.write, h, hk, hlen, Bool.false_eq_true, if_false, if_pos hp]
      rw [e1]
      exact ⟨rfl, x, rfl, hok, H⟩
    refine br_dec (fun h4 => hplace _ (.inl h4) H) (fun h4 => ?_)
    have hop := dk_open h1 h2
    have m1 : Asn.blk f.b [.slice f.an g.now.length f.cn, .slice f.af g.firm.length f.cf, .map (some f.bm)] 97 ∈ dkL x d := hop.mem_iff.2 (List.mem_append_left _ (.head _))
    refine onP_mk rfl ?_
    refine ⟨_, _, _, H.ld (by exact ⟨rfl, rfl, rfl, rfl⟩) sclSS m1 rfl, ?_⟩
    refine br_dec (fun h5 => hplace _ (.inr (.inl h5)) H) (fun h5 => ?_)
    refine br_dec (fun h6 => hplace _ (.inr (.inr (by omega))) H) (fun h6 => ?_)
    replace H := H.drew
    refine onP_mk rfl ?_
    refine ⟨_, _, _, H.ld (by exact ⟨rfl, rfl, rfl, rfl⟩) sclSS m1 rfl, ?_⟩
    have hnp : ¬ (i < 0 ∨ (d.len k : Int) < i ∨ 512 < b.length) := by rw [hlen]; omega
    have hiN : (i.toNat : Int) = i := by omega
    have hb512 : b.length ≤ 512 := by omega
    -- the end that both ways share
    have last : ∀ (w6 : World) (y : DW) (q : Dk), y.b = x.b → y.Ok q → Hp B w w6 (dkL y q) → d.write n i b = (q.dies, q.dies.code) →
        CallV Tryz.prog 83 [.pointer (some ⟨x.b, 0, none⟩)] w6 fun e w' => ∃ j, e = .returned (.int .i64 j) ∧ Ending.returned (.int .i64 j) = .returned (.int .i64 (d.write n i b).2) ∧ ∃ x', x'.b = x.b ∧ x'.Ok (d.write n i b).1 ∧ Hp B w w' (dkL x' (d.write n i b).1) := by
      intro w6 y q hy hyok H e1
      have hds := done_spec y q hyok.dk.armed w6 H.std
      rw [hy] at hds
      refine callV hds ?_
      rintro e w7 ⟨rfl, H'⟩
      rw [e1]
      exact ⟨_, rfl, rfl, y, hy, hyok.dies, H.useAll H'⟩
    refine br_dec (fun h7 => ?_) (fun h7 => ?_)
    · -- a sector more
      rw [hdk] at H
      refine onP_mk rfl ?_
      ((repeat apply Exists.intro); first | refine ⟨H.ld (by exact ⟨rfl, rfl, rfl, rfl⟩) (by first | exact sclInt | exact sclBool | exact sclStr | exact sclMSI | exact sclSF | exact sclPF | exact sclSS | exact sclMIB | exact sclSC | exact sclC) (by repeat first | exact .head _ | refine .tail _ ?_) rfl, ?_⟩)
      rw [← hdk] at H
      refine callV (used_spec x d hok hu _ H.std) ?_
      rintro e w2 ⟨rfl, H'⟩; replace H := H.ext0 H'; clear H'
      refine ⟨_, rfl, ?_⟩
      rw [hdk] at H
      refine ⟨H.ld (by exact ⟨rfl, rfl, rfl, rfl⟩) sclInt (.head _) rfl, ?_⟩
      rw [← hdk] at H
      refine br_dec (fun h8 => ?_) (fun h8 => ?_)
      · have e1 : d.write n i b = (d, 94) := by
          simp only [Dk.write, h, hk, Bool.false_eq_true, if_false, if_neg hnp]
          rw [if_pos ⟨by rw [hlen]; exact h7, by omega⟩]
        rw [e1]
        exact ⟨rfl, x, rfl, hok, H⟩
      have hnf : ¬ (i = (d.len k : Int) ∧ d.room ≤ d.used) := by omega
      refine callV (denies_spec x d hok.dk.denied w2 H.std) ?_
      rintro e w3 ⟨rfl, H'⟩; replace H := H.useAll H'; clear H'
      refine ⟨_, rfl, ?_⟩
      refine br_mk (fun h9 => ?_) (fun h9 => ?_)
      · have e1 : d.write n i b = (d.denies, 95) := by
          simp only [Dk.write, h, hk, Bool.false_eq_true, if_false, if_neg hnp, if_neg hnf, h9, if_true]
        rw [e1]
        exact ⟨rfl, x, rfl, hok.denies, H⟩
      have e1 : d.write n i b = ((d.denies.put k (g.write i.toNat b)).dies, (d.denies.put k (g.write i.toNat b)).dies.code) := by
        simp only [Dk.write, h, hk, Bool.false_eq_true, if_false, if_neg hnp, if_neg hnf, h9, h3]
      have hok' := hok.denies
      have hq2 : d.denies.files[k]? = some g := h2
      have hqf := hok'.dk
      generalize d.denies = q at H e1 hok' hq2 hqf
      replace H := H.perm (dk_open h1 hq2)
      simp only [flL, List.cons_append, List.nil_append] at H
      rw [zlSec]
      intro bb w4 hn; replace H := H.new (by exact ⟨rfl, rfl, rfl, rfl⟩) hn; clear hn
      have hc4 : Cells w4 ba (bcells b) := hc w4 H.chg
      refine Hp.cpy H (by exact ⟨rfl, rfl, rfl, rfl⟩) undSU8 sclU8.size (Cells.src undSU8 hc4 (by rw [bcells_length, Nat.mul_one]) (by intro u hu; obtain ⟨_, _, rfl⟩ := List.mem_map.1 hu; rfl) h0) hb512 (by simp [bcells, zsec]; omega) ?_
      clear H; intro w5 H
      rw [over_pad hb512] at H
      refine onP_mk rfl ?_
      ((repeat apply Exists.intro); first | refine ⟨H.ld (by exact ⟨rfl, rfl, rfl, rfl⟩) (by first | exact sclInt | exact sclBool | exact sclStr | exact sclMSI | exact sclSF | exact sclPF | exact sclSS | exact sclMIB | exact sclSC | exact sclC) (by repeat first | exact .head _ | refine .tail _ ?_) rfl, ?_⟩)
      refine br_dec (fun _ => ?_) (fun h => absurd h7 h)
      replace H := H.drew
      refine onP_mk rfl ?_
      ((repeat apply Exists.intro); first | refine ⟨H.ld (by exact ⟨rfl, rfl, rfl, rfl⟩) (by first | exact sclInt | exact sclBool | exact sclStr | exact sclMSI | exact sclSF | exact sclPF | exact sclSS | exact sclMIB | exact sclSC | exact sclC) (by repeat first | exact .head _ | refine .tail _ ?_) rfl, ?_⟩)
      have hpl : (bcells (pad b)).length = 512 := by rw [bcells_length, pad_len hb512]
      refine ⟨_, H.ldA (by exact ⟨rfl, rfl, rfl, rfl⟩) aggSec (.head _) (by rw [List.drop_zero, List.take_of_length_le (by omega)]) hpl, ?_⟩
      refine ⟨_, _, buildOne eltSec (by omega) (by omega) hpl, ?_⟩
      intro b1 w6 hn; replace H := H.new (by exact ⟨rfl, rfl, rfl, rfl⟩) hn; clear hn
      refine ⟨H.ld (by exact ⟨rfl, rfl, rfl, rfl⟩) sclSS (.tail _ (.tail _ (.head _))) rfl, ?_⟩
      refine Hp.app eltSec (by omega) H.pull3 (by exact ⟨rfl, rfl, rfl, rfl⟩) (Blk.src undSS ((H.go (w' := w6.drew) (by exact ⟨rfl, rfl, rfl, rfl⟩)).blk (.head _)) (by rw [hpl]) (by simp [bcells]; intros; rfl)) (by simp only [maxLen]; omega) (by omega) ?_
      clear H; intro a' c' w7 H
      replace H := H.drop1
      refine onP_mk rfl ?_
      ((first | (apply Hp.st; (case H => first | exact H | exact H.pull1 | exact H.pull2 | exact H.pull3 | exact H.pull4 | exact H.pull5 | exact H.pull6 | exact H.pull7); (case e => exact ⟨rfl, rfl, rfl, rfl⟩); (case S => exact (by first | exact sclInt | exact sclBool | exact sclStr | exact sclMSI | exact sclSF | exact sclPF | exact sclSS | exact sclMIB | exact sclSC | exact sclC)); (case hv => exact rfl); (case h1 => exact rfl); (case ho => exact Nat.le_of_ble_eq_true rfl); (case hc => exact rfl))); clear H; intro _ H; (try simp only [over, List.set_cons_zero, List.set_cons_succ] at H))
      rename_i w8
      replace H := H.drew
      refine onP_mk rfl ?_
      ((repeat apply Exists.intro); first | refine ⟨H.ld (by exact ⟨rfl, rfl, rfl, rfl⟩) (by first | exact sclInt | exact sclBool | exact sclStr | exact sclMSI | exact sclSF | exact sclPF | exact sclSS | exact sclMIB | exact sclSC | exact sclC) (by repeat first | exact .head _ | refine .tail _ ?_) rfl, ?_⟩)
      refine onP_mk rfl ?_
      ((repeat apply Exists.intro); first | refine ⟨H.ld (by exact ⟨rfl, rfl, rfl, rfl⟩) (by first | exact sclInt | exact sclBool | exact sclStr | exact sclMSI | exact sclSF | exact sclPF | exact sclSS | exact sclMIB | exact sclSC | exact sclC) (by repeat first | exact .head _ | refine .tail _ ?_) rfl, ?_⟩)
      refine ⟨_, H.ldA (by exact ⟨rfl, rfl, rfl, rfl⟩) aggSec (.tail _ (.tail _ (.head _))) (by rw [List.drop_zero, List.take_of_length_le (by omega)]) hpl, ?_⟩
      have hne : a' ≠ none := by
        rintro rfl
        have hO : Own w8.drew 0 117 512 none (g.now.length + 1) c' (secs g.now ++ bcells (pad b)) := H.ok _ (.tail _ (.head _))
        rcases hO.2 with ⟨_, h, _⟩ | ⟨_, _, _, h, _⟩
        · omega
        · cases h
      obtain ⟨ad, had⟩ := Option.ne_none_iff_exists'.1 hne
      refine onP_mk had ⟨⟨by omega, by omega⟩, ?_⟩
      have hx1 : secs g.now ++ bcells (pad b) = secs (g.now ++ [pad b]) := by rw [secs_append, secs_one]
      have hok1 : ∀ s ∈ g.now ++ [pad b], s.length = 512 := fun s hs => by
        rcases List.mem_append.1 hs with hs | hs
        · exact hg.now s hs
        · rw [List.mem_singleton.1 hs]; exact pad_len hb512
      have hset : (g.now ++ [pad b]).set i.toNat (pad b) = g.now ++ [pad b] := by
        have : i.toNat = g.now.length := by omega
        rw [this, List.set_append_right _ _ (Nat.le_refl _), Nat.sub_self]; rfl
      rw [hx1] at H
      refine Hp.stO H.pull1 (by exact ⟨rfl, rfl, rfl, rfl⟩) had (by rw [aggSec.size]; simp [Value.cells, hpl]) (by simp [Value.cells, bcells]; intros; rfl) (by simp only [Value.cells, List.size_toArray, hpl]; rw [secs_len hok1, List.length_append, List.length_singleton]; omega)
        (by simp only [Value.cells]; exact (secs_set hok1 (pad_len hb512) (by rw [List.length_append, List.length_singleton]; omega)).trans (by rw [hset])) ?_
      clear H; intro w9 H
      rw [← hiN]
      refine Hp.menI mapIB H.pull4 (by exact ⟨rfl, rfl, rfl, rfl⟩) ?_
      clear H; intro w10 H
      rw [hiN]
      refine last w10 (putX x k { f with an := a', cn := c', al := aput f.al (i.toNat : Int) (.bool true) }) (q.put k (g.write i.toNat b)) rfl (hok'.put (hg.write (by omega) hb512) (put_keys hg.since (hok'.keys k f g h1 hq2) i.toNat)) ?_ e1
      have hp := dk_shut (f' := { f with an := a', cn := c', al := aput f.al (i.toNat : Int) (.bool true) }) (g' := g.write i.toNat b) h1 hq2 rfl
      refine Hp.perm ?_ hp.symm
      have hw : (g.write i.toNat b).now = g.now ++ [pad b] := by simp only [Fl.write]; rw [if_pos (by omega)]
      simp only [flL, hw, List.length_append, List.length_singleton, List.cons_append, List.nil_append]
      have H2 : Hp B w w10 (.blk bb (bcells (pad b)) 117 :: .blk f.b [.slice a' (g.now.length + 1) c', .slice f.af g.firm.length f.cf, .map (some f.bm)] 97 :: .own 117 512 a' (g.now.length + 1) c' (secs (g.now ++ [pad b])) :: .own 117 512 f.af g.firm.length f.cf (secs g.firm) :: .imap f.bm .i64 (aput f.al (i.toNat : Int) (.bool true)) :: dkB x q k) := by
        ((try dsimp only [List.cons_append, List.nil_append]); (try dsimp only [List.cons_append, List.nil_append] at H); refine Hp.perm H ?_; (repeat (apply perm_step; (focus first | exact perm_p0 | exact perm_p1 | exact perm_p2 | exact perm_p3 | exact perm_p4 | exact perm_p5 | exact perm_p6 | exact perm_p7 | exact perm_p8 | exact perm_p9))); exact List.Perm.refl _)
      exact H2.drop
    · -- a sector that is there
      have hnf : ¬ (i = (d.len k : Int) ∧ d.room ≤ d.used) := by rw [hlen]; omega
      refine callV (denies_spec x d hok.dk.denied _ H.std) ?_
      rintro e w3 ⟨rfl, H'⟩; replace H := H.useAll H'; clear H'
      refine ⟨_, rfl, ?_⟩
      refine br_mk (fun h9 => ?_) (fun h9 => ?_)
      · have e1 : d.write n i b = (d.denies, 95) := by
          simp only [Dk.write, h, hk, Bool.false_eq_true, if_false, if_neg hnp, if_neg hnf, h9, if_true]
        rw [e1]
        exact ⟨rfl, x, rfl, hok.denies, H⟩
      have e1 : d.write n i b = ((d.denies.put k (g.write i.toNat b)).dies, (d.denies.put k (g.write i.toNat b)).dies.code) := by
        simp only [Dk.write, h, hk, Bool.false_eq_true, if_false, if_neg hnp, if_neg hnf, h9, h3]
      have hok' := hok.denies
      have hq2 : d.denies.files[k]? = some g := h2
      generalize d.denies = q at H e1 hok' hq2
      replace H := H.perm (dk_open h1 hq2)
      simp only [flL, List.cons_append, List.nil_append] at H
      rw [zlSec]
      intro bb w4 hn; replace H := H.new (by exact ⟨rfl, rfl, rfl, rfl⟩) hn; clear hn
      have hc4 : Cells w4 ba (bcells b) := hc w4 H.chg
      refine Hp.cpy H (by exact ⟨rfl, rfl, rfl, rfl⟩) undSU8 sclU8.size (Cells.src undSU8 hc4 (by rw [bcells_length, Nat.mul_one]) (by intro u hu; obtain ⟨_, _, rfl⟩ := List.mem_map.1 hu; rfl) h0) hb512 (by simp [bcells, zsec]; omega) ?_
      clear H; intro w5 H
      rw [over_pad hb512] at H
      refine onP_mk rfl ?_
      ((repeat apply Exists.intro); first | refine ⟨H.ld (by exact ⟨rfl, rfl, rfl, rfl⟩) (by first | exact sclInt | exact sclBool | exact sclStr | exact sclMSI | exact sclSF | exact sclPF | exact sclSS | exact sclMIB | exact sclSC | exact sclC) (by repeat first | exact .head _ | refine .tail _ ?_) rfl, ?_⟩)
      refine br_dec (fun h => absurd h h7) (fun _ => ?_)
      replace H := H.drew
      refine onP_mk rfl ?_
      ((repeat apply Exists.intro); first | refine ⟨H.ld (by exact ⟨rfl, rfl, rfl, rfl⟩) (by first | exact sclInt | exact sclBool | exact sclStr | exact sclMSI | exact sclSF | exact sclPF | exact sclSS | exact sclMIB | exact sclSC | exact sclC) (by repeat first | exact .head _ | refine .tail _ ?_) rfl, ?_⟩)
      refine onP_mk rfl ?_
      ((repeat apply Exists.intro); first | refine ⟨H.ld (by exact ⟨rfl, rfl, rfl, rfl⟩) (by first | exact sclInt | exact sclBool | exact sclStr | exact sclMSI | exact sclSF | exact sclPF | exact sclSS | exact sclMIB | exact sclSC | exact sclC) (by repeat first | exact .head _ | refine .tail _ ?_) rfl, ?_⟩)
      have hpl : (bcells (pad b)).length = 512 := by rw [bcells_length, pad_len hb512]
      refine ⟨_, H.ldA (by exact ⟨rfl, rfl, rfl, rfl⟩) aggSec (.head _) (by rw [List.drop_zero, List.take_of_length_le (by omega)]) hpl, ?_⟩
      have hne : f.an ≠ none := by
        intro hn0
        have hO : Own w5.drew 0 117 512 f.an g.now.length f.cn (secs g.now) := H.ok _ (.tail _ (.tail _ (.head _)))
        rw [hn0] at hO
        rcases hO.2 with ⟨_, h, _⟩ | ⟨_, _, _, h, _⟩
        · omega
        · cases h
      obtain ⟨ad, had⟩ := Option.ne_none_iff_exists'.1 hne
      refine onP_mk had ⟨⟨by omega, by omega⟩, ?_⟩
      refine Hp.stO H.pull2 (by exact ⟨rfl, rfl, rfl, rfl⟩) had (by rw [aggSec.size]; simp [Value.cells, hpl]) (by simp [Value.cells, bcells]; intros; rfl) (by simp only [Value.cells, List.size_toArray, hpl]; rw [secs_len hg.now]; omega)
        (by simp only [Value.cells]; exact secs_set hg.now (pad_len hb512) (by omega)) ?_
      clear H; intro w9 H
      rw [← hiN]
      refine Hp.menI mapIB H.pull4 (by exact ⟨rfl, rfl, rfl, rfl⟩) ?_
      clear H; intro w10 H
      rw [hiN]
      refine last w10 (putX x k { f with al := aput f.al (i.toNat : Int) (.bool true) }) (q.put k (g.write i.toNat b)) rfl (hok'.put (hg.write (by omega) hb512) (put_keys hg.since (hok'.keys k f g h1 hq2) i.toNat)) ?_ e1
      have hp := dk_shut (f' := { f with al := aput f.al (i.toNat : Int) (.bool true) }) (g' := g.write i.toNat b) h1 hq2 rfl
      refine Hp.perm ?_ hp.symm
      have hw : (g.write i.toNat b).now = g.now.set i.toNat (pad b) := by simp only [Fl.write]; rw [if_neg (by omega)]
      simp only [flL, hw, List.length_set, List.cons_append, List.nil_append]
      have H2 : Hp B w w10 (.blk bb (bcells (pad b)) 117 :: .blk f.b [.slice f.an g.now.length f.cn, .slice f.af g.firm.length f.cf, .map (some f.bm)] 97 :: .own 117 512 f.an g.now.length f.cn (secs (g.now.set i.toNat (pad b))) :: .own 117 512 f.af g.firm.length f.cf (secs g.firm) :: .imap f.bm .i64 (aput f.al (i.toNat : Int) (.bool true)) :: dkB x q k) := by
        ((try dsimp only [List.cons_append, List.nil_append]); (try dsimp only [List.cons_append, List.nil_append] at H); refine Hp.perm H ?_; (repeat (apply perm_step; (focus first | exact perm_p0 | exact perm_p1 | exact perm_p2 | exact perm_p3 | exact perm_p4 | exact perm_p5 | exact perm_p6 | exact perm_p7 | exact perm_p8 | exact perm_p9))); exact List.Perm.refl _)
      exact H2.drop
end Go.Proofs.YtiagjabdfppgkaaGreat
