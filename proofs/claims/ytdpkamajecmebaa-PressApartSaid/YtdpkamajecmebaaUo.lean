/- Vault: the document's Crash. -/
import Derived.Test.YtdpkamajecmebaaUn
set_option linter.unusedVariables false
set_option linter.unusedSimpArgs false
set_option maxRecDepth 100000
namespace Go.Proofs.Ytdpkamajecmebaa
open Go Go.Vc Go.Vault

def RV0 : RV := ⟨none, 0, [], none, 0, none, 0, none, 0, []⟩
set_option maxHeartbeats 1000000 in
theorem rnew_spec2 (room : Int) (w : World) : Calls Go.Proofs.Try.prog 17 #[.int .i64 room] w fun e w' => e = .returned (RV0.val (Dk.new room)) ∧ Hp [] w w' [] := by
  apply rnew.ok; unfold rnew.vc
  have H := Hp.start w
  (repeat (first | ((repeat apply Exists.intro); first | refine ⟨H.ld (by exact ⟨rfl, rfl, rfl, rfl⟩) (by first | exact sclInt | exact sclBool | exact sclStr | exact rsclN | exact rsclF | exact rsclNN | exact rsclSS | exact rsclSI | exact rsclU) (by repeat first | exact .head _ | refine .tail _ ?_) rfl, ?_⟩ | refine ⟨H.ldA (by exact ⟨rfl, rfl, rfl, rfl⟩) (by first | exact raggD | exact raggF | exact raggO | exact raggN | exact raggA) (by repeat first | exact .head _ | refine .tail _ ?_) rfl rfl, ?_⟩) | (intro _ _ hn; replace H := H.new (by exact ⟨rfl, rfl, rfl, rfl⟩) hn; clear hn) | ((first | (apply Hp.st; (case H => first | exact H | exact H.pull1 | exact H.pull2 | exact H.pull3 | exact H.pull4 | exact H.pull5 | exact H.pull6 | exact H.pull7); (case e => exact ⟨rfl, rfl, rfl, rfl⟩); (case S => exact (by first | exact sclInt | exact sclBool | exact sclStr | exact rsclN | exact rsclF | exact rsclNN | exact rsclSS | exact rsclSI | exact rsclU)); (case hv => exact rfl); (case h1 => exact rfl); (case ho => exact Nat.le_of_ble_eq_true rfl); (case hc => exact rfl)) | (apply Hp.stA; (case H => first | exact H | exact H.pull1 | exact H.pull2 | exact H.pull3 | exact H.pull4 | exact H.pull5 | exact H.pull6 | exact H.pull7); (case e => exact ⟨rfl, rfl, rfl, rfl⟩); (case S => exact (by first | exact raggD | exact raggF | exact raggO | exact raggN | exact raggA)); (case hn => exact rfl); (case h1 => exact rfl); (case ho => exact Nat.le_of_ble_eq_true rfl); (case hc => exact rfl))); clear H; intro _ H; (try simp only [over, List.set_cons_zero, List.set_cons_succ] at H))))
  have e1 : min (max room 0) 65536 = ((Dk.new room).room : Int) := by simp only [Dk.new]; omega
  rw [e1]
  exact ⟨rfl, H.done⟩
theorem SC.drop {F : List Nat} {w : World} {a : Option Addr} {c : Nat} {ps : List Int} (h : SC F w a ps.length c 1 (ints ps)) {i : Nat} (hi : i ≤ ps.length) : SC F w (slA a c i 1) (ps.drop i).length (c - i) 1 (ints (ps.drop i)) := by
  have hle := h.le
  refine ⟨?_, fun k hk => h.inF k (slA_blk k hk), by simp [ints], by rw [List.length_drop]; omega, fun hn => ?_⟩
  · have := h.cells.slA (c := c) (i := i) (by simpa [ints] using hle)
    rwa [ints_drop] at this
  · have ha : a = none := by
      unfold slA at hn
      split at hn
      · exact hn
      · simpa using hn
    have := h.nil ha
    rw [List.length_drop]; omega
def filesN (N : List Nat) (vs : List RF) (fs : List Fl) : Asn := .any N fun x => ∀ (k : Nat) (v : RF) (f : Fl), vs[k]? = some v → fs[k]? = some f → RFD N x v f
theorem filesN_ok {N : List Nat} {w : World} {vs : List RF} {fs : List Fl} (h : (filesN N vs fs).ok w) : ∀ (k : Nat) (v : RF) (f : Fl), vs[k]? = some v → fs[k]? = some f → RFD N w v f := h.2 w fun _ _ => rfl
theorem filesN_snoc {B : List Nat} {w0 w : World} {L : List Asn} {N : List Nat} {vs : List RF} {fs : List Fl} (hl : vs.length = fs.length) {a : Option Addr} {c : Nat} {l : List (List UInt8)} (H : Hp B w0 w (.own 9 1 a l.length c (strs l) :: filesN N vs fs :: L)) :
    Hp B w0 w (filesN (N ++ blks a) (vs ++ [⟨a, c, a, c, none, 0⟩]) (fs ++ [⟨l, l, []⟩]) :: L) := by
  refine Hp.merge H _ ⟨fun k hk => ?_, fun x hx k v f h1 h2 => ?_⟩ fun k hk => ?_
  · rcases List.mem_append.1 hk with hk | hk
    · exact (H.ok _ (.tail _ (.head _))).1 k hk
    · exact Asn.ok_lt (H.ok _ (.head _)) k hk
  · have hN := (H.ok _ (.tail _ (.head _))).2 x fun k hk => hx k (List.mem_append_left _ hk)
    have hS : SC (N ++ blks a) x a l.length c 1 (strs l) := (SC.ofOwn (F := N ++ blks a) (H.ownA (.head _)) fun k hk => List.mem_append_right _ hk).agree hx
    by_cases hk : k < fs.length
    · rw [List.getElem?_append_left (by omega)] at h1
      rw [List.getElem?_append_left hk] at h2
      exact (hN k v f h1 h2).more fun k hk => List.mem_append_left _ hk
    · have hk2 : k = fs.length := by
        have := (List.getElem?_eq_some_iff.1 h2).1
        simp at this; omega
      subst hk2
      rw [List.getElem?_append_right (by omega)] at h2
      rw [List.getElem?_append_right (by omega)] at h1
      simp [hl] at h1 h2
      subst h1 h2
      exact ⟨hS, hS, SC.ofNil _ _ _ _⟩
  · rcases List.mem_append.1 hk with hk | hk
    · exact .inr hk
    · exact .inl hk
theorem drop_min (ps : List Int) (n : Nat) : ps.drop (min n ps.length) = ps.drop n := by
  by_cases h : n ≤ ps.length
  · rw [Nat.min_eq_left h]
  · rw [Nat.min_eq_right (by omega), List.drop_length, List.drop_eq_nil_of_le (by omega)]

set_option maxHeartbeats 8000000 in
theorem rcrash_spec {F Fp : List Nat} {w : World} {v : RV} {d : Dk} (h : RD F w v d) (hF : ∀ k ∈ F, k < w.heap.size) (hok : d.Ok) {N : Nat} (few : d.Few N) (hN : N ≤ 1000000000) (hNN : ∀ k, (sinceTot (d.files.take k) : Int) ≤ 4611686018427387904) (hnow : ∀ f ∈ d.files, f.now.length ≤ 536870000)
    (names : Int) {pa : Option Addr} {pc : Nat} {ps : List Int} (hp : SC Fp w pa ps.length pc 1 (ints ps)) :
    Calls Go.Proofs.Try.prog 48 #[v.val d, .int .i64 names, .slice pa ps.length pc] w (RPostK .returned F w (d.crash names ps)) := by
  apply rcrash.ok; unfold rcrash.vc
  have hfl := few.files
  have hcl := few.chs
  have hsn := Dk.snaps_len d
  have H := Hp.start w
  intro bd w1 hn1; replace H := H.new (by exact ⟨rfl, rfl, rfl, rfl⟩) hn1; clear hn1
  intro bu w2 hn1; replace H := H.new (by exact ⟨rfl, rfl, rfl, rfl⟩) hn1; clear hn1
  ((repeat apply Exists.intro); first | refine ⟨H.ld (by exact ⟨rfl, rfl, rfl, rfl⟩) (by first | exact sclInt | exact sclBool | exact sclStr | exact rsclN | exact rsclF | exact rsclNN | exact rsclSS | exact rsclSI | exact rsclU) (by repeat first | exact .head _ | refine .tail _ ?_) rfl, ?_⟩ | refine ⟨H.ldA (by exact ⟨rfl, rfl, rfl, rfl⟩) (by first | exact raggD | exact raggF | exact raggO | exact raggN | exact raggA) (by repeat first | exact .head _ | refine .tail _ ?_) rfl rfl, ?_⟩)
  refine callV (rnew_spec2 (d.room : Int) w2) ?_
  rintro e w3 ⟨rfl, H'⟩; replace H := H.ext0 H'; clear H'
  refine ⟨_, _, _, _, _, _, _, _, _, _, _, _, _, _, _, _, rfl, ?_⟩
  intro be w4 hn1; replace H := H.new (by exact ⟨rfl, rfl, rfl, rfl⟩) hn1; clear hn1
  refine Hp.stA H (by exact ⟨rfl, rfl, rfl, rfl⟩) raggD rfl rfl (by simp) rfl ?_
  clear H; intro w5 H
  have hroom : (Dk.new (d.room : Int)).room = d.room := by rw [new_room d.room hok.room]
  have hH : Hp [] w w5 [.own 106 3 none 0 0 (fileCs [] (foundF (d.files.take 0) ps)), filesN [] [] (foundF (d.files.take 0) ps), .blk be [.int .i64 (d.room : Int), .slice none 0 0, .slice none 0 0, .slice none 0 0, .slice none 0 0, .int .i64 0, .int .i64 0, .bool false] 44, .blk bu [.int .i64 0, .slice none 0 0, .slice none 0 0, .slice none 0 0, .slice none 0 0, .int .i64 0, .int .i64 0, .bool false] 44,
      .blk bd [.int .i64 (d.room : Int), .slice v.fa d.files.length v.fc, .slice v.na d.names.length v.nc, .slice v.ia d.firm.length v.ic, .slice v.sa d.snaps.length v.sc, .int .i64 (d.armed : Int), .int .i64 (d.denied : Int), .bool d.dead] 44] := by
    have e1 : (over [.int .i64 ((Dk.new (d.room : Int)).room : Int), .slice none 0 0, .slice none 0 0, .slice none 0 0, .slice none 0 0, .int .i64 0, .int .i64 0, .bool false] 0 [.int .i64 0, .slice none 0 0, .slice none 0 0, .slice none 0 0, .slice none 0 0, .int .i64 0, .int .i64 0, .bool false]) = [.int .i64 (d.room : Int), .slice none 0 0, .slice none 0 0, .slice none 0 0, .slice none 0 0, .int .i64 0, .int .i64 0, .bool false] := by rw [hroom]; rfl
    have H2 : Hp [] w w5 (.blk be (over [.int .i64 ((Dk.new (d.room : Int)).room : Int), .slice none 0 0, .slice none 0 0, .slice none 0 0, .slice none 0 0, .int .i64 0, .int .i64 0, .bool false] 0 [.int .i64 0, .slice none 0 0, .slice none 0 0, .slice none 0 0, .slice none 0 0, .int .i64 0, .int .i64 0, .bool false]) 44 :: [.blk bu [.int .i64 0, .slice none 0 0, .slice none 0 0, .slice none 0 0, .slice none 0 0, .int .i64 0, .int .i64 0, .bool false] 44,
      .blk bd [.int .i64 (d.room : Int), .slice v.fa d.files.length v.fc, .slice v.na d.names.length v.nc, .slice v.ia d.firm.length v.ic, .slice v.sa d.snaps.length v.sc, .int .i64 (d.armed : Int), .int .i64 (d.denied : Int), .bool d.dead] 44]) := H
    rw [e1] at H2
    have H3 : Hp [] w w5 (filesN [] [] (foundF (d.files.take 0) ps) :: _) := H2.add (Chg.refl _ _) ⟨by simp, fun x hx k v f h1 h2 => by simp at h1⟩ (by simp [filesN, Asn.foot])
    exact H3.nilS _ _
  clear H
  refine LoopP.mk (fun (m : Nat) (s : Int × Int) (w' : World) => ∃ (k : Nat) (a : Option Addr) (c : Nat) (NN : List Nat) (vs : List RF), m = d.files.length - k ∧ k ≤ d.files.length ∧ s = ((sinceTot (d.files.take k) : Int), (k : Int)) ∧ vs.length = k ∧
      Hp [] w w' [.own 106 3 a k c (fileCs vs (foundF (d.files.take k) ps)), filesN NN vs (foundF (d.files.take k) ps), .blk be [.int .i64 (d.room : Int), .slice a k c, .slice none 0 0, .slice none 0 0, .slice none 0 0, .int .i64 0, .int .i64 0, .bool false] 44, .blk bu [.int .i64 0, .slice none 0 0, .slice none 0 0, .slice none 0 0, .slice none 0 0, .int .i64 0, .int .i64 0, .bool false] 44,
        .blk bd [.int .i64 (d.room : Int), .slice v.fa d.files.length v.fc, .slice v.na d.names.length v.nc, .slice v.ia d.firm.length v.ic, .slice v.sa d.snaps.length v.sc, .int .i64 (d.armed : Int), .int .i64 (d.denied : Int), .bool d.dead] 44]) d.files.length ⟨0, none, 0, [], [], by omega, by omega, rfl, rfl, hH⟩ ?_
  clear hH w1 w2 w3 w4 w5
  rintro m s w1 next ⟨k, a, c, NN, vs, rfl, hk, rfl, hvl, H⟩ hnext
  dsimp only
  ((repeat apply Exists.intro); first | refine ⟨H.ld (by exact ⟨rfl, rfl, rfl, rfl⟩) (by first | exact sclInt | exact sclBool | exact sclStr | exact rsclN | exact rsclF | exact rsclNN | exact rsclSS | exact rsclSI | exact rsclU) (by repeat first | exact .head _ | refine .tail _ ?_) rfl, ?_⟩ | refine ⟨H.ldA (by exact ⟨rfl, rfl, rfl, rfl⟩) (by first | exact raggD | exact raggF | exact raggO | exact raggN | exact raggA) (by repeat first | exact .head _ | refine .tail _ ?_) rfl rfl, ?_⟩)
  refine br_dec (fun h1 => ?_) (fun h1 => ?_)
  · have hkl : k < d.files.length := by omega
    obtain ⟨x, f, h2, h3, h4⟩ := h.at hkl
    have hf := hok.files f (List.mem_of_getElem? h3)
    obtain ⟨c1, c2, c3, c4⟩ := fileCs_at h2 h3
    have htk := take_snoc h3
    have hst : sinceTot (d.files.take (k + 1)) = sinceTot (d.files.take k) + f.since.length := by rw [htk]; simp [sinceTot]
    have hb1 := hNN k
    have hb2 := hNN (k + 1)
    have hff : foundF (d.files.take (k + 1)) ps = foundF (d.files.take k) ps ++ [f.found (ps.drop (sinceTot (d.files.take k)))] := by rw [htk, foundF_snoc]
    have hfl2 : (foundF (d.files.take k) ps).length = k := by rw [foundF_len, List.length_take]; omega
    have hmin : Int.toNat (min (sinceTot (d.files.take k) : Int) (ps.length : Int)) = min (sinceTot (d.files.take k)) ps.length := by omega
    have hdm := drop_min ps (sinceTot (d.files.take k))
    have hfnow := hnow f (List.mem_of_getElem? h3)
    -- the round's end, of either order
    have stepN : ∀ (a9 : Option Addr) (c9 : Nat) (a6 : Option Addr) (c6 : Nat) (w' : World), Hp [] w w' [.own 9 1 a6 (f.found (ps.drop (sinceTot (d.files.take k)))).now.length c6 (strs (f.found (ps.drop (sinceTot (d.files.take k)))).now), filesN NN vs (foundF (d.files.take k) ps), .own 106 3 a9 (k + 1) c9 (fileCs vs (foundF (d.files.take k) ps) ++ [.slice a6 (f.found (ps.drop (sinceTot (d.files.take k)))).now.length c6, .slice a6 (f.found (ps.drop (sinceTot (d.files.take k)))).now.length c6, .slice none 0 0]),
        .blk be [.int .i64 (d.room : Int), .slice a9 (k + 1) c9, .slice none 0 0, .slice none 0 0, .slice none 0 0, .int .i64 0, .int .i64 0, .bool false] 44, .blk bu [.int .i64 0, .slice none 0 0, .slice none 0 0, .slice none 0 0, .slice none 0 0, .int .i64 0, .int .i64 0, .bool false] 44,
        .blk bd [.int .i64 (d.room : Int), .slice v.fa d.files.length v.fc, .slice v.na d.names.length v.nc, .slice v.ia d.firm.length v.ic, .slice v.sa d.snaps.length v.sc, .int .i64 (d.armed : Int), .int .i64 (d.denied : Int), .bool d.dead] 44] → next ((sinceTot (d.files.take k) : Int) + (f.since.length : Int), (k : Int) + 1) w' := by
      intro a9 c9 a6 c6 w' H
      have H2 := (filesN_snoc (by rw [hvl, hfl2]) H).pull1
      refine hnext (d.files.length - (k + 1)) _ _ (by omega) ⟨k + 1, a9, c9, NN ++ blks a6, vs ++ [⟨a6, c6, a6, c6, none, 0⟩], rfl, by omega, by rw [hst]; simp, by simp [hvl], ?_⟩
      rw [hff, fileCs_snoc (by rw [hvl, hfl2])]
      exact H2
    refine ⟨?_, ?_⟩
    · replace H := H.drew
      ((repeat apply Exists.intro); first | refine ⟨H.ld (by exact ⟨rfl, rfl, rfl, rfl⟩) (by first | exact sclInt | exact sclBool | exact sclStr | exact rsclN | exact rsclF | exact rsclNN | exact rsclSS | exact rsclSI | exact rsclU) (by repeat first | exact .head _ | refine .tail _ ?_) rfl, ?_⟩ | refine ⟨H.ldA (by exact ⟨rfl, rfl, rfl, rfl⟩) (by first | exact raggD | exact raggF | exact raggO | exact raggN | exact raggA) (by repeat first | exact .head _ | refine .tail _ ?_) rfl rfl, ?_⟩)
      obtain ⟨ad, ha, hld⟩ := (h.chg0 H.chg).files.ldA (P := Go.Proofs.Try.prog) raggF (by omega) c4 rfl
      refine onP_mk ha ⟨⟨by omega, by omega⟩, _, _, _, _, _, _, _, _, _, by rw [Int.toNat_natCast]; exact hld, ?_⟩
      refine ⟨⟨by omega, by omega⟩, ?_⟩
      rw [hmin]
      have hcall := rfound_spec ((h.chg0 H.chg).each k x f h2 h3) hf hfnow ((hp.chg0 H.chg).drop (i := min (sinceTot (d.files.take k)) ps.length) (by omega))
      rw [hdm] at hcall
      have hle : ps.length - min (sinceTot (d.files.take k)) ps.length = (ps.drop (sinceTot (d.files.take k))).length := by rw [List.length_drop]; omega
      rw [hle]
      refine callV hcall ?_
      rintro e w6 ⟨a6, c6, rfl, H'⟩; replace H := H.ext H'; clear H'
      simp only [List.cons_append, List.nil_append] at H
      refine ⟨_, _, _, _, _, _, _, _, _, _, rfl, ?_⟩
      intro b1 w7 hn1; replace H := H.new (by exact ⟨rfl, rfl, rfl, rfl⟩) hn1; clear hn1
      ((first | (apply Hp.st; (case H => first | exact H | exact H.pull1 | exact H.pull2 | exact H.pull3 | exact H.pull4 | exact H.pull5 | exact H.pull6 | exact H.pull7); (case e => exact ⟨rfl, rfl, rfl, rfl⟩); (case S => exact (by first | exact sclInt | exact sclBool | exact sclStr | exact rsclN | exact rsclF | exact rsclNN | exact rsclSS | exact rsclSI | exact rsclU)); (case hv => exact rfl); (case h1 => exact rfl); (case ho => exact Nat.le_of_ble_eq_true rfl); (case hc => exact rfl)) | (apply Hp.stA; (case H => first | exact H | exact H.pull1 | exact H.pull2 | exact H.pull3 | exact H.pull4 | exact H.pull5 | exact H.pull6 | exact H.pull7); (case e => exact ⟨rfl, rfl, rfl, rfl⟩); (case S => exact (by first | exact raggD | exact raggF | exact raggO | exact raggN | exact raggA)); (case hn => exact rfl); (case h1 => exact rfl); (case ho => exact Nat.le_of_ble_eq_true rfl); (case hc => exact rfl))); clear H; intro _ H; (try simp only [over, List.set_cons_zero, List.set_cons_succ] at H))
      refine ⟨inR64.2 (by omega), ?_⟩
      ((repeat apply Exists.intro); first | refine ⟨H.ld (by exact ⟨rfl, rfl, rfl, rfl⟩) (by first | exact sclInt | exact sclBool | exact sclStr | exact rsclN | exact rsclF | exact rsclNN | exact rsclSS | exact rsclSI | exact rsclU) (by repeat first | exact .head _ | refine .tail _ ?_) rfl, ?_⟩ | refine ⟨H.ldA (by exact ⟨rfl, rfl, rfl, rfl⟩) (by first | exact raggD | exact raggF | exact raggO | exact raggN | exact raggA) (by repeat first | exact .head _ | refine .tail _ ?_) rfl rfl, ?_⟩)
      refine ⟨_, _, _, _, _, _, _, _, _, H.ldA (by exact ⟨rfl, rfl, rfl, rfl⟩) raggF (by first | exact .head _ | refine .tail _ (.head _)) rfl rfl, ?_⟩
      intro b2 w8 hn1; replace H := H.new (by exact ⟨rfl, rfl, rfl, rfl⟩) hn1; clear hn1
      refine Hp.app (m := 1) eltRF (by omega) (by first | exact H.pull1 | exact H.pull2 | exact H.pull3 | exact H.pull4 | exact H.pull5) (by exact ⟨rfl, rfl, rfl, rfl⟩) (Blk.src undRF ((H.go (w' := w8.drew) (by exact ⟨rfl, rfl, rfl, rfl⟩)).blk (.head _)) rfl rfl) (by simp only [maxLen]; omega) (by omega) ?_
      clear H; intro a9 c9 w9 H
      ((first | (apply Hp.st; (case H => first | exact H | exact H.pull1 | exact H.pull2 | exact H.pull3 | exact H.pull4 | exact H.pull5 | exact H.pull6 | exact H.pull7); (case e => exact ⟨rfl, rfl, rfl, rfl⟩); (case S => exact (by first | exact sclInt | exact sclBool | exact sclStr | exact rsclN | exact rsclF | exact rsclNN | exact rsclSS | exact rsclSI | exact rsclU)); (case hv => exact rfl); (case h1 => exact rfl); (case ho => exact Nat.le_of_ble_eq_true rfl); (case hc => exact rfl)) | (apply Hp.stA; (case H => first | exact H | exact H.pull1 | exact H.pull2 | exact H.pull3 | exact H.pull4 | exact H.pull5 | exact H.pull6 | exact H.pull7); (case e => exact ⟨rfl, rfl, rfl, rfl⟩); (case S => exact (by first | exact raggD | exact raggF | exact raggO | exact raggN | exact raggA)); (case hn => exact rfl); (case h1 => exact rfl); (case ho => exact Nat.le_of_ble_eq_true rfl); (case hc => exact rfl))); clear H; intro _ H; (try simp only [over, List.set_cons_zero, List.set_cons_succ] at H))
      rename_i w10
      refine ⟨inR64.2 (by omega), ?_⟩
      refine stepN a9 c9 a6 c6 _ ?_
      (apply Hp.takeL; (try dsimp only [List.cons_append, List.nil_append]); (try dsimp only [List.cons_append, List.nil_append] at H); refine Hp.perm H ?_; (repeat (apply perm_step; (focus first | exact perm_p0 | exact perm_p1 | exact perm_p2 | exact perm_p3 | exact perm_p4 | exact perm_p5 | exact perm_p6 | exact perm_p7 | exact perm_p8 | exact perm_p9))); exact List.Perm.refl _)
    · replace H := H.drew
      ((repeat apply Exists.intro); first | refine ⟨H.ld (by exact ⟨rfl, rfl, rfl, rfl⟩) (by first | exact sclInt | exact sclBool | exact sclStr | exact rsclN | exact rsclF | exact rsclNN | exact rsclSS | exact rsclSI | exact rsclU) (by repeat first | exact .head _ | refine .tail _ ?_) rfl, ?_⟩ | refine ⟨H.ldA (by exact ⟨rfl, rfl, rfl, rfl⟩) (by first | exact raggD | exact raggF | exact raggO | exact raggN | exact raggA) (by repeat first | exact .head _ | refine .tail _ ?_) rfl rfl, ?_⟩)
      obtain ⟨ad, ha, hld⟩ := (h.chg0 H.chg).files.ldA (P := Go.Proofs.Try.prog) raggF (by omega) c4 rfl
      refine onP_mk ha ⟨⟨by omega, by omega⟩, _, _, _, _, _, _, _, _, _, by rw [Int.toNat_natCast]; exact hld, ?_⟩
      refine ⟨⟨by omega, by omega⟩, ?_⟩
      intro b1 w7 hn1; replace H := H.new (by exact ⟨rfl, rfl, rfl, rfl⟩) hn1; clear hn1
      obtain ⟨ad2, ha2, hld2⟩ := (h.chg0 H.chg).files.ldA (P := Go.Proofs.Try.prog) raggF (by omega) c4 rfl
      have had : ad2 = ad := by rw [ha] at ha2; exact (Option.some.inj ha2).symm
      subst had
      refine ⟨by rw [Int.toNat_natCast]; exact hld2, H.ld (by exact ⟨rfl, rfl, rfl, rfl⟩) rsclF (by repeat first | exact .head _ | refine .tail _ ?_) rfl, ?_⟩
      rw [hmin]
      have hcall := rfound_spec ((h.chg0 H.chg).each k x f h2 h3) hf hfnow ((hp.chg0 H.chg).drop (i := min (sinceTot (d.files.take k)) ps.length) (by omega))
      rw [hdm] at hcall
      have hle : ps.length - min (sinceTot (d.files.take k)) ps.length = (ps.drop (sinceTot (d.files.take k))).length := by rw [List.length_drop]; omega
      rw [hle]
      refine callV hcall ?_
      rintro e w6 ⟨a6, c6, rfl, H'⟩; replace H := H.ext H'; clear H'
      simp only [List.cons_append, List.nil_append] at H
      refine ⟨_, _, _, _, _, _, _, _, _, _, rfl, ?_⟩
      ((first | (apply Hp.st; (case H => first | exact H | exact H.pull1 | exact H.pull2 | exact H.pull3 | exact H.pull4 | exact H.pull5 | exact H.pull6 | exact H.pull7); (case e => exact ⟨rfl, rfl, rfl, rfl⟩); (case S => exact (by first | exact sclInt | exact sclBool | exact sclStr | exact rsclN | exact rsclF | exact rsclNN | exact rsclSS | exact rsclSI | exact rsclU)); (case hv => exact rfl); (case h1 => exact rfl); (case ho => exact Nat.le_of_ble_eq_true rfl); (case hc => exact rfl)) | (apply Hp.stA; (case H => first | exact H | exact H.pull1 | exact H.pull2 | exact H.pull3 | exact H.pull4 | exact H.pull5 | exact H.pull6 | exact H.pull7); (case e => exact ⟨rfl, rfl, rfl, rfl⟩); (case S => exact (by first | exact raggD | exact raggF | exact raggO | exact raggN | exact raggA)); (case hn => exact rfl); (case h1 => exact rfl); (case ho => exact Nat.le_of_ble_eq_true rfl); (case hc => exact rfl))); clear H; intro _ H; (try simp only [over, List.set_cons_zero, List.set_cons_succ] at H))
      refine ⟨inR64.2 (by omega), ?_⟩
      ((repeat apply Exists.intro); first | refine ⟨H.ld (by exact ⟨rfl, rfl, rfl, rfl⟩) (by first | exact sclInt | exact sclBool | exact sclStr | exact rsclN | exact rsclF | exact rsclNN | exact rsclSS | exact rsclSI | exact rsclU) (by repeat first | exact .head _ | refine .tail _ ?_) rfl, ?_⟩ | refine ⟨H.ldA (by exact ⟨rfl, rfl, rfl, rfl⟩) (by first | exact raggD | exact raggF | exact raggO | exact raggN | exact raggA) (by repeat first | exact .head _ | refine .tail _ ?_) rfl rfl, ?_⟩)
      refine ⟨_, _, _, _, _, _, _, _, _, H.ldA (by exact ⟨rfl, rfl, rfl, rfl⟩) raggF (by first | exact .head _ | refine .tail _ (.head _)) rfl rfl, ?_⟩
      intro b2 w8 hn1; replace H := H.new (by exact ⟨rfl, rfl, rfl, rfl⟩) hn1; clear hn1
      refine Hp.app (m := 1) eltRF (by omega) (by first | exact H.pull1 | exact H.pull2 | exact H.pull3 | exact H.pull4 | exact H.pull5) (by exact ⟨rfl, rfl, rfl, rfl⟩) (Blk.src undRF ((H.go (w' := w8.drew) (by exact ⟨rfl, rfl, rfl, rfl⟩)).blk (.head _)) rfl rfl) (by simp only [maxLen]; omega) (by omega) ?_
      clear H; intro a9 c9 w9 H
      ((first | (apply Hp.st; (case H => first | exact H | exact H.pull1 | exact H.pull2 | exact H.pull3 | exact H.pull4 | exact H.pull5 | exact H.pull6 | exact H.pull7); (case e => exact ⟨rfl, rfl, rfl, rfl⟩); (case S => exact (by first | exact sclInt | exact sclBool | exact sclStr | exact rsclN | exact rsclF | exact rsclNN | exact rsclSS | exact rsclSI | exact rsclU)); (case hv => exact rfl); (case h1 => exact rfl); (case ho => exact Nat.le_of_ble_eq_true rfl); (case hc => exact rfl)) | (apply Hp.stA; (case H => first | exact H | exact H.pull1 | exact H.pull2 | exact H.pull3 | exact H.pull4 | exact H.pull5 | exact H.pull6 | exact H.pull7); (case e => exact ⟨rfl, rfl, rfl, rfl⟩); (case S => exact (by first | exact raggD | exact raggF | exact raggO | exact raggN | exact raggA)); (case hn => exact rfl); (case h1 => exact rfl); (case ho => exact Nat.le_of_ble_eq_true rfl); (case hc => exact rfl))); clear H; intro _ H; (try simp only [over, List.set_cons_zero, List.set_cons_succ] at H))
      rename_i w10
      refine ⟨inR64.2 (by omega), ?_⟩
      refine stepN a9 c9 a6 c6 _ ?_
      (apply Hp.takeL; (try dsimp only [List.cons_append, List.nil_append]); (try dsimp only [List.cons_append, List.nil_append] at H); refine Hp.perm H ?_; (repeat (apply perm_step; (focus first | exact perm_p0 | exact perm_p1 | exact perm_p2 | exact perm_p3 | exact perm_p4 | exact perm_p5 | exact perm_p6 | exact perm_p7 | exact perm_p8 | exact perm_p9))); exact List.Perm.refl _)
  · have hk2 : k = d.files.length := by omega
    subst hk2
    rw [List.take_length] at H
    ((repeat apply Exists.intro); first | refine ⟨H.ld (by exact ⟨rfl, rfl, rfl, rfl⟩) (by first | exact sclInt | exact sclBool | exact sclStr | exact rsclN | exact rsclF | exact rsclNN | exact rsclSS | exact rsclSI | exact rsclU) (by repeat first | exact .head _ | refine .tail _ ?_) rfl, ?_⟩ | refine ⟨H.ldA (by exact ⟨rfl, rfl, rfl, rfl⟩) (by first | exact raggD | exact raggF | exact raggO | exact raggN | exact raggA) (by repeat first | exact .head _ | refine .tail _ ?_) rfl rfl, ?_⟩)
    ((first | (apply Hp.st; (case H => first | exact H | exact H.pull1 | exact H.pull2 | exact H.pull3 | exact H.pull4 | exact H.pull5 | exact H.pull6 | exact H.pull7); (case e => exact ⟨rfl, rfl, rfl, rfl⟩); (case S => exact (by first | exact sclInt | exact sclBool | exact sclStr | exact rsclN | exact rsclF | exact rsclNN | exact rsclSS | exact rsclSI | exact rsclU)); (case hv => exact rfl); (case h1 => exact rfl); (case ho => exact Nat.le_of_ble_eq_true rfl); (case hc => exact rfl)) | (apply Hp.stA; (case H => first | exact H | exact H.pull1 | exact H.pull2 | exact H.pull3 | exact H.pull4 | exact H.pull5 | exact H.pull6 | exact H.pull7); (case e => exact ⟨rfl, rfl, rfl, rfl⟩); (case S => exact (by first | exact raggD | exact raggF | exact raggO | exact raggN | exact raggA)); (case hn => exact rfl); (case h1 => exact rfl); (case ho => exact Nat.le_of_ble_eq_true rfl); (case hc => exact rfl))); clear H; intro _ H; (try simp only [over, List.set_cons_zero, List.set_cons_succ] at H))
    ((repeat apply Exists.intro); first | refine ⟨H.ld (by exact ⟨rfl, rfl, rfl, rfl⟩) (by first | exact sclInt | exact sclBool | exact sclStr | exact rsclN | exact rsclF | exact rsclNN | exact rsclSS | exact rsclSI | exact rsclU) (by repeat first | exact .head _ | refine .tail _ ?_) rfl, ?_⟩ | refine ⟨H.ldA (by exact ⟨rfl, rfl, rfl, rfl⟩) (by first | exact raggD | exact raggF | exact raggO | exact raggN | exact raggA) (by repeat first | exact .head _ | refine .tail _ ?_) rfl rfl, ?_⟩)
    obtain ⟨M, hM⟩ : ∃ M : Nat, M = (min (max names 0) (d.chs.length : Int)).toNat := ⟨_, rfl⟩
    have hMl : M ≤ d.chs.length := by omega
    have hMi : min (max names 0) (d.snaps.length : Int) = (M : Int) := by rw [hsn]; omega
    rw [hMi]
    have hcr : d.crash names ps = ⟨d.room, foundF d.files ps, ons d.firm (d.chs.take M), [], 0, 0, false⟩ := by rw [Dk.crash, ← hM]
    have hffl : (foundF d.files ps).length = d.files.length := foundF_len _ _
    have fin : ∀ (w' : World) (LL : List Asn) (na : Option Addr) (nc : Nat) (e : Ending), Hp [] w w' LL → .own 106 3 a d.files.length c (fileCs vs (foundF d.files ps)) ∈ LL → filesN NN vs (foundF d.files ps) ∈ LL → SC F w na (ons d.firm (d.chs.take M)).length nc 2 (nmCells (ons d.firm (d.chs.take M))) →
        e = .returned (.agg #[.int .i64 (d.room : Int), .slice a d.files.length c, .slice na (ons d.firm (d.chs.take M)).length nc, .slice na (ons d.firm (d.chs.take M)).length nc, .slice none 0 0, .int .i64 0, .int .i64 0, .bool false]) → RPostK .returned F w (d.crash names ps) e w' := by
      intro w' LL na nc e H m1 m2 hs he
      rw [hcr]
      have hG : ∀ k ∈ F, k ∈ F ++ feet LL := fun k hk => List.mem_append_left _ hk
      refine ⟨⟨a, c, vs, na, nc, na, nc, none, 0, []⟩, F ++ feet LL, ?_, H.chg, (newF H hF).1, (newF H hF).2, ?_⟩
      · rw [he]; simp only [RV.val, hffl]; rfl
      · have hs2 := (hs.chg0 H.chg).more hG
        refine ⟨?_, by rw [hvl]; exact hffl.symm, ?_, hs2, hs2, SC.ofNil _ _ _ _, rfl, by simp⟩
        · have := SC.ofHp (F := F) H m1
          simp only [hffl]; exact this
        · intro k x f h1 h2
          exact (filesN_ok (H.ok _ m2) k x f h1 h2).more fun j hj => List.mem_append_right _ (mem_feet.2 ⟨_, m2, hj⟩)
    refine br_dec (fun h5 => ?_) (fun h5 => ?_)
    · have hM0 : 0 < M := by omega
      ((repeat apply Exists.intro); first | refine ⟨H.ld (by exact ⟨rfl, rfl, rfl, rfl⟩) (by first | exact sclInt | exact sclBool | exact sclStr | exact rsclN | exact rsclF | exact rsclNN | exact rsclSS | exact rsclSI | exact rsclU) (by repeat first | exact .head _ | refine .tail _ ?_) rfl, ?_⟩ | refine ⟨H.ldA (by exact ⟨rfl, rfl, rfl, rfl⟩) (by first | exact raggD | exact raggF | exact raggO | exact raggN | exact raggA) (by repeat first | exact .head _ | refine .tail _ ?_) rfl rfl, ?_⟩)
      refine ⟨inR64.2 (by omega), ?_⟩
      have hsl : d.snaps[M - 1]? = some (ons d.firm (d.chs.take M)) := by
        simp only [Dk.snaps, List.getElem?_map, List.getElem?_range (show M - 1 < d.chs.length by omega), Option.map_some]
        rw [show M - 1 + 1 = M by omega]
      obtain ⟨p, hpp⟩ : ∃ p, v.ss[M - 1]? = some p := ⟨_, List.getElem?_eq_getElem (by rw [h.sl, hsn]; omega)⟩
      have hnat : Int.toNat ((M : Int) - 1) * 1 = M - 1 := by omega
      obtain ⟨ad, ha, hld⟩ := (h.chg0 H.chg).since.ld (P := Go.Proofs.Try.prog) rsclN (sliceCs_at hpp hsl)
      refine onP_mk ha ⟨⟨by omega, by omega⟩, _, _, _, by rw [hnat]; exact hld, ?_⟩
      ((first | (apply Hp.st; (case H => first | exact H | exact H.pull1 | exact H.pull2 | exact H.pull3 | exact H.pull4 | exact H.pull5 | exact H.pull6 | exact H.pull7); (case e => exact ⟨rfl, rfl, rfl, rfl⟩); (case S => exact (by first | exact sclInt | exact sclBool | exact sclStr | exact rsclN | exact rsclF | exact rsclNN | exact rsclSS | exact rsclSI | exact rsclU)); (case hv => exact rfl); (case h1 => exact rfl); (case ho => exact Nat.le_of_ble_eq_true rfl); (case hc => exact rfl)) | (apply Hp.stA; (case H => first | exact H | exact H.pull1 | exact H.pull2 | exact H.pull3 | exact H.pull4 | exact H.pull5 | exact H.pull6 | exact H.pull7); (case e => exact ⟨rfl, rfl, rfl, rfl⟩); (case S => exact (by first | exact raggD | exact raggF | exact raggO | exact raggN | exact raggA)); (case hn => exact rfl); (case h1 => exact rfl); (case ho => exact Nat.le_of_ble_eq_true rfl); (case hc => exact rfl))); clear H; intro _ H; (try simp only [over, List.set_cons_zero, List.set_cons_succ] at H))
      ((repeat apply Exists.intro); first | refine ⟨H.ld (by exact ⟨rfl, rfl, rfl, rfl⟩) (by first | exact sclInt | exact sclBool | exact sclStr | exact rsclN | exact rsclF | exact rsclNN | exact rsclSS | exact rsclSI | exact rsclU) (by repeat first | exact .head _ | refine .tail _ ?_) rfl, ?_⟩ | refine ⟨H.ldA (by exact ⟨rfl, rfl, rfl, rfl⟩) (by first | exact raggD | exact raggF | exact raggO | exact raggN | exact raggA) (by repeat first | exact .head _ | refine .tail _ ?_) rfl rfl, ?_⟩)
      ((first | (apply Hp.st; (case H => first | exact H | exact H.pull1 | exact H.pull2 | exact H.pull3 | exact H.pull4 | exact H.pull5 | exact H.pull6 | exact H.pull7); (case e => exact ⟨rfl, rfl, rfl, rfl⟩); (case S => exact (by first | exact sclInt | exact sclBool | exact sclStr | exact rsclN | exact rsclF | exact rsclNN | exact rsclSS | exact rsclSI | exact rsclU)); (case hv => exact rfl); (case h1 => exact rfl); (case ho => exact Nat.le_of_ble_eq_true rfl); (case hc => exact rfl)) | (apply Hp.stA; (case H => first | exact H | exact H.pull1 | exact H.pull2 | exact H.pull3 | exact H.pull4 | exact H.pull5 | exact H.pull6 | exact H.pull7); (case e => exact ⟨rfl, rfl, rfl, rfl⟩); (case S => exact (by first | exact raggD | exact raggF | exact raggO | exact raggN | exact raggA)); (case hn => exact rfl); (case h1 => exact rfl); (case ho => exact Nat.le_of_ble_eq_true rfl); (case hc => exact rfl))); clear H; intro _ H; (try simp only [over, List.set_cons_zero, List.set_cons_succ] at H))
      refine ⟨_, _, _, _, _, _, _, _, _, _, _, _, _, _, _, _, H.ldA (by exact ⟨rfl, rfl, rfl, rfl⟩) raggD (.head _) rfl rfl, ?_⟩
      refine Hp.stA H.pull3 (by exact ⟨rfl, rfl, rfl, rfl⟩) raggD rfl rfl (by simp) rfl ?_
      clear H; intro w11 H
      refine ⟨_, _, _, _, _, _, _, _, _, _, _, _, _, _, _, _, H.ldA (by exact ⟨rfl, rfl, rfl, rfl⟩) raggD (.head _) rfl rfl, ?_⟩
      exact fin _ _ p.1 p.2 _ H (by repeat first | exact .head _ | refine .tail _ ?_) (by repeat first | exact .head _ | refine .tail _ ?_) (h.snap _ p _ hpp hsl) rfl
    · have hM0 : M = 0 := by omega
      have hon : ons d.firm (d.chs.take M) = d.firm := by rw [hM0]; rfl
      rw [hon] at fin
      ((repeat apply Exists.intro); first | refine ⟨H.ld (by exact ⟨rfl, rfl, rfl, rfl⟩) (by first | exact sclInt | exact sclBool | exact sclStr | exact rsclN | exact rsclF | exact rsclNN | exact rsclSS | exact rsclSI | exact rsclU) (by repeat first | exact .head _ | refine .tail _ ?_) rfl, ?_⟩ | refine ⟨H.ldA (by exact ⟨rfl, rfl, rfl, rfl⟩) (by first | exact raggD | exact raggF | exact raggO | exact raggN | exact raggA) (by repeat first | exact .head _ | refine .tail _ ?_) rfl rfl, ?_⟩)
      ((first | (apply Hp.st; (case H => first | exact H | exact H.pull1 | exact H.pull2 | exact H.pull3 | exact H.pull4 | exact H.pull5 | exact H.pull6 | exact H.pull7); (case e => exact ⟨rfl, rfl, rfl, rfl⟩); (case S => exact (by first | exact sclInt | exact sclBool | exact sclStr | exact rsclN | exact rsclF | exact rsclNN | exact rsclSS | exact rsclSI | exact rsclU)); (case hv => exact rfl); (case h1 => exact rfl); (case ho => exact Nat.le_of_ble_eq_true rfl); (case hc => exact rfl)) | (apply Hp.stA; (case H => first | exact H | exact H.pull1 | exact H.pull2 | exact H.pull3 | exact H.pull4 | exact H.pull5 | exact H.pull6 | exact H.pull7); (case e => exact ⟨rfl, rfl, rfl, rfl⟩); (case S => exact (by first | exact raggD | exact raggF | exact raggO | exact raggN | exact raggA)); (case hn => exact rfl); (case h1 => exact rfl); (case ho => exact Nat.le_of_ble_eq_true rfl); (case hc => exact rfl))); clear H; intro _ H; (try simp only [over, List.set_cons_zero, List.set_cons_succ] at H))
      refine ⟨_, _, _, _, _, _, _, _, _, _, _, _, _, _, _, _, H.ldA (by exact ⟨rfl, rfl, rfl, rfl⟩) raggD (.head _) rfl rfl, ?_⟩
      refine Hp.stA H.pull3 (by exact ⟨rfl, rfl, rfl, rfl⟩) raggD rfl rfl (by simp) rfl ?_
      clear H; intro w11 H
      refine ⟨_, _, _, _, _, _, _, _, _, _, _, _, _, _, _, _, H.ldA (by exact ⟨rfl, rfl, rfl, rfl⟩) raggD (.head _) rfl rfl, ?_⟩
      exact fin _ _ v.ia v.ic _ H (by repeat first | exact .head _ | refine .tail _ ?_) (by repeat first | exact .head _ | refine .tail _ ?_) h.firm rfl
end Go.Proofs.Ytdpkamajecmebaa
