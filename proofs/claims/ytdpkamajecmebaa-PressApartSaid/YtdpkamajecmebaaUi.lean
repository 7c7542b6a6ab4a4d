/- Vault: the document's disk. -/
import Derived.Test.YtdpkamajecmebaaUh
set_option linter.unusedVariables false
set_option linter.unusedSimpArgs false
set_option maxRecDepth 100000
namespace Go.Proofs.Ytdpkamajecmebaa
open Go Go.Vc Go.Vault

structure RF where
  na : Option Addr
  nc : Nat
  fa : Option Addr
  fc : Nat
  sa : Option Addr
  sc : Nat
structure RV where
  fa : Option Addr
  fc : Nat
  fs : List RF
  na : Option Addr
  nc : Nat
  ia : Option Addr
  ic : Nat
  sa : Option Addr
  sc : Nat
  ss : List (Option Addr × Nat)
def fileC (x : RF) (f : Fl) : List Value := [.slice x.na f.now.length x.nc, .slice x.fa f.firm.length x.fc, .slice x.sa f.since.length x.sc]
def fileCs (xs : List RF) (fs : List Fl) : List Value := (List.zipWith fileC xs fs).flatten
def strs (l : List (List UInt8)) : List Value := l.map sv
def sliceCs (xs : List (Option Addr × Nat)) (ls : List (List Nm)) : List Value := List.zipWith (fun p l => .slice p.1 l.length p.2) xs ls
structure RFD (F : List Nat) (w : World) (x : RF) (f : Fl) : Prop where
  now : SC F w x.na f.now.length x.nc 1 (strs f.now)
  firm : SC F w x.fa f.firm.length x.fc 1 (strs f.firm)
  since : SC F w x.sa f.since.length x.sc 1 (natC f.since)
structure RD (F : List Nat) (w : World) (v : RV) (d : Dk) : Prop where
  files : SC F w v.fa d.files.length v.fc 3 (fileCs v.fs d.files)
  fl : v.fs.length = d.files.length
  each : ∀ (k : Nat) (x : RF) (f : Fl), v.fs[k]? = some x → d.files[k]? = some f → RFD F w x f
  names : SC F w v.na d.names.length v.nc 2 (nmCells d.names)
  firm : SC F w v.ia d.firm.length v.ic 2 (nmCells d.firm)
  since : SC F w v.sa d.snaps.length v.sc 1 (sliceCs v.ss d.snaps)
  sl : v.ss.length = d.snaps.length
  snap : ∀ (k : Nat) (p : Option Addr × Nat) (l : List Nm), v.ss[k]? = some p → d.snaps[k]? = some l → SC F w p.1 l.length p.2 2 (nmCells l)
def RV.val (v : RV) (d : Dk) : Value := .agg #[.int .i64 (d.room : Int), .slice v.fa d.files.length v.fc, .slice v.na d.names.length v.nc, .slice v.ia d.firm.length v.ic, .slice v.sa d.snaps.length v.sc, .int .i64 (d.armed : Int), .int .i64 (d.denied : Int), .bool d.dead]
section
variable {F G : List Nat} {w w' : World} {v : RV} {d : Dk} {x : RF} {f : Fl}
theorem RFD.agree (h : RFD F w x f) (hs : ∀ k ∈ F, w'.heap[k]? = w.heap[k]?) : RFD F w' x f := ⟨h.now.agree hs, h.firm.agree hs, h.since.agree hs⟩
theorem RFD.chg0 (h : RFD F w x f) (hc : Chg [] w w') : RFD F w' x f := ⟨h.now.chg0 hc, h.firm.chg0 hc, h.since.chg0 hc⟩
theorem RFD.more (h : RFD F w x f) (hs : ∀ k ∈ F, k ∈ G) : RFD G w x f := ⟨h.now.more hs, h.firm.more hs, h.since.more hs⟩
theorem RD.agree (h : RD F w v d) (hs : ∀ k ∈ F, w'.heap[k]? = w.heap[k]?) : RD F w' v d :=
  ⟨h.files.agree hs, h.fl, fun k x f h1 h2 => (h.each k x f h1 h2).agree hs, h.names.agree hs, h.firm.agree hs, h.since.agree hs, h.sl, fun k p l h1 h2 => (h.snap k p l h1 h2).agree hs⟩
theorem RD.chg0 (h : RD F w v d) (hc : Chg [] w w') : RD F w' v d :=
  ⟨h.files.chg0 hc, h.fl, fun k x f h1 h2 => (h.each k x f h1 h2).chg0 hc, h.names.chg0 hc, h.firm.chg0 hc, h.since.chg0 hc, h.sl, fun k p l h1 h2 => (h.snap k p l h1 h2).chg0 hc⟩
theorem RD.more (h : RD F w v d) (hs : ∀ k ∈ F, k ∈ G) : RD G w v d :=
  ⟨h.files.more hs, h.fl, fun k x f h1 h2 => (h.each k x f h1 h2).more hs, h.names.more hs, h.firm.more hs, h.since.more hs, h.sl, fun k p l h1 h2 => (h.snap k p l h1 h2).more hs⟩
/-- 'armed', 'denied', 'dead', 'room' play no part -/
theorem RD.flags (h : RD F w v d) (a b : Nat) (c : Bool) : RD F w v { d with armed := a, denied := b, dead := c } := ⟨h.files, h.fl, h.each, h.names, h.firm, h.since, h.sl, h.snap⟩
end
def RPost (F : List Nat) (w : World) (d' : Dk) (e : Ending) (w' : World) : Prop :=
  ∃ v' F', e = .returned (v'.val d') ∧ Chg [] w w' ∧ (∀ k ∈ F', k ∈ F ∨ w.heap.size ≤ k) ∧ (∀ k ∈ F', k < w'.heap.size) ∧ RD F' w' v' d'
/-- what is new may be read -/
theorem newF {F : List Nat} {w w' : World} {L : List Asn} (H : Hp [] w w' L) (hF : ∀ k ∈ F, k < w.heap.size) : (∀ k ∈ F ++ feet L, k ∈ F ∨ w.heap.size ≤ k) ∧ (∀ k ∈ F ++ feet L, k < w'.heap.size) := by
  refine ⟨fun k hk => ?_, fun k hk => ?_⟩
  · rcases List.mem_append.1 hk with hk | hk
    · exact .inl hk
    · obtain ⟨a, ha, h2⟩ := mem_feet.1 hk
      rcases H.own a ha k h2 with h | h
      · cases h
      · exact .inr h
  · rcases List.mem_append.1 hk with hk | hk
    · exact Nat.lt_of_lt_of_le (hF k hk) H.chg.size
    · obtain ⟨a, ha, h2⟩ := mem_feet.1 hk
      exact Asn.ok_lt (H.ok a ha) k h2
theorem SC.ofHp {B F : List Nat} {w w' : World} {L : List Asn} {e : TypeId} {sz n c : Nat} {a : Option Addr} {xs : List Value} (H : Hp B w w' L) (m : Asn.own e sz a n c xs ∈ L) : SC (F ++ feet L) w' a n c sz xs :=
  .ofOwn (H.ownA m) fun k hk => List.mem_append_right _ (mem_feet.2 ⟨_, m, hk⟩)

theorem RPost.of {F : List Nat} {w w' : World} {L : List Asn} {d' : Dk} {e : Ending} (H : Hp [] w w' L) (hF : ∀ k ∈ F, k < w.heap.size) (v' : RV) (he : e = .returned (v'.val d'))
    (k : ∀ G : List Nat, (∀ k ∈ F, k ∈ G) → (∀ (e : TypeId) (sz : Nat) (a : Option Addr) (n c : Nat) (xs : List Value), Asn.own e sz a n c xs ∈ L → SC G w' a n c sz xs) → RD G w' v' d') : RPost F w d' e w' :=
  ⟨v', F ++ feet L, he, H.chg, (newF H hF).1, (newF H hF).2, k _ (fun k hk => List.mem_append_left _ hk) fun e sz a n c xs m => SC.ofHp H m⟩
theorem fileCs_len : ∀ {xs : List RF} {fs : List Fl}, xs.length = fs.length → (fileCs xs fs).length = fs.length * 3
  | [], [], _ => rfl
  | x :: xs, f :: fs, h => by
    have := fileCs_len (xs := xs) (fs := fs) (by simpa using h)
    simp only [fileCs, List.zipWith_cons_cons, List.flatten_cons, List.length_append, fileC, List.length_cons, List.length_nil] at this ⊢
    omega
theorem fileCs_cons (x : RF) (f : Fl) (xs : List RF) (fs : List Fl) : fileCs (x :: xs) (f :: fs) = .slice x.na f.now.length x.nc :: .slice x.fa f.firm.length x.fc :: .slice x.sa f.since.length x.sc :: fileCs xs fs := rfl
theorem fileCs_at : ∀ {xs : List RF} {fs : List Fl} {k : Nat} {x : RF} {f : Fl}, xs[k]? = some x → fs[k]? = some f →
    (fileCs xs fs)[k * 3]? = some (.slice x.na f.now.length x.nc) ∧ (fileCs xs fs)[k * 3 + 1]? = some (.slice x.fa f.firm.length x.fc) ∧ (fileCs xs fs)[k * 3 + 2]? = some (.slice x.sa f.since.length x.sc) ∧ ((fileCs xs fs).drop (k * 3)).take 3 = fileC x f
  | [], _, k, x, f, h, _ => by simp at h
  | _ :: _, [], k, x, f, _, h => by simp at h
  | x0 :: xs, f0 :: fs, 0, x, f, h, h' => by
    simp at h h'; subst h h'
    rw [fileCs_cons]
    exact ⟨rfl, rfl, rfl, rfl⟩
  | x0 :: xs, f0 :: fs, k + 1, x, f, h, h' => by
    rw [List.getElem?_cons_succ] at h h'
    obtain ⟨h1, h2, h3, h4⟩ := fileCs_at h h'
    rw [fileCs_cons, show (k + 1) * 3 = k * 3 + 1 + 1 + 1 by omega, show k * 3 + 1 + 1 + 1 + 1 = (k * 3 + 1) + 1 + 1 + 1 by omega, show k * 3 + 1 + 1 + 1 + 2 = (k * 3 + 2) + 1 + 1 + 1 by omega]
    exact ⟨h1, h2, h3, h4⟩
theorem fileCs_snoc {xs : List RF} {fs : List Fl} (h : xs.length = fs.length) (x : RF) (f : Fl) : fileCs (xs ++ [x]) (fs ++ [f]) = fileCs xs fs ++ fileC x f := by
  simp [fileCs, List.zipWith_append h]
theorem fileCs_ones : ∀ (xs : List RF) (fs : List Fl), (fileCs xs fs).all (·.oneCell') = true
  | [], _ => rfl
  | _ :: _, [] => rfl
  | x :: xs, f :: fs => by rw [fileCs_cons]; simp only [List.all_cons, fileCs_ones xs fs]; rfl
theorem sliceCs_at {xs : List (Option Addr × Nat)} {ls : List (List Nm)} {k : Nat} {p : Option Addr × Nat} {l : List Nm} (h : xs[k]? = some p) (h' : ls[k]? = some l) : (sliceCs xs ls)[k]? = some (.slice p.1 l.length p.2) := by
  simp [sliceCs, List.getElem?_zipWith, h, h']
theorem sliceCs_ones : ∀ (xs : List (Option Addr × Nat)) (ls : List (List Nm)), (sliceCs xs ls).all (·.oneCell') = true
  | [], _ => rfl
  | _ :: _, [] => rfl
  | x :: xs, f :: fs => by
    have := sliceCs_ones xs fs
    simp only [sliceCs, List.zipWith_cons_cons, List.all_cons] at this ⊢
    rw [this]; rfl
theorem sliceCs_snoc {xs : List (Option Addr × Nat)} {ls : List (List Nm)} (h : xs.length = ls.length) (p : Option Addr × Nat) (l : List Nm) : sliceCs (xs ++ [p]) (ls ++ [l]) = sliceCs xs ls ++ [.slice p.1 l.length p.2] := by
  simp [sliceCs, List.zipWith_append h]
theorem Dk.snaps_change (d : Dk) (c : Ch) : (d.change c).snaps = d.snaps ++ [c.on d.names] := by
  simp only [Dk.snaps, Dk.change, List.length_append, List.length_cons, List.length_nil, List.range_succ, List.map_append, List.map_cons, List.map_nil]
  congr 1
  · apply List.map_congr_left
    intro i hi
    rw [List.mem_range] at hi
    rw [List.take_append_of_le_length (by omega)]
  · have e : (d.chs ++ [c]).take (d.chs.length + 1) = d.chs ++ [c] := by rw [List.take_of_length_le]; simp
    rw [e]
    simp [ons, Dk.names]
theorem Dk.snaps_len (d : Dk) : d.snaps.length = d.chs.length := by simp [Dk.snaps]

set_option maxHeartbeats 1000000 in
theorem rnew_spec (room : Int) (w : World) : Calls Go.Proofs.Try.prog 17 #[.int .i64 room] w (RPost [] w (Dk.new room)) := by
  apply rnew.ok; unfold rnew.vc
  have H := Hp.start w
  (repeat (first | ((repeat apply Exists.intro); first | refine ⟨H.ld (by exact ⟨rfl, rfl, rfl, rfl⟩) (by first | exact sclInt | exact sclBool | exact sclStr | exact rsclN | exact rsclF | exact rsclNN | exact rsclSS | exact rsclSI | exact rsclU) (by repeat first | exact .head _ | refine .tail _ ?_) rfl, ?_⟩ | refine ⟨H.ldA (by exact ⟨rfl, rfl, rfl, rfl⟩) (by first | exact raggD | exact raggF | exact raggO | exact raggN | exact raggA) (by repeat first | exact .head _ | refine .tail _ ?_) rfl rfl, ?_⟩) | (intro _ _ hn; replace H := H.new (by exact ⟨rfl, rfl, rfl, rfl⟩) hn; clear hn) | ((first | (apply Hp.st; (case H => first | exact H | exact H.pull1 | exact H.pull2 | exact H.pull3 | exact H.pull4 | exact H.pull5 | exact H.pull6 | exact H.pull7); (case e => exact ⟨rfl, rfl, rfl, rfl⟩); (case S => exact (by first | exact sclInt | exact sclBool | exact sclStr | exact rsclN | exact rsclF | exact rsclNN | exact rsclSS | exact rsclSI | exact rsclU)); (case hv => exact rfl); (case h1 => exact rfl); (case ho => exact Nat.le_of_ble_eq_true rfl); (case hc => exact rfl)) | (apply Hp.stA; (case H => first | exact H | exact H.pull1 | exact H.pull2 | exact H.pull3 | exact H.pull4 | exact H.pull5 | exact H.pull6 | exact H.pull7); (case e => exact ⟨rfl, rfl, rfl, rfl⟩); (case S => exact (by first | exact raggD | exact raggF | exact raggO | exact raggN | exact raggA)); (case hn => exact rfl); (case h1 => exact rfl); (case ho => exact Nat.le_of_ble_eq_true rfl); (case hc => exact rfl))); clear H; intro _ H; (try simp only [over, List.set_cons_zero, List.set_cons_succ] at H))))
  have e1 : min (max room 0) 65536 = ((Dk.new room).room : Int) := by simp only [Dk.new]; omega
  rw [e1]
  refine ⟨⟨none, 0, [], none, 0, none, 0, none, 0, []⟩, [], rfl, H.chg, by simp, by simp, ⟨SC.ofNil _ _ _ _, rfl, by simp, SC.ofNil _ _ _ _, SC.ofNil _ _ _ _, SC.ofNil _ _ _ _, rfl, by simp⟩⟩
theorem fcode_lt {o : Option Nat} : fcode o < 0 ↔ o = none := by
  cases o with
  | none => simp [fcode]
  | some k => simp [fcode]
theorem RD.at {F : List Nat} {w : World} {v : RV} {d : Dk} (h : RD F w v d) {k : Nat} (hk : k < d.files.length) : ∃ x f, v.fs[k]? = some x ∧ d.files[k]? = some f ∧ d.file k = f := by
  have hk2 : k < v.fs.length := by rw [h.fl]; exact hk
  exact ⟨_, _, List.getElem?_eq_getElem hk2, List.getElem?_eq_getElem hk, by simp [Dk.file, hk]⟩
set_option maxHeartbeats 1000000 in
theorem rsize_spec {F : List Nat} {w : World} {v : RV} {d : Dk} (h : RD F w v d) (hok : d.Ok) (hl : d.names.length ≤ 1073741824) (n : ByteArray) : Calls Go.Proofs.Try.prog 68 #[v.val d, .string n] w fun e w' => e = .returned (.int .i64 (d.size n)) ∧ Hp [] w w' [] := by
  apply rsize.ok; unfold rsize.vc
  have H := Hp.start w
  (intro _ _ hn; replace H := H.new (by exact ⟨rfl, rfl, rfl, rfl⟩) hn; clear hn)
  ((repeat apply Exists.intro); first | refine ⟨H.ld (by exact ⟨rfl, rfl, rfl, rfl⟩) (by first | exact sclInt | exact sclBool | exact sclStr | exact rsclN | exact rsclF | exact rsclNN | exact rsclSS | exact rsclSI | exact rsclU) (by repeat first | exact .head _ | refine .tail _ ?_) rfl, ?_⟩ | refine ⟨H.ldA (by exact ⟨rfl, rfl, rfl, rfl⟩) (by first | exact raggD | exact raggF | exact raggO | exact raggN | exact raggA) (by repeat first | exact .head _ | refine .tail _ ?_) rfl rfl, ?_⟩)
  refine callV (rfind_spec (h.chg0 H.chg).names hl n) ?_
  rintro e w2 ⟨rfl, H'⟩; replace H := H.ext0 H'; clear H'
  refine ⟨_, rfl, ?_⟩
  have hf : nget d.names n = d.find n := rfl
  rw [hf]
  cases hk : d.find n with
  | none => exact br_dec (fun _ => ⟨by simp [Dk.size, hk], H.done⟩) (fun h => absurd (fcode_lt.2 rfl) h)
  | some k =>
    refine br_dec (fun h => by cases fcode_lt.1 h) (fun _ => ?_)
    obtain ⟨x, f, h1, h2, h3⟩ := h.at (hok.find hk)
    have hlt := hok.find hk
    ((repeat apply Exists.intro); first | refine ⟨H.ld (by exact ⟨rfl, rfl, rfl, rfl⟩) (by first | exact sclInt | exact sclBool | exact sclStr | exact rsclN | exact rsclF | exact rsclNN | exact rsclSS | exact rsclSI | exact rsclU) (by repeat first | exact .head _ | refine .tail _ ?_) rfl, ?_⟩ | refine ⟨H.ldA (by exact ⟨rfl, rfl, rfl, rfl⟩) (by first | exact raggD | exact raggF | exact raggO | exact raggN | exact raggA) (by repeat first | exact .head _ | refine .tail _ ?_) rfl rfl, ?_⟩)
    obtain ⟨c1, c2, c3, c4⟩ := fileCs_at h1 h2
    obtain ⟨ad, ha, hld⟩ := (h.chg0 H.chg).files.ld (P := Go.Proofs.Try.prog) rsclSS c1
    refine onP_mk ha ⟨⟨by simp only [fcode]; omega, by simp only [fcode]; omega⟩, _, _, _, by simp only [fcode, Int.toNat_natCast]; exact hld, ?_⟩
    exact ⟨by simp [Dk.size, hk, Dk.len, h3], H.done⟩
theorem used_take (d : Dk) : d.used = ((d.names.take d.names.length).map fun p => d.len p.file).sum := by rw [List.take_length]; rfl
theorem sum_take_le {l : List Nat} : ∀ (k : Nat), (l.take k).sum ≤ l.sum := by
  induction l with
  | nil => intro k; simp
  | cons x r ih =>
    intro k
    cases k with
    | zero => simp
    | succ k =>
      have := ih k
      simp only [List.take_succ_cons, List.sum_cons]; omega
set_option maxHeartbeats 1000000 in
theorem rused_spec {F : List Nat} {w : World} {v : RV} {d : Dk} (h : RD F w v d) (hok : d.Ok) (hl : d.names.length ≤ 1073741824) (hu : (d.used : Int) ≤ 9223372036854775807) : Calls Go.Proofs.Try.prog 69 #[v.val d] w fun e w' => e = .returned (.int .i64 (d.used : Int)) ∧ Hp [] w w' [] := by
  apply rused.ok; unfold rused.vc
  have H := Hp.start w
  (intro _ _ hn; replace H := H.new (by exact ⟨rfl, rfl, rfl, rfl⟩) hn; clear hn)
  rename_i b w1
  refine LoopP.mk (fun (m : Nat) (s : Int × Int) (w' : World) => ∃ k : Nat, m = d.names.length - k ∧ k ≤ d.names.length ∧ s = ((((d.names.take k).map fun p => d.len p.file).sum : Int), (k : Int)) ∧
    Hp [] w w' [.blk b [.int .i64 (d.room : Int), .slice v.fa d.files.length v.fc, .slice v.na d.names.length v.nc, .slice v.ia d.firm.length v.ic, .slice v.sa d.snaps.length v.sc, .int .i64 (d.armed : Int), .int .i64 (d.denied : Int), .bool d.dead] 44]) d.names.length ⟨0, by omega, by omega, rfl, H⟩ ?_
  clear H
  rintro m s w2 next ⟨k, rfl, hk, rfl, H⟩ hnext
  dsimp only
  ((repeat apply Exists.intro); first | refine ⟨H.ld (by exact ⟨rfl, rfl, rfl, rfl⟩) (by first | exact sclInt | exact sclBool | exact sclStr | exact rsclN | exact rsclF | exact rsclNN | exact rsclSS | exact rsclSI | exact rsclU) (by repeat first | exact .head _ | refine .tail _ ?_) rfl, ?_⟩ | refine ⟨H.ldA (by exact ⟨rfl, rfl, rfl, rfl⟩) (by first | exact raggD | exact raggF | exact raggO | exact raggN | exact raggA) (by repeat first | exact .head _ | refine .tail _ ?_) rfl rfl, ?_⟩)
  refine br_dec (fun h1 => ?_) (fun h1 => ?_)
  · have hkl : k < d.names.length := by omega
    obtain ⟨p, hp⟩ : ∃ p, d.names[k]? = some p := ⟨_, List.getElem?_eq_getElem hkl⟩
    obtain ⟨n1, n2, n3⟩ := nmCells_at hp
    have hpf := hok.file p (List.mem_of_getElem? hp)
    obtain ⟨x, f, h2, h3, h4⟩ := h.at hpf
    obtain ⟨c1, c2, c3, c4⟩ := fileCs_at h2 h3
    replace H := H.drew
    have hD := h.chg0 H.chg
    ((repeat apply Exists.intro); first | refine ⟨H.ld (by exact ⟨rfl, rfl, rfl, rfl⟩) (by first | exact sclInt | exact sclBool | exact sclStr | exact rsclN | exact rsclF | exact rsclNN | exact rsclSS | exact rsclSI | exact rsclU) (by repeat first | exact .head _ | refine .tail _ ?_) rfl, ?_⟩ | refine ⟨H.ldA (by exact ⟨rfl, rfl, rfl, rfl⟩) (by first | exact raggD | exact raggF | exact raggO | exact raggN | exact raggA) (by repeat first | exact .head _ | refine .tail _ ?_) rfl rfl, ?_⟩)
    ((repeat apply Exists.intro); first | refine ⟨H.ld (by exact ⟨rfl, rfl, rfl, rfl⟩) (by first | exact sclInt | exact sclBool | exact sclStr | exact rsclN | exact rsclF | exact rsclNN | exact rsclSS | exact rsclSI | exact rsclU) (by repeat first | exact .head _ | refine .tail _ ?_) rfl, ?_⟩ | refine ⟨H.ldA (by exact ⟨rfl, rfl, rfl, rfl⟩) (by first | exact raggD | exact raggF | exact raggO | exact raggN | exact raggA) (by repeat first | exact .head _ | refine .tail _ ?_) rfl rfl, ?_⟩)
    obtain ⟨ad, ha, hld⟩ := hD.names.ld (P := Go.Proofs.Try.prog) sclInt n2
    refine onP_mk ha ⟨⟨by omega, by omega⟩, _, by rw [Int.toNat_natCast, add_add]; exact hld, ?_⟩
    obtain ⟨ad2, ha2, hld2⟩ := hD.files.ld (P := Go.Proofs.Try.prog) rsclSS c1
    refine onP_mk ha2 ⟨⟨by omega, by omega⟩, _, _, _, by rw [Int.toNat_natCast]; exact hld2, ?_⟩
    have htk := take_snoc hp
    have hsum : ((d.names.take (k + 1)).map fun p => d.len p.file).sum = ((d.names.take k).map fun p => d.len p.file).sum + f.now.length := by
      rw [htk]; simp [Dk.len, h4]
    have hle : ((d.names.take (k + 1)).map fun p => d.len p.file).sum ≤ d.used := by
      rw [Dk.used, List.map_take]; exact sum_take_le _
    refine ⟨inR64.2 (by omega), inR64.2 (by omega), hnext (d.names.length - (k + 1)) _ _ (by omega) ⟨k + 1, rfl, by omega, ?_, H⟩⟩
    rw [hsum]; simp
  · have : k = d.names.length := by omega
    subst this
    rw [← used_take]
    exact ⟨rfl, H.done⟩

set_option maxHeartbeats 2000000 in
theorem rnamed_spec {F : List Nat} {w : World} {v : RV} {d : Dk} (h : RD F w v d) (hF : ∀ k ∈ F, k < w.heap.size) (hl : d.chs.length ≤ 1073741822) (c : Ch) (la : Option Addr) (lc : Nat) (hn : SC F w la (c.on d.names).length lc 2 (nmCells (c.on d.names))) :
    Calls Go.Proofs.Try.prog 70 #[v.val d, .slice la (c.on d.names).length lc] w (RPost F w (d.change c)) := by
  apply rnamed.ok; unfold rnamed.vc
  have H := Hp.start w
  (intro _ _ hn; replace H := H.new (by exact ⟨rfl, rfl, rfl, rfl⟩) hn; clear hn)
  rename_i b w1
  (intro _ _ hn; replace H := H.new (by exact ⟨rfl, rfl, rfl, rfl⟩) hn; clear hn)
  ((first | (apply Hp.st; (case H => first | exact H | exact H.pull1 | exact H.pull2 | exact H.pull3 | exact H.pull4 | exact H.pull5 | exact H.pull6 | exact H.pull7); (case e => exact ⟨rfl, rfl, rfl, rfl⟩); (case S => exact (by first | exact sclInt | exact sclBool | exact sclStr | exact rsclN | exact rsclF | exact rsclNN | exact rsclSS | exact rsclSI | exact rsclU)); (case hv => exact rfl); (case h1 => exact rfl); (case ho => exact Nat.le_of_ble_eq_true rfl); (case hc => exact rfl)) | (apply Hp.stA; (case H => first | exact H | exact H.pull1 | exact H.pull2 | exact H.pull3 | exact H.pull4 | exact H.pull5 | exact H.pull6 | exact H.pull7); (case e => exact ⟨rfl, rfl, rfl, rfl⟩); (case S => exact (by first | exact raggD | exact raggF | exact raggO | exact raggN | exact raggA)); (case hn => exact rfl); (case h1 => exact rfl); (case ho => exact Nat.le_of_ble_eq_true rfl); (case hc => exact rfl))); clear H; intro _ H; (try simp only [over, List.set_cons_zero, List.set_cons_succ] at H))
  intro b2 w3 hn2; replace H := H.new (by exact ⟨rfl, rfl, rfl, rfl⟩) hn2; clear hn2
  replace H := H.reown 1 0 rfl (by simp)
  ((repeat apply Exists.intro); first | refine ⟨H.ld (by exact ⟨rfl, rfl, rfl, rfl⟩) (by first | exact sclInt | exact sclBool | exact sclStr | exact rsclN | exact rsclF | exact rsclNN | exact rsclSS | exact rsclSI | exact rsclU) (by repeat first | exact .head _ | refine .tail _ ?_) rfl, ?_⟩ | refine ⟨H.ldA (by exact ⟨rfl, rfl, rfl, rfl⟩) (by first | exact raggD | exact raggF | exact raggO | exact raggN | exact raggA) (by repeat first | exact .head _ | refine .tail _ ?_) rfl rfl, ?_⟩)
  have hsl := Dk.snaps_len d
  refine Hp.app eltNN (by omega) H (by exact ⟨rfl, rfl, rfl, rfl⟩) ((h.since.chg0 H.chg).src undNN (sliceCs_ones _ _)) (by simp only [maxLen]; omega) (by omega) ?_
  clear H; intro a3 c3 w4 H
  simp only [List.nil_append, Nat.zero_add] at H ⊢
  intro b5 w5 hn5; replace H := H.new (by exact ⟨rfl, rfl, rfl, rfl⟩) hn5; clear hn5
  refine Hp.app (m := 1) eltNN (by omega) H.pull1 (by exact ⟨rfl, rfl, rfl, rfl⟩) (Blk.src undNN ((H.go (w' := w5.drew) (by exact ⟨rfl, rfl, rfl, rfl⟩)).blk (.head _)) rfl rfl) (by simp only [maxLen]; omega) (by omega) ?_
  clear H; intro a6 c6 w6 H
  replace H := H.drop1
  (repeat (first | ((repeat apply Exists.intro); first | refine ⟨H.ld (by exact ⟨rfl, rfl, rfl, rfl⟩) (by first | exact sclInt | exact sclBool | exact sclStr | exact rsclN | exact rsclF | exact rsclNN | exact rsclSS | exact rsclSI | exact rsclU) (by repeat first | exact .head _ | refine .tail _ ?_) rfl, ?_⟩ | refine ⟨H.ldA (by exact ⟨rfl, rfl, rfl, rfl⟩) (by first | exact raggD | exact raggF | exact raggO | exact raggN | exact raggA) (by repeat first | exact .head _ | refine .tail _ ?_) rfl rfl, ?_⟩) | (intro _ _ hn; replace H := H.new (by exact ⟨rfl, rfl, rfl, rfl⟩) hn; clear hn) | ((first | (apply Hp.st; (case H => first | exact H | exact H.pull1 | exact H.pull2 | exact H.pull3 | exact H.pull4 | exact H.pull5 | exact H.pull6 | exact H.pull7); (case e => exact ⟨rfl, rfl, rfl, rfl⟩); (case S => exact (by first | exact sclInt | exact sclBool | exact sclStr | exact rsclN | exact rsclF | exact rsclNN | exact rsclSS | exact rsclSI | exact rsclU)); (case hv => exact rfl); (case h1 => exact rfl); (case ho => exact Nat.le_of_ble_eq_true rfl); (case hc => exact rfl)) | (apply Hp.stA; (case H => first | exact H | exact H.pull1 | exact H.pull2 | exact H.pull3 | exact H.pull4 | exact H.pull5 | exact H.pull6 | exact H.pull7); (case e => exact ⟨rfl, rfl, rfl, rfl⟩); (case S => exact (by first | exact raggD | exact raggF | exact raggO | exact raggN | exact raggA)); (case hn => exact rfl); (case h1 => exact rfl); (case ho => exact Nat.le_of_ble_eq_true rfl); (case hc => exact rfl))); clear H; intro _ H; (try simp only [over, List.set_cons_zero, List.set_cons_succ] at H))))
  refine RPost.of H hF { v with na := la, nc := lc, sa := a6, sc := c6, ss := v.ss ++ [(la, lc)] } ?_ fun G hG hm => ?_
  · have e1 : (d.change c).snaps.length = d.snaps.length + 1 := by rw [Dk.snaps_change]; simp
    have e2 := Dk.change_names d c
    simp only [RV.val, e1, e2]
    rfl
  · have hD := (h.chg0 H.chg).more hG
    have hN := (hn.chg0 H.chg).more hG
    have e2 := Dk.change_names d c
    have e3 := Dk.snaps_change d c
    refine ⟨hD.files, hD.fl, hD.each, by rw [e2]; exact hN, hD.firm, ?_, by rw [e3]; simp [h.sl], ?_⟩
    · rw [e3, sliceCs_snoc h.sl, List.length_append, List.length_singleton]
      exact hm _ _ _ _ _ _ (by repeat first | exact .head _ | refine .tail _ ?_)
    · intro k p l h1 h2
      rw [e3] at h2
      by_cases hk : k < d.snaps.length
      · rw [List.getElem?_append_left hk] at h2
        simp only at h1
        rw [List.getElem?_append_left (by rw [h.sl]; exact hk)] at h1
        exact hD.snap k p l h1 h2
      · have hk2 : k = d.snaps.length := by
          have := (List.getElem?_eq_some_iff.1 h2).1
          simp at this; omega
        subst hk2
        simp only at h1
        rw [List.getElem?_append_right (by omega)] at h2
        rw [List.getElem?_append_right (by rw [h.sl]; omega)] at h1
        simp [h.sl] at h1 h2
        subst h1 h2
        exact hN
end Go.Proofs.Ytdpkamajecmebaa
