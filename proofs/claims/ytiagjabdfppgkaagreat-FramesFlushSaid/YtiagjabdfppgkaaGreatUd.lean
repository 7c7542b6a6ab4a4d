/- Vault: New, Read, Sync, Write. -/
import Derived.Test.YtiagjabdfppgkaaGreatUc
import Derived.Test.YtiagjabdfppgkaaGreatMen
set_option linter.unusedVariables false
set_option linter.unusedSimpArgs false
set_option maxRecDepth 100000
namespace Go.Proofs.YtiagjabdfppgkaaGreat
open Go Go.Vc Go.Vault

theorem new_spec (room : Int) (w : World) : Calls Tryz.prog 19 #[.int .i64 room] w fun e w' => ∃ x : DW, e = .returned (.pointer (some ⟨x.b, 0, none⟩)) ∧ x.Ok (Dk.new room) ∧ Hp [] w w' (dkL x (Dk.new room)) := by
  apply new.ok; unfold new.vc
  have H := Hp.start w
  intro b w1 hn; replace H := H.newS (by exact ⟨rfl, rfl, rfl, rfl⟩) hn; clear hn
  intro b1 w2 hn; replace H := H.newS (by exact ⟨rfl, rfl, rfl, rfl⟩) hn; clear hn
  intro b2 w3 hn; replace H := H.new (by exact ⟨rfl, rfl, rfl, rfl⟩) hn; clear hn
  have e1 : min (max room 0) 65536 = ((Dk.new room).room : Int) := by simp only [Dk.new]; omega
  rw [e1] at H
  refine ⟨⟨b2, none, 0, [], b, [], b1, [], none, 0, []⟩, rfl, ⟨⟨by simp only [Dk.new]; omega, by simp [Dk.new], by simp [Dk.new], by simp [Dk.new], by simp [Dk.new, Rising], by simp [Dk.new], by simp [Dk.new]⟩, rfl, rfl, by simp, by simp [Dk.new, nvl, Dk.names, ons], by simp [Dk.new, nvl]⟩, ?_⟩
  replace H := (H.nilS 79 1).nilS 82 1
  rw [dkL_eq]
  simp only [dkR, filesL, chsL, ptrs, chVs, List.zipWith_nil_left, List.flatten_nil, List.append_nil, List.map_nil]
  simp only [Dk.new] at H ⊢
  ((try dsimp only [List.cons_append, List.nil_append]); (try dsimp only [List.cons_append, List.nil_append] at H); refine Hp.perm H ?_; (repeat (apply perm_step; (focus first | exact perm_p0 | exact perm_p1 | exact perm_p2 | exact perm_p3 | exact perm_p4 | exact perm_p5 | exact perm_p6 | exact perm_p7 | exact perm_p8 | exact perm_p9))); exact List.Perm.refl _)

theorem secs_len {l : List (List UInt8)} (h : ∀ s ∈ l, s.length = 512) : (secs l).length = l.length * 512 := by
  induction l with
  | nil => rfl
  | cons s r ih =>
    have h1 := h s (.head _)
    have h2 := ih fun s hs => h s (.tail _ hs)
    simp only [secs, List.flatten_cons, bcells_length, List.length_append, List.length_cons] at h2 ⊢
    omega
theorem secs_cons (s : List UInt8) (r : List (List UInt8)) : secs (s :: r) = bcells s ++ secs r := by simp [secs, bcells_append]
theorem secs_append (a b : List (List UInt8)) : secs (a ++ b) = secs a ++ secs b := by simp [secs, bcells_append]
theorem secs_one (s : List UInt8) : secs [s] = bcells s := by simp [secs]
theorem secs_ones (l : List (List UInt8)) : (secs l).all (·.oneCell') = true := by
  simp only [secs, bcells, List.all_map, List.all_eq_true]
  intro b hb; rfl
theorem secs_at {l : List (List UInt8)} (h : ∀ s ∈ l, s.length = 512) : ∀ {k : Nat} {s : List UInt8}, l[k]? = some s → ((secs l).drop (k * 512)).take 512 = bcells s := by
  induction l with
  | nil => intro k s hk; simp at hk
  | cons s0 r ih =>
    intro k s hk
    have h1 := h s0 (.head _)
    rw [secs_cons]
    cases k with
    | zero =>
      simp at hk; subst hk
      rw [Nat.zero_mul, List.drop_zero, List.take_left' (by rw [bcells_length, h1])]
    | succ k =>
      rw [List.getElem?_cons_succ] at hk
      have e1 : (k + 1) * 512 = (bcells s0).length + k * 512 := by rw [bcells_length, h1]; omega
      rw [e1, List.drop_append, List.drop_eq_nil_of_le (by omega), List.nil_append, Nat.add_sub_cancel_left]
      exact ih (fun s hs => h s (.tail _ hs)) hk
theorem secs_set {l : List (List UInt8)} (h : ∀ s ∈ l, s.length = 512) : ∀ {k : Nat} {s : List UInt8}, s.length = 512 → k < l.length → over (bcells s) (k * 512) (secs l) = secs (l.set k s) := by
  intro k s hs hk
  have e1 : l = l.take k ++ (l[k] :: l.drop (k + 1)) := by rw [List.getElem_cons_drop, List.take_append_drop]
  have e2 : l.set k s = l.take k ++ (s :: l.drop (k + 1)) := by rw [List.set_eq_take_append_cons_drop, if_pos hk]
  have h1 : (secs (l.take k)).length = k * 512 := by
    rw [secs_len fun s hs => h s (List.mem_of_mem_take hs), List.length_take]
    congr 1; omega
  rw [e2]
  conv => lhs; rw [e1]
  rw [secs_append, secs_append, secs_cons, secs_cons, ← h1]
  exact over_app _ _ _ _ (by rw [bcells_length, bcells_length, hs, h _ (List.getElem_mem hk)])
theorem zlSec : zl Tryz.prog 117 = bcells zsec := by kernel_rfl
theorem buildNil : BuildS Tryz.prog 94 0 [] 117 [] := by
  unfold BuildS; kernel_rfl

theorem cloneS_spec (a : Option Addr) (n c : Nat) (xs : List Value) (w : World) (h : (Asn.own 117 512 a n c xs).ok w) (h1 : xs.all (·.oneCell') = true) (hn : n ≤ 1073741824) :
    Calls Tryz.prog 58 #[.slice a n c] w fun e w' => ∃ a' c', e = .returned (.slice a' n c') ∧ Hp [] w w' [.own 117 512 a' n c' xs] := by
  have hO : Own w 0 117 512 a n c xs := h
  apply cloneS.ok; unfold cloneS.vc
  refine ⟨_, eqv_slcE undSS, ?_⟩
  refine br_mk (fun hnone => ?_) (fun hs => ?_)
  · have ha : a = none := by simpa using hnone
    subst ha
    rcases hO.2 with ⟨_, rfl, rfl⟩ | ⟨g, _, _, hg, _⟩
    · have hx : xs = [] := List.eq_nil_of_length_eq_zero (by simpa using hO.1)
      subst hx
      exact ⟨none, 0, rfl, (Hp.start w).nilS _ _⟩
    · cases hg
  · have K := Hp.start w
    refine ⟨_, _, buildNil, ?_⟩
    intro b w1 hw
    have hc := hw.chg
    replace K := K.new (by exact ⟨rfl, rfl, rfl, rfl⟩) hw
    replace K := K.reown 512 0 rfl (by simp)
    have hO1 : Own w1 0 117 512 a n c xs := hO.chg hc (by simp)
    refine Hp.app eltSec (by omega) K (by exact ⟨rfl, rfl, rfl, rfl⟩) (Cells.src undSS hO1.cells hO.1 (fun u hu => List.all_eq_true.1 h1 u hu) (by rintro rfl; simp at hs)) (by simp only [maxLen]; omega) (by omega) ?_
    intro a' c' w2 K
    simp only [List.nil_append, Nat.zero_add] at K ⊢
    exact ⟨_, _, rfl, K⟩

def dkB (x : DW) (d : Dk) (k : Nat) : List Asn :=
  .blk x.b [.int .i64 (d.room : Int), .slice x.fa d.files.length x.fc, .map (some x.mn), .map (some x.mf), .slice x.ca d.chs.length x.cc, .int .i64 (d.armed : Int), .int .i64 (d.denied : Int), .bool d.dead] 76 ::
  .own 79 1 x.fa d.files.length x.fc (ptrs x.fs) :: .smap x.mn x.na :: .smap x.mf x.fi :: .own 82 1 x.ca d.chs.length x.cc (chVs x.cs d.chs) :: (filesL (x.fs.eraseIdx k) (d.files.eraseIdx k) ++ chsL x.cs d.chs)
theorem perm_swap3 (A L X : List Asn) : (A ++ (L ++ X)).Perm (L ++ (A ++ X)) := by
  rw [← List.append_assoc, ← List.append_assoc]
  exact List.perm_append_comm.append_right _
theorem perm_f5 {a b c d e : Asn} {F F' C : List Asn} {L : List Asn} (h : F.Perm (L ++ F')) : (a :: b :: c :: d :: e :: (F ++ C)).Perm (L ++ (a :: b :: c :: d :: e :: (F' ++ C))) := by
  have h1 : (a :: b :: c :: d :: e :: (F ++ C)).Perm ([a, b, c, d, e] ++ (L ++ (F' ++ C))) := by
    rw [← List.append_assoc L]
    exact (h.append_right C).append_left [a, b, c, d, e]
  refine h1.trans ?_
  exact perm_swap3 [a, b, c, d, e] L (F' ++ C)
theorem dk_open {x : DW} {d : Dk} {k : Nat} {f : FW} {g : Fl} (h1 : x.fs[k]? = some f) (h2 : d.files[k]? = some g) : (dkL x d).Perm (flL f g ++ dkB x d k) := perm_f5 (filesL_get h1 h2)
def putX (x : DW) (k : Nat) (f : FW) : DW := { x with fs := x.fs.set k f }
theorem ptrs_set {xs : List FW} {k : Nat} {f f' : FW} (h : xs[k]? = some f) (hb : f'.b = f.b) : ptrs (xs.set k f') = ptrs xs := by
  apply List.ext_getElem?
  intro i
  simp only [ptrs, List.getElem?_map, List.getElem?_set]
  split
  · rename_i e
    subst e
    split
    · rw [h, Option.map_some, Option.map_some, hb]
    · rename_i h2
      rw [List.getElem?_eq_none (by omega)] at h; cases h
  · rfl
theorem dk_shut {x : DW} {d : Dk} {k : Nat} {f f' : FW} {g g' : Fl} (h1 : x.fs[k]? = some f) (h2 : d.files[k]? = some g) (hb : f'.b = f.b) : (dkL (putX x k f') (d.put k g')).Perm (flL f' g' ++ dkB x d k) := by
  have hk1 := (List.getElem?_eq_some_iff.1 h1).1
  have hk2 := (List.getElem?_eq_some_iff.1 h2).1
  have := perm_f5 (a := .blk x.b [.int .i64 (d.room : Int), .slice x.fa d.files.length x.fc, .map (some x.mn), .map (some x.mf), .slice x.ca d.chs.length x.cc, .int .i64 (d.armed : Int), .int .i64 (d.denied : Int), .bool d.dead] 76)
    (b := .own 79 1 x.fa d.files.length x.fc (ptrs x.fs)) (c := .smap x.mn x.na) (d := .smap x.mf x.fi) (e := .own 82 1 x.ca d.chs.length x.cc (chVs x.cs d.chs)) (C := chsL x.cs d.chs) (filesL_set f' g' hk1 hk2)
  rw [dkL_eq]
  simp only [putX, Dk.put, List.length_set, ptrs_set h1 hb, dkR]
  exact this
theorem DW.Ok.put {x : DW} {d : Dk} (h : x.Ok d) {k : Nat} {f' : FW} {g' : Fl} (hg : g'.Ok) (hk : (f'.al.map (·.1)).Perm (g'.since.map fun n : Nat => (n : Int))) : (putX x k f').Ok (d.put k g') := by
  refine ⟨⟨h.dk.room, fun e he => ?_, fun p hp => ?_, fun c hc => ?_, h.dk.rise, h.dk.armed, h.dk.denied⟩, by simp [putX, Dk.put, h.fl], h.cl, ?_, h.na, h.fi⟩
  · rcases List.mem_or_eq_of_mem_set he with he | rfl
    · exact h.dk.files e he
    · exact hg
  · have := h.dk.firm p hp
    simpa [Dk.put] using this
  · have := h.dk.chs c hc
    simpa [Dk.put] using this
  · intro i f2 g2 h1 h2
    simp only [putX, Dk.put, List.getElem?_set] at h1 h2
    split at h1
    · rename_i e
      subst e
      rw [if_pos rfl] at h2
      split at h1
      · split at h2
        · cases h1; cases h2; exact hk
        · cases h2
      · cases h1
    · rename_i e
      rw [if_neg e] at h2
      exact h.keys i f2 g2 h1 h2
theorem fileOk {x : DW} {d : Dk} (h : x.Ok d) {k : Nat} {g : Fl} (h2 : d.files[k]? = some g) : g.Ok := h.dk.files g (List.mem_of_getElem? h2)

set_option maxHeartbeats 1000000 in
theorem read_spec (x : DW) (d : Dk) (hok : x.Ok d) (n : ByteArray) (i : Int) (w : World) (st : Std w (dkL x d)) :
    Calls Tryz.prog 65 #[.pointer (some ⟨x.b, 0, none⟩), .string n, .int .i64 i] w fun e w' => ∃ a c, e = .returned (.tuple #[.slice a (d.read n i).1.length c, .int .i64 (d.read n i).2]) ∧ Hp [] w w' [.own 117 1 a (d.read n i).1.length c (bcells (d.read n i).1)] := by
  apply read.ok; unfold read.vc
  refine callV (find_spec x d hok n w st) ?_
  rintro e w1 ⟨rfl, K⟩
  have H := (Hp.startL st).ext K
  rw [List.nil_append] at H
  have hnil : ∀ c : Int, d.read n i = ([], c) → ∃ a c', Ending.returned (.tuple #[.slice none 0 0, .int .i64 c]) = .returned (.tuple #[.slice a (d.read n i).1.length c', .int .i64 (d.read n i).2]) ∧ Hp [] w w1 [.own 117 1 a (d.read n i).1.length c' (bcells (d.read n i).1)] := by
    intro c h
    rw [h]
    exact ⟨none, 0, rfl, K.nilS _ _⟩
  refine ⟨_, rfl, ?_⟩
  simp only [dkL] at H
  refine onP_mk rfl ?_
  ((repeat apply Exists.intro); first | refine ⟨H.ld (by exact ⟨rfl, rfl, rfl, rfl⟩) (by first | exact sclInt | exact sclBool | exact sclStr | exact sclMSI | exact sclSF | exact sclPF | exact sclSS | exact sclMIB | exact sclSC | exact sclC) (by repeat first | exact .head _ | refine .tail _ ?_) rfl, ?_⟩)
  refine br_mk (fun h => hnil _ (by simp [Dk.read, h])) (fun h => ?_)
  cases hk : d.find n with
  | none =>
    refine ⟨_, eqv_ptrE undPF, ?_⟩
    refine br_mk (fun _ => hnil _ (by simp [Dk.read, h, hk])) (fun h => by cases h)
  | some k =>
    obtain ⟨f, g, h1, h2, h3⟩ := hok.at (hok.dk.find hk)
    have hg := fileOk hok h2
    rw [fptr_at h1]
    refine ⟨_, eqv_ptrE undPF, ?_⟩
    refine br_mk (fun h => by cases h) (fun _ => ?_)
    have hlen : d.len k = g.now.length := by rw [Dk.len, h3]
    refine br_dec (fun h4 => hnil _ (by simp [Dk.read, h, hk, h4])) (fun h4 => ?_)
    replace H := ((Hp.startL st).ext K).perm (dk_open h1 h2)
    simp only [flL, List.cons_append, List.nil_append] at H
    refine onP_mk rfl ?_
    ((repeat apply Exists.intro); first | refine ⟨H.ld (by exact ⟨rfl, rfl, rfl, rfl⟩) (by first | exact sclInt | exact sclBool | exact sclStr | exact sclMSI | exact sclSF | exact sclPF | exact sclSS | exact sclMIB | exact sclSC | exact sclC) (by repeat first | exact .head _ | refine .tail _ ?_) rfl, ?_⟩)
    refine br_dec (fun h5 => hnil _ (by simp [Dk.read, h, hk, hlen, h5])) (fun h5 => ?_)
    have hrd : d.read n i = (g.now.getD i.toNat [], 0) := by
      have : ¬ (i < 0 ∨ (d.len k : Int) ≤ i) := by rw [hlen]; omega
      simp only [Dk.read, h, hk, h3, Bool.false_eq_true, if_false, if_neg this]
    refine onP_mk rfl ?_
    ((repeat apply Exists.intro); first | refine ⟨H.ld (by exact ⟨rfl, rfl, rfl, rfl⟩) (by first | exact sclInt | exact sclBool | exact sclStr | exact sclMSI | exact sclSF | exact sclPF | exact sclSS | exact sclMIB | exact sclSC | exact sclC) (by repeat first | exact .head _ | refine .tail _ ?_) rfl, ?_⟩)
    have hi : i.toNat < g.now.length := by omega
    have hgd : g.now.getD i.toNat [] = g.now[i.toNat] := by simp [hi]
    have hs := hg.now _ (List.getElem_mem hi)
    obtain ⟨ad, ha, hl⟩ := H.ldOA (P := Tryz.prog) (w' := w1) (o := i.toNat * 512) (by exact ⟨rfl, rfl, rfl, rfl⟩) aggSec (by omega) (.tail _ (.head _)) (secs_at hg.now (List.getElem?_eq_getElem hi)) (by rw [bcells_length, hs])
    refine onP_mk ha ⟨⟨by omega, by omega⟩, _, hl, ?_⟩
    rw [zlSec]
    intro b w2 hn; replace K := K.new (by exact ⟨rfl, rfl, rfl, rfl⟩) hn; clear hn
    refine Hp.stA K (by exact ⟨rfl, rfl, rfl, rfl⟩) aggSec (by rw [bcells_length, hs]) (by simp [bcells]; intros; rfl) (by simp [bcells, zsec]) (over_all _ _ (by rw [bcells_length, hs]; simp [bcells, zsec])) ?_
    clear K
    intro w3 K
    rw [hrd, hgd]
    refine ⟨some ⟨b, 0, none⟩, 512, by rw [hs], ?_⟩
    have := K.reown 1 512 (by rw [bcells_length, hs]) (by simp [maxLen])
    rw [hs]
    exact this

set_option maxHeartbeats 1000000 in
theorem sync_spec (x : DW) (d : Dk) (hok : x.Ok d) {N : Nat} (few : d.Few N) (hN : N ≤ 1073741824) (n : ByteArray) (w : World) (st : Std w (dkL x d)) :
    Calls Tryz.prog 27 #[.pointer (some ⟨x.b, 0, none⟩), .string n] w (DkPost x d w (.int .i64 (d.sync n).2) (d.sync n).1) := by
  apply sync.ok; unfold sync.vc DkPost
  refine callV (find_spec x d hok n w st) ?_
  rintro e w1 ⟨rfl, K⟩
  have H := (Hp.startL st).ext0 K
  clear K
  generalize hB : feet (dkL x d) = B at H ⊢
  have hdk := dkL_eq x d
  refine ⟨_, rfl, ?_⟩
  rw [hdk] at H
  refine onP_mk rfl ?_
  ((repeat apply Exists.intro); first | refine ⟨H.ld (by exact ⟨rfl, rfl, rfl, rfl⟩) (by first | exact sclInt | exact sclBool | exact sclStr | exact sclMSI | exact sclSF | exact sclPF | exact sclSS | exact sclMIB | exact sclSC | exact sclC) (by repeat first | exact .head _ | refine .tail _ ?_) rfl, ?_⟩)
  rw [← hdk] at H
  refine br_mk (fun h => ?_) (fun h => ?_)
  · have e1 : d.sync n = (d, 93) := by simp [Dk.sync, h]
    rw [e1]
    exact ⟨rfl, x, rfl, hok, H⟩
  cases hk : d.find n with
  | none =>
    refine ⟨_, eqv_ptrE undPF, ?_⟩
    refine br_mk (fun _ => ?_) (fun h => by cases h)
    have e1 : d.sync n = (d, 90) := by simp [Dk.sync, h, hk]
    rw [e1]
    exact ⟨rfl, x, rfl, hok, H⟩
  | some k =>
    obtain ⟨f, g, h1, h2, h3⟩ := hok.at (hok.dk.find hk)
    have hg := fileOk hok h2
    rw [fptr_at h1]
    refine ⟨_, eqv_ptrE undPF, ?_⟩
    refine br_mk (fun h => by cases h) (fun _ => ?_)
    refine callV (denies_spec x d hok.dk.denied w1 H.std) ?_
    rintro e w2 ⟨rfl, H'⟩; replace H := H.useAll H'; clear H'
    refine ⟨_, rfl, ?_⟩
    refine br_mk (fun h4 => ?_) (fun h4 => ?_)
    · have e1 : d.sync n = (d.denies, 95) := by simp [Dk.sync, h, hk, h4]
      rw [e1]
      exact ⟨rfl, x, rfl, hok.denies, H⟩
    refine callV (dies_spec x d.denies hok.denies.dk.armed w2 H.std) ?_
    rintro e w3 ⟨rfl, H'⟩; replace H := H.useAll H'; clear H'
    refine ⟨_, rfl, ?_⟩
    refine br_mk (fun h5 => ?_) (fun h5 => ?_)
    · have e1 : d.sync n = (d.denies.dies, 93) := by simp [Dk.sync, h, hk, h4, h5]
      rw [e1]
      exact ⟨rfl, x, rfl, hok.denies.dies, H⟩
    have e1 : d.sync n = (d.denies.dies.put k g.sync, 0) := by simp [Dk.sync, h, hk, h4, h5, h3]
    rw [e1]
    have hq2 : d.denies.dies.files[k]? = some g := by
      obtain ⟨a, b, e⟩ := dies_eq d.denies
      rw [e]; exact h2
    have hok' := hok.denies.dies
    generalize d.denies.dies = q at H hq2 hok' ⊢
    replace H := H.perm (dk_open h1 hq2)
    simp only [flL, List.cons_append, List.nil_append] at H
    refine onP_mk rfl ?_
    ((repeat apply Exists.intro); first | refine ⟨H.ld (by exact ⟨rfl, rfl, rfl, rfl⟩) (by first | exact sclInt | exact sclBool | exact sclStr | exact sclMSI | exact sclSF | exact sclPF | exact sclSS | exact sclMIB | exact sclSC | exact sclC) (by repeat first | exact .head _ | refine .tail _ ?_) rfl, ?_⟩)
    have hnow : g.now.length ≤ N := few.now g (List.mem_of_getElem? h2)
    refine callV (cloneS_spec f.an g.now.length f.cn (secs g.now) w3 (H.ok _ (.tail _ (.head _))) (secs_ones _) (by omega)) ?_
    rintro e w4 ⟨a', c', rfl, H'⟩; replace H := H.ext H'; clear H'
    simp only [List.cons_append, List.nil_append] at H
    refine ⟨_, _, _, rfl, ?_⟩
    refine onP_mk rfl ?_
    ((first | (apply Hp.st; (case H => first | exact H | exact H.pull1 | exact H.pull2 | exact H.pull3 | exact H.pull4 | exact H.pull5 | exact H.pull6 | exact H.pull7); (case e => exact ⟨rfl, rfl, rfl, rfl⟩); (case S => exact (by first | exact sclInt | exact sclBool | exact sclStr | exact sclMSI | exact sclSF | exact sclPF | exact sclSS | exact sclMIB | exact sclSC | exact sclC)); (case hv => exact rfl); (case h1 => exact rfl); (case ho => exact Nat.le_of_ble_eq_true rfl); (case hc => exact rfl))); clear H; intro _ H; (try simp only [over, List.set_cons_zero, List.set_cons_succ] at H))
    rename_i w5
    refine onP_mk rfl ?_
    ((repeat apply Exists.intro); first | refine ⟨H.ld (by exact ⟨rfl, rfl, rfl, rfl⟩) (by first | exact sclInt | exact sclBool | exact sclStr | exact sclMSI | exact sclSF | exact sclPF | exact sclSS | exact sclMIB | exact sclSC | exact sclC) (by repeat first | exact .head _ | refine .tail _ ?_) rfl, ?_⟩)
    refine Hp.clrI mapIB rfl H.pull4 (by exact ⟨rfl, rfl, rfl, rfl⟩) ?_
    clear H; intro w6 H
    refine ⟨rfl, putX x k { f with af := a', cf := c', al := [] }, rfl, hok'.put ⟨hg.now, hg.now, by simp [Fl.sync], by simp [Fl.sync], Nat.le_refl _⟩ (.refl _), ?_⟩
    have hp := dk_shut (f' := { f with af := a', cf := c', al := [] }) (g' := g.sync) h1 hq2 rfl
    refine Hp.perm (L := flL { f with af := a', cf := c', al := [] } g.sync ++ dkB x q k) ?_ hp.symm
    simp only [flL, Fl.sync, List.cons_append, List.nil_append]
    have H2 : Hp B w w6 (.own 117 512 f.af g.firm.length f.cf (secs g.firm) :: .blk f.b [.slice f.an g.now.length f.cn, .slice a' g.now.length c', .map (some f.bm)] 97 :: .own 117 512 f.an g.now.length f.cn (secs g.now) :: .own 117 512 a' g.now.length c' (secs g.now) :: .imap f.bm .i64 [] :: dkB x q k) := by
      ((try dsimp only [List.cons_append, List.nil_append]); (try dsimp only [List.cons_append, List.nil_append] at H); refine Hp.perm H ?_; (repeat (apply perm_step; (focus first | exact perm_p0 | exact perm_p1 | exact perm_p2 | exact perm_p3 | exact perm_p4 | exact perm_p5 | exact perm_p6 | exact perm_p7 | exact perm_p8 | exact perm_p9))); exact List.Perm.refl _)
    exact H2.drop
end Go.Proofs.YtiagjabdfppgkaaGreat
