/- Vault: Create, Rename, Remove, SyncNames, Names, New. -/
import Derived.Test.YtiagjabdfppgkaaGreatUb
set_option linter.unusedVariables false
set_option linter.unusedSimpArgs false
set_option maxRecDepth 100000
namespace Go.Proofs.YtiagjabdfppgkaaGreat
open Go Go.Vc Go.Vault

theorem dkL_eq (x : DW) (d : Dk) : dkL x d =
  .blk x.b [.int .i64 (d.room : Int), .slice x.fa d.files.length x.fc, .map (some x.mn), .map (some x.mf), .slice x.ca d.chs.length x.cc, .int .i64 (d.armed : Int), .int .i64 (d.denied : Int), .bool d.dead] 76 ::
  .own 79 1 x.fa d.files.length x.fc (ptrs x.fs) :: .smap x.mn x.na :: .smap x.mf x.fi :: .own 82 1 x.ca d.chs.length x.cc (chVs x.cs d.chs) :: dkR x d := rfl
def DkPost (x : DW) (d : Dk) (w : World) (v : Value) (d' : Dk) (e : Ending) (w' : World) : Prop :=
  e = .returned v ∧ ∃ x', x'.b = x.b ∧ x'.Ok d' ∧ Hp (feet (dkL x d)) w w' (dkL x' d')
def Post2 (L : List Asn) (b : Nat) (w : World) (v : Value) (d' : Dk) (e : Ending) (w' : World) : Prop :=
  e = .returned v ∧ ∃ x', x'.b = b ∧ x'.Ok d' ∧ Hp (feet L) w w' (dkL x' d')
theorem Fl.none_ok : Fl.none.Ok := ⟨by simp [Fl.none], by simp [Fl.none], by simp [Fl.none], by simp [Fl.none], by simp [Fl.none]⟩
theorem filesL_snoc {xs : List FW} {fs : List Fl} (h : xs.length = fs.length) (x : FW) (f : Fl) : filesL (xs ++ [x]) (fs ++ [f]) = filesL xs fs ++ flL x f := by
  simp [filesL, List.zipWith_append h]
theorem ptrs_snoc (xs : List FW) (x : FW) : ptrs (xs ++ [x]) = ptrs xs ++ [.pointer (some ⟨x.b, 0, none⟩)] := by simp [ptrs]
/-- one file more -/
theorem dkR_file {x : DW} {d : Dk} (hok : x.Ok d) (f : FW) (g : Fl) (a : Option Addr) (c : Nat) : (dkR { x with fa := a, fc := c, fs := x.fs ++ [f] } { d with files := d.files ++ [g] }).Perm (flL f g ++ dkR x d) := by
  simp only [dkR, filesL_snoc hok.fl]
  rw [← List.append_assoc]
  exact List.perm_append_comm.append_right _
theorem DW.Ok.file {x : DW} {d : Dk} (h : x.Ok d) (f : FW) (g : Fl) (hg : g.Ok) (hk : (f.al.map (·.1)).Perm (g.since.map fun n : Nat => (n : Int))) (a : Option Addr) (c : Nat) : ({ x with fa := a, fc := c, fs := x.fs ++ [f] } : DW).Ok { d with files := d.files ++ [g] } := by
  have hl : d.files.length ≤ (d.files ++ [g]).length := by simp
  refine ⟨⟨h.dk.room, fun e he => ?_, fun p hp => (h.dk.firm p hp).mono hl, fun c hc => (h.dk.chs c hc).mono hl, h.dk.rise, h.dk.armed, h.dk.denied⟩, by simp [h.fl], h.cl, ?_, h.na, h.fi⟩
  · rcases List.mem_append.1 he with he | he
    · exact h.dk.files e he
    · rw [List.mem_singleton.1 he]; exact hg
  · intro k f' g' h1 h2
    show (f'.al.map (·.1)).Perm (g'.since.map fun n : Nat => (n : Int))
    by_cases hkl : k < x.fs.length
    · rw [List.getElem?_append_left hkl] at h1
      rw [List.getElem?_append_left (by rw [← h.fl]; exact hkl)] at h2
      exact h.keys k f' g' h1 h2
    · have hk2 : k = x.fs.length := by
        have := (List.getElem?_eq_some_iff.1 h1).1
        simp at this; omega
      subst hk2
      rw [List.getElem?_append_right (by omega)] at h1
      rw [List.getElem?_append_right (by rw [h.fl]; omega)] at h2
      simp [h.fl] at h1 h2
      subst h1 h2
      exact hk

set_option maxHeartbeats 1000000 in
theorem create_spec (x : DW) (d : Dk) (hok : x.Ok d) (hl : d.chs.length ≤ 1073741824) (hf : d.files.length ≤ 1073741824) (n : ByteArray) (w : World) (st : Std w (dkL x d)) :
    Calls Tryz.prog 62 #[.pointer (some ⟨x.b, 0, none⟩), .string n] w (DkPost x d w (.int .i64 (d.create n).2) (d.create n).1) := by
  apply create.ok; unfold create.vc DkPost
  have H := Hp.startL st
  generalize hB : feet (dkL x d) = B at H ⊢
  have hdk := dkL_eq x d
  simp only [dkL] at H
  (intro _ _ hn; replace H := H.new (by exact ⟨rfl, rfl, rfl, rfl⟩) hn; clear hn)
  rename_i b w1
  refine onP_mk rfl ?_
  ((repeat apply Exists.intro); first | refine ⟨H.ld (by exact ⟨rfl, rfl, rfl, rfl⟩) (by first | exact sclInt | exact sclBool | exact sclStr | exact sclMSI | exact sclSF | exact sclPF | exact sclSS | exact sclMIB | exact sclSC | exact sclC) (by repeat first | exact .head _ | refine .tail _ ?_) rfl, ?_⟩)
  refine br_mk (fun h => ?_) (fun h => ?_)
  · have e1 : d.create n = (d, 93) := by simp [Dk.create, h]
    rw [e1]
    exact ⟨rfl, x, rfl, hok, by rw [hdk]; exact H.drop⟩
  · ((repeat apply Exists.intro); first | refine ⟨H.ld (by exact ⟨rfl, rfl, rfl, rfl⟩) (by first | exact sclInt | exact sclBool | exact sclStr | exact sclMSI | exact sclSF | exact sclPF | exact sclSS | exact sclMIB | exact sclSC | exact sclC) (by repeat first | exact .head _ | refine .tail _ ?_) rfl, ?_⟩)
    refine callV (right_spec n _) ?_
    rintro e w2 ⟨rfl, H'⟩; replace H := H.ext0 H'; clear H'
    refine ⟨_, rfl, ?_⟩
    refine br_not (fun h2 => ?_) (fun h2 => ?_)
    · have e1 : d.create n = (d, 92) := by simp [Dk.create, h, h2]
      rw [e1]
      exact ⟨rfl, x, rfl, hok, by rw [hdk]; exact H.drop⟩
    have e1 : d.create n = ((Dk.change { d with files := d.files ++ [Fl.none] } (.create n d.files.length)).dies, (Dk.change { d with files := d.files ++ [Fl.none] } (.create n d.files.length)).dies.code) := by simp [Dk.create, h, h2]
    rw [e1]
    refine onP_mk rfl ?_
    ((repeat apply Exists.intro); first | refine ⟨H.ld (by exact ⟨rfl, rfl, rfl, rfl⟩) (by first | exact sclInt | exact sclBool | exact sclStr | exact sclMSI | exact sclSF | exact sclPF | exact sclSS | exact sclMIB | exact sclSC | exact sclC) (by repeat first | exact .head _ | refine .tail _ ?_) rfl, ?_⟩)
    intro b3 w3 hn; replace H := H.new (by exact ⟨rfl, rfl, rfl, rfl⟩) hn; clear hn
    ((first | (apply Hp.st; (case H => first | exact H | exact H.pull1 | exact H.pull2 | exact H.pull3 | exact H.pull4 | exact H.pull5 | exact H.pull6 | exact H.pull7); (case e => exact ⟨rfl, rfl, rfl, rfl⟩); (case S => exact (by first | exact sclInt | exact sclBool | exact sclStr | exact sclMSI | exact sclSF | exact sclPF | exact sclSS | exact sclMIB | exact sclSC | exact sclC)); (case hv => exact rfl); (case h1 => exact rfl); (case ho => exact Nat.le_of_ble_eq_true rfl); (case hc => exact rfl))); clear H; intro _ H; (try simp only [over, List.set_cons_zero, List.set_cons_succ] at H))
    refine onP_mk rfl ?_
    ((repeat apply Exists.intro); first | refine ⟨H.ld (by exact ⟨rfl, rfl, rfl, rfl⟩) (by first | exact sclInt | exact sclBool | exact sclStr | exact sclMSI | exact sclSF | exact sclPF | exact sclSS | exact sclMIB | exact sclSC | exact sclC) (by repeat first | exact .head _ | refine .tail _ ?_) rfl, ?_⟩)
    intro b4 w5 hn; replace H := H.newI (by exact ⟨rfl, rfl, rfl, rfl⟩) .i64 hn; clear hn
    intro b5 w6 hn; replace H := H.new (by exact ⟨rfl, rfl, rfl, rfl⟩) hn; clear hn
    intro b6 w7 hn; replace H := H.new (by exact ⟨rfl, rfl, rfl, rfl⟩) hn; clear hn
    refine Hp.app eltPF (by omega) H.pull6 (by exact ⟨rfl, rfl, rfl, rfl⟩) (Blk.src undSPF ((H.go (w' := w7.drew) (by exact ⟨rfl, rfl, rfl, rfl⟩)).blk (.head _)) rfl rfl) (by simp only [maxLen]; omega) (by omega) ?_
    clear H
    intro a' c' w8 H
    replace H := H.drop1
    refine onP_mk rfl ?_
    ((first | (apply Hp.st; (case H => first | exact H | exact H.pull1 | exact H.pull2 | exact H.pull3 | exact H.pull4 | exact H.pull5 | exact H.pull6 | exact H.pull7); (case e => exact ⟨rfl, rfl, rfl, rfl⟩); (case S => exact (by first | exact sclInt | exact sclBool | exact sclStr | exact sclMSI | exact sclSF | exact sclPF | exact sclSS | exact sclMIB | exact sclSC | exact sclC)); (case hv => exact rfl); (case h1 => exact rfl); (case ho => exact Nat.le_of_ble_eq_true rfl); (case hc => exact rfl))); clear H; intro _ H; (try simp only [over, List.set_cons_zero, List.set_cons_succ] at H))
    rename_i w9
    replace H := (H.nilS 117 512).nilS 117 512
    obtain ⟨f, hf0⟩ : ∃ f : FW, f = ⟨b5, none, 0, none, 0, b4, []⟩ := ⟨_, rfl⟩
    obtain ⟨y, hy, hyb⟩ : ∃ y : DW, y = { x with fa := a', fc := c', fs := x.fs ++ [f] } ∧ y.b = x.b := ⟨_, rfl, rfl⟩
    have hok' := hok.file f Fl.none Fl.none_ok (by rw [hf0]; exact .refl _) a' c'
    have e2 : (dkL y { d with files := d.files ++ [Fl.none] }).Perm (.blk x.b [.int .i64 (d.room : Int), .slice a' (d.files.length + 1) c', .map (some x.mn), .map (some x.mf), .slice x.ca d.chs.length x.cc, .int .i64 (d.armed : Int), .int .i64 (d.denied : Int), .bool d.dead] 76 ::
        .own 79 1 a' (d.files.length + 1) c' (ptrs x.fs ++ [.pointer (some ⟨b5, 0, none⟩)]) :: .smap x.mn x.na :: .smap x.mf x.fi :: .own 82 1 x.ca d.chs.length x.cc (chVs x.cs d.chs) ::
        .blk b5 [.slice none 0 0, .slice none 0 0, .map (some b4)] 97 :: .own 117 512 none 0 0 [] :: .own 117 512 none 0 0 [] :: .imap b4 .i64 [] :: dkR x d) := by
      have := dkR_file hok f Fl.none a' c'
      rw [hf0] at this
      subst hy
      rw [hf0]
      simp only [dkL, List.length_append, List.length_cons, List.length_nil, ptrs_snoc]
      exact ((((this.cons _).cons _).cons _).cons _).cons _
    rw [← hy] at hok'
    have H4 : Hp B w w9 (dkL y { d with files := d.files ++ [Fl.none] } ++ chL ⟨b, b3, 0⟩ (.create n d.files.length)) := by
      refine Hp.perm ?_ (e2.append_right _).symm
      have e3 : ∀ R : List Asn, (Asn.blk b3 [.int .i64 (d.files.length : Int)] 3 :: .blk b [.string n] 9 :: R).Perm (R ++ chL ⟨b, b3, 0⟩ (.create n d.files.length)) := fun R => List.perm_append_comm (l₁ := [Asn.blk b3 [.int .i64 (d.files.length : Int)] 3, .blk b [.string n] 9]) (l₂ := R)
      refine Hp.perm ?_ (e3 _)
      ((try dsimp only [List.cons_append, List.nil_append]); (try dsimp only [List.cons_append, List.nil_append] at H); refine Hp.perm H ?_; (repeat (apply perm_step; (focus first | exact perm_p0 | exact perm_p1 | exact perm_p2 | exact perm_p3 | exact perm_p4 | exact perm_p5 | exact perm_p6 | exact perm_p7 | exact perm_p8 | exact perm_p9))); exact List.Perm.refl _)
    have hr : n.size ≤ 60 := by
      have : Vault.right n = true := h2
      simp only [Vault.right, Bool.and_eq_true, decide_eq_true_eq] at this
      exact this.2
    have hd := drenameC_spec y _ hok' hl ⟨b, b3, 0⟩ n d.files.length ⟨by simp, hr⟩ w9 H4.std
    rw [hyb] at hd
    refine callV hd ?_
    rintro e w10 ⟨rfl, y', h3, h4, H'⟩
    exact ⟨_, rfl, rfl, y', h3, h4, H4.useAll H'⟩

set_option maxHeartbeats 1000000 in
theorem syncNames_spec (x : DW) (d : Dk) (hok : x.Ok d) (w : World) (st : Std w (dkL x d)) :
    Calls Tryz.prog 10 #[.pointer (some ⟨x.b, 0, none⟩)] w (DkPost x d w (.int .i64 d.syncNames.2) d.syncNames.1) := by
  apply syncNames.ok; unfold syncNames.vc DkPost
  have H := Hp.startL st
  generalize hB : feet (dkL x d) = B at H ⊢
  have hdk := dkL_eq x d
  simp only [dkL] at H
  refine onP_mk rfl ?_
  ((repeat apply Exists.intro); first | refine ⟨H.ld (by exact ⟨rfl, rfl, rfl, rfl⟩) (by first | exact sclInt | exact sclBool | exact sclStr | exact sclMSI | exact sclSF | exact sclPF | exact sclSS | exact sclMIB | exact sclSC | exact sclC) (by repeat first | exact .head _ | refine .tail _ ?_) rfl, ?_⟩)
  refine br_mk (fun h => ?_) (fun h => ?_)
  · have e1 : d.syncNames = (d, 93) := by simp [Dk.syncNames, h]
    rw [e1]
    exact ⟨rfl, x, rfl, hok, by rw [hdk]; exact H⟩
  rw [← hdk] at H
  refine callV (dies_spec x d hok.dk.armed w H.std) ?_
  rintro e w1 ⟨rfl, H'⟩; replace H := H.useAll H'; clear H'
  refine ⟨_, rfl, ?_⟩
  have hok' := hok.dies
  refine br_mk (fun h2 => ?_) (fun h2 => ?_)
  · have e1 : d.syncNames = (d.dies, 93) := by simp [Dk.syncNames, h, h2]
    rw [e1]
    exact ⟨rfl, x, rfl, hok', H⟩
  have e1 : d.syncNames = ({ d.dies with firm := d.names, chs := [] }, 0) := by simp [Dk.syncNames, h, h2]
  rw [e1]
  have hnm : d.dies.names = d.names := by
    obtain ⟨a, b, e⟩ := dies_eq d
    rw [e]; rfl
  rw [← hnm]
  generalize d.dies = q at H hok' ⊢
  simp only [dkL] at H
  refine onP_mk rfl ?_
  ((repeat apply Exists.intro); first | refine ⟨H.ld (by exact ⟨rfl, rfl, rfl, rfl⟩) (by first | exact sclInt | exact sclBool | exact sclStr | exact sclMSI | exact sclSF | exact sclPF | exact sclSS | exact sclMIB | exact sclSC | exact sclC) (by repeat first | exact .head _ | refine .tail _ ?_) rfl, ?_⟩)
  refine callV (mclone_spec x.mn x.na w1 (H.ok (.smap x.mn x.na) (by repeat first | exact .head _ | refine .tail _ ?_))) ?_
  rintro e w2 ⟨b', rfl, H'⟩; replace H := H.ext H'; clear H'
  refine ⟨_, rfl, ?_⟩
  simp only [List.cons_append, List.nil_append] at H
  refine onP_mk rfl ?_
  ((first | (apply Hp.st; (case H => first | exact H | exact H.pull1 | exact H.pull2 | exact H.pull3 | exact H.pull4 | exact H.pull5 | exact H.pull6 | exact H.pull7); (case e => exact ⟨rfl, rfl, rfl, rfl⟩); (case S => exact (by first | exact sclInt | exact sclBool | exact sclStr | exact sclMSI | exact sclSF | exact sclPF | exact sclSS | exact sclMIB | exact sclSC | exact sclC)); (case hv => exact rfl); (case h1 => exact rfl); (case ho => exact Nat.le_of_ble_eq_true rfl); (case hc => exact rfl))); clear H; intro _ H; (try simp only [over, List.set_cons_zero, List.set_cons_succ] at H))
  refine onP_mk rfl ?_
  ((first | (apply Hp.st; (case H => first | exact H | exact H.pull1 | exact H.pull2 | exact H.pull3 | exact H.pull4 | exact H.pull5 | exact H.pull6 | exact H.pull7); (case e => exact ⟨rfl, rfl, rfl, rfl⟩); (case S => exact (by first | exact sclInt | exact sclBool | exact sclStr | exact sclMSI | exact sclSF | exact sclPF | exact sclSS | exact sclMIB | exact sclSC | exact sclC)); (case hv => exact rfl); (case h1 => exact rfl); (case ho => exact Nat.le_of_ble_eq_true rfl); (case hc => exact rfl))); clear H; intro _ H; (try simp only [over, List.set_cons_zero, List.set_cons_succ] at H))
  rename_i w5
  refine ⟨rfl, { x with mf := b', fi := x.na, ca := none, cc := 0, cs := [] }, rfl, ⟨⟨hok'.dk.room, hok'.dk.files, hok'.dk.nms, by simp, hok'.dk.names, hok'.dk.armed, hok'.dk.denied⟩, hok'.fl, rfl, hok'.keys, hok'.na, hok'.na⟩, ?_⟩
  replace H := H.nilS 82 1
  simp only [dkL, dkR, chVs, chsL, List.zipWith_nil_left, List.flatten_nil, List.append_nil, List.length_nil]
  have H3 : Hp B w w5 ((.blk x.b [.int .i64 (q.room : Int), .slice x.fa q.files.length x.fc, .map (some x.mn), .map (some b'), .slice none 0 0, .int .i64 (q.armed : Int), .int .i64 (q.denied : Int), .bool q.dead] 76 ::
    .own 79 1 x.fa q.files.length x.fc (ptrs x.fs) :: .smap x.mn x.na :: .smap b' x.na :: .own 82 1 none 0 0 [] :: filesL x.fs q.files) ++ ([.smap x.mf x.fi, .own 82 1 x.ca q.chs.length x.cc (chVs x.cs q.chs)] ++ chsL x.cs q.chs)) := by
    have e4 : ∀ (A F C : List Asn), (A ++ (F ++ C)).Perm (F ++ (A ++ C)) := fun A F C => by
      rw [← List.append_assoc, ← List.append_assoc]
      exact List.perm_append_comm.append_right _
    rw [List.cons_append, List.cons_append, List.cons_append, List.cons_append, List.cons_append]
    refine Hp.perm (L := Asn.blk x.b _ 76 :: .own 79 1 x.fa q.files.length x.fc (ptrs x.fs) :: .smap x.mn x.na :: .smap b' x.na :: .own 82 1 none 0 0 [] :: ([.smap x.mf x.fi, .own 82 1 x.ca q.chs.length x.cc (chVs x.cs q.chs)] ++ (filesL x.fs q.files ++ chsL x.cs q.chs))) ?_ (List.Perm.cons _ (List.Perm.cons _ (List.Perm.cons _ (List.Perm.cons _ (List.Perm.cons _ (e4 _ _ _))))))
    ((try dsimp only [List.cons_append, List.nil_append]); (try dsimp only [List.cons_append, List.nil_append] at H); refine Hp.perm H ?_; (repeat (apply perm_step; (focus first | exact perm_p0 | exact perm_p1 | exact perm_p2 | exact perm_p3 | exact perm_p4 | exact perm_p5 | exact perm_p6 | exact perm_p7 | exact perm_p8 | exact perm_p9))); exact List.Perm.refl _)
  exact H3.takeL
end Go.Proofs.YtiagjabdfppgkaaGreat
