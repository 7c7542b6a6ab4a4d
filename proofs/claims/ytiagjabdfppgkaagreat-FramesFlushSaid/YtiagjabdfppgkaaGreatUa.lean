/- Vault: the disk in memory; its small functions. -/
import Derived.Test.YtiagjabdfppgkaaGreatUs
import Derived.Test.YtiagjabdfppgkaaGreatUm
set_option linter.unusedVariables false
set_option linter.unusedSimpArgs false
set_option maxRecDepth 100000
namespace Go.Proofs.YtiagjabdfppgkaaGreat
open Go Go.Vc Go.Vault

theorem sclInt : Scl Tryz.prog 3 := scl_of (by kernel_rfl)
theorem sclBool : Scl Tryz.prog 4 := scl_of (by kernel_rfl)
theorem sclStr : Scl Tryz.prog 9 := scl_of (by kernel_rfl)
theorem sclMSI : Scl Tryz.prog 73 := scl_of (by kernel_rfl)
theorem sclSF : Scl Tryz.prog 72 := scl_of (by kernel_rfl)
theorem sclPF : Scl Tryz.prog 79 := scl_of (by kernel_rfl)
theorem sclSS : Scl Tryz.prog 94 := scl_of (by kernel_rfl)
theorem sclMIB : Scl Tryz.prog 95 := scl_of (by kernel_rfl)
theorem sclSC : Scl Tryz.prog 74 := scl_of (by kernel_rfl)
theorem sclC : Scl Tryz.prog 82 := scl_of (by kernel_rfl)
theorem aggSec : Agg Tryz.prog 117 512 := agg_of (by kernel_rfl)
theorem eltPF : Elt Tryz.prog 72 79 1 8 := elt_of (by kernel_rfl)
theorem eltSec : Elt Tryz.prog 94 117 512 512 := elt_of (by kernel_rfl)
theorem eltC : Elt Tryz.prog 74 82 1 8 := elt_of (by kernel_rfl)
theorem undSPF : Tryz.prog.underlying 72 = some (.slice 79) := by kernel_rfl
theorem undSC : Tryz.prog.underlying 74 = some (.slice 82) := by kernel_rfl
theorem undSS : Tryz.prog.underlying 94 = some (.slice 117) := by kernel_rfl
theorem undMSI : Tryz.prog.underlying 73 = some (.map 9 3) := by kernel_rfl
theorem undPF : Tryz.prog.underlying 79 = some (.pointer (Tryz.prog.pointee 79)) := by kernel_rfl
theorem mapSI : MapT Tryz.prog strKey 73 9 3 (.int .i64 0) := ⟨by kernel_rfl, by kernel_rfl, by kernel_rfl⟩
theorem mapIB : MapT Tryz.prog (intKey .i64) 95 3 4 (.bool false) := ⟨by kernel_rfl, by kernel_rfl, by kernel_rfl⟩

structure FW where
  b : Nat
  an : Option Addr
  cn : Nat
  af : Option Addr
  cf : Nat
  bm : Nat
  al : List (Int × Value)
def secs (l : List (List UInt8)) : List Value := bcells l.flatten
def flL (x : FW) (f : Fl) : List Asn := [.blk x.b [.slice x.an f.now.length x.cn, .slice x.af f.firm.length x.cf, .map (some x.bm)] 97,
  .own 117 512 x.an f.now.length x.cn (secs f.now), .own 117 512 x.af f.firm.length x.cf (secs f.firm), .imap x.bm .i64 x.al]
/-- where a closure's boxes are -/
structure CW where
  n : Nat
  k : Nat
  t : Nat
def chV (x : CW) : Ch → Value
  | .create _ _ => .func (.func 88) #[] #[.pointer (some ⟨x.k, 0, none⟩), .pointer (some ⟨x.n, 0, none⟩)]
  | .rename _ _ _ => .bool false
  | .remove _ => .bool false
def chL (x : CW) : Ch → List Asn
  | .create n k => [.blk x.k [.int .i64 (k : Int)] 3, .blk x.n [.string n] 9]
  | .rename a b k => [.blk x.n [.string a] 9, .blk x.k [.int .i64 (k : Int)] 3, .blk x.t [.string b] 9]
  | .remove n => [.blk x.n [.string n] 9]
structure DW where
  b : Nat
  fa : Option Addr
  fc : Nat
  fs : List FW
  mn : Nat
  na : List (ByteArray × Value)
  mf : Nat
  fi : List (ByteArray × Value)
  ca : Option Addr
  cc : Nat
  cs : List CW
def filesL (xs : List FW) (fs : List Fl) : List Asn := (List.zipWith flL xs fs).flatten
def chsL (xs : List CW) (cs : List Ch) : List Asn := (List.zipWith chL xs cs).flatten
def ptrs (xs : List FW) : List Value := xs.map fun f => .pointer (some ⟨f.b, 0, none⟩)
def chVs (xs : List CW) (cs : List Ch) : List Value := List.zipWith chV xs cs
def dkR (x : DW) (d : Dk) : List Asn := filesL x.fs d.files ++ chsL x.cs d.chs
def dkL (x : DW) (d : Dk) : List Asn :=
  .blk x.b [.int .i64 (d.room : Int), .slice x.fa d.files.length x.fc, .map (some x.mn), .map (some x.mf), .slice x.ca d.chs.length x.cc, .int .i64 (d.armed : Int), .int .i64 (d.denied : Int), .bool d.dead] 76 ::
  .own 79 1 x.fa d.files.length x.fc (ptrs x.fs) :: .smap x.mn x.na :: .smap x.mf x.fi :: .own 82 1 x.ca d.chs.length x.cc (chVs x.cs d.chs) :: dkR x d
structure DW.Ok (x : DW) (d : Dk) : Prop where
  dk : d.Ok
  fl : x.fs.length = d.files.length
  cl : x.cs.length = d.chs.length
  keys : ∀ (k : Nat) (f : FW) (g : Fl), x.fs[k]? = some f → d.files[k]? = some g → (f.al.map (·.1)).Perm (g.since.map fun n : Nat => (n : Int))
  na : x.na.Perm (nvl d.names)
  fi : x.fi.Perm (nvl d.firm)

theorem zipL_get {α β : Type} (g : α → β → List Asn) : ∀ {xs : List α} {ys : List β} {k : Nat} {x : α} {y : β}, xs[k]? = some x → ys[k]? = some y →
    (List.zipWith g xs ys).flatten.Perm (g x y ++ (List.zipWith g (xs.eraseIdx k) (ys.eraseIdx k)).flatten)
  | [], _, _, _, _, h, _ => by simp at h
  | _ :: _, [], _, _, _, _, h => by simp at h
  | x0 :: xs, y0 :: ys, 0, x, y, h, h' => by
    simp at h h'; subst h h'
    exact .refl _
  | x0 :: xs, y0 :: ys, k + 1, x, y, h, h' => by
    simp only [List.getElem?_cons_succ] at h h'
    have ih := zipL_get g h h'
    simp only [List.eraseIdx_cons_succ, List.zipWith_cons_cons, List.flatten_cons]
    refine (ih.append_left _).trans ?_
    rw [← List.append_assoc, ← List.append_assoc]
    exact List.perm_append_comm.append_right _
theorem filesL_get {xs : List FW} {fs : List Fl} {k : Nat} {x : FW} {f : Fl} (h : xs[k]? = some x) (h' : fs[k]? = some f) : (filesL xs fs).Perm (flL x f ++ filesL (xs.eraseIdx k) (fs.eraseIdx k)) := zipL_get flL h h'
theorem filesL_set {xs : List FW} {fs : List Fl} {k : Nat} (x : FW) (f : Fl) (h : k < xs.length) (h' : k < fs.length) : (filesL (xs.set k x) (fs.set k f)).Perm (flL x f ++ filesL (xs.eraseIdx k) (fs.eraseIdx k)) := by
  have h1 : (xs.set k x)[k]? = some x := by rw [List.getElem?_set_self h]
  have h2 : (fs.set k f)[k]? = some f := by rw [List.getElem?_set_self h']
  have := filesL_get h1 h2
  rwa [List.eraseIdx_set_eq, List.eraseIdx_set_eq] at this

theorem ptrs_get {xs : List FW} {k : Nat} {x : FW} (h : xs[k]? = some x) : (ptrs xs)[k]? = some (.pointer (some ⟨x.b, 0, none⟩)) := by
  simp [ptrs, h]
def fptr (x : DW) (o : Option Nat) : Option Addr := o.bind fun k => (x.fs[k]?).map fun f => ⟨f.b, 0, none⟩
theorem DW.Ok.at {x : DW} {d : Dk} (h : x.Ok d) {k : Nat} (hk : k < d.files.length) : ∃ f g, x.fs[k]? = some f ∧ d.files[k]? = some g ∧ d.file k = g := by
  have hk2 : k < x.fs.length := by rw [h.fl]; exact hk
  refine ⟨_, _, List.getElem?_eq_getElem hk2, List.getElem?_eq_getElem hk, ?_⟩
  simp [Dk.file, hk]
theorem fptr_at {x : DW} {k : Nat} {f : FW} (h : x.fs[k]? = some f) : fptr x (some k) = some ⟨f.b, 0, none⟩ := by simp [fptr, h]
theorem maxE (k : Int) : max k 0 = ((max k 0).toNat : Int) := by omega

section
variable {w : World} {b : Nat} {cs : List Value}
theorem dies_spec (x : DW) (d : Dk) (ha : (d.armed : Int) ≤ 9223372036854775807) (w : World) (st : Std w (dkL x d)) : Calls Tryz.prog 28 #[.pointer (some ⟨x.b, 0, none⟩)] w fun e w' => e = .returned (.bool d.dies.dead) ∧ Hp (feet (dkL x d)) w w' (dkL x d.dies) := by
  apply dies.ok; unfold dies.vc
  have H := Hp.startL st
  generalize hB : feet (dkL x d) = B at H ⊢
  simp only [dkL] at H
  refine onP_mk rfl ?_
  (repeat (first | ((repeat apply Exists.intro); first | refine ⟨H.ld (by exact ⟨rfl, rfl, rfl, rfl⟩) (by first | exact sclInt | exact sclBool | exact sclStr | exact sclMSI | exact sclSF | exact sclPF | exact sclSS | exact sclMIB | exact sclSC | exact sclC) (by repeat first | exact .head _ | refine .tail _ ?_) rfl, ?_⟩) | (intro _ _ hn; replace H := H.new (by exact ⟨rfl, rfl, rfl, rfl⟩) hn; clear hn) | ((first | (apply Hp.st; (case H => first | exact H | exact H.pull1 | exact H.pull2 | exact H.pull3 | exact H.pull4 | exact H.pull5 | exact H.pull6 | exact H.pull7); (case e => exact ⟨rfl, rfl, rfl, rfl⟩); (case S => exact (by first | exact sclInt | exact sclBool | exact sclStr | exact sclMSI | exact sclSF | exact sclPF | exact sclSS | exact sclMIB | exact sclSC | exact sclC)); (case hv => exact rfl); (case h1 => exact rfl); (case ho => exact Nat.le_of_ble_eq_true rfl); (case hc => exact rfl))); clear H; intro _ H; (try simp only [over, List.set_cons_zero, List.set_cons_succ] at H))))
  refine br_dec (fun h => ?_) (fun h => ?_)
  · have e1 : d.dies = { d with armed := d.armed - 1, dead := decide (d.armed - 1 = 0) } := if_pos (by omega)
    have e2 : (d.armed : Int) - 1 = ((d.armed - 1 : Nat) : Int) := by omega
    rw [e1]
    refine onP_mk rfl ?_
    (repeat (first | ((repeat apply Exists.intro); first | refine ⟨H.ld (by exact ⟨rfl, rfl, rfl, rfl⟩) (by first | exact sclInt | exact sclBool | exact sclStr | exact sclMSI | exact sclSF | exact sclPF | exact sclSS | exact sclMIB | exact sclSC | exact sclC) (by repeat first | exact .head _ | refine .tail _ ?_) rfl, ?_⟩) | (intro _ _ hn; replace H := H.new (by exact ⟨rfl, rfl, rfl, rfl⟩) hn; clear hn) | ((first | (apply Hp.st; (case H => first | exact H | exact H.pull1 | exact H.pull2 | exact H.pull3 | exact H.pull4 | exact H.pull5 | exact H.pull6 | exact H.pull7); (case e => exact ⟨rfl, rfl, rfl, rfl⟩); (case S => exact (by first | exact sclInt | exact sclBool | exact sclStr | exact sclMSI | exact sclSF | exact sclPF | exact sclSS | exact sclMIB | exact sclSC | exact sclC)); (case hv => exact rfl); (case h1 => exact rfl); (case ho => exact Nat.le_of_ble_eq_true rfl); (case hc => exact rfl))); clear H; intro _ H; (try simp only [over, List.set_cons_zero, List.set_cons_succ] at H))))
    refine ⟨inR64.2 (by omega), ?_⟩
    refine onP_mk rfl ?_
    rw [e2]
    ((first | (apply Hp.st; (case H => first | exact H | exact H.pull1 | exact H.pull2 | exact H.pull3 | exact H.pull4 | exact H.pull5 | exact H.pull6 | exact H.pull7); (case e => exact ⟨rfl, rfl, rfl, rfl⟩); (case S => exact (by first | exact sclInt | exact sclBool | exact sclStr | exact sclMSI | exact sclSF | exact sclPF | exact sclSS | exact sclMIB | exact sclSC | exact sclC)); (case hv => exact rfl); (case h1 => exact rfl); (case ho => exact Nat.le_of_ble_eq_true rfl); (case hc => exact rfl))); clear H; intro _ H; (try simp only [over, List.set_cons_zero, List.set_cons_succ] at H))
    refine onP_mk rfl ?_
    ((repeat apply Exists.intro); first | refine ⟨H.ld (by exact ⟨rfl, rfl, rfl, rfl⟩) (by first | exact sclInt | exact sclBool | exact sclStr | exact sclMSI | exact sclSF | exact sclPF | exact sclSS | exact sclMIB | exact sclSC | exact sclC) (by repeat first | exact .head _ | refine .tail _ ?_) rfl, ?_⟩)
    refine onP_mk rfl ?_
    ((first | (apply Hp.st; (case H => first | exact H | exact H.pull1 | exact H.pull2 | exact H.pull3 | exact H.pull4 | exact H.pull5 | exact H.pull6 | exact H.pull7); (case e => exact ⟨rfl, rfl, rfl, rfl⟩); (case S => exact (by first | exact sclInt | exact sclBool | exact sclStr | exact sclMSI | exact sclSF | exact sclPF | exact sclSS | exact sclMIB | exact sclSC | exact sclC)); (case hv => exact rfl); (case h1 => exact rfl); (case ho => exact Nat.le_of_ble_eq_true rfl); (case hc => exact rfl))); clear H; intro _ H; (try simp only [over, List.set_cons_zero, List.set_cons_succ] at H))
    refine onP_mk rfl ?_
    ((repeat apply Exists.intro); first | refine ⟨H.ld (by exact ⟨rfl, rfl, rfl, rfl⟩) (by first | exact sclInt | exact sclBool | exact sclStr | exact sclMSI | exact sclSF | exact sclPF | exact sclSS | exact sclMIB | exact sclSC | exact sclC) (by repeat first | exact .head _ | refine .tail _ ?_) rfl, ?_⟩)
    have e3 : decide (((d.armed - 1 : Nat) : Int) = 0) = decide (d.armed - 1 = 0) := by
      congr 1; exact propext (by omega)
    rw [e3] at H ⊢
    exact ⟨rfl, H⟩
  · have e1 : d.dies = d := if_neg (by omega)
    rw [e1]
    refine onP_mk rfl ?_
    ((repeat apply Exists.intro); first | refine ⟨H.ld (by exact ⟨rfl, rfl, rfl, rfl⟩) (by first | exact sclInt | exact sclBool | exact sclStr | exact sclMSI | exact sclSF | exact sclPF | exact sclSS | exact sclMIB | exact sclSC | exact sclC) (by repeat first | exact .head _ | refine .tail _ ?_) rfl, ?_⟩)
    exact ⟨rfl, H⟩
theorem done_spec (x : DW) (d : Dk) (ha : (d.armed : Int) ≤ 9223372036854775807) (w : World) (st : Std w (dkL x d)) : Calls Tryz.prog 83 #[.pointer (some ⟨x.b, 0, none⟩)] w fun e w' => e = .returned (.int .i64 d.dies.code) ∧ Hp (feet (dkL x d)) w w' (dkL x d.dies) := by
  apply done.ok; unfold done.vc
  refine callV (dies_spec x d ha w st) ?_
  rintro e w' ⟨rfl, H⟩
  refine ⟨_, rfl, ?_⟩
  refine br_mk (fun h => ⟨?_, H⟩) (fun h => ⟨?_, H⟩) <;> simp [Dk.code, h]
theorem denies_spec (x : DW) (d : Dk) (ha : (d.denied : Int) ≤ 9223372036854775807) (w : World) (st : Std w (dkL x d)) : Calls Tryz.prog 57 #[.pointer (some ⟨x.b, 0, none⟩)] w fun e w' => e = .returned (.bool d.refused) ∧ Hp (feet (dkL x d)) w w' (dkL x d.denies) := by
  apply denies.ok; unfold denies.vc
  have H := Hp.startL st
  generalize hB : feet (dkL x d) = B at H ⊢
  simp only [dkL] at H
  refine onP_mk rfl ?_
  (repeat (first | ((repeat apply Exists.intro); first | refine ⟨H.ld (by exact ⟨rfl, rfl, rfl, rfl⟩) (by first | exact sclInt | exact sclBool | exact sclStr | exact sclMSI | exact sclSF | exact sclPF | exact sclSS | exact sclMIB | exact sclSC | exact sclC) (by repeat first | exact .head _ | refine .tail _ ?_) rfl, ?_⟩) | (intro _ _ hn; replace H := H.new (by exact ⟨rfl, rfl, rfl, rfl⟩) hn; clear hn) | ((first | (apply Hp.st; (case H => first | exact H | exact H.pull1 | exact H.pull2 | exact H.pull3 | exact H.pull4 | exact H.pull5 | exact H.pull6 | exact H.pull7); (case e => exact ⟨rfl, rfl, rfl, rfl⟩); (case S => exact (by first | exact sclInt | exact sclBool | exact sclStr | exact sclMSI | exact sclSF | exact sclPF | exact sclSS | exact sclMIB | exact sclSC | exact sclC)); (case hv => exact rfl); (case h1 => exact rfl); (case ho => exact Nat.le_of_ble_eq_true rfl); (case hc => exact rfl))); clear H; intro _ H; (try simp only [over, List.set_cons_zero, List.set_cons_succ] at H))))
  refine br_dec (fun h => ?_) (fun h => ?_)
  · have e1 : d.denies = d := by
      have : d.denied = 0 := by omega
      obtain ⟨_, _, _, _, _, _, _⟩ := d
      simp only [Dk.denies] at this ⊢
      rw [this]
    have e2 : d.refused = false := by simp only [Dk.refused, decide_eq_false_iff_not]; omega
    rw [e1, e2]
    exact ⟨rfl, H⟩
  · have e2 : (d.denied : Int) - 1 = ((d.denied - 1 : Nat) : Int) := by omega
    refine onP_mk rfl ?_
    (repeat (first | ((repeat apply Exists.intro); first | refine ⟨H.ld (by exact ⟨rfl, rfl, rfl, rfl⟩) (by first | exact sclInt | exact sclBool | exact sclStr | exact sclMSI | exact sclSF | exact sclPF | exact sclSS | exact sclMIB | exact sclSC | exact sclC) (by repeat first | exact .head _ | refine .tail _ ?_) rfl, ?_⟩) | (intro _ _ hn; replace H := H.new (by exact ⟨rfl, rfl, rfl, rfl⟩) hn; clear hn) | ((first | (apply Hp.st; (case H => first | exact H | exact H.pull1 | exact H.pull2 | exact H.pull3 | exact H.pull4 | exact H.pull5 | exact H.pull6 | exact H.pull7); (case e => exact ⟨rfl, rfl, rfl, rfl⟩); (case S => exact (by first | exact sclInt | exact sclBool | exact sclStr | exact sclMSI | exact sclSF | exact sclPF | exact sclSS | exact sclMIB | exact sclSC | exact sclC)); (case hv => exact rfl); (case h1 => exact rfl); (case ho => exact Nat.le_of_ble_eq_true rfl); (case hc => exact rfl))); clear H; intro _ H; (try simp only [over, List.set_cons_zero, List.set_cons_succ] at H))))
    refine ⟨inR64.2 (by omega), ?_⟩
    refine onP_mk rfl ?_
    rw [e2]
    ((first | (apply Hp.st; (case H => first | exact H | exact H.pull1 | exact H.pull2 | exact H.pull3 | exact H.pull4 | exact H.pull5 | exact H.pull6 | exact H.pull7); (case e => exact ⟨rfl, rfl, rfl, rfl⟩); (case S => exact (by first | exact sclInt | exact sclBool | exact sclStr | exact sclMSI | exact sclSF | exact sclPF | exact sclSS | exact sclMIB | exact sclSC | exact sclC)); (case hv => exact rfl); (case h1 => exact rfl); (case ho => exact Nat.le_of_ble_eq_true rfl); (case hc => exact rfl))); clear H; intro _ H; (try simp only [over, List.set_cons_zero, List.set_cons_succ] at H))
    refine onP_mk rfl ?_
    ((repeat apply Exists.intro); first | refine ⟨H.ld (by exact ⟨rfl, rfl, rfl, rfl⟩) (by first | exact sclInt | exact sclBool | exact sclStr | exact sclMSI | exact sclSF | exact sclPF | exact sclSS | exact sclMIB | exact sclSC | exact sclC) (by repeat first | exact .head _ | refine .tail _ ?_) rfl, ?_⟩)
    have e3 : decide (((d.denied - 1 : Nat) : Int) = 0) = d.refused := by
      rw [Dk.refused]; congr 1; exact propext (by omega)
    rw [e3]
    exact ⟨rfl, H⟩
end
theorem right_spec (n : ByteArray) (w : World) : Calls Tryz.prog 86 #[.string n] w fun e w' => e = .returned (.bool (Vault.right n)) ∧ Hp [] w w' [] := by
  apply right.ok; unfold right.vc
  have hz : n = ByteArray.mk #[] ↔ n.size = 0 := by
    constructor
    · rintro rfl; rfl
    · intro h
      obtain ⟨a⟩ := n
      have : a.size = 0 := h
      exact congrArg ByteArray.mk (Array.eq_empty_of_size_eq_zero this)
  refine br_ndec (fun h => ?_) (fun h => ?_)
  · have h1 : n.size ≠ 0 := fun e => h (hz.2 e)
    refine ⟨?_, Hp.start w⟩
    have e2 : decide ((n.size : Int) ≤ 60) = decide (n.size ≤ 60) := by congr 1; exact propext (by omega)
    have e1 : Vault.right n = decide (n.size ≤ 60) := by simp [Vault.right, Nat.one_le_iff_ne_zero, h1]
    rw [e1, ← e2]
  · have h1 : n.size = 0 := hz.1 h
    exact ⟨by simp [Vault.right, h1], Hp.start w⟩
theorem find_spec (x : DW) (d : Dk) (hok : x.Ok d) (n : ByteArray) (w : World) (st : Std w (dkL x d)) : Calls Tryz.prog 40 #[.pointer (some ⟨x.b, 0, none⟩), .string n] w fun e w' => e = .returned (.pointer (fptr x (d.find n))) ∧ Hp [] w w' [] := by
  apply find.ok; unfold find.vc
  have H := Hp.startL st
  simp only [dkL] at H
  refine onP_mk rfl ?_
  ((repeat apply Exists.intro); first | refine ⟨H.ld (by exact ⟨rfl, rfl, rfl, rfl⟩) (by first | exact sclInt | exact sclBool | exact sclStr | exact sclMSI | exact sclSF | exact sclPF | exact sclSS | exact sclMIB | exact sclSC | exact sclC) (by repeat first | exact .head _ | refine .tail _ ?_) rfl, ?_⟩)
  have hg := nget_perm hok.dk.names hok.na n
  have hf : nget d.names n = d.find n := rfl
  rw [hf] at hg
  cases hk : d.find n with
  | none =>
    rw [hk] at hg
    refine ⟨0, false, H.lkSok mapSI (by exact ⟨rfl, rfl, rfl, rfl⟩) (by repeat first | exact .head _ | refine .tail _ ?_) (by simp [hg]) (by simp [hg]), ?_⟩
    exact br_not (fun _ => ⟨rfl, Hp.start w⟩) (fun h => by cases h)
  | some k =>
    rw [hk] at hg
    have hlt := hok.dk.find hk
    obtain ⟨f, g, h1, h2, h3⟩ := hok.at hlt
    refine ⟨(k : Int), true, H.lkSok mapSI (by exact ⟨rfl, rfl, rfl, rfl⟩) (by repeat first | exact .head _ | refine .tail _ ?_) (by simp [hg]) (by simp [hg]), ?_⟩
    refine br_not (fun h => by cases h) (fun _ => ?_)
    refine onP_mk rfl ?_
    ((repeat apply Exists.intro); first | refine ⟨H.ld (by exact ⟨rfl, rfl, rfl, rfl⟩) (by first | exact sclInt | exact sclBool | exact sclStr | exact sclMSI | exact sclSF | exact sclPF | exact sclSS | exact sclMIB | exact sclSC | exact sclC) (by repeat first | exact .head _ | refine .tail _ ?_) rfl, ?_⟩)
    obtain ⟨ad, ha, hl⟩ := H.ldO (P := Tryz.prog) (w' := w) (t := 79) (o := Int.toNat (k : Int) * 1) (by exact ⟨rfl, rfl, rfl, rfl⟩) sclPF (.tail _ (.head _)) (by rw [Int.toNat_natCast, Nat.mul_one]; exact ptrs_get h1)
    refine onP_mk ha ⟨⟨by omega, by omega⟩, _, hl, ?_⟩
    rw [fptr_at h1]
    exact ⟨rfl, Hp.start w⟩
theorem size_spec (x : DW) (d : Dk) (hok : x.Ok d) (n : ByteArray) (w : World) (st : Std w (dkL x d)) : Calls Tryz.prog 18 #[.pointer (some ⟨x.b, 0, none⟩), .string n] w fun e w' => e = .returned (.int .i64 (d.size n)) ∧ Hp [] w w' [] := by
  apply size.ok; unfold size.vc
  refine callV (find_spec x d hok n w st) ?_
  rintro e w' ⟨rfl, H'⟩
  have H := (Hp.startL st).ext0 H'
  refine ⟨_, rfl, ?_⟩
  cases hk : d.find n with
  | none =>
    refine ⟨_, eqv_ptrE undPF, ?_⟩
    refine br_mk (fun _ => ⟨by simp [Dk.size, hk], H'⟩) (fun h => by cases h)
  | some k =>
    obtain ⟨f, g, h1, h2, h3⟩ := hok.at (hok.dk.find hk)
    rw [fptr_at h1]
    refine ⟨_, eqv_ptrE undPF, ?_⟩
    refine br_mk (fun h => by cases h) (fun _ => ?_)
    refine onP_mk rfl ?_
    have m1 : Asn.blk f.b [.slice f.an g.now.length f.cn, .slice f.af g.firm.length f.cf, .map (some f.bm)] 97 ∈ dkL x d := by
      simp only [dkL, dkR]
      repeat refine List.mem_cons_of_mem _ ?_
      exact List.mem_append_left _ ((filesL_get h1 h2).mem_iff.2 (List.mem_append_left _ (.head _)))
    refine ⟨_, _, _, H.ld (by exact ⟨rfl, rfl, rfl, rfl⟩) sclSS m1 rfl, ?_⟩
    refine ⟨?_, H'⟩
    rw [Dk.size, hk]
    simp only [Dk.len, h3]
end Go.Proofs.YtiagjabdfppgkaaGreat
