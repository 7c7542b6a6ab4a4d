/- Frames: a row of numbers of one's own is sorted. -/
import Derived.Test.YtiagjabdfppgkaaGreatUs
import Derived.Test.YtiagjabdfppgkaaGreatZj
import Derived.Test.YtiagjabdfppgkaaGreatPl
set_option linter.unusedVariables false
set_option linter.unusedSimpArgs false
set_option maxRecDepth 100000
namespace Go.Proofs.YtiagjabdfppgkaaGreat
open Go Go.Vc Go.RowKit Go.Sort

def sortZ (zs : List Int) : List Int := zs.mergeSort fun x y => decide (x ≤ y)
theorem sortZ_len (zs : List Int) : (sortZ zs).length = zs.length := List.length_mergeSort _
theorem put_size (d : Array Int) (cur : Array Value) : (putCells (Value.int .i64) 0 d cur).size = cur.size := by simp [putCells]
theorem put_take (zs : List Int) (cur : Array Value) (h : zs.length ≤ cur.size) : (putCells (Value.int .i64) 0 zs.toArray cur).toList.take zs.length = zs.map (.int .i64) := by
  apply List.ext_getElem?
  intro i
  by_cases hi : i < zs.length
  · rw [List.getElem?_take_of_lt hi, Array.getElem?_toList]
    have h2 : i < cur.size := by omega
    simp [putCells, hi, h2]
  · rw [List.getElem?_eq_none (by rw [List.length_take]; omega), List.getElem?_eq_none (by simp; omega)]
theorem sortOwn_spec (a : Option Addr) (c : Nat) (zs : List Int) (w : World) (h : Own w 0 3 1 a zs.length c (zs.map (.int .i64))) (hlen : zs.length < 4611686018427387904) :
    Calls Tryz.prog 52 #[.slice a zs.length c] w fun e w' => e = .returned (.tuple #[]) ∧ Hp (blks a) w w' [.own 3 1 a zs.length c ((sortZ zs).map (.int .i64))] := by
  rcases h.2 with ⟨rfl, h0, rfl⟩ | ⟨g, cur, fz, rfl, hb, hg, hf, hnc, hcm, hcs, htake⟩
  · have hz : zs = [] := List.eq_nil_of_length_eq_zero h0
    subst hz
    refine (AnyM.slices_Sort_int_none sortIL none 0 w).mono ?_
    rintro e w' ⟨rfl, rfl⟩
    refine ⟨rfl, Chg.refl _ _, fun q hq => ?_, by simp [Asn.foot, blks], by simp⟩
    have e : sortZ [] = [] := by simp [sortZ]
    rw [List.mem_singleton.1 hq, e]
    exact Own.nil _ _ _ _
  · have hle : zs.length ≤ cur.size := by omega
    have hH : Holds (Value.int .i64) w g 0 zs.toArray := by
      intro j hj
      have hj : j < zs.length := by simpa using hj
      have hcell : cur[j]? = some (.int .i64 zs[j]) := by
        have h1 : (cur.toList.take (zs.length * 1))[j]? = some (.int .i64 zs[j]) := by rw [htake]; simp [hj]
        rw [List.getElem?_take_of_lt (by omega), Array.getElem?_toList] at h1
        exact h1
      refine ⟨?_, ?_⟩
      · simp [World.cell?, hg, hcell, hj]
      · have := hf (0 + j) (by omega)
        obtain ⟨f1, f2⟩ := fz
        simpa [World.frozen?, hg] using this
    refine (AnyM.slices_Sort_int sortIL g 0 c zs w hH (Array.getElem?_eq_some_iff.1 hg).1 hlen).mono ?_
    rintro e w' ⟨rfl, n, os, rfl⟩
    have hsz : (putRow (Value.int .i64) (Go.Sort.ahead w n) g 0 (zs.mergeSort fun x y => decide (x ≤ y)).toArray).heap.size = w.heap.size := by simp [Go.Sort.ahead]
    have hat : ∀ k, k < w.heap.size → (grow (putRow (Value.int .i64) (Go.Sort.ahead w n) g 0 (zs.mergeSort fun x y => decide (x ≤ y)).toArray) os).heap[k]? = (putRow (Value.int .i64) (Go.Sort.ahead w n) g 0 (zs.mergeSort fun x y => decide (x ≤ y)).toArray).heap[k]? := fun k hk => by
      show (_ ++ os)[k]? = _
      rw [Array.getElem?_append_left (by rw [hsz]; exact hk)]
    have hgl := (Array.getElem?_eq_some_iff.1 hg).1
    refine ⟨rfl, ⟨rfl, rfl, rfl, ?_, fun k hk hs => ?_⟩, fun q hq => ?_, fun q hq k hk => ?_, by simp⟩
    · show w.heap.size ≤ (_ ++ os).size
      rw [Array.size_append, hsz]; omega
    · rw [hat k hk]
      have hne : g ≠ k := fun e => hs (by simp [blks, e])
      simp [putRow, mapBlock, Go.Sort.ahead, Array.getElem?_modify, hne]
    · rw [List.mem_singleton.1 hq]
      refine ⟨by simp [sortZ_len], .inr ⟨g, putCells (Value.int .i64) 0 (sortZ zs).toArray cur, fz, rfl, Nat.zero_le _, ?_, ?_, hnc, hcm, ?_, ?_⟩⟩
      · rw [hat g hgl]
        simp [putRow, mapBlock, Go.Sort.ahead, Array.getElem?_modify, hg, onCells, sortZ]
      · rw [put_size]; exact hf
      · rw [put_size]; exact hcs
      · have := put_take (sortZ zs) cur (by rw [sortZ_len]; exact hle)
        rw [sortZ_len] at this
        rw [Nat.mul_one]; exact this
    · rw [List.mem_singleton.1 hq] at hk
      exact .inl hk
end Go.Proofs.YtiagjabdfppgkaaGreat
/- Frames: a pool, and the desk that it stands on, in memory; find, what is asked ahead, Held, Dirty, Pages. -/
namespace Go.Proofs.YtiagjabdfppgkaaGreat
open Go Go.Vc Go.Vault

theorem gInt : Scl Tryz.prog 3 := scl_of (by kernel_rfl)
theorem gBool : Scl Tryz.prog 4 := scl_of (by kernel_rfl)
theorem gStr : Scl Tryz.prog 9 := scl_of (by kernel_rfl)
theorem gPF : Scl Tryz.prog 61 := scl_of (by kernel_rfl)
theorem gPP : Scl Tryz.prog 36 := scl_of (by kernel_rfl)
theorem gPD : Scl Tryz.prog 35 := scl_of (by kernel_rfl)
theorem gPK : Scl Tryz.prog 26 := scl_of (by kernel_rfl)
theorem gPG : Scl Tryz.prog 37 := scl_of (by kernel_rfl)
theorem gSF : Scl Tryz.prog 68 := scl_of (by kernel_rfl)
theorem gSI : Scl Tryz.prog 23 := scl_of (by kernel_rfl)
theorem gEr : Scl Tryz.prog 34 := scl_of (by kernel_rfl)
theorem gFn : Scl Tryz.prog 67 := scl_of (by kernel_rfl)
theorem gSU : Scl Tryz.prog 111 := scl_of (by kernel_rfl)
theorem gaggF : Agg Tryz.prog 63 5 := agg_of (by kernel_rfl)
theorem geltI : Elt Tryz.prog 23 3 1 8 := elt_of (by kernel_rfl)
theorem geltF : Elt Tryz.prog 68 61 1 8 := elt_of (by kernel_rfl)
theorem gundI : Tryz.prog.underlying 23 = some (.slice 3) := by kernel_rfl
theorem gundF : Tryz.prog.underlying 68 = some (.slice 61) := by kernel_rfl
theorem gundPF : Tryz.prog.underlying 61 = some (.pointer (Tryz.prog.pointee 61)) := by kernel_rfl
theorem gundPP : Tryz.prog.underlying 36 = some (.pointer (Tryz.prog.pointee 36)) := by kernel_rfl
theorem gundPD : Tryz.prog.underlying 35 = some (.pointer (Tryz.prog.pointee 35)) := by kernel_rfl
theorem gundPG : Tryz.prog.underlying 37 = some (.pointer (Tryz.prog.pointee 37)) := by kernel_rfl

def nData : ByteArray := ⟨#[100, 97, 116, 97]⟩
/-- a page: its records, its stamp -/
abbrev AP := Sl.Recs × Nat
structure Fr where
  n : Nat
  pg : AP
  pins : Nat
  dirty : Bool
  used : Bool
/-- a desk: its disk, its pool, what was asked ahead -/
structure St where
  d : Dk
  many : Nat
  fs : List Fr
  hand : Nat
  pages : Nat
  asked : List Nat
  deny : Bool
/-- where all of it lies -/
structure GW where
  kb : Nat
  kv : Nat
  pb : Nat
  aa : Option Addr
  ac : Nat
  fa : Option Addr
  fc : Nat
  got : List (Option Addr)
  fs : List (Nat × Nat)
def pageA (b : Nat) (P : AP) : Asn := .any [b] fun w => ∃ g, Sl.Rep g P.1 P.2 ∧ Blk w b g.cells 132
theorem page_ok {b : Nat} {P : AP} {w : World} {g : Sl.Pg} (hR : Sl.Rep g P.1 P.2) (h : Blk w b g.cells 132) : (pageA b P).ok w :=
  ⟨fun k hk => by simp at hk; subst hk; exact h.lt, fun w' hw => ⟨g, hR, (hw b (by simp)).trans h⟩⟩
theorem page_get {b : Nat} {P : AP} {w : World} (h : (pageA b P).ok w) : ∃ g, Sl.Rep g P.1 P.2 ∧ Blk w b g.cells 132 := h.2 w fun _ _ => rfl
theorem Hp.shutP {B : List Nat} {w0 w : World} {L : List Asn} {b : Nat} {g : Sl.Pg} {P : AP} (hR : Sl.Rep g P.1 P.2) (H : Hp B w0 w (Sl.pgA b g :: L)) : Hp B w0 w (pageA b P :: L) :=
  H.set (a' := pageA b P) (Chg.refl _ _) (page_ok hR (H.blk (.head _))) (by simp [pageA, Sl.pgA, Asn.foot])
theorem Hp.openP {B : List Nat} {w0 w : World} {L : List Asn} {b : Nat} {P : AP} (H : Hp B w0 w (pageA b P :: L)) : ∃ g, Sl.Rep g P.1 P.2 ∧ Hp B w0 w (Sl.pgA b g :: L) := by
  obtain ⟨g, hR, hb⟩ := page_get (H.ok _ (.head _))
  exact ⟨g, hR, H.set (a' := Sl.pgA b g) (Chg.refl _ _) hb (by simp [pageA, Sl.pgA, Asn.foot])⟩
def aheadV (kv : Nat) : Value := .func (.func 34) #[] #[.pointer (some ⟨kv, 0, none⟩)]
def poolC (y : GW) (x : DW) (s : St) : List Value := [.pointer (some ⟨x.b, 0, none⟩), .string nData, .int .i64 (s.many : Int), aheadV y.kv, .slice y.fa s.fs.length y.fc, .int .i64 (s.hand : Int), .int .i64 (s.pages : Int)]
def deskC (y : GW) (x : DW) (s : St) : List Value := [.pointer (some ⟨x.b, 0, none⟩), .pointer (some ⟨y.pb, 0, none⟩), .slice y.aa s.asked.length y.ac, .bool s.deny] ++ y.got.map .pointer
def frC (w : Nat × Nat) (f : Fr) : List Value := [.int .i64 (f.n : Int), .pointer (some ⟨w.2, 0, none⟩), .int .i64 (f.pins : Int), .bool f.dirty, .bool f.used]
def frL (w : Nat × Nat) (f : Fr) : List Asn := [.blk w.1 (frC w f) 63, pageA w.2 f.pg]
def frsL (ws : List (Nat × Nat)) (fs : List Fr) : List Asn := (List.zipWith frL ws fs).flatten
def ptrsF (ws : List (Nat × Nat)) : List Value := ws.map fun w => .pointer (some ⟨w.1, 0, none⟩)
def poolA (y : GW) (x : DW) (s : St) : Asn := .blk y.pb (poolC y x s) 70
def fsA (y : GW) (s : St) : Asn := .own 61 1 y.fa s.fs.length y.fc (ptrsF y.fs)
/-- the desk's own: itself, what points to it, what was asked -/
def deskL (y : GW) (x : DW) (s : St) : List Asn := [.blk y.kb (deskC y x s) 40, .blk y.kv [.pointer (some ⟨y.kb, 0, none⟩)] 26, .own 3 1 y.aa s.asked.length y.ac (Sl.intC s.asked)]
def stL (y : GW) (x : DW) (s : St) : List Asn := poolA y x s :: fsA y s :: (deskL y x s ++ (frsL y.fs s.fs ++ dkL x s.d))
structure StOk (y : GW) (x : DW) (s : St) : Prop where
  fs : y.fs.length = s.fs.length
  got : y.got.length = 12
  dk : x.Ok s.d
  len : s.fs.length ≤ 64
  num : ∀ f ∈ s.fs, f.n < 4096
  pins : ∀ f ∈ s.fs, f.pins ≤ 1000000
  asked : s.asked.length ≤ 1000000
  hand : s.hand < 64
  pages : s.pages ≤ 4096
  many : s.many ≤ 64

theorem add0 (ad : Addr) : ad.add 0 = ad := by unfold Addr.add; split <;> simp_all
theorem ptrsF_at {ws : List (Nat × Nat)} {k : Nat} {w : Nat × Nat} (h : ws[k]? = some w) : (ptrsF ws)[k]? = some (.pointer (some ⟨w.1, 0, none⟩)) := by simp [ptrsF, h]
theorem frL_mem {ws : List (Nat × Nat)} {fs : List Fr} {k : Nat} {w : Nat × Nat} {f : Fr} (h : ws[k]? = some w) (h' : fs[k]? = some f) : ∀ p ∈ frL w f, p ∈ frsL ws fs := fun p hp =>
  (zipL_get frL h h').mem_iff.2 (List.mem_append_left _ hp)
theorem StOk.at {y : GW} {x : DW} {s : St} (h : StOk y x s) {k : Nat} (hk : k < s.fs.length) : ∃ w f, y.fs[k]? = some w ∧ s.fs[k]? = some f := by
  have h2 := h.fs
  exact ⟨_, _, List.getElem?_eq_getElem (by omega), List.getElem?_eq_getElem hk⟩
theorem mem_pool (y : GW) (x : DW) (s : St) : poolA y x s ∈ stL y x s := .head _
theorem mem_fs (y : GW) (x : DW) (s : St) : fsA y s ∈ stL y x s := .tail _ (.head _)
theorem mem_desk {y : GW} {x : DW} {s : St} {p : Asn} (h : p ∈ deskL y x s) : p ∈ stL y x s := .tail _ (.tail _ (List.mem_append_left _ h))
theorem mem_fr {y : GW} {x : DW} {s : St} {k : Nat} {w : Nat × Nat} {f : Fr} (h : y.fs[k]? = some w) (h' : s.fs[k]? = some f) : Asn.blk w.1 (frC w f) 63 ∈ stL y x s :=
  .tail _ (.tail _ (List.mem_append_right _ (List.mem_append_left _ (frL_mem h h' _ (.head _)))))

/-! ### find -/
def findN (fs : List Fr) (n : Int) : Option Nat := fs.findIdx? fun f => decide ((f.n : Int) = n)
def frP (ws : List (Nat × Nat)) : Option Nat → Option Addr
  | some i => (ws[i]?).map fun w => ⟨w.1, 0, none⟩
  | none => none
theorem find_step (fs : List Fr) (n : Int) (k : Nat) (h : ∀ (j : Nat) (f : Fr), j < k → fs[j]? = some f → ¬ (f.n : Int) = n) {f : Fr} (hf : fs[k]? = some f) (hn : (f.n : Int) = n) : findN fs n = some k := by
  rw [findN, List.findIdx?_eq_some_iff_getElem]
  have hk := (List.getElem?_eq_some_iff.1 hf).1
  refine ⟨hk, ?_, fun j hj => ?_⟩
  · rw [List.getElem?_eq_getElem hk] at hf
    rw [Option.some.inj hf]; simpa using hn
  · have := h j _ hj (List.getElem?_eq_getElem (by omega))
    simpa using this
theorem find_none (fs : List Fr) (n : Int) (h : ∀ (j : Nat) (f : Fr), fs[j]? = some f → ¬ (f.n : Int) = n) : findN fs n = none := by
  rw [findN, List.findIdx?_eq_none_iff]
  intro f hf
  obtain ⟨j, hj⟩ := List.getElem?_of_mem hf
  simpa using h j f hj
theorem ffind_spec (y : GW) (x : DW) (s : St) (ok : StOk y x s) (n : Int) (w : World) (st : Std w (stL y x s)) :
    Calls Tryz.prog 26 #[.pointer (some ⟨y.pb, 0, none⟩), .int .i64 n] w fun e w' => e = .returned (.pointer (frP y.fs (findN s.fs n))) ∧ w' = w := by
  apply ffind.ok; unfold ffind.vc
  have H := Hp.startL st
  refine onP_mk rfl ⟨_, _, _, H.ld (o := 4) (cs := poolC y x s) (by exact ⟨rfl, rfl, rfl, rfl⟩) gSF (mem_pool y x s) rfl, ?_⟩
  have hlen := ok.len
  refine LoopP.mk (fun m i w' => ∃ k : Nat, m = s.fs.length - k ∧ k ≤ s.fs.length ∧ i = (k : Int) ∧ w' = w ∧ ∀ (j : Nat) (f : Fr), j < k → s.fs[j]? = some f → ¬ (f.n : Int) = n) s.fs.length ⟨0, rfl, by omega, rfl, rfl, fun j f hj => by omega⟩ ?_
  rintro m i w1 next ⟨k, rfl, hk, rfl, rfl, hno⟩ hnext
  refine br_dec (fun h => ?_) (fun h => ?_)
  · have hkl : k < s.fs.length := by omega
    obtain ⟨wf, f, hw, hf⟩ := ok.at hkl
    have hcl := (H.ownA (mem_fs y x s)).cells
    have hp := ptrsF_at hw
    obtain ⟨ad, had, _⟩ := hcl _ _ hp
    have e1 : Int.toNat (k : Int) * 1 = k := by omega
    refine onP_mk had ⟨⟨by omega, by omega⟩, _, by rw [e1]; exact hcl.ld gPF had hp, ?_⟩
    refine onP_mk rfl ⟨_, H.ld (o := 0) (cs := frC wf f) (by exact ⟨rfl, rfl, rfl, rfl⟩) gInt (mem_fr hw hf) rfl, br_dec (fun hn => ?_) (fun hn => ?_)⟩
    · rw [find_step s.fs n k hno hf hn]
      refine ⟨?_, rfl⟩
      simp [frP, hw]
    · refine ⟨inR64.2 (by omega), hnext (s.fs.length - (k + 1)) _ _ (by omega) ⟨k + 1, rfl, by omega, by simp, rfl, fun j f' hj hf' => ?_⟩⟩
      rcases Nat.lt_or_ge j k with h1 | h1
      · exact hno j f' h1 hf'
      · have : j = k := by omega
        subst this
        rw [hf] at hf'
        rw [← Option.some.inj hf']; exact hn
  · rw [find_none s.fs n fun j f hf => hno j f (by have := (List.getElem?_eq_some_iff.1 hf).1; omega) hf]
    exact ⟨rfl, rfl⟩
/-! ### the numbers of frames -/
def nums (q : Fr → Bool) (fs : List Fr) : List Int := (fs.filter q).map fun f => (f.n : Int)
theorem numbers_spec (y : GW) (x : DW) (s : St) (ok : StOk y x s) (q : Fr → Bool) (fv : Value) (w : World) (st : Std w (stL y x s))
    (hq : ∀ (w' : World) (wf : Nat × Nat) (f : Fr), Blk w' wf.1 (frC wf f) 63 → CallX Tryz.prog fv [.pointer (some ⟨wf.1, 0, none⟩)] w' fun e w2 => e = .returned (.bool (q f)) ∧ w2 = w') :
    Calls Tryz.prog 23 #[.pointer (some ⟨y.pb, 0, none⟩), fv] w fun e w' => ∃ a c, e = .returned (.slice a (nums q s.fs).length c) ∧ Hp [] w w' [.own 3 1 a (nums q s.fs).length c ((sortZ (nums q s.fs)).map (.int .i64))] := by
  apply numbers.ok; unfold numbers.vc
  have S := Hp.startL st
  have hlen := ok.len
  refine onP_mk rfl ⟨_, _, _, S.ld (o := 4) (cs := poolC y x s) (by exact ⟨rfl, rfl, rfl, rfl⟩) gSF (mem_pool y x s) rfl, ?_⟩
  have H := (Hp.start w).nilS 3 1
  have hle : ∀ k, (nums q (s.fs.take k)).length ≤ 64 := fun k => by
    have h1 : (nums q (s.fs.take k)).length ≤ (s.fs.take k).length := by rw [nums, List.length_map]; exact List.length_filter_le _ _
    rw [List.length_take] at h1; omega
  refine LoopP.mk (fun m i w' => ∃ (k : Nat) (a : Option Addr) (c : Nat), m = s.fs.length - k ∧ k ≤ s.fs.length ∧ i = ((a, (nums q (s.fs.take k)).length, c), (k : Int)) ∧ Hp [] w w' [.own 3 1 a (nums q (s.fs.take k)).length c ((nums q (s.fs.take k)).map (.int .i64))]) s.fs.length ⟨0, none, 0, rfl, by omega, by simp [nums], by simpa [nums] using H⟩ ?_
  clear H
  rintro m i w1 next ⟨k, a, c, rfl, hk, rfl, H⟩ hnext
  dsimp only
  have stw : ∀ w', Chg [] w w' → Hp (feet (stL y x s)) w w' (stL y x s) := fun w' h => S.chg0 h
  refine br_dec (fun h => ?_) (fun h => ?_)
  · have hkl : k < s.fs.length := by omega
    obtain ⟨wf, f, hw, hf⟩ := ok.at hkl
    have S1 := stw _ H.chg
    have hcl := (S1.ownA (mem_fs y x s)).cells
    have hp := ptrsF_at hw
    obtain ⟨ad, had, _⟩ := hcl _ _ hp
    have e1 : Int.toNat (k : Int) * 1 = k := by omega
    have hblk := S1.blk (mem_fr hw hf)
    have hstep : nums q (s.fs.take (k + 1)) = nums q (s.fs.take k) ++ (if q f then [(f.n : Int)] else []) := by
      rw [List.take_succ_eq_append_getElem hkl]
      have : s.fs[k] = f := by rw [List.getElem?_eq_getElem hkl] at hf; exact Option.some.inj hf
      rw [this, nums, List.filter_append, List.map_append]
      congr 1
      rw [List.filter_cons]
      split <;> rfl
    have hl := hle k
    generalize nums q (s.fs.take k) = F at *
    refine onP_mk had ⟨⟨by omega, by omega⟩, _, by rw [e1]; exact hcl.ld gPF had hp, ?_⟩
    refine callX (hq w1 wf f hblk) ?_
    rintro e w2 ⟨rfl, rfl⟩
    refine ⟨_, rfl, br_mk (fun h2 => ?_) (fun h2 => ?_)⟩
    · rw [h2, if_pos rfl] at hstep
      refine onP_mk rfl ⟨_, hblk.ld (o := 0) gInt.agg rfl, ?_⟩
      intro b3 w3 hn
      replace H := H.new (cs := [.int .i64 (f.n : Int)]) (by exact ⟨rfl, rfl, rfl, rfl⟩) hn; clear hn
      refine Hp.app geltI (by omega) H.pull1 (by exact ⟨rfl, rfl, rfl, rfl⟩) (Blk.src (n := 1) gundI (H.blk (.head _)) (by simp) (by rfl)) (by simp only [maxLen]; omega) (by omega) ?_
      clear H; intro a5 c5 w5 H
      replace H := H.del1
      exact ⟨inR64.2 (by omega), hnext (s.fs.length - (k + 1)) _ _ (by omega) ⟨k + 1, a5, c5, rfl, by omega, by rw [hstep, List.length_append]; rfl, by rw [hstep, List.length_append, List.map_append]; exact H⟩⟩
    · rw [h2, if_neg (by simp), List.append_nil] at hstep
      exact ⟨inR64.2 (by omega), hnext (s.fs.length - (k + 1)) _ _ (by omega) ⟨k + 1, a, c, rfl, by omega, by rw [hstep]; rfl, by rw [hstep]; exact H⟩⟩
  · have hke : k = s.fs.length := by omega
    subst hke
    have hl := hle s.fs.length
    rw [List.take_length] at H hl ⊢
    refine callV (sortOwn_spec a c (nums q s.fs) w1 (H.ownA (.head _)) (by omega)) ?_
    rintro e w2 ⟨rfl, H'⟩
    exact ⟨rfl, a, c, rfl, Hp.use11 H H'⟩
theorem heldC_x (w' : World) (wf : Nat × Nat) (f : Fr) : CallX Tryz.prog (.func (.func 51) #[] #[]) [.pointer (some ⟨wf.1, 0, none⟩)] w' fun e w2 => e = .returned (.bool true) ∧ w2 = w' := by
  suffices hh : Calls Tryz.prog 51 #[.pointer (some ⟨wf.1, 0, none⟩)] w' _ from callX_fn Tryz.func51 rfl (callV hh fun _ _ h => h)
  apply heldC.ok; unfold heldC.vc
  exact ⟨rfl, rfl⟩
theorem dirtyC_x (w' : World) (wf : Nat × Nat) (f : Fr) (h : Blk w' wf.1 (frC wf f) 63) : CallX Tryz.prog (.func (.func 30) #[] #[]) [.pointer (some ⟨wf.1, 0, none⟩)] w' fun e w2 => e = .returned (.bool f.dirty) ∧ w2 = w' := by
  suffices hh : Calls Tryz.prog 30 #[.pointer (some ⟨wf.1, 0, none⟩)] w' _ from callX_fn Tryz.func30 rfl (callV hh fun _ _ h => h)
  apply dirtyC.ok; unfold dirtyC.vc
  exact onP_mk rfl ⟨_, h.ld (o := 3) gBool.agg rfl, rfl, rfl⟩
theorem fflushC_x (w' : World) (wf : Nat × Nat) (f : Fr) (h : Blk w' wf.1 (frC wf f) 63) : CallX Tryz.prog (.func (.func 24) #[] #[]) [.pointer (some ⟨wf.1, 0, none⟩)] w' fun e w2 => e = .returned (.bool (decide (0 < f.pins))) ∧ w2 = w' := by
  suffices hh : Calls Tryz.prog 24 #[.pointer (some ⟨wf.1, 0, none⟩)] w' _ from callX_fn Tryz.func24 rfl (callV hh fun _ _ h => h)
  apply fflushC.ok; unfold fflushC.vc
  refine onP_mk rfl ⟨_, h.ld (o := 2) gInt.agg rfl, ?_, rfl⟩
  have : decide ((0 : Int) < (f.pins : Int)) = decide (0 < f.pins) := by rw [decide_eq_decide]; omega
  rw [this]
def isDirty (f : Fr) : Bool := f.dirty
def isPinned (f : Fr) : Bool := decide (0 < f.pins)
theorem held_spec (y : GW) (x : DW) (s : St) (ok : StOk y x s) (w : World) (st : Std w (stL y x s)) :
    Calls Tryz.prog 22 #[.pointer (some ⟨y.pb, 0, none⟩)] w fun e w' => ∃ a c, e = .returned (.slice a (nums (fun _ => true) s.fs).length c) ∧ Hp [] w w' [.own 3 1 a (nums (fun _ => true) s.fs).length c ((sortZ (nums (fun _ => true) s.fs)).map (.int .i64))] := by
  apply held.ok; unfold held.vc
  refine callV (numbers_spec y x s ok (fun _ => true) _ w st fun w' wf f _ => heldC_x w' wf f) ?_
  rintro e w' ⟨a, c, rfl, H⟩
  exact ⟨_, _, _, rfl, a, c, rfl, H⟩
theorem dirty_spec (y : GW) (x : DW) (s : St) (ok : StOk y x s) (w : World) (st : Std w (stL y x s)) :
    Calls Tryz.prog 11 #[.pointer (some ⟨y.pb, 0, none⟩)] w fun e w' => ∃ a c, e = .returned (.slice a (nums isDirty s.fs).length c) ∧ Hp [] w w' [.own 3 1 a (nums isDirty s.fs).length c ((sortZ (nums isDirty s.fs)).map (.int .i64))] := by
  apply dirty.ok; unfold dirty.vc
  refine callV (numbers_spec y x s ok isDirty _ w st fun w' wf f h => dirtyC_x w' wf f h) ?_
  rintro e w' ⟨a, c, rfl, H⟩
  exact ⟨_, _, _, rfl, a, c, rfl, H⟩

/-! ### what is asked ahead -/
def aheadS (s : St) (n : Nat) : St := { s with asked := s.asked ++ [n] }
def aheadE (s : St) : Int := if s.deny then 190 else 0
theorem ahead_spec (y : GW) (x : DW) (s : St) (hl : s.asked.length ≤ 1000000) (n : Nat) (w : World) (st : Std w (deskL y x s)) :
    CallX Tryz.prog (aheadV y.kv) [.int .i64 (n : Int)] w fun e w' => e = .returned (.int .i64 (aheadE s)) ∧ ∃ a c, Hp (feet (deskL y x s)) w w' (deskL { y with aa := a, ac := c } x (aheadS s n)) := by
  suffices hh : Calls Tryz.prog 34 #[.int .i64 (n : Int), .pointer (some ⟨y.kv, 0, none⟩)] w _ from callX_fn Tryz.func34 rfl (callV hh fun _ _ h => h)
  apply dopenC.ok; unfold dopenC.vc
  have H := Hp.startL st
  generalize hB : feet (deskL y x s) = B at H ⊢
  unfold deskL at H
  have kvL : ∀ {w' w2 : World} {L : List Asn}, Hp B w w' L → Eqw w' w2 → Asn.blk y.kv [.pointer (some ⟨y.kb, 0, none⟩)] 26 ∈ L → onP (some (⟨y.kv, 0, none⟩ : Addr)) fun a => Ld Tryz.prog 26 w2 a (.pointer (some ⟨y.kb, 0, none⟩)) := fun K e m => onP_mk rfl (K.ld (o := 0) (cs := [.pointer (some ⟨y.kb, 0, none⟩)]) e gPK m rfl)
  refine ⟨_, kvL H (by exact ⟨rfl, rfl, rfl, rfl⟩) (.tail _ (.head _)), _, kvL H (by exact ⟨rfl, rfl, rfl, rfl⟩) (.tail _ (.head _)), ?_⟩
  refine onP_mk rfl ⟨_, _, _, H.ld (o := 2) (cs := deskC y x s) (by exact ⟨rfl, rfl, rfl, rfl⟩) gSI (.head _) rfl, ?_⟩
  intro b w1 hn
  replace H := H.drew.new (cs := [.int .i64 (n : Int)]) (by exact ⟨rfl, rfl, rfl, rfl⟩) hn; clear hn
  refine ⟨H.ld (o := 2) (cs := deskC y x s) (by exact ⟨rfl, rfl, rfl, rfl⟩) gSI (.tail _ (.head _)) rfl, kvL H (by exact ⟨rfl, rfl, rfl, rfl⟩) (.tail _ (.tail _ (.head _))), kvL H (by exact ⟨rfl, rfl, rfl, rfl⟩) (.tail _ (.tail _ (.head _))), ?_⟩
  have H2 : Hp B w w1 (.own 3 1 y.aa s.asked.length y.ac (Sl.intC s.asked) :: .blk b [.int .i64 (n : Int)] 3 :: .blk y.kb (deskC y x s) 40 :: [.blk y.kv [.pointer (some ⟨y.kb, 0, none⟩)] 26]) := H.perm (by (refine perm_cnt fun ff gg h0 hc ha hpm => ?_; simp only [ha, hc, h0]; omega))
  clear H
  refine Hp.app geltI (by omega) H2 (by exact ⟨rfl, rfl, rfl, rfl⟩) (Blk.src (n := 1) gundI (H2.blk (.tail _ (.head _))) (by simp) (by rfl)) (by simp only [maxLen]; omega) (by omega) ?_
  clear H2; intro a5 c5 w5 H
  refine ⟨kvL H (by exact ⟨rfl, rfl, rfl, rfl⟩) (.tail _ (.tail _ (.tail _ (.head _)))), ?_⟩
  have H2 := H.pull2
  clear H
  refine onP_mk rfl (Hp.st (o := 2) H2 (by exact ⟨rfl, rfl, rfl, rfl⟩) gSI rfl rfl (by simp [deskC]) (cs' := deskC { y with aa := a5, ac := c5 } x (aheadS s n)) ?_ ?_)
  · simp [deskC, aheadS]
  clear H2; intro w6 H
  refine ⟨_, kvL H (by exact ⟨rfl, rfl, rfl, rfl⟩) (.tail _ (.tail _ (.tail _ (.head _)))), ?_⟩
  refine onP_mk rfl ⟨_, H.ld (o := 3) (cs := deskC { y with aa := a5, ac := c5 } x (aheadS s n)) (by exact ⟨rfl, rfl, rfl, rfl⟩) gBool (.head _) rfl, ?_⟩
  have hfin : Hp B w w6 (deskL { y with aa := a5, ac := c5 } x (aheadS s n)) := by
    have e : Sl.intC (aheadS s n).asked = Sl.intC s.asked ++ [.int .i64 (n : Int)] := by simp [Sl.intC, aheadS]
    have e2 : (aheadS s n).asked.length = s.asked.length + 1 := by simp [aheadS]
    have h9 : Hp B w w6 (.blk b [.int .i64 (n : Int)] 3 :: deskL { y with aa := a5, ac := c5 } x (aheadS s n)) := by
      rw [deskL, e, e2]
      show Hp B w w6 [.blk b [.int .i64 (n : Int)] 3, .blk y.kb (deskC { y with aa := a5, ac := c5 } x (aheadS s n)) 40, .blk y.kv [.pointer (some ⟨y.kb, 0, none⟩)] 26, .own 3 1 a5 (s.asked.length + 1) c5 (Sl.intC s.asked ++ [.int .i64 (n : Int)])]
      exact H.perm (by (refine perm_cnt fun ff gg h0 hc ha hpm => ?_; simp only [ha, hc, h0]; omega))
    exact h9.drop
  cases hd : s.deny with
  | true => exact br_mk (fun _ => ⟨by rw [aheadE, hd]; rfl, a5, c5, hfin⟩) (fun h => by have : s.deny = false := h; rw [hd] at this; cases this)
  | false => exact br_mk (fun h => by have : s.deny = true := h; rw [hd] at this; cases this) (fun _ => ⟨by rw [aheadE, hd]; rfl, a5, c5, hfin⟩)
end Go.Proofs.YtiagjabdfppgkaaGreat
/- Frames: a page is written. -/
namespace Go.Proofs.YtiagjabdfppgkaaGreat
open Go Go.Vc Go.Vault

/-! ### What a disk is then -/
def layD (r : Dk × Int) (i : Nat) (b : List UInt8) : Dk × Int := if r.2 = 0 then r.1.write nData (i : Int) b else r
def gapD : Nat → Nat → Dk × Int → Dk × Int
  | 0, _, r => r
  | m + 1, i, r => gapD m (i + 1) (layD r i [])
def chunk8 (bs : List UInt8) (k : Nat) : List UInt8 := (bs.drop (k * 512)).take 512
def rowD (bs : List UInt8) (base : Nat) : Nat → Nat → Dk × Int → Dk × Int
  | 0, _, r => r
  | m + 1, k, r => rowD bs base m (k + 1) (layD r (base + k) (chunk8 bs k))
def writeD (d : Dk) (e0 : Int) (n : Nat) (bs : List UInt8) : Dk × Int := rowD bs (n * 8) 8 0 (gapD (n * 8 - (d.size nData).toNat) (d.size nData).toNat (d, e0))
theorem layD_fit {r : Dk × Int} {N : Nat} (h : r.1.Fit N) (i : Nat) (b : List UInt8) : (layD r i b).1.Fit (N + 1) := by
  unfold layD
  split
  · exact Fit.write h _ _ _
  · exact h.mono (by omega)
theorem gapD_fit : ∀ (m i : Nat) {r : Dk × Int} {N : Nat}, r.1.Fit N → (gapD m i r).1.Fit (N + m)
  | 0, i, r, N, h => h
  | m + 1, i, r, N, h => (gapD_fit m (i + 1) (layD_fit h i [])).mono (by omega)
theorem rowD_fit (bs : List UInt8) (base : Nat) : ∀ (m k : Nat) {r : Dk × Int} {N : Nat}, r.1.Fit N → (rowD bs base m k r).1.Fit (N + m)
  | 0, k, r, N, h => h
  | m + 1, k, r, N, h => (rowD_fit bs base m (k + 1) (layD_fit h (base + k) (chunk8 bs k))).mono (by omega)
theorem writeD_fit {d : Dk} {N : Nat} (h : d.Fit N) (e0 : Int) {n : Nat} (bs : List UInt8) : (writeD d e0 n bs).1.Fit (N + n * 8 + 8) :=
  (rowD_fit bs (n * 8) 8 0 (gapD_fit _ _ (r := (d, e0)) h)).mono (by omega)

/-! ### the closure that lays a sector -/
def layA (eb pvb pb : Nat) (pc : List Value) (e : Int) (x : DW) (d : Dk) : List Asn := .blk eb [.int .i64 e] 34 :: .blk pvb [.pointer (some ⟨pb, 0, none⟩)] 36 :: .blk pb pc 70 :: dkL x d
set_option maxHeartbeats 1000000 in
theorem fwriteC_spec (eb pvb pb : Nat) (pc : List Value) (e : Int) (x : DW) (d : Dk) (hok : x.Ok d) {N : Nat} (fit : d.Fit N) (hN : N ≤ 900000) (hp0 : pc[0]? = some (.pointer (some ⟨x.b, 0, none⟩))) (hp1 : pc[1]? = some (.string nData))
    (n : Nat) (ba : Option Addr) (bc : Nat) (b : List UInt8) (w : World) (st : Std w (layA eb pvb pb pc e x d)) (hc : ∀ W, Chg (feet (layA eb pvb pb pc e x d)) w W → Cells W ba (bcells b)) (h0 : ba = none → b.length = 0) :
    Calls Tryz.prog 54 #[.int .i64 (n : Int), .slice ba b.length bc, .pointer (some ⟨eb, 0, none⟩), .pointer (some ⟨pvb, 0, none⟩)] w fun r w' => r = .returned (.tuple #[]) ∧ ∃ x', x'.b = x.b ∧ x'.Ok (layD (d, e) n b).1 ∧ Hp (feet (layA eb pvb pb pc e x d)) w w' (layA eb pvb pb pc (layD (d, e) n b).2 x' (layD (d, e) n b).1) := by
  apply fwriteC.ok; unfold fwriteC.vc
  have H := Hp.startL st
  have hsub : ∀ k ∈ feet (dkL x d), k ∈ feet (layA eb pvb pb pc e x d) := fun k hk => by
    obtain ⟨a, ha, h2⟩ := mem_feet.1 hk
    exact mem_feet.2 ⟨a, .tail _ (.tail _ (.tail _ ha)), h2⟩
  generalize hB : feet (layA eb pvb pb pc e x d) = B at H hc hsub ⊢
  refine ⟨_, onP_mk rfl (H.ld (o := 0) (cs := [.int .i64 e]) (by exact ⟨rfl, rfl, rfl, rfl⟩) gEr (.head _) rfl), br_dec (fun he => ?_) (fun he => ?_)⟩
  · have e0 : layD (d, e) n b = d.write nData (n : Int) b := if_pos he
    rw [e0]
    refine ⟨_, onP_mk rfl (H.ld (o := 0) (cs := [.pointer (some ⟨pb, 0, none⟩)]) (by exact ⟨rfl, rfl, rfl, rfl⟩) gPP (.tail _ (.head _)) rfl), ?_⟩
    refine onP_mk rfl ⟨_, H.ld (o := 0) (cs := pc) (by exact ⟨rfl, rfl, rfl, rfl⟩) gPD (.tail _ (.tail _ (.head _))) hp0, ?_⟩
    refine ⟨_, onP_mk rfl (H.ld (o := 0) (cs := [.pointer (some ⟨pb, 0, none⟩)]) (by exact ⟨rfl, rfl, rfl, rfl⟩) gPP (.tail _ (.head _)) rfl), ?_⟩
    refine onP_mk rfl ⟨_, H.ld (o := 1) (cs := pc) (by exact ⟨rfl, rfl, rfl, rfl⟩) gStr (.tail _ (.tail _ (.head _))) hp1, ?_⟩
    have H1 : Hp B w w.drew (dkL x d ++ [.blk eb [.int .i64 e] 34, .blk pvb [.pointer (some ⟨pb, 0, none⟩)] 36, .blk pb pc 70]) := H.drew.perm (List.perm_append_comm (l₁ := [_, _, _]))
    clear H
    refine callV (write_spec x d hok fit.few (by omega) (fit.used (by omega)) nData (n : Int) ba bc b w.drew H1.std1 (fun W hW => hc W ((Chg.drew (Chg.refl _ w)).trans hW (fun k hk => hk) (fun k hk => .inl (hsub k hk)))) h0) ?_
    rintro r w2 ⟨rfl, x2, hx2b, hx2, H'⟩
    have H2 := H1.useL H'
    clear H1 H'
    refine ⟨_, rfl, onP_mk rfl ?_⟩
    have H3 : Hp B w w2 (.blk eb [.int .i64 e] 34 :: .blk pvb [.pointer (some ⟨pb, 0, none⟩)] 36 :: .blk pb pc 70 :: dkL x2 (d.write nData (n : Int) b).1) := H2.perm (by (refine perm_cnt fun ff gg h0 hc ha hpm => ?_; simp only [ha, hc, h0]; omega))
    refine Hp.st H3 (by exact ⟨rfl, rfl, rfl, rfl⟩) gEr rfl rfl (by simp) rfl ?_
    intro w3 H4
    exact ⟨rfl, x2, hx2b, hx2, H4⟩
  · have e0 : layD (d, e) n b = (d, e) := if_neg he
    rw [e0]
    exact ⟨rfl, x, rfl, hok, H⟩

def wrL (y : GW) (x : DW) (s : St) (wf : Nat × Nat) (f : Fr) : List Asn := .blk wf.1 (frC wf f) 63 :: pageA wf.2 f.pg :: poolA y x s :: (deskL y x s ++ dkL x s.d)
/-- behind a write -/
def St.wrote (s : St) (f : Fr) (bs : List UInt8) : St := { s with asked := s.asked ++ [f.pg.2], d := (writeD s.d (aheadE s) f.n bs).1 }
def wroteE (s : St) (f : Fr) (bs : List UInt8) : Int := (writeD s.d (aheadE s) f.n bs).2
def Fr.wrote (f : Fr) (e : Int) : Fr := { f with dirty := if e = 0 then false else f.dirty }
theorem chunk8_len {bs : List UInt8} (h : bs.length = 4096) {k : Nat} (hk : k < 8) : (chunk8 bs k).length = 512 := by rw [chunk8, List.length_take, List.length_drop]; omega
theorem chunk8_cells {w : World} {b : Nat} {bs : List UInt8} (h : Cells w (some ⟨b, 0, none⟩) (bcells bs)) (hl : bs.length = 4096) {k : Nat} (hk : k < 8) : Cells w (slA (some ⟨b, 0, none⟩) 4096 (k * 512) 1) (bcells (chunk8 bs k)) := by
  have h1 := (h.slA (c := 4096) (i := k * 512) (by rw [bcells_length]; omega)).take 512
  have e : ((bcells bs).drop (k * 512)).take 512 = bcells (chunk8 bs k) := by simp [bcells, chunk8, List.map_drop, List.map_take]
  rw [← e]; exact h1
set_option maxHeartbeats 4000000 in
theorem fwrite_spec (y : GW) (x : DW) (s : St) (ok : StOk y x s) {N : Nat} (fit : s.d.Fit N) (hN : N ≤ 800000) (hsz : 0 ≤ s.d.size nData) (wf : Nat × Nat) (f : Fr) (hn : f.n < 4096) (w : World) (st : Std w (wrL y x s wf f)) :
    Calls Tryz.prog 25 #[.pointer (some ⟨y.pb, 0, none⟩), .pointer (some ⟨wf.1, 0, none⟩)] w fun r w' => ∃ g, Sl.Rep g f.pg.1 f.pg.2 ∧ r = .returned (.int .i64 (wroteE s f g.bs)) ∧
      ∃ x' a c, x'.b = x.b ∧ x'.Ok (s.wrote f g.bs).d ∧ Hp (feet (wrL y x s wf f)) w w' (wrL { y with aa := a, ac := c } x' (s.wrote f g.bs) wf (f.wrote (wroteE s f g.bs))) := by
  apply fwrite.ok; unfold fwrite.vc
  have H := Hp.startL st
  generalize hB : feet (wrL y x s wf f) = B at H ⊢
  unfold wrL at H
  obtain ⟨g, hR, H1⟩ := Hp.openP H.pull1
  clear H
  have hst := hR.stamp
  intro b w1 hn1
  have H := H1.new (cs := [.pointer (some ⟨y.pb, 0, none⟩)]) (by exact ⟨rfl, rfl, rfl, rfl⟩) hn1
  clear hn1 H1
  have hmx := ok.asked
  -- the rest of what is there, behind what was asked
  obtain ⟨RA, hRA⟩ : ∃ RA : List Asn, RA = [.blk wf.1 (frC wf f) 63, Sl.pgA wf.2 g] := ⟨_, rfl⟩
  have H0 : Hp B w w1 (.blk b [.pointer (some ⟨y.pb, 0, none⟩)] 36 :: poolA y x s :: (deskL y x s ++ (RA ++ dkL x s.d))) := by
    rw [hRA]; exact H.perm (by (refine perm_cnt fun ff gg h0 hc ha hpm => ?_; simp only [ha, hc, h0]; omega))
  clear H
  have mfr : ∀ {X Y : List Asn}, Asn.blk wf.1 (frC wf f) 63 ∈ X ++ (RA ++ Y) := List.mem_append_right _ (List.mem_append_left _ (by rw [hRA]; exact .head _))
  have mpg : ∀ {X Y : List Asn}, Sl.pgA wf.2 g ∈ X ++ (RA ++ Y) := List.mem_append_right _ (List.mem_append_left _ (by rw [hRA]; exact .tail _ (.head _)))
  refine JoinP.mk (fun (q : Option Addr) (w' : World) => ∃ (eb : Nat) (a : Option Addr) (c : Nat), q = some ⟨eb, 0, none⟩ ∧ Hp B w w' (.blk eb [.int .i64 (aheadE s)] 34 :: .blk b [.pointer (some ⟨y.pb, 0, none⟩)] 36 :: poolA y x s :: (deskL { y with aa := a, ac := c } x (aheadS s f.pg.2) ++ (RA ++ dkL x s.d)))) ?hR ?hX
  case hX =>
    intro J hJ
    -- one way of the three: what is asked, told to the cell
    have asks : ∀ (w2 : World) (L2 : List Asn) (R : Ending → World → Prop), Hp B w w2 (deskL y x s ++ L2) → (∀ w3 a c, Hp B w w3 (deskL { y with aa := a, ac := c } x (aheadS s f.pg.2) ++ L2) → R (.returned (.int .i64 (aheadE s))) w3) → CallX Tryz.prog (aheadV y.kv) [.int .i64 (f.pg.2 : Int)] w2 R := by
      intro w2 L2 R K hk
      refine callX (ahead_spec y x s hmx f.pg.2 w2 K.std1) ?_
      rintro e w3 ⟨rfl, a, c, H'⟩
      exact hk w3 a c (K.useL H')
    refine ⟨?_, ?_, ?_⟩
    · refine ⟨_, H0.ld (o := 0) (cs := [.pointer (some ⟨y.pb, 0, none⟩)]) (by exact ⟨rfl, rfl, rfl, rfl⟩) gPP (.head _) rfl, onP_mk rfl ⟨_, H0.ld (o := 3) (cs := poolC y x s) (by exact ⟨rfl, rfl, rfl, rfl⟩) gFn (.tail _ (.head _)) rfl, onP_mk rfl ⟨_, H0.ld (o := 1) (cs := frC wf f) (by exact ⟨rfl, rfl, rfl, rfl⟩) gPG (.tail _ (.tail _ mfr)) rfl, ?_⟩⟩⟩
      refine callV (Sl.stamp_any hR (H0.drew.blk (.tail _ (.tail _ mpg)))) ?_
      rintro e w2 ⟨rfl, H'⟩
      have H2 := H0.drew.ext0 H'
      clear H'
      refine ⟨_, rfl, H2.ld (o := 3) (cs := poolC y x s) (by exact ⟨rfl, rfl, rfl, rfl⟩) gFn (.tail _ (.head _)) rfl, H2.ld (o := 0) (cs := [.pointer (some ⟨y.pb, 0, none⟩)]) (by exact ⟨rfl, rfl, rfl, rfl⟩) gPP (.head _) rfl, ?_⟩
      refine asks w2 (.blk b [.pointer (some ⟨y.pb, 0, none⟩)] 36 :: poolA y x s :: (RA ++ dkL x s.d)) _ (H2.perm (by (refine perm_cnt fun ff gg h0 hc ha hpm => ?_; simp only [ha, hc, h0]; omega))) ?_
      intro w3 a c H3
      refine ⟨_, rfl, ?_⟩
      intro eb w4 hn1
      have H4 := H3.new (cs := [.int .i64 0]) (by exact ⟨rfl, rfl, rfl, rfl⟩) hn1
      refine Hp.st H4 (by exact ⟨rfl, rfl, rfl, rfl⟩) gEr rfl rfl (by simp) (cs' := [.int .i64 (aheadE s)]) rfl ?_
      intro w5 H5
      exact hJ _ _ ⟨eb, a, c, rfl, H5.perm (by (refine perm_cnt fun ff gg h0 hc ha hpm => ?_; simp only [ha, hc, h0]; omega))⟩
    · refine ⟨_, H0.ld (o := 0) (cs := [.pointer (some ⟨y.pb, 0, none⟩)]) (by exact ⟨rfl, rfl, rfl, rfl⟩) gPP (.head _) rfl, onP_mk rfl ⟨_, H0.ld (o := 3) (cs := poolC y x s) (by exact ⟨rfl, rfl, rfl, rfl⟩) gFn (.tail _ (.head _)) rfl, onP_mk rfl ⟨_, H0.ld (o := 1) (cs := frC wf f) (by exact ⟨rfl, rfl, rfl, rfl⟩) gPG (.tail _ (.tail _ mfr)) rfl, ?_⟩⟩⟩
      refine callV (Sl.stamp_any hR (H0.drew.blk (.tail _ (.tail _ mpg)))) ?_
      rintro e w2 ⟨rfl, H'⟩
      have H2 := H0.drew.ext0 H'
      clear H'
      refine ⟨_, rfl, H2.ld (o := 3) (cs := poolC y x s) (by exact ⟨rfl, rfl, rfl, rfl⟩) gFn (.tail _ (.head _)) rfl, H2.ld (o := 0) (cs := [.pointer (some ⟨y.pb, 0, none⟩)]) (by exact ⟨rfl, rfl, rfl, rfl⟩) gPP (.head _) rfl, ?_⟩
      intro eb w4 hn1
      have H4 := H2.new (cs := [.int .i64 0]) (by exact ⟨rfl, rfl, rfl, rfl⟩) hn1
      refine ⟨H4.ld (o := 3) (cs := poolC y x s) (by exact ⟨rfl, rfl, rfl, rfl⟩) gFn (.tail _ (.tail _ (.head _))) rfl, H4.ld (o := 0) (cs := [.pointer (some ⟨y.pb, 0, none⟩)]) (by exact ⟨rfl, rfl, rfl, rfl⟩) gPP (.tail _ (.head _)) rfl, ?_⟩
      refine asks w4 (.blk eb [.int .i64 0] 34 :: .blk b [.pointer (some ⟨y.pb, 0, none⟩)] 36 :: poolA y x s :: (RA ++ dkL x s.d)) _ (H4.perm (by (refine perm_cnt fun ff gg h0 hc ha hpm => ?_; simp only [ha, hc, h0]; omega))) ?_
      intro w3 a c H3
      refine ⟨_, rfl, ?_⟩
      have H5 : Hp B w w3 (.blk eb [.int .i64 0] 34 :: .blk b [.pointer (some ⟨y.pb, 0, none⟩)] 36 :: poolA y x s :: (deskL { y with aa := a, ac := c } x (aheadS s f.pg.2) ++ (RA ++ dkL x s.d))) := H3.perm (by (refine perm_cnt fun ff gg h0 hc ha hpm => ?_; simp only [ha, hc, h0]; omega))
      refine Hp.st H5 (by exact ⟨rfl, rfl, rfl, rfl⟩) gEr rfl rfl (by simp) (cs' := [.int .i64 (aheadE s)]) rfl ?_
      intro w5 H6
      exact hJ _ _ ⟨eb, a, c, rfl, H6⟩
    · refine ⟨_, H0.ld (o := 0) (cs := [.pointer (some ⟨y.pb, 0, none⟩)]) (by exact ⟨rfl, rfl, rfl, rfl⟩) gPP (.head _) rfl, onP_mk rfl ⟨_, H0.ld (o := 3) (cs := poolC y x s) (by exact ⟨rfl, rfl, rfl, rfl⟩) gFn (.tail _ (.head _)) rfl, onP_mk rfl ⟨_, H0.ld (o := 1) (cs := frC wf f) (by exact ⟨rfl, rfl, rfl, rfl⟩) gPG (.tail _ (.tail _ mfr)) rfl, ?_⟩⟩⟩
      intro eb w4 hn1
      have H4 := H0.drew.new (cs := [.int .i64 0]) (by exact ⟨rfl, rfl, rfl, rfl⟩) hn1
      refine ⟨H4.ld (o := 1) (cs := frC wf f) (by exact ⟨rfl, rfl, rfl, rfl⟩) gPG (.tail _ (.tail _ (.tail _ mfr))) rfl, H4.ld (o := 3) (cs := poolC y x s) (by exact ⟨rfl, rfl, rfl, rfl⟩) gFn (.tail _ (.tail _ (.head _))) rfl, H4.ld (o := 0) (cs := [.pointer (some ⟨y.pb, 0, none⟩)]) (by exact ⟨rfl, rfl, rfl, rfl⟩) gPP (.tail _ (.head _)) rfl, ?_⟩
      refine callV (Sl.stamp_any hR (H4.blk (.tail _ (.tail _ (.tail _ mpg))))) ?_
      rintro e w2 ⟨rfl, H'⟩
      have H2 := H4.ext0 H'
      clear H'
      refine ⟨_, rfl, H2.ld (o := 3) (cs := poolC y x s) (by exact ⟨rfl, rfl, rfl, rfl⟩) gFn (.tail _ (.tail _ (.head _))) rfl, H2.ld (o := 0) (cs := [.pointer (some ⟨y.pb, 0, none⟩)]) (by exact ⟨rfl, rfl, rfl, rfl⟩) gPP (.tail _ (.head _)) rfl, ?_⟩
      refine asks w2 (.blk eb [.int .i64 0] 34 :: .blk b [.pointer (some ⟨y.pb, 0, none⟩)] 36 :: poolA y x s :: (RA ++ dkL x s.d)) _ (H2.perm (by (refine perm_cnt fun ff gg h0 hc ha hpm => ?_; simp only [ha, hc, h0]; omega))) ?_
      intro w3 a c H3
      refine ⟨_, rfl, ?_⟩
      have H5 : Hp B w w3 (.blk eb [.int .i64 0] 34 :: .blk b [.pointer (some ⟨y.pb, 0, none⟩)] 36 :: poolA y x s :: (deskL { y with aa := a, ac := c } x (aheadS s f.pg.2) ++ (RA ++ dkL x s.d))) := H3.perm (by (refine perm_cnt fun ff gg h0 hc ha hpm => ?_; simp only [ha, hc, h0]; omega))
      refine Hp.st H5 (by exact ⟨rfl, rfl, rfl, rfl⟩) gEr rfl rfl (by simp) (cs' := [.int .i64 (aheadE s)]) rfl ?_
      intro w5 H6
      exact hJ _ _ ⟨eb, a, c, rfl, H6⟩
  clear H0 w1
  rintro q w1 ⟨eb, a, c, rfl, H⟩
  obtain ⟨RD, hRD⟩ : ∃ RD : List Asn, RD = deskL { y with aa := a, ac := c } x (aheadS s f.pg.2) ++ RA := ⟨_, rfl⟩
  have H1 : Hp B w w1 (layA eb b y.pb (poolC y x s) (aheadE s) x s.d ++ RD) := by
    rw [hRD, layA]; exact H.perm (by rw [poolA]; (refine perm_cnt fun ff gg h0 hc ha hpm => ?_; simp only [ha, hc, h0]; omega))
  clear H
  have mf : ∀ {X : List Asn}, Asn.blk wf.1 (frC wf f) 63 ∈ X ++ RD := List.mem_append_right _ (by rw [hRD, hRA]; exact List.mem_append_right _ (.head _))
  have mg : ∀ {X : List Asn}, Sl.pgA wf.2 g ∈ X ++ RD := List.mem_append_right _ (by rw [hRD, hRA]; exact List.mem_append_right _ (.tail _ (.head _)))
  refine ⟨_, H1.ld (o := 0) (cs := [.pointer (some ⟨y.pb, 0, none⟩)]) (by exact ⟨rfl, rfl, rfl, rfl⟩) gPP (.tail _ (.head _)) rfl, onP_mk rfl ⟨_, H1.ld (o := 0) (cs := poolC y x s) (by exact ⟨rfl, rfl, rfl, rfl⟩) gPD (.tail _ (.tail _ (.head _))) rfl, ?_⟩⟩
  refine ⟨_, H1.ld (o := 0) (cs := [.pointer (some ⟨y.pb, 0, none⟩)]) (by exact ⟨rfl, rfl, rfl, rfl⟩) gPP (.tail _ (.head _)) rfl, onP_mk rfl ⟨_, H1.ld (o := 1) (cs := poolC y x s) (by exact ⟨rfl, rfl, rfl, rfl⟩) gStr (.tail _ (.tail _ (.head _))) rfl, ?_⟩⟩
  have HD : Hp B w w1.drew (dkL x s.d ++ (.blk eb [.int .i64 (aheadE s)] 34 :: .blk b [.pointer (some ⟨y.pb, 0, none⟩)] 36 :: .blk y.pb (poolC y x s) 70 :: RD)) := H1.drew.perm (by rw [layA]; (refine perm_cnt fun ff gg h0 hc ha hpm => ?_; simp only [ha, hc, h0]; omega))
  refine callV (size_spec x s.d ok.dk nData w1.drew HD.std1) ?_
  rintro e w2 ⟨rfl, H'⟩
  have H2 := H1.drew.ext0 H'
  clear H' H1 HD
  obtain ⟨sz, hszn⟩ : ∃ sz : Nat, s.d.size nData = (sz : Int) := ⟨(s.d.size nData).toNat, by omega⟩
  have hwr : writeD s.d (aheadE s) f.n g.bs = rowD g.bs (f.n * 8) 8 0 (gapD (f.n * 8 - sz) sz (s.d, aheadE s)) := by rw [writeD, hszn, Int.toNat_natCast]
  have hbl : g.bs.length = 4096 := hR.ok.len
  rw [hszn]
  refine ⟨_, rfl, ?_⟩
  refine LoopP.mk (fun m (i : Int) w' => ∃ (k : Nat) (r : Dk × Int) (x2 : DW) (M : Nat), m = f.n * 8 - k ∧ i = (k : Int) ∧ gapD (f.n * 8 - k) k r = gapD (f.n * 8 - sz) sz (s.d, aheadE s) ∧ x2.b = x.b ∧ x2.Ok r.1 ∧ r.1.Fit M ∧ M + (f.n * 8 - k) ≤ N + 32768 ∧ Hp B w w' (layA eb b y.pb (poolC y x s) r.2 x2 r.1 ++ RD)) (f.n * 8 - sz) ⟨sz, (s.d, aheadE s), x, N, rfl, rfl, rfl, rfl, ok.dk, fit, by omega, H2⟩ ?_
  clear H2 w1 w2
  rintro m i w1 next ⟨k, r, x2, M, rfl, rfl, hgap, hx2b, hx2, fit2, hM, H⟩ hnext
  have hpc0 : (poolC y x s)[0]? = some (.pointer (some ⟨x2.b, 0, none⟩)) := by rw [hx2b]; rfl
  refine onP_mk rfl ⟨_, H.ld (o := 0) (cs := frC wf f) (by exact ⟨rfl, rfl, rfl, rfl⟩) gInt mf rfl, inR64.2 (by omega), br_dec (fun h1 => ?_) (fun h1 => ?_)⟩
  · have hk : k < f.n * 8 := by omega
    have hstep : gapD (f.n * 8 - k) k r = gapD (f.n * 8 - (k + 1)) (k + 1) (layD r k []) := by
      rw [show f.n * 8 - k = (f.n * 8 - (k + 1)) + 1 by omega]; rfl
    have hw := fwriteC_spec eb b y.pb (poolC y x s) r.2 x2 r.1 hx2 fit2 (by omega) hpc0 rfl k none 0 [] w1 H.std1 (fun W hW => by intro j v hj; simp [bcells] at hj) (fun _ => rfl)
    refine callV hw ?_
    rintro e w2 ⟨rfl, x3, hx3b, hx3, H'⟩
    have H3 := H.useL H'
    refine ⟨rfl, inR64.2 (by omega), hnext (f.n * 8 - (k + 1)) _ _ (by omega) ⟨k + 1, layD r k [], x3, M + 1, rfl, by omega, by rw [← hstep, hgap], hx3b.trans hx2b, hx3, layD_fit fit2 k [], by omega, H3⟩⟩
  · have hgd : r = gapD (f.n * 8 - sz) sz (s.d, aheadE s) := by
      rw [← hgap, show f.n * 8 - k = 0 by omega]; rfl
    rw [← hgd] at hwr
    clear hnext hgap hgd
    refine onP_mk rfl ⟨_, H.ld (o := 1) (cs := frC wf f) (by exact ⟨rfl, rfl, rfl, rfl⟩) gPG mf rfl, ?_⟩
    refine callV (Sl.bytes_any wf.2 g w1 ⟨hR.ok, H.blk mg⟩) ?_
    rintro e w2 ⟨bb, rfl, H'⟩
    have H2 : Hp B w w2 (layA eb b y.pb (poolC y x s) r.2 x2 r.1 ++ (.blk bb (bcells g.bs) 130 :: RD)) := (H.ext1 H').perm (by (refine perm_cnt fun ff gg h0 hc ha hpm => ?_; simp only [ha, hc, h0]; omega))
    clear H H'
    refine ⟨_, _, _, rfl, ?_⟩
    refine LoopP.mk (fun m (i : Int) w' => ∃ (j : Nat) (r2 : Dk × Int) (x3 : DW) (M2 : Nat), m = 8 - j ∧ j ≤ 8 ∧ i = (j : Int) ∧ rowD g.bs (f.n * 8) (8 - j) j r2 = rowD g.bs (f.n * 8) 8 0 r ∧ x3.b = x.b ∧ x3.Ok r2.1 ∧ r2.1.Fit M2 ∧ M2 ≤ N + 32768 + j ∧ Hp B w w' (layA eb b y.pb (poolC y x s) r2.2 x3 r2.1 ++ (.blk bb (bcells g.bs) 130 :: RD))) 8 ⟨0, r, x2, M, rfl, by omega, rfl, rfl, hx2b, hx2, fit2, by omega, H2⟩ ?_
    clear H2 w1 w2
    rintro m i w1 next ⟨j, r2, x3, M2, rfl, hj, rfl, hrow, hx3b, hx3, fit3, hM2, H⟩ hnext
    have mf2 : ∀ {X : List Asn} {p : Asn}, Asn.blk wf.1 (frC wf f) 63 ∈ X ++ (p :: RD) := List.mem_append_right _ (.tail _ (by rw [hRD, hRA]; exact List.mem_append_right _ (.head _)))
    refine br_dec (fun h2 => ?_) (fun h2 => ?_)
    · have hj8 : j < 8 := by omega
      have hpc3 : (poolC y x s)[0]? = some (.pointer (some ⟨x3.b, 0, none⟩)) := by rw [hx3b]; rfl
      have hstep : rowD g.bs (f.n * 8) (8 - j) j r2 = rowD g.bs (f.n * 8) (8 - (j + 1)) (j + 1) (layD r2 (f.n * 8 + j) (chunk8 g.bs j)) := by
        rw [show 8 - j = (8 - (j + 1)) + 1 by omega]; rfl
      have hcl := chunk8_len hbl hj8
      refine onP_mk rfl ⟨_, H.ld (o := 0) (cs := frC wf f) (by exact ⟨rfl, rfl, rfl, rfl⟩) gInt mf2 rfl, inR64.2 (by omega), inR64.2 (by omega), inR64.2 (by omega), inR64.2 (by omega), inR64.2 (by omega), ⟨by omega, by omega, by omega⟩, ?_⟩
      have e1 : Int.toNat ((j : Int) * 512) = j * 512 := by omega
      have e2 : Int.toNat (((j : Int) + 1) * 512) - j * 512 = (chunk8 g.bs j).length := by omega
      have e3 : (f.n : Int) * 8 + (j : Int) = ((f.n * 8 + j : Nat) : Int) := by omega
      rw [e1, e2, e3]
      have hw := fwriteC_spec eb b y.pb (poolC y x s) r2.2 x3 r2.1 hx3 fit3 (by omega) hpc3 rfl (f.n * 8 + j) (slA (some ⟨bb, 0, none⟩) 4096 (j * 512) 1) (4096 - j * 512) (chunk8 g.bs j) w1.drew H.drew.std1 (fun W hW => by
        have K := H.drew.useL (M := []) ⟨hW, by simp, by simp, .nil⟩
        exact chunk8_cells (K.blk (.head _)).cells hbl hj8) (fun h => by rw [slA] at h; split at h <;> cases h)
      refine callV hw ?_
      rintro e w2 ⟨rfl, x4, hx4b, hx4, H'⟩
      have H3 := H.drew.useL H'
      exact ⟨rfl, inR64.2 (by omega), hnext (8 - (j + 1)) _ _ (by omega) ⟨j + 1, layD r2 (f.n * 8 + j) (chunk8 g.bs j), x4, M2 + 1, rfl, by omega, by omega, by rw [← hstep, hrow], hx4b.trans hx3b, hx4, layD_fit fit3 _ _, by omega, H3⟩⟩
    · have hj8 : j = 8 := by omega
      subst hj8
      have hr2 : r2 = writeD s.d (aheadE s) f.n g.bs := by rw [hwr, ← hrow]; rfl
      have hE : wroteE s f g.bs = r2.2 := by rw [wroteE, ← hr2]
      have hS : (s.wrote f g.bs).d = r2.1 := by rw [St.wrote, ← hr2]
      clear hnext
      have hpc : poolC { y with aa := a, ac := c } x3 (s.wrote f g.bs) = poolC y x s := by simp [poolC, St.wrote, hx3b]
      have hdc : deskC { y with aa := a, ac := c } x3 (s.wrote f g.bs) = deskC { y with aa := a, ac := c } x (aheadS s f.pg.2) := by simp [deskC, St.wrote, aheadS, hx3b]
      have hdl : deskL { y with aa := a, ac := c } x3 (s.wrote f g.bs) = deskL { y with aa := a, ac := c } x (aheadS s f.pg.2) := by rw [deskL, deskL, hdc]; rfl
      refine ⟨_, onP_mk rfl (H.ld (o := 0) (cs := [.int .i64 r2.2]) (by exact ⟨rfl, rfl, rfl, rfl⟩) gEr (.head _) rfl), br_dec (fun h3 => ?_) (fun h3 => ?_)⟩
      · have H4 : Hp B w w1 (.blk wf.1 (frC wf f) 63 :: .blk eb [.int .i64 r2.2] 34 :: (.blk b [.pointer (some ⟨y.pb, 0, none⟩)] 36 :: .blk bb (bcells g.bs) 130 :: (Sl.pgA wf.2 g :: .blk y.pb (poolC y x s) 70 :: (deskL { y with aa := a, ac := c } x (aheadS s f.pg.2) ++ dkL x3 r2.1)))) := by
          rw [hRD, hRA, layA] at H
          exact H.perm (by (refine perm_cnt fun ff gg h0 hc ha hpm => ?_; simp only [ha, hc, h0]; omega))
        refine onP_mk rfl (Hp.st (o := 3) H4 (by exact ⟨rfl, rfl, rfl, rfl⟩) gBool rfl rfl (by simp [frC]) (cs' := frC wf (f.wrote 0)) rfl ?_)
        clear H H4; intro w2 H
        refine ⟨_, onP_mk rfl (H.ld (o := 0) (cs := [.int .i64 r2.2]) (by exact ⟨rfl, rfl, rfl, rfl⟩) gEr (.tail _ (.head _)) rfl), g, hR, by rw [hE], x3, a, c, hx3b, by rw [hS]; exact hx3, ?_⟩
        have H5 : Hp B w w2 (Sl.pgA wf.2 g :: (.blk wf.1 (frC wf (f.wrote 0)) 63 :: .blk y.pb (poolC y x s) 70 :: (deskL { y with aa := a, ac := c } x (aheadS s f.pg.2) ++ dkL x3 r2.1))) := (H.drop1.drop1.drop1).perm (by (refine perm_cnt fun ff gg h0 hc ha hpm => ?_; simp only [ha, hc, h0]; omega))
        have H6 := Hp.shutP (P := f.pg) hR H5
        rw [wrL, poolA, hpc, hdl, hS, hE, h3]
        exact H6.pull1
      · refine ⟨_, onP_mk rfl (H.ld (o := 0) (cs := [.int .i64 r2.2]) (by exact ⟨rfl, rfl, rfl, rfl⟩) gEr (.head _) rfl), g, hR, by rw [hE], x3, a, c, hx3b, by rw [hS]; exact hx3, ?_⟩
        have hfw : f.wrote r2.2 = f := by rw [Fr.wrote, if_neg h3]
        have H5 : Hp B w w1 (.blk eb [.int .i64 r2.2] 34 :: .blk b [.pointer (some ⟨y.pb, 0, none⟩)] 36 :: .blk bb (bcells g.bs) 130 :: (Sl.pgA wf.2 g :: (.blk wf.1 (frC wf f) 63 :: .blk y.pb (poolC y x s) 70 :: (deskL { y with aa := a, ac := c } x (aheadS s f.pg.2) ++ dkL x3 r2.1)))) := by
          rw [hRD, hRA, layA] at H
          exact H.perm (by (refine perm_cnt fun ff gg h0 hc ha hpm => ?_; simp only [ha, hc, h0]; omega))
        have H6 := Hp.shutP (P := f.pg) hR H5.drop.drop.drop
        rw [wrL, poolA, hpc, hdl, hS, hE, hfw]
        exact H6.pull1
end Go.Proofs.YtiagjabdfppgkaaGreat
/- Frames: zeros are put behind a row of bytes of one's own. -/
namespace Go.Proofs.YtiagjabdfppgkaaGreat
open Go Go.Vc Go.Vault

theorem geltU : Elt Tryz.prog 111 5 1 1 := elt_of (by kernel_rfl)
theorem gundU : Tryz.prog.underlying 111 = some (.slice 5) := by kernel_rfl
theorem gundInt : Tryz.prog.underlying 3 = some (.int .i64) := by kernel_rfl
theorem gzU : zeroOf Tryz.prog 5 = some (.int .u8 0) := by kernel_rfl
def zrow : List Value := bcells (List.replicate 512 0)
theorem zrow_len : zrow.length = 512 := by rw [zrow, bcells_length, List.length_replicate]
theorem zcellsN (n : Nat) : (Builtin.zeroCells (Value.int .u8 0).cells n).toList = bcells (List.replicate n 0) := by
  have e : (Value.int .u8 0).cells = #[.int .u8 0] := rfl
  apply List.ext_getElem?
  intro i
  rw [Array.getElem?_toList, e, Builtin.zeroCells]
  by_cases h : i < n
  · simp [h, bcells, Nat.mod_one]
  · simp [h, bcells]
theorem zcells : (Builtin.zeroCells (Value.int .u8 0).cells 512).toList = zrow := zcellsN 512
theorem zcellsA : Builtin.zeroCells (Value.int .u8 0).cells 512 = zrow.toArray := by rw [← zcells]
theorem room_zero {w : World} (b sLen sCap : Nat) (hroom : sLen + 512 ≤ sCap) (hc : ∀ j, j < 512 → (w.cell? ⟨b, sLen + j, none⟩).isSome = true) (hf : ∀ j, j < 512 → w.frozen? ⟨b, sLen + j, none⟩ = false) :
    (Builtin.append_ #[111, 3] 111 #[.slice (some ⟨b, 0, none⟩) sLen sCap, .int .i64 512]).run Tryz.prog w = .ok (.slice (some ⟨b, 0, none⟩) (sLen + 512) sCap) (w.setCells b sLen zrow) := by
  obtain ⟨hu, i, z, hi, hz, hs, hb, hzs⟩ := geltU
  have hz2 : z = .int .u8 0 := by
    have := gzU
    simp only [zeroOf, hi, hz, Option.some.injEq] at this
    exact this
  subst hz2
  have hst := run_storeCells_cells (P := Tryz.prog) b sLen zrow 0 w (fun j hj => by rw [zrow_len] at hj; rw [Nat.add_zero]; exact hc j hj) (fun j hj => by rw [zrow_len] at hj; rw [Nat.add_zero]; exact hf j hj) (fun u hu => bcells_one _ u hu)
  simp only [Nat.add_zero] at hst
  have hw : IntKind.i64.wrap 512 = 512 := by decide
  have hA : ∀ w' : World, (asInt (.int .i64 512)).run Tryz.prog w' = .ok 512 w' := fun _ => rfl
  simp [Builtin.append_, run_underlying hu, run_underlying gundInt, sizeOf, typeInfo, zeroValue, hi, hz, hs, hb, hw, hroom, zcellsA, Addr.add_lit, hst, hA]
theorem grow_zero {w : World} (base : Option Addr) (sLen sCap : Nat) (olds : List Value) (hold : (Builtin.firstCells 1 sLen (.slice base sLen sCap)).run Tryz.prog w.drew = .ok olds.toArray w.drew) (hg : sCap < sLen + 512) (hsm : sLen ≤ 1000000) :
    ∃ nc, sLen + 512 ≤ nc ∧ nc ≤ maxLen ∧ (Builtin.append_ #[111, 3] 111 #[.slice base sLen sCap, .int .i64 512]).run Tryz.prog w = .ok (.slice (some ⟨w.heap.size, 0, none⟩) (sLen + 512) nc) (w.drew.alloc (.cells ((olds ++ zrow).toArray ++ Builtin.zeroCells (Value.int .u8 0).cells (nc - (sLen + 512))) 5)) := by
  obtain ⟨hu, i, z, hi, hz, hs, hb, hzs⟩ := geltU
  have hz2 : z = .int .u8 0 := by
    have := gzU
    simp only [zeroOf, hi, hz, Option.some.injEq] at this
    exact this
  subst hz2
  have hw : IntKind.i64.wrap 512 = 512 := by decide
  have hA : ∀ w' : World, (asInt (.int .i64 512)).run Tryz.prog w' = .ok 512 w' := fun _ => rfl
  have hn : ¬ (sLen + 512 ≤ sCap) := by omega
  have hfit := growslice_fits (need := sLen + 512) (old := sCap) (bytes := i.bytes) hg (by rw [hb]; omega)
  have h48' : ¬ (281474976710656 < Builtin.nextslicecap (sLen + 512) sCap * i.bytes) := by omega
  rw [hb, Nat.mul_one] at h48'
  have hmx : IntKind.i64.max = 9223372036854775807 := by decide
  refine ⟨grownCap w (sLen + 512) sCap 5, grownCap_ge w (sLen + 512) sCap 5, grownCap_le_maxLen w (sLen + 512) sCap 5 (by simp only [maxLen]; omega), ?_⟩
  have h63' : ¬ (9223372036854775807 < ((sLen : Int) + max 512 0)) := by omega
  simp [Builtin.append_, run_underlying hu, run_underlying gundInt, sizeOf, typeInfo, zeroValue, hi, hz, hs, hb, hw, hn, h63', h48', hmx, Question.forced, hold, newRow, grownCap, zcellsA, hA]
  congr 2
  apply Array.ext'
  simp only [Array.toList_append, List.append_assoc]
theorem app_zero {w : World} {a : Option Addr} {n c : Nat} {xs : List Value} (hown : Own w 0 5 1 a n c xs) (hn : n ≤ 1000000) :
    ∃ a' c' w1, App Tryz.prog #[111, 3] 111 w (.slice a n c) (.int .i64 512) (.slice a' (n + 512) c') w1 ∧ Own w1 0 5 1 a' (n + 512) c' (xs ++ zrow) ∧ Chg (blks a) w w1 ∧ ∀ k ∈ blks a', k ∈ blks a ∨ w.heap.size ≤ k := by
  have hlen : (xs ++ zrow).length = (n + 512) * 1 := by rw [List.length_append, hown.1, zrow_len]; omega
  have grow : ∀ (hold : (Builtin.firstCells 1 n (.slice a n c)).run Tryz.prog w.drew = .ok xs.toArray w.drew), c < n + 512 →
      ∃ a' c' w1, App Tryz.prog #[111, 3] 111 w (.slice a n c) (.int .i64 512) (.slice a' (n + 512) c') w1 ∧ Own w1 0 5 1 a' (n + 512) c' (xs ++ zrow) ∧ Chg (blks a) w w1 ∧ ∀ k ∈ blks a', k ∈ blks a ∨ w.heap.size ≤ k := by
    intro hold hg
    obtain ⟨nc, hge, hcm, hr⟩ := grow_zero (w := w) a n c xs hold hg hn
    refine ⟨_, nc, _, hr, ⟨hlen, .inr ⟨w.heap.size, _, _, rfl, Nat.zero_le _, alloc_new w.drew _, Thaw.zero _, hge, hcm, ?_, ?_⟩⟩, ?_, ?_⟩
    · have h1 : (Builtin.zeroCells (Value.int .u8 0).cells (nc - (n + 512))).size = nc - (n + 512) := by
        rw [← Array.length_toList, zcellsN, bcells_length, List.length_replicate]
      rw [Array.size_append, h1, List.size_toArray, hlen]; omega
    · rw [← hlen, Array.toList_append]
      exact List.take_left' rfl
    · exact ⟨rfl, rfl, rfl, by simp, fun k hk _ => alloc_old w.drew _ k hk⟩
    · intro k hk; simp [blks] at hk; subst hk; exact .inr (Nat.le_refl _)
  rcases hown.2 with ⟨rfl, rfl, rfl⟩ | ⟨g, cur, fz, rfl, hbg, hg, hf, hnc, hcm, hcs, htake⟩
  · have hxs : xs = [] := List.eq_nil_of_length_eq_zero (by simpa using hown.1)
    subst hxs
    exact grow (run_firstCells_none _ _ _ _ _) (by omega)
  · by_cases hroom : n + 512 ≤ c
    · have hfit : n + zrow.length ≤ cur.size := by rw [zrow_len, hcs]; omega
      have hcell : ∀ j, j < 512 → (w.cell? ⟨g, n + j, none⟩).isSome = true := by
        intro j hj
        have : n + j < cur.size := by rw [zrow_len] at hfit; omega
        simp [World.cell?, hg]; omega
      have hr := room_zero (w := w) g n c hroom hcell (fun j hj => by
        have := hf (n + j) (by rw [zrow_len] at hfit; omega)
        obtain ⟨f1, f2⟩ := fz
        simpa [World.frozen?, hg] using this)
      have hcur : w.heap[g]? = some (.cells cur.toList.toArray 5 fz) := by simpa using hg
      obtain ⟨h3, h4⟩ := setCells_over zrow w cur.toList n hcur (by rw [Array.length_toList]; exact hfit)
      refine ⟨_, _, _, hr, ⟨hlen, .inr ⟨g, _, fz, rfl, hbg, h3, ?_, hroom, hcm, ?_, ?_⟩⟩, h4, fun k hk => .inl hk⟩
      · intro k hk
        refine hf k ?_
        rw [List.size_toArray, over_length _ _ _ (by rw [Array.length_toList]; exact hfit), Array.length_toList] at hk
        exact hk
      · rw [List.size_toArray, over_length _ _ _ (by rw [Array.length_toList]; exact hfit), Array.length_toList, hcs]
      · rw [← hlen]
        have := over_take zrow n cur.toList (by rw [Array.length_toList]; exact hfit)
        rw [show (xs ++ zrow).length = n + zrow.length by rw [List.length_append, hown.1]; omega]
        simp only [List.toList_toArray]
        rw [Nat.mul_one] at htake
        rw [this, htake]
    · refine grow ?_ (by omega)
      refine run_firstCells_some _ _ _ _ _ _ xs hown.1 fun j v hj => ?_
      obtain ⟨ad, had, hcell⟩ := hown.cells j v hj
      cases had
      simpa using hcell
theorem Hp.appZ {B : List Nat} {w0 w : World} {L : List Asn} {a : Option Addr} {n c : Nat} {xs : List Value} {G : Option Addr → Nat → Nat → World → Prop} (H : Hp B w0 w (.own 5 1 a n c xs :: L)) (hn : n ≤ 1000000)
    (k : ∀ a' c' w1, Hp B w0 w1 (.own 5 1 a' (n + 512) c' (xs ++ zrow) :: L) → G a' (n + 512) c' w1) :
    ∃ a' n' c' w1, App Tryz.prog #[111, 3] 111 w (.slice a n c) (.int .i64 512) (.slice a' n' c') w1 ∧ G a' n' c' w1 := by
  obtain ⟨a', c', w1, h1, h2, h3, h4⟩ := app_zero (H.ok _ (.head _)) hn
  exact ⟨a', _, c', w1, h1, k a' c' w1 (H.set h3 h2 h4)⟩

theorem own_nil0 {w : World} {e : TypeId} {sz n c : Nat} {a : Option Addr} {xs : List Value} (h : Own w 0 e sz a n c xs) (ha : a = none) : n = 0 := by
  rcases h.2 with ⟨_, h, _⟩ | ⟨g, _, _, h, _⟩
  · exact h
  · rw [ha] at h; cases h
/-! ### a page is read -/
/-- a sector of the pool's file; behind its end there are bytes 0 -/
def secAt (d : Dk) (K i : Nat) : List UInt8 := (d.file K).now.getD i zsec
def pageB (d : Dk) (K n : Nat) : List UInt8 := (List.range 8).flatMap fun k => secAt d K (n * 8 + k)
def pageTo (d : Dk) (K n j : Nat) : List UInt8 := (List.range j).flatMap fun k => secAt d K (n * 8 + k)
theorem pageTo_succ (d : Dk) (K n j : Nat) : pageTo d K n (j + 1) = pageTo d K n j ++ secAt d K (n * 8 + j) := by rw [pageTo, List.range_succ, List.flatMap_append]; simp [pageTo]
theorem secAt_len {d : Dk} (hok : d.Ok) {K : Nat} (hK : K < d.files.length) (i : Nat) : (secAt d K i).length = 512 := by
  have hm : d.file K ∈ d.files := by
    rw [Dk.file, List.getD_eq_getElem?_getD, List.getElem?_eq_getElem hK]; exact List.getElem_mem _
  rw [secAt, List.getD_eq_getElem?_getD]
  cases h : (d.file K).now[i]? with
  | none => simp [zsec]
  | some b => exact (hok.files _ hm).now b (List.mem_of_getElem? h)
theorem pageTo_len {d : Dk} (hok : d.Ok) {K : Nat} (hK : K < d.files.length) (n : Nat) : ∀ j, (pageTo d K n j).length = j * 512
  | 0 => rfl
  | j + 1 => by rw [pageTo_succ, List.length_append, pageTo_len hok hK n j, secAt_len hok hK]; omega
theorem read_sec {d : Dk} {K : Nat} (hd : d.dead = false) (hf : d.find nData = some K) (i : Nat) : d.read nData (i : Int) = if (d.file K).now.length ≤ i then ([], 91) else (secAt d K i, 0) := by
  unfold Dk.read
  rw [hd, hf]
  simp only [Bool.false_eq_true, if_false, Int.toNat_natCast]
  have hl : d.len K = (d.file K).now.length := rfl
  by_cases h : (d.file K).now.length ≤ i
  · rw [if_pos h, if_pos (by omega)]
  · rw [if_neg h, if_neg (by omega), secAt, List.getD_eq_getElem?_getD, List.getD_eq_getElem?_getD, List.getElem?_eq_getElem (by omega)]
    rfl
theorem gundBS : Tryz.prog.underlying 111 = some (.slice 5) := by kernel_rfl
set_option maxHeartbeats 1000000 in
theorem fread_spec (y : GW) (x : DW) (s : St) (hok : x.Ok s.d) {K : Nat} (hd : s.d.dead = false) (hf : s.d.find nData = some K) (n : Nat) (hn : n < 4096) (P : AP) {g : Sl.Pg} (hR : Sl.Rep g P.1 P.2) (hg : pageB s.d K n = g.bs) (w : World) (stp : Blk w y.pb (poolC y x s) 70) (st : Std w (dkL x s.d)) :
    Calls Tryz.prog 36 #[.pointer (some ⟨y.pb, 0, none⟩), .int .i64 (n : Int)] w fun e w' => ∃ b, e = .returned (.tuple #[.pointer (some ⟨b, 0, none⟩), .int .i64 0]) ∧ Hp [] w w' [pageA b P] := by
  apply fread.ok; unfold fread.vc
  have stw : ∀ w', Chg [] w w' → Std w' (dkL x s.d) := fun w' h => ((Hp.startL st).chg0 h).std
  have pbw : ∀ w', Chg [] w w' → Blk w' y.pb (poolC y x s) 70 := fun w' h => stp.chg h (by simp)
  have hKl := hok.dk.find hf
  have hlen := pageTo_len hok.dk hKl n
  have H := (Hp.start w).nilS 5 1
  refine LoopP.mk (fun m i w' => ∃ (j : Nat) (a : Option Addr) (c : Nat), m = 8 - j ∧ j ≤ 8 ∧ i = ((a, (pageTo s.d K n j).length, c), (j : Int)) ∧ Hp [] w w' [.own 5 1 a (pageTo s.d K n j).length c (bcells (pageTo s.d K n j))]) 8 ⟨0, none, 0, rfl, by omega, rfl, H⟩ ?_
  clear H
  rintro m i w1 next ⟨j, a, c, rfl, hj, rfl, H⟩ hnext
  dsimp only
  refine br_dec (fun h => ?_) (fun h => ?_)
  · have hj8 : j < 8 := by omega
    have hpb := pbw _ H.drew.chg
    refine onP_mk rfl ⟨_, hpb.ld (o := 0) gPD.agg rfl, onP_mk rfl ⟨_, hpb.ld (o := 1) gStr.agg rfl, inR64.2 (by omega), inR64.2 (by omega), ?_⟩⟩
    have e3 : (n : Int) * 8 + (j : Int) = ((n * 8 + j : Nat) : Int) := by omega
    rw [e3]
    have hr := read_spec x s.d hok nData ((n * 8 + j : Nat) : Int) w1.drew (stw _ H.drew.chg)
    have hrs := read_sec hd hf (n * 8 + j)
    refine callV hr ?_
    clear hr
    rintro e w2 ⟨a2, c2, rfl, H'⟩
    have H2 := H.drew.ext1 H'
    clear H' H
    refine ⟨_, _, _, _, rfl, ?_⟩
    have hl1 := hlen j
    by_cases hb : (s.d.file K).now.length ≤ n * 8 + j
    · rw [if_pos hb] at hrs
      rw [hrs]
      refine br_dec (fun h => by cases h) (fun _ => br_dec (fun _ => ?_) (fun h => absurd rfl h))
      have hsz : secAt s.d K (n * 8 + j) = List.replicate 512 0 := by
        rw [secAt, List.getD_eq_getElem?_getD, List.getElem?_eq_none hb]; rfl
      refine Hp.appZ H2.drop (by omega) ?_
      intro a3 c3 w3 H3
      refine ⟨inR64.2 (by omega), hnext (8 - (j + 1)) _ _ (by omega) ⟨j + 1, a3, c3, rfl, by omega, ?_, ?_⟩⟩
      · rw [pageTo_succ, List.length_append, hsz, List.length_replicate]; rfl
      · rw [pageTo_succ, List.length_append, hsz, List.length_replicate, bcells_append]; exact H3
    · rw [if_neg hb] at hrs
      rw [hrs] at H2 ⊢
      dsimp only at H2 ⊢
      have hsl := secAt_len hok.dk hKl (n * 8 + j)
      refine br_dec (fun _ => ?_) (fun h => absurd rfl h)
      refine Hp.app geltU (by omega) H2.pull1 (by exact ⟨rfl, rfl, rfl, rfl⟩) (Cells.src gundBS (H2.ownA (.head _)).cells (by rw [bcells_length, Nat.mul_one]) (bcells_one _) (fun h => own_nil0 (H2.ownA (.head _)) h)) (by simp only [maxLen]; omega) (by omega) ?_
      intro a3 c3 w3 H3
      refine ⟨inR64.2 (by omega), hnext (8 - (j + 1)) _ _ (by omega) ⟨j + 1, a3, c3, rfl, by omega, ?_, ?_⟩⟩
      · rw [pageTo_succ, List.length_append]; rfl
      · rw [pageTo_succ, List.length_append, bcells_append]; exact H3.del1
  · have hj8 : j = 8 := by omega
    subst hj8
    have hpg : pageTo s.d K n 8 = g.bs := hg
    have h4 := hlen 8
    rw [hpg] at H h4 ⊢
    rw [h4] at H ⊢
    have hown := H.ownA (.head _)
    rcases hown.2 with ⟨_, h, _⟩ | ⟨gb, cur, fz, rfl, _, hh, _, hle, _⟩
    · omega
    · refine callV (Sl.load_any gb c g P.1 P.2 hR w1 hown.cells hle) ?_
      rintro e w2 ⟨b', g', rfl, hR', H'⟩
      exact ⟨_, _, rfl, b', rfl, Hp.shutP hR' ((H.ext1 H').takeL (L := [_]))⟩
end Go.Proofs.YtiagjabdfppgkaaGreat
