/- Part 5 of 6 of the proof of journalRaw_holds: for every input, from every world that may be reached. -/
import Derived.WalkKit
import Derived.RangeFuncSeq
import Derived.KernelRfl
import Derived.RangeFuncLeaves
import Derived.Test.YtdeebigmpffnbaaGreatChecked
import Derived.Deep.AppendSrc
import Derived.Laws.MakeOwn
import Derived.Laws.BytesArg
import Derived.Laws.BytesString
import Derived.Laws.IdiomStrings
import Derived.Maps.RangeRun
import Derived.Shelf.SlIter.Nil
import Derived.Shelf.SlIterI.Nil
import Derived.Shelf.SortM.Plain
import Derived.Shelf.SortM.SortNone
import Derived.Shelf.SlMaps.Clone
import Derived.StringKeys
import Derived.Laws.Pointers
import Derived.Sort.Walk0
import Derived.Lib.SliceRun
import Derived.Test.YtdeebigmpffnbaaGreatRows
import Derived.ProofKit
import Derived.Laws.StructEq
import Derived.ChangeKeysEq
import Derived.WideKeyRuns
import Derived.Test.YtdeebigmpffnbaaGreatPra1
import Derived.Test.YtdeebigmpffnbaaGreatPra2
import Derived.Test.YtdeebigmpffnbaaGreatPra3
import Derived.Test.YtdeebigmpffnbaaGreatPra4
set_option linter.unusedVariables false
set_option linter.unusedSimpArgs false
set_option maxRecDepth 100000
namespace Go.Proofs.YtdeebigmpffnbaaGreat
open Go Go.Vc Go.Vault Go.Redo
def bestK (d : Dk) (name : ByteArray) : Nat → Nat × Nat
 | 0 => (0,0)
 | k + 1 => better (bestK d name k) (lookP d name k)
theorem valN8 {l : List UInt8} (h : l.length ≤ 8) : valN l ≤ 18446744073709551615 := by
 have h1 := valN_lt l
 have h2 : (256 : Nat) ^ l.length ≤ 256 ^ 8 := Nat.pow_le_pow_right (by omega) h
 have h3 : (256 : Nat) ^ 8 = 18446744073709551616 := by decide
 omega
theorem lookP_le {d : Dk} {name : ByteArray} {k : Nat} {p : Nat × Nat} (h : lookP d name k = some p) : p.1 ≤ 18446744073709551615 ∧ p.2 ≤ 18446744073709551615 := by
 unfold lookP at h
 split at h
 ·rw [← Option.some.inj h]
  exact ⟨valN8 (by rw [List.length_take]; omega),valN8 (by rw [List.length_take]; omega)⟩
 ·cases h
theorem bestK_le (d : Dk) (name : ByteArray) : ∀ k,(bestK d name k).1 ≤ 18446744073709551615 ∧ (bestK d name k).2 ≤ 18446744073709551615
 | 0 => by simp [bestK]
 | k + 1 => by
  have e : bestK d name (k + 1) = better (bestK d name k) (lookP d name k) := rfl
  rw [e]
  cases h : lookP d name k with
  | none => exact bestK_le d name k
  | some p =>
   by_cases hlt : (bestK d name k).1 < p.1
   ·have e2 : better (bestK d name k) (some p) = p := by simp [better,hlt]
    rw [e2]; exact lookP_le h
   ·have e2 : better (bestK d name k) (some p) = bestK d name k := by simp [better,hlt]
    rw [e2]; exact bestK_le d name k
def FindPost (y : LW) (db : Nat) (w : World) (B : List Nat) (L : List Asn) (r : Int × Lg) (e : Ending) (w' : World) : Prop :=
 (r.1 ≠ 0 ∧ e = .returned (.tuple #[.pointer none,.int .i64 r.1]) ∧ Hp B w w' L) ∨
 (r.1 = 0 ∧ e = .returned (.tuple #[.pointer (some ⟨y.b,0,none⟩),.int .i64 0]) ∧ ∃ y' : LW,y'.b = y.b ∧ Hp B w w' (lgA y' db r.2 :: .own 9 1 y'.ta r.2.all.length y'.tc (r.2.all.map .string) :: .own 5 1 y'.ba r.2.b.length y'.bc (bcells r.2.b) :: L))
set_option maxHeartbeats 2000000 in
theorem lfind_spec (y : LW) (x : DW) (d : Dk) (name : ByteArray) (hok : x.Ok d) {N : Nat} (fit : d.Fit N) (hN : N ≤ 1000000) (h2 : 2 ≤ d.size name) (hy : y.ba = none ∧ y.bc = 0) (w : World) (st : Std w (lgA y x.b (Lg.none name) :: dkL x d)) :
  Calls Tryz.prog 68 #[.pointer (some ⟨y.b,0,none⟩)] w (FindPost y x.b w (feet (lgA y x.b (Lg.none name) :: dkL x d)) (dkL x d) (findP d name)) := by
 apply lfind.ok; unfold lfind.vc
 have H := Hp.startL st
 generalize hB : feet (lgA y x.b (Lg.none name) :: dkL x d) = B at H ⊢
 obtain ⟨yb,yba,ybc,yta,ytc⟩ := y
 obtain ⟨rfl,rfl⟩ := hy
 refine LoopP.mk (fun m s w' => ∃ k : Nat,m = 2 - k ∧ k ≤ 2 ∧ s = (((bestK d name k).2 : Int),(k : Int)) ∧ Hp B w w' (lgA ⟨yb,none,0,yta,ytc⟩ x.b { Lg.none name with mark := (bestK d name k).1 } :: dkL x d)) 2 ⟨0,rfl,by omega,rfl,H⟩ ?_
 clear H
 rintro m s w1 next ⟨k,rfl,hk,rfl,H⟩ hnext
 refine br_dec (fun h3 => ?_) (fun h3 => ?_)
 ·simp only at h3 ⊢
  have hk2 : k < 2 := by omega
  have hbl := bestK_le d name k
  have hls := look_spec ⟨yb,none,0,yta,ytc⟩ x d { Lg.none name with mark := (bestK d name k).1 } hok k w1 H.std
  dsimp only [Lg.none] at hls
  refine callV hls ?_
  rintro e w2 ⟨rfl,H'⟩
  replace H := H.ext0 H'; clear H'
  have hb1 : bestK d name (k + 1) = better (bestK d name k) (lookP d name k) := rfl
  have nx : ∀ {w3 : World} {f : Int},f = ((bestK d name (k + 1)).2 : Int) → Hp B w w3 (lgA ⟨yb,none,0,yta,ytc⟩ x.b { Lg.none name with mark := (bestK d name (k + 1)).1 } :: dkL x d) → next (f,(k : Int) + 1) w3 := by
   rintro w3 f rfl H
   exact hnext (2 - (k + 1)) _ _ (by omega) ⟨k + 1,rfl,by omega,by rw [Int.natCast_add]; rfl,H⟩
  cases hlk : lookP d name k with
  | none =>
   rw [hlk] at hb1
   refine ⟨_,_,_,rfl,br_false ?_⟩
   exact ⟨inR64.2 (by omega),nx (by rw [hb1]; rfl) (by rw [hb1]; exact H)⟩
  | some p =>
   obtain ⟨m1,f1⟩ := p
   rw [hlk] at hb1
   refine ⟨_,_,_,rfl,br_true ?_⟩
   refine onP_mk rfl ⟨_,H.ld (by exact ⟨rfl,rfl,rfl,rfl⟩) sclU64 (.head _) rfl,?_⟩
   refine br_dec (fun h4 => ?_) (fun h4 => ?_)
   ·have h4 : (bestK d name k).1 < m1 := by exact Int.ofNat_lt.1 h4
    have e1 : bestK d name (k + 1) = (m1,f1) := by rw [hb1]; simp [better,h4]
    refine onP_mk rfl (Hp.st (o := 2) H (by exact ⟨rfl,rfl,rfl,rfl⟩) sclU64 rfl rfl (by simp [lgC]) (cs' := lgC ⟨yb,none,0,yta,ytc⟩ x.b { Lg.none name with mark := m1 }) rfl ?_)
    clear H; intro w3 H
    exact ⟨inR64.2 (by omega),nx (by rw [e1]) (by rw [e1]; exact H)⟩
   ·have h4 : ¬ (bestK d name k).1 < m1 := fun h => h4 (Int.ofNat_lt.2 h)
    have e1 : bestK d name (k + 1) = bestK d name k := by rw [hb1]; simp [better,h4]
    exact ⟨inR64.2 (by omega),nx (by rw [e1]) (by rw [e1]; exact H)⟩
 ·simp only at h3 ⊢
  have hk2 : k = 2 := by omega
  subst hk2
  have hm2 : bestK d name 2 = mark2 d name := rfl
  rw [hm2] at H ⊢
  obtain ⟨M,F,hMF⟩ : ∃ M F,mark2 d name = (M,F) := ⟨_,_,rfl⟩
  have hFle := (bestK_le d name 2).2
  rw [hm2,hMF] at hFle
  unfold findP
  rw [hMF] at H ⊢
  simp only at H hFle ⊢
  replace H := H.drew
  refine onP_mk rfl ⟨_,H.ld (by exact ⟨rfl,rfl,rfl,rfl⟩) sclDP (.head _) rfl,?_⟩
  refine onP_mk rfl ⟨_,H.ld (by exact ⟨rfl,rfl,rfl,rfl⟩) sclStr (.head _) rfl,?_⟩
  refine callV (size_spec x d hok name w1.drew H.drop.std) ?_
  rintro e w2 ⟨rfl,H'⟩
  replace H := H.ext0 H'; clear H'
  have hsz : d.size name ≤ 1000000 := by
   unfold Dk.size
   split
   ·have := Fit.file fit
    rename_i k _
    have h5 := Dk.len_le fit.now k
    omega
   ·omega
  obtain ⟨S,hS⟩ : ∃ S : Nat,d.size name = (S : Int) := ⟨(d.size name).toNat,by omega⟩
  refine ⟨_,rfl,?_⟩
  rw [hS] at h2 hsz ⊢
  have hw : IntKind.u64.wrap (((S : Int) - 2) * 512) = ((S : Int) - 2) * 512 := by
   have : ∀ z : Int,IntKind.u64.wrap z = z % 18446744073709551616 := fun z => by simp [IntKind.wrap,IntKind.signed,IntKind.bits]
   rw [this]; omega
  rw [hw]
  refine ⟨inR64.2 (by omega),inR64.2 (by omega),?_⟩
  refine br_dec (fun h4 => ?_) (fun h4 => ?_)
  ·rw [if_pos h4]
   exact .inl ⟨by simp,rfl,H.drop⟩
  rw [if_neg h4]
  have hF : F ≤ 512000000 := by omega
  have hwF : IntKind.i64.wrap (F : Int) = (F : Int) := wrap64_id (by omega)
  rw [hwF]
  obtain ⟨g,hg⟩ : ∃ g,g = gath d name F (F + 1) 2 [] := ⟨_,rfl⟩
  rw [← hg]
  refine LoopP.mk (fun m s w' => ∃ (k : Nat) (acc : List UInt8) (m1 : Nat) (a : Option Addr) (c : Nat),m = (F - acc.length) ∧ s = (k : Int) ∧ k ≤ 2 + acc.length ∧ acc.length ≤ F + 512 ∧ F + 1 ≤ m1 + acc.length ∧ g = gath d name F m1 k acc ∧
   Hp B w w' (lgA ⟨yb,a,c,yta,ytc⟩ x.b { Lg.none name with mark := M,b := acc } :: .own 5 1 a acc.length c (bcells acc) :: dkL x d)) F ⟨2,[],F + 1,none,0,rfl,rfl,by simp,by simp,by simp,hg,?_⟩ ?_
  ·exact (H.nilS 5 1).pull1
  clear H w1 w2
  rintro m s w1 next ⟨k,acc,m1,a,c,rfl,rfl,hk,hal,hm1,hgk,H⟩ hnext
  refine onP_mk rfl ⟨_,_,_,H.ld (by exact ⟨rfl,rfl,rfl,rfl⟩) sclBS (.head _) rfl,?_⟩
  have hlen0 : ({ Lg.none name with mark := M,b := acc } : Lg).b.length = acc.length := rfl
  refine br_dec (fun h5 => ?_) (fun h5 => ?_)
  ·have h5 : acc.length < F := by exact Int.ofNat_lt.1 h5
   obtain ⟨m2,rfl⟩ : ∃ m2,m1 = m2 + 1 := ⟨m1 - 1,by omega⟩
   rw [gath,if_neg (by omega)] at hgk
   replace H := H.drew
   refine onP_mk rfl ⟨_,H.ld (by exact ⟨rfl,rfl,rfl,rfl⟩) sclDP (.head _) rfl,?_⟩
   refine onP_mk rfl ⟨_,H.ld (by exact ⟨rfl,rfl,rfl,rfl⟩) sclStr (.head _) rfl,?_⟩
   refine callV (read_spec x d hok name (k : Int) w1.drew H.drop.drop.std) ?_
   rintro e w2 ⟨ra,rc,rfl,H'⟩
   replace H := H.ext1 H'; clear H'
   refine ⟨_,_,_,_,rfl,?_⟩
   refine br_not (fun h6 => ?_) (fun h6 => ?_)
   ·have h6 := of_decide_eq_false h6
    rw [if_neg h6] at hgk
    have hg2 : g.2 ≠ 0 := by rw [hgk]; exact h6
    rw [if_neg hg2]
    exact .inl ⟨hg2,by rw [hgk],H.drop.drop.drop⟩
   ·have h6 := of_decide_eq_true h6
    rw [if_pos h6] at hgk
    have hrl := read512 hok.dk h6
    generalize (d.read name (k : Int)).1 = rb at H hrl hgk ⊢
    refine onP_mk rfl ⟨_,_,_,H.ld (cs := lgC ⟨yb,a,c,yta,ytc⟩ x.b { Lg.none name with mark := M,b := acc }) (by exact ⟨rfl,rfl,rfl,rfl⟩) sclBS (.tail _ (.head _)) rfl,?_⟩
    have hrc := (H.ownA (e := 85) (.head _)).cells
    refine Hp.app eltU8 (by omega) H.pull2 (by exact ⟨rfl,rfl,rfl,rfl⟩) (Cells.src (n := rb.length) undSU8 hrc (by rw [bcells_length]; omega) (bcells_one _) (ownNil (H.ownA (e := 85) (.head _)))) (by simp only [maxLen]; show acc.length + rb.length ≤ _; omega) (by show (acc.length + rb.length) * 1 ≤ _; omega) ?_
    clear H; intro a3 c3 w3 H
    refine onP_mk rfl (Hp.st (o := 3) H.pull2 (by exact ⟨rfl,rfl,rfl,rfl⟩) sclBS rfl rfl (by simp [lgC]) (cs' := lgC ⟨yb,a3,c3,yta,ytc⟩ x.b { Lg.none name with mark := M,b := acc ++ rb }) (by simp [lgC]) ?_)
    clear H; intro w4 H
    refine ⟨inR64.2 (by omega),hnext (F - (acc ++ rb).length) _ _ (by rw [List.length_append]; omega) ⟨k + 1,acc ++ rb,m2,a3,c3,rfl,by omega,by rw [List.length_append]; omega,by rw [List.length_append]; omega,by rw [List.length_append]; omega,hgk,?_⟩⟩
    rw [List.length_append,bcells_append]
    exact H.pull2.drop.pull1.pull1
  ·have h5 : F ≤ acc.length := by
    have : ¬ acc.length < F := fun h => h5 (Int.ofNat_lt.2 h)
    omega
   have hgv : g = (acc,0) := by
    rw [hgk]
    cases m1 with
    | zero => rfl
    | succ m => rw [gath,if_pos h5]
   rw [hgv]
   simp only [if_true]
   have hown := H.ownA (.tail _ (.head _))
   refine onP_mk rfl ⟨_,_,_,H.ld (by exact ⟨rfl,rfl,rfl,rfl⟩) sclBS (.head _) rfl,?_⟩
   refine ⟨⟨by omega,by omega,Int.ofNat_le.2 (Nat.le_trans h5 hown.le.1)⟩,?_⟩
   rw [Int.toNat_natCast]
   have ltk : (acc.take F).length = F := by rw [List.length_take]; omega
   refine onP_mk rfl (Hp.st (o := 3) H (by exact ⟨rfl,rfl,rfl,rfl⟩) sclBS rfl rfl (by simp [lgC]) (cs' := lgC ⟨yb,a,F,yta,ytc⟩ x.b { Lg.none name with mark := M,b := acc.take F }) (by simp only [lgC,ltk]; rfl) ?_)
   clear H; intro w2 H
   refine onP_mk rfl ⟨_,_,_,H.ld (by exact ⟨rfl,rfl,rfl,rfl⟩) sclBS (.head _) rfl,?_⟩
   have hcell : Cells w2 a (bcells (acc.take F)) := by
    have h7 := (H.ownA (.tail _ (.head _))).cells.take F
    have e7 : (bcells acc).take F = bcells (acc.take F) := by simp only [bcells,List.map_take]
    rw [e7] at h7; exact h7
   refine callV (records_spec a F (acc.take F) (by omega) (by omega) w2 hcell) ?_
   intro e w3 hrp
   cases hr : Redo.records (acc.take F) with
   | none =>
    rw [hr] at hrp
    obtain ⟨rfl,H'⟩ := hrp
    replace H := H.ext0 H'; clear H'
    refine ⟨_,_,_,_,rfl,?_⟩
    refine br_not (fun _ => ?_) (fun h => by cases h)
    exact .inl ⟨by simp,rfl,H.drop.drop⟩
   | some l =>
    rw [hr] at hrp
    obtain ⟨ta,tc,rfl,H'⟩ := hrp
    replace H := H.ext1 H'; clear H'
    refine ⟨_,_,_,_,rfl,?_⟩
    refine br_not (fun h => by cases h) (fun _ => ?_)
    refine onP_mk rfl ⟨_,_,_,H.ld (cs := lgC ⟨yb,a,F,yta,ytc⟩ x.b { Lg.none name with mark := M,b := acc.take F }) (by exact ⟨rfl,rfl,rfl,rfl⟩) sclBS (.tail _ (.head _)) rfl,?_⟩
    refine onP_mk rfl (Hp.st (o := 6) H.pull1 (by exact ⟨rfl,rfl,rfl,rfl⟩) sclTS rfl rfl (by simp [lgC]) rfl ?_)
    clear H; intro w4 H
    refine onP_mk rfl (Hp.st (o := 4) H (by exact ⟨rfl,rfl,rfl,rfl⟩) sclInt rfl rfl (by simp [lgC]) rfl ?_)
    clear H; intro w5 H
    refine onP_mk rfl (Hp.st (o := 5) H (by exact ⟨rfl,rfl,rfl,rfl⟩) sclInt rfl rfl (by simp [lgC]) rfl ?_)
    clear H; intro w6 H
    refine .inr ⟨rfl,rfl,⟨yb,a,F,ta,tc⟩,rfl,?_⟩
    have e8 : lgA ⟨yb,a,F,ta,tc⟩ x.b ⟨name,M,acc.take F,F,l.length,l,0⟩ = .blk yb (((((lgC ⟨yb,a,F,yta,ytc⟩ x.b { Lg.none name with mark := M,b := acc.take F }).set 6 (.slice ta l.length tc)).set 4 (.int .i64 ((acc.take F).length : Int))).set 5 (.int .i64 (l.length : Int)))) 129 := by
     simp only [lgA,lgC,ltk]; rfl
    have H9 := (H.pull2.front h5).perm (perm_pull [_,_] _ _).symm
    have e9 : (bcells acc).take (F * 1) = bcells (acc.take F) := by rw [Nat.mul_one]; simp only [bcells,List.map_take]
    rw [e9] at H9
    have e10 : ((⟨name,M,acc.take F,F,l.length,l,0⟩ : Lg).b).length = F := ltk
    show Hp B w w6 (lgA ⟨yb,a,F,ta,tc⟩ x.b ⟨name,M,acc.take F,F,l.length,l,0⟩ :: _ :: .own 5 1 a ((⟨name,M,acc.take F,F,l.length,l,0⟩ : Lg).b).length F (bcells (acc.take F)) :: _)
    rw [e10,e8]
    exact H9
end Go.Proofs.YtdeebigmpffnbaaGreat
namespace Go.Proofs.YtdeebigmpffnbaaGreat
open Go Go.Vc Go.Vault Go.Redo
def lgT (y : LW) (l : Lg) : Asn := .own 9 1 y.ta l.all.length y.tc (l.all.map .string)
def lgB (y : LW) (l : Lg) : Asn := .own 5 1 y.ba l.b.length y.bc (bcells l.b)
def OpenPost (x : DW) (d : Dk) (name : ByteArray) (w : World) (r : Dk × Int × Lg) (e : Ending) (w' : World) : Prop := ∃ x' : DW,x'.b = x.b ∧ x'.Ok r.1 ∧
 ((r.2.1 ≠ 0 ∧ e = .returned (.tuple #[.pointer none,.int .i64 r.2.1]) ∧ Hp (feet (dkL x d)) w w' (dkL x' r.1)) ∨
  (r.2.1 = 0 ∧ ∃ y : LW,e = .returned (.tuple #[.pointer (some ⟨y.b,0,none⟩),.int .i64 0]) ∧ Hp (feet (dkL x d)) w w' (lgA y x.b r.2.2 :: lgT y r.2.2 :: lgB y r.2.2 :: dkL x' r.1)))
theorem size0 {n : ByteArray} : n = ByteArray.mk #[] ↔ n.size = 0 := by
 constructor
 ·rintro rfl; rfl
 ·intro h
  obtain ⟨a⟩ := n
  exact congrArg ByteArray.mk (Array.eq_empty_of_size_eq_zero h)
set_option maxHeartbeats 1000000 in
theorem open_spec (x : DW) (d : Dk) (hok : x.Ok d) {N : Nat} (fit : d.Fit N) (hN : N ≤ 400000) (name : ByteArray) (w : World) (st : Std w (dkL x d)) :
  Calls Tryz.prog 37 #[.pointer (some ⟨x.b,0,none⟩),.string name] w (OpenPost x d name w (openP d name)) := by
 apply open_.ok; unfold open_.vc OpenPost
 have H := Hp.startL st
 generalize hB : feet (dkL x d) = B at H ⊢
 intro b w1 hn; replace H := H.new (cs := lgC ⟨b,none,0,none,0⟩ x.b (Lg.none name)) (by exact ⟨rfl,rfl,rfl,rfl⟩) hn; clear hn
 refine callV (dead_spec x d w1 H.drop.std) ?_
 rintro e w2 ⟨rfl,H'⟩
 replace H := H.ext0 H'; clear H'
 refine ⟨_,rfl,?_⟩
 refine br_mk (fun h => ?_) (fun h => ?_)
 ·have e1 : openP d name = (d,93,Lg.none name) := by simp [openP,h]
  rw [e1]
  exact ⟨x,rfl,hok,.inl ⟨by simp,rfl,H.drop⟩⟩
 have e0 : openP d name = if name.size = 0 ∨ 56 < name.size then (d,92,Lg.none name) else if 2 ≤ d.size name then (d,findP d name) else ((drenew d name []).1,(drenew d name []).2,(Lg.none name).anew []) := by simp [openP,h]
 rw [e0]
 refine br_dec (fun h1 => ?_) (fun h1 => ?_)
 ·rw [if_pos (.inl (size0.1 h1))]
  exact ⟨x,rfl,hok,.inl ⟨by simp,rfl,H.drop⟩⟩
 refine br_dec (fun h2 => ?_) (fun h2 => ?_)
 ·rw [if_pos (.inr (by omega))]
  exact ⟨x,rfl,hok,.inl ⟨by simp,rfl,H.drop⟩⟩
 rw [if_neg (fun h3 => h3.elim (fun h4 => h1 (size0.2 h4)) (fun h4 => by omega))]
 refine callV (size_spec x d hok name w2 H.drop.std) ?_
 rintro e w3 ⟨rfl,H'⟩
 replace H := H.ext0 H'; clear H'
 refine ⟨_,rfl,?_⟩
 refine br_dec (fun h3 => ?_) (fun h3 => ?_)
 ·rw [if_pos h3]
  refine callV (lfind_spec ⟨b,none,0,none,0⟩ x d name hok fit (by omega) h3 ⟨rfl,rfl⟩ w3 H.std) ?_
  rintro e w4 (⟨hr,rfl,H'⟩ | ⟨hr,rfl,y',hy',H'⟩)
  ·exact ⟨_,_,rfl,x,rfl,hok,.inl ⟨hr,rfl,H.useAll H'⟩⟩
  ·refine ⟨_,_,rfl,x,rfl,hok,.inr ⟨hr,y',by rw [hy'],H.useAll H'⟩⟩
 ·rw [if_neg h3]
  have hf0 : framedAll [] = [] := rfl
  refine callV (lrenew_spec ⟨b,none,0,none,0⟩ x d (Lg.none name) hok fit none 0 [] (by simp [hf0]) (by simp) (by omega) (by show name.size ≤ 1000; omega) w3 H.std (fun W _ => by intro j v hj; simp at hj) (fun _ => rfl)) ?_
  rintro e w4 ⟨rfl,x',hxb,hx',(⟨hr,y',hy',H'⟩ | ⟨hr,H'⟩)⟩
  ·refine ⟨_,rfl,?_⟩
   refine br_not (fun h4 => absurd hr (of_decide_eq_false h4)) (fun _ => ?_)
   have H2 := H.useAll H'
   refine ⟨x',hxb,hx',.inr ⟨hr,y',?_,?_⟩⟩
   ·rw [hy']
   ·exact H2.perm ((List.Perm.swap _ _ _).cons _)
  ·refine ⟨_,rfl,?_⟩
   refine br_not (fun _ => ?_) (fun h4 => absurd (of_decide_eq_true h4) hr)
   exact ⟨x',hxb,hx',.inl ⟨hr,rfl,(H.useAll H').drop⟩⟩
theorem lfirm_spec (y : LW) (db : Nat) (l : Lg) (w : World) (st : Std w [lgA y db l]) : Calls Tryz.prog 70 #[.pointer (some ⟨y.b,0,none⟩)] w fun e w' => e = .returned (.int .i64 (l.many : Int)) ∧ Hp [] w w' [] := by
 apply lfirm.ok; unfold lfirm.vc
 have H := Hp.startL st
 exact onP_mk rfl ⟨_,H.ld (cs := lgC y db l) (by exact ⟨rfl,rfl,rfl,rfl⟩) sclInt (.head _) rfl,rfl,Hp.start w⟩
theorem lstuck_spec (y : LW) (db : Nat) (l : Lg) (w : World) (st : Std w [lgA y db l]) : Calls Tryz.prog 46 #[.pointer (some ⟨y.b,0,none⟩)] w fun e w' => e = .returned (.int .i64 l.code) ∧ Hp [] w w' [] := by
 apply lstuck.ok; unfold lstuck.vc
 have H := Hp.startL st
 exact onP_mk rfl ⟨_,H.ld (cs := lgC y db l) (by exact ⟨rfl,rfl,rfl,rfl⟩) sclEr (.head _) rfl,rfl,Hp.start w⟩
theorem lall_spec (y : LW) (db : Nat) (l : Lg) (hl : l.all.length ≤ 1000000000) (w : World) (st : Std w [lgA y db l,lgT y l]) : Calls Tryz.prog 71 #[.pointer (some ⟨y.b,0,none⟩)] w fun e w' =>
  ∃ a c,e = .returned (.slice a l.all.length c) ∧ Hp [] w w' [.own 9 1 a l.all.length c (l.all.map .string)] := by
 apply lall.ok; unfold lall.vc
 have H := Hp.startL st
 refine onP_mk rfl ⟨_,_,_,H.ld (cs := lgC y db l) (by exact ⟨rfl,rfl,rfl,rfl⟩) sclTS (.head _) rfl,?_⟩
 have hown := H.ownA (e := 9) (.tail _ (.head _))
 refine callV (cloneT_spec y.ta y.tc l.all hl w hown.cells (ownNil hown)) ?_
 rintro e w1 ⟨a,c,rfl,H'⟩
 exact ⟨_,_,_,rfl,a,c,rfl,H'⟩
end Go.Proofs.YtdeebigmpffnbaaGreat
namespace Go.Proofs.YtdeebigmpffnbaaGreat
open Go Go.Vc Go.Vault Go.Redo
def AppPost (y : LW) (db : Nat) (l : Lg) (w : World) (s : ByteArray) (e : Ending) (w' : World) : Prop :=
 (∃ i,e = .returned (.tuple #[.int .i64 i,.int .i64 (l.append s).2]) ∧ ((l.append s).2 = 0 → i = ((l.append s).1.all.length : Int))) ∧ ∃ y' : LW,y'.b = y.b ∧ Hp (feet [lgA y db l,lgT y l,lgB y l]) w w' [lgA y' db (l.append s).1,lgT y' (l.append s).1,lgB y' (l.append s).1]
set_option maxHeartbeats 1000000 in
theorem lappend_spec (y : LW) (db : Nat) (l : Lg) (s : ByteArray) (hb : l.b.length + 70000 ≤ 1000000000) (ha : l.all.length ≤ 1000000) (w : World) (st : Std w [lgA y db l,lgT y l,lgB y l]) :
  Calls Tryz.prog 56 #[.pointer (some ⟨y.b,0,none⟩),.string s] w (AppPost y db l w s) := by
 apply lappend.ok; unfold lappend.vc AppPost
 have H := Hp.startL st
 generalize hB : feet [lgA y db l,lgT y l,lgB y l] = B at H ⊢
 refine br_dec (fun h => ?_) (fun h => ?_)
 ·have e1 : l.append s = (l,101) := by rw [Lg.append,if_pos (by omega)]
  rw [e1]
  exact ⟨⟨_,rfl,fun h => absurd (show (101 : Int) = 0 from h) (by decide)⟩,y,rfl,H⟩
 have e1 : l.append s = ({ l with b := framed l.b s,all := l.all ++ [s] },0) := by rw [Lg.append,if_neg (by omega)]
 rw [e1]
 replace H := H.drew
 have fl := framed_len l.b s
 have fin : ∀ (w5 : World) (a1 : Option Addr) (c1 : Nat) (a2 : Option Addr) (c2 : Nat) (X : List Asn),Hp B w w5 (lgA y db l :: .own 9 1 a2 (l.all.length + 1) c2 (l.all.map .string ++ [.string s]) :: .own 5 1 a1 (framed l.b s).length c1 (bcells (framed l.b s)) :: X) →
   onP (some (⟨y.b,0,none⟩ : Addr)) fun a_5 => ∃ w1,St Tryz.prog 29 w5 (a_5.add 3) (.slice a1 (framed l.b s).length c1) w1 ∧ onP (some (⟨y.b,0,none⟩ : Addr)) fun a_6 => ∃ w1_2,St Tryz.prog 26 w1 (a_6.add 6) (.slice a2 (l.all.length + 1) c2) w1_2 ∧
    onP (some (⟨y.b,0,none⟩ : Addr)) fun a => ∃ a_7 l_1 c,Ld Tryz.prog 26 w1_2 (a.add 6) (.slice a_7 l_1 c) ∧
     ((∃ i,Ending.returned (.tuple #[.int .i64 (l_1 : Int),.int .i64 0]) = .returned (.tuple #[.int .i64 i,.int .i64 0]) ∧ ((0 : Int) = 0 → i = ((l.all ++ [s]).length : Int))) ∧ ∃ y' : LW,y'.b = y.b ∧ Hp B w w1_2 [lgA y' db { l with b := framed l.b s,all := l.all ++ [s] },lgT y' { l with b := framed l.b s,all := l.all ++ [s] },lgB y' { l with b := framed l.b s,all := l.all ++ [s] }]) := by
  intro w5 a1 c1 a2 c2 X H
  refine onP_mk rfl (Hp.st (o := 3) H (by exact ⟨rfl,rfl,rfl,rfl⟩) sclBS rfl rfl (by simp [lgC]) (cs' := lgC ⟨y.b,a1,c1,y.ta,y.tc⟩ db { l with b := framed l.b s }) rfl ?_)
  clear H; intro w6 H
  refine onP_mk rfl (Hp.st (o := 6) H (by exact ⟨rfl,rfl,rfl,rfl⟩) sclTS rfl rfl (by simp [lgC]) (cs' := lgC ⟨y.b,a1,c1,a2,c2⟩ db { l with b := framed l.b s,all := l.all ++ [s] }) (by simp [lgC]) ?_)
  clear H; intro w7 H
  refine onP_mk rfl ⟨_,_,_,H.ld (by exact ⟨rfl,rfl,rfl,rfl⟩) sclTS (.head _) rfl,⟨_,rfl,fun _ => by rw [List.length_append]⟩,⟨y.b,a1,c1,a2,c2⟩,rfl,?_⟩
  have e2 : lgT ⟨y.b,a1,c1,a2,c2⟩ { l with b := framed l.b s,all := l.all ++ [s] } = .own 9 1 a2 (l.all.length + 1) c2 (l.all.map .string ++ [.string s]) := by
   simp only [lgT,List.length_append,List.map_append,List.length_singleton,List.map_singleton]
  rw [e2]
  have H2 : Hp B w w7 ([lgA ⟨y.b,a1,c1,a2,c2⟩ db { l with b := framed l.b s,all := l.all ++ [s] },.own 9 1 a2 (l.all.length + 1) c2 (l.all.map .string ++ [.string s]),lgB ⟨y.b,a1,c1,a2,c2⟩ { l with b := framed l.b s,all := l.all ++ [s] }] ++ X) := H
  exact H2.takeL
 constructor
 ·refine onP_mk rfl ⟨_,_,_,H.ld (cs := lgC y db l) (by exact ⟨rfl,rfl,rfl,rfl⟩) sclBS (.head _) rfl,?_⟩
  refine onP_mk rfl ⟨_,_,_,H.ld (cs := lgC y db l) (by exact ⟨rfl,rfl,rfl,rfl⟩) sclTS (.head _) rfl,?_⟩
  have H1 : Hp B w w.drew ([lgB y l] ++ [lgA y db l,lgT y l]) := H.pull2
  refine callV (framed_spec y.ba y.bc l.b s (by omega) w.drew H1.std1) ?_
  rintro e w2 ⟨a1,c1,rfl,H'⟩
  replace H1 := H1.useL H'; clear H'
  refine ⟨_,_,_,rfl,H1.ld (cs := lgC y db l) (by exact ⟨rfl,rfl,rfl,rfl⟩) sclTS (.tail _ (.head _)) rfl,?_⟩
  intro b w3 hn; replace H1 := H1.new (cs := [.string s]) (by exact ⟨rfl,rfl,rfl,rfl⟩) hn; clear hn
  refine ⟨H1.ld (cs := lgC y db l) (by exact ⟨rfl,rfl,rfl,rfl⟩) sclTS (.tail _ (.tail _ (.head _))) rfl,?_⟩
  refine Hp.app eltT (by omega) H1.pull3 (by exact ⟨rfl,rfl,rfl,rfl⟩) (Blk.src (n := 1) undST (H1.blk (.head _)) (by simp) (by rfl)) (by simp only [maxLen]; omega) (by omega) ?_
  clear H1; intro a5 c5 w5 H1
  exact fin w5 a1 c1 a5 c5 [.blk b [.string s] 9] (H1.perm (perm_cnt fun ff gg h0 hc ha hpm => by simp only [ha,hc,h0]; omega))
 ·refine onP_mk rfl ⟨_,_,_,H.ld (cs := lgC y db l) (by exact ⟨rfl,rfl,rfl,rfl⟩) sclBS (.head _) rfl,?_⟩
  refine onP_mk rfl ⟨_,_,_,H.ld (cs := lgC y db l) (by exact ⟨rfl,rfl,rfl,rfl⟩) sclTS (.head _) rfl,?_⟩
  intro b w3 hn; replace H := H.new (cs := [.string s]) (by exact ⟨rfl,rfl,rfl,rfl⟩) hn; clear hn
  refine ⟨H.ld (cs := lgC y db l) (by exact ⟨rfl,rfl,rfl,rfl⟩) sclTS (.tail _ (.head _)) rfl,H.ld (cs := lgC y db l) (by exact ⟨rfl,rfl,rfl,rfl⟩) sclBS (.tail _ (.head _)) rfl,?_⟩
  have H1 : Hp B w w3 ([lgB y l] ++ [.blk b [.string s] 9,lgA y db l,lgT y l]) := H.pull3
  refine callV (framed_spec y.ba y.bc l.b s (by omega) w3 H1.std1) ?_
  rintro e w4 ⟨a1,c1,rfl,H'⟩
  replace H1 := H1.useL H'; clear H'
  refine ⟨_,_,_,rfl,H1.ld (cs := lgC y db l) (by exact ⟨rfl,rfl,rfl,rfl⟩) sclTS (.tail _ (.tail _ (.head _))) rfl,?_⟩
  refine Hp.app eltT (by omega) H1.pull3 (by exact ⟨rfl,rfl,rfl,rfl⟩) (Blk.src (n := 1) undST (H1.blk (.tail _ (.head _))) (by simp) (by rfl)) (by simp only [maxLen]; omega) (by omega) ?_
  clear H1; intro a5 c5 w5 H1
  exact fin w5 a1 c1 a5 c5 [.blk b [.string s] 9] (H1.perm (perm_cnt fun ff gg h0 hc ha hpm => by simp only [ha,hc,h0]; omega))
end Go.Proofs.YtdeebigmpffnbaaGreat
namespace Go.Proofs.YtdeebigmpffnbaaGreat
open Go Go.Vc Go.Vault Go.Redo
def lgL (y : LW) (x : DW) (d : Dk) (l : Lg) : List Asn := lgT y l :: lgB y l :: lgA y x.b l :: dkL x d
def LogPost (y : LW) (x : DW) (w : World) (B : List Nat) (r : Dk × Lg × Int) (e : Ending) (w' : World) : Prop :=
 e = .returned (.int .i64 r.2.2) ∧ ∃ (x' : DW) (y' : LW),x'.b = x.b ∧ y'.b = y.b ∧ x'.Ok r.1 ∧ Hp B w w' (lgL y' x' r.1 r.2.1)
theorem lgL_b {y : LW} {x x' : DW} (h : x'.b = x.b) {d : Dk} {l : Lg} : lgT y l :: lgB y l :: lgA y x.b l :: dkL x' d = lgL y x' d l := by rw [lgL,h]
set_option maxHeartbeats 1000000 in
theorem lflush_spec (y : LW) (x : DW) (d : Dk) (l : Lg) (hok : x.Ok d) {N : Nat} (fit : d.Fit N) (hN : N ≤ 400000) (hb : l.b.length ≤ 100000000) (hf : l.firm ≤ 100000000) (hm : l.mark ≤ 100000000) (w : World) (st : Std w (lgL y x d l)) :
  Calls Tryz.prog 47 #[.pointer (some ⟨y.b,0,none⟩)] w (LogPost y x w (feet (lgL y x d l)) (flushP d l)) := by
 apply lflush.ok; unfold lflush.vc LogPost
 have H := Hp.startL st
 generalize hB : feet (lgL y x d l) = B at H ⊢
 unfold lgL at H
 refine onP_mk rfl ⟨_,H.ld (cs := lgC y x.b l) (by exact ⟨rfl,rfl,rfl,rfl⟩) sclEr (.tail _ (.tail _ (.head _))) rfl,?_⟩
 refine br_not (fun h => ?_) (fun h => ?_)
 ·have h := of_decide_eq_false h
  have e1 : flushP d l = (d,l,l.code) := by rw [flushP,if_neg h]
  rw [e1]
  exact onP_mk rfl ⟨_,H.ld (cs := lgC y x.b l) (by exact ⟨rfl,rfl,rfl,rfl⟩) sclEr (.tail _ (.tail _ (.head _))) rfl,rfl,x,y,rfl,rfl,hok,H⟩
 have h := of_decide_eq_true h
 replace H := H.drew
 refine onP_mk rfl ⟨_,H.ld (cs := lgC y x.b l) (by exact ⟨rfl,rfl,rfl,rfl⟩) sclStr (.tail _ (.tail _ (.head _))) rfl,?_⟩
 refine onP_mk rfl ⟨_,_,_,H.ld (cs := lgC y x.b l) (by exact ⟨rfl,rfl,rfl,rfl⟩) sclBS (.tail _ (.tail _ (.head _))) rfl,?_⟩
 refine onP_mk rfl ⟨_,H.ld (cs := lgC y x.b l) (by exact ⟨rfl,rfl,rfl,rfl⟩) sclInt (.tail _ (.tail _ (.head _))) rfl,?_⟩
 have hown := H.ownA (e := 5) (.tail _ (.head _))
 refine callV (lwrite_spec y.b (lgC y x.b l) x d hok fit l.name y.ba y.bc l.b (by omega) l.firm (by omega) rfl w.drew H.drop.drop.std (fun W hW => H.drop.ownSt W hW) (ownNil hown) hown.le.1) ?_
 rintro e w1 ⟨rfl,x1,hx1b,hx1,H'⟩
 replace H := H.useT2 H'; clear H'
 have fit1 : (dwrite d l.name l.b l.firm).1.Fit (N + l.b.length / 512 + 1) := (dput_fit l.name l.b _ _ fit).mono (by omega)
 have e0 : flushP d l = if (thn (dwrite d l.name l.b l.firm) fun d => dseal d l.name (l.mark + 1) l.b.length).2 = 0 then ((thn (dwrite d l.name l.b l.firm) fun d => dseal d l.name (l.mark + 1) l.b.length).1,{ l with mark := l.mark + 1,firm := l.b.length,many := l.all.length },0) else ((thn (dwrite d l.name l.b l.firm) fun d => dseal d l.name (l.mark + 1) l.b.length).1,{ l with code := (thn (dwrite d l.name l.b l.firm) fun d => dseal d l.name (l.mark + 1) l.b.length).2 },(thn (dwrite d l.name l.b l.firm) fun d => dseal d l.name (l.mark + 1) l.b.length).2) := by rw [flushP,if_pos h]
 rw [e0]; clear e0
 refine ⟨_,rfl,?_⟩
 have bad : ∀ (w2 : World) (x2 : DW) (r : Dk × Int),x2.b = x.b → x2.Ok r.1 → r.2 ≠ 0 → Hp B w w2 (lgT y l :: lgB y l :: lgA y x.b l :: dkL x2 r.1) →
   CallV Tryz.prog 83 [.pointer (some ⟨y.b,0,none⟩),.int .i64 r.2] w2 fun e w' => ∃ i,e = .returned (.int .i64 i) ∧
    (Ending.returned (.int .i64 i) = .returned (.int .i64 r.2) ∧ ∃ (x' : DW) (y' : LW),x'.b = x.b ∧ y'.b = y.b ∧ x'.Ok r.1 ∧ Hp B w w' (lgL y' x' r.1 { l with code := r.2 })) := by
  intro w2 x2 r hxb hx2 hr H
  have H1 : Hp B w w2 ([lgA y x.b l] ++ (lgT y l :: lgB y l :: dkL x2 r.1)) := H.pull2
  refine callV (stuck_spec y x.b l r.2 w2 H1.std1) ?_
  rintro e w3 ⟨rfl,H'⟩
  replace H1 := H1.useL H'
  rw [if_pos h] at H1 ⊢
  refine ⟨_,rfl,rfl,x2,y,hxb,rfl,hx2,?_⟩
  rw [← lgL_b hxb]
  exact H1.perm (((List.Perm.swap _ _ _).trans ((List.Perm.swap _ _ _).cons _)))
 refine br_dec (fun h1 => ?_) (fun h1 => br_not (fun _ => ?_) (fun h2 => absurd (of_decide_eq_true h2) h1))
 ·have e1 : (thn (dwrite d l.name l.b l.firm) fun d => dseal d l.name (l.mark + 1) l.b.length) = dseal (dwrite d l.name l.b l.firm).1 l.name (l.mark + 1) l.b.length := by rw [thn,if_pos h1]
  rw [e1]
  generalize (dwrite d l.name l.b l.firm).1 = d1 at hx1 H fit1 ⊢
  replace H := H.drew
  refine onP_mk rfl ⟨_,H.ld (cs := lgC y x.b l) (by exact ⟨rfl,rfl,rfl,rfl⟩) sclStr (.tail _ (.tail _ (.head _))) rfl,?_⟩
  refine onP_mk rfl ⟨_,H.ld (cs := lgC y x.b l) (by exact ⟨rfl,rfl,rfl,rfl⟩) sclU64 (.tail _ (.tail _ (.head _))) rfl,inRU.2 (by omega),?_⟩
  refine onP_mk rfl ⟨_,_,_,H.ld (cs := lgC y x.b l) (by exact ⟨rfl,rfl,rfl,rfl⟩) sclBS (.tail _ (.tail _ (.head _))) rfl,?_⟩
  have hss := lseal_spec y.b (lgC y x.b l) x1 d1 hx1 fit1 (by omega) l.name (l.mark + 1) l.b.length (by omega) (by omega) (by rw [hx1b]; rfl) w1.drew H.drop.drop.std
  rw [Int.natCast_add] at hss
  refine callV hss ?_
  rintro e w2 ⟨rfl,x2,hx2b,hx2,H'⟩
  replace H := H.useT2 H'; clear H' hss
  refine ⟨_,rfl,?_⟩
  have hxb2 : x2.b = x.b := by rw [hx2b,hx1b]
  generalize dseal d1 l.name (l.mark + 1) l.b.length = r at hx2 H ⊢
  refine br_not (fun h2 => ?_) (fun h2 => ?_)
  ·have h2 := of_decide_eq_false h2
   rw [if_neg h2]
   exact bad w2 x2 r hxb2 hx2 h2 H
  ·have h2 := of_decide_eq_true h2
   rw [if_pos h2]
   refine onP_mk rfl ⟨_,H.ld (cs := lgC y x.b l) (by exact ⟨rfl,rfl,rfl,rfl⟩) sclU64 (.tail _ (.tail _ (.head _))) rfl,inRU.2 (by omega),?_⟩
   refine onP_mk rfl (Hp.st (o := 2) H.pull2 (by exact ⟨rfl,rfl,rfl,rfl⟩) sclU64 rfl rfl (by simp [lgC]) (cs' := lgC y x.b { l with mark := l.mark + 1 }) (by simp [lgC]) ?_)
   clear H; intro w3 H
   replace H := H.drew
   refine onP_mk rfl ⟨_,_,_,H.ld (cs := lgC y x.b { l with mark := l.mark + 1 }) (by exact ⟨rfl,rfl,rfl,rfl⟩) sclBS (.head _) rfl,?_⟩
   refine onP_mk rfl ⟨_,_,_,H.ld (cs := lgC y x.b { l with mark := l.mark + 1 }) (by exact ⟨rfl,rfl,rfl,rfl⟩) sclTS (.head _) rfl,?_⟩
   refine onP_mk rfl (Hp.st (o := 4) H (by exact ⟨rfl,rfl,rfl,rfl⟩) sclInt rfl rfl (by simp [lgC]) (cs' := lgC y x.b { l with mark := l.mark + 1,firm := l.b.length }) rfl ?_)
   clear H; intro w4 H
   refine onP_mk rfl (Hp.st (o := 5) H (by exact ⟨rfl,rfl,rfl,rfl⟩) sclInt rfl rfl (by simp [lgC]) (cs' := lgC y x.b { l with mark := l.mark + 1,firm := l.b.length,many := l.all.length }) rfl ?_)
   clear H; intro w5 H
   refine ⟨rfl,x2,y,hxb2,rfl,hx2,?_⟩
   rw [← lgL_b hxb2]
   exact H.perm (((List.Perm.swap _ _ _).trans ((List.Perm.swap _ _ _).cons _)))
 ·have e1 : (thn (dwrite d l.name l.b l.firm) fun d => dseal d l.name (l.mark + 1) l.b.length) = dwrite d l.name l.b l.firm := by rw [thn,if_neg h1]
  rw [e1,if_neg h1]
  exact bad w1 x1 _ hx1b hx1 h1 H
end Go.Proofs.YtdeebigmpffnbaaGreat
namespace Go.Proofs.YtdeebigmpffnbaaGreat
open Go Go.Vc Go.Vault Go.Redo
end Go.Proofs.YtdeebigmpffnbaaGreat
namespace Go.Proofs.YtdeebigmpffnbaaGreat
open Go Go.Vc Go.RowKit Go.Sort Go.Redo
def sortZ (zs : List Int) : List Int := zs.mergeSort fun x y => decide (x ≤ y)
theorem sortZ_len (zs : List Int) : (sortZ zs).length = zs.length := List.length_mergeSort _
end Go.Proofs.YtdeebigmpffnbaaGreat
namespace Go.Proofs.YtdeebigmpffnbaaGreat
open Go Go.Vc Go.Vault Go.Redo
theorem gInt : Scl Tryz.prog 3 := scl_of (by kernel_rfl)
theorem gBool : Scl Tryz.prog 4 := scl_of (by kernel_rfl)
theorem gStr : Scl Tryz.prog 9 := scl_of (by kernel_rfl)
theorem gPF : Scl Tryz.prog 153 := scl_of (by kernel_rfl)
theorem gPP : Scl Tryz.prog 88 := scl_of (by kernel_rfl)
theorem gPD : Scl Tryz.prog 23 := scl_of (by kernel_rfl)
theorem gPL : Scl Tryz.prog 87 := scl_of (by kernel_rfl)
theorem gPG : Scl Tryz.prog 99 := scl_of (by kernel_rfl)
theorem gSF : Scl Tryz.prog 132 := scl_of (by kernel_rfl)
theorem gEr : Scl Tryz.prog 27 := scl_of (by kernel_rfl)
theorem gFn : Scl Tryz.prog 96 := scl_of (by kernel_rfl)
theorem geltF : Elt Tryz.prog 132 153 1 8 := elt_of (by kernel_rfl)
theorem gundF : Tryz.prog.underlying 132 = some (.slice 153) := by kernel_rfl
theorem gundPF : Tryz.prog.underlying 153 = some (.pointer (Tryz.prog.pointee 153)) := by kernel_rfl
theorem gundPD : Tryz.prog.underlying 23 = some (.pointer (Tryz.prog.pointee 23)) := by kernel_rfl
def nData : ByteArray := ⟨#[100,97,116,97]⟩
abbrev AP := Sl.Recs × Nat
structure Fr where
 n : Nat
 pg : AP
 pins : Nat
 dirty : Bool
 used : Bool
structure St where
 d : Dk
 many : Nat
 fs : List Fr
 hand : Nat
 pages : Nat
 lg : Lg
structure GW where
 jb : Nat
 jc : List Value
 lw : LW
 pb : Nat
 fa : Option Addr
 fc : Nat
 fs : List (Nat × Nat)
def pageA (b : Nat) (P : AP) : Asn := .any [b] fun w => ∃ g,Sl.Rep g P.1 P.2 ∧ Blk w b g.cells 144
theorem page_ok {b : Nat} {P : AP} {w : World} {g : Sl.Pg} (hR : Sl.Rep g P.1 P.2) (h : Blk w b g.cells 144) : (pageA b P).ok w :=
 ⟨fun k hk => by simp at hk; subst hk; exact h.lt,fun w' hw => ⟨g,hR,(hw b (by simp)).trans h⟩⟩
theorem page_get {b : Nat} {P : AP} {w : World} (h : (pageA b P).ok w) : ∃ g,Sl.Rep g P.1 P.2 ∧ Blk w b g.cells 144 := h.2 w fun _ _ => rfl
theorem Hp.shutP {B : List Nat} {w0 w : World} {L : List Asn} {b : Nat} {g : Sl.Pg} {P : AP} (hR : Sl.Rep g P.1 P.2) (H : Hp B w0 w (Sl.pgA b g :: L)) : Hp B w0 w (pageA b P :: L) :=
 H.set (a' := pageA b P) (Chg.refl _ _) (page_ok hR (H.blk (.head _))) (by simp [pageA,Sl.pgA,Asn.foot])
theorem Hp.openP {B : List Nat} {w0 w : World} {L : List Asn} {b : Nat} {P : AP} (H : Hp B w0 w (pageA b P :: L)) : ∃ g,Sl.Rep g P.1 P.2 ∧ Hp B w0 w (Sl.pgA b g :: L) := by
 obtain ⟨g,hR,hb⟩ := page_get (H.ok _ (.head _))
 exact ⟨g,hR,H.set (a' := Sl.pgA b g) (Chg.refl _ _) hb (by simp [pageA,Sl.pgA,Asn.foot])⟩
def aheadV (jb : Nat) : Value := .func (.func 39) #[.pointer (some ⟨jb,0,none⟩)] #[]
def poolC (y : GW) (x : DW) (s : St) : List Value := [.pointer (some ⟨x.b,0,none⟩),.string nData,.int .i64 (s.many : Int),aheadV y.jb,.slice y.fa s.fs.length y.fc,.int .i64 (s.hand : Int),.int .i64 (s.pages : Int)]
def frC (w : Nat × Nat) (f : Fr) : List Value := [.int .i64 (f.n : Int),.pointer (some ⟨w.2,0,none⟩),.int .i64 (f.pins : Int),.bool f.dirty,.bool f.used]
def frL (w : Nat × Nat) (f : Fr) : List Asn := [.blk w.1 (frC w f) 156,pageA w.2 f.pg]
def frsL (ws : List (Nat × Nat)) (fs : List Fr) : List Asn := (List.zipWith frL ws fs).flatten
def ptrsF (ws : List (Nat × Nat)) : List Value := ws.map fun w => .pointer (some ⟨w.1,0,none⟩)
def poolA (y : GW) (x : DW) (s : St) : Asn := .blk y.pb (poolC y x s) 134
def fsA (y : GW) (s : St) : Asn := .own 153 1 y.fa s.fs.length y.fc (ptrsF y.fs)
def deskL (y : GW) (x : DW) (s : St) : List Asn := [.blk y.jb y.jc 91,lgT y.lw s.lg,lgB y.lw s.lg,lgA y.lw x.b s.lg]
def stL (y : GW) (x : DW) (s : St) : List Asn := poolA y x s :: fsA y s :: (deskL y x s ++ (frsL y.fs s.fs ++ dkL x s.d))
def LgB (l : Lg) : Prop := l.b.length ≤ 100000000 ∧ l.firm ≤ 100000000 ∧ l.mark ≤ 100000000
structure StOk (y : GW) (x : DW) (s : St) : Prop where
 fs : y.fs.length = s.fs.length
 env : y.jc[1]? = some (.pointer (some ⟨y.lw.b,0,none⟩))
 dk : x.Ok s.d
 len : s.fs.length ≤ 64
 num : ∀ f ∈ s.fs,f.n < 4096
 pins : ∀ f ∈ s.fs,f.pins ≤ 1000000
 lg : (∀ f ∈ s.fs,f.dirty = false) ∨ LgB s.lg
 hand : s.hand < 64
 pages : s.pages ≤ 4096
 many : s.many ≤ 64
theorem ptrsF_at {ws : List (Nat × Nat)} {k : Nat} {w : Nat × Nat} (h : ws[k]? = some w) : (ptrsF ws)[k]? = some (.pointer (some ⟨w.1,0,none⟩)) := by simp [ptrsF,h]
theorem frL_mem {ws : List (Nat × Nat)} {fs : List Fr} {k : Nat} {w : Nat × Nat} {f : Fr} (h : ws[k]? = some w) (h' : fs[k]? = some f) : ∀ p ∈ frL w f,p ∈ frsL ws fs := fun p hp =>
 (zipL_get frL h h').mem_iff.2 (List.mem_append_left _ hp)
theorem StOk.at {y : GW} {x : DW} {s : St} (h : StOk y x s) {k : Nat} (hk : k < s.fs.length) : ∃ w f,y.fs[k]? = some w ∧ s.fs[k]? = some f := by
 have h2 := h.fs
 exact ⟨_,_,List.getElem?_eq_getElem (by omega),List.getElem?_eq_getElem hk⟩
theorem mem_pool (y : GW) (x : DW) (s : St) : poolA y x s ∈ stL y x s := .head _
theorem mem_fs (y : GW) (x : DW) (s : St) : fsA y s ∈ stL y x s := .tail _ (.head _)
theorem mem_fr {y : GW} {x : DW} {s : St} {k : Nat} {w : Nat × Nat} {f : Fr} (h : y.fs[k]? = some w) (h' : s.fs[k]? = some f) : Asn.blk w.1 (frC w f) 156 ∈ stL y x s :=
 .tail _ (.tail _ (List.mem_append_right _ (List.mem_append_left _ (frL_mem h h' _ (.head _)))))
def findN (fs : List Fr) (n : Int) : Option Nat := fs.findIdx? fun f => decide ((f.n : Int) = n)
def frP (ws : List (Nat × Nat)) : Option Nat → Option Addr
 | some i => (ws[i]?).map fun w => ⟨w.1,0,none⟩
 | none => none
theorem find_step (fs : List Fr) (n : Int) (k : Nat) (h : ∀ (j : Nat) (f : Fr),j < k → fs[j]? = some f → ¬ (f.n : Int) = n) {f : Fr} (hf : fs[k]? = some f) (hn : (f.n : Int) = n) : findN fs n = some k := by
 rw [findN,List.findIdx?_eq_some_iff_getElem]
 have hk := (List.getElem?_eq_some_iff.1 hf).1
 refine ⟨hk,?_,fun j hj => ?_⟩
 ·rw [List.getElem?_eq_getElem hk] at hf
  rw [Option.some.inj hf]; simpa using hn
 ·have := h j _ hj (List.getElem?_eq_getElem (by omega))
  simpa using this
theorem find_none (fs : List Fr) (n : Int) (h : ∀ (j : Nat) (f : Fr),fs[j]? = some f → ¬ (f.n : Int) = n) : findN fs n = none := by
 rw [findN,List.findIdx?_eq_none_iff]
 intro f hf
 obtain ⟨j,hj⟩ := List.getElem?_of_mem hf
 simpa using h j f hj
theorem ffind_spec (y : GW) (x : DW) (s : St) (ok : StOk y x s) (n : Int) (w : World) (st : Std w (stL y x s)) :
  Calls Tryz.prog 87 #[.pointer (some ⟨y.pb,0,none⟩),.int .i64 n] w fun e w' => e = .returned (.pointer (frP y.fs (findN s.fs n))) ∧ w' = w := by
 apply ffind.ok; unfold ffind.vc
 have H := Hp.startL st
 refine onP_mk rfl ⟨_,_,_,H.ld (o := 4) (cs := poolC y x s) (by exact ⟨rfl,rfl,rfl,rfl⟩) gSF (mem_pool y x s) rfl,?_⟩
 have hlen := ok.len
 refine LoopP.mk (fun m i w' => ∃ k : Nat,m = s.fs.length - k ∧ k ≤ s.fs.length ∧ i = (k : Int) ∧ w' = w ∧ ∀ (j : Nat) (f : Fr),j < k → s.fs[j]? = some f → ¬ (f.n : Int) = n) s.fs.length ⟨0,rfl,by omega,rfl,rfl,fun j f hj => by omega⟩ ?_
 rintro m i w1 next ⟨k,rfl,hk,rfl,rfl,hno⟩ hnext
 refine br_dec (fun h => ?_) (fun h => ?_)
 ·have hkl : k < s.fs.length := by omega
  obtain ⟨wf,f,hw,hf⟩ := ok.at hkl
  have hcl := (H.ownA (mem_fs y x s)).cells
  have hp := ptrsF_at hw
  obtain ⟨ad,had,_⟩ := hcl _ _ hp
  have e1 : Int.toNat (k : Int) * 1 = k := by omega
  refine onP_mk had ⟨⟨by omega,by omega⟩,_,by rw [e1]; exact hcl.ld gPF had hp,?_⟩
  refine onP_mk rfl ⟨_,H.ld (o := 0) (cs := frC wf f) (by exact ⟨rfl,rfl,rfl,rfl⟩) gInt (mem_fr hw hf) rfl,br_dec (fun hn => ?_) (fun hn => ?_)⟩
  ·rw [find_step s.fs n k hno hf hn]
   refine ⟨?_,rfl⟩
   simp [frP,hw]
  ·refine ⟨inR64.2 (by omega),hnext (s.fs.length - (k + 1)) _ _ (by omega) ⟨k + 1,rfl,by omega,by simp,rfl,fun j f' hj hf' => ?_⟩⟩
   rcases Nat.lt_or_ge j k with h1 | h1
   ·exact hno j f' h1 hf'
   ·have : j = k := by omega
    subst this
    rw [hf] at hf'
    rw [← Option.some.inj hf']; exact hn
 ·rw [find_none s.fs n fun j f hf => hno j f (by have := (List.getElem?_eq_some_iff.1 hf).1; omega) hf]
  exact ⟨rfl,rfl⟩
theorem fpages_spec (y : GW) (x : DW) (s : St) (w : World) (st : Std w (stL y x s)) :
  Calls Tryz.prog 113 #[.pointer (some ⟨y.pb,0,none⟩)] w fun e w' => e = .returned (.int .i64 (s.pages : Int)) ∧ w' = w := by
 apply fpages.ok; unfold fpages.vc
 exact onP_mk rfl ⟨_,(Hp.startL st).ld (o := 6) (cs := poolC y x s) (by exact ⟨rfl,rfl,rfl,rfl⟩) gInt (mem_pool y x s) rfl,rfl,rfl⟩
def aheadR (s : St) (n : Nat) : Dk × Lg × Int := if n ≤ s.lg.many then (s.d,s.lg,0) else flushP s.d s.lg
def aheadS (s : St) (n : Nat) : St := { s with d := (aheadR s n).1,lg := (aheadR s n).2.1 }
def aheadE (s : St) (n : Nat) : Int := (aheadR s n).2.2
theorem ahead_spec (y : GW) (x : DW) (s : St) (ok : StOk y x s) (hlg : LgB s.lg) {N : Nat} (fit : s.d.Fit N) (hN : N ≤ 400000) (n : Nat) (w : World) (st : Std w (deskL y x s ++ dkL x s.d)) :
  CallX Tryz.prog (aheadV y.jb) [.int .i64 (n : Int)] w fun e w' => e = .returned (.int .i64 (aheadE s n)) ∧ ∃ (x' : DW) (l' : LW),x'.b = x.b ∧ l'.b = y.lw.b ∧ x'.Ok (aheadS s n).d ∧ Hp (feet (deskL y x s ++ dkL x s.d)) w w' (deskL { y with lw := l' } x' (aheadS s n) ++ dkL x' (aheadS s n).d) := by
 suffices hh : Calls Tryz.prog 39 #[.pointer (some ⟨y.jb,0,none⟩),.int .i64 (n : Int)] w _ from callX_fn Tryz.func39 rfl (callV hh fun _ _ h => h)
 apply jahead.ok; unfold jahead.vc
 have H := Hp.startL st
 generalize hB : feet (deskL y x s ++ dkL x s.d) = B at H ⊢
 have mj : ∀ {Y : List Asn},Asn.blk y.jb y.jc 91 ∈ deskL y x s ++ Y := List.mem_append_left _ (.head _)
 refine onP_mk rfl ⟨_,H.ld (o := 1) (cs := y.jc) (by exact ⟨rfl,rfl,rfl,rfl⟩) gPL mj ok.env,?_⟩
 have K1 : Hp B w w (lgA y.lw x.b s.lg :: (.blk y.jb y.jc 91 :: lgT y.lw s.lg :: lgB y.lw s.lg :: dkL x s.d)) := H.perm (by rw [deskL]; (refine perm_cnt fun f g a b c d=>?_;simp only[c,b,a];omega))
 refine callV (lfirm_spec y.lw x.b s.lg w K1.std1) ?_
 rintro e w1 ⟨rfl,H'⟩
 have H1 := H.ext0 H'
 clear H' K1 H
 refine ⟨_,rfl,br_dec (fun h1 => ?_) (fun h1 => ?_)⟩
 ·have hr : aheadR s n = (s.d,s.lg,0) := if_pos (by omega)
  rw [aheadE,aheadS,hr]
  exact ⟨rfl,x,y.lw,rfl,rfl,ok.dk,H1⟩
 ·have hr : aheadR s n = flushP s.d s.lg := if_neg (by omega)
  rw [aheadE,aheadS,hr]
  refine onP_mk rfl ⟨_,H1.ld (o := 1) (cs := y.jc) (by exact ⟨rfl,rfl,rfl,rfl⟩) gPL mj ok.env,?_⟩
  have K2 : Hp B w w1 (lgL y.lw x s.d s.lg ++ [.blk y.jb y.jc 91]) := H1.perm (by rw [deskL,lgL]; (refine perm_cnt fun f g a b c d=>?_;simp only[c,b,a];omega))
  obtain ⟨hb,hf,hm⟩ := hlg
  refine callV (lflush_spec y.lw x s.d s.lg ok.dk fit hN hb hf hm w1 K2.std1) ?_
  rintro e w2 ⟨rfl,x',l',hxb,hlb,hx',H'⟩
  have H2 := K2.useL H'
  exact ⟨_,rfl,rfl,x',l',hxb,hlb,hx',H2.perm (by rw [deskL,lgL]; (refine perm_cnt fun f g a b c d=>?_;simp only[c,b,a];omega))⟩
theorem thn_fit {r : Dk × Int} {f : Dk → Dk × Int} {N M : Nat} (h : r.1.Fit N) (hf : ∀ d : Dk,d.Fit N → (f d).1.Fit M) (hm : N ≤ M) : (thn r f).1.Fit M := by
 rw [thn]
 split
 ·exact hf _ h
 ·exact h.mono hm
theorem dseal_fit {d : Dk} {N : Nat} (h : d.Fit N) (name : ByteArray) (mark firm : Nat) : (dseal d name mark firm).1.Fit (N + 3) := by
 rw [dseal]
 exact thn_fit (thn_fit (N := N + 1) (M := N + 2) (Fit.sync h name) (fun d1 h1 => Fit.write h1 name _ _) (by omega)) (fun d1 h1 => Fit.sync h1 name) (by omega)
theorem dwriteK_fit {d : Dk} {N : Nat} (h : d.Fit N) (name : ByteArray) (b : List UInt8) (k : Nat) : (dwrite d name b k).1.Fit (N + b.length / 512 + 1) := (dput_fit name b _ _ h).mono (by omega)
theorem flushP_fit (d : Dk) (l : Lg) {N : Nat} (fit : d.Fit N) : (flushP d l).1.Fit (N + l.b.length / 512 + 8) := by
 have h1 : (thn (dwrite d l.name l.b l.firm) fun d => dseal d l.name (l.mark + 1) l.b.length).1.Fit (N + l.b.length / 512 + 8) :=
  thn_fit (dwriteK_fit fit l.name l.b l.firm) (fun d1 h1 => (dseal_fit h1 l.name _ _).mono (by omega)) (by omega)
 rw [flushP]
 split
 ·simp only
  split
  ·exact h1
  ·exact h1
 ·exact fit.mono (by omega)
theorem aheadR_fit (s : St) (n : Nat) {N : Nat} (fit : s.d.Fit N) : (aheadR s n).1.Fit (N + s.lg.b.length / 512 + 8) := by
 rw [aheadR]
 split
 ·exact fit.mono (by omega)
 ·exact flushP_fit _ _ fit
end Go.Proofs.YtdeebigmpffnbaaGreat
namespace Go.Proofs.YtdeebigmpffnbaaGreat
open Go Go.Vc Go.Vault Go.Redo
def layD (r : Dk × Int) (i : Nat) (b : List UInt8) : Dk × Int := if r.2 = 0 then r.1.write nData (i : Int) b else r
def gapD : Nat → Nat → Dk × Int → Dk × Int
 | 0,_,r => r
 | m + 1,i,r => gapD m (i + 1) (layD r i [])
def chunk8 (bs : List UInt8) (k : Nat) : List UInt8 := (bs.drop (k * 512)).take 512
def rowD (bs : List UInt8) (base : Nat) : Nat → Nat → Dk × Int → Dk × Int
 | 0,_,r => r
 | m + 1,k,r => rowD bs base m (k + 1) (layD r (base + k) (chunk8 bs k))
def writeD (d : Dk) (e0 : Int) (n : Nat) (bs : List UInt8) : Dk × Int := rowD bs (n * 8) 8 0 (gapD (n * 8 - (d.size nData).toNat) (d.size nData).toNat (d,e0))
theorem layD_fit {r : Dk × Int} {N : Nat} (h : r.1.Fit N) (i : Nat) (b : List UInt8) : (layD r i b).1.Fit (N + 1) := by
 unfold layD
 split
 ·exact Fit.write h _ _ _
 ·exact h.mono (by omega)
def layA (eb pvb pb : Nat) (pc : List Value) (e : Int) (x : DW) (d : Dk) : List Asn := .blk eb [.int .i64 e] 27 :: .blk pvb [.pointer (some ⟨pb,0,none⟩)] 88 :: .blk pb pc 134 :: dkL x d
set_option maxHeartbeats 1000000 in
theorem fwriteC_spec (eb pvb pb : Nat) (pc : List Value) (e : Int) (x : DW) (d : Dk) (hok : x.Ok d) {N : Nat} (fit : d.Fit N) (hN : N ≤ 900000) (hp0 : pc[0]? = some (.pointer (some ⟨x.b,0,none⟩))) (hp1 : pc[1]? = some (.string nData))
  (n : Nat) (ba : Option Addr) (bc : Nat) (b : List UInt8) (w : World) (st : Std w (layA eb pvb pb pc e x d)) (hc : ∀ W,Chg (feet (layA eb pvb pb pc e x d)) w W → Cells W ba (bcells b)) (h0 : ba = none → b.length = 0) :
  Calls Tryz.prog 127 #[.int .i64 (n : Int),.slice ba b.length bc,.pointer (some ⟨eb,0,none⟩),.pointer (some ⟨pvb,0,none⟩)] w fun r w' => r = .returned (.tuple #[]) ∧ ∃ x',x'.b = x.b ∧ x'.Ok (layD (d,e) n b).1 ∧ Hp (feet (layA eb pvb pb pc e x d)) w w' (layA eb pvb pb pc (layD (d,e) n b).2 x' (layD (d,e) n b).1) := by
 apply fwriteC.ok; unfold fwriteC.vc
 have H := Hp.startL st
 have hsub : ∀ k ∈ feet (dkL x d),k ∈ feet (layA eb pvb pb pc e x d) := fun k hk => by
  obtain ⟨a,ha,h2⟩ := mem_feet.1 hk
  exact mem_feet.2 ⟨a,.tail _ (.tail _ (.tail _ ha)),h2⟩
 generalize hB : feet (layA eb pvb pb pc e x d) = B at H hc hsub ⊢
 refine ⟨_,onP_mk rfl (H.ld (o := 0) (cs := [.int .i64 e]) (by exact ⟨rfl,rfl,rfl,rfl⟩) gEr (.head _) rfl),br_dec (fun he => ?_) (fun he => ?_)⟩
 ·have e0 : layD (d,e) n b = d.write nData (n : Int) b := if_pos he
  rw [e0]
  refine ⟨_,onP_mk rfl (H.ld (o := 0) (cs := [.pointer (some ⟨pb,0,none⟩)]) (by exact ⟨rfl,rfl,rfl,rfl⟩) gPP (.tail _ (.head _)) rfl),?_⟩
  refine onP_mk rfl ⟨_,H.ld (o := 0) (cs := pc) (by exact ⟨rfl,rfl,rfl,rfl⟩) gPD (.tail _ (.tail _ (.head _))) hp0,?_⟩
  refine ⟨_,onP_mk rfl (H.ld (o := 0) (cs := [.pointer (some ⟨pb,0,none⟩)]) (by exact ⟨rfl,rfl,rfl,rfl⟩) gPP (.tail _ (.head _)) rfl),?_⟩
  refine onP_mk rfl ⟨_,H.ld (o := 1) (cs := pc) (by exact ⟨rfl,rfl,rfl,rfl⟩) gStr (.tail _ (.tail _ (.head _))) hp1,?_⟩
  have H1 : Hp B w w.drew (dkL x d ++ [.blk eb [.int .i64 e] 27,.blk pvb [.pointer (some ⟨pb,0,none⟩)] 88,.blk pb pc 134]) := H.drew.perm (List.perm_append_comm (l₁ := [_,_,_]))
  clear H
  refine callV (write_spec x d hok fit.few (by omega) (fit.used (by omega)) nData (n : Int) ba bc b w.drew H1.std1 (fun W hW => hc W ((Chg.drew (Chg.refl _ w)).trans hW (fun k hk => hk) (fun k hk => .inl (hsub k hk)))) h0) ?_
  rintro r w2 ⟨rfl,x2,hx2b,hx2,H'⟩
  have H2 := H1.useL H'
  clear H1 H'
  refine ⟨_,rfl,onP_mk rfl ?_⟩
  have H3 : Hp B w w2 (.blk eb [.int .i64 e] 27 :: .blk pvb [.pointer (some ⟨pb,0,none⟩)] 88 :: .blk pb pc 134 :: dkL x2 (d.write nData (n : Int) b).1) := H2.perm (by (refine perm_cnt fun f g a b c d=>?_;simp only[c,b,a];omega))
  refine Hp.st H3 (by exact ⟨rfl,rfl,rfl,rfl⟩) gEr rfl rfl (by simp) rfl ?_
  intro w3 H4
  exact ⟨rfl,x2,hx2b,hx2,H4⟩
 ·have e0 : layD (d,e) n b = (d,e) := if_neg he
  rw [e0]
  exact ⟨rfl,x,rfl,hok,H⟩
def wrL (y : GW) (x : DW) (s : St) (wf : Nat × Nat) (f : Fr) : List Asn := .blk wf.1 (frC wf f) 156 :: pageA wf.2 f.pg :: poolA y x s :: (deskL y x s ++ dkL x s.d)
def St.wrote (s : St) (f : Fr) (bs : List UInt8) : St := { aheadS s f.pg.2 with d := (writeD (aheadR s f.pg.2).1 (aheadE s f.pg.2) f.n bs).1 }
def wroteE (s : St) (f : Fr) (bs : List UInt8) : Int := (writeD (aheadR s f.pg.2).1 (aheadE s f.pg.2) f.n bs).2
def Fr.wrote (f : Fr) (e : Int) : Fr := { f with dirty := if e = 0 then false else f.dirty }
theorem chunk8_len {bs : List UInt8} (h : bs.length = 4096) {k : Nat} (hk : k < 8) : (chunk8 bs k).length = 512 := by rw [chunk8,List.length_take,List.length_drop]; omega
theorem chunk8_cells {w : World} {b : Nat} {bs : List UInt8} (h : Cells w (some ⟨b,0,none⟩) (bcells bs)) (hl : bs.length = 4096) {k : Nat} (hk : k < 8) : Cells w (slA (some ⟨b,0,none⟩) 4096 (k * 512) 1) (bcells (chunk8 bs k)) := by
 have h1 := (h.slA (c := 4096) (i := k * 512) (by rw [bcells_length]; omega)).take 512
 have e : ((bcells bs).drop (k * 512)).take 512 = bcells (chunk8 bs k) := by simp [bcells,chunk8,List.map_drop,List.map_take]
 rw [← e]; exact h1
set_option maxHeartbeats 4000000 in
theorem fwrite_spec (y : GW) (x : DW) (s : St) (ok : StOk y x s) (hlg : LgB s.lg) {N : Nat} (fit : s.d.Fit N) (hN : N ≤ 400000) (wf : Nat × Nat) (f : Fr) (hsz : 0 ≤ (aheadR s f.pg.2).1.size nData) (hn : f.n < 4096) (w : World) (st : Std w (wrL y x s wf f)) :
  Calls Tryz.prog 93 #[.pointer (some ⟨y.pb,0,none⟩),.pointer (some ⟨wf.1,0,none⟩)] w fun r w' => ∃ g,Sl.Rep g f.pg.1 f.pg.2 ∧ r = .returned (.int .i64 (wroteE s f g.bs)) ∧
   ∃ (x' : DW) (l' : LW),x'.b = x.b ∧ l'.b = y.lw.b ∧ x'.Ok (s.wrote f g.bs).d ∧ Hp (feet (wrL y x s wf f)) w w' (wrL { y with lw := l' } x' (s.wrote f g.bs) wf (f.wrote (wroteE s f g.bs))) := by
 apply fwrite.ok; unfold fwrite.vc
 have H := Hp.startL st
 generalize hB : feet (wrL y x s wf f) = B at H ⊢
 unfold wrL at H
 obtain ⟨g,hR,H1⟩ := Hp.openP H.pull1
 clear H
 have hst := hR.stamp
 intro b w1 hn1
 have H := H1.new (cs := [.pointer (some ⟨y.pb,0,none⟩)]) (by exact ⟨rfl,rfl,rfl,rfl⟩) hn1
 clear hn1 H1
 obtain ⟨RA,hRA⟩ : ∃ RA : List Asn,RA = [.blk wf.1 (frC wf f) 156,Sl.pgA wf.2 g] := ⟨_,rfl⟩
 have H0 : Hp B w w1 (.blk b [.pointer (some ⟨y.pb,0,none⟩)] 88 :: poolA y x s :: (deskL y x s ++ (RA ++ dkL x s.d))) := by
  rw [hRA]; exact H.perm (by (refine perm_cnt fun f g a b c d=>?_;simp only[c,b,a];omega))
 clear H
 have mfr : ∀ {X Y : List Asn},Asn.blk wf.1 (frC wf f) 156 ∈ X ++ (RA ++ Y) := List.mem_append_right _ (List.mem_append_left _ (by rw [hRA]; exact .head _))
 have mpg : ∀ {X Y : List Asn},Sl.pgA wf.2 g ∈ X ++ (RA ++ Y) := List.mem_append_right _ (List.mem_append_left _ (by rw [hRA]; exact .tail _ (.head _)))
 refine JoinP.mk (fun (q : Option Addr) (w' : World) => ∃ (eb : Nat) (x1 : DW) (l1 : LW),q = some ⟨eb,0,none⟩ ∧ x1.b = x.b ∧ l1.b = y.lw.b ∧ x1.Ok (aheadS s f.pg.2).d ∧ Hp B w w' (.blk eb [.int .i64 (aheadE s f.pg.2)] 27 :: .blk b [.pointer (some ⟨y.pb,0,none⟩)] 88 :: poolA y x s :: (deskL { y with lw := l1 } x1 (aheadS s f.pg.2) ++ (RA ++ dkL x1 (aheadS s f.pg.2).d)))) ?hR ?hX
 case hX =>
  intro J hJ
  have asks : ∀ (w2 : World) (L2 : List Asn) (R : Ending → World → Prop),Hp B w w2 ((deskL y x s ++ dkL x s.d) ++ L2) → (∀ w3 (x1 : DW) (l1 : LW),x1.b = x.b → l1.b = y.lw.b → x1.Ok (aheadS s f.pg.2).d → Hp B w w3 ((deskL { y with lw := l1 } x1 (aheadS s f.pg.2) ++ dkL x1 (aheadS s f.pg.2).d) ++ L2) → R (.returned (.int .i64 (aheadE s f.pg.2))) w3) → CallX Tryz.prog (aheadV y.jb) [.int .i64 (f.pg.2 : Int)] w2 R := by
   intro w2 L2 R K hk
   refine callX (ahead_spec y x s ok hlg fit hN f.pg.2 w2 K.std1) ?_
   rintro e w3 ⟨rfl,x1,l1,h1,h2,h3,H'⟩
   exact hk w3 x1 l1 h1 h2 h3 (K.useL H')
  refine ⟨?_,?_,?_⟩
  ·refine ⟨_,H0.ld (o := 0) (cs := [.pointer (some ⟨y.pb,0,none⟩)]) (by exact ⟨rfl,rfl,rfl,rfl⟩) gPP (.head _) rfl,onP_mk rfl ⟨_,H0.ld (o := 3) (cs := poolC y x s) (by exact ⟨rfl,rfl,rfl,rfl⟩) gFn (.tail _ (.head _)) rfl,onP_mk rfl ⟨_,H0.ld (o := 1) (cs := frC wf f) (by exact ⟨rfl,rfl,rfl,rfl⟩) gPG (.tail _ (.tail _ mfr)) rfl,?_⟩⟩⟩
   refine callV (Sl.stamp_any hR (H0.drew.blk (.tail _ (.tail _ mpg)))) ?_
   rintro e w2 ⟨rfl,H'⟩
   have H2 := H0.drew.ext0 H'
   clear H'
   refine ⟨_,rfl,H2.ld (o := 3) (cs := poolC y x s) (by exact ⟨rfl,rfl,rfl,rfl⟩) gFn (.tail _ (.head _)) rfl,H2.ld (o := 0) (cs := [.pointer (some ⟨y.pb,0,none⟩)]) (by exact ⟨rfl,rfl,rfl,rfl⟩) gPP (.head _) rfl,?_⟩
   refine asks w2 (.blk b [.pointer (some ⟨y.pb,0,none⟩)] 88 :: poolA y x s :: RA) _ (H2.perm (by (refine perm_cnt fun f g a b c d=>?_;simp only[c,b,a];omega))) ?_
   intro w3 x1 l1 hx1b hl1b hx1 H3
   refine ⟨_,rfl,?_⟩
   intro eb w4 hn1
   have H4 := H3.new (cs := [.int .i64 0]) (by exact ⟨rfl,rfl,rfl,rfl⟩) hn1
   refine Hp.st H4 (by exact ⟨rfl,rfl,rfl,rfl⟩) gEr rfl rfl (by simp) (cs' := [.int .i64 (aheadE s f.pg.2)]) rfl ?_
   intro w5 H5
   exact hJ _ _ ⟨eb,x1,l1,rfl,hx1b,hl1b,hx1,H5.perm (by (refine perm_cnt fun f g a b c d=>?_;simp only[c,b,a];omega))⟩
  ·refine ⟨_,H0.ld (o := 0) (cs := [.pointer (some ⟨y.pb,0,none⟩)]) (by exact ⟨rfl,rfl,rfl,rfl⟩) gPP (.head _) rfl,onP_mk rfl ⟨_,H0.ld (o := 3) (cs := poolC y x s) (by exact ⟨rfl,rfl,rfl,rfl⟩) gFn (.tail _ (.head _)) rfl,onP_mk rfl ⟨_,H0.ld (o := 1) (cs := frC wf f) (by exact ⟨rfl,rfl,rfl,rfl⟩) gPG (.tail _ (.tail _ mfr)) rfl,?_⟩⟩⟩
   refine callV (Sl.stamp_any hR (H0.drew.blk (.tail _ (.tail _ mpg)))) ?_
   rintro e w2 ⟨rfl,H'⟩
   have H2 := H0.drew.ext0 H'
   clear H'
   refine ⟨_,rfl,H2.ld (o := 3) (cs := poolC y x s) (by exact ⟨rfl,rfl,rfl,rfl⟩) gFn (.tail _ (.head _)) rfl,H2.ld (o := 0) (cs := [.pointer (some ⟨y.pb,0,none⟩)]) (by exact ⟨rfl,rfl,rfl,rfl⟩) gPP (.head _) rfl,?_⟩
   intro eb w4 hn1
   have H4 := H2.new (cs := [.int .i64 0]) (by exact ⟨rfl,rfl,rfl,rfl⟩) hn1
   refine ⟨H4.ld (o := 3) (cs := poolC y x s) (by exact ⟨rfl,rfl,rfl,rfl⟩) gFn (.tail _ (.tail _ (.head _))) rfl,H4.ld (o := 0) (cs := [.pointer (some ⟨y.pb,0,none⟩)]) (by exact ⟨rfl,rfl,rfl,rfl⟩) gPP (.tail _ (.head _)) rfl,?_⟩
   refine asks w4 (.blk eb [.int .i64 0] 27 :: .blk b [.pointer (some ⟨y.pb,0,none⟩)] 88 :: poolA y x s :: RA) _ (H4.perm (by (refine perm_cnt fun f g a b c d=>?_;simp only[c,b,a];omega))) ?_
   intro w3 x1 l1 hx1b hl1b hx1 H3
   refine ⟨_,rfl,?_⟩
   have H5 : Hp B w w3 (.blk eb [.int .i64 0] 27 :: .blk b [.pointer (some ⟨y.pb,0,none⟩)] 88 :: poolA y x s :: (deskL { y with lw := l1 } x1 (aheadS s f.pg.2) ++ (RA ++ dkL x1 (aheadS s f.pg.2).d))) := H3.perm (by (refine perm_cnt fun f g a b c d=>?_;simp only[c,b,a];omega))
   refine Hp.st H5 (by exact ⟨rfl,rfl,rfl,rfl⟩) gEr rfl rfl (by simp) (cs' := [.int .i64 (aheadE s f.pg.2)]) rfl ?_
   intro w5 H6
   exact hJ _ _ ⟨eb,x1,l1,rfl,hx1b,hl1b,hx1,H6⟩
  ·refine ⟨_,H0.ld (o := 0) (cs := [.pointer (some ⟨y.pb,0,none⟩)]) (by exact ⟨rfl,rfl,rfl,rfl⟩) gPP (.head _) rfl,onP_mk rfl ⟨_,H0.ld (o := 3) (cs := poolC y x s) (by exact ⟨rfl,rfl,rfl,rfl⟩) gFn (.tail _ (.head _)) rfl,onP_mk rfl ⟨_,H0.ld (o := 1) (cs := frC wf f) (by exact ⟨rfl,rfl,rfl,rfl⟩) gPG (.tail _ (.tail _ mfr)) rfl,?_⟩⟩⟩
   intro eb w4 hn1
   have H4 := H0.drew.new (cs := [.int .i64 0]) (by exact ⟨rfl,rfl,rfl,rfl⟩) hn1
   refine ⟨H4.ld (o := 1) (cs := frC wf f) (by exact ⟨rfl,rfl,rfl,rfl⟩) gPG (.tail _ (.tail _ (.tail _ mfr))) rfl,H4.ld (o := 3) (cs := poolC y x s) (by exact ⟨rfl,rfl,rfl,rfl⟩) gFn (.tail _ (.tail _ (.head _))) rfl,H4.ld (o := 0) (cs := [.pointer (some ⟨y.pb,0,none⟩)]) (by exact ⟨rfl,rfl,rfl,rfl⟩) gPP (.tail _ (.head _)) rfl,?_⟩
   refine callV (Sl.stamp_any hR (H4.blk (.tail _ (.tail _ (.tail _ mpg))))) ?_
   rintro e w2 ⟨rfl,H'⟩
   have H2 := H4.ext0 H'
   clear H'
   refine ⟨_,rfl,H2.ld (o := 3) (cs := poolC y x s) (by exact ⟨rfl,rfl,rfl,rfl⟩) gFn (.tail _ (.tail _ (.head _))) rfl,H2.ld (o := 0) (cs := [.pointer (some ⟨y.pb,0,none⟩)]) (by exact ⟨rfl,rfl,rfl,rfl⟩) gPP (.tail _ (.head _)) rfl,?_⟩
   refine asks w2 (.blk eb [.int .i64 0] 27 :: .blk b [.pointer (some ⟨y.pb,0,none⟩)] 88 :: poolA y x s :: RA) _ (H2.perm (by (refine perm_cnt fun f g a b c d=>?_;simp only[c,b,a];omega))) ?_
   intro w3 x1 l1 hx1b hl1b hx1 H3
   refine ⟨_,rfl,?_⟩
   have H5 : Hp B w w3 (.blk eb [.int .i64 0] 27 :: .blk b [.pointer (some ⟨y.pb,0,none⟩)] 88 :: poolA y x s :: (deskL { y with lw := l1 } x1 (aheadS s f.pg.2) ++ (RA ++ dkL x1 (aheadS s f.pg.2).d))) := H3.perm (by (refine perm_cnt fun f g a b c d=>?_;simp only[c,b,a];omega))
   refine Hp.st H5 (by exact ⟨rfl,rfl,rfl,rfl⟩) gEr rfl rfl (by simp) (cs' := [.int .i64 (aheadE s f.pg.2)]) rfl ?_
   intro w5 H6
   exact hJ _ _ ⟨eb,x1,l1,rfl,hx1b,hl1b,hx1,H6⟩
 clear H0 w1
 rintro q w1 ⟨eb,x1,l1,rfl,hx1b,hl1b,hx1,H⟩
 have fit1 := aheadR_fit s f.pg.2 fit
 have hlb := hlg.1
 have hfl : s.lg.b.length / 512 ≤ 195313 := by omega
 obtain ⟨d1,hd1⟩ : ∃ d1,d1 = (aheadR s f.pg.2).1 := ⟨_,rfl⟩
 obtain ⟨e1,he1⟩ : ∃ e1,e1 = aheadE s f.pg.2 := ⟨_,rfl⟩
 have hd1' : (aheadS s f.pg.2).d = d1 := hd1.symm
 rw [← hd1] at fit1 hsz
 rw [hd1'] at hx1
 rw [hd1',← he1] at H
 obtain ⟨RD,hRD⟩ : ∃ RD : List Asn,RD = deskL { y with lw := l1 } x1 (aheadS s f.pg.2) ++ RA := ⟨_,rfl⟩
 have H1 : Hp B w w1 (layA eb b y.pb (poolC y x s) e1 x1 d1 ++ RD) := by
  rw [hRD,layA]; exact H.perm (by rw [poolA]; (refine perm_cnt fun f g a b c d=>?_;simp only[c,b,a];omega))
 clear H
 have mf : ∀ {X : List Asn},Asn.blk wf.1 (frC wf f) 156 ∈ X ++ RD := List.mem_append_right _ (by rw [hRD,hRA]; exact List.mem_append_right _ (.head _))
 have mg : ∀ {X : List Asn},Sl.pgA wf.2 g ∈ X ++ RD := List.mem_append_right _ (by rw [hRD,hRA]; exact List.mem_append_right _ (.tail _ (.head _)))
 refine ⟨_,H1.ld (o := 0) (cs := [.pointer (some ⟨y.pb,0,none⟩)]) (by exact ⟨rfl,rfl,rfl,rfl⟩) gPP (.tail _ (.head _)) rfl,onP_mk rfl ⟨_,H1.ld (o := 0) (cs := poolC y x s) (by exact ⟨rfl,rfl,rfl,rfl⟩) gPD (.tail _ (.tail _ (.head _))) rfl,?_⟩⟩
 refine ⟨_,H1.ld (o := 0) (cs := [.pointer (some ⟨y.pb,0,none⟩)]) (by exact ⟨rfl,rfl,rfl,rfl⟩) gPP (.tail _ (.head _)) rfl,onP_mk rfl ⟨_,H1.ld (o := 1) (cs := poolC y x s) (by exact ⟨rfl,rfl,rfl,rfl⟩) gStr (.tail _ (.tail _ (.head _))) rfl,?_⟩⟩
 have HD : Hp B w w1.drew (dkL x1 d1 ++ (.blk eb [.int .i64 e1] 27 :: .blk b [.pointer (some ⟨y.pb,0,none⟩)] 88 :: .blk y.pb (poolC y x s) 134 :: RD)) := H1.drew.perm (by rw [layA]; (refine perm_cnt fun f g a b c d=>?_;simp only[c,b,a];omega))
 have hsp := size_spec x1 d1 hx1 nData w1.drew HD.std1
 rw [hx1b] at hsp
 refine callV hsp ?_
 rintro e w2 ⟨rfl,H'⟩
 have H2 := H1.drew.ext0 H'
 clear H' H1 HD hsp
 obtain ⟨sz,hszn⟩ : ∃ sz : Nat,d1.size nData = (sz : Int) := ⟨(d1.size nData).toNat,by omega⟩
 have hwr : writeD d1 e1 f.n g.bs = rowD g.bs (f.n * 8) 8 0 (gapD (f.n * 8 - sz) sz (d1,e1)) := by rw [writeD,hszn,Int.toNat_natCast]
 have hbl : g.bs.length = 4096 := hR.ok.len
 rw [hszn]
 refine ⟨_,rfl,?_⟩
 refine LoopP.mk (fun m (i : Int) w' => ∃ (k : Nat) (r : Dk × Int) (x2 : DW) (M : Nat),m = f.n * 8 - k ∧ i = (k : Int) ∧ gapD (f.n * 8 - k) k r = gapD (f.n * 8 - sz) sz (d1,e1) ∧ x2.b = x.b ∧ x2.Ok r.1 ∧ r.1.Fit M ∧ M + (f.n * 8 - k) ≤ N + 195321 + 32768 ∧ Hp B w w' (layA eb b y.pb (poolC y x s) r.2 x2 r.1 ++ RD)) (f.n * 8 - sz) ⟨sz,(d1,e1),x1,N + s.lg.b.length / 512 + 8,rfl,rfl,rfl,hx1b,hx1,fit1,by omega,H2⟩ ?_
 clear H2 w1 w2
 rintro m i w1 next ⟨k,r,x2,M,rfl,rfl,hgap,hx2b,hx2,fit2,hM,H⟩ hnext
 have hpc0 : (poolC y x s)[0]? = some (.pointer (some ⟨x2.b,0,none⟩)) := by rw [hx2b]; rfl
 refine onP_mk rfl ⟨_,H.ld (o := 0) (cs := frC wf f) (by exact ⟨rfl,rfl,rfl,rfl⟩) gInt mf rfl,inR64.2 (by omega),br_dec (fun h1 => ?_) (fun h1 => ?_)⟩
 ·have hk : k < f.n * 8 := by omega
  have hstep : gapD (f.n * 8 - k) k r = gapD (f.n * 8 - (k + 1)) (k + 1) (layD r k []) := by
   rw [show f.n * 8 - k = (f.n * 8 - (k + 1)) + 1 by omega]; rfl
  have hw := fwriteC_spec eb b y.pb (poolC y x s) r.2 x2 r.1 hx2 fit2 (by omega) hpc0 rfl k none 0 [] w1 H.std1 (fun W hW => by intro j v hj; simp [bcells] at hj) (fun _ => rfl)
  refine callV hw ?_
  rintro e w2 ⟨rfl,x3,hx3b,hx3,H'⟩
  have H3 := H.useL H'
  refine ⟨rfl,inR64.2 (by omega),hnext (f.n * 8 - (k + 1)) _ _ (by omega) ⟨k + 1,layD r k [],x3,M + 1,rfl,by omega,by rw [← hstep,hgap],hx3b.trans hx2b,hx3,layD_fit fit2 k [],by omega,H3⟩⟩
 ·have hgd : r = gapD (f.n * 8 - sz) sz (d1,e1) := by
   rw [← hgap,show f.n * 8 - k = 0 by omega]; rfl
  rw [← hgd] at hwr
  clear hnext hgap hgd
  refine onP_mk rfl ⟨_,H.ld (o := 1) (cs := frC wf f) (by exact ⟨rfl,rfl,rfl,rfl⟩) gPG mf rfl,?_⟩
  refine callV (Sl.bytes_any wf.2 g w1 ⟨hR.ok,H.blk mg⟩) ?_
  rintro e w2 ⟨bb,rfl,H'⟩
  have H2 : Hp B w w2 (layA eb b y.pb (poolC y x s) r.2 x2 r.1 ++ (.blk bb (bcells g.bs) 142 :: RD)) := (H.ext1 H').perm (by (refine perm_cnt fun f g a b c d=>?_;simp only[c,b,a];omega))
  clear H H'
  refine ⟨_,_,_,rfl,?_⟩
  refine LoopP.mk (fun m (i : Int) w' => ∃ (j : Nat) (r2 : Dk × Int) (x3 : DW) (M2 : Nat),m = 8 - j ∧ j ≤ 8 ∧ i = (j : Int) ∧ rowD g.bs (f.n * 8) (8 - j) j r2 = rowD g.bs (f.n * 8) 8 0 r ∧ x3.b = x.b ∧ x3.Ok r2.1 ∧ r2.1.Fit M2 ∧ M2 ≤ N + 195321 + 32768 + j ∧ Hp B w w' (layA eb b y.pb (poolC y x s) r2.2 x3 r2.1 ++ (.blk bb (bcells g.bs) 142 :: RD))) 8 ⟨0,r,x2,M,rfl,by omega,rfl,rfl,hx2b,hx2,fit2,by omega,H2⟩ ?_
  clear H2 w1 w2
  rintro m i w1 next ⟨j,r2,x3,M2,rfl,hj,rfl,hrow,hx3b,hx3,fit3,hM2,H⟩ hnext
  have mf2 : ∀ {X : List Asn} {p : Asn},Asn.blk wf.1 (frC wf f) 156 ∈ X ++ (p :: RD) := List.mem_append_right _ (.tail _ (by rw [hRD,hRA]; exact List.mem_append_right _ (.head _)))
  refine br_dec (fun h2 => ?_) (fun h2 => ?_)
  ·have hj8 : j < 8 := by omega
   have hpc3 : (poolC y x s)[0]? = some (.pointer (some ⟨x3.b,0,none⟩)) := by rw [hx3b]; rfl
   have hstep : rowD g.bs (f.n * 8) (8 - j) j r2 = rowD g.bs (f.n * 8) (8 - (j + 1)) (j + 1) (layD r2 (f.n * 8 + j) (chunk8 g.bs j)) := by
    rw [show 8 - j = (8 - (j + 1)) + 1 by omega]; rfl
   have hcl := chunk8_len hbl hj8
   refine onP_mk rfl ⟨_,H.ld (o := 0) (cs := frC wf f) (by exact ⟨rfl,rfl,rfl,rfl⟩) gInt mf2 rfl,inR64.2 (by omega),inR64.2 (by omega),inR64.2 (by omega),inR64.2 (by omega),inR64.2 (by omega),⟨by omega,by omega,by omega⟩,?_⟩
   have e1 : Int.toNat ((j : Int) * 512) = j * 512 := by omega
   have e2 : Int.toNat (((j : Int) + 1) * 512) - j * 512 = (chunk8 g.bs j).length := by omega
   have e3 : (f.n : Int) * 8 + (j : Int) = ((f.n * 8 + j : Nat) : Int) := by omega
   rw [e1,e2,e3]
   have hw := fwriteC_spec eb b y.pb (poolC y x s) r2.2 x3 r2.1 hx3 fit3 (by omega) hpc3 rfl (f.n * 8 + j) (slA (some ⟨bb,0,none⟩) 4096 (j * 512) 1) (4096 - j * 512) (chunk8 g.bs j) w1.drew H.drew.std1 (fun W hW => by
    have K := H.drew.useL (M := []) ⟨hW,by simp,by simp,.nil⟩
    exact chunk8_cells (K.blk (.head _)).cells hbl hj8) (fun h => by rw [slA] at h; split at h <;> cases h)
   refine callV hw ?_
   rintro e w2 ⟨rfl,x4,hx4b,hx4,H'⟩
   have H3 := H.drew.useL H'
   exact ⟨rfl,inR64.2 (by omega),hnext (8 - (j + 1)) _ _ (by omega) ⟨j + 1,layD r2 (f.n * 8 + j) (chunk8 g.bs j),x4,M2 + 1,rfl,by omega,by omega,by rw [← hstep,hrow],hx4b.trans hx3b,hx4,layD_fit fit3 _ _,by omega,H3⟩⟩
  ·have hj8 : j = 8 := by omega
   subst hj8
   have hr2 : r2 = writeD d1 e1 f.n g.bs := by rw [hwr,← hrow]; rfl
   have hE : wroteE s f g.bs = r2.2 := by rw [wroteE,← hd1,← he1,← hr2]
   have hS : (s.wrote f g.bs).d = r2.1 := by rw [St.wrote,← hd1,← he1,← hr2]
   clear hnext
   have hpc : poolC { y with lw := l1 } x3 (s.wrote f g.bs) = poolC y x s := by simp [poolC,St.wrote,aheadS,hx3b]
   have hdl : deskL { y with lw := l1 } x3 (s.wrote f g.bs) = deskL { y with lw := l1 } x1 (aheadS s f.pg.2) := by rw [deskL,deskL,hx3b,hx1b]; rfl
   refine ⟨_,onP_mk rfl (H.ld (o := 0) (cs := [.int .i64 r2.2]) (by exact ⟨rfl,rfl,rfl,rfl⟩) gEr (.head _) rfl),br_dec (fun h3 => ?_) (fun h3 => ?_)⟩
   ·have H4 : Hp B w w1 (.blk wf.1 (frC wf f) 156 :: .blk eb [.int .i64 r2.2] 27 :: (.blk b [.pointer (some ⟨y.pb,0,none⟩)] 88 :: .blk bb (bcells g.bs) 142 :: (Sl.pgA wf.2 g :: .blk y.pb (poolC y x s) 134 :: (deskL { y with lw := l1 } x1 (aheadS s f.pg.2) ++ dkL x3 r2.1)))) := by
     rw [hRD,hRA,layA] at H
     exact H.perm (by (refine perm_cnt fun f g a b c d=>?_;simp only[c,b,a];omega))
    refine onP_mk rfl (Hp.st (o := 3) H4 (by exact ⟨rfl,rfl,rfl,rfl⟩) gBool rfl rfl (by simp [frC]) (cs' := frC wf (f.wrote 0)) rfl ?_)
    clear H H4; intro w2 H
    refine ⟨_,onP_mk rfl (H.ld (o := 0) (cs := [.int .i64 r2.2]) (by exact ⟨rfl,rfl,rfl,rfl⟩) gEr (.tail _ (.head _)) rfl),g,hR,by rw [hE],x3,l1,hx3b,hl1b,by rw [hS]; exact hx3,?_⟩
    have H5 : Hp B w w2 (Sl.pgA wf.2 g :: (.blk wf.1 (frC wf (f.wrote 0)) 156 :: .blk y.pb (poolC y x s) 134 :: (deskL { y with lw := l1 } x1 (aheadS s f.pg.2) ++ dkL x3 r2.1))) := (H.drop1.drop1.drop1).perm (by (refine perm_cnt fun f g a b c d=>?_;simp only[c,b,a];omega))
    have H6 := Hp.shutP (P := f.pg) hR H5
    rw [wrL,poolA,hpc,hdl,hS,hE,h3]
    exact H6.pull1
   ·refine ⟨_,onP_mk rfl (H.ld (o := 0) (cs := [.int .i64 r2.2]) (by exact ⟨rfl,rfl,rfl,rfl⟩) gEr (.head _) rfl),g,hR,by rw [hE],x3,l1,hx3b,hl1b,by rw [hS]; exact hx3,?_⟩
    have hfw : f.wrote r2.2 = f := by rw [Fr.wrote,if_neg h3]
    have H5 : Hp B w w1 (.blk eb [.int .i64 r2.2] 27 :: .blk b [.pointer (some ⟨y.pb,0,none⟩)] 88 :: .blk bb (bcells g.bs) 142 :: (Sl.pgA wf.2 g :: (.blk wf.1 (frC wf f) 156 :: .blk y.pb (poolC y x s) 134 :: (deskL { y with lw := l1 } x1 (aheadS s f.pg.2) ++ dkL x3 r2.1)))) := by
     rw [hRD,hRA,layA] at H
     exact H.perm (by (refine perm_cnt fun f g a b c d=>?_;simp only[c,b,a];omega))
    have H6 := Hp.shutP (P := f.pg) hR H5.drop.drop.drop
    rw [wrL,poolA,hpc,hdl,hS,hE,hfw]
    exact H6.pull1
end Go.Proofs.YtdeebigmpffnbaaGreat
namespace Go.Proofs.YtdeebigmpffnbaaGreat
open Go Go.Vc Go.Vault Go.Redo
theorem geltU : Elt Tryz.prog 29 5 1 1 := elt_of (by kernel_rfl)
theorem gundU : Tryz.prog.underlying 29 = some (.slice 5) := by kernel_rfl
theorem gundInt : Tryz.prog.underlying 3 = some (.int .i64) := by kernel_rfl
theorem gzU : zeroOf Tryz.prog 5 = some (.int .u8 0) := by kernel_rfl
def zrow : List Value := bcells (List.replicate 512 0)
theorem zrow_len : zrow.length = 512 := by rw [zrow,bcells_length,List.length_replicate]
theorem zcellsN (n : Nat) : (Builtin.zeroCells (Value.int .u8 0).cells n).toList = bcells (List.replicate n 0) := by
 have e : (Value.int .u8 0).cells = #[.int .u8 0] := rfl
 apply List.ext_getElem?
 intro i
 rw [Array.getElem?_toList,e,Builtin.zeroCells]
 by_cases h : i < n
 ·simp [h,bcells,Nat.mod_one]
 ·simp [h,bcells]
theorem zcells : (Builtin.zeroCells (Value.int .u8 0).cells 512).toList = zrow := zcellsN 512
theorem zcellsA : Builtin.zeroCells (Value.int .u8 0).cells 512 = zrow.toArray := by rw [← zcells]
theorem room_zero {w : World} (b sLen sCap : Nat) (hroom : sLen + 512 ≤ sCap) (hc : ∀ j,j < 512 → (w.cell? ⟨b,sLen + j,none⟩).isSome = true) (hf : ∀ j,j < 512 → w.frozen? ⟨b,sLen + j,none⟩ = false) :
  (Builtin.append_ #[29,3] 29 #[.slice (some ⟨b,0,none⟩) sLen sCap,.int .i64 512]).run Tryz.prog w = .ok (.slice (some ⟨b,0,none⟩) (sLen + 512) sCap) (w.setCells b sLen zrow) := by
 obtain ⟨hu,i,z,hi,hz,hs,hb,hzs⟩ := geltU
 have hz2 : z = .int .u8 0 := by
  have := gzU
  simp only [zeroOf,hi,hz,Option.some.injEq] at this
  exact this
 subst hz2
 have hst := run_storeCells_cells (P := Tryz.prog) b sLen zrow 0 w (fun j hj => by rw [zrow_len] at hj; rw [Nat.add_zero]; exact hc j hj) (fun j hj => by rw [zrow_len] at hj; rw [Nat.add_zero]; exact hf j hj) (fun u hu => bcells_one _ u hu)
 simp only [Nat.add_zero] at hst
 have hw : IntKind.i64.wrap 512 = 512 := by decide
 have hA : ∀ w' : World,(asInt (.int .i64 512)).run Tryz.prog w' = .ok 512 w' := fun _ => rfl
 simp [Builtin.append_,run_underlying hu,run_underlying gundInt,sizeOf,typeInfo,zeroValue,hi,hz,hs,hb,hw,hroom,zcellsA,Addr.add_lit,hst,hA]
theorem grow_zero {w : World} (base : Option Addr) (sLen sCap : Nat) (olds : List Value) (hold : (Builtin.firstCells 1 sLen (.slice base sLen sCap)).run Tryz.prog w.drew = .ok olds.toArray w.drew) (hg : sCap < sLen + 512) (hsm : sLen ≤ 1000000) :
  ∃ nc,sLen + 512 ≤ nc ∧ nc ≤ maxLen ∧ (Builtin.append_ #[29,3] 29 #[.slice base sLen sCap,.int .i64 512]).run Tryz.prog w = .ok (.slice (some ⟨w.heap.size,0,none⟩) (sLen + 512) nc) (w.drew.alloc (.cells ((olds ++ zrow).toArray ++ Builtin.zeroCells (Value.int .u8 0).cells (nc - (sLen + 512))) 5)) := by
 obtain ⟨hu,i,z,hi,hz,hs,hb,hzs⟩ := geltU
 have hz2 : z = .int .u8 0 := by
  have := gzU
  simp only [zeroOf,hi,hz,Option.some.injEq] at this
  exact this
 subst hz2
 have hw : IntKind.i64.wrap 512 = 512 := by decide
 have hA : ∀ w' : World,(asInt (.int .i64 512)).run Tryz.prog w' = .ok 512 w' := fun _ => rfl
 have hn : ¬ (sLen + 512 ≤ sCap) := by omega
 have hfit := growslice_fits (need := sLen + 512) (old := sCap) (bytes := i.bytes) hg (by rw [hb]; omega)
 have h48' : ¬ (281474976710656 < Builtin.nextslicecap (sLen + 512) sCap * i.bytes) := by omega
 rw [hb,Nat.mul_one] at h48'
 have hmx : IntKind.i64.max = 9223372036854775807 := by decide
 refine ⟨grownCap w (sLen + 512) sCap 5,grownCap_ge w (sLen + 512) sCap 5,grownCap_le_maxLen w (sLen + 512) sCap 5 (by simp only [maxLen]; omega),?_⟩
 have h63' : ¬ (9223372036854775807 < ((sLen : Int) + max 512 0)) := by omega
 simp [Builtin.append_,run_underlying hu,run_underlying gundInt,sizeOf,typeInfo,zeroValue,hi,hz,hs,hb,hw,hn,h63',h48',hmx,Question.forced,hold,newRow,grownCap,zcellsA,hA]
 congr 2
 apply Array.ext'
 simp only [Array.toList_append,List.append_assoc]
theorem app_zero {w : World} {a : Option Addr} {n c : Nat} {xs : List Value} (hown : Own w 0 5 1 a n c xs) (hn : n ≤ 1000000) :
  ∃ a' c' w1,App Tryz.prog #[29,3] 29 w (.slice a n c) (.int .i64 512) (.slice a' (n + 512) c') w1 ∧ Own w1 0 5 1 a' (n + 512) c' (xs ++ zrow) ∧ Chg (blks a) w w1 ∧ ∀ k ∈ blks a',k ∈ blks a ∨ w.heap.size ≤ k := by
 have hlen : (xs ++ zrow).length = (n + 512) * 1 := by rw [List.length_append,hown.1,zrow_len]; omega
 have grow : ∀ (hold : (Builtin.firstCells 1 n (.slice a n c)).run Tryz.prog w.drew = .ok xs.toArray w.drew),c < n + 512 →
   ∃ a' c' w1,App Tryz.prog #[29,3] 29 w (.slice a n c) (.int .i64 512) (.slice a' (n + 512) c') w1 ∧ Own w1 0 5 1 a' (n + 512) c' (xs ++ zrow) ∧ Chg (blks a) w w1 ∧ ∀ k ∈ blks a',k ∈ blks a ∨ w.heap.size ≤ k := by
  intro hold hg
  obtain ⟨nc,hge,hcm,hr⟩ := grow_zero (w := w) a n c xs hold hg hn
  refine ⟨_,nc,_,hr,⟨hlen,.inr ⟨w.heap.size,_,_,rfl,Nat.zero_le _,alloc_new w.drew _,Thaw.zero _,hge,hcm,?_,?_⟩⟩,?_,?_⟩
  ·have h1 : (Builtin.zeroCells (Value.int .u8 0).cells (nc - (n + 512))).size = nc - (n + 512) := by
    rw [← Array.length_toList,zcellsN,bcells_length,List.length_replicate]
   rw [Array.size_append,h1,List.size_toArray,hlen]; omega
  ·rw [← hlen,Array.toList_append]
   exact List.take_left' rfl
  ·exact ⟨rfl,rfl,rfl,by simp,fun k hk _ => alloc_old w.drew _ k hk⟩
  ·intro k hk; simp [blks] at hk; subst hk; exact .inr (Nat.le_refl _)
 rcases hown.2 with ⟨rfl,rfl,rfl⟩ | ⟨g,cur,fz,rfl,hbg,hg,hf,hnc,hcm,hcs,htake⟩
 ·have hxs : xs = [] := List.eq_nil_of_length_eq_zero (by simpa using hown.1)
  subst hxs
  exact grow (run_firstCells_none _ _ _ _ _) (by omega)
 ·by_cases hroom : n + 512 ≤ c
  ·have hfit : n + zrow.length ≤ cur.size := by rw [zrow_len]; omega
   have hcell : ∀ j,j < 512 → (w.cell? ⟨g,n + j,none⟩).isSome = true := by
    intro j hj
    have : n + j < cur.size := by rw [zrow_len] at hfit; omega
    simp [World.cell?,hg]; omega
   have hr := room_zero (w := w) g n c hroom hcell (fun j hj => by
    have := hf (n + j) (by rw [zrow_len] at hfit; omega)
    obtain ⟨f1,f2⟩ := fz
    simpa [World.frozen?,hg] using this)
   have hcur : w.heap[g]? = some (.cells cur.toList.toArray 5 fz) := by simpa using hg
   obtain ⟨h3,h4⟩ := setCells_over zrow w cur.toList n hcur (by rw [Array.length_toList]; exact hfit)
   refine ⟨_,_,_,hr,⟨hlen,.inr ⟨g,_,fz,rfl,hbg,h3,?_,hroom,hcm,?_,?_⟩⟩,h4,fun k hk => .inl hk⟩
   ·intro k hk
    refine hf k ?_
    rw [List.size_toArray,over_length _ _ _ (by rw [Array.length_toList]; exact hfit),Array.length_toList] at hk
    exact hk
   ·rw [List.size_toArray,over_length _ _ _ (by rw [Array.length_toList]; exact hfit),Array.length_toList]; exact hcs
   ·rw [← hlen]
    have := over_take zrow n cur.toList (by rw [Array.length_toList]; exact hfit)
    rw [show (xs ++ zrow).length = n + zrow.length by rw [List.length_append,hown.1]; omega]
    simp only [List.toList_toArray]
    rw [Nat.mul_one] at htake
    rw [this,htake]
  ·refine grow ?_ (by omega)
   refine run_firstCells_some _ _ _ _ _ _ xs hown.1 fun j v hj => ?_
   obtain ⟨ad,had,hcell⟩ := hown.cells j v hj
   cases had
   simpa using hcell
theorem Hp.appZ {B : List Nat} {w0 w : World} {L : List Asn} {a : Option Addr} {n c : Nat} {xs : List Value} {G : Option Addr → Nat → Nat → World → Prop} (H : Hp B w0 w (.own 5 1 a n c xs :: L)) (hn : n ≤ 1000000)
  (k : ∀ a' c' w1,Hp B w0 w1 (.own 5 1 a' (n + 512) c' (xs ++ zrow) :: L) → G a' (n + 512) c' w1) :
  ∃ a' n' c' w1,App Tryz.prog #[29,3] 29 w (.slice a n c) (.int .i64 512) (.slice a' n' c') w1 ∧ G a' n' c' w1 := by
 obtain ⟨a',c',w1,h1,h2,h3,h4⟩ := app_zero (H.ok _ (.head _)) hn
 exact ⟨a',_,c',w1,h1,k a' c' w1 (H.set h3 h2 h4)⟩
theorem own_nil0 {w : World} {e : TypeId} {sz n c : Nat} {a : Option Addr} {xs : List Value} (h : Own w 0 e sz a n c xs) (ha : a = none) : n = 0 := by
 rcases h.2 with ⟨_,h,_⟩ | ⟨g,_,_,h,_⟩
 ·exact h
 ·rw [ha] at h; cases h
theorem gundBS : Tryz.prog.underlying 29 = some (.slice 5) := by kernel_rfl
end Go.Proofs.YtdeebigmpffnbaaGreat
namespace Go.Proofs.YtdeebigmpffnbaaGreat.Sl
open Go Go.Vc
theorem be_two (x y : UInt8) : be ((valN [x,y] : Nat) : Int) 2 = [x,y] := by
 have hx := x.toNat_lt
 have hy := y.toNat_lt
 have e : be ((valN [x,y] : Nat) : Int) 2 = [bt ((valN [x,y] : Nat) : Int) 1,bt ((valN [x,y] : Nat) : Int) 0] := rfl
 have h1 := bt_toNat ((valN [x,y] : Nat) : Int) 1
 have h0 := bt_toNat ((valN [x,y] : Nat) : Int) 0
 rw [valN_two] at h0 h1
 have p1 : (2 : Int) ^ (8 * 1) = 256 := by decide
 have p0 : (2 : Int) ^ (8 * 0) = 1 := by decide
 rw [p1] at h1
 rw [p0] at h0
 have a1 : bt ((valN [x,y] : Nat) : Int) 1 = x := by
  rw [valN_two]
  exact UInt8.toNat_inj.1 (by omega)
 have a0 : bt ((valN [x,y] : Nat) : Int) 0 = y := by
  rw [valN_two]
  exact UInt8.toNat_inj.1 (by omega)
 rw [e,a1,a0]
def twoP (bs : List UInt8) (i : Nat) : Nat := valN ((bs.drop i).take 2)
theorem two_be {bs : List UInt8} {i : Nat} (h : i + 2 ≤ bs.length) : be (twoP bs i : Int) 2 = (bs.drop i).take 2 := by
 have e : (bs.drop i).take 2 = [bs[i]'(by omega),bs[i + 1]'(by omega)] := by
  rw [List.drop_eq_getElem_cons (by omega),List.drop_eq_getElem_cons (i := i + 1) (by omega)]; rfl
 rw [twoP,e,be_two]
theorem two_lt (bs : List UInt8) (i : Nat) : twoP bs i < 65536 := by
 have h := valN_lt ((bs.drop i).take 2)
 have hl : ((bs.drop i).take 2).length ≤ 2 := by rw [List.length_take]; omega
 have := Nat.pow_le_pow_right (n := 256) (by omega) hl
 rw [twoP]
 omega
def parse (bs : List UInt8) : Pg := { st := bs.take 8,hdr := twoP bs 8,dir := (List.range 120).map fun k => (twoP bs (10 + 4 * k),twoP bs (10 + 4 * k + 2)),data := bs.drop 490,many := 0,low := 0 }
theorem parse_dir (bs : List UInt8) : ∀ n,10 + 4 * n ≤ bs.length → dirB ((List.range n).map fun k => (twoP bs (10 + 4 * k),twoP bs (10 + 4 * k + 2))) = (bs.drop 10).take (4 * n)
 | 0,_ => by simp [dirB]
 | n + 1,h => by
  rw [List.range_succ,List.map_append,dirB_append,parse_dir bs n (by omega)]
  have e : dirB (List.map (fun k => (twoP bs (10 + 4 * k),twoP bs (10 + 4 * k + 2))) [n]) = (bs.drop (10 + 4 * n)).take 2 ++ (bs.drop (10 + 4 * n + 2)).take 2 := by
   rw [← two_be (by omega),← two_be (by omega)]
   simp [dirB]
  rw [e,show 4 * (n + 1) = 4 * n + (2 + 2) by omega,List.take_add,List.take_add,List.drop_drop,List.drop_drop,Nat.add_assoc]
theorem parse_ok {bs : List UInt8} (h : bs.length = 4096) : (parse bs).Ok ∧ (parse bs).bs = bs := by
 refine ⟨⟨by simp [parse,h],two_lt _ _,by simp [parse],by simp [parse,h],by show 0 ≤ 120; omega,fun p hp => ?_,by show 0 ≤ 4096; omega⟩,?_⟩
 ·obtain ⟨k,_,rfl⟩ := List.mem_map.1 hp
  exact ⟨two_lt _ _,two_lt _ _⟩
 ·show bs.take 8 ++ (be (twoP bs 8 : Int) 2 ++ (dirB ((List.range 120).map fun k => (twoP bs (10 + 4 * k),twoP bs (10 + 4 * k + 2))) ++ bs.drop 490)) = bs
  rw [two_be (by omega),parse_dir bs 120 (by omega)]
  have e1 : bs = bs.take 8 ++ bs.drop 8 := (List.take_append_drop 8 bs).symm
  have e2 : bs.drop 8 = (bs.drop 8).take 2 ++ bs.drop 10 := by
   have := (List.take_append_drop 2 (bs.drop 8)).symm
   rw [List.drop_drop] at this; exact this
  have e3 : bs.drop 10 = (bs.drop 10).take 480 ++ bs.drop 490 := by
   have := (List.take_append_drop 480 (bs.drop 10)).symm
   rw [List.drop_drop] at this; exact this
  rw [show 4 * 120 = 480 by omega,← e3,← e2,← e1]
def loadF (g : Pg) : Nat → Nat → Recs → Option Recs
 | 0,_,L => some L
 | m + 1,k,L => if atOf g k = 0 then loadF g m (k + 1) L else if atOf g k < 10 ∨ 4096 < atOf g k + lenOf g k then none else
   let r := aput L (k : Int) ((g.bs.drop (atOf g k)).take (lenOf g k))
   if r.2 = 0 then loadF g m (k + 1) r.1 else none
def loadP (bs : List UInt8) : Option (Recs × Nat) :=
 let g := parse bs
 if 120 < g.hdr ∨ ¬ okStamp (num g.st) then none else (loadF g g.hdr 0 []).map fun L => (L,(num g.st).toNat)
set_option maxHeartbeats 1000000 in
theorem loadG_spec (bb c0 : Nat) (bs : List UInt8) (hbl0 : bs.length = 4096) (w : World) (h : Cells w (some ⟨bb,0,none⟩) (bcells bs)) (hc0 : 4096 ≤ c0) :
  Calls Tryz.prog 116 #[.slice (some ⟨bb,0,none⟩) 4096 c0] w fun e w' => (loadP bs = none ∧ e = .returned (.tuple #[.pointer none,.int .i64 112]) ∧ Hp [] w w' []) ∨
   ∃ P b' g',loadP bs = some P ∧ e = .returned (.tuple #[.pointer (some ⟨b',0,none⟩),.int .i64 0]) ∧ Rep g' P.1 P.2 ∧ Hp [] w w' [pgA b' g'] := by
 obtain ⟨hok,hbs⟩ := parse_ok hbl0
 have hlp : loadP bs = if 120 < (parse bs).hdr ∨ ¬ okStamp (num (parse bs).st) then none else (loadF (parse bs) (parse bs).hdr 0 []).map fun L => (L,(num (parse bs).st).toNat) := rfl
 generalize parse bs = g at hok hbs hlp
 rw [hlp]
 clear hlp
 subst hbs
 apply load.ok
 unfold load.vc
 have H := Hp.start w
 have hmax : maxLen = 9223372036854775807 := by simp [maxLen]
 have hbl : (bcells g.bs).length = 4096 := by rw [bcells_length,hok.len]
 (intro _ _ hn; replace H := H.new (by exact ⟨rfl,rfl,rfl,rfl⟩) hn; clear hn)
 (intro _ _ hn; replace H := H.new (by exact ⟨rfl,rfl,rfl,rfl⟩) hn; clear hn)
 (intro _ _ hn; replace H := H.new (by exact ⟨rfl,rfl,rfl,rfl⟩) hn; clear hn)
 rename_i b0 _ b1 _ b2 _
 ((repeat apply Exists.intro); first | refine ⟨H.ld (by exact ⟨rfl,rfl,rfl,rfl⟩) (by first | exact scl3 | exact scl23 | exact scl34 | exact scl37) (by repeat first | exact .head _ | refine .tail _ ?_) rfl,?_⟩ | refine ⟨H.ldA (by exact ⟨rfl,rfl,rfl,rfl⟩) (by first | exact agg54 | exact agg52) (by repeat first | exact .head _ | refine .tail _ ?_) rfl rfl,?_⟩)
 refine br_ndec (fun hn => absurd rfl hn) (fun _ => ?_)
 rw [zl54]
 (intro _ _ hn; replace H := H.new (by exact ⟨rfl,rfl,rfl,rfl⟩) hn; clear hn)
 rename_i b3 _
 ((repeat apply Exists.intro); first | refine ⟨H.ld (by exact ⟨rfl,rfl,rfl,rfl⟩) (by first | exact scl3 | exact scl23 | exact scl34 | exact scl37) (by repeat first | exact .head _ | refine .tail _ ?_) rfl,?_⟩ | refine ⟨H.ldA (by exact ⟨rfl,rfl,rfl,rfl⟩) (by first | exact agg54 | exact agg52) (by repeat first | exact .head _ | refine .tail _ ?_) rfl rfl,?_⟩)
 replace H := H.drew
 have hbb := h.chg H.chg (by simp)
 refine Hp.cpy (o := 0) (n := 4096) (m := 4096) H (by exact ⟨rfl,rfl,rfl,rfl⟩) und37 scl5.size (Cells.src (n := 4096) und37 hbb (by rw [hbl]) (bcells_one _) (fun h => by cases h)) (by omega) (by rw [(gZ_ok (by omega)).clen]; omega) ?_
 clear H
 intro w5 H
 obtain ⟨gr,hgr⟩ : ∃ gr : Pg,gr = { g with many := 0,low := 0 } := ⟨_,rfl⟩
 have okr : gr.Ok := by rw [hgr]; exact ⟨hok.st,hok.hdr,hok.dir,hok.data,by show 0 ≤ 120; omega,hok.ent,by show 0 ≤ 4096; omega⟩
 have hraw : over (bcells g.bs) 0 (gZ 0).cells = gr.cells := by
  have := over_app (bcells g.bs) [] (bcells (gZ 0).bs) [.int .i64 ((0 : Nat) : Int),.int .i64 ((0 : Nat) : Int)] (by rw [hbl,bcells_length,(gZ_ok (by omega)).len])
  rw [hgr]
  exact this
 rw [hraw] at H
 refine callV (two_spec b3 gr 8 (by omega) _ (pgOf okr H (by exact ⟨rfl,rfl,rfl,rfl⟩) (.head _))) ?_
 rintro e w6 ⟨rfl,H'⟩; replace H := H.ext0 H'; clear H'
 refine ⟨_,rfl,?_⟩
 have h8 : (valN ((gr.bs.drop 8).take 2) : Int) = (g.hdr : Int) := by
  have e1 : gr.bs.drop 8 = be (g.hdr : Int) 2 ++ (dirB g.dir ++ g.data) := by
   rw [hgr]
   show (g.st ++ (be (g.hdr : Int) 2 ++ (dirB g.dir ++ g.data))).drop 8 = _
   exact drop_left _ _ _ hok.st
  rw [e1,take_left _ _ 2 (be_length _ 2)]
  have := hok.hdr
  exact valN_be' (by omega) (by omega)
 rw [h8]
 refine Hp.st H (by exact ⟨rfl,rfl,rfl,rfl⟩) scl3 rfl rfl (by rw [okr.clen]; omega) (Pg.set_many okr _) ?_
 clear H
 intro w7 H
 obtain ⟨g2,hg2⟩ : ∃ g2 : Pg,g2 = { gr with many := g.hdr } := ⟨_,rfl⟩
 rw [← hg2] at H
 have hbs2 : g2.bs = g.bs := by rw [hg2,hgr]; rfl
 have hst2 : g2.st = g.st := by rw [hg2,hgr]
 have hat2 : ∀ k,atOf g2 k = atOf g k := fun k => by rw [hg2,hgr]; rfl
 have hln2 : ∀ k,lenOf g2 k = lenOf g k := fun k => by rw [hg2,hgr]; rfl
 have hm2 : g2.many = g.hdr := by rw [hg2]
 have hmc : g2.cells[4096]? = some (.int .i64 (g.hdr : Int)) := by
  rw [hg2,Pg.cells]
  have hl : ({ gr with many := g.hdr } : Pg).bs.length = 4096 := okr.len
  rw [List.getElem?_append_right (by rw [bcells_length,hl]; exact Nat.le_refl _),bcells_length,hl]; rfl
 refine callV (new_any _) ?_
 rintro e w8 ⟨p,rfl,H'⟩; replace H := H.ext1 H'; clear H'
 refine ⟨_,rfl,?_⟩
 replace H : Hp [] w w8 [pgA b3 g2,pgA p (gZ 4096),.blk b2 [.int .i64 0] 27,.blk b1 [.pointer none] 99,.blk b0 [.slice (some ⟨bb,0,none⟩) 4096 c0] 29] := by ((try dsimp only [List.cons_append,List.nil_append]); (try dsimp only [List.cons_append,List.nil_append] at H); refine Hp.perm H ?_; (repeat (apply perm_step; (focus first | exact perm_p0 | exact perm_p1 | exact perm_p2 | exact perm_p3 | exact perm_p4 | exact perm_p5 | exact perm_p6 | exact perm_p7 | exact perm_p8 | exact perm_p9))); exact List.Perm.refl _)
 (intro _ _ hn; replace H := H.new (by exact ⟨rfl,rfl,rfl,rfl⟩) hn; clear hn)
 rename_i b4 _
 ((first | (apply Hp.st; (case H => first | exact H | exact H.pull1 | exact H.pull2 | exact H.pull3 | exact H.pull4 | exact H.pull5 | exact H.pull6 | exact H.pull7); (case e => exact ⟨rfl,rfl,rfl,rfl⟩); (case S => exact (by first | exact scl3 | exact scl23 | exact scl34 | exact scl37)); (case hv => exact rfl); (case h1 => exact rfl); (case ho => exact Nat.le_of_ble_eq_true rfl); (case hc => exact rfl)) | (apply Hp.stA; (case H => first | exact H | exact H.pull1 | exact H.pull2 | exact H.pull3 | exact H.pull4 | exact H.pull5 | exact H.pull6 | exact H.pull7); (case e => exact ⟨rfl,rfl,rfl,rfl⟩); (case S => exact (by first | exact agg54 | exact agg52)); (case hn => exact rfl); (case h1 => exact rfl); (case ho => exact Nat.le_of_ble_eq_true rfl); (case hc => exact rfl))); clear H; intro _ H; (try simp only [over,List.set_cons_zero,List.set_cons_succ] at H))
 rename_i w88
 refine ⟨_,H.drew.ld (o := 4096) (cs := g2.cells) (by exact ⟨rfl,rfl,rfl,rfl⟩) scl3 (by repeat first | exact .head _ | refine .tail _ ?_) hmc,?_⟩
 refine br_dec (fun h0 => ?_) (fun h0 => ?_)
 ·replace H := H.drew
  replace H : Hp [] w w88.drew ([.blk b1 [.pointer none] 99,.blk b2 [.int .i64 0] 27] ++ [pgA b3 g2,pgA p (gZ 4096),.blk b4 [.pointer (some ⟨p,0,none⟩)] 99,.blk b0 [.slice (some ⟨bb,0,none⟩) 4096 c0] 29]) := by ((try dsimp only [List.cons_append,List.nil_append]); (try dsimp only [List.cons_append,List.nil_append] at H); refine Hp.perm H ?_; (repeat (apply perm_step; (focus first | exact perm_p0 | exact perm_p1 | exact perm_p2 | exact perm_p3 | exact perm_p4 | exact perm_p5 | exact perm_p6 | exact perm_p7 | exact perm_p8 | exact perm_p9))); exact List.Perm.refl _)
  simp only [List.cons_append,List.nil_append] at H
  refine Hp.st H (by exact ⟨rfl,rfl,rfl,rfl⟩) scl23 rfl rfl (by simp) rfl ?_
  clear H
  intro w13 H
  replace H := H.pull1
  refine Hp.st H (by exact ⟨rfl,rfl,rfl,rfl⟩) scl34 rfl rfl (by simp) rfl ?_
  clear H
  intro w14 H
  ((repeat apply Exists.intro); first | refine ⟨H.ld (by exact ⟨rfl,rfl,rfl,rfl⟩) (by first | exact scl3 | exact scl23 | exact scl34 | exact scl37) (by repeat first | exact .head _ | refine .tail _ ?_) rfl,?_⟩ | refine ⟨H.ldA (by exact ⟨rfl,rfl,rfl,rfl⟩) (by first | exact agg54 | exact agg52) (by repeat first | exact .head _ | refine .tail _ ?_) rfl rfl,?_⟩)
  ((repeat apply Exists.intro); first | refine ⟨H.ld (by exact ⟨rfl,rfl,rfl,rfl⟩) (by first | exact scl3 | exact scl23 | exact scl34 | exact scl37) (by repeat first | exact .head _ | refine .tail _ ?_) rfl,?_⟩ | refine ⟨H.ldA (by exact ⟨rfl,rfl,rfl,rfl⟩) (by first | exact agg54 | exact agg52) (by repeat first | exact .head _ | refine .tail _ ?_) rfl rfl,?_⟩)
  exact .inl ⟨if_pos (.inl (by omega)),rfl,H.drop.drop.drop.drop.drop.drop⟩
 have hml : g.hdr ≤ 120 := by omega
 have ok2 : g2.Ok := by rw [hg2]; exact ⟨okr.st,okr.hdr,okr.dir,okr.data,hml,okr.ent,okr.low⟩
 ((repeat apply Exists.intro); first | refine ⟨H.ld (by exact ⟨rfl,rfl,rfl,rfl⟩) (by first | exact scl3 | exact scl23 | exact scl34 | exact scl37) (by repeat first | exact .head _ | refine .tail _ ?_) rfl,?_⟩ | refine ⟨H.ldA (by exact ⟨rfl,rfl,rfl,rfl⟩) (by first | exact agg54 | exact agg52) (by repeat first | exact .head _ | refine .tail _ ?_) rfl rfl,?_⟩)
 refine callV (stampW_spec b3 g2 _ (pgOf ok2 H (by exact ⟨rfl,rfl,rfl,rfl⟩) (by repeat first | exact .head _ | refine .tail _ ?_))) ?_
 rintro e w9 ⟨rfl,H'⟩; replace H := H.drew.ext0 H'; clear H'
 rw [hst2]
 refine ⟨_,rfl,?_⟩
 refine ⟨H.ld (by exact ⟨rfl,rfl,rfl,rfl⟩) scl23 (by repeat first | exact .head _ | refine .tail _ ?_) rfl,?_⟩
 replace H : Hp [] w w9 (pgA p (gZ 4096) :: [pgA b3 g2,.blk b4 [.pointer (some ⟨p,0,none⟩)] 99,.blk b2 [.int .i64 0] 27,.blk b1 [.pointer none] 99,.blk b0 [.slice (some ⟨bb,0,none⟩) 4096 c0] 29]) := by ((try dsimp only [List.cons_append,List.nil_append]); (try dsimp only [List.cons_append,List.nil_append] at H); refine Hp.perm H ?_; (repeat (apply perm_step; (focus first | exact perm_p0 | exact perm_p1 | exact perm_p2 | exact perm_p3 | exact perm_p4 | exact perm_p5 | exact perm_p6 | exact perm_p7 | exact perm_p8 | exact perm_p9))); exact List.Perm.refl _)
 refine callV (setStamp_any gZ_rep (H.ok _ (.head _)) (num g.st)) ?_
 rintro e w10 ⟨rfl,g3,hR3,H'⟩; replace H := Hp.use11 (a := pgA p _) H H'; clear H'
 refine ⟨_,rfl,?_⟩
 refine br_not (fun h0 => ?_) (fun h0 => ?_)
 ·have hns : ¬ okStamp (num g.st) := of_decide_eq_false h0
  replace H : Hp [] w w10 ([.blk b1 [.pointer none] 99,.blk b2 [.int .i64 0] 27] ++ [pgA b3 g2,pgA p g3,.blk b4 [.pointer (some ⟨p,0,none⟩)] 99,.blk b0 [.slice (some ⟨bb,0,none⟩) 4096 c0] 29]) := by ((try dsimp only [List.cons_append,List.nil_append]); (try dsimp only [List.cons_append,List.nil_append] at H); refine Hp.perm H ?_; (repeat (apply perm_step; (focus first | exact perm_p0 | exact perm_p1 | exact perm_p2 | exact perm_p3 | exact perm_p4 | exact perm_p5 | exact perm_p6 | exact perm_p7 | exact perm_p8 | exact perm_p9))); exact List.Perm.refl _)
  simp only [List.cons_append,List.nil_append] at H
  refine Hp.st H (by exact ⟨rfl,rfl,rfl,rfl⟩) scl23 rfl rfl (by simp) rfl ?_
  clear H
  intro w13 H
  replace H := H.pull1
  refine Hp.st H (by exact ⟨rfl,rfl,rfl,rfl⟩) scl34 rfl rfl (by simp) rfl ?_
  clear H
  intro w14 H
  ((repeat apply Exists.intro); first | refine ⟨H.ld (by exact ⟨rfl,rfl,rfl,rfl⟩) (by first | exact scl3 | exact scl23 | exact scl34 | exact scl37) (by repeat first | exact .head _ | refine .tail _ ?_) rfl,?_⟩ | refine ⟨H.ldA (by exact ⟨rfl,rfl,rfl,rfl⟩) (by first | exact agg54 | exact agg52) (by repeat first | exact .head _ | refine .tail _ ?_) rfl rfl,?_⟩)
  ((repeat apply Exists.intro); first | refine ⟨H.ld (by exact ⟨rfl,rfl,rfl,rfl⟩) (by first | exact scl3 | exact scl23 | exact scl34 | exact scl37) (by repeat first | exact .head _ | refine .tail _ ?_) rfl,?_⟩ | refine ⟨H.ldA (by exact ⟨rfl,rfl,rfl,rfl⟩) (by first | exact agg54 | exact agg52) (by repeat first | exact .head _ | refine .tail _ ?_) rfl rfl,?_⟩)
  exact .inl ⟨if_pos (.inr hns),rfl,H.drop.drop.drop.drop.drop.drop⟩
 have hoks : okStamp (num g.st) := of_decide_eq_true h0
 rw [astamp,if_pos hoks] at hR3
 obtain ⟨stamp,hstamp⟩ : ∃ stamp,stamp = (num g.st).toNat := ⟨_,rfl⟩
 rw [← hstamp] at hR3
 rw [if_neg (fun h => h.elim (fun h => by omega) (fun h => h hoks)),← hstamp]
 replace H : Hp [] w w10 [pgA b3 g2,pgA p g3,.blk b4 [.pointer (some ⟨p,0,none⟩)] 99,.blk b2 [.int .i64 0] 27,.blk b1 [.pointer none] 99,.blk b0 [.slice (some ⟨bb,0,none⟩) 4096 c0] 29] := by ((try dsimp only [List.cons_append,List.nil_append]); (try dsimp only [List.cons_append,List.nil_append] at H); refine Hp.perm H ?_; (repeat (apply perm_step; (focus first | exact perm_p0 | exact perm_p1 | exact perm_p2 | exact perm_p3 | exact perm_p4 | exact perm_p5 | exact perm_p6 | exact perm_p7 | exact perm_p8 | exact perm_p9))); exact List.Perm.refl _)
 refine ⟨_,_,_,rfl,⟨_,_,Tryz.func76,rfl⟩,?_⟩
 refine range_each b3 g.hdr (fun _ _ => g2) (fun k (x : Pg × Recs) => [pgA b3 g2,pgA p x.1,.blk b4 [.pointer (some ⟨p,0,none⟩)] 99,.blk b2 [.int .i64 0] 27,.blk b1 [.pointer none] 99,.blk b0 [.slice (some ⟨bb,0,none⟩) 4096 c0] 29]) (fun k x => k ≤ g.hdr ∧ Rep x.1 x.2 stamp ∧ loadF g (g.hdr - k) k x.2 = loadF g g.hdr 0 []) (fun _ : Unit => [.blk b1 [.pointer none] 99,.blk b2 [.int .i64 112] 27]) (fun _ => loadF g g.hdr 0 [] = none) (g3,[])
  ⟨by omega,hR3,rfl⟩ H
  (fun k x w' T _ H => ⟨pgOf ok2 H (by exact ⟨rfl,rfl,rfl,rfl⟩) (.head _),hm2⟩) (fun k x hk hx h0 => ⟨x,⟨by omega,hx.2.1,by
   rw [hat2] at h0
   rw [← hx.2.2,show g.hdr - k = (g.hdr - (k + 1)) + 1 by omega,loadF,if_pos h0]⟩,rfl⟩) ?_ ?_ ?_
 ·clear H
  rintro k ⟨x,L⟩ hk ⟨_,hx,hL⟩ h0 w' T0 T1 begin kn kr kx _ hbeg hkn hkr
  refine hbeg _ fun w2 H => ?_
  simp only [List.cons_append,List.nil_append] at H
  dsimp only at hx hL h0
  rw [hat2] at h0
  have he := hok.ent
  rw [show g.hdr - k = (g.hdr - (k + 1)) + 1 by omega,loadF,if_neg (by omega)] at hL
  have hentk : atOf g k < 65536 ∧ lenOf g k < 65536 := by
   have hk2 : k < g.dir.length := by rw [hok.dir]; omega
   have := he _ (List.getElem_mem hk2)
   simp only [atOf,lenOf,List.getD_eq_getElem?_getD,List.getElem?_eq_getElem hk2,Option.getD_some]
   exact this
  refine callV (slot_in b3 g2 k (by omega) _ (pgOf ok2 H (by exact ⟨rfl,rfl,rfl,rfl⟩) (.head _))) ?_
  rintro e w4 ⟨rfl,H'⟩; replace H := H.ext0 H'; clear H'
  rw [hat2,hln2]
  refine ⟨_,_,rfl,?_⟩
  have stop : ∀ w5 (xx : Pg),Hp [] w w5 (pgA b3 g2 :: pgA p xx :: .blk b4 [.pointer (some ⟨p,0,none⟩)] 99 :: .blk b2 [.int .i64 0] 27 :: .blk b1 [.pointer none] 99 :: .blk b0 [.slice (some ⟨bb,0,none⟩) 4096 c0] 29 :: T1) → loadF g g.hdr 0 [] = none →
    ∃ w6,Vc.St Tryz.prog 99 w5 ⟨b1,0,none⟩ (.pointer none) w6 ∧ ∃ w7,Vc.St Tryz.prog 27 w6 ⟨b2,0,none⟩ (.int .i64 112) w7 ∧ kr w7 := fun w5 xx H hn => by
   replace H : Hp [] w w5 (.blk b1 [.pointer none] 99 :: .blk b2 [.int .i64 0] 27 :: pgA b3 g2 :: pgA p xx :: .blk b4 [.pointer (some ⟨p,0,none⟩)] 99 :: .blk b0 [.slice (some ⟨bb,0,none⟩) 4096 c0] 29 :: T1) := by ((try dsimp only [List.cons_append,List.nil_append]); (try dsimp only [List.cons_append,List.nil_append] at H); refine Hp.perm H ?_; (repeat (apply perm_step; (focus first | exact perm_p0 | exact perm_p1 | exact perm_p2 | exact perm_p3 | exact perm_p4 | exact perm_p5 | exact perm_p6 | exact perm_p7 | exact perm_p8 | exact perm_p9))); exact List.Perm.refl _)
   refine Hp.st H (by exact ⟨rfl,rfl,rfl,rfl⟩) scl23 rfl rfl (by simp) rfl ?_
   clear H
   intro w13 H
   replace H := H.pull1
   refine Hp.st H (by exact ⟨rfl,rfl,rfl,rfl⟩) scl34 rfl rfl (by simp) rfl ?_
   clear H
   intro w14 H
   replace H := H.pull1
   exact hkr _ () hn H.del2.del2.del2.del2
  refine br_dec (fun h1 => stop _ x H.drew (by rw [← hL,if_pos (.inl (by omega))])) (fun h1 => ?_)
  refine ⟨inR64.2 (by omega),br_dec (fun h2 => stop _ x H.drew (by rw [← hL,if_pos (.inr (by omega))])) (fun h2 => ?_)⟩
  ((repeat apply Exists.intro); first | refine ⟨H.ld (by exact ⟨rfl,rfl,rfl,rfl⟩) (by first | exact scl3 | exact scl23 | exact scl34 | exact scl37) (by repeat first | exact .head _ | refine .tail _ ?_) rfl,?_⟩ | refine ⟨H.ldA (by exact ⟨rfl,rfl,rfl,rfl⟩) (by first | exact agg54 | exact agg52) (by repeat first | exact .head _ | refine .tail _ ?_) rfl rfl,?_⟩)
  ((repeat apply Exists.intro); first | refine ⟨H.ld (by exact ⟨rfl,rfl,rfl,rfl⟩) (by first | exact scl3 | exact scl23 | exact scl34 | exact scl37) (by repeat first | exact .head _ | refine .tail _ ?_) rfl,?_⟩ | refine ⟨H.ldA (by exact ⟨rfl,rfl,rfl,rfl⟩) (by first | exact agg54 | exact agg52) (by repeat first | exact .head _ | refine .tail _ ?_) rfl rfl,?_⟩)
  have e1 : Int.toNat (atOf g k : Int) = atOf g k := by omega
  have e2 : Int.toNat ((atOf g k : Int) + (lenOf g k : Int)) = atOf g k + lenOf g k := by omega
  rw [if_neg (by omega)] at hL
  obtain ⟨s,hs⟩ : ∃ s,s = (g.bs.drop (atOf g k)).take (lenOf g k) := ⟨_,rfl⟩
  rw [← hs] at hL
  have hsl : s.length = lenOf g k := by rw [hs,List.length_take,List.length_drop,hbl0]; omega
  refine ⟨inR64.2 (by omega),⟨by omega,by omega,by omega⟩,⟨s.toArray⟩,?_,?_⟩
  ·rw [e1,e2,show atOf g k + lenOf g k - atOf g k = s.length by omega]
   have hcl : Cells w4 (some ⟨bb,0,none⟩) (bcells g.bs) := h.chg H.chg (by simp)
   have hc2 := (hcl.slA (c := c0) (i := atOf g k) (by omega)).take s.length
   have hrec : ((bcells g.bs).drop (atOf g k)).take s.length = bcells s := by
    rw [hsl,hs]
    simp [bcells,List.map_drop,List.map_take]
   rw [hrec] at hc2
   exact b2s und37 und5 und9 (by rw [byteCells_mk]; exact hc2) (by rw [mk_size])
  have hsl2 : s.length ≤ maxLen := by omega
  replace H : Hp [] w w4 (pgA p x :: pgA b3 g2 :: .blk b4 [.pointer (some ⟨p,0,none⟩)] 99 :: .blk b2 [.int .i64 0] 27 :: .blk b1 [.pointer none] 99 :: .blk b0 [.slice (some ⟨bb,0,none⟩) 4096 c0] 29 :: T1) := by ((try dsimp only [List.cons_append,List.nil_append]); (try dsimp only [List.cons_append,List.nil_append] at H); refine Hp.perm H ?_; (repeat (apply perm_step; (focus first | exact perm_p0 | exact perm_p1 | exact perm_p2 | exact perm_p3 | exact perm_p4 | exact perm_p5 | exact perm_p6 | exact perm_p7 | exact perm_p8 | exact perm_p9))); exact List.Perm.refl _)
  refine callV (put_spec p x L stamp hx (k : Int) s _ (H.drew.ok _ (.head _))) ?_
  rintro e w5 ⟨rfl,x',hx',H'⟩; replace H := Hp.use11 (a := pgA p _) H.drew H'; clear H'
  refine ⟨_,rfl,br_ndec (fun hz => ?_) (fun hz => ?_)⟩
  ·exact stop _ x' (by ((try dsimp only [List.cons_append,List.nil_append]); (try dsimp only [List.cons_append,List.nil_append] at H); refine Hp.perm H ?_; (repeat (apply perm_step; (focus first | exact perm_p0 | exact perm_p1 | exact perm_p2 | exact perm_p3 | exact perm_p4 | exact perm_p5 | exact perm_p6 | exact perm_p7 | exact perm_p8 | exact perm_p9))); exact List.Perm.refl _)) (by rw [← hL]; simp only; rw [if_neg hz])
  ·simp only at hL
   rw [if_pos hz] at hL
   exact hkn _ (x',(aput L (k : Int) s).1) ⟨by omega,hx',hL⟩ (by ((try dsimp only [List.cons_append,List.nil_append]); (try dsimp only [List.cons_append,List.nil_append] at H); refine Hp.perm H ?_; (repeat (apply perm_step; (focus first | exact perm_p0 | exact perm_p1 | exact perm_p2 | exact perm_p3 | exact perm_p4 | exact perm_p5 | exact perm_p6 | exact perm_p7 | exact perm_p8 | exact perm_p9))); exact List.Perm.refl _))
 ·clear H
  rintro ⟨x,L⟩ D w' ⟨_,hx,hL⟩ H
  simp only [List.cons_append,List.nil_append] at H
  dsimp only at hx hL H
  rw [Nat.sub_self] at hL
  ((repeat apply Exists.intro); first | refine ⟨H.ld (by exact ⟨rfl,rfl,rfl,rfl⟩) (by first | exact scl3 | exact scl23 | exact scl34 | exact scl37) (by repeat first | exact .head _ | refine .tail _ ?_) rfl,?_⟩ | refine ⟨H.ldA (by exact ⟨rfl,rfl,rfl,rfl⟩) (by first | exact agg54 | exact agg52) (by repeat first | exact .head _ | refine .tail _ ?_) rfl rfl,?_⟩)
  replace H : Hp [] w w' [.blk b1 [.pointer none] 99,.blk b2 [.int .i64 0] 27,pgA p x,objA D (.deferred (some []))] := by
   have H : Hp [] w w' ([.blk b1 [.pointer none] 99,.blk b2 [.int .i64 0] 27,pgA p x,objA D (.deferred (some [])),pgA b3 g2,.blk b4 [.pointer (some ⟨p,0,none⟩)] 99,.blk b0 [.slice (some ⟨bb,0,none⟩) 4096 c0] 29]) := by ((try dsimp only [List.cons_append,List.nil_append]); (try dsimp only [List.cons_append,List.nil_append] at H); refine Hp.perm H ?_; (repeat (apply perm_step; (focus first | exact perm_p0 | exact perm_p1 | exact perm_p2 | exact perm_p3 | exact perm_p4 | exact perm_p5 | exact perm_p6 | exact perm_p7 | exact perm_p8 | exact perm_p9))); exact List.Perm.refl _)
   exact H.del4.del4.del4
  refine Hp.st H (by exact ⟨rfl,rfl,rfl,rfl⟩) scl23 rfl rfl (by simp) rfl ?_
  clear H
  intro w3 H
  replace H := H.pull1
  refine Hp.st H (by exact ⟨rfl,rfl,rfl,rfl⟩) scl34 rfl rfl (by simp) rfl ?_
  clear H
  intro w4 H
  refine Hp.shut H.pull3 fun w5 H => ?_
  ((repeat apply Exists.intro); first | refine ⟨H.ld (by exact ⟨rfl,rfl,rfl,rfl⟩) (by first | exact scl3 | exact scl23 | exact scl34 | exact scl37) (by repeat first | exact .head _ | refine .tail _ ?_) rfl,?_⟩ | refine ⟨H.ldA (by exact ⟨rfl,rfl,rfl,rfl⟩) (by first | exact agg54 | exact agg52) (by repeat first | exact .head _ | refine .tail _ ?_) rfl rfl,?_⟩)
  ((repeat apply Exists.intro); first | refine ⟨H.ld (by exact ⟨rfl,rfl,rfl,rfl⟩) (by first | exact scl3 | exact scl23 | exact scl34 | exact scl37) (by repeat first | exact .head _ | refine .tail _ ?_) rfl,?_⟩ | refine ⟨H.ldA (by exact ⟨rfl,rfl,rfl,rfl⟩) (by first | exact agg54 | exact agg52) (by repeat first | exact .head _ | refine .tail _ ?_) rfl rfl,?_⟩)
  exact .inr ⟨(L,stamp),p,x,by rw [← hL]; rfl,rfl,hx,H.drop.drop⟩
 ·clear H
  rintro _ D w' hn H
  simp only [List.cons_append,List.nil_append] at H
  refine Hp.shut H.pull2 fun w5 H => ?_
  ((repeat apply Exists.intro); first | refine ⟨H.ld (by exact ⟨rfl,rfl,rfl,rfl⟩) (by first | exact scl3 | exact scl23 | exact scl34 | exact scl37) (by repeat first | exact .head _ | refine .tail _ ?_) rfl,?_⟩ | refine ⟨H.ldA (by exact ⟨rfl,rfl,rfl,rfl⟩) (by first | exact agg54 | exact agg52) (by repeat first | exact .head _ | refine .tail _ ?_) rfl rfl,?_⟩)
  ((repeat apply Exists.intro); first | refine ⟨H.ld (by exact ⟨rfl,rfl,rfl,rfl⟩) (by first | exact scl3 | exact scl23 | exact scl34 | exact scl37) (by repeat first | exact .head _ | refine .tail _ ?_) rfl,?_⟩ | refine ⟨H.ldA (by exact ⟨rfl,rfl,rfl,rfl⟩) (by first | exact agg54 | exact agg52) (by repeat first | exact .head _ | refine .tail _ ?_) rfl rfl,?_⟩)
  exact .inl ⟨by rw [hn]; rfl,rfl,H.drop.drop⟩
end Go.Proofs.YtdeebigmpffnbaaGreat.Sl
namespace Go.Proofs.YtdeebigmpffnbaaGreat
open Go Go.Vc Go.Vault Go.Redo
def rdF (d : Dk) (n : Nat) : Nat → Nat → List UInt8 → List UInt8 × Int
 | 0,_,b => (b,0)
 | m + 1,k,b =>
  let r := d.read nData ((n * 8 + k : Nat) : Int)
  if r.2 = 0 then rdF d n m (k + 1) (b ++ r.1) else if r.2 = 91 then rdF d n m (k + 1) (b ++ List.replicate 512 0) else (b,r.2)
def readP (d : Dk) (n : Nat) : Option AP × Int :=
 let r := rdF d n 8 0 []
 if r.2 = 0 then match Sl.loadP r.1 with
  | some P => (some P,0)
  | none => (none,112)
 else (none,r.2)
theorem readP_none {d : Dk} {n : Nat} (h : (readP d n).1 = none) : (readP d n).2 ≠ 0 := by
 rw [readP] at h ⊢
 split at h
 ·next h0 =>
  rw [if_pos h0]
  split at h
  ·cases h
  ·simp
 ·next h0 => rw [if_neg h0]; exact h0
theorem read_len {d : Dk} (hok : d.Ok) {name : ByteArray} {i : Int} (h : (d.read name i).2 = 0) : (d.read name i).1.length = 512 := by
 rw [Dk.read] at h ⊢
 split at h
 ·cases h
 ·next h0 =>
  rw [if_neg h0]
  split at h
  ·cases h
  ·next k hk =>
   split at h
   ·cases h
   ·next h1 =>
    rw [if_neg h1]
    dsimp only
    have hi : i.toNat < (d.file k).now.length := by
     have h2 : ¬ (d.len k : Int) ≤ i := fun h => h1 (.inr h)
     have h3 : ¬ i < 0 := fun h => h1 (.inl h)
     have h4 : d.len k = (d.file k).now.length := rfl
     omega
    have hK := hok.find hk
    have hm : d.file k ∈ d.files := by
     rw [Dk.file,List.getD_eq_getElem?_getD,List.getElem?_eq_getElem hK]; exact List.getElem_mem _
    rw [List.getD_eq_getElem?_getD,List.getElem?_eq_getElem hi]
    exact (hok.files _ hm).now _ (List.getElem_mem hi)
theorem freadG_spec (y : GW) (x : DW) (s : St) (hok : x.Ok s.d) (n : Nat) (hn : n < 4096) (w : World) (stp : Blk w y.pb (poolC y x s) 134) (st : Std w (dkL x s.d)) :
  Calls Tryz.prog 137 #[.pointer (some ⟨y.pb,0,none⟩),.int .i64 (n : Int)] w fun e w' => ((readP s.d n).1 = none ∧ e = .returned (.tuple #[.pointer none,.int .i64 (readP s.d n).2]) ∧ Hp [] w w' []) ∨
   ∃ P b,(readP s.d n).1 = some P ∧ e = .returned (.tuple #[.pointer (some ⟨b,0,none⟩),.int .i64 0]) ∧ Hp [] w w' [pageA b P] := by
 apply fread.ok; unfold fread.vc
 have stw : ∀ w',Chg [] w w' → Std w' (dkL x s.d) := fun w' h => ((Hp.startL st).chg0 h).std
 have pbw : ∀ w',Chg [] w w' → Blk w' y.pb (poolC y x s) 134 := fun w' h => stp.chg h (by simp)
 have H := (Hp.start w).nilS 5 1
 refine LoopP.mk (fun m i w' => ∃ (j : Nat) (a : Option Addr) (c : Nat) (b : List UInt8),m = 8 - j ∧ j ≤ 8 ∧ b.length = j * 512 ∧ rdF s.d n (8 - j) j b = rdF s.d n 8 0 [] ∧ i = ((a,b.length,c),(j : Int)) ∧ Hp [] w w' [.own 5 1 a b.length c (bcells b)]) 8 ⟨0,none,0,[],rfl,by omega,rfl,rfl,rfl,H⟩ ?_
 clear H
 rintro m i w1 next ⟨j,a,c,b,rfl,hj,hbl,hrd,rfl,H⟩ hnext
 dsimp only
 refine br_dec (fun h => ?_) (fun h => ?_)
 ·have hj8 : j < 8 := by omega
  have hpb := pbw _ H.drew.chg
  refine onP_mk rfl ⟨_,hpb.ld (o := 0) gPD.agg rfl,onP_mk rfl ⟨_,hpb.ld (o := 1) gStr.agg rfl,inR64.2 (by omega),inR64.2 (by omega),?_⟩⟩
  have e3 : (n : Int) * 8 + (j : Int) = ((n * 8 + j : Nat) : Int) := by omega
  rw [e3]
  have hr := read_spec x s.d hok nData ((n * 8 + j : Nat) : Int) w1.drew (stw _ H.drew.chg)
  rw [show 8 - j = (8 - (j + 1)) + 1 by omega,rdF] at hrd
  have hlen := read_len hok.dk (name := nData) (i := ((n * 8 + j : Nat) : Int))
  generalize hq : s.d.read nData ((n * 8 + j : Nat) : Int) = q at hr hrd hlen
  refine callV hr ?_
  clear hr
  rintro e w2 ⟨a2,c2,rfl,H'⟩
  have H2 := H.drew.ext1 H'
  clear H' H
  refine ⟨_,_,_,_,rfl,?_⟩
  refine br_dec (fun h1 => ?_) (fun h1 => br_dec (fun h2 => ?_) (fun h2 => ?_))
  ·rw [if_pos h1] at hrd
   have hsl := hlen h1
   refine Hp.app geltU (by omega) H2.pull1 (by exact ⟨rfl,rfl,rfl,rfl⟩) (Cells.src gundBS (H2.ownA (.head _)).cells (by rw [bcells_length,Nat.mul_one]) (bcells_one _) (fun h => own_nil0 (H2.ownA (.head _)) h)) (by simp only [maxLen]; omega) (by omega) ?_
   intro a3 c3 w3 H3
   refine ⟨inR64.2 (by omega),hnext (8 - (j + 1)) _ _ (by omega) ⟨j + 1,a3,c3,b ++ q.1,rfl,by omega,by rw [List.length_append]; omega,hrd,by rw [List.length_append]; rfl,?_⟩⟩
   rw [List.length_append,bcells_append]; exact H3.del1
  ·rw [if_neg h1,if_pos h2] at hrd
   refine Hp.appZ H2.drop (by omega) ?_
   intro a3 c3 w3 H3
   refine ⟨inR64.2 (by omega),hnext (8 - (j + 1)) _ _ (by omega) ⟨j + 1,a3,c3,b ++ List.replicate 512 0,rfl,by omega,by rw [List.length_append,List.length_replicate]; omega,hrd,by rw [List.length_append,List.length_replicate]; rfl,?_⟩⟩
   rw [List.length_append,List.length_replicate,bcells_append]; exact H3
  ·rw [if_neg h1,if_neg h2] at hrd
   have hp : readP s.d n = (none,q.2) := by rw [readP,← hrd]; dsimp only; rw [if_neg h1]
   rw [hp]
   exact .inl ⟨rfl,rfl,H2.drop.drop⟩
 ·have hj8 : j = 8 := by omega
  subst hj8
  have hrd : (b,(0 : Int)) = rdF s.d n 8 0 [] := hrd
  have hp : readP s.d n = match Sl.loadP b with | some P => (some P,0) | none => (none,112) := by rw [readP,← hrd]; dsimp only; rw [if_pos rfl]
  have h4 : b.length = 4096 := by omega
  rw [h4] at H ⊢
  have hown := H.ownA (.head _)
  rcases hown.2 with ⟨_,h,_⟩ | ⟨gb,cur,fz,rfl,_,hh,_,hle,_⟩
  ·omega
  ·refine callV (Sl.loadG_spec gb c b h4 w1 hown.cells hle) ?_
   rintro e w2 (⟨hl,rfl,H'⟩ | ⟨P,b',g',hl,rfl,hR',H'⟩)
   ·rw [hl] at hp
    rw [hp]
    exact ⟨_,_,rfl,.inl ⟨rfl,rfl,(H.ext0 H').drop⟩⟩
   ·rw [hl] at hp
    rw [hp]
    exact ⟨_,_,rfl,.inr ⟨P,b',rfl,rfl,Hp.shutP hR' ((H.ext1 H').takeL (L := [_]))⟩⟩
end Go.Proofs.YtdeebigmpffnbaaGreat
namespace Go.Proofs.YtdeebigmpffnbaaGreat
open Go Go.Vc Go.Vault Go.Redo
def clockP : Nat → List Fr → Nat → Option Nat × List Fr × Nat
 | 0,fs,h => (none,fs,h)
 | m + 1,fs,h => match fs[h]? with
  | none => (none,fs,h)
  | some f => if 0 < f.pins then clockP m fs ((h + 1) % fs.length) else if f.used then clockP m (fs.set h { f with used := false }) ((h + 1) % fs.length) else (some h,fs,(h + 1) % fs.length)
def SameF (f g : Fr) : Prop := g.n = f.n ∧ g.pg = f.pg ∧ g.pins = f.pins ∧ g.dirty = f.dirty
structure SameFs (fs gs : List Fr) : Prop where
 len : gs.length = fs.length
 at_ : ∀ (k : Nat) (f g : Fr),fs[k]? = some f → gs[k]? = some g → SameF f g
theorem SameFs.refl (fs : List Fr) : SameFs fs fs := ⟨rfl,fun k f g h1 h2 => by rw [h1] at h2; cases h2; exact ⟨rfl,rfl,rfl,rfl⟩⟩
theorem SameFs.trans {a b c : List Fr} (h : SameFs a b) (h' : SameFs b c) : SameFs a c := by
 refine ⟨h'.len.trans h.len,fun k f g h1 h2 => ?_⟩
 have hk := (List.getElem?_eq_some_iff.1 h1).1
 have hb : k < b.length := by rw [h.len]; exact hk
 have e1 := h.at_ k f _ h1 (List.getElem?_eq_getElem hb)
 have e2 := h'.at_ k _ g (List.getElem?_eq_getElem hb) h2
 exact ⟨e2.1.trans e1.1,e2.2.1.trans e1.2.1,e2.2.2.1.trans e1.2.2.1,e2.2.2.2.trans e1.2.2.2⟩
theorem SameFs.set {fs : List Fr} {k : Nat} {f : Fr} (h : fs[k]? = some f) : SameFs fs (fs.set k { f with used := false }) := by
 refine ⟨by simp,fun j a b h1 h2 => ?_⟩
 rw [List.getElem?_set] at h2
 by_cases hj : k = j
 ·subst hj
  rw [if_pos rfl,if_pos (List.getElem?_eq_some_iff.1 h).1] at h2
  rw [h1] at h; cases h; cases h2
  exact ⟨rfl,rfl,rfl,rfl⟩
 ·rw [if_neg hj,h1] at h2; cases h2; exact ⟨rfl,rfl,rfl,rfl⟩
theorem clock_same : ∀ (m : Nat) (fs : List Fr) (h : Nat),SameFs fs (clockP m fs h).2.1
 | 0,fs,h => SameFs.refl fs
 | m + 1,fs,h => by
  unfold clockP
  split
  ·exact SameFs.refl fs
  ·rename_i f hf
   split
   ·exact clock_same m fs _
   ·split
    ·exact (SameFs.set hf).trans (clock_same m _ _)
    ·exact SameFs.refl fs
theorem clock_hand : ∀ (m : Nat) (fs : List Fr) (h : Nat),h < fs.length → (clockP m fs h).2.2 < fs.length
 | 0,fs,h,hh => hh
 | m + 1,fs,h,hh => by
  have hmod : (h + 1) % fs.length < fs.length := Nat.mod_lt _ (by omega)
  unfold clockP
  split
  ·exact hh
  ·rename_i f hf
   split
   ·exact clock_hand m fs _ hmod
   ·split
    ·have := clock_hand m (fs.set h { f with used := false }) ((h + 1) % fs.length) (by simpa using hmod)
     simpa using this
    ·exact hmod
theorem clock_step (m : Nat) {fs : List Fr} {h : Nat} {f : Fr} (hf : fs[h]? = some f) : clockP (m + 1) fs h = if 0 < f.pins then clockP m fs ((h + 1) % fs.length) else if f.used then clockP m (fs.set h { f with used := false }) ((h + 1) % fs.length) else (some h,fs,(h + 1) % fs.length) := by
 rw [clockP,hf]
theorem clock_add : ∀ (a b : Nat) (fs : List Fr) (h : Nat),h < fs.length → (clockP (a + b) fs h).1 = none → (clockP a fs h).1 = none ∧ clockP (a + b) fs h = clockP b (clockP a fs h).2.1 (clockP a fs h).2.2
 | 0,b,fs,h,hh,e => by rw [Nat.zero_add]; exact ⟨rfl,rfl⟩
 | a + 1,b,fs,h,hh,e => by
  have hmod : (h + 1) % fs.length < fs.length := Nat.mod_lt _ (by omega)
  rw [show a + 1 + b = (a + b) + 1 by omega] at e ⊢
  have hf : fs[h]? = some fs[h] := List.getElem?_eq_getElem hh
  rw [clock_step _ hf] at e
  rw [clock_step a hf,clock_step (a + b) hf]
  by_cases hp : 0 < (fs[h]).pins
  ·rw [if_pos hp] at e
   rw [if_pos hp,if_pos hp]
   exact clock_add a b fs _ hmod e
  ·rw [if_neg hp] at e
   rw [if_neg hp,if_neg hp]
   by_cases hu : (fs[h]).used = true
   ·rw [if_pos hu] at e
    rw [if_pos hu,if_pos hu]
    exact clock_add a b _ _ (by simpa using hmod) e
   ·rw [if_neg hu] at e
    cases e
theorem clock_none : ∀ (m : Nat) (fs : List Fr) (h : Nat),h < fs.length → m ≤ fs.length → (clockP m fs h).1 = none →
  (clockP m fs h).2.2 = (h + m) % fs.length ∧ (∀ (p : Nat) (f : Fr),(clockP m fs h).2.1[p]? = some f → (∃ j,j < m ∧ p = (h + j) % fs.length) → 0 < f.pins ∨ f.used = false) ∧ (∀ (p : Nat) (f : Fr),(clockP m fs h).2.1[p]? = some f → (∀ g,fs[p]? = some g → 0 < g.pins ∨ g.used = false) → 0 < f.pins ∨ f.used = false) ∧ ((∀ (p : Nat) (g : Fr),fs[p]? = some g → 0 < g.pins ∨ g.used = false) → ∀ (p : Nat) (g : Fr),fs[p]? = some g → (∃ j,j < m ∧ p = (h + j) % fs.length) → 0 < g.pins)
 | 0,fs,h,hh,hm,e => ⟨by rw [Nat.add_zero,Nat.mod_eq_of_lt hh]; rfl,fun p f _ ⟨j,hj,_⟩ => by omega,fun p f hf hg => hg f hf,fun _ p g _ ⟨j,hj,_⟩ => by omega⟩
 | m + 1,fs,h,hh,hm,e => by
  have hmod : (h + 1) % fs.length < fs.length := Nat.mod_lt _ (by omega)
  have hf : fs[h]? = some fs[h] := List.getElem?_eq_getElem hh
  have hsum : ∀ j,((h + 1) % fs.length + j) % fs.length = (h + (j + 1)) % fs.length := fun j => by
   rw [Nat.mod_add_mod]; congr 1; omega
  unfold clockP at e ⊢
  simp only [hf] at e ⊢
  by_cases hp : 0 < (fs[h]).pins
  ·simp only [if_pos hp] at e ⊢
   obtain ⟨h1,h2,h3,h4⟩ := clock_none m fs _ hmod (by omega) e
   refine ⟨by rw [h1,hsum],fun p f hpf ⟨j,hj,ej⟩ => ?_,h3,fun hall p g hg ⟨j,hj,ej⟩ => ?_⟩
   ·cases j with
    | zero =>
     rw [Nat.add_zero,Nat.mod_eq_of_lt hh] at ej
     subst ej
     exact h3 _ f hpf fun g hg => by rw [hf] at hg; cases hg; exact .inl hp
    | succ j => exact h2 p f hpf ⟨j,by omega,by rw [hsum]; exact ej⟩
   ·cases j with
    | zero =>
     rw [Nat.add_zero,Nat.mod_eq_of_lt hh] at ej
     subst ej
     rw [hf] at hg; cases hg; exact hp
    | succ j => exact h4 hall p g hg ⟨j,by omega,by rw [hsum]; exact ej⟩
  ·simp only [if_neg hp] at e ⊢
   by_cases hu : (fs[h]).used = true
   ·simp only [if_pos hu] at e ⊢
    have hlen : (fs.set h { fs[h] with used := false }).length = fs.length := by simp
    obtain ⟨h1,h2,h3,h4⟩ := clock_none m (fs.set h { fs[h] with used := false }) ((h + 1) % fs.length) (by rw [hlen]; exact hmod) (by rw [hlen]; omega) e
    rw [hlen] at h1 h2
    have hat : (fs.set h { fs[h] with used := false })[h]? = some { fs[h] with used := false } := by rw [List.getElem?_set_self hh]
    refine ⟨by rw [h1,hsum],fun p f hpf ⟨j,hj,ej⟩ => ?_,fun p f hpf hg => ?_,fun hall p g hg _ => ?_⟩
    ·cases j with
     | zero =>
      rw [Nat.add_zero,Nat.mod_eq_of_lt hh] at ej
      subst ej
      exact h3 _ f hpf fun g hg => by rw [hat] at hg; cases hg; exact .inr rfl
     | succ j => exact h2 p f hpf ⟨j,by omega,by rw [hsum]; exact ej⟩
    ·refine h3 p f hpf fun g hg2 => ?_
     by_cases hph : p = h
     ·subst hph; rw [hat] at hg2; cases hg2; exact .inr rfl
     ·rw [List.getElem?_set_ne (Ne.symm hph)] at hg2
      exact hg g hg2
    ·have := hall h _ hf
     rw [hu] at this
     rcases this with h9 | h9
     ·exact absurd h9 hp
     ·cases h9
   ·simp only [if_neg hu] at e
    cases e
theorem clock_full {fs : List Fr} {h : Nat} (hh : h < fs.length) (e : (clockP (2 * fs.length) fs h).1 = none) : ∀ f ∈ fs,0 < f.pins := by
 have h2 : 2 * fs.length = fs.length + fs.length := by omega
 rw [h2] at e
 obtain ⟨e1,e2⟩ := clock_add fs.length fs.length fs h hh e
 obtain ⟨a1,a2,a3,a4⟩ := clock_none fs.length fs h hh (Nat.le_refl _) e1
 have hs := clock_same fs.length fs h
 have hhand := clock_hand fs.length fs h hh
 rw [e2] at e
 generalize hfs1 : (clockP fs.length fs h).2.1 = fs1 at *
 generalize hh1 : (clockP fs.length fs h).2.2 = h1 at *
 have hlen := hs.len
 have hcov : ∀ (q p : Nat),q < fs.length → p < fs.length → ∃ j,j < fs.length ∧ p = (q + j) % fs.length := fun q p hq hp => by
  by_cases hqp : q ≤ p
  ·exact ⟨p - q,by omega,by rw [show q + (p - q) = p by omega,Nat.mod_eq_of_lt hp]⟩
  ·refine ⟨fs.length - q + p,by omega,?_⟩
   rw [show q + (fs.length - q + p) = p + fs.length by omega,Nat.add_mod_right,Nat.mod_eq_of_lt hp]
 have hall : ∀ (p : Nat) (g : Fr),fs1[p]? = some g → 0 < g.pins ∨ g.used = false := fun p g hg =>
  a2 p g hg (hcov h p hh (by have := (List.getElem?_eq_some_iff.1 hg).1; omega))
 rw [← hlen] at e
 obtain ⟨b1,b2,b3,b4⟩ := clock_none fs1.length fs1 h1 (by omega) (Nat.le_refl _) e
 intro f hf
 obtain ⟨p,hp,rfl⟩ := List.getElem_of_mem hf
 have hp1 : p < fs1.length := by omega
 have := b4 hall p _ (List.getElem?_eq_getElem hp1) (by rw [hlen]; exact hcov h1 p (by omega) hp)
 rw [(hs.at_ p _ _ (List.getElem?_eq_getElem hp) (List.getElem?_eq_getElem hp1)).2.2.1] at this
 exact this
def stK (y : GW) (x : DW) (s : St) (k : Nat) : List Asn := poolA y x s :: fsA y s :: (deskL y x s ++ (frsL (y.fs.eraseIdx k) (s.fs.eraseIdx k) ++ dkL x s.d))
theorem frsL_get {ws : List (Nat × Nat)} {fs : List Fr} {k : Nat} {w : Nat × Nat} {f : Fr} (h : ws[k]? = some w) (h' : fs[k]? = some f) : (frsL ws fs).Perm (frL w f ++ frsL (ws.eraseIdx k) (fs.eraseIdx k)) := zipL_get frL h h'
theorem st_open {y : GW} {x : DW} {s : St} {k : Nat} {w : Nat × Nat} {f : Fr} (h : y.fs[k]? = some w) (h' : s.fs[k]? = some f) : (stL y x s).Perm (frL w f ++ stK y x s k) := by
 have hp := frsL_get h h'
 rw [stL,stK]
 refine perm_cnt fun ff gg h0 hc ha hpm => ?_
 have h9 := hpm _ _ hp
 simp only [ha,hc,h0] at h9 ⊢
 omega
theorem st_shut {y : GW} {x : DW} {s : St} {k : Nat} (hk : k < s.fs.length) (hl : y.fs.length = s.fs.length) (w : Nat × Nat) (f : Fr) : (stL { y with fs := y.fs.set k w } x { s with fs := s.fs.set k f }).Perm (frL w f ++ (poolA y x s :: .own 153 1 y.fa s.fs.length y.fc (ptrsF (y.fs.set k w)) :: (deskL y x s ++ (frsL (y.fs.eraseIdx k) (s.fs.eraseIdx k) ++ dkL x s.d)))) := by
 have h1 : (y.fs.set k w)[k]? = some w := by rw [List.getElem?_set_self (by omega)]
 have h2 : (s.fs.set k f)[k]? = some f := by rw [List.getElem?_set_self hk]
 have hp := frsL_get h1 h2
 rw [List.eraseIdx_set_eq,List.eraseIdx_set_eq] at hp
 have e1 : poolA { y with fs := y.fs.set k w } x { s with fs := s.fs.set k f } = poolA y x s := by simp [poolA,poolC]
 have e2 : fsA { y with fs := y.fs.set k w } { s with fs := s.fs.set k f } = .own 153 1 y.fa s.fs.length y.fc (ptrsF (y.fs.set k w)) := by simp [fsA]
 have e3 : deskL { y with fs := y.fs.set k w } x { s with fs := s.fs.set k f } = deskL y x s := rfl
 rw [stL,e1,e2,e3]
 refine perm_cnt fun ff gg h0 hc ha hpm => ?_
 have h9 := hpm _ _ hp
 simp only [ha,hc,h0] at h9 ⊢
 omega
theorem ptrsF_set {ws : List (Nat × Nat)} {k : Nat} {w w' : Nat × Nat} (h : ws[k]? = some w) (hb : w'.1 = w.1) : ptrsF (ws.set k w') = ptrsF ws := by
 apply List.ext_getElem?
 intro j
 simp only [ptrsF,List.getElem?_map,List.getElem?_set]
 by_cases hj : k = j
 ·subst hj
  rw [if_pos rfl,if_pos (List.getElem?_eq_some_iff.1 h).1,h]
  simp [hb]
 ·rw [if_neg hj]
theorem st_turn {y : GW} {x : DW} {s : St} {k : Nat} {w w' : Nat × Nat} (hw : y.fs[k]? = some w) (hk : k < s.fs.length) (hl : y.fs.length = s.fs.length) (hb : w'.1 = w.1) (f : Fr) : (stL { y with fs := y.fs.set k w' } x { s with fs := s.fs.set k f }).Perm (frL w' f ++ stK y x s k) := by
 have := st_shut (x := x) hk hl w' f
 rw [ptrsF_set hw hb] at this
 exact this
theorem set_same {α : Type} {l : List α} {k : Nat} {x : α} (h : l[k]? = some x) : l.set k x = l := by
 apply List.ext_getElem?
 intro j
 rw [List.getElem?_set]
 split
 ·rename_i e; subst e
  rw [if_pos (List.getElem?_eq_some_iff.1 h).1,h]
 ·rfl
theorem st_turn1 {y : GW} {x : DW} {s : St} {k : Nat} {w : Nat × Nat} (hw : y.fs[k]? = some w) (hk : k < s.fs.length) (hl : y.fs.length = s.fs.length) (f : Fr) : (stL y x { s with fs := s.fs.set k f }).Perm (frL w f ++ stK y x s k) := by
 have := st_turn (x := x) hw hk hl (w' := w) rfl f
 rw [set_same hw] at this
 exact this
structure SeatY (y y1 : GW) (x x1 : DW) : Prop where
 jb : y1.jb = y.jb
 jc : y1.jc = y.jc
 pb : y1.pb = y.pb
 lwb : y1.lw.b = y.lw.b
 xb : x1.b = x.b
theorem SeatY.refl (y : GW) (x : DW) : SeatY y y x x := ⟨rfl,rfl,rfl,rfl,rfl⟩
def FreeOk (s s1 : St) (k : Nat) : Prop :=
 (s.fs.length < s.many ∧ k = s.fs.length ∧ ∃ F,s1 = { s with fs := s.fs ++ [F] }) ∨
 (¬ s.fs.length < s.many ∧ ∃ (fs1 : List Fr) (h1 : Nat) (f : Fr),SameFs s.fs fs1 ∧ h1 < fs1.length ∧ fs1[k]? = some f ∧ f.pins = 0 ∧
  ((f.dirty = false ∧ s1 = { s with fs := fs1,hand := h1 }) ∨ (f.dirty = true ∧ ∃ g,Sl.Rep g f.pg.1 f.pg.2 ∧ wroteE s f g.bs = 0 ∧ s1 = St.wrote { s with fs := fs1,hand := h1 } f g.bs)))
def FreeBad (s s1 : St) (c : Int) : Prop :=
 ¬ s.fs.length < s.many ∧ ∃ (fs1 : List Fr) (h1 : Nat),SameFs s.fs fs1 ∧ h1 < fs1.length ∧
  ((c = 120 ∧ (∀ f ∈ s.fs,0 < f.pins) ∧ s1 = { s with fs := fs1,hand := h1 }) ∨
   (∃ (k : Nat) (f : Fr) (g : Sl.Pg),fs1[k]? = some f ∧ f.pins = 0 ∧ f.dirty = true ∧ Sl.Rep g f.pg.1 f.pg.2 ∧ wroteE s f g.bs = c ∧ s1 = St.wrote { s with fs := fs1,hand := h1 } f g.bs))
def FreePost (y : GW) (x : DW) (s : St) (B : List Nat) (w : World) (e : Ending) (w' : World) : Prop :=
 (∃ (y1 : GW) (x1 : DW) (s1 : St) (k : Nat),e = .returned (.tuple #[.int .i64 (k : Int),.int .i64 0]) ∧ SeatY y y1 x x1 ∧ x1.Ok s1.d ∧ y1.fs.length = s1.fs.length ∧ k < s1.fs.length ∧ (∀ i,i ≠ k → y1.fs[i]? = y.fs[i]?) ∧ FreeOk s s1 k ∧ Hp B w w' (stK y1 x1 s1 k)) ∨
 (∃ (y1 : GW) (x1 : DW) (s1 : St) (c : Int),c ≠ 0 ∧ e = .returned (.tuple #[.int .i64 0,.int .i64 c]) ∧ SeatY y y1 x x1 ∧ x1.Ok s1.d ∧ y1.fs = y.fs ∧ FreeBad s s1 c ∧ Hp B w w' (stL y1 x1 s1))
theorem StOk.same {y : GW} {x : DW} {s : St} (h : StOk y x s) {fs1 : List Fr} (hs : SameFs s.fs fs1) {h1 : Nat} (hh : h1 < fs1.length) : StOk y x { s with fs := fs1,hand := h1 } := by
 have hl := hs.len
 have hh2 := h.len
 have hat : ∀ g ∈ fs1,∃ f ∈ s.fs,SameF f g := fun g hg => by
  obtain ⟨k,hk,rfl⟩ := List.getElem_of_mem hg
  exact ⟨_,List.getElem_mem (by omega),hs.at_ k _ _ (List.getElem?_eq_getElem (by omega)) (List.getElem?_eq_getElem hk)⟩
 refine ⟨by show y.fs.length = fs1.length; rw [hl]; exact h.fs,h.env,h.dk,by show fs1.length ≤ 64; omega,fun g hg => ?_,fun g hg => ?_,h.lg.imp (fun hd g hg => by obtain ⟨f,hf,hs⟩ := hat g hg; rw [hs.2.2.2]; exact hd f hf) id,by show h1 < 64; omega,h.pages,h.many⟩
 ·obtain ⟨f,hf,hs⟩ := hat g hg
  rw [hs.1]; exact h.num f hf
 ·obtain ⟨f,hf,hs⟩ := hat g hg
  rw [hs.2.2.1]; exact h.pins f hf
theorem wr_perm {y : GW} {x : DW} {s : St} {k : Nat} {w : Nat × Nat} {f : Fr} (h : y.fs[k]? = some w) (h' : s.fs[k]? = some f) : (stL y x s).Perm (wrL y x s w f ++ (fsA y s :: frsL (y.fs.eraseIdx k) (s.fs.eraseIdx k))) := by
 have hp := frsL_get h h'
 rw [stL,wrL]
 refine perm_cnt fun ff gg h0 hc ha hpm => ?_
 have h9 := hpm _ _ hp
 simp only [frL] at h9
 simp only [ha,hc,h0] at h9 ⊢
 omega
set_option maxHeartbeats 2000000 in
theorem free_spec (y : GW) (x : DW) (s : St) (ok : StOk y x s) {N : Nat} (fit : s.d.Fit N) (hN : N ≤ 400000) (hsz : ∀ n,0 ≤ (aheadR s n).1.size nData) (hfl : s.fs.length ≤ s.many) (hh : s.fs.length = s.many → s.hand < s.fs.length) (w : World) (st : Std w (stL y x s)) :
  Calls Tryz.prog 124 #[.pointer (some ⟨y.pb,0,none⟩)] w fun e w' => FreePost y x s (feet (stL y x s)) w e w' := by
 apply free.ok; unfold free.vc
 have H := Hp.startL st
 generalize hB : feet (stL y x s) = B at H ⊢
 have hlen := ok.len
 have hmany := ok.many
 have ldF : ∀ {s1 : St} {w1 w2 : World} {L : List Asn},Hp B w w1 L → Eqw w1 w2 → poolA y x s1 ∈ L → Ld Tryz.prog 132 w2 ⟨y.pb,4,none⟩ (.slice y.fa s1.fs.length y.fc) := fun {s1 _ _ _} K e m => K.ld (o := 4) (cs := poolC y x s1) e gSF m rfl
 have ldH : ∀ {s1 : St} {w1 w2 : World} {L : List Asn},Hp B w w1 L → Eqw w1 w2 → poolA y x s1 ∈ L → Ld Tryz.prog 3 w2 ⟨y.pb,5,none⟩ (.int .i64 (s1.hand : Int)) := fun {s1 _ _ _} K e m => K.ld (o := 5) (cs := poolC y x s1) e gInt m rfl
 refine onP_mk rfl ⟨_,_,_,ldF H (by exact ⟨rfl,rfl,rfl,rfl⟩) (mem_pool y x s),onP_mk rfl ⟨_,H.ld (o := 2) (cs := poolC y x s) (by exact ⟨rfl,rfl,rfl,rfl⟩) gInt (mem_pool y x s) rfl,br_dec (fun h => ?_) (fun h => ?_)⟩⟩
 ·-- one more
  have hlt : s.fs.length < s.many := by omega
  refine onP_mk rfl ⟨_,_,_,ldF H (by exact ⟨rfl,rfl,rfl,rfl⟩) (mem_pool y x s),?_⟩
  intro b w1 hn1
  replace H := H.drew.new (cs := [.int .i64 (-1),.pointer none,.int .i64 0,.bool false,.bool false]) (by exact ⟨rfl,rfl,rfl,rfl⟩) hn1; clear hn1
  intro b1 w2 hn1
  replace H := H.new (cs := [.pointer (some ⟨b,0,none⟩)]) (by exact ⟨rfl,rfl,rfl,rfl⟩) hn1; clear hn1
  rw [stL] at H
  have H2 := H.pull3
  clear H
  rw [fsA] at H2
  refine Hp.app geltF (by omega) H2 (by exact ⟨rfl,rfl,rfl,rfl⟩) (Blk.src (n := 1) gundF (H2.blk (.tail _ (.head _))) (by simp) (by rfl)) (by simp only [maxLen]; omega) (by omega) ?_
  clear H2; intro a5 c5 w5 H
  replace H := H.pull3
  rw [poolA] at H
  refine onP_mk rfl (Hp.st (o := 4) H (by exact ⟨rfl,rfl,rfl,rfl⟩) gSF rfl rfl (by simp [poolC]) (cs' := poolC { y with fa := a5,fc := c5 } x { s with fs := s.fs ++ [⟨0,([],0),0,false,false⟩] }) (by simp [poolC]) ?_)
  clear H; intro w6 H
  refine onP_mk rfl ⟨_,_,_,H.ld (o := 4) (cs := poolC { y with fa := a5,fc := c5 } x { s with fs := s.fs ++ [⟨0,([],0),0,false,false⟩] }) (by exact ⟨rfl,rfl,rfl,rfl⟩) gSF (.head _) rfl,inR64.2 ?_,?_⟩
  ·rw [List.length_append]; simp only [List.length_singleton]; omega
  ·left
   have hyl := ok.fs
   refine ⟨{ y with fa := a5,fc := c5,fs := y.fs ++ [(b,0)] },x,{ s with fs := s.fs ++ [⟨0,([],0),0,false,false⟩] },s.fs.length,?_,⟨rfl,rfl,rfl,rfl,rfl⟩,ok.dk,by simp [hyl],by simp,fun i hi => ?_,.inl ⟨hlt,rfl,_,rfl⟩,?_⟩
   ·have : (((s.fs ++ [(⟨0,([],0),0,false,false⟩ : Fr)]).length : Int) - 1) = (s.fs.length : Int) := by simp
    rw [this]
   ·rw [List.getElem?_append]
    by_cases h2 : i < y.fs.length
    ·rw [if_pos h2]
    ·rw [if_neg h2,List.getElem?_eq_none (by simp; omega),List.getElem?_eq_none (by omega)]
   ·have e1 : (y.fs ++ [(b,0)]).eraseIdx s.fs.length = y.fs := by rw [← hyl,List.eraseIdx_append_of_length_le (Nat.le_refl _)]; simp
    have e2 : (s.fs ++ [(⟨0,([],0),0,false,false⟩ : Fr)]).eraseIdx s.fs.length = s.fs := by rw [List.eraseIdx_append_of_length_le (Nat.le_refl _)]; simp
    have e3 : ptrsF (y.fs ++ [(b,0)]) = ptrsF y.fs ++ [.pointer (some ⟨b,0,none⟩)] := by simp [ptrsF]
    have H2 : Hp B w w6 (.blk b1 [.pointer (some ⟨b,0,none⟩)] 153 :: .blk b [.int .i64 (-1),.pointer none,.int .i64 0,.bool false,.bool false] 156 :: stK { y with fa := a5,fc := c5,fs := y.fs ++ [(b,0)] } x { s with fs := s.fs ++ [⟨0,([],0),0,false,false⟩] } s.fs.length) := by
     rw [stK,e1,e2,fsA,e3]
     have e4 : (s.fs ++ [(⟨0,([],0),0,false,false⟩ : Fr)]).length = s.fs.length + 1 := by simp
     rw [e4]
     refine H.perm ?_
     rw [poolA]
     have e5 : deskL { y with fa := a5,fc := c5,fs := y.fs ++ [(b,0)] } x { s with fs := s.fs ++ [⟨0,([],0),0,false,false⟩] } = deskL y x s := rfl
     have e6 : poolC { y with fa := a5,fc := c5,fs := y.fs ++ [(b,0)] } x { s with fs := s.fs ++ [⟨0,([],0),0,false,false⟩] } = poolC { y with fa := a5,fc := c5 } x { s with fs := s.fs ++ [⟨0,([],0),0,false,false⟩] } := rfl
     rw [e5,e6]
     (refine perm_cnt fun f g a b c d=>?_;simp only[c,b,a];omega)
    exact H2.drop.drop
 ·-- the clock
  have hnl : ¬ s.fs.length < s.many := by omega
  have hhand := hh (by omega)
  refine onP_mk rfl ⟨_,_,_,ldF H (by exact ⟨rfl,rfl,rfl,rfl⟩) (mem_pool y x s),inR64.2 (by omega),?_⟩
  refine LoopP.mk (fun m (i : Int × Int) w' => ∃ (c : Nat) (fs1 : List Fr) (h1 : Nat),m = 2 * s.fs.length - c ∧ c ≤ 2 * s.fs.length ∧ i = (-1,(c : Int)) ∧ SameFs s.fs fs1 ∧ h1 < fs1.length ∧ clockP (2 * s.fs.length - c) fs1 h1 = clockP (2 * s.fs.length) s.fs s.hand ∧ Hp B w w' (stL y x { s with fs := fs1,hand := h1 })) (2 * s.fs.length) ⟨0,s.fs,s.hand,rfl,by omega,rfl,SameFs.refl _,hhand,rfl,H.drew⟩ ?_
  clear H
  rintro m i w1 next ⟨c,fs1,h1,rfl,hc,rfl,hsame,hh1,hcl,H⟩ hnext
  dsimp only
  have ok1 := ok.same hsame hh1
  have hl1 := hsame.len
  refine br_dec (fun h2 => ?_) (fun h2 => ?_)
  ·have hcl2 : c < 2 * s.fs.length := by omega
   obtain ⟨wf,f,hw,hf⟩ := ok1.at hh1
   have hpf : f.pins ≤ 1000000 := ok1.pins f (List.mem_of_getElem? hf)
   have hnf : f.n < 4096 := ok1.num f (List.mem_of_getElem? hf)
   have K := (H.ownA (mem_fs y x { s with fs := fs1,hand := h1 })).cells
   have hp := ptrsF_at hw
   obtain ⟨ad,had,_⟩ := K _ _ hp
   have e1 : Int.toNat (h1 : Int) * 1 = h1 := by omega
   have et : Int.tmod ((h1 : Int) + 1) (fs1.length : Int) = (((h1 + 1) % fs1.length : Nat) : Int) := by rw [Int.natCast_emod]; exact Int.tmod_eq_emod_of_nonneg (by omega)
   have hmod : (h1 + 1) % fs1.length < fs1.length := Nat.mod_lt _ (by omega)
   have mp := mem_pool y x { s with fs := fs1,hand := h1 }
   refine onP_mk rfl ⟨_,_,_,ldF H (by exact ⟨rfl,rfl,rfl,rfl⟩) mp,onP_mk rfl ⟨_,ldH H (by exact ⟨rfl,rfl,rfl,rfl⟩) mp,?_⟩⟩
   refine onP_mk had ⟨⟨by show (0 : Int) ≤ (h1 : Int); omega,by show (h1 : Int) < (fs1.length : Int); omega⟩,_,by dsimp only; rw [e1]; exact (H.drew.ownA (mem_fs y x { s with fs := fs1,hand := h1 })).cells.ld gPF had hp,?_⟩
   refine onP_mk rfl ⟨_,ldH H (by exact ⟨rfl,rfl,rfl,rfl⟩) mp,onP_mk rfl ⟨_,ldH H (by exact ⟨rfl,rfl,rfl,rfl⟩) mp,inR64.2 (by dsimp only; omega),onP_mk rfl ⟨_,_,_,ldF H (by exact ⟨rfl,rfl,rfl,rfl⟩) mp,by show (fs1.length : Int) ≠ 0; omega,?_⟩⟩⟩
   dsimp only
   rw [et]
   have H0 : Hp B w w1.drew.drew (.blk y.pb (poolC y x { s with fs := fs1,hand := h1 }) 134 :: (fsA y { s with fs := fs1,hand := h1 } :: (deskL y x { s with fs := fs1,hand := h1 } ++ (frsL y.fs fs1 ++ dkL x s.d)))) := H.drew.drew
   refine onP_mk rfl (Hp.st (o := 5) H0 (by exact ⟨rfl,rfl,rfl,rfl⟩) gInt rfl rfl (by simp [poolC]) (cs' := poolC y x { s with fs := fs1,hand := (h1 + 1) % fs1.length }) rfl ?_)
   clear H0 H mp K; intro w2 H
   replace H : Hp B w w2 (stL y x { s with fs := fs1,hand := (h1 + 1) % fs1.length }) := H
   have mp := mem_pool y x { s with fs := fs1,hand := (h1 + 1) % fs1.length }
   have mf := mem_fr (x := x) (s := { s with fs := fs1,hand := (h1 + 1) % fs1.length }) hw hf
   have hstep := clock_step (2 * s.fs.length - (c + 1)) hf
   have hcs : 2 * s.fs.length - c = (2 * s.fs.length - (c + 1)) + 1 := by omega
   rw [hcs,hstep] at hcl
   refine onP_mk rfl ⟨_,H.ld (o := 2) (cs := frC wf f) (by exact ⟨rfl,rfl,rfl,rfl⟩) gInt mf rfl,br_dec (fun h3 => ?_) (fun h3 => ?_)⟩
   ·rw [if_pos (by omega)] at hcl
    exact ⟨inR64.2 (by omega),hnext (2 * s.fs.length - (c + 1)) _ _ (by omega) ⟨c + 1,fs1,(h1 + 1) % fs1.length,rfl,by omega,by simp,hsame,hmod,hcl,H⟩⟩
   ·have hp0 : f.pins = 0 := by omega
    rw [if_neg (by omega)] at hcl
    refine onP_mk rfl ⟨_,H.ld (o := 4) (cs := frC wf f) (by exact ⟨rfl,rfl,rfl,rfl⟩) gBool mf rfl,br_mk (fun hu => ?_) (fun hu => ?_)⟩
    ·rw [if_pos hu] at hcl
     have H2 : Hp B w w2 (.blk wf.1 (frC wf f) 156 :: pageA wf.2 f.pg :: stK y x { s with fs := fs1,hand := (h1 + 1) % fs1.length } h1) := H.perm (st_open hw hf)
     refine onP_mk rfl (Hp.st (o := 4) H2 (by exact ⟨rfl,rfl,rfl,rfl⟩) gBool rfl rfl (by simp [frC]) (cs' := frC wf { f with used := false }) rfl ?_)
     clear H2 H; intro w3 H
     have H3 : Hp B w w3 (stL y x { s with fs := fs1.set h1 { f with used := false },hand := (h1 + 1) % fs1.length }) := H.perm (st_turn1 (x := x) (s := { s with fs := fs1,hand := (h1 + 1) % fs1.length }) hw hh1 ok1.fs _).symm
     exact ⟨inR64.2 (by omega),hnext (2 * s.fs.length - (c + 1)) _ _ (by omega) ⟨c + 1,_,(h1 + 1) % fs1.length,rfl,by omega,by simp,hsame.trans (SameFs.set hf),by simpa using hmod,hcl,H3⟩⟩
    ·rw [if_neg (by simp [hu])] at hcl
     have K2 := (H.ownA (mem_fs y x { s with fs := fs1,hand := (h1 + 1) % fs1.length })).cells
     refine br_dec (fun h4 => by omega) (fun _ => ?_)
     refine onP_mk rfl ⟨_,_,_,ldF H (by exact ⟨rfl,rfl,rfl,rfl⟩) mp,?_⟩
     refine onP_mk had ⟨⟨by omega,by show (h1 : Int) < (fs1.length : Int); omega⟩,_,by rw [e1]; exact K2.ld gPF had hp,?_⟩
     refine onP_mk rfl ⟨_,H.ld (o := 3) (cs := frC wf f) (by exact ⟨rfl,rfl,rfl,rfl⟩) gBool mf rfl,br_mk (fun hd => ?_) (fun hd => ?_)⟩
     ·refine onP_mk rfl ⟨_,_,_,ldF H (by exact ⟨rfl,rfl,rfl,rfl⟩) mp,onP_mk had ⟨⟨by omega,by show (h1 : Int) < (fs1.length : Int); omega⟩,_,by rw [e1]; exact K2.ld gPF had hp,?_⟩⟩
      have ok2 : StOk y x { s with fs := fs1,hand := (h1 + 1) % fs1.length } := ok.same hsame hmod
      have H2 := H.perm (wr_perm (x := x) (s := { s with fs := fs1,hand := (h1 + 1) % fs1.length }) hw hf)
      clear H
      refine callV (fwrite_spec y x { s with fs := fs1,hand := (h1 + 1) % fs1.length } ok2 (ok2.lg.resolve_left fun h => by have := h f (List.mem_of_getElem? hf); rw [hd] at this; cases this) fit hN wf f (hsz f.pg.2) hnf w2 H2.std1) ?_
      rintro e w3 ⟨g,hR,rfl,x2,la,hx2b,hlab,hx2,H'⟩
      have H3 := H2.useL H'
      clear H2 H'
      have eE : wroteE { s with fs := fs1,hand := (h1 + 1) % fs1.length } f g.bs = wroteE s f g.bs := rfl
      rw [eE] at H3 ⊢
      refine ⟨_,rfl,br_ndec (fun hE => ?_) (fun hE => ?_)⟩
      ·right
       have hfw : f.wrote (wroteE s f g.bs) = f := by rw [Fr.wrote,if_neg hE]
       rw [hfw] at H3
       refine ⟨{ y with lw := la },x2,St.wrote { s with fs := fs1,hand := (h1 + 1) % fs1.length } f g.bs,_,hE,rfl,⟨rfl,rfl,rfl,hlab,hx2b⟩,hx2,rfl,⟨hnl,fs1,_,hsame,hmod,.inr ⟨h1,f,g,hf,hp0,hd,hR,rfl,rfl⟩⟩,?_⟩
       exact H3.perm (wr_perm (y := { y with lw := la }) (x := x2) (s := St.wrote { s with fs := fs1,hand := (h1 + 1) % fs1.length } f g.bs) hw hf).symm
      ·left
       refine ⟨{ y with lw := la },x2,St.wrote { s with fs := fs1,hand := (h1 + 1) % fs1.length } f g.bs,h1,?_,⟨rfl,rfl,rfl,hlab,hx2b⟩,hx2,ok1.fs,hh1,fun _ _ => rfl,.inr ⟨hnl,fs1,_,f,hsame,hmod,hf,hp0,.inr ⟨hd,g,hR,hE,rfl⟩⟩,?_⟩
       ·rfl
       ·have H4 : Hp B w w3 (.blk wf.1 (frC wf (f.wrote (wroteE s f g.bs))) 156 :: pageA wf.2 f.pg :: stK { y with lw := la } x2 (St.wrote { s with fs := fs1,hand := (h1 + 1) % fs1.length } f g.bs) h1) := H3.perm (by
         rw [wrL,stK]
         show List.Perm (.blk wf.1 (frC wf (f.wrote (wroteE s f g.bs))) 156 :: pageA wf.2 f.pg :: poolA { y with lw := la } x2 (St.wrote { s with fs := fs1,hand := (h1 + 1) % fs1.length } f g.bs) :: (deskL { y with lw := la } x2 (St.wrote { s with fs := fs1,hand := (h1 + 1) % fs1.length } f g.bs) ++ dkL x2 (St.wrote { s with fs := fs1,hand := (h1 + 1) % fs1.length } f g.bs).d) ++ (fsA y { s with fs := fs1,hand := (h1 + 1) % fs1.length } :: frsL (y.fs.eraseIdx h1) (fs1.eraseIdx h1))) (.blk wf.1 (frC wf (f.wrote (wroteE s f g.bs))) 156 :: pageA wf.2 f.pg :: poolA { y with lw := la } x2 (St.wrote { s with fs := fs1,hand := (h1 + 1) % fs1.length } f g.bs) :: fsA y { s with fs := fs1,hand := (h1 + 1) % fs1.length } :: (deskL { y with lw := la } x2 (St.wrote { s with fs := fs1,hand := (h1 + 1) % fs1.length } f g.bs) ++ (frsL (y.fs.eraseIdx h1) (fs1.eraseIdx h1) ++ dkL x2 (St.wrote { s with fs := fs1,hand := (h1 + 1) % fs1.length } f g.bs).d)))
         (refine perm_cnt fun f g a b c d=>?_;simp only[c,b,a];omega))
        exact H4.drop.drop
     ·left
      have H2 : Hp B w w2 (.blk wf.1 (frC wf f) 156 :: pageA wf.2 f.pg :: stK y x { s with fs := fs1,hand := (h1 + 1) % fs1.length } h1) := H.perm (st_open hw hf)
      exact ⟨y,x,{ s with fs := fs1,hand := (h1 + 1) % fs1.length },h1,rfl,SeatY.refl y x,ok.dk,ok1.fs,hh1,fun _ _ => rfl,.inr ⟨hnl,fs1,_,f,hsame,hmod,hf,hp0,.inl ⟨hd,rfl⟩⟩,H2.drop.drop⟩
  ·have hce : 2 * s.fs.length - c = 0 := by omega
   rw [hce] at hcl
   have hnone : (clockP (2 * s.fs.length) s.fs s.hand).1 = none := by rw [← hcl]; rfl
   refine br_dec (fun _ => ?_) (fun h3 => by omega)
   right
   exact ⟨y,x,{ s with fs := fs1,hand := h1 },120,by omega,rfl,SeatY.refl y x,ok.dk,rfl,⟨hnl,fs1,h1,hsame,hh1,.inl ⟨rfl,clock_full hhand hnone,rfl⟩⟩,H⟩
end Go.Proofs.YtdeebigmpffnbaaGreat
namespace Go.Proofs.YtdeebigmpffnbaaGreat
open Go Go.Vc Go.Vault Go.Redo
def holdL (y : GW) (x : DW) (s : St) (k b n : Nat) : List Asn := poolA y x { s with pages := max s.pages (n + 1) } :: .own 153 1 y.fa s.fs.length y.fc (ptrsF (y.fs.set k (b,0))) :: (deskL y x s ++ (frsL (y.fs.eraseIdx k) (s.fs.eraseIdx k) ++ dkL x s.d))
theorem ptrsF_put {ws : List (Nat × Nat)} {k : Nat} (b p : Nat) : ptrsF (ws.set k (b,p)) = (ptrsF ws).set k (.pointer (some ⟨b,0,none⟩)) := by simp [ptrsF,List.map_set]
theorem hold_shut {y : GW} {x : DW} {s : St} {k b p n : Nat} (hk : k < s.fs.length) (hl : y.fs.length = s.fs.length) (F : Fr) :
  (.blk b (frC (b,p) F) 156 :: pageA p F.pg :: holdL y x s k b n).Perm (stL { y with fs := y.fs.set k (b,p) } x { s with fs := s.fs.set k F,pages := max s.pages (n + 1) }) := by
 have := st_shut (y := y) (x := x) (s := { s with pages := max s.pages (n + 1) }) hk hl (b,p) F
 rw [ptrsF_put] at this
 rw [holdL,ptrsF_put]
 exact this.symm
def HoldBad (y : GW) (x : DW) (s : St) (B : List Nat) (w : World) (e : Ending) (w' : World) : Prop :=
 ∃ (y1 : GW) (x1 : DW) (s1 : St) (c : Int),c ≠ 0 ∧ e = .returned (.tuple #[.pointer none,.int .i64 c]) ∧ SeatY y y1 x x1 ∧ x1.Ok s1.d ∧ y1.fs = y.fs ∧ FreeBad s s1 c ∧ Hp B w w' (stL y1 x1 s1)
theorem hold_spec (y : GW) (x : DW) (s : St) (ok : StOk y x s) {N : Nat} (fit : s.d.Fit N) (hN : N ≤ 400000) (hsz : ∀ n,0 ≤ (aheadR s n).1.size nData) (hfl : s.fs.length ≤ s.many) (hh : s.fs.length = s.many → s.hand < s.fs.length) (n : Nat) (hn : n < 4096) (pv : Option Addr) (w : World) (st : Std w (stL y x s)) :
  Calls Tryz.prog 88 #[.pointer (some ⟨y.pb,0,none⟩),.int .i64 (n : Int),.pointer pv] w fun e w' =>
   (∃ (y1 : GW) (x1 : DW) (s1 : St) (k b : Nat),e = .returned (.tuple #[.pointer (some ⟨b,0,none⟩),.int .i64 0]) ∧ SeatY y y1 x x1 ∧ x1.Ok s1.d ∧ y1.fs.length = s1.fs.length ∧ k < s1.fs.length ∧ (∀ i,i ≠ k → y1.fs[i]? = y.fs[i]?) ∧ FreeOk s s1 k ∧
    Hp (feet (stL y x s)) w w' (.blk b [.int .i64 (n : Int),.pointer pv,.int .i64 0,.bool false,.bool true] 156 :: holdL y1 x1 s1 k b n)) ∨
   HoldBad y x s (feet (stL y x s)) w e w' := by
 apply hold.ok; unfold hold.vc
 refine callV (free_spec y x s ok fit hN hsz hfl hh w st) ?_
 generalize hB : feet (stL y x s) = B
 rintro e w1 (⟨y1,x1,s1,k,rfl,hS,hx1,hl1,hk,hoth,hF,H⟩ | ⟨y1,x1,s1,c,hc,rfl,hS,hx1,hl1,hF,H⟩)
 ·refine ⟨_,_,rfl,br_ndec (fun h => absurd rfl h) (fun _ => ?_)⟩
  have e1 : Int.toNat (k : Int) * 1 = k := by omega
  rw [stK] at H
  have epb := hS.pb
  rw [← epb]
  have hown := H.ownA (a := y1.fa) (n := s1.fs.length) (c := y1.fc) (xs := ptrsF y1.fs) (.tail _ (.head _))
  have hpl : k < (ptrsF y1.fs).length := by simp [ptrsF]; omega
  obtain ⟨ad,had,_⟩ := hown.at hpl
  have hpg : s1.pages ≤ 4096 := by
   have h9 := ok.pages
   rcases hF with ⟨_,_,F,rfl⟩ | ⟨_,fs1,h1,f,_,_,_,_,⟨_,rfl⟩ | ⟨_,g,_,_,rfl⟩⟩ <;> exact h9
  refine onP_mk rfl ⟨_,_,_,H.ld (o := 4) (cs := poolC y1 x1 s1) (by exact ⟨rfl,rfl,rfl,rfl⟩) gSF (.head _) rfl,?_⟩
  intro b w2 hn1
  replace H := H.new (cs := [.int .i64 (n : Int),.pointer pv,.int .i64 0,.bool false,.bool true]) (by exact ⟨rfl,rfl,rfl,rfl⟩) hn1; clear hn1
  have H2 := H.pull2
  clear H
  rw [fsA] at H2
  refine onP_mk had ⟨⟨by omega,by omega⟩,?_⟩
  rw [e1]
  refine Hp.stO1 H2 (by exact ⟨rfl,rfl,rfl,rfl⟩) gPF had rfl rfl hpl ?_
  clear H2; intro w3 H
  refine onP_mk rfl ⟨_,H.ld (o := 6) (cs := poolC y1 x1 s1) (by exact ⟨rfl,rfl,rfl,rfl⟩) gInt (.tail _ (.tail _ (.head _))) rfl,inR64.2 (by omega),?_⟩
  have em : max (s1.pages : Int) ((n : Int) + 1) = ((max s1.pages (n + 1) : Nat) : Int) := by omega
  rw [em]
  have H2 := H.pull2
  clear H
  rw [poolA] at H2
  refine onP_mk rfl (Hp.st (o := 6) H2 (by exact ⟨rfl,rfl,rfl,rfl⟩) gInt rfl rfl (by simp [poolC]) (cs' := poolC y1 x1 { s1 with pages := max s1.pages (n + 1) }) rfl ?_)
  clear H2; intro w4 H
  have K := (H.ownA (.tail _ (.head _))).cells
  have hat : ((ptrsF y1.fs).set k (.pointer (some ⟨b,0,none⟩)))[k]? = some (.pointer (some ⟨b,0,none⟩)) := by rw [List.getElem?_set_self hpl]
  refine onP_mk rfl ⟨_,_,_,H.ld (o := 4) (cs := poolC y1 x1 { s1 with pages := max s1.pages (n + 1) }) (by exact ⟨rfl,rfl,rfl,rfl⟩) gSF (.head _) rfl,onP_mk had ⟨⟨by omega,by show (k : Int) < (s1.fs.length : Int); omega⟩,_,K.ld gPF had hat,?_⟩⟩
  left
  refine ⟨y1,x1,s1,k,b,rfl,hS,hx1,hl1,hk,hoth,hF,?_⟩
  rw [holdL,ptrsF_put,poolA]
  exact H.pull2
 ·refine ⟨_,_,rfl,br_ndec (fun _ => ?_) (fun h => absurd h hc)⟩
  right
  exact ⟨y1,x1,s1,c,hc,rfl,hS,hx1,hl1,hF,H⟩
theorem find_some {fs : List Fr} {n : Int} {j : Nat} (h : findN fs n = some j) : ∃ f,fs[j]? = some f ∧ (f.n : Int) = n := by
 rw [findN,List.findIdx?_eq_some_iff_getElem] at h
 obtain ⟨hj,h1,_⟩ := h
 exact ⟨_,List.getElem?_eq_getElem hj,by simpa using h1⟩
theorem eqvF {w : World} {p : Option Addr} {x y : Operand} : Eqv Tryz.prog .eql 153 x y w (.pointer p) (.pointer none) p.isNone := eqv_ptrE gundPF
def GetOk (y1 : GW) (s s1 : St) (n a : Nat) : Prop :=
 (∃ (j : Nat) (f : Fr) (w : Nat × Nat),findN s.fs (n : Int) = some j ∧ s.fs[j]? = some f ∧ f.n = n ∧ y1.fs[j]? = some w ∧ w.2 = a ∧ s1 = { s with fs := s.fs.set j { f with pins := f.pins + 1,used := true } }) ∨
 (∃ (s0 : St) (k : Nat) (P : AP) (b : Nat),findN s.fs (n : Int) = none ∧ (readP s.d n).1 = some P ∧ FreeOk s s0 k ∧ k < s0.fs.length ∧ y1.fs[k]? = some (b,a) ∧ s1 = { s0 with fs := s0.fs.set k ⟨n,P,1,false,true⟩,pages := max s0.pages (n + 1) })
def GetBad (s s1 : St) (n : Nat) (c : Int) : Prop :=
 findN s.fs (n : Int) = none ∧ (((readP s.d n).1 = none ∧ c = (readP s.d n).2 ∧ s1 = s) ∨ ((∃ P,(readP s.d n).1 = some P) ∧ FreeBad s s1 c))
def GetPost (y : GW) (x : DW) (s : St) (n : Nat) (B : List Nat) (w : World) (e : Ending) (w' : World) : Prop :=
 ∃ (y1 : GW) (x1 : DW) (s1 : St),SeatY y y1 x x1 ∧ x1.Ok s1.d ∧ y1.fs.length = s1.fs.length ∧ Hp B w w' (stL y1 x1 s1) ∧
  ((∃ a,e = .returned (.tuple #[.pointer (some ⟨a,0,none⟩),.int .i64 0]) ∧ GetOk y1 s s1 n a) ∨ (∃ c,c ≠ 0 ∧ e = .returned (.tuple #[.pointer none,.int .i64 c]) ∧ GetBad s s1 n c))
theorem FreeBad.len {s s1 : St} {c : Int} (h : FreeBad s s1 c) : s1.fs.length = s.fs.length := by
 rcases h with ⟨_,fs1,h1,hs,_,⟨_,_,rfl⟩ | ⟨k,f,g,_,_,_,_,_,rfl⟩⟩
 ·exact hs.len
 ·exact hs.len
set_option maxHeartbeats 2000000 in
theorem getG_spec (y : GW) (x : DW) (s : St) (ok : StOk y x s) {N : Nat} (fit : s.d.Fit N) (hN : N ≤ 400000) (hsz : ∀ n,0 ≤ (aheadR s n).1.size nData) (hfl : s.fs.length ≤ s.many) (hh : s.fs.length = s.many → s.hand < s.fs.length) (n : Nat) (hn : n < 4096) (w : World) (st : Std w (stL y x s)) :
  Calls Tryz.prog 114 #[.pointer (some ⟨y.pb,0,none⟩),.int .i64 (n : Int)] w fun e w' => GetPost y x s n (feet (stL y x s)) w e w' := by
 have hx := ok.dk
 have hyl := ok.fs
 apply fget.ok; unfold fget.vc
 refine br_dec (fun h => by omega) (fun _ => br_dec (fun h => by omega) (fun _ => ?_))
 refine callV (ffind_spec y x s ok n w st) ?_
 rintro e w1 ⟨rfl,rfl⟩
 refine ⟨_,rfl,_,eqvF,?_⟩
 have H := Hp.startL st
 generalize hB : feet (stL y x s) = B at H ⊢
 cases hfd : findN s.fs (n : Int) with
 | some j =>
  obtain ⟨f,hf,hfn⟩ := find_some hfd
  have hj := (List.getElem?_eq_some_iff.1 hf).1
  obtain ⟨wf,f',hw,hf'⟩ := ok.at hj
  rw [hf] at hf'; cases hf'
  have hfn : f.n = n := by omega
  subst hfn
  have hpl := ok.pins f (List.mem_of_getElem? hf)
  simp only [frP,hw,Option.map_some]
  refine br_mk (fun h => by cases h) (fun _ => ?_)
  have H2 : Hp B w1 w1 (.blk wf.1 (frC wf f) 156 :: pageA wf.2 f.pg :: stK y x s j) := H.perm (st_open hw hf)
  clear H
  refine onP_mk rfl ⟨_,H2.ld (o := 2) (cs := frC wf f) (by exact ⟨rfl,rfl,rfl,rfl⟩) gInt (.head _) rfl,inR64.2 (by omega),?_⟩
  refine onP_mk rfl (Hp.st (o := 2) H2 (by exact ⟨rfl,rfl,rfl,rfl⟩) gInt rfl rfl (by simp [frC]) (cs' := frC wf { f with pins := f.pins + 1 }) rfl ?_)
  clear H2; intro w2 H
  refine onP_mk rfl (Hp.st (o := 4) H (by exact ⟨rfl,rfl,rfl,rfl⟩) gBool rfl rfl (by simp [frC]) (cs' := frC wf { f with pins := f.pins + 1,used := true }) rfl ?_)
  clear H; intro w3 H
  refine onP_mk rfl ⟨_,H.ld (o := 1) (cs := frC wf { f with pins := f.pins + 1,used := true }) (by exact ⟨rfl,rfl,rfl,rfl⟩) gPG (.head _) rfl,?_⟩
  have H2 : Hp B w1 w3 (stL y x { s with fs := s.fs.set j { f with pins := f.pins + 1,used := true } }) := H.perm (st_turn1 (x := x) hw hj hyl _).symm
  exact ⟨y,x,{ s with fs := s.fs.set j { f with pins := f.pins + 1,used := true } },SeatY.refl y x,hx,by show _ = (s.fs.set j _).length; rw [List.length_set]; exact hyl,H2,.inl ⟨wf.2,rfl,.inl ⟨j,f,wf,hfd,hf,rfl,hw,rfl,rfl⟩⟩⟩
 | none =>
  refine br_mk (fun _ => ?_) (fun h => by cases h)
  have hsub : ∀ w',Chg [] w1 w' → Std w' (dkL x s.d) := fun w' hc => by
   have := (H.chg0 hc)
   rw [stL] at this
   exact this.drop.drop |>.perm (by rw [← List.append_assoc]; exact List.perm_append_comm) |>.std1
  refine callV (freadG_spec y x s hx n (by omega) w1 (H.blk (mem_pool y x s)) (hsub w1 (Chg.refl _ _))) ?_
  rintro e w2 (⟨hr,rfl,H'⟩ | ⟨P,b,hr,rfl,H'⟩)
  ·have hne := readP_none hr
   exact ⟨_,_,rfl,br_ndec (fun _ => ⟨y,x,s,SeatY.refl y x,hx,hyl,H.ext0 H',.inr ⟨_,hne,rfl,hfd,.inl ⟨hr,rfl,rfl⟩⟩⟩) (fun h => absurd h hne)⟩
  have H2 : Hp B w1 w2 (stL y x s ++ [pageA b P]) := (H.ext H').perm List.perm_append_comm
  clear H H'
  refine ⟨_,_,rfl,br_ndec (fun h => absurd rfl h) (fun _ => ?_)⟩
  refine callV (hold_spec y x s ok fit hN hsz hfl hh n (by omega) (some ⟨b,0,none⟩) w2 H2.std1) ?_
  rintro e w3 (⟨y1,x1,s1,k,fb,rfl,hS,hx1,hl1,hk,hoth,hF,H'⟩ | ⟨y1,x1,s1,c,hc,rfl,hS,hx1,hl1,hF,H'⟩)
  ·have H3 := H2.useL H'
   clear H2 H'
   refine ⟨_,_,rfl,br_ndec (fun h => absurd rfl h) (fun _ => ?_)⟩
   replace H3 : Hp B w1 w3 (.blk fb [.int .i64 (n : Int),.pointer (some ⟨b,0,none⟩),.int .i64 0,.bool false,.bool true] 156 :: (holdL y1 x1 s1 k fb n ++ [pageA b P])) := H3
   refine onP_mk rfl ⟨_,H3.ld (o := 2) (cs := [.int .i64 (n : Int),.pointer (some ⟨b,0,none⟩),.int .i64 0,.bool false,.bool true]) (by exact ⟨rfl,rfl,rfl,rfl⟩) gInt (.head _) rfl,inR64.2 (by omega),?_⟩
   refine onP_mk rfl (Hp.st (o := 2) H3 (by exact ⟨rfl,rfl,rfl,rfl⟩) gInt rfl rfl (by simp) (cs' := [.int .i64 (n : Int),.pointer (some ⟨b,0,none⟩),.int .i64 1,.bool false,.bool true]) rfl ?_)
   clear H3; intro w4 H
   refine onP_mk rfl (Hp.st (o := 4) H (by exact ⟨rfl,rfl,rfl,rfl⟩) gBool rfl rfl (by simp) (cs' := frC (fb,b) ⟨n,P,1,false,true⟩) rfl ?_)
   clear H; intro w5 H
   refine onP_mk rfl ⟨_,H.ld (o := 1) (cs := frC (fb,b) ⟨n,P,1,false,true⟩) (by exact ⟨rfl,rfl,rfl,rfl⟩) gPG (.head _) rfl,?_⟩
   have H2 : Hp B w1 w5 (stL { y1 with fs := y1.fs.set k (fb,b) } x1 { s1 with fs := s1.fs.set k ⟨n,P,1,false,true⟩,pages := max s1.pages (n + 1) }) := H.perm ((List.Perm.cons _ (List.perm_append_comm (l₂ := [pageA b P]))).trans (hold_shut (p := b) hk hl1 ⟨n,P,1,false,true⟩))
   exact ⟨{ y1 with fs := y1.fs.set k (fb,b) },x1,{ s1 with fs := s1.fs.set k ⟨n,P,1,false,true⟩,pages := max s1.pages (n + 1) },⟨hS.jb,hS.jc,hS.pb,hS.lwb,hS.xb⟩,hx1,by simp [hl1],H2,.inl ⟨b,rfl,.inr ⟨s1,k,P,fb,hfd,hr,hF,hk,by show (y1.fs.set k (fb,b))[k]? = _; rw [List.getElem?_set_self (by omega)],rfl⟩⟩⟩
  ·have H3 := H2.useL H'
   clear H2 H'
   refine ⟨_,_,rfl,br_ndec (fun _ => ?_) (fun h => absurd h hc)⟩
   exact ⟨y1,x1,s1,hS,hx1,by rw [hl1,hF.len]; exact hyl,H3.takeL,.inr ⟨c,hc,rfl,hfd,.inr ⟨⟨P,hr⟩,hF⟩⟩⟩
end Go.Proofs.YtdeebigmpffnbaaGreat
namespace Go.Proofs.YtdeebigmpffnbaaGreat
open Go Go.Vc Go.Vault Go.Redo
def doneP (s : St) (n : Nat) (ch : Bool) : St × Bool :=
 match findN s.fs (n : Int) with
 | none => (s,false)
 | some j => match s.fs[j]? with
  | none => (s,false)
  | some f => if f.pins = 0 then (s,false) else ({ s with fs := s.fs.set j { f with pins := f.pins - 1,dirty := f.dirty || ch } },true)
set_option maxHeartbeats 1000000 in
theorem doneG_spec (y : GW) (x : DW) (s : St) (ok : StOk y x s) (n : Nat) (ch : Bool) (w : World) (st : Std w (stL y x s)) :
  Calls Tryz.prog 115 #[.pointer (some ⟨y.pb,0,none⟩),.int .i64 (n : Int),.bool ch] w fun e w' => e = .returned (.bool (doneP s n ch).2) ∧ Hp (feet (stL y x s)) w w' (stL y x (doneP s n ch).1) := by
 have hyl := ok.fs
 apply fdone.ok; unfold fdone.vc
 refine callV (ffind_spec y x s ok n w st) ?_
 rintro e w1 ⟨rfl,rfl⟩
 have H := Hp.startL st
 generalize hB : feet (stL y x s) = B at H ⊢
 refine ⟨_,rfl,br_dec (fun h => by omega) (fun h => ⟨_,eqvF,?_⟩)⟩
 rw [doneP]
 cases hfd : findN s.fs (n : Int) with
 | none => exact br_mk (fun _ => ⟨rfl,H⟩) (fun h => by cases h)
 | some j =>
  obtain ⟨f,hfj,hfn⟩ := find_some hfd
  have hj := (List.getElem?_eq_some_iff.1 hfj).1
  obtain ⟨wf,f',hw,hf'⟩ := ok.at hj
  rw [hfj] at hf'; cases hf'
  have hpl := ok.pins f (List.mem_of_getElem? hfj)
  simp only [frP,hw,Option.map_some,hfj]
  refine br_mk (fun h => by cases h) (fun _ => ?_)
  refine onP_mk rfl ⟨_,H.ld (o := 2) (cs := frC wf f) (by exact ⟨rfl,rfl,rfl,rfl⟩) gInt (mem_fr hw hfj) rfl,br_dec (fun h0 => ?_) (fun h0 => ?_)⟩
  ·rw [if_pos (by omega)]
   exact ⟨rfl,H⟩
  ·rw [if_neg (by omega)]
   have H2 : Hp B w1 w1 (.blk wf.1 (frC wf f) 156 :: pageA wf.2 f.pg :: stK y x s j) := H.perm (st_open hw hfj)
   clear H
   refine onP_mk rfl ⟨_,H2.ld (o := 2) (cs := frC wf f) (by exact ⟨rfl,rfl,rfl,rfl⟩) gInt (.head _) rfl,inR64.2 (by omega),?_⟩
   have ep : (f.pins : Int) - 1 = ((f.pins - 1 : Nat) : Int) := by omega
   rw [ep]
   refine onP_mk rfl (Hp.st (o := 2) H2 (by exact ⟨rfl,rfl,rfl,rfl⟩) gInt rfl rfl (by simp [frC]) (cs' := frC wf { f with pins := f.pins - 1 }) rfl ?_)
   clear H2; intro w2 H
   have fin : ∀ (b : Bool) (w3 : World),b = (f.dirty || ch) → Hp B w1 w3 (.blk wf.1 (frC wf { f with pins := f.pins - 1,dirty := b }) 156 :: pageA wf.2 f.pg :: stK y x s j) → Hp B w1 w3 (stL y x { s with fs := s.fs.set j { f with pins := f.pins - 1,dirty := f.dirty || ch } }) := by
    rintro b w3 rfl H3
    exact H3.perm (st_turn1 (x := x) hw hj hyl _).symm
   refine onP_mk rfl ⟨_,H.ld (o := 3) (cs := frC wf { f with pins := f.pins - 1 }) (by exact ⟨rfl,rfl,rfl,rfl⟩) gBool (.head _) rfl,br_mk (fun hd => ?_) (fun hd => ?_)⟩
   ·refine onP_mk rfl (Hp.st (o := 3) H (by exact ⟨rfl,rfl,rfl,rfl⟩) gBool rfl rfl (by simp [frC]) (cs' := frC wf { f with pins := f.pins - 1,dirty := true }) rfl ?_)
    clear H; intro w3 H
    exact ⟨rfl,fin true w3 (by have : f.dirty = true := hd; rw [this]; rfl) H⟩
   ·refine onP_mk rfl (Hp.st (o := 3) H (by exact ⟨rfl,rfl,rfl,rfl⟩) gBool rfl rfl (by simp [frC]) (cs' := frC wf { f with pins := f.pins - 1,dirty := ch }) rfl ?_)
    clear H; intro w3 H
    exact ⟨rfl,fin ch w3 (by have : f.dirty = false := hd; rw [this]; rfl) H⟩
end Go.Proofs.YtdeebigmpffnbaaGreat
namespace Go.Proofs.YtdeebigmpffnbaaGreat
open Go Go.Vc Go.Vault Go.Redo
structure Safe (I : St → Prop) : Prop where
 fit : ∀ s,I s → s.d.Fit 400000
 lg : ∀ s,I s → LgB s.lg
 size : ∀ s,I s → ∀ n,0 ≤ (aheadR s n).1.size nData
 wrote : ∀ (s : St) (f : Fr) (g : Sl.Pg),I s → f.n < 4096 → Sl.Rep g f.pg.1 f.pg.2 → I (s.wrote f g.bs)
 fs : ∀ (s : St) (fs : List Fr) (h p : Nat),I s → I { s with fs := fs,hand := h,pages := p }
inductive FlushW : List Int → St → St → Int → Prop where
 | nil (s : St) : FlushW [] s s 0
 | ok (z : Int) (l : List Int) (s s' : St) (c : Int) (j : Nat) (f : Fr) (g : Sl.Pg) : findN s.fs z = some j → s.fs[j]? = some f → (f.n : Int) = z → Sl.Rep g f.pg.1 f.pg.2 → wroteE s f g.bs = 0 →
   FlushW l { s.wrote f g.bs with fs := s.fs.set j { f with dirty := false } } s' c → FlushW (z :: l) s s' c
 | bad (z : Int) (l : List Int) (s : St) (j : Nat) (f : Fr) (g : Sl.Pg) : findN s.fs z = some j → s.fs[j]? = some f → (f.n : Int) = z → Sl.Rep g f.pg.1 f.pg.2 → wroteE s f g.bs ≠ 0 → FlushW (z :: l) s (s.wrote f g.bs) (wroteE s f g.bs)
theorem mem_sortZ {z : Int} {l : List Int} : z ∈ sortZ l ↔ z ∈ l := (List.mergeSort_perm l _).mem_iff
end Go.Proofs.YtdeebigmpffnbaaGreat
namespace Go.Proofs.YtdeebigmpffnbaaGreat
open Go Go.Vc Go.Vault Go.Redo
theorem gU8 : Scl Tryz.prog 5 := scl_of (by kernel_rfl)
theorem gundS : Tryz.prog.underlying 9 = some .string := by kernel_rfl
theorem gundU1 : Tryz.prog.underlying 5 = some (.int .u8) := by kernel_rfl
theorem jval_spec (l : List UInt8) (hl : l.length ≤ 6) (w : World) : Calls Tryz.prog 112 #[.string ⟨l.toArray⟩] w fun e w' => e = .returned (.int .i64 (valN l : Int)) ∧ Hp [] w w' [] := by
 apply jval.ok; unfold jval.vc
 have hsz : (ByteArray.mk l.toArray).size = l.length := by simp [ByteArray.size]
 refine Hp.s2b (Hp.start w) (by exact ⟨rfl,rfl,rfl,rfl⟩) gundS gundU gundU1 (by rw [hsz]; simp only [maxLen]; omega) ?_
 intro a c w1 H
 rw [hsz,byteCells_mk] at H
 rw [hsz]
 have hv := valN_lt l
 have h6 : 256 ^ l.length ≤ 256 ^ 6 := Nat.pow_le_pow_right (by omega) hl
 have h7 : (256 : Nat) ^ 6 = 281474976710656 := by decide
 refine LoopP.mk (fun m s w' => ∃ k : Nat,m = l.length - k ∧ k ≤ l.length ∧ s = ((valN (l.take k) : Int),(k : Int)) ∧ Hp [] w w' [.own 5 1 a l.length c (bcells l)]) l.length ⟨0,rfl,by omega,rfl,H⟩ ?_
 clear H
 rintro m s w' next ⟨k,rfl,hk,rfl,H⟩ hnext
 dsimp only
 refine br_dec (fun h1 => ?_) (fun h1 => ?_)
 ·have hkl : k < l.length := by omega
  have hown := (H.ownA (.head _)).cells
  have hat : (bcells l)[k]? = some (.int .u8 ((l[k]).toNat : Int)) := by simp [bcells,hkl]
  obtain ⟨ad,had,_⟩ := hown _ _ hat
  have e1 : Int.toNat (k : Int) * 1 = k := by omega
  have hts := valN_take_succ l k hkl
  have hmo := valN_mono l (k + 1)
  have hlt := (l[k]).toNat_lt
  have e3 : (2 : Int) ^ min (Int.toNat 8) (IntKind.bits .i64) = 256 := by decide
  refine onP_mk had ⟨⟨by omega,h1⟩,_,by rw [e1]; exact hown.ld gU8 had hat,by omega,inR64.2 (by rw [e3]; omega),inR64.2 (by omega),?_⟩
  rw [or_byte2 _ _ (by omega) hlt,← hts]
  exact hnext (l.length - (k + 1)) _ _ (by omega) ⟨k + 1,rfl,by omega,by simp,H⟩
 ·have hke : k = l.length := by omega
  subst hke
  rw [List.take_length]
  exact ⟨rfl,H.drop⟩
def nbS (n : Int) (m k : Nat) : List UInt8 := (be n m).take k ++ List.replicate (m - k) 0
theorem nbS_len (n : Int) {m k : Nat} (hk : k ≤ m) : (nbS n m k).length = m := by
 simp only [nbS,List.length_append,List.length_take,List.length_replicate,be_length]; omega
theorem nbS_succ (n : Int) {m k : Nat} (hk : k < m) : (nbS n m k).set k (bt n (m - 1 - k)) = nbS n m (k + 1) := by
 have hl : ((be n m).take k).length = k := by rw [List.length_take,be_length]; omega
 obtain ⟨hb,he⟩ := List.getElem?_eq_some_iff.1 (Sl.be_get n m k hk)
 unfold nbS
 rw [List.set_append,if_neg (by omega),hl,Nat.sub_self,show m - k = (m - (k + 1)) + 1 by omega,List.replicate_succ,List.set_cons_zero,List.take_succ_eq_append_getElem hb,he,List.append_assoc]
 rfl
theorem made_zeros (n : Nat) : (madeCells (Value.int .u8 0).cells (n * 1)).toList = List.replicate n (Value.int .u8 0) := by
 apply List.ext_getElem?
 intro k
 rw [Nat.mul_one]
 by_cases hk : k < n
 ·have : (madeCells (Value.int .u8 0).cells n).toList.length = n := by rw [Array.length_toList,size_madeCells]
  rw [List.getElem?_eq_getElem (by omega),List.getElem?_replicate,if_pos hk]
  simp [madeCells,Value.cells,Nat.mod_one]
 ·rw [List.getElem?_eq_none (by rw [Array.length_toList,size_madeCells]; omega),List.getElem?_replicate,if_neg hk]
theorem made8 (m : Nat) : (madeCells (Value.int .u8 0).cells (m * 1)).toList = bcells (List.replicate m 0) := by
 rw [made_zeros]; simp [bcells]
theorem jnum_spec (n : Nat) (hn : n ≤ 9223372036854775807) (m : Nat) (hm : m ≤ 8) (w : World) : Calls Tryz.prog 57 #[.int .i64 (n : Int),.int .i64 (m : Int)] w fun e w' => e = .returned (.string ⟨(be (n : Int) m).toArray⟩) ∧ Hp [] w w' [] := by
 apply jnum.ok; unfold jnum.vc
 have em : Int.toNat (m : Int) = m := by omega
 refine Hp.mkS geltU (Hp.start w) (by exact ⟨rfl,rfl,rfl,rfl⟩) (by omega) (by rw [em]; simp only [maxLen]; omega) (by omega) gzU ?_
 intro a w1 H
 rw [em,made8] at H
 rw [em]
 refine LoopP.mk (fun q s w' => ∃ k : Nat,q = m - k ∧ k ≤ m ∧ s = (k : Int) ∧ Hp [] w w' [.own 5 1 a m m (bcells (nbS (n : Int) m k))]) m ⟨0,rfl,by omega,rfl,by rw [nbS]; exact H⟩ ?_
 clear H
 rintro q s w' next ⟨k,rfl,hk,rfl,H⟩ hnext
 have hlen := nbS_len (n : Int) hk
 refine br_dec (fun h3 => ?_) (fun h3 => ?_)
 ·have hkm : k < m := by omega
  have hbl : (bcells (nbS (n : Int) m k)).length = m := by rw [bcells_length,hlen]
  obtain ⟨ad,had,_⟩ := (H.ownA (.head _)).at (j := k) (by rw [hbl]; exact hkm)
  refine ⟨inR64.2 (by omega),inR64.2 (by omega),inR64.2 (by omega),by omega,onP_mk had ⟨⟨by omega,by omega⟩,?_⟩⟩
  have e1 : Int.toNat (k : Int) * 1 = k := by omega
  have e2 : 8 * ((m : Int) - 1 - (k : Int)) = 8 * ((m - 1 - k : Nat) : Int) := by omega
  rw [e1,e2,shr_byte (n : Int) (m - 1 - k) (by omega) _ rfl]
  refine Hp.stO1 H (by exact ⟨rfl,rfl,rfl,rfl⟩) gU8 had rfl rfl (by rw [hbl]; exact hkm) ?_
  clear H
  intro w2 H
  refine ⟨inR64.2 (by omega),hnext (m - (k + 1)) _ _ (by omega) ⟨k + 1,rfl,by omega,by omega,?_⟩⟩
  have e : (bcells (nbS (n : Int) m k)).set k (.int .u8 ((bt (n : Int) (m - 1 - k)).toNat : Int)) = bcells (nbS (n : Int) m (k + 1)) := by
   rw [← nbS_succ _ hkm]; simp [bcells,List.map_set]
  rw [e] at H
  exact H
 ·have hke : k = m := by omega
  subst hke
  have e : nbS (n : Int) k k = be (n : Int) k := by
   rw [nbS,List.take_of_length_le (by rw [be_length]; exact Nat.le_refl _),Nat.sub_self]; simp
  rw [e] at H
  exact ⟨_,b2s gundU gundU1 gundS (by rw [byteCells_mk]; exact (H.ownA (.head _)).cells) (by simp [ByteArray.size,be_length]),rfl,H.drop⟩
end Go.Proofs.YtdeebigmpffnbaaGreat
namespace Go.Vc
def fnTB (P : Program) (t : TypeId) : Bool := match P.underlying t with
 | some (.func _ _ _) => true
 | _ => false
theorem eqv_fnE {P : Program} {t : TypeId} {f : Fn} {fi ca : Array Value} {x y : Operand} {w : World} (h : fnTB P t = true) : Eqv P .eql t x y w (.func f fi ca) .nilFunc false := by
 have hd : ∃ a b c,P.underlying t = some (.func a b c) := by
  unfold fnTB at h
  split at h
  ·rename_i a b c e; exact ⟨a,b,c,e⟩
  ·cases h
 obtain ⟨a,b,c,hu⟩ := hd
 have h1 : ∀ d : Nat,(Op.equalIn (d + 1) t (.func f fi ca) .nilFunc).run P w = .ok false w := fun d => by
  simp [Op.equalIn,run_underlying hu]
 have h2 : (Op.equal t (.func f fi ca) .nilFunc).run P w = .ok false w := h1 9999
 have h3 : (binOp .eql t (.func f fi ca) .nilFunc).run P w = .ok (.bool false) w := by
  have e : binOp .eql t (.func f fi ca) .nilFunc = (do return .bool (← Op.equal t (.func f fi ca) .nilFunc)) := rfl
  rw [e]
  simp only [Sem.run_bind,h2,Result.andThen_ok,Sem.run_pure]
 have hg : (eqGuard .eql t x y (.func f fi ca) .nilFunc).run P w = .ok () w := rfl
 simp only [Eqv,Sem.run_bind,hg,Result.andThen_ok,h3]
end Go.Vc
namespace Go.Proofs.YtdeebigmpffnbaaGreat
open Go Go.Vc Go.Vault Go.Redo
def fopenP (d : Dk) : Dk × Int := if d.size nData < 0 then d.create nData else (d,0)
def pagesP (d : Dk) : Nat := (Int.tdiv (d.size nData + 8 - 1) 8).toNat
theorem size_in {d : Dk} {N : Nat} (h : d.Fit N) (n : ByteArray) : -1 ≤ d.size n ∧ d.size n ≤ (N : Int) := by
 rw [Dk.size]
 split
 ·next k _ =>
  have := Dk.len_le h.now k
  omega
 ·omega
theorem pagesP_eq {d : Dk} {N : Nat} (h : d.Fit N) : Int.tdiv (d.size nData + 8 - 1) 8 = (pagesP d : Int) ∧ (pagesP d : Int) ≤ (N : Int) + 7 := by
 have hs := size_in h nData
 have e : Int.tdiv (d.size nData + 8 - 1) 8 = (d.size nData + 8 - 1) / 8 := Int.tdiv_eq_ediv_of_nonneg (by omega)
 rw [pagesP,e]
 omega
def poolN (x : DW) (jb many pages : Nat) : List Value := [.pointer (some ⟨x.b,0,none⟩),.string nData,.int .i64 (many : Int),aheadV jb,.slice none 0 0,.int .i64 0,.int .i64 (pages : Int)]
def FopenPost (x : DW) (d : Dk) (many jb : Nat) (w : World) (e : Ending) (w' : World) : Prop :=
 ∃ x' : DW,x'.b = x.b ∧ x'.Ok (fopenP d).1 ∧
  (((fopenP d).2 ≠ 0 ∧ e = .returned (.tuple #[.pointer none,.int .i64 (fopenP d).2]) ∧ Hp (feet (dkL x d)) w w' (dkL x' (fopenP d).1)) ∨
   ((fopenP d).2 = 0 ∧ ∃ pb,e = .returned (.tuple #[.pointer (some ⟨pb,0,none⟩),.int .i64 0]) ∧ Hp (feet (dkL x d)) w w' (.blk pb (poolN x jb many (pagesP (fopenP d).1)) 134 :: dkL x' (fopenP d).1)))
theorem fopenG_spec (x : DW) (d : Dk) (hok : x.Ok d) {N : Nat} (fit : d.Fit N) (hN : N ≤ 400000) (many : Nat) (hm : 4 ≤ many ∧ many ≤ 64) (jb : Nat) (w : World) (st : Std w (dkL x d)) :
  Calls Tryz.prog 38 #[.pointer (some ⟨x.b,0,none⟩),.string nData,.int .i64 (many : Int),aheadV jb] w (FopenPost x d many jb w) := by
 apply fopen.ok; unfold fopen.vc FopenPost
 have H := Hp.startL st
 generalize hB : feet (dkL x d) = B at H ⊢
 refine br_dec (fun h => by omega) (fun _ => br_dec (fun h => by omega) (fun _ => ⟨_,eqv_fnE (by kernel_rfl),br_mk (fun h => by cases h) (fun _ => ?_)⟩))
 refine callV (size_spec x d hok nData w st) ?_
 rintro e w1 ⟨rfl,H'⟩
 replace H := H.ext0 H'; clear H'
 have fin : ∀ (x' : DW) (w2 : World),x'.b = x.b → x'.Ok (fopenP d).1 → (fopenP d).2 = 0 → (fopenP d).1.Fit (N + 1) → Hp B w w2 (dkL x' (fopenP d).1) → CallV Tryz.prog 67 [.pointer (some ⟨x.b,0,none⟩),.string nData] w2 fun e w' => ∃ i,e = .returned (.int .i64 i) ∧ inR .i64 (i + 8) ∧ inR .i64 (i + 8 - 1) ∧ (8 : Int) ≠ 0 ∧ inR .i64 (Int.tdiv (i + 8 - 1) 8) ∧
   ∀ b w1,New w' (.cells #[.pointer (some ⟨x.b,0,none⟩),.string nData,.int .i64 (many : Int),aheadV jb,.slice none 0 0,.int .i64 0,.int .i64 (Int.tdiv (i + 8 - 1) 8)] 134) b w1 →
    ∃ x' : DW,x'.b = x.b ∧ x'.Ok (fopenP d).1 ∧ (((fopenP d).2 ≠ 0 ∧ Ending.returned (.tuple #[.pointer (some ⟨b,0,none⟩),.int .i64 0]) = .returned (.tuple #[.pointer none,.int .i64 (fopenP d).2]) ∧ Hp B w w1 (dkL x' (fopenP d).1)) ∨
     ((fopenP d).2 = 0 ∧ ∃ pb,Ending.returned (.tuple #[.pointer (some ⟨b,0,none⟩),.int .i64 0]) = .returned (.tuple #[.pointer (some ⟨pb,0,none⟩),.int .i64 0]) ∧ Hp B w w1 (.blk pb (poolN x jb many (pagesP (fopenP d).1)) 134 :: dkL x' (fopenP d).1))) := by
  intro x' w2 hb hx' h0 hfit K
  have hsp := size_spec x' (fopenP d).1 hx' nData w2 K.std
  rw [hb] at hsp
  refine callV hsp ?_
  clear hsp
  rintro e w3 ⟨rfl,K'⟩
  replace K := K.ext0 K'; clear K'
  have hs := size_in hfit nData
  obtain ⟨hp1,hp2⟩ := pagesP_eq hfit
  refine ⟨_,rfl,inR64.2 (by omega),inR64.2 (by omega),by omega,by rw [hp1]; exact inR64.2 (by omega),?_⟩
  intro b w4 hn
  rw [hp1] at hn
  exact ⟨x',hb,hx',.inr ⟨h0,b,rfl,by rw [poolN]; exact K.new (cs := [_,_,_,_,_,_,_]) (by exact ⟨rfl,rfl,rfl,rfl⟩) hn⟩⟩
 refine ⟨_,rfl,br_dec (fun hneg => ?_) (fun hpos => ?_)⟩
 ·have hP : fopenP d = d.create nData := if_pos hneg
  refine callV (create_spec x d hok (by have := fit.chs; omega) (by have := fit.files; omega) nData w1 H.std) ?_
  rintro e w2 ⟨rfl,x',hx'b,hx',H'⟩
  replace H := H.useAll H'; clear H'
  refine ⟨_,rfl,br_ndec (fun h => ?_) (fun h => ?_)⟩
  ·exact ⟨x',hx'b,by rw [hP]; exact hx',.inl ⟨by rw [hP]; exact h,by rw [hP],by rw [hP]; exact H⟩⟩
  ·exact fin x' w2 hx'b (by rw [hP]; exact hx') (by rw [hP]; exact h) (by rw [hP]; exact Fit.create fit nData) (by rw [hP]; exact H)
 ·have hP : fopenP d = (d,0) := if_neg hpos
  exact fin x w1 rfl (by rw [hP]; exact hok) (by rw [hP]) (by rw [hP]; exact fit.mono (by omega)) (by rw [hP]; exact H)
end Go.Proofs.YtdeebigmpffnbaaGreat
namespace Go.Proofs.YtdeebigmpffnbaaGreat
open Go Go.Vc Go.Vault Go.Redo
theorem gSP : Scl Tryz.prog 89 := scl_of (by kernel_rfl)
theorem geltP : Elt Tryz.prog 89 99 1 8 := elt_of (by kernel_rfl)
theorem gundSP : Tryz.prog.underlying 89 = some (.slice 99) := by kernel_rfl
structure JP where
 pa : Option Addr
 pc : Nat
 bs : List Nat
def jcV (a b c : Value) (p : JP) (t : Option Nat) (wt : Int) : List Value := [a,b,c,.slice p.pa p.bs.length p.pc,.map t,.int .i64 wt]
def ptrsB (bs : List Nat) : List Value := bs.map fun b => .pointer (some ⟨b,0,none⟩)
def jpL (jb : Nat) (a b c : Value) (p : JP) (t : Option Nat) (wt : Int) (Ps : List AP) : List Asn :=
 .blk jb (jcV a b c p t wt) 91 :: .own 99 1 p.pa p.bs.length p.pc (ptrsB p.bs) :: List.zipWith pageA p.bs Ps
def growP (Ps : List AP) (m : Nat) : List AP := Ps ++ List.replicate (m - Ps.length) ([],0)
theorem growP_step {Ps : List AP} {m : Nat} (h : Ps.length < m) : growP (Ps ++ [([],0)]) m = growP Ps m := by
 rw [growP,growP,List.append_assoc,List.length_append,show m - Ps.length = (m - (Ps.length + 1)) + 1 by omega,List.replicate_succ]
 rfl
theorem growP_none {Ps : List AP} {m : Nat} (h : m ≤ Ps.length) : growP Ps m = Ps := by
 rw [growP,Nat.sub_eq_zero_of_le h]; simp
theorem jpage_spec (jb : Nat) (va vb vc : Value) (p : JP) (t : Option Nat) (wt : Int) (Ps : List AP) (hl : p.bs.length = Ps.length) (hsz : Ps.length ≤ 4096) (n : Nat) (hn : n < 4096) (w : World) (st : Std w (jpL jb va vb vc p t wt Ps)) :
  Calls Tryz.prog 58 #[.pointer (some ⟨jb,0,none⟩),.int .i64 (n : Int)] w fun e w' => ∃ (p' : JP) (b : Nat),e = .returned (.pointer (some ⟨b,0,none⟩)) ∧ p'.bs[n]? = some b ∧ p'.bs.length = (growP Ps (n + 1)).length ∧ Hp (feet (jpL jb va vb vc p t wt Ps)) w w' (jpL jb va vb vc p' t wt (growP Ps (n + 1))) := by
 apply jpage.ok; unfold jpage.vc
 have H := Hp.startL st
 generalize hB : feet (jpL jb va vb vc p t wt Ps) = B at H ⊢
 refine LoopP.mk (fun m (s : PUnit) w' => ∃ (p1 : JP) (Qs : List AP),m = (n + 1) - Qs.length ∧ p1.bs.length = Qs.length ∧ Qs.length ≤ 4096 ∧ growP Qs (n + 1) = growP Ps (n + 1) ∧ Hp B w w' (jpL jb va vb vc p1 t wt Qs)) ((n + 1) - Ps.length) ⟨p,Ps,rfl,hl,hsz,rfl,H⟩ ?_
 clear H
 rintro m s w1 next ⟨p1,Qs,rfl,hl1,hsz1,hg,H⟩ hnext
 rw [jpL] at H
 refine onP_mk rfl ⟨_,_,_,H.ld (o := 3) (cs := jcV va vb vc p1 t wt) (by exact ⟨rfl,rfl,rfl,rfl⟩) gSP (.head _) rfl,br_dec (fun h1 => ?_) (fun h1 => ?_)⟩
 ·have hlt : Qs.length ≤ n := by omega
  refine onP_mk rfl ⟨_,_,_,H.drew.ld (o := 3) (cs := jcV va vb vc p1 t wt) (by exact ⟨rfl,rfl,rfl,rfl⟩) gSP (.head _) rfl,?_⟩
  refine callV (Sl.new_any _) ?_
  rintro e w2 ⟨b,rfl,H'⟩
  have H2 := H.drew.ext1 H'
  clear H H'
  refine ⟨_,rfl,H2.ld (o := 3) (cs := jcV va vb vc p1 t wt) (by exact ⟨rfl,rfl,rfl,rfl⟩) gSP (.tail _ (.head _)) rfl,?_⟩
  intro b1 w3 hn1
  have H3 := H2.new (cs := [.pointer (some ⟨b,0,none⟩)]) (by exact ⟨rfl,rfl,rfl,rfl⟩) hn1
  clear H2 hn1
  refine ⟨H3.ld (o := 3) (cs := jcV va vb vc p1 t wt) (by exact ⟨rfl,rfl,rfl,rfl⟩) gSP (.tail _ (.tail _ (.head _))) rfl,?_⟩
  have H4 := H3.pull3
  clear H3
  refine Hp.app geltP (by omega) H4 (by exact ⟨rfl,rfl,rfl,rfl⟩) (Blk.src (n := 1) gundSP (H4.blk (.tail _ (.head _))) (by simp) (by rfl)) (by simp only [maxLen]; omega) (by omega) ?_
  clear H4; intro a5 c5 w5 H
  have H2 := H.pull3
  clear H
  refine onP_mk rfl (Hp.st (o := 3) H2 (by exact ⟨rfl,rfl,rfl,rfl⟩) gSP rfl rfl (by simp [jcV]) (cs' := jcV va vb vc ⟨a5,c5,p1.bs ++ [b]⟩ t wt) (by simp [jcV]) ?_)
  clear H2; intro w6 H
  refine hnext ((n + 1) - (Qs ++ [(([],0) : AP)]).length) _ _ (by rw [List.length_append]; simp only [List.length_singleton]; omega) ⟨⟨a5,c5,p1.bs ++ [b]⟩,Qs ++ [([],0)],rfl,by simp [hl1],by rw [List.length_append]; simp only [List.length_singleton]; omega,by rw [growP_step (by omega),hg],?_⟩
  have H3 : Hp B w w6 (.blk b1 [.pointer (some ⟨b,0,none⟩)] 99 :: Sl.pgA b (Sl.gZ 4096) :: .blk jb (jcV va vb vc ⟨a5,c5,p1.bs ++ [b]⟩ t wt) 91 :: .own 99 1 a5 (p1.bs.length + 1) c5 (ptrsB p1.bs ++ [.pointer (some ⟨b,0,none⟩)]) :: List.zipWith pageA p1.bs Qs) := H.perm (by (refine perm_cnt fun f g a b c d=>?_;simp only[c,b,a];omega))
  have H4 := Hp.shutP (P := ([],0)) Sl.gZ_rep H3.drop
  have ez : List.zipWith pageA (p1.bs ++ [b]) (Qs ++ [([],0)]) = List.zipWith pageA p1.bs Qs ++ [pageA b ([],0)] := by
   rw [List.zipWith_append hl1]; rfl
  have ep : ptrsB (p1.bs ++ [b]) = ptrsB p1.bs ++ [.pointer (some ⟨b,0,none⟩)] := by simp [ptrsB]
  have en : (p1.bs ++ [b]).length = p1.bs.length + 1 := by simp
  rw [jpL,ez,ep]
  show Hp B w w6 (.blk jb (jcV va vb vc ⟨a5,c5,p1.bs ++ [b]⟩ t wt) 91 :: .own 99 1 a5 (p1.bs ++ [b]).length c5 (ptrsB p1.bs ++ [.pointer (some ⟨b,0,none⟩)]) :: (List.zipWith pageA p1.bs Qs ++ [pageA b ([],0)]))
  rw [en]
  exact H4.perm (by (refine perm_cnt fun f g a b c d=>?_;simp only[c,b,a];omega))
 ·have hlt : n < Qs.length := by omega
  rw [growP_none (by omega)] at hg
  refine onP_mk rfl ⟨_,_,_,H.ld (o := 3) (cs := jcV va vb vc p1 t wt) (by exact ⟨rfl,rfl,rfl,rfl⟩) gSP (.head _) rfl,?_⟩
  have hown := (H.ownA (.tail _ (.head _))).cells
  have hnb : n < p1.bs.length := by omega
  have hat : (ptrsB p1.bs)[n]? = some (.pointer (some ⟨p1.bs[n],0,none⟩)) := by simp [ptrsB,hnb]
  obtain ⟨ad,had,_⟩ := hown _ _ hat
  have e1 : Int.toNat (n : Int) * 1 = n := by omega
  refine onP_mk had ⟨⟨by omega,by omega⟩,_,by rw [e1]; exact hown.ld gPG had hat,p1,p1.bs[n],rfl,by simp [hnb],by rw [← hg]; exact hl1,?_⟩
  rw [← hg,jpL]
  exact H
end Go.Proofs.YtdeebigmpffnbaaGreat
namespace Go.Proofs.YtdeebigmpffnbaaGreat
open Go Go.Vc Go.Vault Go.Redo
theorem geltC : Elt Tryz.prog 40 73 4 40 := elt_of (by kernel_rfl)
theorem gundSC : Tryz.prog.underlying 40 = some (.slice 73) := by kernel_rfl
structure Chg1 where
 page : Int
 slot : Int
 s : ByteArray
 gone : Bool
def chC (l : List Chg1) : List Value := l.flatMap fun c => [.int .i64 c.page,.int .i64 c.slot,.string c.s,.bool c.gone]
theorem chC_append (x y : List Chg1) : chC (x ++ y) = chC x ++ chC y := by simp [chC]
def one1 (l : List UInt8) : Chg1 := ⟨(valN (l.take 2) : Int),(valN ((l.take 3).drop 2) : Int),⟨((l.take (6 + valN ((l.take 6).drop 4))).drop 6).toArray⟩,decide (sb ⟨l.toArray⟩ 3 = 1)⟩
def takenF : Nat → List UInt8 → List Chg1 → Option (List Chg1)
 | 0,_,acc => some acc
 | m + 1,l,acc => if l.length = 0 then some acc else if l.length < 6 then none else if l.length - 6 < valN ((l.take 6).drop 4) then none else
   takenF m (l.drop (6 + valN ((l.take 6).drop 4))) (acc ++ [one1 l])
theorem jtaken_spec (l : List UInt8) (hl : l.length ≤ 100000000) (w : World) : Calls Tryz.prog 75 #[.string ⟨l.toArray⟩] w fun e w' =>
  (takenF (l.length + 1) l [] = none ∧ e = .returned (.tuple #[.slice none 0 0,.bool false]) ∧ Hp [] w w' []) ∨
  ∃ L a c,takenF (l.length + 1) l [] = some L ∧ L.length ≤ l.length ∧ e = .returned (.tuple #[.slice a L.length c,.bool true]) ∧ Hp [] w w' [.own 73 4 a L.length c (chC L)] := by
 apply jtaken.ok; unfold jtaken.vc
 refine LoopP.mk (fun m (s : ByteArray × Option Addr × Nat × Nat) w' => ∃ (q : Nat) (l1 : List UInt8) (acc : List Chg1) (a : Option Addr) (c : Nat),m = l1.length ∧ l1.length ≤ q ∧ acc.length + l1.length ≤ l.length ∧ takenF (q + 1) l1 acc = takenF (l.length + 1) l [] ∧ s = (⟨l1.toArray⟩,a,acc.length,c) ∧ Hp [] w w' [.own 73 4 a acc.length c (chC acc)]) l.length ⟨l.length,l,[],none,0,rfl,Nat.le_refl _,by simp,rfl,rfl,(Hp.start w).nilS 73 4⟩ ?_
 rintro m s w1 next ⟨q,l1,acc,a,c,rfl,hq,hle,htk,rfl,H⟩ hnext
 dsimp only
 have hsz : (ByteArray.mk l1.toArray).size = l1.length := by simp [ByteArray.size]
 rw [takenF] at htk
 refine br_ndec (fun h1 => ?_) (fun h1 => ?_)
 ·have h0 : l1.length ≠ 0 := fun h => h1 (size0.2 (by rw [hsz]; exact h))
  rw [if_neg h0] at htk
  rw [hsz]
  refine br_dec (fun h2 => ?_) (fun h2 => ?_)
  ·rw [if_pos (by omega)] at htk
   exact .inl ⟨htk.symm,rfl,H.drop⟩
  rw [if_neg (by omega)] at htk
  refine ⟨inR64.2 (by omega),⟨by omega,by omega,by omega⟩,?_⟩
  rw [ext_mk,show Int.toNat 4 = 4 from rfl,show Int.toNat 6 = 6 from rfl]
  have hv := valN_lt ((l1.take 6).drop 4)
  have hvl : ((l1.take 6).drop 4).length = 2 := by rw [List.length_drop,List.length_take]; omega
  rw [hvl] at hv
  refine callV (jval_spec _ (by omega) _) ?_
  rintro e w2 ⟨rfl,H'⟩
  have H2 := H.ext0 H'
  clear H H'
  refine ⟨_,rfl,br_dec (fun h3 => ?_) (fun h3 => ?_)⟩
  ·rw [if_pos (by omega)] at htk
   exact .inl ⟨htk.symm,rfl,H2.drop⟩
  rw [if_neg (by omega)] at htk
  refine ⟨⟨by omega,by omega,by omega⟩,?_⟩
  refine callV (jval_spec _ (by omega) _) ?_
  rintro e w3 ⟨rfl,H'⟩
  have H := H2.ext0 H'
  clear H2 H'
  obtain ⟨v,hvv⟩ : ∃ v,v = valN ((l1.take 6).drop 4) := ⟨_,rfl⟩
  rw [← hvv] at htk hv h3 ⊢
  have e6 : Int.toNat (6 + (v : Int)) = 6 + v := by omega
  refine ⟨_,rfl,inR64.2 (by omega),⟨by omega,by omega⟩,⟨by omega,by omega,by omega⟩,⟨by omega,by omega⟩,⟨by omega,by omega,by omega⟩,?_⟩
  rw [ext_mk,show Int.toNat 2 = 2 from rfl,List.drop_zero]
  refine callV (jval_spec (l1.take 2) (by rw [List.length_take]; omega) _) ?_
  rintro e w4 ⟨rfl,H'⟩
  have H2 := H.drew.ext0 H'
  clear H H'
  refine ⟨_,rfl,?_⟩
  rw [ext_mk,show Int.toNat 3 = 3 from rfl]
  refine callV (jval_spec ((l1.take 3).drop 2) (by rw [List.length_drop,List.length_take]; omega) _) ?_
  rintro e w5 ⟨rfl,H'⟩
  have H := H2.ext0 H'
  clear H2 H'
  refine ⟨_,rfl,?_⟩
  rw [e6,ext_mk]
  intro b w6 hn1
  have ho : chC [one1 l1] = [.int .i64 (valN (l1.take 2) : Int),.int .i64 (valN ((l1.take 3).drop 2) : Int),.string ⟨((l1.take (6 + v)).drop 6).toArray⟩,.bool (decide (sb ⟨l1.toArray⟩ 3 = 1))] := by rw [hvv]; rfl
  have H2 := H.new (cs := chC [one1 l1]) (by exact ⟨rfl,rfl,rfl,rfl⟩) (by rw [ho]; exact hn1)
  clear H hn1
  refine Hp.app geltC (by omega) H2.pull1 (by exact ⟨rfl,rfl,rfl,rfl⟩) (Blk.src (n := 1) gundSC (H2.blk (.head _)) rfl rfl) (by simp only [maxLen]; omega) (by omega) ?_
  clear H2
  intro a6 c6 w7 H
  have H : Hp [] w w7 (.own 73 4 a6 (acc.length + 1) c6 (chC acc ++ chC [one1 l1]) :: [.blk b (chC [one1 l1]) 73]) := H
  refine ⟨⟨by omega,by omega⟩,?_⟩
  have hx : (ByteArray.mk l1.toArray).extract (6 + v) l1.length = ⟨(l1.drop (6 + v)).toArray⟩ := by rw [ext_mk,List.take_length]
  rw [hx]
  refine hnext (l1.drop (6 + v)).length _ _ (by rw [List.length_drop]; omega) ⟨q - 1,l1.drop (6 + v),acc ++ [one1 l1],a6,c6,rfl,by rw [List.length_drop]; omega,by simp only [List.length_append,List.length_drop,List.length_singleton]; omega,?_,by rw [List.length_append]; rfl,?_⟩
  ·rw [← htk,show q - 1 + 1 = q by omega]
  ·rw [chC_append,List.length_append]; exact H.del1
 ·have h0 : l1.length = 0 := by rw [← hsz]; exact size0.1 h1
  rw [if_pos h0] at htk
  exact .inr ⟨acc,a,c,htk.symm,by omega,rfl,H⟩
end Go.Proofs.YtdeebigmpffnbaaGreat
namespace Go.Proofs.YtdeebigmpffnbaaGreat
open Go Go.Vc Go.Vault Go.Redo
theorem gaggPg : Agg Tryz.prog 144 4098 := Sl.agg54
theorem zipP_get : ∀ {bs : List Nat} {Ps : List AP} {k b : Nat} {P : AP},bs[k]? = some b → Ps[k]? = some P → (List.zipWith pageA bs Ps).Perm (pageA b P :: List.zipWith pageA (bs.eraseIdx k) (Ps.eraseIdx k))
 | [],_,_,_,_,h,_ => by simp at h
 | _ :: _,[],_,_,_,_,h => by simp at h
 | x :: bs,y :: Ps,0,b,P,h,h' => by
  simp at h h'; subst h h'
  exact .refl _
 | x :: bs,y :: Ps,k + 1,b,P,h,h' => by
  simp at h h'
  have := zipP_get h h'
  simp only [List.zipWith_cons_cons,List.eraseIdx_cons_succ]
  exact (this.cons _).trans (.swap _ _ _)
theorem jp_open {jb : Nat} {va vb vc : Value} {p : JP} {t : Option Nat} {wt : Int} {Ps : List AP} {k b : Nat} {P : AP} (h : p.bs[k]? = some b) (h' : Ps[k]? = some P) :
  (jpL jb va vb vc p t wt Ps).Perm (pageA b P :: .blk jb (jcV va vb vc p t wt) 91 :: .own 99 1 p.pa p.bs.length p.pc (ptrsB p.bs) :: List.zipWith pageA (p.bs.eraseIdx k) (Ps.eraseIdx k)) := by
 have hp := zipP_get h h'
 rw [jpL]
 refine perm_cnt fun ff gg h0 hc ha hpm => ?_
 have h9 := hpm _ _ hp
 simp only [ha,hc,h0] at h9 ⊢
 omega
theorem jp_shut {jb : Nat} {va vb vc : Value} {p : JP} {t : Option Nat} {wt : Int} {Ps : List AP} {k b : Nat} (h : p.bs[k]? = some b) (h' : k < Ps.length) (Q : AP) :
  (jpL jb va vb vc p t wt (Ps.set k Q)).Perm (pageA b Q :: .blk jb (jcV va vb vc p t wt) 91 :: .own 99 1 p.pa p.bs.length p.pc (ptrsB p.bs) :: List.zipWith pageA (p.bs.eraseIdx k) (Ps.eraseIdx k)) := by
 have := jp_open (jb := jb) (va := va) (vb := vb) (vc := vc) (t := t) (wt := wt) (Ps := Ps.set k Q) (P := Q) h (by rw [List.getElem?_set_self h'])
 rw [List.eraseIdx_set_eq] at this
 exact this
theorem store_page {B : List Nat} {w0 w1 w' : World} {jb : Nat} {va vb vc : Value} {p : JP} {t : Option Nat} {wt : Int} {Ps : List AP} {L : List Asn} {k b : Nat} {g : Sl.Pg} {Q : AP} (hR : Sl.Rep g Q.1 Q.2) (H : Hp B w0 w1 (jpL jb va vb vc p t wt Ps ++ L)) (eq : Eqw w1 w') (h : p.bs[k]? = some b) (hl : p.bs.length = Ps.length)
  {G : World → Prop} (kk : ∀ w2,Hp B w0 w2 (jpL jb va vb vc p t wt (Ps.set k Q) ++ L) → G w2) : ∃ w2,Go.Vc.St Tryz.prog 144 w' ⟨b,0,none⟩ (.agg g.cells.toArray) w2 ∧ G w2 := by
 have hk : k < Ps.length := by rw [← hl]; exact (List.getElem?_eq_some_iff.1 h).1
 have H1 := H.perm ((jp_open (jb := jb) (va := va) (vb := vb) (vc := vc) (t := t) (wt := wt) h (List.getElem?_eq_getElem hk)).append_right L)
 obtain ⟨g0,hR0,H2⟩ := Hp.openP H1
 have hlen : g.cells.length = 4098 := hR.ok.clen
 have hlen0 : g0.cells.length = 4098 := hR0.ok.clen
 refine Hp.stA (o := 0) (cs := g0.cells) H2 eq gaggPg hlen (Sl.cells_one g) (by omega) (cs' := g.cells) (Sl.over_full (by omega)) ?_
 intro w2 H3
 exact kk w2 ((Hp.shutP hR H3).perm ((jp_shut (jb := jb) (va := va) (vb := vb) (vc := vc) (t := t) (wt := wt) h hk Q).symm.append_right L))
end Go.Proofs.YtdeebigmpffnbaaGreat
namespace Go.Proofs.YtdeebigmpffnbaaGreat
open Go Go.Vc Go.Vault Go.Redo
def restP (Ps : List AP) (l : List UInt8) : List AP × Int :=
 if l.length ≠ 4099 ∨ 4096 ≤ valN ((l.take 3).drop 1) then (Ps,180) else
  match Sl.loadP (l.drop 3) with
  | none => (Ps,112)
  | some P => ((growP Ps (valN ((l.take 3).drop 1) + 1)).set (valN ((l.take 3).drop 1)) P,0)
theorem jrestore_spec (jb : Nat) (va vb vc : Value) (p : JP) (t : Option Nat) (wt : Int) (Ps : List AP) (hl : p.bs.length = Ps.length) (hsz : Ps.length ≤ 4096) (l : List UInt8) (hll : l.length ≤ 100000000) (w : World) (st : Std w (jpL jb va vb vc p t wt Ps)) :
  Calls Tryz.prog 74 #[.pointer (some ⟨jb,0,none⟩),.string ⟨l.toArray⟩] w fun e w' => e = .returned (.int .i64 (restP Ps l).2) ∧ ∃ p' : JP,p'.bs.length = (restP Ps l).1.length ∧ Hp (feet (jpL jb va vb vc p t wt Ps)) w w' (jpL jb va vb vc p' t wt (restP Ps l).1) := by
 apply jrestore.ok; unfold jrestore.vc
 have H := Hp.startL st
 generalize hB : feet (jpL jb va vb vc p t wt Ps) = B at H ⊢
 have hsz1 : (ByteArray.mk l.toArray).size = l.length := by simp [ByteArray.size]
 rw [hsz1]
 refine br_ndec (fun h1 => ?_) (fun h1 => ?_)
 ·have e : restP Ps l = (Ps,180) := by rw [restP,if_pos (.inl (by omega))]
  rw [e]; exact ⟨rfl,p,hl,H⟩
 have hlen : l.length = 4099 := by omega
 refine ⟨⟨by omega,by omega,by omega⟩,?_⟩
 rw [ext_mk,show Int.toNat 1 = 1 from rfl,show Int.toNat 3 = 3 from rfl]
 have hvl : ((l.take 3).drop 1).length = 2 := by rw [List.length_drop,List.length_take]; omega
 have hv := jval_spec ((l.take 3).drop 1) (by omega)
 have hr : restP Ps l = if l.length ≠ 4099 ∨ 4096 ≤ valN ((l.take 3).drop 1) then (Ps,(180 : Int)) else match Sl.loadP (l.drop 3) with
  | none => (Ps,(112 : Int))
  | some P => ((growP Ps (valN ((l.take 3).drop 1) + 1)).set (valN ((l.take 3).drop 1)) P,(0 : Int)) := rfl
 generalize (l.take 3).drop 1 = q at hv hr ⊢
 obtain ⟨n,hn⟩ : ∃ n,n = valN q := ⟨_,rfl⟩
 rw [← hn] at hv hr
 refine callV (hv _) ?_
 rintro e w1 ⟨rfl,H'⟩
 replace H := H.ext0 H'; clear H'
 refine ⟨_,rfl,br_dec (fun h2 => ?_) (fun h2 => ?_)⟩
 ·rw [if_pos (.inr (by omega))] at hr
  rw [hr]; exact ⟨rfl,p,hl,H⟩
 rw [if_neg (by omega)] at hr
 refine ⟨⟨by omega,by omega⟩,?_⟩
 rw [ext_mk,List.take_length]
 have hdl : (l.drop 3).length = 4096 := by rw [List.length_drop]; omega
 have hds : (ByteArray.mk (l.drop 3).toArray).size = 4096 := by simp [ByteArray.size,hdl]
 refine Hp.s2b H (by exact ⟨rfl,rfl,rfl,rfl⟩) gundS gundU gundU1 (by rw [hds]; simp only [maxLen]; omega) ?_
 clear H
 intro a c w2 H
 rw [hds,byteCells_mk] at H
 rw [hds]
 have hown := H.ownA (.head _)
 rcases hown.2 with ⟨_,h,_⟩ | ⟨gb,cur,fz,rfl,_,hh,_,hle,_⟩
 ·omega
 refine callV (Sl.loadG_spec gb c (l.drop 3) hdl w2 hown.cells hle) ?_
 rintro e w3 (⟨hlo,rfl,H'⟩ | ⟨P,b',g',hlo,rfl,hR',H'⟩)
 ·rw [hlo] at hr
  rw [hr]
  exact ⟨_,_,rfl,br_ndec (fun _ => ⟨rfl,p,hl,(H.ext0 H').drop⟩) (fun h => by cases h)⟩
 rw [hlo] at hr
 rw [hr]
 have H2 : Hp B w w3 (jpL jb va vb vc p t wt Ps ++ [Sl.pgA b' g']) := ((H.ext1 H').pull1.drop).perm (List.perm_append_comm (l₁ := [_]))
 clear H H'
 refine ⟨_,_,rfl,br_ndec (fun h => absurd rfl h) (fun _ => ?_)⟩
 refine ⟨⟨by omega,by omega,by omega⟩,?_⟩
 have ldP : ∀ {w4 w5 : World} {L : List Asn},Hp B w w4 L → Eqw w4 w5 → Sl.pgA b' g' ∈ L → Ld Tryz.prog 144 w5 ⟨b',0,none⟩ (.agg (bcells g'.bs ++ ([Value.int .i64 (g'.many : Int)] ++ ([Value.int .i64 (g'.low : Int)] ++ []))).toArray) := fun {w4 w5 L} K e m => K.ldA (cs := g'.cells) e gaggPg m (by rw [List.drop_zero,List.take_of_length_le (by rw [hR'.ok.clen]; exact Nat.le_refl _)]; rfl) hR'.ok.clen
 refine onP_mk rfl ⟨_,_,_,ldP H2 (by exact ⟨rfl,rfl,rfl,rfl⟩) (List.mem_append_right _ (.head _)),?_⟩
 refine callV (hv _) ?_
 rintro e w4 ⟨rfl,H'⟩
 have H3 := H2.drew.ext0 H'
 clear H2 H'
 refine ⟨_,rfl,ldP H3 (by exact ⟨rfl,rfl,rfl,rfl⟩) (List.mem_append_right _ (.head _)),?_⟩
 refine callV (jpage_spec jb va vb vc p t wt Ps hl hsz n (by omega) w4 H3.std1) ?_
 rintro e w5 ⟨p',b,rfl,hb,hl',H'⟩
 have H4 := H3.useL H'
 clear H3 H'
 refine ⟨_,rfl,ldP H4 (by exact ⟨rfl,rfl,rfl,rfl⟩) (List.mem_append_right _ (.head _)),onP_mk rfl ?_⟩
 refine store_page (g := g') hR' H4 (by exact ⟨rfl,rfl,rfl,rfl⟩) hb hl' ?_
 intro w6 H5
 exact ⟨rfl,p',by rw [List.length_set]; exact hl',H5.takeL⟩
end Go.Proofs.YtdeebigmpffnbaaGreat
namespace Go.Proofs.YtdeebigmpffnbaaGreat
open Go Go.Vc Go.Vault Go.Redo
theorem jwaiting_spec (jb : Nat) (va vb vc : Value) (p : JP) (t : Option Nat) (wt : Int) (w : World) (st : Blk w jb (jcV va vb vc p t wt) 91) :
  Calls Tryz.prog 15 #[.pointer (some ⟨jb,0,none⟩)] w fun e w' => e = .returned (.int .i64 wt) ∧ Hp [] w w' [] := by
 apply jwaiting.ok; unfold jwaiting.vc
 exact onP_mk rfl ⟨_,st.ld (o := 5) gInt.agg rfl,rfl,Hp.start w⟩
def jsL (jb : Nat) (va vc : Value) (p : JP) (t : Option Nat) (wt : Int) (y : LW) (x : DW) (d : Dk) (l : Lg) : List Asn := .blk jb (jcV va (.pointer (some ⟨y.b,0,none⟩)) vc p t wt) 91 :: lgL y x d l
def syncP (d : Dk) (l : Lg) (wt : Int) : Dk × Lg × Int × Int :=
 if l.code ≠ 0 then (d,l,wt,190) else ((flushP d l).1,(flushP d l).2.1,if (flushP d l).2.2 = 0 then 0 else wt,(flushP d l).2.2)
theorem jsync_spec (jb : Nat) (va vc : Value) (p : JP) (t : Option Nat) (wt : Int) (y : LW) (x : DW) (d : Dk) (l : Lg) (hok : x.Ok d) {N : Nat} (fit : d.Fit N) (hN : N ≤ 400000) (hb : l.b.length ≤ 100000000) (hf : l.firm ≤ 100000000) (hm : l.mark ≤ 100000000) (w : World) (st : Std w (jsL jb va vc p t wt y x d l)) :
  Calls Tryz.prog 22 #[.pointer (some ⟨jb,0,none⟩)] w fun e w' => e = .returned (.int .i64 (syncP d l wt).2.2.2) ∧ ∃ (x' : DW) (y' : LW),x'.b = x.b ∧ y'.b = y.b ∧ x'.Ok (syncP d l wt).1 ∧ Hp (feet (jsL jb va vc p t wt y x d l)) w w' (jsL jb va vc p t (syncP d l wt).2.2.1 y' x' (syncP d l wt).1 (syncP d l wt).2.1) := by
 apply jsync.ok; unfold jsync.vc
 have H := Hp.startL st
 generalize hB : feet (jsL jb va vc p t wt y x d l) = B at H ⊢
 rw [jsL] at H
 refine onP_mk rfl ⟨_,H.ld (o := 1) (cs := jcV va (.pointer (some ⟨y.b,0,none⟩)) vc p t wt) (by exact ⟨rfl,rfl,rfl,rfl⟩) gPL (.head _) rfl,?_⟩
 have K1 : Hp B w w (lgA y x.b l :: (.blk jb (jcV va (.pointer (some ⟨y.b,0,none⟩)) vc p t wt) 91 :: lgT y l :: lgB y l :: dkL x d)) := H.perm (by rw [lgL]; (refine perm_cnt fun f g a b c d=>?_;simp only[c,b,a];omega))
 refine callV (lstuck_spec y x.b l w K1.std1) ?_
 rintro e w1 ⟨rfl,H'⟩
 replace H := H.ext0 H'
 clear K1 H'
 refine ⟨_,rfl,br_ndec (fun h => ?_) (fun h => ?_)⟩
 ·have e : syncP d l wt = (d,l,wt,190) := if_pos h
  rw [e]
  exact ⟨rfl,x,y,rfl,rfl,hok,H⟩
 have e : syncP d l wt = ((flushP d l).1,(flushP d l).2.1,if (flushP d l).2.2 = 0 then 0 else wt,(flushP d l).2.2) := if_neg (fun h2 => h2 h)
 rw [e]
 dsimp only
 refine onP_mk rfl ⟨_,H.ld (o := 1) (cs := jcV va (.pointer (some ⟨y.b,0,none⟩)) vc p t wt) (by exact ⟨rfl,rfl,rfl,rfl⟩) gPL (.head _) rfl,?_⟩
 have K2 : Hp B w w1 (lgL y x d l ++ [.blk jb (jcV va (.pointer (some ⟨y.b,0,none⟩)) vc p t wt) 91]) := H.perm (List.perm_append_comm (l₁ := [_]))
 clear H
 refine callV (lflush_spec y x d l hok fit hN hb hf hm w1 K2.std1) ?_
 rintro e w2 ⟨rfl,x',y',hxb,hyb,hx',H'⟩
 have H2 := (K2.useL H').perm (List.perm_append_comm (l₂ := [_]))
 clear K2 H'
 refine ⟨_,rfl,br_dec (fun h2 => ?_) (fun h2 => ?_)⟩
 ·rw [if_pos h2]
  refine onP_mk rfl (Hp.st (o := 5) H2 (by exact ⟨rfl,rfl,rfl,rfl⟩) gInt rfl rfl (by simp [jcV]) (cs' := jcV va (.pointer (some ⟨y.b,0,none⟩)) vc p t 0) rfl ?_)
  intro w3 H
  exact ⟨rfl,x',y',hxb,hyb,hx',by rw [jsL,hyb]; exact H⟩
 ·rw [if_neg h2]
  exact ⟨rfl,x',y',hxb,hyb,hx',by rw [jsL,hyb]; exact H2⟩
end Go.Proofs.YtdeebigmpffnbaaGreat
namespace Go.Vc
open Go
structure PairT (P : Program) (t : TypeId) : Prop where
 und : ∃ f g, P.underlying t = some (.struct #[f, g]) ∧ f.offset = 0 ∧ g.offset = 1 ∧ f.name ≠ "_" ∧ g.name ≠ "_" ∧ kdB P f.type (.inl .i64) = true ∧ kdB P g.type (.inl .i64) = true
 flat : FlatT P t [(0,.inl .i64),(1,.inl .i64)]
def pairB (P : Program) (t : TypeId) : Bool := match P.underlying t with
 | some (.struct ⟨[f, g]⟩) => Nat.beq f.offset 0 && Nat.beq g.offset 1 && f.name != "_" && g.name != "_" && kdB P f.type (.inl .i64) && kdB P g.type (.inl .i64)
 | _ => false
theorem pair_of {P : Program} {t : TypeId} (h : pairB P t = true) (h' : flatB P t [(0,.inl .i64),(1,.inl .i64)] = true) : PairT P t := by
 refine ⟨?_,flat_of h'⟩
 unfold pairB at h
 split at h
 ·rename_i f g hu
  simp only [Bool.and_eq_true,bne_iff_ne,ne_eq] at h
  obtain ⟨⟨⟨⟨⟨h1,h2⟩,h3⟩,h4⟩,h5⟩,h6⟩ := h
  exact ⟨f,g,hu,Nat.eq_of_beq_eq_true h1,Nat.eq_of_beq_eq_true h2,h3,h4,h5,h6⟩
 ·cases h
def pairV (p : Int × Int) : Value := .agg #[.int .i64 p.1,.int .i64 p.2]
section
variable {P : Program} {t : TypeId} {w : World}
theorem run_checkInt {t : TypeId} {k : Kd} {v : Value} {em : Bool} {n : Nat} (h : kdB P t k = true) : (Instr.checkKey em (n + 1) t v).run P w = .ok () w := by
 unfold kdB at h
 split at h
 ·rename_i hu; simp only [Instr.checkKey,Sem.run_bind,run_und hu,Result.andThen_ok,Sem.run_pure]
 ·rename_i hu; simp only [Instr.checkKey,Sem.run_bind,run_und hu,Result.andThen_ok,Sem.run_pure]
 ·rename_i hu; simp only [Instr.checkKey,Sem.run_bind,run_und hu,Result.andThen_ok,Sem.run_pure]
 ·cases h
theorem pair_check (T : PairT P t) (em : Bool) (p : Int × Int) (w : World) : (Instr.checkKey em 10000 t (pairV p)).run P w = .ok () w := by
 obtain ⟨⟨f,g,hu,hf,hg,hfn,hgn,hft,hgt⟩,_⟩ := T
 show (Instr.checkKey em (9998 + 1 + 1) t (pairV p)).run P w = .ok () w
 rw [Instr.checkKey]
 simp only [pairV,Sem.run_bind,run_und hu,Result.andThen_ok]
 rw [← Array.forIn_toList]
 simp only [List.forIn_cons,List.forIn_nil,Sem.run_bind,hfn,hgn,ne_eq,not_false_eq_true,if_true,Result.andThen_ok,run_part_kd (w := w) hft (show (#[Value.int .i64 p.1,Value.int .i64 p.2] : Array Value)[f.offset]? = some (.int .i64 p.1) by rw [hf]; rfl),
  run_part_kd (w := w) hgt (show (#[Value.int .i64 p.1,Value.int .i64 p.2] : Array Value)[g.offset]? = some (.int .i64 p.2) by rw [hg]; rfl),run_checkInt hft,run_checkInt hgt,Sem.run_pure]
theorem pair_equal (T : PairT P t) (a b : Int × Int) (w : World) : (Op.equal t (pairV a) (pairV b)).run P w = .ok (decide (a = b)) w := by
 have := run_flat (w := w) T.flat (xs := [.int .i64 a.1,.int .i64 a.2]) (ys := [.int .i64 b.1,.int .i64 b.2]) (by simp [fitL,fromV]; exact ⟨rfl,rfl⟩) (by simp [fitL,fromV]; exact ⟨rfl,rfl⟩)
 refine this.trans ?_
 simp only [eqL,List.all_cons,List.all_nil,List.getElem?_cons_zero,List.getElem?_cons_succ,sEq,Bool.and_true]
 congr 1
 rw [← Bool.decide_and]
 exact decide_eq_decide.2 ⟨fun h => Prod.ext h.1 h.2,fun h => by rw [h]; exact ⟨rfl,rfl⟩⟩
def ReadsP (es : List MapEntry) (al : List ((Int × Int) × Value)) : Prop := es.map (fun e => (e.key,e.val)) = al.map fun p => (pairV p.1,p.2)
def MapP (w : World) (b : Nat) (al : List ((Int × Int) × Value)) : Prop :=
 ∃ es clock,w.heap[b]? = some (.map es clock) ∧ ReadsP es.toList al ∧ (es.toList.map (·.born)).Nodup ∧ ∀ e ∈ es.toList,e.born < clock
theorem find_ask (T : PairT P t) (w : World) : ∀ {es : List MapEntry} {al : List ((Int × Int) × Value)} (i : Nat) (k : Int × Int),ReadsP es al →
  (aget al k = none ∧ (Instr.findAsking t (pairV k) es i).run P w = .ok none w) ∨
  ∃ j v e,aget al k = some v ∧ (Instr.findAsking t (pairV k) es i).run P w = .ok (some (i + j,v)) w ∧ es[j]? = some e ∧ e.key = pairV k ∧ e.val = v ∧
   (∀ v',ReadsP (es.modify j fun e => { e with key := pairV k,val := v' }) (aput al k v'))
 | [],al,i,k,h => by
  have : al = [] := by cases al with
   | nil => rfl
   | cons p r => simp [ReadsP] at h
  subst this
  exact .inl ⟨rfl,rfl⟩
 | e :: es,al,i,k,h => by
  cases al with
  | nil => simp [ReadsP] at h
  | cons p al =>
   obtain ⟨x,u⟩ := p
   simp only [ReadsP,List.map_cons,List.cons.injEq,Prod.mk.injEq] at h
   obtain ⟨⟨hk,hv⟩,h⟩ := h
   simp only [Instr.findAsking,Sem.run_bind,hk,pair_equal T,Result.andThen_ok,aget,aput]
   by_cases hkx : k = x
   ·subst hkx
    right
    refine ⟨0,u,e,by simp,by simp [hv],by simp,hk,hv,fun v' => ?_⟩
    simp only [if_true,ReadsP,List.modify_zero_cons,List.map_cons,hk]
    rw [h]
   ·simp only [hkx,decide_false,if_false,Bool.false_eq_true]
    rcases find_ask T w (i + 1) k h with ⟨h1,h2⟩ | ⟨j,v,e',h1,h2,h3,h4,h5,h6⟩
    ·exact .inl ⟨h1,h2⟩
    ·right
     refine ⟨j + 1,v,e',h1,by rw [h2]; congr 3; omega,by simpa using h3,h4,h5,fun v' => ?_⟩
     have := h6 v'
     simp only [ReadsP,List.modify_succ_cons,List.map_cons,hk,hv] at this ⊢
     rw [this]
theorem aput_none {K : Type} [DecidableEq K] {k : K} {v : Value} : ∀ (al : List (K × Value)),aget al k = none → aput al k v = al ++ [(k,v)]
 | [],_ => rfl
 | (x,u) :: r,hn => by
  simp only [aget] at hn
  split at hn
  ·cases hn
  ·rename_i hne
   simp only [aput,if_neg hne,aput_none r hn,List.cons_append]
theorem PairT.wide (T : PairT P t) : (match P.underlying t with | some (.array _ _) | some (.struct _) => true | _ => false) = true := by
 obtain ⟨⟨f,g,hu,_⟩,_⟩ := T
 rw [hu]
structure MapPT (P : Program) (t kT eT : TypeId) (z : Value) : Prop where
 und : P.underlying t = some (.map kT eT)
 key : PairT P kT
 zero : zeroOf P eT = some z
theorem lk_pair {kT eT : TypeId} {z : Value} (T : MapPT P t kT eT z) {b : Nat} {al : List ((Int × Int) × Value)} (h : MapP w b al) (k : Int × Int) :
  Lk P t false w (.map (some b)) (pairV k) ((aget al k).getD z) ∧ Lk P t true w (.map (some b)) (pairV k) (.tuple #[(aget al k).getD z,.bool (aget al k).isSome]) := by
 obtain ⟨es,clock,h1,h2,h3⟩ := h
 have hck : ∀ e,(Instr.checkKey e 10000 kT (pairV k)).run P w = .ok () w := fun e => pair_check T.key e k w
 have hfk : (Instr.findKey kT (pairV k) es.toList).run P w = (Instr.findAsking kT (pairV k) es.toList).run P w := run_findKey_eq w T.key.wide _ _
 rcases find_ask T.key w 0 k h2 with ⟨g1,g2⟩ | ⟨j,v,e,g1,g2,-⟩
 ·simp only [Lk,Instr.lookup,Sem.run_bind,run_und T.und,Result.andThen_ok,run_getObj_map h1,Sem.run_pure,hck,hfk,g2,Sem.run_map,run_zero T.zero,g1]
  constructor <;> rfl
 ·simp only [Lk,Instr.lookup,Sem.run_bind,run_und T.und,Result.andThen_ok,run_getObj_map h1,Sem.run_pure,hck,hfk,g2,g1]
  constructor <;> rfl
theorem mup_pair {kT eT : TypeId} {z : Value} (T : MapPT P t kT eT z) {b : Nat} {al : List ((Int × Int) × Value)} (h : MapP w b al) (k : Int × Int) (v : Value) :
  ∃ w1,MUp P t w (.map (some b)) (pairV k) v w1 ∧ MapP w1 b (aput al k v) ∧ Chg [b] w w1 := by
 obtain ⟨es,clock,h1,h2,h3,h4⟩ := h
 have hck : ∀ e,(Instr.checkKey e 10000 kT (pairV k)).run P w = .ok () w := fun e => pair_check T.key e k w
 have hfk : (Instr.findKey kT (pairV k) es.toList).run P w = (Instr.findAsking kT (pairV k) es.toList).run P w := run_findKey_eq w T.key.wide _ _
 have hlt := (Array.getElem?_eq_some_iff.1 h1).1
 rcases find_ask T.key w 0 k h2 with ⟨g1,g2⟩ | ⟨j,u,e,g1,g2,g3,g4,g5,g6⟩
 ·refine ⟨setB w b (.map (es.push { key := pairV k,val := v,born := clock }) (clock + 1)),?_,⟨_,_,setB_at hlt,?_,?_,?_⟩,setB_chg _ _ _⟩
  ·simp only [MUp,Instr.mapUpdate,Sem.run_bind,run_und T.und,Result.andThen_ok,run_getObj_map h1,hck,hfk,g2,run_setObj_map h1]
  ·rw [Array.toList_push,aput_none al g1]
   simp only [ReadsP,List.map_append,List.map_cons,List.map_nil] at h2 ⊢
   rw [h2]
  ·rw [Array.toList_push,List.map_append,List.nodup_append]
   refine ⟨h3,by simp,?_⟩
   intro a ha c hc
   simp at hc; subst hc
   obtain ⟨e,he,rfl⟩ := List.mem_map.1 ha
   exact Nat.ne_of_lt (h4 e he)
  ·intro e he
   rw [Array.toList_push] at he
   rcases List.mem_append.1 he with he | he
   ·exact Nat.lt_succ_of_lt (h4 e he)
   ·simp at he; subst he; exact Nat.lt_succ_self _
 ·have hj : es[j]? = some e := by simpa using g3
  refine ⟨setB w b (.map (es.modify j fun e => { e with key := pairV k,val := v }) clock),?_,⟨_,_,setB_at hlt,?_,?_,?_⟩,setB_chg _ _ _⟩
  ·rw [Nat.zero_add] at g2
   have hb : Instr.sameBits 10000 (pairV k) (pairV k) = true := by
    show Instr.sameBits (9999 + 1) (pairV k) (pairV k) = true
    simp [Instr.sameBits,pairV]
   have hstay : (Instr.keyThatStays (pairV k) (pairV k)).run P w = .ok (pairV k) w := by
    simp [Instr.keyThatStays,hb]
   simp only [MUp,Instr.mapUpdate,Sem.run_bind,run_und T.und,Result.andThen_ok,run_getObj_map h1,hck,hfk,g2,hj,Option.map_some,Option.getD_some,g4,hstay,run_setObj_map h1]
  ·rw [Array.toList_modify]; exact g6 v
  ·rw [Array.toList_modify,born_modify]; exact h3
  ·intro e' he'
   have : e'.born ∈ (es.modify j fun e => { e with key := pairV k,val := v }).toList.map (·.born) := List.mem_map.2 ⟨e',he',rfl⟩
   rw [Array.toList_modify,born_modify] at this
   obtain ⟨e2,he2,e3⟩ := List.mem_map.1 this
   rw [← e3]; exact h4 e2 he2
def pmapA (b : Nat) (al : List ((Int × Int) × Value)) : Asn := .any [b] fun w => MapP w b al
theorem pmap_ok {b : Nat} {al : List ((Int × Int) × Value)} {w : World} (h : MapP w b al) : (pmapA b al).ok w :=
 ⟨by intro k hk; simp at hk; subst hk; obtain ⟨es,c,h1,_⟩ := h; exact (Array.getElem?_eq_some_iff.1 h1).1,fun w' e => by
  obtain ⟨es,c,h1,h2⟩ := h
  exact ⟨es,c,(e b (by simp)).trans h1,h2⟩⟩
theorem pmap_get {b : Nat} {al : List ((Int × Int) × Value)} {w : World} (h : (pmapA b al).ok w) : MapP w b al := h.2 w fun _ _ => rfl
variable {B : List Nat} {w0 w' : World} {L : List Asn} {kT eT : TypeId} {z v : Value} {b : Nat}
theorem Hp.newP (H : Hp B w0 w L) (e : Eqw w w') {w1 : World} (h : New w' (.map #[] 0) b w1) : Hp B w0 w1 (pmapA b [] :: L) :=
 (H.go e).add h.chg (pmap_ok ⟨#[],0,h.blk,rfl,by simp,by simp⟩) (by simp [Asn.foot,pmapA]; exact h.num ▸ Nat.le_refl _)
theorem Hp.lkP {al : List ((Int × Int) × Value)} (T : MapPT P t kT eT z) (H : Hp B w0 w L) (e : Eqw w w') (m : pmapA b al ∈ L) {x : Int × Int} (hv : (aget al x).getD z = v) : Lk P t false w' (.map (some b)) (pairV x) v := by
 subst hv; exact (lk_pair T (pmap_get ((H.go e).ok _ m)) x).1
theorem Hp.lkPok {al : List ((Int × Int) × Value)} (T : MapPT P t kT eT z) (H : Hp B w0 w L) (e : Eqw w w') (m : pmapA b al ∈ L) {x : Int × Int} {o : Bool} (hv : (aget al x).getD z = v) (ho : (aget al x).isSome = o) : Lk P t true w' (.map (some b)) (pairV x) (.tuple #[v,.bool o]) := by
 subst hv; subst ho; exact (lk_pair T (pmap_get ((H.go e).ok _ m)) x).2
theorem Hp.mupP {al : List ((Int × Int) × Value)} (T : MapPT P t kT eT z) (H : Hp B w0 w (pmapA b al :: L)) (e : Eqw w w') {x : Int × Int} {G : World → Prop}
  (kk : ∀ w1,Hp B w0 w1 (pmapA b (aput al x v) :: L) → G w1) : ∃ w1,MUp P t w' (.map (some b)) (pairV x) v w1 ∧ G w1 := by
 obtain ⟨w1,h1,h2,h3⟩ := mup_pair T (pmap_get ((H.go e).ok _ (.head _))) x v
 exact ⟨w1,h1,kk w1 ((H.go e).set h3 (pmap_ok h2) fun k hk => .inl hk)⟩
end
end Go.Vc
namespace Go.Proofs.YtdeebigmpffnbaaGreat
open Go Go.Vc Go.Vault Go.Redo
section
variable {K V : Type} [DecidableEq K]
def gget : List (K × V) → K → Option V
 | [],_ => none
 | (x,v) :: r,k => if k = x then some v else gget r k
def gput : List (K × V) → K → V → List (K × V)
 | [],k,v => [(k,v)]
 | (x,u) :: r,k,v => if k = x then (x,v) :: r else (x,u) :: gput r k v
def mapV (f : V → Value) (l : List (K × V)) : List (K × Value) := l.map fun p => (p.1,f p.2)
theorem aget_map (f : V → Value) : ∀ (l : List (K × V)) (k : K),Vc.aget (mapV f l) k = (gget l k).map f
 | [],_ => rfl
 | (x,v) :: r,k => by
  have ih := aget_map f r k
  simp only [mapV,List.map_cons,Vc.aget,gget] at ih ⊢
  split
  ·rfl
  ·exact ih
theorem aput_map (f : V → Value) : ∀ (l : List (K × V)) (k : K) (v : V),Vc.aput (mapV f l) k (f v) = mapV f (gput l k v)
 | [],_,_ => rfl
 | (x,u) :: r,k,v => by
  have ih := aput_map f r k v
  simp only [mapV,List.map_cons,Vc.aput,gput] at ih ⊢
  split
  ·rfl
  ·rw [ih]; rfl
theorem gget_put (l : List (K × V)) (k : K) (v : V) (j : K) : gget (gput l k v) j = if j = k then some v else gget l j := by
 induction l with
 | nil => simp [gput,gget]
 | cons p r ih =>
  obtain ⟨x,u⟩ := p
  simp only [gput]
  by_cases hk : k = x
  ·rw [if_pos hk]
   subst hk
   simp only [gget]
   split <;> rfl
  ·rw [if_neg hk]
   simp only [gget]
   by_cases hj : j = x
   ·rw [if_pos hj,if_pos hj,if_neg (fun h => hk (by rw [← h,hj]))]
   ·rw [if_neg hj,if_neg hj,ih]
theorem gget_none {l : List (K × V)} {k : K} : gget l k = none ↔ ∀ p ∈ l,p.1 ≠ k := by
 induction l with
 | nil => simp [gget]
 | cons p r ih =>
  obtain ⟨x,u⟩ := p
  simp only [gget,List.forall_mem_cons]
  by_cases hk : k = x
  ·rw [if_pos hk]; simp [hk]
  ·rw [if_neg hk,ih]
   exact ⟨fun h => ⟨fun e => hk e.symm,h⟩,fun h => h.2⟩
theorem gget_mem {l : List (K × V)} {k : K} {v : V} (h : gget l k = some v) : (k,v) ∈ l := by
 induction l with
 | nil => cases h
 | cons p r ih =>
  obtain ⟨x,u⟩ := p
  simp only [gget] at h
  split at h
  ·rename_i hk; subst hk; cases h; exact .head _
  ·exact .tail _ (ih h)
theorem gput_keys {l : List (K × V)} {k : K} {v : V} (h : gget l k ≠ none) : (gput l k v).map (·.1) = l.map (·.1) := by
 induction l with
 | nil => exact absurd rfl h
 | cons p r ih =>
  obtain ⟨x,u⟩ := p
  simp only [gget] at h
  simp only [gput]
  split
  ·rfl
  ·rename_i hk
   rw [if_neg hk] at h
   simp only [List.map_cons,ih h]
theorem gput_new {l : List (K × V)} {k : K} {v : V} (h : gget l k = none) : gput l k v = l ++ [(k,v)] := by
 induction l with
 | nil => rfl
 | cons p r ih =>
  obtain ⟨x,u⟩ := p
  simp only [gget] at h
  split at h
  ·cases h
  ·rename_i hk
   simp only [gput,if_neg hk,ih h,List.cons_append]
theorem gput_nodup {l : List (K × V)} {k : K} {v : V} (h : (l.map (·.1)).Nodup) : ((gput l k v).map (·.1)).Nodup := by
 by_cases hk : gget l k = none
 ·rw [gput_new hk,List.map_append,List.nodup_append]
  refine ⟨h,by simp,fun a ha b hb => ?_⟩
  simp at hb; subst hb
  obtain ⟨p,hp,rfl⟩ := List.mem_map.1 ha
  exact gget_none.1 hk p hp
 ·rw [gput_keys hk]; exact h
theorem gget_at {l : List (K × V)} (h : (l.map (·.1)).Nodup) {k : K} {v : V} (hm : (k,v) ∈ l) : gget l k = some v := by
 induction l with
 | nil => cases hm
 | cons p r ih =>
  obtain ⟨x,u⟩ := p
  simp only [List.map_cons,List.nodup_cons] at h
  simp only [gget]
  rcases List.mem_cons.1 hm with h2 | h2
  ·cases h2; rw [if_pos rfl]
  ·rw [if_neg (fun e => h.1 (List.mem_map.2 ⟨_,h2,e⟩))]
   exact ih h.2 h2
theorem gput_mem {l : List (K × V)} {k : K} {v : V} {p : K × V} (h : p ∈ gput l k v) : p = (k,v) ∨ p ∈ l := by
 induction l with
 | nil => simp only [gput,List.mem_singleton] at h; exact .inl h
 | cons q r ih =>
  obtain ⟨x,u⟩ := q
  simp only [gput] at h
  split at h
  ·rename_i hk
   rcases List.mem_cons.1 h with h | h
   ·subst hk; exact .inl h
   ·exact .inr (.tail _ h)
  ·rcases List.mem_cons.1 h with h | h
   ·exact .inr (h ▸ .head _)
   ·exact (ih h).imp id (.tail _)
end
abbrev Tou := Int → Nat
def Tou.up (T : Tou) (n : Int) : Tou := fun k => if k = n then T k + 1 else T k
def cntV (n : Nat) : Value := .int .i64 (n : Int)
structure TouL (T : Tou) (l : List (Int × Nat)) : Prop where
 nodup : (l.map (·.1)).Nodup
 at_ : ∀ n,(gget l n).getD 0 = T n
 pos : ∀ p ∈ l,0 < p.2
theorem TouL.nil : TouL (fun _ => 0) [] := ⟨by simp,fun _ => rfl,by simp⟩
theorem TouL.up {T : Tou} {l : List (Int × Nat)} (h : TouL T l) (n : Int) : TouL (T.up n) (gput l n (T n + 1)) := by
 refine ⟨gput_nodup h.nodup,fun k => ?_,fun p hp => ?_⟩
 ·rw [gget_put,Tou.up]
  by_cases hk : k = n
  ·rw [if_pos hk,if_pos hk,hk]; rfl
  ·rw [if_neg hk,if_neg hk]; exact h.at_ k
 ·rcases gput_mem hp with rfl | hp
  ·exact Nat.succ_pos _
  ·exact h.pos p hp
theorem TouL.keys {T : Tou} {l : List (Int × Nat)} (h : TouL T l) (n : Int) : n ∈ l.map (·.1) ↔ 0 < T n := by
 rw [← h.at_ n]
 constructor
 ·intro hm
  obtain ⟨p,hp,rfl⟩ := List.mem_map.1 hm
  rw [gget_at h.nodup (k := p.1) (v := p.2) hp]
  exact h.pos p hp
 ·intro hp
  cases hg : gget l n with
  | none => rw [hg] at hp; simp at hp
  | some c => exact List.mem_map.2 ⟨_,gget_mem hg,rfl⟩
def touA (b : Nat) (T : Tou) : Asn := .any [b] fun w => ∃ l,TouL T l ∧ MapAt (intKey .i64) w b (mapV cntV l)
theorem tou_ok {b : Nat} {T : Tou} {l : List (Int × Nat)} {w : World} (hl : TouL T l) (h : MapAt (intKey .i64) w b (mapV cntV l)) : (touA b T).ok w :=
 ⟨by intro k hk; simp at hk; subst hk; exact h.lt,fun w' e => ⟨l,hl,by
  obtain ⟨es,c,h1,h2⟩ := h
  exact ⟨es,c,(e b (by simp)).trans h1,h2⟩⟩⟩
theorem tou_get {b : Nat} {T : Tou} {w : World} (h : (touA b T).ok w) : ∃ l,TouL T l ∧ MapAt (intKey .i64) w b (mapV cntV l) := h.2 w fun _ _ => rfl
theorem Hp.openT {B : List Nat} {w0 w : World} {L : List Asn} {b : Nat} {T : Tou} (H : Hp B w0 w (touA b T :: L)) : ∃ l,TouL T l ∧ Hp B w0 w (.imap b .i64 (mapV cntV l) :: L) := by
 obtain ⟨l,hl,hm⟩ := tou_get (H.ok _ (.head _))
 exact ⟨l,hl,H.set (Chg.refl _ _) hm fun k hk => .inl (by simpa [Asn.foot,touA] using hk)⟩
theorem Hp.shutT {B : List Nat} {w0 w : World} {L : List Asn} {b : Nat} {T : Tou} {l : List (Int × Nat)} (hl : TouL T l) (H : Hp B w0 w (.imap b .i64 (mapV cntV l) :: L)) : Hp B w0 w (touA b T :: L) :=
 H.set (Chg.refl _ _) (tou_ok hl (H.ok _ (.head _))) fun k hk => .inl (by simpa [Asn.foot,touA] using hk)
def imgN (l : List UInt8) : Option Nat := if 3 < l.length ∧ l.head? = some 112 then some (valN ((l.take 3).drop 1)) else none
def imgS (T : Tou) (s : ByteArray) : Tou := match imgN s.data.toList with
 | some n => T.up (n : Int)
 | none => T
def imagesP (l : List ByteArray) : Tou := l.foldl imgS fun _ => 0
def cgV (c : Chg1) : Value := .agg #[.int .i64 c.page,.int .i64 c.slot,.string c.s,.bool c.gone]
abbrev Ord := List (Int × Int)
abbrev Last := List ((Int × Int) × Chg1)
abbrev TM := List (Int × AP)
def badC (c : Chg1) : Prop := c.page < 0 ∨ 4096 ≤ c.page ∨ c.slot < 0 ∨ 120 ≤ c.slot ∨ (c.gone = false ∧ 3600 < c.s.size)
instance (c : Chg1) : Decidable (badC c) := by unfold badC; infer_instance
def thereP (Ps : List AP) (c : Chg1) : Bool := match Ps[c.page.toNat]? with
 | some P => (Sl.lk P.1 c.slot).isSome
 | none => false
def finalF (Ps : List AP) : List Chg1 → Ord → Last → Option (Ord × Last)
 | [],o,la => some (o,la)
 | c :: r,o,la => if badC c then none else match gget la (c.page,c.slot) with
  | some was => if c.gone = true ∧ was.gone = true then none else finalF Ps r o (gput la (c.page,c.slot) c)
  | none => if c.gone = true ∧ thereP Ps c = false then none else finalF Ps r (o ++ [(c.page,c.slot)]) (gput la (c.page,c.slot) c)
def pageP (Ps : List AP) (n : Int) : AP := (Ps[n.toNat]?).getD ([],0)
def delF (Ps : List AP) : Ord → TM → TM
 | [],M => M
 | (p,s) :: r,M =>
  let P := (gget M p).getD (pageP Ps p)
  delF Ps r (gput M p ((Sl.adel P.1 s).1,P.2))
def putF : Ord → Last → TM → Option TM
 | [],_,M => some M
 | (p,s) :: r,la,M => match gget la (p,s),gget M p with
  | some c,some P => if c.gone = true then putF r la M else if (Sl.aput P.1 s c.s.data.toList).2 = 0 then putF r la (gput M p ((Sl.aput P.1 s c.s.data.toList).1,P.2)) else none
  | _,_ => none
def triedP (Ps : List AP) (l : List Chg1) : Option TM := match finalF Ps l [] [] with
 | none => none
 | some (o,la) => putF o la (delF Ps o [])
def stampP (st : Nat) (P : AP) : AP := (P.1,Sl.astamp P.2 (st : Int))
def lay1 (st : Nat) (Ps : List AP) (e : Int × AP) : List AP := (growP Ps (e.1.toNat + 1)).set e.1.toNat (stampP st e.2)
def layP (st : Nat) (Ps : List AP) (M : TM) : List AP := M.foldl (lay1 st) Ps
def upP (T : Tou) (M : TM) : Tou := M.foldl (fun T e => T.up e.1) T
def readAll (d : Dk) (T : Tou) : Nat → Nat → List AP → List AP × Int
 | 0,_,Ps => (Ps,0)
 | m + 1,n,Ps => if 0 < T n then readAll d T m (n + 1) (growP Ps (n + 1)) else match readP d n with
  | (some P,_) => readAll d T m (n + 1) ((growP Ps (n + 1)).set n P)
  | (none,e) => (Ps,e)
def nLog : ByteArray := ⟨#[108,111,103]⟩
structure JS where
 Ps : List AP
 T : Tou
def recF : List ByteArray → Nat → JS → List Chg1 → JS × Int
 | [],_,J,_ => (J,0)
 | s :: r,k,J,g => if s.size = 0 then (J,180) else if s.data.toList.head? = some 112 then
   (if (restP J.Ps s.data.toList).2 = 0 then recF r (k + 1) ⟨(restP J.Ps s.data.toList).1,J.T⟩ g else (J,(restP J.Ps s.data.toList).2))
  else match takenF s.size (s.data.toList.drop 1) [] with
   | none => (J,180)
   | some c => if s.data.toList.head? = some 101 then (match triedP J.Ps (g ++ c) with
     | none => (J,180)
     | some M => recF r (k + 1) ⟨layP (k + 1) J.Ps M,upP J.T M⟩ []) else recF r (k + 1) J (g ++ c)
def recoverP (d : Dk) (all : List ByteArray) : JS × Int :=
 let R := readAll d (imagesP all) (min (pagesP d) 4096) 0 []
 if R.2 = 0 then recF all 0 ⟨R.1,imagesP all⟩ [] else (⟨R.1,imagesP all⟩,R.2)
def jopenP (d : Dk) : Dk × Int × Lg × JS :=
 let o := openP d nLog
 if o.2.1 ≠ 0 then (o.1,o.2.1,o.2.2,⟨[],fun _ => 0⟩) else
 let f := fopenP o.1
 if f.2 ≠ 0 then (f.1,f.2,o.2.2,⟨[],fun _ => 0⟩) else
 (f.1,(recoverP f.1 o.2.2.all).2,o.2.2,(recoverP f.1 o.2.2.all).1)
end Go.Proofs.YtdeebigmpffnbaaGreat
namespace Go.Proofs.YtdeebigmpffnbaaGreat
open Go Go.Vc Go.Vault Go.Redo
theorem gMII : MapT Tryz.prog (intKey .i64) 86 3 3 (.int .i64 0) := ⟨by kernel_rfl,by kernel_rfl,by kernel_rfl⟩
theorem str_eta (s : ByteArray) : (⟨s.data.toList.toArray⟩ : ByteArray) = s := by
 obtain ⟨⟨l⟩⟩ := s; rfl
theorem str_len (s : ByteArray) : s.data.toList.length = s.size := Array.length_toList
theorem sb_head (l : List UInt8) (h : l ≠ []) (c : UInt8) : sb ⟨l.toArray⟩ 0 = (c.toNat : Int) ↔ l.head? = some c := by
 cases l with
 | nil => exact absurd rfl h
 | cons x r =>
  simp only [sb,List.head?_cons,Option.some.injEq]
  show (x.toNat : Int) = (c.toNat : Int) ↔ x = c
  constructor
  ·intro e
   exact UInt8.toNat_inj.1 (by omega)
  ·rintro rfl; rfl
theorem look_cnt {T : Tou} {l : List (Int × Nat)} (h : TouL T l) (n : Int) : (Vc.aget (mapV cntV l) n).getD (.int .i64 0) = .int .i64 (T n : Int) := by
 rw [aget_map]
 have := h.at_ n
 cases hg : gget l n with
 | none => rw [hg] at this; rw [← this]; rfl
 | some c => rw [hg] at this; rw [← this]; rfl
theorem jimages_spec (la : Option Addr) (lc : Nat) (l : List ByteArray) (hl : l.length ≤ 100000000) (w : World) (hL : Cells w la (l.map .string)) :
  Calls Tryz.prog 72 #[.slice la l.length lc] w fun e w' => ∃ b,e = .returned (.map (some b)) ∧ (∀ n,imagesP l n ≤ l.length) ∧ Hp [] w w' [touA b (imagesP l)] := by
 apply jimages.ok; unfold jimages.vc
 intro b w1 hn
 have H := ((Hp.start w).newI (by exact ⟨rfl,rfl,rfl,rfl⟩) .i64 hn)
 clear hn
 refine LoopP.mk (fun m s w' => ∃ (k : Nat) (T : Tou),m = l.length - k ∧ k ≤ l.length ∧ s = (k : Int) ∧ T = (l.take k).foldl imgS (fun _ => 0) ∧ (∀ n,T n ≤ k) ∧ Hp [] w w' [touA b T]) l.length ⟨0,fun _ => 0,rfl,by omega,rfl,rfl,fun _ => Nat.le_refl _,Hp.shutT TouL.nil H⟩ ?_
 clear H w1
 rintro m s w1 next ⟨k,T,rfl,hk,rfl,hT,hle,H⟩ hnext
 refine br_dec (fun h1 => ?_) (fun h1 => ?_)
 ·have hkl : k < l.length := by omega
  have hcw := hL.chg H.chg (by simp)
  have hat : (l.map Value.string)[k]? = some (.string l[k]) := by simp [hkl]
  obtain ⟨ad,ha,_⟩ := hcw k _ hat
  have hst : (l.take (k + 1)).foldl imgS (fun _ => 0) = imgS T l[k] := by
   rw [List.take_succ_eq_append_getElem hkl,List.foldl_append,← hT]; rfl
  refine onP_mk ha ⟨⟨by omega,by omega⟩,_,by rw [Int.toNat_natCast,Nat.mul_one]; exact hcw.ld gStr ha hat,?_⟩
  have skip : imgN l[k].data.toList = none → inR .i64 ((k : Int) + 1) ∧ next ((k : Int) + 1) w1 := fun h => by
   refine ⟨inR64.2 (by omega),hnext (l.length - (k + 1)) _ _ (by omega) ⟨k + 1,T,rfl,by omega,by omega,?_,fun n => by have := hle n; omega,H⟩⟩
   rw [hst,imgS,h]
  obtain ⟨q,hq⟩ : ∃ q,q = l[k].data.toList := ⟨_,rfl⟩
  have hs : l[k] = ⟨q.toArray⟩ := by rw [hq,str_eta]
  rw [← hq] at skip
  rw [hs]
  have hsz : (ByteArray.mk q.toArray).size = q.length := by simp [ByteArray.size]
  rw [hsz]
  refine br_ndec (fun h2 => ?_) (fun h2 => ?_)
  ·have h0 : q.length ≠ 0 := fun h => h2 (size0.2 (by rw [hsz]; exact h))
   have hh := sb_head q (fun h => h0 (by rw [h]; rfl)) 112
   refine ⟨⟨by omega,by omega⟩,br_dec (fun h3 => ?_) (fun h3 => ?_)⟩
   ·refine br_dec (fun h4 => ?_) (fun h4 => ?_)
    ·refine ⟨⟨by omega,by omega,by omega⟩,?_⟩
     rw [ext_mk,show Int.toNat 1 = 1 from rfl,show Int.toNat 3 = 3 from rfl]
     refine callV (jval_spec ((q.take 3).drop 1) (by rw [List.length_drop,List.length_take]; omega) _) ?_
     rintro e w2 ⟨rfl,H'⟩
     replace H := H.ext0 H'; clear H'
     obtain ⟨tl,htl,H2⟩ := Hp.openT H
     clear H
     have hi : imgN q = some (valN ((q.take 3).drop 1)) := by rw [imgN,if_pos ⟨by omega,hh.1 h3⟩]
     generalize hv : valN ((q.take 3).drop 1) = v at hi ⊢
     have hTv := hle (v : Int)
     refine ⟨_,rfl,_,H2.lkI gMII (by exact ⟨rfl,rfl,rfl,rfl⟩) (.head _) (look_cnt htl (v : Int)),inR64.2 (by omega),?_⟩
     refine H2.mupI gMII (by exact ⟨rfl,rfl,rfl,rfl⟩) ?_
     intro w3 H
     have e1 : Value.int .i64 ((T (v : Int) : Int) + 1) = cntV (T (v : Int) + 1) := by rw [cntV]; congr 1
     rw [e1,aput_map] at H
     have H3 := Hp.shutT (htl.up (v : Int)) H
     refine ⟨inR64.2 (by omega),hnext (l.length - (k + 1)) _ _ (by omega) ⟨k + 1,T.up (v : Int),rfl,by omega,by omega,?_,?_,H3⟩⟩
     ·rw [hst,hs,imgS]
      show _ = match imgN q with | some n => T.up (n : Int) | none => T
      rw [hi]
     ·intro n
      have := hle n
      unfold Tou.up
      split <;> omega
    ·exact skip (by rw [imgN,if_neg (fun h => h4 (by have := h.1; omega))])
   ·exact skip (by rw [imgN,if_neg (fun h => h3 (hh.2 h.2))])
  ·have h0 : q.length = 0 := by rw [← hsz]; exact size0.1 h2
   exact skip (by rw [imgN,if_neg (fun h => by have := h.1; omega)])
 ·have hke : k = l.length := by omega
  rw [hke,List.take_length] at hT
  have e : imagesP l = T := hT.symm
  rw [e]
  exact ⟨b,rfl,fun n => by have := hle n; omega,H⟩
def chB (c : Chg1) : ByteArray := if c.gone then ⟨#[]⟩ else c.s
def laidP (c : Chg1) : List UInt8 := be c.page 2 ++ (be c.slot 1 ++ (be (if c.gone then 1 else 0) 1 ++ (be ((chB c).size : Int) 2 ++ (chB c).data.toList)))
theorem mk_append (x y : List UInt8) : (⟨x.toArray⟩ : ByteArray) ++ ⟨y.toArray⟩ = ⟨(x ++ y).toArray⟩ := by
 refine name_eq ?_
 simp
theorem sz_mk (l : List UInt8) : (ByteArray.mk l.toArray).size = l.length := by simp [ByteArray.size]
end Go.Proofs.YtdeebigmpffnbaaGreat
namespace Go.Proofs.YtdeebigmpffnbaaGreat
open Go Go.Vc Go.Vault Go.Redo
theorem gaggC : Agg Tryz.prog 73 4 := agg_of (by kernel_rfl)
theorem gaggS : Agg Tryz.prog 169 2 := agg_of (by kernel_rfl)
theorem gpairS : PairT Tryz.prog 169 := pair_of (by kernel_rfl) (by kernel_rfl)
theorem geltS : Elt Tryz.prog 164 169 2 16 := elt_of (by kernel_rfl)
theorem gundSS : Tryz.prog.underlying 164 = some (.slice 169) := by kernel_rfl
theorem gMPC : MapPT Tryz.prog 165 169 73 (cgV ⟨0,0,⟨#[]⟩,false⟩) := ⟨by kernel_rfl,gpairS,by kernel_rfl⟩
theorem _root_.Go.Vc.Std.chg00 {w w' : World} {L : List Asn} (h : Std w L) (hc : Chg [] w w') : Std w' L := ((Hp.startL h).chg0 hc).std
section
variable {w : World} {jb : Nat} {va vb vc : Value} {p : JP} {t : Option Nat} {wt : Int} {Ps : List AP}
theorem jp_blk (st : Std w (jpL jb va vb vc p t wt Ps)) : Blk w jb (jcV va vb vc p t wt) 91 := st.1 _ (.head _)
theorem jp_ptr (st : Std w (jpL jb va vb vc p t wt Ps)) : Own w 0 99 1 p.pa p.bs.length p.pc (ptrsB p.bs) := st.1 _ (.tail _ (.head _))
theorem zip_mem : ∀ {bs : List Nat} {Ps : List AP} {n b : Nat} {P : AP},bs[n]? = some b → Ps[n]? = some P → pageA b P ∈ List.zipWith pageA bs Ps
 | [],_,_,_,_,h,_ => by simp at h
 | _ :: _,[],_,_,_,_,h => by simp at h
 | x :: bs,y :: Ps,0,b,P,h,h' => by
  simp at h h'; subst h h'
  exact .head _
 | x :: bs,y :: Ps,n + 1,b,P,h,h' => by
  simp at h h'
  exact .tail _ (zip_mem h h')
theorem jp_page (st : Std w (jpL jb va vb vc p t wt Ps)) {n b : Nat} {P : AP} (h : p.bs[n]? = some b) (h' : Ps[n]? = some P) : ∃ g,Sl.Rep g P.1 P.2 ∧ Blk w b g.cells 144 :=
 page_get (st.1 _ (.tail _ (.tail _ (zip_mem h h'))))
theorem jp_ldP (st : Std w (jpL jb va vb vc p t wt Ps)) {n : Nat} (hn : n < p.bs.length) : ∃ ad,p.pa = some ad ∧ Ld Tryz.prog 99 w (ad.add n) (.pointer (some ⟨p.bs[n],0,none⟩)) := by
 have hown := (jp_ptr st).cells
 have hat : (ptrsB p.bs)[n]? = some (.pointer (some ⟨p.bs[n],0,none⟩)) := by simp [ptrsB,hn]
 obtain ⟨ad,had,_⟩ := hown _ _ hat
 exact ⟨ad,had,hown.ld gPG had hat⟩
end
def ordC (o : Ord) : List Value := o.flatMap fun q => [.int .i64 q.1,.int .i64 q.2]
theorem ordC_append (x y : Ord) : ordC (x ++ y) = ordC x ++ ordC y := by simp [ordC]
theorem chC_get : ∀ {l : List Chg1} {k : Nat} (h : k < l.length),((chC l).drop (k * 4)).take 4 = [.int .i64 l[k].page,.int .i64 l[k].slot,.string l[k].s,.bool l[k].gone]
 | [],k,h => by simp at h
 | c :: r,0,h => rfl
 | c :: r,k + 1,h => by
  have e : chC (c :: r) = [.int .i64 c.page,.int .i64 c.slot,.string c.s,.bool c.gone] ++ chC r := rfl
  rw [e,show (k + 1) * 4 = 4 + k * 4 by omega,← List.drop_drop]
  exact chC_get (l := r) (by simpa using h)
theorem chC_len (l : List Chg1) : (chC l).length = l.length * 4 := by
 induction l with
 | nil => rfl
 | cons c r ih =>
  have e : chC (c :: r) = [.int .i64 c.page,.int .i64 c.slot,.string c.s,.bool c.gone] ++ chC r := rfl
  rw [e,List.length_append,ih,List.length_cons]; simp only [List.length_cons,List.length_nil]; omega
theorem chC_one {l : List Chg1} {u : Value} (h : u ∈ chC l) : u.oneCell' = true := by
 obtain ⟨c,_,hc⟩ := List.mem_flatMap.1 h
 simp only [List.mem_cons,List.not_mem_nil,or_false] at hc
 rcases hc with rfl | rfl | rfl | rfl <;> rfl
theorem chC_ld {w : World} {a : Option Addr} {l : List Chg1} (h : Cells w a (chC l)) {k : Nat} (hk : k < l.length) : ∃ ad,a = some ad ∧ Ld Tryz.prog 73 w (ad.add (k * 4)) (cgV l[k]) := by
 have hne : 0 < (chC l).length := by rw [chC_len]; omega
 obtain ⟨ad,had,_⟩ := h 0 _ (List.getElem?_eq_getElem hne)
 exact ⟨ad,had,h.ldA gaggC had (chC_get hk) rfl⟩
def FinPost (Ps : List AP) (l : List Chg1) (w : World) (e : Ending) (w' : World) : Prop :=
 (finalF Ps l [] [] = none ∧ e = .returned (.tuple #[.slice none 0 0,.map none,.bool false]) ∧ Hp [] w w' []) ∨
 ∃ (o : Ord) (la : Last) (oa : Option Addr) (oc mb : Nat),finalF Ps l [] [] = some (o,la) ∧ o.length ≤ l.length ∧ e = .returned (.tuple #[.slice oa o.length oc,.map (some mb),.bool true]) ∧ Hp [] w w' [pmapA mb (mapV cgV la),.own 169 2 oa o.length oc (ordC o)]
set_option maxHeartbeats 2000000 in
theorem jfinal_spec (jb : Nat) (va vb vc : Value) (p : JP) (t : Option Nat) (wt : Int) (Ps : List AP) (hl : p.bs.length = Ps.length) (hsz : Ps.length ≤ 4096) (ca : Option Addr) (cc : Nat) (l : List Chg1) (hll : l.length ≤ 100000000) (w : World) (st : Std w (jpL jb va vb vc p t wt Ps)) (hC : Cells w ca (chC l)) :
  Calls Tryz.prog 97 #[.pointer (some ⟨jb,0,none⟩),.slice ca l.length cc] w (FinPost Ps l w) := by
 apply jfinal.ok; unfold jfinal.vc
 intro b w1 hn
 have H := (Hp.start w).newP (by exact ⟨rfl,rfl,rfl,rfl⟩) hn
 clear hn
 refine LoopP.mk (fun m s w' => ∃ (k : Nat) (o : Ord) (la : Last) (oa : Option Addr) (oc : Nat),m = l.length - k ∧ k ≤ l.length ∧ s = ((oa,o.length,oc),(k : Int)) ∧ o.length ≤ k ∧ finalF Ps (l.drop k) o la = finalF Ps l [] [] ∧ Hp [] w w' [pmapA b (mapV cgV la),.own 169 2 oa o.length oc (ordC o)]) l.length
  ⟨0,[],[],none,0,rfl,by omega,rfl,Nat.le_refl _,rfl,(H.nilS 169 2).pull1⟩ ?_
 clear H w1
 rintro m s w1 next ⟨k,o,la,oa,oc,rfl,hk,rfl,hol,hf,H⟩ hnext
 dsimp only
 refine br_dec (fun h1 => ?_) (fun h1 => ?_)
 ·have hkl : k < l.length := by omega
  obtain ⟨ad,had,hld⟩ := chC_ld (hC.chg H.chg (by simp)) hkl
  rw [List.drop_eq_getElem_cons hkl] at hf
  generalize l[k] = c at hld hf
  obtain ⟨cp,cs,ct,cg⟩ := c
  refine onP_mk had ⟨⟨by omega,by omega⟩,_,_,_,_,by rw [Int.toNat_natCast]; exact hld,?_⟩
  clear hld
  have hbad : badC ⟨cp,cs,ct,cg⟩ → ∀ w',Hp [] w w' [] → FinPost Ps l w (.returned (.tuple #[.slice none 0 0,.map none,.bool false])) w' := fun hb w' H' => .inl ⟨by rw [← hf,finalF,if_pos hb],rfl,H'⟩
  intro b2 w2 hn
  replace H := H.new (cs := [.int .i64 0,.int .i64 0,.string ⟨#[]⟩,.bool false]) (by exact ⟨rfl,rfl,rfl,rfl⟩) hn
  clear hn
  refine Hp.stA (o := 0) H (by exact ⟨rfl,rfl,rfl,rfl⟩) gaggC (vs := [.int .i64 cp,.int .i64 cs,.string ct,.bool cg]) rfl rfl (by simp) (cs' := [.int .i64 cp,.int .i64 cs,.string ct,.bool cg]) rfl ?_
  clear H; intro w3 H
  refine ⟨_,H.ld (o := 0) (by exact ⟨rfl,rfl,rfl,rfl⟩) gInt (.head _) rfl,br_dec (fun h2 => hbad (.inl h2) _ H.done) (fun h2 => ?_)⟩
  refine ⟨_,H.ld (o := 0) (by exact ⟨rfl,rfl,rfl,rfl⟩) gInt (.head _) rfl,br_dec (fun h3 => hbad (.inr (.inl h3)) _ H.done) (fun h3 => ?_)⟩
  refine ⟨_,H.ld (o := 1) (by exact ⟨rfl,rfl,rfl,rfl⟩) gInt (.head _) rfl,br_dec (fun h4 => hbad (.inr (.inr (.inl h4))) _ H.done) (fun h4 => ?_)⟩
  refine ⟨_,H.ld (o := 1) (by exact ⟨rfl,rfl,rfl,rfl⟩) gInt (.head _) rfl,br_dec (fun h5 => hbad (.inr (.inr (.inr (.inl h5)))) _ H.done) (fun h5 => ?_)⟩
  refine ⟨_,H.ld (o := 3) (by exact ⟨rfl,rfl,rfl,rfl⟩) gBool (.head _) rfl,?_⟩
  refine (fun (kk : ¬ badC ⟨cp,cs,ct,cg⟩ → _) => br_not (fun h6 => ⟨_,H.ld (o := 2) (by exact ⟨rfl,rfl,rfl,rfl⟩) gStr (.head _) rfl,br_dec (fun h7 => hbad (.inr (.inr (.inr (.inr ⟨h6,by show 3600 < ct.size; omega⟩)))) _ H.done) (fun h7 => kk (fun hb => by
    rcases hb with h | h | h | h | h
    ·exact h2 h
    ·exact h3 h
    ·exact h4 h
    ·exact h5 h
    ·exact h7 (by have := h.2; dsimp only at this; omega)))⟩) (fun h6 => kk (fun hb => by
    rcases hb with h | h | h | h | h
    ·exact h2 h
    ·exact h3 h
    ·exact h4 h
    ·exact h5 h
    ·rw [show cg = true from h6] at h; cases h.1))) ?_
  intro hok
  rw [finalF,if_neg hok] at hf
  dsimp only at hf
  refine ⟨_,H.ld (o := 0) (by exact ⟨rfl,rfl,rfl,rfl⟩) gInt (.head _) rfl,_,H.ld (o := 1) (by exact ⟨rfl,rfl,rfl,rfl⟩) gInt (.head _) rfl,?_⟩
  intro b4 w4 hn
  replace H := H.new (cs := [.int .i64 0,.int .i64 0]) (by exact ⟨rfl,rfl,rfl,rfl⟩) hn
  clear hn
  refine Hp.stA (o := 0) H (by exact ⟨rfl,rfl,rfl,rfl⟩) gaggS (vs := [.int .i64 cp,.int .i64 cs]) rfl rfl (by simp) (cs' := [.int .i64 cp,.int .i64 cs]) rfl ?_
  clear H; intro w5 H
  refine ⟨_,_,H.ldA (o := 0) (by exact ⟨rfl,rfl,rfl,rfl⟩) gaggS (.head _) (vs := [.int .i64 cp,.int .i64 cs]) rfl rfl,?_⟩
  have fin : ∀ (o2 : Ord) (a2 : Option Addr) (c2 : Nat) (w8 : World) (X : List Asn),o2.length ≤ k + 1 → finalF Ps (l.drop (k + 1)) o2 (gput la (cp,cs) ⟨cp,cs,ct,cg⟩) = finalF Ps l [] [] →
    Hp [] w w8 ([pmapA b (mapV cgV la),.own 169 2 a2 o2.length c2 (ordC o2),.blk b4 [.int .i64 cp,.int .i64 cs] 169,.blk b2 [.int .i64 cp,.int .i64 cs,.string ct,.bool cg] 73] ++ X) →
    ∃ i i_6,Ld Tryz.prog 169 w8 ⟨b4,0,none⟩ (.agg #[.int .i64 i,.int .i64 i_6]) ∧ ∃ i_7 i_8 s_4 b_10,Ld Tryz.prog 73 w8 ⟨b2,0,none⟩ (.agg #[.int .i64 i_7,.int .i64 i_8,.string s_4,.bool b_10]) ∧
     ∃ w1,MUp Tryz.prog 165 w8 (.map (some b)) (.agg #[.int .i64 i,.int .i64 i_6]) (.agg #[.int .i64 i_7,.int .i64 i_8,.string s_4,.bool b_10]) w1 ∧ inR .i64 ((k : Int) + 1) ∧ next ((a2,o2.length,c2),(k : Int) + 1) w1 := by
   intro o2 a2 c2 w8 X hol2 hf2 K
   refine ⟨_,_,K.ldA (o := 0) (by exact ⟨rfl,rfl,rfl,rfl⟩) gaggS (.tail _ (.tail _ (.head _))) (vs := [.int .i64 cp,.int .i64 cs]) rfl rfl,_,_,_,_,K.ldA (o := 0) (by exact ⟨rfl,rfl,rfl,rfl⟩) gaggC (.tail _ (.tail _ (.tail _ (.head _)))) (vs := [.int .i64 cp,.int .i64 cs,.string ct,.bool cg]) rfl rfl,?_⟩
   refine Hp.mupP (x := (cp,cs)) (v := cgV ⟨cp,cs,ct,cg⟩) gMPC K (by exact ⟨rfl,rfl,rfl,rfl⟩) ?_
   intro w9 K
   rw [aput_map] at K
   refine ⟨inR64.2 (by omega),hnext (l.length - (k + 1)) _ _ (by omega) ⟨k + 1,o2,_,a2,c2,rfl,by omega,rfl,hol2,hf2,?_⟩⟩
   have K2 : Hp [] w w9 ([pmapA b (mapV cgV (gput la (cp,cs) ⟨cp,cs,ct,cg⟩)),.own 169 2 a2 o2.length c2 (ordC o2)] ++ ([.blk b4 [.int .i64 cp,.int .i64 cs] 169,.blk b2 [.int .i64 cp,.int .i64 cs,.string ct,.bool cg] 73] ++ X)) := K
   exact K2.takeL
  cases hg : gget la (cp,cs) with
  | some was =>
   rw [hg] at hf
   dsimp only at hf
   refine ⟨_,_,_,_,_,H.lkPok gMPC (x := (cp,cs)) (by exact ⟨rfl,rfl,rfl,rfl⟩) (.tail _ (.tail _ (.head _))) (v := cgV was) (o := true) (by rw [aget_map,hg]; rfl) (by rw [aget_map,hg]; rfl),?_⟩
   intro b7 w7 hn
   replace H := H.new (cs := [.int .i64 0,.int .i64 0,.string ⟨#[]⟩,.bool false]) (by exact ⟨rfl,rfl,rfl,rfl⟩) hn
   clear hn
   refine Hp.stA (o := 0) H (by exact ⟨rfl,rfl,rfl,rfl⟩) gaggC (vs := [.int .i64 was.page,.int .i64 was.slot,.string was.s,.bool was.gone]) rfl rfl (by simp) (cs' := [.int .i64 was.page,.int .i64 was.slot,.string was.s,.bool was.gone]) rfl ?_
   clear H; intro w8 H
   refine br_true ⟨_,H.ld (o := 3) (by exact ⟨rfl,rfl,rfl,rfl⟩) gBool (.head _) rfl,br_false ⟨_,H.ld (o := 3) (cs := [.int .i64 cp,.int .i64 cs,.string ct,.bool cg]) (by exact ⟨rfl,rfl,rfl,rfl⟩) gBool (.tail _ (.tail _ (.head _))) rfl,?_⟩⟩
   have HF : Hp [] w w8 ([pmapA b (mapV cgV la),.own 169 2 oa o.length oc (ordC o),.blk b4 [.int .i64 cp,.int .i64 cs] 169,.blk b2 [.int .i64 cp,.int .i64 cs,.string ct,.bool cg] 73] ++ [.blk b7 [.int .i64 was.page,.int .i64 was.slot,.string was.s,.bool was.gone] 73]) := H.perm (by (refine perm_cnt fun f g a b c d=>?_;simp only[c,b,a];omega))
   refine br_mk (fun h8 => br_mk (fun h9 => ?_) (fun h9 => ?_)) (fun h8 => ?_)
   ·rw [if_pos ⟨h8,by cases hw : was.gone with | true => rfl | false => rw [hw] at h9; cases h9⟩] at hf
    exact .inl ⟨hf.symm,rfl,H.done⟩
   ·rw [if_neg (fun h => by rw [h.2] at h9; cases h9)] at hf
    exact fin o oa oc w8 _ (by omega) hf HF
   ·rw [if_neg (fun h => by rw [h.1] at h8; cases h8)] at hf
    exact fin o oa oc w8 _ (by omega) hf HF
  | none =>
   rw [hg] at hf
   dsimp only at hf
   refine ⟨_,_,_,_,_,H.lkPok gMPC (x := (cp,cs)) (by exact ⟨rfl,rfl,rfl,rfl⟩) (.tail _ (.tail _ (.head _))) (v := cgV ⟨0,0,⟨#[]⟩,false⟩) (o := false) (by rw [aget_map,hg]; rfl) (by rw [aget_map,hg]; rfl),?_⟩
   intro b7 w7 hn
   replace H := H.new (cs := [.int .i64 0,.int .i64 0,.string ⟨#[]⟩,.bool false]) (by exact ⟨rfl,rfl,rfl,rfl⟩) hn
   clear hn
   refine Hp.stA (o := 0) H (by exact ⟨rfl,rfl,rfl,rfl⟩) gaggC (vs := [.int .i64 0,.int .i64 0,.string ⟨#[]⟩,.bool false]) rfl rfl (by simp) (cs' := [.int .i64 0,.int .i64 0,.string ⟨#[]⟩,.bool false]) rfl ?_
   clear H; intro w8 H
   refine br_false (br_true ⟨_,_,H.ldA (o := 0) (cs := [.int .i64 cp,.int .i64 cs]) (by exact ⟨rfl,rfl,rfl,rfl⟩) gaggS (.tail _ (.head _)) (vs := [.int .i64 cp,.int .i64 cs]) rfl rfl,?_⟩)
   intro b9 w9 hn
   replace H := H.new (cs := [.int .i64 cp,.int .i64 cs]) (by exact ⟨rfl,rfl,rfl,rfl⟩) hn
   clear hn
   have H1 : Hp [] w w9 (.own 169 2 oa o.length oc (ordC o) :: .blk b9 [.int .i64 cp,.int .i64 cs] 169 :: [pmapA b (mapV cgV la),.blk b4 [.int .i64 cp,.int .i64 cs] 169,.blk b2 [.int .i64 cp,.int .i64 cs,.string ct,.bool cg] 73]) := by
    have := H.perm (M := [.blk b7 [.int .i64 0,.int .i64 0,.string ⟨#[]⟩,.bool false] 73,.own 169 2 oa o.length oc (ordC o),.blk b9 [.int .i64 cp,.int .i64 cs] 169,pmapA b (mapV cgV la),.blk b4 [.int .i64 cp,.int .i64 cs] 169,.blk b2 [.int .i64 cp,.int .i64 cs,.string ct,.bool cg] 73]) (by (refine perm_cnt fun f g a b c d=>?_;simp only[c,b,a];omega))
    exact this.drop
   clear H
   refine Hp.app geltS (by omega) H1 (by exact ⟨rfl,rfl,rfl,rfl⟩) (Blk.src (n := 1) gundSS (H1.blk (.tail _ (.head _))) (by simp) (by rfl)) (by simp only [maxLen]; omega) (by omega) ?_
   clear H1; intro a2 c2 w10 H
   have e2 : ordC o ++ [.int .i64 cp,.int .i64 cs] = ordC (o ++ [(cp,cs)]) := by rw [ordC_append]; rfl
   have e3 : o.length + 1 = (o ++ [(cp,cs)]).length := by rw [List.length_append]; rfl
   rw [e2,e3] at H
   rw [e3]
   have HF : ∀ w',Chg [] w10 w' → Hp [] w w' ([pmapA b (mapV cgV la),.own 169 2 a2 (o ++ [(cp,cs)]).length c2 (ordC (o ++ [(cp,cs)])),.blk b4 [.int .i64 cp,.int .i64 cs] 169,.blk b2 [.int .i64 cp,.int .i64 cs,.string ct,.bool cg] 73] ++ [.blk b9 [.int .i64 cp,.int .i64 cs] 169]) := fun w' hc => (H.chg0 hc).perm (by (refine perm_cnt fun f g a b c d=>?_;simp only[c,b,a];omega))
   have S2 := st.chg00 H.drew.chg
   have hlen2 : (o ++ [(cp,cs)]).length ≤ k + 1 := by rw [List.length_append]; simp only [List.length_singleton]; omega
   refine ⟨_,H.drew.ld (o := 0) (cs := [.int .i64 cp,.int .i64 cs,.string ct,.bool cg]) (by exact ⟨rfl,rfl,rfl,rfl⟩) gInt (by repeat first | exact .head _ | refine .tail _ ?_) rfl,?_⟩
   refine onP_mk rfl ⟨_,_,_,(jp_blk S2).ld (o := 3) gSP.agg rfl,?_⟩
   refine br_dec (fun h8 => ?_) (fun h8 => ?_)
   ·have S3 := st.chg00 H.drew.drew.chg
    refine onP_mk rfl ⟨_,_,_,(jp_blk S3).ld (o := 3) gSP.agg rfl,_,H.drew.drew.ld (o := 0) (cs := [.int .i64 cp,.int .i64 cs,.string ct,.bool cg]) (by exact ⟨rfl,rfl,rfl,rfl⟩) gInt (by repeat first | exact .head _ | refine .tail _ ?_) rfl,?_⟩
    have hn : cp.toNat < p.bs.length := by omega
    have hnP : cp.toNat < Ps.length := by omega
    obtain ⟨ad,had,hldp⟩ := jp_ldP S3 hn
    refine onP_mk had ⟨⟨by omega,by omega⟩,_,by rw [Nat.mul_one]; exact hldp,_,H.drew.drew.ld (o := 1) (cs := [.int .i64 cp,.int .i64 cs,.string ct,.bool cg]) (by exact ⟨rfl,rfl,rfl,rfl⟩) gInt (by repeat first | exact .head _ | refine .tail _ ?_) rfl,?_⟩
    obtain ⟨g,hR,hb⟩ := jp_page S3 (List.getElem?_eq_getElem hn) (List.getElem?_eq_getElem hnP)
    refine callV (Sl.get_any hR hb cs) ?_
    rintro e w11 ⟨rfl,H'⟩
    have H2 := H.drew.drew.ext0 H'
    have hth : thereP Ps ⟨cp,cs,ct,cg⟩ = (Sl.lk Ps[cp.toNat].1 cs).isSome := by
     rw [thereP]; dsimp only; rw [List.getElem?_eq_getElem hnP]
    rw [hth] at hf
    refine ⟨_,_,rfl,_,H2.ld (o := 3) (cs := [.int .i64 cp,.int .i64 cs,.string ct,.bool cg]) (by exact ⟨rfl,rfl,rfl,rfl⟩) gBool (by repeat first | exact .head _ | refine .tail _ ?_) rfl,?_⟩
    have hc10 : Chg [] w10 w11 := (Eqw.chg ⟨rfl,rfl,rfl,rfl⟩ : Chg [] w10 w10.drew.drew).ext H'.chg
    refine br_mk (fun h9 => br_not (fun h10 => ?_) (fun h10 => ?_)) (fun h9 => ?_)
    ·rw [if_pos ⟨h9,h10⟩] at hf
     exact .inl ⟨hf.symm,rfl,H2.done⟩
    ·rw [if_neg (fun h => by rw [h.2] at h10; cases h10)] at hf
     exact fin _ a2 c2 _ _ hlen2 hf (HF _ hc10)
    ·rw [if_neg (fun h => by rw [h.1] at h9; cases h9)] at hf
     exact fin _ a2 c2 _ _ hlen2 hf (HF _ hc10)
   ·have hth : thereP Ps ⟨cp,cs,ct,cg⟩ = false := by
     rw [thereP]; dsimp only
     have e9 : Ps[cp.toNat]? = none := List.getElem?_eq_none (by omega)
     rw [e9]
    rw [hth] at hf
    refine ⟨_,H.drew.ld (o := 3) (cs := [.int .i64 cp,.int .i64 cs,.string ct,.bool cg]) (by exact ⟨rfl,rfl,rfl,rfl⟩) gBool (by repeat first | exact .head _ | refine .tail _ ?_) rfl,?_⟩
    have hc10 : Chg [] w10 w10.drew := Eqw.chg ⟨rfl,rfl,rfl,rfl⟩
    refine br_mk (fun h9 => ?_) (fun h9 => ?_)
    ·rw [if_pos ⟨h9,rfl⟩] at hf
     exact .inl ⟨hf.symm,rfl,H.drew.done⟩
    ·rw [if_neg (fun h => by rw [h.1] at h9; cases h9)] at hf
     exact fin _ a2 c2 _ _ hlen2 hf (HF _ hc10)
 ·have hke : k = l.length := by omega
  rw [hke,List.drop_length,finalF] at hf
  exact .inr ⟨o,la,oa,oc,b,hf.symm,by omega,rfl,H⟩
end Go.Proofs.YtdeebigmpffnbaaGreat
namespace Go.Proofs.YtdeebigmpffnbaaGreat
open Go Go.Vc Go.Vault Go.Redo
theorem gMIP : MapT Tryz.prog (intKey .i64) 112 3 99 (.pointer none) := ⟨by kernel_rfl,by kernel_rfl,by kernel_rfl⟩
section
variable {K V : Type} [DecidableEq K]
def gdel : List (K × V) → K → List (K × V)
 | [],_ => []
 | (x,u) :: r,k => if k = x then r else (x,u) :: gdel r k
theorem gdel_none {l : List (K × V)} {k : K} (h : gget l k = none) : gdel l k = l := by
 induction l with
 | nil => rfl
 | cons p r ih =>
  obtain ⟨x,u⟩ := p
  simp only [gget] at h
  split at h
  ·cases h
  ·rename_i hk
   simp only [gdel,if_neg hk,ih h]
theorem gget_perm {l : List (K × V)} {k : K} {v : V} (h : gget l k = some v) : l.Perm ((k,v) :: gdel l k) := by
 induction l with
 | nil => cases h
 | cons p r ih =>
  obtain ⟨x,u⟩ := p
  simp only [gget] at h
  simp only [gdel]
  split at h
  ·rename_i hk
   cases h
   rw [if_pos hk,hk]
  ·rename_i hk
   rw [if_neg hk]
   exact ((ih h).cons _).trans (.swap _ _ _)
theorem gput_perm {l : List (K × V)} {k : K} (v : V) : (gput l k v).Perm ((k,v) :: gdel l k) := by
 induction l with
 | nil => exact .refl _
 | cons p r ih =>
  obtain ⟨x,u⟩ := p
  simp only [gput,gdel]
  split
  ·rename_i hk; rw [hk]
  ·exact (ih.cons _).trans (.swap _ _ _)
end
structure OkQ (la : Last) (q : Int × Int) : Prop where
 page : 0 ≤ q.1 ∧ q.1 < 4096
 slot : 0 ≤ q.2 ∧ q.2 < 120
 has : ∃ c,gget la q = some c
theorem OkQ.put {la : Last} {q : Int × Int} (h : OkQ la q) (k : Int × Int) (c : Chg1) : OkQ (gput la k c) q := by
 refine ⟨h.page,h.slot,?_⟩
 rw [gget_put]
 split
 ·exact ⟨_,rfl⟩
 ·exact h.has
theorem finalF_ok (Ps : List AP) : ∀ (l : List Chg1) (o : Ord) (la : Last) {o' : Ord} {la' : Last},finalF Ps l o la = some (o',la') → (∀ q ∈ o,OkQ la q) → ∀ q ∈ o',OkQ la' q
 | [],o,la,o',la',h,ho => by
  rw [finalF] at h; cases h; exact ho
 | c :: r,o,la,o',la',h,ho => by
  rw [finalF] at h
  split at h
  ·cases h
  rename_i hb
  have hc : OkQ (gput la (c.page,c.slot) c) (c.page,c.slot) := by
   unfold badC at hb
   refine ⟨⟨?_,?_⟩,⟨?_,?_⟩,c,by rw [gget_put,if_pos rfl]⟩
   ·exact Int.not_lt.1 fun h => hb (.inl h)
   ·exact Int.not_le.1 fun h => hb (.inr (.inl h))
   ·exact Int.not_lt.1 fun h => hb (.inr (.inr (.inl h)))
   ·exact Int.not_le.1 fun h => hb (.inr (.inr (.inr (.inl h))))
  split at h
  ·split at h
   ·cases h
   ·exact finalF_ok Ps r _ _ h fun q hq => (ho q hq).put _ _
  ·split at h
   ·cases h
   ·refine finalF_ok Ps r _ _ h fun q hq => ?_
    rcases List.mem_append.1 hq with hq | hq
    ·exact (ho q hq).put _ _
    ·rw [List.mem_singleton] at hq; subst hq; exact hc
abbrev TE := List (Int × (Nat × AP))
def peV (e : Nat × AP) : Value := .pointer (some ⟨e.1,0,none⟩)
def pgsE (E : TE) : List Asn := E.map fun e => pageA e.2.1 e.2.2
def tmE (E : TE) : TM := E.map fun e => (e.1,e.2.2)
theorem tm_get (E : TE) (k : Int) : gget (tmE E) k = (gget E k).map (·.2) := by
 induction E with
 | nil => rfl
 | cons p r ih =>
  obtain ⟨x,u⟩ := p
  simp only [tmE,List.map_cons,gget] at ih ⊢
  split
  ·rfl
  ·exact ih
theorem tm_put (E : TE) (k : Int) (b : Nat) (P : AP) : tmE (gput E k (b,P)) = gput (tmE E) k P := by
 induction E with
 | nil => rfl
 | cons p r ih =>
  obtain ⟨x,u⟩ := p
  simp only [tmE,List.map_cons,gput] at ih ⊢
  split
  ·rfl
  ·rw [← ih]; rfl
theorem pgs_open {E : TE} {k : Int} {b : Nat} {P : AP} (h : gget E k = some (b,P)) : (pgsE E).Perm (pageA b P :: pgsE (gdel E k)) := (gget_perm h).map _
theorem pgs_put (E : TE) (k : Int) (b : Nat) (P : AP) : (pgsE (gput E k (b,P))).Perm (pageA b P :: pgsE (gdel E k)) := (gput_perm (l := E) (k := k) (b,P)).map _
theorem ord_get {o : Ord} {k : Nat} (h : k < o.length) : ((ordC o).drop (k * 2)).take 2 = [.int .i64 o[k].1,.int .i64 o[k].2] := by
 induction o generalizing k with
 | nil => simp at h
 | cons q r ih =>
  have e : ordC (q :: r) = [.int .i64 q.1,.int .i64 q.2] ++ ordC r := rfl
  cases k with
  | zero => rfl
  | succ k =>
   rw [e,show (k + 1) * 2 = 2 + k * 2 by omega,← List.drop_drop]
   exact ih (k := k) (by simpa using h)
def TriPost (Ps : List AP) (l : List Chg1) (w : World) (e : Ending) (w' : World) : Prop :=
 (triedP Ps l = none ∧ e = .returned (.tuple #[.map none,.bool false]) ∧ Hp [] w w' []) ∨
 ∃ (E : TE) (tb : Nat),triedP Ps l = some (tmE E) ∧ e = .returned (.tuple #[.map (some tb),.bool true]) ∧ Hp [] w w' (.imap tb .i64 (mapV peV E) :: pgsE E)
theorem mapV_get {K V : Type} [DecidableEq K] {f : V → Value} {l : List (K × V)} {k : K} {v : V} (h : gget l k = some v) (z : Value) : (Vc.aget (mapV f l) k).getD z = f v ∧ (Vc.aget (mapV f l) k).isSome = true := by
 rw [aget_map,h]; exact ⟨rfl,rfl⟩
theorem mapV_no {K V : Type} [DecidableEq K] {f : V → Value} {l : List (K × V)} {k : K} (h : gget l k = none) (z : Value) : (Vc.aget (mapV f l) k).getD z = z ∧ (Vc.aget (mapV f l) k).isSome = false := by
 rw [aget_map,h]; exact ⟨rfl,rfl⟩
set_option maxHeartbeats 2000000 in
theorem jtried_spec (jb : Nat) (va vb vc : Value) (p : JP) (t : Option Nat) (wt : Int) (Ps : List AP) (hl : p.bs.length = Ps.length) (hsz : Ps.length ≤ 4096) (ca : Option Addr) (cc : Nat) (l : List Chg1) (hll : l.length ≤ 100000000) (w : World) (st : Std w (jpL jb va vb vc p t wt Ps)) (hC : Cells w ca (chC l)) :
  Calls Tryz.prog 54 #[.pointer (some ⟨jb,0,none⟩),.slice ca l.length cc] w (TriPost Ps l w) := by
 apply jtried.ok; unfold jtried.vc
 refine callV (jfinal_spec jb va vb vc p t wt Ps hl hsz ca cc l hll w st hC) ?_
 rintro e w1 (⟨hf,rfl,H⟩ | ⟨o,la,oa,oc,mb,hf,hol,rfl,H⟩)
 ·exact ⟨_,_,_,_,_,rfl,br_true (.inl ⟨by rw [triedP,hf],rfl,H⟩)⟩
 refine ⟨_,_,_,_,_,rfl,br_false ?_⟩
 have hok := finalF_ok Ps l [] [] hf (by simp)
 have htr : triedP Ps l = putF o la (delF Ps o []) := by rw [triedP,hf]
 intro tb w2 hn
 replace H := H.newI (by exact ⟨rfl,rfl,rfl,rfl⟩) .i64 hn
 clear hn
 refine LoopP.mk (fun m s w' => ∃ (k : Nat) (E : TE),m = o.length - k ∧ k ≤ o.length ∧ s = (k : Int) ∧ delF Ps (o.drop k) (tmE E) = delF Ps o [] ∧ (∀ q ∈ o.take k,∃ x,gget E q.1 = some x) ∧
  Hp [] w w' (.own 169 2 oa o.length oc (ordC o) :: pmapA mb (mapV cgV la) :: .imap tb .i64 (mapV peV E) :: pgsE E)) o.length ⟨0,[],rfl,by omega,rfl,rfl,by simp,H.perm (by rw [show pgsE [] = [] from rfl,show mapV peV [] = [] from rfl]; (refine perm_cnt fun f g a b c d=>?_;simp only[c,b,a];omega))⟩ ?_
 clear H w1 w2
 rintro m s w1 next ⟨k,E,rfl,hk,rfl,hd,hE,H⟩ hnext
 refine br_dec (fun h1 => ?_) (fun h1 => ?_)
 ·have hkl : k < o.length := by omega
  have hq := hok _ (List.getElem_mem hkl)
  have hgo := ord_get hkl
  rw [List.drop_eq_getElem_cons hkl,delF] at hd
  try dsimp only at hd
  have htk : o.take (k + 1) = o.take k ++ [o[k]] := List.take_succ_eq_append_getElem hkl
  generalize o[k] = q at hq hgo hd htk
  obtain ⟨q1,q2⟩ := q
  have hq1 : 0 ≤ q1 ∧ q1 < 4096 := hq.page
  try dsimp only at hgo
  try dsimp only at hd
  obtain ⟨ad,had,hld⟩ := H.ldOA (by exact ⟨rfl,rfl,rfl,rfl⟩) gaggS (by omega) (.head _) (o := k * 2) hgo rfl
  refine onP_mk had ⟨⟨by omega,by omega⟩,_,_,by rw [Int.toNat_natCast]; exact hld,?_⟩
  clear hld
  intro b1 w2 hn
  replace H := H.new (cs := [.int .i64 0,.int .i64 0]) (by exact ⟨rfl,rfl,rfl,rfl⟩) hn
  clear hn
  refine Hp.stA (o := 0) H (by exact ⟨rfl,rfl,rfl,rfl⟩) gaggS (vs := [.int .i64 q1,.int .i64 q2]) rfl rfl (by simp) (cs' := [.int .i64 q1,.int .i64 q2]) rfl ?_
  clear H; intro w3 H
  refine ⟨_,H.ld (o := 0) (by exact ⟨rfl,rfl,rfl,rfl⟩) gInt (.head _) rfl,?_⟩
  have fin : ∀ (b : Nat) (P : AP) (w4 : World) (g' : Sl.Pg),Sl.Rep g' (Sl.adel P.1 q2).1 P.2 → (gget (tmE E) q1).getD (pageP Ps q1) = P →
    Hp [] w w4 (Sl.pgA b g' :: .blk b1 [.int .i64 q1,.int .i64 q2] 169 :: .own 169 2 oa o.length oc (ordC o) :: pmapA mb (mapV cgV la) :: .imap tb .i64 (mapV peV E) :: pgsE (gdel E q1)) →
    ∃ i,Ld Tryz.prog 3 w4 ⟨b1,0,none⟩ (.int .i64 i) ∧ ∃ w1,MUp Tryz.prog 112 w4 (.map (some tb)) (.int .i64 i) (.pointer (some ⟨b,0,none⟩)) w1 ∧ inR .i64 ((k : Int) + 1) ∧ next ((k : Int) + 1) w1 := by
   intro b P w4 g' hR hP K
   refine ⟨_,K.ld (o := 0) (cs := [.int .i64 q1,.int .i64 q2]) (by exact ⟨rfl,rfl,rfl,rfl⟩) gInt (.tail _ (.head _)) rfl,?_⟩
   have K1 := (Hp.shutP (P := ((Sl.adel P.1 q2).1,P.2)) hR K).pull4
   refine Hp.mupI gMIP (v := peV (b,((Sl.adel P.1 q2).1,P.2))) K1 (by exact ⟨rfl,rfl,rfl,rfl⟩) ?_
   intro w5 K2
   rw [aput_map] at K2
   refine ⟨inR64.2 (by omega),hnext (o.length - (k + 1)) _ _ (by omega) ⟨k + 1,gput E q1 (b,((Sl.adel P.1 q2).1,P.2)),rfl,by omega,by omega,by rw [tm_put,← hP] at *; exact hd,?_,?_⟩⟩
   ·intro q hq
    rw [htk] at hq
    rw [gget_put]
    split
    ·exact ⟨_,rfl⟩
    ·rename_i hne
     rcases List.mem_append.1 hq with hq | hq
     ·exact hE q hq
     ·rw [List.mem_singleton] at hq; subst hq; exact absurd rfl hne
   ·have K3 := K2.perm (M := .blk b1 [.int .i64 q1,.int .i64 q2] 169 :: .own 169 2 oa o.length oc (ordC o) :: pmapA mb (mapV cgV la) :: .imap tb .i64 (mapV peV (gput E q1 (b,((Sl.adel P.1 q2).1,P.2)))) :: pageA b ((Sl.adel P.1 q2).1,P.2) :: pgsE (gdel E q1)) (by (refine perm_cnt fun f g a b c d=>?_;simp only[c,b,a];omega))
    exact K3.drop.perm ((((pgs_put E q1 b ((Sl.adel P.1 q2).1,P.2)).symm.cons _).cons _).cons _)
  cases hg : gget E q1 with
  | some e =>
   obtain ⟨b,P⟩ := e
   have hP : (gget (tmE E) q1).getD (pageP Ps q1) = P := by rw [tm_get,hg]; rfl
   refine ⟨_,_,H.lkIok gMIP (by exact ⟨rfl,rfl,rfl,rfl⟩) (.tail _ (.tail _ (.tail _ (.head _)))) (mapV_get hg _).1 (mapV_get hg (.pointer none)).2,br_true ⟨_,H.ld (o := 1) (by exact ⟨rfl,rfl,rfl,rfl⟩) gInt (.head _) rfl,?_⟩⟩
   have K : Hp [] w w3 (pageA b P :: .blk b1 [.int .i64 q1,.int .i64 q2] 169 :: .own 169 2 oa o.length oc (ordC o) :: pmapA mb (mapV cgV la) :: .imap tb .i64 (mapV peV E) :: pgsE (gdel E q1)) := by
    have hp := pgs_open hg
    refine H.perm (perm_cnt fun ff gg h0 hc ha hpm => ?_)
    have h9 := hpm _ _ hp
    simp only [ha,hc,h0] at h9 ⊢
    omega
   obtain ⟨g,hR,K2⟩ := Hp.openP K
   refine callV (Sl.delete_any hR (K2.blk (.head _)) q2) ?_
   rintro e w4 ⟨rfl,g',hR',H'⟩
   exact ⟨_,rfl,fin b P w4 g' hR' hP (K2.use11 H')⟩
  | none =>
   have hPd : (gget (tmE E) q1).getD (pageP Ps q1) = pageP Ps q1 := by rw [tm_get,hg]; rfl
   have hdE : gdel E q1 = E := gdel_none hg
   refine ⟨_,_,H.lkIok gMIP (by exact ⟨rfl,rfl,rfl,rfl⟩) (.tail _ (.tail _ (.tail _ (.head _)))) (mapV_no hg _).1 (mapV_no hg (.pointer none)).2,br_false ⟨_,H.drew.ld (o := 0) (by exact ⟨rfl,rfl,rfl,rfl⟩) gInt (.head _) rfl,?_⟩⟩
   have S2 := st.chg00 H.drew.chg
   refine onP_mk rfl ⟨_,_,_,(jp_blk S2).ld (o := 3) gSP.agg rfl,br_dec (fun h2 => ?_) (fun h2 => ?_)⟩
   ·have S3 := st.chg00 H.drew.drew.chg
    have hn : q1.toNat < p.bs.length := by omega
    have hnP : q1.toNat < Ps.length := by omega
    have hPv : pageP Ps q1 = Ps[q1.toNat] := by rw [pageP,List.getElem?_eq_getElem hnP]; rfl
    refine onP_mk rfl ⟨_,_,_,(jp_blk S3).ld (o := 3) gSP.agg rfl,_,H.drew.drew.ld (o := 0) (by exact ⟨rfl,rfl,rfl,rfl⟩) gInt (.head _) rfl,?_⟩
    obtain ⟨ad,had,hldp⟩ := jp_ldP S3 hn
    refine onP_mk had ⟨⟨by omega,by omega⟩,_,by rw [Nat.mul_one]; exact hldp,?_⟩
    obtain ⟨g,hR,hb⟩ := jp_page S3 (List.getElem?_eq_getElem hn) (List.getElem?_eq_getElem hnP)
    refine callV (Sl.clone_any _ g _ ⟨hR.ok,hb⟩) ?_
    rintro e w4 ⟨b,rfl,H'⟩
    have H2 := H.drew.drew.ext1 H'
    clear H H'
    refine ⟨_,rfl,_,H2.ld (o := 1) (cs := [.int .i64 q1,.int .i64 q2]) (by exact ⟨rfl,rfl,rfl,rfl⟩) gInt (.tail _ (.head _)) rfl,?_⟩
    refine callV (Sl.delete_any hR (H2.blk (.head _)) q2) ?_
    rintro e w5 ⟨rfl,g',hR',H'⟩
    have H3 := H2.use11 H'
    refine ⟨_,rfl,fin b Ps[q1.toNat] w5 g' hR' (by rw [hPd,hPv]) ?_⟩
    rw [hdE]; exact H3
   ·have hPv : pageP Ps q1 = ([],0) := by
     have e9 : Ps[q1.toNat]? = none := List.getElem?_eq_none (by omega)
     rw [pageP,e9]; rfl
    refine callV (Sl.new_any _) ?_
    rintro e w4 ⟨b,rfl,H'⟩
    have H2 := H.drew.ext1 H'
    clear H H'
    refine ⟨_,rfl,_,H2.ld (o := 1) (cs := [.int .i64 q1,.int .i64 q2]) (by exact ⟨rfl,rfl,rfl,rfl⟩) gInt (.tail _ (.head _)) rfl,?_⟩
    refine callV (Sl.delete_any Sl.gZ_rep (H2.blk (.head _)) q2) ?_
    rintro e w5 ⟨rfl,g',hR',H'⟩
    have H3 := H2.use11 H'
    refine ⟨_,rfl,fin b ([],0) w5 g' hR' (by rw [hPd,hPv]) ?_⟩
    rw [hdE]; exact H3
 have hko : k = o.length := by omega
 rw [hko,List.drop_length,delF] at hd
 rw [hko,List.take_length] at hE
 rw [← hd] at htr
 clear hd h1 hnext hko hk
 refine LoopP.mk (fun m s w' => ∃ (k : Nat) (E : TE),m = o.length - k ∧ k ≤ o.length ∧ s = (k : Int) ∧ triedP Ps l = putF (o.drop k) la (tmE E) ∧ (∀ q ∈ o,∃ x,gget E q.1 = some x) ∧
  Hp [] w w' (.own 169 2 oa o.length oc (ordC o) :: pmapA mb (mapV cgV la) :: .imap tb .i64 (mapV peV E) :: pgsE E)) o.length ⟨0,E,rfl,by omega,rfl,htr,hE,H⟩ ?_
 clear H htr hE
 clear E
 rintro m s w1 next ⟨k,E,rfl,hk,rfl,htr,hE,H⟩ hnext
 refine br_dec (fun h1 => ?_) (fun h1 => ?_)
 ·have hkl : k < o.length := by omega
  have hq := hok _ (List.getElem_mem hkl)
  have hqE := hE _ (List.getElem_mem hkl)
  have hgo := ord_get hkl
  rw [List.drop_eq_getElem_cons hkl] at htr
  generalize o[k] = q at hq hgo htr hqE
  obtain ⟨q1,q2⟩ := q
  obtain ⟨c,hc⟩ := hq.has
  obtain ⟨⟨b,P⟩,hg⟩ := hqE
  try dsimp only at hgo
  try dsimp only at hc
  try dsimp only at hg
  have htm : gget (tmE E) q1 = some P := by rw [tm_get,hg]; rfl
  rw [putF,hc,htm] at htr
  dsimp only at htr
  obtain ⟨ad,had,hld⟩ := H.ldOA (by exact ⟨rfl,rfl,rfl,rfl⟩) gaggS (by omega) (.head _) (o := k * 2) hgo rfl
  refine onP_mk had ⟨⟨by omega,by omega⟩,_,_,by rw [Int.toNat_natCast]; exact hld,?_⟩
  clear hld
  intro b1 w2 hn
  replace H := H.new (cs := [.int .i64 0,.int .i64 0]) (by exact ⟨rfl,rfl,rfl,rfl⟩) hn
  clear hn
  refine Hp.stA (o := 0) H (by exact ⟨rfl,rfl,rfl,rfl⟩) gaggS (vs := [.int .i64 q1,.int .i64 q2]) rfl rfl (by simp) (cs' := [.int .i64 q1,.int .i64 q2]) rfl ?_
  clear H; intro w3 H
  refine ⟨_,_,H.ldA (o := 0) (by exact ⟨rfl,rfl,rfl,rfl⟩) gaggS (.head _) (vs := [.int .i64 q1,.int .i64 q2]) rfl rfl,?_⟩
  refine ⟨_,_,_,_,H.lkP gMPC (x := (q1,q2)) (by exact ⟨rfl,rfl,rfl,rfl⟩) (.tail _ (.tail _ (.head _))) (v := cgV c) (mapV_get hc _).1,?_⟩
  intro b3 w4 hn
  replace H := H.new (cs := [.int .i64 0,.int .i64 0,.string ⟨#[]⟩,.bool false]) (by exact ⟨rfl,rfl,rfl,rfl⟩) hn
  clear hn
  refine Hp.stA (o := 0) H (by exact ⟨rfl,rfl,rfl,rfl⟩) gaggC (vs := [.int .i64 c.page,.int .i64 c.slot,.string c.s,.bool c.gone]) rfl rfl (by simp) (cs' := [.int .i64 c.page,.int .i64 c.slot,.string c.s,.bool c.gone]) rfl ?_
  clear H; intro w5 H
  refine ⟨_,H.ld (o := 3) (by exact ⟨rfl,rfl,rfl,rfl⟩) gBool (.head _) rfl,br_not (fun h2 => ?_) (fun h2 => ?_)⟩
  ·rw [if_neg (by rw [h2]; simp)] at htr
   refine ⟨_,H.ld (o := 0) (cs := [.int .i64 q1,.int .i64 q2]) (by exact ⟨rfl,rfl,rfl,rfl⟩) gInt (.tail _ (.head _)) rfl,_,H.lkI gMIP (by exact ⟨rfl,rfl,rfl,rfl⟩) (.tail _ (.tail _ (.tail _ (.tail _ (.head _))))) (mapV_get hg _).1,_,H.ld (o := 1) (cs := [.int .i64 q1,.int .i64 q2]) (by exact ⟨rfl,rfl,rfl,rfl⟩) gInt (.tail _ (.head _)) rfl,_,H.ld (o := 2) (by exact ⟨rfl,rfl,rfl,rfl⟩) gStr (.head _) rfl,?_⟩
   have K : Hp [] w w5 (pageA b P :: .own 169 2 oa o.length oc (ordC o) :: pmapA mb (mapV cgV la) :: .imap tb .i64 (mapV peV E) :: pgsE (gdel E q1)) := by
    have hp := pgs_open hg
    refine H.drop.drop.perm (perm_cnt fun ff gg h0 hc ha hpm => ?_)
    have h9 := hpm _ _ hp
    simp only [ha,hc,h0] at h9 ⊢
    omega
   obtain ⟨g,hR,K2⟩ := Hp.openP K
   have hps := Sl.put_spec b g P.1 P.2 hR q2 c.s.data.toList w5 (K2.blk (.head _))
   rw [sv,str_eta] at hps
   refine callV hps ?_
   rintro e w6 ⟨rfl,g',hR',H'⟩
   have K3 := K2.use11 H'
   refine ⟨_,rfl,br_not (fun h3 => ?_) (fun h3 => ?_)⟩
   ·rw [if_neg (of_decide_eq_false h3)] at htr
    exact .inl ⟨htr,rfl,K3.done⟩
   ·rw [if_pos (of_decide_eq_true h3)] at htr
    refine ⟨inR64.2 (by omega),hnext (o.length - (k + 1)) _ _ (by omega) ⟨k + 1,gput E q1 (b,((Sl.aput P.1 q2 c.s.data.toList).1,P.2)),rfl,by omega,by omega,by rw [tm_put]; exact htr,?_,?_⟩⟩
    ·intro q hq
     rw [gget_put]
     split
     ·exact ⟨_,rfl⟩
     ·exact hE q hq
    ·have K4 := Hp.shutP (P := ((Sl.aput P.1 q2 c.s.data.toList).1,P.2)) hR' K3
     have e5 : mapV peV (gput E q1 (b,((Sl.aput P.1 q2 c.s.data.toList).1,P.2))) = mapV peV E := by
      have hsame : ∀ (E : TE),gget E q1 = some (b,P) → mapV peV (gput E q1 (b,((Sl.aput P.1 q2 c.s.data.toList).1,P.2))) = mapV peV E := by
       intro E
       induction E with
       | nil => intro h; cases h
       | cons x r ih =>
        obtain ⟨x,u⟩ := x
        intro h
        simp only [gget] at h
        simp only [gput]
        split at h
        ·rename_i hx
         cases h
         rw [if_pos hx]; rfl
        ·rename_i hx
         rw [if_neg hx]
         have := ih h
         simp only [mapV,List.map_cons] at this ⊢
         rw [this]
      exact hsame E hg
     rw [e5]
     have hp := pgs_put E q1 b ((Sl.aput P.1 q2 c.s.data.toList).1,P.2)
     refine K4.perm (perm_cnt fun ff gg h0 hc ha hpm => ?_)
     have h9 := hpm _ _ hp
     simp only [ha,hc,h0] at h9 ⊢
     omega
  ·rw [if_pos h2] at htr
   refine ⟨inR64.2 (by omega),hnext (o.length - (k + 1)) _ _ (by omega) ⟨k + 1,E,rfl,by omega,by omega,htr,hE,H.drop.drop⟩⟩
 ·have hko : k = o.length := by omega
  rw [hko,List.drop_length,putF] at htr
  exact .inr ⟨E,tb,htr,rfl,H.drop.drop⟩
end Go.Proofs.YtdeebigmpffnbaaGreat
namespace Go.Proofs.YtdeebigmpffnbaaGreat
open Go Go.Vc Go.Vault Go.Redo
theorem gundMIP : Tryz.prog.underlying 112 = some (.map 3 99) := by kernel_rfl
theorem gMSP : Scl Tryz.prog 86 := scl_of (by kernel_rfl)
theorem growP_get (Ps : List AP) (m k : Nat) : (growP Ps m)[k]? = if k < max Ps.length m then some ((Ps[k]?).getD ([],0)) else none := by
 rw [growP]
 by_cases h : k < Ps.length
 ·rw [List.getElem?_append_left h,if_pos (by omega),List.getElem?_eq_getElem h]; rfl
 ·rw [List.getElem?_append_right (by omega),List.getElem?_replicate,List.getElem?_eq_none (l := Ps) (by omega)]
  by_cases h2 : k < max Ps.length m
  ·rw [if_pos (by omega),if_pos h2]; rfl
  ·rw [if_neg (by omega),if_neg h2]
theorem growP_len (Ps : List AP) (m : Nat) : (growP Ps m).length = max Ps.length m := by
 rw [growP,List.length_append,List.length_replicate]; omega
theorem lay1_len (st : Nat) (Ps : List AP) (e : Int × AP) : (lay1 st Ps e).length = max Ps.length (e.1.toNat + 1) := by
 rw [lay1,List.length_set,growP_len]
theorem lay1_get (st : Nat) (Ps : List AP) (e : Int × AP) (k : Nat) : (lay1 st Ps e)[k]? = if k = e.1.toNat then some (stampP st e.2) else if k < max Ps.length (e.1.toNat + 1) then some ((Ps[k]?).getD ([],0)) else none := by
 rw [lay1]
 by_cases h : k = e.1.toNat
 ·subst h
  rw [if_pos rfl,List.getElem?_set_self (by rw [growP_len]; omega)]
 ·rw [if_neg h,List.getElem?_set_ne (fun h2 => h h2.symm),growP_get]
theorem lay1_comm (st : Nat) (Ps : List AP) {e f : Int × AP} (h : e.1.toNat ≠ f.1.toNat) : lay1 st (lay1 st Ps e) f = lay1 st (lay1 st Ps f) e := by
 apply List.ext_getElem?
 intro k
 rw [lay1_get,lay1_get,lay1_get,lay1_get,lay1_len,lay1_len]
 by_cases h1 : k = f.1.toNat
 ·rw [if_pos h1,if_neg (fun h2 => h (by rw [← h2,h1])),if_pos (by omega)]
  rw [if_pos h1]; rfl
 ·rw [if_neg h1]
  by_cases h2 : k = e.1.toNat
  ·rw [if_pos h2,if_pos h2,if_pos (by omega)]; rfl
  ·rw [if_neg h2,if_neg h2,if_neg h1]
   have hm : max (max Ps.length (e.1.toNat + 1)) (f.1.toNat + 1) = max (max Ps.length (f.1.toNat + 1)) (e.1.toNat + 1) := by omega
   rw [hm]
   by_cases h3 : k < max (max Ps.length (f.1.toNat + 1)) (e.1.toNat + 1)
   ·rw [if_pos h3,if_pos h3]
    by_cases h4 : k < Ps.length
    ·rw [if_pos (by omega),if_pos (by omega)]
    ·rw [List.getElem?_eq_none (l := Ps) (by omega)]
     split <;> split <;> rfl
   ·rw [if_neg h3,if_neg h3]
theorem up_comm (T : Tou) (a b : Int) : (T.up a).up b = (T.up b).up a := by
 funext k
 by_cases h : a = b
 ·rw [h]
 ·unfold Tou.up
  by_cases h1 : k = a
  ·have h2 : ¬ k = b := fun e => h (by rw [← h1,e])
   simp only [h1,if_true,if_neg h]
  ·simp only [if_neg h1]
theorem layP_perm {st : Nat} {Ps : List AP} {M M' : TM} (h : M.Perm M') (hk : ∀ e ∈ M,0 ≤ e.1) (hn : (M.map (·.1)).Nodup) : layP st Ps M = layP st Ps M' := by
 refine List.Perm.foldl_eq' h ?_ Ps
 intro x hx y hy z
 by_cases hxy : x = y
 ·subst hxy; rfl
 ·refine lay1_comm st z fun e => hxy ?_
  have h1 := hk x hx
  have h2 := hk y hy
  have h3 : x.1 = y.1 := by omega
  have e1 := gget_at hn (k := x.1) (v := x.2) hx
  have e2 := gget_at hn (k := y.1) (v := y.2) hy
  rw [h3,e2] at e1
  exact Prod.ext h3 (Option.some.inj e1).symm
theorem upP_perm {T : Tou} {M M' : TM} (h : M.Perm M') : upP T M = upP T M' := by
 refine List.Perm.foldl_eq' h ?_ T
 intro x hx y hy z
 exact up_comm z x.1 y.1
theorem upP_no {n : Int} : ∀ {M : TM} {T : Tou},n ∉ M.map (·.1) → upP T M n = T n
 | [],_,_ => rfl
 | e :: r,T,h => by
  simp only [List.map_cons,List.mem_cons,not_or] at h
  show upP (T.up e.1) r n = T n
  rw [upP_no h.2,Tou.up,if_neg h.1]
theorem layP_len {st : Nat} : ∀ {M : TM} {Ps : List AP},Ps.length ≤ 4096 → (∀ e ∈ M,e.1 < 4096) → (layP st Ps M).length ≤ 4096
 | [],Ps,h,_ => h
 | e :: r,Ps,h,hk => by
  have h1 := hk e (.head _)
  exact layP_len (M := r) (Ps := lay1 st Ps e) (by rw [lay1_len]; omega) (fun x hx => hk x (.tail _ hx))
structure TM.Ok (M : TM) : Prop where
 nodup : (M.map (·.1)).Nodup
 key : ∀ e ∈ M,0 ≤ e.1 ∧ e.1 < 4096
theorem TM.Ok.put {M : TM} (h : M.Ok) {k : Int} (hk : 0 ≤ k ∧ k < 4096) (P : AP) : TM.Ok (gput M k P) :=
 ⟨gput_nodup h.nodup,fun e he => by
  rcases gput_mem he with rfl | he
  ·exact hk
  ·exact h.key e he⟩
theorem delF_ok (Ps : List AP) : ∀ (o : Ord) (M : TM),M.Ok → (∀ q ∈ o,0 ≤ q.1 ∧ q.1 < 4096) → TM.Ok (delF Ps o M)
 | [],M,h,_ => h
 | q :: r,M,h,ho => delF_ok Ps r _ (h.put (ho q (.head _)) _) fun x hx => ho x (.tail _ hx)
theorem putF_ok (la : Last) : ∀ (o : Ord) (M : TM) {M' : TM},M.Ok → (∀ q ∈ o,0 ≤ q.1 ∧ q.1 < 4096) → putF o la M = some M' → TM.Ok M'
 | [],M,M',h,_,e => by rw [putF] at e; cases e; exact h
 | (p,s) :: r,M,M',h,ho,e => by
  rw [putF] at e
  have h1 := ho (p,s) (.head _)
  have h2 : ∀ q ∈ r,0 ≤ q.1 ∧ q.1 < 4096 := fun x hx => ho x (.tail _ hx)
  split at e
  ·split at e
   ·exact putF_ok la r M h h2 e
   ·split at e
    ·exact putF_ok la r _ (h.put h1 _) h2 e
    ·cases e
  ·cases e
theorem tried_ok {Ps : List AP} {l : List Chg1} {M : TM} (h : triedP Ps l = some M) : M.Ok := by
 unfold triedP at h
 split at h
 ·cases h
 ·rename_i o la hf
  have hok := finalF_ok Ps l [] [] hf (by simp)
  exact putF_ok la o _ (delF_ok Ps o [] ⟨by simp,by simp⟩ fun q hq => (hok q hq).page) (fun q hq => (hok q hq).page) h
theorem Hp.ldPg {B : List Nat} {w w4 w5 : World} {L : List Asn} {b : Nat} {g : Sl.Pg} (K : Hp B w w4 L) (e : Eqw w4 w5) (hok : g.Ok) (m : Sl.pgA b g ∈ L) :
  Ld Tryz.prog 144 w5 ⟨b,0,none⟩ (.agg (bcells g.bs ++ ([Value.int .i64 (g.many : Int)] ++ ([Value.int .i64 (g.low : Int)] ++ []))).toArray) :=
 K.ldA (cs := g.cells) e gaggPg m (by rw [List.drop_zero,List.take_of_length_le (by rw [hok.clen]; exact Nat.le_refl _)]; rfl) hok.clen
theorem tmE_app (x y : TE) : tmE (x ++ y) = tmE x ++ tmE y := by simp [tmE]
theorem tmE_keys (E : TE) : (tmE E).map (·.1) = E.map (·.1) := by simp [tmE,List.map_map,Function.comp_def]
set_option maxHeartbeats 2000000 in
theorem jchange_spec (jb : Nat) (va vb vc : Value) (p : JP) (tt : Nat) (wt : Int) (Ps : List AP) (hl : p.bs.length = Ps.length) (hsz : Ps.length ≤ 4096) (T : Tou) (hT : ∀ n,T n ≤ 1000000000) (tb : Nat) (E : TE) (hE : (tmE E).Ok) (stp : Nat) (w : World)
  (st : Std w (jpL jb va vb vc p (some tt) wt Ps ++ (touA tt T :: .imap tb .i64 (mapV peV E) :: pgsE E))) :
  Calls Tryz.prog 61 #[.pointer (some ⟨jb,0,none⟩),.map (some tb),.int .i64 (stp : Int)] w fun e w' => e = .returned (.tuple #[]) ∧ ∃ p' : JP,p'.bs.length = (layP stp Ps (tmE E)).length ∧
   Hp (feet (jpL jb va vb vc p (some tt) wt Ps ++ (touA tt T :: .imap tb .i64 (mapV peV E) :: pgsE E))) w w' (jpL jb va vb vc p' (some tt) wt (layP stp Ps (tmE E)) ++ [touA tt (upP T (tmE E))]) := by
 apply jchange.ok; unfold jchange.vc
 have H := Hp.startL st
 generalize hB : feet (jpL jb va vb vc p (some tt) wt Ps ++ (touA tt T :: .imap tb .i64 (mapV peV E) :: pgsE E)) = B at H ⊢
 replace H := H.perm (M := .imap tb .i64 (mapV peV E) :: (jpL jb va vb vc p (some tt) wt Ps ++ (touA tt T :: pgsE E))) (by (refine perm_cnt fun f g a b c d=>?_;simp only[c,b,a];omega))
 obtain ⟨es,clock,hb,hr,hn,ho⟩ : MapAt (intKey .i64) w tb (mapV peV E) := H.ok _ (.head _)
 replace H : Hp B w w (objA tb (.map es clock) :: (jpL jb va vb vc p (some tt) wt Ps ++ (touA tt T :: pgsE E))) := H.set (Chg.refl _ _) (objA_ok hb) (fun k hk => .inl hk)
 refine H.rng (by exact ⟨rfl,rfl,rfl,rfl⟩) gundMIP hb ?_
 intro it w1 H
 have hpairs : ∀ (l : List MapEntry) (rs : TE),(l.map fun e => (e.key,e.val)).Perm (rs.map fun e => (Value.int .i64 e.1,peV e.2)) → l = [] → rs = [] := fun l rs hp hl => by
  subst hl
  have := hp.length_eq
  simp at this
  exact List.eq_nil_of_length_eq_zero this.symm
 refine LoopP.mk (fun (m : Nat) (s : PUnit) (w' : World) => ∃ (seen : Array Nat) (ds rs : TE) (p1 : JP),m = (leftL es seen).length ∧ (ds ++ rs).Perm E ∧ ((leftL es seen).map fun e => (e.key,e.val)).Perm (rs.map fun e => (Value.int .i64 e.1,peV e.2)) ∧
  p1.bs.length = (layP stp Ps (tmE ds)).length ∧ Hp B w w' (objA it (.mapIter (some tb) clock seen clock) :: objA tb (.map es clock) :: (jpL jb va vb vc p1 (some tt) wt (layP stp Ps (tmE ds)) ++ (touA tt (upP T (tmE ds)) :: pgsE rs)))) (leftL es #[]).length
  ⟨#[],[],E,p,rfl,.refl _,?_,hl,H⟩ ?_
 ·rw [leftL_start]
  have e1 : (mapV peV E).map (fun q => ((intKey .i64).enc q.1,q.2)) = E.map fun e => (Value.int .i64 e.1,peV e.2) := by
   simp only [mapV,List.map_map]; rfl
  have hr2 : es.toList.map (fun e => (e.key,e.val)) = _ := hr
  rw [hr2,e1]
 clear H w1
 rintro m s w1 next ⟨seen,ds,rs,p1,rfl,hperm,hpr,hl1,H⟩ hnext
 have hEk : ∀ e ∈ tmE ds,0 ≤ e.1 ∧ e.1 < 4096 := fun e he => by
  obtain ⟨x,hx,rfl⟩ := List.mem_map.1 he
  exact hE.key (x.1,x.2.2) (List.mem_map.2 ⟨x,hperm.mem_iff.1 (List.mem_append_left _ hx),rfl⟩)
 have hlen1 := layP_len (st := stp) hsz (fun e he => (hEk e he).2)
 refine H.nxt (by exact ⟨rfl,rfl,rfl,rfl⟩) (H.obj (.tail _ (.head _))) ho hn ?_ ?_
 ·intro h0
  have hrs := hpairs _ _ hpr h0
  subst hrs
  rw [List.append_nil] at hperm
  have hpm : (tmE ds).Perm (tmE E) := hperm.map _
  have e1 : layP stp Ps (tmE ds) = layP stp Ps (tmE E) := layP_perm hpm (fun e he => (hEk e he).1) ((hpm.map (·.1)).nodup_iff.2 hE.nodup)
  have e2 : upP T (tmE ds) = upP T (tmE E) := upP_perm hpm
  rw [e1,e2] at H
  rw [e1] at hl1
  exact ⟨rfl,p1,hl1,H.drop.drop⟩
 ·intro e w2 he hp H2 hent
  clear H
  have hmem : (e.key,e.val) ∈ rs.map fun e => (Value.int .i64 e.1,peV e.2) := hpr.mem_iff.1 (List.mem_map.2 ⟨e,hp.mem_iff.2 (.head _),rfl⟩)
  obtain ⟨r,hr1,hr2⟩ := List.mem_map.1 hmem
  obtain ⟨l1,l2,rfl⟩ := List.append_of_mem hr1
  obtain ⟨n,b,P⟩ := r
  simp only [Prod.mk.injEq] at hr2
  obtain ⟨hk1,hk2⟩ := hr2
  rw [← hk1,← hk2] at hent
  have hrest : ((leftL es (seen.push e.born)).map fun e => (e.key,e.val)).Perm ((l1 ++ l2).map fun e => (Value.int .i64 e.1,peV e.2)) := by
   have h1 : ((e.key,e.val) :: (leftL es (seen.push e.born)).map fun e => (e.key,e.val)).Perm ((e.key,e.val) :: ((l1 ++ l2).map fun e => (Value.int .i64 e.1,peV e.2))) := by
    refine ((hp.map fun e => (e.key,e.val)).symm.trans hpr).trans ?_
    rw [← hk1,← hk2]
    exact (List.perm_middle (a := (n,(b,P))) (l₁ := l1) (l₂ := l2)).map _
   exact (List.perm_cons _).1 h1
  have hlt : (leftL es (seen.push e.born)).length < (leftL es seen).length := by
   have := hp.length_eq
   simp only [List.length_cons] at this
   omega
  have hnE : (n,(b,P)) ∈ E := hperm.mem_iff.1 (List.mem_append_right _ hr1)
  have hn4 := hE.key (n,P) (List.mem_map.2 ⟨_,hnE,rfl⟩)
  dsimp only at hn4
  have hnod : ((ds ++ (l1 ++ (n,(b,P)) :: l2)).map (·.1)).Nodup := ((hperm.map (·.1)).nodup_iff).2 (by rw [← tmE_keys]; exact hE.nodup)
  have hnds : n ∉ (tmE ds).map (·.1) := by
   rw [tmE_keys]
   rw [List.map_append,List.nodup_append] at hnod
   intro hm
   exact hnod.2.2 n hm n (List.mem_map.2 ⟨_,hr1,rfl⟩) rfl
  have hTn : upP T (tmE ds) n = T n := upP_no hnds
  have hT1 := hT n
  refine ⟨n,_,_,hent,?_⟩
  have H3 : Hp B w w2 (pageA b P :: (jpL jb va vb vc p1 (some tt) wt (layP stp Ps (tmE ds)) ++ (touA tt (upP T (tmE ds)) :: objA it (.mapIter (some tb) clock (seen.push e.born) clock) :: objA tb (.map es clock) :: pgsE (l1 ++ l2)))) := by
   have hpp : (pgsE (l1 ++ (n,(b,P)) :: l2)).Perm (pageA b P :: pgsE (l1 ++ l2)) := List.perm_middle.map _
   refine H2.perm (perm_cnt fun ff gg h0 hc ha hpm => ?_)
   have h9 := hpm _ _ hpp
   simp only [ha,hc,h0] at h9 ⊢
   omega
  clear H2
  obtain ⟨g,hR,H4⟩ := Hp.openP H3
  clear H3
  refine callV (Sl.setStamp_any hR (H4.blk (.head _)) (stp : Int)) ?_
  rintro e3 w3 ⟨rfl,g',hR',H'⟩
  have H5 := H4.use11 H'
  clear H4 H'
  refine ⟨_,rfl,onP_mk rfl ⟨_,_,_,Hp.ldPg H5.drew (by exact ⟨rfl,rfl,rfl,rfl⟩) hR'.ok (.head _),?_⟩⟩
  have H6 := H5.drew.perm (M := jpL jb va vb vc p1 (some tt) wt (layP stp Ps (tmE ds)) ++ (Sl.pgA b g' :: touA tt (upP T (tmE ds)) :: objA it (.mapIter (some tb) clock (seen.push e.born) clock) :: objA tb (.map es clock) :: pgsE (l1 ++ l2))) (by (refine perm_cnt fun f g a b c d=>?_;simp only[c,b,a];omega))
  clear H5
  have hjp := jpage_spec jb va vb vc p1 (some tt) wt (layP stp Ps (tmE ds)) hl1 hlen1 n.toNat (by omega) w3.drew H6.std1
  rw [Int.toNat_of_nonneg hn4.1] at hjp
  refine callV hjp ?_
  rintro e4 w4 ⟨p2,b2,rfl,hb2,hl2,H'⟩
  have H7 := H6.useL H'
  clear H6 H'
  refine ⟨_,rfl,Hp.ldPg H7 (by exact ⟨rfl,rfl,rfl,rfl⟩) hR'.ok (List.mem_append_right _ (.head _)),onP_mk rfl ?_⟩
  refine store_page (g := g') (Q := stampP stp P) hR' H7 (by exact ⟨rfl,rfl,rfl,rfl⟩) hb2 hl2 ?_
  clear H7; intro w5 H8
  have hlay : (growP (layP stp Ps (tmE ds)) (n.toNat + 1)).set n.toNat (stampP stp P) = layP stp Ps (tmE (ds ++ [(n,(b,P))])) := by
   rw [tmE_app,layP,layP,List.foldl_append]; rfl
  have hupp : (upP T (tmE ds)).up n = upP T (tmE (ds ++ [(n,(b,P))])) := by
   rw [tmE_app,upP,upP,List.foldl_append]; rfl
  rw [hlay] at H8
  have hl3 : p2.bs.length = (layP stp Ps (tmE (ds ++ [(n,(b,P))]))).length := by rw [← hlay,List.length_set]; exact hl2
  have H9 := H8.perm (M := .blk jb (jcV va vb vc p2 (some tt) wt) 91 :: touA tt (upP T (tmE ds)) :: (.own 99 1 p2.pa p2.bs.length p2.pc (ptrsB p2.bs) :: List.zipWith pageA p2.bs (layP stp Ps (tmE (ds ++ [(n,(b,P))]))) ++ (Sl.pgA b g' :: objA it (.mapIter (some tb) clock (seen.push e.born) clock) :: objA tb (.map es clock) :: pgsE (l1 ++ l2)))) (by rw [jpL]; (refine perm_cnt fun f g a b c d=>?_;simp only[c,b,a];omega))
  clear H8
  refine onP_mk rfl ⟨_,H9.ld (o := 4) (by exact ⟨rfl,rfl,rfl,rfl⟩) gMSP (.head _) rfl,?_⟩
  obtain ⟨tl,htl,H10⟩ := Hp.openT H9.pull1
  clear H9
  refine ⟨_,H10.lkI gMII (by exact ⟨rfl,rfl,rfl,rfl⟩) (.head _) (look_cnt htl n),by rw [hTn]; exact inR64.2 (by omega),?_⟩
  refine H10.mupI gMII (by exact ⟨rfl,rfl,rfl,rfl⟩) ?_
  clear H10; intro w6 H11
  have e1 : Value.int .i64 ((upP T (tmE ds) n : Int) + 1) = cntV (upP T (tmE ds) n + 1) := by rw [cntV]; congr 1
  rw [e1,aput_map] at H11
  have H12 := Hp.shutT (htl.up n) H11
  rw [hupp] at H12
  refine hnext _ _ _ hlt ⟨seen.push e.born,ds ++ [(n,(b,P))],l1 ++ l2,p2,rfl,?_,hrest,hl3,?_⟩
  ·refine List.Perm.trans ?_ hperm
   rw [List.append_assoc]
   exact (show ((n,(b,P)) :: (l1 ++ l2)).Perm (l1 ++ (n,(b,P)) :: l2) from List.perm_middle.symm).append_left ds
  ·have H13 := H12.perm (M := Sl.pgA b g' :: (objA it (.mapIter (some tb) clock (seen.push e.born) clock) :: objA tb (.map es clock) :: (jpL jb va vb vc p2 (some tt) wt (layP stp Ps (tmE (ds ++ [(n,(b,P))]))) ++ (touA tt (upP T (tmE (ds ++ [(n,(b,P))]))) :: pgsE (l1 ++ l2))))) (by rw [jpL]; (refine perm_cnt fun f g a b c d=>?_;simp only[c,b,a];omega))
   exact H13.drop
end Go.Proofs.YtdeebigmpffnbaaGreat
