/- Part 3 of 6 of the proof of journalCrash_holds: for every input, from every world that may be reached. -/
import Derived.WalkKit
import Derived.RangeFuncSeq
import Derived.KernelRfl
import Derived.RangeFuncLeaves
import Derived.Test.YtdeebigmpffnbaaGreatChecked
import Derived.Deep.AppendSrc
import Derived.Laws.MakeOwn
import Derived.Laws.BytesArg
import Derived.Laws.BytesString
import Derived.Laws.IdiomStrings
import Derived.Maps.RangeRun
import Derived.Shelf.SlIter.Nil
import Derived.Shelf.SlIterI.Nil
import Derived.Shelf.SortM.Plain
import Derived.Shelf.SortM.SortNone
import Derived.Shelf.SlMaps.Clone
import Derived.StringKeys
import Derived.Laws.Pointers
import Derived.Sort.Walk0
import Derived.Lib.SliceRun
import Derived.Test.YtdeebigmpffnbaaGreatRows
import Derived.ProofKit
import Derived.Laws.StructEq
import Derived.ChangeKeysEq
import Derived.WideKeyRuns
import Derived.Test.YtdeebigmpffnbaaGreatPcr1
import Derived.Test.YtdeebigmpffnbaaGreatPcr2
set_option linter.unusedVariables false
set_option linter.unusedSimpArgs false
set_option maxRecDepth 100000
set_option maxHeartbeats 4000000
open List(all_append all_cons all_eq_true all_map append_assoc append_nil cons_append drop_drop drop_eq_getElem_cons drop_eq_nil_of_le drop_zero ext_getElem? filter_cons filter_eq_self flatMap_append flatMap_cons flatten_cons getD_eq_getElem?_getD getElem_mem length_append length_cons length_drop length_map length_nil length_replicate length_set length_singleton length_take map_append map_cons map_drop map_map map_nil map_take mem_append mem_append_left mem_append_right mem_cons mem_map mem_of_getElem? mem_or_eq_of_mem_set mem_singleton nil_append nodup_append pairwise_cons pairwise_map perm_append_comm set_append set_cons_succ set_cons_zero size_toArray sum_cons take_append_drop take_length take_nil take_of_length_le take_zero)
namespace Go.Proofs.YtdeebigmpffnbaaGreat
open Go Go.Vc Go.Vault
theorem Ah:Scl Tryz.prog 3:=BP (by kernel_rfl)
theorem Af:Scl Tryz.prog 4:=BP (by kernel_rfl)
theorem Ai:Scl Tryz.prog 9:=BP (by kernel_rfl)
theorem Aj:Scl Tryz.prog 67:=BP (by kernel_rfl)
theorem BA:Scl Tryz.prog 68:=BP (by kernel_rfl)
theorem BB:Scl Tryz.prog 76:=BP (by kernel_rfl)
theorem A8:Scl Tryz.prog 78:=BP (by kernel_rfl)
theorem Ar:Scl Tryz.prog 77:=BP (by kernel_rfl)
theorem BC:Scl Tryz.prog 69:=BP (by kernel_rfl)
theorem sclC:Scl Tryz.prog 125:=BP (by kernel_rfl)
theorem Lm:Agg Tryz.prog 85 512:=IK (by kernel_rfl)
theorem bC:Elt Tryz.prog 68 76 1 8:=FP (by kernel_rfl)
theorem QY:Elt Tryz.prog 78 85 512 512:=FP (by kernel_rfl)
theorem eltC:Elt Tryz.prog 69 125 1 8:=FP (by kernel_rfl)
theorem Zo:Tryz.prog.underlying 68=some (.slice 76):=by kernel_rfl
theorem bP:Tryz.prog.underlying 69=some (.slice 125):=by kernel_rfl
theorem Y2:Tryz.prog.underlying 78=some (.slice 85):=by kernel_rfl
theorem undMSI:Tryz.prog.underlying 67=some (.map 9 3):=by kernel_rfl
theorem P5:Tryz.prog.underlying 76=some (.pointer (Tryz.prog.pointee 76)):=by kernel_rfl
theorem SE:MapT Tryz.prog Le 67 9 3 (.int .i64 0):=⟨by kernel_rfl,by kernel_rfl,by kernel_rfl⟩
theorem aU:MapT Tryz.prog (ET .i64) 77 3 4 (.bool false):=⟨by kernel_rfl,by kernel_rfl,by kernel_rfl⟩
structure FW where
 b:Nat
 an:Option Addr
 cn:Nat
 af:Option Addr
 cf:Nat
 bm:Nat
 al:List (Int×Value)
def secs(l:List (List UInt8)):List Value:=bQ l.flatten
def flL(x:FW)(f:Fl):List Asn:=[.blk x.b [.slice x.an f.now.length x.cn,.slice x.af f.firm.length x.cf,.map (some x.bm)] 80,
 .own 85 512 x.an f.now.length x.cn (secs f.now),.own 85 512 x.af f.firm.length x.cf (secs f.firm),.imap x.bm .i64 x.al]
structure CW where
 n:Nat
 k:Nat
 t:Nat
def chV(x:CW):Ch->Value
 |.create _ _=>.func (.func 32) #[] #[.pointer (some ⟨x.k,0,none⟩),.pointer (some ⟨x.n,0,none⟩)]
 |.rename _ _ _=>.func (.func 136) #[] #[.pointer (some ⟨x.n,0,none⟩),.pointer (some ⟨x.k,0,none⟩),.pointer (some ⟨x.t,0,none⟩)]
 |.remove _=>.bool false
def chL(x:CW):Ch->List Asn
 |.create n k=>[.blk x.k [.int .i64 (k:Int)] 3,.blk x.n [.string n] 9]
 |.rename a b k=>[.blk x.n [.string a] 9,.blk x.k [.int .i64 (k:Int)] 3,.blk x.t [.string b] 9]
 |.remove n=>[.blk x.n [.string n] 9]
structure DW where
 b:Nat
 fa:Option Addr
 fc:Nat
 fs:List FW
 mn:Nat
 na:List (ByteArray×Value)
 mf:Nat
 fi:List (ByteArray×Value)
 ca:Option Addr
 cc:Nat
 cs:List CW
def Fj(xs:List FW)(fs:List Fl):List Asn:=(List.zipWith flL xs fs).flatten
def chsL(xs:List CW)(cs:List Ch):List Asn:=(List.zipWith chL xs cs).flatten
def ptrs(xs:List FW):List Value:=xs.map fun f=>.pointer (some ⟨f.b,0,none⟩)
def chVs(xs:List CW)(cs:List Ch):List Value:=List.zipWith chV xs cs
def dkR(x:DW)(d:Dk):List Asn:=Fj x.fs d.files++chsL x.cs d.chs
def dkL(x:DW)(d:Dk):List Asn:=
 .blk x.b [.int .i64 (d.room:Int),.slice x.fa d.files.length x.fc,.map (some x.mn),.map (some x.mf),.slice x.ca d.chs.length x.cc,.int .i64 (d.armed:Int),.int .i64 (d.denied:Int),.bool d.dead] 71::
 .own 76 1 x.fa d.files.length x.fc (ptrs x.fs)::.smap x.mn x.na::.smap x.mf x.fi::.own 125 1 x.ca d.chs.length x.cc (chVs x.cs d.chs)::dkR x d
structure DW.Ok(x:DW)(d:Dk):Prop where
 dk:d.Ok
 fl:x.fs.length=d.files.length
 cl:x.cs.length=d.chs.length
 keys:∀(k:Nat)(f:FW)(g:Fl),x.fs[k]? =some f->d.files[k]? =some g->(f.al.map (·.1)).Perm (g.since.map fun n:Nat=>(n:Int))
 na:x.na.Perm (nvl d.names)
 fi:x.fi.Perm (nvl d.firm)
theorem J7{α β:Type}(g:α->β->List Asn):∀{xs:List α}{ys:List β}{k:Nat}{x:α}{y:β},xs[k]? =some x->ys[k]? =some y->
  (List.zipWith g xs ys).flatten.Perm (g x y++(List.zipWith g (xs.eraseIdx k) (ys.eraseIdx k)).flatten)
 | [],_,_,_,_,h,_=>by simp at h
 |_::_,[],_,_,_,_,h=>by simp at h
 |x0::xs,y0::ys,0,x,y,h,h'=>by
  simp at h h';subst h h'
  exact .refl _
 |x0::xs,y0::ys,k+1,x,y,h,h'=>by
  simp only[List.getElem?_cons_succ]at h h'
  have ih:=J7 g h h'
  simp only[List.eraseIdx_cons_succ,List.zipWith_cons_cons,flatten_cons]
  refine(ih.append_left _).trans ?_
  rw[<- append_assoc,<- append_assoc]
  exact List.perm_append_comm.append_right _
theorem JQ{xs:List FW}{fs:List Fl}{k:Nat}{x:FW}{f:Fl}(h:xs[k]? =some x)(h':fs[k]? =some f):(Fj xs fs).Perm (flL x f++Fj (xs.eraseIdx k) (fs.eraseIdx k)):=J7 flL h h'
theorem filesL_set{xs:List FW}{fs:List Fl}{k:Nat}(x:FW)(f:Fl)(h:k<xs.length)(h':k<fs.length):(Fj (xs.set k x) (fs.set k f)).Perm (flL x f++Fj (xs.eraseIdx k) (fs.eraseIdx k)):=by
 have h1:(xs.set k x)[k]? =some x:=by rw[List.getElem?_set_self h]
 have h2:(fs.set k f)[k]? =some f:=by rw[List.getElem?_set_self h']
 have:=JQ h1 h2
 rwa [List.eraseIdx_set_eq,List.eraseIdx_set_eq]at this
theorem Qo{xs:List FW}{k:Nat}{x:FW}(h:xs[k]? =some x):(ptrs xs)[k]? =some (.pointer (some ⟨x.b,0,none⟩)):=by
 simp[ptrs,h]
def fptr(x:DW)(o:Option Nat):Option Addr:=o.bind fun k=>(x.fs[k]?).map fun f=>⟨f.b,0,none⟩
theorem DW.Ok.at{x:DW}{d:Dk}(h:x.Ok d){k:Nat}(hk:k<d.files.length):∃f g,x.fs[k]? =some f/\d.files[k]? =some g/\d.file k=g:=by
 have hk2:k<x.fs.length:=by rw[h.fl];exact hk
 refine⟨_,_,List.getElem?_eq_getElem hk2,List.getElem?_eq_getElem hk,?_⟩
 simp[Dk.file,hk]
theorem MS{x:DW}{k:Nat}{f:FW}(h:x.fs[k]? =some f):fptr x (some k)=some ⟨f.b,0,none⟩:=by simp[fptr,h]
theorem maxE(k:Int):max k 0=((max k 0).toNat:Int):=by omega
section
variable{w:World}{b:Nat}{cs:List Value}
theorem dead_spec(x:DW)(d:Dk)(w:World)(st:Std w (dkL x d)):Calls Tryz.prog 66 #[.pointer (some ⟨x.b,0,none⟩)] w fun e w'=>e=.returned (.bool d.dead)/\Hp [] w w' []:=by
 apply dead.ok;unfold dead.vc
 have H:=Hp.Ap st
 simp only[dkL]at H
 refine AA rfl ?_
 (repeat(first|((repeat apply Exists.intro);first|refine⟨H.ld EQ4 (by first|exact Ah|exact Af|exact Ai|exact Aj|exact BA|exact BB|exact A8|exact Ar|exact BC|exact sclC) (by repeat first|exact .head _|refine .tail _ ?_) rfl,?_⟩)|(intro _ _ hn;replace H:=H.new EQ4 hn;clear hn)|((first|(apply Hp.st;(case H=>first|exact H|exact H.Aq|exact H.BF|exact H.BM|exact H.Bc|exact H.Bh|exact H.Bj|exact H.pull7);(case e=>exact⟨rfl,rfl,rfl,rfl⟩);(case S=>exact(by first|exact Ah|exact Af|exact Ai|exact Aj|exact BA|exact BB|exact A8|exact Ar|exact BC|exact sclC));(case hv=>exact rfl);(case h1=>exact rfl);(case ho=>exact Nat.le_of_ble_eq_true rfl);(case hc=>exact rfl)));clear H;intro _ H;(try simp only[over,set_cons_zero,set_cons_succ]at H))))
 exact⟨rfl,Hp.start w⟩
theorem Rh(x:DW)(d:Dk)(hok:x.Ok d)(k:Int)(w:World)(st:Std w (dkL x d)):Calls Tryz.prog 25 #[.pointer (some ⟨x.b,0,none⟩),.int .i64 k] w fun e w'=>e=.returned (.tuple #[])/\Hp (feet (dkL x d)) w w' (dkL x (d.arm k)):=by
 apply arm.ok;unfold arm.vc
 have H:=Hp.Ap st
 generalize hB:feet (dkL x d)=B at H⊢
 simp only[dkL]at H
 refine AA rfl ?_
 rw[maxE]
 ((first|(apply Hp.st;(case H=>first|exact H|exact H.Aq|exact H.BF|exact H.BM|exact H.Bc|exact H.Bh|exact H.Bj|exact H.pull7);(case e=>exact⟨rfl,rfl,rfl,rfl⟩);(case S=>exact(by first|exact Ah|exact Af|exact Ai|exact Aj|exact BA|exact BB|exact A8|exact Ar|exact BC|exact sclC));(case hv=>exact rfl);(case h1=>exact rfl);(case ho=>exact Nat.le_of_ble_eq_true rfl);(case hc=>exact rfl)));clear H;intro _ H;(try simp only[over,set_cons_zero,set_cons_succ]at H))
 exact⟨rfl,H⟩
theorem OA(x:DW)(d:Dk)(hok:x.Ok d)(k:Int)(w:World)(st:Std w (dkL x d)):Calls Tryz.prog 26 #[.pointer (some ⟨x.b,0,none⟩),.int .i64 k] w fun e w'=>e=.returned (.tuple #[])/\Hp (feet (dkL x d)) w w' (dkL x (d.deny k)):=by
 apply deny.ok;unfold deny.vc
 have H:=Hp.Ap st
 generalize hB:feet (dkL x d)=B at H⊢
 simp only[dkL]at H
 refine AA rfl ?_
 rw[maxE]
 ((first|(apply Hp.st;(case H=>first|exact H|exact H.Aq|exact H.BF|exact H.BM|exact H.Bc|exact H.Bh|exact H.Bj|exact H.pull7);(case e=>exact⟨rfl,rfl,rfl,rfl⟩);(case S=>exact(by first|exact Ah|exact Af|exact Ai|exact Aj|exact BA|exact BB|exact A8|exact Ar|exact BC|exact sclC));(case hv=>exact rfl);(case h1=>exact rfl);(case ho=>exact Nat.le_of_ble_eq_true rfl);(case hc=>exact rfl)));clear H;intro _ H;(try simp only[over,set_cons_zero,set_cons_succ]at H))
 exact⟨rfl,H⟩
theorem OG(x:DW)(d:Dk)(ha:(d.armed:Int)<=9223372036854775807)(w:World)(st:Std w (dkL x d)):Calls Tryz.prog 65 #[.pointer (some ⟨x.b,0,none⟩)] w fun e w'=>e=.returned (.bool d.dies.dead)/\Hp (feet (dkL x d)) w w' (dkL x d.dies):=by
 apply dies.ok;unfold dies.vc
 have H:=Hp.Ap st
 generalize hB:feet (dkL x d)=B at H⊢
 simp only[dkL]at H
 refine AA rfl ?_
 (repeat(first|((repeat apply Exists.intro);first|refine⟨H.ld EQ4 (by first|exact Ah|exact Af|exact Ai|exact Aj|exact BA|exact BB|exact A8|exact Ar|exact BC|exact sclC) (by repeat first|exact .head _|refine .tail _ ?_) rfl,?_⟩)|(intro _ _ hn;replace H:=H.new EQ4 hn;clear hn)|((first|(apply Hp.st;(case H=>first|exact H|exact H.Aq|exact H.BF|exact H.BM|exact H.Bc|exact H.Bh|exact H.Bj|exact H.pull7);(case e=>exact⟨rfl,rfl,rfl,rfl⟩);(case S=>exact(by first|exact Ah|exact Af|exact Ai|exact Aj|exact BA|exact BB|exact A8|exact Ar|exact BC|exact sclC));(case hv=>exact rfl);(case h1=>exact rfl);(case ho=>exact Nat.le_of_ble_eq_true rfl);(case hc=>exact rfl)));clear H;intro _ H;(try simp only[over,set_cons_zero,set_cons_succ]at H))))
 refine AO (fun h=>?_) (fun h=>?_)
 ·have e1:d.dies= {d with armed:=d.armed-1,dead:=decide (d.armed-1=0)}:=if_pos (by omega)
  have e2:(d.armed:Int)-1=((d.armed-1:Nat):Int):=by omega
  rw[e1]
  refine AA rfl ?_
  (repeat(first|((repeat apply Exists.intro);first|refine⟨H.ld EQ4 (by first|exact Ah|exact Af|exact Ai|exact Aj|exact BA|exact BB|exact A8|exact Ar|exact BC|exact sclC) (by repeat first|exact .head _|refine .tail _ ?_) rfl,?_⟩)|(intro _ _ hn;replace H:=H.new EQ4 hn;clear hn)|((first|(apply Hp.st;(case H=>first|exact H|exact H.Aq|exact H.BF|exact H.BM|exact H.Bc|exact H.Bh|exact H.Bj|exact H.pull7);(case e=>exact⟨rfl,rfl,rfl,rfl⟩);(case S=>exact(by first|exact Ah|exact Af|exact Ai|exact Aj|exact BA|exact BB|exact A8|exact Ar|exact BC|exact sclC));(case hv=>exact rfl);(case h1=>exact rfl);(case ho=>exact Nat.le_of_ble_eq_true rfl);(case hc=>exact rfl)));clear H;intro _ H;(try simp only[over,set_cons_zero,set_cons_succ]at H))))
  refine⟨AY.2 (by omega),?_⟩
  refine AA rfl ?_
  rw[e2]
  ((first|(apply Hp.st;(case H=>first|exact H|exact H.Aq|exact H.BF|exact H.BM|exact H.Bc|exact H.Bh|exact H.Bj|exact H.pull7);(case e=>exact⟨rfl,rfl,rfl,rfl⟩);(case S=>exact(by first|exact Ah|exact Af|exact Ai|exact Aj|exact BA|exact BB|exact A8|exact Ar|exact BC|exact sclC));(case hv=>exact rfl);(case h1=>exact rfl);(case ho=>exact Nat.le_of_ble_eq_true rfl);(case hc=>exact rfl)));clear H;intro _ H;(try simp only[over,set_cons_zero,set_cons_succ]at H))
  refine AA rfl ?_
  ((repeat apply Exists.intro);first|refine⟨H.ld EQ4 (by first|exact Ah|exact Af|exact Ai|exact Aj|exact BA|exact BB|exact A8|exact Ar|exact BC|exact sclC) (by repeat first|exact .head _|refine .tail _ ?_) rfl,?_⟩)
  refine AA rfl ?_
  ((first|(apply Hp.st;(case H=>first|exact H|exact H.Aq|exact H.BF|exact H.BM|exact H.Bc|exact H.Bh|exact H.Bj|exact H.pull7);(case e=>exact⟨rfl,rfl,rfl,rfl⟩);(case S=>exact(by first|exact Ah|exact Af|exact Ai|exact Aj|exact BA|exact BB|exact A8|exact Ar|exact BC|exact sclC));(case hv=>exact rfl);(case h1=>exact rfl);(case ho=>exact Nat.le_of_ble_eq_true rfl);(case hc=>exact rfl)));clear H;intro _ H;(try simp only[over,set_cons_zero,set_cons_succ]at H))
  refine AA rfl ?_
  ((repeat apply Exists.intro);first|refine⟨H.ld EQ4 (by first|exact Ah|exact Af|exact Ai|exact Aj|exact BA|exact BB|exact A8|exact Ar|exact BC|exact sclC) (by repeat first|exact .head _|refine .tail _ ?_) rfl,?_⟩)
  have e3:decide (((d.armed-1:Nat):Int)=0)=decide (d.armed-1=0):=by
   congr 1;exact propext (by omega)
  rw[e3]at H⊢
  exact⟨rfl,H⟩
 ·have e1:d.dies=d:=if_neg (by omega)
  rw[e1]
  refine AA rfl ?_
  ((repeat apply Exists.intro);first|refine⟨H.ld EQ4 (by first|exact Ah|exact Af|exact Ai|exact Aj|exact BA|exact BB|exact A8|exact Ar|exact BC|exact sclC) (by repeat first|exact .head _|refine .tail _ ?_) rfl,?_⟩)
  exact⟨rfl,H⟩
theorem Ox(x:DW)(d:Dk)(ha:(d.armed:Int)<=9223372036854775807)(w:World)(st:Std w (dkL x d)):Calls Tryz.prog 36 #[.pointer (some ⟨x.b,0,none⟩)] w fun e w'=>e=.returned (.int .i64 d.dies.code)/\Hp (feet (dkL x d)) w w' (dkL x d.dies):=by
 apply done.ok;unfold done.vc
 refine AL (OG x d ha w st) ?_
 rintro e w' ⟨rfl,H⟩
 refine⟨_,rfl,?_⟩
 refine CE (fun h=>⟨?_,H⟩) (fun h=>⟨?_,H⟩)<;>simp[Dk.code,h]
theorem KA(x:DW)(d:Dk)(ha:(d.denied:Int)<=9223372036854775807)(w:World)(st:Std w (dkL x d)):Calls Tryz.prog 35 #[.pointer (some ⟨x.b,0,none⟩)] w fun e w'=>e=.returned (.bool d.refused)/\Hp (feet (dkL x d)) w w' (dkL x d.denies):=by
 apply denies.ok;unfold denies.vc
 have H:=Hp.Ap st
 generalize hB:feet (dkL x d)=B at H⊢
 simp only[dkL]at H
 refine AA rfl ?_
 (repeat(first|((repeat apply Exists.intro);first|refine⟨H.ld EQ4 (by first|exact Ah|exact Af|exact Ai|exact Aj|exact BA|exact BB|exact A8|exact Ar|exact BC|exact sclC) (by repeat first|exact .head _|refine .tail _ ?_) rfl,?_⟩)|(intro _ _ hn;replace H:=H.new EQ4 hn;clear hn)|((first|(apply Hp.st;(case H=>first|exact H|exact H.Aq|exact H.BF|exact H.BM|exact H.Bc|exact H.Bh|exact H.Bj|exact H.pull7);(case e=>exact⟨rfl,rfl,rfl,rfl⟩);(case S=>exact(by first|exact Ah|exact Af|exact Ai|exact Aj|exact BA|exact BB|exact A8|exact Ar|exact BC|exact sclC));(case hv=>exact rfl);(case h1=>exact rfl);(case ho=>exact Nat.le_of_ble_eq_true rfl);(case hc=>exact rfl)));clear H;intro _ H;(try simp only[over,set_cons_zero,set_cons_succ]at H))))
 refine AO (fun h=>?_) (fun h=>?_)
 ·have e1:d.denies=d:=by
   have:d.denied=0:=by omega
   obtain⟨_,_,_,_,_,_,_⟩:=d
   simp only[Dk.denies]at this⊢
   rw[this]
  have e2:d.refused=false:=by simp only[Dk.refused,decide_eq_false_iff_not];omega
  rw[e1,e2]
  exact⟨rfl,H⟩
 ·have e2:(d.denied:Int)-1=((d.denied-1:Nat):Int):=by omega
  refine AA rfl ?_
  (repeat(first|((repeat apply Exists.intro);first|refine⟨H.ld EQ4 (by first|exact Ah|exact Af|exact Ai|exact Aj|exact BA|exact BB|exact A8|exact Ar|exact BC|exact sclC) (by repeat first|exact .head _|refine .tail _ ?_) rfl,?_⟩)|(intro _ _ hn;replace H:=H.new EQ4 hn;clear hn)|((first|(apply Hp.st;(case H=>first|exact H|exact H.Aq|exact H.BF|exact H.BM|exact H.Bc|exact H.Bh|exact H.Bj|exact H.pull7);(case e=>exact⟨rfl,rfl,rfl,rfl⟩);(case S=>exact(by first|exact Ah|exact Af|exact Ai|exact Aj|exact BA|exact BB|exact A8|exact Ar|exact BC|exact sclC));(case hv=>exact rfl);(case h1=>exact rfl);(case ho=>exact Nat.le_of_ble_eq_true rfl);(case hc=>exact rfl)));clear H;intro _ H;(try simp only[over,set_cons_zero,set_cons_succ]at H))))
  refine⟨AY.2 (by omega),?_⟩
  refine AA rfl ?_
  rw[e2]
  ((first|(apply Hp.st;(case H=>first|exact H|exact H.Aq|exact H.BF|exact H.BM|exact H.Bc|exact H.Bh|exact H.Bj|exact H.pull7);(case e=>exact⟨rfl,rfl,rfl,rfl⟩);(case S=>exact(by first|exact Ah|exact Af|exact Ai|exact Aj|exact BA|exact BB|exact A8|exact Ar|exact BC|exact sclC));(case hv=>exact rfl);(case h1=>exact rfl);(case ho=>exact Nat.le_of_ble_eq_true rfl);(case hc=>exact rfl)));clear H;intro _ H;(try simp only[over,set_cons_zero,set_cons_succ]at H))
  refine AA rfl ?_
  ((repeat apply Exists.intro);first|refine⟨H.ld EQ4 (by first|exact Ah|exact Af|exact Ai|exact Aj|exact BA|exact BB|exact A8|exact Ar|exact BC|exact sclC) (by repeat first|exact .head _|refine .tail _ ?_) rfl,?_⟩)
  have e3:decide (((d.denied-1:Nat):Int)=0)=d.refused:=by
   rw[Dk.refused];congr 1;exact propext (by omega)
  rw[e3]
  exact⟨rfl,H⟩
end
theorem SA(n:ByteArray)(w:World):Calls Tryz.prog 30 #[.string n] w fun e w'=>e=.returned (.bool (Vault.right n))/\Hp [] w w' []:=by
 apply right.ok;unfold right.vc
 have hz:n=ByteArray.mk #[]↔n.size=0:=by
  constructor
  ·rintro rfl;rfl
  ·intro h
   obtain⟨a⟩:=n
   have:a.size=0:=h
   exact congrArg ByteArray.mk (Array.eq_empty_of_size_eq_zero this)
 refine Aw (fun h=>?_) (fun h=>?_)
 ·have h1:n.size≠0:=fun e=>h (hz.2 e)
  refine⟨?_,Hp.start w⟩
  have e2:decide ((n.size:Int)<=60)=decide (n.size<=60):=by congr 1;exact propext (by omega)
  have e1:Vault.right n=decide (n.size<=60):=by simp[Vault.right,Nat.one_le_iff_ne_zero,h1]
  rw[e1,<- e2]
 ·have h1:n.size=0:=hz.1 h
  exact⟨by simp[Vault.right,h1],Hp.start w⟩
theorem Kv(x:DW)(d:Dk)(hok:x.Ok d)(n:ByteArray)(w:World)(st:Std w (dkL x d)):Calls Tryz.prog 33 #[.pointer (some ⟨x.b,0,none⟩),.string n] w fun e w'=>e=.returned (.pointer (fptr x (d.find n)))/\Hp [] w w' []:=by
 apply find.ok;unfold find.vc
 have H:=Hp.Ap st
 simp only[dkL]at H
 refine AA rfl ?_
 ((repeat apply Exists.intro);first|refine⟨H.ld EQ4 (by first|exact Ah|exact Af|exact Ai|exact Aj|exact BA|exact BB|exact A8|exact Ar|exact BC|exact sclC) (by repeat first|exact .head _|refine .tail _ ?_) rfl,?_⟩)
 have hg:=VA hok.dk.names hok.na n
 have hf:nget d.names n=d.find n:=rfl
 rw[hf]at hg
 cases hk:d.find n with
 |none=>
  rw[hk]at hg
  refine⟨0,false,H.ZC SE EQ4 (by repeat first|exact .head _|refine .tail _ ?_) (by simp[hg]) (by simp[hg]),?_⟩
  exact BI (fun _=>⟨rfl,Hp.start w⟩) (fun h=>by cases h)
 |some k=>
  rw[hk]at hg
  have hlt:=hok.dk.find hk
  obtain⟨f,g,h1,h2,h3⟩:=hok.at hlt
  refine⟨(k:Int),true,H.ZC SE EQ4 (by repeat first|exact .head _|refine .tail _ ?_) (by simp[hg]) (by simp[hg]),?_⟩
  refine BI (fun h=>by cases h) (fun _=>?_)
  refine AA rfl ?_
  ((repeat apply Exists.intro);first|refine⟨H.ld EQ4 (by first|exact Ah|exact Af|exact Ai|exact Aj|exact BA|exact BB|exact A8|exact Ar|exact BC|exact sclC) (by repeat first|exact .head _|refine .tail _ ?_) rfl,?_⟩)
  obtain⟨ad,ha,hl⟩:=H.ldO (P:=Tryz.prog) (w':=w) (t:=76) (o:=Int.toNat (k:Int)*1) EQ4 BB (.tail _ (.head _)) (by rw[Int.toNat_natCast,Nat.mul_one];exact Qo h1)
  refine AA ha ⟨⟨by omega,by omega⟩,_,hl,?_⟩
  rw[MS h1]
  exact⟨rfl,Hp.start w⟩
theorem Ic(x:DW)(d:Dk)(hok:x.Ok d)(n:ByteArray)(w:World)(st:Std w (dkL x d)):Calls Tryz.prog 67 #[.pointer (some ⟨x.b,0,none⟩),.string n] w fun e w'=>e=.returned (.int .i64 (d.size n))/\Hp [] w w' []:=by
 apply size.ok;unfold size.vc
 refine AL (Kv x d hok n w st) ?_
 rintro e w' ⟨rfl,H'⟩
 have H:=(Hp.Ap st).ext0 H'
 refine⟨_,rfl,?_⟩
 cases hk:d.find n with
 |none=>
  refine⟨_,Cb P5,?_⟩
  refine CE (fun _=>⟨by simp[Dk.size,hk],H'⟩) (fun h=>by cases h)
 |some k=>
  obtain⟨f,g,h1,h2,h3⟩:=hok.at (hok.dk.find hk)
  rw[MS h1]
  refine⟨_,Cb P5,?_⟩
  refine CE (fun h=>by cases h) (fun _=>?_)
  refine AA rfl ?_
  have m1:Asn.blk f.b [.slice f.an g.now.length f.cn,.slice f.af g.firm.length f.cf,.map (some f.bm)] 80∈dkL x d:=by
   simp only[dkL,dkR]
   repeat refine List.mem_cons_of_mem _ ?_
   exact mem_append_left _ ((JQ h1 h2).mem_iff.2 (mem_append_left _ (.head _)))
  refine⟨_,_,_,H.ld EQ4 A8 m1 rfl,?_⟩
  refine⟨?_,H'⟩
  rw[Dk.size,hk]
  simp only[Dk.len,h3]
def evL(d:Dk)(e:MapEntry):Nat:=match e.val with
 |.int _ k=>d.len k.toNat
 |_=>0
theorem X6{l l':List Nat}(h:l.Perm l'):l.sum=l'.sum:=h.sum_nat
theorem used_spec(x:DW)(d:Dk)(hok:x.Ok d)(hu:(d.used:Int)<=9223372036854775807)(w:World)(st:Std w (dkL x d)):Calls Tryz.prog 34 #[.pointer (some ⟨x.b,0,none⟩)] w fun e w'=>e=.returned (.int .i64 (d.used:Int))/\Hp [] w w' []:=by
 apply used.ok;unfold used.vc
 have H0:=Hp.Ap st
 have hm:MapAt Le w x.mn x.na:=H0.ok (.smap x.mn x.na) (by simp[dkL])
 obtain⟨es,clock,hb,hr,hn,ho⟩:=hm
 have hbl:=(Array.getElem?_eq_some_iff.1 hb).1
 have hvals:es.toList.map (·.val)=x.na.map (·.2):=by
  have:=congrArg (List.map Prod.snd) hr
  simpa [map_map,Function.comp_def]using this
 have hval:∀e∈es.toList,∃k:Nat,e.val=.int .i64 (k:Int)/\k<d.files.length:=by
  intro e he
  have h1:e.val∈x.na.map (·.2):=hvals▸mem_map.2 ⟨e,he,rfl⟩
  obtain⟨p,hp,hp2⟩:=mem_map.1 h1
  obtain⟨q,hq,rfl⟩:=mem_map.1 (hok.na.mem_iff.1 hp)
  exact⟨q.file,hp2.symm,hok.dk.file q hq⟩
 have htot:(es.toList.map (evL d)).sum=d.used:=by
  have e1:es.toList.map (evL d)=(es.toList.map (·.val)).map fun v=>match v with|.int _ k=>d.len k.toNat|_=>0:=by
   rw[map_map];rfl
  rw[e1,hvals,X6 ((hok.na.map _).map _)]
  simp only[nvl,map_map,Dk.used]
  congr 1
 have K0:=Hp.start w
 have hat:∀{w':World}{L:List Asn},Hp [] w w' L->w'.heap[x.mn]? =some (.map es clock):=fun K=>by rw[K.chg.2.2.2.2 x.mn hbl (by simp)];exact hb
 simp only[dkL]at H0
 refine AA rfl ?_
 replace st:=st
 have H:=H0
 ((repeat apply Exists.intro);first|refine⟨H.ld EQ4 (by first|exact Ah|exact Af|exact Ai|exact Aj|exact BA|exact BB|exact A8|exact Ar|exact BC|exact sclC) (by repeat first|exact .head _|refine .tail _ ?_) rfl,?_⟩)
 clear H
 refine K0.rng EQ4 undMSI hb ?_
 intro it w1 K
 refine Ae.mk (fun(m:Nat)(s:Int)(w':World)=>∃(seen:Array Nat)(L:List Asn),m=(EO es seen).length/\s+(((EO es seen).map (evL d)).sum:Int)=d.used/\0<=s/\Hp [] w w' (objA it (.mapIter (some x.mn) clock seen clock)::L)) (EO es #[]).length ⟨#[],_,rfl,by rw[PV,htot];omega,by omega,K⟩ ?_
 clear K w1
 rintro m s w1 next ⟨seen,L,rfl,hs,hs0,K⟩ hnext
 refine K.nxt EQ4 (hat K) ho hn ?_ ?_
 ·intro h0
  rw[h0]at hs
  simp at hs
  rw[hs]
  exact⟨rfl,K.done⟩
 ·intro e w2 he hp K2 hent
  obtain⟨k,hk,hlt⟩:=hval e he
  obtain⟨f,g,h1,h2,h3⟩:=hok.at hlt
  rw[hk]at hent
  have hsum:=X6 (hp.map (evL d))
  simp only[map_cons,sum_cons]at hsum
  have hek:evL d e=g.now.length:=by
   rw[evL,hk]
   simp only[Int.toNat_natCast,Dk.len,h3]
  rw[hek]at hsum
  have hlen:(EO es (seen.push e.born)).length<(EO es seen).length:=by
   have:=hp.length_eq
   simp only[length_cons]at this
   omega
  have H:=H0.ext K2.done
  rw[nil_append]at H
  refine⟨_,(k:Int),_,hent,?_⟩
  refine AA rfl ?_
  ((repeat apply Exists.intro);first|refine⟨H.ld EQ4 (by first|exact Ah|exact Af|exact Ai|exact Aj|exact BA|exact BB|exact A8|exact Ar|exact BC|exact sclC) (by repeat first|exact .head _|refine .tail _ ?_) rfl,?_⟩)
  obtain⟨ad,ha,hl⟩:=H.ldO (P:=Tryz.prog) (w':=w2) (t:=76) (o:=Int.toNat (k:Int)*1) EQ4 BB (.tail _ (.head _)) (by rw[Int.toNat_natCast,Nat.mul_one];exact Qo h1)
  refine AA ha ⟨⟨by omega,by omega⟩,_,hl,?_⟩
  refine AA rfl ?_
  have m1:Asn.blk f.b [.slice f.an g.now.length f.cn,.slice f.af g.firm.length f.cf,.map (some f.bm)] 80∈dkR x d:=by
   simp only[dkR]
   exact mem_append_left _ ((JQ h1 h2).mem_iff.2 (mem_append_left _ (.head _)))
  refine⟨_,_,_,H.ld EQ4 A8 (.tail _ (.tail _ (.tail _ (.tail _ (.tail _ m1))))) rfl,?_⟩
  refine⟨AY.2 (by omega),?_⟩
  exact hnext _ _ _ hlen ⟨_,_,rfl,by omega,by omega,K2⟩
theorem G8{P:Program}{g:FuncId}{fn:Func}{c:Code}{fi ca:Array Value}{args:List Value}{w:World}{R:Ending->World->Prop}(h:P.funcs[g]? =some fn)(hb:fn.body=some c)(hc:AB P g (fi.toList++args++ca.toList) w R):Du P (.func (.func g) fi ca) args w R:=by
 unfold Du;simp only[h,hb];exact hc
theorem Hp.del{P:Program}{B:List Nat}{w0 w w':World}{L:List Asn}{t kT eT:TypeId}{z:Value}{b:Nat}{al:List (ByteArray×Value)}(T:MapT P Le t kT eT z){ts:Array TypeId}{ty:TypeId}(hts:ts[0]? =some t)(H:Hp B w0 w (.smap b al::L))(e:Eqw w w'){x:ByteArray}{G:World->Prop}
  (kk:∀w1,Hp B w0 w1 (.smap b (adel al x)::L)->G w1):∃w1,Del P ts ty w' (.map (some b)) (.string x) w1/\G w1:=by
 obtain⟨w1,h1,h2,h3⟩:=del_map (ty:=ty) T hts ((H.go e).ok _ (.head _)) x
 exact⟨w1,h1,kk w1 ((H.go e).set h3 h2 fun k hk=>.inl hk)⟩
def onA(al:List (ByteArray×Value)):Ch->List (ByteArray×Value)
 |.create n k=>aput al n (.int .i64 (k:Int))
 |.rename a b k=>aput (adel al a) b (.int .i64 (k:Int))
 |.remove n=>adel al n
theorem WT{l:List Nm}(h:bi l){al:List (ByteArray×Value)}(p:al.Perm (nvl l)):∀c:Ch,(onA al c).Perm (nvl (c.on l))
 |.create n k=>Yt h p ⟨n,k⟩
 |.rename a b k=>Yt (FV h a) (Zm h p a) ⟨b,k⟩
 |.remove n=>Zm h p n
theorem NK(x:CW)(n:ByteArray)(k:Nat)(b:Nat)(al:List (ByteArray×Value))(w:World)(st:Std w (.smap b al::chL x (.create n k))):Calls Tryz.prog 32 #[.map (some b),.pointer (some ⟨x.k,0,none⟩),.pointer (some ⟨x.n,0,none⟩)] w fun e w'=>
  e=.returned (.tuple #[])/\Hp (feet (.smap b al::chL x (.create n k))) w w' (.smap b (onA al (.create n k))::chL x (.create n k)):=by
 apply createC.ok;unfold createC.vc
 have H:=Hp.Ap st
 generalize hB:feet (.smap b al::chL x (.create n k))=B at H⊢
 simp only[chL]at H
 refine⟨_,AA rfl (H.ld EQ4 Ai (.tail _ (.tail _ (.head _))) rfl),?_⟩
 refine⟨_,AA rfl (H.ld EQ4 Ah (.tail _ (.head _)) rfl),?_⟩
 refine Hp.mupS SE H EQ4 ?_
 intro w1 H
 exact⟨rfl,H⟩
theorem MV(x:CW)(n m:ByteArray)(k:Nat)(b:Nat)(al:List (ByteArray×Value))(w:World)(st:Std w (.smap b al::chL x (.rename n m k))):Calls Tryz.prog 136 #[.map (some b),.pointer (some ⟨x.n,0,none⟩),.pointer (some ⟨x.k,0,none⟩),.pointer (some ⟨x.t,0,none⟩)] w fun e w'=>
  e=.returned (.tuple #[])/\Hp (feet (.smap b al::chL x (.rename n m k))) w w' (.smap b (onA al (.rename n m k))::chL x (.rename n m k)):=by
 apply renameC.ok;unfold renameC.vc
 have H:=Hp.Ap st
 generalize hB:feet (.smap b al::chL x (.rename n m k))=B at H⊢
 simp only[chL]at H
 refine⟨_,AA rfl (H.ld EQ4 Ai (.tail _ (.head _)) rfl),?_⟩
 refine Hp.del SE rfl H EQ4 ?_
 clear H;intro w1 H
 refine⟨_,AA rfl (H.ld EQ4 Ai (.tail _ (.tail _ (.tail _ (.head _)))) rfl),?_⟩
 refine⟨_,AA rfl (H.ld EQ4 Ah (.tail _ (.tail _ (.head _))) rfl),?_⟩
 refine Hp.mupS SE H EQ4 ?_
 clear H;intro w1 H
 exact⟨rfl,H⟩
theorem chX_spec(x:CW)(c:Ch){m:Nat}(hc:c.Ok m)(b:Nat)(al:List (ByteArray×Value))(w:World)(st:Std w (.smap b al::chL x c)):Du Tryz.prog (chV x c) [.map (some b)] w fun e w'=>
  e=.returned (.tuple #[])/\Hp (feet (.smap b al::chL x c)) w w' (.smap b (onA al c)::chL x c):=by
 cases c with
 |create n k=>exact G8 Tryz.func32 rfl (AL (NK x n k b al w st) fun _ _ h=>h)
 |rename n m k=>exact G8 Tryz.func136 rfl (AL (MV x n m k b al w st) fun _ _ h=>h)
 |remove n=>exact hc.elim
theorem Dk.MQ(d:Dk)(c:Ch):(d.change c).names=c.on d.names:=by simp[Dk.change,Dk.names,ons]
theorem Ub{xs:List CW}{cs:List Ch}(h:xs.length=cs.length)(x:CW)(c:Ch):chsL (xs++[x]) (cs++[c])=chsL xs cs++chL x c:=by
 simp[chsL,List.zipWith_append h]
theorem UX{xs:List CW}{cs:List Ch}(h:xs.length=cs.length)(x:CW)(c:Ch):chVs (xs++[x]) (cs++[c])=chVs xs cs++[chV x c]:=by
 simp[chVs,List.zipWith_append h]
theorem VW{a b c d e:Asn}{R C:List Asn}:(a::b::c::d::e::(R++C)).Perm ((c::C)++(a::b::d::e::R)):=by
 refine(DY [a,b] c _).trans ?_
 refine List.Perm.cons _ ?_
 exact(perm_append_comm (l₁:=a::b::d::e::R) (l₂:=C))
theorem _root_.Go.Vault.Dk.Ok.dies{d:Dk}(h:d.Ok):d.dies.Ok:=by
 unfold Dk.dies
 split
 ·exact⟨h.room,h.files,h.firm,h.chs,h.rise,by have:=h.armed;show(((d.armed-1:Nat)):Int)<=_;omega,h.denied⟩
 ·exact h
theorem _root_.Go.Vault.Dk.Ok.denies{d:Dk}(h:d.Ok):d.denies.Ok:=⟨h.room,h.files,h.firm,h.chs,h.rise,h.armed,by have:=h.denied;show(((d.denied-1:Nat)):Int)<=_;omega⟩
theorem _root_.Go.Vault.Dk.Ok.change{d:Dk}(h:d.Ok){c:Ch}(hc:c.Ok d.files.length):(d.change c).Ok:=
 ⟨h.room,h.files,h.firm,fun e he=>by
  rcases mem_append.1 he with he|he
  ·exact h.chs e he
  ·rw[mem_singleton.1 he];exact hc,h.rise,h.armed,h.denied⟩
theorem QD(d:Dk):∃a b,d.dies= {d with armed:=a,dead:=b}:=by
 unfold Dk.dies
 split
 ·exact⟨_,_,rfl⟩
 ·exact⟨_,_,rfl⟩
theorem DW.Ok.dies{x:DW}{d:Dk}(h:x.Ok d):x.Ok d.dies:=by
 have h2:=h.dk.dies
 obtain⟨a,b,e⟩:=QD d
 rw[e]at h2⊢
 exact⟨h2,h.fl,h.cl,h.keys,h.na,h.fi⟩
theorem DW.Ok.denies{x:DW}{d:Dk}(h:x.Ok d):x.Ok d.denies:=⟨h.dk.denies,h.fl,h.cl,h.keys,h.na,h.fi⟩
theorem DW.Ok.change{x:DW}{d:Dk}(h:x.Ok d){c:Ch}(hc:c.Ok d.files.length)(cw:CW)(ca:Option Addr)(cc:Nat):({x with na:=onA x.na c,ca:=ca,cc:=cc,cs:=x.cs++[cw]}:DW).Ok (d.change c):=
 ⟨h.dk.change hc,h.fl,by simp[Dk.change,h.cl],h.keys,by rw[Dk.MQ];exact WT h.dk.names h.na c,h.fi⟩
theorem drenameC_spec(x:DW)(d:Dk)(hok:x.Ok d)(hl:d.chs.length<=1073741824)(cw:CW)(n:ByteArray)(k:Nat)(hc:Ch.Ok d.files.length (.create n k))(w:World)(st:Std w (dkL x d++chL cw (.create n k))):
  Calls Tryz.prog 31 #[.pointer (some ⟨x.b,0,none⟩),chV cw (.create n k)] w fun e w'=>e=.returned (.int .i64 (d.change (.create n k)).dies.code)/\∃x',x'.b=x.b/\x'.Ok (d.change (.create n k)).dies/\Hp (feet (dkL x d++chL cw (.create n k))) w w' (dkL x' (d.change (.create n k)).dies):=by
 apply drenameC.ok (some ⟨x.b,0,none⟩) (some ⟨cw.k,0,none⟩) (some ⟨cw.n,0,none⟩);unfold drenameC.vc
 have H:=Hp.Ap st
 generalize hB:feet (dkL x d++chL cw (.create n k))=B at H⊢
 simp only[dkL,cons_append]at H
 refine AA rfl ?_
 ((repeat apply Exists.intro);first|refine⟨H.ld EQ4 (by first|exact Ah|exact Af|exact Ai|exact Aj|exact BA|exact BB|exact A8|exact Ar|exact BC|exact sclC) (by repeat first|exact .head _|refine .tail _ ?_) rfl,?_⟩)
 replace H:=H.perm VW
 refine AL (NK cw n k x.mn x.na w H.std1) ?_
 rintro e w1 ⟨rfl,H'⟩;replace H:=H.useL H';clear H'
 refine⟨rfl,?_⟩
 replace H:=H.perm VW.symm
 refine AA rfl ?_
 ((repeat apply Exists.intro);first|refine⟨H.ld EQ4 (by first|exact Ah|exact Af|exact Ai|exact Aj|exact BA|exact BB|exact A8|exact Ar|exact BC|exact sclC) (by repeat first|exact .head _|refine .tail _ ?_) rfl,?_⟩)
 intro b w2 hn
 replace H:=H.new EQ4 hn;clear hn
 refine Hp.app eltC (by omega) H.Bh EQ4 (Blk.src bP ((H.go (w':=w2.drew) EQ4).blk (.head _)) rfl rfl) (by simp only[maxLen];omega) (by omega) ?_
 clear H
 intro a' c' w3 H
 replace H:=H.drop1
 refine AA rfl ?_
 ((first|(apply Hp.st;(case H=>first|exact H|exact H.Aq|exact H.BF|exact H.BM|exact H.Bc|exact H.Bh|exact H.Bj|exact H.pull7);(case e=>exact⟨rfl,rfl,rfl,rfl⟩);(case S=>exact(by first|exact Ah|exact Af|exact Ai|exact Aj|exact BA|exact BB|exact A8|exact Ar|exact BC|exact sclC));(case hv=>exact rfl);(case h1=>exact rfl);(case ho=>exact Nat.le_of_ble_eq_true rfl);(case hc=>exact rfl)));clear H;intro _ H;(try simp only[over,set_cons_zero,set_cons_succ]at H))
 rename_i w4
 have hok':=hok.change hc cw a' c'
 have e1:dkL {x with na:=onA x.na (.create n k),ca:=a',cc:=c',cs:=x.cs++[cw]} (d.change (.create n k))=
   .blk x.b [.int .i64 (d.room:Int),.slice x.fa d.files.length x.fc,.map (some x.mn),.map (some x.mf),.slice a' (d.chs.length+1) c',.int .i64 (d.armed:Int),.int .i64 (d.denied:Int),.bool d.dead] 71::
   .own 76 1 x.fa d.files.length x.fc (ptrs x.fs)::.smap x.mn (onA x.na (.create n k))::.smap x.mf x.fi::.own 125 1 a' (d.chs.length+1) c' (chVs x.cs d.chs++[chV cw (.create n k)])::(dkR x d++chL cw (.create n k)):=by
  simp only[dkL,dkR,Dk.change,Ub hok.cl,UX hok.cl,length_append,length_cons,length_nil,append_assoc]
 have H4:Hp B w w4 (dkL {x with na:=onA x.na (.create n k),ca:=a',cc:=c',cs:=x.cs++[cw]} (d.change (.create n k))):=by
  rw[e1]
  ((try dsimp only[cons_append,nil_append]);(try dsimp only[cons_append,nil_append]at H);refine Hp.perm H ?_;(repeat(apply BH;(focus first|exact Bq|exact Bo|exact Bv|exact Bi|exact Bz|exact CG|exact CB|exact perm_p7|exact perm_p8|exact perm_p9)));exact List.Perm.refl _)
 obtain⟨y,hy,hyb⟩:∃y:DW,y= {x with na:=onA x.na (.create n k),ca:=a',cc:=c',cs:=x.cs++[cw]}/\y.b=x.b:=⟨_,rfl,rfl⟩
 rw[<- hy]at hok' H4
 have hd:=Ox y _ hok'.dk.armed w4 H4.std
 rw[hyb]at hd
 refine AL hd ?_
 rintro e w5 ⟨rfl,H'⟩
 exact⟨_,rfl,rfl,y,hyb,hok'.dies,H4.Dq H'⟩
theorem drenameR_spec(x:DW)(d:Dk)(hok:x.Ok d)(hl:d.chs.length<=1073741824)(cw:CW)(n m:ByteArray)(k:Nat)(hc:Ch.Ok d.files.length (.rename n m k))(w:World)(st:Std w (dkL x d++chL cw (.rename n m k))):
  Calls Tryz.prog 31 #[.pointer (some ⟨x.b,0,none⟩),chV cw (.rename n m k)] w fun e w'=>e=.returned (.int .i64 (d.change (.rename n m k)).dies.code)/\∃x',x'.b=x.b/\x'.Ok (d.change (.rename n m k)).dies/\Hp (feet (dkL x d++chL cw (.rename n m k))) w w' (dkL x' (d.change (.rename n m k)).dies):=by
 apply drenameR.ok (some ⟨x.b,0,none⟩) (some ⟨cw.n,0,none⟩) (some ⟨cw.k,0,none⟩) (some ⟨cw.t,0,none⟩);unfold drenameR.vc
 have H:=Hp.Ap st
 generalize hB:feet (dkL x d++chL cw (.rename n m k))=B at H⊢
 simp only[dkL,cons_append]at H
 refine AA rfl ?_
 ((repeat apply Exists.intro);first|refine⟨H.ld EQ4 (by first|exact Ah|exact Af|exact Ai|exact Aj|exact BA|exact BB|exact A8|exact Ar|exact BC|exact sclC) (by repeat first|exact .head _|refine .tail _ ?_) rfl,?_⟩)
 replace H:=H.perm VW
 refine AL (MV cw n m k x.mn x.na w H.std1) ?_
 rintro e w1 ⟨rfl,H'⟩;replace H:=H.useL H';clear H'
 refine⟨rfl,?_⟩
 replace H:=H.perm VW.symm
 refine AA rfl ?_
 ((repeat apply Exists.intro);first|refine⟨H.ld EQ4 (by first|exact Ah|exact Af|exact Ai|exact Aj|exact BA|exact BB|exact A8|exact Ar|exact BC|exact sclC) (by repeat first|exact .head _|refine .tail _ ?_) rfl,?_⟩)
 intro b w2 hn
 replace H:=H.new EQ4 hn;clear hn
 refine Hp.app eltC (by omega) H.Bh EQ4 (Blk.src bP ((H.go (w':=w2.drew) EQ4).blk (.head _)) rfl rfl) (by simp only[maxLen];omega) (by omega) ?_
 clear H
 intro a' c' w3 H
 replace H:=H.drop1
 refine AA rfl ?_
 ((first|(apply Hp.st;(case H=>first|exact H|exact H.Aq|exact H.BF|exact H.BM|exact H.Bc|exact H.Bh|exact H.Bj|exact H.pull7);(case e=>exact⟨rfl,rfl,rfl,rfl⟩);(case S=>exact(by first|exact Ah|exact Af|exact Ai|exact Aj|exact BA|exact BB|exact A8|exact Ar|exact BC|exact sclC));(case hv=>exact rfl);(case h1=>exact rfl);(case ho=>exact Nat.le_of_ble_eq_true rfl);(case hc=>exact rfl)));clear H;intro _ H;(try simp only[over,set_cons_zero,set_cons_succ]at H))
 rename_i w4
 have hok':=hok.change hc cw a' c'
 have e1:dkL {x with na:=onA x.na (.rename n m k),ca:=a',cc:=c',cs:=x.cs++[cw]} (d.change (.rename n m k))=
   .blk x.b [.int .i64 (d.room:Int),.slice x.fa d.files.length x.fc,.map (some x.mn),.map (some x.mf),.slice a' (d.chs.length+1) c',.int .i64 (d.armed:Int),.int .i64 (d.denied:Int),.bool d.dead] 71::
   .own 76 1 x.fa d.files.length x.fc (ptrs x.fs)::.smap x.mn (onA x.na (.rename n m k))::.smap x.mf x.fi::.own 125 1 a' (d.chs.length+1) c' (chVs x.cs d.chs++[chV cw (.rename n m k)])::(dkR x d++chL cw (.rename n m k)):=by
  simp only[dkL,dkR,Dk.change,Ub hok.cl,UX hok.cl,length_append,length_cons,length_nil,append_assoc]
 have H4:Hp B w w4 (dkL {x with na:=onA x.na (.rename n m k),ca:=a',cc:=c',cs:=x.cs++[cw]} (d.change (.rename n m k))):=by
  rw[e1]
  ((try dsimp only[cons_append,nil_append]);(try dsimp only[cons_append,nil_append]at H);refine Hp.perm H ?_;(repeat(apply BH;(focus first|exact Bq|exact Bo|exact Bv|exact Bi|exact Bz|exact CG|exact CB|exact perm_p7|exact perm_p8|exact perm_p9)));exact List.Perm.refl _)
 obtain⟨y,hy,hyb⟩:∃y:DW,y= {x with na:=onA x.na (.rename n m k),ca:=a',cc:=c',cs:=x.cs++[cw]}/\y.b=x.b:=⟨_,rfl,rfl⟩
 rw[<- hy]at hok' H4
 have hd:=Ox y _ hok'.dk.armed w4 H4.std
 rw[hyb]at hd
 refine AL hd ?_
 rintro e w5 ⟨rfl,H'⟩
 exact⟨_,rfl,rfl,y,hyb,hok'.dies,H4.Dq H'⟩
theorem Ef(x:DW)(d:Dk):dkL x d=
 .blk x.b [.int .i64 (d.room:Int),.slice x.fa d.files.length x.fc,.map (some x.mn),.map (some x.mf),.slice x.ca d.chs.length x.cc,.int .i64 (d.armed:Int),.int .i64 (d.denied:Int),.bool d.dead] 71::
 .own 76 1 x.fa d.files.length x.fc (ptrs x.fs)::.smap x.mn x.na::.smap x.mf x.fi::.own 125 1 x.ca d.chs.length x.cc (chVs x.cs d.chs)::dkR x d:=rfl
def IR(x:DW)(d:Dk)(w:World)(v:Value)(d':Dk)(e:Ending)(w':World):Prop:=
 e=.returned v/\∃x',x'.b=x.b/\x'.Ok d'/\Hp (feet (dkL x d)) w w' (dkL x' d')
theorem Fl.QB:Fl.none.Ok:=⟨by simp[Fl.none],by simp[Fl.none],by simp[Fl.none],by simp[Fl.none],by simp[Fl.none]⟩
theorem filesL_snoc{xs:List FW}{fs:List Fl}(h:xs.length=fs.length)(x:FW)(f:Fl):Fj (xs++[x]) (fs++[f])=Fj xs fs++flL x f:=by
 simp[Fj,List.zipWith_append h]
theorem TY(xs:List FW)(x:FW):ptrs (xs++[x])=ptrs xs++[.pointer (some ⟨x.b,0,none⟩)]:=by simp[ptrs]
theorem WH{x:DW}{d:Dk}(hok:x.Ok d)(f:FW)(g:Fl)(a:Option Addr)(c:Nat):(dkR {x with fa:=a,fc:=c,fs:=x.fs++[f]} {d with files:=d.files++[g]}).Perm (flL f g++dkR x d):=by
 simp only[dkR,filesL_snoc hok.fl]
 rw[<- append_assoc]
 exact List.perm_append_comm.append_right _
theorem DW.Ok.file{x:DW}{d:Dk}(h:x.Ok d)(f:FW)(g:Fl)(hg:g.Ok)(hk:(f.al.map (·.1)).Perm (g.since.map fun n:Nat=>(n:Int)))(a:Option Addr)(c:Nat):({x with fa:=a,fc:=c,fs:=x.fs++[f]}:DW).Ok {d with files:=d.files++[g]}:=by
 have hl:d.files.length<=(d.files++[g]).length:=by simp
 refine⟨⟨h.dk.room,fun e he=>?_,fun p hp=>(h.dk.firm p hp).mono hl,fun c hc=>(h.dk.chs c hc).mono hl,h.dk.rise,h.dk.armed,h.dk.denied⟩,by simp[h.fl],h.cl,?_,h.na,h.fi⟩
 ·rcases mem_append.1 he with he|he
  ·exact h.dk.files e he
  ·rw[mem_singleton.1 he];exact hg
 ·intro k f' g' h1 h2
  show(f'.al.map (·.1)).Perm (g'.since.map fun n:Nat=>(n:Int))
  by_cases hkl:k<x.fs.length
  ·rw[List.getElem?_append_left hkl]at h1
   rw[List.getElem?_append_left (by rw[<- h.fl];exact hkl)]at h2
   exact h.keys k f' g' h1 h2
  ·have hk2:k=x.fs.length:=by
    have:=(List.getElem?_eq_some_iff.1 h1).1
    simp at this;omega
   subst hk2
   rw[List.getElem?_append_right (by omega)]at h1
   rw[List.getElem?_append_right (by rw[h.fl];omega)]at h2
   simp[h.fl]at h1 h2
   subst h1 h2
   exact hk
theorem PS(x:DW)(d:Dk)(hok:x.Ok d)(hl:d.chs.length<=1073741824)(hf:d.files.length<=1073741824)(n:ByteArray)(w:World)(st:Std w (dkL x d)):
  Calls Tryz.prog 9 #[.pointer (some ⟨x.b,0,none⟩),.string n] w (IR x d w (.int .i64 (d.create n).2) (d.create n).1):=by
 apply create.ok;unfold create.vc IR
 have H:=Hp.Ap st
 generalize hB:feet (dkL x d)=B at H⊢
 have hdk:=Ef x d
 simp only[dkL]at H
 (intro _ _ hn;replace H:=H.new EQ4 hn;clear hn)
 rename_i b w1
 refine AA rfl ?_
 ((repeat apply Exists.intro);first|refine⟨H.ld EQ4 (by first|exact Ah|exact Af|exact Ai|exact Aj|exact BA|exact BB|exact A8|exact Ar|exact BC|exact sclC) (by repeat first|exact .head _|refine .tail _ ?_) rfl,?_⟩)
 refine CE (fun h=>?_) (fun h=>?_)
 ·have e1:d.create n=(d,93):=by simp[Dk.create,h]
  rw[e1]
  exact⟨rfl,x,rfl,hok,by rw[hdk];exact H.drop⟩
 ·((repeat apply Exists.intro);first|refine⟨H.ld EQ4 (by first|exact Ah|exact Af|exact Ai|exact Aj|exact BA|exact BB|exact A8|exact Ar|exact BC|exact sclC) (by repeat first|exact .head _|refine .tail _ ?_) rfl,?_⟩)
  refine AL (SA n _) ?_
  rintro e w2 ⟨rfl,H'⟩;replace H:=H.ext0 H';clear H'
  refine⟨_,rfl,?_⟩
  refine BI (fun h2=>?_) (fun h2=>?_)
  ·have e1:d.create n=(d,92):=by simp[Dk.create,h,h2]
   rw[e1]
   exact⟨rfl,x,rfl,hok,by rw[hdk];exact H.drop⟩
  have e1:d.create n=((Dk.change {d with files:=d.files++[Fl.none]} (.create n d.files.length)).dies,(Dk.change {d with files:=d.files++[Fl.none]} (.create n d.files.length)).dies.code):=by simp[Dk.create,h,h2]
  rw[e1]
  refine AA rfl ?_
  ((repeat apply Exists.intro);first|refine⟨H.ld EQ4 (by first|exact Ah|exact Af|exact Ai|exact Aj|exact BA|exact BB|exact A8|exact Ar|exact BC|exact sclC) (by repeat first|exact .head _|refine .tail _ ?_) rfl,?_⟩)
  intro b3 w3 hn;replace H:=H.new EQ4 hn;clear hn
  ((first|(apply Hp.st;(case H=>first|exact H|exact H.Aq|exact H.BF|exact H.BM|exact H.Bc|exact H.Bh|exact H.Bj|exact H.pull7);(case e=>exact⟨rfl,rfl,rfl,rfl⟩);(case S=>exact(by first|exact Ah|exact Af|exact Ai|exact Aj|exact BA|exact BB|exact A8|exact Ar|exact BC|exact sclC));(case hv=>exact rfl);(case h1=>exact rfl);(case ho=>exact Nat.le_of_ble_eq_true rfl);(case hc=>exact rfl)));clear H;intro _ H;(try simp only[over,set_cons_zero,set_cons_succ]at H))
  refine AA rfl ?_
  ((repeat apply Exists.intro);first|refine⟨H.ld EQ4 (by first|exact Ah|exact Af|exact Ai|exact Aj|exact BA|exact BB|exact A8|exact Ar|exact BC|exact sclC) (by repeat first|exact .head _|refine .tail _ ?_) rfl,?_⟩)
  intro b4 w5 hn;replace H:=H.newI EQ4 .i64 hn;clear hn
  intro b5 w6 hn;replace H:=H.new EQ4 hn;clear hn
  intro b6 w7 hn;replace H:=H.new EQ4 hn;clear hn
  refine Hp.app bC (by omega) H.Bj EQ4 (Blk.src Zo ((H.go (w':=w7.drew) EQ4).blk (.head _)) rfl rfl) (by simp only[maxLen];omega) (by omega) ?_
  clear H
  intro a' c' w8 H
  replace H:=H.drop1
  refine AA rfl ?_
  ((first|(apply Hp.st;(case H=>first|exact H|exact H.Aq|exact H.BF|exact H.BM|exact H.Bc|exact H.Bh|exact H.Bj|exact H.pull7);(case e=>exact⟨rfl,rfl,rfl,rfl⟩);(case S=>exact(by first|exact Ah|exact Af|exact Ai|exact Aj|exact BA|exact BB|exact A8|exact Ar|exact BC|exact sclC));(case hv=>exact rfl);(case h1=>exact rfl);(case ho=>exact Nat.le_of_ble_eq_true rfl);(case hc=>exact rfl)));clear H;intro _ H;(try simp only[over,set_cons_zero,set_cons_succ]at H))
  rename_i w9
  replace H:=(H.nilS 85 512).nilS 85 512
  obtain⟨f,hf0⟩:∃f:FW,f=⟨b5,none,0,none,0,b4,[]⟩:=⟨_,rfl⟩
  obtain⟨y,hy,hyb⟩:∃y:DW,y= {x with fa:=a',fc:=c',fs:=x.fs++[f]}/\y.b=x.b:=⟨_,rfl,rfl⟩
  have hok':=hok.file f Fl.none Fl.QB (by rw[hf0];exact .refl _) a' c'
  have e2:(dkL y {d with files:=d.files++[Fl.none]}).Perm (.blk x.b [.int .i64 (d.room:Int),.slice a' (d.files.length+1) c',.map (some x.mn),.map (some x.mf),.slice x.ca d.chs.length x.cc,.int .i64 (d.armed:Int),.int .i64 (d.denied:Int),.bool d.dead] 71::
    .own 76 1 a' (d.files.length+1) c' (ptrs x.fs++[.pointer (some ⟨b5,0,none⟩)])::.smap x.mn x.na::.smap x.mf x.fi::.own 125 1 x.ca d.chs.length x.cc (chVs x.cs d.chs)::
    .blk b5 [.slice none 0 0,.slice none 0 0,.map (some b4)] 80::.own 85 512 none 0 0 []::.own 85 512 none 0 0 []::.imap b4 .i64 []::dkR x d):=by
   have:=WH hok f Fl.none a' c'
   rw[hf0]at this
   subst hy
   rw[hf0]
   simp only[dkL,length_append,length_cons,length_nil,TY]
   exact((((this.cons _).cons _).cons _).cons _).cons _
  rw[<- hy]at hok'
  have H4:Hp B w w9 (dkL y {d with files:=d.files++[Fl.none]}++chL ⟨b,b3,0⟩ (.create n d.files.length)):=by
   refine Hp.perm ?_ (e2.append_right _).symm
   have e3:∀R:List Asn,(Asn.blk b3 [.int .i64 (d.files.length:Int)] 3::.blk b [.string n] 9::R).Perm (R++chL ⟨b,b3,0⟩ (.create n d.files.length)):=fun R=>perm_append_comm (l₁:=[Asn.blk b3 [.int .i64 (d.files.length:Int)] 3,.blk b [.string n] 9]) (l₂:=R)
   refine Hp.perm ?_ (e3 _)
   ((try dsimp only[cons_append,nil_append]);(try dsimp only[cons_append,nil_append]at H);refine Hp.perm H ?_;(repeat(apply BH;(focus first|exact Bq|exact Bo|exact Bv|exact Bi|exact Bz|exact CG|exact CB|exact perm_p7|exact perm_p8|exact perm_p9)));exact List.Perm.refl _)
  have hr:n.size<=60:=by
   have:Vault.right n=true:=h2
   simp only[Vault.right,Bool.and_eq_true,decide_eq_true_eq]at this
   exact this.2
  have hd:=drenameC_spec y _ hok' hl ⟨b,b3,0⟩ n d.files.length ⟨by simp,hr⟩ w9 H4.std
  rw[hyb]at hd
  refine AL hd ?_
  rintro e w10 ⟨rfl,y',h3,h4,H'⟩
  exact⟨_,rfl,rfl,y',h3,h4,H4.Dq H'⟩
theorem rename_spec(x:DW)(d:Dk)(hok:x.Ok d)(hl:d.chs.length<=1073741824)(n m:ByteArray)(w:World)(st:Std w (dkL x d)):
  Calls Tryz.prog 110 #[.pointer (some ⟨x.b,0,none⟩),.string n,.string m] w (IR x d w (.int .i64 (d.rename n m).2) (d.rename n m).1):=by
 apply rename.ok;unfold rename.vc IR
 have H:=Hp.Ap st
 generalize hB:feet (dkL x d)=B at H⊢
 have hdk:=Ef x d
 simp only[dkL]at H
 intro b w1 hn;replace H:=H.new EQ4 hn;clear hn
 intro b1 w2 hn;replace H:=H.new EQ4 hn;clear hn
 replace H:=H.drew
 refine AA rfl ?_
 ((repeat apply Exists.intro);first|refine⟨H.ld EQ4 (by first|exact Ah|exact Af|exact Ai|exact Aj|exact BA|exact BB|exact A8|exact Ar|exact BC|exact sclC) (by repeat first|exact .head _|refine .tail _ ?_) rfl,?_⟩)
 ((repeat apply Exists.intro);first|refine⟨H.ld EQ4 (by first|exact Ah|exact Af|exact Ai|exact Aj|exact BA|exact BB|exact A8|exact Ar|exact BC|exact sclC) (by repeat first|exact .head _|refine .tail _ ?_) rfl,?_⟩)
 have hg:=VA hok.dk.names hok.na n
 have hf:nget d.names n=d.find n:=rfl
 rw[hf]at hg
 obtain⟨k,o,hk,ho,hv⟩:∃(k:Nat)(o:Bool),(aget x.na n).getD (.int .i64 0)=.int .i64 (k:Int)/\(aget x.na n).isSome=o/\(o=true/\d.find n=some k\/o=false/\d.find n=none):=by
  cases hk:d.find n with
  |none=>exact⟨0,false,by rw[hg,hk];rfl,by rw[hg,hk];rfl,.inr ⟨rfl,rfl⟩⟩
  |some k=>exact⟨k,true,by rw[hg,hk];rfl,by rw[hg,hk];rfl,.inl ⟨rfl,rfl⟩⟩
 refine⟨(k:Int),o,H.ZC SE EQ4 (by repeat first|exact .head _|refine .tail _ ?_) hk ho,?_⟩
 intro b3 w3 hn;replace H:=H.new EQ4 hn;clear hn
 refine⟨H.ZC SE EQ4 (by repeat first|exact .head _|refine .tail _ ?_) hk ho,H.ld EQ4 Ai (by repeat first|exact .head _|refine .tail _ ?_) rfl,H.ld EQ4 Aj (by repeat first|exact .head _|refine .tail _ ?_) rfl,?_⟩
 ((first|(apply Hp.st;(case H=>first|exact H|exact H.Aq|exact H.BF|exact H.BM|exact H.Bc|exact H.Bh|exact H.Bj|exact H.pull7);(case e=>exact⟨rfl,rfl,rfl,rfl⟩);(case S=>exact(by first|exact Ah|exact Af|exact Ai|exact Aj|exact BA|exact BB|exact A8|exact Ar|exact BC|exact sclC));(case hv=>exact rfl);(case h1=>exact rfl);(case ho=>exact Nat.le_of_ble_eq_true rfl);(case hc=>exact rfl)));clear H;intro _ H;(try simp only[over,set_cons_zero,set_cons_succ]at H))
 refine AA rfl ?_
 ((repeat apply Exists.intro);first|refine⟨H.ld EQ4 (by first|exact Ah|exact Af|exact Ai|exact Aj|exact BA|exact BB|exact A8|exact Ar|exact BC|exact sclC) (by repeat first|exact .head _|refine .tail _ ?_) rfl,?_⟩)
 refine CE (fun h=>?_) (fun h=>?_)
 ·have e1:d.rename n m=(d,93):=by simp[Dk.rename,h]
  rw[e1]
  exact⟨rfl,x,rfl,hok,by rw[hdk];exact H.drop.drop.drop⟩
 rcases hv with⟨rfl,hfd⟩|⟨rfl,hfd⟩
 ·refine BI (fun h=>by cases h) (fun _=>?_)
  ((repeat apply Exists.intro);first|refine⟨H.ld EQ4 (by first|exact Ah|exact Af|exact Ai|exact Aj|exact BA|exact BB|exact A8|exact Ar|exact BC|exact sclC) (by repeat first|exact .head _|refine .tail _ ?_) rfl,?_⟩)
  refine AL (SA m _) ?_
  rintro e w4 ⟨rfl,H'⟩;replace H:=H.ext0 H';clear H'
  refine⟨_,rfl,?_⟩
  refine BI (fun h2=>?_) (fun h2=>?_)
  ·have e1:d.rename n m=(d,92):=by simp[Dk.rename,h,hfd,h2]
   rw[e1]
   exact⟨rfl,x,rfl,hok,by rw[hdk];exact H.drop.drop.drop⟩
  ((repeat apply Exists.intro);first|refine⟨H.ld EQ4 (by first|exact Ah|exact Af|exact Ai|exact Aj|exact BA|exact BB|exact A8|exact Ar|exact BC|exact sclC) (by repeat first|exact .head _|refine .tail _ ?_) rfl,?_⟩)
  ((repeat apply Exists.intro);first|refine⟨H.ld EQ4 (by first|exact Ah|exact Af|exact Ai|exact Aj|exact BA|exact BB|exact A8|exact Ar|exact BC|exact sclC) (by repeat first|exact .head _|refine .tail _ ?_) rfl,?_⟩)
  refine AO (fun h3=>?_) (fun h3=>?_)
  ·have e1:d.rename n m=(d,0):=by subst h3;simp[Dk.rename,h,hfd,h2]
   rw[e1]
   exact⟨rfl,x,rfl,hok,by rw[hdk];exact H.drop.drop.drop⟩
  have e1:d.rename n m=((d.change (.rename n m k)).dies,(d.change (.rename n m k)).dies.code):=by simp[Dk.rename,h,hfd,h2,h3]
  rw[e1]
  have H4:Hp B w w4 (dkL x d++chL ⟨b,b3,b1⟩ (.rename n m k)):=by
   have e3:∀R:List Asn,(Asn.blk b [.string n] 9::.blk b3 [.int .i64 (k:Int)] 3::.blk b1 [.string m] 9::R).Perm (R++chL ⟨b,b3,b1⟩ (.rename n m k)):=fun R=>perm_append_comm (l₁:=[Asn.blk b [.string n] 9,.blk b3 [.int .i64 (k:Int)] 3,.blk b1 [.string m] 9]) (l₂:=R)
   refine Hp.perm ?_ (e3 _)
   rw[hdk]
   ((try dsimp only[cons_append,nil_append]);(try dsimp only[cons_append,nil_append]at H);refine Hp.perm H ?_;(repeat(apply BH;(focus first|exact Bq|exact Bo|exact Bv|exact Bi|exact Bz|exact CG|exact CB|exact perm_p7|exact perm_p8|exact perm_p9)));exact List.Perm.refl _)
  have hr:m.size<=60:=by
   have:Vault.right m=true:=h2
   simp only[Vault.right,Bool.and_eq_true,decide_eq_true_eq]at this
   exact this.2
  have hd:=drenameR_spec x d hok hl ⟨b,b3,b1⟩ n m k ⟨hok.dk.find hfd,hr⟩ w4 H4.std
  refine AL hd ?_
  rintro e w10 ⟨rfl,y',h3,h4,H'⟩
  exact⟨_,rfl,rfl,y',h3,h4,H4.Dq H'⟩
 ·refine BI (fun _=>?_) (fun h=>by cases h)
  have e1:d.rename n m=(d,90):=by simp[Dk.rename,h,hfd]
  rw[e1]
  exact⟨rfl,x,rfl,hok,by rw[hdk];exact H.drop.drop.drop⟩
theorem Je(x:DW)(d:Dk)(hok:x.Ok d)(w:World)(st:Std w (dkL x d)):
  Calls Tryz.prog 52 #[.pointer (some ⟨x.b,0,none⟩)] w (IR x d w (.int .i64 d.Ad.2) d.Ad.1):=by
 apply Ad.ok;unfold Ad.vc IR
 have H:=Hp.Ap st
 generalize hB:feet (dkL x d)=B at H⊢
 have hdk:=Ef x d
 simp only[dkL]at H
 refine AA rfl ?_
 ((repeat apply Exists.intro);first|refine⟨H.ld EQ4 (by first|exact Ah|exact Af|exact Ai|exact Aj|exact BA|exact BB|exact A8|exact Ar|exact BC|exact sclC) (by repeat first|exact .head _|refine .tail _ ?_) rfl,?_⟩)
 refine CE (fun h=>?_) (fun h=>?_)
 ·have e1:d.Ad=(d,93):=by simp[Dk.Ad,h]
  rw[e1]
  exact⟨rfl,x,rfl,hok,by rw[hdk];exact H⟩
 rw[<- hdk]at H
 refine AL (OG x d hok.dk.armed w H.std) ?_
 rintro e w1 ⟨rfl,H'⟩;replace H:=H.Dq H';clear H'
 refine⟨_,rfl,?_⟩
 have hok':=hok.dies
 refine CE (fun h2=>?_) (fun h2=>?_)
 ·have e1:d.Ad=(d.dies,93):=by simp[Dk.Ad,h,h2]
  rw[e1]
  exact⟨rfl,x,rfl,hok',H⟩
 have e1:d.Ad=({d.dies with firm:=d.names,chs:=[]},0):=by simp[Dk.Ad,h,h2]
 rw[e1]
 have hnm:d.dies.names=d.names:=by
  obtain⟨a,b,e⟩:=QD d
  rw[e];rfl
 rw[<- hnm]
 generalize d.dies=q at H hok'⊢
 simp only[dkL]at H
 refine AA rfl ?_
 ((repeat apply Exists.intro);first|refine⟨H.ld EQ4 (by first|exact Ah|exact Af|exact Ai|exact Aj|exact BA|exact BB|exact A8|exact Ar|exact BC|exact sclC) (by repeat first|exact .head _|refine .tail _ ?_) rfl,?_⟩)
 refine AL (Jy x.mn x.na w1 (H.ok (.smap x.mn x.na) (by repeat first|exact .head _|refine .tail _ ?_))) ?_
 rintro e w2 ⟨b',rfl,H'⟩;replace H:=H.ext H';clear H'
 refine⟨_,rfl,?_⟩
 simp only[cons_append,nil_append]at H
 refine AA rfl ?_
 ((first|(apply Hp.st;(case H=>first|exact H|exact H.Aq|exact H.BF|exact H.BM|exact H.Bc|exact H.Bh|exact H.Bj|exact H.pull7);(case e=>exact⟨rfl,rfl,rfl,rfl⟩);(case S=>exact(by first|exact Ah|exact Af|exact Ai|exact Aj|exact BA|exact BB|exact A8|exact Ar|exact BC|exact sclC));(case hv=>exact rfl);(case h1=>exact rfl);(case ho=>exact Nat.le_of_ble_eq_true rfl);(case hc=>exact rfl)));clear H;intro _ H;(try simp only[over,set_cons_zero,set_cons_succ]at H))
 refine AA rfl ?_
 ((first|(apply Hp.st;(case H=>first|exact H|exact H.Aq|exact H.BF|exact H.BM|exact H.Bc|exact H.Bh|exact H.Bj|exact H.pull7);(case e=>exact⟨rfl,rfl,rfl,rfl⟩);(case S=>exact(by first|exact Ah|exact Af|exact Ai|exact Aj|exact BA|exact BB|exact A8|exact Ar|exact BC|exact sclC));(case hv=>exact rfl);(case h1=>exact rfl);(case ho=>exact Nat.le_of_ble_eq_true rfl);(case hc=>exact rfl)));clear H;intro _ H;(try simp only[over,set_cons_zero,set_cons_succ]at H))
 rename_i w5
 refine⟨rfl,{x with mf:=b',fi:=x.na,ca:=none,cc:=0,cs:=[]},rfl,⟨⟨hok'.dk.room,hok'.dk.files,hok'.dk.nms,by simp,hok'.dk.names,hok'.dk.armed,hok'.dk.denied⟩,hok'.fl,rfl,hok'.keys,hok'.na,hok'.na⟩,?_⟩
 replace H:=H.nilS 125 1
 simp only[dkL,dkR,chVs,chsL,List.zipWith_nil_left,List.flatten_nil,append_nil,length_nil]
 have H3:Hp B w w5 ((.blk x.b [.int .i64 (q.room:Int),.slice x.fa q.files.length x.fc,.map (some x.mn),.map (some b'),.slice none 0 0,.int .i64 (q.armed:Int),.int .i64 (q.denied:Int),.bool q.dead] 71::
  .own 76 1 x.fa q.files.length x.fc (ptrs x.fs)::.smap x.mn x.na::.smap b' x.na::.own 125 1 none 0 0 []::Fj x.fs q.files)++([.smap x.mf x.fi,.own 125 1 x.ca q.chs.length x.cc (chVs x.cs q.chs)]++chsL x.cs q.chs)):=by
  have e4:∀(A F C:List Asn),(A++(F++C)).Perm (F++(A++C)):=fun A F C=>by
   rw[<- append_assoc,<- append_assoc]
   exact List.perm_append_comm.append_right _
  rw[cons_append,cons_append,cons_append,cons_append,cons_append]
  refine Hp.perm (L:=Asn.blk x.b _ 71::.own 76 1 x.fa q.files.length x.fc (ptrs x.fs)::.smap x.mn x.na::.smap b' x.na::.own 125 1 none 0 0 []::([.smap x.mf x.fi,.own 125 1 x.ca q.chs.length x.cc (chVs x.cs q.chs)]++(Fj x.fs q.files++chsL x.cs q.chs))) ?_ (List.Perm.cons _ (List.Perm.cons _ (List.Perm.cons _ (List.Perm.cons _ (List.Perm.cons _ (e4 _ _ _))))))
  ((try dsimp only[cons_append,nil_append]);(try dsimp only[cons_append,nil_append]at H);refine Hp.perm H ?_;(repeat(apply BH;(focus first|exact Bq|exact Bo|exact Bv|exact Bi|exact Bz|exact CG|exact CB|exact perm_p7|exact perm_p8|exact perm_p9)));exact List.Perm.refl _)
 exact H3.BQ
end Go.Proofs.YtdeebigmpffnbaaGreat
namespace Go.Vc
open Go
section
variable{K:Type}[DecidableEq K]{kt:KeyT K}
theorem SS{es:Array MapEntry}{j:Nat}{e:MapEntry}(hn:(es.toList.map (·.born)).Nodup)(hj:es[j]? =some e):es.findIdx? (fun x=>(x.born:Int)==(e.born:Int))=some j:=by
 rw[Array.findIdx?_eq_some_iff_getElem]
 obtain⟨hlt,he⟩:=Array.getElem?_eq_some_iff.1 hj
 refine⟨hlt,by simp[he],fun i hi=>?_⟩
 have hne:es[i].born≠e.born:=by
  intro h
  have h1:(es.toList.map (·.born))[i]'(by simp;omega)=(es.toList.map (·.born))[j]'(by simp;omega):=by simp[h,he]
  have h2:=List.pairwise_iff_getElem.1 hn i j (by simp;omega) (by simp;omega) hi
  exact h2 h1
 simp;omega
theorem Tv{P:Program}(k:IntKind)(i:Int)(w:World):(asInt (.int k i)).run P w=.ok i w:=rfl
theorem men_map{P:Program}{t kT eT:TypeId}{z:Value}(T:MapT P kt t kT eT z){w:World}{b:Nat}{al:List (K×Value)}(h:MapAt kt w b al)(k:K)(v:Value):
  ∃(u:Value)(i:Int)(w1 w2:World),MEn P t w (.map (some b)) (kt.enc k) (.tuple #[u,.int .i64 i]) w1/\ESt P t w1 (.map (some b)) (.int .i64 i) v w2/\MapAt kt w2 b (aput al k v)/\Chg [b] w w2:=by
 obtain⟨es,clock,h1,h2,h3,h4⟩:=h
 have hck:∀e,(Instr.checkKey e 10000 kT (kt.enc k)).run P w=.ok () w:=fun e=>kt.plain P kT e w T.key k
 have hlt:=(Array.getElem?_eq_some_iff.1 h1).1
 rcases Jv 0 k h2 with⟨g1,g2⟩|⟨j,u,e,g1,g2,g3,g4,g5,g6,-⟩
 ·obtain⟨es1,hes1⟩:∃es1,es1=es.push {key:=kt.enc k,val:=z,born:=clock}:=⟨_,rfl⟩
  have hb1:(setB w b (.map es1 (clock+1))).heap[b]? =some (.map es1 (clock+1)):=Dl hlt
  have hn1:(es1.toList.map (·.born)).Nodup:=by
   rw[hes1,Array.toList_push,map_append,nodup_append]
   refine⟨h3,by simp,?_⟩
   intro a ha c hc
   simp at hc;subst hc
   obtain⟨e,he,rfl⟩:=mem_map.1 ha
   exact Nat.ne_of_lt (h4 e he)
  have hat:es1[es.size]? =some {key:=kt.enc k,val:=z,born:=clock}:=by rw[hes1];simp
  have hfi:=SS hn1 hat
  have hmod:es1.modify es.size (fun e=> {e with val:=v})=es.push {key:=kt.enc k,val:=v,born:=clock}:=by
   apply Array.ext_getElem?
   intro i
   rw[Array.getElem?_modify,hes1,Array.getElem?_push,Array.getElem?_push]
   by_cases hi:i=es.size
   ·subst hi;simp
   ·rw[if_neg (fun h=>hi h.symm),if_neg hi,if_neg hi]
  refine⟨z,clock,setB w b (.map es1 (clock+1)),setB (setB w b (.map es1 (clock+1))) b (.map (es.push {key:=kt.enc k,val:=v,born:=clock}) (clock+1)),?_,?_,?_,?_⟩
  ·simp only[MEn,Instr.mapEntry,Sem.run_bind,Am T.und,Result.andThen_ok,run_getObj_map h1,hck,run_findKey T.key g2 (al:=al),He T.zero,run_setObj_map h1,Sem.run_pure,<- hes1]
   rfl
  ·simp only[ESt,Instr.entryStore,Sem.run_bind,Sem.run_pure,Result.andThen_ok,run_getObj_map hb1,Tv]
   rw[show es1.findIdx? (fun e=>(e.born:Int)==(clock:Int))=some es.size from hfi]
   simp only[run_setObj_map hb1,hmod]
  ·rw[Ip]
   refine⟨_,_,Dl hlt,?_,?_,?_⟩
   ·rw[Array.toList_push];exact Rz h2 g1 v clock
   ·rw[Array.toList_push,map_append,nodup_append]
    refine⟨h3,by simp,?_⟩
    intro a ha c hc
    simp at hc;subst hc
    obtain⟨e,he,rfl⟩:=mem_map.1 ha
    exact Nat.ne_of_lt (h4 e he)
   ·intro e he
    rw[Array.toList_push]at he
    rcases mem_append.1 he with he|he
    ·exact Nat.lt_succ_of_lt (h4 e he)
    ·simp at he;subst he;exact Nat.lt_succ_self _
  ·rw[Ip];exact DI _ _ _
 ·have hj:es[j]? =some e:=by simpa using g3
  rw[Nat.zero_add]at g2
  obtain⟨es1,hes1⟩:∃es1,es1=es.modify j fun e=> {e with key:=kt.enc k}:=⟨_,rfl⟩
  have hb1:(setB w b (.map es1 clock)).heap[b]? =some (.map es1 clock):=Dl hlt
  have hborn:es1.toList.map (·.born)=es.toList.map (·.born):=by
   rw[hes1,Array.toList_modify]
   apply ext_getElem?
   intro i
   simp only[List.getElem?_map,List.getElem?_modify]
   cases es.toList[i]? with
   |none=>rfl
   |some e=>simp only[Option.map_some,Functor.map];split<;>rfl
  have hn1:(es1.toList.map (·.born)).Nodup:=by rw[hborn];exact h3
  have hat:es1[j]? =some {e with key:=kt.enc k}:=by rw[hes1,Array.getElem?_modify,if_pos rfl,hj];rfl
  have hfi:=SS hn1 hat
  have hmod:es1.modify j (fun e=> {e with val:=v})=es.modify j fun e=> {e with key:=kt.enc k,val:=v}:=by
   apply Array.ext_getElem?
   intro i
   rw[Array.getElem?_modify,hes1,Array.getElem?_modify,Array.getElem?_modify]
   split
   ·cases es[i]? <;>rfl
   ·rfl
  have hstay:(Instr.keyThatStays (kt.enc k) (kt.enc k)).run P w=.ok (kt.enc k) w:=by
   simp[Instr.keyThatStays,kt.bits]
  refine⟨u,e.born,setB w b (.map es1 clock),setB (setB w b (.map es1 clock)) b (.map (es.modify j fun e=> {e with key:=kt.enc k,val:=v}) clock),?_,?_,?_,?_⟩
  ·simp only[MEn,Instr.mapEntry,Sem.run_bind,Am T.und,Result.andThen_ok,run_getObj_map h1,hck,run_findKey T.key g2 (al:=al),hj,Option.map_some,Option.getD_some,g4,hstay,run_setObj_map h1,Sem.run_pure,<- hes1]
   rfl
  ·simp only[ESt,Instr.entryStore,Sem.run_bind,Sem.run_pure,Result.andThen_ok,run_getObj_map hb1,Tv]
   rw[show es1.findIdx? (fun x=>(x.born:Int)==(e.born:Int))=some j from hfi]
   simp only[run_setObj_map hb1,hmod]
  ·rw[Ip]
   refine⟨_,_,Dl hlt,?_,?_,?_⟩
   ·rw[Array.toList_modify];exact g6 v
   ·rw[Array.toList_modify,FH];exact h3
   ·intro e' he'
    have:e'.born∈(es.modify j fun e=> {e with key:=kt.enc k,val:=v}).toList.map (·.born):=mem_map.2 ⟨e',he',rfl⟩
    rw[Array.toList_modify,FH]at this
    obtain⟨e2,he2,e3⟩:=mem_map.1 this
    rw[<- e3];exact h4 e2 he2
  ·rw[Ip];exact DI _ _ _
theorem clr_map{P:Program}{t kT eT:TypeId}{z:Value}(T:MapT P kt t kT eT z){ts:Array TypeId}(hts:ts[0]? =some t){ty:TypeId}{w:World}{b:Nat}{al:List (K×Value)}(h:MapAt kt w b al):
  ∃w1,Clr P ts ty w (.map (some b)) w1/\MapAt kt w1 b []/\Chg [b] w w1:=by
 obtain⟨es,clock,h1,h2,h3,h4⟩:=h
 have hlt:=(Array.getElem?_eq_some_iff.1 h1).1
 refine⟨setB w b (.map #[] clock),?_,⟨#[],clock,Dl hlt,rfl,by simp,by simp⟩,DI _ _ _⟩
 simp only[Clr,Builtin.clear_,hts,List.getElem?_toArray,List.getElem?_cons_zero,Sem.run_bind,Am T.und,Result.andThen_ok,run_getObj_map h1,run_setObj_map h1,Sem.run_pure]
end
section
variable{P:Program}{B:List Nat}{w0 w w':World}{L:List Asn}{t kT eT:TypeId}{z v:Value}{b:Nat}
theorem Hp.menI{k:IntKind}{al:List (Int×Value)}(T:MapT P (ET k) t kT eT z)(H:Hp B w0 w (.imap b k al::L))(e:Eqw w w'){x:Int}{G:World->Prop}
  (kk:∀w1,Hp B w0 w1 (.imap b k (aput al x v)::L)->G w1):∃(u:Value)(i:Int)(w1:World),MEn P t w' (.map (some b)) (.int k x) (.tuple #[u,.int .i64 i]) w1/\∃w2,ESt P t w1 (.map (some b)) (.int .i64 i) v w2/\G w2:=by
 obtain⟨u,i,w1,w2,h1,h2,h3,h4⟩:=men_map T ((H.go e).ok _ (.head _)) x v
 exact⟨u,i,w1,h1,w2,h2,kk w2 ((H.go e).set h4 h3 fun k hk=>.inl hk)⟩
theorem Hp.clrI{k:IntKind}{al:List (Int×Value)}(T:MapT P (ET k) t kT eT z){ts:Array TypeId}(hts:ts[0]? =some t){ty:TypeId}(H:Hp B w0 w (.imap b k al::L))(e:Eqw w w'){G:World->Prop}
  (kk:∀w1,Hp B w0 w1 (.imap b k []::L)->G w1):∃w1,Clr P ts ty w' (.map (some b)) w1/\G w1:=by
 obtain⟨w1,h1,h2,h3⟩:=clr_map (ty:=ty) T hts ((H.go e).ok _ (.head _))
 exact⟨w1,h1,kk w1 ((H.go e).set h3 h2 fun k hk=>.inl hk)⟩
theorem Hp.dE{cs:List Value}{T:TypeId}(H:Hp B w0 w (.blk b cs T::L))(sz n:Nat)(hl:cs.length=n*sz)(hn:n<=maxLen):Hp B w0 w (.own T sz (some ⟨b,0,none⟩) n n cs::L):=
 H.set (Chg.refl _ _) ⟨hl,.inr ⟨b,cs.toArray,(0,0),rfl,Nat.zero_le _,H.blk (.head _),Thaw.zero _,Nat.le_refl _,hn,by simpa using Nat.le_of_eq hl.symm,by simp[<- hl]⟩⟩ (fun k hk=>.inl hk)
end
theorem W9{P:Program}{t e:TypeId}{a:Option Addr}{n c n' c':Nat}{x y:Operand}{w:World}(h:P.underlying t=some (.slice e)):Eqv P .eql t x y w (.slice a n c) (.slice none n' c') a.isNone:=by
 have:=Go.Lib.run_eql_slice_nil (P:=P) w t e a n c n' c' h
 simp only[Eqv,Sem.run_bind,eqGuard]
 simp[this]
theorem We(vs cs:List Value)(h:vs.length=cs.length):over vs 0 cs=vs:=by
 apply ext_getElem?
 intro k
 rw[Gs vs 0 cs (by omega)]
 by_cases hk:k<vs.length
 ·rw[if_pos (by omega)];simp
 ·rw[if_neg (by omega),List.getElem?_eq_none (by omega),List.getElem?_eq_none (by omega)]
end Go.Vc
namespace Go.Proofs.YtdeebigmpffnbaaGreat
open Go Go.Vc Go.Vault
theorem Qc(room:Int)(w:World):Calls Tryz.prog 7 #[.int .i64 room] w fun e w'=>∃x:DW,e=.returned (.pointer (some ⟨x.b,0,none⟩))/\x.Ok (Dk.new room)/\Hp [] w w' (dkL x (Dk.new room)):=by
 apply new.ok;unfold new.vc
 have H:=Hp.start w
 intro b w1 hn;replace H:=H.newS EQ4 hn;clear hn
 intro b1 w2 hn;replace H:=H.newS EQ4 hn;clear hn
 intro b2 w3 hn;replace H:=H.new EQ4 hn;clear hn
 have e1:min (max room 0) 65536=((Dk.new room).room:Int):=by simp only[Dk.new];omega
 rw[e1]at H
 refine⟨⟨b2,none,0,[],b,[],b1,[],none,0,[]⟩,rfl,⟨⟨by simp only[Dk.new];omega,by simp[Dk.new],by simp[Dk.new],by simp[Dk.new],by simp[Dk.new,bi],by simp[Dk.new],by simp[Dk.new]⟩,rfl,rfl,by simp,by simp[Dk.new,nvl,Dk.names,ons],by simp[Dk.new,nvl]⟩,?_⟩
 replace H:=(H.nilS 76 1).nilS 125 1
 rw[Ef]
 simp only[dkR,Fj,chsL,ptrs,chVs,List.zipWith_nil_left,List.flatten_nil,append_nil,map_nil]
 simp only[Dk.new]at H⊢
 ((try dsimp only[cons_append,nil_append]);(try dsimp only[cons_append,nil_append]at H);refine Hp.perm H ?_;(repeat(apply BH;(focus first|exact Bq|exact Bo|exact Bv|exact Bi|exact Bz|exact CG|exact CB|exact perm_p7|exact perm_p8|exact perm_p9)));exact List.Perm.refl _)
theorem Il{l:List (List UInt8)}(h:∀s∈l,s.length=512):(secs l).length=l.length*512:=by
 induction l with
 |nil=>rfl
 |cons s r ih=>
  have h1:=h s (.head _)
  have h2:=ih fun s hs=>h s (.tail _ hs)
  simp only[secs,flatten_cons,AQ,length_append,length_cons]at h2⊢
  omega
theorem IW(s:List UInt8)(r:List (List UInt8)):secs (s::r)=bQ s++secs r:=by simp[secs,BZ]
theorem FD(a b:List (List UInt8)):secs (a++b)=secs a++secs b:=by simp[secs,BZ]
theorem X8(s:List UInt8):secs [s]=bQ s:=by simp[secs]
theorem OH(l:List (List UInt8)):(secs l).all (·.oneCell')=true:=by
 simp only[secs,bQ,all_map,all_eq_true]
 intro b hb;rfl
theorem ZN{l:List (List UInt8)}(h:∀s∈l,s.length=512):∀{k:Nat}{s:List UInt8},l[k]? =some s->((secs l).drop (k*512)).take 512=bQ s:=by
 induction l with
 |nil=>intro k s hk;simp at hk
 |cons s0 r ih=>
  intro k s hk
  have h1:=h s0 (.head _)
  rw[IW]
  cases k with
  |zero=>
   simp at hk;subst hk
   rw[Nat.zero_mul,drop_zero,List.take_left' (by rw[AQ,h1])]
  |succ k=>
   rw[List.getElem?_cons_succ]at hk
   have e1:(k+1)*512=(bQ s0).length+k*512:=by rw[AQ,h1];omega
   rw[e1,List.drop_append,drop_eq_nil_of_le (by omega),nil_append,Nat.add_sub_cancel_left]
   exact ih (fun s hs=>h s (.tail _ hs)) hk
theorem XD{l:List (List UInt8)}(h:∀s∈l,s.length=512):∀{k:Nat}{s:List UInt8},s.length=512->k<l.length->over (bQ s) (k*512) (secs l)=secs (l.set k s):=by
 intro k s hs hk
 have e1:l=l.take k++(l[k]::l.drop (k+1)):=by rw[List.getElem_cons_drop,take_append_drop]
 have e2:l.set k s=l.take k++(s::l.drop (k+1)):=by rw[List.set_eq_take_append_cons_drop,if_pos hk]
 have h1:(secs (l.take k)).length=k*512:=by
  rw[Il fun s hs=>h s (List.mem_of_mem_take hs),length_take]
  congr 1;omega
 rw[e2]
 conv=>lhs;rw[e1]
 rw[FD,FD,IW,IW,<- h1]
 exact J3 _ _ _ _ (by rw[AQ,AQ,hs,h _ (getElem_mem hk)])
theorem Zw:zl Tryz.prog 85=bQ zsec:=by kernel_rfl
theorem buildNil:JH Tryz.prog 78 0 [] 85 []:=by
 unfold JH;kernel_rfl
theorem Jr(a:Option Addr)(n c:Nat)(xs:List Value)(w:World)(h:(Asn.own 85 512 a n c xs).ok w)(h1:xs.all (·.oneCell')=true)(hn:n<=1073741824):
  Calls Tryz.prog 103 #[.slice a n c] w fun e w'=>∃a' c',e=.returned (.slice a' n c')/\Hp [] w w' [.own 85 512 a' n c' xs]:=by
 have hO:Own w 0 85 512 a n c xs:=h
 apply cloneS.ok;unfold cloneS.vc
 refine⟨_,W9 Y2,?_⟩
 refine CE (fun hnone=>?_) (fun hs=>?_)
 ·have ha:a=none:=by simpa using hnone
  subst ha
  rcases hO.2 with⟨_,rfl,rfl⟩|⟨g,_,_,hg,_⟩
  ·have hx:xs=[]:=List.eq_nil_of_length_eq_zero (by simpa using hO.1)
   subst hx
   exact⟨none,0,rfl,(Hp.start w).nilS _ _⟩
  ·cases hg
 ·have K:=Hp.start w
  refine⟨_,_,buildNil,?_⟩
  intro b w1 hw
  have hc:=hw.chg
  replace K:=K.new EQ4 hw
  replace K:=K.dE 512 0 rfl (by simp)
  have hO1:Own w1 0 85 512 a n c xs:=hO.chg hc (by simp)
  refine Hp.app QY (by omega) K EQ4 (Cells.src Y2 hO1.cells hO.1 (fun u hu=>all_eq_true.1 h1 u hu) (by rintro rfl;simp at hs)) (by simp only[maxLen];omega) (by omega) ?_
  intro a' c' w2 K
  simp only[nil_append,Nat.zero_add]at K⊢
  exact⟨_,_,rfl,K⟩
def dkB(x:DW)(d:Dk)(k:Nat):List Asn:=
 .blk x.b [.int .i64 (d.room:Int),.slice x.fa d.files.length x.fc,.map (some x.mn),.map (some x.mf),.slice x.ca d.chs.length x.cc,.int .i64 (d.armed:Int),.int .i64 (d.denied:Int),.bool d.dead] 71::
 .own 76 1 x.fa d.files.length x.fc (ptrs x.fs)::.smap x.mn x.na::.smap x.mf x.fi::.own 125 1 x.ca d.chs.length x.cc (chVs x.cs d.chs)::(Fj (x.fs.eraseIdx k) (d.files.eraseIdx k)++chsL x.cs d.chs)
theorem perm_swap3(A L X:List Asn):(A++(L++X)).Perm (L++(A++X)):=by
 rw[<- append_assoc,<- append_assoc]
 exact List.perm_append_comm.append_right _
theorem Ya{a b c d e:Asn}{F F' C:List Asn}{L:List Asn}(h:F.Perm (L++F')):(a::b::c::d::e::(F++C)).Perm (L++(a::b::c::d::e::(F'++C))):=by
 have h1:(a::b::c::d::e::(F++C)).Perm ([a,b,c,d,e]++(L++(F'++C))):=by
  rw[<- append_assoc L]
  exact(h.append_right C).append_left [a,b,c,d,e]
 refine h1.trans ?_
 exact perm_swap3 [a,b,c,d,e] L (F'++C)
theorem KY{x:DW}{d:Dk}{k:Nat}{f:FW}{g:Fl}(h1:x.fs[k]? =some f)(h2:d.files[k]? =some g):(dkL x d).Perm (flL f g++dkB x d k):=Ya (JQ h1 h2)
def putX(x:DW)(k:Nat)(f:FW):DW:= {x with fs:=x.fs.set k f}
theorem ptrs_set{xs:List FW}{k:Nat}{f f':FW}(h:xs[k]? =some f)(hb:f'.b=f.b):ptrs (xs.set k f')=ptrs xs:=by
 apply ext_getElem?
 intro i
 simp only[ptrs,List.getElem?_map,List.getElem?_set]
 split
 ·rename_i e
  subst e
  split
  ·rw[h,Option.map_some,Option.map_some,hb]
  ·rename_i h2
   rw[List.getElem?_eq_none (by omega)]at h;cases h
 ·rfl
theorem VK{x:DW}{d:Dk}{k:Nat}{f f':FW}{g g':Fl}(h1:x.fs[k]? =some f)(h2:d.files[k]? =some g)(hb:f'.b=f.b):(dkL (putX x k f') (d.put k g')).Perm (flL f' g'++dkB x d k):=by
 have hk1:=(List.getElem?_eq_some_iff.1 h1).1
 have hk2:=(List.getElem?_eq_some_iff.1 h2).1
 have:=Ya (a:=.blk x.b [.int .i64 (d.room:Int),.slice x.fa d.files.length x.fc,.map (some x.mn),.map (some x.mf),.slice x.ca d.chs.length x.cc,.int .i64 (d.armed:Int),.int .i64 (d.denied:Int),.bool d.dead] 71)
  (b:=.own 76 1 x.fa d.files.length x.fc (ptrs x.fs)) (c:=.smap x.mn x.na) (d:=.smap x.mf x.fi) (e:=.own 125 1 x.ca d.chs.length x.cc (chVs x.cs d.chs)) (C:=chsL x.cs d.chs) (filesL_set f' g' hk1 hk2)
 rw[Ef]
 simp only[putX,Dk.put,length_set,ptrs_set h1 hb,dkR]
 exact this
theorem DW.Ok.put{x:DW}{d:Dk}(h:x.Ok d){k:Nat}{f':FW}{g':Fl}(hg:g'.Ok)(hk:(f'.al.map (·.1)).Perm (g'.since.map fun n:Nat=>(n:Int))):(putX x k f').Ok (d.put k g'):=by
 refine⟨⟨h.dk.room,fun e he=>?_,fun p hp=>?_,fun c hc=>?_,h.dk.rise,h.dk.armed,h.dk.denied⟩,by simp[putX,Dk.put,h.fl],h.cl,?_,h.na,h.fi⟩
 ·rcases mem_or_eq_of_mem_set he with he|rfl
  ·exact h.dk.files e he
  ·exact hg
 ·have:=h.dk.firm p hp
  simpa [Dk.put]using this
 ·have:=h.dk.chs c hc
  simpa [Dk.put]using this
 ·intro i f2 g2 h1 h2
  simp only[putX,Dk.put,List.getElem?_set]at h1 h2
  split at h1
  ·rename_i e
   subst e
   rw[if_pos rfl]at h2
   split at h1
   ·split at h2
    ·cases h1;cases h2;exact hk
    ·cases h2
   ·cases h1
  ·rename_i e
   rw[if_neg e]at h2
   exact h.keys i f2 g2 h1 h2
theorem V9{x:DW}{d:Dk}(h:x.Ok d){k:Nat}{g:Fl}(h2:d.files[k]? =some g):g.Ok:=h.dk.files g (mem_of_getElem? h2)
theorem O6(x:DW)(d:Dk)(hok:x.Ok d)(n:ByteArray)(i:Int)(w:World)(st:Std w (dkL x d)):
  Calls Tryz.prog 107 #[.pointer (some ⟨x.b,0,none⟩),.string n,.int .i64 i] w fun e w'=>∃a c,e=.returned (.tuple #[.slice a (d.read n i).1.length c,.int .i64 (d.read n i).2])/\Hp [] w w' [.own 85 1 a (d.read n i).1.length c (bQ (d.read n i).1)]:=by
 apply read.ok;unfold read.vc
 refine AL (Kv x d hok n w st) ?_
 rintro e w1 ⟨rfl,K⟩
 have H:=(Hp.Ap st).ext K
 rw[nil_append]at H
 have hnil:∀c:Int,d.read n i=([],c)->∃a c',Ending.returned (.tuple #[.slice none 0 0,.int .i64 c])=.returned (.tuple #[.slice a (d.read n i).1.length c',.int .i64 (d.read n i).2])/\Hp [] w w1 [.own 85 1 a (d.read n i).1.length c' (bQ (d.read n i).1)]:=by
  intro c h
  rw[h]
  exact⟨none,0,rfl,K.nilS _ _⟩
 refine⟨_,rfl,?_⟩
 simp only[dkL]at H
 refine AA rfl ?_
 ((repeat apply Exists.intro);first|refine⟨H.ld EQ4 (by first|exact Ah|exact Af|exact Ai|exact Aj|exact BA|exact BB|exact A8|exact Ar|exact BC|exact sclC) (by repeat first|exact .head _|refine .tail _ ?_) rfl,?_⟩)
 refine CE (fun h=>hnil _ (by simp[Dk.read,h])) (fun h=>?_)
 cases hk:d.find n with
 |none=>
  refine⟨_,Cb P5,?_⟩
  refine CE (fun _=>hnil _ (by simp[Dk.read,h,hk])) (fun h=>by cases h)
 |some k=>
  obtain⟨f,g,h1,h2,h3⟩:=hok.at (hok.dk.find hk)
  have hg:=V9 hok h2
  rw[MS h1]
  refine⟨_,Cb P5,?_⟩
  refine CE (fun h=>by cases h) (fun _=>?_)
  have hlen:d.len k=g.now.length:=by rw[Dk.len,h3]
  refine AO (fun h4=>hnil _ (by simp[Dk.read,h,hk,h4])) (fun h4=>?_)
  replace H:=((Hp.Ap st).ext K).perm (KY h1 h2)
  simp only[flL,cons_append,nil_append]at H
  refine AA rfl ?_
  ((repeat apply Exists.intro);first|refine⟨H.ld EQ4 (by first|exact Ah|exact Af|exact Ai|exact Aj|exact BA|exact BB|exact A8|exact Ar|exact BC|exact sclC) (by repeat first|exact .head _|refine .tail _ ?_) rfl,?_⟩)
  refine AO (fun h5=>hnil _ (by simp[Dk.read,h,hk,hlen,h5])) (fun h5=>?_)
  have hrd:d.read n i=(g.now.getD i.toNat [],0):=by
   have:¬(i<0\/(d.len k:Int)<=i):=by rw[hlen];omega
   simp only[Dk.read,h,hk,h3,Bool.false_eq_true,if_false,if_neg this]
  refine AA rfl ?_
  ((repeat apply Exists.intro);first|refine⟨H.ld EQ4 (by first|exact Ah|exact Af|exact Ai|exact Aj|exact BA|exact BB|exact A8|exact Ar|exact BC|exact sclC) (by repeat first|exact .head _|refine .tail _ ?_) rfl,?_⟩)
  have hi:i.toNat<g.now.length:=by omega
  have hgd:g.now.getD i.toNat []=g.now[i.toNat]:=by simp[hi]
  have hs:=hg.now _ (getElem_mem hi)
  obtain⟨ad,ha,hl⟩:=H.ldOA (P:=Tryz.prog) (w':=w1) (o:=i.toNat*512) EQ4 Lm (by omega) (.tail _ (.head _)) (ZN hg.now (List.getElem?_eq_getElem hi)) (by rw[AQ,hs])
  refine AA ha ⟨⟨by omega,by omega⟩,_,hl,?_⟩
  rw[Zw]
  intro b w2 hn;replace K:=K.new EQ4 hn;clear hn
  refine Hp.stA K EQ4 Lm (by rw[AQ,hs]) (by simp[bQ];intros;rfl) (by simp[bQ,zsec]) (We _ _ (by rw[AQ,hs];simp[bQ,zsec])) ?_
  clear K
  intro w3 K
  rw[hrd,hgd]
  refine⟨some ⟨b,0,none⟩,512,by rw[hs],?_⟩
  have:=K.dE 1 512 (by rw[AQ,hs]) (by simp[maxLen])
  rw[hs]
  exact this
theorem O0(x:DW)(d:Dk)(hok:x.Ok d){N:Nat}(few:d.Few N)(hN:N<=1073741824)(n:ByteArray)(w:World)(st:Std w (dkL x d)):
  Calls Tryz.prog 94 #[.pointer (some ⟨x.b,0,none⟩),.string n] w (IR x d w (.int .i64 (d.sync n).2) (d.sync n).1):=by
 apply sync.ok;unfold sync.vc IR
 refine AL (Kv x d hok n w st) ?_
 rintro e w1 ⟨rfl,K⟩
 have H:=(Hp.Ap st).ext0 K
 clear K
 generalize hB:feet (dkL x d)=B at H⊢
 have hdk:=Ef x d
 refine⟨_,rfl,?_⟩
 rw[hdk]at H
 refine AA rfl ?_
 ((repeat apply Exists.intro);first|refine⟨H.ld EQ4 (by first|exact Ah|exact Af|exact Ai|exact Aj|exact BA|exact BB|exact A8|exact Ar|exact BC|exact sclC) (by repeat first|exact .head _|refine .tail _ ?_) rfl,?_⟩)
 rw[<- hdk]at H
 refine CE (fun h=>?_) (fun h=>?_)
 ·have e1:d.sync n=(d,93):=by simp[Dk.sync,h]
  rw[e1]
  exact⟨rfl,x,rfl,hok,H⟩
 cases hk:d.find n with
 |none=>
  refine⟨_,Cb P5,?_⟩
  refine CE (fun _=>?_) (fun h=>by cases h)
  have e1:d.sync n=(d,90):=by simp[Dk.sync,h,hk]
  rw[e1]
  exact⟨rfl,x,rfl,hok,H⟩
 |some k=>
  obtain⟨f,g,h1,h2,h3⟩:=hok.at (hok.dk.find hk)
  have hg:=V9 hok h2
  rw[MS h1]
  refine⟨_,Cb P5,?_⟩
  refine CE (fun h=>by cases h) (fun _=>?_)
  refine AL (KA x d hok.dk.denied w1 H.std) ?_
  rintro e w2 ⟨rfl,H'⟩;replace H:=H.Dq H';clear H'
  refine⟨_,rfl,?_⟩
  refine CE (fun h4=>?_) (fun h4=>?_)
  ·have e1:d.sync n=(d.denies,95):=by simp[Dk.sync,h,hk,h4]
   rw[e1]
   exact⟨rfl,x,rfl,hok.denies,H⟩
  refine AL (OG x d.denies hok.denies.dk.armed w2 H.std) ?_
  rintro e w3 ⟨rfl,H'⟩;replace H:=H.Dq H';clear H'
  refine⟨_,rfl,?_⟩
  refine CE (fun h5=>?_) (fun h5=>?_)
  ·have e1:d.sync n=(d.denies.dies,93):=by simp[Dk.sync,h,hk,h4,h5]
   rw[e1]
   exact⟨rfl,x,rfl,hok.denies.dies,H⟩
  have e1:d.sync n=(d.denies.dies.put k g.sync,0):=by simp[Dk.sync,h,hk,h4,h5,h3]
  rw[e1]
  have hq2:d.denies.dies.files[k]? =some g:=by
   obtain⟨a,b,e⟩:=QD d.denies
   rw[e];exact h2
  have hok':=hok.denies.dies
  generalize d.denies.dies=q at H hq2 hok'⊢
  replace H:=H.perm (KY h1 hq2)
  simp only[flL,cons_append,nil_append]at H
  refine AA rfl ?_
  ((repeat apply Exists.intro);first|refine⟨H.ld EQ4 (by first|exact Ah|exact Af|exact Ai|exact Aj|exact BA|exact BB|exact A8|exact Ar|exact BC|exact sclC) (by repeat first|exact .head _|refine .tail _ ?_) rfl,?_⟩)
  have hnow:g.now.length<=N:=few.now g (mem_of_getElem? h2)
  refine AL (Jr f.an g.now.length f.cn (secs g.now) w3 (H.ok _ (.tail _ (.head _))) (OH _) (by omega)) ?_
  rintro e w4 ⟨a',c',rfl,H'⟩;replace H:=H.ext H';clear H'
  simp only[cons_append,nil_append]at H
  refine⟨_,_,_,rfl,?_⟩
  refine AA rfl ?_
  ((first|(apply Hp.st;(case H=>first|exact H|exact H.Aq|exact H.BF|exact H.BM|exact H.Bc|exact H.Bh|exact H.Bj|exact H.pull7);(case e=>exact⟨rfl,rfl,rfl,rfl⟩);(case S=>exact(by first|exact Ah|exact Af|exact Ai|exact Aj|exact BA|exact BB|exact A8|exact Ar|exact BC|exact sclC));(case hv=>exact rfl);(case h1=>exact rfl);(case ho=>exact Nat.le_of_ble_eq_true rfl);(case hc=>exact rfl)));clear H;intro _ H;(try simp only[over,set_cons_zero,set_cons_succ]at H))
  rename_i w5
  refine AA rfl ?_
  ((repeat apply Exists.intro);first|refine⟨H.ld EQ4 (by first|exact Ah|exact Af|exact Ai|exact Aj|exact BA|exact BB|exact A8|exact Ar|exact BC|exact sclC) (by repeat first|exact .head _|refine .tail _ ?_) rfl,?_⟩)
  refine Hp.clrI aU rfl H.Bc EQ4 ?_
  clear H;intro w6 H
  refine⟨rfl,putX x k {f with af:=a',cf:=c',al:=[]},rfl,hok'.put ⟨hg.now,hg.now,by simp[Fl.sync],by simp[Fl.sync],Nat.le_refl _⟩ (.refl _),?_⟩
  have hp:=VK (f':= {f with af:=a',cf:=c',al:=[]}) (g':=g.sync) h1 hq2 rfl
  refine Hp.perm (L:=flL {f with af:=a',cf:=c',al:=[]} g.sync++dkB x q k) ?_ hp.symm
  simp only[flL,Fl.sync,cons_append,nil_append]
  have H2:Hp B w w6 (.own 85 512 f.af g.firm.length f.cf (secs g.firm)::.blk f.b [.slice f.an g.now.length f.cn,.slice a' g.now.length c',.map (some f.bm)] 80::.own 85 512 f.an g.now.length f.cn (secs g.now)::.own 85 512 a' g.now.length c' (secs g.now)::.imap f.bm .i64 []::dkB x q k):=by
   ((try dsimp only[cons_append,nil_append]);(try dsimp only[cons_append,nil_append]at H);refine Hp.perm H ?_;(repeat(apply BH;(focus first|exact Bq|exact Bo|exact Bv|exact Bi|exact Bz|exact CG|exact CB|exact perm_p7|exact perm_p8|exact perm_p9)));exact List.Perm.refl _)
  exact H2.drop
theorem WW{P:Program}{t e:TypeId}{sz by_:Nat}(T:Elt P t e sz by_)(h0:0<sz)(hs:sz<=16777216){cs:List Value}(hl:cs.length=sz):JH P t 1 [(0,.agg cs.toArray)] e cs:=by
 obtain⟨hu,i,z,hi,hz,rfl,rfl,hzs⟩:=T
 have h1:¬(z.cells.size≠i.size\/i.size=0\/1*i.size>16777216):=by omega
 simp only[JH,MX,hu,hi,hz,Bool.or_eq_true,decide_eq_true_eq,bne_iff_ne]
 rw[if_neg (by simp[hzs];omega)]
 have e0:(Value.agg cs.toArray).cells=cs.toArray:=rfl
 simp only[PP,repL,e0,append_nil,Nat.zero_mul,Array.length_toList]
 rw[if_neg (by simp[hl,hzs])]
 simp only
 rw[We _ _ (by simp[hl,hzs])]
theorem Jq:Tryz.prog.underlying 29=some (.slice 5):=by kernel_rfl
theorem Tt:Scl Tryz.prog 5:=BP (by kernel_rfl)
theorem Wq{b:List UInt8}(h:b.length<=512):over (bQ b) 0 (bQ zsec)=bQ (pad b):=by
 have e1:bQ zsec=[]++(bQ (List.replicate b.length 0)++bQ (List.replicate (512-b.length) 0)):=by
  rw[nil_append,<- BZ,List.replicate_append_replicate,zsec]
  congr 2;omega
 rw[e1]
 have:=J3 (bQ b) [] (bQ (List.replicate b.length 0)) (bQ (List.replicate (512-b.length) 0)) (by simp[bQ])
 rw[length_nil]at this
 rw[this,nil_append,<- BZ];rfl
theorem Gf{b:List UInt8}(h:b.length<=512):(pad b).length=512:=by simp only[pad,length_append,length_replicate];omega
theorem Tf:∀(n:Nat)(l:List Nat),l.Pairwise (· < ·)->(addN n l).Perm (n::l.filter fun x=> !decide (x=n))
 |n,[],_=>.refl _
 |n,x::r,h=>by
  have hp:=pairwise_cons.1 h
  have hgt:∀y∈r,x<y:=hp.1
  simp only[addN]
  split
  ·rename_i h1
   rw[filter_eq_self.2]
   intro y hy
   have:n<y:=by
    rcases mem_cons.1 hy with rfl|hy
    ·exact h1
    ·have:=hgt y hy;omega
   have h2:y≠n:=by omega
   simp[h2]
  ·split
   ·rename_i h2
    subst h2
    rw[filter_cons]
    simp only[decide_true,Bool.not_true,Bool.false_eq_true,if_false]
    rw[filter_eq_self.2]
    intro y hy
    have:=hgt y hy
    have h2:y≠n:=by omega
    simp[h2]
   ·rename_i h1 h2
    rw[filter_cons]
    have h3:x≠n:=fun e=>h2 e.symm
    simp only[h3,decide_false,Bool.not_false,if_true]
    exact((Tf n r hp.2).cons x).trans (.swap _ _ _)
theorem GG{n m:Nat}:∀{l:List Nat},m∈addN n l↔m=n\/m∈l
 | []=>by simp[addN]
 |x::r=>by
  simp only[addN]
  split
  ·simp
  ·split
   ·rename_i h;subst h;simp
   ·simp only[mem_cons,GG (l:=r)]
    constructor
    ·rintro(h|h|h)<;>simp[h]
    ·rintro(h|h|h)<;>simp[h]
theorem PD(n:Nat):∀(l:List Nat),l.Pairwise (· < ·)->(addN n l).Pairwise (· < ·)
 | [],_=>by simp[addN]
 |x::r,h=>by
  have hp:=pairwise_cons.1 h
  simp only[addN]
  split
  ·rename_i h1
   refine pairwise_cons.2 ⟨fun y hy=>?_,h⟩
   rcases mem_cons.1 hy with rfl|hy
   ·exact h1
   ·have:=hp.1 y hy;omega
  ·split
   ·exact h
   ·rename_i h1 h2
    refine pairwise_cons.2 ⟨fun y hy=>?_,PD n r hp.2⟩
    rcases GG.1 hy with rfl|hy
    ·omega
    ·exact hp.1 y hy
theorem _root_.Go.Vault.Fl.Ok.write{f:Fl}(h:f.Ok){n:Nat}(hn:n<=f.now.length){b:List UInt8}(hb:b.length<=512):(f.write n b).Ok:=by
 have hl:(f.write n b).now.length=if n=f.now.length then f.now.length+1 else f.now.length:=by
  simp only[Fl.write];split<;>simp
 refine⟨?_,h.firm,PD n _ h.since,?_,?_⟩
 ·intro s hs
  simp only[Fl.write]at hs
  split at hs
  ·rcases mem_append.1 hs with hs|hs
   ·exact h.now s hs
   ·rw[mem_singleton.1 hs];exact Gf hb
  ·rcases mem_or_eq_of_mem_set hs with hs|rfl
   ·exact h.now s hs
   ·exact Gf hb
 ·intro m hm
  rw[hl]
  rcases GG.1 hm with rfl|hm
  ·split<;>omega
  ·have:=h.below m hm
   split<;>omega
 ·have:=h.len
  show f.firm.length<=_
  rw[hl];split<;>omega
theorem XX{al:List (Int×Value)}{l:List Nat}(hs:l.Pairwise (· < ·))(hp:(al.map (·.1)).Perm (l.map fun n:Nat=>(n:Int)))(n:Nat):((aput al (n:Int) (.bool true)).map (·.1)).Perm ((addN n l).map fun n:Nat=>(n:Int)):=by
 have hnd:bu al:=by
  rw[bu,hp.nodup_iff]
  exact pairwise_map.2 (hs.imp fun h e=>by omega)
 refine((Oz hnd _ _).map _).trans ?_
 refine List.Perm.trans ?_ ((Tf n l hs).map _).symm
 simp only[map_cons]
 refine List.Perm.cons _ ?_
 have e1:(acut al (n:Int)).map (·.1)=(al.map (·.1)).filter fun x=> !decide (x=(n:Int)):=by
  simp only[acut,List.filter_map];rfl
 have e2:(l.filter fun x=> !decide (x=n)).map (fun n:Nat=>(n:Int))=(l.map fun n:Nat=>(n:Int)).filter fun x=> !decide (x=(n:Int)):=by
  rw[List.filter_map]
  congr 1
  apply List.filter_congr
  intro x _
  simp[Function.comp_def]
  exact⟨fun h=>by omega,fun h=>by omega⟩
 rw[e1,e2]
 exact hp.filter _
theorem JE(x:DW)(d:Dk)(hok:x.Ok d){N:Nat}(few:d.Few N)(hN:N<=1073741824)(hu:(d.used:Int)<=9223372036854775807)(n:ByteArray)(i:Int)(ba:Option Addr)(bc:Nat)(b:List UInt8)(w:World)(st:Std w (dkL x d))
  (hc:∀W,Chg (feet (dkL x d)) w W->Cells W ba (bQ b)) (h0:ba=none->b.length=0):
  Calls Tryz.prog 10 #[.pointer (some ⟨x.b,0,none⟩),.string n,.int .i64 i,.slice ba b.length bc] w (IR x d w (.int .i64 (d.write n i b).2) (d.write n i b).1):=by
 apply write.ok;unfold write.vc IR
 refine AL (Kv x d hok n w st) ?_
 rintro e w1 ⟨rfl,K⟩
 have H:=(Hp.Ap st).ext0 K
 clear K
 generalize hB:feet (dkL x d)=B at H hc⊢
 have hdk:=Ef x d
 refine⟨_,rfl,?_⟩
 rw[hdk]at H
 refine AA rfl ?_
 ((repeat apply Exists.intro);first|refine⟨H.ld EQ4 (by first|exact Ah|exact Af|exact Ai|exact Aj|exact BA|exact BB|exact A8|exact Ar|exact BC|exact sclC) (by repeat first|exact .head _|refine .tail _ ?_) rfl,?_⟩)
 rw[<- hdk]at H
 refine CE (fun h=>?_) (fun h=>?_)
 ·have e1:d.write n i b=(d,93):=by simp[Dk.write,h]
  rw[e1]
  exact⟨rfl,x,rfl,hok,H⟩
 cases hk:d.find n with
 |none=>
  refine⟨_,Cb P5,?_⟩
  refine CE (fun _=>?_) (fun h=>by cases h)
  have e1:d.write n i b=(d,90):=by simp[Dk.write,h,hk]
  rw[e1]
  exact⟨rfl,x,rfl,hok,H⟩
 |some k=>
  obtain⟨f,g,h1,h2,h3⟩:=hok.at (hok.dk.find hk)
  have hg:=V9 hok h2
  have hlen:d.len k=g.now.length:=by rw[Dk.len,h3]
  have hnow:g.now.length<=N:=few.now g (mem_of_getElem? h2)
  rw[MS h1]
  refine⟨_,Cb P5,?_⟩
  refine CE (fun h=>by cases h) (fun _=>?_)
  have hplace:∀w',(i<0\/(g.now.length:Int)<i\/512<b.length)->Hp B w w' (dkL x d)->Ending.returned (.int .i64 91)=.returned (.int .i64 (d.write n i b).2)/\∃x',x'.b=x.b/\x'.Ok (d.write n i b).1/\Hp B w w' (dkL x' (d.write n i b).1):=by
   intro w' hp H
   have e1:d.write n i b=(d,91):=by
    simp only[Dk.write,h,hk,hlen,Bool.false_eq_true,if_false,if_pos hp]
   rw[e1]
   exact⟨rfl,x,rfl,hok,H⟩
  refine AO (fun h4=>hplace _ (.inl h4) H) (fun h4=>?_)
  have hop:=KY h1 h2
  have m1:Asn.blk f.b [.slice f.an g.now.length f.cn,.slice f.af g.firm.length f.cf,.map (some f.bm)] 80∈dkL x d:=hop.mem_iff.2 (mem_append_left _ (.head _))
  refine AA rfl ?_
  refine⟨_,_,_,H.ld EQ4 A8 m1 rfl,?_⟩
  refine AO (fun h5=>hplace _ (.inr (.inl h5)) H) (fun h5=>?_)
  refine AO (fun h6=>hplace _ (.inr (.inr (by omega))) H) (fun h6=>?_)
  replace H:=H.drew
  refine AA rfl ?_
  refine⟨_,_,_,H.ld EQ4 A8 m1 rfl,?_⟩
  have hnp:¬(i<0\/(d.len k:Int)<i\/512<b.length):=by rw[hlen];omega
  have hiN:(i.toNat:Int)=i:=by omega
  have hb512:b.length<=512:=by omega
  have last:∀(w6:World)(y:DW)(q:Dk),y.b=x.b->y.Ok q->Hp B w w6 (dkL y q)->d.write n i b=(q.dies,q.dies.code)->
    AB Tryz.prog 36 [.pointer (some ⟨x.b,0,none⟩)] w6 fun e w'=>∃j,e=.returned (.int .i64 j)/\Ending.returned (.int .i64 j)=.returned (.int .i64 (d.write n i b).2)/\∃x',x'.b=x.b/\x'.Ok (d.write n i b).1/\Hp B w w' (dkL x' (d.write n i b).1):=by
   intro w6 y q hy hyok H e1
   have hds:=Ox y q hyok.dk.armed w6 H.std
   rw[hy]at hds
   refine AL hds ?_
   rintro e w7 ⟨rfl,H'⟩
   rw[e1]
   exact⟨_,rfl,rfl,y,hy,hyok.dies,H.Dq H'⟩
  refine AO (fun h7=>?_) (fun h7=>?_)
  ·--a sector more
   rw[hdk]at H
   refine AA rfl ?_
   ((repeat apply Exists.intro);first|refine⟨H.ld EQ4 (by first|exact Ah|exact Af|exact Ai|exact Aj|exact BA|exact BB|exact A8|exact Ar|exact BC|exact sclC) (by repeat first|exact .head _|refine .tail _ ?_) rfl,?_⟩)
   rw[<- hdk]at H
   refine AL (used_spec x d hok hu _ H.std) ?_
   rintro e w2 ⟨rfl,H'⟩;replace H:=H.ext0 H';clear H'
   refine⟨_,rfl,?_⟩
   rw[hdk]at H
   refine⟨H.ld EQ4 Ah (.head _) rfl,?_⟩
   rw[<- hdk]at H
   refine AO (fun h8=>?_) (fun h8=>?_)
   ·have e1:d.write n i b=(d,94):=by
     simp only[Dk.write,h,hk,Bool.false_eq_true,if_false,if_neg hnp]
     rw[if_pos ⟨by rw[hlen];exact h7,by omega⟩]
    rw[e1]
    exact⟨rfl,x,rfl,hok,H⟩
   have hnf:¬(i=(d.len k:Int)/\d.room<=d.used):=by omega
   refine AL (KA x d hok.dk.denied w2 H.std) ?_
   rintro e w3 ⟨rfl,H'⟩;replace H:=H.Dq H';clear H'
   refine⟨_,rfl,?_⟩
   refine CE (fun h9=>?_) (fun h9=>?_)
   ·have e1:d.write n i b=(d.denies,95):=by
     simp only[Dk.write,h,hk,Bool.false_eq_true,if_false,if_neg hnp,if_neg hnf,h9,if_true]
    rw[e1]
    exact⟨rfl,x,rfl,hok.denies,H⟩
   have e1:d.write n i b=((d.denies.put k (g.write i.toNat b)).dies,(d.denies.put k (g.write i.toNat b)).dies.code):=by
    simp only[Dk.write,h,hk,Bool.false_eq_true,if_false,if_neg hnp,if_neg hnf,h9,h3]
   have hok':=hok.denies
   have hq2:d.denies.files[k]? =some g:=h2
   have hqf:=hok'.dk
   generalize d.denies=q at H e1 hok' hq2 hqf
   replace H:=H.perm (KY h1 hq2)
   simp only[flL,cons_append,nil_append]at H
   rw[Zw]
   intro bb w4 hn;replace H:=H.new EQ4 hn;clear hn
   have hc4:Cells w4 ba (bQ b):=hc w4 H.chg
   refine Hp.cpy H EQ4 Jq Tt.size (Cells.src Jq hc4 (by rw[AQ,Nat.mul_one]) (by intro u hu;obtain⟨_,_,rfl⟩:=mem_map.1 hu;rfl) h0) hb512 (by simp[bQ,zsec];omega) ?_
   clear H;intro w5 H
   rw[Wq hb512]at H
   refine AA rfl ?_
   ((repeat apply Exists.intro);first|refine⟨H.ld EQ4 (by first|exact Ah|exact Af|exact Ai|exact Aj|exact BA|exact BB|exact A8|exact Ar|exact BC|exact sclC) (by repeat first|exact .head _|refine .tail _ ?_) rfl,?_⟩)
   refine AO (fun _=>?_) (fun h=>absurd h7 h)
   replace H:=H.drew
   refine AA rfl ?_
   ((repeat apply Exists.intro);first|refine⟨H.ld EQ4 (by first|exact Ah|exact Af|exact Ai|exact Aj|exact BA|exact BB|exact A8|exact Ar|exact BC|exact sclC) (by repeat first|exact .head _|refine .tail _ ?_) rfl,?_⟩)
   have hpl:(bQ (pad b)).length=512:=by rw[AQ,Gf hb512]
   refine⟨_,H.ldA EQ4 Lm (.head _) (by rw[drop_zero,take_of_length_le (by omega)]) hpl,?_⟩
   refine⟨_,_,WW QY (by omega) (by omega) hpl,?_⟩
   intro b1 w6 hn;replace H:=H.new EQ4 hn;clear hn
   refine⟨H.ld EQ4 A8 (.tail _ (.tail _ (.head _))) rfl,?_⟩
   refine Hp.app QY (by omega) H.BM EQ4 (Blk.src Y2 ((H.go (w':=w6.drew) EQ4).blk (.head _)) (by rw[hpl]) (by simp[bQ];intros;rfl)) (by simp only[maxLen];omega) (by omega) ?_
   clear H;intro a' c' w7 H
   replace H:=H.drop1
   refine AA rfl ?_
   ((first|(apply Hp.st;(case H=>first|exact H|exact H.Aq|exact H.BF|exact H.BM|exact H.Bc|exact H.Bh|exact H.Bj|exact H.pull7);(case e=>exact⟨rfl,rfl,rfl,rfl⟩);(case S=>exact(by first|exact Ah|exact Af|exact Ai|exact Aj|exact BA|exact BB|exact A8|exact Ar|exact BC|exact sclC));(case hv=>exact rfl);(case h1=>exact rfl);(case ho=>exact Nat.le_of_ble_eq_true rfl);(case hc=>exact rfl)));clear H;intro _ H;(try simp only[over,set_cons_zero,set_cons_succ]at H))
   rename_i w8
   replace H:=H.drew
   refine AA rfl ?_
   ((repeat apply Exists.intro);first|refine⟨H.ld EQ4 (by first|exact Ah|exact Af|exact Ai|exact Aj|exact BA|exact BB|exact A8|exact Ar|exact BC|exact sclC) (by repeat first|exact .head _|refine .tail _ ?_) rfl,?_⟩)
   refine AA rfl ?_
   ((repeat apply Exists.intro);first|refine⟨H.ld EQ4 (by first|exact Ah|exact Af|exact Ai|exact Aj|exact BA|exact BB|exact A8|exact Ar|exact BC|exact sclC) (by repeat first|exact .head _|refine .tail _ ?_) rfl,?_⟩)
   refine⟨_,H.ldA EQ4 Lm (.tail _ (.tail _ (.head _))) (by rw[drop_zero,take_of_length_le (by omega)]) hpl,?_⟩
   have hne:a'≠none:=by
    rintro rfl
    have hO:Own w8.drew 0 85 512 none (g.now.length+1) c' (secs g.now++bQ (pad b)):=H.ok _ (.tail _ (.head _))
    rcases hO.2 with⟨_,h,_⟩|⟨_,_,_,h,_⟩
    ·omega
    ·cases h
   obtain⟨ad,had⟩:=Option.ne_none_iff_exists'.1 hne
   refine AA had ⟨⟨by omega,by omega⟩,?_⟩
   have hx1:secs g.now++bQ (pad b)=secs (g.now++[pad b]):=by rw[FD,X8]
   have hok1:∀s∈g.now++[pad b],s.length=512:=fun s hs=>by
    rcases mem_append.1 hs with hs|hs
    ·exact hg.now s hs
    ·rw[mem_singleton.1 hs];exact Gf hb512
   have hset:(g.now++[pad b]).set i.toNat (pad b)=g.now++[pad b]:=by
    have:i.toNat=g.now.length:=by omega
    rw[this,List.set_append_right _ _ (Nat.le_refl _),Nat.sub_self];rfl
   rw[hx1]at H
   refine Hp.stO H.Aq EQ4 had (by rw[Lm.size];simp[Value.cells,hpl]) (by simp[Value.cells,bQ];intros;rfl) (by simp only[Value.cells,size_toArray,hpl];rw[Il hok1,length_append,length_singleton];omega)
    (by simp only[Value.cells];exact(XD hok1 (Gf hb512) (by rw[length_append,length_singleton];omega)).trans (by rw[hset])) ?_
   clear H;intro w9 H
   rw[<- hiN]
   refine Hp.menI aU H.Bc EQ4 ?_
   clear H;intro w10 H
   rw[hiN]
   refine last w10 (putX x k {f with an:=a',cn:=c',al:=aput f.al (i.toNat:Int) (.bool true)}) (q.put k (g.write i.toNat b)) rfl (hok'.put (hg.write (by omega) hb512) (XX hg.since (hok'.keys k f g h1 hq2) i.toNat)) ?_ e1
   have hp:=VK (f':= {f with an:=a',cn:=c',al:=aput f.al (i.toNat:Int) (.bool true)}) (g':=g.write i.toNat b) h1 hq2 rfl
   refine Hp.perm ?_ hp.symm
   have hw:(g.write i.toNat b).now=g.now++[pad b]:=by simp only[Fl.write];rw[if_pos (by omega)]
   simp only[flL,hw,length_append,length_singleton,cons_append,nil_append]
   have H2:Hp B w w10 (.blk bb (bQ (pad b)) 85::.blk f.b [.slice a' (g.now.length+1) c',.slice f.af g.firm.length f.cf,.map (some f.bm)] 80::.own 85 512 a' (g.now.length+1) c' (secs (g.now++[pad b]))::.own 85 512 f.af g.firm.length f.cf (secs g.firm)::.imap f.bm .i64 (aput f.al (i.toNat:Int) (.bool true))::dkB x q k):=by
    ((try dsimp only[cons_append,nil_append]);(try dsimp only[cons_append,nil_append]at H);refine Hp.perm H ?_;(repeat(apply BH;(focus first|exact Bq|exact Bo|exact Bv|exact Bi|exact Bz|exact CG|exact CB|exact perm_p7|exact perm_p8|exact perm_p9)));exact List.Perm.refl _)
   exact H2.drop
  ·--a sector that is there
   have hnf:¬(i=(d.len k:Int)/\d.room<=d.used):=by rw[hlen];omega
   refine AL (KA x d hok.dk.denied _ H.std) ?_
   rintro e w3 ⟨rfl,H'⟩;replace H:=H.Dq H';clear H'
   refine⟨_,rfl,?_⟩
   refine CE (fun h9=>?_) (fun h9=>?_)
   ·have e1:d.write n i b=(d.denies,95):=by
     simp only[Dk.write,h,hk,Bool.false_eq_true,if_false,if_neg hnp,if_neg hnf,h9,if_true]
    rw[e1]
    exact⟨rfl,x,rfl,hok.denies,H⟩
   have e1:d.write n i b=((d.denies.put k (g.write i.toNat b)).dies,(d.denies.put k (g.write i.toNat b)).dies.code):=by
    simp only[Dk.write,h,hk,Bool.false_eq_true,if_false,if_neg hnp,if_neg hnf,h9,h3]
   have hok':=hok.denies
   have hq2:d.denies.files[k]? =some g:=h2
   generalize d.denies=q at H e1 hok' hq2
   replace H:=H.perm (KY h1 hq2)
   simp only[flL,cons_append,nil_append]at H
   rw[Zw]
   intro bb w4 hn;replace H:=H.new EQ4 hn;clear hn
   have hc4:Cells w4 ba (bQ b):=hc w4 H.chg
   refine Hp.cpy H EQ4 Jq Tt.size (Cells.src Jq hc4 (by rw[AQ,Nat.mul_one]) (by intro u hu;obtain⟨_,_,rfl⟩:=mem_map.1 hu;rfl) h0) hb512 (by simp[bQ,zsec];omega) ?_
   clear H;intro w5 H
   rw[Wq hb512]at H
   refine AA rfl ?_
   ((repeat apply Exists.intro);first|refine⟨H.ld EQ4 (by first|exact Ah|exact Af|exact Ai|exact Aj|exact BA|exact BB|exact A8|exact Ar|exact BC|exact sclC) (by repeat first|exact .head _|refine .tail _ ?_) rfl,?_⟩)
   refine AO (fun h=>absurd h h7) (fun _=>?_)
   replace H:=H.drew
   refine AA rfl ?_
   ((repeat apply Exists.intro);first|refine⟨H.ld EQ4 (by first|exact Ah|exact Af|exact Ai|exact Aj|exact BA|exact BB|exact A8|exact Ar|exact BC|exact sclC) (by repeat first|exact .head _|refine .tail _ ?_) rfl,?_⟩)
   refine AA rfl ?_
   ((repeat apply Exists.intro);first|refine⟨H.ld EQ4 (by first|exact Ah|exact Af|exact Ai|exact Aj|exact BA|exact BB|exact A8|exact Ar|exact BC|exact sclC) (by repeat first|exact .head _|refine .tail _ ?_) rfl,?_⟩)
   have hpl:(bQ (pad b)).length=512:=by rw[AQ,Gf hb512]
   refine⟨_,H.ldA EQ4 Lm (.head _) (by rw[drop_zero,take_of_length_le (by omega)]) hpl,?_⟩
   have hne:f.an≠none:=by
    intro hn0
    have hO:Own w5.drew 0 85 512 f.an g.now.length f.cn (secs g.now):=H.ok _ (.tail _ (.tail _ (.head _)))
    rw[hn0]at hO
    rcases hO.2 with⟨_,h,_⟩|⟨_,_,_,h,_⟩
    ·omega
    ·cases h
   obtain⟨ad,had⟩:=Option.ne_none_iff_exists'.1 hne
   refine AA had ⟨⟨by omega,by omega⟩,?_⟩
   refine Hp.stO H.BF EQ4 had (by rw[Lm.size];simp[Value.cells,hpl]) (by simp[Value.cells,bQ];intros;rfl) (by simp only[Value.cells,size_toArray,hpl];rw[Il hg.now];omega)
    (by simp only[Value.cells];exact XD hg.now (Gf hb512) (by omega)) ?_
   clear H;intro w9 H
   rw[<- hiN]
   refine Hp.menI aU H.Bc EQ4 ?_
   clear H;intro w10 H
   rw[hiN]
   refine last w10 (putX x k {f with al:=aput f.al (i.toNat:Int) (.bool true)}) (q.put k (g.write i.toNat b)) rfl (hok'.put (hg.write (by omega) hb512) (XX hg.since (hok'.keys k f g h1 hq2) i.toNat)) ?_ e1
   have hp:=VK (f':= {f with al:=aput f.al (i.toNat:Int) (.bool true)}) (g':=g.write i.toNat b) h1 hq2 rfl
   refine Hp.perm ?_ hp.symm
   have hw:(g.write i.toNat b).now=g.now.set i.toNat (pad b):=by simp only[Fl.write];rw[if_neg (by omega)]
   simp only[flL,hw,length_set,cons_append,nil_append]
   have H2:Hp B w w10 (.blk bb (bQ (pad b)) 85::.blk f.b [.slice f.an g.now.length f.cn,.slice f.af g.firm.length f.cf,.map (some f.bm)] 80::.own 85 512 f.an g.now.length f.cn (secs (g.now.set i.toNat (pad b)))::.own 85 512 f.af g.firm.length f.cf (secs g.firm)::.imap f.bm .i64 (aput f.al (i.toNat:Int) (.bool true))::dkB x q k):=by
    ((try dsimp only[cons_append,nil_append]);(try dsimp only[cons_append,nil_append]at H);refine Hp.perm H ?_;(repeat(apply BH;(focus first|exact Bq|exact Bo|exact Bv|exact Bi|exact Bz|exact CG|exact CB|exact perm_p7|exact perm_p8|exact perm_p9)));exact List.Perm.refl _)
   exact H2.drop
theorem UH:Scl Tryz.prog 30:=BP (by kernel_rfl)
theorem Own.stC{P:Program}{w:World}{e:TypeId}{sz:Nat}{a:Option Addr}{n c:Nat}{xs:List Value}(h:Own w 0 e sz a n c xs){ad:Addr}(ha:a=some ad){o:Nat}{vs:List Value}(hv:vs.all (·.oneCell')=true)(hl:o+vs.length<=xs.length):
  ∃w1,(storeCells (ad.add o) vs).run P w=.ok () w1/\Own w1 0 e sz a n c (over vs o xs)/\Chg (blks a) w w1:=by
 have hlen:=h.1
 rcases h.2 with⟨rfl,_⟩|⟨g,cur,fz,rfl,hb,hg,hf,hnc,hcm,hcs,ht⟩
 ·cases ha
 cases ha
 have hnm:n*sz<=c*sz:=Nat.mul_le_mul_right _ hnc
 have hcur:w.heap[g]? =some (.cells cur.toList.toArray e fz):=by simpa using hg
 have hcl:cur.toList.length=cur.size:=Array.length_toList
 have hrun:=DT (P:=P) (b:=g) (T:=e) (fz:=fz) vs w cur.toList ⟨g,o,none⟩ o 0 rfl (fun j=>by simp[add_lit]) hcur (by omega) (fun k h1 h2=>hf k (by omega)) (fun u hu=>all_eq_true.1 hv u hu)
 have e1:(storeCells ((⟨g,0,none⟩:Addr).add o) vs).run P w=(storeCells ⟨g,o,none⟩ vs).run P w:=by rw[add_lit,Nat.zero_add]
 refine⟨_,e1.trans hrun,?_,?_⟩
 ·split
  ·rename_i hn;rw[hn,Dc];exact h
  ·refine⟨by rw[Ib _ _ _ (by omega)];exact hlen,.inr ⟨g,_,fz,rfl,hb,Dl (Array.getElem?_eq_some_iff.1 hg).1,?_,hnc,hcm,?_,?_⟩⟩
   ·rw[size_toArray,Ib _ _ _ (by omega),hcl];exact hf
   ·rw[size_toArray,Ib _ _ _ (by omega),hcl];exact hcs
   ·simp only[List.toList_toArray]
    rw[Nr _ _ _ _ (by omega) (by omega),ht]
 ·split
  ·exact Chg.refl _ _
  ·exact DI _ _ _
theorem Hp.cpyP{P:Program}{B:List Nat}{w0 w w':World}{L:List Asn}{e eT dT tx ty:TypeId}{sz:Nat}{a:Option Addr}{n c o m dc sn sc:Nat}{xs news:List Value}{ad sa:Addr}(H:Hp B w0 w (.own e sz a n c xs::L))(eq:Eqw w w')(hd:P.underlying dT=some (.slice eT))(hs:ER P eT=some 1)
  (ha:a=some ad) (hsrc:∀j u,news[j]? =some u->w'.cell? (sa.add j)=some u) (hl:news.length=m) (h1:news.all (·.oneCell')=true) (hm:m<=sn) (hfit:o+m<=xs.length) {G:Int->World->Prop}
  (k:∀w1,Hp B w0 w1 (.own e sz a n c (over news o xs)::L)->G (m:Int) w1):∃(i:Int)(w1:World),Cpy P #[dT,tx] ty w' (.slice (some (ad.add o)) m dc) (.slice (some sa) sn sc) (.int .i64 i) w1/\G i w1:=by
 have hO:Own w' 0 e sz a n c xs:=(H.go eq).ok _ (.head _)
 obtain⟨w1,h2,h3,h4⟩:=Own.stC (P:=P) hO ha h1 (o:=o) (by omega)
 refine⟨(m:Int),w1,?_,k w1 ((H.go eq).set h4 h3 fun k hk=>.inl hk)⟩
 have hz:(sizeOf eT).run P w'=.ok 1 w':=ED hs w'
 have hmin:Nat.min sn m=m:=Nat.min_eq_right hm
 have hlen:(Builtin.lenOf (.slice (some sa) sn sc)).run P w'=.ok sn w':=rfl
 have hc:=run_firstCells_some (P:=P) w' 1 m sa sn sc news (by omega) hsrc
 simp only[Cpy,Builtin.copy_]
 simp[Am hd,hlen,hmin,hz,hc,h2,goInt]
theorem secs_part{l:List (List UInt8)}(h:∀s∈l,s.length=512){k:Nat}{x:List UInt8}(hx:x.length<=512)(hk:k<l.length):over (bQ x) (k*512) (secs l)=secs (l.set k (x++(l.getD k []).drop x.length)):=by
 have hgd:l.getD k []=l[k]:=by simp[hk]
 have e1:l=l.take k++(l[k]::l.drop (k+1)):=by rw[List.getElem_cons_drop,take_append_drop]
 have e2:l.set k (x++(l.getD k []).drop x.length)=l.take k++((x++l[k].drop x.length)::l.drop (k+1)):=by rw[hgd,List.set_eq_take_append_cons_drop,if_pos hk]
 have h1:(secs (l.take k)).length=k*512:=by
  rw[Il fun s hs=>h s (List.mem_of_mem_take hs),length_take]
  congr 1;omega
 have h2:=h _ (getElem_mem hk)
 rw[e2]
 conv=>lhs;rw[e1]
 rw[FD,FD,IW,IW,<- h1]
 have e3:bQ l[k]=bQ (l[k].take x.length)++bQ (l[k].drop x.length):=by rw[<- BZ,take_append_drop]
 rw[e3,BZ,append_assoc,append_assoc]
 exact J3 _ _ _ _ (by rw[AQ,AQ,length_take];omega)
def ints(l:List Int):List Value:=l.map (.int .i64)
theorem ints_drop(l:List Int)(i:Nat):(ints l).drop i=ints (l.drop i):=by simp[ints]
theorem add_block(ad:Addr)(i:Nat):(ad.add i).block=ad.block:=by unfold Addr.add;split<;>rfl
theorem PL(l:List UInt8):(bQ l).all (·.oneCell')=true:=by
 simp only[bQ,all_map,all_eq_true];intro b hb;rfl
theorem slA_blk{a:Option Addr}{c i:Nat}:∀k∈blks (slA a c i 1),k∈blks a:=by
 unfold slA
 intro k hk
 split at hk
 ·exact hk
 ·cases a with
  |none=>exact hk
  |some ad=>
   have h:=add_block ad (i*1)
   simp only[Option.map_some,blks,mem_singleton]at hk⊢
   rw[hk,h]
theorem crashC_spec(q:Nat)(a:Option Addr)(c:Nat)(ps:List Int)(w:World)(hq:Blk w q [.slice a ps.length c] 30)(hc:Cells w a (ints ps))(hl:ps.length<=c):
  Calls Tryz.prog 62 #[.pointer (some ⟨q,0,none⟩)] w fun e w'=>e=.returned (.int .i64 (ps.headD 0))/\∃a' c',Hp [q] w w' [.blk q [.slice a' ps.tail.length c'] 30]/\(∀W,Cells W a (ints ps)->Cells W a' (ints ps.tail))/\(∀k∈blks a',k∈blks a)/\ps.tail.length<=c':=by
 apply crashC.ok;unfold crashC.vc
 have H:Hp [q] w w [.blk q [.slice a ps.length c] 30]:=Hp.JF (a:=.blk q [.slice a ps.length c] 30) hq
 refine⟨_,_,_,AA rfl (H.ld EQ4 UH (.head _) rfl),?_⟩
 cases ps with
 |nil=>exact AO (fun _=>⟨rfl,a,c,H,fun _ h=>h,fun k hk=>hk,Nat.zero_le _⟩) (fun h=>absurd rfl h)
 |cons p r=>
  refine AO (fun h=>by simp at h;omega) (fun _=>?_)
  refine⟨_,_,_,AA rfl (H.ld EQ4 UH (.head _) rfl),?_⟩
  obtain⟨ad,ha,hcell⟩:=hc 0 (.int .i64 p) rfl
  have h0:ad.add 0=ad:=by
   unfold Addr.add;split<;>simp_all
  rw[h0]at hcell
  refine AA ha ⟨⟨by omega,by simp only[length_cons];omega⟩,p,V8 Ah.agg hcell,?_⟩
  refine⟨_,_,_,AA rfl (H.ld EQ4 UH (.head _) rfl),?_⟩
  refine⟨⟨by omega,by simp only[length_cons];omega⟩,?_⟩
  refine AA rfl ?_
  refine Hp.st H EQ4 UH rfl rfl (by simp) rfl ?_
  clear H;intro w1 H
  refine⟨rfl,slA a c 1 1,c-1,?_,?_,slA_blk,by simp only[length_cons,List.tail_cons]at hl⊢;omega⟩
  ·have e1:(p::r).length-Int.toNat 1=(p::r).tail.length:=by simp
   rw[e1]at H
   exact H
  ·intro W hW
   have:=hW.slA (c:=c) (i:=1) (by simpa [ints]using hl)
   rwa [ints_drop]at this
theorem bigSec:bigL Tryz.prog 85 []=bQ zsec:=by kernel_rfl
theorem QU(L:List (List UInt8))(n:Nat):(fill L n).length=max L.length (n+1):=by simp only[fill,length_append,length_replicate];omega
theorem VY{L:List (List UInt8)}(h:∀s∈L,s.length=512)(n:Nat):∀s∈fill L n,s.length=512:=fun s hs=>by
 rcases mem_append.1 hs with hs|hs
 ·exact h s hs
 ·rw[List.eq_of_mem_replicate hs];simp[zsec]
theorem ZK{now L:List (List UInt8)}(hn:∀s∈now,s.length=512)(h:∀s∈L,s.length=512){n p:Nat}(hp:p<=512)(hlt:n<now.length):(∀s∈mend now L n p,s.length=512)/\(L.length<=now.length->(mend now L n p).length<=now.length)/\L.length<=(mend now L n p).length:=by
 unfold mend
 split
 ·exact⟨h,fun h=>h,Nat.le_refl _⟩
 ·refine⟨fun s hs=>?_,fun h2=>?_,?_⟩
  ·rcases mem_or_eq_of_mem_set hs with hs|rfl
   ·exact VY h n s hs
   ·have h1:=hn _ (getElem_mem hlt)
    have h2:n<(fill L n).length:=by rw[QU];omega
    have h3:=VY h n _ (getElem_mem h2)
    simp only[getD_eq_getElem?_getD,List.getElem?_eq_getElem hlt,List.getElem?_eq_getElem h2,Option.getD_some,length_append,length_take,length_drop,h1,h3]
    omega
  ·rw[length_set,QU];omega
  ·rw[length_set,QU];omega
theorem U8{now:List (List UInt8)}(hn:∀s∈now,s.length=512):∀(ns:List Nat)(ps:List Int)(L:List (List UInt8)),(∀n∈ns,n<now.length)->(∀s∈L,s.length=512)->L.length<=now.length->(∀s∈Ff now ns ps L,s.length=512)/\(Ff now ns ps L).length<=now.length
 | [],ps,L,h1,h2,h3=>⟨h2,h3⟩
 |n::r,ps,L,h1,h2,h3=>by
  obtain⟨h4,h5,_⟩:=ZK hn h2 (n:=n) (p:=pick (ps.headD 0)) (by simp only[pick];omega) (h1 n (.head _))
  exact U8 hn r _ _ (fun m hm=>h1 m (.tail _ hm)) h4 (h5 h3)
theorem KJ{g:Fl}(h:g.Ok)(ps:List Int):(g.found ps).Ok/\(g.found ps).now.length<=g.now.length:=by
 obtain⟨h1,h2⟩:=U8 h.now g.since ps g.firm h.below h.firm h.len
 exact⟨⟨h1,h1,by simp[Fl.found],by simp[Fl.found],Nat.le_refl _⟩,h2⟩
theorem found_spec(f:FW)(g:Fl)(hg:g.Ok)(hk:(f.al.map (·.1)).Perm (g.since.map fun n:Nat=>(n:Int)))(hN:g.now.length<=1073741824)(q:Nat)(pa:Option Addr)(pc:Nat)(ps:List Int)(w:World)(st:Std w (flL f g++[.blk q [.slice pa ps.length pc] 30]))
  (hc:∀W,Chg (feet (flL f g++[.blk q [.slice pa ps.length pc] 30])) w W->Cells W pa (ints ps)) (hl:ps.length<=pc):
  Calls Tryz.prog 63 #[.pointer (some ⟨f.b,0,none⟩),.func (.func 62) #[] #[.pointer (some ⟨q,0,none⟩)]] w fun e w'=>∃(f':FW)(a':Option Addr)(c':Nat),e=.returned (.pointer (some ⟨f'.b,0,none⟩))/\f'.al=[]/\
   Hp (feet (flL f g++[.blk q [.slice pa ps.length pc] 30])) w w' (flL f' (g.found ps)++(flL f g++[.blk q [.slice a' (ps.drop g.since.length).length c'] 30]))/\(∀W,Cells W pa (ints ps)->Cells W a' (ints (ps.drop g.since.length)))/\(∀k∈blks a',k∈blks pa)/\(ps.drop g.since.length).length<=c':=by
 apply found.ok;unfold found.vc
 have H:=Hp.Ap st
 generalize hB:feet (flL f g++[.blk q [.slice pa ps.length pc] 30])=B at H hc⊢
 simp only[flL,cons_append,nil_append]at H
 refine AA rfl ?_
 ((repeat apply Exists.intro);first|refine⟨H.ld EQ4 (by first|exact Ah|exact Af|exact Ai|exact Aj|exact BA|exact BB|exact A8|exact Ar|exact BC|exact sclC|exact UH) (by repeat first|exact .head _|refine .tail _ ?_) rfl,?_⟩)
 refine AL (Jr f.af g.firm.length f.cf (secs g.firm) w (H.ok _ (.tail _ (.tail _ (.head _)))) (OH _) (by have:=hg.len;omega)) ?_
 rintro e w1 ⟨a0,c0,rfl,H'⟩;replace H:=H.ext H';clear H'
 simp only[cons_append,nil_append]at H
 refine⟨_,_,_,rfl,?_⟩
 refine AA rfl ?_
 ((repeat apply Exists.intro);first|refine⟨H.ld EQ4 (by first|exact Ah|exact Af|exact Ai|exact Aj|exact BA|exact BB|exact A8|exact Ar|exact BC|exact sclC|exact UH) (by repeat first|exact .head _|refine .tail _ ?_) rfl,?_⟩)
 refine AL (keysI_spec (some f.bm) w1) ?_
 rintro e w2 ⟨b2,rfl,H'⟩;replace H:=H.ext H';clear H'
 simp only[cons_append,nil_append]at H
 refine⟨_,rfl,?_⟩
 have hkl:=hk.length_eq
 simp only[length_map]at hkl
 have hsl:g.since.length<=g.now.length:=by
  have:∀(l:List Nat)(lo N:Nat),l.Pairwise (· < ·)->(∀n∈l,lo<=n/\n<N)->lo<=N->l.length<=N-lo:=by
   intro l
   induction l with
   |nil=>intro lo N _ _ _;simp
   |cons x r ih=>
    intro lo N hs hb hlo
    have hp:=pairwise_cons.1 hs
    have hx:=hb x (.head _)
    have:=ih (x+1) N hp.2 (fun n hn=>⟨hp.1 n hn,(hb n (.tail _ hn)).2⟩) (by omega)
    simp only[length_cons];omega
  have:=this g.since 0 g.now.length hg.since (fun n hn=>⟨Nat.zero_le _,hg.below n hn⟩) (Nat.zero_le _)
  omega
 have hs:=sortedI_spec b2 f.bm f.al w2 (H.ok _ (.head _)) (H.ok (.imap f.bm .i64 f.al) (by repeat first|exact .head _|refine .tail _ ?_)) (g.since.map fun n:Nat=>(n:Int)) hk.symm (pairwise_map.2 (hg.since.imp fun h=>by omega)) (fun n hn=>by
  obtain⟨m,hm,rfl⟩:=mem_map.1 hn
  have:=hg.below m hm
  omega) (by omega)
 refine AL hs ?_
 rintro e w3 ⟨a3,c3,rfl,H'⟩;replace H:=H.ext H';clear H'
 simp only[cons_append,nil_append,length_map]at H⊢
 replace H:=H.del1
 refine⟨a3,_,c3,rfl,?_⟩
 obtain⟨FF,hFF⟩:∃FF:List Asn,FF=[.blk f.b [.slice f.an g.now.length f.cn,.slice f.af g.firm.length f.cf,.map (some f.bm)] 80,.own 85 512 f.an g.now.length f.cn (secs g.now),.own 85 512 f.af g.firm.length f.cf (secs g.firm),.imap f.bm .i64 f.al]:=⟨_,rfl⟩
 have mF1:Asn.blk f.b [.slice f.an g.now.length f.cn,.slice f.af g.firm.length f.cf,.map (some f.bm)] 80∈FF:=by rw[hFF];exact .head _
 have mF2:Asn.own 85 512 f.an g.now.length f.cn (secs g.now)∈FF:=by rw[hFF];exact .tail _ (.head _)
 refine Ae.mk (fun(m:Nat)(s:(Option Addr×Nat×Nat)×Int)(w':World)=>∃(k:Nat)(L:List (List UInt8))(a:Option Addr)(c:Nat)(a':Option Addr)(c':Nat),m=g.since.length-k/\k<=g.since.length/\s=((a,L.length,c),(k:Int))/\(∀s∈L,s.length=512)/\L.length<=g.now.length/\
   Ff g.now (g.since.drop k) (ps.drop k) L=Ff g.now g.since ps g.firm/\
   Hp B w w' (.own 85 512 a L.length c (secs L)::.blk q [.slice a' (ps.drop k).length c'] 30::.own 3 1 a3 g.since.length c3 ((g.since.map fun n:Nat=>(n:Int)).map (.int .i64))::FF)/\
   (∀W,Cells W pa (ints ps)->Cells W a' (ints (ps.drop k)))/\(∀j∈blks a',j∈blks pa)/\(ps.drop k).length<=c') g.since.length ⟨0,g.firm,a0,c0,pa,pc,by omega,by omega,rfl,hg.firm,hg.len,rfl,?_,fun _ h=>h,fun _ h=>h,hl⟩ ?_
 ·rw[hFF]
  ((try dsimp only[cons_append,nil_append]);(try dsimp only[cons_append,nil_append]at H);refine Hp.perm H ?_;(repeat(apply BH;(focus first|exact Bq|exact Bo|exact Bv|exact Bi|exact Bz|exact CG|exact CB|exact perm_p7|exact perm_p8|exact perm_p9)));exact List.Perm.refl _)
 clear H
 rintro m s w4 next ⟨k,L,a,c,a',c',rfl,hkl2,rfl,hL,hLn,hfd,H,hcc,hbb,hll⟩ hnext
 dsimp only
 refine AO (fun h=>?_) (fun h=>?_)
 ·have hk2:k<g.since.length:=by omega
  obtain⟨n,hn⟩:∃n,g.since[k]? =some n:=⟨_,List.getElem?_eq_getElem hk2⟩
  have hnb:=hg.below n (mem_of_getElem? hn)
  have hdrop:g.since.drop k=n::g.since.drop (k+1):=by
   rw[drop_eq_getElem_cons hk2]
   rw[List.getElem?_eq_getElem hk2]at hn
   rw[Option.some.inj hn]
  obtain⟨ad,ha,hld⟩:=H.ldO (P:=Tryz.prog) (w':=w4) (t:=3) (o:=Int.toNat (k:Int)*1) (v:=.int .i64 (n:Int)) EQ4 Ah (.tail _ (.tail _ (.head _))) (by rw[Int.toNat_natCast,Nat.mul_one];simp[hn])
  refine AA ha ⟨⟨by omega,by omega⟩,_,hld,?_⟩
  have hq4:Blk w4 q [.slice a' (ps.drop k).length c'] 30:=H.ok _ (.tail _ (.head _))
  have hcc4:Cells w4 a' (ints (ps.drop k)):=hcc w4 (hc w4 H.chg)
  refine G8 Tryz.func62 rfl (AL (crashC_spec q a' c' (ps.drop k) w4 hq4 hcc4 hll) ?_)
  rintro e w5 ⟨rfl,a5,c5,H',hc5,hb5,hl5⟩
  replace H:=H.Aq.FO H';clear H'
  have htail:(ps.drop k).tail=ps.drop (k+1):=by rw[List.tail_drop]
  rw[htail]at H hc5 hl5
  have hc5':∀W,Cells W pa (ints ps)->Cells W a5 (ints (ps.drop (k+1))):=fun W hW=>hc5 W (hcc W hW)
  have hb5':∀j∈blks a5,j∈blks pa:=fun j hj=>hbb j (hb5 j hj)
  have hfd2:Ff g.now (g.since.drop (k+1)) (ps.drop (k+1)) (mend g.now L n (pick ((ps.drop k).headD 0)))=Ff g.now g.since ps g.firm:=by
   rw[<- hfd,hdrop,Ff,htail]
  refine⟨_,rfl,?_⟩
  generalize hp:(ps.drop k).headD 0=p at hfd2⊢
  refine AO (fun h0=>?_) (fun h0=>?_)
  ·have hp0:pick p=0:=by simp only[pick];omega
   rw[hp0,mend,if_pos rfl]at hfd2
   refine⟨AY.2 (by omega),?_⟩
   exact hnext (g.since.length-(k+1)) _ _ (by omega) ⟨k+1,L,a,c,a5,c5,rfl,by omega,by simp,hL,hLn,hfd2,H.Aq,hc5',hb5',hl5⟩
  ·have hp0:pick p≠0:=by simp only[pick];omega
   have hp512:pick p<=512:=by simp only[pick];omega
   have hpi:min (max p 0) 512=(pick p:Int):=by simp only[pick];omega
   rw[hpi]
   refine Ae.mk (fun(m:Nat)(s:Option Addr×Nat×Nat)(w':World)=>∃(j:Nat)(a:Option Addr)(c:Nat),m=n+1-(L.length+j)/\(j=0\/L.length+j<=n+1)/\s=(a,L.length+j,c)/\
    Hp B w w' (.own 85 512 a (L.length+j) c (secs (L++List.replicate j zsec))::.blk q [.slice a5 (ps.drop (k+1)).length c5] 30::.own 3 1 a3 g.since.length c3 ((g.since.map fun n:Nat=>(n:Int)).map (.int .i64))::FF)) (n+1-(L.length+0)) ⟨0,a,c,rfl,.inl rfl,rfl,by rw[List.replicate_zero,append_nil];exact H.Aq⟩ ?_
   clear H w5
   rintro m s w5 next2 ⟨j,a,c,rfl,hj,rfl,H⟩ hnext2
   dsimp only
   refine AO (fun h1=>?_) (fun h1=>?_)
   ·rw[bigSec]
    have hzl:(bQ zsec).length=512:=by simp[bQ,zsec]
    refine⟨_,_,WW QY (by omega) (by omega) hzl,?_⟩
    intro b1 w6 hn;replace H:=H.new EQ4 hn;clear hn
    refine Hp.app QY (by omega) H.Aq EQ4 (Blk.src Y2 ((H.go (w':=w6.drew) EQ4).blk (.head _)) (by rw[hzl]) (by simp[bQ];intros;rfl)) (by simp only[maxLen];omega) (by omega) ?_
    clear H;intro a7 c7 w7 H
    replace H:=H.drop1
    refine hnext2 (n+1-(L.length+(j+1))) _ _ (by omega) ⟨j+1,a7,c7,rfl,.inr (by omega),rfl,?_⟩
    have e1:secs (L++List.replicate j zsec)++bQ zsec=secs (L++List.replicate (j+1) zsec):=by
     rw[List.replicate_succ',<- append_assoc,FD (L++List.replicate j zsec),X8]
    rw[e1]at H
    exact H
   ·have hfl:L++List.replicate j zsec=fill L n:=by
     rw[fill];congr 2;omega
    have hlen:(fill L n).length=L.length+j:=by rw[<- hfl];simp
    rw[hfl,<- hlen]at H
    rw[<- hlen]
    rw[<- hlen]at h1
    have hfo:=VY hL n
    have hnl:n<(fill L n).length:=by omega
    have hne:a≠none:=by
     rintro rfl
     have hO:Own w5 0 85 512 none (fill L n).length c (secs (fill L n)):=H.ok _ (.head _)
     rcases hO.2 with⟨_,h,_⟩|⟨_,_,_,h,_⟩
     ·omega
     ·cases h
    obtain⟨ad,had⟩:=Option.ne_none_iff_exists'.1 hne
    refine AA had ⟨⟨by omega,by omega⟩,⟨by omega,by omega⟩,?_⟩
    replace H:=H.drew
    refine AA rfl ?_
    refine⟨_,_,_,H.ld EQ4 A8 (.tail _ (.tail _ (.tail _ mF1))) rfl,?_⟩
    have hcN:Cells w5.drew f.an (secs g.now):=(H.ownA (.tail _ (.tail _ (.tail _ mF2)))).cells
    have hsn:=hg.now _ (getElem_mem hnb)
    obtain⟨an,han⟩:=hcN.some (by
     intro h
     have:=congrArg List.length h
     rw[Il hg.now]at this
     simp at this;omega)
    refine AA han ⟨⟨by omega,by omega⟩,?_⟩
    rw[Int.toNat_natCast,Int.toNat_natCast]
    have hgd:g.now.getD n []=g.now[n]:=by simp[hnb]
    have hxl:(g.now[n].take (pick p)).length=pick p:=by rw[length_take];omega
    refine Hp.cpyP H EQ4 Jq Tt.size had (news:=bQ (g.now[n].take (pick p))) ?_ (by rw[AQ,hxl]) (PL _) hp512 (by rw[Il hfo];omega) ?_
    ·intro i u hi
     have h2:=ZN hg.now (List.getElem?_eq_getElem hnb)
     have h3:(secs g.now)[n*512+i]? =some u:=by
      have h4:(bQ g.now[n])[i]? =some u:=by
       have e1:bQ (g.now[n].take (pick p))=(bQ g.now[n]).take (pick p):=by simp[bQ,map_take]
       rw[e1,List.getElem?_take]at hi
       split at hi
       ·exact hi
       ·cases hi
      rw[<- h2,List.getElem?_take]at h4
      split at h4
      ·rwa [List.getElem?_drop]at h4
      ·cases h4
     obtain⟨ad',e1,e2⟩:=hcN _ u h3
     rw[han]at e1;cases e1
     rw[add_add];exact e2
    clear H;intro w6 H
    rw[secs_part hfo (by rw[hxl];exact hp512) hnl,hxl]at H
    have hm:mend g.now L n (pick p)=(fill L n).set n (g.now[n].take (pick p)++((fill L n).getD n []).drop (pick p)):=by
     rw[mend,if_neg hp0,hgd]
    rw[<- hm]at H
    have hml:(mend g.now L n (pick p)).length=(fill L n).length:=by rw[hm,length_set]
    rw[<- hml]at H⊢
    obtain⟨hm1,hm2,_⟩:=ZK hg.now hL (n:=n) (p:=pick p) hp512 hnb
    refine⟨AY.2 (by omega),?_⟩
    exact hnext (g.since.length-(k+1)) _ _ (by omega) ⟨k+1,mend g.now L n (pick p),a,c,a5,c5,rfl,by omega,by simp,hm1,hm2 hLn,hfd2,H,hc5',hb5',hl5⟩
 ·have hk3:k=g.since.length:=by omega
  subst hk3
  have hfd3:L=Ff g.now g.since ps g.firm:=by rw[<- hfd,List.drop_length];rfl
  have hLf:L=(g.found ps).now:=hfd3
  refine AL (Jr a L.length c (secs L) w4 (H.ok _ (.head _)) (OH _) (by omega)) ?_
  rintro e w5 ⟨a6,c6,rfl,H'⟩;replace H:=H.ext H';clear H'
  simp only[cons_append,nil_append]at H
  refine⟨_,_,_,rfl,?_⟩
  intro b7 w7 hn;replace H:=H.newI EQ4 .i64 hn;clear hn
  intro b8 w8 hn;replace H:=H.new EQ4 hn;clear hn
  refine⟨⟨b8,a6,c6,a,c,b7,[]⟩,a',c',rfl,rfl,?_,hcc,hbb,hll⟩
  have e1:flL ⟨b8,a6,c6,a,c,b7,[]⟩ (g.found ps)=[.blk b8 [.slice a6 L.length c6,.slice a L.length c,.map (some b7)] 80,.own 85 512 a6 L.length c6 (secs L),.own 85 512 a L.length c (secs L),.imap b7 .i64 []]:=by
   rw[hfd3];rfl
  rw[e1]
  rw[hFF]at H
  have H2:Hp B w w8 (.own 3 1 a3 g.since.length c3 ((g.since.map fun n:Nat=>(n:Int)).map (.int .i64))::([.blk b8 [.slice a6 L.length c6,.slice a L.length c,.map (some b7)] 80,.own 85 512 a6 L.length c6 (secs L),.own 85 512 a L.length c (secs L),.imap b7 .i64 []]++(flL f g++[.blk q [.slice a' (ps.drop g.since.length).length c'] 30]))):=by
   simp only[flL,cons_append,nil_append]
   ((try dsimp only[cons_append,nil_append]);(try dsimp only[cons_append,nil_append]at H);refine Hp.perm H ?_;(repeat(apply BH;(focus first|exact Bq|exact Bo|exact Bv|exact Bi|exact Bz|exact CG|exact CB|exact perm_p7|exact perm_p8|exact perm_p9)));exact List.Perm.refl _)
  exact H2.drop
theorem AC{L M:List Asn}(h:∀(f:List Asn->Nat)(g:Asn->Nat),f []=0->(∀x l,f (x::l)=g x+f l)->(∀a b,f (a++b)=f a+f b)->(∀a b,List.Perm a b->f a=f b)->f L=f M):L.Perm M:=by
 classical
 rw[List.perm_iff_count]
 intro z
 refine h (fun l=>l.count z) (fun x=>if x==z then 1 else 0) rfl (fun x l=>?_) (fun a b=>List.count_append) (fun a b hp=>hp.count_eq z)
 show List.count z (x::l)=_
 rw[List.count_cons,Nat.add_comm]
def EU(fs:List Fl):Nat:=(fs.map fun f=>f.since.length).sum
theorem Py:∀(fs:List Fl)(g:Fl)(ps:List Int),D6 (fs++[g]) ps=D6 fs ps++[g.found (ps.drop (EU fs))]
 | [],g,ps=>by simp[D6,EU]
 |f::r,g,ps=>by
  simp only[cons_append,D6,Py r g,EU,map_cons,sum_cons,drop_drop]
theorem Fg:∀(fs:List Fl)(ps:List Int),(D6 fs ps).length=fs.length
 | [],_=>rfl
 |f::r,ps=>by simp[D6,Fg r]
theorem Hq:∀{fs:List Fl}{ps:List Int}{g:Fl},g∈D6 fs ps->∃f∈fs,∃qs,g=f.found qs
 |f::r,ps,g,h=>by
  rcases mem_cons.1 h with rfl|h
  ·exact⟨f,.head _,_,rfl⟩
  ·obtain⟨f',h1,h2⟩:=Hq h
   exact⟨f',.tail _ h1,h2⟩
theorem take_snoc{α:Type}{l:List α}{k:Nat}{x:α}(h:l[k]? =some x):l.take (k+1)=l.take k++[x]:=by
 rw[List.take_add_one,h];rfl
theorem new_room(r:Nat)(h:r<=65536):Dk.new (r:Int)=⟨r,[],[],[],0,0,false⟩:=by
 have:(min (max (r:Int) 0) 65536).toNat=r:=by omega
 simp only[Dk.new,this]
theorem chsL_get{xs:List CW}{cs:List Ch}{k:Nat}{x:CW}{c:Ch}(h:xs[k]? =some x)(h':cs[k]? =some c):(chsL xs cs).Perm (chL x c++chsL (xs.eraseIdx k) (cs.eraseIdx k)):=J7 chL h h'
theorem chVs_get{xs:List CW}{cs:List Ch}{k:Nat}{x:CW}{c:Ch}(h:xs[k]? =some x)(h':cs[k]? =some c):(chVs xs cs)[k]? =some (chV x c):=by
 simp[chVs,List.getElem?_zipWith,h,h']
def dkC(x:DW)(d:Dk)(k:Nat):List Asn:=
 .blk x.b [.int .i64 (d.room:Int),.slice x.fa d.files.length x.fc,.map (some x.mn),.map (some x.mf),.slice x.ca d.chs.length x.cc,.int .i64 (d.armed:Int),.int .i64 (d.denied:Int),.bool d.dead] 71::
 .own 76 1 x.fa d.files.length x.fc (ptrs x.fs)::.smap x.mn x.na::.smap x.mf x.fi::.own 125 1 x.ca d.chs.length x.cc (chVs x.cs d.chs)::(Fj x.fs d.files++chsL (x.cs.eraseIdx k) (d.chs.eraseIdx k))
theorem dk_openC{x:DW}{d:Dk}{k:Nat}{f:CW}{g:Ch}(h1:x.cs[k]? =some f)(h2:d.chs[k]? =some g):(dkL x d).Perm (chL f g++dkC x d k):=by
 refine AC fun ff gg h0 hc ha hpm=>?_
 have:=hpm _ _ (chsL_get h1 h2)
 simp only[Ef,dkR,dkC,ha,hc,h0]at this⊢
 omega
theorem Kt(x:DW)(d:Dk):Asn.blk x.b [.int .i64 (d.room:Int),.slice x.fa d.files.length x.fc,.map (some x.mn),.map (some x.mf),.slice x.ca d.chs.length x.cc,.int .i64 (d.armed:Int),.int .i64 (d.denied:Int),.bool d.dead] 71∈dkL x d:=by rw[Ef];exact .head _
theorem mem_files(x:DW)(d:Dk):Asn.own 76 1 x.fa d.files.length x.fc (ptrs x.fs)∈dkL x d:=by rw[Ef];exact .tail _ (.head _)
theorem mem_mf(x:DW)(d:Dk):Asn.smap x.mf x.fi∈dkL x d:=by rw[Ef];exact .tail _ (.tail _ (.tail _ (.head _)))
theorem YZ(x:DW)(d:Dk):Asn.own 125 1 x.ca d.chs.length x.cc (chVs x.cs d.chs)∈dkL x d:=by rw[Ef];exact .tail _ (.tail _ (.tail _ (.tail _ (.head _))))
theorem MB(x:DW)(d:Dk)(hok:x.Ok d){N:Nat}(few:d.Few N)(hN:N<=1073741824)(names:Int)(pa:Option Addr)(pc:Nat)(ps:List Int)(w:World)(st:Std w (dkL x d))
  (hc:∀W,Chg (feet (dkL x d)) w W->Cells W pa (ints ps)) (hl:ps.length<=pc):
  Calls Tryz.prog 29 #[.pointer (some ⟨x.b,0,none⟩),.int .i64 names,.slice pa ps.length pc] w fun e w'=>∃y:DW,e=.returned (.pointer (some ⟨y.b,0,none⟩))/\y.Ok (d.bV names ps)/\
   Hp (feet (dkL x d)) w w' (dkL y (d.bV names ps)++dkL x d):=by
 apply bV.ok;unfold bV.vc
 have H:=Hp.Ap st
 generalize hB:feet (dkL x d)=B at H hc⊢
 intro q w1 hn
 have hqn:w.heap.size<=q:=hn.num▸Nat.le_refl _
 replace H:=H.new EQ4 hn;clear hn
 refine AA rfl ?_
 refine⟨_,H.ld EQ4 Ah (.tail _ (Kt x d)) rfl,?_⟩
 refine AL (Qc (d.room:Int) w1) ?_
 rintro e w2 ⟨y,rfl,hy,H'⟩;replace H:=H.ext H';clear H'
 rw[new_room d.room hok.dk.room]at hy H
 refine⟨_,rfl,?_⟩
 refine AA rfl ?_
 refine⟨_,_,_,H.ld EQ4 BA (mem_append_right _ (.tail _ (Kt x d))) rfl,?_⟩
 have hfl:=few.files
 have hcl:=few.chs
 refine Ae.mk (fun(m:Nat)(s:Int)(w':World)=>∃(k:Nat)(z:DW)(a':Option Addr)(c':Nat),m=d.files.length-k/\k<=d.files.length/\s=(k:Int)/\z.b=y.b/\z.Ok ⟨d.room,D6 (d.files.take k) ps,[],[],0,0,false⟩/\
   Hp B w w' (.blk q [.slice a' (ps.drop (EU (d.files.take k))).length c'] 30::(dkL z ⟨d.room,D6 (d.files.take k) ps,[],[],0,0,false⟩++dkL x d))/\
   (∀W,Cells W pa (ints ps)->Cells W a' (ints (ps.drop (EU (d.files.take k)))))/\(∀j∈blks a',j∈blks pa)/\(ps.drop (EU (d.files.take k))).length<=c') d.files.length ⟨0,y,pa,pc,by omega,by omega,rfl,rfl,hy,?_,fun _ h=>h,fun _ h=>h,hl⟩ ?_
 ·simp only[take_zero,EU,map_nil,List.sum_nil,drop_zero,D6]
  refine H.perm ?_
  (refine AC fun ff gg h0 hc ha hpm=>?_;simp only[ha,hc,h0];omega)
 clear H hy w1 w2
 rintro m s w1 next ⟨k,z,a',c',rfl,hk,rfl,hzb,hz,H,hcc,hbb,hll⟩ hnext
 refine AO (fun h=>?_) (fun h=>?_)
 ·have hkl:k<d.files.length:=by omega
  obtain⟨f,g,h1,h2,h3⟩:=hok.at hkl
  have hg:=V9 hok h2
  have htk:=take_snoc h2
  obtain⟨ad,ha,hld⟩:=H.ldO (P:=Tryz.prog) (w':=w1) (t:=76) (o:=Int.toNat (k:Int)*1) EQ4 BB (.tail _ (mem_append_right _ (mem_files x d))) (by rw[Int.toNat_natCast,Nat.mul_one];exact Qo h1)
  refine AA ha ⟨⟨by omega,by omega⟩,_,hld,?_⟩
  generalize hE:(⟨d.room,D6 (d.files.take k) ps,[],[],0,0,false⟩:Dk)=E at hz H
  have hEl:E.files.length=k:=by rw[<- hE];simp only[Fg,length_take];omega
  replace H:=H.drew
  rw[<- hzb]
  refine AA rfl ?_
  refine⟨_,_,_,H.ld EQ4 BA (.tail _ (mem_append_left _ (Kt z E))) rfl,?_⟩
  generalize hqs:ps.drop (EU (d.files.take k))=qs at H hcc hll
  have hqs2:ps.drop (EU (d.files.take (k+1)))=qs.drop g.since.length:=by
   rw[htk,<- hqs,drop_drop]
   congr 1
   simp[EU]
  have hop:=KY h1 h2
  have H1:Hp B w w1.drew ((flL f g++[.blk q [.slice a' qs.length c'] 30])++(dkL z E++dkB x d k)):=by
   refine H.perm (AC fun ff gg h0 hc ha hpm=>?_)
   have:=hpm _ _ hop
   simp only[ha,hc,h0]at this⊢
   omega
  have hown:∀j∈feet (flL f g++[.blk q [.slice a' qs.length c'] 30]),j∈B\/w.heap.size<=j:=by
   intro j hf
   obtain⟨b,hb,hbf⟩:=Dy.1 hf
   exact H1.own b (mem_append_left _ hb) j hbf
  refine AL (found_spec f g hg (hok.keys k f g h1 h2) (by have:=few.now g (mem_of_getElem? h2);omega) q a' c' qs w1.drew H1.std1 (fun W hW=>hcc W (hc W (H1.chg.trans hW (fun k hk=>hk) hown))) hll) ?_
  rintro e w2 ⟨f',a2,c2,rfl,hal,H',hc2,hb2,hl2⟩
  replace H1:=H1.useL H';clear H'
  have hc2w:∀W,Cells W pa (ints ps)->Cells W a2 (ints (qs.drop g.since.length)):=fun W hW=>hc2 W (hcc W hW)
  obtain⟨hgf,hgl⟩:=KJ hg qs
  have hEn:(⟨d.room,D6 (d.files.take (k+1)) ps,[],[],0,0,false⟩:Dk)= {E with files:=E.files++[g.found qs]}:=by
   rw[htk,Py,hqs,<- hE]
  refine⟨_,rfl,?_⟩
  have H2:Hp B w w2 (.blk z.b [.int .i64 (E.room:Int),.slice z.fa E.files.length z.fc,.map (some z.mn),.map (some z.mf),.slice z.ca E.chs.length z.cc,.int .i64 (E.armed:Int),.int .i64 (E.denied:Int),.bool E.dead] 71::
    .own 76 1 z.fa E.files.length z.fc (ptrs z.fs)::(flL f' (g.found qs)++(.blk q [.slice a2 (qs.drop g.since.length).length c2] 30::(.smap z.mn z.na::.smap z.mf z.fi::.own 125 1 z.ca E.chs.length z.cc (chVs z.cs E.chs)::(dkR z E++dkL x d))))):=by
   refine H1.perm (AC fun ff gg h0 hc ha hpm=>?_)
   have:=hpm _ _ hop
   rw[Ef z E]
   simp only[ha,hc,h0]at this⊢
   omega
  refine⟨H2.ld EQ4 BA (.head _) rfl,?_⟩
  intro b w3 hn;replace H2:=H2.new EQ4 hn;clear hn
  refine⟨H2.ld EQ4 BA (.tail _ (.head _)) rfl,?_⟩
  refine Hp.app bC (by omega) H2.BF EQ4 (Blk.src Zo ((H2.go (w':=w3.drew) EQ4).blk (.head _)) rfl rfl) (by simp only[maxLen];omega) (by omega) ?_
  clear H2 H1;intro a7 c7 w4 H2
  replace H2:=H2.drop1
  refine AA rfl ?_
  refine Hp.st H2.Aq EQ4 BA rfl rfl (by simp) rfl ?_
  clear H2;intro w5 H2
  simp only[set_cons_zero,set_cons_succ]at H2
  refine⟨AY.2 (by omega),?_⟩
  refine hnext (d.files.length-(k+1)) _ _ (by omega) ⟨k+1,{z with fa:=a7,fc:=c7,fs:=z.fs++[f']},a2,c2,rfl,by omega,by simp,hzb,?_,?_,by rw[hqs2];exact hc2w,fun j hj=>hbb j (hb2 j hj),by rw[hqs2];exact hl2⟩
  ·rw[hEn]
   exact hz.file f' (g.found qs) hgf (by rw[hal];simp[Fl.found]) a7 c7
  ·rw[hEn,hqs2]
   refine H2.perm (AC fun ff gg h0 hc ha hpm=>?_)
   have:=hpm _ _ (WH hz f' (g.found qs) a7 c7)
   rw[Ef {z with fa:=a7,fc:=c7,fs:=z.fs++[f']}]
   simp only[ha,hc,h0,length_append,length_singleton,TY]at this⊢
   omega
 ·have hk2:k=d.files.length:=by omega
  subst hk2
  rw[take_length]at hz H
  generalize hE:(⟨d.room,D6 d.files ps,[],[],0,0,false⟩:Dk)=E at hz H
  clear hcc hbb hll
  obtain⟨BX,hBX⟩:∃BX:Asn,BX=.blk q [.slice a' (ps.drop (EU d.files)).length c'] 30:=⟨_,rfl⟩
  rw[<- hBX]at H
  refine AA rfl ?_
  refine⟨_,H.ld EQ4 Aj (.tail _ (mem_append_right _ (Kt x d))) rfl,?_⟩
  refine AL (Jy x.mf x.fi w1 (H.ok (.smap x.mf x.fi) (.tail _ (mem_append_right _ (mem_mf x d))))) ?_
  rintro e w2 ⟨b1,rfl,H'⟩;replace H:=H.ext H';clear H'
  refine⟨_,rfl,?_⟩
  rw[<- hzb]
  refine AA rfl ?_
  have H2:Hp B w w2 (.blk z.b [.int .i64 (E.room:Int),.slice z.fa E.files.length z.fc,.map (some z.mn),.map (some z.mf),.slice z.ca E.chs.length z.cc,.int .i64 (E.armed:Int),.int .i64 (E.denied:Int),.bool E.dead] 71::
    .own 76 1 z.fa E.files.length z.fc (ptrs z.fs)::.smap b1 x.fi::BX::(.smap z.mn z.na::.smap z.mf z.fi::.own 125 1 z.ca E.chs.length z.cc (chVs z.cs E.chs)::(dkR z E++dkL x d))):=by
   refine H.perm (AC fun ff gg h0 hc ha hpm=>?_)
   rw[Ef z E]
   simp only[ha,hc,h0]
   omega
  refine Hp.st H2 EQ4 Aj rfl rfl (by simp) rfl ?_
  clear H H2;intro w3 H
  simp only[set_cons_zero,set_cons_succ]at H
  replace H:=H.drew
  refine AA rfl ?_
  have mx:∀a,a∈dkL x d->∀l:List Asn,∀(p1 p2 p3 p4 p5 p6 p7:Asn),a∈p1::p2::p3::p4::p5::p6::p7::(l++dkL x d):=fun a ha l p1 p2 p3 p4 p5 p6 p7=>by simp[ha]
  refine⟨_,_,_,H.ld EQ4 BC (mx _ (Kt x d) _ _ _ _ _ _ _ _) rfl,?_⟩
  refine AA rfl ?_
  refine⟨_,_,_,H.ld EQ4 BC (mx _ (Kt x d) _ _ _ _ _ _ _ _) rfl,?_⟩
  have hcap:=(H.ownA (mx _ (YZ x d) _ _ _ _ _ _ _ _)).le
  refine⟨⟨by omega,by omega⟩,?_⟩
  obtain⟨M,hM⟩:∃M:Nat,M=(min (max names 0) (d.chs.length:Int)).toNat:=⟨_,rfl⟩
  rw[<- hM]
  have hMl:M<=d.chs.length:=by omega
  obtain⟨YR,hYR⟩:∃YR:List Asn,YR=.own 76 1 z.fa E.files.length z.fc (ptrs z.fs)::BX::(.smap z.mn z.na::.smap z.mf z.fi::.own 125 1 z.ca E.chs.length z.cc (chVs z.cs E.chs)::dkR z E):=⟨_,rfl⟩
  refine Ae.mk (fun(m:Nat)(s:Int)(w':World)=>∃(j:Nat)(al:List (ByteArray×Value)),m=M-j/\j<=M/\s=(j:Int)/\al.Perm (nvl (ons d.firm (d.chs.take j)))/\
    Hp B w w' (.smap b1 al::.blk z.b [.int .i64 (E.room:Int),.slice z.fa E.files.length z.fc,.map (some b1),.map (some z.mf),.slice z.ca E.chs.length z.cc,.int .i64 (E.armed:Int),.int .i64 (E.denied:Int),.bool E.dead] 71::(YR++dkL x d))) M ⟨0,x.fi,by omega,by omega,rfl,hok.fi,?_⟩ ?_
  ·rw[hYR]
   refine H.perm ?_
   (refine AC fun ff gg h0 hc ha hpm=>?_;simp only[ha,hc,h0];omega)
  clear H w1 w2 w3 mx
  rintro m s w1 next ⟨j,al,rfl,hj,rfl,hal,H⟩ hnext
  have hri:bi (ons d.firm (d.chs.take j)):=Lu _ hok.dk.rise
  refine AO (fun h=>?_) (fun h=>?_)
  ·have hjl:j<d.chs.length:=by omega
   have hjc:j<x.cs.length:=by rw[hok.cl];exact hjl
   obtain⟨cw,hcw⟩:∃cw,x.cs[j]? =some cw:=⟨_,List.getElem?_eq_getElem hjc⟩
   obtain⟨c,hcc⟩:∃c,d.chs[j]? =some c:=⟨_,List.getElem?_eq_getElem hjl⟩
   obtain⟨ad,ha,hld⟩:=H.ldO (P:=Tryz.prog) (w':=w1) (t:=125) (o:=Int.toNat (j:Int)*1) (v:=chV cw c) EQ4 sclC (.tail _ (.tail _ (mem_append_right _ (YZ x d)))) (by rw[Int.toNat_natCast,Nat.mul_one];exact chVs_get hcw hcc)
   refine AA ha ⟨⟨by omega,by omega⟩,_,hld,?_⟩
   refine AA rfl ?_
   refine⟨_,H.ld EQ4 Aj (.tail _ (.head _)) rfl,?_⟩
   have hop:=dk_openC hcw hcc
   have H1:Hp B w w1 ((.smap b1 al::chL cw c)++(.blk z.b [.int .i64 (E.room:Int),.slice z.fa E.files.length z.fc,.map (some b1),.map (some z.mf),.slice z.ca E.chs.length z.cc,.int .i64 (E.armed:Int),.int .i64 (E.denied:Int),.bool E.dead] 71::(YR++dkC x d j))):=by
    refine H.perm (AC fun ff gg h0 hc ha hpm=>?_)
    have:=hpm _ _ hop
    simp only[ha,hc,h0]at this⊢
    omega
   refine XH (chX_spec cw c (hok.dk.chs c (mem_of_getElem? hcc)) b1 al w1 H1.std1) ?_
   rintro e w2 ⟨rfl,H'⟩
   replace H1:=H1.useL H';clear H'
   refine⟨rfl,AY.2 (by omega),?_⟩
   refine hnext (M-(j+1)) _ _ (by omega) ⟨j+1,onA al c,rfl,by omega,by simp,?_,?_⟩
   ·have e1:ons d.firm (d.chs.take (j+1))=c.on (ons d.firm (d.chs.take j)):=by rw[take_snoc hcc];simp[ons]
    rw[e1]
    exact WT hri hal c
   ·refine H1.perm (AC fun ff gg h0 hc ha hpm=>?_)
    have:=hpm _ _ hop
    simp only[ha,hc,h0]at this⊢
    omega
  ·have hj2:j=M:=by omega
   subst hj2
   refine AA rfl ?_
   refine⟨_,H.ld EQ4 Aj (.tail _ (.head _)) rfl,?_⟩
   refine AL (Jy b1 al w1 (H.ok (.smap b1 al) (.head _))) ?_
   rintro e w2 ⟨b2,rfl,H'⟩;replace H:=H.ext H';clear H'
   refine⟨_,rfl,?_⟩
   refine AA rfl ?_
   refine Hp.st (H.BF) EQ4 Aj rfl rfl (by simp) rfl ?_
   clear H;intro w3 H
   simp only[set_cons_zero,set_cons_succ]at H
   have hEf:E.files=D6 d.files ps/\E.room=d.room/\E.chs=[]/\E.armed=0/\E.denied=0/\E.dead=false:=by rw[<- hE];simp
   have hcr:d.bV names ps= {E with firm:=ons d.firm (d.chs.take j)}:=by
    rw[<- hE,Dk.bV,hM]
   refine⟨{z with mn:=b1,na:=al,mf:=b2,fi:=al},rfl,?_,?_⟩
   ·rw[hcr]
    have hzl:=hz.fl
    have hlen:E.files.length=d.files.length:=by rw[hEf.1,Fg]
    have hno:=Sz (m:=d.files.length) (d.chs.take j) hok.dk.firm fun c hc=>hok.dk.chs c (List.mem_of_mem_take hc)
    refine⟨⟨hz.dk.room,hz.dk.files,fun p hp=>by rw[hlen];exact hno p hp,hz.dk.chs,hri,hz.dk.armed,hz.dk.denied⟩,hz.fl,hz.cl,hz.keys,?_,hal⟩
    show al.Perm (nvl (ons (ons d.firm (d.chs.take j)) E.chs))
    rw[hEf.2.2.1]
    exact hal
   ·rw[hcr]
    have H3:Hp B w w3 ((BX::.smap z.mn z.na::.smap z.mf z.fi::[])++(dkL {z with mn:=b1,na:=al,mf:=b2,fi:=al} {E with firm:=ons d.firm (d.chs.take j)}++dkL x d)):=by
     refine H.perm (AC fun ff gg h0 hc ha hpm=>?_)
     rw[Ef {z with mn:=b1,na:=al,mf:=b2,fi:=al},hYR]
     simp only[ha,hc,h0,dkR]
     omega
    exact H3.drop.drop.drop
structure SC(F:List Nat)(w:World)(a:Option Addr)(n c sz:Nat)(xs:List Value):Prop where
 cells:Cells w a xs
 inF:∀k∈blks a,k∈F
 len:xs.length=n*sz
 le:n<=c
 nil:a=none->n=0
section
variable{F G:List Nat}{w w':World}{a:Option Addr}{n c sz o m:Nat}{xs:List Value}{t:TypeId}{v:Value}{P:Program}
end
structure Op where
 kind:Int
 n:Int
 name:ByteArray
 to:ByteArray
 b:List UInt8
 picks:List Int
structure OW where
 ba:Option Addr
 bc:Nat
 pa:Option Addr
 pc:Nat
structure OD(F:List Nat)(w:World)(ow:OW)(o:Op):Prop where
 b:SC F w ow.ba o.b.length ow.bc 1 (bQ o.b)
 picks:SC F w ow.pa o.picks.length ow.pc 1 (ints o.picks)
def opC(p:OW×Op):List Value:=[.int .i64 p.2.kind,.int .i64 p.2.n,.string p.2.name,.string p.2.to,.slice p.1.ba p.2.b.length p.1.bc,.slice p.1.pa p.2.picks.length p.1.pc]
def opCs(os:List (OW×Op)):List Value:=os.flatMap opC
def opF(p:OW×Op):List Nat:=blks p.1.ba++blks p.1.pa
structure Scr(W:World)(a:Option Addr)(os:List (OW×Op)):Prop where
 cells:Cells W a (opCs os)
 ops:∀p∈os,OD (opF p) W p.1 p.2
 rng:∀p∈os,p.2.n<=9223372036854775807
end Go.Proofs.YtdeebigmpffnbaaGreat
namespace Go.Vc
open Go Go.ChangeShapes Go.WideShapes Go.WideElems
noncomputable section
def RdK(P:Program)(w:World):Nat->TypeId->(List Value->Prop)->Prop
 |0,_,K=>∃cs,K cs
 |n+1,t,K=>match P.underlying t with
  |some (.int k)=>∃i,inR k i/\K [.int k i]
  |some .bool=>∃b,K [.bool b]
  |some .string=>∃s:ByteArray,s.size<=reachBytes/\K [.string s]
  |some (.slice e)=>∃(a:Option Addr)(cap:Nat)(els:List (List Value)),els.length<=cap/\cap<=maxLen/\els.length*P.bytesOf e<=reachBytes/\(a=none->els=[])/\(∀x∈els,RdK P w n e (fun cs=>x=cs))/\Cells w a els.flatten/\K [.slice a els.length cap]
  |some (.struct fs)=>exLs (RdK P w n) (fs.toList.map (·.type)) K
  |_=>∃cs,K cs
def ofC(b:Option Bool)(cs:List Value):Value:=match b with
 |some true=>.agg cs.toArray
 |_=>cs.headD .nilFunc
def RdA(P:Program)(w:World)(n:Nat):List TypeId->(List Value->Prop)->Prop
 | [],K=>K []
 |t::r,K=>RdK P w n t fun cs=>RdA P w n r fun l=>K (ofC (aggB P t) cs::l)
section
variable{H:Type}{enc:TypeId×Value->H}{P:Program}{w:World}{base:Nat}{spare:Nat->Bool}{held:Bool}
theorem lit_inR{k:IntKind}{n:Int}(h:(Lit.int k n).wf=true):inR k n:=by
 simpa [Lit.wf,inR]using h
theorem ZF{f:TypeId->(List Value->Prop)->Prop}:∀(l:List TypeId)(p:List (List Value))(K:List Value->Prop),p.length=l.length->(∀(i:Nat)(t:TypeId)(x:List Value),l[i]? =some t->p[i]? =some x->∀K':List Value->Prop,K' x->f t K')->K p.flatten->exLs f l K
 | [],[],K,_,_,hk=>by simpa [exLs]using hk
 |t::r,x::q,K,hl,hf,hk=>by
  rw[exLs]
  refine hf 0 t x rfl rfl _ ?_
  refine ZF r q _ (by simpa using hl) (fun i t y h1 h2=>hf (i+1) t y h1 h2) ?_
  simpa using hk
theorem Wl:∀(sz:List Nat)(cs:List Value),cs.length=sz.sum->((List.range sz.length).map fun i=>(cs.drop (sz.take i).sum).take (sz.getD i 0)).flatten=cs
 | [],cs,h=>by
  have:cs=[]:=List.eq_nil_of_length_eq_zero (by simpa using h)
  simp[this]
 |n::r,cs,h=>by
  have ih:=Wl r (cs.drop n) (by simp at h⊢;omega)
  rw[length_cons,List.range_succ_eq_map,map_cons,flatten_cons,map_map]
  have e:((fun i=>(cs.drop ((n::r).take i).sum).take ((n::r).getD i 0))∘Nat.succ)=fun i=>((cs.drop n).drop (r.take i).sum).take (r.getD i 0):=by
   funext i
   simp[drop_drop]
  rw[e,ih]
  simp[take_append_drop]
theorem rdK(hl:laidOutB P=true):∀(n:Nat)(fuel:Nat)(t:TypeId)(cs:List Value)(x:DataW H×List MemPlace)(K:List Value->Prop),t<P.types.size->DataW.trod enc P w base spare held fuel t cs=some x->(x.1.weights P t).all (· <=reachBytes)=true->K cs->RdK P w n t K:=by
 intro n
 induction n with
 |zero=>intro fuel t cs x K _ _ _ hk;exact⟨cs,hk⟩
 |succ n ih=>
  intro fuel t cs x K ht h hwt hk
  unfold RdK
  split
  ·rename_i k hu
   obtain⟨i,rfl,_,hw⟩:=DataW.trod_int hu h
   exact⟨i,lit_inR hw,hk⟩
  ·rename_i hu
   obtain⟨b,rfl,_⟩:=DataW.trod_bool hu h
   exact⟨b,hk⟩
  ·rename_i hu
   obtain⟨s,rfl,rfl,hs⟩:=DataW.trod_string hu h
   simp only[DataW.weights,all_cons,List.all_nil,Bool.and_true,decide_eq_true_eq]at hwt
   exact⟨s,by rw[Array.length_toList]at hwt;exact hwt,hk⟩
  ·rename_i e hu
   have he:e<P.types.size:=kid_slice hl ht hu
   rcases DataW.trod_slice hu h with⟨rfl,_⟩|⟨a,len,cap,elems,rest,m,rfl,rfl,hxx,hb,h1,h2,hlen,hel,hr1,hr2⟩
   ·exact⟨none,0,[],Nat.le_refl _,by simp[maxLen],by rw[length_nil,Nat.zero_mul];exact Nat.zero_le _,fun _=>rfl,by simp,by intro j v hj;simp at hj,hk⟩
   ·rw[hxx]at hwt
    simp only[DataW.weights,hu,all_cons,all_append,Bool.and_eq_true,decide_eq_true_eq,length_map]at hwt
    have hwe:∀z∈elems,(z.1.weights P e).all (· <=reachBytes)=true:=by
     have hmem:∀(l:List (DataW H)),(DataW.weightsAll P e l).all (· <=reachBytes)=true->∀d∈l,(d.weights P e).all (· <=reachBytes)=true:=by
      intro l
      induction l with
      |nil=>intro _ d hd;cases hd
      |cons x r ihr=>
       intro hl d hd
       simp only[DataW.weightsAll,all_append,Bool.and_eq_true]at hl
       rcases mem_cons.1 hd with rfl|hd
       ·exact hl.1
       ·exact ihr hl.2 d hd
     exact fun z hz=>hmem _ hwt.2.1 _ (List.mem_map_of_mem hz)
    have hall:∀i,i<len->∃y,w.cells? base (a.add (i*P.cellsOf e)) (P.cellsOf e)=some y/\∃z∈elems,DataW.trod enc P w base spare held m e y=some z:=by
     intro i hi
     have h3:=hel i hi
     rw[List.getElem?_eq_getElem (by omega),Option.bind_eq_some_iff]at h3
     obtain⟨y,hy,hz⟩:=h3
     exact⟨y,hy,_,getElem_mem _,hz⟩
    obtain⟨els,hels,hget⟩:∃els:List (List Value),els.length=len/\∀i y,els[i]? =some y->w.cells? base (a.add (i*P.cellsOf e)) (P.cellsOf e)=some y/\∃z∈elems,DataW.trod enc P w base spare held m e y=some z:=by
     clear hel hlen h hk h1 hr1 hr2 hxx hwt
     induction len with
     |zero=>exact⟨[],rfl,by simp⟩
     |succ q ihq=>
      obtain⟨els,e1,e2⟩:=ihq fun i hi=>hall i (by omega)
      obtain⟨y,hy⟩:=hall q (by omega)
      refine⟨els++[y],by simp[e1],fun i z hz=>?_⟩
      rw[List.getElem?_append]at hz
      split at hz
      ·exact e2 i z hz
      ·have hi:i=q:=by
        have:=(List.getElem?_eq_some_iff.1 hz).1
        simp at this;omega
       subst hi
       simp[e1]at hz;subst hz
       exact hy
    have hsz:∀y∈els,y.length=P.cellsOf e:=by
     intro y hy
     obtain⟨i,hi⟩:=List.getElem?_of_mem hy
     exact(World.cells?_some (hget i y hi).1).2.1
    refine⟨some a,cap,els,by omega,h2,Nat.le_trans (Nat.mul_le_mul_right _ (by omega)) hwt.1,by simp,?_,?_,by rw[hels];exact hk⟩
    ·intro y hy
     obtain⟨i,hi⟩:=List.getElem?_of_mem hy
     obtain⟨_,z,hzm,hz⟩:=hget i y hi
     exact ih m e y z _ he hz (hwe z hzm) rfl
    ·have hcell:∀(els:List (List Value))(i0:Nat),(∀i y,els[i]? =some y->y.length=P.cellsOf e/\∀j v,y[j]? =some v->w.cell? (a.add ((i0+i)*P.cellsOf e+j))=some v)->∀j v,els.flatten[j]? =some v->w.cell? (a.add (i0*P.cellsOf e+j))=some v:=by
      intro els
      induction els with
      |nil=>intro i0 _ j v hj;simp at hj
      |cons y r ihr=>
       intro i0 hh j v hj
       obtain⟨hy,hyc⟩:=hh 0 y rfl
       rw[flatten_cons,List.getElem?_append]at hj
       split at hj
       ·simpa using hyc j v hj
       ·have:=ihr (i0+1) (fun i z hz=>by
         have:=hh (i+1) z hz
         rw[show i0+1+i=i0+(i+1) by omega];exact this) (j-y.length) v hj
        rw[Nat.add_mul,Nat.one_mul]at this
        rw[show i0*P.cellsOf e+j=i0*P.cellsOf e+P.cellsOf e+(j-y.length) by omega];exact this
     intro j v hj
     refine⟨a,rfl,?_⟩
     have:=hcell els 0 (fun i y hi=>⟨hsz y (mem_of_getElem? hi),fun j v hv=>by
      have:=(World.cells?_some (hget i y hi).1).2.2 j (by rw[<- hsz y (mem_of_getElem? hi)];exact(List.getElem?_eq_some_iff.1 hv).1)
      rw[add_add,hv]at this
      simpa using this⟩) j v hj
     simpa using this
  ·rename_i fs hu
   obtain⟨xs,m,_,rfl,hcl,hxl,hf⟩:=DataW.trod_struct hu h
   obtain⟨k1,k2,k3⟩:=kid_struct hl ht hu
   have hws:∀(ts:List TypeId)(l:List (DataW H)),(DataW.weightsEach P ts l).all (· <=reachBytes)=true->∀(i:Nat) t d,ts[i]? =some t->l[i]? =some d->(d.weights P t).all (· <=reachBytes)=true:=by
    intro ts
    induction ts with
    |nil=>intro l _ i t d h1;simp at h1
    |cons t0 r ihr=>
     intro l hl i t d h1 h2
     cases l with
     |nil=>simp at h2
     |cons d0 l=>
      simp only[DataW.weightsEach,all_append,Bool.and_eq_true]at hl
      cases i with
      |zero=>simp at h1 h2;subst h1 h2;exact hl.1
      |succ i=>exact ihr l hl.2 i t d (by simpa using h1) (by simpa using h2)
   simp only[DataW.weights,hu]at hwt
   have hcut:=Wl (fs.toList.map fun f=>P.cellsOf f.type) cs (by rw[hcl,k2])
   refine ZF _ _ _ ?_ ?_ (by rw[hcut];exact hk)
   ·simp
   ·intro i t y h1 h2 K' hK'
    simp only[List.getElem?_map,Option.map_eq_some_iff]at h1
    obtain⟨f,hfi,rfl⟩:=h1
    have hi:i<fs.toList.length:=(List.getElem?_eq_some_iff.1 hfi).1
    simp only[length_map,List.getElem?_map,List.getElem?_range hi,Option.map_some,Option.some.injEq]at h2
    have e3:=k3 i f hfi
    rw[<- map_take,<- e3]at h2
    have e4:(fs.toList.map fun f=>P.cellsOf f.type).getD i 0=P.cellsOf f.type:=by
     rw[getD_eq_getElem?_getD,List.getElem?_map,hfi];rfl
    rw[e4]at h2
    have h5:=hf i f (by simpa using hfi)
    rw[h2]at h5
    have h6:i<xs.length:=by rw[hxl];simpa using hi
    rw[List.getElem?_eq_getElem h6]at h5
    refine ih m f.type y _ _ (k1 f (mem_of_getElem? hfi)) h5 (hws _ _ hwt i _ _ (by rw[List.getElem?_map,hfi];rfl) (by rw[List.getElem?_map,List.getElem?_eq_getElem h6];rfl)) hK'
  ·exact⟨cs,hk⟩
theorem ofC_eq{r:Reach}{b0:Nat}{t:TypeId}{v:Value}(hs:match P.underlying t with|some (.int _)|some .bool|some .string|some (.slice _)|some (.struct _)=>True|_=>False)(hval:Value.okWide P w r b0 t v):ofC (aggB P t) v.cells.toList=v:=by
 cases hu:P.underlying t with
 |none=>rw[hu]at hs;exact hs.elim
 |some d=>
  rw[hu]at hs
  cases d<;>try exact hs.elim
  ·obtain⟨b,rfl⟩:=okWide_bool hu hval;simp[ofC,aggB,hu,Value.cells]
  ·obtain⟨b,rfl⟩:=okWide_int hu hval;simp[ofC,aggB,hu,Value.cells]
  ·obtain⟨b,rfl⟩:=okWide_string hu hval;simp[ofC,aggB,hu,Value.cells]
  ·obtain⟨a,l,c,rfl⟩:=okWide_slice hu hval;simp[ofC,aggB,hu,Value.cells]
  ·obtain⟨cs,rfl,_⟩:=okWide_struct hu hval;simp[ofC,aggB,hu,Value.cells]
def Ro(P:Program)(t:TypeId):Bool:=Nat.blt t P.types.size&&P.readableRec t&&match P.underlying t with
 |some (.int _)|some .bool|some .string|some (.slice _)|some (.struct _)=>true
 |_=>false
theorem Xe{t:TypeId}(h:Ro P t=true):t<P.types.size/\P.readableRec t=true/\match P.underlying t with|some (.int _)|some .bool|some .string|some (.slice _)|some (.struct _)=>True|_=>False:=by
 simp only[Ro,Bool.and_eq_true]at h
 refine⟨Nat.lt_of_lt_of_le (Nat.lt_succ_self _) (Nat.le_of_ble_eq_true h.1.1),h.1.2,?_⟩
 have:=h.2
 split at this<;>simp_all
theorem rdA(hl:laidOutB P=true){r:Reach}{b0:Nat}(n:Nat):∀(ts:List TypeId)(vs:List Value)(ds:List (DataW H))(ps:List MemPlace)(K:List Value->Prop),ts.all (Ro P)=true->(∀(j:Nat) t v,ts[j]? =some t->vs[j]? =some v->Value.okWide P w r b0 t v)->
  DataW.TrodAll enc P w base spare held ts vs ds ps->(DataW.weightsEach P ts ds).all (· <=reachBytes)=true->K vs->RdA P w n ts K
 | [],[],[],ps,K,_,_,_,_,hk=>hk
 |t::ts,v::vs,d::ds,ps,K,hp,hv,⟨p,q,⟨fuel,h1⟩,h2,_⟩,hwt,hk=>by
  simp only[DataW.weightsEach,all_append,Bool.and_eq_true]at hwt
  simp only[all_cons,Bool.and_eq_true]at hp
  obtain⟨p1,p2,p3⟩:=Xe hp.1
  rw[RdA]
  refine rdK hl n fuel t _ _ _ p1 h1 hwt.1 ?_
  refine rdA hl n ts vs ds q _ hp.2 (fun j t v h3 h4=>hv (j+1) t v h3 h4) h2 hwt.2 ?_
  rw[ofC_eq p3 (hv 0 t v rfl rfl)]
  exact hk
theorem Ph(hl:laidOutB P=true){W W':World}{sp:Nat->Bool}(hb:Go.RowKit.Below W.heap.size W W'):∀{ts:List TypeId}{vs:List Value}{ds:List (DataW H)}{ps:List MemPlace},ts.all (Ro P)=true->(∀x∈ps,x.block<W.heap.size)->(∀x∈ps,sp x.block=true)->
  DataW.TrodAll enc P W 0 (fun _=>true) true ts vs ds ps->DataW.TrodAll enc P W' 0 sp true ts vs ds ps
 | [],[],[],_,_,_,_,h=>h
 |_::_,_::_,_::_,_,hp,hlt,hs,⟨p,q,h1,h2,e⟩=>by
  simp only[all_cons,Bool.and_eq_true]at hp
  obtain⟨p1,p2,p3⟩:=Xe hp.1
  exact⟨p,q,Trod_stays hl p2 p1 h1 (fun x hx=>hb.same (hlt x (by rw[e];exact mem_append_left _ hx))) (fun x hx=>hs x (by rw[e];exact mem_append_left _ hx)),
   Ph hl hb hp.2 (fun x hx=>hlt x (by rw[e];exact mem_append_right _ hx)) (fun x hx=>hs x (by rw[e];exact mem_append_right _ hx)) h2,e⟩
theorem Pq{W:World}:∀{ts:List TypeId}{vs:List Value}{ds:List (DataW H)}{ps:List MemPlace},DataW.TrodAll enc P W base spare held ts vs ds ps->ds.length=ts.length
 | [],[],[],_,_=>rfl
 |_::_,_::_,_::_,_,⟨_,_,_,h2,_⟩=>by simp[Pq h2]
end
theorem Chg.below{w w':World}(h:Chg [] w w'):Go.RowKit.Below w.heap.size w w':=⟨h.1,h.2.1,h.2.2.1,h.size,fun k hk=>h.2.2.2.2 k hk (by simp)⟩
theorem law_lift{C:Checked}{os:Os}{H:Type}{enc:TypeId×Value->H}(f:FuncId)(fn:Func){s:ChangeSpec}(n:Nat){t0:TypeId}(own:ownKnob C.prog.godebug=none)(started:os.Started)(noInit:C.prog.inits.idxOf? f=none)(hfn:C.prog.funcs[f]? =some fn)
  (hl:laidOutB C.prog=true) (hpl:fn.params.toList.all (Ro C.prog)=true) (hsv:s.vars=[]) (hrt:fn.resultTypes= #[t0]) (hb:C.prog.underlying t0=some .bool)
  (hsp:∀ds:List (DataW H),ds.length=fn.params.toList.length->s.fn H ds= {results:=[.lit (.bool true)],args:=ds})
  (witness:∃(w:World)(tape:Tape)(i:Input),w.os=os/\(w.forCall tape i).Shaped C.prog/\i.vars=[]/\Input.okWide C.prog (w.forCall tape i) .any w.heap.size f i/\
   s.pre6 enc C.prog fn [] false (w.forCall tape i).memory i.args/\({}:Assume).holds C.prog (lone (Frame.enter C.prog f i.args .normal) [] (w.forCall tape i)))
  (contract:∀(W:World)(args:Array Value),RdA C.prog W n fn.params.toList (fun l=>args.toList=l)->Calls C.prog f args W fun e W'=>e=.returned (.bool true)/\Chg [] W W'):
  ReturnsInHanded {} C os f .any (s.pre6 enc C.prog fn [] false) (s.post enc C.prog fn false true false false):=by
 refine returnsInHanded_of_calls own started noInit witness ?_
 intro w0 tape inp _ _ _ hok hpre _
 obtain⟨_,_,_,fn',hfn',_,_,_,_,hval⟩:=hok
 have efn:fn'=fn:=Option.some.inj (hfn'.symm.trans hfn)
 subst efn
 obtain⟨⟨ds,gs,before,hW0,_⟩,hsz⟩:=hpre
 have hwts:=hsz.weights hW0
 have hW:=DataW.Whole.of_heap (w':=w0.forCall tape inp) (by rfl) hW0
 clear hsz hW0
 suffices hmain:Calls C.prog f inp.args (w0.forCall tape inp) fun e W'=>∃v,e=.returned v/\s.post enc C.prog fn' false true false false (w0.forCall tape inp) inp.args v W' from hmain.mono fun e W' ⟨v,he,hp⟩=>by
  subst he
  exact ChangeSpec.post_blind hp
 generalize w0.forCall tape inp=W at hW hval
 generalize inp.args=args at hW hval
 have hW':=hW
 obtain⟨p,q,hA,hV,rfl,hfz,hnd⟩:=hW
 rw[hsv]at hV
 obtain⟨rfl,rfl⟩:=trodVars_none hV
 have hlen:=Pq hA
 have hwA:(DataW.weightsEach C.prog (fn'.params.toList++(OpenSpec.ofChange s).bare.plain.varTypes C.prog) (ds++[])).all (· <=reachBytes)=true->(DataW.weightsEach C.prog fn'.params.toList ds).all (· <=reachBytes)=true:=by
  rw[append_nil]
  have:∀(ts us:List TypeId)(l:List (DataW H)),l.length=ts.length->DataW.weightsEach C.prog (ts++us) l=DataW.weightsEach C.prog ts l:=by
   intro ts
   induction ts with
   |nil=>intro us l hl;have:l=[]:=List.eq_nil_of_length_eq_zero hl;subst this;cases us<;>rfl
   |cons t r ih=>
    intro us l hl
    cases l with
    |nil=>cases hl
    |cons d l=>simp only[cons_append,DataW.weightsEach];rw[ih us l (by simpa using hl)]
  rw[this _ _ _ hlen]
  exact id
 have hrd:=rdA hl n fn'.params.toList args.toList ds p (fun l=>args.toList=l) hpl (fun j t v h1 h2=>hval j t v (by simpa using h1) (by simpa using h2)) hA (hwA hwts) rfl
 refine(contract W args hrd).mono fun e W' ⟨he,hc⟩=>⟨_,he,?_⟩
 have hbl:=hc.below
 have hlt:=hW'.lt
 simp only[append_nil]at hlt
 have hspec:s.fn H (ds++[])= {results:=[.lit (.bool true)],args:=ds}:=by rw[append_nil];exact hsp ds hlen
 have hR:∀(b:Nat)(sp:Nat->Bool)(hd:Bool),DataW.TrodAll enc C.prog W' b sp hd fn'.resultTypes.toList ((Value.bool true).resultList fn'.resultTypes.size) (s.fn H (ds++[])).results []:=fun b sp hd=>by
  rw[hspec,hrt]
  exact trodAll_mk1 (Go.RowKit.shut_bool hb true)
 have hG:∀sp:Nat->Bool,(∀x∈p,sp x.block=true)->DataW.TrodAll enc C.prog W' 0 sp true fn'.params.toList args.toList (s.fn H (ds++[])).args p:=fun sp hs=>by
  rw[hspec]
  exact Ph hl hbl hpl hlt hs hA
 have hVr:∀sp:Nat->Bool,DataW.TrodVars enc C.prog W' sp s.vars (s.fn H (ds++[])).vars []:=fun sp=>by
  rw[hspec,hsv]
  rfl
 refine⟨ds,[],p++[],[],p,[],hW',hR _ _ _,hG _ (fun x hx=>by simpa using hlt x hx),hVr _,World.keptBut_mono (fun x hx=>⟨hx,.inr (by simpa using hx)⟩) (hbl.frame _),fun _=>?_⟩
 refine⟨Go.RowKit.ok_one hrt rfl (Go.RowKit.okWide_bool_mk hb true),_,_,([]++p)++[],⟨[]++p,[],trodAll_append (hG _ (fun _ _=>rfl)) (hR _ _ _),hVr _,rfl,?_,?_⟩,?_⟩
 ·intro b off hx
  have h1:=hlt (.cell b off) (by simpa using hx)
  rw[hbl.frozen (p:=⟨b,off,none⟩) h1]
  exact hfz b off (by simpa using hx)
 ·intro ha
  simpa using hnd ha
 ·intro x hx _
  simpa using hx
end
end Go.Vc
namespace Go.Proofs.YtdeebigmpffnbaaGreat
open Go Go.Vc Go.Vault Go.ChangeAt
theorem own_:ownKnob Tryz.prog.godebug=none:=by kernel_rfl
theorem laid_:laidOutB Tryz.prog=true:=by kernel_rfl
theorem und4:Tryz.prog.underlying 4=some .bool:=by kernel_rfl
def ArgG(W:World)(n:Nat)(e:TypeId)(K:List Value->Prop):Prop:=∃(a:Option Addr)(cap:Nat)(els:List (List Value)),els.length<=cap/\cap<=maxLen/\els.length*Tryz.prog.bytesOf e<=reachBytes/\(a=none->els=[])/\(∀x∈els,RdK Tryz.prog W n e (fun cs=>x=cs))/\Cells W a els.flatten/\K [.slice a els.length cap]
theorem rd_int(W:World)(n:Nat)(K:List Value->Prop):RdK Tryz.prog W (n+1) 3 K=∃i,inR .i64 i/\K [.int .i64 i]:=by kernel_rfl
theorem Nz{α:Type}{f:α->List Value}{Q:α->Prop}:∀(els:List (List Value)),(∀x∈els,∃p,Q p/\x=f p)->∃l:List α,els=l.map f/\∀p∈l,Q p
 | [],_=>⟨[],rfl,by simp⟩
 |x::r,h=>by
  obtain⟨p,hq,rfl⟩:=h x (.head _)
  obtain⟨l,rfl,hl⟩:=Nz r fun y hy=>h y (.tail _ hy)
  exact⟨p::l,rfl,by simpa using⟨hq,hl⟩⟩
theorem UG:∀l:List Int,(l.map fun i:Int=>[Value.int .i64 i]).flatten=ints l
 | []=>rfl
 |x::r=>by rw[map_cons,flatten_cons,UG r];rfl
theorem argG_ints{W:World}{n:Nat}{K:List Value->Prop}(h:ArgG W (n+1) 3 K):∃(a:Option Addr)(c:Nat)(l:List Int),SC (blks a) W a l.length c 1 (ints l)/\K [.slice a l.length c]:=by
 obtain⟨a,cap,els,h1,_,_,h2,hels,hc,he⟩:=h
 obtain⟨l,rfl,_⟩:=Nz (f:=fun i:Int=>[Value.int .i64 i]) (Q:=fun _=>True) els fun x hx=>by
  have:=hels x hx
  rw[rd_int]at this
  obtain⟨i,_,rfl⟩:=this
  exact⟨i,trivial,rfl⟩
 rw[length_map]at he h1
 rw[UG]at hc
 exact⟨a,cap,l,⟨hc,fun k hk=>hk,by simp[ints],h1,fun ha=>by have:=h2 ha;simpa using this⟩,he⟩
end Go.Proofs.YtdeebigmpffnbaaGreat
namespace Go.Vault
open Go Go.Vc
def val(l:List (List UInt8))(n:Nat):List UInt8:=l.getD n zsec
structure Cont where
 v:Nat->List UInt8
 len:Nat
def cont(l:List (List UInt8)):Cont:=⟨val l,l.length⟩
def torn(p:Nat)(new old:List UInt8):List UInt8:=new.take p++old.drop p
theorem UK(a b:List UInt8):torn 0 a b=b:=rfl
theorem torn_full{a b:List UInt8}(h:a.length<=512)(h':b.length<=512):torn 512 a b=a:=by
 rw[torn,take_of_length_le h,drop_eq_nil_of_le h',append_nil]
theorem O1(p:Nat)(a:List UInt8):torn p a a=a:=take_append_drop p a
theorem Nh{p:Nat}{a b:List UInt8}(h:a.length=b.length):(torn p a b).length=b.length:=by
 rw[torn,length_append,length_take,length_drop];omega
theorem Uy{p c:Nat}{a b x:List UInt8}(hl:a.length=b.length)(ha:a.take c=x)(hb:b.take c=x):(torn p a b).take c=x:=by
 subst hb
 apply ext_getElem?
 intro j
 rw[List.getElem?_take]
 by_cases hj:j<c
 ·rw[if_pos hj,List.getElem?_take_of_lt hj]
  by_cases hp:j<p
  ·have h1:(a.take c)[j]? =(b.take c)[j]? :=by rw[ha]
   rw[List.getElem?_take_of_lt hj,List.getElem?_take_of_lt hj]at h1
   by_cases hja:j<(a.take p).length
   ·rw[torn,List.getElem?_append_left hja,List.getElem?_take_of_lt hp,h1]
   ·have h2:a.length<=j:=by rw[length_take]at hja;omega
    rw[List.getElem?_eq_none (by rw[Nh hl];omega),List.getElem?_eq_none (by omega)]
  ·by_cases hja:p<=a.length
   ·rw[torn,List.getElem?_append_right (by rw[length_take];omega),length_take,List.getElem?_drop,Nat.min_eq_left hja,show p+(j-p)=j by omega]
   ·rw[List.getElem?_eq_none (by rw[Nh hl];omega),List.getElem?_eq_none (by omega)]
 ·rw[if_neg hj,List.getElem?_eq_none (by rw[length_take];omega)]
theorem SY{l:List (List UInt8)}{n:Nat}(h:n<l.length):val l n=l[n]:=by simp[val,getD_eq_getElem?_getD,h]
theorem KR{l:List (List UInt8)}{n:Nat}(h:l.length<=n):val l n=zsec:=by simp[val,getD_eq_getElem?_getD,h]
theorem Wx(l:List (List UInt8))(n m:Nat):val (fill l n) m=val l m:=by
 simp only[val,fill,getD_eq_getElem?_getD]
 by_cases h:m<l.length
 ·rw[List.getElem?_append_left h]
 ·rw[List.getElem?_append_right (by omega),List.getElem?_eq_none (l:=l) (by omega)]
  rw[List.getElem?_replicate]
  split<;>rfl
theorem Zf{l:List (List UInt8)}{n:Nat}(h:n<l.length)(x:List UInt8)(m:Nat):val (l.set n x) m=if m=n then x else val l m:=by
 simp only[val,getD_eq_getElem?_getD]
 split
 ·rename_i e;subst e;rw[List.getElem?_set_self h];rfl
 ·rename_i e;rw[List.getElem?_set_ne (fun h=>e h.symm)]
theorem VM(l:List (List UInt8))(n:Nat):n<(fill l n).length:=by
 rw[fill,length_append,length_replicate];omega
theorem val_mend{now l:List (List UInt8)}{n p:Nat}(hn:n<now.length)(m:Nat):val (mend now l n p) m=if m=n then torn p (val now n) (val l n)else val l m:=by
 rw[mend]
 split
 ·rename_i h;subst h
  rw[UK]
  split
  ·rename_i h;rw[h]
  ·rfl
 ·rw[Zf (VM l n),Wx]
  split
  ·have e1:now.getD n []=val now n:=by rw[SY hn];simp[getD_eq_getElem?_getD,hn]
   have e2:(fill l n).getD n []=val l n:=by rw[<- Wx l n n,SY (VM l n)];simp[getD_eq_getElem?_getD,VM]
   rw[e1,e2,torn]
  ·rfl
theorem pick_le(p:Int):pick p<=512:=by unfold pick;omega
theorem Qd{now:List (List UInt8)}:∀(ns:List Nat)(ps:List Int)(l:List (List UInt8)),ns.Pairwise (· < ·)->(∀n∈ns,n<now.length)->
  ∃pk:Nat->Nat,∀n,pk n<=512/\(n∉ns->pk n=0)/\val (Ff now ns ps l) n=torn (pk n) (val now n) (val l n)
 | [],ps,l,_,_=>⟨fun _=>0,fun n=>⟨Nat.zero_le _,fun _=>rfl,rfl⟩⟩
 |k::r,ps,l,hs,hb=>by
  have hs:=pairwise_cons.1 hs
  obtain⟨pk,h⟩:=Qd r ps.tail (mend now l k (pick (ps.headD 0))) hs.2 (fun n hn=>hb n (.tail _ hn))
  refine⟨fun n=>if n=k then pick (ps.headD 0)else pk n,fun n=>?_⟩
  obtain⟨h1,h2,h3⟩:=h n
  rw[Ff,h3,val_mend (hb k (.head _))]
  by_cases hk:n=k
  ·subst hk
   simp only[if_true]
   refine⟨pick_le _,fun hn=>absurd (.head _) hn,?_⟩
   rw[h2 (fun hm=>Nat.lt_irrefl _ (hs.1 n hm)),UK]
  ·simp only[if_neg hk]
   exact⟨h1,fun hn=>h2 fun hm=>hn (.tail _ hm),trivial⟩
theorem mend_len(now l:List (List UInt8))(n p:Nat):l.length<=(mend now l n p).length:=by
 rw[mend]
 split
 ·exact Nat.le_refl _
 ·rw[length_set,fill,length_append];omega
theorem TN(now:List (List UInt8)):∀(ns:List Nat)(ps:List Int)(l:List (List UInt8)),l.length<=(Ff now ns ps l).length
 | [],_,_=>Nat.le_refl _
 |k::r,ps,l=>Nat.le_trans (mend_len now l k _) (TN now r ps.tail _)
def Fl.Tidy(f:Fl):Prop:=∀n,n∉f.since->val f.now n=val f.firm n
def Fl.Cr(f:Fl)(c:Cont):Prop:=f.firm.length<=c.len/\c.len<=f.now.length/\∃pk:Nat->Nat,∀n,pk n<=512/\(n∉f.since->pk n=0)/\c.v n=torn (pk n) (val f.now n) (val f.firm n)
theorem Gg{l:List (List UInt8)}(h:∀s∈l,s.length=512)(n:Nat):(val l n).length=512:=by
 by_cases hn:n<l.length
 ·rw[SY hn];exact h _ (getElem_mem hn)
 ·rw[KR (by omega)];exact length_replicate
theorem Fl.Cr.vlen{f:Fl}(ok:f.Ok){c:Cont}(h:f.Cr c)(n:Nat):(c.v n).length=512:=by
 obtain⟨_,_,pk,h⟩:=h
 obtain⟨_,_,h3⟩:=h n
 rw[h3,Nh (by rw[Gg ok.now,Gg ok.firm]),Gg ok.firm]
theorem Fl.Cr.out{f:Fl}(ok:f.Ok){c:Cont}(h:f.Cr c){n:Nat}(hn:f.now.length<=n):c.v n=zsec:=by
 obtain⟨_,_,pk,h⟩:=h
 obtain⟨_,_,h3⟩:=h n
 rw[h3,KR hn,KR (Nat.le_trans ok.len hn),O1]
theorem Fl.Cr.found{f:Fl}(ok:f.Ok)(ps:List Int)(hl:(f.found ps).now.length<=f.now.length):f.Cr (cont (f.found ps).now):=
 ⟨TN _ _ _ _,hl,Qd f.since ps f.firm ok.since ok.below⟩
theorem Fl.Cr.firm{f:Fl}(ok:f.Ok):f.Cr (cont f.firm):=⟨Nat.le_refl _,ok.len,fun _=>0,fun n=>⟨Nat.zero_le _,fun _=>rfl,rfl⟩⟩
theorem Fl.Cr.now{f:Fl}(ok:f.Ok)(ht:f.Tidy):f.Cr (cont f.now):=by
 refine⟨ok.len,Nat.le_refl _,fun n=>if n∈f.since then 512 else 0,fun n=>?_⟩
 dsimp only[cont]
 by_cases h:n∈f.since
 ·rw[if_pos h]
  exact⟨Nat.le_refl _,fun h'=>absurd h h',(torn_full (by rw[Gg ok.now];omega) (by rw[Gg ok.firm];omega)).symm⟩
 ·rw[if_neg h]
  exact⟨by omega,fun _=>rfl,ht n h⟩
theorem Fl.QO{f:Fl}(ok:f.Ok):f.sync.Ok:=⟨ok.now,ok.now,.nil,fun n hn=>(by cases hn),Nat.le_refl _⟩
theorem Fl.Kw(f:Fl):f.sync.Tidy:=fun n _=>rfl
theorem Fl.Cr.same{l:List (List UInt8)}{c:Cont}(h:(Fl.mk l l []).Cr c):c=cont l:=by
 obtain⟨h1,h2,pk,h⟩:=h
 have h1:l.length<=c.len:=h1
 have h2:c.len<=l.length:=h2
 obtain⟨v,len⟩:=c
 have e1:v=val l:=funext fun n=>by
  obtain⟨_,h3,h4⟩:=h n
  exact(show v n=_ from h4).trans (O1 _ _)
 have e2:len=l.length:=by dsimp only at h1 h2;omega
 rw[e1,e2];rfl
theorem Fl.Cr.sync{f:Fl}(ok:f.Ok)(ht:f.Tidy){c:Cont}(h:f.sync.Cr c):f.Cr c:=by
 rw[Fl.Cr.same (l:=f.now) h];exact .now ok ht
theorem Fv{f:Fl}{i:Nat}(hi:i<=f.now.length)(b:List UInt8)(n:Nat):val (f.write i b).now n=if n=i then pad b else val f.now n:=by
 rw[Fl.write]
 dsimp only
 split
 ·rename_i h
  simp only[val,getD_eq_getElem?_getD]
  by_cases hn:n<f.now.length
  ·rw[List.getElem?_append_left hn,if_neg (by omega)]
  ·rw[List.getElem?_append_right (by omega)]
   by_cases h2:n=i
   ·rw[if_pos h2,h2,h,Nat.sub_self];rfl
   ·rw[if_neg h2,List.getElem?_eq_none (l:=f.now) (by omega),List.getElem?_eq_none (by simp;omega)]
 ·exact Zf (by omega) _ n
theorem GG{n m:Nat}:∀{l:List Nat},m∈addN n l↔m=n\/m∈l
 | []=>by simp[addN]
 |x::r=>by
  rw[addN]
  split
  ·simp
  ·split
   ·rename_i h;subst h;simp
   ·rw[mem_cons,GG,mem_cons]
    constructor
    ·rintro(h|h|h)
     ·exact .inr (.inl h)
     ·exact .inl h
     ·exact .inr (.inr h)
    ·rintro(h|h|h)
     ·exact .inr (.inl h)
     ·exact .inl h
     ·exact .inr (.inr h)
theorem Fl.Iu{f:Fl}(ht:f.Tidy){i:Nat}(hi:i<=f.now.length)(b:List UInt8):(f.write i b).Tidy:=by
 intro n hn
 have hn:n∉addN i f.since:=hn
 rw[Fv hi]
 have h1:n≠i:=fun h=>hn (GG.2 (.inl h))
 rw[if_neg h1]
 exact ht n fun h=>hn (GG.2 (.inr h))
theorem Fl.Cr.write{f:Fl}(ok:f.Ok){i:Nat}(hi:i<=f.now.length){b:List UInt8}{c':Cont}(h:(f.write i b).Cr c'):
  ∃c p,f.Cr c/\p<=512/\c.len<=c'.len/\∀n,c'.v n=if n=i then torn p (pad b) (c.v i)else c.v n:=by
 obtain⟨h1,h2,pk,h⟩:=h
 have h1:f.firm.length<=c'.len:=h1
 have h2:c'.len<=(f.write i b).now.length:=h2
 refine⟨⟨fun n=>if n=i then val f.firm i else c'.v n,min c'.len f.now.length⟩,pk i,⟨?_,Nat.min_le_right _ _,fun n=>if n=i then 0 else pk n,fun n=>?_⟩,(h i).1,Nat.min_le_left _ _,fun n=>?_⟩
 ·have:=ok.len
  show f.firm.length<=min c'.len f.now.length
  omega
 ·dsimp only
  obtain⟨h3,h4,h5⟩:=h n
  by_cases hn:n=i
  ·subst hn
   simp only[if_true]
   exact⟨by omega,fun _=>trivial,rfl⟩
  ·simp only[if_neg hn]
   refine⟨h3,fun hm=>h4 fun hm2=>?_,?_⟩
   ·rcases GG.1 (show n∈addN i f.since from hm2)with h6|h6
    ·exact hn h6
    ·exact hm h6
   ·rw[h5,Fv hi,if_neg hn];rfl
 ·dsimp only
  obtain⟨h3,h4,h5⟩:=h n
  by_cases hn:n=i
  ·subst hn
   simp only[if_true]
   rw[h5,Fv hi,if_pos rfl];rfl
  ·simp only[if_neg hn]
structure Dk.Fit(d:Dk)(N:Nat):Prop where
 files:d.files.length<=N
 now:∀f∈d.files,f.now.length<=N
 names:∀M,(ons d.firm (d.chs.take M)).length<=N
 chs:d.chs.length<=N
end Go.Vault
namespace Go.Proofs.YtdeebigmpffnbaaGreat
open Go Go.Vc Go.Vault
theorem _root_.Go.Vault.Dk.Fit.few{d:Dk}{N:Nat}(h:d.Fit N):d.Few N:=⟨h.files,h.now,by have:=h.names 0;simpa [ons]using this,h.chs⟩
theorem _root_.Go.Vault.Dk.Fit.nl{d:Dk}{N:Nat}(h:d.Fit N):d.names.length<=N:=by
 have:=h.names d.chs.length
 rwa [take_length]at this
theorem _root_.Go.Vault.Dk.Fit.mono{d:Dk}{N M:Nat}(h:d.Fit N)(hm:N<=M):d.Fit M:=⟨by have:=h.files;omega,fun f hf=>by have:=h.now f hf;omega,fun m=>by have:=h.names m;omega,by have:=h.chs;omega⟩
theorem sum_le{l:List Nat}{N:Nat}(h:∀x∈l,x<=N):l.sum<=l.length*N:=by
 induction l with
 |nil=>simp
 |cons x r ih=>
  have h1:=h x (.head _)
  have h2:=ih fun y hy=>h y (.tail _ hy)
  simp only[sum_cons,length_cons,Nat.add_mul,Nat.one_mul];omega
theorem Dk.Vd{d:Dk}{N:Nat}(h:∀f∈d.files,f.now.length<=N)(k:Nat):d.len k<=N:=by
 unfold Dk.len Dk.file
 rw[getD_eq_getElem?_getD]
 cases hk:d.files[k]? with
 |none=>simp[Fl.none]
 |some f=>exact h f (mem_of_getElem? hk)
theorem _root_.Go.Vault.Dk.Fit.used{d:Dk}{N:Nat}(h:d.Fit N)(hN:N<=1000000):(d.used:Int)<=9223372036854775807:=by
 have h1:=sum_le (l:=d.names.map fun p=>d.len p.file) (N:=N) fun x hx=>by
  obtain⟨p,_,rfl⟩:=mem_map.1 hx
  exact Dk.Vd h.now _
 rw[length_map]at h1
 have h2:=Nat.mul_le_mul h.nl (Nat.le_refl N)
 have h3:=Nat.mul_le_mul hN hN
 have:d.used<=1000000*1000000:=Nat.le_trans h1 (Nat.le_trans h2 h3)
 omega
theorem Fit.change{d:Dk}{N:Nat}(h:d.Fit N)(c:Ch):(d.change c).Fit (N+1):=by
 refine⟨by have:=h.files;show d.files.length<=_;omega,fun f hf=>by have:=h.now f hf;omega,fun M=>?_,by have:=h.chs;simp only[Dk.change,length_append,length_singleton];omega⟩
 show(ons d.firm ((d.chs++[c]).take M)).length<=_
 by_cases hM:M<=d.chs.length
 ·rw[List.take_append_of_le_length hM];have:=h.names M;omega
 ·rw[take_of_length_le (by simp;omega)]
  have e:ons d.firm (d.chs++[c])=c.on d.names:=by simp[ons,Dk.names]
  rw[e]
  have:=c.len d.names
  have:=h.nl
  omega
theorem Fit.dies{d:Dk}{N:Nat}(h:d.Fit N):d.dies.Fit N:=by
 obtain⟨a,b,e⟩:=QD d
 rw[e];exact⟨h.files,h.now,h.names,h.chs⟩
theorem Fit.denies{d:Dk}{N:Nat}(h:d.Fit N):d.denies.Fit N:=⟨h.files,h.now,h.names,h.chs⟩
theorem Fit.put{d:Dk}{N:Nat}(h:d.Fit N){k:Nat}{f:Fl}(hf:f.now.length<=N+1):(d.put k f).Fit (N+1):=by
 refine⟨by have:=h.files;simp only[Dk.put,length_set];omega,fun g hg=>?_,fun M=>by have:=h.names M;show(ons d.firm (d.chs.take M)).length<=_;omega,by have:=h.chs;show d.chs.length<=_;omega⟩
 rcases mem_or_eq_of_mem_set hg with hg|rfl
 ·have:=h.now g hg;omega
 ·exact hf
theorem Fit.file{d:Dk}{N:Nat}(h:d.Fit N)(k:Nat):(d.file k).now.length<=N:=Dk.Vd h.now k
theorem Fit.bV{d:Dk}{N:Nat}(h:d.Fit N)(hok:d.Ok)(n:Int)(ps:List Int):(d.bV n ps).Fit N:=by
 refine⟨by simp only[Dk.bV,Fg];exact h.files,fun f hf=>?_,fun M=>?_,by simp[Dk.bV]⟩
 ·obtain⟨g,hg,qs,rfl⟩:=Hq hf
  have:=(KJ (hok.files g hg) qs).2
  have:=h.now g hg
  omega
 ·show(ons (ons d.firm (d.chs.take _)) (([]:List Ch).take M)).length<=N
  rw[take_nil]
  exact h.names _
theorem Fit.sub{d:Dk}{N:Nat}(h:d.Fit N)(l:List Nm)(hl:l.length<=N):({d with firm:=l,chs:=[]}:Dk).Fit N:=
 ⟨h.files,h.now,fun M=>by show(ons l (([]:List Ch).take M)).length<=N;rw[take_nil];exact hl,by simp⟩
theorem Fit.create{d:Dk}{N:Nat}(h:d.Fit N)(n:ByteArray):(d.create n).1.Fit (N+1):=by
 have hm:=h.mono (Nat.le_succ N)
 unfold Dk.create
 split
 ·exact hm
 ·split
  ·exact hm
  ·refine Fit.dies ?_
   have h1:=Fit.change h (.create n d.files.length)
   refine⟨by simp only[Dk.change,length_append,length_singleton];have:=h.files;omega,fun f hf=>?_,h1.names,h1.chs⟩
   rcases mem_append.1 hf with hf|hf
   ·have:=h.now f hf;omega
   ·rw[mem_singleton.1 hf];simp[Fl.none]
theorem Fit.write{d:Dk}{N:Nat}(h:d.Fit N)(n:ByteArray)(i:Int)(b:List UInt8):(d.write n i b).1.Fit (N+1):=by
 have hm:=h.mono (Nat.le_succ N)
 unfold Dk.write
 split
 ·exact hm
 ·split
  ·exact hm
  ·split
   ·exact hm
   ·split
    ·exact hm
    ·split
     ·exact Fit.denies hm
     ·refine Fit.dies (Fit.put (Fit.denies h) ?_)
      rename_i k _ _ _ _
      have:=Fit.file h k
      simp only[Fl.write]
      split
      ·simp;omega
      ·simp;omega
theorem Fit.sync{d:Dk}{N:Nat}(h:d.Fit N)(n:ByteArray):(d.sync n).1.Fit (N+1):=by
 have hm:=h.mono (Nat.le_succ N)
 unfold Dk.sync
 split
 ·exact hm
 ·split
  ·exact hm
  ·split
   ·exact Fit.denies hm
   ·dsimp only
    split
    ·exact Fit.dies (Fit.denies hm)
    ·rename_i k _ _ _
     exact Fit.put (Fit.dies (Fit.denies h)) (by have:=Fit.file h k;simp only[Fl.sync];omega)
theorem Fit.rename{d:Dk}{N:Nat}(h:d.Fit N)(a b:ByteArray):(d.rename a b).1.Fit (N+1):=by
 have hm:=h.mono (Nat.le_succ N)
 unfold Dk.rename
 split
 ·exact hm
 ·split
  ·exact hm
  ·split
   ·exact hm
   ·split
    ·exact hm
    ·exact Fit.dies (Fit.change h _)
theorem Fit.Ad{d:Dk}{N:Nat}(h:d.Fit N):d.Ad.1.Fit (N+1):=by
 have hm:=h.mono (Nat.le_succ N)
 unfold Dk.Ad
 split
 ·exact hm
 ·dsimp only
  split
  ·exact Fit.dies hm
  ·exact Fit.sub (Fit.dies hm) _ (by have:=h.nl;omega)
theorem GX(n m:ByteArray):∀l:List Nm,nget (without l n) m=if m=n then none else nget l m
 | []=>by simp[without,nget]
 |p::r=>by
  have ih:=GX n m r
  by_cases h:p.name=n
  ·have e:without (p::r) n=without r n:=by simp[without,h]
   rw[e,ih,nget]
   by_cases hm:m=n
   ·rw[if_pos hm,if_pos hm]
   ·rw[if_neg hm,if_neg hm,if_neg (fun h2=>hm (h2.symm.trans h))]
  ·have e:without (p::r) n=p::without r n:=by simp[without,h]
   rw[e,nget,nget,ih]
   by_cases hm:m=n
   ·rw[if_pos hm,if_pos hm,if_neg (fun h2=>h (h2.trans hm))]
   ·rw[if_neg hm,if_neg hm]
theorem Wu(n:Nm)(m:ByteArray):∀l:List Nm,(∀p∈l,p.name≠n.name)->nget (ins n l) m=if m=n.name then some n.file else nget l m
 | [],_=>by
  simp only[ins,nget]
  by_cases h:m=n.name
  ·rw[if_pos h,if_pos h.symm]
  ·rw[if_neg h,if_neg (fun h2=>h h2.symm)]
 |p::r,h=>by
  have ih:=Wu n m r fun q hq=>h q (.tail _ hq)
  have hp:=h p (.head _)
  simp only[ins]
  split
  ·rw[nget,nget,ih]
   by_cases hm:m=n.name
   ·rw[if_neg (fun h2=>hp (h2.trans hm)),if_pos hm,if_pos hm]
   ·rw[if_neg hm,if_neg hm]
  ·rw[nget]
   by_cases hm:m=n.name
   ·rw[if_pos hm,if_pos hm.symm]
   ·rw[if_neg hm,if_neg (fun h2=>hm h2.symm)]
theorem EI(l:List Nm)(n:Nm)(m:ByteArray):nget (with_ l n) m=if m=n.name then some n.file else nget l m:=by
 rw[with_,Wu _ _ _ fun p hp=>by simpa using(List.mem_filter.1 hp).2,GX]
 by_cases h:m=n.name
 ·rw[if_pos h,if_pos h]
 ·rw[if_neg h,if_neg h,if_neg h]
structure Calm(q:Dk):Prop where
 armed:q.armed=0
 denied:q.denied=0
 dead:q.dead=false
theorem Calm.dies{q:Dk}(h:Calm q):q.dies=q:=by unfold Dk.dies;rw[if_neg (by have:=h.armed;omega)]
theorem Calm.denies{q:Dk}(h:Calm q):q.denies=q:=by
 have h2:=h.denied
 obtain⟨_,_,_,_,_,_,_⟩:=q
 simp only[Dk.denies]at h2⊢
 rw[h2]
theorem Calm.refused{q:Dk}(h:Calm q):q.refused=false:=by simp[Dk.refused,h.denied]
theorem Calm.code{q:Dk}(h:Calm q):q.code=0:=by simp[Dk.code,h.dead]
theorem Calm.put{q:Dk}(h:Calm q)(k:Nat)(f:Fl):Calm (q.put k f):=⟨h.armed,h.denied,h.dead⟩
theorem create_calm{q:Dk}(h:Calm q){n:ByteArray}(hr:Vault.right n=true):q.create n=(Dk.change {q with files:=q.files++[Fl.none]} (.create n q.files.length),0):=by
 have hc:Calm (Dk.change {q with files:=q.files++[Fl.none]} (.create n q.files.length)):=⟨h.armed,h.denied,h.dead⟩
 unfold Dk.create
 rw[if_neg (by rw[h.dead];simp),if_neg (by rw[hr];simp)]
 simp only[hc.dies,hc.code]
theorem find_change(q:Dk)(c:Ch)(m:ByteArray):(q.change c).find m=nget (c.on q.names) m:=by
 rw[Dk.find,Dk.MQ]
theorem dies_find(d:Dk)(n:ByteArray):d.dies.find n=d.find n:=by
 unfold Dk.dies;split<;>rfl
end Go.Proofs.YtdeebigmpffnbaaGreat
namespace Go.Redo
open Go Go.Vc Go.Vault
def thn(r:Dk×Int)(f:Dk->Dk×Int):Dk×Int:=if r.2=0 then f r.1 else r
def bT(b:List UInt8)(s:ByteArray):List UInt8:=b++(be (s.size:Int) 4++s.data.toList)
def AV(l:List ByteArray):List UInt8:=l.foldl bT []
def DZ:Nat->List UInt8->Option (List ByteArray)
 |0,_=>some []
 |m+1,b=>if b=[]then some []else if b.length<4 then none else
  if 65536<valN (b.take 4)then none else if b.length-4<valN (b.take 4)then none else
  (DZ m (b.drop (4+valN (b.take 4)))).map fun l=>⟨((b.drop 4).take (valN (b.take 4))).toArray⟩::l
def records(b:List UInt8):Option (List ByteArray):=DZ b.length b
structure Lg where
 name:ByteArray
 mark:Nat
 b:List UInt8
 firm:Nat
 many:Nat
 all:List ByteArray
 code:Int
def Ba(mark firm:Nat):List UInt8:=be (mark:Int) 8++(be (firm:Int) 8++(List.replicate 488 0++be (mark:Int) 8))
def bY(d:Dk)(name:ByteArray)(mark firm:Nat):Dk×Int:=
 thn (thn (d.sync name) fun d=>d.write name ((mark%2:Nat):Int) (Ba mark firm)) fun d=>d.sync name
def dput(name:ByteArray)(b:List UInt8):Nat->Nat->Dk->Dk×Int
 |0,_,d=>(d,0)
 |m+1,k,d=>if b.length<=k*512 then(d,0)else thn (d.write name ((2+k:Nat):Int) ((b.drop (k*512)).take 512)) (dput name b m (k+1))
def bU(d:Dk)(name:ByteArray)(b:List UInt8)(from_:Nat):Dk×Int:=dput name b (b.length/512+1-from_/512) (from_/512) d
def bn(d:Dk)(name:ByteArray)(b:List UInt8):Dk×Int:=
 thn (thn (thn (thn (d.create name) fun d=>d.write name 0 []) fun d=>d.write name 1 []) fun d=>bU d name b 0) fun d=>bY d name 1 b.length
def newN(name:ByteArray):ByteArray:=name++⟨#[46,110,101,119]⟩
def bW(d:Dk)(name:ByteArray)(all:List ByteArray):Dk×Int:=
 thn (thn (bn d (newN name) (AV all)) fun d=>d.rename (newN name) name) fun d=>d.Ad
def Lg.anew(l:Lg)(all:List ByteArray):Lg:= {l with mark:=1,b:=AV all,firm:=(AV all).length,all:=all,many:=all.length}
def Lg.none(name:ByteArray):Lg:=⟨name,0,[],0,0,[],0⟩
def GU(d:Dk)(name:ByteArray)(n:Nat):Option (Nat×Nat):=
 if(d.read name n).2=0/\(d.read name n).1.take 8=(d.read name n).1.drop 504 then some (valN ((d.read name n).1.take 8),valN (((d.read name n).1.drop 8).take 8))else none
def better(m:Nat×Nat)(l:Option (Nat×Nat)):Nat×Nat:=match l with
 |some p=>if m.1<p.1 then p else m
 |.none=>m
def Jp(d:Dk)(name:ByteArray):Nat×Nat:=better (better (0,0) (GU d name 0)) (GU d name 1)
def gath(d:Dk)(name:ByteArray)(firm:Nat):Nat->Nat->List UInt8->List UInt8×Int
 |0,_,b=>(b,0)
 |m+1,n,b=>if firm<=b.length then(b,0)else if(d.read name n).2=0 then gath d name firm m (n+1) (b++(d.read name n).1)else(b,(d.read name n).2)
def Ky(d:Dk)(name:ByteArray):Int×Lg:=
 if(d.size name-2)*512<(Jp d name).2 then(100,Lg.none name)else
 let g:=gath d name (Jp d name).2 ((Jp d name).2+1) 2 []
 if g.2=0 then match records (g.1.take (Jp d name).2)with
  |some l=>(0,⟨name,(Jp d name).1,g.1.take (Jp d name).2,(Jp d name).2,l.length,l,0⟩)
  |.none=>(100,Lg.none name)
 else(g.2,Lg.none name)
def CV(d:Dk)(name:ByteArray):Dk×Int×Lg:=
 if d.dead then(d,93,Lg.none name)else if name.size=0\/56<name.size then(d,92,Lg.none name)else
 if 2<=d.size name then(d,Ky d name)else
 ((bW d name []).1,(bW d name []).2,(Lg.none name).anew [])
def Lg.append(l:Lg)(s:ByteArray):Lg×Int:=if 65536<s.size then(l,101)else({l with b:=bT l.b s,all:=l.all++[s]},0)
def Ak(d:Dk)(l:Lg):Dk×Lg×Int:=
 if l.code=0 then
  let r:=thn (bU d l.name l.b l.firm) fun d=>bY d l.name (l.mark+1) l.b.length
  if r.2=0 then(r.1,{l with mark:=l.mark+1,firm:=l.b.length,many:=l.all.length},0)else(r.1,{l with code:=r.2},r.2)
 else(d,l,l.code)
def Iw(all:List ByteArray):Bool:=all.any fun s=>decide (65536<s.size)
def Dt(d:Dk)(l:Lg)(all:List ByteArray):Dk×Lg×Int:=
 if Iw all then(d,l,101)else if l.code=0 then
  let r:=bW d l.name all
  if r.2=0 then(r.1,l.anew all,0)else(r.1,{l with code:=r.2},r.2)
 else(d,l,l.code)
end Go.Redo
namespace Go.Proofs.YtdeebigmpffnbaaGreat
open Go Go.Vc Go.Vault Go.Redo
theorem Oe:Scl Tryz.prog 127:=BP (by kernel_rfl)
theorem J8:Scl Tryz.prog 23:=BP (by kernel_rfl)
theorem Gx:Scl Tryz.prog 29:=BP (by kernel_rfl)
theorem JY:Scl Tryz.prog 26:=BP (by kernel_rfl)
theorem NI:Scl Tryz.prog 27:=BP (by kernel_rfl)
theorem bK:Agg Tryz.prog 206 8:=IK (by kernel_rfl)
theorem Z9:Elt Tryz.prog 29 5 1 1:=FP (by kernel_rfl)
theorem eltT:Elt Tryz.prog 26 9 1 16:=FP (by kernel_rfl)
theorem WO:Tryz.prog.underlying 26=some (.slice 9):=by kernel_rfl
theorem aT:Tryz.prog.underlying 9=some .string:=by kernel_rfl
theorem XQ{cs:List Value}{i:Nat}(h:i<cs.length)(v:Value):(cs.take (i+1)).set i v=cs.take i++[v]:=by
 rw[List.take_succ_eq_append_getElem h,set_append,if_neg (by rw[length_take];omega),length_take,Nat.min_eq_left (by omega),Nat.sub_self]
 rfl
theorem bF(n:Int):∀(m k:Nat),k<m->(be n m)[k]? =some (bt n (m-1-k))
 |0,k,h=>by omega
 |m+1,0,_=>rfl
 |m+1,k+1,h=>by
  rw[be,List.getElem?_cons_succ,bF n m k (by omega)]
  congr 2;omega
theorem WI(n:Int)(m k:Nat)(h:k<m):(be n m).drop (m-(k+1))=bt n k::(be n m).drop (m-k):=by
 have hl:=AU n m
 have hk:m-(k+1)<(be n m).length:=by omega
 rw[drop_eq_getElem_cons hk,show m-(k+1)+1=m-k by omega]
 have:=bF n m (m-(k+1)) (by omega)
 rw[List.getElem?_eq_getElem hk]at this
 rw[Option.some.inj this]
 congr 2;omega
theorem shr_b64(i:Int)(m:Nat)(h:m<8)(j:Int)(hj:j=m):IntKind.u8.wrap (Int.fdiv i ((2:Int)^min (Int.toNat ((8:Int)*j)) (IntKind.bits IntKind.u64)))=((bt i m).toNat:Int):=Js i m h j hj
theorem shr_b32(i:Int)(m:Nat)(h:m<4)(j:Int)(hj:j=m):IntKind.u8.wrap (Int.fdiv i ((2:Int)^min (Int.toNat ((8:Int)*j)) (IntKind.bits IntKind.u32)))=((bt i m).toNat:Int):=by
 subst hj
 rw[Uh,KL]
 have e1:Int.toNat ((8:Int)*(m:Int))=8*m:=by omega
 have e2:min (8*m) (IntKind.bits IntKind.u32)=8*m:=by simp only[IntKind.bits];omega
 rw[e1,e2,Int.fdiv_eq_ediv_of_nonneg _ (Int.le_of_lt (Int.pow_pos (by omega)))]
theorem LU(b o m c:Nat)(T:TypeId)(cs:List Value)(n:Int)(h:o+m<=cs.length)(hm:m<=8)(w:World)(hb:Blk w b cs T):
  Calls Tryz.prog 120 #[.slice (some ⟨b,o,none⟩) m c,.int .u64 n] w fun e w'=>e=.returned (.tuple #[])/\Hp [b] w w' [.blk b (cs.take o++(bQ (be n m)++cs.drop (o+m))) T]:=by
 apply lay64.ok;unfold lay64.vc
 have H:Hp [b] w w [.blk b cs T]:=Hp.JF (a:=.blk b cs T) hb
 refine Ae.mk (fun q s w'=>∃k:Nat,q=m-k/\k<=m/\s=(k:Int)/\Hp [b] w w' [.blk b (cs.take (o+(m-k))++(bQ ((be n m).drop (m-k))++cs.drop (o+m))) T]) m ⟨0,rfl,by omega,rfl,by
  rw[Nat.sub_zero,drop_eq_nil_of_le (by rw[AU];exact Nat.le_refl _)]
  simpa [bQ]using H⟩ ?_
 clear H
 rintro q s w' next ⟨k,rfl,hk,rfl,H⟩ hnext
 refine AO (fun h3=>?_) (fun h3=>?_)
 ·have hkm:k<m:=by omega
  refine⟨AY.2 (by omega),AY.2 (by omega),AY.2 (by omega),by omega,AA rfl ⟨⟨by omega,by omega⟩,?_⟩⟩
  have e1:Int.toNat ((m:Int)-1-(k:Int))*1=m-(k+1):=by omega
  rw[e1,add_lit,shr_b64 n k (by omega) _ rfl]
  have e2:o+(m-k)=o+(m-(k+1))+1:=by omega
  have hlt:o+(m-(k+1))<(cs.take (o+(m-k))).length:=by rw[length_take];omega
  refine Hp.st H EQ4 Tt rfl rfl (by rw[length_append];omega) (cs':=cs.take (o+(m-(k+1)))++(bQ ((be n m).drop (m-(k+1)))++cs.drop (o+m))) ?_ ?_
  ·rw[set_append,if_pos hlt,e2,XQ (by omega),append_assoc,WI n m k hkm]
   rfl
  clear H
  intro w1 H
  exact⟨AY.2 (by omega),hnext (m-(k+1)) _ _ (by omega) ⟨k+1,rfl,by omega,by omega,H⟩⟩
 ·have hkm:k=m:=by omega
  subst hkm
  simp only[Nat.sub_self,Nat.add_zero,drop_zero]at H
  exact⟨rfl,H⟩
theorem lay32_spec(b o m c:Nat)(T:TypeId)(cs:List Value)(n:Int)(h:o+m<=cs.length)(hm:m<=4)(w:World)(hb:Blk w b cs T):
  Calls Tryz.prog 133 #[.slice (some ⟨b,o,none⟩) m c,.int .u32 n] w fun e w'=>e=.returned (.tuple #[])/\Hp [b] w w' [.blk b (cs.take o++(bQ (be n m)++cs.drop (o+m))) T]:=by
 apply lay32.ok;unfold lay32.vc
 have H:Hp [b] w w [.blk b cs T]:=Hp.JF (a:=.blk b cs T) hb
 refine Ae.mk (fun q s w'=>∃k:Nat,q=m-k/\k<=m/\s=(k:Int)/\Hp [b] w w' [.blk b (cs.take (o+(m-k))++(bQ ((be n m).drop (m-k))++cs.drop (o+m))) T]) m ⟨0,rfl,by omega,rfl,by
  rw[Nat.sub_zero,drop_eq_nil_of_le (by rw[AU];exact Nat.le_refl _)]
  simpa [bQ]using H⟩ ?_
 clear H
 rintro q s w' next ⟨k,rfl,hk,rfl,H⟩ hnext
 refine AO (fun h3=>?_) (fun h3=>?_)
 ·have hkm:k<m:=by omega
  refine⟨AY.2 (by omega),AY.2 (by omega),AY.2 (by omega),by omega,AA rfl ⟨⟨by omega,by omega⟩,?_⟩⟩
  have e1:Int.toNat ((m:Int)-1-(k:Int))*1=m-(k+1):=by omega
  rw[e1,add_lit,shr_b32 n k (by omega) _ rfl]
  have e2:o+(m-k)=o+(m-(k+1))+1:=by omega
  have hlt:o+(m-(k+1))<(cs.take (o+(m-k))).length:=by rw[length_take];omega
  refine Hp.st H EQ4 Tt rfl rfl (by rw[length_append];omega) (cs':=cs.take (o+(m-(k+1)))++(bQ ((be n m).drop (m-(k+1)))++cs.drop (o+m))) ?_ ?_
  ·rw[set_append,if_pos hlt,e2,XQ (by omega),append_assoc,WI n m k hkm]
   rfl
  clear H
  intro w1 H
  exact⟨AY.2 (by omega),hnext (m-(k+1)) _ _ (by omega) ⟨k+1,rfl,by omega,by omega,H⟩⟩
 ·have hkm:k=m:=by omega
  subst hkm
  simp only[Nat.sub_self,Nat.add_zero,drop_zero]at H
  exact⟨rfl,H⟩
theorem or_u64(v y:Nat)(hv:v<72057594037927936)(hy:y<256):Vc.bits .or .u64 ((v:Int)*2^min (Int.toNat 8) (IntKind.bits .u64)) (IntKind.u64.wrap (y:Int))=((v*256+y:Nat):Int):=by
 have e1:(2:Int)^min (Int.toNat 8) (IntKind.bits .u64)=256:=by decide
 have wr:∀z:Int,IntKind.u64.wrap z=z%18446744073709551616:=fun z=>by simp[IntKind.wrap,IntKind.signed,IntKind.bits]
 rw[e1]
 show IntKind.u64.wrap ((BitVec.ofInt 64 ((v:Int)*256)|||BitVec.ofInt 64 (IntKind.u64.wrap (y:Int))).toNat:Int)=_
 rw[wr,wr,BitVec.toNat_or,BitVec.toNat_ofInt,BitVec.toNat_ofInt]
 have h1:(((v:Int)*256)%((2^64:Nat):Int)).toNat=v<<<8:=by
  rw[Nat.shiftLeft_eq];omega
 have h2:(((y:Int)%18446744073709551616)%((2^64:Nat):Int)).toNat=y:=by omega
 rw[h1,h2,<- Nat.shiftLeft_add_eq_or_of_lt (show y<2^8 by omega),Nat.shiftLeft_eq]
 omega
theorem inRU{z:Int}:inR .u64 z↔0<=z/\z<=18446744073709551615:=by
 simp[inR,IntKind.min,IntKind.max,IntKind.signed,IntKind.bits];try omega
theorem valN_lt8{l:List UInt8}(h:l.length<=7):valN l<72057594037927936:=Nat.lt_of_lt_of_le (JG l) (by
 have:(256:Nat)^l.length<=256^7:=Nat.pow_le_pow_right (by omega) h
 exact this)
theorem Om(a:Option Addr)(bs:List UInt8)(c:Nat)(hl:bs.length<=8)(w:World)(hc:Cells w a (bQ bs)):Calls Tryz.prog 135 #[.slice a bs.length c] w fun e w'=>
  e=.returned (.int .u64 (valN bs:Int))/\Hp [] w w' []:=by
 apply take.ok;unfold take.vc
 refine Ae.mk (fun m s w'=>∃k:Nat,m=bs.length-k/\k<=bs.length/\s=((valN (bs.take k):Int),(k:Int))/\Hp [] w w' []) bs.length ⟨0,rfl,by omega,rfl,Hp.start w⟩ ?_
 rintro m s w' next ⟨k,rfl,hk,rfl,H⟩ hnext
 refine AO (fun h3=>?_) (fun h3=>?_)
 ·have hkl:k<bs.length:=by simp only at h3;omega
  have hv:(bQ bs)[k]? =some (.int .u8 (bs[k].toNat:Int)):=by simp[bQ,hkl]
  obtain⟨ad,ha,_⟩:=hc k _ hv
  have hld:=(hc.chg H.chg (by simp)).ld (P:=Tryz.prog) Tt ha hv
  have hlt:=valN_lt8 (l:=bs.take k) (by rw[length_take];omega)
  refine AA ha ⟨⟨by simp only;omega,by simp only;omega⟩,_,by simp only;rw[Int.toNat_natCast,Nat.mul_one];exact hld,by omega,inRU.2 ?_,AY.2 (by simp only;omega),?_⟩
  ·have e1:(2:Int)^min (Int.toNat 8) (IntKind.bits .u64)=256:=by decide
   simp only;rw[e1];omega
  ·refine hnext (bs.length-(k+1)) _ _ (by omega) ⟨k+1,rfl,by omega,?_,H⟩
   simp only
   rw[or_u64 _ _ hlt (UInt8.toNat_lt _),List.take_succ_eq_append_getElem hkl,IY]
   rfl
 ·have:k=bs.length:=by simp only at h3;omega
  subst this
  exact⟨by simp only[take_length],H⟩
theorem MH(b:List UInt8)(s:ByteArray):(bT b s).length=b.length+4+s.size:=by
 have:s.data.toList.length=s.size:=Array.length_toList
 rw[bT,length_append,length_append,AU,this];omega
theorem Jn(a:Option Addr)(c:Nat)(b:List UInt8)(s:ByteArray)(hs:b.length+(s.size+4)<=1000000000)(w:World)(st:Std w [.own 5 1 a b.length c (bQ b)]):
  Calls Tryz.prog 101 #[.slice a b.length c,.string s] w fun e w'=>∃a' c',e=.returned (.slice a' (bT b s).length c')/\Hp (feet [.own 5 1 a b.length c (bQ b)]) w w' [.own 5 1 a' (bT b s).length c' (bQ (bT b s))]:=by
 apply bT.ok;unfold bT.vc
 have H:=Hp.Ap st
 generalize feet [.own 5 1 a b.length c (bQ b)]=B at H⊢
 intro b1 w1 hn;replace H:=H.new (cs:=[.int .u8 0,.int .u8 0,.int .u8 0,.int .u8 0]) EQ4 hn;clear hn
 have hw:IntKind.u32.wrap (s.size:Int)=(s.size:Int):=by simp[IntKind.wrap,IntKind.signed,IntKind.bits];omega
 rw[hw]
 refine AL (lay32_spec b1 0 4 4 202 _ _ (by simp) (by omega) _ (H.go ⟨rfl,rfl,rfl,rfl⟩ |>.blk (.head _))) ?_
 rintro e w2 ⟨rfl,H'⟩
 replace H:=H.use1 H';clear H'
 simp only[take_zero,nil_append,cons_append,List.drop_succ_cons,drop_zero,Nat.zero_add,append_nil,List.drop_nil]at H
 refine⟨rfl,?_⟩
 refine Hp.app Z9 (by omega) H.Aq EQ4 (Blk.src (n:=4) Jq ((H.go ⟨rfl,rfl,rfl,rfl⟩).blk (.head _)) (by simp[AQ,AU]) (PL _)) (by simp only[maxLen];omega) (by omega) ?_
 clear H;intro a3 c3 w3 H
 refine Hp.app Z9 (by omega) H EQ4 (Src.ofString _ aT s) (by simp only[maxLen];omega) (by omega) ?_
 clear H;intro a4 c4 w4 H
 have e1:=MH b s
 have e2:bQ (bT b s)=bQ b++bQ (be (s.size:Int) 4)++byteCells s:=by rw[bT,BZ,BZ,byteCells_eq,append_assoc]
 rw[e1,e2]
 exact⟨a4,c4,rfl,H.JW⟩
section
variable{B:List Nat}{w0 w w':World}{L M:List Asn}{a:Asn}
theorem _root_.Go.Vc.Hp.useT(H:Hp B w0 w (a::L))(H':Hp (feet L) w w' M):Hp B w0 w' (a::M):=
 ((H.perm (perm_append_comm (l₁:=[a]) (l₂:=L)):Hp B w0 w (L++[a])).useL H').perm (perm_append_comm (l₁:=M) (l₂:=[a]))
theorem _root_.Go.Vc.Hp.later(H:Hp B w0 w L)(hW:Chg (feet L) w w'):Chg B w0 w':=H.chg.trans hW (fun k hk=>hk) fun k hk=>by
 obtain⟨a,ha,h2⟩:=Dy.1 hk
 exact H.own a ha k h2
end
def dA(lb:Nat)(cs:List Value)(x:DW)(d:Dk)(w:World)(v:Value)(d':Dk)(e:Ending)(w':World):Prop:=
 e=.returned v/\∃x':DW,x'.b=x.b/\x'.Ok d'/\Hp (feet (.blk lb cs 129::dkL x d)) w w' (.blk lb cs 129::dkL x' d')
theorem chunk_cells{w:World}{a:Option Addr}{bs:List UInt8}{i e:Nat}(h:Cells w a (bQ bs))(he:e=min (i+512) bs.length)(hi:i<bs.length):Cells w (slA a e i 1) (bQ ((bs.drop i).take 512)):=by
 have h1:=(h.take e).slA (c:=e) (i:=i) (by rw[length_take];omega)
 have e1:((bQ bs).take e).drop i=bQ ((bs.drop i).take 512):=by
  rw[List.drop_take,bQ,bQ,<- map_drop,<- map_take]
  congr 1
  by_cases hx:e-i=512
  ·rw[hx]
  ·rw[take_of_length_le (by rw[length_drop];omega),take_of_length_le (by rw[length_drop];omega)]
 rw[<- e1];exact h1
theorem slA_none{a:Option Addr}{m i:Nat}(h:slA a m i 1=none):a=none:=by
 unfold slA at h
 split at h
 ·exact h
 ·cases a with
  |none=>rfl
  |some _=>cases h
theorem dput_stop(name:ByteArray)(b:List UInt8)(m k:Nat)(d:Dk)(h:b.length<=k*512):dput name b m k d=(d,0):=by
 cases m with
 |zero=>rfl
 |succ m=>rw[dput,if_pos h]
theorem PK(lb:Nat)(cs:List Value)(x:DW)(d:Dk)(hok:x.Ok d){N:Nat}(fit:d.Fit N)(name:ByteArray)(a:Option Addr)(c:Nat)(bs:List UInt8)(hN:N+bs.length/512+1<=900000)(from_:Nat)(hf:from_<=1000000000)(hcs:cs[0]? =some (.pointer (some ⟨x.b,0,none⟩)))
  (w:World) (st:Std w (.blk lb cs 129::dkL x d)) (hc:∀W,Chg (feet (.blk lb cs 129::dkL x d)) w W->Cells W a (bQ bs)) (h0:a=none->bs.length=0) (hcap:bs.length<=c):
  Calls Tryz.prog 81 #[.pointer (some ⟨lb,0,none⟩),.string name,.slice a bs.length c,.int .i64 (from_:Int)] w (dA lb cs x d w (.int .i64 (bU d name bs from_).2) (bU d name bs from_).1):=by
 apply lwrite.ok;unfold lwrite.vc dA
 have H:=Hp.Ap st
 generalize hB:feet (.blk lb cs 129::dkL x d)=B at H hc⊢
 have q1:Int.tdiv (from_:Int) 512=((from_/512:Nat):Int):=rfl
 rw[q1]
 refine⟨by omega,AY.2 (by omega),AY.2 (by omega),?_⟩
 obtain⟨k0,hk0⟩:∃k0,k0=from_/512:=⟨_,rfl⟩
 obtain⟨M,hM⟩:∃M,M=bs.length/512+1:=⟨_,rfl⟩
 have hgoal:bU d name bs from_=dput name bs (M-k0) k0 d:=by rw[bU,hk0,hM]
 rw[<- hk0,hgoal]
 refine Ae.mk (fun m s w'=>∃(k:Nat)(x1:DW)(d1:Dk),m=M-k/\s=((k*512:Nat):Int)/\k0<=k/\(k<=M\/k=k0)/\x1.b=x.b/\x1.Ok d1/\d1.Fit (N+(k-k0))/\dput name bs (M-k) k d1=dput name bs (M-k0) k0 d/\
  Hp B w w' (.blk lb cs 129::dkL x1 d1)) (M-k0) ⟨k0,x,d,rfl,by omega,Nat.le_refl _,.inr rfl,rfl,hok,by rw[Nat.sub_self];exact fit,rfl,H⟩ ?_
 clear H
 rintro m s w1 next ⟨k,x1,d1,rfl,rfl,hk,hkM,hxb,hx1,fit1,hd,H⟩ hnext
 refine AO (fun h3=>?_) (fun h3=>?_)
 ·have hkl:k*512<bs.length:=by omega
  have hkM2:k<M:=by omega
  refine⟨AY.2 (by omega),AA rfl ⟨_,H.ld EQ4 J8 (.head _) hcs,?_⟩⟩
  have q2:Int.tdiv ((k*512:Nat):Int) 512=(k:Int):=by
   rw[show Int.tdiv ((k*512:Nat):Int) 512=((k*512/512:Nat):Int)from rfl,Nat.mul_div_cancel _ (by omega)]
  rw[q2]
  have q3:min (((k*512:Nat):Int)+512) (bs.length:Int)=((min (k*512+512) bs.length:Nat):Int):=by omega
  rw[q3,Int.toNat_natCast,Int.toNat_natCast]
  refine⟨by omega,AY.2 (by omega),AY.2 (by omega),⟨by omega,by omega,by omega,by omega⟩,?_⟩
  obtain⟨ch,hch⟩:∃ch,ch=(bs.drop (k*512)).take 512:=⟨_,rfl⟩
  have hchl:ch.length=min (k*512+512) bs.length-k*512:=by rw[hch,length_take,length_drop];omega
  have hws:=JE x1 d1 hx1 fit1.few (by omega) (fit1.used (by omega)) name (2+(k:Int)) (slA a (min (k*512+512) bs.length) (k*512) 1) (min (k*512+512) bs.length-k*512) ch w1.drew H.drew.drop.std
   (fun W hW=>by
    have h4:=hc W (H.drew.drop.later hW)
    rw[hch];exact chunk_cells h4 rfl hkl)
   (fun h4=>by have:=h0 (slA_none h4);omega)
  rw[hxb,hchl]at hws
  refine AL hws ?_
  rintro e w2 ⟨rfl,x2,hx2b,hx2,H'⟩
  replace H:=H.drew.useT H';clear H' hws
  refine⟨_,rfl,?_⟩
  obtain⟨m2,hm2⟩:∃m2,M-k=m2+1:=⟨M-k-1,by omega⟩
  have hstep:dput name bs (M-k) k d1=thn (d1.write name (2+(k:Int)) ch) (dput name bs (M-(k+1)) (k+1)):=by
   rw[hm2,dput,if_neg (by omega),<- hch,show M-(k+1)=m2 by omega]
   rfl
  rw[hstep]at hd
  refine BI (fun h5=>?_) (fun h5=>?_)
  ·have h5:=of_decide_eq_false h5
   rw[thn,if_neg h5]at hd
   rw[<- hd]
   exact⟨rfl,x2,by rw[hx2b,hxb],hx2,H⟩
  ·have h5:=of_decide_eq_true h5
   rw[thn,if_pos h5]at hd
   refine⟨AY.2 (by omega),hnext (M-(k+1)) _ _ (by omega) ⟨k+1,x2,_,rfl,by omega,by omega,.inl (by omega),by rw[hx2b,hxb],hx2,(Fit.write fit1 name _ _).mono (by omega),hd,H⟩⟩
 ·rw[dput_stop name bs _ k d1 (by omega)]at hd
  rw[<- hd]
  exact⟨rfl,x1,hxb,hx1,H⟩
section
variable{B:List Nat}{w0 w w':World}{L M:List Asn}{a b:Asn}
theorem _root_.Go.Vc.Hp.Na(H:Hp B w0 w (a::b::L))(H':Hp (feet L) w w' M):Hp B w0 w' (a::b::M):=
 ((H.perm (perm_append_comm (l₁:=[a,b]) (l₂:=L)):Hp B w0 w (L++[a,b])).useL H').perm (perm_append_comm (l₁:=M) (l₂:=[a,b]))
theorem _root_.Go.Vc.Hp.blkSt{k:Nat}{cs:List Value}{T:TypeId}(H:Hp B w0 w (.blk k cs T::L)):∀W,Chg (feet L) w W->Blk W k cs T:=fun W hW=>
 (H.blk (.head _)).chg hW fun hf=>by
  obtain⟨c,hc,h2⟩:=Dy.1 hf
  exact(pairwise_cons.1 H.sep).1 c hc k (by simp[Asn.foot]) h2
end
theorem zlMark:zl Tryz.prog 84=bQ zsec:=by kernel_rfl
theorem seal_bytes(mark firm:Nat):
  (((zsec.take 0++(be (mark:Int) 8++zsec.drop (0+8))).take 8++(be (firm:Int) 8++(zsec.take 0++(be (mark:Int) 8++zsec.drop (0+8))).drop (8+8))).take 504++(be (mark:Int) 8++((zsec.take 0++(be (mark:Int) 8++zsec.drop (0+8))).take 8++(be (firm:Int) 8++(zsec.take 0++(be (mark:Int) 8++zsec.drop (0+8))).drop (8+8))).drop (504+8)))=Ba mark firm:=by
 have hm:=AU (mark:Int) 8
 have hf:=AU (firm:Int) 8
 have h1:zsec.take 0++(be (mark:Int) 8++zsec.drop (0+8))=be (mark:Int) 8++List.replicate 504 0:=by
  rw[take_zero,nil_append,zsec,List.drop_replicate]
 rw[h1]
 have h2:(be (mark:Int) 8++List.replicate 504 0).take 8=be (mark:Int) 8:=List.take_left' hm
 have h3:(be (mark:Int) 8++List.replicate 504 (0:UInt8)).drop (8+8)=List.replicate 496 0:=by
  rw[List.drop_append,drop_eq_nil_of_le (by omega),hm,nil_append,List.drop_replicate]
 rw[h2,h3]
 have h4:(be (mark:Int) 8++(be (firm:Int) 8++List.replicate 496 (0:UInt8))).take 504=be (mark:Int) 8++(be (firm:Int) 8++List.replicate 488 0):=by
  rw[List.take_append,take_of_length_le (by omega),hm,List.take_append,take_of_length_le (by omega),hf,List.take_replicate]
  rfl
 have h5:(be (mark:Int) 8++(be (firm:Int) 8++List.replicate 496 (0:UInt8))).drop (504+8)=[]:=drop_eq_nil_of_le (by simp only[length_append,hm,hf,length_replicate];omega)
 rw[h4,h5,Ba,append_nil]
 simp only[append_assoc]
theorem Ij(S X:List UInt8)(o k:Nat):(bQ S).take o++(bQ X++(bQ S).drop k)=bQ (S.take o++(X++S.drop k)):=by
 simp only[bQ,map_append,map_take,map_drop]
theorem tlen{S X:List UInt8}{o:Nat}(h:S.length=512)(hX:X.length=8)(ho:o+8<=512):(S.take o++(X++S.drop (o+8))).length=512:=by
 simp only[length_append,length_take,length_drop,h,hX];omega
theorem sealB_len(mark firm:Nat):(Ba mark firm).length=512:=by simp only[Ba,length_append,AU,length_replicate]
theorem Q4(lb:Nat)(cs:List Value)(x:DW)(d:Dk)(hok:x.Ok d){N:Nat}(fit:d.Fit N)(hN:N<=900000)(name:ByteArray)(mark firm:Nat)(hm:mark<=1000000000)(hf:firm<=1000000000)(hcs:cs[0]? =some (.pointer (some ⟨x.b,0,none⟩)))
  (w:World) (st:Std w (.blk lb cs 129::dkL x d)):
  Calls Tryz.prog 82 #[.pointer (some ⟨lb,0,none⟩),.string name,.int .u64 (mark:Int),.int .i64 (firm:Int)] w (dA lb cs x d w (.int .i64 (bY d name mark firm).2) (bY d name mark firm).1):=by
 apply lseal.ok;unfold lseal.vc dA
 have H:=Hp.Ap st
 generalize hB:feet (.blk lb cs 129::dkL x d)=B at H⊢
 rw[zlMark]
 intro b w1 hn;replace H:=H.new EQ4 hn;clear hn
 have hz:zsec.length=512:=by simp[zsec]
 have hw:IntKind.u64.wrap (firm:Int)=(firm:Int):=by simp[IntKind.wrap,IntKind.signed,IntKind.bits];omega
 rw[hw]
 refine⟨by omega,?_⟩
 refine AL (LU b 0 8 512 84 _ _ (by rw[AQ,hz];omega) (by omega) _ (H.blk (.head _))) ?_
 rintro e w2 ⟨rfl,H'⟩
 replace H:=H.use1 H';clear H'
 rw[Ij]at H
 have l1:=tlen (X:=be (mark:Int) 8) (o:=0) hz (AU _ _) (by omega)
 refine⟨rfl,by omega,?_⟩
 refine AL (LU b 8 8 504 84 _ _ (by rw[AQ,l1];omega) (by omega) _ (H.blk (.head _))) ?_
 rintro e w3 ⟨rfl,H'⟩
 replace H:=H.use1 H';clear H'
 rw[Ij]at H
 have l2:=tlen (X:=be (firm:Int) 8) (o:=8) l1 (AU _ _) (by omega)
 refine⟨rfl,by omega,?_⟩
 refine AL (LU b 504 8 8 84 _ _ (by rw[AQ,l2];omega) (by omega) _ (H.blk (.head _))) ?_
 rintro e w4 ⟨rfl,H'⟩
 replace H:=H.use1 H';clear H'
 rw[Ij,seal_bytes]at H
 refine⟨rfl,?_⟩
 simp only[cons_append,nil_append]at H
 refine AA rfl ⟨_,H.ld EQ4 J8 (.tail _ (.head _)) hcs,?_⟩
 refine AL (O0 x d hok fit.few (by omega) name w4 H.drop.drop.std) ?_
 rintro e w5 ⟨rfl,x1,hx1b,hx1,H'⟩
 replace H:=H.Na H';clear H'
 refine⟨_,rfl,?_⟩
 have fit1:(d.sync name).1.Fit (N+1):=Fit.sync fit name
 refine AO (fun h1=>?_) (fun h1=>AO (fun h2=>absurd h2 h1) (fun _=>?_))
 ·have e1:bY d name mark firm=thn ((d.sync name).1.write name ((mark%2:Nat):Int) (Ba mark firm)) fun d=>d.sync name:=by rw[bY,thn,thn,if_pos h1];rfl
  rw[e1]
  generalize(d.sync name).1=d1 at hx1 H fit1⊢
  replace H:=H.drew
  refine AA rfl ⟨_,H.ld EQ4 J8 (.tail _ (.head _)) hcs,by omega,?_⟩
  have hmod:IntKind.i64.wrap (Int.tmod (mark:Int) 2)=((mark%2:Nat):Int):=by
   rw[show Int.tmod (mark:Int) 2=((mark%2:Nat):Int)from rfl]
   exact DN (by omega)
  rw[hmod]
  have hws:=JE x1 d1 hx1 fit1.few (by omega) (fit1.used (by omega)) name ((mark%2:Nat):Int) (some ⟨b,0,none⟩) 512 (Ba mark firm) w5.drew H.drop.drop.std
   (fun W hW=>(H.drop1.blkSt W hW).cells) (fun h=>by cases h)
  rw[hx1b,sealB_len]at hws
  refine AL hws ?_
  rintro e w6 ⟨rfl,x2,hx2b,hx2,H'⟩
  replace H:=H.Na H';clear H' hws
  refine⟨_,rfl,?_⟩
  have fit2:(d1.write name ((mark%2:Nat):Int) (Ba mark firm)).1.Fit (N+2):=Fit.write fit1 name _ _
  generalize d1.write name ((mark%2:Nat):Int) (Ba mark firm)=r at hx2 H fit2⊢
  refine AO (fun h2=>?_) (fun h2=>?_)
  ·rw[thn,if_pos h2]
   refine AA rfl ⟨_,H.ld EQ4 J8 (.tail _ (.head _)) hcs,?_⟩
   have hss:=O0 x2 r.1 hx2 fit2.few (by omega) name w6 H.drop.drop.std
   rw[hx2b,hx1b]at hss
   refine AL hss ?_
   rintro e w7 ⟨rfl,x3,hx3b,hx3,H'⟩
   replace H:=H.Na H';clear H' hss
   exact⟨_,rfl,rfl,x3,by rw[hx3b,hx2b,hx1b],hx3,H.drop⟩
  ·rw[thn,if_neg h2]
   exact⟨rfl,x2,by rw[hx2b,hx1b],hx2,H.drop⟩
 ·have e1:bY d name mark firm=d.sync name:=by rw[bY,thn,thn,if_neg h1,if_neg h1]
  rw[e1]
  exact⟨rfl,x1,hx1b,hx1,H.drop⟩
end Go.Proofs.YtdeebigmpffnbaaGreat
namespace Go.Redo
open Go Go.Vc Go.Vault
def bf(d:Dk)(name:ByteArray):Nat->Dk×Int
 |0=>d.create name
 |k+1=>thn (bf d name k) fun d=>d.write name (k:Int) []
theorem Qi(d:Dk)(name:ByteArray)(b:List UInt8):bn d name b=thn (thn (bf d name 2) fun d=>bU d name b 0) fun d=>bY d name 1 b.length:=rfl
theorem Pm{d:Dk}{name:ByteArray}{k:Nat}(h:(bf d name k).2≠0):∀j,bf d name (k+j)=bf d name k
 |0=>rfl
 |j+1=>by
  have e:=Pm h j
  show thn (bf d name (k+j)) _=_
  rw[e,thn,if_neg h]
theorem framedAll_snoc(l:List ByteArray)(s:ByteArray):AV (l++[s])=bT (AV l) s:=by simp[AV]
theorem foldl_ge(l:List ByteArray):∀b:List UInt8,b.length<=(l.foldl bT b).length:=by
 induction l with
 |nil=>intro b;exact Nat.le_refl _
 |cons s r ih=>
  intro b
  refine Nat.le_trans ?_ (ih (bT b s))
  rw[bT,length_append];omega
theorem framedAll_take(l:List ByteArray)(k:Nat):(AV (l.take k)).length<=(AV l).length:=by
 have e:AV l=(l.drop k).foldl bT (AV (l.take k)):=by
  rw[AV,AV,<- List.foldl_append,take_append_drop]
 rw[e];exact foldl_ge _ _
end Go.Redo
namespace Go.Proofs.YtdeebigmpffnbaaGreat
open Go Go.Vc Go.Vault Go.Redo
section
variable{B:List Nat}{w0 w w':World}{L M:List Asn}{a b:Asn}
theorem _root_.Go.Vc.Hp.aX{e:TypeId}{sz n c:Nat}{p:Option Addr}{xs:List Value}(H:Hp B w0 w (.own e sz p n c xs::L)):∀W,Chg (feet L) w W->Cells W p xs:=fun W hW=>
 (H.ownA (.head _)).cells.chg hW fun k hk hf=>by
  obtain⟨c,hc,h2⟩:=Dy.1 hf
  exact(pairwise_cons.1 H.sep).1 c hc k (by simpa [Asn.foot]using hk) h2
end
theorem NU(name:ByteArray)(b:List UInt8):∀(m k:Nat){d:Dk}{N:Nat},d.Fit N->(dput name b m k d).1.Fit (N+m)
 |0,k,d,N,h=>h
 |m+1,k,d,N,h=>by
  rw[dput]
  split
  ·exact h.mono (by omega)
  ·rw[thn]
   split
   ·exact(NU name b m (k+1) (Fit.write h name _ _)).mono (by omega)
   ·exact(Fit.write h name _ _).mono (by omega)
theorem TS{d:Dk}{N:Nat}(h:d.Fit N)(name:ByteArray)(b:List UInt8):(bU d name b 0).1.Fit (N+b.length/512+1):=
 (NU name b _ _ h).mono (by omega)
theorem VJ{w:World}{e:TypeId}{sz n c:Nat}{a:Option Addr}{xs:List Value}(h:Own w 0 e sz a n c xs)(ha:a=none):n=0:=by
 rcases h.2 with⟨_,rfl,_⟩|⟨g,_,_,hg,_⟩
 ·rfl
 ·rw[ha]at hg;cases hg
theorem strs_ones(l:List ByteArray):(l.map Value.string).all (·.oneCell')=true:=by
 simp only[all_map,all_eq_true];intro b hb;rfl
theorem PM(a:Option Addr)(c:Nat)(l:List ByteArray)(hl:l.length<=1000000000)(w:World)(hc:Cells w a (l.map .string))(h0:a=none->l.length=0):
  Calls Tryz.prog 111 #[.slice a l.length c] w fun e w'=>∃a' c',e=.returned (.slice a' l.length c')/\Hp [] w w' [.own 9 1 a' l.length c' (l.map .string)]:=by
 apply cloneT.ok;unfold cloneT.vc
 refine⟨_,W9 WO,?_⟩
 refine CE (fun hnone=>?_) (fun hs=>?_)
 ·have ha:a=none:=by simpa using hnone
  have hx:l=[]:=List.eq_nil_of_length_eq_zero (h0 ha)
  subst hx
  exact⟨none,0,rfl,(Hp.start w).nilS _ _⟩
 ·have K:=Hp.start w
  intro b w1 hw
  have hch:=hw.chg
  replace K:=K.new EQ4 hw
  replace K:=K.dE 1 0 rfl (by simp)
  refine Hp.app eltT (by omega) K EQ4 (Cells.src (n:=l.length) WO (hc.chg hch (by simp)) (by simp) (fun u hu=>all_eq_true.1 (strs_ones l) u hu) h0) (by simp only[maxLen];omega) (by omega) ?_
  intro a' c' w2 K
  simp only[nil_append,Nat.zero_add]at K⊢
  exact⟨_,_,rfl,K⟩
theorem lfill_spec(lb:Nat)(cs:List Value)(x:DW)(d:Dk)(hok:x.Ok d){N:Nat}(fit:d.Fit N)(name:ByteArray)(a:Option Addr)(c:Nat)(bs:List UInt8)(hbs:bs.length<=1000000000)(hN:N+bs.length/512+100<=900000)(hcs:cs[0]? =some (.pointer (some ⟨x.b,0,none⟩)))
  (w:World) (st:Std w (.blk lb cs 129::dkL x d)) (hc:∀W,Chg (feet (.blk lb cs 129::dkL x d)) w W->Cells W a (bQ bs)) (h0:a=none->bs.length=0) (hcap:bs.length<=c):
  Calls Tryz.prog 109 #[.pointer (some ⟨lb,0,none⟩),.string name,.slice a bs.length c] w (dA lb cs x d w (.int .i64 (bn d name bs).2) (bn d name bs).1):=by
 apply lfill.ok;unfold lfill.vc dA
 have H:=Hp.Ap st
 generalize hB:feet (.blk lb cs 129::dkL x d)=B at H hc⊢
 refine AA rfl ⟨_,H.ld EQ4 J8 (.head _) hcs,?_⟩
 refine AL (PS x d hok (by have:=fit.chs;omega) (by have:=fit.files;omega) name w H.drop.std) ?_
 rintro e w1 ⟨rfl,x1,hx1b,hx1,H'⟩
 replace H:=H.useT H';clear H'
 refine⟨_,rfl,?_⟩
 have fin:∀(w2:World)(x2:DW)(r:Dk×Int)(N2:Nat),N2<=900000->x2.b=x.b->x2.Ok r.1->r.1.Fit N2->r.2=0->Hp B w w2 (.blk lb cs 129::dkL x2 r.1)->bn d name bs=thn r (fun d=>bY d name 1 bs.length)->
   AB Tryz.prog 82 [.pointer (some ⟨lb,0,none⟩),.string name,.int .u64 1,.int .i64 (bs.length:Int)] w2 fun e w'=>∃i,e=.returned (.int .i64 i)/\Ending.returned (.int .i64 i)=.returned (.int .i64 (bn d name bs).2)/\∃x':DW,x'.b=x.b/\x'.Ok (bn d name bs).1/\Hp B w w' (.blk lb cs 129::dkL x' (bn d name bs).1):=by
  intro w2 x2 r N2 hN2 hxb hx2 fit2 hr H hd
  rw[thn,if_pos hr]at hd
  rw[hd]
  refine AL (Q4 lb cs x2 r.1 hx2 fit2 hN2 name 1 bs.length (by omega) hbs (by rw[hxb];exact hcs) w2 H.std) ?_
  rintro e w3 ⟨rfl,x3,hx3b,hx3,H'⟩
  exact⟨_,rfl,rfl,x3,by rw[hx3b,hxb],hx3,H.Dq H'⟩
 refine Ae.mk (fun m s w'=>∃(k:Nat)(x1:DW),m=2-k/\k<=2/\s=((bf d name k).2,(k:Int))/\x1.b=x.b/\x1.Ok (bf d name k).1/\(bf d name k).1.Fit (N+1+k)/\
  Hp B w w' (.blk lb cs 129::dkL x1 (bf d name k).1)) 2 ⟨0,x1,rfl,by omega,rfl,hx1b,hx1,Fit.create fit name,H⟩ ?_
 clear H hx1 hx1b x1 w1
 rintro m s w1 next ⟨k,x1,rfl,hk,rfl,hxb,hx1,fit1,H⟩ hnext
 refine AO (fun h3=>?_) (fun h3=>?_)
 ·have hk2:k<2:=by simp only at h3;omega
  refine AO (fun h4=>?_) (fun h4=>AO (fun h5=>absurd h5 h4) (fun _=>AO (fun h5=>absurd h5 h4) (fun _=>?_)))
  ·simp only at h4
   have hstep:bf d name (k+1)=(bf d name k).1.write name (k:Int) []:=by rw[bf,thn,if_pos h4]
   have fit2:(bf d name (k+1)).1.Fit (N+1+(k+1)):=by rw[hstep];exact Fit.write fit1 name _ _
   have hws:=JE x1 (bf d name k).1 hx1 fit1.few (by omega) (fit1.used (by omega)) name (k:Int) none 0 [] w1 H.drop.std (fun W _=>by intro j v hj;simp[bQ]at hj) (fun _=>rfl)
   rw[<- hstep]at hws
   generalize bf d name k=r0 at hws H hx1 fit1 h4⊢
   refine AA rfl ⟨_,H.ld EQ4 J8 (.head _) hcs,?_⟩
   rw[hxb]at hws
   refine AL hws ?_
   rintro e w2 ⟨rfl,x2,hx2b,hx2,H'⟩
   replace H:=H.useT H';clear H' hws
   exact⟨_,rfl,AY.2 (by simp only;omega),hnext (2-(k+1)) _ _ (by omega) ⟨k+1,x2,rfl,by omega,rfl,by rw[hx2b,hxb],hx2,fit2,H⟩⟩
  ·simp only at h4
   have e1:bn d name bs=bf d name k:=by
    have h5:=Pm h4 (2-k)
    rw[show k+(2-k)=2 by omega]at h5
    rw[Qi,h5,thn,thn,if_neg h4,if_neg h4]
   rw[e1]
   exact⟨rfl,x1,hxb,hx1,H⟩
 ·have hk2:k=2:=by simp only at h3;omega
  subst hk2
  refine AO (fun h4=>?_) (fun h4=>AO (fun h5=>absurd h5 h4) (fun _=>?_))
  ·simp only at h4
   have e1:bn d name bs=thn (bU (bf d name 2).1 name bs 0) fun d=>bY d name 1 bs.length:=by rw[Qi];congr 1;rw[thn,if_pos h4]
   have fit2:=TS fit1 name bs
   generalize(bf d name 2).1=q at H hx1 fit1 fit2 e1
   refine AL (PK lb cs x1 q hx1 fit1 name a c bs (by omega) 0 (by omega) (by rw[hxb];exact hcs) w1 H.std (fun W hW=>hc W (H.later hW)) h0 hcap) ?_
   rintro e w2 ⟨rfl,x2,hx2b,hx2,H'⟩
   replace H:=H.Dq H';clear H'
   refine⟨_,rfl,?_⟩
   refine AO (fun h5=>?_) (fun h5=>?_)
   ·exact fin w2 x2 _ _ (by omega) (by rw[hx2b,hxb]) hx2 fit2 h5 H e1
   ·rw[thn,if_neg h5]at e1
    rw[e1]
    exact⟨rfl,x2,by rw[hx2b,hxb],hx2,H⟩
  ·simp only at h4
   have e1:bn d name bs=bf d name 2:=by rw[Qi,thn,thn,if_neg h4,if_neg h4]
   rw[e1]
   exact⟨rfl,x1,hxb,hx1,H⟩
end Go.Proofs.YtdeebigmpffnbaaGreat
namespace Go.Redo
open Go Go.Vc Go.Vault
def frame(s:ByteArray):List UInt8:=be (s.size:Int) 4++s.data.toList
def frames(l:List ByteArray):List UInt8:=l.flatMap frame
theorem foldl_frames(l:List ByteArray):∀b:List UInt8,l.foldl bT b=b++frames l:=by
 induction l with
 |nil=>intro b;simp[frames]
 |cons s r ih=>intro b;rw[List.foldl_cons,ih,bT,frames,frames,flatMap_cons,frame];simp only[append_assoc]
theorem Eb(l:List ByteArray):AV l=frames l:=by rw[AV,foldl_frames];rfl
theorem OU(s:ByteArray):(frame s).length=s.size+4:=by
 have:s.data.toList.length=s.size:=Array.length_toList
 rw[frame,length_append,AU,this];omega
theorem recordsF_frame(s:ByteArray)(hs:s.size<=65536)(r:List UInt8)(m:Nat):DZ (m+1) (frame s++r)=(DZ m r).map (s:: ·):=by
 have hd:s.data.toList.length=s.size:=Array.length_toList
 have hne:frame s++r≠[]:=by
  intro h
  have:=congrArg List.length h
  rw[length_append,OU]at this
  simp at this
 have hl:(frame s++r).length=s.size+4+r.length:=by rw[length_append,OU]
 have ht:(frame s++r).take 4=be (s.size:Int) 4:=by
  rw[frame,append_assoc]
  exact List.take_left' (AU _ _)
 have hv:valN (be (s.size:Int) 4)=s.size:=by
  have:=Dj (n:=(s.size:Int)) (k:=4) (by omega) (by omega)
  omega
 have hd4:(frame s++r).drop 4=s.data.toList++r:=by
  rw[frame,append_assoc]
  exact List.drop_left' (AU _ _)
 have hdn:(frame s++r).drop (4+s.size)=r:=by
  rw[<- drop_drop,hd4]
  exact List.drop_left' hd
 rw[DZ,if_neg hne,if_neg (by omega),ht,hv,if_neg (by omega),if_neg (by omega),hd4,hdn,List.take_left' hd]
theorem Jc:∀(l:List ByteArray)(m:Nat),(∀s∈l,s.size<=65536)->(frames l).length<=m->DZ m (frames l)=some l
 | [],m,_,_=>by
  cases m with
  |zero=>rfl
  |succ m=>simp[DZ,frames]
 |s::r,m,h,hm=>by
  have e:frames (s::r)=frame s++frames r:=by simp[frames]
  rw[e,length_append,OU]at hm
  obtain⟨m2,rfl⟩:∃m2,m=m2+1:=⟨m-1,by omega⟩
  rw[e,recordsF_frame s (h s (.head _)),Jc r m2 (fun t ht=>h t (.tail _ ht)) (by omega)]
  rfl
theorem Gw{l:List ByteArray}(h:∀s∈l,s.size<=65536):records (AV l)=some l:=by
 rw[Eb]
 exact Jc l _ h (Nat.le_refl _)
theorem frames_append(a b:List ByteArray):frames (a++b)=frames a++frames b:=by simp[frames]
def chunk(b:List UInt8)(k:Nat):List UInt8:=(b.drop (k*512)).take 512
def nsec(n:Nat):Nat:=(n+511)/512
theorem pad_take{c:List UInt8}(h:c.length<=512):(pad c).take c.length=c:=by rw[pad];exact List.take_left' rfl
theorem Gf{c:List UInt8}(h:c.length<=512):(pad c).length=512:=by rw[pad,length_append,length_replicate];omega
end Go.Redo
namespace Go.Vc
open Go
def sEq:Value->Value->Bool
 |.int _ a,.int _ b=>decide (a=b)
 |.bool a,.bool b=>a==b
 |.string a,.string b=>decide (a=b)
 |_,_=>false
theorem beqB(a b:ByteArray):(a==b)=decide (a=b):=by
 obtain⟨x⟩:=a
 obtain⟨y⟩:=b
 show(x==y)=_
 rw[Bool.eq_iff_iff]
 simp
def kdB(P:Program)(t:TypeId)(k:Kd):Bool:=match P.underlying t,k with
 |some (.int q),.inl q'=>decide (q=q')
 |some .bool,.inr 0=>true
 |some .string,.inr 1=>true
 |_,_=>false
def Rw(P:Program):List Field->List (Nat×Kd)->Bool
 | [],[]=>true
 | f :: fs, (o, k) :: l => Nat.beq f.offset o && f.name != "_" && kdB P f.type k && Rw P fs l
 |_,_=>false
structure Xi(P:Program)(t:TypeId)(l:List (Nat×Kd)):Prop where
 und:∃fs,P.underlying t=some (.struct fs)/\Rw P fs.toList l=true
 guard:P.eqGuardType P.depth t=false
 stood:P.stoodInHeld t=false
def aB(P:Program)(t:TypeId)(l:List (Nat×Kd)):Bool:=match P.underlying t with
 |some (.struct fs)=>Rw P fs.toList l&& !P.eqGuardType P.depth t&& !P.stoodInHeld t
 |_=>false
theorem NH{P:Program}{t:TypeId}{l:List (Nat×Kd)}(h:aB P t l=true):Xi P t l:=by
 unfold aB at h
 split at h
 ·rename_i fs hu
  simp only[Bool.and_eq_true,Bool.not_eq_true']at h
  exact⟨⟨fs,hu,h.1.1⟩,h.1.2,h.2⟩
 ·cases h
def fitL(l:List (Nat×Kd))(cs:List Value):Bool:=l.all fun p=>match cs[p.1]? with
 |some v=>(fromV p.2 v).isSome
 |none=>false
def eqL(l:List (Nat×Kd))(xs ys:List Value):Bool:=l.all fun p=>match xs[p.1]?,ys[p.1]? with
 |some a,some b=>sEq a b
 |_,_=>false
section
variable{P:Program}{w:World}
theorem Y5{t:TypeId}{k:Kd}{a b:Value}{d:Nat}(hk:kdB P t k=true)(ha:(fromV k a).isSome=true)(hb:(fromV k b).isSome=true):(Op.equalIn (d+1) t a b).run P w=.ok (sEq a b) w:=by
 unfold kdB at hk
 split at hk
 ·rename_i q q' hu
  have:=of_decide_eq_true hk;subst this
  cases a<;>simp only[fromV,Option.isSome_none,Bool.false_eq_true]at ha
  cases b<;>simp only[fromV,Option.isSome_none,Bool.false_eq_true]at hb
  split at ha
  ·split at hb
   ·rename_i e1 _ e2
    have e1:=of_decide_eq_true e1
    have e2:=of_decide_eq_true e2
    subst e1;subst e2
    exact(run_equalIn_int w d t _ _ _ _ hu).trans (by rw[sEq,Bool.beq_eq_decide_eq])
   ·cases hb
  ·cases ha
 ·rename_i hu
  cases a<;>simp[fromV]at ha
  cases b<;>simp[fromV]at hb
  exact run_equalIn_bool w d t _ _ hu
 ·rename_i hu
  cases a<;>simp[fromV]at ha
  cases b<;>simp[fromV]at hb
  simp[Op.equalIn,run_underlying hu,sEq,beqB]
 ·cases hk
theorem FI{t:TypeId}{k:Kd}{xs:Array Value}{o:Nat}{v:Value}(hk:kdB P t k=true)(hx:xs[o]? =some v):(part t xs o).run P w=.ok v w:=by
 refine run_part_plain w ?_ hx
 unfold kdB at hk
 unfold Program.plainKey
 split at hk<;>simp_all
theorem NR{d:Nat}{xs ys:List Value}:∀(fs:List Field)(l:List (Nat×Kd)),Rw P fs l=true->fitL l xs=true->fitL l ys=true->(Op.eqFields (d+1) xs.toArray ys.toArray fs).run P w=.ok (eqL l xs ys) w
 | [],[],_,_,_=>rfl
 |f::fs,(o,k)::l,h,hx,hy=>by
  simp only[Rw,Bool.and_eq_true]at h
  obtain⟨⟨⟨h1,h2⟩,h3⟩,h4⟩:=h
  have:=Nat.eq_of_beq_eq_true h1;subst this
  simp only[fitL,all_cons,Bool.and_eq_true]at hx hy
  cases ha:xs[f.offset]? with
  |none=>rw[ha]at hx;cases hx.1
  |some a=>
   cases hb:ys[f.offset]? with
   |none=>rw[hb]at hy;cases hy.1
   |some b=>
    rw[ha]at hx;rw[hb]at hy
    have ih:=NR (d:=d) fs l h4 hx.2 hy.2
    simp only[Op.eqFields]
    rw[if_pos (by simpa using h2)]
    simp only[Sem.run_bind,FI (w:=w) h3 (show xs.toArray[f.offset]? =some a by simpa using ha),FI (w:=w) h3 (show ys.toArray[f.offset]? =some b by simpa using hb),Result.andThen_ok,Y5 h3 hx.1 hy.1]
    have he:eqL ((f.offset,k)::l) xs ys=(sEq a b&&eqL l xs ys):=by simp only[eqL,all_cons,ha,hb]
    rw[he]
    cases sEq a b with
    |true=>simpa using ih
    |false=>simp
theorem XL{t:TypeId}{l:List (Nat×Kd)}(T:Xi P t l){xs ys:List Value}(hx:fitL l xs=true)(hy:fitL l ys=true):(Op.equalIn 10000 t (.agg xs.toArray) (.agg ys.toArray)).run P w=.ok (eqL l xs ys) w:=by
 obtain⟨⟨fs,hu,hf⟩,hg,hs⟩:=T
 have e:P.fieldsOf t=fs:=by simp[Program.fieldsOf,hu]
 rw[run_equalIn_struct w 9999 t _ _ (by rw[e];exact hu) hs,e]
 exact NR fs.toList l hf hx hy
theorem eqv_neq{t:TypeId}{l:List (Nat×Kd)}(T:Xi P t l){xs ys:List Value}{x y:Operand}{b:Bool}(hx:fitL l xs=true)(hy:fitL l ys=true)(hb:(!eqL l xs ys)=b):Eqv P .neq t x y w (.agg xs.toArray) (.agg ys.toArray) b:=by
 subst hb
 simp only[Eqv,Sem.run_bind,run_eqGuard_agg w .neq t x y _ _ T.guard,Result.andThen_ok,run_neq_struct,XL T hx hy]
end
end Go.Vc
namespace Go.Proofs.YtdeebigmpffnbaaGreat.Sl
open Go Go.Vc
theorem scl3:Scl Tryz.prog 3:=BP (by kernel_rfl)
theorem scl5:Scl Tryz.prog 5:=BP (by kernel_rfl)
theorem A7:Scl Tryz.prog 99:=BP (by kernel_rfl)
theorem Fe:Scl Tryz.prog 30:=BP (by kernel_rfl)
theorem CY:Agg Tryz.prog 144 4098:=IK (by kernel_rfl)
theorem Ci:Agg Tryz.prog 142 4096:=IK (by kernel_rfl)
structure Pg where
 st:List UInt8
 hdr:Nat
 dir:List (Nat×Nat)
 data:List UInt8
 many:Nat
 low:Nat
def dirB(d:List (Nat×Nat)):List UInt8:=d.flatMap fun p=>be p.1 2++be p.2 2
def Pg.bs(g:Pg):List UInt8:=g.st++(be g.hdr 2++(dirB g.dir++g.data))
def Pg.cells(g:Pg):List Value:=bQ g.bs++[.int .i64 (g.many:Int),.int .i64 (g.low:Int)]
structure Pg.Ok(g:Pg):Prop where
 st:g.st.length=8
 hdr:g.hdr<65536
 dir:g.dir.length=120
 data:g.data.length=3606
 many:g.many<=120
 ent:∀p∈g.dir,p.1<65536/\p.2<65536
 low:g.low<=4096
def pgA(b:Nat)(g:Pg):Asn:=.blk b g.cells 144
theorem IX(d:List (Nat×Nat)):(dirB d).length=4*d.length:=by
 induction d with
 |nil=>rfl
 |cons p r ih=>
  simp only[dirB,flatMap_cons,length_append,AU,length_cons]at ih⊢
  omega
theorem IB(x y:List (Nat×Nat)):dirB (x++y)=dirB x++dirB y:=by simp[dirB]
theorem Ko(p:Nat×Nat)(r:List (Nat×Nat)):dirB (p::r)=be p.1 2++be p.2 2++dirB r:=by simp[dirB]
theorem Tm{d:List (Nat×Nat)}{k:Nat}(h:k<d.length):d=d.take k++d[k]::d.drop (k+1):=by
 rw[<- drop_eq_getElem_cons h,take_append_drop]
theorem Pg.Ok.len{g:Pg}(h:g.Ok):g.bs.length=4096:=by
 simp only[Pg.bs,length_append,AU,IX,h.st,h.dir,h.data]
theorem Pg.Ok.clen{g:Pg}(h:g.Ok):g.cells.length=4098:=by
 simp only[Pg.cells,length_append,AQ,h.len,length_cons,length_nil]
theorem Pg.Ok.byte{g:Pg}(h:g.Ok){i:Nat}(hi:i<4096):g.cells[i]? =some (.int .u8 ((g.bs[i]'(by rw[h.len];exact hi)).toNat:Int)):=by
 rw[Pg.cells,List.getElem?_append_left (by rw[AQ,h.len];exact hi)]
 simp[bQ,List.getElem?_eq_getElem (show i<g.bs.length by rw[h.len];exact hi)]
theorem Pg.Ok.manyC{g:Pg}(h:g.Ok):g.cells[4096]? =some (.int .i64 (g.many:Int)):=by
 rw[Pg.cells,List.getElem?_append_right (by rw[AQ,h.len];exact Nat.le_refl _),AQ,h.len];rfl
theorem Pg.Ok.lowC{g:Pg}(h:g.Ok):g.cells[4097]? =some (.int .i64 (g.low:Int)):=by
 rw[Pg.cells,List.getElem?_append_right (by rw[AQ,h.len];omega),AQ,h.len];rfl
theorem Pg.Ok.entry{g:Pg}(h:g.Ok){k:Nat}(hk:k<120):(g.bs.drop (10+4*k)).take 4=be (g.dir[k]'(by rw[h.dir];exact hk)).1 2++be (g.dir[k]'(by rw[h.dir];exact hk)).2 2:=by
 have hk':k<g.dir.length:=by rw[h.dir];exact hk
 have e:g.bs=(g.st++be g.hdr 2++dirB (g.dir.take k))++((be g.dir[k].1 2++be g.dir[k].2 2)++(dirB (g.dir.drop (k+1))++g.data)):=by
  conv=>lhs;rw[Pg.bs,Tm hk']
  rw[IB,Ko];simp only[append_assoc]
 have hl:(g.st++be g.hdr 2++dirB (g.dir.take k)).length=10+4*k:=by
  simp only[length_append,AU,IX,length_take,h.st];omega
 rw[e,drop_left _ _ _ hl]
 exact take_left _ _ 4 (by simp[AU])
theorem take2{l:List UInt8}{i:Nat}(h:i+1<l.length):(l.drop i).take 2=[l[i],l[i+1]]:=by
 rw[drop_eq_getElem_cons (by omega),drop_eq_getElem_cons (by omega)];rfl
theorem NM(x y:UInt8):valN [x,y]=x.toNat*256+y.toNat:=by simp[valN]
theorem Pg.Ok.ent1{g:Pg}(h:g.Ok){k:Nat}(hk:k<120):valN ((g.bs.drop (10+4*k)).take 2)=(g.dir[k]'(by rw[h.dir];exact hk)).1:=by
 have e:=h.entry hk
 have hm:=h.ent _ (getElem_mem (show k<g.dir.length by rw[h.dir];exact hk))
 have:(g.bs.drop (10+4*k)).take 2=((g.bs.drop (10+4*k)).take 4).take 2:=by rw[List.take_take];rfl
 rw[this,e,take_left _ _ 2 (AU _ _)]
 have:=Dj (n:=((g.dir[k]'(by rw[h.dir];exact hk)).1:Int)) (k:=2) (by omega) (by omega)
 omega
theorem Pg.Ok.ent2{g:Pg}(h:g.Ok){k:Nat}(hk:k<120):valN ((g.bs.drop (10+4*k+2)).take 2)=(g.dir[k]'(by rw[h.dir];exact hk)).2:=by
 have e:=h.entry hk
 have hm:=h.ent _ (getElem_mem (show k<g.dir.length by rw[h.dir];exact hk))
 have:(g.bs.drop (10+4*k+2)).take 2=((g.bs.drop (10+4*k)).take 4).drop 2:=by rw[List.drop_take,drop_drop]
 rw[this,e,drop_left _ _ 2 (AU _ _)]
 have:=Dj (n:=((g.dir[k]'(by rw[h.dir];exact hk)).2:Int)) (k:=2) (by omega) (by omega)
 omega
def PgAt(w:World)(b:Nat)(g:Pg):Prop:=g.Ok/\Blk w b g.cells 144
theorem PgAt.chg{w w':World}{b:Nat}{g:Pg}{S:List Nat}(h:PgAt w b g)(hc:Chg S w w')(hs:b∉S):PgAt w' b g:=⟨h.1,h.2.chg hc hs⟩
theorem PgAt.ldB{w:World}{b:Nat}{g:Pg}(h:PgAt w b g){i:Nat}(hi:i<4096):Ld Tryz.prog 5 w ⟨b,i,none⟩ (.int .u8 ((g.bs[i]'(by rw[h.1.len];exact hi)).toNat:Int)):=h.2.ld scl5.agg (h.1.byte hi)
theorem PgAt.Gz{w:World}{b:Nat}{g:Pg}(h:PgAt w b g):Ld Tryz.prog 3 w ⟨b,4096,none⟩ (.int .i64 (g.many:Int)):=h.2.ld scl3.agg h.1.manyC
theorem PgAt.Pn{w:World}{b:Nat}{g:Pg}(h:PgAt w b g):Ld Tryz.prog 3 w ⟨b,4097,none⟩ (.int .i64 (g.low:Int)):=h.2.ld scl3.agg h.1.lowC
theorem addB(b i:Nat):(⟨b,0,none⟩:Addr).add i=⟨b,i,none⟩:=by rw[add_lit,Nat.zero_add]
theorem NQ(b:Nat)(g:Pg)(i:Nat)(hi:i+1<4096)(w:World)(h:PgAt w b g):
  Calls Tryz.prog 117 #[.pointer (some ⟨b,0,none⟩),.int .i64 (i:Int)] w fun e w'=>e=.returned (.int .i64 (valN ((g.bs.drop i).take 2):Int))/\Hp [] w w' []:=by
 apply two.ok
 unfold two.vc
 have H:=(Hp.start w).drew
 have hd:=h.chg H.chg (by simp)
 have hl:=h.1.len
 have e1:Int.toNat (i:Int)*1=i:=by omega
 have e2:Int.toNat ((i:Int)+1)*1=i+1:=by omega
 refine AA rfl ⟨⟨by omega,by omega⟩,_,by rw[e1,addB];exact hd.ldB (by omega),by omega,?_⟩
 have hx:=(g.bs[i]'(by omega)).toNat_lt
 have hy:=(g.bs[i+1]'(by omega)).toNat_lt
 rw[wrapByte]
 have e3:(2:Int)^min (Int.toNat 8) (IntKind.bits .i64)=256:=by decide
 refine⟨AY.2 (by rw[e3];omega),AY.2 (by omega),AA rfl ⟨⟨by omega,by omega⟩,_,by rw[e2,addB];exact hd.ldB (by omega),?_,H⟩⟩
 rw[X7 _ _ (by omega) hy,take2 (by omega),NM]
theorem Ig(b:Nat)(g:Pg)(k:Int)(w:World)(h:PgAt w b g):
  Calls Tryz.prog 77 #[.pointer (some ⟨b,0,none⟩),.int .i64 k] w fun e w'=>e=.returned (.tuple #[.int .i64 (if 0<=k/\k<g.many then((g.dir.getD k.toNat (0,0)).1:Int)else 0),.int .i64 (if 0<=k/\k<g.many then((g.dir.getD k.toNat (0,0)).2:Int)else 0)])/\Hp [] w w' []:=by
 apply slot.ok
 unfold slot.vc
 have H:=Hp.start w
 have hm:=h.1.many
 refine AO (fun h1=>?_) (fun h1=>AA rfl ⟨_,by rw[addB];exact h.Gz,AO (fun h2=>?_) (fun h2=>?_)⟩)
 ·rw[if_neg (by omega),if_neg (by omega)];exact⟨rfl,H⟩
 ·rw[if_neg (by omega),if_neg (by omega)];exact⟨rfl,H⟩
 ·obtain⟨K,rfl⟩:∃K:Nat,k=K:=⟨k.toNat,by omega⟩
  have hK:K<120:=by omega
  rw[if_pos (by omega),if_pos (by omega)]
  have e1:(10:Int)+4*(K:Int)=((10+4*K:Nat):Int):=by omega
  have e2:((10+4*K:Nat):Int)+2=((10+4*K+2:Nat):Int):=by omega
  rw[e1,e2]
  refine⟨AY.2 (by omega),AY.2 (by omega),AL (NQ b g _ (by omega) _ h) ?_⟩
  (rintro _ _ ⟨rfl,H'⟩;(first|replace H:=H.ext0 H'|replace H:=H.drew.ext0 H'|replace H:=H.drew.drew.ext0 H');clear H';refine⟨_,rfl,?_⟩)
  refine⟨AY.2 (by omega),AY.2 (by omega),AY.2 (by omega),AL (NQ b g _ (by omega) _ (h.chg H.chg (by simp))) ?_⟩
  (rintro _ _ ⟨rfl,H'⟩;(first|replace H:=H.ext0 H'|replace H:=H.drew.ext0 H'|replace H:=H.drew.drew.ext0 H');clear H';refine⟨_,rfl,?_⟩)
  have hd:K<g.dir.length:=by rw[h.1.dir];exact hK
  rw[h.1.ent1 hK,h.1.ent2 hK]
  simp only[Int.toNat_natCast,getD_eq_getElem?_getD,List.getElem?_eq_getElem hd,Option.getD_some]
  exact⟨trivial,H⟩
theorem TV(l:List UInt8)(i:Nat)(x:UInt8):(bQ l).set i (.int .u8 (x.toNat:Int))=bQ (l.set i x):=by simp[bQ,List.map_set]
theorem Pg.Td{g:Pg}(h:g.Ok){i:Nat}(hi:i<4096)(x:UInt8):g.cells.set i (.int .u8 (x.toNat:Int))=bQ (g.bs.set i x)++[.int .i64 (g.many:Int),.int .i64 (g.low:Int)]:=by
 rw[Pg.cells,set_append,if_pos (by rw[AQ,h.len];exact hi),TV]
theorem set2(l:List UInt8)(a x c:List UInt8)(p q:UInt8)(hx:x.length=2)(i:Nat)(hi:i=a.length)(hl:l=a++(x++c)):(l.set i p).set (i+1) q=a++([p,q]++c):=by
 subst hl hi
 match x,hx with
 | [x1,x2],_=>
  rw[set_append,if_neg (by omega),Nat.sub_self]
  rw[set_append,if_neg (by omega),show a.length+1-a.length=1 by omega]
  rfl
theorem be2(n:Nat):be (n:Int) 2=[bt n 1,bt n 0]:=rfl
theorem Ij(n:Nat):IntKind.u8.wrap (Int.fdiv (n:Int) (2^min (Int.toNat 8) (IntKind.bits .i64)))=((bt n 1).toNat:Int)/\IntKind.u8.wrap (n:Int)=((bt n 0).toNat:Int):=by
 have h1:=Js (n:Int) 1 (by omega) 1 rfl
 have h0:=Js (n:Int) 0 (by omega) 0 rfl
 refine⟨h1,?_⟩
 rw[<- h0]
 simp
theorem Me(b:Nat)(g g':Pg)(a x c:List UInt8)(i n:Nat)(hx:x.length=2)(ha:a.length=i)(hi:i+1<4096)(hb:g.bs=a++(x++c))(hb':g'.bs=a++(be (n:Int) 2++c))(hmm:g'.many=g.many)(hll:g'.low=g.low)(w:World)(h:PgAt w b g):
  Calls Tryz.prog 132 #[.pointer (some ⟨b,0,none⟩),.int .i64 (i:Int),.int .i64 (n:Int)] w fun e w'=>e=.returned (.tuple #[])/\Hp [b] w w' [pgA b g']:=by
 apply lay.ok
 unfold lay.vc
 have H:Hp [b] w w [pgA b g]:=Hp.JF (a:=pgA b g) h.2
 replace H:=H.drew
 have hcl:=h.1.clen
 obtain⟨l1,l0⟩:=Ij n
 have e1:Int.toNat (i:Int)*1=i:=by omega
 have e2:Int.toNat ((i:Int)+1)*1=i+1:=by omega
 refine⟨AY.2 (by omega),by omega,AA rfl ⟨⟨by omega,by omega⟩,AA rfl ?_⟩⟩
 rw[e1,e2,addB,addB,l1,l0]
 refine Hp.st H EQ4 scl5 rfl rfl (by rw[hcl];omega) rfl ?_
 clear H
 intro w1 H
 rw[Pg.Td h.1 (by omega)]at H
 refine⟨⟨by omega,by omega⟩,Hp.st H EQ4 scl5 rfl rfl (by rw[length_append,AQ,length_set,h.1.len];simp;omega) rfl ?_⟩
 clear H
 intro w2 H
 rw[set_append,if_pos (by rw[AQ,length_set,h.1.len];omega),TV,set2 g.bs a x c _ _ hx i ha.symm hb,<- be2,<- hb',<- hmm,<- hll,<- Pg.cells]at H
 exact⟨rfl,H⟩
theorem Pg.Zq{g:Pg}(h:g.Ok){k:Nat}(hk:k<120)(p q:Nat):({g with dir:=g.dir.set k (p,q)}:Pg).bs=(g.st++be g.hdr 2++dirB (g.dir.take k))++(be p 2++(be q 2++(dirB (g.dir.drop (k+1))++g.data))):=by
 have hk':k<g.dir.length:=by rw[h.dir];exact hk
 have e:g.dir.set k (p,q)=g.dir.take k++(p,q)::g.dir.drop (k+1):=by
  rw[List.set_eq_take_append_cons_drop,if_pos hk']
 simp only[Pg.bs,e,IB,Ko,append_assoc]
def setD(g:Pg)(k at_ long:Nat):Pg:= {g with dir:=g.dir.set k (at_,long)}
theorem Zg{g:Pg}(h:g.Ok){k at_ long:Nat}(h1:at_<65536)(h2:long<65536):(setD g k at_ long).Ok:=
 ⟨h.st,h.hdr,by simp[setD,h.dir],h.data,h.many,fun p hp=>by
  rcases mem_or_eq_of_mem_set hp with hp|rfl
  ·exact h.ent p hp
  ·exact⟨h1,h2⟩,h.low⟩
theorem NG(b:Nat)(g:Pg)(k at_ long:Nat)(hk:k<120)(h1:at_<65536)(h2:long<65536)(w:World)(h:PgAt w b g):
  Calls Tryz.prog 131 #[.pointer (some ⟨b,0,none⟩),.int .i64 (k:Int),.int .i64 (at_:Int),.int .i64 (long:Int)] w fun e w'=>e=.returned (.tuple #[])/\(setD g k at_ long).Ok/\Hp [b] w w' [pgA b (setD g k at_ long)]:=by
 apply set.ok
 unfold set.vc
 have hk':k<g.dir.length:=by rw[h.1.dir];exact hk
 have e1:(10:Int)+4*(k:Int)=((10+4*k:Nat):Int):=by omega
 have e2:((10+4*k:Nat):Int)+2=((10+4*k+2:Nat):Int):=by omega
 rw[e1,e2]
 have hl:(g.st++be g.hdr 2++dirB (g.dir.take k)).length=10+4*k:=by
  simp only[length_append,AU,IX,length_take,h.1.st];omega
 have hself:g.bs=(g.st++be g.hdr 2++dirB (g.dir.take k))++(be g.dir[k].1 2++(be g.dir[k].2 2++(dirB (g.dir.drop (k+1))++g.data))):=by
  conv=>lhs;rw[Pg.bs,Tm hk']
  rw[IB,Ko];simp only[append_assoc]
 have hent:=h.1.ent _ (getElem_mem hk')
 refine⟨AY.2 (by omega),AY.2 (by omega),AL (Me b g (setD g k at_ g.dir[k].2) _ _ _ _ at_ (AU _ 2) hl (by omega) hself (Pg.Zq h.1 hk _ _) rfl rfl w h) ?_⟩
 rintro e w1 ⟨rfl,H⟩
 have ok1:=Zg (k:=k) h.1 h1 hent.2
 have hA:PgAt w1 b (setD g k at_ g.dir[k].2):=⟨ok1,H.ok _ (.head _)⟩
 refine⟨rfl,AY.2 (by omega),AY.2 (by omega),AY.2 (by omega),?_⟩
 have hl2:(g.st++be g.hdr 2++dirB (g.dir.take k)++be (at_:Int) 2).length=10+4*k+2:=by rw[length_append,hl,AU]
 have hb1:=Pg.Zq h.1 hk at_ g.dir[k].2
 have hb2:=Pg.Zq h.1 hk at_ long
 rw[<- append_assoc]at hb1 hb2
 refine AL (Me b _ (setD g k at_ long) _ _ _ _ long (AU _ 2) hl2 (by omega) hb1 hb2 rfl rfl w1 hA) ?_
 rintro e w2 ⟨rfl,H'⟩
 exact⟨rfl,rfl,Zg h.1 h1 h2,H.FO H'⟩
def atOf(g:Pg)(k:Nat):Nat:=(g.dir.getD k (0,0)).1
def lenOf(g:Pg)(k:Nat):Nat:=(g.dir.getD k (0,0)).2
theorem Pg.Ok.atB{g:Pg}(h:g.Ok)(k:Nat):atOf g k<65536/\lenOf g k<65536:=by
 simp only[atOf,lenOf,getD_eq_getElem?_getD]
 cases hk:g.dir[k]? with
 |none=>simp
 |some p=>exact h.ent p (mem_of_getElem? hk)
theorem ML(b:Nat)(g:Pg)(k:Nat)(hk:k<g.many)(w:World)(h:PgAt w b g):
  Calls Tryz.prog 77 #[.pointer (some ⟨b,0,none⟩),.int .i64 (k:Int)] w fun e w'=>e=.returned (.tuple #[.int .i64 (atOf g k:Int),.int .i64 (lenOf g k:Int)])/\Hp [] w w' []:=by
 refine Calls.mono (Ig b g k w h) ?_
 rintro e w' ⟨rfl,H⟩
 rw[if_pos (by omega),if_pos (by omega)]
 exact⟨rfl,H⟩
theorem each_spec(b:Nat)(fv:Value)(N:Nat)(I:Nat->World->Prop)(J:World->Prop)(w:World)(h0:I 0 w)(hI0:∃g,PgAt w b g/\g.many=N)
  (hI:∀k w,k<N->I k w->∃g,PgAt w b g/\g.many=N/\∀w',Hp [] w w' []->(atOf g k=0->I (k+1) w')/\(0<atOf g k->Du Tryz.prog fv [.int .i64 (k:Int)] w' fun e w''=>(e=.returned (.bool true)/\I (k+1) w'')\/(e=.returned (.bool false)/\J w''))):
  Calls Tryz.prog 76 #[.pointer (some ⟨b,0,none⟩),fv] w fun e w'=>e=.returned (.tuple #[])/\(I N w'\/J w'):=by
 apply each.ok
 unfold each.vc
 obtain⟨g0,hg0,hN0⟩:=hI0
 have hN:N<=120:=by rw[<- hN0];exact hg0.1.many
 refine AA rfl ⟨_,by rw[addB];exact hg0.Gz,?_⟩
 rw[hN0]
 refine Ae.mk (fun m s w'=>∃k:Nat,m=N-k/\s=(k:Int)/\k<=N/\I k w') N ⟨0,rfl,rfl,Nat.zero_le _,h0⟩ ?_
 rintro m s w' next ⟨k,rfl,rfl,hk,hIk⟩ hnext
 refine AO (fun h=>?_) (fun h=>?_)
 ·obtain⟨g,hg,hgN,hstep⟩:=hI k w' (by omega) hIk
  refine AL (ML b g k (by omega) _ hg) ?_
  rintro e w2 ⟨rfl,H⟩
  obtain⟨hs1,hs2⟩:=hstep w2 H
  refine⟨_,_,rfl,AO (fun h1=>?_) (fun h1=>?_)⟩
  ·refine XH (hs2 (by omega)) ?_
   rintro e w3 (⟨rfl,hI'⟩|⟨rfl,hJ⟩)
   ·exact⟨_,rfl,BI (fun h=>by cases h) fun _=>⟨AY.2 (by omega),hnext (N-(k+1)) _ _ (by omega) ⟨k+1,rfl,by simp,by omega,hI'⟩⟩⟩
   ·exact⟨_,rfl,BI (fun _=>⟨rfl,.inr hJ⟩) fun h=>by cases h⟩
  ·exact⟨AY.2 (by omega),hnext (N-(k+1)) _ _ (by omega) ⟨k+1,rfl,by simp,by omega,hs1 (by omega)⟩⟩
 ·have:k=N:=by omega
  subst this
  exact⟨rfl,.inl hIk⟩
theorem FM{B:List Nat}{w0 w:World}{L R:List Asn}{x:Asn}(H:Hp B w0 w (L++x::R)):Hp B w0 w (x::(L++R)):=H.perm List.perm_middle
theorem front_mid{B:List Nat}{w0 w:World}{L R:List Asn}{x:Asn}(H:Hp B w0 w (x::(L++R))):Hp B w0 w (L++x::R):=H.perm List.perm_middle.symm
theorem RV{B:List Nat}{w0 w:World}{L R:List Asn}{l:Nat}{o o':Obj}(H:Hp B w0 w (L++objA l o::R)):Hp B w0 (w.putObj l o') (L++objA l o'::R):=front_mid (FM H).putO
theorem I9{σ ρ:Type}{round:Int->World->(World->(World->Prop)->Prop)->(World->Prop)->(World->Prop)->(Nat->World->Prop)->Prop}{Qn Qr:Nat->World->Prop}{Qx:Nat->Nat->World->Prop}{B:List Nat}{w0 w:World}
  (b N:Nat) (pg:Nat->σ->Pg) (Lk:Nat->σ->List Asn) (Inv:Nat->σ->Prop) (Lr:ρ->List Asn) (Stop:ρ->Prop) (x0:σ) (hx0:Inv 0 x0) (H:Hp B w0 w (Lk 0 x0))
  (hpg:∀k x w' T,Inv k x->Hp B w0 w' (Lk k x++T)->PgAt w' b (pg k x)/\(pg k x).many=N)
  (hskip:∀k x,k<N->Inv k x->atOf (pg k x) k=0->∃x',Inv (k+1) x'/\Lk (k+1) x'=Lk k x)
  (hround:∀k x,k<N->Inv k x->0<atOf (pg k x) k->∀(w':World)(T0 T1:List Asn)(begin:World->(World->Prop)->Prop)(kn kr:World->Prop)(kx:Nat->World->Prop),Hp B w0 w' (Lk k x++T0)->
   (∀k0:World->Prop,(∀w2,Hp B w0 w2 (Lk k x++T1)->k0 w2)->begin w' k0)->(∀w3 x',Inv (k+1) x'->Hp B w0 w3 (Lk (k+1) x'++T1)->kn w3)->(∀w3 y,Stop y->Hp B w0 w3 (Lr y++T1)->kr w3)->round (k:Int) w' begin kn kr kx)
  (hend:∀x D w',Inv N x->Hp B w0 w' (Lk N x++[objA D (.deferred (some []))])->Qn D w')
  (hret:∀y D w',Stop y->Hp B w0 w' (Lr y++[objA D (.deferred (some []))])->Qr D w'):
  JO Tryz.prog 76 [.pointer (some ⟨b,0,none⟩)] [] (fun s:Int=>[.int .i64 s]) round w Qn Qr Qx:=by
 refine⟨fun D l wa wb rec hD hl hy=>?_⟩
 have H2:Hp B w0 wb (Lk 0 x0++[objA l (rec .ready none),objA D (.deferred (some []))]):=by
  have h1:=H.newO ⟨rfl,rfl,rfl,rfl⟩ hD
  have h2:=h1.newO ⟨rfl,rfl,rfl,rfl⟩ hl
  refine h2.perm ?_
  exact(perm_append_comm (l₁:=[objA l (rec .ready none),objA D (.deferred (some []))]) (l₂:=Lk 0 x0))
 refine AL (each_spec b _ N (fun k w'=>∃x,Inv k x/\Hp B w0 w' (Lk k x++[objA l (rec .ready none),objA D (.deferred (some []))])) (fun w'=>∃y,Stop y/\Hp B w0 w' (Lr y++[objA l (rec .done (some .ret)),objA D (.deferred (some []))])) wb ⟨x0,hx0,H2⟩ ⟨_,hpg 0 x0 wb _ hx0 H2⟩ ?_) ?_
 ·rintro k w' hk ⟨x,hx,Hx⟩
  obtain⟨hp1,hp2⟩:=hpg k x w' _ hx Hx
  refine⟨_,hp1,hp2,fun w2 Hw=>⟨fun h0=>?_,fun h0=>?_⟩⟩
  ·obtain⟨x',hx',he⟩:=hskip k x hk hx h0
   exact⟨x',hx',by rw[he];exact Hx.ext0 Hw⟩
  ·have Hy:=Hx.ext0 Hw
   have hready:=(FM Hy).obj (.head _)
   refine hy (k:Int) w2 _ (hround k x hk hx h0 w2 _ [objA l (rec .busy none),objA D (.deferred (some []))] _ _ _ _ Hy ?_ ?_ ?_) hready
   ·intro k0 hk0
    exact⟨hready,hk0 _ (RV Hy)⟩
   ·intro w3 x' hx' H3
    exact⟨(FM H3).obj (.head _),.inl ⟨rfl,x',hx',RV H3⟩⟩
   ·intro w3 y hs H3
    exact⟨(FM H3).obj (.head _),.inr ⟨rfl,y,hs,RV H3⟩⟩
 ·rintro e w2 ⟨rfl,⟨x,hx,Hx⟩|⟨y,hs,Hy⟩⟩
  ·exact⟨_,rfl,.inl ⟨(FM Hx).obj (.head _),hend x D _ hx (FM Hx).putO.drop⟩⟩
  ·exact⟨_,rfl,.inr (.inl ⟨(FM Hy).obj (.head _),hret y D _ hs (FM Hy).putO.drop⟩)⟩
def live(g:Pg)(k:Nat):List Nat:=(List.range k).filter fun j=>decide (0<atOf g j)
theorem Ou(g:Pg)(k:Nat):live g (k+1)=if 0<atOf g k then live g k++[k]else live g k:=by
 simp only[live,List.range_succ,List.filter_append]
 split<;>rename_i h<;>simp[h]
theorem live_len(g:Pg)(k:Nat):(live g k).length<=k:=by
 have:=List.length_filter_le (fun j=>decide (0<atOf g j)) (List.range k)
 rwa [List.length_range]at this
def intC(l:List Nat):List Value:=l.map fun(k:Nat)=>Value.int .i64 (k:Int)
theorem elt32:Elt Tryz.prog 30 3 1 8:=FP (by kernel_rfl)
theorem und32:Tryz.prog.underlying 30=some (.slice 3):=by kernel_rfl
theorem slots_spec(b:Nat)(g:Pg)(w:World)(h:PgAt w b g):
  Calls Tryz.prog 42 #[.pointer (some ⟨b,0,none⟩)] w fun e w'=>∃a c,e=.returned (.slice a (live g g.many).length c)/\Hp [] w w' [.own 3 1 a (live g g.many).length c (intC (live g g.many))]:=by
 apply slots.ok
 unfold slots.vc
 have H:=Hp.start w
 have hmax:maxLen=9223372036854775807:=by simp[maxLen]
 have hm:=h.1.many
 (first|((repeat apply Exists.intro);first|refine⟨H.ld EQ4 (by first|exact scl3|exact scl5|exact scl9|exact A7|exact Fe) (by repeat first|exact .head _|refine .tail _ ?_) rfl,?_⟩|refine⟨H.ldA EQ4 (by first|exact CY|exact Ci) (by repeat first|exact .head _|refine .tail _ ?_) rfl rfl,?_⟩)|(intro _ _ hn;replace H:=H.new EQ4 hn;clear hn)|((first|(apply Hp.st;(case H=>first|exact H|exact H.Aq|exact H.BF|exact H.BM|exact H.Bc|exact H.Bh|exact H.Bj|exact H.pull7);(case e=>exact⟨rfl,rfl,rfl,rfl⟩);(case S=>exact(by first|exact scl3|exact scl5|exact scl9|exact A7|exact Fe));(case hv=>exact rfl);(case h1=>exact rfl);(case ho=>exact Nat.le_of_ble_eq_true rfl);(case hc=>exact rfl))|(apply Hp.stA;(case H=>first|exact H|exact H.Aq|exact H.BF|exact H.BM|exact H.Bc|exact H.Bh|exact H.Bj|exact H.pull7);(case e=>exact⟨rfl,rfl,rfl,rfl⟩);(case S=>exact(by first|exact CY|exact Ci));(case hn=>exact rfl);(case h1=>exact rfl);(case ho=>exact Nat.le_of_ble_eq_true rfl);(case hc=>exact rfl)));clear H;intro _ H;(try simp only[over,set_cons_zero,set_cons_succ]at H)))
 rename_i lv _
 refine⟨_,_,_,rfl,⟨_,_,Tryz.func76,rfl⟩,?_⟩
 refine I9 b g.many (fun _ _=>g) (fun k (x:Option Addr×Nat)=>[.own 3 1 x.1 (live g k).length x.2 (intC (live g k)),.blk lv [.slice x.1 (live g k).length x.2] 30]) (fun _ _=>True) (fun _:Unit=>[]) (fun _=>False) (none,0) trivial (by simpa [live,intC]using H.nilS 3 1)
  (fun k x w' T _ H=>⟨h.chg H.chg (by simp),rfl⟩) (fun k x hk _ h0=>⟨x,trivial,by rw[Ou,if_neg (by omega)]⟩) ?_ ?_ (fun y D w' hs _=>hs.elim)
 ·clear H
  intro k x hk _ h0 w' T0 T1 begin kn kr kx _ hbeg hkn _
  refine hbeg _ fun w2 H=>?_
  simp only[cons_append,nil_append]at H
  have hll:=live_len g k
  (repeat(first|((repeat apply Exists.intro);first|refine⟨H.ld EQ4 (by first|exact scl3|exact scl5|exact scl9|exact A7|exact Fe) (by repeat first|exact .head _|refine .tail _ ?_) rfl,?_⟩|refine⟨H.ldA EQ4 (by first|exact CY|exact Ci) (by repeat first|exact .head _|refine .tail _ ?_) rfl rfl,?_⟩)|(intro _ _ hn;replace H:=H.new EQ4 hn;clear hn)|((first|(apply Hp.st;(case H=>first|exact H|exact H.Aq|exact H.BF|exact H.BM|exact H.Bc|exact H.Bh|exact H.Bj|exact H.pull7);(case e=>exact⟨rfl,rfl,rfl,rfl⟩);(case S=>exact(by first|exact scl3|exact scl5|exact scl9|exact A7|exact Fe));(case hv=>exact rfl);(case h1=>exact rfl);(case ho=>exact Nat.le_of_ble_eq_true rfl);(case hc=>exact rfl))|(apply Hp.stA;(case H=>first|exact H|exact H.Aq|exact H.BF|exact H.BM|exact H.Bc|exact H.Bh|exact H.Bj|exact H.pull7);(case e=>exact⟨rfl,rfl,rfl,rfl⟩);(case S=>exact(by first|exact CY|exact Ci));(case hn=>exact rfl);(case h1=>exact rfl);(case ho=>exact Nat.le_of_ble_eq_true rfl);(case hc=>exact rfl)));clear H;intro _ H;(try simp only[over,set_cons_zero,set_cons_succ]at H))))
  refine Hp.app elt32 (by omega) H.Aq EQ4 (Blk.src und32 (H.blk (.head _)) rfl rfl) (by omega) (by omega) ?_
  clear H
  intro a6 c6 w6 H
  (first|((repeat apply Exists.intro);first|refine⟨H.ld EQ4 (by first|exact scl3|exact scl5|exact scl9|exact A7|exact Fe) (by repeat first|exact .head _|refine .tail _ ?_) rfl,?_⟩|refine⟨H.ldA EQ4 (by first|exact CY|exact Ci) (by repeat first|exact .head _|refine .tail _ ?_) rfl rfl,?_⟩)|(intro _ _ hn;replace H:=H.new EQ4 hn;clear hn)|((first|(apply Hp.st;(case H=>first|exact H|exact H.Aq|exact H.BF|exact H.BM|exact H.Bc|exact H.Bh|exact H.Bj|exact H.pull7);(case e=>exact⟨rfl,rfl,rfl,rfl⟩);(case S=>exact(by first|exact scl3|exact scl5|exact scl9|exact A7|exact Fe));(case hv=>exact rfl);(case h1=>exact rfl);(case ho=>exact Nat.le_of_ble_eq_true rfl);(case hc=>exact rfl))|(apply Hp.stA;(case H=>first|exact H|exact H.Aq|exact H.BF|exact H.BM|exact H.Bc|exact H.Bh|exact H.Bj|exact H.pull7);(case e=>exact⟨rfl,rfl,rfl,rfl⟩);(case S=>exact(by first|exact CY|exact Ci));(case hn=>exact rfl);(case h1=>exact rfl);(case ho=>exact Nat.le_of_ble_eq_true rfl);(case hc=>exact rfl)));clear H;intro _ H;(try simp only[over,set_cons_zero,set_cons_succ]at H)))
  have e:live g (k+1)=live g k++[k]:=by rw[Ou,if_pos h0]
  refine hkn _ (a6,c6) trivial ?_
  have el:(live g (k+1)).length=(live g k).length+1:=by rw[e];simp
  have ec:intC (live g (k+1))=intC (live g k)++[.int .i64 (k:Int)]:=by rw[e];simp[intC]
  rw[el,ec]
  exact H.del2.Aq
 ·clear H
  intro x D w' _ H
  simp only[cons_append,nil_append]at H
  (repeat(first|((repeat apply Exists.intro);first|refine⟨H.ld EQ4 (by first|exact scl3|exact scl5|exact scl9|exact A7|exact Fe) (by repeat first|exact .head _|refine .tail _ ?_) rfl,?_⟩|refine⟨H.ldA EQ4 (by first|exact CY|exact Ci) (by repeat first|exact .head _|refine .tail _ ?_) rfl rfl,?_⟩)|(intro _ _ hn;replace H:=H.new EQ4 hn;clear hn)|((first|(apply Hp.st;(case H=>first|exact H|exact H.Aq|exact H.BF|exact H.BM|exact H.Bc|exact H.Bh|exact H.Bj|exact H.pull7);(case e=>exact⟨rfl,rfl,rfl,rfl⟩);(case S=>exact(by first|exact scl3|exact scl5|exact scl9|exact A7|exact Fe));(case hv=>exact rfl);(case h1=>exact rfl);(case ho=>exact Nat.le_of_ble_eq_true rfl);(case hc=>exact rfl))|(apply Hp.stA;(case H=>first|exact H|exact H.Aq|exact H.BF|exact H.BM|exact H.Bc|exact H.Bh|exact H.Bj|exact H.pull7);(case e=>exact⟨rfl,rfl,rfl,rfl⟩);(case S=>exact(by first|exact CY|exact Ci));(case hn=>exact rfl);(case h1=>exact rfl);(case ho=>exact Nat.le_of_ble_eq_true rfl);(case hc=>exact rfl)));clear H;intro _ H;(try simp only[over,set_cons_zero,set_cons_succ]at H))))
  refine Hp.shut H.BF fun w1 H=>?_
  exact⟨x.1,x.2,rfl,H.JW⟩
def total(g:Pg)(k:Nat):Nat:=((live g k).map (lenOf g)).sum
theorem LZ(g:Pg)(k:Nat):total g (k+1)=if 0<atOf g k then total g k+lenOf g k else total g k:=by
 simp only[total,Ou]
 split<;>simp
theorem total_le{g:Pg}(h:g.Ok)(k:Nat):total g k<=65535*k:=by
 induction k with
 |zero=>exact Nat.le_of_eq rfl
 |succ k ih=>
  rw[LZ,Nat.mul_succ]
  have:=(h.atB k).2
  generalize 65535*k=y at ih⊢
  split<;>omega
theorem room_spec(b:Nat)(g:Pg)(w:World)(h:PgAt w b g):
  Calls Tryz.prog 130 #[.pointer (some ⟨b,0,none⟩)] w fun e w'=>e=.returned (.int .i64 (3600-(total g g.many:Int)))/\Hp [] w w' []:=by
 apply room.ok
 unfold room.vc
 have H:=Hp.start w
 have hm:=h.1.many
 (repeat(first|((repeat apply Exists.intro);first|refine⟨H.ld EQ4 (by first|exact scl3|exact scl5|exact scl9|exact A7|exact Fe) (by repeat first|exact .head _|refine .tail _ ?_) rfl,?_⟩|refine⟨H.ldA EQ4 (by first|exact CY|exact Ci) (by repeat first|exact .head _|refine .tail _ ?_) rfl rfl,?_⟩)|(intro _ _ hn;replace H:=H.new EQ4 hn;clear hn)|((first|(apply Hp.st;(case H=>first|exact H|exact H.Aq|exact H.BF|exact H.BM|exact H.Bc|exact H.Bh|exact H.Bj|exact H.pull7);(case e=>exact⟨rfl,rfl,rfl,rfl⟩);(case S=>exact(by first|exact scl3|exact scl5|exact scl9|exact A7|exact Fe));(case hv=>exact rfl);(case h1=>exact rfl);(case ho=>exact Nat.le_of_ble_eq_true rfl);(case hc=>exact rfl))|(apply Hp.stA;(case H=>first|exact H|exact H.Aq|exact H.BF|exact H.BM|exact H.Bc|exact H.Bh|exact H.Bj|exact H.pull7);(case e=>exact⟨rfl,rfl,rfl,rfl⟩);(case S=>exact(by first|exact CY|exact Ci));(case hn=>exact rfl);(case h1=>exact rfl);(case ho=>exact Nat.le_of_ble_eq_true rfl);(case hc=>exact rfl)));clear H;intro _ H;(try simp only[over,set_cons_zero,set_cons_succ]at H))))
 rename_i b1 _ b2 _ _
 refine⟨_,_,_,rfl,⟨_,_,Tryz.func76,rfl⟩,?_⟩
 refine I9 b g.many (fun _ _=>g) (fun k (_:Unit)=>[.blk b2 [.int .i64 (3600-(total g k:Int))] 3,.blk b1 [.pointer (some ⟨b,0,none⟩)] 99]) (fun _ _=>True) (fun _:Unit=>[]) (fun _=>False) () trivial (by simpa [total,live]using H)
  (fun k x w' T _ H=>⟨h.chg H.chg (by simp),rfl⟩) (fun k x hk _ h0=>⟨x,trivial,by rw[LZ,if_neg (by omega)]⟩) ?_ ?_ (fun y D w' hs _=>hs.elim)
 ·clear H
  intro k x hk _ h0 w' T0 T1 begin kn kr kx _ hbeg hkn _
  refine hbeg _ fun w2 H=>?_
  simp only[cons_append,nil_append]at H
  have hb:=(h.1.atB k).2
  have ht:=total_le h.1 k
  (repeat(first|((repeat apply Exists.intro);first|refine⟨H.ld EQ4 (by first|exact scl3|exact scl5|exact scl9|exact A7|exact Fe) (by repeat first|exact .head _|refine .tail _ ?_) rfl,?_⟩|refine⟨H.ldA EQ4 (by first|exact CY|exact Ci) (by repeat first|exact .head _|refine .tail _ ?_) rfl rfl,?_⟩)|(intro _ _ hn;replace H:=H.new EQ4 hn;clear hn)|((first|(apply Hp.st;(case H=>first|exact H|exact H.Aq|exact H.BF|exact H.BM|exact H.Bc|exact H.Bh|exact H.Bj|exact H.pull7);(case e=>exact⟨rfl,rfl,rfl,rfl⟩);(case S=>exact(by first|exact scl3|exact scl5|exact scl9|exact A7|exact Fe));(case hv=>exact rfl);(case h1=>exact rfl);(case ho=>exact Nat.le_of_ble_eq_true rfl);(case hc=>exact rfl))|(apply Hp.stA;(case H=>first|exact H|exact H.Aq|exact H.BF|exact H.BM|exact H.Bc|exact H.Bh|exact H.Bj|exact H.pull7);(case e=>exact⟨rfl,rfl,rfl,rfl⟩);(case S=>exact(by first|exact CY|exact Ci));(case hn=>exact rfl);(case h1=>exact rfl);(case ho=>exact Nat.le_of_ble_eq_true rfl);(case hc=>exact rfl)));clear H;intro _ H;(try simp only[over,set_cons_zero,set_cons_succ]at H))))
  refine AL (ML b g k hk _ (h.chg H.chg (by simp))) ?_
  rintro e w3 ⟨rfl,H'⟩;replace H:=H.ext0 H';clear H'
  refine⟨_,_,rfl,?_⟩
  (first|((repeat apply Exists.intro);first|refine⟨H.ld EQ4 (by first|exact scl3|exact scl5|exact scl9|exact A7|exact Fe) (by repeat first|exact .head _|refine .tail _ ?_) rfl,?_⟩|refine⟨H.ldA EQ4 (by first|exact CY|exact Ci) (by repeat first|exact .head _|refine .tail _ ?_) rfl rfl,?_⟩)|(intro _ _ hn;replace H:=H.new EQ4 hn;clear hn)|((first|(apply Hp.st;(case H=>first|exact H|exact H.Aq|exact H.BF|exact H.BM|exact H.Bc|exact H.Bh|exact H.Bj|exact H.pull7);(case e=>exact⟨rfl,rfl,rfl,rfl⟩);(case S=>exact(by first|exact scl3|exact scl5|exact scl9|exact A7|exact Fe));(case hv=>exact rfl);(case h1=>exact rfl);(case ho=>exact Nat.le_of_ble_eq_true rfl);(case hc=>exact rfl))|(apply Hp.stA;(case H=>first|exact H|exact H.Aq|exact H.BF|exact H.BM|exact H.Bc|exact H.Bh|exact H.Bj|exact H.pull7);(case e=>exact⟨rfl,rfl,rfl,rfl⟩);(case S=>exact(by first|exact CY|exact Ci));(case hn=>exact rfl);(case h1=>exact rfl);(case ho=>exact Nat.le_of_ble_eq_true rfl);(case hc=>exact rfl)));clear H;intro _ H;(try simp only[over,set_cons_zero,set_cons_succ]at H)))
  refine⟨AY.2 (by omega),?_⟩
  (first|((repeat apply Exists.intro);first|refine⟨H.ld EQ4 (by first|exact scl3|exact scl5|exact scl9|exact A7|exact Fe) (by repeat first|exact .head _|refine .tail _ ?_) rfl,?_⟩|refine⟨H.ldA EQ4 (by first|exact CY|exact Ci) (by repeat first|exact .head _|refine .tail _ ?_) rfl rfl,?_⟩)|(intro _ _ hn;replace H:=H.new EQ4 hn;clear hn)|((first|(apply Hp.st;(case H=>first|exact H|exact H.Aq|exact H.BF|exact H.BM|exact H.Bc|exact H.Bh|exact H.Bj|exact H.pull7);(case e=>exact⟨rfl,rfl,rfl,rfl⟩);(case S=>exact(by first|exact scl3|exact scl5|exact scl9|exact A7|exact Fe));(case hv=>exact rfl);(case h1=>exact rfl);(case ho=>exact Nat.le_of_ble_eq_true rfl);(case hc=>exact rfl))|(apply Hp.stA;(case H=>first|exact H|exact H.Aq|exact H.BF|exact H.BM|exact H.Bc|exact H.Bh|exact H.Bj|exact H.pull7);(case e=>exact⟨rfl,rfl,rfl,rfl⟩);(case S=>exact(by first|exact CY|exact Ci));(case hn=>exact rfl);(case h1=>exact rfl);(case ho=>exact Nat.le_of_ble_eq_true rfl);(case hc=>exact rfl)));clear H;intro _ H;(try simp only[over,set_cons_zero,set_cons_succ]at H)))
  refine hkn _ () trivial ?_
  have e:(3600:Int)-(total g (k+1):Int)=3600-(total g k:Int)-(lenOf g k:Int):=by rw[LZ,if_pos h0];omega
  rw[e]
  exact H
 ·clear H
  intro x D w' _ H
  simp only[cons_append,nil_append]at H
  (first|((repeat apply Exists.intro);first|refine⟨H.ld EQ4 (by first|exact scl3|exact scl5|exact scl9|exact A7|exact Fe) (by repeat first|exact .head _|refine .tail _ ?_) rfl,?_⟩|refine⟨H.ldA EQ4 (by first|exact CY|exact Ci) (by repeat first|exact .head _|refine .tail _ ?_) rfl rfl,?_⟩)|(intro _ _ hn;replace H:=H.new EQ4 hn;clear hn)|((first|(apply Hp.st;(case H=>first|exact H|exact H.Aq|exact H.BF|exact H.BM|exact H.Bc|exact H.Bh|exact H.Bj|exact H.pull7);(case e=>exact⟨rfl,rfl,rfl,rfl⟩);(case S=>exact(by first|exact scl3|exact scl5|exact scl9|exact A7|exact Fe));(case hv=>exact rfl);(case h1=>exact rfl);(case ho=>exact Nat.le_of_ble_eq_true rfl);(case hc=>exact rfl))|(apply Hp.stA;(case H=>first|exact H|exact H.Aq|exact H.BF|exact H.BM|exact H.Bc|exact H.Bh|exact H.Bj|exact H.pull7);(case e=>exact⟨rfl,rfl,rfl,rfl⟩);(case S=>exact(by first|exact CY|exact Ci));(case hn=>exact rfl);(case h1=>exact rfl);(case ho=>exact Nat.le_of_ble_eq_true rfl);(case hc=>exact rfl)));clear H;intro _ H;(try simp only[over,set_cons_zero,set_cons_succ]at H)))
  refine Hp.shut H.BF fun w1 H=>?_
  exact⟨rfl,H.done⟩
theorem PO:Tryz.prog.underlying 29=some (.slice 5):=by kernel_rfl
theorem und5:Tryz.prog.underlying 5=some (.int .u8):=by kernel_rfl
theorem und9:Tryz.prog.underlying 9=some .string:=by kernel_rfl
theorem PgAt.cellsB{w:World}{b:Nat}{g:Pg}(h:PgAt w b g)(i:Nat)(n:Nat)(hi:i+n<=4096):Cells w (slA (some ⟨b,0,none⟩) 4096 i 1) (bQ ((g.bs.drop i).take n)):=by
 intro j v hj
 have hl:=h.1.len
 have hjn:j<n:=by
  have:=(List.getElem?_eq_some_iff.1 hj).1
  rw[AQ,length_take,length_drop]at this;omega
 have hv:v=.int .u8 ((g.bs[i+j]'(by omega)).toNat:Int):=by
  simp only[bQ,List.getElem?_map,List.getElem?_take,List.getElem?_drop,if_pos hjn,List.getElem?_eq_getElem (show i+j<g.bs.length by omega),Option.map_some,Option.some.injEq]at hj
  exact hj.symm
 subst hv
 unfold slA
 rw[if_neg (by omega)]
 refine⟨_,rfl,?_⟩
 rw[Nat.mul_one,add_add,addB]
 exact h.2.cell (h.1.byte (by omega))
def recB(g:Pg)(k:Nat):List UInt8:=(g.bs.drop (atOf g k)).take (lenOf g k)
theorem get_spec(b:Nat)(g:Pg)(k:Int)(w:World)(h:PgAt w b g)(hfit:∀j,j<g.many->atOf g j+lenOf g j<=4096):
  Calls Tryz.prog 43 #[.pointer (some ⟨b,0,none⟩),.int .i64 k] w fun e w'=>e=.returned (if 0<=k/\k<g.many/\0<atOf g k.toNat then .tuple #[sv (recB g k.toNat),.bool true]else .tuple #[sv [],.bool false])/\Hp [] w w' []:=by
 apply get.ok
 unfold get.vc
 have H:=Hp.start w
 refine AL (Ig b g k w h) ?_
 rintro e w1 ⟨rfl,H'⟩;replace H:=H.ext0 H';clear H'
 refine⟨_,_,rfl,?_⟩
 by_cases hk:0<=k/\k<g.many
 ·rw[if_pos hk,if_pos hk]
  obtain⟨K,rfl⟩:∃K:Nat,k=K:=⟨k.toNat,by omega⟩
  have hK:K<g.many:=by omega
  have hf:=hfit K hK
  rw[Int.toNat_natCast]
  show br (decide ((atOf g K:Int)=0)) _ _
  refine AO (fun h0=>?_) (fun h0=>AA rfl ?_)
  ·rw[if_neg (by omega)];exact⟨rfl,H⟩
  ·rw[if_pos ⟨by omega,by omega,by omega⟩]
   have e1:Int.toNat (atOf g K:Int)=atOf g K:=by omega
   have e2:Int.toNat ((atOf g K:Int)+(lenOf g K:Int))=atOf g K+lenOf g K:=by omega
   show inR .i64 ((atOf g K:Int)+(lenOf g K:Int))/\_
   refine⟨AY.2 (by omega),⟨by omega,by show(atOf g K:Int)<=(atOf g K:Int)+(lenOf g K:Int);omega,by show(atOf g K:Int)+(lenOf g K:Int)<=4096;omega⟩,⟨(recB g K).toArray⟩,?_,rfl,H⟩
   show B2S Tryz.prog 29 9 w1 (.slice (slA (some ⟨b,0,none⟩) 4096 (Int.toNat (atOf g K:Int)) 1) (Int.toNat ((atOf g K:Int)+(lenOf g K:Int))-Int.toNat (atOf g K:Int)) _) _
   rw[e1,e2]
   have hl:=h.1.len
   exact b2s PO und5 und9 (by rw[Di];exact(h.chg H.chg (by simp)).cellsB _ _ hf) (by simp[ByteArray.size,recB];omega)
 ·rw[if_neg hk,if_neg hk,if_neg (fun hh=>hk ⟨hh.1,hh.2.1⟩)]
  exact AO (fun _=>⟨rfl,H⟩) (fun h=>absurd rfl h)
abbrev Recs := List (Nat × List UInt8)
def tot (L : Recs) : Nat := (L.map (·.2.length)).sum
def Laid (d : List (Nat × Nat)) : Nat → Recs → Prop
  | a,[] => a = 4096
  | a,(k,s) :: r => d[k]? = some (a,s.length) ∧ Laid d (a + s.length) r
structure Rep (g : Pg) (L : Recs) (stamp : Nat) : Prop where
  ok : g.Ok
  st : g.st = be (stamp : Int) 8
  stamp : stamp ≤ 4611686018427387904
  hdr : g.hdr = g.many
  sorted : L.Pairwise fun x y => x.1 < y.1
  below : ∀ p ∈ L,p.1 < g.many
  last : g.many = 0 ∨ ∃ s,(g.many - 1,s) ∈ L
  free : ∀ k,k < g.many → (∀ s,(k,s) ∉ L) → g.dir.getD k (0,0) = (0,0)
  ord : ∃ ord : Recs,ord.Perm L ∧ Laid g.dir g.low ord ∧ g.data.drop (g.low - 490) = ord.flatMap (·.2)
  small : tot L ≤ 3600
  low : g.low + tot L = 4096
theorem Ik {x y : Recs} (h : x.Perm y) : tot x = tot y := (h.map _).sum_nat
theorem TR (x y : Recs) : tot (x ++ y) = tot x + tot y := by simp [tot]
theorem DV (p : Nat × List UInt8) (y : Recs) : tot (p :: y) = p.2.length + tot y := by simp [tot]
theorem RH (x : Recs) : (x.flatMap (·.2)).length = tot x := by
  induction x with
  | nil => rfl
  | cons p r ih => rw [flatMap_cons,length_append,ih,DV]
theorem LV {d : List (Nat × Nat)} : ∀ (pre : Recs) {a k : Nat} {s : List UInt8} {post : Recs},Laid d a (pre ++ (k,s) :: post) → d[k]? = some (a + tot pre,s.length) ∧ Laid d (a + tot pre + s.length) post
  | [],a,k,s,post,h => by simpa [tot,Laid] using h
  | (j,t) :: pre,a,k,s,post,h => by
    obtain ⟨_,h2⟩ := h
    have := LV pre h2
    rw [DV,show a + (t.length + tot pre) = a + t.length + tot pre by omega]
    exact this
theorem Wh {d : List (Nat × Nat)} : ∀ (x : Recs) {a : Nat},Laid d a x → a + tot x = 4096
  | [],a,h => by simpa [tot,Laid] using h
  | (k,s) :: r,a,h => by
    have := Wh r h.2
    rw [DV]; simp only; omega
theorem sorted_nodup {L : Recs} (h : L.Pairwise fun x y => x.1 < y.1) : (L.map (·.1)).Nodup := by
  rw [List.nodup_iff_pairwise_ne,pairwise_map]
  exact h.imp fun h => by omega
theorem Yp {L : Recs} (h : L.Pairwise fun x y => x.1 < y.1) {k : Nat} {s t : List UInt8} (h1 : (k,s) ∈ L) (h2 : (k,t) ∈ L) : s = t := by
  induction L with
  | nil => cases h1
  | cons p r ih =>
    obtain ⟨ha,hb⟩ := pairwise_cons.1 h
    rcases mem_cons.1 h1 with e1 | m1 <;> rcases mem_cons.1 h2 with e2 | m2
    · rw [← e1] at e2; exact (Prod.mk.inj e2).2.symm
    · have := ha _ m2; rw [← e1] at this; simp at this
    · have := ha _ m1; rw [← e2] at this; simp at this
    · exact ih hb m1 m2
theorem VC : ∀ {x y : List Nat},x.Pairwise (· < ·) → y.Pairwise (· < ·) → (∀ k,k ∈ x ↔ k ∈ y) → x = y
  | [],[],_,_,_ => rfl
  | [],b :: y,_,_,h => by have := (h b).2 (.head _); cases this
  | a :: x,[],_,_,h => by have := (h a).1 (.head _); cases this
  | a :: x,b :: y,hx,hy,h => by
    obtain ⟨hx1,hx2⟩ := pairwise_cons.1 hx
    obtain ⟨hy1,hy2⟩ := pairwise_cons.1 hy
    have hab : a = b := by
      rcases mem_cons.1 ((h a).1 (.head _)) with e | m
      · exact e
      · rcases mem_cons.1 ((h b).2 (.head _)) with e | m'
        · exact e.symm
        · have := hy1 a m; have := hx1 b m'; omega
    subst hab
    congr 1
    refine VC hx2 hy2 fun k => ⟨fun hk => ?_,fun hk => ?_⟩
    · rcases mem_cons.1 ((h k).1 (.tail _ hk)) with e | m
      · subst e; have := hx1 k hk; omega
      · exact m
    · rcases mem_cons.1 ((h k).2 (.tail _ hk)) with e | m
      · subst e; have := hy1 k hk; omega
      · exact m
section
variable {g : Pg} {L : Recs} {stamp : Nat}
theorem Rep.entry (h : Rep g L stamp) {k : Nat} {s : List UInt8} (hm : (k,s) ∈ L) : ∃ pre post : Recs,(pre ++ (k,s) :: post).Perm L ∧ Laid g.dir g.low (pre ++ (k,s) :: post) ∧ g.data.drop (g.low - 490) = (pre ++ (k,s) :: post).flatMap (·.2) ∧ g.dir[k]? = some (g.low + tot pre,s.length) ∧ g.low + tot pre + s.length + tot post = 4096 ∧ 496 ≤ g.low := by
  obtain ⟨ord,h1,h2,h3⟩ := h.ord
  obtain ⟨pre,post,e⟩ := List.append_of_mem (h1.mem_iff.2 hm)
  subst e
  have h4 := LV pre h2
  have h5 := Wh post h4.2
  have := h.low
  have := h.small
  exact ⟨pre,post,h1,h2,h3,h4.1,h5,by omega⟩
theorem Nq {d : List (Nat × Nat)} {k : Nat} {p : Nat × Nat} (h : d[k]? = some p) : d.getD k (0,0) = p := by rw [getD_eq_getElem?_getD,h]; rfl
theorem Rep.at_ (h : Rep g L stamp) {k : Nat} {s : List UInt8} (hm : (k,s) ∈ L) : 496 ≤ atOf g k ∧ lenOf g k = s.length ∧ atOf g k + lenOf g k ≤ 4096 ∧ recB g k = s := by
  obtain ⟨pre,post,h1,h2,h3,h4,h5,h6⟩ := h.entry hm
  have e := Nq h4
  have ea : atOf g k = g.low + tot pre := by rw [atOf,e]
  have el : lenOf g k = s.length := by rw [lenOf,e]
  refine ⟨by omega,el,by omega,?_⟩
  have hb : g.bs.drop 490 = g.data := by
    have : g.bs = (g.st ++ (be g.hdr 2 ++ dirB g.dir)) ++ g.data := by simp [Pg.bs]
    rw [this]
    exact drop_left _ _ _ (by simp only [length_append,AU,IX,h.ok.st,h.ok.dir])
  have hlow := h.ok.low
  have : g.bs.drop (atOf g k) = (g.data.drop (g.low - 490)).drop (tot pre) := by
    have e5 : atOf g k = 490 + (g.low - 490) + tot pre := by
      rw [ea]; clear hb h4 e; omega
    rw [← hb,drop_drop,drop_drop,e5,Nat.add_assoc]
  rw [recB,this,h3,el,flatMap_append,flatMap_cons]
  rw [drop_left _ _ _ (RH pre)]
  exact take_left _ _ _ rfl
theorem Rep.G9 (h : Rep g L stamp) {k : Nat} : (k < g.many ∧ 0 < atOf g k) ↔ ∃ s,(k,s) ∈ L := by
  constructor
  · rintro ⟨h1,h2⟩
    refine Classical.byContradiction fun hn => ?_
    have := h.free k h1 fun s hs => hn ⟨s,hs⟩
    rw [atOf,this] at h2; simp at h2
  · rintro ⟨s,hs⟩
    have := h.at_ hs
    exact ⟨h.below _ hs,by omega⟩
theorem Rep.ZZ (h : Rep g L stamp) : live g g.many = L.map (·.1) := by
  refine VC ?_ ?_ fun k => ?_
  · exact List.pairwise_lt_range.filter _
  · rw [pairwise_map]; exact h.sorted
  · simp only [live,List.mem_filter,List.mem_range,decide_eq_true_eq,h.G9,mem_map]
    constructor
    · rintro ⟨s,hs⟩; exact ⟨_,hs,rfl⟩
    · rintro ⟨⟨k',s⟩,hs,rfl⟩; exact ⟨s,hs⟩
theorem Rep.total_eq (h : Rep g L stamp) : total g g.many = tot L := by
  rw [total,h.ZZ,tot,map_map]
  congr 1
  refine List.map_congr_left fun p hp => ?_
  exact (h.at_ (k := p.1) (s := p.2) hp).2.1
theorem Rep.fit (h : Rep g L stamp) (j : Nat) (hj : j < g.many) : atOf g j + lenOf g j ≤ 4096 := by
  by_cases hs : ∃ s,(j,s) ∈ L
  · obtain ⟨s,hs⟩ := hs; exact (h.at_ hs).2.2.1
  · have := h.free j hj fun s hm => hs ⟨s,hm⟩
    rw [atOf,lenOf,this]; simp
end
def CP (d : List (Nat × Nat)) (a n k : Nat) : List (Nat × Nat) := d.mapIdx fun j p => if j < k ∧ 0 < p.1 ∧ p.1 ≤ a then (p.1 + n,p.2) else p
theorem Cc (d : List (Nat × Nat)) (a n k j : Nat) : (CP d a n k)[j]? = d[j]?.map fun p => if j < k ∧ 0 < p.1 ∧ p.1 ≤ a then (p.1 + n,p.2) else p := by
  simp [CP]
theorem shiftD_zero (d : List (Nat × Nat)) (a n : Nat) : CP d a n 0 = d := by
  apply ext_getElem?
  intro j
  rw [Cc]
  cases d[j]? <;> simp
theorem JL (d : List (Nat × Nat)) (a n k : Nat) : (CP d a n k).length = d.length := by simp [CP]
theorem U1 (d : List (Nat × Nat)) (a n k : Nat) : (CP d a n k).getD k (0,0) = d.getD k (0,0) := by
  simp only [getD_eq_getElem?_getD,Cc]
  cases d[k]? <;> simp
theorem PU (d : List (Nat × Nat)) (a n k : Nat) : CP d a n (k + 1) = if 0 < (d.getD k (0,0)).1 ∧ (d.getD k (0,0)).1 ≤ a then (CP d a n k).set k ((d.getD k (0,0)).1 + n,(d.getD k (0,0)).2) else CP d a n k := by
  apply ext_getElem?
  intro j
  by_cases hj : j = k
  · subst hj
    by_cases hl : j < d.length
    · have e : d[j]? = some d[j] := List.getElem?_eq_getElem hl
      have eD : d.getD j (0,0) = d[j] := Nq e
      rw [eD]
      split
      · rename_i hc
        rw [List.getElem?_set_self (by rw [JL]; exact hl),Cc,e]
        simp [hc.1,hc.2]
      · rename_i hc
        rw [Cc,Cc,e]
        simp only [Option.map_some]
        rw [if_neg (fun hh => hc hh.2),if_neg (by omega)]
    · have e : d[j]? = none := List.getElem?_eq_none (by omega)
      have eD : d.getD j (0,0) = (0,0) := by rw [getD_eq_getElem?_getD,e]; rfl
      rw [eD,if_neg (by simp),Cc,Cc,e]; rfl
  · have h1 : (CP d a n (k + 1))[j]? = (CP d a n k)[j]? := by
      rw [Cc,Cc]
      cases d[j]? with
      | none => rfl
      | some p =>
        simp only [Option.map_some,Option.some.injEq]
        by_cases hjk : j < k
        · simp [hjk,show j < k + 1 by omega]
        · simp [hjk,show ¬ j < k + 1 by omega]
    rw [h1]
    split
    · rw [List.getElem?_set_ne (Ne.symm hj)]
    · rfl
def trim (d : List (Nat × Nat)) : Nat → Nat
  | 0 => 0
  | m + 1 => if (d.getD m (0,0)).1 = 0 then trim d m else m + 1
theorem Nv (d : List (Nat × Nat)) : ∀ m,trim d m ≤ m
  | 0 => Nat.le_refl _
  | m + 1 => by
    rw [trim]
    split
    · exact Nat.le_succ_of_le (Nv d m)
    · exact Nat.le_refl _
theorem TZ (d : List (Nat × Nat)) : ∀ m,trim d m = 0 ∨ (d.getD (trim d m - 1) (0,0)).1 ≠ 0
  | 0 => .inl rfl
  | m + 1 => by
    rw [trim]
    split
    · exact TZ d m
    · right; simpa using ‹_›
theorem L6 (d : List (Nat × Nat)) : ∀ m k,trim d m ≤ k → k < m → (d.getD k (0,0)).1 = 0
  | 0,k,_,h => by omega
  | m + 1,k,h1,h2 => by
    rw [trim] at h1
    split at h1
    · by_cases hk : k = m
      · subst hk; assumption
      · exact L6 d m k h1 (by omega)
    · omega
def D7 (g : Pg) (k : Nat) : Pg :=
  let a := atOf g k
  let n := lenOf g k
  let d := (CP g.dir a n g.many).set k (0,0)
  { g with dir := d,low := g.low + n,many := trim d g.many,hdr := trim d g.many
           data := g.data.take (g.low - 490) ++ (List.replicate n 0 ++ ((g.data.drop (g.low - 490)).take (a - g.low) ++ g.data.drop (a + n - 490))) }
theorem Rep.drop {g : Pg} {L : Recs} {stamp : Nat} (h : Rep g L stamp) {k : Nat} {s : List UInt8} (hm : (k,s) ∈ L) : Rep (D7 g k) (L.filter fun p => p.1 != k) stamp := by
  obtain ⟨pre,post,h1,h2,h3,h4,h5,h6⟩ := h.entry hm
  have hat := h.at_ hm
  have hkm := h.below _ hm
  have e := Nq h4
  have ea : atOf g k = g.low + tot pre := by rw [atOf,e]
  have el : lenOf g k = s.length := by rw [lenOf,e]
  have hok := h.ok
  have hdl := hok.data
  have hml := hok.many
  have hnd : ((pre ++ (k,s) :: post).map (·.1)).Nodup := (h1.map _).nodup_iff.2 (sorted_nodup h.sorted)
  have hkpre : ∀ p ∈ pre,p.1 ≠ k := by
    intro p hp he
    rw [map_append,map_cons,nodup_append] at hnd
    exact hnd.2.2 _ (List.mem_map_of_mem hp) _ (.head _) he
  have hkpost : ∀ p ∈ post,p.1 ≠ k := by
    intro p hp he
    rw [map_append,map_cons,nodup_append] at hnd
    exact (List.nodup_cons.1 hnd.2.1).1 (by show k ∈ post.map (·.1); rw [← he]; exact List.mem_map_of_mem hp)
  have hfilt : (pre ++ (k,s) :: post).filter (fun p => p.1 != k) = pre ++ post := by
    rw [List.filter_append,filter_cons]
    have a1 : pre.filter (fun p => p.1 != k) = pre := filter_eq_self.2 fun p hp => by simpa using hkpre p hp
    have a2 : post.filter (fun p => p.1 != k) = post := filter_eq_self.2 fun p hp => by simpa using hkpost p hp
    simp [a1,a2]
  have hperm : (pre ++ post).Perm (L.filter fun p => p.1 != k) := by rw [← hfilt]; exact h1.filter _
  have htot : tot (pre ++ (k,s) :: post) = tot L := Ik h1
  rw [TR,DV] at htot
  simp only at htot
  have hlow := h.low
  have hsmall := h.small
  have hd' : ∀ j t a,(j,t) ∈ pre ++ post → g.dir[j]? = some (a,t.length) → (D7 g k).dir[j]? = some (if 0 < a ∧ a ≤ atOf g k then a + s.length else a,t.length) := by
    intro j t a hj hd
    have hjk : j ≠ k := by
      rcases mem_append.1 hj with hj | hj
      · exact hkpre _ hj
      · exact hkpost _ hj
    have hjm : j < g.many := h.below (j,t) (h1.mem_iff.1 (by simp only [mem_append,mem_cons] at hj ⊢; rcases hj with hj | hj <;> simp [hj]))
    show ((CP g.dir (atOf g k) (lenOf g k) g.many).set k (0,0))[j]? = _
    rw [List.getElem?_set_ne (Ne.symm hjk),Cc,hd]
    simp only [Option.map_some,hjm,true_and,el]
    split <;> simp
  have hfree : ∀ j,j < g.many → (∀ t,(j,t) ∉ pre ++ post) → (D7 g k).dir.getD j (0,0) = (0,0) := by
    intro j hj hn
    show ((CP g.dir (atOf g k) (lenOf g k) g.many).set k (0,0)).getD j (0,0) = _
    rw [getD_eq_getElem?_getD]
    by_cases hjk : j = k
    · subst hjk
      rw [List.getElem?_set_self (by rw [JL,hok.dir]; omega)]; rfl
    · rw [List.getElem?_set_ne (Ne.symm hjk),Cc]
      have := h.free j hj fun t ht => by
        rcases mem_append.1 (h1.mem_iff.2 ht) with h7 | h7
        · exact hn t (mem_append_left _ h7)
        · rcases mem_cons.1 h7 with h8 | h8
          · exact hjk (Prod.mk.inj h8).1
          · exact hn t (mem_append_right _ h8)
      rw [getD_eq_getElem?_getD] at this
      cases hd : g.dir[j]? with
      | none => rfl
      | some p => rw [hd] at this; simp only [Option.getD_some] at this; subst this; simp
  have hlaid : Laid (D7 g k).dir (D7 g k).low (pre ++ post) := by
    have hpo := (LV pre h2).2
    have hpre : ∀ (x : Recs) (a : Nat) (y : Recs),Laid g.dir a (x ++ (k,s) :: y) → (∀ p ∈ x,p ∈ pre ++ post) → 0 < a → a + tot x = atOf g k → Laid (D7 g k).dir (a + s.length + tot x) y → Laid (D7 g k).dir (a + s.length) (x ++ y) := by
      intro x
      induction x with
      | nil => intro a y _ _ _ _ hy; simpa [tot] using hy
      | cons p x ih =>
        intro a y hl hx h0 hle hy
        obtain ⟨j,t⟩ := p
        obtain ⟨hl1,hl2⟩ := hl
        rw [DV] at hle hy
        simp only at hle hy
        refine ⟨?_,?_⟩
        · rw [hd' j t a (hx _ (.head _)) hl1,if_pos ⟨h0,by omega⟩]
        · rw [show a + s.length + t.length = a + t.length + s.length by omega]
          refine ih (a + t.length) y hl2 (fun q hq => hx q (.tail _ hq)) (by omega) (by omega) ?_
          rw [show a + t.length + s.length + tot x = a + s.length + (t.length + tot x) by omega]; exact hy
    have hpost : ∀ (y : Recs) (a : Nat),Laid g.dir a y → (∀ p ∈ y,p ∈ pre ++ post) → atOf g k + s.length ≤ a → Laid (D7 g k).dir a y := by
      intro y
      induction y with
      | nil => intro a hl _ _; exact hl
      | cons p y ih =>
        intro a hl hy hle
        obtain ⟨j,t⟩ := p
        obtain ⟨hl1,hl2⟩ := hl
        refine ⟨?_,ih _ hl2 (fun q hq => hy q (.tail _ hq)) (by omega)⟩
        rw [hd' j t a (hy _ (.head _)) hl1]
        split
        · rename_i hc
          have : s.length = 0 := by omega
          rw [this]; rfl
        · rfl
    have := hpre pre g.low post h2 (fun p hp => mem_append_left _ hp) (by omega) (by omega) (by
      rw [show g.low + s.length + tot pre = g.low + tot pre + s.length by omega]
      exact hpost post _ hpo (fun p hp => mem_append_right _ hp) (by omega))
    show Laid (D7 g k).dir (g.low + lenOf g k) (pre ++ post)
    rw [el]; exact this
  have hmany : (D7 g k).many = trim (D7 g k).dir g.many := rfl
  have hin : ∀ j t,(j,t) ∈ pre ++ post → j < g.many ∧ 0 < ((D7 g k).dir.getD j (0,0)).1 := by
    intro j t hj
    have hjm : (j,t) ∈ L := h1.mem_iff.1 (by simp only [mem_append,mem_cons] at hj ⊢; rcases hj with hj | hj <;> simp [hj])
    obtain ⟨_,_,_,_,_,hj4,_,_⟩ := h.entry hjm
    refine ⟨h.below _ hjm,?_⟩
    rw [Nq (hd' j t _ hj hj4)]
    simp only
    split <;> omega
  have hpt : tot (pre ++ post) + s.length = tot L := by rw [TR]; omega
  have hpt2 : tot (L.filter fun p => p.1 != k) = tot (pre ++ post) := (Ik hperm).symm
  refine ⟨⟨hok.st,?_,?_,?_,?_,?_,?_⟩,h.st,h.stamp,rfl,h.sorted.filter _,?_,?_,?_,⟨pre ++ post,hperm,hlaid,?_⟩,by omega,?_⟩
  · have := Nv (D7 g k).dir g.many
    show trim (D7 g k).dir g.many < 65536
    omega
  · show ((CP g.dir (atOf g k) (lenOf g k) g.many).set k (0,0)).length = 120
    rw [length_set,JL,hok.dir]
  · show (g.data.take (g.low - 490) ++ (List.replicate (lenOf g k) 0 ++ ((g.data.drop (g.low - 490)).take (atOf g k - g.low) ++ g.data.drop (atOf g k + lenOf g k - 490)))).length = 3606
    simp only [length_append,length_take,length_replicate,length_drop,hdl]
    omega
  · have := Nv (D7 g k).dir g.many
    show trim (D7 g k).dir g.many ≤ 120
    omega
  · intro p hp
    have hp' : p ∈ (CP g.dir (atOf g k) (lenOf g k) g.many).set k (0,0) := hp
    rcases mem_or_eq_of_mem_set hp' with hp' | rfl
    · obtain ⟨j,hj⟩ := List.getElem?_of_mem hp'
      rw [Cc] at hj
      cases hd : g.dir[j]? with
      | none => rw [hd] at hj; cases hj
      | some q =>
        rw [hd] at hj
        simp only [Option.map_some,Option.some.injEq] at hj
        have := hok.ent q (mem_of_getElem? hd)
        rw [← hj]
        split
        · simp only; omega
        · exact this
    · simp
  · show g.low + lenOf g k ≤ 4096
    omega
  · rintro ⟨j,t⟩ hp
    obtain ⟨hj1,hj2⟩ := hin j t (hperm.mem_iff.2 hp)
    rw [hmany]
    refine Classical.byContradiction fun hn => ?_
    have := L6 (D7 g k).dir g.many j (by simp only at hn; omega) hj1
    omega
  · rw [hmany]
    rcases TZ (D7 g k).dir g.many with h0 | h0
    · exact .inl h0
    · refine .inr ?_
      have htl := Nv (D7 g k).dir g.many
      by_cases hz : trim (D7 g k).dir g.many = 0
      · exfalso
        apply h0
        rw [hz]
        by_cases hmz : 0 < g.many
        · exact L6 (D7 g k).dir g.many 0 (by omega) hmz
        · omega
      refine Classical.byContradiction fun hn => h0 ?_
      rw [hfree _ (by omega) fun t ht => hn ⟨t,hperm.mem_iff.1 ht⟩]
  · intro j hj hn
    rw [hmany] at hj
    have htl := Nv (D7 g k).dir g.many
    exact hfree j (by omega) fun t ht => hn t (hperm.mem_iff.1 ht)
  · show (g.data.take (g.low - 490) ++ (List.replicate (lenOf g k) 0 ++ ((g.data.drop (g.low - 490)).take (atOf g k - g.low) ++ g.data.drop (atOf g k + lenOf g k - 490)))).drop (g.low + lenOf g k - 490) = _
    rw [← append_assoc,drop_left _ _ _ (by simp only [length_append,length_take,length_replicate,hdl]; omega)]
    have e6 : (g.data.drop (g.low - 490)).take (atOf g k - g.low) = pre.flatMap (·.2) := by
      rw [h3,flatMap_append]
      exact take_left _ _ _ (by rw [RH]; omega)
    have e7 : g.data.drop (atOf g k + lenOf g k - 490) = post.flatMap (·.2) := by
      have : atOf g k + lenOf g k - 490 = (g.low - 490) + (tot pre + s.length) := by omega
      rw [this,← drop_drop,h3,flatMap_append,flatMap_cons,← append_assoc]
      exact drop_left _ _ _ (by rw [length_append,RH])
    rw [e6,e7,flatMap_append]
  · show g.low + lenOf g k + _ = 4096
    omega
end Go.Proofs.YtdeebigmpffnbaaGreat.Sl
