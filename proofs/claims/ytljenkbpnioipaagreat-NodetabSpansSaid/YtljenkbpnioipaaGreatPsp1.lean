/- Part 1 of 6 of the proof of nodetabSpans_holds: for every input, from every world that may be reached. -/
import Derived.WalkKit
import Derived.RangeFuncSeq
import Derived.KernelRfl
import Derived.RangeFuncLeaves
import Derived.Test.YtljenkbpnioipaaGreatChecked
import Derived.Deep.AppendSrc
import Derived.Laws.MakeOwn
import Derived.Laws.BytesArg
import Derived.Laws.BytesString
import Derived.Laws.IdiomStrings
import Derived.Maps.RangeRun
import Derived.Shelf.SlSortCmp.NoneTotal
import Derived.Shelf.SlIter.Nil
import Derived.Shelf.SlIterI.Nil
import Derived.Shelf.SortM.Plain
import Derived.Shelf.SortM.SortNone
import Derived.Shelf.SlMaps.Clone
import Derived.Laws.Pointers
import Derived.Lib.SliceRun
import Derived.Sort.Walk0
import Derived.Lib.Overlaps
import Derived.Lib.AppendZerosOnto
import Derived.Laws.Externs
import Derived.Laws.StructEq
import Derived.ChangeKeysEq
import Derived.WideKeyRuns
import Derived.StringKeys
import Derived.Lib.Bytealg
import Derived.Test.YtljenkbpnioipaaGreatRows
import Derived.ProofKit
set_option linter.unusedVariables false
set_option linter.unusedSimpArgs false
set_option maxRecDepth 100000
set_option maxHeartbeats 4000000
namespace Go
theorem m1{α:Type _}{a b:α}{l:List α}:b∈a::b::l:=.tail _ (.head _)
theorem m2{α:Type _}{a b c:α}{l:List α}:c∈a::b::c::l:=.tail _ (.tail _ (.head _))
theorem m3{α:Type _}{a b c d:α}{l:List α}:d∈a::b::c::d::l:=.tail _ (.tail _ (.tail _ (.head _)))
theorem m4{α:Type _}{a b c d e:α}{l:List α}:e∈a::b::c::d::e::l:=.tail _ (.tail _ (.tail _ (.tail _ (.head _))))
theorem m5{α:Type _}{a b c d e f:α}{l:List α}:f∈a::b::c::d::e::f::l:=.tail _ (.tail _ (.tail _ (.tail _ (.tail _ (.head _)))))
theorem m6{α:Type _}{a b c d e f g:α}{l:List α}:g∈a::b::c::d::e::f::g::l:=.tail _ (.tail _ (.tail _ (.tail _ (.tail _ (.tail _ (.head _))))))
theorem m7{α:Type _}{a b c d e f g h:α}{l:List α}:h∈a::b::c::d::e::f::g::h::l:=.tail _ (.tail _ (.tail _ (.tail _ (.tail _ (.tail _ (.tail _ (.head _)))))))
theorem m8{α:Type _}{a b c d e f g h i:α}{l:List α}:i∈a::b::c::d::e::f::g::h::i::l:=.tail _ (.tail _ (.tail _ (.tail _ (.tail _ (.tail _ (.tail _ (.tail _ (.head _))))))))
theorem m9{α:Type _}{a b c d e f g h i j:α}{l:List α}:j∈a::b::c::d::e::f::g::h::i::j::l:=.tail _ (.tail _ (.tail _ (.tail _ (.tail _ (.tail _ (.tail _ (.tail _ (.tail _ (.head _)))))))))
theorem m10{α:Type _}{a b c d e f g h i j k:α}{l:List α}:k∈a::b::c::d::e::f::g::h::i::j::k::l:=.tail _ (.tail _ (.tail _ (.tail _ (.tail _ (.tail _ (.tail _ (.tail _ (.tail _ (.tail _ (.head _))))))))))
theorem m11{α:Type _}{a b c d e f g h i j k m:α}{l:List α}:m∈a::b::c::d::e::f::g::h::i::j::k::m::l:=.tail _ (.tail _ (.tail _ (.tail _ (.tail _ (.tail _ (.tail _ (.tail _ (.tail _ (.tail _ (.tail _ (.head _)))))))))))
theorem m12{α:Type _}{a b c d e f g h i j k m n:α}{l:List α}:n∈a::b::c::d::e::f::g::h::i::j::k::m::n::l:=.tail _ (.tail _ (.tail _ (.tail _ (.tail _ (.tail _ (.tail _ (.tail _ (.tail _ (.tail _ (.tail _ (.tail _ (.head _))))))))))))
end Go
open List(all_eq_true append_of_mem cons_append filter_append foldl_cons length_cons mapM_cons map_cons mem_append_left mem_cons mem_cons_of_mem mem_cons_self mem_filter mem_map nil_append nodup_append nodup_cons nodup_nil)
namespace Go.Vc
open Go
noncomputable section
abbrev Fr:=List (Nat×Option Value)
def fget(fr:Fr)(t:Nat):Option Value:=
 List.rec (motive:=fun _=>Option Value) none (fun x _ ih=>cond (Nat.beq t x.1) x.2 ih) fr
def ev(fr:Fr):Operand->Option Value
 |.tmp t=>fget fr t
 |.const v=>some v
 |.global g=>some (.pointer (some ⟨g,0,none⟩))
 |.func f=>some (.func (.func f) #[] #[])
def evs(fr:Fr):List Operand->Option (List Value)
 | []=>some []
 |x::r=>match ev fr x with
  |some v=>match evs fr r with
   |some l=>some (v::l)
   |none=>none
  |none=>none
def onV(x:Option Value)(k:Value->Prop):Prop:=
 match x with
 |some v=>k v
 |none=>False
def W(rd:Option Nat):Fence:= {Fence.wide with round:=rd}
def br(b:Bool)(x y:Prop):Prop:=
 match b with
 |true=>x
 |false=>y
def onP(p:Option Addr)(k:Addr->Prop):Prop:=
 match p with
 |some a=>k a
 |none=>False
def inR(k:IntKind)(z:Int):Prop:=k.min<=z/\z<=k.max
def sb(s:ByteArray)(i:Int):Int:=((s.data.toList[i.toNat]?).getD 0).toNat
structure New(w:World)(o:Obj)(b:Nat)(w1:World):Prop where
 num:b=w.heap.size
 eq:w1=w.alloc o
def Ld(P:Program)(t:TypeId)(w:World)(a:Addr)(v:Value):Prop:=(loadVar t a).run P w=.ok v w
def St(P:Program)(t:TypeId)(w:World)(a:Addr)(v:Value)(w1:World):Prop:=(storeVar t a v).run P w=.ok () w1
def Eqv(P:Program)(op:BinOp)(t:TypeId)(x y:Operand)(w:World)(a b:Value)(r:Bool):Prop:=
 (do eqGuard op t x y a b;binOp op t a b:Sem Value).run P w=.ok (.bool r) w
def Lk(P:Program)(t:TypeId)(ok:Bool)(w:World)(m k v:Value):Prop:=(Instr.lookup t m k ok).run P w=.ok v w
def LenM(P:Program)(ts:Array TypeId)(t:TypeId)(w:World)(m v:Value):Prop:=(Builtin.len_ ts t #[m]).run P w=.ok v w
def B2S(P:Program)(src dst:TypeId)(w:World)(x v:Value):Prop:=(convert src dst x).run P w=.ok v w
def S2B(P:Program)(src dst:TypeId)(w:World)(x v:Value)(w1:World):Prop:=(convert src dst x).run P w=.ok v w1
def App(P:Program)(ts:Array TypeId)(t:TypeId)(w:World)(s x v:Value)(w1:World):Prop:=(Builtin.append_ ts t #[s,x]).run P w=.ok v w1
def Cpy(P:Program)(ts:Array TypeId)(t:TypeId)(w:World)(d s v:Value)(w1:World):Prop:=(Builtin.copy_ ts t #[d,s]).run P w=.ok v w1
def Del(P:Program)(ts:Array TypeId)(t:TypeId)(w:World)(m k:Value)(w1:World):Prop:=(Builtin.delete_ ts t #[m,k]).run P w=.ok (.tuple #[]) w1
def Clr(P:Program)(ts:Array TypeId)(t:TypeId)(w:World)(m:Value)(w1:World):Prop:=(Builtin.clear_ ts t #[m]).run P w=.ok (.tuple #[]) w1
def MUp(P:Program)(t:TypeId)(w:World)(m k v:Value)(w1:World):Prop:=(Instr.mapUpdate t m k v).run P w=.ok () w1
def MEn(P:Program)(t:TypeId)(w:World)(m k v:Value)(w1:World):Prop:=(Instr.mapEntry t m k).run P w=.ok v w1
def ESt(P:Program)(t:TypeId)(w:World)(m s v:Value)(w1:World):Prop:=(Instr.entryStore t m s v).run P w=.ok () w1
def MkS(P:Program)(t:TypeId)(w:World)(l c v:Value)(w1:World):Prop:=(Instr.makeSlice t l c).run P w=.ok v w1
def MkM(P:Program)(t:TypeId)(w:World)(r:Option Value)(v:Value)(w1:World):Prop:=(Instr.makeMap t r).run P w=.ok v w1
def Rng(P:Program)(t:TypeId)(w:World)(x v:Value)(w1:World):Prop:=(Instr.range t x).run P w=.ok v w1
def Nxt(P:Program)(isS:Bool)(t:TypeId)(w:World)(it v:Value)(w1:World):Prop:=(Instr.next it isS t).run P w=.ok v w1
def Etr(P:Program)(w:World)(it v:Value)(w1:World):Prop:=(Instr.entry it).run P w=.ok v w1
def TAs(P:Program)(xT t:TypeId)(ok:Bool)(w:World)(x v:Value):Prop:=(Instr.typeAssert x xT t ok).run P w=.ok v w
def Prt(P:Program)(t:TypeId)(cs:List Value)(off:Nat)(v:Value):Prop:=∀w:World,(part t cs.toArray off).run P w=.ok v w
structure BL(P:Program)(f:FuncId)(args:List Value)(w:World)(R:Ending->World->Prop):Prop where
 run:Calls P f args.toArray w R
structure ExtV(P:Program)(f:FuncId)(args:List Value)(w:World)(R:Ending->World->Prop):Prop where
 run:∃(v:Value)(w1:World),(callFunc f args.toArray).run P w=.ok (.value v) w1/\R (.returned v) w1
structure dQ(P:Program)(l:Nat)(args:List Value)(w:World)(R:Ending->World->Prop):Prop where
 run:∀(rd:Option Nat)(n:Nat),YieldAt (W rd) n P l args.toArray w R
def Ee(P:Program)(fv:Value)(args:List Value)(w:World)(R:Ending->World->Prop):Prop:=
 match fv with
 |.func (.func g) fi ca=>match P.funcs[g]? with
  |some fn=>match fn.body with
   |some _=>BL P g (fi.toList++args++ca.toList) w R
   |none=>ExtV P g (fi.toList++args++ca.toList) w R
  |none=>False
 |.func (.yield l) fi ca=>match fi.toList,ca.toList with
  | [],[]=>dQ P l args w R
  |_,_=>False
 |_=>False
structure E5{St:Type}(P:Program)(gf:FuncId)(fi ca:List Value)(toA:St->List Value)(round:St->World->(World->(World->Prop)->Prop)->(World->Prop)->(World->Prop)->(Nat->World->Prop)->Prop)(w:World)(Qn Qr:Nat->World->Prop)(Qx:Nat->Nat->World->Prop):Prop where
 mk'::
 run:∀(D l:Nat)(w0 w1:World)(rec:LoopState->Option Code->Obj),New w (.deferred (some [])) D w0->New w0 (rec .ready none) l w1->
  (∀(s:St)(w':World)(R:Ending->World->Prop),
   round s w' (fun w1 k=>w1.heap[l]? =some (rec .ready none)/\k (w1.putObj l (rec .busy none)))
    (fun w2=>w2.heap[l]? =some (rec .busy none)/\R (.returned (.bool true)) (w2.putObj l (rec .ready none)))
    (fun w2=>w2.heap[l]? =some (rec .busy none)/\R (.returned (.bool false)) (w2.putObj l (rec .done (some .ret))))
    (fun id w2=>w2.heap[l]? =some (rec .busy none)/\R (.returned (.bool false)) (w2.putObj l (rec .done (some (.exit id)))))->
   w'.heap[l]? =some (rec .ready none)->Ee P (.func (.yield l) #[] #[]) (toA s) w' R)->
  BL P gf (fi++[.func (.yield l) #[] #[]]++ca) w1 fun e w2=>∃v,e=.returned v/\
   ((w2.heap[l]? =some (rec .ready none)/\Qn D (w2.putObj l (rec .exhausted none)))\/
    (w2.heap[l]? =some (rec .done (some .ret))/\Qr D (w2.putObj l (rec .exhausted (some .ret))))\/
    ∃id,w2.heap[l]? =some (rec .done (some (.exit id)))/\Qx id D (w2.putObj l (rec .exhausted (some (.exit id)))))
def GV(P:Program)(gf:FuncId):Prop:=∃(fn:Func)(c:Code),P.funcs[gf]? =some fn/\fn.body=some c
def FZ(w:World)(D:Nat)(w1:World):Prop:=w.heap[D]? =some (.deferred (some []))/\w1=w.putObj D (.deferred none)
structure AP{St:Type}(body:St->World->(St->World->Prop)->Prop)(s:St)(w:World):Prop where
 mk'::
 run:∃I:Nat->St->World->Prop,(∃n,I n s w)/\∀n s w,I n s w->body s w (fun s' w'=>∃m,m<n/\I m s' w')
structure Am{St:Type}(R:St->World->Prop)(X:(St->World->Prop)->Prop):Prop where
 mk'::
 run:X R
def exLs(f:TypeId->(List Value->Prop)->Prop):List TypeId->(List Value->Prop)->Prop
 | [],C=>C []
 |t::r,C=>f t (fun l=>exLs f r (fun l'=>C (l++l')))
def exC(P:Program):Nat->TypeId->(List Value->Prop)->Prop
 |0,_,C=>∃cs:List Value,C cs
 |n+1,T,C=>
  match P.underlying T with
  |some .bool=>∃b:Bool,C [.bool b]
  |some (.int k)=>∃i:Int,C [.int k i]
  |some .string=>∃s:ByteArray,C [.string s]
  |some (.pointer _)=>∃p:Option Addr,C [.pointer p]
  |some (.slice _)=>∃(a:Option Addr)(l c:Nat),C [.slice a l c]
  |some (.map _ _)=>∃m:Option Nat,C [.map m]
  |some (.struct fs)=>exLs (exC P n) (fs.toList.map (·.type)) C
  |some (.array _ _)=>∃cs:List Value,C cs
  |_=>∃v:Value,C [v]
def exV(P:Program)(T:TypeId)(C:Value->Prop):Prop:=
 match P.underlying T with
 |some (.struct _)=>exC P 8 T fun cs=>C (.agg cs.toArray)
 |some (.array _ _)=>∃cs:List Value,C (.agg cs.toArray)
 |some .bool=>∃b:Bool,C (.bool b)
 |some (.int k)=>∃i:Int,C (.int k i)
 |some .string=>∃s:ByteArray,C (.string s)
 |some (.pointer _)=>∃p:Option Addr,C (.pointer p)
 |some (.slice _)=>∃(a:Option Addr)(l c:Nat),C (.slice a l c)
 |some (.map _ _)=>∃m:Option Nat,C (.map m)
 |_=>∃v:Value,C v
def exVs(P:Program):List TypeId->(List Value->Prop)->Prop
 | [],C=>C []
 |t::r,C=>exV P t (fun v=>exVs P r (fun l=>C (v::l)))
def exT(P:Program)(T:TypeId)(C:Value->Prop):Prop:=
 match P.underlying T with
 |some (.tuple ts)=>exVs P ts.toList fun vs=>C (.tuple vs.toArray)
 |_=>exV P T C
def force:List Value->(List Value->Prop)->Prop
 | [],k=>k []
 |x::r,k=>force r (fun r'=>k (x::r'))
def XG(big:Bool)(l:List Value)(k:List Value->Prop):Prop:=match big with
 |true=>k l
 |false=>force l k
def over:List Value->Nat->List Value->List Value
 | [],_,cs=>cs
 |x::r,0,_::cs=>x::over r 0 cs
 |_::_,_,[]=>[]
 |l,n+1,c::cs=>c::over l n cs
def Ry(place:Nat->Option (Nat×Nat)):List (Nat×Value)->List Value->Option (List Value)
 | [],cs=>some cs
 |(i,v)::r,cs=>
  match place i with
  |none=>none
  |some (off,size)=>
   if v.cells.size≠size||off+v.cells.size>cs.length then none
   else Ry place r (over v.cells.toList off cs)
def partsOf(fr:Fr):List (Nat×Operand)->Option (List (Nat×Value))
 | []=>some []
 |(i,x)::r=>match ev fr x with
  |some v=>match partsOf fr r with
   |some l=>some ((i,v)::l)
   |none=>none
  |none=>none
def Oc(P:Program):List Field->Option (List (Nat×Nat))
 | []=>some []
 |f::r=>match P.info? f.type with
  |some i=>match Oc P r with
   |some l=>some ((f.offset,i.size)::l)
   |none=>none
  |none=>none
def zeroOf(P:Program)(t:TypeId):Option Value:=match P.info? t with
 |some i=>i.zero
 |none=>none
def Dt(P:Program)(t:TypeId):Option Nat:=match P.info? t with
 |some i=>some i.size
 |none=>none
def bigT(P:Program)(t:TypeId):Bool:=match Dt P t with
 |some n=>Nat.blt 64 n
 |none=>false
def zl(P:Program)(t:TypeId):List Value:=match zeroOf P t with
 |some z=>z.cells.toList
 |none=>[]
def SL(P:Program)(t:TypeId)(parts:List (Nat×Value)):Option (List Value):=
 match zeroOf P t with
 |none=>none
 |some z=>
  match P.underlying t with
  |some (.struct fs)=>match Oc P fs.toList with
   |some pl=>Ry (fun i=>pl[i]?) parts z.cells.toList
   |none=>none
  |some (.array _ e)=>match Dt P e with
   |some n=>Ry (fun i=>some (i*n,n)) parts z.cells.toList
   |none=>none
  |_=>none
def bigL(P:Program)(t:TypeId)(parts:List (Nat×Value)):List Value:=(SL P t parts).getD []
def repL(z:List Value):Nat->List Value
 |0=>[]
 |n+1=>z++repL z n
def Q8(P:Program)(t:TypeId)(len:Nat)(parts:List (Nat×Value)):Option (TypeId×List Value):=
 match P.underlying t with
 |some (.slice e)=>match P.info? e with
  |some i=>match i.zero with
   |some z=>
    if z.cells.size≠i.size||i.size=0||len*i.size>16777216 then none
    else match Ry (fun k=>some (k*i.size,i.size)) parts (repL z.cells.toList len)with
     |some l=>some (e,l)
     |none=>none
   |none=>none
  |none=>none
 |_=>none
def Zl(P:Program)(t:TypeId)(cs:List Value)(off:Nat)(K:Value->Prop):Prop:=
 match P.underlying t with
 |some (.struct _)|some (.array _ _)=>match Dt P t with
  |some n=>force ((cs.drop off).take n) fun l=>K (.agg l.toArray)
  |none=>False
 |some _=>match cs[off]? with
  |some v=>K v
  |none=>False
 |none=>False
def slA(a:Option Addr)(m l size:Nat):Option Addr:=if m=l then a else a.map (·.add (l*size))
def opI(fr:Fr)(x:Option Operand)(k:Option Int->Prop):Prop:=
 match x with
 |none=>k none
 |some o=>match ev fr o with
  |some (.int _ i)=>k (some i)
  |_=>False
def slcV(a:Option Addr)(n c size:Nat)(lo hi mx:Option Int)(K:Value->Prop):Prop:=
 match mx,hi,lo with
 |none,none,none=>K (.slice a n c)
 |none,none,some l=>(0<=l/\l<=n)/\K (.slice (slA a c l.toNat size) (n-l.toNat) (c-l.toNat))
 |none,some h,none=>(0<=h/\h<=c)/\K (.slice a h.toNat c)
 |none,some h,some l=>(0<=l/\l<=h/\h<=c)/\K (.slice (slA a c l.toNat size) (h.toNat-l.toNat) (c-l.toNat))
 |some m,some h,none=>(0<=h/\h<=m/\m<=c)/\K (.slice a h.toNat m.toNat)
 |some m,some h,some l=>(0<=l/\l<=h/\h<=m/\m<=c)/\K (.slice (slA a m.toNat l.toNat size) (h.toNat-l.toNat) (m.toNat-l.toNat))
 |some _,none,_=>False
def slxV(P:Program)(t:TypeId)(x:Value)(lo hi mx:Option Int)(K:Value->Prop):Prop:=
 match P.underlying t,x with
 |some .string,.string s=>
  match mx,hi,lo with
  |none,none,none=>K (.string (s.extract 0 s.size))
  |none,none,some l=>(0<=l/\l<=s.size)/\K (.string (s.extract l.toNat s.size))
  |none,some h,none=>(0<=h/\h<=s.size)/\K (.string (s.extract 0 h.toNat))
  |none,some h,some l=>(0<=l/\l<=h/\h<=s.size)/\K (.string (s.extract l.toNat h.toNat))
  |some _,_,_=>False
 |some (.slice e),.slice a n c=>match Dt P e with
  |some size=>slcV a n c size lo hi mx K
  |none=>False
 |some (.array n e),.pointer p=>match Dt P e with
  |some size=>onP p fun a=>slcV (some a) n n size lo hi mx K
  |none=>False
 |_,_=>False
def LK(P:Program)(fr:Fr)(t:TypeId)(x:Value)(lo hi mx:Option Operand)(K:Value->Prop):Prop:=
 opI fr lo fun lo=>opI fr hi fun hi=>opI fr mx fun mx=>slxV P t x lo hi mx K
def arith(wr:Bool)(k:IntKind)(z:Int)(K:Value->Prop):Prop:=
 match wr with
 |true=>K (.int k (k.wrap z))
 |false=>inR k z/\K (.int k z)
def bits(op:BinOp)(k:IntKind)(x y:Int):Int:=
 match op with
 |.and=>k.wrap (BitVec.ofInt k.bits x&&&BitVec.ofInt k.bits y).toNat
 |.or=>k.wrap (BitVec.ofInt k.bits x|||BitVec.ofInt k.bits y).toNat
 |.xor=>k.wrap (BitVec.ofInt k.bits x^^^BitVec.ofInt k.bits y).toNat
 |.andNot=>k.wrap (BitVec.ofInt k.bits x&&& ~~~(BitVec.ofInt k.bits y)).toNat
 |_=>0
def binV(wr:Bool)(P:Program)(op:BinOp)(t:TypeId)(x y:Value)(K:Value->Prop):Prop:=
 match op,x,y with
 |.shl,.int k a,.int _ b=>0<=b/\arith wr k (a*2^(min b.toNat k.bits)) K
 |.shr,.int k a,.int _ b=>0<=b/\K (.int k (a.fdiv (2^(min b.toNat k.bits))))
 |op,.int k a,.int k' b=>
  if k=k' then
   match op with
   |.add=>arith wr k (a+b) K
   |.sub=>arith wr k (a-b) K
   |.mul=>arith wr k (a*b) K
   |.quo=>b≠0/\arith wr k (a.tdiv b) K
   |.rem=>b≠0/\K (.int k (a.tmod b))
   |.and=>K (.int k (bits .and k a b))
   |.or=>K (.int k (bits .or k a b))
   |.xor=>K (.int k (bits .xor k a b))
   |.andNot=>K (.int k (bits .andNot k a b))
   |.eql=>K (.bool (decide (a=b)))
   |.neq=>K (.bool (!decide (a=b)))
   |.lss=>K (.bool (decide (a<b)))
   |.leq=>K (.bool (decide (a<=b)))
   |.gtr=>K (.bool (decide (b<a)))
   |.geq=>K (.bool (decide (b<=a)))
   |_=>False
  else False
 |op,.string a,.string b=>
  match op with
  |.add=>((a.size+b.size:Nat):Int)<=9223372036854775807/\K (.string (a++b))
  |.eql=>K (.bool (decide (a=b)))
  |.neq=>K (.bool (!decide (a=b)))
  |.lss=>K (.bool (Op.bytesLess a.data.toList b.data.toList))
  |.leq=>K (.bool (Op.bytesLess a.data.toList b.data.toList||decide (a=b)))
  |.gtr=>K (.bool (!(Op.bytesLess a.data.toList b.data.toList||decide (a=b))))
  |.geq=>K (.bool (!Op.bytesLess a.data.toList b.data.toList))
  |_=>False
 |.eql,.bool a,.bool b=>match P.underlying t with
  |some .bool=>K (.bool (a==b))
  |_=>False
 |.neq,.bool a,.bool b=>match P.underlying t with
  |some .bool=>K (.bool (!(a==b)))
  |_=>False
 |_,_,_=>False
def unV(wr:Bool)(op:UnOp)(x:Value)(K:Value->Prop):Prop:=
 match op,x with
 |.not,.bool b=>K (.bool (!b))
 |.neg,.int k n=>arith wr k (0-n) K
 |.xor,.int k n=>K (.int k (bits .xor k (if k.signed then-1 else k.max) n))
 |_,_=>False
def lenV(P:Program)(ts:Array TypeId)(x:Value)(K:Value->Prop):Prop:=
 match ts[0]? with
 |none=>False
 |some t=>
  match P.underlying t,x with
  |some .string,.string s=>K (.int .i64 s.size)
  |some (.slice _),.slice _ n _=>K (.int .i64 n)
  |some (.array n _),_=>K (.int .i64 n)
  |some (.pointer e),_=>match P.underlying e with
   |some (.array n _)=>K (.int .i64 n)
   |_=>False
  |_,_=>False
def capV(P:Program)(ts:Array TypeId)(x:Value)(K:Value->Prop):Prop:=
 match ts[0]? with
 |none=>False
 |some t=>
  match P.underlying t,x with
  |some (.slice _),.slice _ _ c=>K (.int .i64 c)
  |some (.array n _),_=>K (.int .i64 n)
  |_,_=>False
def Oe(wr:Bool)(P:Program)(fr:Fr)(o:Oper)(K:Value->Prop):Prop:=
 match o.op with
 |.move x=>onV (ev fr x) K
 |.assign x=>onV (ev fr x) K
 |.pick c a b=>match ev fr c with
  |some (.bool t)=>br t (onV (ev fr a) K) (onV (ev fr b) K)
  |_=>False
 |.build t parts=>match partsOf fr parts.toList with
  |some ps=>match SL P t ps with
   |some _=>XG (bigT P t) (bigL P t ps) fun l=>K (.agg l.toArray)
   |none=>False
  |none=>False
 |.nilCheck x=>match ev fr x with
  |some (.pointer p)=>onP p fun a=>K (.pointer (some a))
  |some (.func (.func f) fi ca)=>K (.func (.func f) fi ca)
  |some (.iface t v)=>K (.iface t v)
  |_=>False
 |.binOp op t x y _=>onV (ev fr x) fun a=>onV (ev fr y) fun b=>binV wr P op t a b K
 |.unOp op _ x=>onV (ev fr x) fun a=>unV wr op a K
 |.convert src dst x=>match P.underlying src,P.underlying dst,ev fr x with
  |some (.int _),some (.int k),some (.int _ n)=>K (.int k (k.wrap n))
  |some .string,some .string,some (.string s)=>K (.string s)
  |_,_,_=>False
 |.makeInterface t x=>match P.underlying t with
  |some (.interface _)=>False
  |some _=>onV (ev fr x) fun v=>K (.iface t v)
  |none=>False
 |.makeFunc fn first captured=>match evs fr first.toList,evs fr captured.toList with
  |some fi,some ca=>K (.func fn fi.toArray ca.toArray)
  |_,_=>False
 |.slice t x lo hi mx=>onV (ev fr x) fun v=>LK P fr t v lo hi mx K
 |.sliceToArrayPointer t x=>match P.underlying t,ev fr x with
  |some (.array n _),some (.slice a l _)=>n<=l/\K (.pointer a)
  |_,_=>False
 |.fieldAddr s x f=>match P.underlying s,ev fr x with
  |some (.struct fs),some (.pointer p)=>match fs[f]? with
   |some fd=>match Dt P fd.type with
    |some (_+1)=>onP p fun a=>K (.pointer (some (a.add fd.offset)))
    |_=>False
   |none=>False
  |_,_=>False
 |.field t x f=>match P.underlying t,ev fr x with
  |some (.struct fs),some (.agg cs)=>match fs[f]? with
   |some fd=>Zl P fd.type cs.toList fd.offset K
   |none=>False
  |_,_=>False
 |.indexAddr t x ix=>match P.underlying t,ev fr x,ev fr ix with
  |some (.slice e),some (.slice p n _),some (.int _ i)=>match Dt P e with
   |some sz=>onP p fun a=>(0<=i/\i<n)/\K (.pointer (some (a.add (i.toNat*sz))))
   |none=>False
  |some (.array n e),some (.pointer p),some (.int _ i)=>match Dt P e with
   |some sz=>onP p fun a=>(0<=i/\i<n)/\K (.pointer (some (a.add (i.toNat*sz))))
   |none=>False
  |_,_,_=>False
 |.index t x ix=>match P.underlying t,ev fr x,ev fr ix with
  |some .string,some (.string s),some (.int _ i)=>(0<=i/\i<s.size)/\K (.int .u8 (sb s i))
  |some (.array n e),some (.agg cs),some (.int _ i)=>match Dt P e with
   |some sz=>(0<=i/\i<n)/\exV P e fun v=>Prt P e cs.toList (i.toNat*sz) v/\K v
   |none=>False
  |_,_,_=>False
 |.extract x i=>match ev fr x with
  |some (.tuple vs)=>match vs[i]? with
   |some v=>K v
   |none=>False
  |_=>False
 |.call c=>match c.callee,c.args.toList with
  |.builtin .len,[x]=>onV (ev fr x) fun v=>lenV P c.argTypes v K
  |.builtin .cap,[x]=>onV (ev fr x) fun v=>capV P c.argTypes v K
  |.builtin .min,[x,y]=>match ev fr x,ev fr y with
   |some (.int k a),some (.int _ b)=>K (.int k (min a b))
   |_,_=>False
  |.builtin .max,[x,y]=>match ev fr x,ev fr y with
   |some (.int k a),some (.int _ b)=>K (.int k (max a b))
   |_,_=>False
  |_,_=>False
 |_=>False
def Fg(P:Program)(fr:Fr)(o:Oper)(w:World)(v:Value):Prop:=
 match o.op with
 |.load t x=>match ev fr x with
  |some (.pointer p)=>onP p fun a=>Ld P t w a v
  |_=>False
 |.lookup t x k ok=>onV (ev fr x) fun m=>onV (ev fr k) fun k=>Lk P t ok w m k v
 |.binOp op t x y _=>onV (ev fr x) fun a=>onV (ev fr y) fun b=>match v with
  |.bool r=>Eqv P op t x y w a b r
  |_=>False
 |.convert src dst x=>onV (ev fr x) fun a=>B2S P src dst w a v
 |.typeAssert x xT t ok=>onV (ev fr x) fun a=>TAs P xT t ok w a v
 |.call c=>match c.callee,c.args.toList with
  |.builtin .len,[x]=>onV (ev fr x) fun m=>LenM P c.argTypes o.type w m v
  |_,_=>False
 |_=>False
def XJ(P:Program)(fv:Value)(args:List Value)(t:TypeId)(w:World)(K:Option Value->World->Prop):Prop:=
 Ee P fv args w fun e w'=>exT P t fun v=>e=.returned v/\K (some v) w'
def extT:List Oper->Option Nat->Nat->Option TypeId
 | [],_,_=>none
 |o::r,d,i=>match o.op,d with
  |.extract (.tmp x) j,some d=>match Nat.beq x d&&Nat.beq j i with
   |true=>some o.type
   |false=>extT r (some d) i
  |_,d=>extT r d i
def exO(P:Program)(t:Option TypeId)(C:Value->Prop):Prop:=match t with
 |some t=>exT P t C
 |none=>∃v,C v
def bigS(P:Program)(t:TypeId):Bool:=match P.underlying t with
 |some (.slice e)=>bigT P e
 |_=>false
def BuildS(P:Program)(t:TypeId)(len:Nat)(ps:List (Nat×Value))(e:TypeId)(l:List Value):Prop:=Q8 P t len ps=some (e,l)
def effV(P:Program)(ops:List Oper)(fr:Fr)(o:Oper)(w:World)(K:Option Value->World->Prop):Prop:=
 match o.op with
 |.alloc t=>match zeroOf P t with
  |some _=>XG (bigT P t) (zl P t) fun l=>∀b w1,New w (.cells l.toArray t) b w1->K (some (.pointer (some ⟨b,0,none⟩))) w1
  |none=>False
 |.box t x=>onV (ev fr x) fun v=>XG (bigT P t) v.cells.toList fun l=>∀b w1,New w (.cells l.toArray t) b w1->K (some (.pointer (some ⟨b,0,none⟩))) w1
 |.buildSlice t len parts=>match partsOf fr parts.toList with
  |some ps=>match bigS P t with
   |true=>∃(e:TypeId)(l:List Value),BuildS P t len ps e l/\∀b w1,New w (.cells l.toArray e) b w1->K (some (.slice (some ⟨b,0,none⟩) len len)) w1
   |false=>match Q8 P t len ps with
    |some (e,cs)=>force cs fun l=>∀b w1,New w (.cells l.toArray e) b w1->K (some (.slice (some ⟨b,0,none⟩) len len)) w1
    |none=>False
  |none=>False
 |.store t x y=>match ev fr x,ev fr y with
  |some (.pointer p),some v=>onP p fun a=>∃w1,St P t w a v w1/\K none w1
  |_,_=>False
 |.convert src dst x=>onV (ev fr x) fun v=>∃(a:Option Addr)(l c:Nat)(w1:World),S2B P src dst w v (.slice a l c) w1/\K (some (.slice a l c)) w1
 |.makeSlice t l c=>onV (ev fr l) fun l=>onV (ev fr c) fun c=>∃(a:Option Addr)(n m:Nat)(w1:World),MkS P t w l c (.slice a n m) w1/\K (some (.slice a n m)) w1
 |.makeMap t r=>match r with
  |none=>∀b w1,New w (.map #[] 0) b w1->K (some (.map (some b))) w1
  |some x=>onV (ev fr x) fun v=>∃(m:Option Nat)(w1:World),MkM P t w (some v) (.map m) w1/\K (some (.map m)) w1
 |.mapUpdate t m k x=>onV (ev fr m) fun m=>onV (ev fr k) fun k=>onV (ev fr x) fun v=>∃w1,MUp P t w m k v w1/\K none w1
 |.insert t m k x=>onV (ev fr m) fun m=>onV (ev fr k) fun k=>onV (ev fr x) fun v=>∃w1,MUp P t w m k v w1/\K none w1
 |.mapEntry t m k=>onV (ev fr m) fun m=>onV (ev fr k) fun k=>∃(v:Value)(i:Int)(w1:World),MEn P t w m k (.tuple #[v,.int .i64 i]) w1/\K (some (.tuple #[v,.int .i64 i])) w1
 |.entryStore t m s x=>onV (ev fr m) fun m=>onV (ev fr s) fun s=>onV (ev fr x) fun v=>∃w1,ESt P t w m s v w1/\K none w1
 |.range t x=>onV (ev fr x) fun v=>∃(p:Option Addr)(w1:World),Rng P t w v (.pointer p) w1/\K (some (.pointer p)) w1
 |.next it isS=>onV (ev fr it) fun i=>
   (∃w1,Nxt P isS o.type w i (.tuple #[.bool false]) w1/\K (some (.tuple #[.bool false])) w1)\/
   (∃(k v:Value)(w1:World),Nxt P isS o.type w i (.tuple #[.bool true,k,v]) w1/\K (some (.tuple #[.bool true,k,v])) w1)
 |.entry it=>onV (ev fr it) fun i=>exO P (extT ops o.dst 0) fun k=>exO P (extT ops o.dst 1) fun v=>∃w1,Etr P w i (.tuple #[k,v]) w1/\K (some (.tuple #[k,v])) w1
 |.call c=>match evs fr c.args.toList with
  |none=>False
  |some args=>match c.callee with
   |.builtin .append=>match args with
    | [s,x]=>∃(a:Option Addr)(n m:Nat)(w1:World),App P c.argTypes o.type w s x (.slice a n m) w1/\K (some (.slice a n m)) w1
    |_=>False
   |.builtin .copy=>match args with
    | [d,s]=>∃(n:Int)(w1:World),Cpy P c.argTypes o.type w d s (.int .i64 n) w1/\K (some (.int .i64 n)) w1
    |_=>False
   |.builtin .delete=>match args with
    | [m,k]=>∃w1,Del P c.argTypes o.type w m k w1/\K (some (.tuple #[])) w1
    |_=>False
   |.builtin .clear=>match args with
    | [m]=>∃w1,Clr P c.argTypes o.type w m w1/\K (some (.tuple #[])) w1
    |_=>False
   |.builtin _=>False
   |.value f=>onV (ev fr f) fun fv=>XJ P fv args o.type w K
   |.invoke _ _=>False
 |_=>False
def cls(P:Program)(op:Op):Nat:=
 match op with
 |.move _|.assign _|.pick .. |.build .. |.nilCheck _|.unOp .. |.makeInterface .. |.makeFunc .. |.slice .. |.sliceToArrayPointer .. |.fieldAddr .. |.field .. |.indexAddr .. |.index .. |.extract .. =>0
 |.binOp op t _ _ _=>match op with
  |.eql|.neq=>match P.underlying t with
   |some (.int _)|some .string|some .bool=>0
   |_=>1
  |_=>0
 |.convert src dst _=>match P.underlying src,P.underlying dst with
  |some (.slice _),some .string=>1
  |some .string,some (.slice _)=>2
  |some (.slice _),some (.slice _)=>2
  |_,_=>0
 |.load .. |.lookup .. |.typeAssert .. =>1
 |.call c=>match c.callee with
  |.builtin .len=>match c.argTypes[0]? with
   |some t=>match P.underlying t with
    |some (.map _ _)=>1
    |_=>0
   |none=>0
  |.builtin .cap|.builtin .min|.builtin .max=>0
  |_=>2
 |_=>2
abbrev Past:=List (Nat×(World->Prop))
def again(bef:Nat->Nat->Bool)(j:Nat):Past->World->Prop->Prop
 | [],_,X=>X
 |(i,f)::p,w,X=>match bef i j with
  |true=>again bef j p w X
  |false=>f w/\again bef j p w X
def spl(sp:Bool)(v:Value)(K:Value->Prop):Prop:=
 match sp,v with
 |true,.bool b=>br b (K (.bool true)) (K (.bool false))
 |_,_=>K v
def FD(ops:List Oper)(j:Nat):Option Nat:=match ops[j]? with
 |some o=>o.dst
 |none=>none
def XY(ops:List Oper)(i:Nat):Bool:=ops.any fun o=>match o.guard with
 |some (j,_)=>j==i
 |none=>false
def Gm(wr:Bool)(P:Program)(bef:Nat->Nat->Bool)(ops:List Oper)(i:Nat)(o:Oper)(fr:Fr)(w:World)(past:Past)(K:Option Value->World->Past->Prop):Prop:=
 match cls P o.op with
 |0=>Oe wr P fr o fun v=>spl (XY ops i) v fun v=>K (some v) w past
 |1=>exT P o.type fun v=>Fg P fr o w v/\spl (XY ops i) v fun v'=>K (some v') w ((i,fun w'=>Fg P fr o w' v)::past)
 |_=>effV P ops fr o w fun rv w'=>again bef i past w' (match rv with
  |some v=>spl (XY ops i) v fun v=>K (some v) w' past
  |none=>K none w' past)
def fput(nt:Nat)(fr:Fr)(d:Option Nat)(v:Option Value)(k:Fr->Prop):Prop:=
 match d with
 |some d=>match Nat.blt d nt with
  |true=>k ((d,v)::fr)
  |false=>False
 |none=>k fr
def stepD(wr:Bool)(P:Program)(bef:Nat->Nat->Bool)(ops:List Oper)(i:Nat)(o:Oper)(fr:Fr)(w:World)(past:Past)(K:Option Value->World->Past->Prop):Prop:=
 match o.guard with
 |none=>Gm wr P bef ops i o fr w past K
 |some (j,want)=>match FD ops j with
  |none=>False
  |some s=>match fget fr s with
   |some (.bool b)=>
    match b,want with
    |true,true|false,false=>Gm wr P bef ops i o fr w past K
    |_,_=>K (some (.tuple #[])) w past
   |some (.tuple _)=>K (some (.tuple #[])) w past
   |_=>False
def runV(wr:Bool)(P:Program)(nt:Nat)(bef:Nat->Nat->Bool)(ops:List Oper)(K:Fr->World->Prop):List Nat->Fr->World->Past->Prop
 | [],fr,w,_=>K fr w
 |i::r,fr,w,past=>
  match ops[i]? with
  |none=>False
  |some o=>stepD wr P bef ops i o fr w past fun v w' past'=>fput nt fr o.dst v fun fr'=>runV wr P nt bef ops K r fr' w' past'
def fE(o:Oper):List Nat:=(o.after.toList.filter fun e=>Region.binds .any e).map (·.on)
def ZX(ex:List (Nat×Nat))(j:Nat)(o:Oper):List Nat:=fE o++(ex.filter fun p=>Nat.beq p.2 j).map (·.1)
def getN(l:List Nat)(e:Nat):Nat:=(l[e]?).getD 0
def Ym(ex:List (Nat×Nat))(prev:List Nat)(ops:List Oper):List Nat:=
 ops.foldl (fun acc o=>acc++[(ZX ex acc.length o).foldl (fun s e=>Nat.lor s (Nat.lor (Nat.pow 2 e) (Nat.lor (getN acc e) (getN prev e)))) 0]) []
def closure(ex:List (Nat×Nat))(ops:List Oper):List Nat:=
 match ex with
 | []=>Ym ex [] ops
 |_=>Ym ex (Ym ex (Ym ex [] ops) ops) ops
def before(cl:List Nat)(i j:Nat):Bool:=Nat.testBit (getN cl j) i
def within(m done:Nat):Bool:=Nat.beq (Nat.lor m done) done
def Ov(P:Program)(ops:List Oper)(cl:List Nat)(done:Nat):List Nat->Option Nat->Option Nat
 | [],late=>late
 |i::r,late=>
  match Nat.testBit done i with
  |true=>Ov P ops cl done r late
  |false=>
   match within (getN cl i) done with
   |false=>Ov P ops cl done r late
   |true=>match ops[i]? with
    |some o=>match cls P o.op with
     |0=>some i
     |1=>some i
     |_=>Ov P ops cl done r (match late with
      |none=>some i
      |some l=>some l)
    |none=>none
def Xf(P:Program)(ops:List Oper)(cl:List Nat)(all:List Nat):Nat->Nat->List Nat
 |0,_=>[]
 |n+1,done=>match Ov P ops cl done all none with
  |some i=>i::Xf P ops cl all n (Nat.lor done (Nat.pow 2 i))
  |none=>[]
def DW(P:Program):List Oper->Nat->List Nat
 | [],_=>[]
 |o::r,i=>match cls P o.op with
  |0=>DW P r (i+1)
  |1=>DW P r (i+1)
  |_=>i::DW P r (i+1)
def remove(x:Nat):List Nat->List Nat
 | []=>[]
 |y::r=>match Nat.beq x y with
  |true=>r
  |false=>y::remove x r
def KI(cl:List Nat):Nat->List Nat->List (List Nat)
 |0,_=>[[]]
 |n+1,l=>(l.filter fun x=>l.all fun y=> !before cl y x).flatMap fun x=>(KI cl n (remove x l)).map (x:: ·)
def chainOf:List Nat->List (Nat×Nat)
 |x::y::r=>(x,y)::chainOf (y::r)
 |_=>[]
def nodupB:List Nat->Bool
 | []=>true
 |x::r=> !r.contains x&&nodupB r
def X4(x:Nat):List Nat->Nat
 | []=>0
 |y::r=>match Nat.beq x y with
  |true=>0
  |false=>X4 x r+1
def Es(m:Region.Mode)(o:Oper):List Nat:=(o.after.toList.filter fun e=>Region.binds m e).map (·.on)
def forward(m:Region.Mode)(ops:List Oper)(σ:List Nat):Bool:=
 (List.range ops.length).all fun i=>match ops[i]? with
  |some o=>(Es m o).all fun j=>decide (j<ops.length)&&decide (X4 j σ<X4 i σ)
  |none=>false
def opTs(o:Op):List Nat:=o.operands.toList.filterMap fun x=>match x with
 |.tmp t=>some t
 |_=>none
def apartB(ops:List Oper)(i j:Nat):Bool:=
 match ops[i]?,ops[j]? with
 |some a,some b=>
  match a.dst,b.dst with
  |some x,some y=> !(x==y)&& !(opTs a.op).contains y&& !(opTs b.op).contains x&&
    (match a.guard with
     |some (k,_)=>match FD ops k with
      |some s=> !(s==y)
      |none=>true
     |none=>true)&&
    (match b.guard with
     |some (k,_)=>match FD ops k with
      |some s=> !(s==x)
      |none=>true
     |none=>true)
  |some x,none=> !(opTs b.op).contains x&&
    (match b.guard with
     |some (k,_)=>match FD ops k with
      |some s=> !(s==x)
      |none=>true
     |none=>true)
  |none,some y=> !(opTs a.op).contains y&&
    (match a.guard with
     |some (k,_)=>match FD ops k with
      |some s=> !(s==y)
      |none=>true
     |none=>true)
  |none,none=>true
 |_,_=>false
def RV(f:Nat->Nat->Bool):List Nat->Bool
 | []=>true
 |i::r=>r.all (f i)&&RV f r
def ZY(P:Program)(ops:List Oper)(cl:List Nat)(i j:Nat):Bool:=
 before cl i j||
 (!before cl j i&&apartB ops i j&&
  match ops[i]?,ops[j]? with
  |some a,some b=>match cls P a.op,cls P b.op with
   |0,_=>true
   |_,0=>true
   |1,_=>true
   |_,_=>false
  |_,_=>false)
def ZQ(P:Program)(ops:Array Oper)(cl:List Nat)(σ:List Nat):Bool:=
 decide (σ.length=ops.toList.length)&&nodupB σ&&σ.all (fun i=>decide (i<ops.toList.length))&&RV (ZY P ops.toList cl) σ
def Tm(ops:Array Oper):Bool:=
 forward .any ops.toList (List.range ops.toList.length)&&
 (!Region.departs ops||(forward .text ops.toList (List.range ops.toList.length)&&forward .gc ops.toList (Region.linearise .gc ops 0)))
abbrev Kd:=IntKind⊕Nat
def KTy:Kd->Type
 |.inl _=>Int
 |.inr 0=>Bool
 |.inr 1=>ByteArray
 |.inr 2=>Option Addr
 |.inr 3=>Option Addr×Nat×Nat
 |.inr 4=>Option Nat
 |.inr (_+5)=>Value
def toV:(k:Kd)->KTy k->Value
 |.inl k,n=>.int k n
 |.inr 0,b=>.bool b
 |.inr 1,s=>.string s
 |.inr 2,p=>.pointer p
 |.inr 3,x=>.slice x.1 x.2.1 x.2.2
 |.inr 4,m=>.map m
 |.inr (_+5),v=>v
def fromV:(k:Kd)->Value->Option (KTy k)
 |.inl k,.int k' n=>match decide (k=k')with
  |true=>some n
  |false=>none
 |.inr 0,.bool b=>some b
 |.inr 1,.string s=>some s
 |.inr 2,.pointer p=>some p
 |.inr 3,.slice a l c=>some (a,l,c)
 |.inr 4,.map m=>some m
 |.inr (_+5),v=>some v
 |_,_=>none
def StTy:List (Nat×Kd)->Type
 | []=>Unit
 | [x]=>KTy x.2
 |x::y::r=>KTy x.2×StTy (y::r)
def setSt:(l:List (Nat×Kd))->StTy l->Fr->Fr
 | [],_,fr=>fr
 | [x],s,fr=>(x.1,some (toV x.2 s))::fr
 |x::y::r,s,fr=>(x.1,some (toV x.2 s.1))::setSt (y::r) s.2 fr
def Gg:(l:List (Nat×Kd))->Fr->(StTy l->Prop)->Prop
 | [],_,K=>K ()
 | [x],fr,K=>match fget fr x.1 with
  |some v=>match fromV x.2 v with
   |some s=>K s
   |none=>False
  |none=>False
 |x::y::r,fr,K=>match fget fr x.1 with
  |some v=>match fromV x.2 v with
   |some s=>Gg (y::r) fr fun s'=>K (s,s')
   |none=>False
  |none=>False
def IU:List Nat->Fr->Fr
 | [],fr=>fr
 |t::r,fr=>(t,none)::IU r fr
def MK:List Oper->List Nat
 | []=>[]
 |o::r=>match o.dst with
  |some d=>d::MK r
  |none=>MK r
def mods:Code->List Nat
 |.region _ ops _=>MK ops.toList
 |.seq a b=>mods a++mods b
 |.cond _ a b=>mods a++mods b
 |.block _ c=>mods c
 |.loop c=>mods c
 |.scope c=>mods c
 |_=>[]
def I7:Code->Option Nat
 |.region id _ _=>some id
 |.seq a b=>match I7 a with
  |some i=>some i
  |none=>I7 b
 |.cond _ a b=>match I7 a with
  |some i=>some i
  |none=>I7 b
 |.block _ c=>I7 c
 |.loop c=>I7 c
 |.scope c=>I7 c
 |_=>none
def stOk:List (Nat×Kd)->List Nat->Bool
 | [],_=>true
 |x::r,ms=>ms.contains x.1&&stOk r ms
structure An where
 wraps:List Nat:=[]
 loops:List (Nat×List (Nat×Kd)):=[]
 joins:List (Nat×List (Nat×Kd)):=[]
 ranges:List (Nat×List (Nat×Kd)):=[]
def An.find(l:List (Nat×List (Nat×Kd)))(i:Option Nat):Option (List (Nat×Kd)):=
 match i with
 |none=>none
 |some i=>match l with
  | []=>none
  |(j,s)::r=>match Nat.beq i j with
   |true=>some s
   |false=>An.find r (some i)
def noRF:Code->Bool
 |.seq a b=>noRF a&&noRF b
 |.cond _ a b=>noRF a&&noRF b
 |.block _ c=>noRF c
 |.loop c=>noRF c
 |.scope c=>noRF c
 |.rangeFunc .. =>false
 |_=>true
def Iz:Code->List Nat
 |.seq a b=>Iz a++Iz b
 |.cond _ a b=>Iz a++Iz b
 |.block id c=>(Iz c).filter fun x=> !Nat.beq x id
 |.loop c=>Iz c
 |.scope c=>Iz c
 |.exit id=>[id]
 |_=>[]
def Lc:Code->Bool
 |.seq a b=>Lc a||Lc b
 |.cond _ a b=>Lc a||Lc b
 |.block _ c=>Lc c
 |.loop c=>Lc c
 |.scope c=>Lc c
 |.ret=>true
 |_=>false
def isIn(i:Nat):List Nat->Bool
 | []=>false
 |x::r=>Nat.beq i x||isIn i r
def FB:(l:List (Nat×Kd))->StTy l->List Value
 | [],_=>[]
 | [x],s=>[toV x.2 s]
 |x::y::r,s=>toV x.2 s.1::FB (y::r) s.2
def psOk(nt:Nat)(st:List (Nat×Kd))(ps:List Nat):Bool:=(st.map (·.1)==ps)&&nodupB ps&&ps.all (Nat.blt · nt)
def J9(f:List Nat->Prop):List (List Nat)->Prop
 | []=>True
 | [x]=>f x
 |x::y::r=>f x/\J9 f (y::r)
def V(P:Program)(an:An)(nt:Nat):Code->Fr->List Nat->World->(Exit->Fr->List Nat->World->Prop)->Prop
 |.skip,fr,ms,w,Q=>Q .normal fr ms w
 |.region id ops draw,fr,ms,w,Q=>
  match draw with
  |false=>runV (an.wraps.contains id) P nt (fun _ _=>true) ops.toList (fun fr w=>Q .normal fr ms w) (List.range ops.toList.length) fr w []
  |true=>match Tm ops with
   |true=>J9 (fun eo=>match closure (chainOf eo) ops.toList with
    |cl=>match Xf P ops.toList cl (List.range ops.toList.length) ops.toList.length 0 with
     |σ=>match ZQ P ops cl σ with
      |true=>runV (an.wraps.contains id) P nt (before cl) ops.toList (fun fr w=>Q .normal fr ms w) σ fr w.drew []
      |false=>False) (match DW P ops.toList 0 with
     |ts=>KI (closure [] ops.toList) ts.length ts)
   |false=>False
 |.seq a b,fr,ms,w,Q=>
  match An.find an.joins (I7 b)with
  |some st=>match stOk st (mods a)&&noRF a with
   |true=>Am (fun(s:StTy st) w'=>V P an nt b (setSt st s (IU (mods a) fr)) ms w' Q) (fun J=>V P an nt a fr ms w (fun e fr' ms' w'=>match e with
    |.normal=>Gg st fr' fun s=>J s w'
    |e=>Q e fr' ms' w'))
   |false=>False
  |none=>V P an nt a fr ms w (fun e fr' ms' w'=>match e with
    |.normal=>V P an nt b fr' ms' w' Q
    |e=>Q e fr' ms' w')
 |.cond c x y,fr,ms,w,Q=>
  match ev fr c with
  |some (.bool b)=>br b (V P an nt x fr ms w Q) (V P an nt y fr ms w Q)
  |_=>False
 |.block id c,fr,ms,w,Q=>V P an nt c fr ms w (fun e fr' ms' w'=>match e with
   |.exit id'=>match Nat.beq id' id with
    |true=>Q .normal fr' ms' w'
    |false=>Q (.exit id') fr' ms' w'
   |e=>Q e fr' ms' w')
 |.loop c,fr,ms,w,Q=>
  match An.find an.loops (I7 c)with
  |some st=>match stOk st (mods c)with
   |true=>match noRF c with
    |true=>Gg st fr fun s0=>AP (fun(s:StTy st) w' next=>V P an nt c (setSt st s (IU (mods c) fr)) ms w' (fun e fr' ms' w''=>match e with
     |.normal=>Gg st fr' fun s'=>next s' w''
     |e=>Q e fr' ms' w'')) s0 w
    |false=>Gg st fr fun s0=>AP (fun(s:StTy st×List Nat) w' next=>V P an nt c (setSt st s.1 (IU (mods c) fr)) s.2 w' (fun e fr' ms' w''=>match e with
     |.normal=>Gg st fr' fun s'=>next (s',ms') w''
     |e=>Q e fr' ms' w'')) (s0,ms) w
   |false=>False
  |none=>False
 |.exit id,fr,ms,w,Q=>Q (.exit id) fr ms w
 |.scope c,fr,ms,w,Q=>V P an nt c fr ms w (fun e fr' ms' w'=>match e with
   |.goto _=>False
   |e=>Q e fr' ms' w')
 |.label _,fr,ms,w,Q=>Q .normal fr ms w
 |.ret,fr,ms,w,Q=>Q .ret fr ms w
 |.rangeFunc g ps assign body,fr,ms,w,Q=>
  match An.find an.ranges (I7 body)with
  |some st=>match psOk nt st ps.toList&&(noRF assign&&noRF body)with
   |true=>match ev fr g with
    |some v=>∃(gf:FuncId)(fi ca:Array Value),v=.func (.func gf) fi ca/\GV P gf/\E5 P gf fi.toList ca.toList (FB st) (fun(s:StTy st) w' begin kn kr kx=>V P an nt assign (setSt st s fr) [] w' (fun e fr1 _ w1=>match e with
        |.normal=>begin w1 fun w2=>V P an nt body fr1 [] w2 (fun e _ _ w3=>match e with
         |.normal=>kn w3
         |.ret=>kr w3
         |.exit id=>kx id w3
         |_=>False)
        |_=>False)) w (fun D w'=>Q .normal fr (D::ms) w') (fun D w'=>match Lc body with
        |true=>Q .ret fr (D::ms) w'
        |false=>False) (fun id D w'=>match isIn id (Iz body)with
        |true=>Q (.exit id) fr (D::ms) w'
        |false=>False)
    |_=>False
   |false=>False
  |none=>False
 |_,_,_,_,_=>False
def resV(P:Program)(fr:Fr)(w:World):List ResultVar->(List Value->Prop)->Prop
 | [],K=>K []
 |.tmp t::r,K=>onV (fget fr t) fun v=>resV P fr w r fun l=>K (v::l)
 |.cell a t::r,K=>match fget fr a with
  |some (.pointer p)=>onP p fun a=>exV P t fun v=>Ld P t w a v/\resV P fr w r fun l=>K (v::l)
  |_=>False
def retV(P:Program)(fn:Func)(fr:Fr)(w:World)(R:Ending->World->Prop):Prop:=
 resV P fr w fn.results.toList fun l=>match l with
  | [v]=>R (.returned v) w
  |l=>R (.returned (.tuple l.toArray)) w
def Vt:Nat->List Value->Fr
 |_,[]=>[]
 |i,v::r=>(i,some v)::Vt (i+1) r
def Yz(P:Program)(fn:Func)(fr:Fr):List Nat->World->(Ending->World->Prop)->Prop
 | [],w,R=>retV P fn fr w R
 |D::ms,w,R=>∃w1,FZ w D w1/\Yz P fn fr ms w1 R
def HY:List Nat->World->World->Prop
 | [],w,w1=>w1=w
 |D::ms,w,w1=>∃w',FZ w D w'/\HY ms w' w1
def Nr:Code->Bool
 |.seq a b=>Nr a||Nr b
 |.cond _ a b=>Nr a||Nr b
 |.block _ c=>Nr c
 |.loop c=> !noRF c
 |.scope c=>Nr c
 |_=>false
def endV(P:Program)(fn:Func)(c:Code)(fr:Fr)(ms:List Nat)(w:World)(R:Ending->World->Prop):Prop:=
 match Nr c with
 |false=>Yz P fn fr ms w R
 |true=>∃w1,HY ms w w1/\retV P fn fr w1 R
def bn(P:Program)(an:An)(fn:Func)(args:List Value)(w:World)(R:Ending->World->Prop):Prop:=
 match fn.body with
 |none=>False
 |some c=>V P an fn.ntmps c (Vt 0 args) [] w (fun e fr' ms w'=>match e with
  |.normal=>endV P fn c fr' ms w' R
  |.ret=>endV P fn c fr' ms w' R
  |_=>False)
end
structure Ref(nt:Nat)(ds:List Deferred)(fr:Fr)(a:Act):Prop where
  size:a.tmps.size=nt
  defers:a.defers=ds
  val:∀t v,fget fr t=some v→a.tmps[t]? =some v
theorem fget_nil(t:Nat):fget [] t=none:=rfl
theorem VA(x:Nat×Option Value)(fr:Fr)(t:Nat):fget (x::fr) t=cond (Nat.beq t x.1) x.2 (fget fr t):=rfl
theorem D6(d:Nat)(v:Option Value)(fr:Fr):fget ((d,v)::fr) d=v:=by rw[VA];simp
theorem BZ(d t:Nat)(v:Option Value)(fr:Fr)(h:t≠d):fget ((d,v)::fr) t=fget fr t:=by
  rw[VA]
  have:Nat.beq t d=false:=by cases hb:Nat.beq t d with
    |false=>rfl
    |true=>exact absurd (Nat.eq_of_beq_eq_true hb) h
  simp[this]
section
variable {nt : Nat} {ds : List Deferred} {fr : Fr} {a : Act}
theorem Ref.ev(b:Ref nt ds fr a){x:Operand}{v:Value}(h:ev fr x=some v):a.eval x=v:=by
  cases x with
  |tmp t=>
    have:=b.val t v h
    simp[Act.eval,Array.getD_eq_getD_getElem?,this]
  |const c=>simpa [Vc.ev,Act.eval]using h
  |global g=>simpa [Vc.ev,Act.eval]using h
  |func f=>simpa [Vc.ev,Act.eval]using h
theorem evs_cons{x:Operand}{r:List Operand}{l:List Value}(h:evs fr (x::r)=some l):∃v l',Vc.ev fr x=some v∧evs fr r=some l'∧l=v::l':=by
  simp only[evs]at h
  split at h
  · split at h
    · cases h;exact⟨_,_,by assumption,by assumption,rfl⟩
    · cases h
  · cases h
theorem Ref.evs(b:Ref nt ds fr a):∀{xs:List Operand}{l:List Value},evs fr xs=some l→xs.map a.eval=l
  | [],l,h=>by simp[Vc.evs]at h;simp[h]
  |x::r,l,h=>by
    obtain⟨v,e,c,d,rfl⟩:=evs_cons h
    simp[b.ev c,Ref.evs b d]
theorem Ref.evsA(b:Ref nt ds fr a){xs:Array Operand}{l:List Value}(h:Vc.evs fr xs.toList=some l):xs.map a.eval=l.toArray:=by
  have:=b.evs h
  apply Array.toList_inj.1
  simpa using this
theorem Ref.parts(b:Ref nt ds fr a):∀{xs:List (Nat×Operand)}{l:List (Nat×Value)},partsOf fr xs=some l→xs.map (fun p=>(p.1,a.eval p.2))=l
  | [],l,h=>by simp[partsOf]at h;simp[h]
  |(i,x)::r,l,h=>by
    simp only[partsOf]at h
    split at h
    · split at h
      · cases h;rename_i v c _ e d
        simp[b.ev c,Ref.parts b d]
      · cases h
    · cases h
theorem Ref.put(b:Ref nt ds fr a){d:Nat}(e:d<nt)(v:Value):Ref nt ds ((d,some v)::fr) (a.put (some d) v):=by
  refine⟨by simp[Act.put,b.size],by simp[Act.put,b.defers],fun t u h=>?_⟩
  by_cases c:t=d
  · subst c
    rw[D6]at h
    cases h
    simp[Act.put,Array.getElem?_setIfInBounds,b.size,e]
  · rw[BZ _ _ _ _ c]at h
    have:=b.val t u h
    simp[Act.put,Array.getElem?_setIfInBounds,Ne.symm c,this]
theorem Ref.lose(c:Ref nt ds fr a)(d:Option Nat)(v:Value):∀b,d=some b→Ref nt ds ((b,none)::fr) (a.put d v):=by
  rintro b rfl
  refine⟨by simp[Act.put,c.size],by simp[Act.put,c.defers],fun t u h=>?_⟩
  by_cases e:t=b
  · subst e
    rw[D6]at h
    cases h
  · rw[BZ _ _ _ _ e]at h
    have:=c.val t u h
    simp[Act.put,Array.getElem?_setIfInBounds,Ne.symm e,this]
theorem Ref.fput(b:Ref nt ds fr a){d:Option Nat}{c:Option Value}{v:Value}(hv:∀u,c=some u→v=u){k:Fr→Prop}(h:fput nt fr d c k):
    ∃fr',k fr'∧Ref nt ds fr' (a.put d v):=by
  cases d with
  |none=>exact⟨fr,h,b⟩
  |some d=>
    simp only[Vc.fput]at h
    split at h
    · rename_i e
      have f:d<nt:=by simpa [Nat.blt_eq]using e
      refine⟨_,h,?_⟩
      cases c with
      |some u=>cases hv u rfl;exact b.put f v
      |none=>exact b.lose (some d) v d rfl
    · exact h.elim
end
theorem AQ{x:Option Value}{k:Value→Prop}(h:onV x k):∃v,x=some v∧k v:=by
  cases x with
  |none=>exact h.elim
  |some v=>exact⟨v,rfl,h⟩
theorem Eo{x:Option Addr}{k:Addr→Prop}(h:onP x k):∃v,x=some v∧k v:=by
  cases x with
  |none=>exact h.elim
  |some v=>exact⟨v,rfl,h⟩
theorem VC{f:TypeId→(List Value→Prop)→Prop}(b:∀t C,f t C→∃l,C l):∀{c:List TypeId}{C:List Value→Prop},exLs f c C→∃l,C l
  | [],C,h=>⟨_,h⟩
  |t::r,C,h=>by
    obtain⟨l,h⟩:=b _ _ h
    obtain⟨d,h⟩:=VC b h
    exact⟨_,h⟩
theorem YA{P:Program}:∀(n:Nat)(T:TypeId)(C:List Value→Prop),exC P n T C→∃l,C l
  |0,T,C,h=>h
  |n+1,T,C,h=>by
    simp only[exC]at h
    split at h
    · obtain⟨_,h⟩:=h;exact⟨_,h⟩
    · obtain⟨_,h⟩:=h;exact⟨_,h⟩
    · obtain⟨_,h⟩:=h;exact⟨_,h⟩
    · obtain⟨_,h⟩:=h;exact⟨_,h⟩
    · obtain⟨_,_,_,h⟩:=h;exact⟨_,h⟩
    · obtain⟨_,h⟩:=h;exact⟨_,h⟩
    · exact VC (YA n) h
    · exact h
    · obtain⟨_,h⟩:=h;exact⟨_,h⟩
theorem SS{P:Program}{T:TypeId}{C:Value→Prop}(h:exV P T C):∃v,C v:=by
  simp only[exV]at h
  split at h
  · obtain⟨_,h⟩:=YA _ _ _ h;exact⟨_,h⟩
  · obtain⟨_,h⟩:=h;exact⟨_,h⟩
  · obtain⟨_,h⟩:=h;exact⟨_,h⟩
  · obtain⟨_,h⟩:=h;exact⟨_,h⟩
  · obtain⟨_,h⟩:=h;exact⟨_,h⟩
  · obtain⟨_,h⟩:=h;exact⟨_,h⟩
  · obtain⟨_,_,_,h⟩:=h;exact⟨_,h⟩
  · obtain⟨_,h⟩:=h;exact⟨_,h⟩
  · obtain⟨_,h⟩:=h;exact⟨_,h⟩
theorem V7{P:Program}:∀{b:List TypeId}{C:List Value→Prop},exVs P b C→∃l,C l
  | [],C,h=>⟨_,h⟩
  |t::r,C,h=>by
    obtain⟨v,h⟩:=SS h
    obtain⟨l,h⟩:=V7 h
    exact⟨_,h⟩
theorem JD{P:Program}{T:TypeId}{C:Value→Prop}(h:exT P T C):∃v,C v:=by
  simp only[exT]at h
  split at h
  · obtain⟨_,h⟩:=V7 h;exact⟨_,h⟩
  · exact SS h
theorem VV{f:TypeId→(List Value→Prop)→Prop}(c:∀t (C b:List Value→Prop),(∀l,C l→b l)→f t C→f t b):∀{d:List TypeId}{C b:List Value→Prop},(∀l,C l→b l)→exLs f d C→exLs f d b
  | [],C,b,hc,h=>hc _ h
  |t::r,C,b,hc,h=>c _ _ _ (fun l h=>VV c (fun e h=>hc _ h) h) h
theorem Yg{P:Program}:∀(n:Nat)(T:TypeId)(C c:List Value→Prop),(∀l,C l→c l)→exC P n T C→exC P n T c
  |0,T,C,c,b,⟨l,h⟩=>⟨l,b _ h⟩
  |n+1,T,C,c,b,h=>by
    simp only[exC]at h⊢
    cases hu:P.underlying T with
    |none=>rw[hu]at h;obtain⟨x,h⟩:=h;exact⟨x,b _ h⟩
    |some d=>
      rw[hu]at h
      cases d<;>first
        |(obtain⟨x,y,z,h⟩:=h;exact⟨x,y,z,b _ h⟩)
        |(obtain⟨x,h⟩:=h;exact⟨x,b _ h⟩)
        |exact VV (fun t C c b h=>Yg n t C c b h) b h
theorem TS{P:Program}{T:TypeId}{C b:Value→Prop}(hc:∀v,C v→b v)(h:exV P T C):exV P T b:=by
  simp only[exV]at h⊢
  cases hu:P.underlying T with
  |none=>rw[hu]at h;obtain⟨x,h⟩:=h;exact⟨x,hc _ h⟩
  |some d=>
    rw[hu]at h
    cases d<;>first
      |(obtain⟨x,y,z,h⟩:=h;exact⟨x,y,z,hc _ h⟩)
      |(obtain⟨x,h⟩:=h;exact⟨x,hc _ h⟩)
      |exact Yg _ _ _ _ (fun l h=>hc _ h) h
theorem U0{P:Program}:∀{c:List TypeId}{C b:List Value→Prop},(∀l,C l→b l)→exVs P c C→exVs P c b
  | [],C,b,hc,h=>hc _ h
  |t::r,C,b,hc,h=>TS (fun v h=>U0 (fun l h=>hc _ h) h) h
theorem SG{P:Program}{T:TypeId}{C b:Value→Prop}(hc:∀v,C v→b v)(h:exT P T C):exT P T b:=by
  simp only[exT]at h⊢
  cases hu:P.underlying T with
  |none=>rw[hu]at h;exact TS hc h
  |some d=>
    rw[hu]at h
    cases d<;>first
      |exact TS hc h
      |exact U0 (fun l h=>hc _ h) h
theorem YS{f:TypeId→(List Value→Prop)→Prop}(c:∀t (C:List Value→Prop),f t C→∃l,C l∧∀b:List Value→Prop,b l→f t b):∀{d:List TypeId}{C:List Value→Prop},exLs f d C→∃l,C l∧∀b:List Value→Prop,b l→exLs f d b
  | [],C,h=>⟨_,h,fun _ h=>h⟩
  |t::r,C,h=>by
    obtain⟨l,h,e⟩:=c _ _ h
    obtain⟨j,h,g⟩:=YS c h
    exact⟨_,h,fun b i=>e _ (g _ i)⟩
theorem aI{P:Program}:∀(n:Nat)(T:TypeId)(C:List Value→Prop),exC P n T C→∃l,C l∧∀b:List Value→Prop,b l→exC P n T b
  |0,T,C,⟨l,h⟩=>⟨l,h,fun b h=>⟨l,h⟩⟩
  |n+1,T,C,h=>by
    simp only[exC]at h⊢
    cases hu:P.underlying T with
    |none=>rw[hu]at h;obtain⟨x,h⟩:=h;exact⟨_,h,fun b h=>⟨x,h⟩⟩
    |some d=>
      rw[hu]at h
      cases d<;>first
        |(obtain⟨x,y,z,h⟩:=h;exact⟨_,h,fun b h=>⟨x,y,z,h⟩⟩)
        |(obtain⟨x,h⟩:=h;exact⟨_,h,fun b h=>⟨x,h⟩⟩)
        |exact YS (fun t C h=>aI n t C h) h
theorem RJ{P:Program}{T:TypeId}{C:Value→Prop}(h:exV P T C):∃v,C v∧∀b:Value→Prop,b v→exV P T b:=by
  simp only[exV]at h⊢
  cases hu:P.underlying T with
  |none=>rw[hu]at h;obtain⟨x,h⟩:=h;exact⟨_,h,fun b h=>⟨x,h⟩⟩
  |some d=>
    rw[hu]at h
    cases d<;>first
      |(obtain⟨x,y,z,h⟩:=h;exact⟨_,h,fun b h=>⟨x,y,z,h⟩⟩)
      |(obtain⟨x,h⟩:=h;exact⟨_,h,fun b h=>⟨x,h⟩⟩)
      |(obtain⟨l,h,c⟩:=aI _ _ _ h;exact⟨_,h,fun b h=>c _ h⟩)
theorem ZC{P:Program}:∀{c:List TypeId}{C:List Value→Prop},exVs P c C→∃l,C l∧∀b:List Value→Prop,b l→exVs P c b
  | [],C,h=>⟨_,h,fun _ h=>h⟩
  |t::r,C,h=>by
    obtain⟨v,h,d⟩:=RJ h
    obtain⟨l,h,e⟩:=ZC h
    exact⟨_,h,fun b f=>d _ (e _ f)⟩
theorem exT_one{P:Program}{T:TypeId}{C:Value→Prop}(h:exT P T C):∃v,C v∧∀b:Value→Prop,b v→exT P T b:=by
  simp only[exT]at h⊢
  cases hu:P.underlying T with
  |none=>rw[hu]at h;exact RJ h
  |some d=>
    rw[hu]at h
    cases d<;>first
      |exact RJ h
      |(obtain⟨l,h,c⟩:=ZC h;exact⟨_,h,fun b h=>c _ h⟩)
theorem Ox{P:Program}{T:Option TypeId}{C:Value→Prop}(h:exO P T C):∃v,C v:=by
  cases T with
  |none=>exact h
  |some t=>exact JD h
theorem YD{P:Program}{T:Option TypeId}{C b:Value→Prop}(hc:∀v,C v→b v)(h:exO P T C):exO P T b:=by
  cases T with
  |none=>obtain⟨v,h⟩:=h;exact⟨v,hc v h⟩
  |some t=>exact SG hc h
theorem LM{k:IntKind}{z:Int}(h:inR k z):k.wrap z=z:=by
  cases k<;>simp[inR,IntKind.min,IntKind.max,IntKind.signed,IntKind.bits]at h
  · exact IntWalk.i8_in _ (by omega)
  · exact IntWalk.i16_in _ (by omega)
  · exact IntWalk.i32_in _ (by omega)
  · exact IntWalk.i64_in _ (by omega)
  · exact IntWalk.u8_in _ (by omega)
  · exact IntWalk.u16_in _ (by omega)
  · exact IntWalk.u32_in _ (by omega)
  · exact IntWalk.u64_in _ (by omega)
theorem JC{wr:Bool}{k:IntKind}{z:Int}{K:Value→Prop}(h:arith wr k z K):K (.int k (k.wrap z))∧∀b:Value→Prop,b (.int k (k.wrap z))→arith wr k z b:=by
  cases wr with
  |true=>exact⟨h,fun b h=>h⟩
  |false=>obtain⟨c,d⟩:=h;rw[LM c];exact⟨d,fun b h=>⟨c,h⟩⟩
theorem toList_eq(a b:ByteArray):(a.toList==b.toList)=decide (a=b):=by
  rw[ByteArray.toList_eq,ByteArray.toList_eq,Bool.eq_iff_iff]
  simp only[beq_iff_eq,decide_eq_true_eq]
  constructor
  · intro h
    cases a;cases b
    simp only[ByteArray.mk.injEq]
    exact Array.toList_inj.1 h
  · rintro rfl;rfl
theorem Dp(x:Value)(r:List Value):∀(n:Nat)(cs:List Value),n<cs.length→over (x::r) n cs=over r (n+1) (cs.set n x):=by
  intro n cs h
  induction cs generalizing n with
  |nil=>simp at h
  |cons c cs b=>
    cases n with
    |zero=>
      simp only[over,List.set_cons_zero]
      cases r<;>simp[over]
    |succ n=>
      simp only[over,List.set_cons_succ]
      rw[b n (by simpa using h)]
      cases r with
      |nil=>simp[over]
      |cons y r=>simp[over]
theorem CX:∀(n:Nat)(cs:List Value),over [] n cs=cs
  |0,_=>by simp[over]
  |n+1,_=>by simp[over]
theorem Cc(l:List Value):∀(n:Nat)(cs:List Value),n+l.length≤cs.length→(over l n cs).length=cs.length:=by
  induction l with
  |nil=>intro n cs _;rw[CX]
  |cons x r b=>
    intro n cs h
    simp at h
    rw[Dp x r n cs (by omega),b _ _ (by simp;omega)]
    simp
theorem UR(b:Nat):∀(l:List Value)(j:Nat)(cells:Array Value),b+j+l.length≤cells.size→
    ((l.zipIdx j).foldl (fun cs (p:Value×Nat)=>cs.setIfInBounds (b+p.2) p.1) cells).toList=over l (b+j) cells.toList
  | [],j,cells,h=>by simp[CX]
  |x::r,j,cells,h=>by
    simp only[length_cons]at h
    simp only[List.zipIdx_cons,foldl_cons]
    rw[UR b r (j+1) _ (by simp;omega),Dp x r _ _ (by simp;omega)]
    simp only[Array.toList_setIfInBounds]
    congr 1
theorem Jv(b:Nat→Option (Nat×Nat)):∀(f:List (Nat×Value))(cs l:List Value),Ry b f cs=some l→Instr.fill b cs.toArray f=some l.toArray
  | [],cs,l,h=>by simp[Ry]at h;simp[Instr.fill,h]
  |(i,v)::r,cs,l,h=>by
    simp only[Ry]at h
    simp only[Instr.fill]
    cases hp:b i with
    |none=>simp[hp]at h
    |some p=>
      obtain⟨c,size⟩:=p
      simp only[hp]at h⊢
      split at h
      · cases h
      · rename_i g
        have d:(decide (v.cells.size≠size)||decide (c+v.cells.size>cs.toArray.size))=false:=by simpa using g
        simp only[Bool.or_eq_false_iff,decide_eq_false_iff_not]at d
        rw[if_neg (by simpa using g)]
        have e:=UR c v.cells.toList 0 cs.toArray (by have:=d.2;simp at this⊢;omega)
        have j:(v.cells.zipIdx.foldl (fun cs (p:Value×Nat)=>cs.setIfInBounds (c+p.2) p.1) cs.toArray)=(over v.cells.toList c cs).toArray:=by
          apply Array.toList_inj.1
          rw[← Array.foldl_toList,Array.toList_zipIdx]
          simpa using e
        have:=Jv b r _ l h
        rw[← j]at this
        exact this
theorem VF{P:Program}{w:World}:∀{c:List Field}{b:List (Nat×Nat)},Oc P c=some b→
    (c.mapM (m:=Sem) fun f=>do pure (f.offset,← sizeOf f.type)).run P w=.ok b w
  | [],b,h=>by simp[Oc]at h;subst h;rfl
  |f::r,b,h=>by
    simp only[Oc]at h
    split at h
    · rename_i i d
      split at h
      · rename_i l e
        cases h
        have:=VF (w:=w) e
        have g:(sizeOf f.type).run P w=.ok i.size w:=by simp[sizeOf,typeInfo,d]
        simp only[mapM_cons,Sem.run_bind,Sem.run_map,g,this,Result.andThen_ok,Sem.run_pure]
      · cases h
    · cases h
theorem EY:∀{l:List Value}{k:List Value→Prop},force l k↔k l
  | [],k=>Iff.rfl
  |x::r,k=>EY (l:=r) (k:=fun b=>k (x::b))
theorem EO{b:Bool}{l:List Value}{k:List Value→Prop}:XG b l k↔k l:=by
  cases b
  · exact EY
  · exact Iff.rfl
theorem zl_of{P:Program}{t:TypeId}{z:Value}(h:zeroOf P t=some z):zl P t=z.cells.toList:=by simp[zl,h]
theorem aW{P:Program}{t:TypeId}{b:List (Nat×Value)}{cs:List Value}(h:SL P t b=some cs):bigL P t b=cs:=by simp[bigL,h]
theorem Gf{P:Program}{t:TypeId}{z:Value}(h:zeroOf P t=some z)(w:World):(zeroValue t).run P w=.ok z w:=by
  simp only[zeroOf]at h
  split at h
  · rename_i i b
    simp[zeroValue,typeInfo,b,h]
  · cases h
theorem Bl{P:Program}{t:TypeId}{n:Nat}(h:Dt P t=some n)(w:World):(sizeOf t).run P w=.ok n w:=by
  simp only[Dt]at h
  split at h
  · rename_i i b
    cases h
    simp[sizeOf,typeInfo,b]
  · cases h
theorem Ad{P:Program}{t:TypeId}{d:TypeDesc}(h:P.underlying t=some d)(w:World):(underlying t).run P w=.ok d w:=by
  simp[underlying,h]
theorem build_sound{P:Program}{t:TypeId}{g:List (Nat×Value)}{l:List Value}(h:SL P t g=some l)(w:World):
    (Instr.build t g.toArray).run P w=.ok (.agg l.toArray) w:=by
  simp only[SL]at h
  split at h
  · cases h
  · rename_i z j
    split at h
    · rename_i o b
      split at h
      · rename_i k c
        have e:=Jv _ _ _ _ h
        have d:(z.cells.toList).toArray=z.cells:=by simp
        rw[d]at e
        have m:(fun i:Nat=>k[i]?)=(fun i:Nat=>(k.toArray)[i]?):=by funext i;simp
        rw[m]at e
        simp only[Instr.build,Sem.run_bind,Gf j,Ad b,Result.andThen_ok,Sem.run_pure]
        rw[Array.mapM_eq_mapM_toList]
        simp only[Sem.run_map,VF c,Result.andThen_ok]
        rw[e]
        simp
      · cases h
    · rename_i n e b
      split at h
      · rename_i p f
        have e:=Jv _ _ _ _ h
        have d:(z.cells.toList).toArray=z.cells:=by simp
        rw[d]at e
        simp[Instr.build,Gf j,Ad b,Bl f,e]
      · cases h
    · cases h
theorem Xe{fr:Fr}{nt:Nat}{ds:List Deferred}{x:Option Operand}{k:Option Int→Prop}(h:opI fr x k):
    ∃i,k i∧(∀b:Option Int→Prop,b i→opI fr x b)∧∀(a:Act),Ref nt ds fr a→(x=none∧i=none∧x.map a.eval=none)∨(∃j c,i=some j∧x.map a.eval=some (.int c j)):=by
  cases x with
  |none=>exact⟨none,h,fun _ h=>h,fun a d=>.inl ⟨rfl,rfl,rfl⟩⟩
  |some o=>
    simp only[opI]at h
    cases he:ev fr o with
    |none=>simp[he]at h
    |some v=>
      cases v<;>simp only[he]at h<;>try exact h.elim
      rename_i c i
      exact⟨some i,h,fun b e=>by simp only[opI,he];exact e,fun a d=>.inr ⟨i,c,rfl,by simp[d.ev he]⟩⟩
theorem Cf{P:Program}{w:World}{b:IntKind}{i:Int}{y:Nat}{c:BoundsCode}(h:0≤i∧i≤y):(Instr.sliceBound (.int b i) y c).run P w=.ok i.toNat w:=by
  simp[Instr.sliceBound,asIntOf,h]
theorem Tf(a:Option Addr)(m size:Nat):(if m=0 then a else a.map (·.add (0*size)))=a:=by
  split
  · rfl
  · cases a<;>simp[Addr.add]
def IsI(v:Option Value)(i:Option Int):Prop:=(i=none∧v=none)∨∃j kd,i=some j∧v=some (.int kd j)
theorem DU{v:Option Value}(h:IsI v none):v=none:=by
  rcases h with⟨-,h⟩|⟨_,_,h,-⟩
  · exact h
  · cases h
theorem Dn{v:Option Value}{j:Int}(h:IsI v (some j)):∃b,v=some (.int b j):=by
  rcases h with⟨h,-⟩|⟨_,b,h,c⟩
  · cases h
  · cases h;exact⟨b,c⟩
theorem aV{P:Program}{a:Option Addr}{n c size:Nat}{lo s t:Option Int}{K:Value→Prop}(h:slcV a n c size lo s t K):
    ∃v,K v∧(∀u:Value→Prop,u v→slcV a n c size lo s t u)∧∀(b:Bool)(o p q:Option Value),IsI o lo→IsI p s→IsI q t→∀w,∃l h m,
      (Instr.sliceBounds b n c o p q).run P w=.ok (l,h,m) w∧v=.slice (if m=l then a else a.map (·.add (l*size))) (h-l) (m-l):=by
  simp only[slcV]at h⊢
  cases t with
  |none=>
    cases s with
    |none=>
      cases lo with
      |none=>
        refine⟨_,h,fun _ h=>h,fun b o p q e f g w=>⟨0,n,c,?_,?_⟩⟩
        · obtain rfl:=DU e
          obtain rfl:=DU f
          obtain rfl:=DU g
          simp[Instr.sliceBounds]
        · rw[Tf];simp
      |some l=>
        obtain⟨⟨d,j⟩,h⟩:=h
        refine⟨_,h,fun _ h=>⟨⟨d,j⟩,h⟩,fun b o p q e f g w=>⟨l.toNat,n,c,?_,rfl⟩⟩
        obtain⟨_,rfl⟩:=Dn e
        obtain rfl:=DU f
        obtain rfl:=DU g
        simp[Instr.sliceBounds,Cf (y:=n) ⟨d,j⟩]
    |some k=>
      cases lo with
      |none=>
        obtain⟨⟨d,j⟩,h⟩:=h
        refine⟨_,h,fun _ h=>⟨⟨d,j⟩,h⟩,fun b o p q e f g w=>⟨0,k.toNat,c,?_,by rw[Tf];simp⟩⟩
        obtain rfl:=DU e
        obtain⟨_,rfl⟩:=Dn f
        obtain rfl:=DU g
        simp[Instr.sliceBounds,Cf (y:=c) ⟨d,j⟩]
      |some l=>
        obtain⟨⟨d,j,r⟩,h⟩:=h
        refine⟨_,h,fun _ h=>⟨⟨d,j,r⟩,h⟩,fun b o p q e f g w=>⟨l.toNat,k.toNat,c,?_,rfl⟩⟩
        obtain⟨_,rfl⟩:=Dn e
        obtain⟨_,rfl⟩:=Dn f
        obtain rfl:=DU g
        simp[Instr.sliceBounds,Cf (y:=c) (i:=k) ⟨by omega,r⟩,Cf (y:=k.toNat) (i:=l) ⟨d,by omega⟩]
  |some m=>
    cases s with
    |none=>cases lo<;>exact h.elim
    |some k=>
      cases lo with
      |none=>
        obtain⟨⟨d,j,r⟩,h⟩:=h
        refine⟨_,h,fun _ h=>⟨⟨d,j,r⟩,h⟩,fun b o p q e f g w=>⟨0,k.toNat,m.toNat,?_,by rw[Tf];simp⟩⟩
        obtain rfl:=DU e
        obtain⟨_,rfl⟩:=Dn f
        obtain⟨_,rfl⟩:=Dn g
        simp[Instr.sliceBounds,Cf (y:=c) (i:=m) ⟨by omega,r⟩,Cf (y:=m.toNat) (i:=k) ⟨d,by omega⟩]
      |some l=>
        obtain⟨⟨d,j,r,x⟩,h⟩:=h
        refine⟨_,h,fun _ h=>⟨⟨d,j,r,x⟩,h⟩,fun b o p q e f g w=>⟨l.toNat,k.toNat,m.toNat,?_,rfl⟩⟩
        obtain⟨_,rfl⟩:=Dn e
        obtain⟨_,rfl⟩:=Dn f
        obtain⟨_,rfl⟩:=Dn g
        simp[Instr.sliceBounds,Cf (y:=c) (i:=m) ⟨by omega,x⟩,Cf (y:=m.toNat) (i:=k) ⟨by omega,by omega⟩,Cf (y:=k.toNat) (i:=l) ⟨d,by omega⟩]
theorem slice_one{P:Program}{nt:Nat}{ds:List Deferred}{fr:Fr}{t:TypeId}{x:Value}{lo J F:Option Operand}{K:Value→Prop}(h:LK P fr t x lo J F K):
    ∃v,K v∧(∀o:Value→Prop,o v→LK P fr t x lo J F o)∧∀a,Ref nt ds fr a→∀w,(Instr.sliceAt t x (lo.map a.eval) (J.map a.eval) (F.map a.eval)).run P w=.ok v w:=by
  simp only[LK]at h⊢
  obtain⟨l,X,Y,Z⟩:=Xe (nt:=nt) (ds:=ds) h
  clear h
  obtain⟨r,q,e2,f2⟩:=Xe (nt:=nt) (ds:=ds) X
  clear X
  obtain⟨m,h,e3,f3⟩:=Xe (nt:=nt) (ds:=ds) q
  clear q
  have G:∀a,Ref nt ds fr a→IsI (lo.map a.eval) l:=fun a b=>by
    rcases Z a b with⟨h,g,f⟩|h
    · exact .inl ⟨g,f⟩
    · exact .inr h
  have H:∀a,Ref nt ds fr a→IsI (J.map a.eval) r:=fun a b=>by
    rcases f2 a b with⟨h,g,f⟩|h
    · exact .inl ⟨g,f⟩
    · exact .inr h
  have N:∀a,Ref nt ds fr a→IsI (F.map a.eval) m:=fun a b=>by
    rcases f3 a b with⟨h,g,f⟩|h
    · exact .inl ⟨g,f⟩
    · exact .inr h
  have d:∀{v:Value},(∀o:Value→Prop,o v→slxV P t x l r m o)→∀o:Value→Prop,o v→LK P fr t x lo J F o:=fun q o L=>Y _ (e2 _ (e3 _ (q o L)))
  clear Y e2 e3 Z f2 f3
  simp only[slxV]at h d
  split at h
  · rename_i s j
    have u:∀(B C:Nat)(O R T:Option Value) w,T=none→(Instr.sliceBounds false s.size s.size O R none).run P w=.ok (B,C,s.size) w→(Instr.sliceAt t (.string s) O R T).run P w=.ok (.string (s.extract B C)) w:=by
      rintro B C O R T w rfl q
      simp[Instr.sliceAt,Ad j,Instr.slice,q]
    cases m with
    |some m=>cases r<;>cases l<;>exact h.elim
    |none=>
      have z:∀a,Ref nt ds fr a→F.map a.eval=none:=fun a b=>DU (N a b)
      cases r with
      |none=>
        cases l with
        |none=>
          refine⟨_,h,d (fun _ h=>by simp only[j];exact h),fun a b w=>u 0 s.size _ _ _ w (z a b) ?_⟩
          rw[DU (G a b)]
          rw[DU (H a b)]
          simp[Instr.sliceBounds]
        |some l=>
          obtain⟨⟨A,D⟩,h⟩:=h
          refine⟨_,h,d (fun _ h=>by simp only[j];exact⟨⟨A,D⟩,h⟩),fun a b w=>u l.toNat s.size _ _ _ w (z a b) ?_⟩
          obtain⟨kd,g⟩:=Dn (G a b)
          rw[DU (H a b)]
          rw[g]
          simp[Instr.sliceBounds,Cf (y:=s.size) ⟨A,D⟩]
      |some r=>
        cases l with
        |none=>
          obtain⟨⟨A,D⟩,h⟩:=h
          refine⟨_,h,d (fun _ h=>by simp only[j];exact⟨⟨A,D⟩,h⟩),fun a b w=>u 0 r.toNat _ _ _ w (z a b) ?_⟩
          rw[DU (G a b)]
          obtain⟨kd,g⟩:=Dn (H a b)
          rw[g]
          simp[Instr.sliceBounds,Cf (y:=s.size) ⟨A,D⟩]
        |some l=>
          obtain⟨⟨A,D,l2⟩,h⟩:=h
          refine⟨_,h,d (fun _ h=>by simp only[j];exact⟨⟨A,D,l2⟩,h⟩),fun a b w=>u l.toNat r.toNat _ _ _ w (z a b) ?_⟩
          obtain⟨kd,g⟩:=Dn (G a b)
          obtain⟨aa,f⟩:=Dn (H a b)
          rw[g,f]
          simp[Instr.sliceBounds,Cf (y:=s.size) (i:=r) ⟨by omega,l2⟩,Cf (y:=r.toNat) (i:=l) ⟨A,by omega⟩]
  · rename_i e ad n c j
    split at h
    · rename_i size M
      obtain⟨v,U,L,k⟩:=aV (P:=P) h
      refine⟨v,U,d (fun _ h=>by simp only[j,M];exact L _ h),fun a b w=>?_⟩
      obtain⟨l',g,m',q,rfl⟩:=k true _ _ _ (G a b) (H a b) (N a b) w
      simp[Instr.sliceAt,Ad j,Instr.slice,q,Bl M]
    · exact h.elim
  · rename_i n e p j
    split at h
    · rename_i size M
      obtain⟨ad,rfl,h⟩:=Eo h
      obtain⟨v,U,L,k⟩:=aV (P:=P) h
      refine⟨v,U,d (fun _ h=>by simp only[j,M];exact L _ h),fun a b w=>?_⟩
      obtain⟨l',g,m',q,rfl⟩:=k false _ _ _ (G a b) (H a b) (N a b) w
      simp[Instr.sliceAt,Ad j,Instr.sureAddr,q,Bl M]
      split<;>rfl
    · exact h.elim
  · exact h.elim
theorem eqGuard_int{P:Program}{c:BinOp}{t:TypeId}{x y:Operand}{k d:IntKind}{a b:Int}(w:World):(eqGuard c t x y (.int k a) (.int d b)).run P w=.ok () w:=by
  unfold eqGuard;split<;>rfl
theorem eqGuard_str{P:Program}{c:BinOp}{t:TypeId}{x y:Operand}{a b:ByteArray}(w:World):(eqGuard c t x y (.string a) (.string b)).run P w=.ok () w:=by
  unfold eqGuard;split<;>rfl
theorem eqGuard_bool{P:Program}{c:BinOp}{t:TypeId}{x y:Operand}{a b:Bool}(w:World):(eqGuard c t x y (.bool a) (.bool b)).run P w=.ok () w:=by
  unfold eqGuard;split<;>rfl
theorem equalIn_bool{P:Program}{t:TypeId}{a b:Bool}(h:P.underlying t=some .bool)(d:Nat)(w:World):(Op.equalIn (d+1) t (.bool a) (.bool b)).run P w=.ok (a==b) w:=by
  simp[Op.equalIn,Ad h]
theorem equal_bool{P:Program}{t:TypeId}{a b:Bool}(h:P.underlying t=some .bool)(w:World):(Op.equal t (.bool a) (.bool b)).run P w=.ok (a==b) w:=
  equalIn_bool h 9999 w
theorem data_eq(a b:ByteArray):(a.data.toList==b.data.toList)=decide (a=b):=by
  have:=toList_eq a b
  rwa [ByteArray.toList_eq,ByteArray.toList_eq]at this
theorem beq_dec(a b:Int):(a==b)=decide (a=b):=rfl
theorem bne_dec(a b:Int):(a !=b)= !decide (a=b):=rfl
theorem bin_one {wr : Bool} {P : Program} {op : BinOp} {t : TypeId} {a b : Value} {K : Value → Prop} (h : binV wr P op t a b K) :
    ∃ v,K v ∧ (∀ K' : Value → Prop,K' v → binV wr P op t a b K') ∧ ∀ (x y : Operand) (w : World),(do eqGuard op t x y a b; binOp op t a b : Sem Value).run P w = .ok v w := by
  cases a with
  | int k a =>
    cases b with
    | int k' b =>
      have e : ∀ {v : Value} (x y : Operand) (w : World),(binOp op t (.int k a) (.int k' b)).run P w = .ok v w → (do eqGuard op t x y (.int k a) (.int k' b); binOp op t (.int k a) (.int k' b) : Sem Value).run P w = .ok v w := by
        intro v x y w hb
        simp only [Sem.run_bind,eqGuard_int,Result.andThen_ok,hb]
      by_cases hk : k = k'
      · subst hk
        cases op with
        | shl =>
          simp only [binV] at h
          obtain ⟨h0,h⟩ := h
          obtain ⟨h,hb⟩ := JC h
          refine ⟨_,h,fun K' hK => ⟨h0,hb _ hK⟩,fun x y w => e x y w ?_⟩
          simp [binOp,Op.shift,show ¬ b < 0 from by omega]
        | shr =>
          simp only [binV] at h
          obtain ⟨h0,h⟩ := h
          refine ⟨_,h,fun K' hK => ⟨h0,hK⟩,fun x y w => e x y w ?_⟩
          simp [binOp,Op.shift,show ¬ b < 0 from by omega]
        | add | sub | mul =>
          simp only [binV,if_true] at h
          obtain ⟨h,hb⟩ := JC h
          refine ⟨_,h,fun K' hK => by simp only [binV,if_true]; exact hb _ hK,fun x y w => e x y w ?_⟩
          simp [binOp,Op.intArith]
        | quo =>
          simp only [binV,if_true] at h
          obtain ⟨h0,h⟩ := h
          obtain ⟨h,hb⟩ := JC h
          refine ⟨_,h,fun K' hK => by simp only [binV,if_true]; exact ⟨h0,hb _ hK⟩,fun x y w => e x y w ?_⟩
          simp [binOp,Op.intDiv,h0]
        | rem =>
          simp only [binV,if_true] at h
          obtain ⟨h0,h⟩ := h
          refine ⟨_,h,fun K' hK => by simp only [binV,if_true]; exact ⟨h0,hK⟩,fun x y w => e x y w ?_⟩
          simp [binOp,Op.intDiv,h0]
        | and | or | xor | andNot =>
          simp only [binV,if_true] at h
          refine ⟨_,h,fun K' hK => by simp only [binV,if_true]; exact hK,fun x y w => e x y w ?_⟩
          simp [binOp,Op.intBits,bits]
        | eql | neq | lss | leq | gtr | geq =>
          simp only [binV,if_true] at h
          refine ⟨_,h,fun K' hK => by simp only [binV,if_true]; exact hK,fun x y w => e x y w ?_⟩
          simp [binOp,Op.intCmp,bne_dec,beq_dec]
      · cases op with
        | shl =>
          simp only [binV] at h
          obtain ⟨h0,h⟩ := h
          obtain ⟨h,hb⟩ := JC h
          refine ⟨_,h,fun K' hK => ⟨h0,hb _ hK⟩,fun x y w => e x y w ?_⟩
          simp [binOp,Op.shift,show ¬ b < 0 from by omega]
        | shr =>
          simp only [binV] at h
          obtain ⟨h0,h⟩ := h
          refine ⟨_,h,fun K' hK => ⟨h0,hK⟩,fun x y w => e x y w ?_⟩
          simp [binOp,Op.shift,show ¬ b < 0 from by omega]
        | _ => simp [binV,hk] at h
    | _ => cases op <;> exact h.elim
  | string a =>
    cases b with
    | string b =>
      have e : ∀ {v : Value} (x y : Operand) (w : World),(binOp op t (.string a) (.string b)).run P w = .ok v w → (do eqGuard op t x y (.string a) (.string b); binOp op t (.string a) (.string b) : Sem Value).run P w = .ok v w := by
        intro v x y w hb
        simp only [Sem.run_bind,eqGuard_str,Result.andThen_ok,hb]
      cases op <;> simp only [binV] at h <;> first
        | exact h.elim
        | (obtain ⟨h0,h⟩ := h
           refine ⟨_,h,fun K' hK => by simp only [binV]; exact ⟨h0,hK⟩,fun x y w => e x y w ?_⟩
           have hm : IntKind.i64.max = 9223372036854775807 := by decide
           simp only [binOp,Op.stringOp,hm]
           rw [if_neg (by omega)]
           rfl)
        | (refine ⟨_,h,fun K' hK => by simp only [binV]; exact hK,fun x y w => e x y w ?_⟩
           simp only [binOp,Op.stringOp,ByteArray.toList_eq,data_eq,Sem.run_pure])
    | _ => cases op <;> exact h.elim
  | bool a =>
    cases b with
    | bool b =>
      cases op <;> simp only [binV] at h <;> first
        | exact h.elim
        | (split at h
           · rename_i hu
             refine ⟨_,h,fun K' hK => by simp only [binV,hu]; exact hK,fun x y w => ?_⟩
             simp only [Sem.run_bind,eqGuard_bool,Result.andThen_ok,binOp,equal_bool hu,Sem.run_pure]
           · exact h.elim)
    | _ => cases op <;> exact h.elim
  | _ => cases op <;> exact h.elim
theorem un_one{wr:Bool}{P:Program}{d:UnOp}{a:Value}{K:Value→Prop}(h:unV wr d a K):
    ∃v,K v∧(∀b:Value→Prop,b v→unV wr d a b)∧∀(w:World),(Op.unary d a).run P w=.ok v w:=by
  cases d<;>cases a<;>simp only[unV]at h<;>try exact h.elim
  · obtain⟨h,e⟩:=JC h
    exact⟨_,h,fun b c=>e _ c,fun w=>rfl⟩
  · exact⟨_,h,fun b c=>c,fun w=>rfl⟩
  · exact⟨_,h,fun b c=>c,fun w=>rfl⟩
theorem part_one{P:Program}{t:TypeId}{cs:List Value}{b:Nat}{K:Value→Prop}(h:Zl P t cs b K):
    ∃v,K v∧(∀f:Value→Prop,f v→Zl P t cs b f)∧∀(w:World),(part t cs.toArray b).run P w=.ok v w:=by
  have g:∀(n:Nat)(w:World),Dt P t=some n→(isAgg t).run P w=.ok true w→(part t cs.toArray b).run P w=.ok (.agg ((cs.drop b).take n).toArray) w:=by
    intro n w c k
    simp only[part,Sem.run_bind,k,Result.andThen_ok,if_true,Bl c,Sem.run_pure]
    congr 2
    apply Array.toList_inj.1
    simp[Array.toList_extract,List.drop_take]
  simp only[Zl]at h⊢
  split at h
  · rename_i m i
    split at h
    · rename_i n c
      rw[EY]at h
      exact⟨_,h,fun f j=>by simp only[c,EY];exact j,fun w=>g n w c (by simp[isAgg,Ad i])⟩
    · exact h.elim
  · rename_i n e i
    split at h
    · rename_i n c
      rw[EY]at h
      exact⟨_,h,fun f j=>by simp only[c,EY];exact j,fun w=>g n w c (by simp[isAgg,Ad i])⟩
    · exact h.elim
  · rename_i d o p i
    split at h
    · rename_i v l
      refine⟨v,h,fun f j=>j,fun w=>?_⟩
      have k:(isAgg t).run P w=.ok false w:=by
        simp only[isAgg,Sem.run_bind,Ad i,Result.andThen_ok]
        cases d<;>simp_all
      simp only[part,Sem.run_bind,k,Result.andThen_ok,Bool.false_eq_true,if_false]
      have:cs.toArray[b]? =some v:=by simpa using l
      simp[this]
    · exact h.elim
  · exact h.elim
theorem BU{P:Program}{s:Sem Value}{v:Value}{w w1:World}(h:s.run P w=.ok v w1):(do pure (Next.value (← s)):Sem Next).run P w=.ok (.value v) w1:=by
  simp only[Sem.run_map,Sem.run_bind,h,Result.andThen_ok,Sem.run_pure]
theorem run_unit{P:Program}{s:Sem Unit}{w w1:World}(h:s.run P w=.ok () w1):(do s;pure Next.skip:Sem Next).run P w=.ok .skip w1:=by
  simp only[Sem.run_bind,h,Result.andThen_ok,Sem.run_pure]
section
variable {nt : Nat} {ds : List Deferred} {fr : Fr} {P : Program} {ops : List Oper}
theorem DN{a:Act}(e:Ref nt ds fr a){c:Call}{b:Builtin}{args:List Value}(hc:c.callee=.builtin b)(f:evs fr c.args.toList=some args)(t:TypeId)(w:World):
    ∃cs,(do let d ← resolve a.eval c t;invoke d.target d.args:Sem Next).run P w=(builtin b c.argTypes t cs args.toArray).run P w:=by
  refine⟨c.args.map fun|.const _=>true|_=>false,?_⟩
  simp only[resolve,hc,Sem.run_bind,Sem.run_pure,Result.andThen_ok,invoke,e.evsA f]
  rfl
theorem XZ{x:Operand}{v:Value}(h:ev fr x=some v):evs fr [x]=some [v]:=by simp[evs,h]
theorem Zf{x y:Operand}{v u:Value}(h:ev fr x=some v)(a:ev fr y=some u):evs fr [x,y]=some [v,u]:=by simp[evs,h,a]
theorem run_parts{a:Act}(c:Ref nt ds fr a){xs:Array (Nat×Operand)}{b:List (Nat×Value)}(h:partsOf fr xs.toList=some b):(xs.map fun(i,x)=>(i,a.eval x))=b.toArray:=by
  have:=c.parts h
  apply Array.toList_inj.1
  simpa using this
theorem len_one{j:Array TypeId}{x:Value}{K:Value→Prop}(h:lenV P j x K):
    ∃v,K v∧(∀f:Value→Prop,f v→lenV P j x f)∧∀(t:TypeId)(w:World),(Builtin.len_ j t #[x]).run P w=.ok v w:=by
  simp only[lenV]at h⊢
  split at h
  · exact h.elim
  · rename_i t i
    split at h
    · rename_i s d
      refine⟨_,h,fun f b=>b,fun k w=>?_⟩
      simp only[Builtin.len_,i,List.getElem?_toArray,List.getElem?_cons_zero,Sem.run_bind,Ad d,Result.andThen_ok];rfl
    · rename_i e a n c d
      refine⟨_,h,fun f b=>b,fun k w=>?_⟩
      simp only[Builtin.len_,i,List.getElem?_toArray,List.getElem?_cons_zero,Sem.run_bind,Ad d,Result.andThen_ok];rfl
    · rename_i n e d
      refine⟨_,h,fun f b=>b,fun k w=>?_⟩
      simp only[Builtin.len_,i,List.getElem?_toArray,List.getElem?_cons_zero,Sem.run_bind,Ad d,Result.andThen_ok];rfl
    · rename_i e d
      split at h
      · rename_i n l g
        refine⟨_,h,fun f b=>by first|exact b|(simp only[g];exact b),fun k w=>?_⟩
        simp only[Builtin.len_,i,List.getElem?_toArray,List.getElem?_cons_zero,Sem.run_bind,Ad d,Ad g,Result.andThen_ok];rfl
      · exact h.elim
    · exact h.elim
theorem cap_one{d:Array TypeId}{x:Value}{K:Value→Prop}(h:capV P d x K):
    ∃v,K v∧(∀b:Value→Prop,b v→capV P d x b)∧∀(t:TypeId)(w:World),(Builtin.cap_ d t #[x]).run P w=.ok v w:=by
  simp only[capV]at h⊢
  split at h
  · exact h.elim
  · rename_i t i
    split at h
    · rename_i e a n c f
      refine⟨_,h,fun b g=>g,fun j w=>?_⟩
      simp only[Builtin.cap_,i,List.getElem?_toArray,List.getElem?_cons_zero,Sem.run_bind,Ad f,Result.andThen_ok];rfl
    · rename_i n e f
      refine⟨_,h,fun b g=>g,fun j w=>?_⟩
      simp only[Builtin.cap_,i,List.getElem?_toArray,List.getElem?_cons_zero,Sem.run_bind,Ad f,Result.andThen_ok];rfl
    · exact h.elim
theorem Ny{wr:Bool}{o:Oper}{K:Value→Prop}(h:Oe wr P fr o K):
    ∃v,K v∧(∀r:Value→Prop,r v→Oe wr P fr o r)∧∀a,Ref nt ds fr a→∀w,(execOp a.eval o).run P w=.ok (.value v) w:=by
  cases hop:o.op<;>simp only[Oe,hop]at h⊢ <;>try exact h.elim
  case move x=>
    obtain⟨v,A,h⟩:=AQ h
    exact⟨v,h,fun r g=>by rw[A];exact g,fun a b w=>by simp only[execOp,hop,b.ev A];rfl⟩
  case assign x=>
    obtain⟨v,A,h⟩:=AQ h
    exact⟨v,h,fun r g=>by rw[A];exact g,fun a b w=>by simp only[execOp,hop,b.ev A];rfl⟩
  case pick c x y=>
    split at h
    · rename_i t F
      cases t with
      |true=>
        obtain⟨v,A,h⟩:=AQ h
        exact⟨v,h,fun r g=>by simp only[A];exact g,fun a b w=>by simp only[execOp,hop,b.ev F,b.ev A,asBool];rfl⟩
      |false=>
        obtain⟨v,A,h⟩:=AQ h
        exact⟨v,h,fun r g=>by simp only[A];exact g,fun a b w=>by simp only[execOp,hop,b.ev F,b.ev A,asBool];rfl⟩
    · exact h.elim
  case build t parts=>
    split at h
    · rename_i ps R
      split at h
      · rename_i L G
        rw[EO,aW G]at h
        refine⟨_,h,fun r g=>by simp only[G,EO,aW G];exact g,fun a b w=>?_⟩
        simp only[execOp,hop,run_parts b R]
        exact BU (build_sound G w)
      · exact h.elim
    · exact h.elim
  case nilCheck x=>
    split at h
    · rename_i p A
      obtain⟨T,rfl,h⟩:=Eo h
      exact⟨_,h,fun r g=>g,fun a b w=>by simp only[execOp,hop,b.ev A];rfl⟩
    · rename_i f fi ca A
      exact⟨_,h,fun r g=>g,fun a b w=>by simp only[execOp,hop,b.ev A];rfl⟩
    · rename_i t v A
      exact⟨_,h,fun r g=>g,fun a b w=>by simp only[execOp,hop,b.ev A];rfl⟩
    · exact h.elim
  case binOp op t x y yt=>
    obtain⟨u,m,h⟩:=AQ h
    obtain⟨u',Y,h⟩:=AQ h
    obtain⟨v,h,C,q⟩:=bin_one h
    exact⟨v,h,fun r g=>by simp only[m,Y];exact C _ g,fun a b w=>by
      simp only[execOp,hop,b.ev m,b.ev Y]
      exact BU (q x y w)⟩
  case unOp op t x=>
    obtain⟨u,m,h⟩:=AQ h
    obtain⟨v,h,C,q⟩:=un_one h
    exact⟨v,h,fun r g=>by simp only[m];exact C _ g,fun a b w=>by
      simp only[execOp,hop,b.ev m]
      exact BU (q w)⟩
  case convert src dst x=>
    split at h
    · rename_i k0 k k1 n D O m
      exact⟨_,h,fun r g=>g,fun a b w=>by
        simp only[execOp,hop,b.ev m]
        exact BU (by simp only[convert,Sem.run_bind,Ad D,Ad O,Result.andThen_ok];rfl)⟩
    · rename_i s D O m
      exact⟨_,h,fun r g=>g,fun a b w=>by
        simp only[execOp,hop,b.ev m]
        exact BU (by simp only[convert,Sem.run_bind,Ad D,Ad O,Result.andThen_ok];rfl)⟩
    · exact h.elim
  case makeInterface t x=>
    split at h
    · exact h.elim
    · rename_i d O B
      obtain⟨v,A,h⟩:=AQ h
      exact⟨_,h,fun r g=>by rw[A];exact g,fun a b w=>by
        simp only[execOp,hop,b.ev A]
        exact BU (by
          simp only[Instr.makeInterface,Sem.run_bind,Ad B,Result.andThen_ok]
          cases d<;>first|rfl|simp_all)⟩
    · exact h.elim
  case makeFunc fn first captured=>
    split at h
    · rename_i fi ca M J
      exact⟨_,h,fun r g=>g,fun a b w=>by
        simp only[execOp,hop,b.evsA M,b.evsA J]
        exact BU rfl⟩
    · exact h.elim
  case slice t x lo H mx=>
    obtain⟨u,m,h⟩:=AQ h
    obtain⟨v,h,C,q⟩:=slice_one (nt:=nt) (ds:=ds) h
    exact⟨v,h,fun r g=>by simp only[m];exact C _ g,fun a b w=>by
      simp only[execOp,hop,b.ev m]
      exact BU (q a b w)⟩
  case sliceToArrayPointer t x=>
    split at h
    · rename_i n e a0 l c B m
      exact⟨_,h.2,fun r g=>⟨h.1,g⟩,fun a b w=>by
        simp only[execOp,hop,b.ev m]
        exact BU (by simp only[Instr.arrayAt,Sem.run_bind,Ad B,Result.andThen_ok];rw[if_neg (Nat.not_lt.2 h.1)];rfl)⟩
    · exact h.elim
  case fieldAddr s x f=>
    split at h
    · rename_i fs p B m
      split at h
      · rename_i fd U
        split at h
        · rename_i n D
          obtain⟨T,rfl,h⟩:=Eo h
          exact⟨_,h,fun r g=>by first|exact g|(simp only[D];exact g),fun a b w=>by
            simp only[execOp,hop,b.ev m]
            exact BU (by simp[Instr.fieldAt,Ad B,U,Instr.sureAddr,fieldPlace,Bl D])⟩
        · exact h.elim
      · exact h.elim
    · exact h.elim
  case field t x f=>
    split at h
    · rename_i fs L B m
      split at h
      · rename_i fd U
        obtain⟨v,h,C,q⟩:=part_one h
        exact⟨v,h,fun r g=>C _ g,fun a b w=>by
          simp only[execOp,hop,b.ev m]
          refine BU ?_
          have:=q w
          simp only[Array.toArray_toList]at this
          simp[Instr.field,Ad B,U,asAgg,this]⟩
      · exact h.elim
    · exact h.elim
  case indexAddr t x ix=>
    split at h
    · rename_i e p n c X i B m H
      split at h
      · rename_i Z D
        obtain⟨T,rfl,z,h⟩:=Eo h
        exact⟨_,h,fun r g=>⟨z,g⟩,fun a b w=>by
          simp only[execOp,hop,b.ev m,b.ev H]
          exact BU (by simp[Instr.indexAt,asIntOf,Ad B,z,Bl D])⟩
      · exact h.elim
    · rename_i n e p X i B m H
      split at h
      · rename_i Z D
        obtain⟨T,rfl,z,h⟩:=Eo h
        exact⟨_,h,fun r g=>⟨z,g⟩,fun a b w=>by
          simp only[execOp,hop,b.ev m,b.ev H]
          exact BU (by simp[Instr.indexAt,asIntOf,Ad B,z,Bl D,Instr.sureAddr])⟩
      · exact h.elim
    · exact h.elim
  case index t x ix=>
    split at h
    · rename_i s X i B m H
      obtain⟨z,h⟩:=h
      exact⟨_,h,fun r g=>⟨z,g⟩,fun a b w=>by
        simp only[execOp,hop,b.ev m,b.ev H]
        refine BU ?_
        have hl:i.toNat<s.size:=by omega
        have J:s[i.toNat]? =some s[i.toNat]:=getElem?_pos s i.toNat hl
        have h3:sb s i=(s[i.toNat].toNat:Int):=by
          simp only[sb]
          have:s.data.toList[i.toNat]? =some s[i.toNat]:=by
            rw[Array.getElem?_toList,Array.getElem?_eq_getElem (by simpa using hl)];rfl
          rw[this];rfl
        simp[Instr.index,asIntOf,Ad B,z.1,J,h3]⟩
    · rename_i n e L X i B m H
      split at h
      · rename_i Z D
        obtain⟨z,h⟩:=h
        obtain⟨v,⟨N,h⟩,C⟩:=RJ h
        exact⟨v,h,fun r g=>⟨z,C _ ⟨N,g⟩⟩,fun a b w=>by
          simp only[execOp,hop,b.ev m,b.ev H]
          refine BU ?_
          have N:=N w
          simp only[Array.toArray_toList]at N
          simp[Instr.index,asIntOf,Ad B,z,Bl D,N]⟩
      · exact h.elim
    · exact h.elim
  case extract x i=>
    split at h
    · rename_i vs m
      split at h
      · rename_i v A
        exact⟨v,h,fun r g=>g,fun a b w=>by
          simp only[execOp,hop,b.ev m]
          exact BU (by simp[Instr.extract,A])⟩
      · exact h.elim
    · exact h.elim
  case call c=>
    split at h
    · rename_i x F m
      obtain⟨u,B,h⟩:=AQ h
      obtain⟨v,h,C,q⟩:=len_one h
      exact⟨v,h,fun r g=>by simp only[B];exact C _ g,fun a b w=>by
        simp only[execOp,hop]
        obtain⟨L,e⟩:=DN (P:=P) b F (by rw[m];exact XZ B) o.type w
        rw[e]
        exact BU (q _ w)⟩
    · rename_i x F m
      obtain⟨u,B,h⟩:=AQ h
      obtain⟨v,h,C,q⟩:=cap_one h
      exact⟨v,h,fun r g=>by simp only[B];exact C _ g,fun a b w=>by
        simp only[execOp,hop]
        obtain⟨L,e⟩:=DN (P:=P) b F (by rw[m];exact XZ B) o.type w
        rw[e]
        exact BU (q _ w)⟩
    · rename_i x y F m
      split at h
      · rename_i k i k' j M J
        exact⟨_,h,fun r g=>g,fun a b w=>by
          simp only[execOp,hop]
          obtain⟨L,e⟩:=DN (P:=P) b F (by rw[m];exact Zf M J) o.type w
          rw[e]
          refine BU ?_
          simp[Builtin.min_,Builtin.min2]
          omega⟩
      · exact h.elim
    · rename_i x y F m
      split at h
      · rename_i k i k' j M J
        exact⟨_,h,fun r g=>g,fun a b w=>by
          simp only[execOp,hop]
          obtain⟨L,e⟩:=DN (P:=P) b F (by rw[m];exact Zf M J) o.type w
          rw[e]
          refine BU ?_
          simp[Builtin.max_,Builtin.max2]
          omega⟩
      · exact h.elim
    · exact h.elim
theorem read_run{o:Oper}{w:World}{v:Value}(h:Fg P fr o w v){a:Act}(d:Ref nt ds fr a):(execOp a.eval o).run P w=.ok (.value v) w:=by
  cases hop:o.op<;>simp only[Fg,hop]at h<;>try exact h.elim
  case load t x=>
    split at h
    · rename_i p b
      obtain⟨f,rfl,h⟩:=Eo h
      simp only[execOp,hop,d.ev b]
      refine BU ?_
      have g:(loadVar t f).run P w=.ok v w:=h
      simp[Instr.loadAt,Instr.sureAddr,g]
    · exact h.elim
  case lookup t x k ok=>
    obtain⟨m,i,h⟩:=AQ h
    obtain⟨k,j,h⟩:=AQ h
    simp only[execOp,hop,d.ev i,d.ev j]
    exact BU h
  case binOp op t x y yt=>
    obtain⟨u,b,h⟩:=AQ h
    obtain⟨r,l,h⟩:=AQ h
    split at h
    · simp only[execOp,hop,d.ev b,d.ev l]
      exact BU h
    · exact h.elim
  case convert src dst x=>
    obtain⟨u,b,h⟩:=AQ h
    simp only[execOp,hop,d.ev b]
    exact BU h
  case typeAssert x xT t ok=>
    obtain⟨u,b,h⟩:=AQ h
    simp only[execOp,hop,d.ev b]
    exact BU h
  case call c=>
    split at h
    · rename_i x n b
      obtain⟨u,q,h⟩:=AQ h
      simp only[execOp,hop]
      obtain⟨s,e⟩:=DN (P:=P) d n (by rw[b];exact XZ q) o.type w
      rw[e]
      exact BU h
    · exact h.elim
def MS (P : Program) : Prop := ∀ (f : FuncId) (fn : Func), P.funcs[f]? = some fn → (fn.name == "runtime.NumGoroutine") = false
theorem W_fn(rd:Option Nat)(f:FuncId):(W rd).fn f:=trivial
theorem Xg(rd:Option Nat):(W rd).depth=none:=rfl
theorem WI{rd:Option Nat}{n:Nat}{f:FuncId}{args:Array Value}{w:World}{R:Ending→World→Prop}(h:Calls P f args w R):CallsIn (W rd) n P f args w R:=
  (callsIn_wide (n:=n)).2 h
theorem YQ{f:FuncId}{fn:Func}{c:Code}{args:Array Value}{w:World}(b:MS P)(a:P.funcs[f]? =some fn)(d:fn.body=some c):(callFunc f args).run P w=.ok (.enter f args) w:=by
  have e:=b f fn a
  simp only[callFunc,Sem.run_bind,run_program,Result.andThen_ok,a]
  rw[if_neg (by simpa using e)]
  simp[d]
theorem Z7{a:Array Value}(h:a.toList=[]):a= #[]:=by apply Array.toList_inj.1;simpa using h
theorem Il{t e:TypeId}{len:Nat}{s:List (Nat×Value)}{l:List Value}(h:Q8 P t len s=some (e,l))(w:World):
    (Instr.buildSlice t len s.toArray).run P w=.ok (.slice (some ⟨w.heap.size,0,none⟩) len len) (w.alloc (.cells l.toArray e)):=by
  simp only[Q8]at h
  split at h
  · rename_i J A
    split at h
    · rename_i i u
      split at h
      · rename_i z B
        split at h
        · cases h
        · rename_i x
          simp only[Bool.or_eq_true,decide_eq_true_eq,not_or,Decidable.not_not]at x
          obtain⟨⟨o,p⟩,C⟩:=x
          split at h
          · rename_i K D
            cases h
            have a:(zeroValue e).run P w=.ok z w:=by simp[zeroValue,typeInfo,u,B]
            have b:(sizeOf e).run P w=.ok i.size w:=by simp[sizeOf,typeInfo,u]
            have c:=Jv _ _ _ _ D
            have d:∀n,repL z.cells.toList n=((Array.range (n*i.size)).map (z.cells[· %z.cells.size]!)).toList:=by
              intro n
              induction n with
              |zero=>simp[repL]
              |succ n m=>
                have F:repL z.cells.toList (n+1)=repL z.cells.toList n++z.cells.toList:=by
                  clear m
                  induction n with
                  |zero=>simp[repL]
                  |succ n m=>
                    show z.cells.toList++repL z.cells.toList (n+1)=(z.cells.toList++repL z.cells.toList n)++z.cells.toList
                    rw[m,List.append_assoc]
                rw[F,m]
                rw[show(n+1)*i.size=n*i.size+i.size from Nat.succ_mul n i.size]
                apply List.ext_getElem?
                intro k
                simp only[Array.toList_map,Array.toList_range,List.getElem?_append,List.length_map,List.length_range,List.getElem?_map]
                by_cases q:k<n*i.size
                · rw[if_pos q,List.getElem?_range q,List.getElem?_range (by omega)]
                · rw[if_neg q]
                  by_cases r:k<n*i.size+i.size
                  · rw[List.getElem?_range r]
                    have G:k%z.cells.size=k-n*i.size:=by
                      rw[o,Nat.mod_eq_sub_mul_div]
                      have:k/i.size=n:=by
                        apply Nat.div_eq_of_lt_le
                        · omega
                        · rw[Nat.succ_mul];omega
                      rw[this,Nat.mul_comm]
                    have g:k-n*i.size<z.cells.size:=by omega
                    simp only[Option.map_some,G]
                    rw[getElem!_pos z.cells _ g]
                    simp[g]
                  · rw[List.getElem?_eq_none (by simp;omega),List.getElem?_eq_none (by simp;omega)]
                    rfl
            rw[d]at c
            simp only[Array.toArray_toList]at c
            simp only[Instr.buildSlice,Sem.run_bind,Ad A,Result.andThen_ok,b]
            rw[if_neg (by omega)]
            by_cases y:len*i.size=0
            · have j:len=0:=(Nat.mul_eq_zero.1 y).resolve_right p
              subst j
              have H:∀f:Nat→Value,Array.map f (Array.range 0)= #[]:=fun f=>by apply Array.toList_inj.1;simp
              simp only[Nat.zero_mul,if_true,Sem.run_bind,Sem.run_pure,Result.andThen_ok,H]at c⊢
              rw[c]
              rfl
            · simp only[if_neg y,Sem.run_bind,Sem.run_map,Sem.run_pure,a,Result.andThen_ok]
              rw[c]
              rfl
          · cases h
      · cases h
    · cases h
  · cases h
theorem eff_upon{rd:Option Nat}{n:Nat}(hN:MS P){o:Oper}{w:World}{K:Option Value→World→Prop}(h:effV P ops fr o w K){a:Act}(hr:Ref nt ds fr a)
    {next:Act→World→Prop} {Q:Exit→Act→World→Prop} (hK:∀rv w',K rv w'→∀v:Value,(∀u,rv=some u→v=u)→next (a.put o.dst v) w'):
    o.uponIn (W rd) n P a next Q ((execOp a.eval o).run P w)∧∀c,o.op≠.defer c:=by
  have val:∀{s:Sem Value}{v:Value}{w1:World},s.run P w=.ok v w1→K (some v) w1→o.uponIn (W rd) n P a next Q ((do pure (Next.value (← s)):Sem Next).run P w):=by
    intro s v w1 hs hk
    rw[BU hs]
    exact hK _ _ hk _ (fun u hu=>by cases hu;rfl)
  have uni:∀{s:Sem Unit}{w1:World},s.run P w=.ok () w1→K none w1→o.uponIn (W rd) n P a next Q ((do s;pure Next.skip:Sem Next).run P w):=by
    intro s w1 hs hk
    rw[run_unit hs]
    exact hK _ _ hk _ (fun u hu=>by cases hu)
  cases hop:o.op<;>simp only[effV,hop]at h<;>try exact h.elim
  case alloc t=>
    refine⟨?_,fun c hc=>by cases hc⟩
    split at h
    · rename_i z hz
      rw[EO,zl_of hz]at h
      simp only[execOp,hop]
      exact val (v:=.pointer (some ⟨w.heap.size,0,none⟩)) (w1:=w.alloc (.cells z.cells t)) (by simp only[Instr.alloc,Sem.run_bind,Gf hz,Result.andThen_ok];rfl) (h _ _ ⟨rfl,by simp⟩)
    · exact h.elim
  case box t x=>
    refine⟨?_,fun c hc=>by cases hc⟩
    obtain⟨v,hv,h⟩:=AQ h
    rw[EO]at h
    simp only[execOp,hop,hr.ev hv]
    exact val (v:=.pointer (some ⟨w.heap.size,0,none⟩)) (w1:=w.alloc (.cells v.cells t)) rfl (h _ _ ⟨rfl,by simp⟩)
  case buildSlice t len parts=>
    refine⟨?_,fun c hc=>by cases hc⟩
    split at h
    · rename_i ps hps
      split at h
      · obtain⟨e,l,h1,h⟩:=h
        simp only[execOp,hop,run_parts hr hps]
        exact val (Il h1 w) (h _ _ ⟨rfl,rfl⟩)
      · split at h
        · rename_i e cs hcs
          rw[EY]at h
          simp only[execOp,hop,run_parts hr hps]
          exact val (Il hcs w) (h _ _ ⟨rfl,rfl⟩)
        · exact h.elim
    · exact h.elim
  case store t x y=>
    refine⟨?_,fun c hc=>by cases hc⟩
    split at h
    · rename_i p v hx hy
      obtain⟨ad,rfl,w1,h1,h⟩:=Eo h
      simp only[execOp,hop,hr.ev hx,hr.ev hy]
      exact uni (by have h1':(storeVar t ad v).run P w=.ok () w1:=h1;simp[Instr.storeAt,Instr.sureAddr,h1']) h
    · exact h.elim
  case convert src dst x=>
    refine⟨?_,fun c hc=>by cases hc⟩
    obtain⟨v,hv,ad,l,c,w1,h1,h⟩:=AQ h
    simp only[execOp,hop,hr.ev hv]
    exact val h1 h
  case makeSlice t l c=>
    refine⟨?_,fun c hc=>by cases hc⟩
    obtain⟨l,hl,h⟩:=AQ h
    obtain⟨c,hc,ad,n',m,w1,h1,h⟩:=AQ h
    simp only[execOp,hop,hr.ev hl,hr.ev hc]
    exact val h1 h
  case makeMap t r=>
    refine⟨?_,fun c hc=>by cases hc⟩
    cases r with
    |none=>
      simp only[execOp,hop]
      exact val (v:=.map (some w.heap.size)) (w1:=w.alloc (.map #[] 0)) rfl (h _ _ ⟨rfl,rfl⟩)
    |some x=>
      obtain⟨v,hv,m,w1,h1,h⟩:=AQ h
      simp only[execOp,hop,Option.map_some,hr.ev hv]
      exact val h1 h
  case mapUpdate t m k x=>
    refine⟨?_,fun c hc=>by cases hc⟩
    obtain⟨m,hm,h⟩:=AQ h
    obtain⟨k,hk,h⟩:=AQ h
    obtain⟨v,hv,w1,h1,h⟩:=AQ h
    simp only[execOp,hop,hr.ev hm,hr.ev hk,hr.ev hv]
    exact uni h1 h
  case insert t m k x=>
    refine⟨?_,fun c hc=>by cases hc⟩
    obtain⟨m,hm,h⟩:=AQ h
    obtain⟨k,hk,h⟩:=AQ h
    obtain⟨v,hv,w1,h1,h⟩:=AQ h
    simp only[execOp,hop,hr.ev hm,hr.ev hk,hr.ev hv]
    exact uni h1 h
  case mapEntry t m k=>
    refine⟨?_,fun c hc=>by cases hc⟩
    obtain⟨m,hm,h⟩:=AQ h
    obtain⟨k,hk,h⟩:=AQ h
    obtain⟨v,i,w1,h1,h⟩:=h
    simp only[execOp,hop,hr.ev hm,hr.ev hk]
    exact val h1 h
  case entryStore t m s x=>
    refine⟨?_,fun c hc=>by cases hc⟩
    obtain⟨m,hm,h⟩:=AQ h
    obtain⟨k,hk,h⟩:=AQ h
    obtain⟨v,hv,w1,h1,h⟩:=AQ h
    simp only[execOp,hop,hr.ev hm,hr.ev hk,hr.ev hv]
    exact uni h1 h
  case range t x=>
    refine⟨?_,fun c hc=>by cases hc⟩
    obtain⟨v,hv,p,w1,h1,h⟩:=AQ h
    simp only[execOp,hop,hr.ev hv]
    exact val h1 h
  case next it isS=>
    refine⟨?_,fun c hc=>by cases hc⟩
    obtain⟨v,hv,h⟩:=AQ h
    simp only[execOp,hop,hr.ev hv]
    rcases h with⟨w1,h1,h⟩|⟨k,v,w1,h1,h⟩
    · exact val h1 h
    · exact val h1 h
  case entry it=>
    refine⟨?_,fun c hc=>by cases hc⟩
    obtain⟨v,hv,h⟩:=AQ h
    obtain⟨k,h⟩:=Ox h
    obtain⟨u,w1,h1,h⟩:=Ox h
    simp only[execOp,hop,hr.ev hv]
    exact val h1 h
  case call c=>
    refine⟨?_,fun c hc=>by cases hc⟩
    split at h
    · exact h.elim
    · rename_i args hargs
      simp only[execOp,hop]
      split at h
      · rename_i hc
        split at h
        · obtain⟨ad,n',m,w1,h1,h⟩:=h
          obtain⟨cs,e⟩:=DN (P:=P) hr hc hargs o.type w
          rw[e]
          exact val h1 h
        · exact h.elim
      · rename_i hc
        split at h
        · obtain⟨n',w1,h1,h⟩:=h
          obtain⟨cs,e⟩:=DN (P:=P) hr hc hargs o.type w
          rw[e]
          exact val h1 h
        · exact h.elim
      · rename_i hc
        split at h
        · obtain⟨w1,h1,h⟩:=h
          obtain⟨cs,e⟩:=DN (P:=P) hr hc hargs o.type w
          rw[e]
          exact val h1 h
        · exact h.elim
      · rename_i hc
        split at h
        · obtain⟨w1,h1,h⟩:=h
          obtain⟨cs,e⟩:=DN (P:=P) hr hc hargs o.type w
          rw[e]
          exact val h1 h
        · exact h.elim
      · exact h.elim
      · rename_i f hc
        obtain⟨fv,hf,h⟩:=AQ h
        unfold XJ Ee at h
        split at h
        · rename_i g fi ca
          split at h
          · rename_i fn hfn
            split at h
            · rename_i cd hb
              have h1:=YQ (args:=(fi.toList++args++ca.toList).toArray) (w:=w) hN hfn hb
              have e:(do let d ← resolve a.eval c o.type;invoke d.target d.args:Sem Next).run P w=.ok (.enter g (fi.toList++args++ca.toList).toArray) w:=by
                have ea:fi++args.toArray++ca=(fi.toList++args++ca.toList).toArray:=by
                  apply Array.toList_inj.1;simp
                simp only[resolve,hc,hr.ev hf,Deferred.ofValue,Sem.run_bind,Sem.run_pure,Result.andThen_ok,invoke,hr.evsA hargs,ea,h1]
              rw[e,Oper.uponIn_enter]
              refine⟨fun hd=>by simp[Xg]at hd,(WI h.run).mono ?_⟩
              intro e w' he
              obtain⟨v,rfl,hk⟩:=JD he
              exact hK _ _ hk _ (fun u hu=>by cases hu;rfl)
            · obtain⟨v,w1,h1,he⟩:=h.run
              have e:(do let d ← resolve a.eval c o.type;invoke d.target d.args:Sem Next).run P w=.ok (.value v) w1:=by
                have ea:fi++args.toArray++ca=(fi.toList++args++ca.toList).toArray:=by
                  apply Array.toList_inj.1;simp
                simp only[resolve,hc,hr.ev hf,Deferred.ofValue,Sem.run_bind,Sem.run_pure,Result.andThen_ok,invoke,hr.evsA hargs,ea,h1]
              rw[e]
              obtain⟨v',hv',hk⟩:=JD he
              cases hv'
              exact hK _ _ hk _ (fun u hu=>by cases hu;rfl)
          · exact h.elim
        · rename_i l fi ca
          split at h
          · rename_i hfi hca
            have e1:=Z7 hfi
            have e2:=Z7 hca
            subst e1;subst e2
            obtain⟨fn',tm,as1,bd,hy,hro⟩:=h.run rd (n-1)
            have e:(do let d ← resolve a.eval c o.type;invoke d.target d.args:Sem Next).run P w=.ok (.round l fn' tm as1 bd) w:=by
              simp only[resolve,hc,hr.ev hf,Deferred.ofValue,Sem.run_bind,Sem.run_pure,Result.andThen_ok,invoke,hr.evsA hargs,Array.empty_append,hy]
            rw[e,Oper.uponIn_round]
            refine⟨fun hd=>by simp[Xg]at hd,hro.mono ?_⟩
            intro e w' he
            obtain⟨v,rfl,hk⟩:=JD he
            exact hK _ _ hk _ (fun u hu=>by cases hu;rfl)
          · exact h.elim
        · exact h.elim
      · exact h.elim
end
theorem Pm{bef:Nat->Nat->Bool}{j:Nat}:∀{p:Past}{w:World}{X:Prop},again bef j p w X->X
 | [],w,X,h=>h
 |(i,f)::p,w,X,h=>by
  simp only[again]at h
  split at h
  ·exact Pm h
  ·exact Pm h.2
theorem EW{bef:Nat->Nat->Bool}{j:Nat}:∀{p:Past}{w:World}{X:Prop},again bef j p w X↔(∀x∈p,bef x.1 j=false->x.2 w)/\X
 | [],w,X=>by simp[again]
 |(i,f)::p,w,X=>by
  simp only[again]
  split
  ·rename_i a
   rw[EW]
   simp[a]
  ·rename_i a
   rw[EW]
   simp[a,and_assoc]
theorem Eb{a:Bool}{v:Value}{K:Value->Prop}:spl a v K↔K v:=by
 unfold spl
 split
 ·rename_i b
  cases b<;>simp[br]
 ·rfl
section
variable{wr:Bool}{P:Program}{bef:Nat->Nat->Bool}{ops:List Oper}{nt:Nat}{ds:List Deferred}{fr:Fr}{rd:Option Nat}{n:Nat}
theorem pure_defer{o:Oper}{K:Value->Prop}(h:Oe wr P fr o K):∀c,o.op≠.defer c:=by
 intro c a;simp[Oe,a]at h
theorem read_defer{o:Oper}{w:World}{v:Value}(h:Fg P fr o w v):∀c,o.op≠.defer c:=by
 intro c a;simp[Fg,a]at h
theorem PI(q:MS P){i:Nat}{o:Oper}{w:World}{e:Past}{K:Option Value->World->Past->Prop}(h:Gm wr P bef ops i o fr w e K){a:Act}(l:Ref nt ds fr a)
  {next:Act->World->Prop} {Q:Exit->Act->World->Prop} (k:∀m w' b,K m w' b->∀v:Value,(∀u,m=some u->v=u)->next (a.put o.dst v) w'):
  o.wpIn (W rd) n P a w next Q:=by
 refine⟨fun f _=>trivial,?_⟩
 have go:∀(d:∀c,o.op≠.defer c),o.uponIn (W rd) n P a next Q ((execOp a.eval o).run P w)->o.uponIn (W rd) n P a next Q ((o.semAt (W rd).round a.eval).run P w):=fun d h=>by
  rw[Oper.semAt_eq _ _ _ d];exact h
 unfold Gm at h
 split at h
 ·have d:=pure_defer h
  obtain⟨v,h,-,g⟩:=Ny (nt:=nt) (ds:=ds) h
  refine go d ?_
  rw[g a l w]
  exact k _ _ _ (Eb.1 h) v (fun u p=>by cases p;rfl)
 ·obtain⟨v,j,h⟩:=JD h
  refine go (read_defer j) ?_
  rw[read_run j l]
  exact k _ _ _ (Eb.1 h) v (fun u p=>by cases p;rfl)
 ·obtain⟨h,d⟩:=eff_upon (rd:=rd) (n:=n) (Q:=Q) (next:=next) q h l (fun m w' r v j=>by
   have:=Pm r
   split at this
   ·exact k _ _ _ (Eb.1 this) v j
   ·exact k _ _ _ this v j)
  exact go d h
theorem wanted_none{o:Oper}(h:o.guard=none)(y:Nat->Option Bool):Region.wanted o y=true:=by simp[Region.wanted,h]
theorem yielded_of{c:Array Oper}{a:Act}(f:Ref nt ds fr a){j s:Nat}{b:Bool}(d:FD c.toList j=some s)(g:fget fr s=some (.bool b)):yielded c a.tmps j=some b:=by
 have h:=f.val s _ g
 unfold FD at d
 split at d
 ·rename_i o i
  have e:c[j]? =some o:=by simpa using i
  simp[yielded,e,d,h]
 ·cases d
theorem yielded_not{b:Array Oper}{a:Act}(e:Ref nt ds fr a){j s:Nat}{vs:Array Value}(c:FD b.toList j=some s)(f:fget fr s=some (.tuple vs)):yielded b a.tmps j=none:=by
 have g:=e.val s _ f
 unfold FD at c
 split at c
 ·rename_i o h
  have d:b[j]? =some o:=by simpa using h
  simp[yielded,d,c,g]
 ·cases c
theorem VW(p:MS P){c:Array Oper}{Q:Exit->Act->World->Prop}{i:Nat}{o:Oper}{rest:List Nat}{w:World}{g:Past}{K:Option Value->World->Past->Prop}(ho:c.toList[i]? =some o)
  (h:stepD wr P bef c.toList i o fr w g K) {a:Act} (k:Ref nt ds fr a)
  (l:∀y w' e,K y w' e->∀v:Value,(∀u,y=some u->v=u)->wpOpsIn (W rd) n P c Q rest (a.put o.dst v) w'):
  wpOpsIn (W rd) n P c Q (i::rest) a w:=by
 have q:c[i]? =some o:=by simpa using ho
 simp only[wpOpsIn,q]
 unfold stepD at h
 split at h
 ·rename_i m
  rw[if_pos (wanted_none m _)]
  exact PI p h k l
 ·rename_i j d m
  split at h
  ·exact h.elim
  ·rename_i s z
   split at h
   ·rename_i b r
    have A:=yielded_of k z r
    have t:Region.wanted o (yielded c a.tmps)=(b==d):=by
     simp[Region.wanted,m,A]
    rw[t]
    split at h
    ·exact PI p h k l
    ·exact PI p h k l
    ·rename_i B C
     have:(b==d)=false:=by
      cases b<;>cases d<;>simp_all
     rw[this,if_neg (by simp)]
     exact⟨fun f _=>trivial,l _ _ _ h undef (fun u x=>by cases x;rfl)⟩
   ·rename_i D r
    have t:Region.wanted o (yielded c a.tmps)=false:=by
     simp[Region.wanted,m,yielded_not k z r]
    rw[t,if_neg (by simp)]
    exact⟨fun f _=>trivial,l _ _ _ h undef (fun u x=>by cases x;rfl)⟩
   ·exact h.elim
theorem Xu(g:MS P){c:Array Oper}{Q:Exit->Act->World->Prop}{K:Fr->World->Prop}(j:∀fr w a,K fr w->Ref nt ds fr a->Q .normal a w):
  ∀(σ:List Nat)(fr:Fr)(w:World)(b:Past)(a:Act),runV wr P nt bef c.toList K σ fr w b->Ref nt ds fr a->wpOpsIn (W rd) n P c Q σ a w
 | [],fr,w,b,a,h,hr=>j _ _ _ h hr
 |i::r,fr,w,b,a,h,hr=>by
  simp only[runV]at h
  split at h
  ·exact h.elim
  ·rename_i o k
   refine VW g k h hr fun p q d e v l=>?_
   obtain⟨m,e,f⟩:=hr.fput l e
   exact Xu g j r _ _ _ _ e f
end
section
variable{wr:Bool}{P:Program}{ops:List Oper}{fr fr':Fr}
theorem MN:∀{l:List Operand},(∀x∈l,ev fr x=ev fr' x)->evs fr l=evs fr' l
 | [],_=>rfl
 |x::r,h=>by
  simp only[evs]
  rw[h x (by simp),MN (fun y a=>h y (by simp[a]))]
theorem KX:∀{l:List (Nat×Operand)},(∀x∈l,ev fr x.2=ev fr' x.2)->partsOf fr l=partsOf fr' l
 | [],_=>rfl
 |(i,x)::r,h=>by
  simp only[partsOf]
  rw[h (i,x) (by simp),KX (fun y a=>h y (by simp[a]))]
theorem PO{x:Option Operand}(h:∀y∈x.toArray,ev fr y=ev fr' y)(k:Option Int->Prop):opI fr x k=opI fr' x k:=by
 cases x with
 |none=>rfl
 |some o=>simp only[opI];rw[h o (by simp)]
theorem pure_congr{o:Oper}(h:∀x∈o.op.operands,ev fr x=ev fr' x)(K:Value->Prop):Oe wr P fr o K=Oe wr P fr' o K:=by
 cases hop:o.op<;>simp only[Oe,hop]<;>rw[hop]at h<;>simp only[Op.operands]at h
 case move x=>rw[h x (by simp)]
 case assign x=>rw[h x (by simp)]
 case pick a b c=>rw[h a (by simp),h b (by simp),h c (by simp)]
 case build t ps=>rw[KX (fun x g=>h x.2 (by simp;exact⟨x.1,Array.mem_toList_iff.1 g⟩))]
 case nilCheck x=>rw[h x (by simp)]
 case binOp op t x y yt=>rw[h x (by simp),h y (by simp)]
 case unOp op t x=>rw[h x (by simp)]
 case convert s d x=>rw[h x (by simp)]
 case makeInterface t x=>rw[h x (by simp)]
 case makeFunc fn a b=>rw[MN (fun x g=>h x (by simp at g⊢;exact .inl g)),MN (l:=b.toList) (fun x g=>h x (by simp at g⊢;exact .inr g))]
 case slice t x lo hi mx=>
  have e:∀v,LK P fr t v lo hi mx K=LK P fr' t v lo hi mx K:=by
   intro v
   simp only[LK]
   rw[PO (x:=lo) (fun y j=>h y (by simp at j⊢;simp[j]))]
   congr 1;funext l
   rw[PO (x:=hi) (fun y j=>h y (by simp at j⊢;simp[j]))]
   congr 1;funext hh
   rw[PO (x:=mx) (fun y j=>h y (by simp at j⊢;simp[j]))]
  rw[h x (by simp)]
  congr 1;funext v;exact e v
 case sliceToArrayPointer t x=>rw[h x (by simp)]
 case fieldAddr s x f=>rw[h x (by simp)]
 case field t x f=>rw[h x (by simp)]
 case indexAddr t x i=>rw[h x (by simp),h i (by simp)]
 case index t x i=>rw[h x (by simp),h i (by simp)]
 case extract x i=>rw[h x (by simp)]
 case call c=>
  have k:∀x∈c.args.toList,ev fr x=ev fr' x:=fun x g=>h x (by simp[Call.operands];exact .inr (by simpa using g))
  split
  ·rename_i x m g;rw[k x (by simp[g])]
  ·rename_i x m g;rw[k x (by simp[g])]
  ·rename_i x y m g;rw[k x (by simp[g]),k y (by simp[g])]
  ·rename_i x y m g;rw[k x (by simp[g]),k y (by simp[g])]
  ·rfl
theorem Ti{o:Oper}(h:∀x∈o.op.operands,ev fr x=ev fr' x)(w:World)(v:Value):Fg P fr o w v=Fg P fr' o w v:=by
 cases hop:o.op<;>simp only[Fg,hop]<;>rw[hop]at h<;>simp only[Op.operands]at h
 case load t x=>rw[h x (by simp)]
 case lookup t x k ok=>rw[h x (by simp),h k (by simp)]
 case binOp op t x y yt=>rw[h x (by simp),h y (by simp)]
 case convert s d x=>rw[h x (by simp)]
 case typeAssert x xT t ok=>rw[h x (by simp)]
 case call c=>
  have b:∀x∈c.args.toList,ev fr x=ev fr' x:=fun x a=>h x (by simp[Call.operands];exact .inr (by simpa using a))
  split
  ·rename_i x e a;rw[b x (by simp[a])]
  ·rfl
theorem eff_congr{o:Oper}(h:∀x∈o.op.operands,ev fr x=ev fr' x)(w:World)(K:Option Value->World->Prop):effV P ops fr o w K=effV P ops fr' o w K:=by
 cases hop:o.op<;>simp only[effV,hop]<;>rw[hop]at h<;>simp only[Op.operands]at h
 case box t x=>rw[h x (by simp)]
 case buildSlice t n ps=>rw[KX (fun x e=>h x.2 (by simp;exact⟨x.1,Array.mem_toList_iff.1 e⟩))]
 case store t x y=>rw[h x (by simp),h y (by simp)]
 case convert s d x=>rw[h x (by simp)]
 case makeSlice t x y=>rw[h x (by simp),h y (by simp)]
 case makeMap t r=>
  cases r with
  |none=>rfl
  |some x=>simp only;rw[h x (by simp)]
 case mapUpdate t m k x=>rw[h m (by simp),h k (by simp),h x (by simp)]
 case insert t m k x=>rw[h m (by simp),h k (by simp),h x (by simp)]
 case mapEntry t m k=>rw[h m (by simp),h k (by simp)]
 case entryStore t m k x=>rw[h m (by simp),h k (by simp),h x (by simp)]
 case range t x=>rw[h x (by simp)]
 case next x s=>rw[h x (by simp)]
 case entry x=>rw[h x (by simp)]
 case call c=>
  have g:∀x∈c.args.toList,ev fr x=ev fr' x:=fun x e=>h x (by simp[Call.operands];exact .inr (by simpa using e))
  rw[MN g]
  cases hc:c.callee with
  |value f=>
   have i:=h f (by simp[Call.operands,hc])
   cases evs fr' c.args.toList with
   |none=>rfl
   |some a=>simp only[i]
  |invoke r m=>rfl
  |builtin b=>
   cases evs fr' c.args.toList with
   |none=>rfl
   |some a=>cases b<;>rfl
end
section
variable{P:Program}{ops:List Oper}{fr:Fr}
theorem Ue{d:Value}{args:List Value}{w:World}{R f:Ending->World->Prop}(a:∀e w',R e w'->f e w')(h:Ee P d args w R):Ee P d args w f:=by
 unfold Ee at h⊢
 split at h
 ·split at h
  ·split at h
   ·exact⟨Calls.mono h.run a⟩
   ·obtain⟨v,g,i,j⟩:=h.run
    exact⟨⟨v,g,i,a _ _ j⟩⟩
  ·exact h.elim
 ·split at h
  ·refine⟨fun rd n=>?_⟩
   obtain⟨k,l,b,m,o,c⟩:=h.run rd n
   exact⟨k,l,b,m,o,c.mono a⟩
  ·exact h.elim
 ·exact h.elim
theorem callX_some{b:Value}{args:List Value}{w:World}{R:Ending->World->Prop}(h:Ee P b args w R):∃e w',R e w':=by
 unfold Ee at h
 split at h
 ·split at h
  ·split at h
   ·obtain⟨e,w',fr',h,_⟩:=h.run [];exact⟨_,_,h⟩
   ·obtain⟨v,f,_,c⟩:=h.run;exact⟨_,_,c⟩
  ·exact h.elim
 ·split at h
  ·obtain⟨g,i,d,j,k,a⟩:=h.run none 0
   obtain⟨e,w',h,_⟩:=a.2 default [] (by simp[Fence.room,W,Fence.wide])
   exact⟨_,_,h⟩
  ·exact h.elim
 ·exact h.elim
theorem callF_mono{a:Value}{args:List Value}{t:TypeId}{w:World}{K b:Option Value->World->Prop}(d:∀c w',K c w'->b c w')(h:XJ P a args t w K):XJ P a args t w b:=
 Ue (fun e w' h=>SG (fun v h=>⟨h.1,d _ _ h.2⟩) h) h
theorem OD{o:Oper}{w:World}{K G:Option Value->World->Prop}(j:∀H w',K H w'->G H w')(h:effV P ops fr o w K):effV P ops fr o w G:=by
 cases hop:o.op<;>simp only[effV,hop]at h⊢ <;>try exact h.elim
 case alloc t=>
  split at h
  ·rw[EO]at h⊢;exact fun b f B=>j _ _ (h b f B)
  ·exact h.elim
 case box t x=>
  obtain⟨v,z,h⟩:=AQ h
  rw[z];simp only[onV]
  rw[EO]at h⊢;exact fun b f B=>j _ _ (h b f B)
 case buildSlice t n ps=>
  split at h
  ·split at h
   ·obtain⟨e,l,g,h⟩:=h
    exact⟨e,l,g,fun b f B=>j _ _ (h b f B)⟩
   ·split at h
    ·rw[EY]at h⊢;exact fun b f B=>j _ _ (h b f B)
    ·exact h.elim
  ·exact h.elim
 case store t x y=>
  split at h
  ·obtain⟨p,rfl,f,g,h⟩:=Eo h
   exact⟨f,g,j _ _ h⟩
  ·exact h.elim
 case convert s d x=>
  obtain⟨v,z,a,b,c,f,g,h⟩:=AQ h
  rw[z];exact⟨a,b,c,f,g,j _ _ h⟩
 case makeSlice t x y=>
  obtain⟨v,z,h⟩:=AQ h
  obtain⟨u,L,a,b,c,f,g,h⟩:=AQ h
  rw[z,L];exact⟨a,b,c,f,g,j _ _ h⟩
 case makeMap t r=>
  cases r with
  |none=>exact fun b f B=>j _ _ (h b f B)
  |some x=>
   obtain⟨v,z,m,f,g,h⟩:=AQ h
   simp only;rw[z];exact⟨m,f,g,j _ _ h⟩
 case mapUpdate t m k x=>
  obtain⟨D,C,h⟩:=AQ h
  obtain⟨F,q,h⟩:=AQ h
  obtain⟨J,A,f,g,h⟩:=AQ h
  rw[C,q,A];exact⟨f,g,j _ _ h⟩
 case insert t m k x=>
  obtain⟨D,C,h⟩:=AQ h
  obtain⟨F,q,h⟩:=AQ h
  obtain⟨J,A,f,g,h⟩:=AQ h
  rw[C,q,A];exact⟨f,g,j _ _ h⟩
 case mapEntry t m k=>
  obtain⟨D,C,h⟩:=AQ h
  obtain⟨F,q,h⟩:=AQ h
  obtain⟨v,i,f,g,h⟩:=h
  rw[C,q];exact⟨v,i,f,g,j _ _ h⟩
 case entryStore t m k x=>
  obtain⟨D,C,h⟩:=AQ h
  obtain⟨F,q,h⟩:=AQ h
  obtain⟨J,A,f,g,h⟩:=AQ h
  rw[C,q,A];exact⟨f,g,j _ _ h⟩
 case range t x=>
  obtain⟨v,z,p,f,g,h⟩:=AQ h
  rw[z];exact⟨p,f,g,j _ _ h⟩
 case next x s=>
  obtain⟨v,z,h⟩:=AQ h
  rw[z]
  rcases h with⟨f,g,h⟩|⟨k,u,f,g,h⟩
  ·exact .inl ⟨f,g,j _ _ h⟩
  ·exact .inr ⟨k,u,f,g,j _ _ h⟩
 case entry x=>
  obtain⟨v,z,h⟩:=AQ h
  rw[z];exact YD (fun k h=>YD (fun v ⟨f,g,h⟩=>⟨f,g,j _ _ h⟩) h) h
 case call c=>
  split at h
  ·exact h.elim
  ·split at h
   ·split at h
    ·obtain⟨a,b,c,f,g,h⟩:=h;exact⟨a,b,c,f,g,j _ _ h⟩
    ·exact h.elim
   ·split at h
    ·obtain⟨a,f,g,h⟩:=h;exact⟨a,f,g,j _ _ h⟩
    ·exact h.elim
   ·split at h
    ·obtain⟨f,g,h⟩:=h;exact⟨f,g,j _ _ h⟩
    ·exact h.elim
   ·split at h
    ·obtain⟨f,g,h⟩:=h;exact⟨f,g,j _ _ h⟩
    ·exact h.elim
   ·exact h.elim
   ·obtain⟨N,M,h⟩:=AQ h
    rw[M]
    exact callF_mono j h
   ·exact h.elim
theorem YZ{o:Oper}{w:World}{K:Option Value->World->Prop}(h:effV P ops fr o w K):∃F w',K F w':=by
 cases hop:o.op<;>simp only[effV,hop]at h<;>try exact h.elim
 case alloc t=>
  split at h
  ·rw[EO]at h;exact⟨_,_,h _ _ ⟨rfl,rfl⟩⟩
  ·exact h.elim
 case box t x=>
  obtain⟨v,q,h⟩:=AQ h
  rw[EO]at h;exact⟨_,_,h _ _ ⟨rfl,rfl⟩⟩
 case buildSlice t n ps=>
  split at h
  ·split at h
   ·obtain⟨e,l,f,h⟩:=h
    exact⟨_,_,h _ _ ⟨rfl,rfl⟩⟩
   ·split at h
    ·rw[EY]at h;exact⟨_,_,h _ _ ⟨rfl,rfl⟩⟩
    ·exact h.elim
  ·exact h.elim
 case store t x y=>
  split at h
  ·obtain⟨p,rfl,g,f,h⟩:=Eo h
   exact⟨_,_,h⟩
  ·exact h.elim
 case convert s d x=>
  obtain⟨v,q,a,b,c,g,f,h⟩:=AQ h
  exact⟨_,_,h⟩
 case makeSlice t x y=>
  obtain⟨v,q,h⟩:=AQ h
  obtain⟨u,G,a,b,c,g,f,h⟩:=AQ h
  exact⟨_,_,h⟩
 case makeMap t r=>
  cases r with
  |none=>exact⟨_,_,h _ _ ⟨rfl,rfl⟩⟩
  |some x=>
   obtain⟨v,q,m,g,f,h⟩:=AQ h
   exact⟨_,_,h⟩
 case mapUpdate t m k x=>
  obtain⟨A,B,h⟩:=AQ h
  obtain⟨C,j,h⟩:=AQ h
  obtain⟨D,z,g,f,h⟩:=AQ h
  exact⟨_,_,h⟩
 case insert t m k x=>
  obtain⟨A,B,h⟩:=AQ h
  obtain⟨C,j,h⟩:=AQ h
  obtain⟨D,z,g,f,h⟩:=AQ h
  exact⟨_,_,h⟩
 case mapEntry t m k=>
  obtain⟨A,B,h⟩:=AQ h
  obtain⟨C,j,h⟩:=AQ h
  obtain⟨v,i,g,f,h⟩:=h
  exact⟨_,_,h⟩
 case entryStore t m k x=>
  obtain⟨A,B,h⟩:=AQ h
  obtain⟨C,j,h⟩:=AQ h
  obtain⟨D,z,g,f,h⟩:=AQ h
  exact⟨_,_,h⟩
 case range t x=>
  obtain⟨v,q,p,g,f,h⟩:=AQ h
  exact⟨_,_,h⟩
 case next x s=>
  obtain⟨v,q,h⟩:=AQ h
  rcases h with⟨g,f,h⟩|⟨k,u,g,f,h⟩<;>exact⟨_,_,h⟩
 case entry x=>
  obtain⟨v,q,h⟩:=AQ h
  obtain⟨k,h⟩:=Ox h
  obtain⟨u,g,f,h⟩:=Ox h
  exact⟨_,_,h⟩
 case call c=>
  split at h
  ·exact h.elim
  ·split at h
   ·split at h
    ·obtain⟨a,b,c,g,f,h⟩:=h;exact⟨_,_,h⟩
    ·exact h.elim
   ·split at h
    ·obtain⟨a,g,f,h⟩:=h;exact⟨_,_,h⟩
    ·exact h.elim
   ·split at h
    ·obtain⟨g,f,h⟩:=h;exact⟨_,_,h⟩
    ·exact h.elim
   ·split at h
    ·obtain⟨g,f,h⟩:=h;exact⟨_,_,h⟩
    ·exact h.elim
   ·exact h.elim
   ·obtain⟨H,J,h⟩:=AQ h
    obtain⟨e,w',h⟩:=callX_some h
    obtain⟨v,f,h⟩:=JD h
    exact⟨_,_,h⟩
   ·exact h.elim
end
section
variable{wr:Bool}{P:Program}{bef:Nat->Nat->Bool}{ops:List Oper}{nt:Nat}{ds:List Deferred}{fr fr':Fr}
def Agree(ops:List Oper)(o:Oper)(fr fr':Fr):Prop:=
 (∀t∈opTs o.op,fget fr t=fget fr' t)/\∀j want s,o.guard=some (j,want)->FD ops j=some s->fget fr s=fget fr' s
theorem Agree.ev{o:Oper}(h:Agree ops o fr fr'):∀x∈o.op.operands,Vc.ev fr x=Vc.ev fr' x:=by
 intro x a
 cases x with
 |tmp t=>
  exact h.1 t (by simp only[opTs,List.mem_filterMap];exact⟨_,by simpa using a,rfl⟩)
 |_=>rfl
theorem Nq{i:Nat}{o:Oper}(h:∀x∈o.op.operands,ev fr x=ev fr' x)(w:World)(a:Past)(K:Option Value->World->Past->Prop):
  Gm wr P bef ops i o fr w a K=Gm wr P bef ops i o fr' w a K:=by
 unfold Gm
 split
 ·exact pure_congr h _
 ·congr 1;funext v
  rw[Ti h w v]
  have:(fun b=>Fg P fr o b v)=(fun b=>Fg P fr' o b v):=funext fun b=>Ti h b v
  rw[this]
 ·exact eff_congr h _ _
theorem NJ{i:Nat}{o:Oper}(h:Agree ops o fr fr')(w:World)(a:Past)(K:Option Value->World->Past->Prop):
  stepD wr P bef ops i o fr w a K=stepD wr P bef ops i o fr' w a K:=by
 unfold stepD
 split
 ·exact Nq h.ev _ _ _
 ·rename_i j b c
  cases hs:FD ops j with
  |none=>rfl
  |some s=>
   simp only
   rw[h.2 j b s c hs]
   split
   ·split
    ·exact Nq h.ev _ _ _
    ·exact Nq h.ev _ _ _
    ·rfl
   ·rfl
   ·rfl
theorem Xa{b:Bool}{a:Option Value}{K:Option Value->Prop}:(match a with
  |some v=>spl b v fun v=>K (some v)
  |none=>K none)↔K a:=by
 cases a with
 |none=>rfl
 |some v=>exact Eb
theorem P5{i:Nat}{o:Oper}{w:World}{b a:Past}{K f:Option Value->World->Past->Prop}(c:∀e∈a,e∈b)
  (g:∀v w' p k,(∀e∈k,e∈p)->K v w' p->f v w' k) (h:Gm wr P bef ops i o fr w b K):Gm wr P bef ops i o fr w a f:=by
 unfold Gm at h⊢
 split at h
 ·obtain⟨v,h,j,-⟩:=Ny (nt:=0) (ds:=[]) h
  exact j _ (Eb.2 (g _ _ _ _ c (Eb.1 h)))
 ·exact SG (fun v h=>⟨h.1,Eb.2 (g _ _ _ _ (fun e l=>by
   simp only[mem_cons]at l⊢
   exact l.imp id (c e)) (Eb.1 h.2))⟩) h
 ·refine OD (fun d w' h=>?_) h
  rw[EW]at h⊢
  refine⟨fun x m j=>h.1 x (c x m) j,?_⟩
  have q:=(Xa (K:=fun d=>K d w' b)).1 h.2
  exact(Xa (K:=fun d=>f d w' a)).2 (g _ _ _ _ c q)
theorem EZ{i:Nat}{o:Oper}{w:World}{b a:Past}{K f:Option Value->World->Past->Prop}(c:∀e∈a,e∈b)
  (d:∀v w' p g,(∀e∈g,e∈p)->K v w' p->f v w' g) (h:stepD wr P bef ops i o fr w b K):stepD wr P bef ops i o fr w a f:=by
 unfold stepD at h⊢
 split at h
 ·exact P5 c d h
 ·split at h
  ·exact h.elim
  ·split at h
   ·split at h
    ·exact P5 c d h
    ·exact P5 c d h
    ·exact d _ _ _ _ c h
   ·exact d _ _ _ _ c h
   ·exact h.elim
theorem J5{i:Nat}{o:Oper}{w:World}{d:Past}{K:Option Value->World->Past->Prop}{a:Act}(C:Ref nt ds fr a)(h:stepD wr P bef ops i o fr w d K):
  (∃v,K v w d/\(∀w' p (c:Option Value->World->Past->Prop),c v w' p->stepD wr P bef ops i o fr w' p c)/\
   ∀w' p (c:Option Value->World->Past->Prop),stepD wr P bef ops i o fr w' p c->c v w' p)\/
  (cls P o.op=1/\∃v,Fg P fr o w v/\K (some v) w ((i,fun w'=>Fg P fr o w' v)::d)/\
   ∀w' p (c:Option Value->World->Past->Prop),Fg P fr o w' v->c (some v) w' ((i,fun w'=>Fg P fr o w' v)::p)->stepD wr P bef ops i o fr w' p c)\/
  (cls P o.op≠0/\cls P o.op≠1/\∀w' p (c:Option Value->World->Past->Prop),stepD wr P bef ops i o fr w' p c↔effV P ops fr o w' fun k g=>again bef i p g (c k g p)):=by
 have y:(∀w' p (c:Option Value->World->Past->Prop),stepD wr P bef ops i o fr w' p c=Gm wr P bef ops i o fr w' p c)->Gm wr P bef ops i o fr w d K->
   (∃v,K v w d/\(∀w' p (c:Option Value->World->Past->Prop),c v w' p->stepD wr P bef ops i o fr w' p c)/\
   ∀w' p (c:Option Value->World->Past->Prop),stepD wr P bef ops i o fr w' p c->c v w' p)\/
  (cls P o.op=1/\∃v,Fg P fr o w v/\K (some v) w ((i,fun w'=>Fg P fr o w' v)::d)/\
   ∀w' p (c:Option Value->World->Past->Prop),Fg P fr o w' v->c (some v) w' ((i,fun w'=>Fg P fr o w' v)::p)->stepD wr P bef ops i o fr w' p c)\/
  (cls P o.op≠0/\cls P o.op≠1/\∀w' p (c:Option Value->World->Past->Prop),stepD wr P bef ops i o fr w' p c↔effV P ops fr o w' fun k g=>again bef i p g (c k g p)):=by
  intro e h
  simp only[e]
  clear e
  unfold Gm at h
  split at h
  ·rename_i u
   left
   obtain⟨v,h,z,x⟩:=Ny (nt:=nt) (ds:=ds) h
   refine⟨some v,Eb.1 h,fun w' p c f=>?_,fun w' p c f=>?_⟩
   ·unfold Gm;simp only[u];exact z _ (Eb.2 f)
   ·unfold Gm at f;simp only[u]at f
    obtain⟨M,J,-,q⟩:=Ny (nt:=nt) (ds:=ds) f
    have D:=x a C w
    rw[q a C w]at D
    cases D
    exact Eb.1 J
  ·rename_i u
   right;left
   obtain⟨v,⟨L,h⟩,z⟩:=exT_one h
   refine⟨u,v,L,Eb.1 h,fun w' p c A f=>?_⟩
   unfold Gm;simp only[u]
   exact z _ ⟨A,Eb.2 f⟩
  ·rename_i B F
   right;right
   refine⟨B,F,fun w' p c=>?_⟩
   unfold Gm
   split
   ·exact absurd (by assumption) B
   ·exact absurd (by assumption) F
   ·constructor<;>refine OD (fun k g h=>?_)
    ·rw[EW]at h⊢
     exact⟨h.1,(Xa (K:=fun k=>c k g p)).1 h.2⟩
    ·rw[EW]at h⊢
     exact⟨h.1,(Xa (K:=fun k=>c k g p)).2 h.2⟩
 have B:=h
 unfold stepD at h
 split at h
 ·rename_i l
  exact y (fun w' p c=>by unfold stepD;simp only[l]) h
 ·rename_i j m l
  split at h
  ·exact h.elim
  ·rename_i s t
   split at h
   ·rename_i b r
    split at h
    ·exact y (fun w' p c=>by unfold stepD;simp only[l,t,r]) h
    ·exact y (fun w' p c=>by unfold stepD;simp only[l,t,r]) h
    ·rename_i G H
     left
     refine⟨some (.tuple #[]),h,fun w' p c f=>?_,fun w' p c f=>?_⟩
     ·unfold stepD;simp only[l,t,r]
      cases b<;>cases m<;>first|exact absurd rfl (G rfl)|exact absurd rfl (H rfl)|exact f
     ·unfold stepD at f;simp only[l,t,r]at f
      cases b<;>cases m<;>first|exact absurd rfl (G rfl)|exact absurd rfl (H rfl)|exact f
   ·rename_i N r
    left
    refine⟨some (.tuple #[]),h,fun w' p c f=>?_,fun w' p c f=>?_⟩
    ·unfold stepD;simp only[l,t,r];exact f
    ·unfold stepD at f;simp only[l,t,r]at f;exact f
   ·exact h.elim
def put(fr:Fr)(d:Option Nat)(v:Option Value):Fr:=match d with
 |some d=>(d,v)::fr
 |none=>fr
def Fits(nt:Nat)(d:Option Nat):Prop:=∀x,d=some x->x<nt
theorem fput_iff{d:Option Nat}{v:Option Value}{k:Fr->Prop}:fput nt fr d v k↔Fits nt d/\k (put fr d v):=by
 cases d with
 |none=>simp[fput,put,Fits]
 |some d=>
  simp only[fput,put,Fits]
  split
  ·rename_i a
   have:d<nt:=by simpa [Nat.blt_eq]using a
   simp[this]
  ·rename_i a
   have:¬d<nt:=fun b=>by
    have c:Nat.blt d nt=true:=by rw[Nat.blt_eq];exact b
    rw[c]at a;cases a
   simp[this]
theorem JO{d:Option Nat}{v:Option Value}{t:Nat}(h:∀x,d=some x->t≠x):fget (put fr d v) t=fget fr t:=by
 cases d with
 |none=>rfl
 |some d=>exact BZ _ _ _ _ (h d rfl)
def Feq(fr fr':Fr):Prop:=∀t,fget fr t=fget fr' t
theorem Feq.put{d:Option Nat}{v:Option Value}(h:Feq fr fr'):Feq (put fr d v) (put fr' d v):=by
 intro t
 cases d with
 |none=>exact h t
 |some d=>
  by_cases a:t=d
  ·subst a;simp only[Vc.put,D6]
  ·simp only[Vc.put,BZ _ _ _ _ a];exact h t
theorem put_swap{d a:Option Nat}{v e:Option Value}(h:∀x y,d=some x->a=some y->x≠y):Feq (put (put fr d v) a e) (put (put fr a e) d v):=by
 intro t
 cases d with
 |none=>rfl
 |some d=>cases a with
  |none=>rfl
  |some a=>
   have:=h d a rfl rfl
   simp only[put]
   by_cases b:t=d
   ·subst b;rw[BZ _ _ _ _ this,D6,D6]
   ·by_cases c:t=a
    ·subst c;rw[D6,BZ _ _ _ _ b,D6]
    ·rw[BZ _ _ _ _ c,BZ _ _ _ _ b,BZ _ _ _ _ b,BZ _ _ _ _ c]
theorem Feq.agree{o:Oper}(h:Feq fr fr'):Agree ops o fr fr':=⟨fun t _=>h t,fun j a s _ _=>h s⟩
structure Apart(ops:List Oper)(a b:Oper):Prop where
 dst:∀x y,a.dst=some x->b.dst=some y->x≠y
 left:∀y,b.dst=some y->(∀t∈opTs a.op,t≠y)/\∀k want s,a.guard=some (k,want)->FD ops k=some s->s≠y
 right:∀x,a.dst=some x->(∀t∈opTs b.op,t≠x)/\∀k want s,b.guard=some (k,want)->FD ops k=some s->s≠x
theorem Apart.agreeL{a b:Oper}(h:Apart ops a b)(v:Option Value):Agree ops a (put fr b.dst v) fr:=
 ⟨fun t e=>JO fun y d=>(h.left y d).1 t e,fun k c s f g=>JO fun y d=>(h.left y d).2 k c s f g⟩
theorem Apart.agreeR{a b:Oper}(h:Apart ops a b)(v:Option Value):Agree ops b (put fr a.dst v) fr:=
 ⟨fun t e=>JO fun y d=>(h.right y d).1 t e,fun k c s f g=>JO fun y d=>(h.right y d).2 k c s f g⟩
theorem apart_of{i j:Nat}{a b:Oper}(A:ops[i]? =some a)(B:ops[j]? =some b)(h:apartB ops i j=true):Apart ops a b:=by
 have f:∀{o:Oper}{x:Nat},(match o.guard with
   |some (k,_)=>match FD ops k with
    |some s=> !(s==x)
    |none=>true
   |none=>true)=true->∀k m s,o.guard=some (k,m)->FD ops k=some s->s≠x:=by
  intro o x h k m s C D
  simp only[C,D]at h
  simpa using h
 simp only[apartB,A,B]at h
 split at h
 ·rename_i x y l g
  simp only[Bool.and_eq_true]at h
  obtain⟨⟨⟨⟨F,z⟩,p⟩,G⟩,w⟩:=h
  refine⟨fun q r d c=>?_,fun r c=>?_,fun q d=>?_⟩
  ·rw[l]at d;rw[g]at c;cases d;cases c;simpa using F
  ·rw[g]at c;cases c
   exact⟨fun t u e=>by subst e;simp at z;exact z u,f G⟩
  ·rw[l]at d;cases d
   exact⟨fun t u e=>by subst e;simp at p;exact p u,f w⟩
 ·rename_i x l g
  simp only[Bool.and_eq_true]at h
  obtain⟨p,w⟩:=h
  refine⟨fun q r d c=>(by rw[g]at c;cases c),fun r c=>(by rw[g]at c;cases c),fun q d=>?_⟩
  rw[l]at d;cases d
  exact⟨fun t u e=>by subst e;simp at p;exact p u,f w⟩
 ·rename_i y l g
  simp only[Bool.and_eq_true]at h
  obtain⟨p,w⟩:=h
  refine⟨fun q r d c=>(by rw[l]at d;cases d),fun r c=>?_,fun q d=>(by rw[l]at d;cases d)⟩
  rw[g]at c;cases c
  exact⟨fun t u e=>by subst e;simp at p;exact p u,f w⟩
 ·rename_i l g
  refine⟨fun q r d c=>(by rw[g]at c;cases c),fun r c=>(by rw[g]at c;cases c),fun q d=>(by rw[l]at d;cases d)⟩
theorem turn{i x:Nat}{j k:Oper}{w:World}{u:Past}{a:Act}(N:Ref nt ds fr a)(z:Apart ops j k)(hb:bef i x=false)
  (hc:cls P j.op=0\/cls P k.op=0\/cls P j.op=1)
  {F:Fr->World->Past->Prop} (hF:∀f f' w p A,Feq f f'->(∀e∈A,e∈p)->F f w p->F f' w A)
  (h:stepD wr P bef ops i j fr w u fun o w1 q=>Fits nt j.dst/\stepD wr P bef ops x k (put fr j.dst o) w1 q fun d O R=>Fits nt k.dst/\F (put (put fr j.dst o) k.dst d) O R):
  stepD wr P bef ops x k fr w u fun d w1 q=>Fits nt k.dst/\stepD wr P bef ops i j (put fr k.dst d) w1 q fun o O R=>Fits nt j.dst/\F (put (put fr k.dst d) j.dst o) O R:=by
 have eR:∀o w1 q K,stepD wr P bef ops x k (put fr j.dst o) w1 q K=stepD wr P bef ops x k fr w1 q K:=fun o w1 q K=>NJ (z.agreeR o) _ _ _
 have eL:∀d w1 q K,stepD wr P bef ops i j (put fr k.dst d) w1 q K=stepD wr P bef ops i j fr w1 q K:=fun d w1 q K=>NJ (z.agreeL d) _ _ _
 simp only[eR]at h
 simp only[eL]
 have r:∀o d w p A,(∀e∈A,e∈p)->F (put (put fr j.dst o) k.dst d) w p->F (put (put fr k.dst d) j.dst o) w A:=
  fun o d w p A T h=>hF _ _ _ _ _ (put_swap z.dst) T h
 rcases J5 N h with⟨o,⟨l,G⟩,s,-⟩|⟨aa,o,H,⟨l,G⟩,s⟩|⟨h0,U,y⟩
 ·exact EZ (fun e b=>b) (fun d w1 p A T g=>⟨g.1,s _ _ _ ⟨l,r _ _ _ _ _ T g.2⟩⟩) G
 ·rcases J5 N G with⟨d,⟨m,g⟩,c,-⟩|⟨B,d,J,⟨m,g⟩,c⟩|⟨L,ab,C⟩
  ·exact c _ _ _ ⟨m,s _ _ _ H ⟨l,r _ _ _ _ _ (fun e b=>b) g⟩⟩
  ·exact c _ _ _ J ⟨m,s _ _ _ H ⟨l,r _ _ _ _ _ (fun e b=>by
    simp only[mem_cons]at b⊢
    rcases b with b|b|b
    ·exact .inr (.inl b)
    ·exact .inl b
    ·exact .inr (.inr b)) g⟩⟩
  ·rw[C]at G⊢
   refine OD (fun rv X g=>?_) G
   rw[EW]at g⊢
   obtain⟨t,m,g⟩:=g
   refine⟨fun e b Y=>t e (mem_cons_of_mem _ b) Y,m,?_⟩
   have D:=t _ (mem_cons_self ..) hb
   exact s _ _ _ D ⟨l,r _ _ _ _ _ (fun e b=>b) g⟩
 ·have hx:cls P k.op=0:=by
   rcases hc with h|h|h
   ·exact absurd h h0
   ·exact h
   ·exact absurd h U
  rw[y]at h
  obtain⟨ac,w0,Z⟩:=YZ h
  have Z:=(EW.1 Z).2.2
  rcases J5 N Z with⟨d,⟨m,-⟩,c,M⟩|⟨B,-⟩|⟨L,-⟩
  ·refine c _ _ _ ⟨m,?_⟩
   rw[y]
   refine OD (fun rv X g=>?_) h
   rw[EW]at g⊢
   obtain⟨t,l,g⟩:=g
   have h3:=M _ _ _ g
   exact⟨t,l,r _ _ _ _ _ (fun e b=>b) h3.2⟩
  ·rw[hx]at B;cases B
  ·exact absurd hx L
theorem Dj{K:Fr->World->Prop}{i:Nat}{r:List Nat}{w:World}{a:Past}:runV wr P nt bef ops K (i::r) fr w a↔
  ∃o,ops[i]? =some o/\stepD wr P bef ops i o fr w a fun v w' b=>Fits nt o.dst/\runV wr P nt bef ops K r (put fr o.dst v) w' b:=by
 simp only[runV,fput_iff]
 cases ops[i]? with
 |none=>simp
 |some o=>simp
theorem LW{K:Fr->World->Prop}(b:∀f c w,Feq f c->K f w->K c w):∀(σ:List Nat)(fr fr':Fr)(w:World)(p a:Past),Feq fr fr'->(∀e∈a,e∈p)->runV wr P nt bef ops K σ fr w p->runV wr P nt bef ops K σ fr' w a
 | [],fr,fr',w,p,a,hf,hp,h=>b _ _ _ hf h
 |i::r,fr,fr',w,p,a,hf,hp,h=>by
  rw[Dj]at h⊢
  obtain⟨o,d,h⟩:=h
  refine⟨o,d,?_⟩
  rw[NJ (fr':=fr') hf.agree]at h
  exact EZ hp (fun v j q k g h=>⟨h.1,LW b r _ _ _ _ _ hf.put g h.2⟩) h
structure bM(P:Program)(bef:Nat->Nat->Bool)(ops:List Oper)(i x:Nat):Prop where
 bef:bef i x=false
 apart:∀a b,ops[i]? =some a->ops[x]? =some b->Apart ops a b
 cls:∀a b,ops[i]? =some a->ops[x]? =some b->cls P a.op=0\/Vc.cls P b.op=0\/Vc.cls P a.op=1
theorem Ref.has{a:Act}(b:Ref nt ds fr a){d:Option Nat}(c:Fits nt d)(v:Option Value):∃a,Ref nt ds (Vc.put fr d v) a:=by
 cases d with
 |none=>exact⟨a,b⟩
 |some d=>
  cases v with
  |some v=>exact⟨_,b.put (c d rfl) v⟩
  |none=>exact⟨_,b.lose (some d) undef d rfl⟩
theorem pull{K:Fr->World->Prop}(z:∀f H w,Feq f H->K f w->K H w){x:Nat}{σ2:List Nat}:∀(σ1:List Nat)(fr:Fr)(w:World)(b:Past)(a:Act),Ref nt ds fr a->(∀i∈σ1,bM P bef ops i x)->
  runV wr P nt bef ops K (σ1++x::σ2) fr w b->runV wr P nt bef ops K (x::(σ1++σ2)) fr w b
 | [],fr,w,b,a,D,ht,h=>h
 |i::r,fr,w,b,a,D,ht,h=>by
  rw[cons_append,Dj]at h
  obtain⟨d,g,h⟩:=h
  have J:∀j∈r,bM P bef ops j x:=fun j T=>ht j (mem_cons_of_mem _ T)
  have k:=ht i (mem_cons_self ..)
  have G:stepD wr P bef ops i d fr w b fun v s l=>Fits nt d.dst/\runV wr P nt bef ops K (x::(r++σ2)) (put fr d.dst v) s l:=
   EZ (fun e A=>A) (fun v s p l m h=>by
    obtain⟨u,h⟩:=h
    obtain⟨U,L⟩:=D.has u v
    exact⟨u,LW z _ _ _ _ _ _ (fun t=>rfl) m (pull z r _ _ _ U L J h)⟩) h
  clear h
  have c:∃y,ops[x]? =some y:=by
   rcases J5 D G with⟨v,h,-⟩|⟨-,v,-,h,-⟩|⟨-,-,B⟩
   ·exact(Dj.1 h.2).elim fun o h=>⟨o,h.1⟩
   ·exact(Dj.1 h.2).elim fun o h=>⟨o,h.1⟩
   ·rw[B]at G
    obtain⟨rv,s,h⟩:=YZ G
    exact(Dj.1 (EW.1 h).2.2).elim fun o h=>⟨o,h.1⟩
  obtain⟨y,c⟩:=c
  have X:stepD wr P bef ops i d fr w b fun v s l=>Fits nt d.dst/\stepD wr P bef ops x y (put fr d.dst v) s l fun M N Y=>Fits nt y.dst/\runV wr P nt bef ops K (r++σ2) (put (put fr d.dst v) y.dst M) N Y:=
   EZ (fun e A=>A) (fun v s p l m h=>by
    obtain⟨u,h⟩:=h
    obtain⟨o',C,h⟩:=Dj.1 h
    rw[c]at C;cases C
    exact⟨u,EZ m (fun M N q Z O h=>⟨h.1,LW z _ _ _ _ _ _ (fun t=>rfl) O h.2⟩) h⟩) G
  have h4:=turn D (k.apart _ _ g c) k.bef (k.cls _ _ g c)
   (F:=fun f w p=>runV wr P nt bef ops K (r++σ2) f w p) (fun f H w p l u m h=>LW z _ _ _ _ _ _ u m h) X
  rw[Dj]
  refine⟨y,c,EZ (fun e A=>A) (fun M w1 p l m h=>?_) h4⟩
  obtain⟨R,h⟩:=h
  refine⟨R,?_⟩
  rw[cons_append,Dj]
  exact⟨d,g,EZ m (fun v N q Z O h=>⟨h.1,LW z _ _ _ _ _ _ (fun t=>rfl) O h.2⟩) h⟩
end
theorem aX(m:Region.Mode)(ops:Array Oper)(σ:List Nat)(hσ:forward m ops.toList σ=true):∀(fuel t:Nat)(listed:Array Bool)(acc:List Nat),listed.size=ops.size->
  (listed.toList.filter (! ·)).length=fuel->
  ∃L,Region.linearise.go m ops fuel t listed acc=acc.reverse++L/\(∀i:Nat,i∈L↔listed[i]? =some false)/\L.Nodup/\
   ∀A i B,L=A++i::B->∀o,ops[i]? =some o->∀e∈Es m o,listed[e]? =some true\/e∈A
 |0,t,listed,acc,hs,hf=>by
  refine⟨[],by simp[Region.linearise.go],fun i=>?_,nodup_nil,fun A i B h=>by cases A<;>cases h⟩
  simp only[List.not_mem_nil,false_iff]
  intro h
  have:false∈listed.toList:=by
   rw[Array.getElem?_eq_some_iff]at h
   obtain⟨h1,h2⟩:=h
   rw[<- h2];simp
  have h2:false∈listed.toList.filter (! ·):=mem_filter.2 ⟨this,rfl⟩
  rw[List.length_eq_zero_iff]at hf
  rw[hf]at h2;cases h2
 |fuel+1,t,listed,acc,hs,hf=>by
  have hex:∃i:Nat,listed[i]? =some false:=by
   have:(listed.toList.filter (! ·))≠[]:=by intro e;rw[e]at hf;simp at hf
   obtain⟨b,hb⟩:=List.exists_mem_of_ne_nil _ this
   rw[mem_filter]at hb
   obtain⟨h1,h2⟩:=hb
   obtain⟨i,hi⟩:=List.getElem?_of_mem h1
   refine⟨i,?_⟩
   rw[Array.getElem?_toList]at hi
   rw[hi];simpa using h2
  have hfree:∀(k i:Nat),listed[i]? =some false->X4 i σ<=k->∃j:Nat,listed[j]? =some false/\∀o,ops[j]? =some o->∀e∈Es m o,listed[e]? =some true:=by
   intro k
   induction k using Nat.strongRecOn with
   |_ k ih=>
    intro i hi hk
    by_cases hw:∀o,ops[i]? =some o->∀e∈Es m o,listed[e]? =some true
    ·exact⟨i,hi,hw⟩
    ·simp only[Classical.not_forall]at hw
     obtain⟨o,ho,e,he,hne⟩:=hw
     have hilt:i<ops.toList.length:=by
      have:=(Array.getElem?_eq_some_iff.1 ho).1;simpa using this
     have hall:=all_eq_true.1 hσ i (List.mem_range.2 hilt)
     have ho':ops.toList[i]? =some o:=by simpa using ho
     simp only[ho']at hall
     have h2:=all_eq_true.1 hall e he
     simp only[Bool.and_eq_true,decide_eq_true_eq]at h2
     have hef:listed[e]? =some false:=by
      have hlt:e<listed.size:=by rw[hs];simpa using h2.1
      rw[Array.getElem?_eq_getElem hlt]at hne⊢
      cases hl:listed[e]with
      |true=>exact absurd (by rw[hl]) hne
      |false=>rfl
     exact ih (X4 e σ) (by omega) e hef (Nat.le_refl _)
  obtain⟨i0,hi0⟩:=hex
  obtain⟨j0,hj0,hj0'⟩:=hfree _ i0 hi0 (Nat.le_refl _)
  have hrs:∀i:Nat,i∈((List.range ops.size).filter fun i=> !listed.getD i true&&((ops[i]?).map (·.after.all fun e=> !Region.binds m e||listed.getD e.on false)).getD false)↔
    listed[i]? =some false/\∀o,ops[i]? =some o->∀e∈Es m o,listed[e]? =some true:=by
   intro i
   rw[mem_filter,List.mem_range]
   constructor
   ·rintro⟨hlt,h⟩
    simp only[Bool.and_eq_true]at h
    obtain⟨h1,h2⟩:=h
    have hlt':i<listed.size:=by omega
    refine⟨?_,fun o ho e he=>?_⟩
    ·rw[Array.getElem?_eq_getElem hlt']
     rw[Array.getD_eq_getD_getElem?,Array.getElem?_eq_getElem hlt']at h1
     simp at h1;rw[h1]
    ·rw[ho]at h2
     simp only[Option.map_some,Option.getD_some]at h2
     simp only[Es,mem_map,mem_filter]at he
     obtain⟨ed,⟨he1,he2⟩,rfl⟩:=he
     have:=Array.all_eq_true'.1 h2 ed (by simpa using he1)
     simp only[he2,Bool.not_true,Bool.false_or]at this
     rw[Array.getD_eq_getD_getElem?]at this
     cases hx:listed[ed.on]? with
     |none=>rw[hx]at this;simp at this
     |some b=>rw[hx]at this;simp at this;rw[this]
   ·rintro⟨h1,h2⟩
    have hlt:i<ops.size:=by rw[<- hs];exact(Array.getElem?_eq_some_iff.1 h1).1
    refine⟨hlt,?_⟩
    simp only[Bool.and_eq_true]
    refine⟨by rw[Array.getD_eq_getD_getElem?,h1];rfl,?_⟩
    rw[Array.getElem?_eq_getElem hlt]
    simp only[Option.map_some,Option.getD_some]
    refine Array.all_eq_true'.2 fun ed hed=>?_
    cases hb:Region.binds m ed with
    |false=>rfl
    |true=>
     have:=h2 _ (Array.getElem?_eq_getElem hlt) ed.on (by
      simp only[Es,mem_map,mem_filter]
      exact⟨ed,⟨by simpa using hed,hb⟩,rfl⟩)
     rw[Array.getD_eq_getD_getElem?,this];rfl
  simp only[Region.linearise.go]
  generalize hR:((List.range ops.size).filter fun i=> !listed.getD i true&&((ops[i]?).map (·.after.all fun e=> !Region.binds m e||listed.getD e.on false)).getD false)=rs at hrs
  have hne:rs≠[]:=fun e=>by
   have:=(hrs j0).2 ⟨hj0,hj0'⟩
   rw[e]at this;cases this
  have hlen:t%rs.length<rs.length:=Nat.mod_lt _ (List.length_pos_iff.2 hne)
  rw[List.getElem?_eq_getElem hlen]
  simp only
  have him:rs[t%rs.length]∈rs:=List.getElem_mem hlen
  generalize rs[t%rs.length]=i at him
  obtain⟨hi,hie⟩:=(hrs i).1 him
  have hilt:i<listed.size:=(Array.getElem?_eq_some_iff.1 hi).1
  have hcount:((listed.setIfInBounds i true).toList.filter (! ·)).length=fuel:=by
   rw[Array.toList_setIfInBounds]
   have h1:listed.toList[i]? =some false:=by rw[Array.getElem?_toList];exact hi
   have key:∀(l:List Bool)(i:Nat),l[i]? =some false->((l.set i true).filter (! ·)).length+1=(l.filter (! ·)).length:=by
    intro l
    induction l with
    |nil=>intro i h;simp at h
    |cons b l ih=>
     intro i h
     cases i with
     |zero=>simp at h;subst h;simp
     |succ i=>
      simp only[List.getElem?_cons_succ]at h
      have:=ih i h
      cases b<;>simp[List.set_cons_succ,List.filter_cons]<;>omega
   have:=key _ _ h1
   omega
  obtain⟨L,e1,e2,e3,e4⟩:=aX m ops σ hσ fuel (t/rs.length) (listed.setIfInBounds i true) (i::acc) (by simpa using hs) hcount
  have hget:∀k:Nat,(listed.setIfInBounds i true)[k]? =if i=k then some true else listed[k]? :=by
   intro k
   rw[Array.getElem?_setIfInBounds]
   split
   ·first|rfl|rw[if_pos hilt]
   ·rfl
  refine⟨i::L,by rw[e1];simp,fun k=>?_,?_,?_⟩
  ·rw[mem_cons,e2,hget]
   by_cases hk:i=k
   ·subst hk;simp[hi]
   ·rw[if_neg hk]
    simp[Ne.symm hk]
  ·refine nodup_cons.2 ⟨fun h=>?_,e3⟩
   rw[e2,hget,if_pos rfl]at h
   cases h
  ·intro A k B hL o ho e he
   cases A with
   |nil=>
    simp at hL
    obtain⟨rfl,rfl⟩:=hL
    exact .inl (hie o ho e he)
   |cons a A=>
    simp at hL
    obtain⟨rfl,hL⟩:=hL
    rcases e4 A k B hL o ho e he with h|h
    ·rw[hget]at h
     split at h
     ·rename_i hik;subst hik;exact .inr (mem_cons_self ..)
     ·exact .inl h
    ·exact .inr (mem_cons_of_mem _ h)
structure Lists(m:Region.Mode)(ops:Array Oper)(τ:List Nat):Prop where
 mem:∀i,i∈τ↔i<ops.size
 nodup:τ.Nodup
 edge:∀A i B,τ=A++i::B->∀o,ops[i]? =some o->∀e∈Es m o,e∈A
theorem Tu{m:Region.Mode}{ops:Array Oper}{σ:List Nat}(a:forward m ops.toList σ=true)(t:Nat):Lists m ops (Region.linearise m ops t):=by
 obtain⟨L,b,c,d,f⟩:=aX m ops σ a ops.size t (Array.replicate ops.size false) [] (by simp) (by simp)
 have e:Region.linearise m ops t=L:=by simpa [Region.linearise]using b
 rw[e]
 refine⟨fun i=>?_,d,fun A i B h o g e j=>?_⟩
 ·rw[c,Array.getElem?_replicate]
  split<;>simp_all
 ·rcases f A i B h o g e j with h|h
  ·rw[Array.getElem?_replicate]at h
   split at h<;>cases h
  ·exact h
theorem any_of_mode{m:Region.Mode}{o:Oper}{e:Nat}(h:e∈Es .any o):e∈Es m o:=by
 simp only[Es,mem_map,mem_filter]at h⊢
 obtain⟨b,⟨c,a⟩,rfl⟩:=h
 refine⟨b,⟨c,?_⟩,rfl⟩
 simp only[Region.binds]at a⊢
 split at a<;>first|rfl|cases a
def Good(τ:List Nat)(cl:List Nat):Prop:=∀i j,before cl i j=true->∀A B,τ=A++j::B->i∈A
theorem ZI(f g:Nat->Nat):∀(l:List Nat)(s i:Nat),Nat.testBit (l.foldl (fun s e=>Nat.lor s (Nat.lor (Nat.pow 2 e) (Nat.lor (f e) (g e)))) s) i=true->
  Nat.testBit s i=true\/∃e∈l,i=e\/Nat.testBit (f e) i=true\/Nat.testBit (g e) i=true
 | [],s,i,h=>.inl h
 |e::r,s,i,h=>by
  rw[foldl_cons]at h
  rcases ZI f g r _ i h with h|⟨b,a,h⟩
  ·have h:Nat.testBit (s|||(2^e|||(f e|||g e))) i=true:=h
   rw[Nat.testBit_or,Nat.testBit_or,Nat.testBit_or]at h
   simp only[Bool.or_eq_true]at h
   rcases h with h|h|h|h
   ·exact .inl h
   ·rw[Nat.testBit_two_pow]at h
    exact .inr ⟨e,mem_cons_self ..,.inl (of_decide_eq_true h).symm⟩
   ·exact .inr ⟨e,mem_cons_self ..,.inr (.inl h)⟩
   ·exact .inr ⟨e,mem_cons_self ..,.inr (.inr h)⟩
  ·exact .inr ⟨b,mem_cons_of_mem _ a,h⟩
theorem Uw(τ:List Nat):Good τ []:=by
 intro i j h
 simp[before,getN]at h
theorem MJ{m:Region.Mode}{ops:Array Oper}{τ:List Nat}(D:Lists m ops τ){ex:List (Nat×Nat)}(t:∀p∈ex,∀A B,τ=A++p.2::B->p.1∈A){b:List Nat}(F:Good τ b):
  Good τ (Ym ex b ops.toList):=by
 have u:∀(l done:List Oper)(a:List Nat),ops.toList=done++l->a.length=done.length->Good τ a->
   Good τ (l.foldl (fun a o=>a++[(ZX ex a.length o).foldl (fun s e=>Nat.lor s (Nat.lor (Nat.pow 2 e) (Nat.lor (getN a e) (getN b e)))) 0]) a):=by
  intro l
  induction l with
  |nil=>exact fun done a _ _ h=>h
  |cons o r G=>
   intro done a z c C
   rw[foldl_cons]
   refine G (done++[o]) _ (by rw[z];simp) (by simp[c]) ?_
   intro i j d A B k
   simp only[before,getN]at d
   by_cases H:j<a.length
   ·rw[List.getElem?_append_left H]at d
    exact C i j d A B k
   ·by_cases w:j=a.length
    ·subst w
     rw[List.getElem?_append_right (Nat.le_refl _)]at d
     simp only[Nat.sub_self,List.getElem?_cons_zero,Option.getD_some]at d
     rcases ZI _ _ _ _ _ d with h|⟨e,q,h⟩
     ·simp at h
     ·have f:e∈A:=by
       simp only[ZX,List.mem_append,mem_map,mem_filter]at q
       rcases q with q|⟨p,⟨x,g⟩,rfl⟩
       ·refine D.edge A _ B k o ?_ e (any_of_mode ?_)
        ·have:ops.toList[a.length]? =some o:=by rw[z,c];simp
         simpa using this
        ·simpa [Es,fE]using q
       ·have g:=Nat.eq_of_beq_eq_true g
        exact t p x A B (by rw[g];exact k)
      rcases h with rfl|h|h
      ·exact f
      ·obtain⟨A1,y,rfl⟩:=append_of_mem f
       exact mem_append_left _ (C i e h A1 (y++a.length::B) (by rw[k];simp))
      ·obtain⟨A1,y,rfl⟩:=append_of_mem f
       exact mem_append_left _ (F i e h A1 (y++a.length::B) (by rw[k];simp))
    ·rw[List.getElem?_eq_none (by simp;omega)]at d
     simp at d
 exact u ops.toList [] [] rfl rfl (Uw τ)
theorem Nz{m:Region.Mode}{ops:Array Oper}{τ:List Nat}(b:Lists m ops τ){ex:List (Nat×Nat)}(a:∀p∈ex,∀A B,τ=A++p.2::B->p.1∈A):Good τ (closure ex ops.toList):=by
 unfold closure
 split
 ·exact MJ b (fun p c=>by cases c) (Uw τ)
 ·exact MJ b a (MJ b a (MJ b a (Uw τ)))
theorem UL{x:Nat}:∀{l:List Nat},l.Nodup->(∀y,y∈remove x l↔y∈l/\y≠x)/\(remove x l).Nodup/\(x∈l->(remove x l).length+1=l.length)
 | [],h=>⟨by simp[remove],by simp[remove],by simp⟩
 |z::r,h=>by
  simp only[remove]
  rw[nodup_cons]at h
  cases hb:Nat.beq x z with
  |true=>
   have:=Nat.eq_of_beq_eq_true hb;subst this
   refine⟨fun y=>?_,h.2,fun _=>by simp⟩
   simp only[mem_cons]
   constructor
   ·intro a;exact⟨.inr a,fun e=>h.1 (e▸a)⟩
   ·rintro⟨a|a,b⟩
    ·exact absurd a b
    ·exact a
  |false=>
   have b:x≠z:=fun e=>by subst e;simp at hb
   obtain⟨f,g,i⟩:=UL (x:=x) h.2
   refine⟨fun y=>?_,?_,fun j=>?_⟩
   ·simp only[mem_cons,f]
    constructor
    ·rintro(rfl|⟨a,c⟩)
     ·exact⟨.inl rfl,Ne.symm b⟩
     ·exact⟨.inr a,c⟩
    ·rintro⟨rfl|a,c⟩
     ·exact .inl rfl
     ·exact .inr ⟨a,c⟩
   ·exact nodup_cons.2 ⟨fun k=>h.1 ((f z).1 k).1,g⟩
   ·have d:=(mem_cons.1 j).resolve_left b
    simp[i d]
theorem Ye{d:List Nat}:∀(n:Nat)(l eo:List Nat),l.length=n->l.Nodup->eo.Nodup->(∀x,x∈eo↔x∈l)->(∀x∈l,before d x x=false)->(∀A x B,eo=A++x::B->∀y∈B,before d y x=false)->eo∈KI d n l
 |0,l,eo,hn,hl,he,hm,hx,hr=>by
  have:l=[]:=List.eq_nil_of_length_eq_zero hn
  subst this
  have:eo=[]:=by
   cases eo with
   |nil=>rfl
   |cons x r=>exact absurd ((hm x).1 (mem_cons_self ..)) (by simp)
  subst this
  simp[KI]
 |n+1,l,eo,hn,hl,he,hm,hx,hr=>by
  cases eo with
  |nil=>
   cases l with
   |nil=>simp at hn
   |cons x r=>exact absurd ((hm x).2 (mem_cons_self ..)) (by simp)
  |cons x r=>
   have b:=(hm x).1 (mem_cons_self ..)
   simp only[KI,List.mem_flatMap,mem_filter,mem_map]
   obtain⟨h,i,j⟩:=UL (x:=x) hl
   rw[nodup_cons]at he
   refine⟨x,⟨b,all_eq_true.2 fun y a=>?_⟩,r,?_,rfl⟩
   ·by_cases c:y=x
    ·subst c;rw[hx y b];rfl
    ·have:=((hm y).2 a)
     rw[hr [] x r rfl y ((mem_cons.1 this).resolve_left c)];rfl
   ·refine Ye n (remove x l) r (by have:=j b;omega) i he.2 (fun y=>?_) (fun y a=>hx y ((h y).1 a).1) (fun A z B f y a=>hr (x::A) z B (by rw[f];rfl) y a)
    rw[h]
    constructor
    ·intro a;exact⟨(hm y).1 (mem_cons_of_mem _ a),fun e=>he.1 (e▸a)⟩
    ·rintro⟨a,g⟩
     exact(mem_cons.1 ((hm y).2 a)).resolve_left g
theorem Vb:∀{eo:List Nat}{x y:Nat},(x,y)∈chainOf eo->∃C D,eo=C++x::y::D
 | [],x,y,h=>by simp[chainOf]at h
 | [z],x,y,h=>by simp[chainOf]at h
 |z::u::r,x,y,h=>by
  simp only[chainOf]at h
  rcases mem_cons.1 h with h|h
  ·cases h;exact⟨[],r,rfl⟩
  ·obtain⟨C,D,e⟩:=Vb (eo:=u::r) h
   exact⟨z::C,D,by rw[e];rfl⟩
theorem chain_good{τ:List Nat}(hn:τ.Nodup)(p:Nat->Bool):∀q∈chainOf (τ.filter p),∀A B,τ=A++q.2::B->q.1∈A:=by
 rintro⟨x,y⟩ l A B g
 obtain⟨C,D,e⟩:=Vb l
 have k:p y=true:=by
  have:y∈τ.filter p:=by rw[e];simp
  exact(mem_filter.1 this).2
 have r:x∈τ/\p x=true:=by
  have:x∈τ.filter p:=by rw[e];simp
  exact mem_filter.1 this
 simp only at g
 rw[g,filter_append,List.filter_cons_of_pos k]at e
 have i:(A.filter p++y::B.filter p).Nodup:=by
  have:=hn.filter p
  rwa [g,filter_append,List.filter_cons_of_pos k]at this
 have j:∀(c b d f:List Nat),c++y::d=b++y::f->(c++y::d).Nodup->c=b:=by
  intro c
  induction c with
  |nil=>
   intro b d f h a
   cases b with
   |nil=>rfl
   |cons z b=>
    simp only[nil_append,cons_append,List.cons.injEq]at h
    obtain⟨rfl,h⟩:=h
    rw[h]at a
    simp[nodup_cons]at a
  |cons z c m=>
   intro b d f h a
   cases b with
   |nil=>
    simp only[nil_append,cons_append,List.cons.injEq]at h
    obtain⟨rfl,h⟩:=h
    simp[nodup_cons]at a
   |cons u b=>
    simp only[cons_append,List.cons.injEq]at h
    obtain⟨rfl,h⟩:=h
    rw[m b d f h (nodup_cons.1 a).2]
 have o:=j (A.filter p) (C++[x]) (B.filter p) D (by rw[e];simp) i
 have:x∈A.filter p:=by rw[o];simp
 exact(mem_filter.1 this).1
theorem LJ{P:Program}:∀(l:List Oper)(k i:Nat),i∈DW P l k↔k<=i/\∃o,l[i-k]? =some o/\cls P o.op≠0/\cls P o.op≠1
 | [],k,i=>by simp[DW]
 |o::r,k,i=>by
  have h:=LJ (P:=P) r (k+1) i
  have b:(k+1<=i/\∃o,r[i-(k+1)]? =some o/\cls P o.op≠0/\cls P o.op≠1)↔(k<=i/\i≠k/\∃d,(o::r)[i-k]? =some d/\cls P d.op≠0/\cls P d.op≠1):=by
   constructor
   ·rintro⟨c,m⟩
    refine⟨by omega,by omega,?_⟩
    rw[show i-k=(i-(k+1))+1 by omega]
    simpa using m
   ·rintro⟨c,m,a⟩
    refine⟨by omega,?_⟩
    rw[show i-k=(i-(k+1))+1 by omega]at a
    simpa using a
  simp only[DW]
  split
  ·rename_i j
   rw[h,b]
   constructor
   ·rintro⟨c,_,a⟩;exact⟨c,a⟩
   ·rintro⟨c,d,a,g⟩
    refine⟨c,fun e=>?_,d,a,g⟩
    subst e;simp at a;subst a;exact g.1 j
  ·rename_i j
   rw[h,b]
   constructor
   ·rintro⟨c,_,a⟩;exact⟨c,a⟩
   ·rintro⟨c,d,a,g⟩
    refine⟨c,fun e=>?_,d,a,g⟩
    subst e;simp at a;subst a;exact g.2 j
  ·rename_i p c
   rw[mem_cons,h,b]
   constructor
   ·rintro(rfl|⟨f,_,a⟩)
    ·exact⟨Nat.le_refl _,o,by simp,p,c⟩
    ·exact⟨f,a⟩
   ·rintro⟨f,a⟩
    by_cases e:i=k
    ·exact .inl e
    ·exact .inr ⟨f,e,a⟩
theorem NG{P:Program}:∀(l:List Oper)(k:Nat),(DW P l k).Nodup
 | [],k=>nodup_nil
 |o::r,k=>by
  have a:=NG (P:=P) r (k+1)
  simp only[DW]
  split
  ·exact a
  ·exact a
  ·refine nodup_cons.2 ⟨fun h=>?_,a⟩
   rw[LJ]at h
   omega
theorem Ub:∀(n:Nat)(σ:List Nat),σ.Nodup->(∀k∈σ,k<n)->σ.length<=n
 |0,σ,h,hk=>by
  cases σ with
  |nil=>simp
  |cons i r=>exact absurd (hk i (mem_cons_self ..)) (by omega)
 |n+1,σ,h,hk=>by
  by_cases b:n∈σ
  ·have c:=Ub n (σ.erase n) (h.erase n) (fun k a=>by
    have d:=hk k (List.mem_of_mem_erase a)
    have f:k≠n:=(h.mem_erase_iff.1 a).1
    omega)
   rw[List.length_erase_of_mem b]at c
   omega
  ·have c:=Ub n σ h (fun k a=>by
    have d:=hk k a
    have f:k≠n:=fun e=>b (e▸a)
    omega)
   omega
theorem Yl{f:Nat->Nat->Bool}:∀{σ:List Nat},RV f σ=true->σ.Pairwise (fun i j=>f i j=true)
 | [],_=>List.Pairwise.nil
 |i::r,h=>by
  simp only[RV,Bool.and_eq_true]at h
  exact List.Pairwise.cons (fun j a=>all_eq_true.1 h.1 j a) (Yl h.2)
theorem ZG:∀{σ:List Nat},nodupB σ=true->σ.Nodup
 | [],_=>nodup_nil
 |i::r,h=>by
  simp only[nodupB,Bool.and_eq_true]at h
  exact nodup_cons.2 ⟨by simpa using h.1,ZG h.2⟩
section
variable{wr:Bool}{P:Program}{nt:Nat}{ds:List Deferred}{rd:Option Nat}{n:Nat}
theorem Ref.putv{fr:Fr}{a:Act}(b:Ref nt ds fr a){d:Option Nat}(e:Fits nt d){c:Option Value}{v:Value}(hv:∀u,c=some u->v=u):Ref nt ds (Vc.put fr d c) (a.put d v):=by
 cases d with
 |none=>exact b
 |some d=>
  cases c with
  |some u=>cases hv u rfl;exact b.put (e d rfl) v
  |none=>exact b.lose (some d) v d rfl
theorem YC(J:MS P){c:Array Oper}{Q:Exit->Act->World->Prop}{K:Fr->World->Prop}(L:∀f M w,Feq f M->K f w->K M w)(N:∀fr w a,K fr w->Ref nt ds fr a->Q .normal a w):
  ∀(cl τ σ:List Nat)(fr:Fr)(w:World)(d:Past)(a:Act),(∀i,i∈σ↔i∈τ)->σ.Nodup->τ.Nodup->
   (∀A x B,τ=A++x::B->∀i∈B,before cl i x=false)->
   σ.Pairwise (fun i j=>ZY P c.toList cl i j=true)->
   runV wr P nt (before cl) c.toList K σ fr w d->Ref nt ds fr a->wpOpsIn (W rd) n P c Q τ a w
 |cl,[],σ,fr,w,d,a,hm,hs,ht,hresp,hp,h,hr=>by
  have:σ=[]:=by
   cases σ with
   |nil=>rfl
   |cons i r=>exact absurd ((hm i).1 (mem_cons_self ..)) (by simp)
  subst this
  exact N _ _ _ h hr
 |cl,x::τ',σ,fr,w,d,a,hm,hs,ht,hresp,hp,h,hr=>by
  obtain⟨σ1,σ2,rfl⟩:=append_of_mem ((hm x).2 (mem_cons_self ..))
  have s:∀i∈σ1,i≠x:=by
   intro i k e
   subst e
   rw[nodup_append]at hs
   exact hs.2.2 i k i (mem_cons_self ..) rfl
  have l:∀i∈σ1,bM P (before cl) c.toList i x:=by
   intro i k
   have z:i∈τ':=by
    have:=(hm i).1 (mem_append_left _ k)
    exact(mem_cons.1 this).resolve_left (s i k)
   have q:before cl i x=false:=hresp [] x τ' rfl i z
   have t:=(List.pairwise_append.1 hp).2.2 i k x (mem_cons_self ..)
   simp only[ZY,q,Bool.false_or,Bool.and_eq_true]at t
   obtain⟨⟨-,C⟩,D⟩:=t
   refine⟨q,fun a b m p=>apart_of m p C,fun a b m p=>?_⟩
   simp only[m,p]at D
   split at D
   ·left;assumption
   ·right;left;assumption
   ·right;right;assumption
   ·cases D
  have R:=pull L σ1 fr w d a hr l h
  obtain⟨o,T,U⟩:=Dj.1 R
  refine VW J T U hr fun Z w' p' O v X=>?_
  refine YC J L N cl τ' (σ1++σ2) _ _ _ _ (fun i=>?_) ?_ (nodup_cons.1 ht).2 ?_ ?_ O.2 (hr.putv O.1 X)
  ·have F:=hm i
   simp only[List.mem_append,mem_cons]at F⊢
   have G:x∉τ':=(nodup_cons.1 ht).1
   have H:x∉σ2:=by
    rw[nodup_append]at hs
    exact(nodup_cons.1 hs.2.1).1
   constructor
   ·intro g
    have:=F.1 (g.imp id .inr)
    refine this.resolve_left fun e=>?_
    subst e
    rcases g with g|g
    ·exact s _ g rfl
    ·exact H g
   ·intro g
    have:=F.2 (.inr g)
    rcases this with u|u|u
    ·exact .inl u
    ·subst u;exact absurd g G
    ·exact .inr u
  ·rw[nodup_append]at hs⊢
   refine⟨hs.1,(nodup_cons.1 hs.2.1).2,fun a m b q=>hs.2.2 a m b (mem_cons_of_mem _ q)⟩
  ·intro A y B Y i k
   exact hresp (x::A) y B (by rw[Y];rfl) i k
  ·rw[List.pairwise_append]at hp⊢
   exact⟨hp.1,(List.pairwise_cons.1 hp.2.1).2,fun a m b q=>hp.2.2 a m b (mem_cons_of_mem _ q)⟩
theorem QY{f:List Nat->Prop}:∀{l:List (List Nat)}{x:List Nat},x∈l->J9 f l->f x
 | [y],x,a,h=>by
  simp only[List.mem_singleton]at a;subst a;exact h
 |y::z::r,x,a,h=>by
  rcases mem_cons.1 a with rfl|a
  ·exact h.1
  ·exact QY a h.2
def oneV(wr:Bool)(P:Program)(nt:Nat)(opsA:Array Oper)(K:Fr->World->Prop)(fr:Fr)(w:World)(eo:List Nat):Prop:=
 match closure (chainOf eo) opsA.toList with
 |cl=>match Xf P opsA.toList cl (List.range opsA.toList.length) opsA.toList.length 0 with
  |σ=>match ZQ P opsA cl σ with
   |true=>runV wr P nt (before cl) opsA.toList K σ fr w []
   |false=>False
theorem WU{a:Array Oper}{K b:Fr->World->Prop}{fr:Fr}{w:World}{eo:List Nat}
  (d:∀c σ,runV wr P nt (before c) a.toList K σ fr w []->runV wr P nt (before c) a.toList b σ fr w []) (h:oneV wr P nt a K fr w eo):oneV wr P nt a b fr w eo:=by
 simp only[oneV]at h⊢
 split at h
 ·exact d _ _ h
 ·exact h.elim
theorem Jo{f g:List Nat->Prop}(a:∀x,f x->g x):∀{l:List (List Nat)},J9 f l->J9 g l
 | [],h=>h
 | [x],h=>a x h
 |x::y::r,h=>⟨a x h.1,Jo a h.2⟩
theorem draw_upon(hN:MS P){opsA:Array Oper}{Q:Exit->Act->World->Prop}{K:Fr->World->Prop}(hK:∀f f' w,Feq f f'->K f w->K f' w)(hQ:∀fr w a,K fr w->Ref nt ds fr a->Q .normal a w)
  {fr:Fr} {w:World} {a:Act} (hbase:Tm opsA=true)
  (h:J9 (oneV wr P nt opsA K fr w) (KI (closure [] opsA.toList) (DW P opsA.toList 0).length (DW P opsA.toList 0))) (hr:Ref nt ds fr a) (mixed:Bool) (t:Nat):
  wpOpsIn (W rd) n P opsA Q (Region.schedule mixed opsA t) a w:=by
 simp only[Tm,Bool.and_eq_true]at hbase
 obtain⟨hfa,hdep⟩:=hbase
 have hlists:∃m,Lists m opsA (Region.schedule mixed opsA t):=by
  simp only[Region.schedule]
  split
  ·exact⟨_,Tu hfa t⟩
  ·rename_i hc
   have hd:Region.departs opsA=true:=by
    cases hd:Region.departs opsA with
    |true=>rfl
    |false=>rw[hd]at hc;simp at hc
   simp only[hd,Bool.not_true,Bool.false_or,Bool.and_eq_true]at hdep
   split
   ·exact⟨_,Tu hdep.1 _⟩
   ·exact⟨_,Tu hdep.2 _⟩
 obtain⟨m,hl⟩:=hlists
 generalize Region.schedule mixed opsA t=τ at hl⊢
 let p:Nat->Bool:=fun i=>(DW P opsA.toList 0).contains i
 have hgood0:=Nz (ex:=[]) hl (fun q hq=>by cases hq)
 have hself:∀cl,Good τ cl->∀x∈τ,before cl x x=false:=by
  intro cl hg x hx
  cases hb:before cl x x with
  |false=>rfl
  |true=>
   obtain⟨A,B,rfl⟩:=append_of_mem hx
   have:=hg x x hb A B rfl
   have hn:=hl.nodup
   rw[nodup_append]at hn
   exact absurd rfl (hn.2.2 x this x (mem_cons_self ..))
 have hresp:∀cl,Good τ cl->∀A x B,τ=A++x::B->∀i∈B,before cl i x=false:=by
  intro cl hg A x B hτ i hi
  cases hb:before cl i x with
  |false=>rfl
  |true=>
   have hA:=hg i x hb A B hτ
   have hn:=hl.nodup
   rw[hτ,nodup_append]at hn
   exact absurd rfl (hn.2.2 i hA i (mem_cons_of_mem _ hi))
 have htm:∀x,x∈DW P opsA.toList 0->x∈τ:=by
  intro x hx
  rw[LJ]at hx
  obtain⟨-,o,ho,-⟩:=hx
  rw[hl.mem]
  have:=(List.getElem?_eq_some_iff.1 ho).1
  simpa using this
 have hmem:τ.filter p∈KI (closure [] opsA.toList) (DW P opsA.toList 0).length (DW P opsA.toList 0):=by
  refine Ye _ _ _ rfl (NG _ _) (hl.nodup.filter p) (fun x=>?_) (fun x hx=>hself _ hgood0 x (htm x hx)) (fun A x B hAB y hy=>?_)
  ·rw[mem_filter]
   constructor
   ·rintro⟨-,h2⟩;simpa [p]using h2
   ·intro hx;exact⟨htm x hx,by simpa [p]using hx⟩
  ·cases hb:before (closure [] opsA.toList) y x with
   |false=>rfl
   |true=>
    have hxτ:x∈τ:=(mem_filter.1 (by rw[hAB];simp:x∈τ.filter p)).1
    have hyf:y∈τ.filter p:=by rw[hAB];simp[hy]
    obtain⟨A1,B1,hτ⟩:=append_of_mem hxτ
    have hyA:=hgood0 y x hb A1 B1 hτ
    have hpx:p x=true:=(mem_filter.1 (by rw[hAB];simp:x∈τ.filter p)).2
    have hpy:p y=true:=(mem_filter.1 hyf).2
    have hnf:(τ.filter p).Nodup:=hl.nodup.filter p
    have e:τ.filter p=A1.filter p++x::B1.filter p:=by rw[hτ,filter_append,List.filter_cons_of_pos hpx]
    have hyA1:y∈A1.filter p:=mem_filter.2 ⟨hyA,hpy⟩
    have hAeq:A1.filter p=A:=by
     rw[hAB]at e hnf
     have key:∀(l1 l2 r1 r2:List Nat),l1++x::r1=l2++x::r2->(l1++x::r1).Nodup->l1=l2:=by
      intro l1
      induction l1 with
      |nil=>
       intro l2 r1 r2 h hnd
       cases l2 with
       |nil=>rfl
       |cons z l2=>
        simp only[nil_append,cons_append,List.cons.injEq]at h
        obtain⟨rfl,h⟩:=h
        rw[h]at hnd
        simp[nodup_cons]at hnd
      |cons z l1 ih=>
       intro l2 r1 r2 h hnd
       cases l2 with
       |nil=>
        simp only[nil_append,cons_append,List.cons.injEq]at h
        obtain⟨rfl,h⟩:=h
        simp[nodup_cons]at hnd
       |cons u l2=>
        simp only[cons_append,List.cons.injEq]at h
        obtain⟨rfl,h⟩:=h
        rw[ih l2 r1 r2 h (nodup_cons.1 hnd).2]
     exact(key A (A1.filter p) B (B1.filter p) e hnf).symm
    rw[hAeq]at hyA1
    rw[hAB,nodup_append]at hnf
    exact absurd rfl (hnf.2.2 y hyA1 y (mem_cons_of_mem _ hy))
 have h1:=QY hmem h
 have hgood:=Nz (ex:=chainOf (τ.filter p)) hl (chain_good hl.nodup p)
 simp only[oneV]at h1
 split at h1
 ·rename_i hok
  simp only[ZQ,Bool.and_eq_true,decide_eq_true_eq]at hok
  obtain⟨⟨⟨hlen,hnd⟩,hall⟩,hpairs⟩:=hok
  have hs:=ZG hnd
  refine YC hN hK hQ _ _ _ fr w [] a (fun i=>?_) hs hl.nodup (hresp _ hgood) (Yl hpairs) h1 hr
  rw[hl.mem]
  constructor
  ·intro hi
   have:=all_eq_true.1 hall i hi
   simpa using this
  ·intro hi
   apply Classical.byContradiction
   intro hn
   have:=Ub opsA.size (i::_) (nodup_cons.2 ⟨hn,hs⟩) (fun k hk=>by
    rcases mem_cons.1 hk with h|h
    ·omega
    ·have:=all_eq_true.1 hall k h
     simpa using this)
   rw[length_cons]at this
   have e:opsA.toList.length=opsA.size:=Array.length_toList
   omega
 ·exact h1.elim
end
def Keep(ms:List Nat)(fr fr':Fr):Prop:=∀t,t∉ms->fget fr' t=fget fr t
theorem Keep.refl(c:List Nat)(fr:Fr):Keep c fr fr:=fun _ _=>rfl
theorem Keep.trans{d:List Nat}{a b c:Fr}(h:Keep d a b)(f:Keep d b c):Keep d a c:=fun t e=>(f t e).trans (h t e)
theorem Keep.more{d c:List Nat}{a b:Fr}(h:Keep d a b)(e:∀t∈d,t∈c):Keep c a b:=fun t f=>h t fun g=>f (e t g)
theorem opsMods_mem{ops:List Oper}{o:Oper}{d:Nat}(h:o∈ops)(e:o.dst=some d):d∈MK ops:=by
 induction ops with
 |nil=>cases h
 |cons x r c=>
  simp only[MK]
  rcases mem_cons.1 h with rfl|h
  ·rw[e];exact mem_cons_self ..
  ·cases x.dst with
   |none=>exact c h
   |some _=>exact mem_cons_of_mem _ (c h)
section
variable{wr:Bool}{P:Program}{bef:Nat->Nat->Bool}{ops:List Oper}{nt:Nat}{ds:List Deferred}
theorem ZJ{K:Fr->World->Prop}:∀(σ:List Nat)(fr:Fr)(w:World)(p c:Past),(∀e∈c,e∈p)->runV wr P nt bef ops K σ fr w p->runV wr P nt bef ops K σ fr w c
 | [],fr,w,p,c,hp,h=>h
 |i::r,fr,w,p,c,hp,h=>by
  rw[Dj]at h⊢
  obtain⟨o,d,h⟩:=h
  exact⟨o,d,EZ hp (fun v g q j f h=>⟨h.1,ZJ r _ _ _ _ f h.2⟩) h⟩
theorem Om{K d:Fr->World->Prop}:∀(σ:List Nat)(fr:Fr)(w:World)(p:Past),runV wr P nt bef ops K σ fr w p->(∀fr' w',K fr' w'->Keep (MK ops) fr fr'->d fr' w')->runV wr P nt bef ops d σ fr w p
 | [],fr,w,p,h,hk=>hk _ _ h (Keep.refl _ _)
 |i::r,fr,w,p,h,hk=>by
  rw[Dj]at h⊢
  obtain⟨o,f,h⟩:=h
  refine⟨o,f,EZ (fun e g=>g) (fun v w' q u j h=>⟨h.1,?_⟩) h⟩
  refine Om r _ _ _ (ZJ r _ _ _ _ j h.2) fun fr' l m c=>hk _ _ m ?_
  refine Keep.trans (b:=put fr o.dst v) ?_ c
  intro t n
  exact JO fun x s e=>n (e▸opsMods_mem (List.mem_of_getElem? f) s)
end
theorem Jk:∀{st:List (Nat×Kd)}{fr:Fr}{K c:StTy st->Prop},(∀s,K s->c s)->Gg st fr K->Gg st fr c
 | [],fr,K,c,hk,h=>hk _ h
 | [x],fr,K,c,hk,h=>by
  simp only[Gg]at h⊢
  split at h
  ·split at h
   ·exact hk _ h
   ·exact h.elim
  ·exact h.elim
 |x::y::r,fr,K,c,hk,h=>by
  simp only[Gg]at h⊢
  split at h
  ·split at h
   ·exact Jk (st:=y::r) (fun s h=>hk _ h) h
   ·exact h.elim
  ·exact h.elim
theorem Zm{k:Kd}{v:Value}{s:KTy k}(h:fromV k v=some s):v=toV k s:=by
 cases k with
 |inl k=>
  cases v<;>simp only[fromV]at h<;>try cases h
  split at h
  ·rename_i c
   have c:=of_decide_eq_true c
   cases h;subst c;rfl
  ·cases h
 |inr n=>
  rcases n with _|_|_|_|_|n
  ·cases v<;>first|(cases h;rfl)|cases h
  ·cases v<;>first|(cases h;rfl)|cases h
  ·cases v<;>first|(cases h;rfl)|cases h
  ·cases v<;>first|(cases h;rfl)|cases h
  ·cases v<;>first|(cases h;rfl)|cases h
  ·have d:(some v:Option (KTy (.inr (n+5))))=some s:=by cases v<;>exact h
   exact Option.some.inj d
theorem UI:∀{st:List (Nat×Kd)}{fr:Fr}{K:StTy st->Prop},Gg st fr K->∃s,K s/\∀d t v,fget (setSt st s d) t=some v->fget fr t=some v\/(t∉st.map (·.1)/\fget d t=some v)
 | [],fr,K,h=>⟨(),h,fun d t v e=>.inr ⟨by simp,e⟩⟩
 | [x],fr,K,h=>by
  simp only[Gg]at h
  split at h
  ·rename_i u g
   split at h
   ·rename_i s i
    refine⟨s,h,fun d t v e=>?_⟩
    simp only[setSt]at e
    by_cases c:t=x.1
    ·subst c
     rw[D6]at e
     cases e
     left;rw[g,Zm i]
    ·rw[BZ _ _ _ _ c]at e
     exact .inr ⟨by simpa using c,e⟩
   ·exact h.elim
  ·exact h.elim
 |x::y::r,fr,K,h=>by
  simp only[Gg]at h
  split at h
  ·rename_i u g
   split at h
   ·rename_i s i
    obtain⟨l,h,f⟩:=UI (st:=y::r) h
    refine⟨(s,l),h,fun d t v e=>?_⟩
    simp only[setSt]at e
    by_cases c:t=x.1
    ·subst c
     rw[D6]at e
     cases e
     left;rw[g,Zm i]
    ·rw[BZ _ _ _ _ c]at e
     rcases f d t v e with j|⟨j,m⟩
     ·exact .inl j
     ·exact .inr ⟨by simpa [c]using j,m⟩
   ·exact h.elim
  ·exact h.elim
theorem QF:∀{st:List (Nat×Kd)}{s:StTy st}{fr:Fr}{t:Nat},t∉st.map (·.1)->fget (setSt st s fr) t=fget fr t
 | [],s,fr,t,h=>rfl
 | [x],s,fr,t,h=>by
  simp at h
  exact BZ _ _ _ _ h
 |x::y::r,s,fr,t,h=>by
  simp only[setSt]
  simp only[map_cons,mem_cons,not_or]at h
  rw[BZ _ _ _ _ h.1]
  exact QF (st:=y::r) (by simp[h.2.1];simpa using h.2.2)
theorem Yk:∀{d:List Nat}{fr:Fr}{t:Nat},t∈d->fget (IU d fr) t=none
 |x::r,fr,t,h=>by
  simp only[IU]
  by_cases c:t=x
  ·subst c;exact D6 ..
  ·rw[BZ _ _ _ _ c]
   exact Yk ((mem_cons.1 h).resolve_left c)
theorem PG:∀{c:List Nat}{fr:Fr}{t:Nat},t∉c->fget (IU c fr) t=fget fr t
 | [],fr,t,h=>rfl
 |x::r,fr,t,h=>by
  simp only[IU]
  simp only[mem_cons,not_or]at h
  rw[BZ _ _ _ _ h.1]
  exact PG h.2
theorem Yi:∀{st:List (Nat×Kd)}{d:List Nat},stOk st d=true->∀t∈st.map (·.1),t∈d
 | [],d,h,t,c=>by cases c
 |x::r,d,h,t,c=>by
  simp only[stOk,Bool.and_eq_true]at h
  rcases mem_cons.1 c with rfl|c
  ·simpa using h.1
  ·exact Yi h.2 t c
theorem Ky{st:List (Nat×Kd)}{c:List Nat}(d:stOk st c=true)(s:StTy st)(fr:Fr):Keep c fr (setSt st s (IU c fr)):=by
 intro t e
 rw[QF fun h=>e (Yi d t h),PG e]
section
variable{P:Program}{nt:Nat}{ds:List Deferred}
theorem OX{st:List (Nat×Kd)}{d:List Nat}(j:stOk st d=true){fr fr':Fr}{a:Act}(e:Ref nt ds fr' a)(l:Keep d fr fr'){K:StTy st->Prop}(h:Gg st fr' K):
  ∃s,K s/\Ref nt ds (setSt st s (IU d fr)) a:=by
 obtain⟨s,h,c⟩:=UI h
 refine⟨s,h,e.size,e.defers,fun t v m=>?_⟩
 rcases c _ t v m with i|⟨i,f⟩
 ·exact e.val t v i
 ·by_cases g:t∈d
  ·rw[Yk g]at f;cases f
  ·rw[PG g]at f
   exact e.val t v (by rw[l t g,f])
theorem V8{St:Type}{d c:St->World->(St->World->Prop)->Prop}(e:∀s w next,d s w next->c s w next){s:St}{w:World}(h:AP d s w):AP c s w:=by
 obtain⟨⟨I,f,h⟩⟩:=h
 exact⟨⟨I,f,fun n s w g=>e _ _ _ (h n s w g)⟩⟩
theorem E5.mono{St:Type}{o:FuncId}{p r:List Value}{d:St->List Value}{c:St->World->(World->(World->Prop)->Prop)->(World->Prop)->(World->Prop)->(Nat->World->Prop)->Prop}{w:World}{s t f j:Nat->World->Prop}{u m:Nat->Nat->World->Prop}
  (h:E5 P o p r d c w s t u) (hn:∀D w,s D w->f D w) (x:∀D w,t D w->j D w) (y:∀i D w,u i D w->m i D w):E5 P o p r d c w f j m:=by
 refine⟨fun D l z A n B C F=>⟨Calls.mono (h.run D l z A n B C F).run ?_⟩⟩
 rintro e J ⟨v,G,H⟩
 refine⟨v,G,?_⟩
 rcases H with⟨g,q⟩|⟨g,q⟩|⟨id,g,q⟩
 ·exact .inl ⟨g,hn _ _ q⟩
 ·exact .inr (.inl ⟨g,x _ _ q⟩)
 ·exact .inr (.inr ⟨id,g,y _ _ _ q⟩)
theorem and_true{a b:Bool}(h:(a&&b)=true):a=true/\b=true:=by simpa using h
theorem XC(U:An):∀(c:Code)(fr:Fr)(o:List Nat)(w:World)(Q p:Exit->Fr->List Nat->World->Prop),V P U nt c fr o w Q->(∀e fr' j w',Q e fr' j w'->Keep (mods c) fr fr'->(noRF c=true->j=o)->p e fr' j w')->V P U nt c fr o w p:=by
 intro c
 induction c with
 |skip=>exact fun fr o w Q p h g=>g _ _ _ _ h (Keep.refl _ _) fun _=>rfl
 |region id ops X=>
  intro fr o w Q p h g
  simp only[V]at h⊢
  split at h
  ·exact Om _ _ _ _ h fun fr' w' h m=>g _ _ _ _ h m fun _=>rfl
  ·split at h
   ·exact Jo (fun eo h=>WU (fun cl σ h=>Om _ _ _ _ h fun fr' w' h m=>g _ _ _ _ h m fun _=>rfl) h) h
   ·exact h.elim
 |seq a b A B=>
  intro fr o w Q p h g
  have u:∀t∈mods a,t∈mods (.seq a b):=fun t C=>mem_append_left _ C
  have K:∀t∈mods b,t∈mods (.seq a b):=fun t C=>List.mem_append_right _ C
  have F:noRF (.seq a b)=true->noRF a=true:=fun h=>(and_true h).1
  have L:noRF (.seq a b)=true->noRF b=true:=fun h=>(and_true h).2
  simp only[V]at h⊢
  split at h
  ·rename_i st Z
   split at h
   ·rename_i q
    obtain⟨q,z⟩:=and_true q
    obtain⟨h⟩:=h
    refine⟨?_⟩
    refine A _ _ _ _ _ h fun e fr' j w' h m d=>?_
    cases e with
    |normal=>
     exact Jk (fun s h=>B _ _ _ _ _ h fun e M N O h G r=>g _ _ _ _ h (Keep.trans ((Ky q s fr).more u) (G.more K)) fun n=>r (L n)) h
    |_=>exact g _ _ _ _ h (m.more u) fun n=>d (F n)
   ·exact h.elim
  ·refine A _ _ _ _ _ h fun e fr' j w' h m d=>?_
   cases e with
   |normal=>exact B _ _ _ _ _ h fun e M N O h G r=>g _ _ _ _ h (Keep.trans (m.more u) (G.more K)) fun n=>(r (L n)).trans (d (F n))
   |_=>exact g _ _ _ _ h (m.more u) fun n=>d (F n)
 |cond c x y R T=>
  intro fr o w Q p h g
  simp only[V]at h⊢
  split at h
  ·rename_i b Y
   cases b with
   |true=>exact R _ _ _ _ _ h fun e fr' j w' h m d=>g _ _ _ _ h (m.more fun t C=>mem_append_left _ C) fun n=>d (and_true n).1
   |false=>exact T _ _ _ _ _ h fun e fr' j w' h m d=>g _ _ _ _ h (m.more fun t C=>List.mem_append_right _ C) fun n=>d (and_true n).2
  ·exact h.elim
 |block id c J=>
  intro fr o w Q p h g
  simp only[V]at h⊢
  refine J _ _ _ _ _ h fun e fr' j w' h m d=>?_
  cases e with
  |exit aa=>
   simp only at h⊢
   split at h<;>exact g _ _ _ _ h m d
  |_=>exact g _ _ _ _ h m d
 |loop c J=>
  intro fr o w Q p h g
  simp only[V]at h⊢
  split at h
  ·rename_i st Z
   split at h
   ·rename_i q
    split at h
    ·rename_i z
     refine Jk (fun s h=>V8 (fun s w next h=>?_) h) h
     refine J _ _ _ _ _ h fun e fr' j w' h m d=>?_
     cases e with
     |normal=>exact h
     |_=>exact g _ _ _ _ h (Keep.trans (Ky q s fr) m) d
    ·rename_i z
     refine Jk (fun s h=>V8 (fun s w next h=>?_) h) h
     refine J _ _ _ _ _ h fun e fr' j w' h m d=>?_
     cases e with
     |normal=>exact h
     |_=>exact g _ _ _ _ h (Keep.trans (Ky q s.1 fr) m) fun n=>by rw[show noRF c=true from n]at z;cases z
   ·exact h.elim
  ·exact h.elim
 |exit id=>exact fun fr o w Q p h g=>g _ _ _ _ h (Keep.refl _ _) fun _=>rfl
 |scope c J=>
  intro fr o w Q p h g
  simp only[V]at h⊢
  refine J _ _ _ _ _ h fun e fr' j w' h m d=>?_
  cases e with
  |goto l=>exact h
  |_=>exact g _ _ _ _ h m d
 |label l=>exact fun fr o w Q p h g=>g _ _ _ _ h (Keep.refl _ _) fun _=>rfl
 |ret=>exact fun fr o w Q p h g=>g _ _ _ _ h (Keep.refl _ _) fun _=>rfl
 |goto l=>exact fun fr o w Q p h g=>h.elim
 |refuse s=>exact fun fr o w Q p h g=>h.elim
 |rangeFunc f ps a b A B=>
  intro fr o w Q p h g
  have H:noRF (.rangeFunc f ps a b)=true->False:=fun h=>by cases h
  simp only[V]at h⊢
  split at h
  ·split at h
   ·split at h
    ·obtain⟨gf,fi,ca,e,Y,h⟩:=h
     exact⟨gf,fi,ca,e,Y,h.mono (fun D w' h=>g _ _ _ _ h (Keep.refl _ _) fun n=>(H n).elim) (fun D w' h=>by
       split at h
       ·exact g _ _ _ _ h (Keep.refl _ _) fun n=>(H n).elim
       ·exact h.elim) (fun i D w' h=>by
       split at h
       ·exact g _ _ _ _ h (Keep.refl _ _) fun n=>(H n).elim
       ·exact h.elim)⟩
    ·exact h.elim
   ·exact h.elim
  ·exact h.elim
theorem exists_least{p:Nat->Prop}(h:∃n,p n):∃n,p n/\∀m,m<n->¬p m:=by
 obtain⟨n,d⟩:=h
 induction n using Nat.strongRecOn with
 |_ n e=>
  by_cases c:∃m,m<n/\p m
  ·obtain⟨m,f,g⟩:=c;exact e m f g
  ·exact⟨n,d,fun m i j=>c ⟨m,i,j⟩⟩
theorem Qp{F:Fence}{n:Nat}{c:Code}{Q:Exit->Act->World->Prop}(I:Nat->Act->World->Prop){a:Act}{w:World}(o:∃m,I m a w)
  (d:∀m a w,I m a w->c.wpIn F n P (Exit.then (fun a' w'=>∃f,f<m/\I f a' w') Q) a w):(Code.loop c).wpIn F n P Q a w:=by
 classical
 let μ:Act->World->Nat:=fun a w=>if h:∃m,I m a w then Classical.choose (exists_least h)else 0
 have j:∀a w,(∃m,I m a w)->I (μ a w) a w/\∀m,m<μ a w->¬I m a w:=by
  intro a w h
  simp only[μ,dif_pos h]
  exact Classical.choose_spec (exists_least h)
 refine wpIn_loop (fun a w=>∃m,I m a w) μ o fun a w h=>?_
 refine wpIn_mono (d _ _ _ (j a w h).1) fun e a' w' l=>?_
 cases e with
 |normal=>
  obtain⟨f,p,i⟩:=l
  refine⟨⟨f,i⟩,?_⟩
  have q:=(j a' w' ⟨f,i⟩).2
  have:¬f<μ a' w':=fun g=>q f g i
  omega
 |_=>exact l
section
variable{b:Frame}{a:Act}{k:List Item}{cs:List Frame}{w:World}
theorem stepR_scope{c:Code}:step P (lone (b.atR a (.code (.scope c)::k)) cs w)=.next (lone (b.atR a (.code c::.inScope c::k)) cs w):=
 step_lone_go (by simp[stepG,stepG.exec,Frame.atR])
theorem stepR_inScope{c:Code}:step P (lone (b.atR a (.inScope c::k)) cs w)=.next (lone (b.atR a k) cs w):=
 step_lone_go (by simp[stepG,stepG.exec,Frame.atR])
end
theorem wpIn_scope{F:Fence}{n:Nat}{c:Code}{Q:Exit->Act->World->Prop}{a:Act}{w:World}(h:c.wpIn F n P (Exit.noGoto Q) a w):(Code.scope c).wpIn F n P Q a w:=by
 intro b k cs m o p
 obtain⟨e,f,j,g,d⟩:=h b (.inScope c::k) cs m o p
 have i:StepsIn (Machine.fenced P F) P (lone (b.atR a (.code (.scope c)::k)) cs w) (lone (b.atR a (.code c::.inScope c::k)) cs w):=.one (fenced_calm (fr:=b.atR a (.code (.scope c)::k)) o p rfl) stepR_scope
 cases e with
 |normal=>exact⟨.normal,f,j,g,StepsIn.trans i (StepsIn.trans d (.one (fenced_calm (fr:=b.atR f (.inScope c::k)) o p rfl) stepR_inScope))⟩
 |exit id=>
  refine⟨.exit id,f,j,g,fun q r=>StepsIn.trans i (d.1 q (by simpa [exitTo]using r)),fun s t=>?_⟩
  obtain⟨u,x,y⟩:=d.2 s (by simpa [exitTo]using t)
  exact⟨u,x,StepsIn.trans i y⟩
 |goto l=>exact g.elim
 |ret=>exact⟨_,f,j,g,.of_steps i d⟩
 |panic z=>exact⟨_,f,j,g,.of_steps i d⟩
 |outgrown=>exact⟨_,f,j,g,.of_steps (b:=b) (k:=k) (cs:=cs) (e:=.outgrown) i d⟩
def mkM(ms:List Nat)(ds:List Deferred):List Deferred:=ms.map (fun D=> {target:=.collected D,args:= #[]})++ds
theorem VY:∀(st:List (Nat×Kd))(s:StTy st)(fr:Fr),setSt st s fr=((st.map (·.1)).zip (FB st s)).map (fun p=>(p.1,some p.2))++fr
 | [],s,fr=>rfl
 | [x],s,fr=>rfl
 |x::y::r,s,fr=>by
  simp only[setSt,FB,map_cons,List.zip_cons_cons,cons_append]
  rw[VY (y::r) s.2 fr]
  rfl
theorem RY:∀(st:List (Nat×Kd))(s:StTy st),(FB st s).length=st.length
 | [],s=>rfl
 | [x],s=>rfl
 |x::y::r,s=>by simp only[FB,length_cons];rw[RY (y::r) s.2];rfl
theorem Y3:∀(kv:List (Nat×Value))(c:Array Value)(t:Nat)(v:Value)(fr:Fr),(kv.map (·.1)).Nodup->(∀k∈kv.map (·.1),k<c.size)->fget (kv.map (fun p=>(p.1,some p.2))++fr) t=some v->
  ((kv.foldl (fun t p=>t.setIfInBounds p.1 p.2) c)[t]? =some v)\/(t∉kv.map (·.1)/\fget fr t=some v/\(kv.foldl (fun t p=>t.setIfInBounds p.1 p.2) c)[t]? =c[t]?)
 | [],c,t,v,fr,_,_,h=>.inr ⟨by simp,h,rfl⟩
 |(k,u)::r,c,t,v,fr,e,hk,h=>by
  simp only[map_cons,nodup_cons]at e
  simp only[map_cons,cons_append]at h
  rw[foldl_cons]
  have out:∀(r:List (Nat×Value))(c:Array Value),k∉r.map (·.1)->(r.foldl (fun t p=>t.setIfInBounds p.1 p.2) c)[k]? =c[k]? :=by
   intro r
   induction r with
   |nil=>intro c _;rfl
   |cons x q g=>
    intro c f
    simp only[map_cons,mem_cons,not_or]at f
    rw[foldl_cons,g _ f.2,Array.getElem?_setIfInBounds,if_neg (Ne.symm f.1)]
  by_cases d:t=k
  ·subst d
   rw[D6]at h
   cases h
   left
   rw[out r _ e.1]
   have:=hk t (by simp)
   simp[this]
  ·rw[BZ _ _ _ _ d]at h
   rcases Y3 r (c.setIfInBounds k u) t v fr e.2 (fun j i=>by simpa using hk j (by simp[i])) h with h1|⟨h1,h2,h3⟩
   ·exact .inl h1
   ·refine .inr ⟨by simp[d];simpa using h1,h2,?_⟩
    rw[h3,Array.getElem?_setIfInBounds,if_neg (Ne.symm d)]
theorem TR:∀{l:List Nat},nodupB l=true->l.Nodup
 | [],_=>.nil
 |x::r,h=>by
  simp only[nodupB,Bool.and_eq_true,Bool.not_eq_true',List.contains_iff_mem]at h
  refine nodup_cons.2 ⟨?_,TR h.2⟩
  intro c
  have:=h.1
  simp[c]at this
theorem ref_round{st:List (Nat×Kd)}{c:Array Tmp}{fr:Fr}{a:Act}(i:Ref nt ds fr a)(m:psOk nt st c.toList=true)(s:StTy st):
  (FB st s).toArray.size=c.size/\Ref nt [] (setSt st s fr) {tmps:=(c.zip (FB st s).toArray).foldl (fun t (p,v)=>t.setIfInBounds p v) a.tmps,defers:=[]}:=by
 simp only[psOk,Bool.and_eq_true,beq_iff_eq]at m
 obtain⟨⟨g,j⟩,u⟩:=m
 have j:=TR j
 have y:c.size=st.length:=by rw[<- Array.length_toList,<- g,List.length_map]
 have d:=RY st s
 have e:(c.zip (FB st s).toArray).toList=(st.map (·.1)).zip (FB st s):=by
  rw[Array.toList_zip,g]
 have n:(c.zip (FB st s).toArray).foldl (fun t (p,v)=>t.setIfInBounds p v) a.tmps=((st.map (·.1)).zip (FB st s)).foldl (fun t p=>t.setIfInBounds p.1 p.2) a.tmps:=by
  rw[<- Array.foldl_toList,e]
 have o:((st.map (·.1)).zip (FB st s)).map (·.1)=st.map (·.1):=List.map_fst_zip (by simp[d])
 refine⟨by simp[d,y],?_,rfl,?_⟩
 ·show(_:Array Value).size=nt
  rw[n]
  have:∀(l:List (Nat×Value))(h:Array Value),(l.foldl (fun t p=>t.setIfInBounds p.1 p.2) h).size=h.size:=by
   intro l
   induction l with
   |nil=>intro h;rfl
   |cons x r z=>intro h;rw[foldl_cons,z];simp
  rw[this];exact i.size
 ·intro t v q
  show(_:Array Value)[t]? =some v
  rw[n]
  rw[VY]at q
  rcases Y3 _ a.tmps t v fr (by rw[o,g];exact j) (fun k f=>by
   rw[o,g]at f
   have:=all_eq_true.1 u k f
   rw[i.size]
   exact Nat.lt_of_lt_of_le (Nat.lt_succ_self _) (Nat.le_of_ble_eq_true this)) q with h4|⟨_,h5,h6⟩
  ·exact h4
  ·rw[h6];exact i.val t v h5
theorem V_sound(hN:MS P)(an:An):∀(c:Code)(rd:Option Nat)(n:Nat)(ds:List Deferred)(fr:Fr)(ms:List Nat)(w:World)(Q:Exit->Fr->List Nat->World->Prop)(QA:Exit->Act->World->Prop)(a:Act),
  V P an nt c fr ms w Q->Ref nt (mkM ms ds) fr a->(rd≠none->noRF c=true)->(∀e fr' ms' w' a',Q e fr' ms' w'->Ref nt (mkM ms' ds) fr' a'->QA e a' w')->c.wpIn (W rd) n P QA a w:=by
 intro c
 induction c with
 |skip=>exact fun rd n ds fr ms w Q QA a h hr hrd hq=>wpIn_skip (hq _ _ _ _ _ h hr)
 |region id ops draw=>
  intro rd n ds fr ms w Q QA a h hr hrd hq
  simp only[V]at h
  split at h
  ·exact wpIn_region (by
    have:=Xu (rd:=rd) (n:=n) (Q:=QA) hN (fun fr w a h hr=>hq _ _ _ _ _ h hr) _ _ _ _ a h hr
    simpa using this)
  ·split at h
   ·rename_i hok
    refine wpIn_region_draw fun t=>?_
    have h2:J9 (oneV (an.wraps.contains id) P nt ops (fun fr' w'=>∀a',Ref nt (mkM ms ds) fr' a'->QA .normal a' w') fr w.drew) (KI (closure [] ops.toList) (DW P ops.toList 0).length (DW P ops.toList 0)):=
     Jo (fun eo h=>WU (fun cl σ h=>Om _ _ _ _ h fun fr' w' h hk a' hr'=>hq _ _ _ _ _ h hr') h) h
    exact draw_upon hN (fun f f' w hf h a' hr'=>h a' ⟨hr'.size,hr'.defers,fun t v ht=>hr'.val t v (by rw[<- hf t];exact ht)⟩)
     (fun fr w a h hr=>h a hr) hok h2 hr _ t
   ·exact h.elim
 |seq x y ihx ihy=>
  intro rd n ds fr ms w Q QA a h hr hrd hq
  have hrx:rd≠none->noRF x=true:=fun h=>(and_true (hrd h)).1
  have hry:rd≠none->noRF y=true:=fun h=>(and_true (hrd h)).2
  simp only[V]at h
  split at h
  ·rename_i st hf
   split at h
   ·rename_i hst
    obtain⟨hst,hrf⟩:=and_true hst
    obtain⟨h⟩:=h
    have h2:=XC an x _ _ _ _ (fun e fr' ms' w'=>(match e with
     |.normal=>Gg st fr' fun s=>V P an nt y (setSt st s (IU (mods x) fr)) ms w' Q
     |e=>Q e fr' ms' w')/\Keep (mods x) fr fr'/\ms'=ms) h fun e fr' ms' w' h hk hms=>⟨h,hk,hms hrf⟩
    refine wpIn_seq (ihx _ _ _ _ _ _ _ _ _ h2 hr hrx fun e fr' ms' w' a' hh hr'=>?_)
    obtain⟨hh,hk,hms⟩:=hh
    subst hms
    cases e with
    |normal=>
     obtain⟨s,h3,hr3⟩:=OX hst hr' hk hh
     exact ihy _ _ _ _ _ _ _ _ _ h3 hr3 hry hq
    |_=>exact hq _ _ _ _ _ hh hr'
   ·exact h.elim
  ·refine wpIn_seq (ihx _ _ _ _ _ _ _ _ _ h hr hrx fun e fr' ms' w' a' hh hr'=>?_)
   cases e with
   |normal=>exact ihy _ _ _ _ _ _ _ _ _ hh hr' hry hq
   |_=>exact hq _ _ _ _ _ hh hr'
 |cond c x y ihx ihy=>
  intro rd n ds fr ms w Q QA a h hr hrd hq
  simp only[V]at h
  split at h
  ·rename_i b hb
   cases b with
   |true=>exact wpIn_cond_true (hr.ev hb) (ihx _ _ _ _ _ _ _ _ _ h hr (fun h=>(and_true (hrd h)).1) hq)
   |false=>exact wpIn_cond_false (hr.ev hb) (ihy _ _ _ _ _ _ _ _ _ h hr (fun h=>(and_true (hrd h)).2) hq)
  ·exact h.elim
 |block id c ih=>
  intro rd n ds fr ms w Q QA a h hr hrd hq
  simp only[V]at h
  refine wpIn_block (ih _ _ _ _ _ _ _ _ _ h hr hrd fun e fr' ms' w' a' hh hr'=>?_)
  cases e with
  |exit id'=>
   simp only at hh
   simp only[Exit.inBlock]
   split at hh
   ·rename_i hb
    rw[if_pos (Nat.eq_of_beq_eq_true hb)]
    exact hq _ _ _ _ _ hh hr'
   ·rename_i hb
    rw[if_neg (fun e=>by subst e;simp at hb)]
    exact hq _ _ _ _ _ hh hr'
  |_=>exact hq _ _ _ _ _ hh hr'
 |loop c ih=>
  intro rd n ds fr ms w Q QA a h hr hrd hq
  simp only[V]at h
  split at h
  ·rename_i st hf
   split at h
   ·rename_i hst
    split at h
    ·rename_i hrf
     obtain⟨s0,⟨⟨I,⟨m0,h0⟩,hround⟩⟩,hr0⟩:=OX hst hr (Keep.refl (mods c) fr) h
     refine Qp (fun m a w=>∃s,I m s w/\Ref nt (mkM ms ds) (setSt st s (IU (mods c) fr)) a) ⟨m0,s0,h0,hr0⟩ fun m a w hI=>?_
     obtain⟨s,hI,hra⟩:=hI
     have h1:=hround m s w hI
     have h2:=XC an c _ _ _ _ (fun e fr' ms' w'=>(match e with
      |.normal=>Gg st fr' fun s'=>∃m',m'<m/\I m' s' w'
      |e=>Q e fr' ms' w')/\Keep (mods c) (setSt st s (IU (mods c) fr)) fr'/\ms'=ms) h1 fun e fr' ms' w' h hk hms=>⟨h,hk,hms hrf⟩
     refine ih _ _ _ _ _ _ _ _ _ h2 hra (fun _=>hrf) fun e fr' ms' w' a' hh hr'=>?_
     obtain⟨hh,hk,hms⟩:=hh
     subst hms
     cases e with
     |normal=>
      obtain⟨s',⟨m',hlt,hI'⟩,hr3⟩:=OX hst hr' (Keep.trans (Ky hst s fr) hk) hh
      exact⟨m',hlt,s',hI',hr3⟩
     |_=>exact hq _ _ _ _ _ hh hr'
    ·rename_i hrf
     obtain⟨s0,⟨⟨I,⟨m0,h0⟩,hround⟩⟩,hr0⟩:=OX hst hr (Keep.refl (mods c) fr) h
     refine Qp (fun m a w=>∃s:StTy st×List Nat,I m s w/\Ref nt (mkM s.2 ds) (setSt st s.1 (IU (mods c) fr)) a) ⟨m0,(s0,ms),h0,hr0⟩ fun m a w hI=>?_
     obtain⟨s,hI,hra⟩:=hI
     have h1:=hround m s w hI
     have h2:=XC an c _ _ _ _ (fun e fr' ms' w'=>(match e with
      |.normal=>Gg st fr' fun s'=>∃m',m'<m/\I m' (s',ms') w'
      |e=>Q e fr' ms' w')/\Keep (mods c) (setSt st s.1 (IU (mods c) fr)) fr') h1 fun e fr' ms' w' h hk hms=>⟨h,hk⟩
     refine ih _ _ _ _ _ _ _ _ _ h2 hra (fun hn=>by rw[show noRF c=true from hrd hn]at hrf;cases hrf) fun e fr' ms' w' a' hh hr'=>?_
     obtain⟨hh,hk⟩:=hh
     cases e with
     |normal=>
      obtain⟨s',⟨m',hlt,hI'⟩,hr3⟩:=OX hst hr' (Keep.trans (Ky hst s.1 fr) hk) hh
      exact⟨m',hlt,(s',ms'),hI',hr3⟩
     |_=>exact hq _ _ _ _ _ hh hr'
   ·exact h.elim
  ·exact h.elim
 |exit id=>exact fun rd n ds fr ms w Q QA a h hr hrd hq=>wpIn_exit (hq _ _ _ _ _ h hr)
 |scope c ih=>
  intro rd n ds fr ms w Q QA a h hr hrd hq
  simp only[V]at h
  refine wpIn_scope (ih _ _ _ _ _ _ _ _ _ h hr hrd fun e fr' ms' w' a' hh hr'=>?_)
  cases e with
  |goto l=>exact hh
  |_=>exact hq _ _ _ _ _ hh hr'
 |label l=>exact fun rd n ds fr ms w Q QA a h hr hrd hq=>wpIn_label (hq _ _ _ _ _ h hr)
 |ret=>exact fun rd n ds fr ms w Q QA a h hr hrd hq=>wpIn_ret (hq _ _ _ _ _ h hr)
 |goto l=>exact fun rd n ds fr ms w Q QA a h hr hrd hq=>h.elim
 |refuse s=>exact fun rd n ds fr ms w Q QA a h hr hrd hq=>h.elim
 |rangeFunc g ps assign body iha ihb=>
  intro rd n ds fr ms w Q QA a h hr hrd hq
  have hno:rd=none:=Classical.byContradiction fun hh=>by have:=hrd hh;cases this
  subst hno
  simp only[V]at h
  split at h
  ·rename_i st hf
   split at h
   ·rename_i hst
    obtain⟨hps,hrfs⟩:=and_true hst
    obtain⟨hrfa,hrfb⟩:=and_true hrfs
    split at h
    ·rename_i v hg
     obtain⟨gf,fi,ca,rfl,⟨fn,cd,hfn,hcd⟩,h⟩:=h
     refine wpIn_rangeFunc ?_
     intro f0 hf0
     obtain⟨rec,hrec⟩:∃rec:LoopState->Option Code->Obj,rec=fun st pe=>.loop {state:=st,pending:=pe,fn:=f0,tmps:=a.tmps,params:=ps,assign,body,defers:=w.heap.size}:=⟨_,rfl⟩
     have hy:∀(s:StTy st)(w':World)(R:Ending->World->Prop),V P an nt assign (setSt st s fr) [] w' (fun e fr1 _ w1=>match e with
       |.normal=>w1.heap[w.heap.size+1]? =some (rec .ready none)/\V P an nt body fr1 [] (w1.putObj (w.heap.size+1) (rec .busy none)) (fun e _ _ w3=>match e with
        |.normal=>w3.heap[w.heap.size+1]? =some (rec .busy none)/\R (.returned (.bool true)) (w3.putObj (w.heap.size+1) (rec .ready none))
        |.ret=>w3.heap[w.heap.size+1]? =some (rec .busy none)/\R (.returned (.bool false)) (w3.putObj (w.heap.size+1) (rec .done (some .ret)))
        |.exit id=>w3.heap[w.heap.size+1]? =some (rec .busy none)/\R (.returned (.bool false)) (w3.putObj (w.heap.size+1) (rec .done (some (.exit id))))
        |_=>False)
       |_=>False)->w'.heap[w.heap.size+1]? =some (rec .ready none)->Ee P (.func (.yield (w.heap.size+1)) #[] #[]) (FB st s) w' R:=by
      intro s w' R hround hready
      obtain⟨hsz,href⟩:=ref_round hr hps s
      show dQ P (w.heap.size+1) (FB st s) w' R
      refine⟨fun rd' n'=>?_⟩
      rw[hrec]at hready
      refine⟨f0,_,assign,body,run_yield (P:=P) hready hsz,roundIn_of_wpIn (W_fn _ _) ?_⟩
      have hround2:=XC an assign _ _ _ _ (fun e fr1 ms1 w1=>(match e with
       |.normal=>w1.heap[w.heap.size+1]? =some (rec .ready none)/\V P an nt body fr1 [] (w1.putObj (w.heap.size+1) (rec .busy none)) (fun e _ _ w3=>match e with
        |.normal=>w3.heap[w.heap.size+1]? =some (rec .busy none)/\R (.returned (.bool true)) (w3.putObj (w.heap.size+1) (rec .ready none))
        |.ret=>w3.heap[w.heap.size+1]? =some (rec .busy none)/\R (.returned (.bool false)) (w3.putObj (w.heap.size+1) (rec .done (some .ret)))
        |.exit id=>w3.heap[w.heap.size+1]? =some (rec .busy none)/\R (.returned (.bool false)) (w3.putObj (w.heap.size+1) (rec .done (some (.exit id))))
        |_=>False)
       |_=>False)/\ms1=[]) hround fun e fr1 ms1 w1 h _ hms=>⟨h,hms hrfa⟩
      refine iha (some (w.heap.size+1)) n' [] _ _ _ _ _ _ hround2 href (fun _=>hrfa) fun e fr1 ms1 w1 a1 hh hr1=>?_
      obtain⟨hh,rfl⟩:=hh
      cases e with
      |normal=>
       obtain⟨h1,h2⟩:=hh
       rw[hrec]at h1
       refine⟨_,run_beginRound (P:=P) h1 rfl,?_⟩
       refine ihb (some (w.heap.size+1)) n' [] _ _ _ _ _ _ (by rw[hrec]at h2;exact h2) hr1 (fun _=>hrfb) fun e fr2 ms2 w2 a2 hh hr2=>?_
       cases e with
       |normal=>exact⟨_,_,run_endRound (P:=P) none hh.1,hh.2⟩
       |ret=>exact⟨_,_,run_endRound (P:=P) (some .ret) hh.1,hh.2⟩
       |exit id=>exact⟨_,_,run_endRound (P:=P) (some (.exit id)) hh.1,hh.2⟩
       |_=>exact hh.elim
      |_=>exact hh.elim
     have hrun:=(h.run w.heap.size (w.heap.size+1) (w.alloc (.deferred (some []))) ((w.alloc (.deferred (some []))).alloc (rec .ready none)) rec ⟨rfl,rfl⟩ ⟨by simp,rfl⟩ hy).run
     have h1:=YQ (args:=(fi.toList++[Value.func (.yield (w.heap.size+1)) #[] #[]]++ca.toList).toArray) (w:=(w.alloc (.deferred (some []))).alloc (rec .ready none)) hN hfn hcd
     have ea:fi++ #[Value.func (.yield (w.heap.size+1)) #[] #[]]++ca=(fi.toList++[Value.func (.yield (w.heap.size+1)) #[] #[]]++ca.toList).toArray:=by
      apply Array.toList_inj.1;simp
     refine⟨w.heap.size+1,[{target:=.collected w.heap.size,args:= #[]}],(w.alloc (.deferred (some []))).alloc (rec .ready none),{target:=.fn (.func gf) ca,args:=fi++ #[Value.func (.yield (w.heap.size+1)) #[] #[]]},(w.alloc (.deferred (some []))).alloc (rec .ready none),gf,_,(w.alloc (.deferred (some []))).alloc (rec .ready none),?_,?_,fun f' _=>W_fn _ _,?_,fun hd=>by simp[Xg]at hd,(WI hrun).mono ?_⟩
     ·rw[hrec];exact run_enterLoop_outer (P:=P) _ _ _ _ _
     ·simp only[resolve,hr.ev hg]
      simp[go_sem]
     ·simp only[invoke,ea,h1]
     rintro e w3 ⟨v,rfl,hh⟩
     have href:Ref nt (mkM (w.heap.size::ms) ds) fr {a with defers:=[{target:=.collected w.heap.size,args:= #[]}]++a.defers}:=⟨hr.size,by show _++a.defers=_;rw[hr.defers];rfl,hr.val⟩
     rw[hrec]at hh
     rcases hh with⟨g1,g2⟩|⟨g1,g2⟩|⟨id,g1,g2⟩
     ·exact⟨none,_,run_endLoop (P:=P) g1 (by simp),hq _ _ _ _ _ g2 href⟩
     ·split at g2
      ·exact⟨some .ret,_,run_endLoop (P:=P) g1 (by simp),wpIn_ret (hq _ _ _ _ _ g2 href)⟩
      ·exact g2.elim
     ·split at g2
      ·exact⟨some (.exit id),_,run_endLoop (P:=P) g1 (by simp),wpIn_exit (hq _ _ _ _ _ g2 href)⟩
      ·exact g2.elim
    ·exact h.elim
   ·exact h.elim
  ·exact h.elim
theorem res_one{fr:Fr}{w:World}{a:Act}(e:Ref nt ds fr a):∀{f:List ResultVar}{K:List Value->Prop},resV P fr w f K->
  ∃l,K l/\l.length=f.length/\(f.mapM (m:=Sem) fun
   |.tmp t=>pure (a.tmps.getD t undef)
   |.cell x t=>do loadVar t (<- asAddr (a.tmps.getD x undef))).run P w=.ok l w
 | [],K,h=>⟨[],h,rfl,rfl⟩
 |.tmp t::r,K,h=>by
  simp only[resV]at h
  obtain⟨v,q,h⟩:=AQ h
  obtain⟨l,h,g,c⟩:=res_one e h
  refine⟨v::l,h,by simp[g],?_⟩
  have i:=e.val t v q
  simp only[mapM_cons,Sem.run_bind,Sem.run_pure,Result.andThen_ok,c]
  simp[Array.getD_eq_getD_getElem?,i]
 |.cell x t::r,K,h=>by
  simp only[resV]at h
  split at h
  ·rename_i p s
   obtain⟨u,rfl,o⟩:=Eo h
   obtain⟨v,j,y⟩:=SS o
   clear h o
   obtain⟨l,h,g,c⟩:=res_one e y
   refine⟨v::l,h,by simp[g],?_⟩
   have n:=e.val x _ s
   have d:(loadVar t u).run P w=.ok v w:=j
   have z:(do loadVar t (<- asAddr (a.tmps.getD x undef)):Sem Value).run P w=.ok v w:=by
    simp[Array.getD_eq_getD_getElem?,n,asAddr,d]
   rw[mapM_cons,Sem.run_bind]
   simp only[z,Result.andThen_ok,Sem.run_bind,c,Sem.run_pure]
  ·exact h.elim
theorem ret_post{fn:Func}{fr:Fr}{w:World}{a:Act}{ds:List Deferred}{R:Ending->World->Prop}(d:Ref nt ds fr a)(h:retV P fn fr w R):∃v,(results fn a.tmps).run P w=.ok v w/\R (.returned v) w:=by
 obtain⟨l,h,f,c⟩:=res_one d h
 have e:(fn.results.mapM (m:=Sem) fun
   |.tmp t=>pure (a.tmps.getD t undef)
   |.cell x t=>do loadVar t (<- asAddr (a.tmps.getD x undef))).run P w=.ok l.toArray w:=by
  rw[Array.mapM_eq_mapM_toList]
  simp only[Sem.run_map,c,Result.andThen_ok]
 unfold results
 rw[Sem.run_bind]
 refine⟨_,(congrArg (fun r=>Result.andThen r _) e).trans rfl,?_⟩
 match l,h with
 | [v],h=>exact h
 | [],h=>exact h
 |_::_::_,h=>
  simp only[List.size_toArray,length_cons]
  rw[dif_neg (by omega)]
  exact h
theorem Px{F:Fence}{n:Nat}{fn:Func}{fr:Fr}{R:Ending->World->Prop}{a:Act}{ds:List Deferred}(f:Ref nt ds fr a):∀(c:List Nat)(w:World),Yz P fn fr c w R->LeavesInM F n P fn a.tmps R (mkM c []) .returning w
 | [],w,h=>by
  obtain⟨v,d,e⟩:=ret_post f h
  exact⟨v,d,e⟩
 |D::c,w,h=>by
  obtain⟨g,⟨d,rfl⟩,e⟩:=h
  exact⟨by simp,.inl ⟨D,_,rfl,run_takeDeferred d,Px f c _ e⟩⟩
theorem Vu{fn:Func}{fr:Fr}{R:Ending->World->Prop}{w1:World}(d:retV P fn fr w1 R):∀(c:List Nat)(w:World),HY c w w1->Yz P fn fr c w R
 | [],w,h=>by
  have h:w1=w:=h
  subst h;exact d
 |D::c,w,h=>by
  obtain⟨e,f,g⟩:=h
  exact⟨e,f,Vu d c e g⟩
theorem WV{fn:Func}{c:Code}{fr:Fr}{d:List Nat}{w:World}{R:Ending->World->Prop}(h:endV P fn c fr d w R):Yz P fn fr d w R:=by
 unfold endV at h
 split at h
 ·exact h
 ·obtain⟨g,e,f⟩:=h
  exact Vu f d w e
theorem V4:∀(l:List Value)(i t:Nat)(v:Value),fget (Vt i l) t=some v->∃j,t=i+j/\l[j]? =some v
 | [],i,t,v,h=>by simp[Vt,fget_nil]at h
 |x::r,i,t,v,h=>by
  simp only[Vt]at h
  by_cases c:t=i
  ·subst c
   rw[D6]at h
   exact⟨0,rfl,by simpa using h⟩
  ·rw[BZ _ _ _ _ c]at h
   obtain⟨j,rfl,d⟩:=V4 r (i+1) t v h
   exact⟨j+1,by omega,by simpa using d⟩
theorem ref_args{fn:Func}{args:List Value}(d:decide (args.length<=fn.ntmps)=true):
  Ref fn.ntmps [] (Vt 0 args) {tmps:=args.toArray++Array.replicate (fn.ntmps-args.toArray.size) undef,defers:=[]}:=by
 have d:=of_decide_eq_true d
 refine⟨by simp;omega,rfl,fun t v h=>?_⟩
 obtain⟨j,rfl,e⟩:=V4 args 0 t v h
 have c:j<args.length:=(List.getElem?_eq_some_iff.1 e).1
 simp only[Nat.zero_add]
 rw[Array.getElem?_append_left (by simpa using c)]
 simpa using e
theorem calls_of_bodyV(l:MS P){i:An}{f:FuncId}{fn:Func}{args:List Value}{w:World}{R:Ending->World->Prop}(m:P.funcs[f]? =some fn)(o:decide (args.length<=fn.ntmps)=true)
  (h:bn P i fn args w R):Calls P f args.toArray w R:=by
 simp only[bn]at h
 split at h
 ·exact h.elim
 ·rename_i c p
  refine(callsIn_wide (n:=0)).1 (callsIn_of_wp_marks m p trivial ?_ rfl)
  refine V_sound l i c none 0 [] _ _ _ _ _ _ h (ref_args o) (fun h=>absurd rfl h) fun e q r s j g d=>?_
  cases e with
  |normal=>
   show LeavesInM _ _ _ _ _ _ j.defers _ _
   rw[d.defers];exact Px d _ _ (WV g)
  |ret=>
   show LeavesInM _ _ _ _ _ _ j.defers _ _
   rw[d.defers];exact Px d _ _ (WV g)
  |_=>exact g.elim
end
end Go.Vc
namespace Go.Proofs.YtljenkbpnioipaaGreat
open Go Go.Vc
theorem noNum:MS Tryz.prog:=by
 have h : Tryz.prog.funcs.toList.all (fun fn => !(fn.name == "runtime.NumGoroutine")) = true := by kernel_rfl
 intro f fn hf
 have:=all_eq_true.1 h fn (by have:=Array.mem_of_getElem? hf;simpa using this)
 simpa using this
theorem cok(an:An){f:FuncId}{fn:Func}{args:List Value}{w:World}{R:Ending->World->Prop}{V:Prop}(hf:Tryz.prog.funcs[f]? =some fn)(h:V)(h0:decide (args.length<=fn.ntmps)=true:=by kernel_rfl)(e:bn Tryz.prog an fn args w R=V:=by kernel_rfl):Calls Tryz.prog f args.toArray w R:=calls_of_bodyV noNum hf h0 (e▸h)
noncomputable abbrev P:=Tryz.prog
abbrev I:Int->Value:=.int .i64
abbrev Q:Option Addr->Value:=.pointer
abbrev S:Option Addr->Nat->Nat->Value:=.slice
abbrev E:Value->Ending:=.returned
abbrev C1(f:FuncId)(l:List Value)(w:World)(K:World->Prop):Prop:=BL P f l w fun k e=>k=.returned (.tuple #[])/\K e
abbrev B0(p:Prop)[Decidable p](x y:Prop):Prop:=br (decide p) x y
abbrev B1(p:Prop)[Decidable p](x y:Prop):Prop:=br (!decide p) x y
abbrev D1(d:Int)(a:Nat):Prop:=0<=d/\d<(↑a:Int)
abbrev G1(w:World)(a:Addr)(K:Int->Prop):Prop:=∃x0,Ld P 3 w a (.int .i64 x0)/\K x0
abbrev G2(w:World)(a:Addr)(K:ByteArray->Prop):Prop:=∃x0,Ld P 9 w a (.string x0)/\K x0
abbrev C2(f:FuncId)(l:List Value)(w:World)(K:Bool->World->Prop):Prop:=BL P f l w fun k e=>∃x0,k=.returned (.bool x0)/\K x0 e
abbrev A1(x0:Int)(x1:Bool):Value:=.tuple #[.int .i64 x0,.bool x1]
abbrev G3(w:World)(a:Addr)(K:ByteArray->ByteArray->Prop):Prop:=∃x0 x1,Ld P 142 w a (.agg #[.string x0,.string x1])/\K x0 x1
abbrev C3(f:FuncId)(l:List Value)(w:World)(K:Int->World->Prop):Prop:=BL P f l w fun k e=>∃x0,k=.returned (.int .i64 x0)/\K x0 e
abbrev C4(f:FuncId)(l:List Value)(w:World)(K:Option Addr->World->Prop):Prop:=BL P f l w fun k e=>∃x0,k=.returned (.pointer x0)/\K x0 e
abbrev N2(w:World)(x0:Int)(x1:Int)(x2:Int)(x3:Int)(x4:ByteArray)(x5:ByteArray)(x6:Option Addr)(x7:Nat)(x8:Nat)(K:Nat->World->Prop):Prop:=∀h e,New w (.cells #[.int .i64 x0,.int .i64 x1,.int .i64 x2,.int .i64 x3,.string x4,.string x5,.slice x6 x7 x8] 36) h e->K h e
abbrev C7(f:FuncId)(l:List Value)(w:World)(K:Option Addr->Nat->Nat->World->Prop):Prop:=BL P f l w fun k e=>∃x0 x1 x2,k=.returned (.slice x0 x1 x2)/\K x0 x1 x2 e
abbrev L2(w:World)(b o:Nat)(K:Int->Int->Int->Int->ByteArray->ByteArray->Option Addr->Nat->Nat->Prop):Prop:=∃x0 x1 x2 x3 x4 x5 x6 x7 x8,Ld P 36 w ⟨b,o,none⟩ (.agg #[.int .i64 x0,.int .i64 x1,.int .i64 x2,.int .i64 x3,.string x4,.string x5,.slice x6 x7 x8])/\K x0 x1 x2 x3 x4 x5 x6 x7 x8
abbrev C8(f:FuncId)(l:List Value)(w:World)(K:Int->Int->Int->Int->ByteArray->ByteArray->Option Addr->Nat->Nat->World->Prop):Prop:=BL P f l w fun k e=>∃x0 x1 x2 x3 x4 x5 x6 x7 x8,k=.returned (.agg #[.int .i64 x0,.int .i64 x1,.int .i64 x2,.int .i64 x3,.string x4,.string x5,.slice x6 x7 x8])/\K x0 x1 x2 x3 x4 x5 x6 x7 x8 e
abbrev A3(x0:Int)(x1:Int)(x2:Int)(x3:Int)(x4:ByteArray)(x5:ByteArray)(x6:Option Addr)(x7:Nat)(x8:Nat):Value:=.agg #[.int .i64 x0,.int .i64 x1,.int .i64 x2,.int .i64 x3,.string x4,.string x5,.slice x6 x7 x8]
abbrev C9(f:FuncId)(l:List Value)(w:World)(K:Int->Option Addr->Nat->Nat->Int->World->Prop):Prop:=BL P f l w fun k e=>∃x0 x1 x2 x3 x4,k=.returned (.tuple #[.int .i64 x0,.slice x1 x2 x3,.int .i64 x4])/\K x0 x1 x2 x3 x4 e
abbrev C10(f:FuncId)(l:List Value)(w:World)(K:Int->Int->World->Prop):Prop:=BL P f l w fun k e=>∃x0 x1,k=.returned (.tuple #[.int .i64 x0,.int .i64 x1])/\K x0 x1 e
abbrev Z1(w:World)(a:Addr)(x0:ByteArray)(K:World->Prop):Prop:=∃e,St P 9 w a (.string x0) e/\K e
abbrev G4(w:World)(a:Addr)(K:Int->Int->Int->Int->ByteArray->ByteArray->Option Addr->Nat->Nat->Prop):Prop:=∃x0 x1 x2 x3 x4 x5 x6 x7 x8,Ld P 36 w a (.agg #[.int .i64 x0,.int .i64 x1,.int .i64 x2,.int .i64 x3,.string x4,.string x5,.slice x6 x7 x8])/\K x0 x1 x2 x3 x4 x5 x6 x7 x8
abbrev U2(w:World)(b o:Nat)(x0:Int)(x1:Int)(x2:Int)(x3:Int)(x4:ByteArray)(x5:ByteArray)(x6:Option Addr)(x7:Nat)(x8:Nat)(K:World->Prop):Prop:=∃e,St P 36 w ⟨b,o,none⟩ (.agg #[.int .i64 x0,.int .i64 x1,.int .i64 x2,.int .i64 x3,.string x4,.string x5,.slice x6 x7 x8]) e/\K e
abbrev C11(f:FuncId)(l:List Value)(w:World)(K:Option Addr->Int->World->Prop):Prop:=BL P f l w fun k e=>∃x0 x1,k=.returned (.tuple #[.pointer x0,.int .i64 x1])/\K x0 x1 e
abbrev C12(f:FuncId)(l:List Value)(w:World)(K:Int->Int->Bool->World->Prop):Prop:=BL P f l w fun k e=>∃x0 x1 x2,k=.returned (.tuple #[.agg #[.int .i64 x0,.int .i64 x1],.bool x2])/\K x0 x1 x2 e
abbrev N3(w:World)(x0:Int)(x1:Int)(K:Nat->World->Prop):Prop:=∀h e,New w (.cells #[.int .i64 x0,.int .i64 x1] 62) h e->K h e
abbrev U3(w:World)(b o:Nat)(x0:Int)(x1:Int)(K:World->Prop):Prop:=∃e,St P 62 w ⟨b,o,none⟩ (.agg #[.int .i64 x0,.int .i64 x1]) e/\K e
abbrev L3(w:World)(b o:Nat)(K:Int->Int->Prop):Prop:=∃x0 x1,Ld P 62 w ⟨b,o,none⟩ (.agg #[.int .i64 x0,.int .i64 x1])/\K x0 x1
abbrev A4(x0:Int)(x1:Int):Value:=.agg #[.int .i64 x0,.int .i64 x1]
abbrev N4(w:World)(x0:Int)(x1:Int)(K:Nat->World->Prop):Prop:=∀h e,New w (.cells #[.int .i64 x0,.int .i64 x1] 68) h e->K h e
abbrev C13(f:FuncId)(l:List Value)(w:World)(K:Int->Int->Int->Int->ByteArray->ByteArray->Option Addr->Nat->Nat->Bool->World->Prop):Prop:=BL P f l w fun k e=>∃x0 x1 x2 x3 x4 x5 x6 x7 x8 x9,k=.returned (.tuple #[.agg #[.int .i64 x0,.int .i64 x1,.int .i64 x2,.int .i64 x3,.string x4,.string x5,.slice x6 x7 x8],.bool x9])/\K x0 x1 x2 x3 x4 x5 x6 x7 x8 x9 e
abbrev N5(w:World)(x0:Int)(x1:Int)(x2:Int)(x3:Int)(x4:ByteArray)(x5:ByteArray)(x6:Option Addr)(x7:Nat)(x8:Nat)(K:Nat->World->Prop):Prop:=∀h e,New w (.cells #[.int .i64 x0,.int .i64 x1,.int .i64 x2,.int .i64 x3,.string x4,.string x5,.slice x6 x7 x8] 71) h e->K h e
abbrev U4(w:World)(b o:Nat)(x0:Int)(x1:Int)(x2:Int)(x3:Int)(x4:ByteArray)(x5:ByteArray)(x6:Option Addr)(x7:Nat)(x8:Nat)(K:World->Prop):Prop:=∃e,St P 71 w ⟨b,o,none⟩ (.agg #[.int .i64 x0,.int .i64 x1,.int .i64 x2,.int .i64 x3,.string x4,.string x5,.slice x6 x7 x8]) e/\K e
abbrev A5(x0:Int)(x1:Int)(x2:ByteArray)(x3:Bool):Value:=.agg #[.int .i64 x0,.int .i64 x1,.string x2,.bool x3]
abbrev L4(w:World)(b o:Nat)(K:Int->Prop):Prop:=∃x0,Ld P 3 w ⟨b,o,none⟩ (.int .i64 x0)/\K x0
abbrev L5(w:World)(b o:Nat)(K:Bool->Prop):Prop:=∃x0,Ld P 4 w ⟨b,o,none⟩ (.bool x0)/\K x0
abbrev L6(w:World)(b o:Nat)(K:Option Addr->Nat->Nat->Prop):Prop:=∃x0 x1 x2,Ld P 34 w ⟨b,o,none⟩ (.slice x0 x1 x2)/\K x0 x1 x2
abbrev N7(w:World)(x0:Int)(x1:Int)(x2:ByteArray)(x3:Bool)(K:Nat->World->Prop):Prop:=∀h e,New w (.cells #[.int .i64 x0,.int .i64 x1,.string x2,.bool x3] 55) h e->K h e
abbrev G6(w:World)(a:Addr)(K:Option Addr->Nat->Nat->Prop):Prop:=∃x0 x1 x2,Ld P 84 w a (.slice x0 x1 x2)/\K x0 x1 x2
abbrev G7(w:World)(a:Addr)(K:Option Addr->Prop):Prop:=∃x0,Ld P 95 w a (.pointer x0)/\K x0
abbrev C15(f:FuncId)(l:List Value)(w:World)(K:ByteArray->Bool->World->Prop):Prop:=BL P f l w fun k e=>∃x0 x1,k=.returned (.tuple #[.string x0,.bool x1])/\K x0 x1 e
abbrev G8(w:World)(a:Addr)(K:Option Addr->Prop):Prop:=∃x0,Ld P 49 w a (.pointer x0)/\K x0
abbrev G9(w:World)(a:Addr)(K:Option Nat->Prop):Prop:=∃x0,Ld P 80 w a (.map x0)/\K x0
abbrev G10(w:World)(a:Addr)(K:Option Addr->Prop):Prop:=∃x0,Ld P 81 w a (.pointer x0)/\K x0
abbrev G11(w:World)(a:Addr)(K:Option Nat->Prop):Prop:=∃x0,Ld P 83 w a (.map x0)/\K x0
abbrev C16(f:FuncId)(l:List Value)(w:World)(K:Option Nat->World->Prop):Prop:=BL P f l w fun k e=>∃x0,k=.returned (.map x0)/\K x0 e
abbrev N8(w:World)(x0:Option Addr)(K:Nat->World->Prop):Prop:=∀h e,New w (.cells #[.pointer x0] 95) h e->K h e
abbrev A6(x0:Int)(x1:Option Addr)(x2:Nat)(x3:Nat)(x4:Int):Value:=.tuple #[.int .i64 x0,.slice x1 x2 x3,.int .i64 x4]
abbrev N9(w:World)(x0:Int)(K:Nat->World->Prop):Prop:=∀h e,New w (.cells #[.int .i64 x0] 3) h e->K h e
abbrev L7(w:World)(b o:Nat)(K:ByteArray->Prop):Prop:=∃x0,Ld P 9 w ⟨b,o,none⟩ (.string x0)/\K x0
abbrev A7(x0:Int)(x1:Int):Value:=.tuple #[.int .i64 x0,.int .i64 x1]
abbrev Z2(w:World)(a:Addr)(x0:Int)(K:World->Prop):Prop:=∃e,St P 3 w a (.int .i64 x0) e/\K e
abbrev A8(x0:Option Addr)(x1:Int):Value:=.tuple #[.pointer x0,.int .i64 x1]
abbrev A9(x0:Int)(x1:Int)(x2:Bool):Value:=.tuple #[.agg #[.int .i64 x0,.int .i64 x1],.bool x2]
abbrev N10(w:World)(x0:Option Addr)(x1:Nat)(x2:Nat)(K:Nat->World->Prop):Prop:=∀h e,New w (.cells #[.slice x0 x1 x2] 59) h e->K h e
abbrev L9(w:World)(b o:Nat)(K:Option Addr->Nat->Nat->Prop):Prop:=∃x0 x1 x2,Ld P 59 w ⟨b,o,none⟩ (.slice x0 x1 x2)/\K x0 x1 x2
abbrev U5(w:World)(b o:Nat)(x0:Option Addr)(x1:Nat)(x2:Nat)(K:World->Prop):Prop:=∃e,St P 59 w ⟨b,o,none⟩ (.slice x0 x1 x2) e/\K e
abbrev G12(w:World)(a:Addr)(K:Option Nat->Prop):Prop:=∃x0,Ld P 117 w a (.map x0)/\K x0
abbrev A10(x0:Option Addr)(x1:Bool):Value:=.tuple #[.pointer x0,.bool x1]
abbrev L10(w:World)(b o:Nat)(K:Int->Int->Int->Int->ByteArray->ByteArray->Option Addr->Nat->Nat->Prop):Prop:=∃x0 x1 x2 x3 x4 x5 x6 x7 x8,Ld P 71 w ⟨b,o,none⟩ (.agg #[.int .i64 x0,.int .i64 x1,.int .i64 x2,.int .i64 x3,.string x4,.string x5,.slice x6 x7 x8])/\K x0 x1 x2 x3 x4 x5 x6 x7 x8
abbrev G13(w:World)(a:Addr)(K:Option Addr->Nat->Nat->Prop):Prop:=∃x0 x1 x2,Ld P 59 w a (.slice x0 x1 x2)/\K x0 x1 x2
abbrev G14(w:World)(a:Addr)(K:Option Addr->Nat->Nat->Prop):Prop:=∃x0 x1 x2,Ld P 69 w a (.slice x0 x1 x2)/\K x0 x1 x2
abbrev U6(w:World)(b o:Nat)(x0:Int)(K:World->Prop):Prop:=∃e,St P 3 w ⟨b,o,none⟩ (.int .i64 x0) e/\K e
abbrev U7(w:World)(b o:Nat)(x0:Option Addr)(x1:Nat)(x2:Nat)(K:World->Prop):Prop:=∃e,St P 69 w ⟨b,o,none⟩ (.slice x0 x1 x2) e/\K e
abbrev G15(w:World)(a:Addr)(K:Int->Int->Prop):Prop:=∃x0 x1,Ld P 68 w a (.agg #[.int .i64 x0,.int .i64 x1])/\K x0 x1
abbrev N11(w:World)(x0:Int)(x1:Int)(x2:ByteArray)(x3:ByteArray)(x4:Option Addr)(x5:Nat)(x6:Nat)(K:Nat->World->Prop):Prop:=∀h e,New w (.cells #[.int .i64 x0,.int .i64 x1,.string x2,.string x3,.slice x4 x5 x6] 123) h e->K h e
abbrev G16(w:World)(a:Addr)(K:Int->Int->ByteArray->ByteArray->Option Addr->Nat->Nat->Prop):Prop:=∃x0 x1 x2 x3 x4 x5 x6,Ld P 123 w a (.agg #[.int .i64 x0,.int .i64 x1,.string x2,.string x3,.slice x4 x5 x6])/\K x0 x1 x2 x3 x4 x5 x6
abbrev U8(w:World)(b o:Nat)(x0:Int)(x1:Int)(x2:ByteArray)(x3:ByteArray)(x4:Option Addr)(x5:Nat)(x6:Nat)(K:World->Prop):Prop:=∃e,St P 123 w ⟨b,o,none⟩ (.agg #[.int .i64 x0,.int .i64 x1,.string x2,.string x3,.slice x4 x5 x6]) e/\K e
abbrev L11(w:World)(b o:Nat)(K:Option Addr->Nat->Nat->Prop):Prop:=∃x0 x1 x2,Ld P 69 w ⟨b,o,none⟩ (.slice x0 x1 x2)/\K x0 x1 x2
abbrev N12(w:World)(x0:ByteArray)(K:Nat->World->Prop):Prop:=∀h e,New w (.cells #[.string x0] 9) h e->K h e
abbrev A12(x0:ByteArray)(x1:Bool):Value:=.tuple #[.string x0,.bool x1]
abbrev G17(w:World)(a:Addr)(K:Option Addr->Nat->Nat->Prop):Prop:=∃x0 x1 x2,Ld P 148 w a (.slice x0 x1 x2)/\K x0 x1 x2
abbrev G18(w:World)(a:Addr)(K:Option Nat->Prop):Prop:=∃x0,Ld P 147 w a (.map x0)/\K x0
abbrev C17(f:FuncId)(l:List Value)(w:World)(K:Int->Bool->World->Prop):Prop:=BL P f l w fun k e=>∃x0 x1,k=.returned (.tuple #[.int .i64 x0,.bool x1])/\K x0 x1 e
abbrev N13(w:World)(x0:ByteArray)(x1:ByteArray)(K:Nat->World->Prop):Prop:=∀h e,New w (.cells #[.string x0,.string x1] 142) h e->K h e
abbrev U9(w:World)(b o:Nat)(x0:ByteArray)(x1:ByteArray)(K:World->Prop):Prop:=∃e,St P 142 w ⟨b,o,none⟩ (.agg #[.string x0,.string x1]) e/\K e
abbrev A13(x0:Option Addr)(x1:Nat)(x2:Nat)(x3:Int):Value:=.tuple #[.slice x0 x1 x2,.int .i64 x3]
abbrev G19(w:World)(a:Addr)(K:Int->Int->Prop):Prop:=∃x0 x1,Ld P 62 w a (.agg #[.int .i64 x0,.int .i64 x1])/\K x0 x1
abbrev G20(w:World)(a:Addr)(K:Option Addr->Prop):Prop:=∃x0,Ld P 23 w a (.pointer x0)/\K x0
abbrev A14(x0:ByteArray):Value:=.agg #[.string x0]
abbrev N14(w:World)(x0:Int)(x1:Int)(K:Nat->World->Prop):Prop:=∀h e,New w (.cells #[.int .i64 x0,.int .i64 x1] 101) h e->K h e
abbrev U10(w:World)(b o:Nat)(x0:Int)(x1:Int)(K:World->Prop):Prop:=∃e,St P 101 w ⟨b,o,none⟩ (.agg #[.int .i64 x0,.int .i64 x1]) e/\K e
abbrev G21(w:World)(a:Addr)(K:Option Nat->Prop):Prop:=∃x0,Ld P 110 w a (.map x0)/\K x0
abbrev L12(w:World)(b o:Nat)(K:Int->Int->Prop):Prop:=∃x0 x1,Ld P 101 w ⟨b,o,none⟩ (.agg #[.int .i64 x0,.int .i64 x1])/\K x0 x1
abbrev C18(f:FuncId)(l:List Value)(w:World)(K:ByteArray->World->Prop):Prop:=BL P f l w fun k e=>∃x0,k=.returned (.string x0)/\K x0 e
abbrev A15(x0:Int)(x1:Int)(x2:Int)(x3:Int)(x4:Int)(x5:Int)(x6:ByteArray)(x7:Option Addr)(x8:Nat)(x9:Nat):Value:=.agg #[.int .i64 x0,.int .i64 x1,.int .i64 x2,.int .i64 x3,.int .i64 x4,.int .i64 x5,.string x6,.slice x7 x8 x9]
abbrev L13(w:World)(b o:Nat)(K:Int->Int->ByteArray->ByteArray->Option Addr->Nat->Nat->Prop):Prop:=∃x0 x1 x2 x3 x4 x5 x6,Ld P 123 w ⟨b,o,none⟩ (.agg #[.int .i64 x0,.int .i64 x1,.string x2,.string x3,.slice x4 x5 x6])/\K x0 x1 x2 x3 x4 x5 x6
abbrev A16(x0:Int)(x1:Int)(x2:ByteArray)(x3:ByteArray)(x4:Option Addr)(x5:Nat)(x6:Nat):Value:=.agg #[.int .i64 x0,.int .i64 x1,.string x2,.string x3,.slice x4 x5 x6]
abbrev Z3(w:World)(a:Addr)(x0:Option Addr)(x1:Nat)(x2:Nat)(K:World->Prop):Prop:=∃e,St P 59 w a (.slice x0 x1 x2) e/\K e
abbrev A17(x0:Int)(x1:Int)(x2:Int)(x3:Bool):Value:=.tuple #[.int .i64 x0,.int .i64 x1,.int .i64 x2,.bool x3]
abbrev G22(w:World)(a:Addr)(K:Option Nat->Prop):Prop:=∃x0,Ld P 125 w a (.map x0)/\K x0
abbrev N15(w:World)(x0:ByteArray)(x1:Int)(K:Nat->World->Prop):Prop:=∀h e,New w (.cells #[.string x0,.int .i64 x1] 167) h e->K h e
abbrev Z4(w:World)(a:Addr)(x0:Option Addr)(x1:Nat)(x2:Nat)(K:World->Prop):Prop:=∃e,St P 148 w a (.slice x0 x1 x2) e/\K e
abbrev A18(x0:Int)(x1:Int)(x2:Int)(x3:Int)(x4:Int)(x5:Int)(x6:ByteArray)(x7:Option Addr)(x8:Nat)(x9:Nat)(x10:Int):Value:=.tuple #[.agg #[.int .i64 x0,.int .i64 x1,.int .i64 x2,.int .i64 x3,.int .i64 x4,.int .i64 x5,.string x6,.slice x7 x8 x9],.int .i64 x10]
abbrev N16(w:World)(x0:Int)(x1:Int)(x2:Int)(x3:Int)(x4:Int)(x5:Int)(x6:ByteArray)(x7:Option Addr)(x8:Nat)(x9:Nat)(K:Nat->World->Prop):Prop:=∀h e,New w (.cells #[.int .i64 x0,.int .i64 x1,.int .i64 x2,.int .i64 x3,.int .i64 x4,.int .i64 x5,.string x6,.slice x7 x8 x9] 204) h e->K h e
abbrev U11(w:World)(b o:Nat)(x0:Int)(x1:Int)(x2:Int)(x3:Int)(x4:Int)(x5:Int)(x6:ByteArray)(x7:Option Addr)(x8:Nat)(x9:Nat)(K:World->Prop):Prop:=∃e,St P 204 w ⟨b,o,none⟩ (.agg #[.int .i64 x0,.int .i64 x1,.int .i64 x2,.int .i64 x3,.int .i64 x4,.int .i64 x5,.string x6,.slice x7 x8 x9]) e/\K e
abbrev G23(w:World)(a:Addr)(K:Option Addr->Nat->Nat->Prop):Prop:=∃x0 x1 x2,Ld P 126 w a (.slice x0 x1 x2)/\K x0 x1 x2
abbrev L14(w:World)(b o:Nat)(K:Int->Int->Int->Int->Int->Int->ByteArray->Option Addr->Nat->Nat->Prop):Prop:=∃x0 x1 x2 x3 x4 x5 x6 x7 x8 x9,Ld P 204 w ⟨b,o,none⟩ (.agg #[.int .i64 x0,.int .i64 x1,.int .i64 x2,.int .i64 x3,.int .i64 x4,.int .i64 x5,.string x6,.slice x7 x8 x9])/\K x0 x1 x2 x3 x4 x5 x6 x7 x8 x9
abbrev C19(f:FuncId)(l:List Value)(w:World)(K:Option Addr->Nat->Nat->Bool->World->Prop):Prop:=BL P f l w fun k e=>∃x0 x1 x2 x3,k=.returned (.tuple #[.slice x0 x1 x2,.bool x3])/\K x0 x1 x2 x3 e
abbrev A19(x0:ByteArray)(x1:ByteArray):Value:=.agg #[.string x0,.string x1]
abbrev U12(w:World)(b o:Nat)(x0:Int)(K:World->Prop):Prop:=∃e,St P 41 w ⟨b,o,none⟩ (.int .i64 x0) e/\K e
abbrev L15(w:World)(b o:Nat)(K:Int->Prop):Prop:=∃x0,Ld P 41 w ⟨b,o,none⟩ (.int .i64 x0)/\K x0
abbrev U13(w:World)(b o:Nat)(x0:ByteArray)(x1:Int)(K:World->Prop):Prop:=∃e,St P 167 w ⟨b,o,none⟩ (.agg #[.string x0,.int .i64 x1]) e/\K e
abbrev G24(w:World)(a:Addr)(K:Int->Bool->Prop):Prop:=∃x0 x1,Ld P 248 w a (.agg #[.int .i64 x0,.bool x1])/\K x0 x1
abbrev N17(w:World)(x0:Int)(x1:Bool)(K:Nat->World->Prop):Prop:=∀h e,New w (.cells #[.int .i64 x0,.bool x1] 248) h e->K h e
abbrev A20(x0:Int)(x1:Bool):Value:=.agg #[.int .i64 x0,.bool x1]
abbrev L16(w:World)(b o:Nat)(K:Option Addr->Nat->Nat->Prop):Prop:=∃x0 x1 x2,Ld P 202 w ⟨b,o,none⟩ (.slice x0 x1 x2)/\K x0 x1 x2
abbrev N18(w:World)(x0:Int)(x1:ByteArray)(K:Nat->World->Prop):Prop:=∀h e,New w (.cells #[.int .i64 x0,.string x1] 260) h e->K h e
abbrev G25(w:World)(a:Addr)(K:Int->Prop):Prop:=∃x0,Ld P 5 w a (.int .u8 x0)/\K x0
abbrev U14(w:World)(b o:Nat)(x0:ByteArray)(K:World->Prop):Prop:=∃e,St P 9 w ⟨b,o,none⟩ (.string x0) e/\K e
abbrev U15(w:World)(b o:Nat)(x0:Int)(x1:ByteArray)(K:World->Prop):Prop:=∃e,St P 260 w ⟨b,o,none⟩ (.agg #[.int .i64 x0,.string x1]) e/\K e
abbrev A21(x0:Option Addr)(x1:Nat)(x2:Nat)(x3:Bool):Value:=.tuple #[.slice x0 x1 x2,.bool x3]
abbrev L17(w:World)(b o:Nat)(K:Option Addr->Prop):Prop:=∃x0,Ld P 95 w ⟨b,o,none⟩ (.pointer x0)/\K x0
abbrev N19(w:World)(x0:Int)(K:Nat->World->Prop):Prop:=∀h e,New w (.cells #[.int .u8 x0] 5) h e->K h e
abbrev A23(x0:Int)(x1:Int):Value:=.tuple #[.int .i32 x0,.int .i64 x1]
abbrev A24(x0:Int)(x1:Int):Value:=.agg #[.int .i32 x0,.int .i32 x1]
abbrev A25(x0:Int)(x1:Int):Value:=.tuple #[.int .i64 x0,.int .i32 x1]
abbrev C21(f:FuncId)(l:List Value)(w:World)(K:Int->World->Prop):Prop:=BL P f l w fun k e=>∃x0,k=.returned (.int .u8 x0)/\K x0 e
section
variable(w:World)(R:Ending->World->Prop){u:World}{U:Ending->World->Prop}(p0 p1 p2:Option Addr)(n0 n1 n2 n3:Nat)(i0 i1 i2 i3 i4 i5 i6 i7 i8 i9 i10 i11:Int)(s0 s1 s2 s3:ByteArray)(b0 b1:Bool)(m0:Option Nat)(v0:Value)
def lCloneAt.vc:Prop:=∃a,Eqv P .eql 69 (.tmp 3) (.const (S none 0 0)) w (S p0 n0 n1) (S none 0 0) a/\br a (R (E (S none 0 0)) w) (∀a h,New w (.cells #[] 142) a h->∃b d c i,App P #[69,69] 69 h (S (some (.mk a 0 none)) 0 0) (S p0 n0 n1) (S b d c) i/\R (E (S b d c)) i)
theorem lCloneAt.ok(Z0:lCloneAt.vc u U p0 n0 n1):Calls P 70 #[S p0 n0 n1] u U:=cok {} Tryz.func70 Z0
def lCloneI.vc:Prop:=∃a,Eqv P .eql 59 (.tmp 3) (.const (S none 0 0)) w (S p0 n0 n1) (S none 0 0) a/\br a (R (E (S none 0 0)) w) (∀a h,New w (.cells #[] 3) a h->∃b d c i,App P #[59,59] 59 h (S (some (.mk a 0 none)) 0 0) (S p0 n0 n1) (S b d c) i/\R (E (S b d c)) i)
theorem lCloneI.ok(Z0:lCloneI.vc u U p0 n0 n1):Calls P 87 #[S p0 n0 n1] u U:=cok {} Tryz.func87 Z0
def lCloneW.vc:Prop:=∃a,Eqv P .eql 148 (.tmp 3) (.const (S none 0 0)) w (S p0 n0 n1) (S none 0 0) a/\br a (R (E (S none 0 0)) w) (∀a h,New w (.cells #[] 167) a h->∃b d c i,App P #[148,148] 148 h (S (some (.mk a 0 none)) 0 0) (S p0 n0 n1) (S b d c) i/\R (E (S b d c)) i)
theorem lCloneW.ok(Z0:lCloneW.vc u U p0 n0 n1):Calls P 89 #[S p0 n0 n1] u U:=cok {} Tryz.func89 Z0
def lMCloneSp.vc:Prop:=∃b,Eqv P .eql 80 (.tmp 3) (.const (.map none)) w (.map m0) (.map none) b/\br b (R (E (.map none)) w) (ExtV P 88 [.iface 80 (.map m0)] w fun e d=>∃c,e=E c/\∃m0,TAs P 20 80 false d c (.map m0)/\R (E (.map m0)) d)
theorem lMCloneSp.ok(Z0:lMCloneSp.vc u U m0):Calls P 50 #[.map m0] u U:=cok {} Tryz.func50 Z0
def lMClonePl.vc:Prop:=∃b,Eqv P .eql 83 (.tmp 3) (.const (.map none)) w (.map m0) (.map none) b/\br b (R (E (.map none)) w) (ExtV P 88 [.iface 83 (.map m0)] w fun e d=>∃c,e=E c/\∃m0,TAs P 20 83 false d c (.map m0)/\R (E (.map m0)) d)
theorem lMClonePl.ok(Z0:lMClonePl.vc u U m0):Calls P 52 #[.map m0] u U:=cok {} Tryz.func52 Z0
def lMCloneSI.vc:Prop:=∃b,Eqv P .eql 147 (.tmp 3) (.const (.map none)) w (.map m0) (.map none) b/\br b (R (E (.map none)) w) (ExtV P 88 [.iface 147 (.map m0)] w fun e d=>∃c,e=E c/\∃m0,TAs P 20 147 false d c (.map m0)/\R (E (.map m0)) d)
theorem lMCloneSI.ok(Z0:lMCloneSI.vc u U m0):Calls P 90 #[.map m0] u U:=cok {} Tryz.func90 Z0
def lInsI.vc:Prop:=(0<=i0/\i0<=(↑n0:Int))/\B0 ((↑n2:Int)=0) (R (E (S p0 n0 n1)) w) (B0 (i0=(↑n0:Int)) (∃i e h f,App P #[59,59] 59 w (S p0 n0 n1) (S p1 n2 n3) (S i e h) f/\R (E (S i e h)) f) (inR .i64 ((↑n0:Int)+(↑n2:Int))/\B0 ((↑n1:Int)<(↑n0:Int)+(↑n2:Int)) ((0<=i0/\i0<=(↑n1:Int))/\inR .i64 ((↑n0:Int)+(↑n2:Int))/\inR .i64 ((↑n0:Int)+(↑n2:Int)-i0)/\∃i e h f,App P #[59,3] 59 w (S p0 (i0.toNat) n1) (I ((↑n0:Int)+(↑n2:Int)-i0)) (S i e h) f/\(0<=i0/\i0<=(↑e:Int))/\∃p l,Cpy P #[59,59] 3 f (S (slA i h (i0.toNat) 1) (e-i0.toNat) (h-i0.toNat)) (S p1 n2 n3) (I p) l/\inR .i64 (i0+(↑n2:Int))/\(0<=i0+(↑n2:Int)/\i0+(↑n2:Int)<=(↑e:Int))/\(0<=i0/\i0<=(↑n0:Int))/\∃q f,Cpy P #[59,59] 3 l.drew (S (slA i h (Int.toNat (i0+(↑n2:Int))) 1) (e-Int.toNat (i0+(↑n2:Int))) (h-Int.toNat (i0+(↑n2:Int)))) (S (slA p0 n1 (i0.toNat) 1) (n0-i0.toNat) (n1-i0.toNat)) (I q) f/\R (E (S i e h)) f) (inR .i64 ((↑n0:Int)+(↑n2:Int))/\(0<=(↑n0:Int)+(↑n2:Int)/\(↑n0:Int)+(↑n2:Int)<=(↑n1:Int))/\inR .i64 (i0+(↑n2:Int))/\(0<=i0+(↑n2:Int)/\i0+(↑n2:Int)<=(↑(Int.toNat ((↑n0:Int)+(↑n2:Int))):Int))/\ExtV P 181 [S p1 n2 n3,S (slA p0 n1 (Int.toNat (i0+(↑n2:Int))) 1) (Int.toNat ((↑n0:Int)+(↑n2:Int))-Int.toNat (i0+(↑n2:Int))) (n1-Int.toNat (i0+(↑n2:Int)))] w fun n m=>∃o,n=E (.bool o)/\br (!o) (inR .i64 (i0+(↑n2:Int))/\(0<=i0+(↑n2:Int)/\i0+(↑n2:Int)<=(↑(Int.toNat ((↑n0:Int)+(↑n2:Int))):Int))/\(0<=i0/\i0<=(↑(Int.toNat ((↑n0:Int)+(↑n2:Int))):Int))/\∃e f,Cpy P #[59,59] 3 m.drew (S (slA p0 n1 (Int.toNat (i0+(↑n2:Int))) 1) (Int.toNat ((↑n0:Int)+(↑n2:Int))-Int.toNat (i0+(↑n2:Int))) (n1-Int.toNat (i0+(↑n2:Int)))) (S (slA p0 n1 (i0.toNat) 1) (Int.toNat ((↑n0:Int)+(↑n2:Int))-i0.toNat) (n1-i0.toNat)) (I e) f/\(0<=i0/\i0<=(↑(Int.toNat ((↑n0:Int)+(↑n2:Int))):Int))/\∃e l,Cpy P #[59,59] 3 f (S (slA p0 n1 (i0.toNat) 1) (Int.toNat ((↑n0:Int)+(↑n2:Int))-i0.toNat) (n1-i0.toNat)) (S p1 n2 n3) (I e) l/\R (E (S p0 (Int.toNat ((↑n0:Int)+(↑n2:Int))) n1)) l) ((0<=(↑n0:Int)/\(↑n0:Int)<=(↑(Int.toNat ((↑n0:Int)+(↑n2:Int))):Int))/\∃e f,Cpy P #[59,59] 3 m (S (slA p0 n1 (Int.toNat (↑n0:Int)) 1) (Int.toNat ((↑n0:Int)+(↑n2:Int))-Int.toNat (↑n0:Int)) (n1-Int.toNat (↑n0:Int))) (S p1 n2 n3) (I e) f/\(0<=i0/\i0<=(↑(Int.toNat ((↑n0:Int)+(↑n2:Int))):Int))/\C1 182 [S (slA p0 n1 (i0.toNat) 1) (Int.toNat ((↑n0:Int)+(↑n2:Int))-i0.toNat) (n1-i0.toNat),I (↑n2:Int)] f fun m=>R (E (S p0 (Int.toNat ((↑n0:Int)+(↑n2:Int))) n1)) m))))
theorem lInsI.ok(Z0:lInsI.vc u U p0 p1 n0 n1 n2 n3 i0):Calls P 122 #[S p0 n0 n1,I i0,S p1 n2 n3] u U:=cok {} Tryz.func122 Z0
def lInsAt.vc:Prop:=(0<=i0/\i0<=(↑n0:Int))/\B0 ((↑n2:Int)=0) (R (E (S p0 n0 n1)) w) (B0 (i0=(↑n0:Int)) (∃i e h f,App P #[69,69] 69 w (S p0 n0 n1) (S p1 n2 n3) (S i e h) f/\R (E (S i e h)) f) (inR .i64 ((↑n0:Int)+(↑n2:Int))/\B0 ((↑n1:Int)<(↑n0:Int)+(↑n2:Int)) ((0<=i0/\i0<=(↑n1:Int))/\inR .i64 ((↑n0:Int)+(↑n2:Int))/\inR .i64 ((↑n0:Int)+(↑n2:Int)-i0)/\∃i e h f,App P #[69,3] 69 w (S p0 (i0.toNat) n1) (I ((↑n0:Int)+(↑n2:Int)-i0)) (S i e h) f/\(0<=i0/\i0<=(↑e:Int))/\∃p l,Cpy P #[69,69] 3 f (S (slA i h (i0.toNat) 2) (e-i0.toNat) (h-i0.toNat)) (S p1 n2 n3) (I p) l/\inR .i64 (i0+(↑n2:Int))/\(0<=i0+(↑n2:Int)/\i0+(↑n2:Int)<=(↑e:Int))/\(0<=i0/\i0<=(↑n0:Int))/\∃q f,Cpy P #[69,69] 3 l.drew (S (slA i h (Int.toNat (i0+(↑n2:Int))) 2) (e-Int.toNat (i0+(↑n2:Int))) (h-Int.toNat (i0+(↑n2:Int)))) (S (slA p0 n1 (i0.toNat) 2) (n0-i0.toNat) (n1-i0.toNat)) (I q) f/\R (E (S i e h)) f) (inR .i64 ((↑n0:Int)+(↑n2:Int))/\(0<=(↑n0:Int)+(↑n2:Int)/\(↑n0:Int)+(↑n2:Int)<=(↑n1:Int))/\inR .i64 (i0+(↑n2:Int))/\(0<=i0+(↑n2:Int)/\i0+(↑n2:Int)<=(↑(Int.toNat ((↑n0:Int)+(↑n2:Int))):Int))/\ExtV P 220 [S p1 n2 n3,S (slA p0 n1 (Int.toNat (i0+(↑n2:Int))) 2) (Int.toNat ((↑n0:Int)+(↑n2:Int))-Int.toNat (i0+(↑n2:Int))) (n1-Int.toNat (i0+(↑n2:Int)))] w fun n m=>∃o,n=E (.bool o)/\br (!o) (inR .i64 (i0+(↑n2:Int))/\(0<=i0+(↑n2:Int)/\i0+(↑n2:Int)<=(↑(Int.toNat ((↑n0:Int)+(↑n2:Int))):Int))/\(0<=i0/\i0<=(↑(Int.toNat ((↑n0:Int)+(↑n2:Int))):Int))/\∃e f,Cpy P #[69,69] 3 m.drew (S (slA p0 n1 (Int.toNat (i0+(↑n2:Int))) 2) (Int.toNat ((↑n0:Int)+(↑n2:Int))-Int.toNat (i0+(↑n2:Int))) (n1-Int.toNat (i0+(↑n2:Int)))) (S (slA p0 n1 (i0.toNat) 2) (Int.toNat ((↑n0:Int)+(↑n2:Int))-i0.toNat) (n1-i0.toNat)) (I e) f/\(0<=i0/\i0<=(↑(Int.toNat ((↑n0:Int)+(↑n2:Int))):Int))/\∃e l,Cpy P #[69,69] 3 f (S (slA p0 n1 (i0.toNat) 2) (Int.toNat ((↑n0:Int)+(↑n2:Int))-i0.toNat) (n1-i0.toNat)) (S p1 n2 n3) (I e) l/\R (E (S p0 (Int.toNat ((↑n0:Int)+(↑n2:Int))) n1)) l) ((0<=(↑n0:Int)/\(↑n0:Int)<=(↑(Int.toNat ((↑n0:Int)+(↑n2:Int))):Int))/\∃e f,Cpy P #[69,69] 3 m (S (slA p0 n1 (Int.toNat (↑n0:Int)) 2) (Int.toNat ((↑n0:Int)+(↑n2:Int))-Int.toNat (↑n0:Int)) (n1-Int.toNat (↑n0:Int))) (S p1 n2 n3) (I e) f/\(0<=i0/\i0<=(↑(Int.toNat ((↑n0:Int)+(↑n2:Int))):Int))/\C1 221 [S (slA p0 n1 (i0.toNat) 2) (Int.toNat ((↑n0:Int)+(↑n2:Int))-i0.toNat) (n1-i0.toNat),I (↑n2:Int)] f fun m=>R (E (S p0 (Int.toNat ((↑n0:Int)+(↑n2:Int))) n1)) m))))
theorem lInsAt.ok(Z0:lInsAt.vc u U p0 p1 n0 n1 n2 n3 i0):Calls P 153 #[S p0 n0 n1,I i0,S p1 n2 n3] u U:=cok {} Tryz.func153 Z0
def lDelAt.vc:Prop:=(0<=i0/\i0<=i1/\i1<=(↑n0:Int)/\(↑n0:Int)<=(↑n1:Int))/\B0 (i0=i1) (R (E (S p0 n0 n1)) w) ((0<=i0/\i0<=(↑n1:Int))/\(0<=i1/\i1<=(↑n0:Int))/\∃g c f i,App P #[69,69] 69 w.drew (S p0 (i0.toNat) n1) (S (slA p0 n1 (i1.toNat) 2) (n0-i1.toNat) (n1-i1.toNat)) (S g c f) i/\(0<=(↑c:Int)/\(↑c:Int)<=(↑n0:Int)/\(↑n0:Int)<=(↑f:Int))/\∃j,Clr P #[69] 0 i (S (slA g f (Int.toNat (↑c:Int)) 2) (Int.toNat (↑n0:Int)-Int.toNat (↑c:Int)) (f-Int.toNat (↑c:Int))) j/\R (E (S g c f)) j)
theorem lDelAt.ok(Z0:lDelAt.vc u U p0 n0 n1 i0 i1):Calls P 154 #[S p0 n0 n1,I i0,I i1] u U:=cok {} Tryz.func154 Z0
def lDelI.vc:Prop:=(0<=i0/\i0<=i1/\i1<=(↑n0:Int)/\(↑n0:Int)<=(↑n1:Int))/\B0 (i0=i1) (R (E (S p0 n0 n1)) w) ((0<=i0/\i0<=(↑n1:Int))/\(0<=i1/\i1<=(↑n0:Int))/\∃g c f i,App P #[59,59] 59 w.drew (S p0 (i0.toNat) n1) (S (slA p0 n1 (i1.toNat) 1) (n0-i1.toNat) (n1-i1.toNat)) (S g c f) i/\(0<=(↑c:Int)/\(↑c:Int)<=(↑n0:Int)/\(↑n0:Int)<=(↑f:Int))/\∃j,Clr P #[59] 0 i (S (slA g f (Int.toNat (↑c:Int)) 1) (Int.toNat (↑n0:Int)-Int.toNat (↑c:Int)) (f-Int.toNat (↑c:Int))) j/\R (E (S g c f)) j)
theorem lDelI.ok(Z0:lDelI.vc u U p0 n0 n1 i0 i1):Calls P 216 #[S p0 n0 n1,I i0,I i1] u U:=cok {} Tryz.func216 Z0
def lIdxI.vc:Prop:=AP (St:=Int) (fun a b f=>B0 (a<(↑n0:Int)) (onP p0 fun e=>D1 a n0/\G1 b (e.add (a.toNat*1)) fun c=>B0 (i0=c) (R (E (I a)) b) (inR .i64 (a+1)/\f (a+1) b)) (R (E (I (-1:Int))) b)) 0 w
theorem lIdxI.ok(Z0:lIdxI.vc u U p0 n0 i0):Calls P 215 #[S p0 n0 n1,I i0] u U:=cok ⟨[],[(2,[(8,.inl .i64)])],[],[]⟩ Tryz.func215 Z0
def lBSrS.vc:Prop:=AP (St:=Int×Int) (fun a b j=>B0 (a.1<a.2) (inR .i64 (a.1+a.2)/\(0:Int)<=(1:Int)/\onP p0 fun d=>((0:Int)<=IntKind.wrap .i64 (Int.fdiv (IntKind.wrap .u64 (a.1+a.2)) ((2:Int)^min (Int.toNat (1:Int)) (IntKind.bits .u64)))/\IntKind.wrap .i64 (Int.fdiv (IntKind.wrap .u64 (a.1+a.2)) ((2:Int)^min (Int.toNat (1:Int)) (IntKind.bits .u64)))<(↑n0:Int))/\G2 b (d.add (Int.toNat (IntKind.wrap .i64 (Int.fdiv (IntKind.wrap .u64 (a.1+a.2)) ((2:Int)^min (Int.toNat (1:Int)) (IntKind.bits .u64))))*1)) fun f=>C2 155 [.string f,.string s0] b fun c b=>br c (inR .i64 (IntKind.wrap .i64 (Int.fdiv (IntKind.wrap .u64 (a.1+a.2)) ((2:Int)^min (Int.toNat (1:Int)) (IntKind.bits .u64)))+(1:Int))/\j (IntKind.wrap .i64 (Int.fdiv (IntKind.wrap .u64 (a.1+a.2)) ((2:Int)^min (Int.toNat (1:Int)) (IntKind.bits .u64)))+(1:Int),a.2) b) (j (a.1,IntKind.wrap .i64 (Int.fdiv (IntKind.wrap .u64 (a.1+a.2)) ((2:Int)^min (Int.toNat (1:Int)) (IntKind.bits .u64)))) b)) (B0 (a.1<(↑n0:Int)) (onP p0 fun d=>((0:Int)<=a.1/\a.1<(↑n0:Int))/\G2 b (d.add (a.1.toNat*1)) fun f=>B0 (f=s0) (R (E (A1 a.1 true)) b) (onP p0 fun d=>((0:Int)<=a.1/\a.1<(↑n0:Int))/\G2 b (d.add (a.1.toNat*1)) fun k=>C2 156 [.string k] b fun c b=>br c (C2 156 [.string s0] b fun c b=>R (E (A1 a.1 c)) b) (R (E (A1 a.1 false)) b))) (R (E (A1 a.1 false)) b))) ((0:Int),(↑n0:Int)) w
theorem lBSrS.ok(Z0:lBSrS.vc u U p0 n0 s0):Calls P 98 #[S p0 n0 n1,.string s0] u U:=cok ⟨[],[(3,[(7,.inl .i64),(8,.inl .i64)])],[],[]⟩ Tryz.func98 Z0
def lBSrAt.vc:Prop:=AP (St:=Int×Int) (fun a b j=>B0 (a.1<a.2) (inR .i64 (a.1+a.2)/\(0:Int)<=(1:Int)/\onP p0 fun g=>((0:Int)<=IntKind.wrap .i64 (Int.fdiv (IntKind.wrap .u64 (a.1+a.2)) ((2:Int)^min (Int.toNat (1:Int)) (IntKind.bits .u64)))/\IntKind.wrap .i64 (Int.fdiv (IntKind.wrap .u64 (a.1+a.2)) ((2:Int)^min (Int.toNat (1:Int)) (IntKind.bits .u64)))<(↑n0:Int))/\G3 b (g.add (Int.toNat (IntKind.wrap .i64 (Int.fdiv (IntKind.wrap .u64 (a.1+a.2)) ((2:Int)^min (Int.toNat (1:Int)) (IntKind.bits .u64))))*2)) fun d e=>Ee P v0 [.agg #[.string d,.string e],.string s0] b fun h b=>∃c,h=E (I c)/\B0 (c<(0:Int)) (inR .i64 (IntKind.wrap .i64 (Int.fdiv (IntKind.wrap .u64 (a.1+a.2)) ((2:Int)^min (Int.toNat (1:Int)) (IntKind.bits .u64)))+(1:Int))/\j (IntKind.wrap .i64 (Int.fdiv (IntKind.wrap .u64 (a.1+a.2)) ((2:Int)^min (Int.toNat (1:Int)) (IntKind.bits .u64)))+(1:Int),a.2) b) (j (a.1,IntKind.wrap .i64 (Int.fdiv (IntKind.wrap .u64 (a.1+a.2)) ((2:Int)^min (Int.toNat (1:Int)) (IntKind.bits .u64)))) b)) (B0 (a.1<(↑n0:Int)) (onP p0 fun g=>((0:Int)<=a.1/\a.1<(↑n0:Int))/\G3 b (g.add (a.1.toNat*2)) fun d e=>Ee P v0 [.agg #[.string d,.string e],.string s0] b fun h b=>∃c,h=E (I c)/\R (E (A1 a.1 (decide (c=(0:Int))))) b) (R (E (A1 a.1 false)) b))) ((0:Int),(↑n0:Int)) w
theorem lBSrAt.ok(Z0:lBSrAt.vc u U p0 n0 s0 v0):Calls P 218 #[S p0 n0 n1,.string s0,v0] u U:=cok ⟨[],[(3,[(9,.inl .i64),(10,.inl .i64)])],[],[]⟩ Tryz.func218 Z0
def lLessS.vc:Prop:=C2 222 [.string s0] w fun a b=>br a (C2 222 [.string s1] b fun a b=>br (!a) (R (E (.bool true)) b) (R (E (.bool (Op.bytesLess (Array.toList (ByteArray.data s0)) (Array.toList (ByteArray.data s1))))) b)) (R (E (.bool (Op.bytesLess (Array.toList (ByteArray.data s0)) (Array.toList (ByteArray.data s1))))) b)
theorem lLessS.ok(Z0:lLessS.vc u U s0 s1):Calls P 155 #[.string s0,.string s1] u U:=cok {} Tryz.func155 Z0
def lNaNS.vc:Prop:=R (E (.bool !decide (s0=s0))) w
theorem lNaNS.ok(Z0:lNaNS.vc u U s0):Calls P 156 #[.string s0] u U:=cok {} Tryz.func156 Z0
def lNaNS2.vc:Prop:=R (E (.bool !decide (s0=s0))) w
theorem lNaNS2.ok(Z0:lNaNS2.vc u U s0):Calls P 222 #[.string s0] u U:=cok {} Tryz.func222 Z0
def lCompare.vc:Prop:=C3 259 [.string s0,.string s1] w fun a e=>R (E (I a)) e
theorem lCompare.ok(Z0:lCompare.vc u U s0 s1):Calls P 201 #[.string s0,.string s1] u U:=cok {} Tryz.func201 Z0
def lCmpStr.vc:Prop:=ExtV P 298 [.string s0,.string s1] w fun d e=>∃a,d=E (I a)/\R (E (I a)) e
theorem lCmpStr.ok(Z0:lCmpStr.vc u U s0 s1):Calls P 259 #[.string s0,.string s1] u U:=cok {} Tryz.func259 Z0
def nodetabSpans.vc:Prop:=C4 10 [] w fun m a=>∃b,Eqv P .eql 23 (.tmp 19) (.const (Q none)) a (Q m) (Q none) b/\br b (∃b,Eqv P .neq 23 (.tmp 26) (.const (Q none)) a (Q m) (Q none) b/\br b (C2 12 [] a fun b a=>R (E (.bool b)) a) (R (E (.bool false)) a)) (C2 11 [S p0 n0 n1] a fun b a=>br (!b) (∃b,Eqv P .neq 23 (.tmp 26) (.const (Q none)) a (Q m) (Q none) b/\br b (C2 12 [] a fun b a=>R (E (.bool b)) a) (R (E (.bool false)) a)) (AP (St:=Int) (fun g a v=>B0 (g<(↑n0:Int)) (onP p0 fun e=>D1 g n0/\G4 a (e.add (g.toNat*7)) fun c k l p r s y f h=>N2 a 0 0 0 0 (.mk #[]) (.mk #[]) none 0 0 fun b i=>U2 i b 0 c k l p r s y f h fun j=>L2 j b 0 fun c q C D N O e f h=>C8 20 [A3 c q C D N O e f h] j fun c F G H T V e f h a=>C9 19 [Q m,A3 c F G H T V e f h] a fun c e f h X a=>inR .i64 (g+1)/\v (g+1) a) (C4 22 [Q m] a fun n a=>∃b,Eqv P .eql 49 (.tmp 44) (.const (Q none)) a (Q n) (Q none) b/\br b (R (E (.bool false)) a) (C7 28 [Q n] a fun e f h a=>AP (St:=(Option Addr×Nat×Nat)×Int) (fun g a v=>B0 (g.2<(↑f:Int)) (onP e fun e=>D1 g.2 f/\G1 a (e.add (g.2.toNat*1)) fun c=>C12 27 [Q m,I c] a fun c k b a=>N3 a 0 0 fun o i=>U3 i o 0 c k fun j=>br (!b) (R (E (.bool false)) j) (L3 j o 0 fun c l=>N4 j c l fun b i=>∃e M L t,App P #[66,66] 66 i (S g.1.1 g.1.2.1 g.1.2.2) (S (some (.mk b 0 none)) 1 1) (S e M L) t/\inR .i64 (g.2+1)/\v ((e,M,L),g.2+1) t)) (C13 29 [Q n,I i0] a fun c k l p r s e f h b a=>N5 a 0 0 0 0 (.mk #[]) (.mk #[]) none 0 0 fun o i=>U4 i o 0 c k l p r s e f h fun j=>C12 27 [Q m,I i0] j fun c q z a=>N3 a 0 0 fun A i=>U3 i A 0 c q fun t=>C2 12 [] t fun B a=>br B (br (z==b) (C3 30 [Q n] a fun c a=>B0 (c=0) (R (E (.bool true)) a) (C3 30 [Q n] a fun c a=>B0 (300<c) (R (E (.bool true)) a) (C3 33 [Q n] a fun c a=>C7 32 [Q n,I c] a fun e f h a=>C2 31 [S e f h,S g.1.1 g.1.2.1 g.1.2.2] a fun b a=>R (E (.bool b)) a))) (R (E (.bool false)) a)) (R (E (.bool false)) a))) ((none,0,0),0) a))) 0 a))
theorem nodetabSpans.ok(Z0:nodetabSpans.vc u U p0 n0 n1 i0):Calls P 8 #[S p0 n0 n1,I i0] u U:=cok ⟨[],[(5,[(33,.inl .i64)]),(14,[(9,.inr 3),(49,.inl .i64)])],[],[]⟩ Tryz.func8 Z0
def nNew.vc:Prop:=C4 37 [] w fun g c=>∀d a,New c (.map #[] 0) d a->C4 38 [] a fun h c=>∀e a,New c (.map #[] 0) e a->∀f i,New a (.cells #[Q g,.map (some d),Q h,S none 0 0,.map (some e)] 86) f i->R (E (Q (some (.mk f 0 none)))) i
theorem nNew.ok(Z0:nNew.vc u U):Calls P 10 #[] u U:=cok {} Tryz.func10 Z0
def alive.vc:Prop:=C4 10 [] w fun c a=>∃d,Eqv P .eql 23 (.tmp 8) (.const (Q none)) a (Q c) (Q none) d/\br d (R (E (.bool false)) a) (C7 24 [] a fun f h g a=>C9 19 [Q c,A3 0 0 0 0 (.mk #[]) (.mk #[]) f h g] a fun e f h g i a=>C7 17 [Q c] a fun f k g a=>C11 25 [S f k g] a fun c j a=>B0 (e=1) (B0 (0<(↑h:Int)) (B0 (i=0) (B0 (j=0) (∃d,Eqv P .neq 23 (.tmp 40) (.const (Q none)) a (Q c) (Q none) d/\br d (C4 22 [Q c] a fun l a=>∃d,Eqv P .neq 49 (.tmp 45) (.const (Q none)) a (Q l) (Q none) d/\br d (C4 22 [Q c] a fun m a=>C3 30 [Q m] a fun e a=>B0 (e=2) (C4 22 [Q c] a fun c a=>C3 39 [Q c] a fun e a=>R (E (.bool (decide (e=3)))) a) (R (E (.bool false)) a)) (R (E (.bool false)) a)) (R (E (.bool false)) a)) (R (E (.bool false)) a)) (R (E (.bool false)) a)) (R (E (.bool false)) a)) (R (E (.bool false)) a))
theorem alive.ok(Z0:alive.vc u U):Calls P 12 #[] u U:=cok {} Tryz.func12 Z0
def nRows.vc:Prop:=onP p0 fun c=>G6 w (c.add 3) fun k e g=>AP (St:=(Option Addr×Nat×Nat)×Int) (fun a d q=>B0 (a.2<(↑e:Int)) (onP k fun c=>D1 a.2 e/\G7 d (c.add (a.2.toNat*1)) fun j=>C7 47 [Q j] d fun c e g d=>AP (St:=(Option Addr×Nat×Nat)×Int) (fun b d r=>B0 (b.2<(↑e:Int)) (onP c fun c=>D1 b.2 e/\G1 d (c.add (b.2.toNat*1)) fun i=>C15 48 [Q j,I i] d fun n f d=>N7 d a.2 i n false fun f o=>∃c m l p,App P #[39,39] 39 o (S b.1.1 b.1.2.1 b.1.2.2) (S (some (.mk f 0 none)) 1 1) (S c m l) p/\inR .i64 (b.2+1)/\r ((c,m,l),b.2+1) p) (inR .i64 (a.2+1)/\q ((b.1.1,b.1.2.1,b.1.2.2),a.2+1) d)) ((a.1.1,a.1.2.1,a.1.2.2),0) d) (R (E (S a.1.1 a.1.2.1 a.1.2.2)) d)) ((none,0,0),0) w
theorem nRows.ok(Z0:nRows.vc u U p0):Calls P 17 #[Q p0] u U:=cok ⟨[],[(3,[(3,.inr 3),(15,.inl .i64)]),(6,[(3,.inr 3),(23,.inl .i64)])],[],[]⟩ Tryz.func17 Z0
def nClone.vc:Prop:=onP p0 fun b=>G8 w.drew b fun c=>onP p0 fun b=>G9 w.drew (b.add 1) fun f=>onP p0 fun o=>G10 w.drew (o.add 2) fun n=>onP p0 fun m=>G11 w.drew (m.add 4) fun k=>C4 49 [Q c] w.drew fun c a=>Ld P 83 a (m.add 4) (.map k)/\Ld P 81 a (o.add 2) (Q n)/\Ld P 80 a (b.add 1) (.map f)/\C16 50 [.map f] a fun f a=>Ld P 83 a (m.add 4) (.map k)/\Ld P 81 a (o.add 2) (Q n)/\C4 51 [Q n] a fun v a=>Ld P 83 a (m.add 4) (.map k)/\C16 52 [.map k] a fun s a=>∀h d,New a (.cells #[Q c,.map f,Q v,S none 0 0,.map s] 86) h d->onP p0 fun b=>G6 d (b.add 3) fun p g i=>AP (St:=Int) (fun j a y=>B0 (j<(↑g:Int)) (onP p fun b=>D1 j g/\G7 a (b.add (j.toNat*1)) fun c=>∃b g i,Ld P 84 a.drew (.mk h 3 none) (S b g i)/\C4 53 [Q c] a.drew fun c a=>Ld P 84 a (.mk h 3 none) (S b g i)/\N8 a c fun r d=>Ld P 84 d (.mk h 3 none) (S b g i)/\∃q t f x,App P #[84,84] 84 d (S b g i) (S (some (.mk r 0 none)) 1 1) (S q t f) x/\∃d,St P 84 x (.mk h 3 none) (S q t f) d/\inR .i64 (j+1)/\y (j+1) d) (R (E (Q (some (.mk h 0 none)))) a)) 0 d
theorem nClone.ok(Z0:nClone.vc u U p0):Calls P 18 #[Q p0] u U:=cok ⟨[],[(3,[(33,.inl .i64)])],[],[]⟩ Tryz.func18 Z0
def nDo.vc:Prop:=∀i h,New w (.cells #[I i0,I i1,I i2,I i3,.string s0,.string s1,S p1 n0 n1] 45) i h->C4 18 [Q p0] h fun f a=>onP f fun b=>G8 a.drew b fun L=>∃k C D F d T b e j,Ld P 45 a.drew (.mk i 0 none) (A3 k C D F d T b e j)/\C10 54 [Q L,A3 k C D F d T b e j] a.drew fun k q a=>B1 (q=0) (R (E (A6 0 none 0 0 q)) a) (Am (St:=Option Addr×Nat×Nat) (fun d a=>onP f fun b=>G10 a.drew (b.add 2) fun l=>onP f fun x=>G8 a.drew x fun t=>onP f fun V=>G8 a.drew V fun M=>C3 33 [Q M] a.drew fun m a=>Ld P 49 a x (Q t)/\Ld P 81 a (b.add 2) (Q l)/\C7 32 [Q t,I m] a fun y e j a=>Ld P 81 a (b.add 2) (Q l)/\C7 57 [S y e j] a fun z e j a=>Ld P 81 a (b.add 2) (Q l)/\C3 56 [Q l,S z e j] a fun r a=>B1 (r=0) (R (E (A6 0 none 0 0 r)) a) (onP f fun b=>G8 a.drew b fun N=>onP p0 fun b=>G9 a.drew (b.add 1) fun g=>C16 58 [Q N,.map g,S d.1 d.2.1 d.2.2] a.drew fun g a=>onP f fun b=>∃h,St P 80 a (b.add 1) (.map g) h/\∀i n,New h (.map #[] 0) i n->∀p h,New n (.cells #[Q f,.map (some i)] 112) p h->C16 60 [Q f] h fun g a=>C3 59 [Q (some (.mk p 0 none)),.map g] a fun s a=>B1 (s=0) (R (E (A6 0 none 0 0 s)) a) (C7 61 [Q (some (.mk p 0 none)),Q p0] a fun b e j a=>onP f fun W=>∃f g O A G B H,Ld P 86 a W (.agg #[Q f,.map g,Q O,S A G B,.map H])/\onP p0 fun X=>∃h,St P 86 a X (.agg #[Q f,.map g,Q O,S A G B,.map H]) h/\R (E (A6 k b e j 0)) h))) fun J=>L4 a i 0 fun k=>B0 (k=3) (onP f fun b=>G8 a b fun l=>C7 28 [Q l] a fun b e j a=>AP (St:=(Option Addr×Nat×Nat)×Int) (fun d a ah=>B0 (d.2<(↑e:Int)) (Am (St:=Option Addr×Nat×Nat) (fun v a=>inR .i64 (d.2+1)/\ah ((v.1,v.2.1,v.2.2),d.2+1) a) fun J=>onP b fun b=>D1 d.2 e/\G1 a (b.add (d.2.toNat*1)) fun k=>L4 a i 1 fun m=>C2 55 [Q f,I k,I m] a fun i a=>br i (N9 a k fun i h=>∃b K g n,App P #[59,59] 59 h (S d.1.1 d.1.2.1 d.1.2.2) (S (some (.mk i 0 none)) 1 1) (S b K g) n/\J (b,K,g) n) (J (d.1.1,d.1.2.1,d.1.2.2) a)) (J (d.1.1,d.1.2.1,d.1.2.2) a)) ((none,0,0),0) a) (J (none,0,0) a))
theorem nDo.ok(Z0:nDo.vc u U p0 p1 n0 n1 i0 i1 i2 i3 s0 s1):Calls P 19 #[Q p0,A3 i0 i1 i2 i3 s0 s1 p1 n0 n1] u U:=cok ⟨[],[(8,[(10,.inr 3),(38,.inl .i64)])],[(13,[(10,.inr 3)]),(12,[(10,.inr 3)])],[]⟩ Tryz.func19 Z0
def own.vc:Prop:=N2 w i0 i1 i2 i3 s0 s1 p0 n0 n1 fun b c=>∀i a,New c (.cells #[I 0,I 0,I 0,I 0,.string (.mk #[]),.string (.mk #[]),S none 0 0] 45) i a->L4 a b 0 fun f=>L4 a b 1 fun j=>L4 a b 2 fun k=>L4 a b 3 fun l=>L7 a b 4 fun h=>L7 a b 5 fun p=>L6 a b 6 fun d g e=>∃c,St P 45 a (.mk i 0 none) (A3 f j k l h p d g e) c/\∃f m n o h q d g e,Ld P 45 c (.mk i 0 none) (A3 f m n o h q d g e)/\R (E (A3 f m n o h q d g e)) c
theorem own.ok(Z0:own.vc u U p0 n0 n1 i0 i1 i2 i3 s0 s1):Calls P 20 #[A3 i0 i1 i2 i3 s0 s1 p0 n0 n1] u U:=cok {} Tryz.func20 Z0
def nTree.vc:Prop:=onP p0 fun b=>G8 w b fun a=>C4 49 [Q a] w fun a e=>R (E (Q a)) e
theorem nTree.ok(Z0:nTree.vc u U p0):Calls P 22 #[Q p0] u U:=cok {} Tryz.func22 Z0
def gLoad.vc:Prop:=C10 62 [S p1 n0 n1] w fun b h c=>B1 (h=0) (R (E (A7 0 h)) c) (onP p0 fun a=>G1 c (a.add 2) fun b=>inR .i64 (2147483647-b)/\B0 (2147483647-b<(↑n0:Int)) (R (E (A7 0 66)) c) (∀i f,New c (.map #[] 0) i f->onP p0 fun a=>∃n,St P 117 f a (.map (some i)) n/\onP p0 fun a=>Z2 n (a.add 1) 0 fun f=>C7 64 [Q p0,I (↑n0:Int)] f fun a k j c=>C3 63 [Q p0,I 0,I 0,S p1 n0 n1,S a k j] c fun b c=>R (E (A7 b 0)) c))
theorem gLoad.ok(Z0:gLoad.vc u U p0 p1 n0 n1):Calls P 23 #[Q p0,S p1 n0 n1] u U:=cok {} Tryz.func23 Z0
def doc.vc:Prop:=∀a b,New w (.cells #[I 0,I 1,.string (ByteArray.mk #[(97:UInt8)]),.string (.mk #[]),S none 0 0,I 1,I 2,.string (.mk #[]),.string (ByteArray.mk #[(120:UInt8)]),S none 0 0] 123) a b->R (E (S (some (.mk a 0 none)) 2 2)) b
theorem doc.ok(Z0:doc.vc u U):Calls P 24 #[] u U:=cok {} Tryz.func24 Z0
def nLoad.vc:Prop:=C4 10 [] w fun e a=>∀b f,New a (.map #[] 0) b f->∀g t,New f (.cells #[Q e,I 0,S none 0 0,.map (some b),S none 0 0] 128) g t->AP (St:=Int) (fun i a v=>B0 (i<(↑n0:Int)) (onP p0 fun h=>D1 i n0/\∃d m r b,Ld P 55 a (h.add (i.toNat*4)) (A5 d m r b)/\N7 a 0 0 (.mk #[]) false fun j f=>∃k,St P 55 f (.mk j 0 none) (A5 d m r b) k/\∃d n s b,Ld P 55 k (.mk j 0 none) (A5 d n s b)/\C2 65 [Q (some (.mk g 0 none)),A5 d n s b] k fun b a=>br (!b) (R (E (A8 none 160)) a) (inR .i64 (i+1)/\v (i+1) a)) (∃h o l,Ld P 106 a (.mk g 2 none) (S h o l)/\C11 66 [S h o l] a fun e d a=>B1 (d=0) (R (E (A8 none 160)) a) (C2 67 [Q (some (.mk g 0 none))] a fun b a=>br (!b) (R (E (A8 none 160)) a) (∃p,Ld P 23 a (.mk g 0 none) (Q p)/\onP p fun h=>∃f,St P 81 a (h.add 2) (Q e) f/\C2 68 [Q (some (.mk g 0 none))] f fun b a=>br (!b) (R (E (A8 none 160)) a) (∃e,Ld P 23 a (.mk g 0 none) (Q e)/\R (E (A8 e 0)) a))))) 0 t
theorem nLoad.ok(Z0:nLoad.vc u U p0 n0):Calls P 25 #[S p0 n0 n1] u U:=cok ⟨[],[(3,[(15,.inl .i64)])],[],[]⟩ Tryz.func25 Z0
def nSpan.vc:Prop:=N3 w 0 0 fun c b=>onP p0 fun l=>G9 b (l.add 1) fun j=>∃a g f,Lk P 80 true b (.map j) (I i0) (A9 a g f)/\N3 b 0 0 fun d k=>U3 k d 0 a g fun b=>L3 b d 0 fun a h=>U3 b c 0 a h fun e=>L3 e c 0 fun a i=>R (E (A9 a i f)) e
theorem nSpan.ok(Z0:nSpan.vc u U p0 i0):Calls P 27 #[Q p0,I i0] u U:=cok {} Tryz.func27 Z0
def gOrder.vc:Prop:=N10 w none 0 0 fun f a=>onP p0 fun c=>G1 a (c.add 1) fun m=>BL P 69 [Q p0,I m,I 0] a fun v b=>∃q,v=E q/\∃(h:FuncId),∃(l:Array Value),∃(k:Array Value),q=Value.func (.func h) l k/\GV P h/\E5 P h (Array.toList l) (Array.toList k) (fun(g:Int×Int)=>[I g.1,I g.2]) (fun(g:Int×Int)(b:World)(t:World->(World->Prop)->Prop)(x z:World->Prop)(A:Nat->World->Prop)=>t b fun s=>L9 s f 0 fun c e d=>N9 s g.1 fun j a=>∃i o n r,App P #[59,59] 59 a (S c e d) (S (some (.mk j 0 none)) 1 1) (S i o n) r/\U5 r f 0 i o n fun a=>x a) b (fun D b=>L9 b f 0 fun c e d=>∃a,FZ b D a/\R (E (S c e d)) a) (fun D b=>False) fun(y D:Nat)(b:World)=>False
theorem gOrder.ok(Z0:gOrder.vc u U p0):Calls P 28 #[Q p0] u U:=cok ⟨[],[],[],[(4,[(11,.inl .i64),(12,.inl .i64)])]⟩ Tryz.func28 Z0
def gGet.vc:Prop:=N5 w 0 0 0 0 (.mk #[]) (.mk #[]) none 0 0 fun h a=>onP p0 fun b=>G12 a b fun H=>∃n t,Lk P 117 true a (.map H) (I i0) (A10 n t)/\br (!t) (U4 a h 0 0 0 0 0 (.mk #[]) (.mk #[]) none 0 0 fun g=>L10 g h 0 fun e j k l f m b c d=>R (E (.tuple #[(A3 e j k l f m b c d),.bool false])) g) (onP n fun b=>∃e j k l f m p c d,Ld P 71 a b (A3 e j k l f m p c d)/\N5 a 0 0 0 0 (.mk #[]) (.mk #[]) none 0 0 fun i g=>U4 g i 0 e j k l f m p c d fun a=>onP n fun b=>G13 a.drew (b.add 7) fun q c d=>onP n fun N=>G14 a.drew (N.add 6) fun r F v=>C7 70 [S r F v] a.drew fun s G x M=>Ld P 59 M (b.add 7) (S q c d)/\U6 M i 3 (↑c:Int) fun a=>U7 a i 6 s G x fun o=>L10 o i 0 fun e y z A f K b c d=>U4 o h 0 e y z A f K b c d fun a=>L10 a h 0 fun e B C D f L b c d=>R (E (.tuple #[(A3 e B C D f L b c d),.bool true])) a)
theorem gGet.ok(Z0:gGet.vc u U p0 i0):Calls P 29 #[Q p0,I i0] u U:=cok {} Tryz.func29 Z0
def gLen.vc:Prop:=onP p0 fun c=>G12 w c fun b=>∃a,LenM P #[117] 3 w (.map b) (I a)/\R (E (I a)) w
theorem gLen.ok(Z0:gLen.vc u U p0):Calls P 30 #[Q p0] u U:=cok {} Tryz.func30 Z0
def rsCheck.vc:Prop:=C10 71 [S p0 n0 n1] w fun d v a=>B1 (v=0) (R (E (.bool false)) a) (B1 ((↑n2:Int)=(↑n0:Int)) (R (E (.bool false)) a) (AP (St:=Int) (fun b a z=>B0 (b<(↑n0:Int)) (onP p1 fun c=>D1 b n2/\G1 a.drew (c.add (b.toNat*2)) fun d=>C2 72 [I d] a.drew fun f a=>br (!f) (R (E (.bool false)) a) (onP p1 fun c=>D1 b n2/\G1 a (Addr.add (c.add (b.toNat*2)) 1) fun d=>C2 72 [I d] a fun f a=>br (!f) (R (E (.bool false)) a) (onP p1 fun c=>D1 b n2/\G1 a (c.add (b.toNat*2)) fun d=>onP p1 fun c=>D1 b n2/\G1 a (Addr.add (c.add (b.toNat*2)) 1) fun y=>B0 (y<=d) (R (E (.bool false)) a) (B0 (0<b) (onP p1 fun c=>D1 b n2/\G1 a (c.add (b.toNat*2)) fun d=>inR .i64 (b-1)/\onP p1 fun c=>(0<=b-1/\b-1<(↑n2:Int))/\G1 a (c.add (Int.toNat (b-1)*2)) fun j=>B0 (d<=j) (R (E (.bool false)) a) (AP (St:=Int) (fun e a r=>B0 (e<b) (C3 73 [S p0 n0 n1,I e] a fun d a=>onP p1 fun c=>D1 b n2/\G15 a.drew (c.add (b.toNat*2)) fun k l=>onP p1 fun c=>D1 e n2/\G15 a.drew (c.add (e.toNat*2)) fun m n=>C2 74 [A4 k l,A4 m n] a.drew fun f a=>br (!decide (b<d)==f) (R (E (.bool false)) a) (B1 (b<d) (onP p1 fun c=>D1 e n2/\G15 a (c.add (e.toNat*2)) fun d o=>onP p1 fun c=>D1 b n2/\G15 a (c.add (b.toNat*2)) fun p x=>C2 75 [A4 d o,A4 p x] a fun f a=>br (!f) (R (E (.bool false)) a) (inR .i64 (e+1)/\r (e+1) a)) (inR .i64 (e+1)/\r (e+1) a))) (inR .i64 (b+1)/\z (b+1) a)) 0 a)) (AP (St:=Int) (fun e a r=>B0 (e<b) (C3 73 [S p0 n0 n1,I e] a fun d a=>onP p1 fun c=>D1 b n2/\G15 a.drew (c.add (b.toNat*2)) fun j k=>onP p1 fun c=>D1 e n2/\G15 a.drew (c.add (e.toNat*2)) fun l m=>C2 74 [A4 j k,A4 l m] a.drew fun f a=>br (!decide (b<d)==f) (R (E (.bool false)) a) (B1 (b<d) (onP p1 fun c=>D1 e n2/\G15 a (c.add (e.toNat*2)) fun d n=>onP p1 fun c=>D1 b n2/\G15 a (c.add (b.toNat*2)) fun o p=>C2 75 [A4 d n,A4 o p] a fun f a=>br (!f) (R (E (.bool false)) a) (inR .i64 (e+1)/\r (e+1) a)) (inR .i64 (e+1)/\r (e+1) a))) (inR .i64 (b+1)/\z (b+1) a)) 0 a))))) (R (E (.bool true)) a)) 0 a))
theorem rsCheck.ok(Z0:rsCheck.vc u U p0 p1 n0 n1 n2):Calls P 31 #[S p0 n0 n1,S p1 n2 n3] u U:=cok ⟨[],[(5,[(7,.inl .i64)]),(10,[(8,.inl .i64)])],[],[]⟩ Tryz.func31 Z0
def gItems.vc:Prop:=∀h b,New w (.cells #[Q p0] 49) h b->∀i q,New b (.cells #[S none 0 0] 34) i q->∃c,Ld P 49 q (.mk h 0 none) (Q c)/\BL P 69 [Q c,I i0,I 0] q fun l a=>∃L,l=E L/\∃(m:FuncId),∃(C:Array Value),∃(B:Array Value),L=Value.func (.func m) C B/\GV P m/\E5 P m (Array.toList C) (Array.toList B) (fun(k:Int×Int)=>[I k.1,I k.2]) (fun(k:Int×Int)(a:World)(O:World->(World->Prop)->Prop)(T W:World->Prop)(X:Nat->World->Prop)=>O a fun e=>∃c,Ld P 49 e (.mk h 0 none) (Q c)/\onP c fun d=>G12 e d fun j=>∃c,Lk P 117 false e (.map j) (I k.1) (Q c)/\L6 e.drew i 0 fun d g f=>onP c fun r=>G1 e.drew (r.add 2) fun n=>onP c fun s=>G2 e.drew (s.add 4) fun o=>onP c fun t=>G2 e.drew (t.add 5) fun p=>onP c fun N=>G14 e.drew (N.add 6) fun v G z=>C7 70 [S v G z] e.drew fun x H A a=>Ld P 9 a (t.add 5) (.string p)/\Ld P 9 a (s.add 4) (.string o)/\Ld P 3 a (r.add 2) (I n)/\Ld P 34 a (.mk i 0 none) (S d g f)/\N11 a k.2 n o p x H A fun h b=>Ld P 34 b (.mk i 0 none) (S d g f)/\∃y K j M,App P #[34,34] 34 b (S d g f) (S (some (.mk h 0 none)) 1 1) (S y K j) M/\∃b,St P 34 M (.mk i 0 none) (S y K j) b/\T b) a (fun D a=>L6 a i 0 fun d g f=>∃b,FZ a D b/\R (E (S d g f)) b) (fun D a=>False) fun(i0 D:Nat)(a:World)=>False
theorem gItems.ok(Z0:gItems.vc u U p0 i0):Calls P 32 #[Q p0,I i0] u U:=cok ⟨[],[],[],[(5,[(12,.inl .i64),(13,.inl .i64)])]⟩ Tryz.func32 Z0
def gRoot.vc:Prop:=onP p0 fun b=>G1 w (b.add 1) fun a=>R (E (I a)) w
theorem gRoot.ok(Z0:gRoot.vc u U p0):Calls P 33 #[Q p0] u U:=cok {} Tryz.func33 Z0
def gNew.vc:Prop:=∀a c,New w (.map #[] 0) a c->∀b d,New c (.cells #[.map (some a),I 0,I 1] 119) b d->R (E (Q (some (.mk b 0 none)))) d
theorem gNew.ok(Z0:gNew.vc u U):Calls P 37 #[] u U:=cok {} Tryz.func37 Z0
def xNew.vc:Prop:=∀a c,New w (.map #[] 0) a c->∀b d,New c (.cells #[S none 0 0,.map (some a)] 150) b d->R (E (Q (some (.mk b 0 none)))) d
theorem xNew.ok(Z0:xNew.vc u U):Calls P 38 #[] u U:=cok {} Tryz.func38 Z0
def gNext.vc:Prop:=onP p0 fun b=>G1 w (b.add 2) fun a=>R (E (I a)) w
theorem gNext.ok(Z0:gNext.vc u U p0):Calls P 39 #[Q p0] u U:=cok {} Tryz.func39 Z0
end
section
variable(w:World)(R:Ending->World->Prop){u:World}{U:Ending->World->Prop}(p0 p1 p2:Option Addr)(n0 n1 n2 n3:Nat)(i0 i1 i2 i3 i4 i5 i6 i7 i8 i9 i10 i11:Int)(s0 s1 s2 s3:ByteArray)(b0 b1:Bool)(m0:Option Nat)(v0:Value)
def slots.vc:Prop:=N10 w none 0 0 fun f a=>∃(g:FuncId),∃(l:Array Value),∃(k:Array Value),Value.func (.func 85) #[Q p0] #[]=Value.func (.func g) l k/\GV P g/\E5 P g (Array.toList l) (Array.toList k) (fun h=>[I h]) (fun(h:Int)(b:World)(q:World->(World->Prop)->Prop)(r v:World->Prop)(x:Nat->World->Prop)=>q b fun p=>L9 p f 0 fun c e d=>N9 p h fun j a=>∃i n m o,App P #[59,59] 59 a (S c e d) (S (some (.mk j 0 none)) 1 1) (S i n m) o/\U5 o f 0 i n m fun a=>r a) a (fun D b=>L9 b f 0 fun c e d=>∃a,FZ b D a/\R (E (S c e d)) a) (fun D b=>False) fun(t D:Nat)(b:World)=>False
theorem slots.ok(Z0:slots.vc u U p0):Calls P 47 #[Q p0] u U:=cok ⟨[],[],[],[(4,[(7,.inl .i64)])]⟩ Tryz.func47 Z0
def get.vc:Prop:=C10 86 [Q p0,I i0] w fun a b c=>B0 (a=0) (R (E (A12 (.mk #[]) false)) c) (onP p0 fun f=>inR .i64 (a+b)/\(0<=a/\a<=a+b/\a+b<=(↑(4096:Nat):Int))/\∃e,B2S P 159 9 c (S (slA (some f) 4096 (a.toNat) 1) (Int.toNat (a+b)-a.toNat) (4096-a.toNat)) (.string e)/\R (E (A12 e true)) c)
theorem get.ok(Z0:get.vc u U p0 i0):Calls P 48 #[Q p0,I i0] u U:=cok {} Tryz.func48 Z0
def gClone.vc:Prop:=onP p0 fun b=>G1 w.drew (b.add 1) fun g=>onP p0 fun y=>G1 w.drew (y.add 2) fun p=>∀c a,New w.drew (.map #[] 0) c a->Ld P 3 a (y.add 2) (I p)/\Ld P 3 a (b.add 1) (I g)/\∀m t,New a (.cells #[.map (some c),I g,I p] 119) m t->onP p0 fun b=>G12 t b fun h=>∃i a,Rng P 117 t (.map h) (Q i) a/\AP (St:=PUnit) (fun r f V=>(∃a,Nxt P false 0 f (Q i) (.tuple #[.bool false]) a/\R (E (Q (some (.mk m 0 none)))) a)\/∃T W a,Nxt P false 0 f (Q i) (.tuple #[.bool true,T,W]) a/\∃g j v,Etr P a (Q i) (.tuple #[I g,Q j]) v/\onP j fun b=>∃G H K L r O z e d A M D,Ld P 139 v b (.agg #[I G,I H,I K,I L,.string r,.string O,S z e d,S A M D])/\∀c a,New v (.cells #[I 0,I 0,I 0,I 0,.string (.mk #[]),.string (.mk #[]),S none 0 0,S none 0 0] 139) c a->∃k,St P 139 a (.mk c 0 none) (.agg #[I G,I H,I K,I L,.string r,.string O,S z e d,S A M D]) k/\onP j fun b=>G13 k.drew (b.add 7) fun B e d=>onP j fun b=>G14 k.drew (b.add 6) fun l q n=>C7 87 [S B e d] k.drew fun C e d f=>Ld P 69 f (b.add 6) (S l q n)/\C7 70 [S l q n] f fun b N F f=>U5 f c 7 C e d fun a=>∃x,St P 69 a (Addr.add (.mk c 0 none) 6) (S b N F) x/\∃h,Ld P 117 x (.mk m 0 none) (.map h)/\∃a,MUp P 117 x (.map h) (I g) (Q (some (.mk c 0 none))) a/\V () a) () a
theorem gClone.ok(Z0:gClone.vc u U p0):Calls P 49 #[Q p0] u U:=cok ⟨[],[(3,[])],[],[]⟩ Tryz.func49 Z0
def xClone.vc:Prop:=onP p0 fun e=>G17 w.drew e fun h d c=>onP p0 fun e=>G18 w.drew (e.add 1) fun a=>C7 89 [S h d c] w.drew fun i d c f=>Ld P 147 f (e.add 1) (.map a)/\C16 90 [.map a] f fun a f=>∀p0 j,New f (.cells #[S i d c,.map a] 150) p0 j->R (E (Q (some (.mk p0 0 none)))) j
theorem xClone.ok(Z0:xClone.vc u U p0):Calls P 51 #[Q p0] u U:=cok {} Tryz.func51 Z0
def clone.vc:Prop:=onP p0 fun g=>∃(b:List Value),∃c d,Ld P 162 w g (.agg (List.toArray (b++([I c]++([I d]++[])))))/\∀a e,New w (.cells (List.toArray (zl P 162)) 162) a e->∃f,St P 162 e (.mk a 0 none) (.agg (List.toArray (b++([I c]++([I d]++[]))))) f/\R (E (Q (some (.mk a 0 none)))) f
theorem clone.ok(Z0:clone.vc u U p0):Calls P 53 #[Q p0] u U:=cok {} Tryz.func53 Z0
def nEdit.vc:Prop:=∀c b,New w (.cells #[I i0,I i1,I i2,I i3,.string s0,.string s1,S p1 n0 n1] 45) c b->L4 b c 0 fun a=>B0 (a=0) (L6 b c 6 fun i l j=>C10 23 [Q p0,S i l j] b fun a f e=>R (E (A7 a f)) e) (B0 (a=1) (L4 b c 1 fun a=>L4 b c 3 fun f=>L6 b c 6 fun i l j=>C10 91 [Q p0,I a,I f,S i l j] b fun a k e=>R (E (A7 a k)) e) (B0 (a=2) (L4 b c 1 fun a=>C3 92 [Q p0,I a] b fun a e=>R (E (A7 0 a)) e) (B0 (a=3) (L4 b c 1 fun a=>L4 b c 2 fun f=>L4 b c 3 fun k=>C3 93 [Q p0,I a,I f,I k] b fun a e=>R (E (A7 0 a)) e) (B0 (a=4) (L4 b c 1 fun a=>L7 b c 4 fun g=>L7 b c 5 fun m=>C3 94 [Q p0,I a,.string g,.string m] b fun a e=>R (E (A7 0 a)) e) (B0 (a=5) (L4 b c 1 fun a=>L7 b c 4 fun g=>C3 95 [Q p0,I a,.string g] b fun a e=>R (E (A7 0 a)) e) (B0 (a=6) (L4 b c 1 fun a=>L7 b c 5 fun g=>C3 96 [Q p0,I a,.string g] b fun a e=>R (E (A7 0 a)) e) (R (E (A7 0 1)) b)))))))
theorem nEdit.ok(Z0:nEdit.vc u U p0 p1 n0 n1 i0 i1 i2 i3 s0 s1):Calls P 54 #[Q p0,A3 i0 i1 i2 i3 s0 s1 p1 n0 n1] u U:=cok {} Tryz.func54 Z0
def nBelow.vc:Prop:=AP (St:=Int) (fun a b r=>B1 (a=0) (B1 (a=i1) (onP p0 fun e=>G8 b e fun m=>C13 29 [Q m,I a] b fun d i j k a n e l h c b=>N5 b 0 0 0 0 (.mk #[]) (.mk #[]) none 0 0 fun c o=>U4 o c 0 d i j k a n e l h fun g=>L4 g c 1 fun d=>r d g) (R (E (.bool (decide (a=i1)))) b)) (R (E (.bool (decide (a=i1)))) b)) i0 w
theorem nBelow.ok(Z0:nBelow.vc u U p0 i0 i1):Calls P 55 #[Q p0,I i0,I i1] u U:=cok ⟨[],[(1,[(1,.inl .i64)])],[],[]⟩ Tryz.func55 Z0
def nLearn.vc:Prop:=C7 97 [Q p0] w fun e j n a=>AP (St:=Int) (fun b a i=>B0 (b<(↑j:Int)) (onP e fun e=>D1 b j/\G2 a (e.add (b.toNat*1)) fun d=>C17 98 [S p1 n0 n1,.string d] a fun h g a=>Am (fun p a=>br p (inR .i64 (b+1)/\C2 99 [Q p0,I (b+1)] a fun p0 a=>inR .i64 (b+1)/\i (b+1) a) (inR .i64 (b+1)/\i (b+1) a)) fun(J:Bool->World->Prop)=>B1 (d=.mk #[]) (J (!g) a) (J false a)) (AP (St:=Int) (fun b a i=>B0 (b<(↑n0:Int)) (onP p1 fun e=>D1 b n0/\G2 a (e.add (b.toNat*1)) fun d=>C17 100 [Q p0,.string d] a fun h g a=>br g (inR .i64 (b+1)/\i (b+1) a) (C10 101 [Q p0,.string d] a fun h l a=>B1 (l=0) (R (E (I 94)) a) (inR .i64 (b+1)/\i (b+1) a))) (R (E (I 0)) a)) 0 a)) 0 a
theorem nLearn.ok(Z0:nLearn.vc u U p0 p1 n0 n1):Calls P 56 #[Q p0,S p1 n0 n1] u U:=cok ⟨[],[(2,[(18,.inl .i64)]),(9,[(42,.inl .i64)])],[(6,[(34,.inr 0)])],[]⟩ Tryz.func56 Z0
def nNames.vc:Prop:=∀h c,New w (.map #[] 0) h c->AP (St:=Int) (fun a b y=>B0 (a<(↑n0:Int)) (onP p0 fun e=>D1 a n0/\G16 b (e.add (a.toNat*5)) fun d p r s o f g=>N11 b 0 0 (.mk #[]) (.mk #[]) none 0 0 fun k c=>U8 c k 0 d p r s o f g fun j=>Am (St:=PUnit) (fun B b=>L11 b k 4 fun e f g=>AP (St:=Int) (fun i b z=>B0 (i<(↑f:Int)) (onP e fun e=>D1 i f/\G3 b (e.add (i.toNat*2)) fun a t=>N13 b (.mk #[]) (.mk #[]) fun m c=>U9 c m 0 a t fun l=>L7 l m 0 fun a=>∃d,Lk P 147 false l (.map (some h)) (.string a) (I d)/\inR .i64 (d+1)/\∃c,MUp P 147 l (.map (some h)) (.string a) (I (d+1)) c/\inR .i64 (i+1)/\z (i+1) c) (inR .i64 (a+1)/\y (a+1) b)) 0 b) fun J=>L4 j k 1 fun d=>B0 (d=1) (L7 j k 2 fun a=>∃d,Lk P 147 false j (.map (some h)) (.string a) (I d)/\inR .i64 (d+1)/\∃c,MUp P 147 j (.map (some h)) (.string a) (I (d+1)) c/\J () c) (J () j)) (BL P 103 [.map (some h)] b fun n b=>∃v,n=E v/\C7 102 [v] b fun e f g b=>R (E (S e f g)) b)) 0 c
theorem nNames.ok(Z0:nNames.vc u U p0 n0):Calls P 57 #[S p0 n0 n1] u U:=cok ⟨[],[(3,[(11,.inl .i64)]),(8,[(26,.inl .i64)])],[(7,[])],[]⟩ Tryz.func57 Z0
def nLabel.vc:Prop:=C3 33 [Q p0] w fun d a=>C7 32 [Q p0,I d] a fun e g j a=>C7 28 [Q p0] a fun l n r a=>C16 50 [.map m0] a fun i a=>AP (St:=Int) (fun b a o=>B0 (b<(↑n0:Int)) (onP p1 fun e=>D1 b n0/\G1 a (e.add (b.toNat*1)) fun d=>∃f,Del P #[80,3] 0 a (.map i) (I d) f/\inR .i64 (b+1)/\o (b+1) f) (C7 105 [S e g j,S l n r] a fun q y s a=>BL P 104 [S q y s,.map i] a fun c a=>∃i h,c=E (.tuple #[.map i,.bool h])/\br h (R (E (.map i)) a) (∀h f,New a (.map #[] 0) h f->BL P 106 [S e g j] f fun c a=>∃e g j d,c=E (A13 e g j d)/\AP (St:=Int) (fun b a o=>B0 (b<(↑g:Int)) (onP e fun e=>D1 b g/\G19 a (e.add (b.toNat*2)) fun d t=>N3 a 0 0 fun m f=>U3 f m 0 d t fun k=>onP l fun e=>D1 b n/\G1 k.drew (e.add (b.toNat*1)) fun d=>L3 k.drew m 0 fun v x=>∃f,MUp P 80 k.drew (.map (some h)) (I d) (A4 v x) f/\inR .i64 (b+1)/\o (b+1) f) (R (E (.map (some h))) a)) 0 a))) 0 a
theorem nLabel.ok(Z0:nLabel.vc u U p0 p1 n0 m0):Calls P 58 #[Q p0,.map m0,S p1 n0 n1] u U:=cok ⟨[],[(4,[(28,.inl .i64)]),(14,[(53,.inl .i64)])],[],[]⟩ Tryz.func58 Z0
def nWrite.vc:Prop:=onP p0 fun b=>G20 w b fun f=>onP f fun b=>G11 w (b.add 4) fun D=>BL P 107 [.map D] w fun e a=>∃p,e=E p/\C7 102 [p] a fun b g o a=>AP (St:=Int) (fun d a q=>B0 (d<(↑g:Int)) (onP b fun b=>D1 d g/\G2 a (b.add (d.toNat*1)) fun i=>∃r n,Lk P 114 true a (.map m0) (.string i) (.tuple #[(A14 r),.bool n])/\∀j k,New a (.cells #[.string (.mk #[])] 192) j k->∃h,St P 192 k (.mk j 0 none) (A14 r) h/\br (!n) (C1 108 [Q p0,.string i] h fun a=>inR .i64 (d+1)/\q (d+1) a) (inR .i64 (d+1)/\q (d+1) h)) (BL P 109 [.map m0] a fun e a=>∃p,e=E p/\C7 102 [p] a fun b g o a=>AP (St:=Int) (fun d a q=>B0 (d<(↑g:Int)) (onP b fun b=>D1 d g/\G2 a (b.add (d.toNat*1)) fun i=>onP p0 fun b=>G20 a b fun f=>onP f fun b=>G11 a (b.add 4) fun F=>∃c B n,Lk P 83 true a (.map F) (.string i) (A9 c B n)/\N14 a 0 0 fun j k=>U10 k j 0 c B fun h=>Am (St:=PUnit) (fun r a=>∃v,Lk P 114 false a (.map m0) (.string i) (A14 v)/\C3 111 [Q p0,.string i,.string v] a fun c a=>B1 (c=0) (R (E (I c)) a) (inR .i64 (d+1)/\q (d+1) a)) fun J=>br n (onP p0 fun b=>G20 h.drew b fun f=>onP f fun b=>G6 h.drew (b.add 3) fun z g o=>L4 h.drew j 0 fun c=>onP z fun b=>D1 c g/\G7 h.drew (b.add (c.toNat*1)) fun f=>L4 h.drew j 1 fun c=>C15 48 [Q f,I c] h.drew fun r n a=>∃v,Lk P 114 false a (.map m0) (.string i) (A14 v)/\B0 (r=v) (inR .i64 (d+1)/\q (d+1) a) (onP p0 fun b=>G21 a.drew (b.add 1) fun t=>L12 a.drew j 0 fun c x=>∃y,Lk P 110 false a.drew (.map t) (A4 c x) (I y)/\inR .i64 (y+1)/\∃p C k,MEn P 110 a.drew (.map t) (A4 c x) (.tuple #[p,I C]) k/\Lk P 110 false k (.map t) (A4 c x) (I y)/\∃l,ESt P 110 k (.map t) (I C) (I (y+1)) l/\onP p0 fun b=>G20 l.drew b fun f=>onP f fun b=>G6 l.drew (b.add 3) fun A g o=>L4 l.drew j 0 fun c=>onP A fun b=>D1 c g/\G7 l.drew (b.add (c.toNat*1)) fun f=>L4 l.drew j 1 fun c=>∃G,Lk P 114 false l.drew (.map m0) (.string i) (A14 G)/\C3 110 [Q f,I c,.string G] l.drew fun c a=>B0 (c=0) (inR .i64 (d+1)/\q (d+1) a) (C1 108 [Q p0,.string i] a fun a=>J () a))) (J () h)) (R (E (I 0)) a)) 0 a)) 0 a
theorem nWrite.ok(Z0:nWrite.vc u U p0 m0):Calls P 59 #[Q p0,.map m0] u U:=cok ⟨[],[(2,[(26,.inl .i64)]),(9,[(46,.inl .i64)])],[(18,[])],[]⟩ Tryz.func59 Z0
def nRecords.vc:Prop:=∀j i,New w (.map #[] 0) j i->∀m L,New i (.cells #[.map none] 114) m L->∃i,St P 114 L (.mk m 0 none) (.map (some j)) i/\onP p0 fun b=>G8 i b fun h=>C3 39 [Q h] i fun f a=>C18 114 [I f,I 4] a fun c a=>(↑(ByteArray.size (ByteArray.mk #[(104:UInt8)])+c.size):Int)<=9223372036854775807/\C1 112 [.string (ByteArray.mk #[(104:UInt8)]++c),Q (some (.mk m 0 none))] a fun a=>onP p0 fun b=>G10 a (b.add 2) fun h=>C7 97 [Q h] a fun b e g a=>AP (St:=Int) (fun c a p=>B0 (c<(↑e:Int)) (onP b fun b=>D1 c e/\G2 a (b.add (c.toNat*1)) fun k=>B1 (k=.mk #[]) (inR .i64 (c+1)/\C18 114 [I (c+1),I 2] a fun l a=>(↑(ByteArray.size (ByteArray.mk #[(119:UInt8)])+l.size):Int)<=9223372036854775807/\(↑(ByteArray.size (ByteArray.mk #[(119:UInt8)]++l)+k.size):Int)<=9223372036854775807/\C1 112 [.string (ByteArray.mk #[(119:UInt8)]++l++k),Q (some (.mk m 0 none))] a fun a=>inR .i64 (c+1)/\p (c+1) a) (inR .i64 (c+1)/\p (c+1) a)) (onP p0 fun b=>G8 a b fun h=>C7 28 [Q h] a fun b e g a=>AP (St:=Int) (fun c a p=>B0 (c<(↑e:Int)) (onP b fun b=>D1 c e/\G1 a (b.add (c.toNat*1)) fun f=>onP p0 fun b=>G8 a b fun h=>C13 29 [Q h,I f] a fun f r v x k l b e g j a=>N5 a 0 0 0 0 (.mk #[]) (.mk #[]) none 0 0 fun j i=>U4 i j 0 f r v x k l b e g fun q=>L10 q j 0 fun f y z A G H b e g=>BL P 116 [Q p0,A3 f y z A G H b e g] q fun d a=>∃f B C D s t K b e g,d=E (A15 f B C D s t K b e g)/\BL P 115 [A15 f B C D s t K b e g] a fun d a=>∃b e g f,d=E (A13 b e g f)/\AP (St:=Int) (fun n a M=>B0 (n<(↑e:Int)) (onP b fun b=>D1 n e/\G2 a (b.add (n.toNat*1)) fun c=>(↑(ByteArray.size (ByteArray.mk #[(110:UInt8)])+c.size):Int)<=9223372036854775807/\C1 112 [.string (ByteArray.mk #[(110:UInt8)]++c),Q (some (.mk m 0 none))] a fun a=>inR .i64 (n+1)/\M (n+1) a) (inR .i64 (c+1)/\p (c+1) a)) 0 a) (∃F,Ld P 114 a (.mk m 0 none) (.map F)/\R (E (.map F)) a)) 0 a)) 0 a
theorem nRecords.ok(Z0:nRecords.vc u U p0):Calls P 60 #[Q p0] u U:=cok ⟨[],[(5,[(32,.inl .i64)]),(11,[(54,.inl .i64)]),(16,[(76,.inl .i64)])],[],[]⟩ Tryz.func60 Z0
def nChanges.vc:Prop:=onP p0 fun g=>G21 w (g.add 1) fun i=>∃f b,Rng P 110 w (.map i) (Q f) b/\AP (St:=Option Addr×Nat×Nat) (fun c a t=>(∃b,Nxt P false 0 a (Q f) (.tuple #[.bool false]) b/\C1 118 [S c.1 c.2.1 c.2.2,Value.func (.func 119) #[] #[]] b fun a=>R (E (S c.1 c.2.1 c.2.2)) a)\/∃A l b,Nxt P false 0 a (Q f) (.tuple #[.bool true,A,l]) b/\∃d o l x,Etr P b (Q f) (.tuple #[(A4 d o),l]) x/\N14 x 0 0 fun e b=>U10 b e 0 d o fun m=>L12 m e 0 fun d p=>C15 117 [Q p1,A4 d p] m fun v n a=>onP p0 fun g=>G20 a.drew g fun f=>L12 a.drew e 0 fun d q=>C15 117 [Q f,A4 d q] a.drew fun k j a=>Am (fun C a=>br C (L4 a e 0 fun d=>L4 a e 1 fun r=>∀e b,New a (.cells #[I d,I r,.string k,.bool !j] 55) e b->∃g s i y,App P #[39,39] 39 b (S c.1 c.2.1 c.2.2) (S (some (.mk e 0 none)) 1 1) (S g s i) y/\t (g,s,i) y) (t (c.1,c.2.1,c.2.2) a)) fun(J:Bool->World->Prop)=>B1 (v=k) (J true a) (J (!n==j) a)) (none,0,0) b
theorem nChanges.ok(Z0:nChanges.vc u U p0 p1):Calls P 61 #[Q p0,Q p1] u U:=cok ⟨[],[(3,[(5,.inr 3)])],[(8,[(42,.inr 0)])],[]⟩ Tryz.func61 Z0
def pCheck.vc:Prop:=B0 ((↑n0:Int)=0) (R (E (A7 0 40)) w) (AP (St:=Int) (fun b c n=>B0 (b<(↑n0:Int)) (onP p0 fun f=>D1 b n0/\G16 c (f.add (b.toNat*5)) fun a k o p j e d=>N11 c 0 0 (.mk #[]) (.mk #[]) none 0 0 fun h s=>U8 s h 0 a k o p j e d fun t=>C3 120 [S p0 n0 n1,I b] t fun a c=>B0 (a=0) (L13 c h 0 fun a l q r f e d=>C3 121 [A16 a l q r f e d] c fun a c=>B1 (a=0) (R (E (A7 b a)) c) (inR .i64 (b+1)/\n (b+1) c)) (B1 (a=0) (R (E (A7 b a)) c) (inR .i64 (b+1)/\n (b+1) c))) (R (E (A7 0 0)) c)) 0 w)
theorem pCheck.ok(Z0:pCheck.vc u U p0 n0 n1):Calls P 62 #[S p0 n0 n1] u U:=cok ⟨[],[(4,[(12,.inl .i64)])],[],[]⟩ Tryz.func62 Z0
def gGrow.vc:Prop:=N9 w i0 fun b a=>AP (St:=Int×(Option Addr×Nat×Nat)×Int) (fun e f ak=>B0 (e.2.2<(↑n0:Int)) (Am (St:=Int×Option Addr×Nat×Nat) (fun r f=>inR .i64 (e.2.2+(1:Int))/\ak (r.1,(r.2.1,r.2.2.1,r.2.2.2),e.2.2+(1:Int)) f) fun J=>onP p1 fun k=>((0:Int)<=e.2.2/\e.2.2<(↑n0:Int))/\G16 f (k.add (e.2.2.toNat*5)) fun h Z r ag T d c=>N11 f 0 0 (.mk #[]) (.mk #[]) none 0 0 fun b a=>U8 a b 0 h Z r ag T d c fun B=>onP p2 fun k=>((0:Int)<=e.2.2/\e.2.2<(↑n2:Int))/\G1 B (k.add (e.2.2.toNat*1)) fun h=>L4 B b 0 fun y=>inR .i64 (y+(1:Int))/\L4 B b 0 fun z=>inR .i64 (z+(1:Int))/\((0:Int)<=y+(1:Int)/\y+(1:Int)<=z+(1:Int)/\z+(1:Int)<=(↑e.2.1.2.2:Int))/\N9 B h fun X a=>∃k A D o,App P #[59,59] 59 a (S e.2.1.1 (Int.toNat (y+(1:Int))) (Int.toNat (z+(1:Int)))) (S (some (.mk X 0 none)) 1 1) (S k A D) o/\L4 o b 0 fun C=>onP k fun ah=>((0:Int)<=C/\C<(↑A:Int))/\G1 o (ah.add (C.toNat*1)) fun i=>onP p0 fun K=>G12 o.drew K fun F=>L4 o.drew b 1 fun M=>L7 o.drew b 2 fun N=>L7 o.drew b 3 fun O=>L11 o.drew b 4 fun V d c=>C7 70 [S V d c] o.drew fun W d c f=>Ld P 9 f (.mk b 3 none) (.string O)/\Ld P 9 f (.mk b 2 none) (.string N)/\Ld P 3 f (.mk b 1 none) (I M)/\Ld P 117 f K (.map F)/\∀Y a,New f (.cells #[I h,I i,I M,I 0,.string N,.string O,S W d c,S none 0 0] 139) Y a->Ld P 117 a K (.map F)/\∃g,MUp P 117 a (.map F) (I h) (Q (some (.mk Y 0 none))) g/\B0 (i=(0:Int)) (onP p0 fun l=>Z2 g (l.add 1) h fun a=>J (e.1,k,A,D) a) (L4 g b 0 fun aa=>B0 (aa=(0:Int)) (onP p0 fun l=>G12 g.drew l fun j=>∃n,Lk P 117 false g.drew (.map j) (I i) (Q n)/\onP p0 fun v=>G12 g.drew v fun m=>∃q,Lk P 117 false g.drew (.map m) (I i) (Q q)/\onP q fun x=>G13 g.drew (x.add 7) fun p d c=>N9 g.drew h fun b a=>Ld P 59 a (x.add 7) (S p d c)/\Lk P 117 false a (.map m) (I i) (Q q)/\Ld P 117 a v (.map m)/\Lk P 117 false a (.map j) (I i) (Q n)/\Ld P 117 a l (.map j)/\C7 122 [S p d c,I e.1,S (some (.mk b 0 none)) 1 1] a fun t d c f=>Lk P 117 false f (.map j) (I i) (Q n)/\Ld P 117 f l (.map j)/\onP n fun H=>Z3 f (H.add 7) t d c fun a=>inR .i64 (e.1+(1:Int))/\J (e.1+(1:Int),k,A,D) a) (onP p0 fun l=>G12 g.drew l fun j=>∃n,Lk P 117 false g.drew (.map j) (I i) (Q n)/\onP p0 fun v=>G12 g.drew v fun m=>∃q,Lk P 117 false g.drew (.map m) (I i) (Q q)/\onP q fun x=>G13 g.drew (x.add 7) fun p d c=>N9 g.drew h fun b a=>Ld P 59 a (x.add 7) (S p d c)/\Lk P 117 false a (.map m) (I i) (Q q)/\Ld P 117 a v (.map m)/\Lk P 117 false a (.map j) (I i) (Q n)/\Ld P 117 a l (.map j)/\∃t af ae G,App P #[59,59] 59 a (S p d c) (S (some (.mk b 0 none)) 1 1) (S t af ae) G/\Lk P 117 false G (.map j) (I i) (Q n)/\Ld P 117 G l (.map j)/\onP n fun H=>Z3 G (H.add 7) t af ae fun a=>J (e.1,k,A,D) a))) (onP p2 fun k=>((0:Int)<=(0:Int)/\(0:Int)<(↑n2:Int))/\G1 f k fun h=>R (E (I h)) f)) (i1,(some (.mk b 0 none),1,1),(0:Int)) a
theorem gGrow.ok(Z0:gGrow.vc u U p0 p1 p2 n0 n2 i0 i1):Calls P 63 #[Q p0,I i0,I i1,S p1 n0 n1,S p2 n2 n3] u U:=cok ⟨[],[(3,[(2,.inl .i64),(11,.inr 3),(20,.inl .i64)])],[(15,[(2,.inl .i64),(11,.inr 3)])],[]⟩ Tryz.func63 Z0
def gGiven.vc:Prop:=AP (St:=(Option Addr×Nat×Nat)×Int) (fun a f n=>B0 (a.2<i0) (onP p0 fun d=>G1 f (d.add 2) fun b=>N9 f b fun h c=>∃d j i g,App P #[59,59] 59 c (S a.1.1 a.1.2.1 a.1.2.2) (S (some (.mk h 0 none)) 1 1) (S d j i) g/\onP p0 fun k=>G1 g (k.add 2) fun b=>inR .i64 (b+1)/\onP p0 fun l=>Z2 g (l.add 2) (b+1) fun c=>inR .i64 (a.2+1)/\n ((d,j,i),a.2+1) c) (R (E (S a.1.1 a.1.2.1 a.1.2.2)) f)) ((none,0,0),0) w
theorem gGiven.ok(Z0:gGiven.vc u U p0 i0):Calls P 64 #[Q p0,I i0] u U:=cok ⟨[],[(3,[(5,.inr 3),(7,.inl .i64)])],[],[]⟩ Tryz.func64 Z0
def nTake.vc:Prop:=N7 w i0 i1 s0 b0 fun f b=>L5 b f 3 fun A=>br A (R (E (.bool false)) b) (L4 b f 0 fun c=>B0 (c<(0:Int)) (R (E (.bool false)) b) (L4 b f 0 fun c=>B0 ((4096:Int)<=c) (R (E (.bool false)) b) (L7 b f 2 fun e=>B0 (e=.mk #[]) (R (E (.bool false)) b) (AP (St:=PUnit) (fun e a Z=>onP p0 fun d=>G20 a.drew d fun g=>onP g fun d=>G6 a.drew (d.add 3) fun N h i=>L4 a.drew f 0 fun c=>B0 ((↑h:Int)<=c) (onP p0 fun d=>G20 a.drew.drew d fun g=>onP p0 fun o=>G20 a.drew.drew o fun s=>onP s fun p=>G6 a.drew.drew (p.add 3) fun n h i=>C4 123 [] a.drew.drew fun L a=>Ld P 84 a (p.add 3) (S n h i)/\Ld P 23 a o (Q s)/\Ld P 23 a d (Q g)/\N8 a L fun f b=>Ld P 84 b (p.add 3) (S n h i)/\Ld P 23 b o (Q s)/\Ld P 23 b d (Q g)/\∃y q k l,App P #[84,84] 84 b (S n h i) (S (some (.mk f 0 none)) 1 1) (S y q k) l/\Ld P 23 l d (Q g)/\onP g fun d=>∃b,St P 84 l (d.add 3) (S y q k) b/\Z () b) (L7 a.drew f 2 fun e=>C18 113 [.string e] a.drew fun e a=>onP p0 fun d=>G20 a d fun g=>onP g fun d=>G11 a (d.add 4) fun k=>∃c G B,Lk P 83 true a (.map k) (.string e) (A9 c G B)/\N14 a 0 0 fun C b=>U10 b C 0 c G fun l=>onP p0 fun d=>G20 l.drew d fun g=>onP g fun d=>G6 l.drew (d.add 3) fun o h i=>L4 l.drew f 0 fun c=>onP o fun d=>((0:Int)<=c/\c<(↑h:Int))/\G7 l.drew (d.add (c.toNat*1)) fun g=>L4 l.drew f 1 fun c=>C15 48 [Q g,I c] l.drew fun aa D a=>br B (R (E (.bool false)) a.drew) (br D (R (E (.bool false)) a.drew) (onP p0 fun d=>G20 a.drew d fun g=>onP g fun d=>G6 a.drew (d.add 3) fun p h i=>L4 a.drew f 0 fun c=>onP p fun d=>((0:Int)<=c/\c<(↑h:Int))/\G7 a.drew (d.add (c.toNat*1)) fun g=>L4 a.drew f 1 fun c=>L7 a.drew f 2 fun M=>C3 110 [Q g,I c,.string M] a.drew fun c a=>B1 (c=(0:Int)) (R (E (.bool false)) a) (onP p0 fun d=>G20 a.drew d fun g=>onP g fun d=>G11 a.drew (d.add 4) fun k=>L4 a.drew f 0 fun c=>L4 a.drew f 1 fun H=>∃b,MUp P 83 a.drew (.map k) (.string e) (A4 c H) b/\L7 b f 2 fun e=>((0:Int)<=(0:Int)/\(0:Int)<(↑(e.size):Int))/\B0 (sb e (0:Int)=(104:Int)) (L7 b f 2 fun e=>L7 b f 2 fun t=>((0:Int)<=(1:Int)/\(1:Int)<=min (↑(t.size):Int) (8:Int)/\min (↑(t.size):Int) (8:Int)<=(↑(e.size):Int))/\C3 124 [.string (ByteArray.extract e (Int.toNat (1:Int)) (Int.toNat (min (↑(t.size):Int) (8:Int))))] b fun c a=>onP p0 fun d=>Z2 a (d.add 1) c fun b=>L7 b f 2 fun e=>R (E (.bool (decide ((↑(e.size):Int)=(5:Int))))) b) (B0 (sb e (0:Int)=(119:Int)) (L7 b f 2 fun e=>C2 125 [Q p0,.string e] b fun f a=>R (E (.bool f)) a) (B0 (sb e (0:Int)=(110:Int)) (L7 b f 2 fun e=>((0:Int)<=(1:Int)/\(1:Int)<=(↑(e.size):Int))/\BL P 126 [.string (ByteArray.extract e (Int.toNat (1:Int)) (e.size))] b fun j a=>∃c X Y F,j=E (A17 c X Y F)/\onP p0 fun d=>G22 a.drew (d.add 3) fun k=>onP p0 fun n=>G22 a.drew (n.add 3) fun r=>∃v h i,Lk P 125 false a.drew (.map r) (I c) (S v h i)/\L7 a.drew f 2 fun e=>((0:Int)<=(1:Int)/\(1:Int)<=(↑(e.size):Int))/\N12 a.drew (ByteArray.extract e (Int.toNat (1:Int)) (e.size)) fun f b=>Lk P 125 false b (.map r) (I c) (S v h i)/\Ld P 125 b (n.add 3) (.map r)/\Ld P 125 b (d.add 3) (.map k)/\∃z q K x,App P #[106,106] 106 b (S v h i) (S (some (.mk f 0 none)) 1 1) (S z q K) x/\Ld P 125 x (d.add 3) (.map k)/\∃b,MUp P 125 x (.map k) (I c) (S z q K) b/\R (E (.bool F)) b) (R (E (.bool false)) b)))))))) () b))))
theorem nTake.ok(Z0:nTake.vc u U p0 i0 i1 s0 b0):Calls P 65 #[Q p0,A5 i0 i1 s0 b0] u U:=cok ⟨[],[(3,[])],[],[]⟩ Tryz.func65 Z0
def xLoad.vc:Prop:=C4 38 [] w fun e b=>AP (St:=Int) (fun g b q=>B0 (g<(↑n0:Int)) (onP p0 fun a=>D1 g n0/\G2 b (a.add (g.toNat*1)) fun k=>onP e fun a=>G18 b (a.add 1) fun h=>∃p i,Lk P 147 true b (.map h) (.string k) (A1 p i)/\B0 (4000<=g) (R (E (A8 none 150)) b) (Am (fun C b=>br C (R (E (A8 none 63)) b) (B0 (k=.mk #[]) (onP e fun a=>G17 b a fun j c d=>N15 b (.mk #[]) 0 fun i f=>∃a n h o,App P #[148,148] 148 f (S j c d) (S (some (.mk i 0 none)) 1 1) (S a n h) o/\onP e fun l=>Z4 o l a n h fun f=>inR .i64 (g+1)/\q (g+1) f) (onP e fun a=>G17 b a fun j c d=>N15 b k 1 fun i f=>∃a n h o,App P #[148,148] 148 f (S j c d) (S (some (.mk i 0 none)) 1 1) (S a n h) o/\onP e fun l=>Z4 o l a n h fun f=>onP e fun a=>G18 f (a.add 1) fun h=>inR .i64 (g+1)/\∃x,MUp P 147 f (.map h) (.string k) (I (g+1)) x/\inR .i64 (g+1)/\q (g+1) x))) fun(J:Bool->World->Prop)=>B1 (k=.mk #[]) (C2 127 [.string k] b fun t b=>br (!t) (J true b) (J i b)) (J false b))) (AP (St:=PUnit) (fun g b q=>onP e fun a=>G17 b.drew a fun j c d=>B0 (0<(↑c:Int)) (onP e fun a=>G17 b.drew a fun l c d=>onP e fun a=>G17 b.drew a fun y m d=>inR .i64 ((↑m:Int)-1)/\onP l fun a=>(0<=(↑m:Int)-1/\(↑m:Int)-1<(↑c:Int))/\G1 b.drew (Addr.add (a.add (Int.toNat ((↑m:Int)-1)*2)) 1) fun p=>B0 (p=0) (onP e fun a=>G17 b.drew.drew a fun s c d=>onP e fun a=>G17 b.drew.drew a fun z c A=>inR .i64 ((↑c:Int)-1)/\(0<=(↑c:Int)-1/\(↑c:Int)-1<=(↑d:Int))/\onP e fun a=>Z4 b.drew.drew a s (Int.toNat ((↑c:Int)-1)) d fun f=>q () f) (R (E (A8 e 0)) b.drew)) (R (E (A8 e 0)) b.drew)) () b)) 0 b
theorem xLoad.ok(Z0:xLoad.vc u U p0 n0):Calls P 66 #[S p0 n0 n1] u U:=cok ⟨[],[(3,[(12,.inl .i64)]),(15,[])],[(9,[(29,.inr 0)])],[]⟩ Tryz.func66 Z0
def nNodes.vc:Prop:=onP p0 fun a=>G22 w (a.add 3) fun h=>BL P 129 [.map h] w fun e c=>∃K,e=E K/\C7 128 [K] c fun a b d c=>AP (St:=Int) (fun j c N=>B0 (j<(↑b:Int)) (onP a fun a=>D1 j b/\G1 c (a.add (j.toNat*1)) fun g=>onP p0 fun a=>G22 c (a.add 3) fun h=>∃a b d,Lk P 125 false c (.map h) (I g) (S a b d)/\C1 130 [S a b d] c fun c=>BL P 131 [S a b d] c fun e c=>∃g q t v x y G a b d z,e=E (A18 g q t v x y G a b d z)/\N16 c 0 0 0 0 0 0 (.mk #[]) none 0 0 fun i f=>U11 f i 0 g q t v x y G a b d fun k=>B1 (z=0) (R (E (.bool false)) k) (onP p0 fun a=>G23 k.drew (a.add 4) fun m b d=>L14 k.drew i 0 fun g A B C r s H o D p=>N16 k.drew g A B C r s H o D p fun i f=>Ld P 126 f (a.add 4) (S m b d)/\∃a F h L,App P #[126,126] 126 f (S m b d) (S (some (.mk i 0 none)) 1 1) (S a F h) L/\onP p0 fun M=>∃f,St P 126 L (M.add 4) (S a F h) f/\inR .i64 (j+1)/\N (j+1) f)) (onP p0 fun a=>G23 c (a.add 4) fun n b d=>C1 132 [S n b d,Value.func (.func 133) #[] #[]] c fun c=>R (E (.bool true)) c)) 0 c
theorem nNodes.ok(Z0:nNodes.vc u U p0):Calls P 67 #[Q p0] u U:=cok ⟨[],[(2,[(15,.inl .i64)])],[],[]⟩ Tryz.func67 Z0
def nTreeQ.vc:Prop:=onP p0 fun b=>G23 w (b.add 4) fun ac h g=>AP (St:=(Option Addr×Nat×Nat)×Int) (fun a f X=>B0 (a.2<(↑h:Int)) (onP ac fun b=>D1 a.2 h/\∃d y z A B C G Y h g,Ld P 204 f (b.add (a.2.toNat*8)) (A15 d y z A B C G Y h g)/\N16 f 0 0 0 0 0 0 (.mk #[]) none 0 0 fun e c=>U11 c e 0 d y z A B C G Y h g fun p=>L3 p e 4 fun d i=>N3 p d i fun e c=>∃b r q l,App P #[187,187] 187 c (S a.1.1 a.1.2.1 a.1.2.2) (S (some (.mk e 0 none)) 1 1) (S b r q) l/\inR .i64 (a.2+1)/\X ((b,r,q),a.2+1) l) (C19 134 [S a.1.1 a.1.2.1 a.1.2.2] f fun b h g e f=>br (!e) (R (E (.bool false)) f) (onP p0 fun Y=>G23 f (Y.add 4) fun ad ab g=>AP (St:=(Option Addr×Nat×Nat)×(Option Addr×Nat×Nat)×Int) (fun a f X=>B0 (a.2.2<(↑ab:Int)) (onP ad fun Z=>D1 a.2.2 ab/\∃d y z A B C G V ae g,Ld P 204 f (Z.add (a.2.2.toNat*8)) (A15 d y z A B C G V ae g)/\N16 f 0 0 0 0 0 0 (.mk #[]) none 0 0 fun e c=>U11 c e 0 d y z A B C G V ae g fun p=>Am (St:=Option Addr×Bool) (fun o f=>br (!o.2) (R (E (.bool false)) f) (Am (St:=(Option Addr×Nat×Nat)×Option Addr×Nat×Nat) (fun j f=>onP p0 fun b=>G20 f.drew b fun T=>onP T fun b=>G9 f.drew (b.add 1) fun q=>L4 f.drew e 0 fun d=>L3 f.drew e 4 fun i k=>∃c,MUp P 80 f.drew (.map q) (I d) (A4 i k) c/\inR .i64 (a.2.2+1)/\X ((j.1.1,j.1.2.1,j.1.2.2),(j.2.1,j.2.2.1,j.2.2.2),a.2.2+1) c) fun J=>(∃d i j x b h g,(onP o.1 fun n=>Ld P 123 f.drew n (A16 d i j x b h g))/\L4 f.drew e 0 fun k=>N11 f.drew d i j x b h g fun m c=>Ld P 3 c (.mk e 0 none) (I k)/\∃b r q l,App P #[34,34] 34 c (S a.1.1 a.1.2.1 a.1.2.2) (S (some (.mk m 0 none)) 1 1) (S b r q) l/\Ld P 3 l (.mk e 0 none) (I k)/\N9 l k fun e c=>∃L F D H,App P #[59,59] 59 c (S a.2.1.1 a.2.1.2.1 a.2.1.2.2) (S (some (.mk e 0 none)) 1 1) (S L F D) H/\J ((b,r,q),L,F,D) H)/\(∃d i j x b h g,(onP o.1 fun n=>Ld P 123 f.drew n (A16 d i j x b h g))/\L4 f.drew e 0 fun k=>N11 f.drew d i j x b h g fun m c=>Ld P 3 c (.mk e 0 none) (I k)/\N9 c k fun e l=>∃b r q c,App P #[34,34] 34 l (S a.1.1 a.1.2.1 a.1.2.2) (S (some (.mk m 0 none)) 1 1) (S b r q) c/\∃n F D H,App P #[59,59] 59 c (S a.2.1.1 a.2.1.2.1 a.2.1.2.2) (S (some (.mk e 0 none)) 1 1) (S n F D) H/\J ((b,r,q),n,F,D) H)/\∃d i j x b h g,(onP o.1 fun n=>Ld P 123 f.drew n (A16 d i j x b h g))/\L4 f.drew e 0 fun k=>N9 f.drew k fun e c=>(onP o.1 fun L=>Ld P 123 c L (A16 d i j x b h g))/\N11 c d i j x b h g fun m l=>∃b r q c,App P #[34,34] 34 l (S a.1.1 a.1.2.1 a.1.2.2) (S (some (.mk m 0 none)) 1 1) (S b r q) c/\∃L F D H,App P #[59,59] 59 c (S a.2.1.1 a.2.1.2.1 a.2.1.2.2) (S (some (.mk e 0 none)) 1 1) (S L F D) H/\J ((b,r,q),L,F,D) H)) fun J=>(L14 p.drew e 0 fun d i k t v M o n O g=>onP b fun b=>D1 a.2.2 h/\G1 p.drew (b.add (a.2.2.toNat*1)) fun N=>BL P 135 [Q p0,A15 d i k t v M o n O g,I N] p.drew fun s f=>∃d W a j b h g e,s=E (.tuple #[(A16 d W a j b h g),.bool e])/\N11 f 0 0 (.mk #[]) (.mk #[]) none 0 0 fun m c=>U8 c m 0 d W a j b h g fun l=>J (some (.mk m 0 none),e) l)/\L14 p.drew e 0 fun d i k t v M o n O g=>onP b fun b=>D1 a.2.2 h/\G1 p.drew (b.add (a.2.2.toNat*1)) fun N=>N11 p.drew 0 0 (.mk #[]) (.mk #[]) none 0 0 fun m c=>Ld P 3 c (b.add (a.2.2.toNat*1)) (I N)/\Ld P 204 c (.mk e 0 none) (A15 d i k t v M o n O g)/\BL P 135 [Q p0,A15 d i k t v M o n O g,I N] c fun s f=>∃d W a j b h g e,s=E (.tuple #[(A16 d W a j b h g),.bool e])/\U8 f m 0 d W a j b h g fun c=>J (some (.mk m 0 none),e) c) (onP p0 fun b=>G1 f (b.add 1) fun d=>C11 136 [S a.1.1 a.1.2.1 a.1.2.2,S a.2.1.1 a.2.1.2.1 a.2.1.2.2,I (max d 1)] f fun T d f=>B1 (d=0) (R (E (.bool false)) f) (onP p0 fun b=>G20 f b fun af=>onP af fun b=>∃c,St P 49 f b (Q T) c/\onP p0 fun b=>G23 c (b.add 4) fun Z h g=>AP (St:=Int) (fun a f X=>B0 (a<(↑h:Int)) (onP Z fun b=>D1 a h/\∃d y z A B C G V h g,Ld P 204 f (b.add (a.toNat*8)) (A15 d y z A B C G V h g)/\N16 f 0 0 0 0 0 0 (.mk #[]) none 0 0 fun e c=>U11 c e 0 d y z A B C G V h g fun p=>L4 p e 0 fun d=>C13 29 [Q T,I d] p fun d i k t o j b h g m f=>N5 f 0 0 0 0 (.mk #[]) (.mk #[]) none 0 0 fun aa c=>U4 c aa 0 d i k t o j b h g fun l=>L4 l aa 1 fun d=>L4 l e 1 fun v=>B1 (d=v) (R (E (.bool false)) l) (inR .i64 (a+1)/\X (a+1) l)) (R (E (.bool true)) f)) 0 c))) ((none,0,0),(none,0,0),0) f))) ((none,0,0),0) w
theorem nTreeQ.ok(Z0:nTreeQ.vc u U p0):Calls P 68 #[Q p0] u U:=cok ⟨[],[(3,[(3,.inr 3),(25,.inl .i64)]),(13,[(8,.inr 3),(9,.inr 3),(47,.inl .i64)]),(26,[(110,.inl .i64)])],[(16,[(12,.inr 2),(13,.inr 0)]),(19,[(8,.inr 3),(9,.inr 3)])],[]⟩ Tryz.func68 Z0
def gBelow.vc:Prop:=∀b a,New w (.cells #[Q p0] 49) b a->N9 a i0 fun c e=>N9 e i1 fun d a=>R (E (Value.func (.func 137) #[] #[Q (some (.mk b 0 none)),Q (some (.mk c 0 none)),Q (some (.mk d 0 none))])) a
theorem gBelow.ok(Z0:gBelow.vc u U p0 i0 i1):Calls P 69 #[Q p0,I i0,I i1] u U:=cok {} Tryz.func69 Z0
def rpCheck.vc:Prop:=B0 ((↑n0:Int)=0) (R (E (A7 0 40)) w) (AP (St:=Int) (fun a b h=>B0 (a<(↑n0:Int)) (C3 138 [S p0 n0 n1,I a] b fun c b=>B1 (c=0) (R (E (A7 a c)) b) (inR .i64 (a+1)/\h (a+1) b)) (R (E (A7 0 0)) b)) 0 w)
theorem rpCheck.ok(Z0:rpCheck.vc u U p0 n0 n1):Calls P 71 #[S p0 n0 n1] u U:=cok ⟨[],[(4,[(4,.inl .i64)])],[],[]⟩ Tryz.func71 Z0
def rsInside.vc:Prop:=B0 (0<=i0) (R (E (.bool (decide (i0<=4611686018427387904)))) w) (R (E (.bool false)) w)
theorem rsInside.ok(Z0:rsInside.vc u U i0):Calls P 72 #[I i0] u U:=cok {} Tryz.func72 Z0
def rpEnd.vc:Prop:=B0 (i0<0) (R (E (I 0)) w) (B0 ((↑n0:Int)<=i0) (R (E (I 0)) w) (inR .i64 (i0+1)/\AP (St:=Int) (fun b d i=>B0 (b<(↑n0:Int)) (onP p0 fun e=>D1 b n0/\G1 d.drew (e.add (b.toNat*5)) fun f=>onP p0 fun e=>D1 i0 n0/\G1 d.drew (e.add (i0.toNat*5)) fun g=>B0 (f<=g) (R (E (I b)) d.drew) (inR .i64 (b+1)/\i (b+1) d.drew)) (R (E (I (↑n0:Int))) d)) (i0+1) w))
theorem rpEnd.ok(Z0:rpEnd.vc u U p0 n0 i0):Calls P 73 #[S p0 n0 n1,I i0] u U:=cok ⟨[],[(4,[(5,.inl .i64)])],[],[]⟩ Tryz.func73 Z0
def rsIn.vc:Prop:=N4 w i0 i1 fun c g=>N4 g i2 i3 fun d a=>L4 a d 0 fun b=>L4 a c 0 fun e=>B0 (b<e) (L4 a c 1 fun b=>L4 a d 1 fun f=>R (E (.bool (decide (b<f)))) a) (R (E (.bool false)) a)
theorem rsIn.ok(Z0:rsIn.vc u U i0 i1 i2 i3):Calls P 74 #[A4 i0 i1,A4 i2 i3] u U:=cok {} Tryz.func74 Z0
def rsAhead.vc:Prop:=N4 w i0 i1 fun b f=>N4 f i2 i3 fun c a=>L4 a b 1 fun d=>L4 a c 0 fun e=>R (E (.bool (decide (d<e)))) a
theorem rsAhead.ok(Z0:rsAhead.vc u U i0 i1 i2 i3):Calls P 75 #[A4 i0 i1,A4 i2 i3] u U:=cok {} Tryz.func75 Z0
def each.vc:Prop:=onP p0 fun h=>G1 w (h.add 4096) fun c=>AP (St:=Int) (fun b a f=>B0 (b<c) (C10 86 [Q p0,I b] a fun c i a=>B0 (0<c) (Ee P v0 [I b] a fun d a=>∃e,d=E (.bool e)/\br (!e) (R (E (.tuple #[])) a) (inR .i64 (b+1)/\f (b+1) a)) (inR .i64 (b+1)/\f (b+1) a)) (R (E (.tuple #[])) a)) 0 w
theorem each.ok(Z0:each.vc u U p0 v0):Calls P 85 #[Q p0,v0] u U:=cok ⟨[],[(1,[(11,.inl .i64)])],[],[]⟩ Tryz.func85 Z0
def slot.vc:Prop:=B0 (i0<0) (R (E (A7 0 0)) w) (onP p0 fun g=>G1 w (g.add 4096) fun b=>B0 (b<=i0) (R (E (A7 0 0)) w) (inR .i64 (4*i0)/\inR .i64 (10+4*i0)/\C3 146 [Q p0,I (10+4*i0)] w fun b e=>inR .i64 (4*i0)/\inR .i64 (10+4*i0)/\inR .i64 (10+4*i0+2)/\C3 146 [Q p0,I (10+4*i0+2)] e fun f e=>R (E (A7 b f)) e))
theorem slot.ok(Z0:slot.vc u U p0 i0):Calls P 86 #[Q p0,I i0] u U:=cok {} Tryz.func86 Z0
def gInsert.vc:Prop:=C11 147 [Q p0,I i0] w fun p b a=>B1 (b=0) (R (E (A7 0 b)) a) (B0 (i1<0) (R (E (A7 0 69)) a) (onP p fun d=>G13 a (d.add 7) fun q g h=>B0 ((↑g:Int)<i1) (R (E (A7 0 69)) a) (C10 148 [S p1 n0 n1] a fun b k a=>B1 (k=0) (R (E (A7 0 k)) a) (C3 149 [Q p0,I i0] a fun i a=>inR .i64 (i+1)/\inR .i64 (i+1+b)/\B0 (40<=i+1+b) (R (E (A7 0 65)) a) (onP p0 fun d=>G12 a d fun o=>∃b,LenM P #[117] 3 a (.map o) (I b)/\inR .i64 (b+(↑n0:Int))/\B0 (1000<b+(↑n0:Int)) (R (E (A7 0 66)) a) (onP p0 fun d=>G1 a (d.add 2) fun b=>inR .i64 (2147483647-b)/\B0 (2147483647-b<(↑n0:Int)) (R (E (A7 0 66)) a) (C7 64 [Q p0,I (↑n0:Int)] a fun d g h a=>C3 63 [Q p0,I i0,I i1,S p1 n0 n1,S d g h] a fun b a=>R (E (A7 b 0)) a)))))))
theorem gInsert.ok(Z0:gInsert.vc u U p0 p1 n0 n1 i0 i1):Calls P 91 #[Q p0,I i0,I i1,S p1 n0 n1] u U:=cok {} Tryz.func91 Z0
def gDelete.vc:Prop:=onP p0 fun c=>G12 w c fun e=>∃A f,Lk P 117 true w (.map e) (I i0) (A10 A f)/\br (!f) (R (E (I 60)) w) (onP p0 fun c=>G1 w (c.add 1) fun h=>B0 (i0=h) (R (E (I 62)) w) (C1 150 [Q p0,I i0] w fun a=>N10 a none 0 0 fun f b=>BL P 69 [Q p0,I i0,I 0] b fun l a=>∃s,l=E s/\∃(m:FuncId),∃(q:Array Value),∃(p:Array Value),s=Value.func (.func m) q p/\GV P m/\E5 P m (Array.toList q) (Array.toList p) (fun(d:Int×Int)=>[I d.1,I d.2]) (fun(d:Int×Int)(a:World)(x:World->(World->Prop)->Prop)(y B:World->Prop)(C:Nat->World->Prop)=>x a fun v=>L9 v f 0 fun c g k=>N9 v d.1 fun o b=>∃n r e t,App P #[59,59] 59 b (S c g k) (S (some (.mk o 0 none)) 1 1) (S n r e) t/\U5 t f 0 n r e fun b=>y b) a (fun D a=>L9 a f 0 fun c g k=>AP (St:=Int) (fun d a z=>B0 (d<(↑g:Int)) (onP c fun c=>D1 d g/\G1 a (c.add (d.toNat*1)) fun h=>onP p0 fun c=>G12 a c fun e=>∃b,Del P #[117,3] 0 a (.map e) (I h) b/\inR .i64 (d+1)/\z (d+1) b) (∃b,FZ a D b/\R (E (I 0)) b)) 0 a) (fun D a=>False) fun(i0 D:Nat)(a:World)=>False))
theorem gDelete.ok(Z0:gDelete.vc u U p0 i0):Calls P 92 #[Q p0,I i0] u U:=cok ⟨[],[(12,[(44,.inl .i64)])],[],[(10,[(36,.inl .i64),(37,.inl .i64)])]⟩ Tryz.func92 Z0
def gMove.vc:Prop:=N9 w i1 fun m b=>∀e i,New b (.cells #[I 0] 41) e i->onP p0 fun d=>G12 i d fun q=>∃x A,Lk P 117 true i (.map q) (I i0) (A10 x A)/\onP p0 fun d=>G12 i.drew d fun q=>L4 i.drew m 0 fun a=>∃r B,Lk P 117 true i.drew (.map q) (I a) (A10 r B)/\Am (fun f c=>br f (U12 c e 0 60 fun b=>L15 b e 0 fun a=>R (E (I a)) b) (onP p0 fun d=>G1 c (d.add 1) fun a=>B0 (i0=a) (U12 c e 0 62 fun b=>L15 b e 0 fun a=>R (E (I a)) b) (onP r fun d=>G1 c (d.add 2) fun a=>B1 (a=1) (U12 c e 0 68 fun b=>L15 b e 0 fun a=>R (E (I a)) b) (N9 c 0 fun n b=>U6 b n 0 0 fun K=>BL P 69 [Q p0,I i0,I 0] K fun k c=>∃H,k=E H/\∃(v:FuncId),∃(G:Array Value),∃(F:Array Value),H=Value.func (.func v) G F/\GV P v/\E5 P v (Array.toList G) (Array.toList F) (fun(f:Int×Int)=>[I f.1,I f.2]) (fun(f:Int×Int)(c:World)(N:World->(World->Prop)->Prop)(O T:World->Prop)(W:Nat->World->Prop)=>N c fun s=>L4 s m 0 fun a=>B0 (f.1=a) (U12 s e 0 61 fun b=>T b) (L4 s n 0 fun a=>U6 s n 0 (max a f.2) fun b=>O b)) c (fun D c=>onP r fun d=>G13 c (d.add 7) fun L g j=>Am (fun f c=>Am (fun f c=>br f (U12 c e 0 69 fun b=>∃h,FZ b D h/\L15 h e 0 fun a=>R (E (I a)) h) (L4 c.drew m 0 fun a=>L4 c.drew n 0 fun l=>C3 149 [Q p0,I a] c.drew fun a c=>Ld P 3 c (.mk n 0 none) (I l)/\inR .i64 (a+1)/\inR .i64 (a+1+l)/\B0 (40<=a+1+l) (U12 c e 0 65 fun b=>∃h,FZ b D h/\L15 h e 0 fun a=>R (E (I a)) h) (C1 150 [Q p0,I i0] c fun c=>onP r fun d=>G13 c (d.add 7) fun z g j=>N9 c i0 fun C b=>C7 122 [S z g j,I i2,S (some (.mk C 0 none)) 1 1] b fun d g j c=>onP r fun M=>Z3 c (M.add 7) d g j fun b=>L4 b m 0 fun a=>onP x fun d=>Z2 b (d.add 1) a fun h=>U12 h e 0 0 fun b=>∃y,FZ b D y/\L15 y e 0 fun a=>R (E (I a)) y))) fun(J:Bool->World->Prop)=>B0 (i2<0) (J true c) (J (decide (f<i2)) c)) fun(J:Int->World->Prop)=>onP x fun d=>G1 c.drew (d.add 1) fun a=>L4 c.drew m 0 fun l=>B0 (a=l) (inR .i64 ((↑g:Int)-1)/\J ((↑g:Int)-1) c.drew) (J (↑g:Int) c.drew)) (fun D c=>∃b,FZ c D b/\L15 b e 0 fun a=>R (E (I a)) b) fun(i0 D:Nat)(c:World)=>False)))) fun(J:Bool->World->Prop)=>br (!A) (J true i.drew) (J (!B) i.drew)
theorem gMove.ok(Z0:gMove.vc u U p0 i0 i1 i2):Calls P 93 #[Q p0,I i0,I i1,I i2] u U:=cok ⟨[],[],[(4,[(35,.inr 0)]),(19,[(16,.inl .i64)]),(20,[(81,.inr 0)])],[(13,[(59,.inl .i64),(60,.inl .i64)])]⟩ Tryz.func93 Z0
def gSetAttr.vc:Prop:=C11 147 [Q p0,I i0] w fun i b a=>B1 (b=0) (R (E (I b)) a) (C2 127 [.string s0] a fun g a=>br (!g) (R (E (I 63)) a) (C3 151 [.string s1] a fun b a=>B1 (b=0) (C3 151 [.string s1] a fun b a=>R (E (I b)) a) (C17 152 [Q i,.string s0] a fun b g a=>br g (onP i fun e=>G14 a (e.add 6) fun j d f=>onP j fun e=>D1 b d/\Z1 a (Addr.add (e.add (b.toNat*2)) 1) s1 fun h=>R (E (I 0)) h) (onP i fun e=>G14 a (e.add 6) fun j d f=>B0 (20<=(↑d:Int)) (R (E (I 67)) a) (onP i fun e=>G14 a (e.add 6) fun m d f=>N13 a s0 s1 fun g h=>C7 153 [S m d f,I b,S (some (.mk g 0 none)) 1 1] h fun e d f a=>onP i fun n=>∃h,St P 69 a (n.add 6) (S e d f) h/\R (E (I 0)) h)))))
theorem gSetAttr.ok(Z0:gSetAttr.vc u U p0 i0 s0 s1):Calls P 94 #[Q p0,I i0,.string s0,.string s1] u U:=cok {} Tryz.func94 Z0
def gDelAttr.vc:Prop:=C11 147 [Q p0,I i0] w fun g a b=>B1 (a=0) (R (E (I a)) b) (C17 152 [Q g,.string s0] b fun a i b=>br (!i) (R (E (I 63)) b) (onP g fun f=>G14 b (f.add 6) fun h e c=>inR .i64 (a+1)/\C7 154 [S h e c,I a,I (a+1)] b fun f e c b=>onP g fun k=>∃j,St P 69 b (k.add 6) (S f e c) j/\R (E (I 0)) j))
theorem gDelAttr.ok(Z0:gDelAttr.vc u U p0 i0 s0):Calls P 95 #[Q p0,I i0,.string s0] u U:=cok {} Tryz.func95 Z0
end
end Go.Proofs.YtljenkbpnioipaaGreat
