/- Part 1 of 6 of the proof of journalCrash_holds: for every input, from every world that may be reached. -/
import Derived.WalkKit
import Derived.RangeFuncSeq
import Derived.KernelRfl
import Derived.RangeFuncLeaves
import Derived.Test.YtdeebigmpffnbaaGreatChecked
import Derived.Deep.AppendSrc
import Derived.Laws.MakeOwn
import Derived.Laws.BytesArg
import Derived.Laws.BytesString
import Derived.Laws.IdiomStrings
import Derived.Maps.RangeRun
import Derived.Shelf.SlIter.Nil
import Derived.Shelf.SlIterI.Nil
import Derived.Shelf.SortM.Plain
import Derived.Shelf.SortM.SortNone
import Derived.Shelf.SlMaps.Clone
import Derived.StringKeys
import Derived.Laws.Pointers
import Derived.Sort.Walk0
import Derived.Lib.SliceRun
import Derived.Test.YtdeebigmpffnbaaGreatRows
import Derived.ProofKit
import Derived.Laws.StructEq
import Derived.ChangeKeysEq
import Derived.WideKeyRuns
set_option linter.unusedVariables false
set_option linter.unusedSimpArgs false
set_option maxRecDepth 100000
set_option maxHeartbeats 4000000
open List(all_eq_true append_of_mem cons_append filter_append foldl_cons length_cons mapM_cons map_cons mem_append_left mem_cons mem_cons_of_mem mem_cons_self mem_filter mem_map nil_append nodup_append nodup_cons nodup_nil)
namespace Go.Vc
open Go
noncomputable section
abbrev Fr:=List (Nat×Option Value)
def fget(fr:Fr)(t:Nat):Option Value:=
 List.rec (motive:=fun _=>Option Value) none (fun x _ ih=>cond (Nat.beq t x.1) x.2 ih) fr
def ev(fr:Fr):Operand->Option Value
 |.tmp t=>fget fr t
 |.const v=>some v
 |.global g=>some (.pointer (some ⟨g,0,none⟩))
 |.func f=>some (.func (.func f) #[] #[])
def evs(fr:Fr):List Operand->Option (List Value)
 | []=>some []
 |x::r=>match ev fr x with
  |some v=>match evs fr r with
   |some l=>some (v::l)
   |none=>none
  |none=>none
def onV(x:Option Value)(k:Value->Prop):Prop:=
 match x with
 |some v=>k v
 |none=>False
def W(rd:Option Nat):Fence:= {Fence.wide with round:=rd}
def br(b:Bool)(x y:Prop):Prop:=
 match b with
 |true=>x
 |false=>y
def onP(p:Option Addr)(k:Addr->Prop):Prop:=
 match p with
 |some a=>k a
 |none=>False
def inR(k:IntKind)(z:Int):Prop:=k.min<=z/\z<=k.max
def sb(s:ByteArray)(i:Int):Int:=((s.data.toList[i.toNat]?).getD 0).toNat
structure New(w:World)(o:Obj)(b:Nat)(w1:World):Prop where
 num:b=w.heap.size
 eq:w1=w.alloc o
def Ld(P:Program)(t:TypeId)(w:World)(a:Addr)(v:Value):Prop:=(loadVar t a).run P w=.ok v w
def St(P:Program)(t:TypeId)(w:World)(a:Addr)(v:Value)(w1:World):Prop:=(storeVar t a v).run P w=.ok () w1
def Eqv(P:Program)(op:BinOp)(t:TypeId)(x y:Operand)(w:World)(a b:Value)(r:Bool):Prop:=
 (do eqGuard op t x y a b;binOp op t a b:Sem Value).run P w=.ok (.bool r) w
def Lk(P:Program)(t:TypeId)(ok:Bool)(w:World)(m k v:Value):Prop:=(Instr.lookup t m k ok).run P w=.ok v w
def LenM(P:Program)(ts:Array TypeId)(t:TypeId)(w:World)(m v:Value):Prop:=(Builtin.len_ ts t #[m]).run P w=.ok v w
def B2S(P:Program)(src dst:TypeId)(w:World)(x v:Value):Prop:=(convert src dst x).run P w=.ok v w
def S2B(P:Program)(src dst:TypeId)(w:World)(x v:Value)(w1:World):Prop:=(convert src dst x).run P w=.ok v w1
def App(P:Program)(ts:Array TypeId)(t:TypeId)(w:World)(s x v:Value)(w1:World):Prop:=(Builtin.append_ ts t #[s,x]).run P w=.ok v w1
def Cpy(P:Program)(ts:Array TypeId)(t:TypeId)(w:World)(d s v:Value)(w1:World):Prop:=(Builtin.copy_ ts t #[d,s]).run P w=.ok v w1
def Del(P:Program)(ts:Array TypeId)(t:TypeId)(w:World)(m k:Value)(w1:World):Prop:=(Builtin.delete_ ts t #[m,k]).run P w=.ok (.tuple #[]) w1
def Clr(P:Program)(ts:Array TypeId)(t:TypeId)(w:World)(m:Value)(w1:World):Prop:=(Builtin.clear_ ts t #[m]).run P w=.ok (.tuple #[]) w1
def MUp(P:Program)(t:TypeId)(w:World)(m k v:Value)(w1:World):Prop:=(Instr.mapUpdate t m k v).run P w=.ok () w1
def MEn(P:Program)(t:TypeId)(w:World)(m k v:Value)(w1:World):Prop:=(Instr.mapEntry t m k).run P w=.ok v w1
def ESt(P:Program)(t:TypeId)(w:World)(m s v:Value)(w1:World):Prop:=(Instr.entryStore t m s v).run P w=.ok () w1
def MkS(P:Program)(t:TypeId)(w:World)(l c v:Value)(w1:World):Prop:=(Instr.makeSlice t l c).run P w=.ok v w1
def MkM(P:Program)(t:TypeId)(w:World)(r:Option Value)(v:Value)(w1:World):Prop:=(Instr.makeMap t r).run P w=.ok v w1
def Rng(P:Program)(t:TypeId)(w:World)(x v:Value)(w1:World):Prop:=(Instr.range t x).run P w=.ok v w1
def Nxt(P:Program)(isS:Bool)(t:TypeId)(w:World)(it v:Value)(w1:World):Prop:=(Instr.next it isS t).run P w=.ok v w1
def Etr(P:Program)(w:World)(it v:Value)(w1:World):Prop:=(Instr.entry it).run P w=.ok v w1
def TAs(P:Program)(xT t:TypeId)(ok:Bool)(w:World)(x v:Value):Prop:=(Instr.typeAssert x xT t ok).run P w=.ok v w
structure AB(P:Program)(f:FuncId)(args:List Value)(w:World)(R:Ending->World->Prop):Prop where
 run:Calls P f args.toArray w R
structure Zu(P:Program)(l:Nat)(args:List Value)(w:World)(R:Ending->World->Prop):Prop where
 run:∀(rd:Option Nat)(n:Nat),YieldAt (W rd) n P l args.toArray w R
def Du(P:Program)(fv:Value)(args:List Value)(w:World)(R:Ending->World->Prop):Prop:=
 match fv with
 |.func (.func g) fi ca=>match P.funcs[g]? with
  |some fn=>match fn.body with
   |some _=>AB P g (fi.toList++args++ca.toList) w R
   |none=>False
  |none=>False
 |.func (.yield l) fi ca=>match fi.toList,ca.toList with
  | [],[]=>Zu P l args w R
  |_,_=>False
 |_=>False
structure JO{St:Type}(P:Program)(gf:FuncId)(fi ca:List Value)(toA:St->List Value)(round:St->World->(World->(World->Prop)->Prop)->(World->Prop)->(World->Prop)->(Nat->World->Prop)->Prop)(w:World)(Qn Qr:Nat->World->Prop)(Qx:Nat->Nat->World->Prop):Prop where
 mk'::
 run:∀(D l:Nat)(w0 w1:World)(rec:LoopState->Option Code->Obj),New w (.deferred (some [])) D w0->New w0 (rec .ready none) l w1->
  (∀(s:St)(w':World)(R:Ending->World->Prop),
   round s w' (fun w1 k=>w1.heap[l]? =some (rec .ready none)/\k (w1.putObj l (rec .busy none)))
    (fun w2=>w2.heap[l]? =some (rec .busy none)/\R (.returned (.bool true)) (w2.putObj l (rec .ready none)))
    (fun w2=>w2.heap[l]? =some (rec .busy none)/\R (.returned (.bool false)) (w2.putObj l (rec .done (some .ret))))
    (fun id w2=>w2.heap[l]? =some (rec .busy none)/\R (.returned (.bool false)) (w2.putObj l (rec .done (some (.exit id)))))->
   w'.heap[l]? =some (rec .ready none)->Du P (.func (.yield l) #[] #[]) (toA s) w' R)->
  AB P gf (fi++[.func (.yield l) #[] #[]]++ca) w1 fun e w2=>∃v,e=.returned v/\
   ((w2.heap[l]? =some (rec .ready none)/\Qn D (w2.putObj l (rec .exhausted none)))\/
    (w2.heap[l]? =some (rec .done (some .ret))/\Qr D (w2.putObj l (rec .exhausted (some .ret))))\/
    ∃id,w2.heap[l]? =some (rec .done (some (.exit id)))/\Qx id D (w2.putObj l (rec .exhausted (some (.exit id)))))
def MZ(P:Program)(gf:FuncId):Prop:=∃(fn:Func)(c:Code),P.funcs[gf]? =some fn/\fn.body=some c
def N8(w:World)(D:Nat)(w1:World):Prop:=w.heap[D]? =some (.deferred (some []))/\w1=w.putObj D (.deferred none)
structure Ae{St:Type}(body:St->World->(St->World->Prop)->Prop)(s:St)(w:World):Prop where
 mk'::
 run:∃I:Nat->St->World->Prop,(∃n,I n s w)/\∀n s w,I n s w->body s w (fun s' w'=>∃m,m<n/\I m s' w')
structure F8{St:Type}(R:St->World->Prop)(X:(St->World->Prop)->Prop):Prop where
 mk'::
 run:X R
def exLs(f:TypeId->(List Value->Prop)->Prop):List TypeId->(List Value->Prop)->Prop
 | [],C=>C []
 |t::r,C=>f t (fun l=>exLs f r (fun l'=>C (l++l')))
def exC(P:Program):Nat->TypeId->(List Value->Prop)->Prop
 |0,_,C=>∃cs:List Value,C cs
 |n+1,T,C=>
  match P.underlying T with
  |some .bool=>∃b:Bool,C [.bool b]
  |some (.int k)=>∃i:Int,C [.int k i]
  |some .string=>∃s:ByteArray,C [.string s]
  |some (.pointer _)=>∃p:Option Addr,C [.pointer p]
  |some (.slice _)=>∃(a:Option Addr)(l c:Nat),C [.slice a l c]
  |some (.map _ _)=>∃m:Option Nat,C [.map m]
  |some (.struct fs)=>exLs (exC P n) (fs.toList.map (·.type)) C
  |some (.array _ _)=>∃cs:List Value,C cs
  |_=>∃v:Value,C [v]
def exV(P:Program)(T:TypeId)(C:Value->Prop):Prop:=
 match P.underlying T with
 |some (.struct _)=>exC P 8 T fun cs=>C (.agg cs.toArray)
 |some (.array _ _)=>∃cs:List Value,C (.agg cs.toArray)
 |some .bool=>∃b:Bool,C (.bool b)
 |some (.int k)=>∃i:Int,C (.int k i)
 |some .string=>∃s:ByteArray,C (.string s)
 |some (.pointer _)=>∃p:Option Addr,C (.pointer p)
 |some (.slice _)=>∃(a:Option Addr)(l c:Nat),C (.slice a l c)
 |some (.map _ _)=>∃m:Option Nat,C (.map m)
 |_=>∃v:Value,C v
def exVs(P:Program):List TypeId->(List Value->Prop)->Prop
 | [],C=>C []
 |t::r,C=>exV P t (fun v=>exVs P r (fun l=>C (v::l)))
def exT(P:Program)(T:TypeId)(C:Value->Prop):Prop:=
 match P.underlying T with
 |some (.tuple ts)=>exVs P ts.toList fun vs=>C (.tuple vs.toArray)
 |_=>exV P T C
def force:List Value->(List Value->Prop)->Prop
 | [],k=>k []
 |x::r,k=>force r (fun r'=>k (x::r'))
def VV(big:Bool)(l:List Value)(k:List Value->Prop):Prop:=match big with
 |true=>k l
 |false=>force l k
def over:List Value->Nat->List Value->List Value
 | [],_,cs=>cs
 |x::r,0,_::cs=>x::over r 0 cs
 |_::_,_,[]=>[]
 |l,n+1,c::cs=>c::over l n cs
def PP(place:Nat->Option (Nat×Nat)):List (Nat×Value)->List Value->Option (List Value)
 | [],cs=>some cs
 |(i,v)::r,cs=>
  match place i with
  |none=>none
  |some (off,size)=>
   if v.cells.size≠size||off+v.cells.size>cs.length then none
   else PP place r (over v.cells.toList off cs)
def partsOf(fr:Fr):List (Nat×Operand)->Option (List (Nat×Value))
 | []=>some []
 |(i,x)::r=>match ev fr x with
  |some v=>match partsOf fr r with
   |some l=>some ((i,v)::l)
   |none=>none
  |none=>none
def MK(P:Program):List Field->Option (List (Nat×Nat))
 | []=>some []
 |f::r=>match P.info? f.type with
  |some i=>match MK P r with
   |some l=>some ((f.offset,i.size)::l)
   |none=>none
  |none=>none
def zeroOf(P:Program)(t:TypeId):Option Value:=match P.info? t with
 |some i=>i.zero
 |none=>none
def ER(P:Program)(t:TypeId):Option Nat:=match P.info? t with
 |some i=>some i.size
 |none=>none
def bigT(P:Program)(t:TypeId):Bool:=match ER P t with
 |some n=>Nat.blt 64 n
 |none=>false
def zl(P:Program)(t:TypeId):List Value:=match zeroOf P t with
 |some z=>z.cells.toList
 |none=>[]
def Qm(P:Program)(t:TypeId)(parts:List (Nat×Value)):Option (List Value):=
 match zeroOf P t with
 |none=>none
 |some z=>
  match P.underlying t with
  |some (.struct fs)=>match MK P fs.toList with
   |some pl=>PP (fun i=>pl[i]?) parts z.cells.toList
   |none=>none
  |some (.array _ e)=>match ER P e with
   |some n=>PP (fun i=>some (i*n,n)) parts z.cells.toList
   |none=>none
  |_=>none
def bigL(P:Program)(t:TypeId)(parts:List (Nat×Value)):List Value:=(Qm P t parts).getD []
def repL(z:List Value):Nat->List Value
 |0=>[]
 |n+1=>z++repL z n
def MX(P:Program)(t:TypeId)(len:Nat)(parts:List (Nat×Value)):Option (TypeId×List Value):=
 match P.underlying t with
 |some (.slice e)=>match P.info? e with
  |some i=>match i.zero with
   |some z=>
    if z.cells.size≠i.size||i.size=0||len*i.size>16777216 then none
    else match PP (fun k=>some (k*i.size,i.size)) parts (repL z.cells.toList len)with
     |some l=>some (e,l)
     |none=>none
   |none=>none
  |none=>none
 |_=>none
def Yh(P:Program)(t:TypeId)(cs:List Value)(off:Nat)(K:Value->Prop):Prop:=
 match P.underlying t with
 |some (.struct _)|some (.array _ _)=>match ER P t with
  |some n=>force ((cs.drop off).take n) fun l=>K (.agg l.toArray)
  |none=>False
 |some _=>match cs[off]? with
  |some v=>K v
  |none=>False
 |none=>False
def slA(a:Option Addr)(m l size:Nat):Option Addr:=if m=l then a else a.map (·.add (l*size))
def opI(fr:Fr)(x:Option Operand)(k:Option Int->Prop):Prop:=
 match x with
 |none=>k none
 |some o=>match ev fr o with
  |some (.int _ i)=>k (some i)
  |_=>False
def slcV(a:Option Addr)(n c size:Nat)(lo hi mx:Option Int)(K:Value->Prop):Prop:=
 match mx,hi,lo with
 |none,none,none=>K (.slice a n c)
 |none,none,some l=>(0<=l/\l<=n)/\K (.slice (slA a c l.toNat size) (n-l.toNat) (c-l.toNat))
 |none,some h,none=>(0<=h/\h<=c)/\K (.slice a h.toNat c)
 |none,some h,some l=>(0<=l/\l<=h/\h<=c)/\K (.slice (slA a c l.toNat size) (h.toNat-l.toNat) (c-l.toNat))
 |some m,some h,none=>(0<=h/\h<=m/\m<=c)/\K (.slice a h.toNat m.toNat)
 |some m,some h,some l=>(0<=l/\l<=h/\h<=m/\m<=c)/\K (.slice (slA a m.toNat l.toNat size) (h.toNat-l.toNat) (m.toNat-l.toNat))
 |some _,none,_=>False
def slxV(P:Program)(t:TypeId)(x:Value)(lo hi mx:Option Int)(K:Value->Prop):Prop:=
 match P.underlying t,x with
 |some .string,.string s=>
  match mx,hi,lo with
  |none,none,none=>K (.string (s.extract 0 s.size))
  |none,none,some l=>(0<=l/\l<=s.size)/\K (.string (s.extract l.toNat s.size))
  |none,some h,none=>(0<=h/\h<=s.size)/\K (.string (s.extract 0 h.toNat))
  |none,some h,some l=>(0<=l/\l<=h/\h<=s.size)/\K (.string (s.extract l.toNat h.toNat))
  |some _,_,_=>False
 |some (.slice e),.slice a n c=>match ER P e with
  |some size=>slcV a n c size lo hi mx K
  |none=>False
 |some (.array n e),.pointer p=>match ER P e with
  |some size=>onP p fun a=>slcV (some a) n n size lo hi mx K
  |none=>False
 |_,_=>False
def Jl(P:Program)(fr:Fr)(t:TypeId)(x:Value)(lo hi mx:Option Operand)(K:Value->Prop):Prop:=
 opI fr lo fun lo=>opI fr hi fun hi=>opI fr mx fun mx=>slxV P t x lo hi mx K
def arith(wr:Bool)(k:IntKind)(z:Int)(K:Value->Prop):Prop:=
 match wr with
 |true=>K (.int k (k.wrap z))
 |false=>inR k z/\K (.int k z)
def bits(op:BinOp)(k:IntKind)(x y:Int):Int:=
 match op with
 |.and=>k.wrap (BitVec.ofInt k.bits x&&&BitVec.ofInt k.bits y).toNat
 |.or=>k.wrap (BitVec.ofInt k.bits x|||BitVec.ofInt k.bits y).toNat
 |.xor=>k.wrap (BitVec.ofInt k.bits x^^^BitVec.ofInt k.bits y).toNat
 |.andNot=>k.wrap (BitVec.ofInt k.bits x&&& ~~~(BitVec.ofInt k.bits y)).toNat
 |_=>0
def binV(wr:Bool)(P:Program)(op:BinOp)(t:TypeId)(x y:Value)(K:Value->Prop):Prop:=
 match op,x,y with
 |.shl,.int k a,.int _ b=>0<=b/\arith wr k (a*2^(min b.toNat k.bits)) K
 |.shr,.int k a,.int _ b=>0<=b/\K (.int k (a.fdiv (2^(min b.toNat k.bits))))
 |op,.int k a,.int k' b=>
  if k=k' then
   match op with
   |.add=>arith wr k (a+b) K
   |.sub=>arith wr k (a-b) K
   |.mul=>arith wr k (a*b) K
   |.quo=>b≠0/\arith wr k (a.tdiv b) K
   |.rem=>b≠0/\K (.int k (a.tmod b))
   |.and=>K (.int k (bits .and k a b))
   |.or=>K (.int k (bits .or k a b))
   |.xor=>K (.int k (bits .xor k a b))
   |.andNot=>K (.int k (bits .andNot k a b))
   |.eql=>K (.bool (decide (a=b)))
   |.neq=>K (.bool (!decide (a=b)))
   |.lss=>K (.bool (decide (a<b)))
   |.leq=>K (.bool (decide (a<=b)))
   |.gtr=>K (.bool (decide (b<a)))
   |.geq=>K (.bool (decide (b<=a)))
   |_=>False
  else False
 |op,.string a,.string b=>
  match op with
  |.add=>((a.size+b.size:Nat):Int)<=9223372036854775807/\K (.string (a++b))
  |.eql=>K (.bool (decide (a=b)))
  |.neq=>K (.bool (!decide (a=b)))
  |.lss=>K (.bool (Op.bytesLess a.data.toList b.data.toList))
  |.leq=>K (.bool (Op.bytesLess a.data.toList b.data.toList||decide (a=b)))
  |.gtr=>K (.bool (!(Op.bytesLess a.data.toList b.data.toList||decide (a=b))))
  |.geq=>K (.bool (!Op.bytesLess a.data.toList b.data.toList))
  |_=>False
 |.eql,.bool a,.bool b=>match P.underlying t with
  |some .bool=>K (.bool (a==b))
  |_=>False
 |.neq,.bool a,.bool b=>match P.underlying t with
  |some .bool=>K (.bool (!(a==b)))
  |_=>False
 |_,_,_=>False
def unV(wr:Bool)(op:UnOp)(x:Value)(K:Value->Prop):Prop:=
 match op,x with
 |.not,.bool b=>K (.bool (!b))
 |.neg,.int k n=>arith wr k (0-n) K
 |.xor,.int k n=>K (.int k (bits .xor k (if k.signed then-1 else k.max) n))
 |_,_=>False
def lenV(P:Program)(ts:Array TypeId)(x:Value)(K:Value->Prop):Prop:=
 match ts[0]? with
 |none=>False
 |some t=>
  match P.underlying t,x with
  |some .string,.string s=>K (.int .i64 s.size)
  |some (.slice _),.slice _ n _=>K (.int .i64 n)
  |some (.array n _),_=>K (.int .i64 n)
  |some (.pointer e),_=>match P.underlying e with
   |some (.array n _)=>K (.int .i64 n)
   |_=>False
  |_,_=>False
def capV(P:Program)(ts:Array TypeId)(x:Value)(K:Value->Prop):Prop:=
 match ts[0]? with
 |none=>False
 |some t=>
  match P.underlying t,x with
  |some (.slice _),.slice _ _ c=>K (.int .i64 c)
  |some (.array n _),_=>K (.int .i64 n)
  |_,_=>False
def Ns(wr:Bool)(P:Program)(fr:Fr)(o:Oper)(K:Value->Prop):Prop:=
 match o.op with
 |.move x=>onV (ev fr x) K
 |.assign x=>onV (ev fr x) K
 |.pick c a b=>match ev fr c with
  |some (.bool t)=>br t (onV (ev fr a) K) (onV (ev fr b) K)
  |_=>False
 |.build t parts=>match partsOf fr parts.toList with
  |some ps=>match Qm P t ps with
   |some _=>VV (bigT P t) (bigL P t ps) fun l=>K (.agg l.toArray)
   |none=>False
  |none=>False
 |.nilCheck x=>match ev fr x with
  |some (.pointer p)=>onP p fun a=>K (.pointer (some a))
  |some (.func (.func f) fi ca)=>K (.func (.func f) fi ca)
  |some (.iface t v)=>K (.iface t v)
  |_=>False
 |.binOp op t x y _=>onV (ev fr x) fun a=>onV (ev fr y) fun b=>binV wr P op t a b K
 |.unOp op _ x=>onV (ev fr x) fun a=>unV wr op a K
 |.convert src dst x=>match P.underlying src,P.underlying dst,ev fr x with
  |some (.int _),some (.int k),some (.int _ n)=>K (.int k (k.wrap n))
  |some .string,some .string,some (.string s)=>K (.string s)
  |_,_,_=>False
 |.makeInterface t x=>match P.underlying t with
  |some (.interface _)=>False
  |some _=>onV (ev fr x) fun v=>K (.iface t v)
  |none=>False
 |.makeFunc fn first captured=>match evs fr first.toList,evs fr captured.toList with
  |some fi,some ca=>K (.func fn fi.toArray ca.toArray)
  |_,_=>False
 |.slice t x lo hi mx=>onV (ev fr x) fun v=>Jl P fr t v lo hi mx K
 |.sliceToArrayPointer t x=>match P.underlying t,ev fr x with
  |some (.array n _),some (.slice a l _)=>n<=l/\K (.pointer a)
  |_,_=>False
 |.fieldAddr s x f=>match P.underlying s,ev fr x with
  |some (.struct fs),some (.pointer p)=>match fs[f]? with
   |some fd=>match ER P fd.type with
    |some (_+1)=>onP p fun a=>K (.pointer (some (a.add fd.offset)))
    |_=>False
   |none=>False
  |_,_=>False
 |.field t x f=>match P.underlying t,ev fr x with
  |some (.struct fs),some (.agg cs)=>match fs[f]? with
   |some fd=>Yh P fd.type cs.toList fd.offset K
   |none=>False
  |_,_=>False
 |.indexAddr t x ix=>match P.underlying t,ev fr x,ev fr ix with
  |some (.slice e),some (.slice p n _),some (.int _ i)=>match ER P e with
   |some sz=>onP p fun a=>(0<=i/\i<n)/\K (.pointer (some (a.add (i.toNat*sz))))
   |none=>False
  |some (.array n e),some (.pointer p),some (.int _ i)=>match ER P e with
   |some sz=>onP p fun a=>(0<=i/\i<n)/\K (.pointer (some (a.add (i.toNat*sz))))
   |none=>False
  |_,_,_=>False
 |.index t x ix=>match P.underlying t,ev fr x,ev fr ix with
  |some .string,some (.string s),some (.int _ i)=>(0<=i/\i<s.size)/\K (.int .u8 (sb s i))
  |_,_,_=>False
 |.extract x i=>match ev fr x with
  |some (.tuple vs)=>match vs[i]? with
   |some v=>K v
   |none=>False
  |_=>False
 |.call c=>match c.callee,c.args.toList with
  |.builtin .len,[x]=>onV (ev fr x) fun v=>lenV P c.argTypes v K
  |.builtin .cap,[x]=>onV (ev fr x) fun v=>capV P c.argTypes v K
  |.builtin .min,[x,y]=>match ev fr x,ev fr y with
   |some (.int k a),some (.int _ b)=>K (.int k (min a b))
   |_,_=>False
  |.builtin .max,[x,y]=>match ev fr x,ev fr y with
   |some (.int k a),some (.int _ b)=>K (.int k (max a b))
   |_,_=>False
  |_,_=>False
 |_=>False
def Fa(P:Program)(fr:Fr)(o:Oper)(w:World)(v:Value):Prop:=
 match o.op with
 |.load t x=>match ev fr x with
  |some (.pointer p)=>onP p fun a=>Ld P t w a v
  |_=>False
 |.lookup t x k ok=>onV (ev fr x) fun m=>onV (ev fr k) fun k=>Lk P t ok w m k v
 |.binOp op t x y _=>onV (ev fr x) fun a=>onV (ev fr y) fun b=>match v with
  |.bool r=>Eqv P op t x y w a b r
  |_=>False
 |.convert src dst x=>onV (ev fr x) fun a=>B2S P src dst w a v
 |.typeAssert x xT t ok=>onV (ev fr x) fun a=>TAs P xT t ok w a v
 |.call c=>match c.callee,c.args.toList with
  |.builtin .len,[x]=>onV (ev fr x) fun m=>LenM P c.argTypes o.type w m v
  |_,_=>False
 |_=>False
def VX(P:Program)(fv:Value)(args:List Value)(t:TypeId)(w:World)(K:Option Value->World->Prop):Prop:=
 Du P fv args w fun e w'=>exT P t fun v=>e=.returned v/\K (some v) w'
def extT:List Oper->Option Nat->Nat->Option TypeId
 | [],_,_=>none
 |o::r,d,i=>match o.op,d with
  |.extract (.tmp x) j,some d=>match Nat.beq x d&&Nat.beq j i with
   |true=>some o.type
   |false=>extT r (some d) i
  |_,d=>extT r d i
def exO(P:Program)(t:Option TypeId)(C:Value->Prop):Prop:=match t with
 |some t=>exT P t C
 |none=>∃v,C v
def bigS(P:Program)(t:TypeId):Bool:=match P.underlying t with
 |some (.slice e)=>bigT P e
 |_=>false
def JH(P:Program)(t:TypeId)(len:Nat)(ps:List (Nat×Value))(e:TypeId)(l:List Value):Prop:=MX P t len ps=some (e,l)
def effV(P:Program)(ops:List Oper)(fr:Fr)(o:Oper)(w:World)(K:Option Value->World->Prop):Prop:=
 match o.op with
 |.alloc t=>match zeroOf P t with
  |some _=>VV (bigT P t) (zl P t) fun l=>∀b w1,New w (.cells l.toArray t) b w1->K (some (.pointer (some ⟨b,0,none⟩))) w1
  |none=>False
 |.box t x=>onV (ev fr x) fun v=>VV (bigT P t) v.cells.toList fun l=>∀b w1,New w (.cells l.toArray t) b w1->K (some (.pointer (some ⟨b,0,none⟩))) w1
 |.buildSlice t len parts=>match partsOf fr parts.toList with
  |some ps=>match bigS P t with
   |true=>∃(e:TypeId)(l:List Value),JH P t len ps e l/\∀b w1,New w (.cells l.toArray e) b w1->K (some (.slice (some ⟨b,0,none⟩) len len)) w1
   |false=>match MX P t len ps with
    |some (e,cs)=>force cs fun l=>∀b w1,New w (.cells l.toArray e) b w1->K (some (.slice (some ⟨b,0,none⟩) len len)) w1
    |none=>False
  |none=>False
 |.store t x y=>match ev fr x,ev fr y with
  |some (.pointer p),some v=>onP p fun a=>∃w1,St P t w a v w1/\K none w1
  |_,_=>False
 |.convert src dst x=>onV (ev fr x) fun v=>∃(a:Option Addr)(l c:Nat)(w1:World),S2B P src dst w v (.slice a l c) w1/\K (some (.slice a l c)) w1
 |.makeSlice t l c=>onV (ev fr l) fun l=>onV (ev fr c) fun c=>∃(a:Option Addr)(n m:Nat)(w1:World),MkS P t w l c (.slice a n m) w1/\K (some (.slice a n m)) w1
 |.makeMap t r=>match r with
  |none=>∀b w1,New w (.map #[] 0) b w1->K (some (.map (some b))) w1
  |some x=>onV (ev fr x) fun v=>∃(m:Option Nat)(w1:World),MkM P t w (some v) (.map m) w1/\K (some (.map m)) w1
 |.mapUpdate t m k x=>onV (ev fr m) fun m=>onV (ev fr k) fun k=>onV (ev fr x) fun v=>∃w1,MUp P t w m k v w1/\K none w1
 |.insert t m k x=>onV (ev fr m) fun m=>onV (ev fr k) fun k=>onV (ev fr x) fun v=>∃w1,MUp P t w m k v w1/\K none w1
 |.mapEntry t m k=>onV (ev fr m) fun m=>onV (ev fr k) fun k=>∃(v:Value)(i:Int)(w1:World),MEn P t w m k (.tuple #[v,.int .i64 i]) w1/\K (some (.tuple #[v,.int .i64 i])) w1
 |.entryStore t m s x=>onV (ev fr m) fun m=>onV (ev fr s) fun s=>onV (ev fr x) fun v=>∃w1,ESt P t w m s v w1/\K none w1
 |.range t x=>onV (ev fr x) fun v=>∃(p:Option Addr)(w1:World),Rng P t w v (.pointer p) w1/\K (some (.pointer p)) w1
 |.next it isS=>onV (ev fr it) fun i=>
   (∃w1,Nxt P isS o.type w i (.tuple #[.bool false]) w1/\K (some (.tuple #[.bool false])) w1)\/
   (∃(k v:Value)(w1:World),Nxt P isS o.type w i (.tuple #[.bool true,k,v]) w1/\K (some (.tuple #[.bool true,k,v])) w1)
 |.entry it=>onV (ev fr it) fun i=>exO P (extT ops o.dst 0) fun k=>exO P (extT ops o.dst 1) fun v=>∃w1,Etr P w i (.tuple #[k,v]) w1/\K (some (.tuple #[k,v])) w1
 |.call c=>match evs fr c.args.toList with
  |none=>False
  |some args=>match c.callee with
   |.builtin .append=>match args with
    | [s,x]=>∃(a:Option Addr)(n m:Nat)(w1:World),App P c.argTypes o.type w s x (.slice a n m) w1/\K (some (.slice a n m)) w1
    |_=>False
   |.builtin .copy=>match args with
    | [d,s]=>∃(n:Int)(w1:World),Cpy P c.argTypes o.type w d s (.int .i64 n) w1/\K (some (.int .i64 n)) w1
    |_=>False
   |.builtin .delete=>match args with
    | [m,k]=>∃w1,Del P c.argTypes o.type w m k w1/\K (some (.tuple #[])) w1
    |_=>False
   |.builtin .clear=>match args with
    | [m]=>∃w1,Clr P c.argTypes o.type w m w1/\K (some (.tuple #[])) w1
    |_=>False
   |.builtin _=>False
   |.value f=>onV (ev fr f) fun fv=>VX P fv args o.type w K
   |.invoke _ _=>False
 |_=>False
def cls(P:Program)(op:Op):Nat:=
 match op with
 |.move _|.assign _|.pick .. |.build .. |.nilCheck _|.unOp .. |.makeInterface .. |.makeFunc .. |.slice .. |.sliceToArrayPointer .. |.fieldAddr .. |.field .. |.indexAddr .. |.index .. |.extract .. =>0
 |.binOp op t _ _ _=>match op with
  |.eql|.neq=>match P.underlying t with
   |some (.int _)|some .string|some .bool=>0
   |_=>1
  |_=>0
 |.convert src dst _=>match P.underlying src,P.underlying dst with
  |some (.slice _),some .string=>1
  |some .string,some (.slice _)=>2
  |some (.slice _),some (.slice _)=>2
  |_,_=>0
 |.load .. |.lookup .. |.typeAssert .. =>1
 |.call c=>match c.callee with
  |.builtin .len=>match c.argTypes[0]? with
   |some t=>match P.underlying t with
    |some (.map _ _)=>1
    |_=>0
   |none=>0
  |.builtin .cap|.builtin .min|.builtin .max=>0
  |_=>2
 |_=>2
abbrev Past:=List (Nat×(World->Prop))
def again(bef:Nat->Nat->Bool)(j:Nat):Past->World->Prop->Prop
 | [],_,X=>X
 |(i,f)::p,w,X=>match bef i j with
  |true=>again bef j p w X
  |false=>f w/\again bef j p w X
def spl(sp:Bool)(v:Value)(K:Value->Prop):Prop:=
 match sp,v with
 |true,.bool b=>br b (K (.bool true)) (K (.bool false))
 |_,_=>K v
def Ew(ops:List Oper)(j:Nat):Option Nat:=match ops[j]? with
 |some o=>o.dst
 |none=>none
def VL(ops:List Oper)(i:Nat):Bool:=ops.any fun o=>match o.guard with
 |some (j,_)=>j==i
 |none=>false
def F9(wr:Bool)(P:Program)(bef:Nat->Nat->Bool)(ops:List Oper)(i:Nat)(o:Oper)(fr:Fr)(w:World)(past:Past)(K:Option Value->World->Past->Prop):Prop:=
 match cls P o.op with
 |0=>Ns wr P fr o fun v=>spl (VL ops i) v fun v=>K (some v) w past
 |1=>exT P o.type fun v=>Fa P fr o w v/\spl (VL ops i) v fun v'=>K (some v') w ((i,fun w'=>Fa P fr o w' v)::past)
 |_=>effV P ops fr o w fun rv w'=>again bef i past w' (match rv with
  |some v=>spl (VL ops i) v fun v=>K (some v) w' past
  |none=>K none w' past)
def fput(nt:Nat)(fr:Fr)(d:Option Nat)(v:Option Value)(k:Fr->Prop):Prop:=
 match d with
 |some d=>match Nat.blt d nt with
  |true=>k ((d,v)::fr)
  |false=>False
 |none=>k fr
def stepD(wr:Bool)(P:Program)(bef:Nat->Nat->Bool)(ops:List Oper)(i:Nat)(o:Oper)(fr:Fr)(w:World)(past:Past)(K:Option Value->World->Past->Prop):Prop:=
 match o.guard with
 |none=>F9 wr P bef ops i o fr w past K
 |some (j,want)=>match Ew ops j with
  |none=>False
  |some s=>match fget fr s with
   |some (.bool b)=>
    match b,want with
    |true,true|false,false=>F9 wr P bef ops i o fr w past K
    |_,_=>K (some (.tuple #[])) w past
   |some (.tuple _)=>K (some (.tuple #[])) w past
   |_=>False
def runV(wr:Bool)(P:Program)(nt:Nat)(bef:Nat->Nat->Bool)(ops:List Oper)(K:Fr->World->Prop):List Nat->Fr->World->Past->Prop
 | [],fr,w,_=>K fr w
 |i::r,fr,w,past=>
  match ops[i]? with
  |none=>False
  |some o=>stepD wr P bef ops i o fr w past fun v w' past'=>fput nt fr o.dst v fun fr'=>runV wr P nt bef ops K r fr' w' past'
def dG(o:Oper):List Nat:=(o.after.toList.filter fun e=>Region.binds .any e).map (·.on)
def YS(ex:List (Nat×Nat))(j:Nat)(o:Oper):List Nat:=dG o++(ex.filter fun p=>Nat.beq p.2 j).map (·.1)
def getN(l:List Nat)(e:Nat):Nat:=(l[e]?).getD 0
def Wy(ex:List (Nat×Nat))(prev:List Nat)(ops:List Oper):List Nat:=
 ops.foldl (fun acc o=>acc++[(YS ex acc.length o).foldl (fun s e=>Nat.lor s (Nat.lor (Nat.pow 2 e) (Nat.lor (getN acc e) (getN prev e)))) 0]) []
def closure(ex:List (Nat×Nat))(ops:List Oper):List Nat:=
 match ex with
 | []=>Wy ex [] ops
 |_=>Wy ex (Wy ex (Wy ex [] ops) ops) ops
def before(cl:List Nat)(i j:Nat):Bool:=Nat.testBit (getN cl j) i
def within(m done:Nat):Bool:=Nat.beq (Nat.lor m done) done
def Nk(P:Program)(ops:List Oper)(cl:List Nat)(done:Nat):List Nat->Option Nat->Option Nat
 | [],late=>late
 |i::r,late=>
  match Nat.testBit done i with
  |true=>Nk P ops cl done r late
  |false=>
   match within (getN cl i) done with
   |false=>Nk P ops cl done r late
   |true=>match ops[i]? with
    |some o=>match cls P o.op with
     |0=>some i
     |1=>some i
     |_=>Nk P ops cl done r (match late with
      |none=>some i
      |some l=>some l)
    |none=>none
def VP(P:Program)(ops:List Oper)(cl:List Nat)(all:List Nat):Nat->Nat->List Nat
 |0,_=>[]
 |n+1,done=>match Nk P ops cl done all none with
  |some i=>i::VP P ops cl all n (Nat.lor done (Nat.pow 2 i))
  |none=>[]
def bZ(P:Program):List Oper->Nat->List Nat
 | [],_=>[]
 |o::r,i=>match cls P o.op with
  |0=>bZ P r (i+1)
  |1=>bZ P r (i+1)
  |_=>i::bZ P r (i+1)
def remove(x:Nat):List Nat->List Nat
 | []=>[]
 |y::r=>match Nat.beq x y with
  |true=>r
  |false=>y::remove x r
def KE(cl:List Nat):Nat->List Nat->List (List Nat)
 |0,_=>[[]]
 |n+1,l=>(l.filter fun x=>l.all fun y=> !before cl y x).flatMap fun x=>(KE cl n (remove x l)).map (x:: ·)
def chainOf:List Nat->List (Nat×Nat)
 |x::y::r=>(x,y)::chainOf (y::r)
 |_=>[]
def nodupB:List Nat->Bool
 | []=>true
 |x::r=> !r.contains x&&nodupB r
def WP(x:Nat):List Nat->Nat
 | []=>0
 |y::r=>match Nat.beq x y with
  |true=>0
  |false=>WP x r+1
def En(m:Region.Mode)(o:Oper):List Nat:=(o.after.toList.filter fun e=>Region.binds m e).map (·.on)
def forward(m:Region.Mode)(ops:List Oper)(σ:List Nat):Bool:=
 (List.range ops.length).all fun i=>match ops[i]? with
  |some o=>(En m o).all fun j=>decide (j<ops.length)&&decide (WP j σ<WP i σ)
  |none=>false
def opTs(o:Op):List Nat:=o.operands.toList.filterMap fun x=>match x with
 |.tmp t=>some t
 |_=>none
def apartB(ops:List Oper)(i j:Nat):Bool:=
 match ops[i]?,ops[j]? with
 |some a,some b=>
  match a.dst,b.dst with
  |some x,some y=> !(x==y)&& !(opTs a.op).contains y&& !(opTs b.op).contains x&&
    (match a.guard with
     |some (k,_)=>match Ew ops k with
      |some s=> !(s==y)
      |none=>true
     |none=>true)&&
    (match b.guard with
     |some (k,_)=>match Ew ops k with
      |some s=> !(s==x)
      |none=>true
     |none=>true)
  |some x,none=> !(opTs b.op).contains x&&
    (match b.guard with
     |some (k,_)=>match Ew ops k with
      |some s=> !(s==x)
      |none=>true
     |none=>true)
  |none,some y=> !(opTs a.op).contains y&&
    (match a.guard with
     |some (k,_)=>match Ew ops k with
      |some s=> !(s==y)
      |none=>true
     |none=>true)
  |none,none=>true
 |_,_=>false
def QI(f:Nat->Nat->Bool):List Nat->Bool
 | []=>true
 |i::r=>r.all (f i)&&QI f r
def YT(P:Program)(ops:List Oper)(cl:List Nat)(i j:Nat):Bool:=
 before cl i j||
 (!before cl j i&&apartB ops i j&&
  match ops[i]?,ops[j]? with
  |some a,some b=>match cls P a.op,cls P b.op with
   |0,_=>true
   |_,0=>true
   |1,_=>true
   |_,_=>false
  |_,_=>false)
def YM(P:Program)(ops:Array Oper)(cl:List Nat)(σ:List Nat):Bool:=
 decide (σ.length=ops.toList.length)&&nodupB σ&&σ.all (fun i=>decide (i<ops.toList.length))&&QI (YT P ops.toList cl) σ
def RN(ops:Array Oper):Bool:=
 forward .any ops.toList (List.range ops.toList.length)&&
 (!Region.departs ops||(forward .text ops.toList (List.range ops.toList.length)&&forward .gc ops.toList (Region.linearise .gc ops 0)))
abbrev Kd:=IntKind⊕Nat
def KTy:Kd->Type
 |.inl _=>Int
 |.inr 0=>Bool
 |.inr 1=>ByteArray
 |.inr 2=>Option Addr
 |.inr 3=>Option Addr×Nat×Nat
 |.inr 4=>Option Nat
 |.inr (_+5)=>Value
def toV:(k:Kd)->KTy k->Value
 |.inl k,n=>.int k n
 |.inr 0,b=>.bool b
 |.inr 1,s=>.string s
 |.inr 2,p=>.pointer p
 |.inr 3,x=>.slice x.1 x.2.1 x.2.2
 |.inr 4,m=>.map m
 |.inr (_+5),v=>v
def fromV:(k:Kd)->Value->Option (KTy k)
 |.inl k,.int k' n=>match decide (k=k')with
  |true=>some n
  |false=>none
 |.inr 0,.bool b=>some b
 |.inr 1,.string s=>some s
 |.inr 2,.pointer p=>some p
 |.inr 3,.slice a l c=>some (a,l,c)
 |.inr 4,.map m=>some m
 |.inr (_+5),v=>some v
 |_,_=>none
def StTy:List (Nat×Kd)->Type
 | []=>Unit
 | [x]=>KTy x.2
 |x::y::r=>KTy x.2×StTy (y::r)
def setSt:(l:List (Nat×Kd))->StTy l->Fr->Fr
 | [],_,fr=>fr
 | [x],s,fr=>(x.1,some (toV x.2 s))::fr
 |x::y::r,s,fr=>(x.1,some (toV x.2 s.1))::setSt (y::r) s.2 fr
def Hz:(l:List (Nat×Kd))->Fr->(StTy l->Prop)->Prop
 | [],_,K=>K ()
 | [x],fr,K=>match fget fr x.1 with
  |some v=>match fromV x.2 v with
   |some s=>K s
   |none=>False
  |none=>False
 |x::y::r,fr,K=>match fget fr x.1 with
  |some v=>match fromV x.2 v with
   |some s=>Hz (y::r) fr fun s'=>K (s,s')
   |none=>False
  |none=>False
def cO:List Nat->Fr->Fr
 | [],fr=>fr
 |t::r,fr=>(t,none)::cO r fr
def KU:List Oper->List Nat
 | []=>[]
 |o::r=>match o.dst with
  |some d=>d::KU r
  |none=>KU r
def mods:Code->List Nat
 |.region _ ops _=>KU ops.toList
 |.seq a b=>mods a++mods b
 |.cond _ a b=>mods a++mods b
 |.block _ c=>mods c
 |.loop c=>mods c
 |.scope c=>mods c
 |_=>[]
def IQ:Code->Option Nat
 |.region id _ _=>some id
 |.seq a b=>match IQ a with
  |some i=>some i
  |none=>IQ b
 |.cond _ a b=>match IQ a with
  |some i=>some i
  |none=>IQ b
 |.block _ c=>IQ c
 |.loop c=>IQ c
 |.scope c=>IQ c
 |_=>none
def stOk:List (Nat×Kd)->List Nat->Bool
 | [],_=>true
 |x::r,ms=>ms.contains x.1&&stOk r ms
structure An where
 wraps:List Nat:=[]
 loops:List (Nat×List (Nat×Kd)):=[]
 joins:List (Nat×List (Nat×Kd)):=[]
 ranges:List (Nat×List (Nat×Kd)):=[]
def An.find(l:List (Nat×List (Nat×Kd)))(i:Option Nat):Option (List (Nat×Kd)):=
 match i with
 |none=>none
 |some i=>match l with
  | []=>none
  |(j,s)::r=>match Nat.beq i j with
   |true=>some s
   |false=>An.find r (some i)
def noRF:Code->Bool
 |.seq a b=>noRF a&&noRF b
 |.cond _ a b=>noRF a&&noRF b
 |.block _ c=>noRF c
 |.loop c=>noRF c
 |.scope c=>noRF c
 |.rangeFunc .. =>false
 |_=>true
def IA:Code->List Nat
 |.seq a b=>IA a++IA b
 |.cond _ a b=>IA a++IA b
 |.block id c=>(IA c).filter fun x=> !Nat.beq x id
 |.loop c=>IA c
 |.scope c=>IA c
 |.exit id=>[id]
 |_=>[]
def Jt:Code->Bool
 |.seq a b=>Jt a||Jt b
 |.cond _ a b=>Jt a||Jt b
 |.block _ c=>Jt c
 |.loop c=>Jt c
 |.scope c=>Jt c
 |.ret=>true
 |_=>false
def isIn(i:Nat):List Nat->Bool
 | []=>false
 |x::r=>Nat.beq i x||isIn i r
def Es:(l:List (Nat×Kd))->StTy l->List Value
 | [],_=>[]
 | [x],s=>[toV x.2 s]
 |x::y::r,s=>toV x.2 s.1::Es (y::r) s.2
def psOk(nt:Nat)(st:List (Nat×Kd))(ps:List Nat):Bool:=(st.map (·.1)==ps)&&nodupB ps&&ps.all (Nat.blt · nt)
def JU(f:List Nat->Prop):List (List Nat)->Prop
 | []=>True
 | [x]=>f x
 |x::y::r=>f x/\JU f (y::r)
def V(P:Program)(an:An)(nt:Nat):Code->Fr->List Nat->World->(Exit->Fr->List Nat->World->Prop)->Prop
 |.skip,fr,ms,w,Q=>Q .normal fr ms w
 |.region id ops draw,fr,ms,w,Q=>
  match draw with
  |false=>runV (an.wraps.contains id) P nt (fun _ _=>true) ops.toList (fun fr w=>Q .normal fr ms w) (List.range ops.toList.length) fr w []
  |true=>match RN ops with
   |true=>JU (fun eo=>match closure (chainOf eo) ops.toList with
    |cl=>match VP P ops.toList cl (List.range ops.toList.length) ops.toList.length 0 with
     |σ=>match YM P ops cl σ with
      |true=>runV (an.wraps.contains id) P nt (before cl) ops.toList (fun fr w=>Q .normal fr ms w) σ fr w.drew []
      |false=>False) (match bZ P ops.toList 0 with
     |ts=>KE (closure [] ops.toList) ts.length ts)
   |false=>False
 |.seq a b,fr,ms,w,Q=>
  match An.find an.joins (IQ b)with
  |some st=>match stOk st (mods a)&&noRF a with
   |true=>F8 (fun(s:StTy st) w'=>V P an nt b (setSt st s (cO (mods a) fr)) ms w' Q) (fun J=>V P an nt a fr ms w (fun e fr' ms' w'=>match e with
    |.normal=>Hz st fr' fun s=>J s w'
    |e=>Q e fr' ms' w'))
   |false=>False
  |none=>V P an nt a fr ms w (fun e fr' ms' w'=>match e with
    |.normal=>V P an nt b fr' ms' w' Q
    |e=>Q e fr' ms' w')
 |.cond c x y,fr,ms,w,Q=>
  match ev fr c with
  |some (.bool b)=>br b (V P an nt x fr ms w Q) (V P an nt y fr ms w Q)
  |_=>False
 |.block id c,fr,ms,w,Q=>V P an nt c fr ms w (fun e fr' ms' w'=>match e with
   |.exit id'=>match Nat.beq id' id with
    |true=>Q .normal fr' ms' w'
    |false=>Q (.exit id') fr' ms' w'
   |e=>Q e fr' ms' w')
 |.loop c,fr,ms,w,Q=>
  match An.find an.loops (IQ c)with
  |some st=>match stOk st (mods c)&&noRF c with
   |true=>Hz st fr fun s0=>Ae (fun(s:StTy st) w' next=>V P an nt c (setSt st s (cO (mods c) fr)) ms w' (fun e fr' ms' w''=>match e with
    |.normal=>Hz st fr' fun s'=>next s' w''
    |e=>Q e fr' ms' w'')) s0 w
   |false=>False
  |none=>False
 |.exit id,fr,ms,w,Q=>Q (.exit id) fr ms w
 |.scope c,fr,ms,w,Q=>V P an nt c fr ms w (fun e fr' ms' w'=>match e with
   |.goto _=>False
   |e=>Q e fr' ms' w')
 |.label _,fr,ms,w,Q=>Q .normal fr ms w
 |.ret,fr,ms,w,Q=>Q .ret fr ms w
 |.rangeFunc g ps assign body,fr,ms,w,Q=>
  match An.find an.ranges (IQ body)with
  |some st=>match psOk nt st ps.toList&&(noRF assign&&noRF body)with
   |true=>match ev fr g with
    |some v=>∃(gf:FuncId)(fi ca:Array Value),v=.func (.func gf) fi ca/\MZ P gf/\JO P gf fi.toList ca.toList (Es st) (fun(s:StTy st) w' begin kn kr kx=>V P an nt assign (setSt st s fr) [] w' (fun e fr1 _ w1=>match e with
        |.normal=>begin w1 fun w2=>V P an nt body fr1 [] w2 (fun e _ _ w3=>match e with
         |.normal=>kn w3
         |.ret=>kr w3
         |.exit id=>kx id w3
         |_=>False)
        |_=>False)) w (fun D w'=>Q .normal fr (D::ms) w') (fun D w'=>match Jt body with
        |true=>Q .ret fr (D::ms) w'
        |false=>False) (fun id D w'=>match isIn id (IA body)with
        |true=>Q (.exit id) fr (D::ms) w'
        |false=>False)
    |_=>False
   |false=>False
  |none=>False
 |_,_,_,_,_=>False
def resV(P:Program)(fr:Fr)(w:World):List ResultVar->(List Value->Prop)->Prop
 | [],K=>K []
 |.tmp t::r,K=>onV (fget fr t) fun v=>resV P fr w r fun l=>K (v::l)
 |.cell a t::r,K=>match fget fr a with
  |some (.pointer p)=>onP p fun a=>exV P t fun v=>Ld P t w a v/\resV P fr w r fun l=>K (v::l)
  |_=>False
def retV(P:Program)(fn:Func)(fr:Fr)(w:World)(R:Ending->World->Prop):Prop:=
 resV P fr w fn.results.toList fun l=>match l with
  | [v]=>R (.returned v) w
  |l=>R (.returned (.tuple l.toArray)) w
def UB:Nat->List Value->Fr
 |_,[]=>[]
 |i,v::r=>(i,some v)::UB (i+1) r
def ZU(P:Program)(fn:Func)(fr:Fr):List Nat->World->(Ending->World->Prop)->Prop
 | [],w,R=>retV P fn fr w R
 |D::ms,w,R=>∃w1,N8 w D w1/\ZU P fn fr ms w1 R
def aW(P:Program)(an:An)(fn:Func)(args:List Value)(w:World)(R:Ending->World->Prop):Prop:=
 match fn.body with
 |none=>False
 |some c=>V P an fn.ntmps c (UB 0 args) [] w (fun e fr' ms w'=>match e with
  |.normal=>ZU P fn fr' ms w' R
  |.ret=>ZU P fn fr' ms w' R
  |_=>False)
end
structure Ref (nt : Nat) (ds : List Deferred) (fr : Fr) (a : Act) : Prop where
  size : a.tmps.size = nt
  defers : a.defers = ds
  val : ∀ t v,fget fr t = some v → a.tmps[t]? = some v
theorem fget_nil (t : Nat) : fget [] t = none := rfl
theorem UU (x : Nat × Option Value) (fr : Fr) (t : Nat) : fget (x :: fr) t = cond (Nat.beq t x.1) x.2 (fget fr t) := rfl
theorem EF (d : Nat) (v : Option Value) (fr : Fr) : fget ((d,v) :: fr) d = v := by rw [UU]; simp
theorem CJ (d t : Nat) (v : Option Value) (fr : Fr) (h : t ≠ d) : fget ((d,v) :: fr) t = fget fr t := by
  rw [UU]
  have : Nat.beq t d = false := by cases hb : Nat.beq t d with
    | false => rfl
    | true => exact absurd (Nat.eq_of_beq_eq_true hb) h
  simp [this]
section
variable {nt : Nat} {ds : List Deferred} {fr : Fr} {a : Act}
theorem Ref.ev (hr : Ref nt ds fr a) {x : Operand} {v : Value} (h : ev fr x = some v) : a.eval x = v := by
  cases x with
  | tmp t =>
    have := hr.val t v h
    simp [Act.eval,Array.getD_eq_getD_getElem?,this]
  | const c => simpa [Vc.ev,Act.eval] using h
  | global g => simpa [Vc.ev,Act.eval] using h
  | func f => simpa [Vc.ev,Act.eval] using h
theorem evs_cons {x : Operand} {r : List Operand} {l : List Value} (h : evs fr (x :: r) = some l) : ∃ v l',Vc.ev fr x = some v ∧ evs fr r = some l' ∧ l = v :: l' := by
  simp only [evs] at h
  split at h
  · split at h
    · cases h; exact ⟨_,_,by assumption,by assumption,rfl⟩
    · cases h
  · cases h
theorem Ref.evs (hr : Ref nt ds fr a) : ∀ {xs : List Operand} {l : List Value},evs fr xs = some l → xs.map a.eval = l
  | [],l,h => by simp [Vc.evs] at h; simp [h]
  | x :: r,l,h => by
    obtain ⟨v,l',h1,h2,rfl⟩ := evs_cons h
    simp [hr.ev h1,Ref.evs hr h2]
theorem Ref.evsA (hr : Ref nt ds fr a) {xs : Array Operand} {l : List Value} (h : Vc.evs fr xs.toList = some l) : xs.map a.eval = l.toArray := by
  have := hr.evs h
  apply Array.toList_inj.1
  simpa using this
theorem Ref.parts (hr : Ref nt ds fr a) : ∀ {xs : List (Nat × Operand)} {l : List (Nat × Value)},partsOf fr xs = some l → xs.map (fun p => (p.1,a.eval p.2)) = l
  | [],l,h => by simp [partsOf] at h; simp [h]
  | (i,x) :: r,l,h => by
    simp only [partsOf] at h
    split at h
    · split at h
      · cases h; rename_i v hv _ l' hl
        simp [hr.ev hv,Ref.parts hr hl]
      · cases h
    · cases h
theorem Ref.put (hr : Ref nt ds fr a) {d : Nat} (hd : d < nt) (v : Value) : Ref nt ds ((d,some v) :: fr) (a.put (some d) v) := by
  refine ⟨by simp [Act.put,hr.size],by simp [Act.put,hr.defers],fun t u h => ?_⟩
  by_cases ht : t = d
  · subst ht
    rw [EF] at h
    cases h
    simp [Act.put,Array.getElem?_setIfInBounds,hr.size,hd]
  · rw [CJ _ _ _ _ ht] at h
    have := hr.val t u h
    simp [Act.put,Array.getElem?_setIfInBounds,Ne.symm ht,this]
theorem Ref.lose (hr : Ref nt ds fr a) (d : Option Nat) (v : Value) : ∀ d',d = some d' → Ref nt ds ((d',none) :: fr) (a.put d v) := by
  rintro d' rfl
  refine ⟨by simp [Act.put,hr.size],by simp [Act.put,hr.defers],fun t u h => ?_⟩
  by_cases ht : t = d'
  · subst ht
    rw [EF] at h
    cases h
  · rw [CJ _ _ _ _ ht] at h
    have := hr.val t u h
    simp [Act.put,Array.getElem?_setIfInBounds,Ne.symm ht,this]
theorem Ref.fput (hr : Ref nt ds fr a) {d : Option Nat} {rv : Option Value} {v : Value} (hv : ∀ u,rv = some u → v = u) {k : Fr → Prop} (h : fput nt fr d rv k) :
    ∃ fr',k fr' ∧ Ref nt ds fr' (a.put d v) := by
  cases d with
  | none => exact ⟨fr,h,hr⟩
  | some d =>
    simp only [Vc.fput] at h
    split at h
    · rename_i hb
      have hd : d < nt := by simpa [Nat.blt_eq] using hb
      refine ⟨_,h,?_⟩
      cases rv with
      | some u => cases hv u rfl; exact hr.put hd v
      | none => exact hr.lose (some d) v d rfl
    · exact h.elim
end
theorem AX {x : Option Value} {k : Value → Prop} (h : onV x k) : ∃ v,x = some v ∧ k v := by
  cases x with
  | none => exact h.elim
  | some v => exact ⟨v,rfl,h⟩
theorem Ej {x : Option Addr} {k : Addr → Prop} (h : onP x k) : ∃ v,x = some v ∧ k v := by
  cases x with
  | none => exact h.elim
  | some v => exact ⟨v,rfl,h⟩
theorem U2 {f : TypeId → (List Value → Prop) → Prop} (hf : ∀ t C,f t C → ∃ l,C l) : ∀ {ts : List TypeId} {C : List Value → Prop},exLs f ts C → ∃ l,C l
  | [],C,h => ⟨_,h⟩
  | t :: r,C,h => by
    obtain ⟨l,h⟩ := hf _ _ h
    obtain ⟨l',h⟩ := U2 hf h
    exact ⟨_,h⟩
theorem Xv {P : Program} : ∀ (n : Nat) (T : TypeId) (C : List Value → Prop),exC P n T C → ∃ l,C l
  | 0,T,C,h => h
  | n + 1,T,C,h => by
    simp only [exC] at h
    split at h
    · obtain ⟨_,h⟩ := h; exact ⟨_,h⟩
    · obtain ⟨_,h⟩ := h; exact ⟨_,h⟩
    · obtain ⟨_,h⟩ := h; exact ⟨_,h⟩
    · obtain ⟨_,h⟩ := h; exact ⟨_,h⟩
    · obtain ⟨_,_,_,h⟩ := h; exact ⟨_,h⟩
    · obtain ⟨_,h⟩ := h; exact ⟨_,h⟩
    · exact U2 (Xv n) h
    · exact h
    · obtain ⟨_,h⟩ := h; exact ⟨_,h⟩
theorem Qp {P : Program} {T : TypeId} {C : Value → Prop} (h : exV P T C) : ∃ v,C v := by
  simp only [exV] at h
  split at h
  · obtain ⟨_,h⟩ := Xv _ _ _ h; exact ⟨_,h⟩
  · obtain ⟨_,h⟩ := h; exact ⟨_,h⟩
  · obtain ⟨_,h⟩ := h; exact ⟨_,h⟩
  · obtain ⟨_,h⟩ := h; exact ⟨_,h⟩
  · obtain ⟨_,h⟩ := h; exact ⟨_,h⟩
  · obtain ⟨_,h⟩ := h; exact ⟨_,h⟩
  · obtain ⟨_,_,_,h⟩ := h; exact ⟨_,h⟩
  · obtain ⟨_,h⟩ := h; exact ⟨_,h⟩
  · obtain ⟨_,h⟩ := h; exact ⟨_,h⟩
theorem Uj {P : Program} : ∀ {ts : List TypeId} {C : List Value → Prop},exVs P ts C → ∃ l,C l
  | [],C,h => ⟨_,h⟩
  | t :: r,C,h => by
    obtain ⟨v,h⟩ := Qp h
    obtain ⟨l,h⟩ := Uj h
    exact ⟨_,h⟩
theorem KC {P : Program} {T : TypeId} {C : Value → Prop} (h : exT P T C) : ∃ v,C v := by
  simp only [exT] at h
  split at h
  · obtain ⟨_,h⟩ := Uj h; exact ⟨_,h⟩
  · exact Qp h
theorem U5 {f : TypeId → (List Value → Prop) → Prop} (hf : ∀ t (C C' : List Value → Prop),(∀ l,C l → C' l) → f t C → f t C') : ∀ {ts : List TypeId} {C C' : List Value → Prop},(∀ l,C l → C' l) → exLs f ts C → exLs f ts C'
  | [],C,C',hc,h => hc _ h
  | t :: r,C,C',hc,h => hf _ _ _ (fun l h => U5 hf (fun l' h => hc _ h) h) h
theorem WU {P : Program} : ∀ (n : Nat) (T : TypeId) (C C' : List Value → Prop),(∀ l,C l → C' l) → exC P n T C → exC P n T C'
  | 0,T,C,C',hc,⟨l,h⟩ => ⟨l,hc _ h⟩
  | n + 1,T,C,C',hc,h => by
    simp only [exC] at h ⊢
    cases hu : P.underlying T with
    | none => rw [hu] at h; obtain ⟨x,h⟩ := h; exact ⟨x,hc _ h⟩
    | some d =>
      rw [hu] at h
      cases d <;> first
        | (obtain ⟨x,y,z,h⟩ := h; exact ⟨x,y,z,hc _ h⟩)
        | (obtain ⟨x,h⟩ := h; exact ⟨x,hc _ h⟩)
        | exact U5 (fun t C C' hc h => WU n t C C' hc h) hc h
theorem Q9 {P : Program} {T : TypeId} {C C' : Value → Prop} (hc : ∀ v,C v → C' v) (h : exV P T C) : exV P T C' := by
  simp only [exV] at h ⊢
  cases hu : P.underlying T with
  | none => rw [hu] at h; obtain ⟨x,h⟩ := h; exact ⟨x,hc _ h⟩
  | some d =>
    rw [hu] at h
    cases d <;> first
      | (obtain ⟨x,y,z,h⟩ := h; exact ⟨x,y,z,hc _ h⟩)
      | (obtain ⟨x,h⟩ := h; exact ⟨x,hc _ h⟩)
      | exact WU _ _ _ _ (fun l h => hc _ h) h
theorem UT {P : Program} : ∀ {ts : List TypeId} {C C' : List Value → Prop},(∀ l,C l → C' l) → exVs P ts C → exVs P ts C'
  | [],C,C',hc,h => hc _ h
  | t :: r,C,C',hc,h => Q9 (fun v h => UT (fun l h => hc _ h) h) h
theorem Qj {P : Program} {T : TypeId} {C C' : Value → Prop} (hc : ∀ v,C v → C' v) (h : exT P T C) : exT P T C' := by
  simp only [exT] at h ⊢
  cases hu : P.underlying T with
  | none => rw [hu] at h; exact Q9 hc h
  | some d =>
    rw [hu] at h
    cases d <;> first
      | exact Q9 hc h
      | exact UT (fun l h => hc _ h) h
theorem WE {f : TypeId → (List Value → Prop) → Prop} (hf : ∀ t (C : List Value → Prop),f t C → ∃ l,C l ∧ ∀ C' : List Value → Prop,C' l → f t C') : ∀ {ts : List TypeId} {C : List Value → Prop},exLs f ts C → ∃ l,C l ∧ ∀ C' : List Value → Prop,C' l → exLs f ts C'
  | [],C,h => ⟨_,h,fun _ h => h⟩
  | t :: r,C,h => by
    obtain ⟨l,h,h1⟩ := hf _ _ h
    obtain ⟨l',h,h2⟩ := WE hf h
    exact ⟨_,h,fun C' hc => h1 _ (h2 _ hc)⟩
theorem Y6 {P : Program} : ∀ (n : Nat) (T : TypeId) (C : List Value → Prop),exC P n T C → ∃ l,C l ∧ ∀ C' : List Value → Prop,C' l → exC P n T C'
  | 0,T,C,⟨l,h⟩ => ⟨l,h,fun C' h => ⟨l,h⟩⟩
  | n + 1,T,C,h => by
    simp only [exC] at h ⊢
    cases hu : P.underlying T with
    | none => rw [hu] at h; obtain ⟨x,h⟩ := h; exact ⟨_,h,fun C' h => ⟨x,h⟩⟩
    | some d =>
      rw [hu] at h
      cases d <;> first
        | (obtain ⟨x,y,z,h⟩ := h; exact ⟨_,h,fun C' h => ⟨x,y,z,h⟩⟩)
        | (obtain ⟨x,h⟩ := h; exact ⟨_,h,fun C' h => ⟨x,h⟩⟩)
        | exact WE (fun t C h => Y6 n t C h) h
theorem Vl {P : Program} {T : TypeId} {C : Value → Prop} (h : exV P T C) : ∃ v,C v ∧ ∀ C' : Value → Prop,C' v → exV P T C' := by
  simp only [exV] at h ⊢
  cases hu : P.underlying T with
  | none => rw [hu] at h; obtain ⟨x,h⟩ := h; exact ⟨_,h,fun C' h => ⟨x,h⟩⟩
  | some d =>
    rw [hu] at h
    cases d <;> first
      | (obtain ⟨x,y,z,h⟩ := h; exact ⟨_,h,fun C' h => ⟨x,y,z,h⟩⟩)
      | (obtain ⟨x,h⟩ := h; exact ⟨_,h,fun C' h => ⟨x,h⟩⟩)
      | (obtain ⟨l,h,h1⟩ := Y6 _ _ _ h; exact ⟨_,h,fun C' h => h1 _ h⟩)
theorem WZ {P : Program} : ∀ {ts : List TypeId} {C : List Value → Prop},exVs P ts C → ∃ l,C l ∧ ∀ C' : List Value → Prop,C' l → exVs P ts C'
  | [],C,h => ⟨_,h,fun _ h => h⟩
  | t :: r,C,h => by
    obtain ⟨v,h,h1⟩ := Vl h
    obtain ⟨l,h,h2⟩ := WZ h
    exact ⟨_,h,fun C' hc => h1 _ (h2 _ hc)⟩
theorem exT_one {P : Program} {T : TypeId} {C : Value → Prop} (h : exT P T C) : ∃ v,C v ∧ ∀ C' : Value → Prop,C' v → exT P T C' := by
  simp only [exT] at h ⊢
  cases hu : P.underlying T with
  | none => rw [hu] at h; exact Vl h
  | some d =>
    rw [hu] at h
    cases d <;> first
      | exact Vl h
      | (obtain ⟨l,h,h1⟩ := WZ h; exact ⟨_,h,fun C' h => h1 _ h⟩)
theorem NS {P : Program} {T : Option TypeId} {C : Value → Prop} (h : exO P T C) : ∃ v,C v := by
  cases T with
  | none => exact h
  | some t => exact KC h
theorem Xk {P : Program} {T : Option TypeId} {C C' : Value → Prop} (hc : ∀ v,C v → C' v) (h : exO P T C) : exO P T C' := by
  cases T with
  | none => obtain ⟨v,h⟩ := h; exact ⟨v,hc v h⟩
  | some t => exact Qj hc h
theorem Xh {k : IntKind} {z : Int} (h : inR k z) : k.wrap z = z := by
  cases k <;> simp [inR,IntKind.min,IntKind.max,IntKind.signed,IntKind.bits] at h
  · exact IntWalk.i8_in _ (by omega)
  · exact IntWalk.i16_in _ (by omega)
  · exact IntWalk.i32_in _ (by omega)
  · exact IntWalk.i64_in _ (by omega)
  · exact IntWalk.u8_in _ (by omega)
  · exact IntWalk.u16_in _ (by omega)
  · exact IntWalk.u32_in _ (by omega)
  · exact IntWalk.u64_in _ (by omega)
theorem Iq {wr : Bool} {k : IntKind} {z : Int} {K : Value → Prop} (h : arith wr k z K) : K (.int k (k.wrap z)) ∧ ∀ K' : Value → Prop,K' (.int k (k.wrap z)) → arith wr k z K' := by
  cases wr with
  | true => exact ⟨h,fun K' h => h⟩
  | false => obtain ⟨h1,h2⟩ := h; rw [Xh h1]; exact ⟨h2,fun K' h => ⟨h1,h⟩⟩
theorem toList_eq (a b : ByteArray) : (a.toList == b.toList) = decide (a = b) := by
  rw [ByteArray.toList_eq,ByteArray.toList_eq,Bool.eq_iff_iff]
  simp only [beq_iff_eq,decide_eq_true_eq]
  constructor
  · intro h
    cases a; cases b
    simp only [ByteArray.mk.injEq]
    exact Array.toList_inj.1 h
  · rintro rfl; rfl
theorem Fh (x : Value) (r : List Value) : ∀ (n : Nat) (cs : List Value),n < cs.length → over (x :: r) n cs = over r (n + 1) (cs.set n x) := by
  intro n cs h
  induction cs generalizing n with
  | nil => simp at h
  | cons c cs ih =>
    cases n with
    | zero =>
      simp only [over,List.set_cons_zero]
      cases r <;> simp [over]
    | succ n =>
      simp only [over,List.set_cons_succ]
      rw [ih n (by simpa using h)]
      cases r with
      | nil => simp [over]
      | cons y r => simp [over]
theorem Dc : ∀ (n : Nat) (cs : List Value),over [] n cs = cs
  | 0,_ => by simp [over]
  | n + 1,_ => by simp [over]
theorem GI (l : List Value) : ∀ (n : Nat) (cs : List Value),n + l.length ≤ cs.length → (over l n cs).length = cs.length := by
  induction l with
  | nil => intro n cs _; rw [Dc]
  | cons x r ih =>
    intro n cs h
    simp at h
    rw [Fh x r n cs (by omega),ih _ _ (by simp; omega)]
    simp
theorem TT (off : Nat) : ∀ (l : List Value) (j : Nat) (cells : Array Value),off + j + l.length ≤ cells.size →
    ((l.zipIdx j).foldl (fun cs (p : Value × Nat) => cs.setIfInBounds (off + p.2) p.1) cells).toList = over l (off + j) cells.toList
  | [],j,cells,h => by simp [Dc]
  | x :: r,j,cells,h => by
    simp only [length_cons] at h
    simp only [List.zipIdx_cons,foldl_cons]
    rw [TT off r (j + 1) _ (by simp; omega),Fh x r _ _ (by simp; omega)]
    simp only [Array.toList_setIfInBounds]
    congr 1
theorem JM (place : Nat → Option (Nat × Nat)) : ∀ (ps : List (Nat × Value)) (cs l : List Value),PP place ps cs = some l → Instr.fill place cs.toArray ps = some l.toArray
  | [],cs,l,h => by simp [PP] at h; simp [Instr.fill,h]
  | (i,v) :: r,cs,l,h => by
    simp only [PP] at h
    simp only [Instr.fill]
    cases hp : place i with
    | none => simp [hp] at h
    | some p =>
      obtain ⟨off,size⟩ := p
      simp only [hp] at h ⊢
      split at h
      · cases h
      · rename_i hc
        have hc' : (decide (v.cells.size ≠ size) || decide (off + v.cells.size > cs.toArray.size)) = false := by simpa using hc
        simp only [Bool.or_eq_false_iff,decide_eq_false_iff_not] at hc'
        rw [if_neg (by simpa using hc)]
        have e := TT off v.cells.toList 0 cs.toArray (by have := hc'.2; simp at this ⊢; omega)
        have e2 : (v.cells.zipIdx.foldl (fun cs (p : Value × Nat) => cs.setIfInBounds (off + p.2) p.1) cs.toArray) = (over v.cells.toList off cs).toArray := by
          apply Array.toList_inj.1
          rw [← Array.foldl_toList,Array.toList_zipIdx]
          simpa using e
        have := JM place r _ l h
        rw [← e2] at this
        exact this
theorem Tn {P : Program} {w : World} : ∀ {fs : List Field} {pl : List (Nat × Nat)},MK P fs = some pl →
    (fs.mapM (m := Sem) fun f => do pure (f.offset,← sizeOf f.type)).run P w = .ok pl w
  | [],pl,h => by simp [MK] at h; subst h; rfl
  | f :: r,pl,h => by
    simp only [MK] at h
    split at h
    · rename_i i hi
      split at h
      · rename_i l hl
        cases h
        have := Tn (w := w) hl
        have hs : (sizeOf f.type).run P w = .ok i.size w := by simp [sizeOf,typeInfo,hi]
        simp only [mapM_cons,Sem.run_bind,Sem.run_map,hs,this,Result.andThen_ok,Sem.run_pure]
      · cases h
    · cases h
theorem Ea : ∀ {l : List Value} {k : List Value → Prop},force l k ↔ k l
  | [],k => Iff.rfl
  | x :: r,k => Ea (l := r) (k := fun r' => k (x :: r'))
theorem EQ {b : Bool} {l : List Value} {k : List Value → Prop} : VV b l k ↔ k l := by
  cases b
  · exact Ea
  · exact Iff.rfl
theorem zl_of {P : Program} {t : TypeId} {z : Value} (h : zeroOf P t = some z) : zl P t = z.cells.toList := by simp [zl,h]
theorem YW {P : Program} {t : TypeId} {ps : List (Nat × Value)} {cs : List Value} (h : Qm P t ps = some cs) : bigL P t ps = cs := by simp [bigL,h]
theorem He {P : Program} {t : TypeId} {z : Value} (h : zeroOf P t = some z) (w : World) : (zeroValue t).run P w = .ok z w := by
  simp only [zeroOf] at h
  split at h
  · rename_i i hi
    simp [zeroValue,typeInfo,hi,h]
  · cases h
theorem ED {P : Program} {t : TypeId} {n : Nat} (h : ER P t = some n) (w : World) : (sizeOf t).run P w = .ok n w := by
  simp only [ER] at h
  split at h
  · rename_i i hi
    cases h
    simp [sizeOf,typeInfo,hi]
  · cases h
theorem Am {P : Program} {t : TypeId} {d : TypeDesc} (h : P.underlying t = some d) (w : World) : (underlying t).run P w = .ok d w := by
  simp [underlying,h]
theorem build_sound {P : Program} {t : TypeId} {ps : List (Nat × Value)} {l : List Value} (h : Qm P t ps = some l) (w : World) :
    (Instr.build t ps.toArray).run P w = .ok (.agg l.toArray) w := by
  simp only [Qm] at h
  split at h
  · cases h
  · rename_i z hz
    split at h
    · rename_i fs hu
      split at h
      · rename_i pl hpl
        have e := JM _ _ _ _ h
        have e1 : (z.cells.toList).toArray = z.cells := by simp
        rw [e1] at e
        have e2 : (fun i : Nat => pl[i]?) = (fun i : Nat => (pl.toArray)[i]?) := by funext i; simp
        rw [e2] at e
        simp only [Instr.build,Sem.run_bind,He hz,Am hu,Result.andThen_ok,Sem.run_pure]
        rw [Array.mapM_eq_mapM_toList]
        simp only [Sem.run_map,Tn hpl,Result.andThen_ok]
        rw [e]
        simp
      · cases h
    · rename_i n e hu
      split at h
      · rename_i sz hsz
        have e := JM _ _ _ _ h
        have e1 : (z.cells.toList).toArray = z.cells := by simp
        rw [e1] at e
        simp [Instr.build,He hz,Am hu,ED hsz,e]
      · cases h
    · cases h
theorem Vs {fr : Fr} {nt : Nat} {ds : List Deferred} {x : Option Operand} {k : Option Int → Prop} (h : opI fr x k) :
    ∃ i,k i ∧ (∀ k' : Option Int → Prop,k' i → opI fr x k') ∧ ∀ (a : Act),Ref nt ds fr a → (x = none ∧ i = none ∧ x.map a.eval = none) ∨ (∃ j kd,i = some j ∧ x.map a.eval = some (.int kd j)) := by
  cases x with
  | none => exact ⟨none,h,fun _ h => h,fun a hr => .inl ⟨rfl,rfl,rfl⟩⟩
  | some o =>
    simp only [opI] at h
    cases he : ev fr o with
    | none => simp [he] at h
    | some v =>
      cases v <;> simp only [he] at h <;> try exact h.elim
      rename_i kd i
      exact ⟨some i,h,fun k' h' => by simp only [opI,he]; exact h',fun a hr => .inr ⟨i,kd,rfl,by simp [hr.ev he]⟩⟩
theorem DR {P : Program} {w : World} {kd : IntKind} {i : Int} {y : Nat} {c : BoundsCode} (h : 0 ≤ i ∧ i ≤ y) : (Instr.sliceBound (.int kd i) y c).run P w = .ok i.toNat w := by
  simp [Instr.sliceBound,asIntOf,h]
theorem TQ (a : Option Addr) (m size : Nat) : (if m = 0 then a else a.map (·.add (0 * size))) = a := by
  split
  · rfl
  · cases a <;> simp [Addr.add]
def IsI (v : Option Value) (i : Option Int) : Prop := (i = none ∧ v = none) ∨ ∃ j kd,i = some j ∧ v = some (.int kd j)
theorem Dh {v : Option Value} (h : IsI v none) : v = none := by
  rcases h with ⟨-,h⟩ | ⟨_,_,h,-⟩
  · exact h
  · cases h
theorem Dv {v : Option Value} {j : Int} (h : IsI v (some j)) : ∃ kd,v = some (.int kd j) := by
  rcases h with ⟨h,-⟩ | ⟨_,kd,h,h'⟩
  · cases h
  · cases h; exact ⟨kd,h'⟩
theorem ZM {P : Program} {a : Option Addr} {n c size : Nat} {lo hi mx : Option Int} {K : Value → Prop} (h : slcV a n c size lo hi mx K) :
    ∃ v,K v ∧ (∀ K' : Value → Prop,K' v → slcV a n c size lo hi mx K') ∧ ∀ (isS : Bool) (vl vh vm : Option Value),IsI vl lo → IsI vh hi → IsI vm mx → ∀ w,∃ l h m,
      (Instr.sliceBounds isS n c vl vh vm).run P w = .ok (l,h,m) w ∧ v = .slice (if m = l then a else a.map (·.add (l * size))) (h - l) (m - l) := by
  simp only [slcV] at h ⊢
  cases mx with
  | none =>
    cases hi with
    | none =>
      cases lo with
      | none =>
        refine ⟨_,h,fun _ h => h,fun isS vl vh vm h1 h2 h3 w => ⟨0,n,c,?_,?_⟩⟩
        · obtain rfl := Dh h1
          obtain rfl := Dh h2
          obtain rfl := Dh h3
          simp [Instr.sliceBounds]
        · rw [TQ]; simp
      | some l =>
        obtain ⟨⟨l0,l1⟩,h⟩ := h
        refine ⟨_,h,fun _ h => ⟨⟨l0,l1⟩,h⟩,fun isS vl vh vm h1 h2 h3 w => ⟨l.toNat,n,c,?_,rfl⟩⟩
        obtain ⟨_,rfl⟩ := Dv h1
        obtain rfl := Dh h2
        obtain rfl := Dh h3
        simp [Instr.sliceBounds,DR (y := n) ⟨l0,l1⟩]
    | some h' =>
      cases lo with
      | none =>
        obtain ⟨⟨l0,l1⟩,h⟩ := h
        refine ⟨_,h,fun _ h => ⟨⟨l0,l1⟩,h⟩,fun isS vl vh vm h1 h2 h3 w => ⟨0,h'.toNat,c,?_,by rw [TQ]; simp⟩⟩
        obtain rfl := Dh h1
        obtain ⟨_,rfl⟩ := Dv h2
        obtain rfl := Dh h3
        simp [Instr.sliceBounds,DR (y := c) ⟨l0,l1⟩]
      | some l =>
        obtain ⟨⟨l0,l1,l2⟩,h⟩ := h
        refine ⟨_,h,fun _ h => ⟨⟨l0,l1,l2⟩,h⟩,fun isS vl vh vm h1 h2 h3 w => ⟨l.toNat,h'.toNat,c,?_,rfl⟩⟩
        obtain ⟨_,rfl⟩ := Dv h1
        obtain ⟨_,rfl⟩ := Dv h2
        obtain rfl := Dh h3
        simp [Instr.sliceBounds,DR (y := c) (i := h') ⟨by omega,l2⟩,DR (y := h'.toNat) (i := l) ⟨l0,by omega⟩]
  | some m =>
    cases hi with
    | none => cases lo <;> exact h.elim
    | some h' =>
      cases lo with
      | none =>
        obtain ⟨⟨l0,l1,l2⟩,h⟩ := h
        refine ⟨_,h,fun _ h => ⟨⟨l0,l1,l2⟩,h⟩,fun isS vl vh vm h1 h2 h3 w => ⟨0,h'.toNat,m.toNat,?_,by rw [TQ]; simp⟩⟩
        obtain rfl := Dh h1
        obtain ⟨_,rfl⟩ := Dv h2
        obtain ⟨_,rfl⟩ := Dv h3
        simp [Instr.sliceBounds,DR (y := c) (i := m) ⟨by omega,l2⟩,DR (y := m.toNat) (i := h') ⟨l0,by omega⟩]
      | some l =>
        obtain ⟨⟨l0,l1,l2,l3⟩,h⟩ := h
        refine ⟨_,h,fun _ h => ⟨⟨l0,l1,l2,l3⟩,h⟩,fun isS vl vh vm h1 h2 h3 w => ⟨l.toNat,h'.toNat,m.toNat,?_,rfl⟩⟩
        obtain ⟨_,rfl⟩ := Dv h1
        obtain ⟨_,rfl⟩ := Dv h2
        obtain ⟨_,rfl⟩ := Dv h3
        simp [Instr.sliceBounds,DR (y := c) (i := m) ⟨by omega,l3⟩,DR (y := m.toNat) (i := h') ⟨by omega,by omega⟩,DR (y := h'.toNat) (i := l) ⟨l0,by omega⟩]
theorem slice_one {P : Program} {nt : Nat} {ds : List Deferred} {fr : Fr} {t : TypeId} {x : Value} {lo hi mx : Option Operand} {K : Value → Prop} (h : Jl P fr t x lo hi mx K) :
    ∃ v,K v ∧ (∀ K' : Value → Prop,K' v → Jl P fr t x lo hi mx K') ∧ ∀ a,Ref nt ds fr a → ∀ w,(Instr.sliceAt t x (lo.map a.eval) (hi.map a.eval) (mx.map a.eval)).run P w = .ok v w := by
  simp only [Jl] at h ⊢
  obtain ⟨l,ha,e1,f1⟩ := Vs (nt := nt) (ds := ds) h
  clear h
  obtain ⟨hh,hb,e2,f2⟩ := Vs (nt := nt) (ds := ds) ha
  clear ha
  obtain ⟨m,h,e3,f3⟩ := Vs (nt := nt) (ds := ds) hb
  clear hb
  have g1 : ∀ a,Ref nt ds fr a → IsI (lo.map a.eval) l := fun a hr => by
    rcases f1 a hr with ⟨h,h',h''⟩ | h
    · exact .inl ⟨h',h''⟩
    · exact .inr h
  have g2 : ∀ a,Ref nt ds fr a → IsI (hi.map a.eval) hh := fun a hr => by
    rcases f2 a hr with ⟨h,h',h''⟩ | h
    · exact .inl ⟨h',h''⟩
    · exact .inr h
  have g3 : ∀ a,Ref nt ds fr a → IsI (mx.map a.eval) m := fun a hr => by
    rcases f3 a hr with ⟨h,h',h''⟩ | h
    · exact .inl ⟨h',h''⟩
    · exact .inr h
  have back : ∀ {v : Value},(∀ K' : Value → Prop,K' v → slxV P t x l hh m K') → ∀ K' : Value → Prop,K' v → Jl P fr t x lo hi mx K' := fun hb K' hk => e1 _ (e2 _ (e3 _ (hb K' hk)))
  clear e1 e2 e3 f1 f2 f3
  simp only [slxV] at h back
  split at h
  · rename_i s hu
    have hgo : ∀ (lo' hi' : Nat) (vl vh vm : Option Value) w,vm = none → (Instr.sliceBounds false s.size s.size vl vh none).run P w = .ok (lo',hi',s.size) w → (Instr.sliceAt t (.string s) vl vh vm).run P w = .ok (.string (s.extract lo' hi')) w := by
      rintro lo' hi' vl vh vm w rfl hb
      simp [Instr.sliceAt,Am hu,Instr.slice,hb]
    cases m with
    | some m => cases hh <;> cases l <;> exact h.elim
    | none =>
      have vm0 : ∀ a,Ref nt ds fr a → mx.map a.eval = none := fun a hr => Dh (g3 a hr)
      cases hh with
      | none =>
        cases l with
        | none =>
          refine ⟨_,h,back (fun _ h => by simp only [hu]; exact h),fun a hr w => hgo 0 s.size _ _ _ w (vm0 a hr) ?_⟩
          rw [Dh (g1 a hr)]
          rw [Dh (g2 a hr)]
          simp [Instr.sliceBounds]
        | some l =>
          obtain ⟨⟨l0,l1⟩,h⟩ := h
          refine ⟨_,h,back (fun _ h => by simp only [hu]; exact ⟨⟨l0,l1⟩,h⟩),fun a hr w => hgo l.toNat s.size _ _ _ w (vm0 a hr) ?_⟩
          obtain ⟨kd,h'⟩ := Dv (g1 a hr)
          rw [Dh (g2 a hr)]
          rw [h']
          simp [Instr.sliceBounds,DR (y := s.size) ⟨l0,l1⟩]
      | some hh =>
        cases l with
        | none =>
          obtain ⟨⟨l0,l1⟩,h⟩ := h
          refine ⟨_,h,back (fun _ h => by simp only [hu]; exact ⟨⟨l0,l1⟩,h⟩),fun a hr w => hgo 0 hh.toNat _ _ _ w (vm0 a hr) ?_⟩
          rw [Dh (g1 a hr)]
          obtain ⟨kd,h'⟩ := Dv (g2 a hr)
          rw [h']
          simp [Instr.sliceBounds,DR (y := s.size) ⟨l0,l1⟩]
        | some l =>
          obtain ⟨⟨l0,l1,l2⟩,h⟩ := h
          refine ⟨_,h,back (fun _ h => by simp only [hu]; exact ⟨⟨l0,l1,l2⟩,h⟩),fun a hr w => hgo l.toNat hh.toNat _ _ _ w (vm0 a hr) ?_⟩
          obtain ⟨kd,h'⟩ := Dv (g1 a hr)
          obtain ⟨kd',h''⟩ := Dv (g2 a hr)
          rw [h',h'']
          simp [Instr.sliceBounds,DR (y := s.size) (i := hh) ⟨by omega,l2⟩,DR (y := hh.toNat) (i := l) ⟨l0,by omega⟩]
  · rename_i e ad n c hu
    split at h
    · rename_i size hs
      obtain ⟨v,hv,hk,hrun⟩ := ZM (P := P) h
      refine ⟨v,hv,back (fun _ h => by simp only [hu,hs]; exact hk _ h),fun a hr w => ?_⟩
      obtain ⟨l',h',m',hb,rfl⟩ := hrun true _ _ _ (g1 a hr) (g2 a hr) (g3 a hr) w
      simp [Instr.sliceAt,Am hu,Instr.slice,hb,ED hs]
    · exact h.elim
  · rename_i n e p hu
    split at h
    · rename_i size hs
      obtain ⟨ad,rfl,h⟩ := Ej h
      obtain ⟨v,hv,hk,hrun⟩ := ZM (P := P) h
      refine ⟨v,hv,back (fun _ h => by simp only [hu,hs]; exact hk _ h),fun a hr w => ?_⟩
      obtain ⟨l',h',m',hb,rfl⟩ := hrun false _ _ _ (g1 a hr) (g2 a hr) (g3 a hr) w
      simp [Instr.sliceAt,Am hu,Instr.sureAddr,hb,ED hs]
      split <;> rfl
    · exact h.elim
  · exact h.elim
theorem eqGuard_int {P : Program} {op : BinOp} {t : TypeId} {x y : Operand} {k k' : IntKind} {a b : Int} (w : World) : (eqGuard op t x y (.int k a) (.int k' b)).run P w = .ok () w := by
  unfold eqGuard; split <;> rfl
theorem eqGuard_str {P : Program} {op : BinOp} {t : TypeId} {x y : Operand} {a b : ByteArray} (w : World) : (eqGuard op t x y (.string a) (.string b)).run P w = .ok () w := by
  unfold eqGuard; split <;> rfl
theorem eqGuard_bool {P : Program} {op : BinOp} {t : TypeId} {x y : Operand} {a b : Bool} (w : World) : (eqGuard op t x y (.bool a) (.bool b)).run P w = .ok () w := by
  unfold eqGuard; split <;> rfl
theorem equalIn_bool {P : Program} {t : TypeId} {a b : Bool} (h : P.underlying t = some .bool) (d : Nat) (w : World) : (Op.equalIn (d + 1) t (.bool a) (.bool b)).run P w = .ok (a == b) w := by
  simp [Op.equalIn,Am h]
theorem equal_bool {P : Program} {t : TypeId} {a b : Bool} (h : P.underlying t = some .bool) (w : World) : (Op.equal t (.bool a) (.bool b)).run P w = .ok (a == b) w :=
  equalIn_bool h 9999 w
theorem data_eq (a b : ByteArray) : (a.data.toList == b.data.toList) = decide (a = b) := by
  have := toList_eq a b
  rwa [ByteArray.toList_eq,ByteArray.toList_eq] at this
theorem beq_dec (a b : Int) : (a == b) = decide (a = b) := rfl
theorem bne_dec (a b : Int) : (a != b) = !decide (a = b) := rfl
theorem bin_one {wr : Bool} {P : Program} {op : BinOp} {t : TypeId} {a b : Value} {K : Value → Prop} (h : binV wr P op t a b K) :
    ∃ v,K v ∧ (∀ K' : Value → Prop,K' v → binV wr P op t a b K') ∧ ∀ (x y : Operand) (w : World),(do eqGuard op t x y a b; binOp op t a b : Sem Value).run P w = .ok v w := by
  cases a with
  | int k a =>
    cases b with
    | int k' b =>
      have e : ∀ {v : Value} (x y : Operand) (w : World),(binOp op t (.int k a) (.int k' b)).run P w = .ok v w → (do eqGuard op t x y (.int k a) (.int k' b); binOp op t (.int k a) (.int k' b) : Sem Value).run P w = .ok v w := by
        intro v x y w hb
        simp only [Sem.run_bind,eqGuard_int,Result.andThen_ok,hb]
      by_cases hk : k = k'
      · subst hk
        cases op with
        | shl =>
          simp only [binV] at h
          obtain ⟨h0,h⟩ := h
          obtain ⟨h,hb⟩ := Iq h
          refine ⟨_,h,fun K' hK => ⟨h0,hb _ hK⟩,fun x y w => e x y w ?_⟩
          simp [binOp,Op.shift,show ¬ b < 0 from by omega]
        | shr =>
          simp only [binV] at h
          obtain ⟨h0,h⟩ := h
          refine ⟨_,h,fun K' hK => ⟨h0,hK⟩,fun x y w => e x y w ?_⟩
          simp [binOp,Op.shift,show ¬ b < 0 from by omega]
        | add | sub | mul =>
          simp only [binV,if_true] at h
          obtain ⟨h,hb⟩ := Iq h
          refine ⟨_,h,fun K' hK => by simp only [binV,if_true]; exact hb _ hK,fun x y w => e x y w ?_⟩
          simp [binOp,Op.intArith]
        | quo =>
          simp only [binV,if_true] at h
          obtain ⟨h0,h⟩ := h
          obtain ⟨h,hb⟩ := Iq h
          refine ⟨_,h,fun K' hK => by simp only [binV,if_true]; exact ⟨h0,hb _ hK⟩,fun x y w => e x y w ?_⟩
          simp [binOp,Op.intDiv,h0]
        | rem =>
          simp only [binV,if_true] at h
          obtain ⟨h0,h⟩ := h
          refine ⟨_,h,fun K' hK => by simp only [binV,if_true]; exact ⟨h0,hK⟩,fun x y w => e x y w ?_⟩
          simp [binOp,Op.intDiv,h0]
        | and | or | xor | andNot =>
          simp only [binV,if_true] at h
          refine ⟨_,h,fun K' hK => by simp only [binV,if_true]; exact hK,fun x y w => e x y w ?_⟩
          simp [binOp,Op.intBits,bits]
        | eql | neq | lss | leq | gtr | geq =>
          simp only [binV,if_true] at h
          refine ⟨_,h,fun K' hK => by simp only [binV,if_true]; exact hK,fun x y w => e x y w ?_⟩
          simp [binOp,Op.intCmp,bne_dec,beq_dec]
      · cases op with
        | shl =>
          simp only [binV] at h
          obtain ⟨h0,h⟩ := h
          obtain ⟨h,hb⟩ := Iq h
          refine ⟨_,h,fun K' hK => ⟨h0,hb _ hK⟩,fun x y w => e x y w ?_⟩
          simp [binOp,Op.shift,show ¬ b < 0 from by omega]
        | shr =>
          simp only [binV] at h
          obtain ⟨h0,h⟩ := h
          refine ⟨_,h,fun K' hK => ⟨h0,hK⟩,fun x y w => e x y w ?_⟩
          simp [binOp,Op.shift,show ¬ b < 0 from by omega]
        | _ => simp [binV,hk] at h
    | _ => cases op <;> exact h.elim
  | string a =>
    cases b with
    | string b =>
      have e : ∀ {v : Value} (x y : Operand) (w : World),(binOp op t (.string a) (.string b)).run P w = .ok v w → (do eqGuard op t x y (.string a) (.string b); binOp op t (.string a) (.string b) : Sem Value).run P w = .ok v w := by
        intro v x y w hb
        simp only [Sem.run_bind,eqGuard_str,Result.andThen_ok,hb]
      cases op <;> simp only [binV] at h <;> first
        | exact h.elim
        | (obtain ⟨h0,h⟩ := h
           refine ⟨_,h,fun K' hK => by simp only [binV]; exact ⟨h0,hK⟩,fun x y w => e x y w ?_⟩
           have hm : IntKind.i64.max = 9223372036854775807 := by decide
           simp only [binOp,Op.stringOp,hm]
           rw [if_neg (by omega)]
           rfl)
        | (refine ⟨_,h,fun K' hK => by simp only [binV]; exact hK,fun x y w => e x y w ?_⟩
           simp only [binOp,Op.stringOp,ByteArray.toList_eq,data_eq,Sem.run_pure])
    | _ => cases op <;> exact h.elim
  | bool a =>
    cases b with
    | bool b =>
      cases op <;> simp only [binV] at h <;> first
        | exact h.elim
        | (split at h
           · rename_i hu
             refine ⟨_,h,fun K' hK => by simp only [binV,hu]; exact hK,fun x y w => ?_⟩
             simp only [Sem.run_bind,eqGuard_bool,Result.andThen_ok,binOp,equal_bool hu,Sem.run_pure]
           · exact h.elim)
    | _ => cases op <;> exact h.elim
  | _ => cases op <;> exact h.elim
theorem un_one {wr : Bool} {P : Program} {op : UnOp} {a : Value} {K : Value → Prop} (h : unV wr op a K) :
    ∃ v,K v ∧ (∀ K' : Value → Prop,K' v → unV wr op a K') ∧ ∀ (w : World),(Op.unary op a).run P w = .ok v w := by
  cases op <;> cases a <;> simp only [unV] at h <;> try exact h.elim
  · obtain ⟨h,hb⟩ := Iq h
    exact ⟨_,h,fun K' hK => hb _ hK,fun w => rfl⟩
  · exact ⟨_,h,fun K' hK => hK,fun w => rfl⟩
  · exact ⟨_,h,fun K' hK => hK,fun w => rfl⟩
theorem part_one {P : Program} {t : TypeId} {cs : List Value} {off : Nat} {K : Value → Prop} (h : Yh P t cs off K) :
    ∃ v,K v ∧ (∀ K' : Value → Prop,K' v → Yh P t cs off K') ∧ ∀ (w : World),(part t cs.toArray off).run P w = .ok v w := by
  have agg : ∀ (n : Nat) (w : World),ER P t = some n → (isAgg t).run P w = .ok true w → (part t cs.toArray off).run P w = .ok (.agg ((cs.drop off).take n).toArray) w := by
    intro n w hs hi
    simp only [part,Sem.run_bind,hi,Result.andThen_ok,if_true,ED hs,Sem.run_pure]
    congr 2
    apply Array.toList_inj.1
    simp [Array.toList_extract,List.drop_take]
  simp only [Yh] at h ⊢
  split at h
  · rename_i fs hu
    split at h
    · rename_i n hs
      rw [Ea] at h
      exact ⟨_,h,fun K' hK => by simp only [hs,Ea]; exact hK,fun w => agg n w hs (by simp [isAgg,Am hu])⟩
    · exact h.elim
  · rename_i n e hu
    split at h
    · rename_i n hs
      rw [Ea] at h
      exact ⟨_,h,fun K' hK => by simp only [hs,Ea]; exact hK,fun w => agg n w hs (by simp [isAgg,Am hu])⟩
    · exact h.elim
  · rename_i d h1 h2 hu
    split at h
    · rename_i v hv
      refine ⟨v,h,fun K' hK => hK,fun w => ?_⟩
      have hi : (isAgg t).run P w = .ok false w := by
        simp only [isAgg,Sem.run_bind,Am hu,Result.andThen_ok]
        cases d <;> simp_all
      simp only [part,Sem.run_bind,hi,Result.andThen_ok,Bool.false_eq_true,if_false]
      have : cs.toArray[off]? = some v := by simpa using hv
      simp [this]
    · exact h.elim
  · exact h.elim
theorem Bl {P : Program} {s : Sem Value} {v : Value} {w w1 : World} (h : s.run P w = .ok v w1) : (do pure (Next.value (← s)) : Sem Next).run P w = .ok (.value v) w1 := by
  simp only [Sem.run_map,Sem.run_bind,h,Result.andThen_ok,Sem.run_pure]
theorem run_unit {P : Program} {s : Sem Unit} {w w1 : World} (h : s.run P w = .ok () w1) : (do s; pure Next.skip : Sem Next).run P w = .ok .skip w1 := by
  simp only [Sem.run_bind,h,Result.andThen_ok,Sem.run_pure]
section
variable {nt : Nat} {ds : List Deferred} {fr : Fr} {P : Program} {ops : List Oper}
theorem Df {a : Act} (hr : Ref nt ds fr a) {c : Call} {b : Builtin} {args : List Value} (hc : c.callee = .builtin b) (ha : evs fr c.args.toList = some args) (t : TypeId) (w : World) :
    ∃ cs,(do let d ← resolve a.eval c t; invoke d.target d.args : Sem Next).run P w = (builtin b c.argTypes t cs args.toArray).run P w := by
  refine ⟨c.args.map fun | .const _ => true | _ => false,?_⟩
  simp only [resolve,hc,Sem.run_bind,Sem.run_pure,Result.andThen_ok,invoke,hr.evsA ha]
  rfl
theorem V7 {x : Operand} {v : Value} (h : ev fr x = some v) : evs fr [x] = some [v] := by simp [evs,h]
theorem ZW {x y : Operand} {v u : Value} (h : ev fr x = some v) (h' : ev fr y = some u) : evs fr [x,y] = some [v,u] := by simp [evs,h,h']
theorem run_parts {a : Act} (hr : Ref nt ds fr a) {xs : Array (Nat × Operand)} {ps : List (Nat × Value)} (h : partsOf fr xs.toList = some ps) : (xs.map fun (i,x) => (i,a.eval x)) = ps.toArray := by
  have := hr.parts h
  apply Array.toList_inj.1
  simpa using this
theorem len_one {ts : Array TypeId} {x : Value} {K : Value → Prop} (h : lenV P ts x K) :
    ∃ v,K v ∧ (∀ K' : Value → Prop,K' v → lenV P ts x K') ∧ ∀ (t : TypeId) (w : World),(Builtin.len_ ts t #[x]).run P w = .ok v w := by
  simp only [lenV] at h ⊢
  split at h
  · exact h.elim
  · rename_i t ht
    split at h
    · rename_i s hu
      refine ⟨_,h,fun K' hK => hK,fun t' w => ?_⟩
      simp only [Builtin.len_,ht,List.getElem?_toArray,List.getElem?_cons_zero,Sem.run_bind,Am hu,Result.andThen_ok]; rfl
    · rename_i e a n c hu
      refine ⟨_,h,fun K' hK => hK,fun t' w => ?_⟩
      simp only [Builtin.len_,ht,List.getElem?_toArray,List.getElem?_cons_zero,Sem.run_bind,Am hu,Result.andThen_ok]; rfl
    · rename_i n e hu
      refine ⟨_,h,fun K' hK => hK,fun t' w => ?_⟩
      simp only [Builtin.len_,ht,List.getElem?_toArray,List.getElem?_cons_zero,Sem.run_bind,Am hu,Result.andThen_ok]; rfl
    · rename_i e hu
      split at h
      · rename_i n e' hu'
        refine ⟨_,h,fun K' hK => by first | exact hK | (simp only [hu']; exact hK),fun t' w => ?_⟩
        simp only [Builtin.len_,ht,List.getElem?_toArray,List.getElem?_cons_zero,Sem.run_bind,Am hu,Am hu',Result.andThen_ok]; rfl
      · exact h.elim
    · exact h.elim
theorem cap_one {ts : Array TypeId} {x : Value} {K : Value → Prop} (h : capV P ts x K) :
    ∃ v,K v ∧ (∀ K' : Value → Prop,K' v → capV P ts x K') ∧ ∀ (t : TypeId) (w : World),(Builtin.cap_ ts t #[x]).run P w = .ok v w := by
  simp only [capV] at h ⊢
  split at h
  · exact h.elim
  · rename_i t ht
    split at h
    · rename_i e a n c hu
      refine ⟨_,h,fun K' hK => hK,fun t' w => ?_⟩
      simp only [Builtin.cap_,ht,List.getElem?_toArray,List.getElem?_cons_zero,Sem.run_bind,Am hu,Result.andThen_ok]; rfl
    · rename_i n e hu
      refine ⟨_,h,fun K' hK => hK,fun t' w => ?_⟩
      simp only [Builtin.cap_,ht,List.getElem?_toArray,List.getElem?_cons_zero,Sem.run_bind,Am hu,Result.andThen_ok]; rfl
    · exact h.elim
theorem MP {wr : Bool} {o : Oper} {K : Value → Prop} (h : Ns wr P fr o K) :
    ∃ v,K v ∧ (∀ K' : Value → Prop,K' v → Ns wr P fr o K') ∧ ∀ a,Ref nt ds fr a → ∀ w,(execOp a.eval o).run P w = .ok (.value v) w := by
  cases hop : o.op <;> simp only [Ns,hop] at h ⊢ <;> try exact h.elim
  case move x =>
    obtain ⟨v,hv,h⟩ := AX h
    exact ⟨v,h,fun K' hK => by rw [hv]; exact hK,fun a hr w => by simp only [execOp,hop,hr.ev hv]; rfl⟩
  case assign x =>
    obtain ⟨v,hv,h⟩ := AX h
    exact ⟨v,h,fun K' hK => by rw [hv]; exact hK,fun a hr w => by simp only [execOp,hop,hr.ev hv]; rfl⟩
  case pick c x y =>
    split at h
    · rename_i t hc
      cases t with
      | true =>
        obtain ⟨v,hv,h⟩ := AX h
        exact ⟨v,h,fun K' hK => by simp only [hv]; exact hK,fun a hr w => by simp only [execOp,hop,hr.ev hc,hr.ev hv,asBool]; rfl⟩
      | false =>
        obtain ⟨v,hv,h⟩ := AX h
        exact ⟨v,h,fun K' hK => by simp only [hv]; exact hK,fun a hr w => by simp only [execOp,hop,hr.ev hc,hr.ev hv,asBool]; rfl⟩
    · exact h.elim
  case build t parts =>
    split at h
    · rename_i ps hps
      split at h
      · rename_i cs hcs
        rw [EQ,YW hcs] at h
        refine ⟨_,h,fun K' hK => by simp only [hcs,EQ,YW hcs]; exact hK,fun a hr w => ?_⟩
        simp only [execOp,hop,run_parts hr hps]
        exact Bl (build_sound hcs w)
      · exact h.elim
    · exact h.elim
  case nilCheck x =>
    split at h
    · rename_i p hv
      obtain ⟨ad,rfl,h⟩ := Ej h
      exact ⟨_,h,fun K' hK => hK,fun a hr w => by simp only [execOp,hop,hr.ev hv]; rfl⟩
    · rename_i f fi ca hv
      exact ⟨_,h,fun K' hK => hK,fun a hr w => by simp only [execOp,hop,hr.ev hv]; rfl⟩
    · rename_i t v hv
      exact ⟨_,h,fun K' hK => hK,fun a hr w => by simp only [execOp,hop,hr.ev hv]; rfl⟩
    · exact h.elim
  case binOp op t x y yt =>
    obtain ⟨u,hx,h⟩ := AX h
    obtain ⟨u',hy,h⟩ := AX h
    obtain ⟨v,h,hb,hrun⟩ := bin_one h
    exact ⟨v,h,fun K' hK => by simp only [hx,hy]; exact hb _ hK,fun a hr w => by
      simp only [execOp,hop,hr.ev hx,hr.ev hy]
      exact Bl (hrun x y w)⟩
  case unOp op t x =>
    obtain ⟨u,hx,h⟩ := AX h
    obtain ⟨v,h,hb,hrun⟩ := un_one h
    exact ⟨v,h,fun K' hK => by simp only [hx]; exact hb _ hK,fun a hr w => by
      simp only [execOp,hop,hr.ev hx]
      exact Bl (hrun w)⟩
  case convert src dst x =>
    split at h
    · rename_i k0 k k1 n hs hd hx
      exact ⟨_,h,fun K' hK => hK,fun a hr w => by
        simp only [execOp,hop,hr.ev hx]
        exact Bl (by simp only [convert,Sem.run_bind,Am hs,Am hd,Result.andThen_ok]; rfl)⟩
    · rename_i s hs hd hx
      exact ⟨_,h,fun K' hK => hK,fun a hr w => by
        simp only [execOp,hop,hr.ev hx]
        exact Bl (by simp only [convert,Sem.run_bind,Am hs,Am hd,Result.andThen_ok]; rfl)⟩
    · exact h.elim
  case makeInterface t x =>
    split at h
    · exact h.elim
    · rename_i d hd hu
      obtain ⟨v,hv,h⟩ := AX h
      exact ⟨_,h,fun K' hK => by rw [hv]; exact hK,fun a hr w => by
        simp only [execOp,hop,hr.ev hv]
        exact Bl (by
          simp only [Instr.makeInterface,Sem.run_bind,Am hu,Result.andThen_ok]
          cases d <;> first | rfl | simp_all)⟩
    · exact h.elim
  case makeFunc fn first captured =>
    split at h
    · rename_i fi ca h1 h2
      exact ⟨_,h,fun K' hK => hK,fun a hr w => by
        simp only [execOp,hop,hr.evsA h1,hr.evsA h2]
        exact Bl rfl⟩
    · exact h.elim
  case slice t x lo hi mx =>
    obtain ⟨u,hx,h⟩ := AX h
    obtain ⟨v,h,hb,hrun⟩ := slice_one (nt := nt) (ds := ds) h
    exact ⟨v,h,fun K' hK => by simp only [hx]; exact hb _ hK,fun a hr w => by
      simp only [execOp,hop,hr.ev hx]
      exact Bl (hrun a hr w)⟩
  case sliceToArrayPointer t x =>
    split at h
    · rename_i n e a0 l c hu hx
      exact ⟨_,h.2,fun K' hK => ⟨h.1,hK⟩,fun a hr w => by
        simp only [execOp,hop,hr.ev hx]
        exact Bl (by simp only [Instr.arrayAt,Sem.run_bind,Am hu,Result.andThen_ok]; rw [if_neg (Nat.not_lt.2 h.1)]; rfl)⟩
    · exact h.elim
  case fieldAddr s x f =>
    split at h
    · rename_i fs p hu hx
      split at h
      · rename_i fd hf
        split at h
        · rename_i n hs
          obtain ⟨ad,rfl,h⟩ := Ej h
          exact ⟨_,h,fun K' hK => by first | exact hK | (simp only [hs]; exact hK),fun a hr w => by
            simp only [execOp,hop,hr.ev hx]
            exact Bl (by simp [Instr.fieldAt,Am hu,hf,Instr.sureAddr,fieldPlace,ED hs])⟩
        · exact h.elim
      · exact h.elim
    · exact h.elim
  case field t x f =>
    split at h
    · rename_i fs cs hu hx
      split at h
      · rename_i fd hf
        obtain ⟨v,h,hb,hrun⟩ := part_one h
        exact ⟨v,h,fun K' hK => hb _ hK,fun a hr w => by
          simp only [execOp,hop,hr.ev hx]
          refine Bl ?_
          have := hrun w
          simp only [Array.toArray_toList] at this
          simp [Instr.field,Am hu,hf,asAgg,this]⟩
      · exact h.elim
    · exact h.elim
  case indexAddr t x ix =>
    split at h
    · rename_i e p n c kd i hu hx hi
      split at h
      · rename_i sz hs
        obtain ⟨ad,rfl,h01,h⟩ := Ej h
        exact ⟨_,h,fun K' hK => ⟨h01,hK⟩,fun a hr w => by
          simp only [execOp,hop,hr.ev hx,hr.ev hi]
          exact Bl (by simp [Instr.indexAt,asIntOf,Am hu,h01,ED hs])⟩
      · exact h.elim
    · rename_i n e p kd i hu hx hi
      split at h
      · rename_i sz hs
        obtain ⟨ad,rfl,h01,h⟩ := Ej h
        exact ⟨_,h,fun K' hK => ⟨h01,hK⟩,fun a hr w => by
          simp only [execOp,hop,hr.ev hx,hr.ev hi]
          exact Bl (by simp [Instr.indexAt,asIntOf,Am hu,h01,ED hs,Instr.sureAddr])⟩
      · exact h.elim
    · exact h.elim
  case index t x ix =>
    split at h
    · rename_i s kd i hu hx hi
      obtain ⟨h01,h⟩ := h
      exact ⟨_,h,fun K' hK => ⟨h01,hK⟩,fun a hr w => by
        simp only [execOp,hop,hr.ev hx,hr.ev hi]
        refine Bl ?_
        have hl : i.toNat < s.size := by omega
        have h2 : s[i.toNat]? = some s[i.toNat] := getElem?_pos s i.toNat hl
        have h3 : sb s i = (s[i.toNat].toNat : Int) := by
          simp only [sb]
          have : s.data.toList[i.toNat]? = some s[i.toNat] := by
            rw [Array.getElem?_toList,Array.getElem?_eq_getElem (by simpa using hl)]; rfl
          rw [this]; rfl
        simp [Instr.index,asIntOf,Am hu,h01.1,h2,h3]⟩
    · exact h.elim
  case extract x i =>
    split at h
    · rename_i vs hx
      split at h
      · rename_i v hv
        exact ⟨v,h,fun K' hK => hK,fun a hr w => by
          simp only [execOp,hop,hr.ev hx]
          exact Bl (by simp [Instr.extract,hv])⟩
      · exact h.elim
    · exact h.elim
  case call c =>
    split at h
    · rename_i x hc hx
      obtain ⟨u,hu,h⟩ := AX h
      obtain ⟨v,h,hb,hrun⟩ := len_one h
      exact ⟨v,h,fun K' hK => by simp only [hu]; exact hb _ hK,fun a hr w => by
        simp only [execOp,hop]
        obtain ⟨cs,e⟩ := Df (P := P) hr hc (by rw [hx]; exact V7 hu) o.type w
        rw [e]
        exact Bl (hrun _ w)⟩
    · rename_i x hc hx
      obtain ⟨u,hu,h⟩ := AX h
      obtain ⟨v,h,hb,hrun⟩ := cap_one h
      exact ⟨v,h,fun K' hK => by simp only [hu]; exact hb _ hK,fun a hr w => by
        simp only [execOp,hop]
        obtain ⟨cs,e⟩ := Df (P := P) hr hc (by rw [hx]; exact V7 hu) o.type w
        rw [e]
        exact Bl (hrun _ w)⟩
    · rename_i x y hc hx
      split at h
      · rename_i k i k' j h1 h2
        exact ⟨_,h,fun K' hK => hK,fun a hr w => by
          simp only [execOp,hop]
          obtain ⟨cs,e⟩ := Df (P := P) hr hc (by rw [hx]; exact ZW h1 h2) o.type w
          rw [e]
          refine Bl ?_
          simp [Builtin.min_,Builtin.min2]
          omega⟩
      · exact h.elim
    · rename_i x y hc hx
      split at h
      · rename_i k i k' j h1 h2
        exact ⟨_,h,fun K' hK => hK,fun a hr w => by
          simp only [execOp,hop]
          obtain ⟨cs,e⟩ := Df (P := P) hr hc (by rw [hx]; exact ZW h1 h2) o.type w
          rw [e]
          refine Bl ?_
          simp [Builtin.max_,Builtin.max2]
          omega⟩
      · exact h.elim
    · exact h.elim
theorem read_run {o : Oper} {w : World} {v : Value} (h : Fa P fr o w v) {a : Act} (hr : Ref nt ds fr a) : (execOp a.eval o).run P w = .ok (.value v) w := by
  cases hop : o.op <;> simp only [Fa,hop] at h <;> try exact h.elim
  case load t x =>
    split at h
    · rename_i p hx
      obtain ⟨ad,rfl,h⟩ := Ej h
      simp only [execOp,hop,hr.ev hx]
      refine Bl ?_
      have h' : (loadVar t ad).run P w = .ok v w := h
      simp [Instr.loadAt,Instr.sureAddr,h']
    · exact h.elim
  case lookup t x k ok =>
    obtain ⟨m,hm,h⟩ := AX h
    obtain ⟨k,hk,h⟩ := AX h
    simp only [execOp,hop,hr.ev hm,hr.ev hk]
    exact Bl h
  case binOp op t x y yt =>
    obtain ⟨u,hx,h⟩ := AX h
    obtain ⟨u',hy,h⟩ := AX h
    split at h
    · simp only [execOp,hop,hr.ev hx,hr.ev hy]
      exact Bl h
    · exact h.elim
  case convert src dst x =>
    obtain ⟨u,hx,h⟩ := AX h
    simp only [execOp,hop,hr.ev hx]
    exact Bl h
  case typeAssert x xT t ok =>
    obtain ⟨u,hx,h⟩ := AX h
    simp only [execOp,hop,hr.ev hx]
    exact Bl h
  case call c =>
    split at h
    · rename_i x hc hx
      obtain ⟨u,hu,h⟩ := AX h
      simp only [execOp,hop]
      obtain ⟨cs,e⟩ := Df (P := P) hr hc (by rw [hx]; exact V7 hu) o.type w
      rw [e]
      exact Bl h
    · exact h.elim
def LD (P : Program) : Prop := ∀ (f : FuncId) (fn : Func), P.funcs[f]? = some fn → (fn.name == "runtime.NumGoroutine") = false
theorem W_fn (rd : Option Nat) (f : FuncId) : (W rd).fn f := trivial
theorem Vw (rd : Option Nat) : (W rd).depth = none := rfl
theorem Tj {rd : Option Nat} {n : Nat} {f : FuncId} {args : Array Value} {w : World} {R : Ending → World → Prop} (h : Calls P f args w R) : CallsIn (W rd) n P f args w R :=
  (callsIn_wide (n := n)).2 h
theorem Xy {f : FuncId} {fn : Func} {c : Code} {args : Array Value} {w : World} (hN : LD P) (hf : P.funcs[f]? = some fn) (hb : fn.body = some c) : (callFunc f args).run P w = .ok (.enter f args) w := by
  have h1 := hN f fn hf
  simp only [callFunc,Sem.run_bind,run_program,Result.andThen_ok,hf]
  rw [if_neg (by simpa using h1)]
  simp [hb]
theorem ZE {a : Array Value} (h : a.toList = []) : a = #[] := by apply Array.toList_inj.1; simpa using h
theorem Hu {t e : TypeId} {len : Nat} {ps : List (Nat × Value)} {l : List Value} (h : MX P t len ps = some (e,l)) (w : World) :
    (Instr.buildSlice t len ps.toArray).run P w = .ok (.slice (some ⟨w.heap.size,0,none⟩) len len) (w.alloc (.cells l.toArray e)) := by
  simp only [MX] at h
  split at h
  · rename_i e' hu
    split at h
    · rename_i i hi
      split at h
      · rename_i z hz
        split at h
        · cases h
        · rename_i hc
          simp only [Bool.or_eq_true,decide_eq_true_eq,not_or,Decidable.not_not] at hc
          obtain ⟨⟨hc1,hc2⟩,hc3⟩ := hc
          split at h
          · rename_i l' hl
            cases h
            have hzero : (zeroValue e).run P w = .ok z w := by simp [zeroValue,typeInfo,hi,hz]
            have hsize : (sizeOf e).run P w = .ok i.size w := by simp [sizeOf,typeInfo,hi]
            have hf := JM _ _ _ _ hl
            have hrep : ∀ n,repL z.cells.toList n = ((Array.range (n * i.size)).map (z.cells[· % z.cells.size]!)).toList := by
              intro n
              induction n with
              | zero => simp [repL]
              | succ n ih =>
                have e1 : repL z.cells.toList (n + 1) = repL z.cells.toList n ++ z.cells.toList := by
                  clear ih
                  induction n with
                  | zero => simp [repL]
                  | succ n ih =>
                    show z.cells.toList ++ repL z.cells.toList (n + 1) = (z.cells.toList ++ repL z.cells.toList n) ++ z.cells.toList
                    rw [ih,List.append_assoc]
                rw [e1,ih]
                rw [show (n + 1) * i.size = n * i.size + i.size from Nat.succ_mul n i.size]
                apply List.ext_getElem?
                intro k
                simp only [Array.toList_map,Array.toList_range,List.getElem?_append,List.length_map,List.length_range,List.getElem?_map]
                by_cases hk : k < n * i.size
                · rw [if_pos hk,List.getElem?_range hk,List.getElem?_range (by omega)]
                · rw [if_neg hk]
                  by_cases hk2 : k < n * i.size + i.size
                  · rw [List.getElem?_range hk2]
                    have hm : k % z.cells.size = k - n * i.size := by
                      rw [hc1,Nat.mod_eq_sub_mul_div]
                      have : k / i.size = n := by
                        apply Nat.div_eq_of_lt_le
                        · omega
                        · rw [Nat.succ_mul]; omega
                      rw [this,Nat.mul_comm]
                    have hlt : k - n * i.size < z.cells.size := by omega
                    simp only [Option.map_some,hm]
                    rw [getElem!_pos z.cells _ hlt]
                    simp [hlt]
                  · rw [List.getElem?_eq_none (by simp; omega),List.getElem?_eq_none (by simp; omega)]
                    rfl
            rw [hrep] at hf
            simp only [Array.toArray_toList] at hf
            simp only [Instr.buildSlice,Sem.run_bind,Am hu,Result.andThen_ok,hsize]
            rw [if_neg (by omega)]
            by_cases h0 : len * i.size = 0
            · have hlen : len = 0 := (Nat.mul_eq_zero.1 h0).resolve_right hc2
              subst hlen
              have em : ∀ f : Nat → Value,Array.map f (Array.range 0) = #[] := fun f => by apply Array.toList_inj.1; simp
              simp only [Nat.zero_mul,if_true,Sem.run_bind,Sem.run_pure,Result.andThen_ok,em] at hf ⊢
              rw [hf]
              rfl
            · simp only [if_neg h0,Sem.run_bind,Sem.run_map,Sem.run_pure,hzero,Result.andThen_ok]
              rw [hf]
              rfl
          · cases h
      · cases h
    · cases h
  · cases h
theorem eff_upon {rd : Option Nat} {n : Nat} (hN : LD P) {o : Oper} {w : World} {K : Option Value → World → Prop} (h : effV P ops fr o w K) {a : Act} (hr : Ref nt ds fr a)
    {next : Act → World → Prop} {Q : Exit → Act → World → Prop} (hK : ∀ rv w',K rv w' → ∀ v : Value,(∀ u,rv = some u → v = u) → next (a.put o.dst v) w') :
    o.uponIn (W rd) n P a next Q ((execOp a.eval o).run P w) ∧ ∀ c,o.op ≠ .defer c := by
  have val : ∀ {s : Sem Value} {v : Value} {w1 : World},s.run P w = .ok v w1 → K (some v) w1 → o.uponIn (W rd) n P a next Q ((do pure (Next.value (← s)) : Sem Next).run P w) := by
    intro s v w1 hs hk
    rw [Bl hs]
    exact hK _ _ hk _ (fun u hu => by cases hu; rfl)
  have uni : ∀ {s : Sem Unit} {w1 : World},s.run P w = .ok () w1 → K none w1 → o.uponIn (W rd) n P a next Q ((do s; pure Next.skip : Sem Next).run P w) := by
    intro s w1 hs hk
    rw [run_unit hs]
    exact hK _ _ hk _ (fun u hu => by cases hu)
  cases hop : o.op <;> simp only [effV,hop] at h <;> try exact h.elim
  case alloc t =>
    refine ⟨?_,fun c hc => by cases hc⟩
    split at h
    · rename_i z hz
      rw [EQ,zl_of hz] at h
      simp only [execOp,hop]
      exact val (v := .pointer (some ⟨w.heap.size,0,none⟩)) (w1 := w.alloc (.cells z.cells t)) (by simp only [Instr.alloc,Sem.run_bind,He hz,Result.andThen_ok]; rfl) (h _ _ ⟨rfl,by simp⟩)
    · exact h.elim
  case box t x =>
    refine ⟨?_,fun c hc => by cases hc⟩
    obtain ⟨v,hv,h⟩ := AX h
    rw [EQ] at h
    simp only [execOp,hop,hr.ev hv]
    exact val (v := .pointer (some ⟨w.heap.size,0,none⟩)) (w1 := w.alloc (.cells v.cells t)) rfl (h _ _ ⟨rfl,by simp⟩)
  case buildSlice t len parts =>
    refine ⟨?_,fun c hc => by cases hc⟩
    split at h
    · rename_i ps hps
      split at h
      · obtain ⟨e,l,h1,h⟩ := h
        simp only [execOp,hop,run_parts hr hps]
        exact val (Hu h1 w) (h _ _ ⟨rfl,rfl⟩)
      · split at h
        · rename_i e cs hcs
          rw [Ea] at h
          simp only [execOp,hop,run_parts hr hps]
          exact val (Hu hcs w) (h _ _ ⟨rfl,rfl⟩)
        · exact h.elim
    · exact h.elim
  case store t x y =>
    refine ⟨?_,fun c hc => by cases hc⟩
    split at h
    · rename_i p v hx hy
      obtain ⟨ad,rfl,w1,h1,h⟩ := Ej h
      simp only [execOp,hop,hr.ev hx,hr.ev hy]
      exact uni (by have h1' : (storeVar t ad v).run P w = .ok () w1 := h1; simp [Instr.storeAt,Instr.sureAddr,h1']) h
    · exact h.elim
  case convert src dst x =>
    refine ⟨?_,fun c hc => by cases hc⟩
    obtain ⟨v,hv,ad,l,c,w1,h1,h⟩ := AX h
    simp only [execOp,hop,hr.ev hv]
    exact val h1 h
  case makeSlice t l c =>
    refine ⟨?_,fun c hc => by cases hc⟩
    obtain ⟨l,hl,h⟩ := AX h
    obtain ⟨c,hc,ad,n',m,w1,h1,h⟩ := AX h
    simp only [execOp,hop,hr.ev hl,hr.ev hc]
    exact val h1 h
  case makeMap t r =>
    refine ⟨?_,fun c hc => by cases hc⟩
    cases r with
    | none =>
      simp only [execOp,hop]
      exact val (v := .map (some w.heap.size)) (w1 := w.alloc (.map #[] 0)) rfl (h _ _ ⟨rfl,rfl⟩)
    | some x =>
      obtain ⟨v,hv,m,w1,h1,h⟩ := AX h
      simp only [execOp,hop,Option.map_some,hr.ev hv]
      exact val h1 h
  case mapUpdate t m k x =>
    refine ⟨?_,fun c hc => by cases hc⟩
    obtain ⟨m,hm,h⟩ := AX h
    obtain ⟨k,hk,h⟩ := AX h
    obtain ⟨v,hv,w1,h1,h⟩ := AX h
    simp only [execOp,hop,hr.ev hm,hr.ev hk,hr.ev hv]
    exact uni h1 h
  case insert t m k x =>
    refine ⟨?_,fun c hc => by cases hc⟩
    obtain ⟨m,hm,h⟩ := AX h
    obtain ⟨k,hk,h⟩ := AX h
    obtain ⟨v,hv,w1,h1,h⟩ := AX h
    simp only [execOp,hop,hr.ev hm,hr.ev hk,hr.ev hv]
    exact uni h1 h
  case mapEntry t m k =>
    refine ⟨?_,fun c hc => by cases hc⟩
    obtain ⟨m,hm,h⟩ := AX h
    obtain ⟨k,hk,h⟩ := AX h
    obtain ⟨v,i,w1,h1,h⟩ := h
    simp only [execOp,hop,hr.ev hm,hr.ev hk]
    exact val h1 h
  case entryStore t m s x =>
    refine ⟨?_,fun c hc => by cases hc⟩
    obtain ⟨m,hm,h⟩ := AX h
    obtain ⟨k,hk,h⟩ := AX h
    obtain ⟨v,hv,w1,h1,h⟩ := AX h
    simp only [execOp,hop,hr.ev hm,hr.ev hk,hr.ev hv]
    exact uni h1 h
  case range t x =>
    refine ⟨?_,fun c hc => by cases hc⟩
    obtain ⟨v,hv,p,w1,h1,h⟩ := AX h
    simp only [execOp,hop,hr.ev hv]
    exact val h1 h
  case next it isS =>
    refine ⟨?_,fun c hc => by cases hc⟩
    obtain ⟨v,hv,h⟩ := AX h
    simp only [execOp,hop,hr.ev hv]
    rcases h with ⟨w1,h1,h⟩ | ⟨k,v,w1,h1,h⟩
    · exact val h1 h
    · exact val h1 h
  case entry it =>
    refine ⟨?_,fun c hc => by cases hc⟩
    obtain ⟨v,hv,h⟩ := AX h
    obtain ⟨k,h⟩ := NS h
    obtain ⟨u,w1,h1,h⟩ := NS h
    simp only [execOp,hop,hr.ev hv]
    exact val h1 h
  case call c =>
    refine ⟨?_,fun c hc => by cases hc⟩
    split at h
    · exact h.elim
    · rename_i args hargs
      simp only [execOp,hop]
      split at h
      · rename_i hc
        split at h
        · obtain ⟨ad,n',m,w1,h1,h⟩ := h
          obtain ⟨cs,e⟩ := Df (P := P) hr hc hargs o.type w
          rw [e]
          exact val h1 h
        · exact h.elim
      · rename_i hc
        split at h
        · obtain ⟨n',w1,h1,h⟩ := h
          obtain ⟨cs,e⟩ := Df (P := P) hr hc hargs o.type w
          rw [e]
          exact val h1 h
        · exact h.elim
      · rename_i hc
        split at h
        · obtain ⟨w1,h1,h⟩ := h
          obtain ⟨cs,e⟩ := Df (P := P) hr hc hargs o.type w
          rw [e]
          exact val h1 h
        · exact h.elim
      · rename_i hc
        split at h
        · obtain ⟨w1,h1,h⟩ := h
          obtain ⟨cs,e⟩ := Df (P := P) hr hc hargs o.type w
          rw [e]
          exact val h1 h
        · exact h.elim
      · exact h.elim
      · rename_i f hc
        obtain ⟨fv,hf,h⟩ := AX h
        unfold VX Du at h
        split at h
        · rename_i g fi ca
          split at h
          · rename_i fn hfn
            split at h
            · rename_i cd hb
              have h1 := Xy (args := (fi.toList ++ args ++ ca.toList).toArray) (w := w) hN hfn hb
              have e : (do let d ← resolve a.eval c o.type; invoke d.target d.args : Sem Next).run P w = .ok (.enter g (fi.toList ++ args ++ ca.toList).toArray) w := by
                have ea : fi ++ args.toArray ++ ca = (fi.toList ++ args ++ ca.toList).toArray := by
                  apply Array.toList_inj.1; simp
                simp only [resolve,hc,hr.ev hf,Deferred.ofValue,Sem.run_bind,Sem.run_pure,Result.andThen_ok,invoke,hr.evsA hargs,ea,h1]
              rw [e,Oper.uponIn_enter]
              refine ⟨fun hd => by simp [Vw] at hd,(Tj h.run).mono ?_⟩
              intro e w' he
              obtain ⟨v,rfl,hk⟩ := KC he
              exact hK _ _ hk _ (fun u hu => by cases hu; rfl)
            · exact h.elim
          · exact h.elim
        · rename_i l fi ca
          split at h
          · rename_i hfi hca
            have e1 := ZE hfi
            have e2 := ZE hca
            subst e1; subst e2
            obtain ⟨fn',tm,as1,bd,hy,hro⟩ := h.run rd (n - 1)
            have e : (do let d ← resolve a.eval c o.type; invoke d.target d.args : Sem Next).run P w = .ok (.round l fn' tm as1 bd) w := by
              simp only [resolve,hc,hr.ev hf,Deferred.ofValue,Sem.run_bind,Sem.run_pure,Result.andThen_ok,invoke,hr.evsA hargs,Array.empty_append,hy]
            rw [e,Oper.uponIn_round]
            refine ⟨fun hd => by simp [Vw] at hd,hro.mono ?_⟩
            intro e w' he
            obtain ⟨v,rfl,hk⟩ := KC he
            exact hK _ _ hk _ (fun u hu => by cases hu; rfl)
          · exact h.elim
        · exact h.elim
      · exact h.elim
end
theorem Oa{bef:Nat->Nat->Bool}{j:Nat}:∀{p:Past}{w:World}{X:Prop},again bef j p w X->X
 | [],w,X,h=>h
 |(i,f)::p,w,X,h=>by
  simp only[again]at h
  split at h
  ·exact Oa h
  ·exact Oa h.2
theorem EX{bef:Nat->Nat->Bool}{j:Nat}:∀{p:Past}{w:World}{X:Prop},again bef j p w X↔(∀x∈p,bef x.1 j=false->x.2 w)/\X
 | [],w,X=>by simp[again]
 |(i,f)::p,w,X=>by
  simp only[again]
  split
  ·rename_i hb
   rw[EX]
   simp[hb]
  ·rename_i hb
   rw[EX]
   simp[hb,and_assoc]
theorem EZ{sp:Bool}{v:Value}{K:Value->Prop}:spl sp v K↔K v:=by
 unfold spl
 split
 ·rename_i b
  cases b<;>simp[br]
 ·rfl
section
variable{wr:Bool}{P:Program}{bef:Nat->Nat->Bool}{ops:List Oper}{nt:Nat}{ds:List Deferred}{fr:Fr}{rd:Option Nat}{n:Nat}
theorem pure_defer{o:Oper}{K:Value->Prop}(h:Ns wr P fr o K):∀c,o.op≠.defer c:=by
 intro c hc;simp[Ns,hc]at h
theorem read_defer{o:Oper}{w:World}{v:Value}(h:Fa P fr o w v):∀c,o.op≠.defer c:=by
 intro c hc;simp[Fa,hc]at h
theorem Oh(hN:LD P){i:Nat}{o:Oper}{w:World}{past:Past}{K:Option Value->World->Past->Prop}(h:F9 wr P bef ops i o fr w past K){a:Act}(hr:Ref nt ds fr a)
  {next:Act->World->Prop} {Q:Exit->Act->World->Prop} (hK:∀rv w' past',K rv w' past'->∀v:Value,(∀u,rv=some u->v=u)->next (a.put o.dst v) w'):
  o.wpIn (W rd) n P a w next Q:=by
 refine⟨fun f _=>trivial,?_⟩
 have go:∀(hd:∀c,o.op≠.defer c),o.uponIn (W rd) n P a next Q ((execOp a.eval o).run P w)->o.uponIn (W rd) n P a next Q ((o.semAt (W rd).round a.eval).run P w):=fun hd h=>by
  rw[Oper.semAt_eq _ _ _ hd];exact h
 unfold F9 at h
 split at h
 ·have hd:=pure_defer h
  obtain⟨v,h,-,hrun⟩:=MP (nt:=nt) (ds:=ds) h
  refine go hd ?_
  rw[hrun a hr w]
  exact hK _ _ _ (EZ.1 h) v (fun u hu=>by cases hu;rfl)
 ·obtain⟨v,hv,h⟩:=KC h
  refine go (read_defer hv) ?_
  rw[read_run hv hr]
  exact hK _ _ _ (EZ.1 h) v (fun u hu=>by cases hu;rfl)
 ·obtain⟨h,hd⟩:=eff_upon (rd:=rd) (n:=n) (Q:=Q) (next:=next) hN h hr (fun rv w' hk v hv=>by
   have:=Oa hk
   split at this
   ·exact hK _ _ _ (EZ.1 this) v hv
   ·exact hK _ _ _ this v hv)
  exact go hd h
theorem wanted_none{o:Oper}(h:o.guard=none)(y:Nat->Option Bool):Region.wanted o y=true:=by simp[Region.wanted,h]
theorem yielded_of{opsA:Array Oper}{a:Act}(hr:Ref nt ds fr a){j s:Nat}{b:Bool}(hs:Ew opsA.toList j=some s)(hf:fget fr s=some (.bool b)):yielded opsA a.tmps j=some b:=by
 have hv:=hr.val s _ hf
 unfold Ew at hs
 split at hs
 ·rename_i o ho
  have ho':opsA[j]? =some o:=by simpa using ho
  simp[yielded,ho',hs,hv]
 ·cases hs
theorem yielded_not{opsA:Array Oper}{a:Act}(hr:Ref nt ds fr a){j s:Nat}{vs:Array Value}(hs:Ew opsA.toList j=some s)(hf:fget fr s=some (.tuple vs)):yielded opsA a.tmps j=none:=by
 have hv:=hr.val s _ hf
 unfold Ew at hs
 split at hs
 ·rename_i o ho
  have ho':opsA[j]? =some o:=by simpa using ho
  simp[yielded,ho',hs,hv]
 ·cases hs
theorem UD(hN:LD P){opsA:Array Oper}{Q:Exit->Act->World->Prop}{i:Nat}{o:Oper}{rest:List Nat}{w:World}{past:Past}{K:Option Value->World->Past->Prop}(ho:opsA.toList[i]? =some o)
  (h:stepD wr P bef opsA.toList i o fr w past K) {a:Act} (hr:Ref nt ds fr a)
  (hK:∀rv w' past',K rv w' past'->∀v:Value,(∀u,rv=some u->v=u)->wpOpsIn (W rd) n P opsA Q rest (a.put o.dst v) w'):
  wpOpsIn (W rd) n P opsA Q (i::rest) a w:=by
 have ho':opsA[i]? =some o:=by simpa using ho
 simp only[wpOpsIn,ho']
 unfold stepD at h
 split at h
 ·rename_i hg
  rw[if_pos (wanted_none hg _)]
  exact Oh hN h hr hK
 ·rename_i j want hg
  split at h
  ·exact h.elim
  ·rename_i s hs
   split at h
   ·rename_i b hf
    have hy:=yielded_of hr hs hf
    have hw:Region.wanted o (yielded opsA a.tmps)=(b==want):=by
     simp[Region.wanted,hg,hy]
    rw[hw]
    split at h
    ·exact Oh hN h hr hK
    ·exact Oh hN h hr hK
    ·rename_i h1 h2
     have:(b==want)=false:=by
      cases b<;>cases want<;>simp_all
     rw[this,if_neg (by simp)]
     exact⟨fun f _=>trivial,hK _ _ _ h undef (fun u hu=>by cases hu;rfl)⟩
   ·rename_i vs hf
    have hw:Region.wanted o (yielded opsA a.tmps)=false:=by
     simp[Region.wanted,hg,yielded_not hr hs hf]
    rw[hw,if_neg (by simp)]
    exact⟨fun f _=>trivial,hK _ _ _ h undef (fun u hu=>by cases hu;rfl)⟩
   ·exact h.elim
theorem WS(hN:LD P){opsA:Array Oper}{Q:Exit->Act->World->Prop}{K:Fr->World->Prop}(hQ:∀fr w a,K fr w->Ref nt ds fr a->Q .normal a w):
  ∀(σ:List Nat)(fr:Fr)(w:World)(past:Past)(a:Act),runV wr P nt bef opsA.toList K σ fr w past->Ref nt ds fr a->wpOpsIn (W rd) n P opsA Q σ a w
 | [],fr,w,past,a,h,hr=>hQ _ _ _ h hr
 |i::r,fr,w,past,a,h,hr=>by
  simp only[runV]at h
  split at h
  ·exact h.elim
  ·rename_i o ho
   refine UD hN ho h hr fun rv w' past' hk v hv=>?_
   obtain⟨fr',hk,hr'⟩:=hr.fput hv hk
   exact WS hN hQ r _ _ _ _ hk hr'
end
section
variable{wr:Bool}{P:Program}{ops:List Oper}{fr fr':Fr}
theorem KW:∀{l:List Operand},(∀x∈l,ev fr x=ev fr' x)->evs fr l=evs fr' l
 | [],_=>rfl
 |x::r,h=>by
  simp only[evs]
  rw[h x (by simp),KW (fun y hy=>h y (by simp[hy]))]
theorem Jm:∀{l:List (Nat×Operand)},(∀x∈l,ev fr x.2=ev fr' x.2)->partsOf fr l=partsOf fr' l
 | [],_=>rfl
 |(i,x)::r,h=>by
  simp only[partsOf]
  rw[h (i,x) (by simp),Jm (fun y hy=>h y (by simp[hy]))]
theorem O3{x:Option Operand}(h:∀y∈x.toArray,ev fr y=ev fr' y)(k:Option Int->Prop):opI fr x k=opI fr' x k:=by
 cases x with
 |none=>rfl
 |some o=>simp only[opI];rw[h o (by simp)]
theorem pure_congr{o:Oper}(h:∀x∈o.op.operands,ev fr x=ev fr' x)(K:Value->Prop):Ns wr P fr o K=Ns wr P fr' o K:=by
 cases hop:o.op<;>simp only[Ns,hop]<;>rw[hop]at h<;>simp only[Op.operands]at h
 case move x=>rw[h x (by simp)]
 case assign x=>rw[h x (by simp)]
 case pick a b c=>rw[h a (by simp),h b (by simp),h c (by simp)]
 case build t ps=>rw[Jm (fun x hx=>h x.2 (by simp;exact⟨x.1,Array.mem_toList_iff.1 hx⟩))]
 case nilCheck x=>rw[h x (by simp)]
 case binOp op t x y yt=>rw[h x (by simp),h y (by simp)]
 case unOp op t x=>rw[h x (by simp)]
 case convert s d x=>rw[h x (by simp)]
 case makeInterface t x=>rw[h x (by simp)]
 case makeFunc fn a b=>rw[KW (fun x hx=>h x (by simp at hx⊢;exact .inl hx)),KW (l:=b.toList) (fun x hx=>h x (by simp at hx⊢;exact .inr hx))]
 case slice t x lo hi mx=>
  have e:∀v,Jl P fr t v lo hi mx K=Jl P fr' t v lo hi mx K:=by
   intro v
   simp only[Jl]
   rw[O3 (x:=lo) (fun y hy=>h y (by simp at hy⊢;simp[hy]))]
   congr 1;funext l
   rw[O3 (x:=hi) (fun y hy=>h y (by simp at hy⊢;simp[hy]))]
   congr 1;funext hh
   rw[O3 (x:=mx) (fun y hy=>h y (by simp at hy⊢;simp[hy]))]
  rw[h x (by simp)]
  congr 1;funext v;exact e v
 case sliceToArrayPointer t x=>rw[h x (by simp)]
 case fieldAddr s x f=>rw[h x (by simp)]
 case field t x f=>rw[h x (by simp)]
 case indexAddr t x i=>rw[h x (by simp),h i (by simp)]
 case index t x i=>rw[h x (by simp),h i (by simp)]
 case extract x i=>rw[h x (by simp)]
 case call c=>
  have hm:∀x∈c.args.toList,ev fr x=ev fr' x:=fun x hx=>h x (by simp[Call.operands];exact .inr (by simpa using hx))
  split
  ·rename_i x hc hx;rw[hm x (by simp[hx])]
  ·rename_i x hc hx;rw[hm x (by simp[hx])]
  ·rename_i x y hc hx;rw[hm x (by simp[hx]),hm y (by simp[hx])]
  ·rename_i x y hc hx;rw[hm x (by simp[hx]),hm y (by simp[hx])]
  ·rfl
theorem RY{o:Oper}(h:∀x∈o.op.operands,ev fr x=ev fr' x)(w:World)(v:Value):Fa P fr o w v=Fa P fr' o w v:=by
 cases hop:o.op<;>simp only[Fa,hop]<;>rw[hop]at h<;>simp only[Op.operands]at h
 case load t x=>rw[h x (by simp)]
 case lookup t x k ok=>rw[h x (by simp),h k (by simp)]
 case binOp op t x y yt=>rw[h x (by simp),h y (by simp)]
 case convert s d x=>rw[h x (by simp)]
 case typeAssert x xT t ok=>rw[h x (by simp)]
 case call c=>
  have hm:∀x∈c.args.toList,ev fr x=ev fr' x:=fun x hx=>h x (by simp[Call.operands];exact .inr (by simpa using hx))
  split
  ·rename_i x hc hx;rw[hm x (by simp[hx])]
  ·rfl
theorem eff_congr{o:Oper}(h:∀x∈o.op.operands,ev fr x=ev fr' x)(w:World)(K:Option Value->World->Prop):effV P ops fr o w K=effV P ops fr' o w K:=by
 cases hop:o.op<;>simp only[effV,hop]<;>rw[hop]at h<;>simp only[Op.operands]at h
 case box t x=>rw[h x (by simp)]
 case buildSlice t n ps=>rw[Jm (fun x hx=>h x.2 (by simp;exact⟨x.1,Array.mem_toList_iff.1 hx⟩))]
 case store t x y=>rw[h x (by simp),h y (by simp)]
 case convert s d x=>rw[h x (by simp)]
 case makeSlice t x y=>rw[h x (by simp),h y (by simp)]
 case makeMap t r=>
  cases r with
  |none=>rfl
  |some x=>simp only;rw[h x (by simp)]
 case mapUpdate t m k x=>rw[h m (by simp),h k (by simp),h x (by simp)]
 case insert t m k x=>rw[h m (by simp),h k (by simp),h x (by simp)]
 case mapEntry t m k=>rw[h m (by simp),h k (by simp)]
 case entryStore t m k x=>rw[h m (by simp),h k (by simp),h x (by simp)]
 case range t x=>rw[h x (by simp)]
 case next x s=>rw[h x (by simp)]
 case entry x=>rw[h x (by simp)]
 case call c=>
  have hm:∀x∈c.args.toList,ev fr x=ev fr' x:=fun x hx=>h x (by simp[Call.operands];exact .inr (by simpa using hx))
  rw[KW hm]
  cases hc:c.callee with
  |value f=>
   have hf:=h f (by simp[Call.operands,hc])
   cases evs fr' c.args.toList with
   |none=>rfl
   |some args=>simp only[hf]
  |invoke r m=>rfl
  |builtin b=>
   cases evs fr' c.args.toList with
   |none=>rfl
   |some args=>cases b<;>rfl
end
section
variable{P:Program}{ops:List Oper}{fr:Fr}
theorem SB{fv:Value}{args:List Value}{w:World}{R R':Ending->World->Prop}(hr:∀e w',R e w'->R' e w')(h:Du P fv args w R):Du P fv args w R':=by
 unfold Du at h⊢
 split at h
 ·split at h
  ·split at h
   ·exact⟨Calls.mono h.run hr⟩
   ·exact h.elim
  ·exact h.elim
 ·split at h
  ·refine⟨fun rd n=>?_⟩
   obtain⟨fn,tm,as1,bd,hy,hro⟩:=h.run rd n
   exact⟨fn,tm,as1,bd,hy,hro.mono hr⟩
  ·exact h.elim
 ·exact h.elim
theorem callX_some{fv:Value}{args:List Value}{w:World}{R:Ending->World->Prop}(h:Du P fv args w R):∃e w',R e w':=by
 unfold Du at h
 split at h
 ·split at h
  ·split at h
   ·obtain⟨e,w',fr',h,_⟩:=h.run [];exact⟨_,_,h⟩
   ·exact h.elim
  ·exact h.elim
 ·split at h
  ·obtain⟨fn,tm,as1,bd,hy,hro⟩:=h.run none 0
   obtain⟨e,w',h,_⟩:=hro.2 default [] (by simp[Fence.room,W,Fence.wide])
   exact⟨_,_,h⟩
  ·exact h.elim
 ·exact h.elim
theorem callF_mono{fv:Value}{args:List Value}{t:TypeId}{w:World}{K K':Option Value->World->Prop}(hk:∀rv w',K rv w'->K' rv w')(h:VX P fv args t w K):VX P fv args t w K':=
 SB (fun e w' h=>Qj (fun v h=>⟨h.1,hk _ _ h.2⟩) h) h
theorem NP{o:Oper}{w:World}{K K':Option Value->World->Prop}(hk:∀rv w',K rv w'->K' rv w')(h:effV P ops fr o w K):effV P ops fr o w K':=by
 cases hop:o.op<;>simp only[effV,hop]at h⊢ <;>try exact h.elim
 case alloc t=>
  split at h
  ·rw[EQ]at h⊢;exact fun b w1 hn=>hk _ _ (h b w1 hn)
  ·exact h.elim
 case box t x=>
  obtain⟨v,hv,h⟩:=AX h
  rw[hv];simp only[onV]
  rw[EQ]at h⊢;exact fun b w1 hn=>hk _ _ (h b w1 hn)
 case buildSlice t n ps=>
  split at h
  ·split at h
   ·obtain⟨e,l,h1,h⟩:=h
    exact⟨e,l,h1,fun b w1 hn=>hk _ _ (h b w1 hn)⟩
   ·split at h
    ·rw[Ea]at h⊢;exact fun b w1 hn=>hk _ _ (h b w1 hn)
    ·exact h.elim
  ·exact h.elim
 case store t x y=>
  split at h
  ·obtain⟨p,rfl,w1,h1,h⟩:=Ej h
   exact⟨w1,h1,hk _ _ h⟩
  ·exact h.elim
 case convert s d x=>
  obtain⟨v,hv,a,b,c,w1,h1,h⟩:=AX h
  rw[hv];exact⟨a,b,c,w1,h1,hk _ _ h⟩
 case makeSlice t x y=>
  obtain⟨v,hv,h⟩:=AX h
  obtain⟨u,hu,a,b,c,w1,h1,h⟩:=AX h
  rw[hv,hu];exact⟨a,b,c,w1,h1,hk _ _ h⟩
 case makeMap t r=>
  cases r with
  |none=>exact fun b w1 hn=>hk _ _ (h b w1 hn)
  |some x=>
   obtain⟨v,hv,m,w1,h1,h⟩:=AX h
   simp only;rw[hv];exact⟨m,w1,h1,hk _ _ h⟩
 case mapUpdate t m k x=>
  obtain⟨m',hm,h⟩:=AX h
  obtain⟨k',hk',h⟩:=AX h
  obtain⟨x',hx',w1,h1,h⟩:=AX h
  rw[hm,hk',hx'];exact⟨w1,h1,hk _ _ h⟩
 case insert t m k x=>
  obtain⟨m',hm,h⟩:=AX h
  obtain⟨k',hk',h⟩:=AX h
  obtain⟨x',hx',w1,h1,h⟩:=AX h
  rw[hm,hk',hx'];exact⟨w1,h1,hk _ _ h⟩
 case mapEntry t m k=>
  obtain⟨m',hm,h⟩:=AX h
  obtain⟨k',hk',h⟩:=AX h
  obtain⟨v,i,w1,h1,h⟩:=h
  rw[hm,hk'];exact⟨v,i,w1,h1,hk _ _ h⟩
 case entryStore t m k x=>
  obtain⟨m',hm,h⟩:=AX h
  obtain⟨k',hk',h⟩:=AX h
  obtain⟨x',hx',w1,h1,h⟩:=AX h
  rw[hm,hk',hx'];exact⟨w1,h1,hk _ _ h⟩
 case range t x=>
  obtain⟨v,hv,p,w1,h1,h⟩:=AX h
  rw[hv];exact⟨p,w1,h1,hk _ _ h⟩
 case next x s=>
  obtain⟨v,hv,h⟩:=AX h
  rw[hv]
  rcases h with⟨w1,h1,h⟩|⟨k,u,w1,h1,h⟩
  ·exact .inl ⟨w1,h1,hk _ _ h⟩
  ·exact .inr ⟨k,u,w1,h1,hk _ _ h⟩
 case entry x=>
  obtain⟨v,hv,h⟩:=AX h
  rw[hv];exact Xk (fun k h=>Xk (fun v ⟨w1,h1,h⟩=>⟨w1,h1,hk _ _ h⟩) h) h
 case call c=>
  split at h
  ·exact h.elim
  ·split at h
   ·split at h
    ·obtain⟨a,b,c,w1,h1,h⟩:=h;exact⟨a,b,c,w1,h1,hk _ _ h⟩
    ·exact h.elim
   ·split at h
    ·obtain⟨a,w1,h1,h⟩:=h;exact⟨a,w1,h1,hk _ _ h⟩
    ·exact h.elim
   ·split at h
    ·obtain⟨w1,h1,h⟩:=h;exact⟨w1,h1,hk _ _ h⟩
    ·exact h.elim
   ·split at h
    ·obtain⟨w1,h1,h⟩:=h;exact⟨w1,h1,hk _ _ h⟩
    ·exact h.elim
   ·exact h.elim
   ·obtain⟨fv,hf,h⟩:=AX h
    rw[hf]
    exact callF_mono hk h
   ·exact h.elim
theorem Xg{o:Oper}{w:World}{K:Option Value->World->Prop}(h:effV P ops fr o w K):∃rv w',K rv w':=by
 cases hop:o.op<;>simp only[effV,hop]at h<;>try exact h.elim
 case alloc t=>
  split at h
  ·rw[EQ]at h;exact⟨_,_,h _ _ ⟨rfl,rfl⟩⟩
  ·exact h.elim
 case box t x=>
  obtain⟨v,hv,h⟩:=AX h
  rw[EQ]at h;exact⟨_,_,h _ _ ⟨rfl,rfl⟩⟩
 case buildSlice t n ps=>
  split at h
  ·split at h
   ·obtain⟨e,l,h1,h⟩:=h
    exact⟨_,_,h _ _ ⟨rfl,rfl⟩⟩
   ·split at h
    ·rw[Ea]at h;exact⟨_,_,h _ _ ⟨rfl,rfl⟩⟩
    ·exact h.elim
  ·exact h.elim
 case store t x y=>
  split at h
  ·obtain⟨p,rfl,w1,h1,h⟩:=Ej h
   exact⟨_,_,h⟩
  ·exact h.elim
 case convert s d x=>
  obtain⟨v,hv,a,b,c,w1,h1,h⟩:=AX h
  exact⟨_,_,h⟩
 case makeSlice t x y=>
  obtain⟨v,hv,h⟩:=AX h
  obtain⟨u,hu,a,b,c,w1,h1,h⟩:=AX h
  exact⟨_,_,h⟩
 case makeMap t r=>
  cases r with
  |none=>exact⟨_,_,h _ _ ⟨rfl,rfl⟩⟩
  |some x=>
   obtain⟨v,hv,m,w1,h1,h⟩:=AX h
   exact⟨_,_,h⟩
 case mapUpdate t m k x=>
  obtain⟨m',hm,h⟩:=AX h
  obtain⟨k',hk',h⟩:=AX h
  obtain⟨x',hx',w1,h1,h⟩:=AX h
  exact⟨_,_,h⟩
 case insert t m k x=>
  obtain⟨m',hm,h⟩:=AX h
  obtain⟨k',hk',h⟩:=AX h
  obtain⟨x',hx',w1,h1,h⟩:=AX h
  exact⟨_,_,h⟩
 case mapEntry t m k=>
  obtain⟨m',hm,h⟩:=AX h
  obtain⟨k',hk',h⟩:=AX h
  obtain⟨v,i,w1,h1,h⟩:=h
  exact⟨_,_,h⟩
 case entryStore t m k x=>
  obtain⟨m',hm,h⟩:=AX h
  obtain⟨k',hk',h⟩:=AX h
  obtain⟨x',hx',w1,h1,h⟩:=AX h
  exact⟨_,_,h⟩
 case range t x=>
  obtain⟨v,hv,p,w1,h1,h⟩:=AX h
  exact⟨_,_,h⟩
 case next x s=>
  obtain⟨v,hv,h⟩:=AX h
  rcases h with⟨w1,h1,h⟩|⟨k,u,w1,h1,h⟩<;>exact⟨_,_,h⟩
 case entry x=>
  obtain⟨v,hv,h⟩:=AX h
  obtain⟨k,h⟩:=NS h
  obtain⟨u,w1,h1,h⟩:=NS h
  exact⟨_,_,h⟩
 case call c=>
  split at h
  ·exact h.elim
  ·split at h
   ·split at h
    ·obtain⟨a,b,c,w1,h1,h⟩:=h;exact⟨_,_,h⟩
    ·exact h.elim
   ·split at h
    ·obtain⟨a,w1,h1,h⟩:=h;exact⟨_,_,h⟩
    ·exact h.elim
   ·split at h
    ·obtain⟨w1,h1,h⟩:=h;exact⟨_,_,h⟩
    ·exact h.elim
   ·split at h
    ·obtain⟨w1,h1,h⟩:=h;exact⟨_,_,h⟩
    ·exact h.elim
   ·exact h.elim
   ·obtain⟨fv,hf,h⟩:=AX h
    obtain⟨e,w',h⟩:=callX_some h
    obtain⟨v,h1,h⟩:=KC h
    exact⟨_,_,h⟩
   ·exact h.elim
end
section
variable{wr:Bool}{P:Program}{bef:Nat->Nat->Bool}{ops:List Oper}{nt:Nat}{ds:List Deferred}{fr fr':Fr}
def Agree(ops:List Oper)(o:Oper)(fr fr':Fr):Prop:=
 (∀t∈opTs o.op,fget fr t=fget fr' t)/\∀j want s,o.guard=some (j,want)->Ew ops j=some s->fget fr s=fget fr' s
theorem Agree.ev{o:Oper}(h:Agree ops o fr fr'):∀x∈o.op.operands,Vc.ev fr x=Vc.ev fr' x:=by
 intro x hx
 cases x with
 |tmp t=>
  exact h.1 t (by simp only[opTs,List.mem_filterMap];exact⟨_,by simpa using hx,rfl⟩)
 |_=>rfl
theorem MG{i:Nat}{o:Oper}(h:∀x∈o.op.operands,ev fr x=ev fr' x)(w:World)(past:Past)(K:Option Value->World->Past->Prop):
  F9 wr P bef ops i o fr w past K=F9 wr P bef ops i o fr' w past K:=by
 unfold F9
 split
 ·exact pure_congr h _
 ·congr 1;funext v
  rw[RY h w v]
  have:(fun w'=>Fa P fr o w' v)=(fun w'=>Fa P fr' o w' v):=funext fun w'=>RY h w' v
  rw[this]
 ·exact eff_congr h _ _
theorem L9{i:Nat}{o:Oper}(h:Agree ops o fr fr')(w:World)(past:Past)(K:Option Value->World->Past->Prop):
  stepD wr P bef ops i o fr w past K=stepD wr P bef ops i o fr' w past K:=by
 unfold stepD
 split
 ·exact MG h.ev _ _ _
 ·rename_i j want hg
  cases hs:Ew ops j with
  |none=>rfl
  |some s=>
   simp only
   rw[h.2 j want s hg hs]
   split
   ·split
    ·exact MG h.ev _ _ _
    ·exact MG h.ev _ _ _
    ·rfl
   ·rfl
   ·rfl
theorem Vb{sp:Bool}{rv:Option Value}{K:Option Value->Prop}:(match rv with
  |some v=>spl sp v fun v=>K (some v)
  |none=>K none)↔K rv:=by
 cases rv with
 |none=>rfl
 |some v=>exact EZ
theorem OI{i:Nat}{o:Oper}{w:World}{past past':Past}{K K':Option Value->World->Past->Prop}(hp:∀e∈past',e∈past)
  (hk:∀v w' p p',(∀e∈p',e∈p)->K v w' p->K' v w' p') (h:F9 wr P bef ops i o fr w past K):F9 wr P bef ops i o fr w past' K':=by
 unfold F9 at h⊢
 split at h
 ·obtain⟨v,h,hb,-⟩:=MP (nt:=0) (ds:=[]) h
  exact hb _ (EZ.2 (hk _ _ _ _ hp (EZ.1 h)))
 ·exact Qj (fun v h=>⟨h.1,EZ.2 (hk _ _ _ _ (fun e he=>by
   simp only[mem_cons]at he⊢
   exact he.imp id (hp e)) (EZ.1 h.2))⟩) h
 ·refine NP (fun rv w' h=>?_) h
  rw[EX]at h⊢
  refine⟨fun x hx hb=>h.1 x (hp x hx) hb,?_⟩
  have h2:=(Vb (K:=fun rv=>K rv w' past)).1 h.2
  exact(Vb (K:=fun rv=>K' rv w' past')).2 (hk _ _ _ _ hp h2)
theorem EW{i:Nat}{o:Oper}{w:World}{past past':Past}{K K':Option Value->World->Past->Prop}(hp:∀e∈past',e∈past)
  (hk:∀v w' p p',(∀e∈p',e∈p)->K v w' p->K' v w' p') (h:stepD wr P bef ops i o fr w past K):stepD wr P bef ops i o fr w past' K':=by
 unfold stepD at h⊢
 split at h
 ·exact OI hp hk h
 ·split at h
  ·exact h.elim
  ·split at h
   ·split at h
    ·exact OI hp hk h
    ·exact OI hp hk h
    ·exact hk _ _ _ _ hp h
   ·exact hk _ _ _ _ hp h
   ·exact h.elim
theorem I8{i:Nat}{o:Oper}{w:World}{past:Past}{K:Option Value->World->Past->Prop}{a:Act}(hr:Ref nt ds fr a)(h:stepD wr P bef ops i o fr w past K):
  (∃v,K v w past/\(∀w' p (K':Option Value->World->Past->Prop),K' v w' p->stepD wr P bef ops i o fr w' p K')/\
   ∀w' p (K':Option Value->World->Past->Prop),stepD wr P bef ops i o fr w' p K'->K' v w' p)\/
  (cls P o.op=1/\∃v,Fa P fr o w v/\K (some v) w ((i,fun w'=>Fa P fr o w' v)::past)/\
   ∀w' p (K':Option Value->World->Past->Prop),Fa P fr o w' v->K' (some v) w' ((i,fun w'=>Fa P fr o w' v)::p)->stepD wr P bef ops i o fr w' p K')\/
  (cls P o.op≠0/\cls P o.op≠1/\∀w' p (K':Option Value->World->Past->Prop),stepD wr P bef ops i o fr w' p K'↔effV P ops fr o w' fun rv w''=>again bef i p w'' (K' rv w'' p)):=by
 have ex:(∀w' p (K':Option Value->World->Past->Prop),stepD wr P bef ops i o fr w' p K'=F9 wr P bef ops i o fr w' p K')->F9 wr P bef ops i o fr w past K->
   (∃v,K v w past/\(∀w' p (K':Option Value->World->Past->Prop),K' v w' p->stepD wr P bef ops i o fr w' p K')/\
   ∀w' p (K':Option Value->World->Past->Prop),stepD wr P bef ops i o fr w' p K'->K' v w' p)\/
  (cls P o.op=1/\∃v,Fa P fr o w v/\K (some v) w ((i,fun w'=>Fa P fr o w' v)::past)/\
   ∀w' p (K':Option Value->World->Past->Prop),Fa P fr o w' v->K' (some v) w' ((i,fun w'=>Fa P fr o w' v)::p)->stepD wr P bef ops i o fr w' p K')\/
  (cls P o.op≠0/\cls P o.op≠1/\∀w' p (K':Option Value->World->Past->Prop),stepD wr P bef ops i o fr w' p K'↔effV P ops fr o w' fun rv w''=>again bef i p w'' (K' rv w'' p)):=by
  intro e h
  simp only[e]
  clear e
  unfold F9 at h
  split at h
  ·rename_i hc
   left
   obtain⟨v,h,hb,hrun⟩:=MP (nt:=nt) (ds:=ds) h
   refine⟨some v,EZ.1 h,fun w' p K' hk=>?_,fun w' p K' hk=>?_⟩
   ·unfold F9;simp only[hc];exact hb _ (EZ.2 hk)
   ·unfold F9 at hk;simp only[hc]at hk
    obtain⟨v',h',-,hrun'⟩:=MP (nt:=nt) (ds:=ds) hk
    have e1:=hrun a hr w
    rw[hrun' a hr w]at e1
    cases e1
    exact EZ.1 h'
  ·rename_i hc
   right;left
   obtain⟨v,⟨hv,h⟩,hb⟩:=exT_one h
   refine⟨hc,v,hv,EZ.1 h,fun w' p K' hv' hk=>?_⟩
   unfold F9;simp only[hc]
   exact hb _ ⟨hv',EZ.2 hk⟩
  ·rename_i h0 h1
   right;right
   refine⟨h0,h1,fun w' p K'=>?_⟩
   unfold F9
   split
   ·exact absurd (by assumption) h0
   ·exact absurd (by assumption) h1
   ·constructor<;>refine NP (fun rv w'' h=>?_)
    ·rw[EX]at h⊢
     exact⟨h.1,(Vb (K:=fun rv=>K' rv w'' p)).1 h.2⟩
    ·rw[EX]at h⊢
     exact⟨h.1,(Vb (K:=fun rv=>K' rv w'' p)).2 h.2⟩
 have h0:=h
 unfold stepD at h
 split at h
 ·rename_i hg
  exact ex (fun w' p K'=>by unfold stepD;simp only[hg]) h
 ·rename_i j want hg
  split at h
  ·exact h.elim
  ·rename_i s hs
   split at h
   ·rename_i b hf
    split at h
    ·exact ex (fun w' p K'=>by unfold stepD;simp only[hg,hs,hf]) h
    ·exact ex (fun w' p K'=>by unfold stepD;simp only[hg,hs,hf]) h
    ·rename_i n1 n2
     left
     refine⟨some (.tuple #[]),h,fun w' p K' hk=>?_,fun w' p K' hk=>?_⟩
     ·unfold stepD;simp only[hg,hs,hf]
      cases b<;>cases want<;>first|exact absurd rfl (n1 rfl)|exact absurd rfl (n2 rfl)|exact hk
     ·unfold stepD at hk;simp only[hg,hs,hf]at hk
      cases b<;>cases want<;>first|exact absurd rfl (n1 rfl)|exact absurd rfl (n2 rfl)|exact hk
   ·rename_i vs hf
    left
    refine⟨some (.tuple #[]),h,fun w' p K' hk=>?_,fun w' p K' hk=>?_⟩
    ·unfold stepD;simp only[hg,hs,hf];exact hk
    ·unfold stepD at hk;simp only[hg,hs,hf]at hk;exact hk
   ·exact h.elim
def put(fr:Fr)(d:Option Nat)(v:Option Value):Fr:=match d with
 |some d=>(d,v)::fr
 |none=>fr
def Fits(nt:Nat)(d:Option Nat):Prop:=∀x,d=some x->x<nt
theorem fput_iff{d:Option Nat}{v:Option Value}{k:Fr->Prop}:fput nt fr d v k↔Fits nt d/\k (put fr d v):=by
 cases d with
 |none=>simp[fput,put,Fits]
 |some d=>
  simp only[fput,put,Fits]
  split
  ·rename_i hb
   have:d<nt:=by simpa [Nat.blt_eq]using hb
   simp[this]
  ·rename_i hb
   have:¬d<nt:=fun hlt=>by
    have h2:Nat.blt d nt=true:=by rw[Nat.blt_eq];exact hlt
    rw[h2]at hb;cases hb
   simp[this]
theorem Cm{d:Option Nat}{v:Option Value}{t:Nat}(h:∀x,d=some x->t≠x):fget (put fr d v) t=fget fr t:=by
 cases d with
 |none=>rfl
 |some d=>exact CJ _ _ _ _ (h d rfl)
def Feq(fr fr':Fr):Prop:=∀t,fget fr t=fget fr' t
theorem Feq.put{d:Option Nat}{v:Option Value}(h:Feq fr fr'):Feq (put fr d v) (put fr' d v):=by
 intro t
 cases d with
 |none=>exact h t
 |some d=>
  by_cases ht:t=d
  ·subst ht;simp only[Vc.put,EF]
  ·simp only[Vc.put,CJ _ _ _ _ ht];exact h t
theorem put_swap{d d':Option Nat}{v v':Option Value}(h:∀x y,d=some x->d'=some y->x≠y):Feq (put (put fr d v) d' v') (put (put fr d' v') d v):=by
 intro t
 cases d with
 |none=>rfl
 |some d=>cases d' with
  |none=>rfl
  |some d'=>
   have:=h d d' rfl rfl
   simp only[put]
   by_cases h1:t=d
   ·subst h1;rw[CJ _ _ _ _ this,EF,EF]
   ·by_cases h2:t=d'
    ·subst h2;rw[EF,CJ _ _ _ _ h1,EF]
    ·rw[CJ _ _ _ _ h2,CJ _ _ _ _ h1,CJ _ _ _ _ h1,CJ _ _ _ _ h2]
theorem Feq.agree{o:Oper}(h:Feq fr fr'):Agree ops o fr fr':=⟨fun t _=>h t,fun j want s _ _=>h s⟩
structure Apart(ops:List Oper)(a b:Oper):Prop where
 dst:∀x y,a.dst=some x->b.dst=some y->x≠y
 left:∀y,b.dst=some y->(∀t∈opTs a.op,t≠y)/\∀k want s,a.guard=some (k,want)->Ew ops k=some s->s≠y
 right:∀x,a.dst=some x->(∀t∈opTs b.op,t≠x)/\∀k want s,b.guard=some (k,want)->Ew ops k=some s->s≠x
theorem Apart.agreeL{a b:Oper}(h:Apart ops a b)(v:Option Value):Agree ops a (put fr b.dst v) fr:=
 ⟨fun t ht=>Cm fun y hy=>(h.left y hy).1 t ht,fun k want s hg hs=>Cm fun y hy=>(h.left y hy).2 k want s hg hs⟩
theorem Apart.agreeR{a b:Oper}(h:Apart ops a b)(v:Option Value):Agree ops b (put fr a.dst v) fr:=
 ⟨fun t ht=>Cm fun y hy=>(h.right y hy).1 t ht,fun k want s hg hs=>Cm fun y hy=>(h.right y hy).2 k want s hg hs⟩
theorem apart_of{i j:Nat}{a b:Oper}(ha:ops[i]? =some a)(hb:ops[j]? =some b)(h:apartB ops i j=true):Apart ops a b:=by
 have guard:∀{o:Oper}{x:Nat},(match o.guard with
   |some (k,_)=>match Ew ops k with
    |some s=> !(s==x)
    |none=>true
   |none=>true)=true->∀k want s,o.guard=some (k,want)->Ew ops k=some s->s≠x:=by
  intro o x h k want s hg hs
  simp only[hg,hs]at h
  simpa using h
 simp only[apartB,ha,hb]at h
 split at h
 ·rename_i x y hx hy
  simp only[Bool.and_eq_true]at h
  obtain⟨⟨⟨⟨h1,h2⟩,h3⟩,h4⟩,h5⟩:=h
  refine⟨fun x' y' hx' hy'=>?_,fun y' hy'=>?_,fun x' hx'=>?_⟩
  ·rw[hx]at hx';rw[hy]at hy';cases hx';cases hy';simpa using h1
  ·rw[hy]at hy';cases hy'
   exact⟨fun t ht e=>by subst e;simp at h2;exact h2 ht,guard h4⟩
  ·rw[hx]at hx';cases hx'
   exact⟨fun t ht e=>by subst e;simp at h3;exact h3 ht,guard h5⟩
 ·rename_i x hx hy
  simp only[Bool.and_eq_true]at h
  obtain⟨h3,h5⟩:=h
  refine⟨fun x' y' hx' hy'=>(by rw[hy]at hy';cases hy'),fun y' hy'=>(by rw[hy]at hy';cases hy'),fun x' hx'=>?_⟩
  rw[hx]at hx';cases hx'
  exact⟨fun t ht e=>by subst e;simp at h3;exact h3 ht,guard h5⟩
 ·rename_i y hx hy
  simp only[Bool.and_eq_true]at h
  obtain⟨h3,h5⟩:=h
  refine⟨fun x' y' hx' hy'=>(by rw[hx]at hx';cases hx'),fun y' hy'=>?_,fun x' hx'=>(by rw[hx]at hx';cases hx')⟩
  rw[hy]at hy';cases hy'
  exact⟨fun t ht e=>by subst e;simp at h3;exact h3 ht,guard h5⟩
 ·rename_i hx hy
  refine⟨fun x' y' hx' hy'=>(by rw[hy]at hy';cases hy'),fun y' hy'=>(by rw[hy]at hy';cases hy'),fun x' hx'=>(by rw[hx]at hx';cases hx')⟩
theorem turn{i x:Nat}{oi ox:Oper}{w:World}{past:Past}{a:Act}(hr:Ref nt ds fr a)(hap:Apart ops oi ox)(hb:bef i x=false)
  (hc:cls P oi.op=0\/cls P ox.op=0\/cls P oi.op=1)
  {F:Fr->World->Past->Prop} (hF:∀f f' w p p',Feq f f'->(∀e∈p',e∈p)->F f w p->F f' w p')
  (h:stepD wr P bef ops i oi fr w past fun vi w1 p1=>Fits nt oi.dst/\stepD wr P bef ops x ox (put fr oi.dst vi) w1 p1 fun vx w2 p2=>Fits nt ox.dst/\F (put (put fr oi.dst vi) ox.dst vx) w2 p2):
  stepD wr P bef ops x ox fr w past fun vx w1 p1=>Fits nt ox.dst/\stepD wr P bef ops i oi (put fr ox.dst vx) w1 p1 fun vi w2 p2=>Fits nt oi.dst/\F (put (put fr ox.dst vx) oi.dst vi) w2 p2:=by
 have eR:∀vi w1 p1 K,stepD wr P bef ops x ox (put fr oi.dst vi) w1 p1 K=stepD wr P bef ops x ox fr w1 p1 K:=fun vi w1 p1 K=>L9 (hap.agreeR vi) _ _ _
 have eL:∀vx w1 p1 K,stepD wr P bef ops i oi (put fr ox.dst vx) w1 p1 K=stepD wr P bef ops i oi fr w1 p1 K:=fun vx w1 p1 K=>L9 (hap.agreeL vx) _ _ _
 simp only[eR]at h
 simp only[eL]
 have hsw:∀vi vx w p p',(∀e∈p',e∈p)->F (put (put fr oi.dst vi) ox.dst vx) w p->F (put (put fr ox.dst vx) oi.dst vi) w p':=
  fun vi vx w p p' hp h=>hF _ _ _ _ _ (put_swap hap.dst) hp h
 rcases I8 hr h with⟨vi,⟨hfi,h1⟩,hmk,-⟩|⟨hci,vi,hrd,⟨hfi,h1⟩,hmk⟩|⟨h0,hn1,hiff⟩
 ·exact EW (fun e he=>he) (fun vx w1 p p' hp h2=>⟨h2.1,hmk _ _ _ ⟨hfi,hsw _ _ _ _ _ hp h2.2⟩⟩) h1
 ·rcases I8 hr h1 with⟨vx,⟨hfx,h2⟩,hmkx,-⟩|⟨hcx,vx,hrdx,⟨hfx,h2⟩,hmkx⟩|⟨hx0,hx1,hxiff⟩
  ·exact hmkx _ _ _ ⟨hfx,hmk _ _ _ hrd ⟨hfi,hsw _ _ _ _ _ (fun e he=>he) h2⟩⟩
  ·exact hmkx _ _ _ hrdx ⟨hfx,hmk _ _ _ hrd ⟨hfi,hsw _ _ _ _ _ (fun e he=>by
    simp only[mem_cons]at he⊢
    rcases he with he|he|he
    ·exact .inr (.inl he)
    ·exact .inl he
    ·exact .inr (.inr he)) h2⟩⟩
  ·rw[hxiff]at h1⊢
   refine NP (fun rv w'' h2=>?_) h1
   rw[EX]at h2⊢
   obtain⟨hag,hfx,h2⟩:=h2
   refine⟨fun e he hbe=>hag e (mem_cons_of_mem _ he) hbe,hfx,?_⟩
   have hread:=hag _ (mem_cons_self ..) hb
   exact hmk _ _ _ hread ⟨hfi,hsw _ _ _ _ _ (fun e he=>he) h2⟩
 ·have hx:cls P ox.op=0:=by
   rcases hc with h|h|h
   ·exact absurd h h0
   ·exact h
   ·exact absurd h hn1
  rw[hiff]at h
  obtain⟨rv0,w0,hs⟩:=Xg h
  have hs:=(EX.1 hs).2.2
  rcases I8 hr hs with⟨vx,⟨hfx,-⟩,hmkx,hdet⟩|⟨hcx,-⟩|⟨hx0,-⟩
  ·refine hmkx _ _ _ ⟨hfx,?_⟩
   rw[hiff]
   refine NP (fun rv w'' h2=>?_) h
   rw[EX]at h2⊢
   obtain⟨hag,hfi,h2⟩:=h2
   have h3:=hdet _ _ _ h2
   exact⟨hag,hfi,hsw _ _ _ _ _ (fun e he=>he) h3.2⟩
  ·rw[hx]at hcx;cases hcx
  ·exact absurd hx hx0
theorem Dz{K:Fr->World->Prop}{i:Nat}{r:List Nat}{w:World}{past:Past}:runV wr P nt bef ops K (i::r) fr w past↔
  ∃o,ops[i]? =some o/\stepD wr P bef ops i o fr w past fun v w' p'=>Fits nt o.dst/\runV wr P nt bef ops K r (put fr o.dst v) w' p':=by
 simp only[runV,fput_iff]
 cases ops[i]? with
 |none=>simp
 |some o=>simp
theorem Jj{K:Fr->World->Prop}(hK:∀f f' w,Feq f f'->K f w->K f' w):∀(σ:List Nat)(fr fr':Fr)(w:World)(p p':Past),Feq fr fr'->(∀e∈p',e∈p)->runV wr P nt bef ops K σ fr w p->runV wr P nt bef ops K σ fr' w p'
 | [],fr,fr',w,p,p',hf,hp,h=>hK _ _ _ hf h
 |i::r,fr,fr',w,p,p',hf,hp,h=>by
  rw[Dz]at h⊢
  obtain⟨o,ho,h⟩:=h
  refine⟨o,ho,?_⟩
  rw[L9 (fr':=fr') hf.agree]at h
  exact EW hp (fun v w' q q' hq h=>⟨h.1,Jj hK r _ _ _ _ _ hf.put hq h.2⟩) h
structure dF(P:Program)(bef:Nat->Nat->Bool)(ops:List Oper)(i x:Nat):Prop where
 bef:bef i x=false
 apart:∀a b,ops[i]? =some a->ops[x]? =some b->Apart ops a b
 cls:∀a b,ops[i]? =some a->ops[x]? =some b->cls P a.op=0\/Vc.cls P b.op=0\/Vc.cls P a.op=1
theorem Ref.has{a:Act}(hr:Ref nt ds fr a){d:Option Nat}(hf:Fits nt d)(v:Option Value):∃a,Ref nt ds (Vc.put fr d v) a:=by
 cases d with
 |none=>exact⟨a,hr⟩
 |some d=>
  cases v with
  |some v=>exact⟨_,hr.put (hf d rfl) v⟩
  |none=>exact⟨_,hr.lose (some d) undef d rfl⟩
theorem pull{K:Fr->World->Prop}(hK:∀f f' w,Feq f f'->K f w->K f' w){x:Nat}{σ2:List Nat}:∀(σ1:List Nat)(fr:Fr)(w:World)(past:Past)(a:Act),Ref nt ds fr a->(∀i∈σ1,dF P bef ops i x)->
  runV wr P nt bef ops K (σ1++x::σ2) fr w past->runV wr P nt bef ops K (x::(σ1++σ2)) fr w past
 | [],fr,w,past,a,hr,ht,h=>h
 |i::r,fr,w,past,a,hr,ht,h=>by
  rw[cons_append,Dz]at h
  obtain⟨oi,hoi,h⟩:=h
  have ht':∀j∈r,dF P bef ops j x:=fun j hj=>ht j (mem_cons_of_mem _ hj)
  have hti:=ht i (mem_cons_self ..)
  have h2:stepD wr P bef ops i oi fr w past fun v w' p'=>Fits nt oi.dst/\runV wr P nt bef ops K (x::(r++σ2)) (put fr oi.dst v) w' p':=
   EW (fun e he=>he) (fun v w' p p' hp h=>by
    obtain⟨hf,h⟩:=h
    obtain⟨a',hr'⟩:=hr.has hf v
    exact⟨hf,Jj hK _ _ _ _ _ _ (fun t=>rfl) hp (pull hK r _ _ _ a' hr' ht' h)⟩) h
  clear h
  have hox:∃ox,ops[x]? =some ox:=by
   rcases I8 hr h2 with⟨v,h,-⟩|⟨-,v,-,h,-⟩|⟨-,-,hiff⟩
   ·exact(Dz.1 h.2).elim fun o h=>⟨o,h.1⟩
   ·exact(Dz.1 h.2).elim fun o h=>⟨o,h.1⟩
   ·rw[hiff]at h2
    obtain⟨rv,w',h⟩:=Xg h2
    exact(Dz.1 (EX.1 h).2.2).elim fun o h=>⟨o,h.1⟩
  obtain⟨ox,hox⟩:=hox
  have h3:stepD wr P bef ops i oi fr w past fun v w' p'=>Fits nt oi.dst/\stepD wr P bef ops x ox (put fr oi.dst v) w' p' fun vx w2 p2=>Fits nt ox.dst/\runV wr P nt bef ops K (r++σ2) (put (put fr oi.dst v) ox.dst vx) w2 p2:=
   EW (fun e he=>he) (fun v w' p p' hp h=>by
    obtain⟨hf,h⟩:=h
    obtain⟨o',ho',h⟩:=Dz.1 h
    rw[hox]at ho';cases ho'
    exact⟨hf,EW hp (fun vx w2 q q' hq h=>⟨h.1,Jj hK _ _ _ _ _ _ (fun t=>rfl) hq h.2⟩) h⟩) h2
  have h4:=turn hr (hti.apart _ _ hoi hox) hti.bef (hti.cls _ _ hoi hox)
   (F:=fun f w p=>runV wr P nt bef ops K (r++σ2) f w p) (fun f f' w p p' hf hp h=>Jj hK _ _ _ _ _ _ hf hp h) h3
  rw[Dz]
  refine⟨ox,hox,EW (fun e he=>he) (fun vx w1 p p' hp h=>?_) h4⟩
  obtain⟨hfx,h⟩:=h
  refine⟨hfx,?_⟩
  rw[cons_append,Dz]
  exact⟨oi,hoi,EW hp (fun v w2 q q' hq h=>⟨h.1,Jj hK _ _ _ _ _ _ (fun t=>rfl) hq h.2⟩) h⟩
end
theorem Yc(m:Region.Mode)(ops:Array Oper)(σ:List Nat)(hσ:forward m ops.toList σ=true):∀(fuel t:Nat)(listed:Array Bool)(acc:List Nat),listed.size=ops.size->
  (listed.toList.filter (! ·)).length=fuel->
  ∃L,Region.linearise.go m ops fuel t listed acc=acc.reverse++L/\(∀i:Nat,i∈L↔listed[i]? =some false)/\L.Nodup/\
   ∀A i B,L=A++i::B->∀o,ops[i]? =some o->∀e∈En m o,listed[e]? =some true\/e∈A
 |0,t,listed,acc,hs,hf=>by
  refine⟨[],by simp[Region.linearise.go],fun i=>?_,nodup_nil,fun A i B h=>by cases A<;>cases h⟩
  simp only[List.not_mem_nil,false_iff]
  intro h
  have:false∈listed.toList:=by
   rw[Array.getElem?_eq_some_iff]at h
   obtain⟨h1,h2⟩:=h
   rw[<- h2];simp
  have h2:false∈listed.toList.filter (! ·):=mem_filter.2 ⟨this,rfl⟩
  rw[List.length_eq_zero_iff]at hf
  rw[hf]at h2;cases h2
 |fuel+1,t,listed,acc,hs,hf=>by
  have hex:∃i:Nat,listed[i]? =some false:=by
   have:(listed.toList.filter (! ·))≠[]:=by intro e;rw[e]at hf;simp at hf
   obtain⟨b,hb⟩:=List.exists_mem_of_ne_nil _ this
   rw[mem_filter]at hb
   obtain⟨h1,h2⟩:=hb
   obtain⟨i,hi⟩:=List.getElem?_of_mem h1
   refine⟨i,?_⟩
   rw[Array.getElem?_toList]at hi
   rw[hi];simpa using h2
  have hfree:∀(k i:Nat),listed[i]? =some false->WP i σ<=k->∃j:Nat,listed[j]? =some false/\∀o,ops[j]? =some o->∀e∈En m o,listed[e]? =some true:=by
   intro k
   induction k using Nat.strongRecOn with
   |_ k ih=>
    intro i hi hk
    by_cases hw:∀o,ops[i]? =some o->∀e∈En m o,listed[e]? =some true
    ·exact⟨i,hi,hw⟩
    ·simp only[Classical.not_forall]at hw
     obtain⟨o,ho,e,he,hne⟩:=hw
     have hilt:i<ops.toList.length:=by
      have:=(Array.getElem?_eq_some_iff.1 ho).1;simpa using this
     have hall:=all_eq_true.1 hσ i (List.mem_range.2 hilt)
     have ho':ops.toList[i]? =some o:=by simpa using ho
     simp only[ho']at hall
     have h2:=all_eq_true.1 hall e he
     simp only[Bool.and_eq_true,decide_eq_true_eq]at h2
     have hef:listed[e]? =some false:=by
      have hlt:e<listed.size:=by rw[hs];simpa using h2.1
      rw[Array.getElem?_eq_getElem hlt]at hne⊢
      cases hl:listed[e]with
      |true=>exact absurd (by rw[hl]) hne
      |false=>rfl
     exact ih (WP e σ) (by omega) e hef (Nat.le_refl _)
  obtain⟨i0,hi0⟩:=hex
  obtain⟨j0,hj0,hj0'⟩:=hfree _ i0 hi0 (Nat.le_refl _)
  have hrs:∀i:Nat,i∈((List.range ops.size).filter fun i=> !listed.getD i true&&((ops[i]?).map (·.after.all fun e=> !Region.binds m e||listed.getD e.on false)).getD false)↔
    listed[i]? =some false/\∀o,ops[i]? =some o->∀e∈En m o,listed[e]? =some true:=by
   intro i
   rw[mem_filter,List.mem_range]
   constructor
   ·rintro⟨hlt,h⟩
    simp only[Bool.and_eq_true]at h
    obtain⟨h1,h2⟩:=h
    have hlt':i<listed.size:=by omega
    refine⟨?_,fun o ho e he=>?_⟩
    ·rw[Array.getElem?_eq_getElem hlt']
     rw[Array.getD_eq_getD_getElem?,Array.getElem?_eq_getElem hlt']at h1
     simp at h1;rw[h1]
    ·rw[ho]at h2
     simp only[Option.map_some,Option.getD_some]at h2
     simp only[En,mem_map,mem_filter]at he
     obtain⟨ed,⟨he1,he2⟩,rfl⟩:=he
     have:=Array.all_eq_true'.1 h2 ed (by simpa using he1)
     simp only[he2,Bool.not_true,Bool.false_or]at this
     rw[Array.getD_eq_getD_getElem?]at this
     cases hx:listed[ed.on]? with
     |none=>rw[hx]at this;simp at this
     |some b=>rw[hx]at this;simp at this;rw[this]
   ·rintro⟨h1,h2⟩
    have hlt:i<ops.size:=by rw[<- hs];exact(Array.getElem?_eq_some_iff.1 h1).1
    refine⟨hlt,?_⟩
    simp only[Bool.and_eq_true]
    refine⟨by rw[Array.getD_eq_getD_getElem?,h1];rfl,?_⟩
    rw[Array.getElem?_eq_getElem hlt]
    simp only[Option.map_some,Option.getD_some]
    refine Array.all_eq_true'.2 fun ed hed=>?_
    cases hb:Region.binds m ed with
    |false=>rfl
    |true=>
     have:=h2 _ (Array.getElem?_eq_getElem hlt) ed.on (by
      simp only[En,mem_map,mem_filter]
      exact⟨ed,⟨by simpa using hed,hb⟩,rfl⟩)
     rw[Array.getD_eq_getD_getElem?,this];rfl
  simp only[Region.linearise.go]
  generalize hR:((List.range ops.size).filter fun i=> !listed.getD i true&&((ops[i]?).map (·.after.all fun e=> !Region.binds m e||listed.getD e.on false)).getD false)=rs at hrs
  have hne:rs≠[]:=fun e=>by
   have:=(hrs j0).2 ⟨hj0,hj0'⟩
   rw[e]at this;cases this
  have hlen:t%rs.length<rs.length:=Nat.mod_lt _ (List.length_pos_iff.2 hne)
  rw[List.getElem?_eq_getElem hlen]
  simp only
  have him:rs[t%rs.length]∈rs:=List.getElem_mem hlen
  generalize rs[t%rs.length]=i at him
  obtain⟨hi,hie⟩:=(hrs i).1 him
  have hilt:i<listed.size:=(Array.getElem?_eq_some_iff.1 hi).1
  have hcount:((listed.setIfInBounds i true).toList.filter (! ·)).length=fuel:=by
   rw[Array.toList_setIfInBounds]
   have h1:listed.toList[i]? =some false:=by rw[Array.getElem?_toList];exact hi
   have key:∀(l:List Bool)(i:Nat),l[i]? =some false->((l.set i true).filter (! ·)).length+1=(l.filter (! ·)).length:=by
    intro l
    induction l with
    |nil=>intro i h;simp at h
    |cons b l ih=>
     intro i h
     cases i with
     |zero=>simp at h;subst h;simp
     |succ i=>
      simp only[List.getElem?_cons_succ]at h
      have:=ih i h
      cases b<;>simp[List.set_cons_succ,List.filter_cons]<;>omega
   have:=key _ _ h1
   omega
  obtain⟨L,e1,e2,e3,e4⟩:=Yc m ops σ hσ fuel (t/rs.length) (listed.setIfInBounds i true) (i::acc) (by simpa using hs) hcount
  have hget:∀k:Nat,(listed.setIfInBounds i true)[k]? =if i=k then some true else listed[k]? :=by
   intro k
   rw[Array.getElem?_setIfInBounds]
   split
   ·first|rfl|rw[if_pos hilt]
   ·rfl
  refine⟨i::L,by rw[e1];simp,fun k=>?_,?_,?_⟩
  ·rw[mem_cons,e2,hget]
   by_cases hk:i=k
   ·subst hk;simp[hi]
   ·rw[if_neg hk]
    simp[Ne.symm hk]
  ·refine nodup_cons.2 ⟨fun h=>?_,e3⟩
   rw[e2,hget,if_pos rfl]at h
   cases h
  ·intro A k B hL o ho e he
   cases A with
   |nil=>
    simp at hL
    obtain⟨rfl,rfl⟩:=hL
    exact .inl (hie o ho e he)
   |cons a A=>
    simp at hL
    obtain⟨rfl,hL⟩:=hL
    rcases e4 A k B hL o ho e he with h|h
    ·rw[hget]at h
     split at h
     ·rename_i hik;subst hik;exact .inr (mem_cons_self ..)
     ·exact .inl h
    ·exact .inr (mem_cons_of_mem _ h)
structure Lists(m:Region.Mode)(ops:Array Oper)(τ:List Nat):Prop where
 mem:∀i,i∈τ↔i<ops.size
 nodup:τ.Nodup
 edge:∀A i B,τ=A++i::B->∀o,ops[i]? =some o->∀e∈En m o,e∈A
theorem RZ{m:Region.Mode}{ops:Array Oper}{σ:List Nat}(hσ:forward m ops.toList σ=true)(t:Nat):Lists m ops (Region.linearise m ops t):=by
 obtain⟨L,e1,e2,e3,e4⟩:=Yc m ops σ hσ ops.size t (Array.replicate ops.size false) [] (by simp) (by simp)
 have e:Region.linearise m ops t=L:=by simpa [Region.linearise]using e1
 rw[e]
 refine⟨fun i=>?_,e3,fun A i B h o ho e he=>?_⟩
 ·rw[e2,Array.getElem?_replicate]
  split<;>simp_all
 ·rcases e4 A i B h o ho e he with h|h
  ·rw[Array.getElem?_replicate]at h
   split at h<;>cases h
  ·exact h
theorem any_of_mode{m:Region.Mode}{o:Oper}{e:Nat}(h:e∈En .any o):e∈En m o:=by
 simp only[En,mem_map,mem_filter]at h⊢
 obtain⟨ed,⟨h1,h2⟩,rfl⟩:=h
 refine⟨ed,⟨h1,?_⟩,rfl⟩
 simp only[Region.binds]at h2⊢
 split at h2<;>first|rfl|cases h2
def Good(τ:List Nat)(cl:List Nat):Prop:=∀i j,before cl i j=true->∀A B,τ=A++j::B->i∈A
theorem XG(f g:Nat->Nat):∀(l:List Nat)(s i:Nat),Nat.testBit (l.foldl (fun s e=>Nat.lor s (Nat.lor (Nat.pow 2 e) (Nat.lor (f e) (g e)))) s) i=true->
  Nat.testBit s i=true\/∃e∈l,i=e\/Nat.testBit (f e) i=true\/Nat.testBit (g e) i=true
 | [],s,i,h=>.inl h
 |e::r,s,i,h=>by
  rw[foldl_cons]at h
  rcases XG f g r _ i h with h|⟨e',he',h⟩
  ·have h:Nat.testBit (s|||(2^e|||(f e|||g e))) i=true:=h
   rw[Nat.testBit_or,Nat.testBit_or,Nat.testBit_or]at h
   simp only[Bool.or_eq_true]at h
   rcases h with h|h|h|h
   ·exact .inl h
   ·rw[Nat.testBit_two_pow]at h
    exact .inr ⟨e,mem_cons_self ..,.inl (of_decide_eq_true h).symm⟩
   ·exact .inr ⟨e,mem_cons_self ..,.inr (.inl h)⟩
   ·exact .inr ⟨e,mem_cons_self ..,.inr (.inr h)⟩
  ·exact .inr ⟨e',mem_cons_of_mem _ he',h⟩
theorem TK(τ:List Nat):Good τ []:=by
 intro i j h
 simp[before,getN]at h
theorem KN{m:Region.Mode}{ops:Array Oper}{τ:List Nat}(hl:Lists m ops τ){ex:List (Nat×Nat)}(hex:∀p∈ex,∀A B,τ=A++p.2::B->p.1∈A){prev:List Nat}(hp:Good τ prev):
  Good τ (Wy ex prev ops.toList):=by
 have key:∀(l done:List Oper)(acc:List Nat),ops.toList=done++l->acc.length=done.length->Good τ acc->
   Good τ (l.foldl (fun acc o=>acc++[(YS ex acc.length o).foldl (fun s e=>Nat.lor s (Nat.lor (Nat.pow 2 e) (Nat.lor (getN acc e) (getN prev e)))) 0]) acc):=by
  intro l
  induction l with
  |nil=>exact fun done acc _ _ h=>h
  |cons o r ih=>
   intro done acc ho hlen hg
   rw[foldl_cons]
   refine ih (done++[o]) _ (by rw[ho];simp) (by simp[hlen]) ?_
   intro i j hb A B hτ
   simp only[before,getN]at hb
   by_cases hj:j<acc.length
   ·rw[List.getElem?_append_left hj]at hb
    exact hg i j hb A B hτ
   ·by_cases hj2:j=acc.length
    ·subst hj2
     rw[List.getElem?_append_right (Nat.le_refl _)]at hb
     simp only[Nat.sub_self,List.getElem?_cons_zero,Option.getD_some]at hb
     rcases XG _ _ _ _ _ hb with h|⟨e,he,h⟩
     ·simp at h
     ·have heA:e∈A:=by
       simp only[YS,List.mem_append,mem_map,mem_filter]at he
       rcases he with he|⟨p,⟨hp1,hp2⟩,rfl⟩
       ·refine hl.edge A _ B hτ o ?_ e (any_of_mode ?_)
        ·have:ops.toList[acc.length]? =some o:=by rw[ho,hlen];simp
         simpa using this
        ·simpa [En,dG]using he
       ·have hp2:=Nat.eq_of_beq_eq_true hp2
        exact hex p hp1 A B (by rw[hp2];exact hτ)
      rcases h with rfl|h|h
      ·exact heA
      ·obtain⟨A1,A2,rfl⟩:=append_of_mem heA
       exact mem_append_left _ (hg i e h A1 (A2++acc.length::B) (by rw[hτ];simp))
      ·obtain⟨A1,A2,rfl⟩:=append_of_mem heA
       exact mem_append_left _ (hp i e h A1 (A2++acc.length::B) (by rw[hτ];simp))
    ·rw[List.getElem?_eq_none (by simp;omega)]at hb
     simp at hb
 exact key ops.toList [] [] rfl rfl (TK τ)
theorem Nw{m:Region.Mode}{ops:Array Oper}{τ:List Nat}(hl:Lists m ops τ){ex:List (Nat×Nat)}(hex:∀p∈ex,∀A B,τ=A++p.2::B->p.1∈A):Good τ (closure ex ops.toList):=by
 unfold closure
 split
 ·exact KN hl (fun p hp=>by cases hp) (TK τ)
 ·exact KN hl hex (KN hl hex (KN hl hex (TK τ)))
theorem Qh{x:Nat}:∀{l:List Nat},l.Nodup->(∀y,y∈remove x l↔y∈l/\y≠x)/\(remove x l).Nodup/\(x∈l->(remove x l).length+1=l.length)
 | [],h=>⟨by simp[remove],by simp[remove],by simp⟩
 |z::r,h=>by
  simp only[remove]
  rw[nodup_cons]at h
  cases hb:Nat.beq x z with
  |true=>
   have:=Nat.eq_of_beq_eq_true hb;subst this
   refine⟨fun y=>?_,h.2,fun _=>by simp⟩
   simp only[mem_cons]
   constructor
   ·intro hy;exact⟨.inr hy,fun e=>h.1 (e▸hy)⟩
   ·rintro⟨hy|hy,hne⟩
    ·exact absurd hy hne
    ·exact hy
  |false=>
   have hne:x≠z:=fun e=>by subst e;simp at hb
   obtain⟨h1,h2,h3⟩:=Qh (x:=x) h.2
   refine⟨fun y=>?_,?_,fun hx=>?_⟩
   ·simp only[mem_cons,h1]
    constructor
    ·rintro(rfl|⟨hy,hn⟩)
     ·exact⟨.inl rfl,Ne.symm hne⟩
     ·exact⟨.inr hy,hn⟩
    ·rintro⟨rfl|hy,hn⟩
     ·exact .inl rfl
     ·exact .inr ⟨hy,hn⟩
   ·exact nodup_cons.2 ⟨fun hz=>h.1 ((h1 z).1 hz).1,h2⟩
   ·have hx':=(mem_cons.1 hx).resolve_left hne
    simp[h3 hx']
theorem XW{cl:List Nat}:∀(n:Nat)(l eo:List Nat),l.length=n->l.Nodup->eo.Nodup->(∀x,x∈eo↔x∈l)->(∀x∈l,before cl x x=false)->(∀A x B,eo=A++x::B->∀y∈B,before cl y x=false)->eo∈KE cl n l
 |0,l,eo,hn,hl,he,hm,hx,hr=>by
  have:l=[]:=List.eq_nil_of_length_eq_zero hn
  subst this
  have:eo=[]:=by
   cases eo with
   |nil=>rfl
   |cons x r=>exact absurd ((hm x).1 (mem_cons_self ..)) (by simp)
  subst this
  simp[KE]
 |n+1,l,eo,hn,hl,he,hm,hx,hr=>by
  cases eo with
  |nil=>
   cases l with
   |nil=>simp at hn
   |cons x r=>exact absurd ((hm x).2 (mem_cons_self ..)) (by simp)
  |cons x r=>
   have hxl:=(hm x).1 (mem_cons_self ..)
   simp only[KE,List.mem_flatMap,mem_filter,mem_map]
   obtain⟨h1,h2,h3⟩:=Qh (x:=x) hl
   rw[nodup_cons]at he
   refine⟨x,⟨hxl,all_eq_true.2 fun y hy=>?_⟩,r,?_,rfl⟩
   ·by_cases hyx:y=x
    ·subst hyx;rw[hx y hxl];rfl
    ·have:=((hm y).2 hy)
     rw[hr [] x r rfl y ((mem_cons.1 this).resolve_left hyx)];rfl
   ·refine XW n (remove x l) r (by have:=h3 hxl;omega) h2 he.2 (fun y=>?_) (fun y hy=>hx y ((h1 y).1 hy).1) (fun A z B hAB y hy=>hr (x::A) z B (by rw[hAB];rfl) y hy)
    rw[h1]
    constructor
    ·intro hy;exact⟨(hm y).1 (mem_cons_of_mem _ hy),fun e=>he.1 (e▸hy)⟩
    ·rintro⟨hy,hne⟩
     exact(mem_cons.1 ((hm y).2 hy)).resolve_left hne
theorem Ul:∀{eo:List Nat}{x y:Nat},(x,y)∈chainOf eo->∃C D,eo=C++x::y::D
 | [],x,y,h=>by simp[chainOf]at h
 | [z],x,y,h=>by simp[chainOf]at h
 |z::u::r,x,y,h=>by
  simp only[chainOf]at h
  rcases mem_cons.1 h with h|h
  ·cases h;exact⟨[],r,rfl⟩
  ·obtain⟨C,D,e⟩:=Ul (eo:=u::r) h
   exact⟨z::C,D,by rw[e];rfl⟩
theorem chain_good{τ:List Nat}(hn:τ.Nodup)(p:Nat->Bool):∀q∈chainOf (τ.filter p),∀A B,τ=A++q.2::B->q.1∈A:=by
 rintro⟨x,y⟩ hq A B hτ
 obtain⟨C,D,e⟩:=Ul hq
 have hy:p y=true:=by
  have:y∈τ.filter p:=by rw[e];simp
  exact(mem_filter.1 this).2
 have hx:x∈τ/\p x=true:=by
  have:x∈τ.filter p:=by rw[e];simp
  exact mem_filter.1 this
 simp only at hτ
 rw[hτ,filter_append,List.filter_cons_of_pos hy]at e
 have hnf:(A.filter p++y::B.filter p).Nodup:=by
  have:=hn.filter p
  rwa [hτ,filter_append,List.filter_cons_of_pos hy]at this
 have key:∀(l1 l2 r1 r2:List Nat),l1++y::r1=l2++y::r2->(l1++y::r1).Nodup->l1=l2:=by
  intro l1
  induction l1 with
  |nil=>
   intro l2 r1 r2 h hnd
   cases l2 with
   |nil=>rfl
   |cons z l2=>
    simp only[nil_append,cons_append,List.cons.injEq]at h
    obtain⟨rfl,h⟩:=h
    rw[h]at hnd
    simp[nodup_cons]at hnd
  |cons z l1 ih=>
   intro l2 r1 r2 h hnd
   cases l2 with
   |nil=>
    simp only[nil_append,cons_append,List.cons.injEq]at h
    obtain⟨rfl,h⟩:=h
    simp[nodup_cons]at hnd
   |cons u l2=>
    simp only[cons_append,List.cons.injEq]at h
    obtain⟨rfl,h⟩:=h
    rw[ih l2 r1 r2 h (nodup_cons.1 hnd).2]
 have e2:=key (A.filter p) (C++[x]) (B.filter p) D (by rw[e];simp) hnf
 have:x∈A.filter p:=by rw[e2];simp
 exact(mem_filter.1 this).1
theorem Ji{P:Program}:∀(l:List Oper)(k i:Nat),i∈bZ P l k↔k<=i/\∃o,l[i-k]? =some o/\cls P o.op≠0/\cls P o.op≠1
 | [],k,i=>by simp[bZ]
 |o::r,k,i=>by
  have ih:=Ji (P:=P) r (k+1) i
  have rest:(k+1<=i/\∃o,r[i-(k+1)]? =some o/\cls P o.op≠0/\cls P o.op≠1)↔(k<=i/\i≠k/\∃o',(o::r)[i-k]? =some o'/\cls P o'.op≠0/\cls P o'.op≠1):=by
   constructor
   ·rintro⟨h1,h2⟩
    refine⟨by omega,by omega,?_⟩
    rw[show i-k=(i-(k+1))+1 by omega]
    simpa using h2
   ·rintro⟨h1,h2,h3⟩
    refine⟨by omega,?_⟩
    rw[show i-k=(i-(k+1))+1 by omega]at h3
    simpa using h3
  simp only[bZ]
  split
  ·rename_i hc
   rw[ih,rest]
   constructor
   ·rintro⟨h1,_,h3⟩;exact⟨h1,h3⟩
   ·rintro⟨h1,o',h3,h4⟩
    refine⟨h1,fun e=>?_,o',h3,h4⟩
    subst e;simp at h3;subst h3;exact h4.1 hc
  ·rename_i hc
   rw[ih,rest]
   constructor
   ·rintro⟨h1,_,h3⟩;exact⟨h1,h3⟩
   ·rintro⟨h1,o',h3,h4⟩
    refine⟨h1,fun e=>?_,o',h3,h4⟩
    subst e;simp at h3;subst h3;exact h4.2 hc
  ·rename_i h0 h1
   rw[mem_cons,ih,rest]
   constructor
   ·rintro(rfl|⟨h1',_,h3⟩)
    ·exact⟨Nat.le_refl _,o,by simp,h0,h1⟩
    ·exact⟨h1',h3⟩
   ·rintro⟨h1',h3⟩
    by_cases e:i=k
    ·exact .inl e
    ·exact .inr ⟨h1',e,h3⟩
theorem Kz{P:Program}:∀(l:List Oper)(k:Nat),(bZ P l k).Nodup
 | [],k=>nodup_nil
 |o::r,k=>by
  have ih:=Kz (P:=P) r (k+1)
  simp only[bZ]
  split
  ·exact ih
  ·exact ih
  ·refine nodup_cons.2 ⟨fun h=>?_,ih⟩
   rw[Ji]at h
   omega
theorem RJ:∀(n:Nat)(σ:List Nat),σ.Nodup->(∀k∈σ,k<n)->σ.length<=n
 |0,σ,h,hk=>by
  cases σ with
  |nil=>simp
  |cons i r=>exact absurd (hk i (mem_cons_self ..)) (by omega)
 |n+1,σ,h,hk=>by
  by_cases hn:n∈σ
  ·have h1:=RJ n (σ.erase n) (h.erase n) (fun k hk'=>by
    have h2:=hk k (List.mem_of_mem_erase hk')
    have h3:k≠n:=(h.mem_erase_iff.1 hk').1
    omega)
   rw[List.length_erase_of_mem hn]at h1
   omega
  ·have h1:=RJ n σ h (fun k hk'=>by
    have h2:=hk k hk'
    have h3:k≠n:=fun e=>hn (e▸hk')
    omega)
   omega
theorem Xt{f:Nat->Nat->Bool}:∀{σ:List Nat},QI f σ=true->σ.Pairwise (fun i j=>f i j=true)
 | [],_=>List.Pairwise.nil
 |i::r,h=>by
  simp only[QI,Bool.and_eq_true]at h
  exact List.Pairwise.cons (fun j hj=>all_eq_true.1 h.1 j hj) (Xt h.2)
theorem XV:∀{σ:List Nat},nodupB σ=true->σ.Nodup
 | [],_=>nodup_nil
 |i::r,h=>by
  simp only[nodupB,Bool.and_eq_true]at h
  exact nodup_cons.2 ⟨by simpa using h.1,XV h.2⟩
section
variable{wr:Bool}{P:Program}{nt:Nat}{ds:List Deferred}{rd:Option Nat}{n:Nat}
theorem Ref.putv{fr:Fr}{a:Act}(hr:Ref nt ds fr a){d:Option Nat}(hf:Fits nt d){rv:Option Value}{v:Value}(hv:∀u,rv=some u->v=u):Ref nt ds (Vc.put fr d rv) (a.put d v):=by
 cases d with
 |none=>exact hr
 |some d=>
  cases rv with
  |some u=>cases hv u rfl;exact hr.put (hf d rfl) v
  |none=>exact hr.lose (some d) v d rfl
theorem WL(hN:LD P){opsA:Array Oper}{Q:Exit->Act->World->Prop}{K:Fr->World->Prop}(hK:∀f f' w,Feq f f'->K f w->K f' w)(hQ:∀fr w a,K fr w->Ref nt ds fr a->Q .normal a w):
  ∀(cl τ σ:List Nat)(fr:Fr)(w:World)(past:Past)(a:Act),(∀i,i∈σ↔i∈τ)->σ.Nodup->τ.Nodup->
   (∀A x B,τ=A++x::B->∀i∈B,before cl i x=false)->
   σ.Pairwise (fun i j=>YT P opsA.toList cl i j=true)->
   runV wr P nt (before cl) opsA.toList K σ fr w past->Ref nt ds fr a->wpOpsIn (W rd) n P opsA Q τ a w
 |cl,[],σ,fr,w,past,a,hm,hs,ht,hresp,hp,h,hr=>by
  have:σ=[]:=by
   cases σ with
   |nil=>rfl
   |cons i r=>exact absurd ((hm i).1 (mem_cons_self ..)) (by simp)
  subst this
  exact hQ _ _ _ h hr
 |cl,x::τ',σ,fr,w,past,a,hm,hs,ht,hresp,hp,h,hr=>by
  obtain⟨σ1,σ2,rfl⟩:=append_of_mem ((hm x).2 (mem_cons_self ..))
  have hx1:∀i∈σ1,i≠x:=by
   intro i hi e
   subst e
   rw[nodup_append]at hs
   exact hs.2.2 i hi i (mem_cons_self ..) rfl
  have hturn:∀i∈σ1,dF P (before cl) opsA.toList i x:=by
   intro i hi
   have hiτ:i∈τ':=by
    have:=(hm i).1 (mem_append_left _ hi)
    exact(mem_cons.1 this).resolve_left (hx1 i hi)
   have hb:before cl i x=false:=hresp [] x τ' rfl i hiτ
   have hok:=(List.pairwise_append.1 hp).2.2 i hi x (mem_cons_self ..)
   simp only[YT,hb,Bool.false_or,Bool.and_eq_true]at hok
   obtain⟨⟨-,hap⟩,hc⟩:=hok
   refine⟨hb,fun a b ha hb'=>apart_of ha hb' hap,fun a b ha hb'=>?_⟩
   simp only[ha,hb']at hc
   split at hc
   ·left;assumption
   ·right;left;assumption
   ·right;right;assumption
   ·cases hc
  have h2:=pull hK σ1 fr w past a hr hturn h
  obtain⟨o,ho,h3⟩:=Dz.1 h2
  refine UD hN ho h3 hr fun rv w' p' hk v hv=>?_
  refine WL hN hK hQ cl τ' (σ1++σ2) _ _ _ _ (fun i=>?_) ?_ (nodup_cons.1 ht).2 ?_ ?_ hk.2 (hr.putv hk.1 hv)
  ·have h1:=hm i
   simp only[List.mem_append,mem_cons]at h1⊢
   have hxn:x∉τ':=(nodup_cons.1 ht).1
   have hx2:x∉σ2:=by
    rw[nodup_append]at hs
    exact(nodup_cons.1 hs.2.1).1
   constructor
   ·intro hh
    have:=h1.1 (hh.imp id .inr)
    refine this.resolve_left fun e=>?_
    subst e
    rcases hh with hh|hh
    ·exact hx1 _ hh rfl
    ·exact hx2 hh
   ·intro hh
    have:=h1.2 (.inr hh)
    rcases this with h'|h'|h'
    ·exact .inl h'
    ·subst h';exact absurd hh hxn
    ·exact .inr h'
  ·rw[nodup_append]at hs⊢
   refine⟨hs.1,(nodup_cons.1 hs.2.1).2,fun a ha b hb=>hs.2.2 a ha b (mem_cons_of_mem _ hb)⟩
  ·intro A y B hτ i hi
   exact hresp (x::A) y B (by rw[hτ];rfl) i hi
  ·rw[List.pairwise_append]at hp⊢
   exact⟨hp.1,(List.pairwise_cons.1 hp.2.1).2,fun a ha b hb=>hp.2.2 a ha b (mem_cons_of_mem _ hb)⟩
theorem PE{f:List Nat->Prop}:∀{l:List (List Nat)}{x:List Nat},x∈l->JU f l->f x
 | [y],x,hx,h=>by
  simp only[List.mem_singleton]at hx;subst hx;exact h
 |y::z::r,x,hx,h=>by
  rcases mem_cons.1 hx with rfl|hx
  ·exact h.1
  ·exact PE hx h.2
def oneV(wr:Bool)(P:Program)(nt:Nat)(opsA:Array Oper)(K:Fr->World->Prop)(fr:Fr)(w:World)(eo:List Nat):Prop:=
 match closure (chainOf eo) opsA.toList with
 |cl=>match VP P opsA.toList cl (List.range opsA.toList.length) opsA.toList.length 0 with
  |σ=>match YM P opsA cl σ with
   |true=>runV wr P nt (before cl) opsA.toList K σ fr w []
   |false=>False
theorem Uw{opsA:Array Oper}{K K':Fr->World->Prop}{fr:Fr}{w:World}{eo:List Nat}
  (hk:∀cl σ,runV wr P nt (before cl) opsA.toList K σ fr w []->runV wr P nt (before cl) opsA.toList K' σ fr w []) (h:oneV wr P nt opsA K fr w eo):oneV wr P nt opsA K' fr w eo:=by
 simp only[oneV]at h⊢
 split at h
 ·exact hk _ _ h
 ·exact h.elim
theorem JJ{f g:List Nat->Prop}(hf:∀x,f x->g x):∀{l:List (List Nat)},JU f l->JU g l
 | [],h=>h
 | [x],h=>hf x h
 |x::y::r,h=>⟨hf x h.1,JJ hf h.2⟩
theorem draw_upon(hN:LD P){opsA:Array Oper}{Q:Exit->Act->World->Prop}{K:Fr->World->Prop}(hK:∀f f' w,Feq f f'->K f w->K f' w)(hQ:∀fr w a,K fr w->Ref nt ds fr a->Q .normal a w)
  {fr:Fr} {w:World} {a:Act} (hbase:RN opsA=true)
  (h:JU (oneV wr P nt opsA K fr w) (KE (closure [] opsA.toList) (bZ P opsA.toList 0).length (bZ P opsA.toList 0))) (hr:Ref nt ds fr a) (mixed:Bool) (t:Nat):
  wpOpsIn (W rd) n P opsA Q (Region.schedule mixed opsA t) a w:=by
 simp only[RN,Bool.and_eq_true]at hbase
 obtain⟨hfa,hdep⟩:=hbase
 have hlists:∃m,Lists m opsA (Region.schedule mixed opsA t):=by
  simp only[Region.schedule]
  split
  ·exact⟨_,RZ hfa t⟩
  ·rename_i hc
   have hd:Region.departs opsA=true:=by
    cases hd:Region.departs opsA with
    |true=>rfl
    |false=>rw[hd]at hc;simp at hc
   simp only[hd,Bool.not_true,Bool.false_or,Bool.and_eq_true]at hdep
   split
   ·exact⟨_,RZ hdep.1 _⟩
   ·exact⟨_,RZ hdep.2 _⟩
 obtain⟨m,hl⟩:=hlists
 generalize Region.schedule mixed opsA t=τ at hl⊢
 let p:Nat->Bool:=fun i=>(bZ P opsA.toList 0).contains i
 have hgood0:=Nw (ex:=[]) hl (fun q hq=>by cases hq)
 have hself:∀cl,Good τ cl->∀x∈τ,before cl x x=false:=by
  intro cl hg x hx
  cases hb:before cl x x with
  |false=>rfl
  |true=>
   obtain⟨A,B,rfl⟩:=append_of_mem hx
   have:=hg x x hb A B rfl
   have hn:=hl.nodup
   rw[nodup_append]at hn
   exact absurd rfl (hn.2.2 x this x (mem_cons_self ..))
 have hresp:∀cl,Good τ cl->∀A x B,τ=A++x::B->∀i∈B,before cl i x=false:=by
  intro cl hg A x B hτ i hi
  cases hb:before cl i x with
  |false=>rfl
  |true=>
   have hA:=hg i x hb A B hτ
   have hn:=hl.nodup
   rw[hτ,nodup_append]at hn
   exact absurd rfl (hn.2.2 i hA i (mem_cons_of_mem _ hi))
 have htm:∀x,x∈bZ P opsA.toList 0->x∈τ:=by
  intro x hx
  rw[Ji]at hx
  obtain⟨-,o,ho,-⟩:=hx
  rw[hl.mem]
  have:=(List.getElem?_eq_some_iff.1 ho).1
  simpa using this
 have hmem:τ.filter p∈KE (closure [] opsA.toList) (bZ P opsA.toList 0).length (bZ P opsA.toList 0):=by
  refine XW _ _ _ rfl (Kz _ _) (hl.nodup.filter p) (fun x=>?_) (fun x hx=>hself _ hgood0 x (htm x hx)) (fun A x B hAB y hy=>?_)
  ·rw[mem_filter]
   constructor
   ·rintro⟨-,h2⟩;simpa [p]using h2
   ·intro hx;exact⟨htm x hx,by simpa [p]using hx⟩
  ·cases hb:before (closure [] opsA.toList) y x with
   |false=>rfl
   |true=>
    have hxτ:x∈τ:=(mem_filter.1 (by rw[hAB];simp:x∈τ.filter p)).1
    have hyf:y∈τ.filter p:=by rw[hAB];simp[hy]
    obtain⟨A1,B1,hτ⟩:=append_of_mem hxτ
    have hyA:=hgood0 y x hb A1 B1 hτ
    have hpx:p x=true:=(mem_filter.1 (by rw[hAB];simp:x∈τ.filter p)).2
    have hpy:p y=true:=(mem_filter.1 hyf).2
    have hnf:(τ.filter p).Nodup:=hl.nodup.filter p
    have e:τ.filter p=A1.filter p++x::B1.filter p:=by rw[hτ,filter_append,List.filter_cons_of_pos hpx]
    have hyA1:y∈A1.filter p:=mem_filter.2 ⟨hyA,hpy⟩
    have hAeq:A1.filter p=A:=by
     rw[hAB]at e hnf
     have key:∀(l1 l2 r1 r2:List Nat),l1++x::r1=l2++x::r2->(l1++x::r1).Nodup->l1=l2:=by
      intro l1
      induction l1 with
      |nil=>
       intro l2 r1 r2 h hnd
       cases l2 with
       |nil=>rfl
       |cons z l2=>
        simp only[nil_append,cons_append,List.cons.injEq]at h
        obtain⟨rfl,h⟩:=h
        rw[h]at hnd
        simp[nodup_cons]at hnd
      |cons z l1 ih=>
       intro l2 r1 r2 h hnd
       cases l2 with
       |nil=>
        simp only[nil_append,cons_append,List.cons.injEq]at h
        obtain⟨rfl,h⟩:=h
        simp[nodup_cons]at hnd
       |cons u l2=>
        simp only[cons_append,List.cons.injEq]at h
        obtain⟨rfl,h⟩:=h
        rw[ih l2 r1 r2 h (nodup_cons.1 hnd).2]
     exact(key A (A1.filter p) B (B1.filter p) e hnf).symm
    rw[hAeq]at hyA1
    rw[hAB,nodup_append]at hnf
    exact absurd rfl (hnf.2.2 y hyA1 y (mem_cons_of_mem _ hy))
 have h1:=PE hmem h
 have hgood:=Nw (ex:=chainOf (τ.filter p)) hl (chain_good hl.nodup p)
 simp only[oneV]at h1
 split at h1
 ·rename_i hok
  simp only[YM,Bool.and_eq_true,decide_eq_true_eq]at hok
  obtain⟨⟨⟨hlen,hnd⟩,hall⟩,hpairs⟩:=hok
  have hs:=XV hnd
  refine WL hN hK hQ _ _ _ fr w [] a (fun i=>?_) hs hl.nodup (hresp _ hgood) (Xt hpairs) h1 hr
  rw[hl.mem]
  constructor
  ·intro hi
   have:=all_eq_true.1 hall i hi
   simpa using this
  ·intro hi
   apply Classical.byContradiction
   intro hn
   have:=RJ opsA.size (i::_) (nodup_cons.2 ⟨hn,hs⟩) (fun k hk=>by
    rcases mem_cons.1 hk with h|h
    ·omega
    ·have:=all_eq_true.1 hall k h
     simpa using this)
   rw[length_cons]at this
   have e:opsA.toList.length=opsA.size:=Array.length_toList
   omega
 ·exact h1.elim
end
def Keep(ms:List Nat)(fr fr':Fr):Prop:=∀t,t∉ms->fget fr' t=fget fr t
theorem Keep.refl(ms:List Nat)(fr:Fr):Keep ms fr fr:=fun _ _=>rfl
theorem Keep.trans{ms:List Nat}{a b c:Fr}(h:Keep ms a b)(h':Keep ms b c):Keep ms a c:=fun t ht=>(h' t ht).trans (h t ht)
theorem Keep.more{ms ms':List Nat}{a b:Fr}(h:Keep ms a b)(hs:∀t∈ms,t∈ms'):Keep ms' a b:=fun t ht=>h t fun h'=>ht (hs t h')
theorem opsMods_mem{ops:List Oper}{o:Oper}{d:Nat}(h:o∈ops)(hd:o.dst=some d):d∈KU ops:=by
 induction ops with
 |nil=>cases h
 |cons x r ih=>
  simp only[KU]
  rcases mem_cons.1 h with rfl|h
  ·rw[hd];exact mem_cons_self ..
  ·cases x.dst with
   |none=>exact ih h
   |some _=>exact mem_cons_of_mem _ (ih h)
section
variable{wr:Bool}{P:Program}{bef:Nat->Nat->Bool}{ops:List Oper}{nt:Nat}{ds:List Deferred}
theorem WA{K:Fr->World->Prop}:∀(σ:List Nat)(fr:Fr)(w:World)(p p':Past),(∀e∈p',e∈p)->runV wr P nt bef ops K σ fr w p->runV wr P nt bef ops K σ fr w p'
 | [],fr,w,p,p',hp,h=>h
 |i::r,fr,w,p,p',hp,h=>by
  rw[Dz]at h⊢
  obtain⟨o,ho,h⟩:=h
  exact⟨o,ho,EW hp (fun v w' q q' hq h=>⟨h.1,WA r _ _ _ _ hq h.2⟩) h⟩
theorem Nl{K K':Fr->World->Prop}:∀(σ:List Nat)(fr:Fr)(w:World)(p:Past),runV wr P nt bef ops K σ fr w p->(∀fr' w',K fr' w'->Keep (KU ops) fr fr'->K' fr' w')->runV wr P nt bef ops K' σ fr w p
 | [],fr,w,p,h,hk=>hk _ _ h (Keep.refl _ _)
 |i::r,fr,w,p,h,hk=>by
  rw[Dz]at h⊢
  obtain⟨o,ho,h⟩:=h
  refine⟨o,ho,EW (fun e he=>he) (fun v w' q q' hq h=>⟨h.1,?_⟩) h⟩
  refine Nl r _ _ _ (WA r _ _ _ _ hq h.2) fun fr' w'' hK hkeep=>hk _ _ hK ?_
  refine Keep.trans (b:=put fr o.dst v) ?_ hkeep
  intro t ht
  exact Cm fun x hx e=>ht (e▸opsMods_mem (List.mem_of_getElem? ho) hx)
end
theorem Lp:∀{st:List (Nat×Kd)}{fr:Fr}{K K':StTy st->Prop},(∀s,K s->K' s)->Hz st fr K->Hz st fr K'
 | [],fr,K,K',hk,h=>hk _ h
 | [x],fr,K,K',hk,h=>by
  simp only[Hz]at h⊢
  split at h
  ·split at h
   ·exact hk _ h
   ·exact h.elim
  ·exact h.elim
 |x::y::r,fr,K,K',hk,h=>by
  simp only[Hz]at h⊢
  split at h
  ·split at h
   ·exact Lp (st:=y::r) (fun s h=>hk _ h) h
   ·exact h.elim
  ·exact h.elim
theorem ZR{k:Kd}{v:Value}{s:KTy k}(h:fromV k v=some s):v=toV k s:=by
 cases k with
 |inl k=>
  cases v<;>simp only[fromV]at h<;>try cases h
  split at h
  ·rename_i hk
   have hk:=of_decide_eq_true hk
   cases h;subst hk;rfl
  ·cases h
 |inr n=>
  rcases n with _|_|_|_|_|n
  ·cases v<;>first|(cases h;rfl)|cases h
  ·cases v<;>first|(cases h;rfl)|cases h
  ·cases v<;>first|(cases h;rfl)|cases h
  ·cases v<;>first|(cases h;rfl)|cases h
  ·cases v<;>first|(cases h;rfl)|cases h
  ·have h':(some v:Option (KTy (.inr (n+5))))=some s:=by cases v<;>exact h
   exact Option.some.inj h'
theorem TP:∀{st:List (Nat×Kd)}{fr:Fr}{K:StTy st->Prop},Hz st fr K->∃s,K s/\∀fr0 t v,fget (setSt st s fr0) t=some v->fget fr t=some v\/(t∉st.map (·.1)/\fget fr0 t=some v)
 | [],fr,K,h=>⟨(),h,fun fr0 t v ht=>.inr ⟨by simp,ht⟩⟩
 | [x],fr,K,h=>by
  simp only[Hz]at h
  split at h
  ·rename_i u hu
   split at h
   ·rename_i s hs
    refine⟨s,h,fun fr0 t v ht=>?_⟩
    simp only[setSt]at ht
    by_cases htx:t=x.1
    ·subst htx
     rw[EF]at ht
     cases ht
     left;rw[hu,ZR hs]
    ·rw[CJ _ _ _ _ htx]at ht
     exact .inr ⟨by simpa using htx,ht⟩
   ·exact h.elim
  ·exact h.elim
 |x::y::r,fr,K,h=>by
  simp only[Hz]at h
  split at h
  ·rename_i u hu
   split at h
   ·rename_i s hs
    obtain⟨s',h,hall⟩:=TP (st:=y::r) h
    refine⟨(s,s'),h,fun fr0 t v ht=>?_⟩
    simp only[setSt]at ht
    by_cases htx:t=x.1
    ·subst htx
     rw[EF]at ht
     cases ht
     left;rw[hu,ZR hs]
    ·rw[CJ _ _ _ _ htx]at ht
     rcases hall fr0 t v ht with h1|⟨h1,h2⟩
     ·exact .inl h1
     ·exact .inr ⟨by simpa [htx]using h1,h2⟩
   ·exact h.elim
  ·exact h.elim
theorem PY:∀{st:List (Nat×Kd)}{s:StTy st}{fr:Fr}{t:Nat},t∉st.map (·.1)->fget (setSt st s fr) t=fget fr t
 | [],s,fr,t,h=>rfl
 | [x],s,fr,t,h=>by
  simp at h
  exact CJ _ _ _ _ h
 |x::y::r,s,fr,t,h=>by
  simp only[setSt]
  simp only[map_cons,mem_cons,not_or]at h
  rw[CJ _ _ _ _ h.1]
  exact PY (st:=y::r) (by simp[h.2.1];simpa using h.2.2)
theorem Xd:∀{ms:List Nat}{fr:Fr}{t:Nat},t∈ms->fget (cO ms fr) t=none
 |x::r,fr,t,h=>by
  simp only[cO]
  by_cases hx:t=x
  ·subst hx;exact EF ..
  ·rw[CJ _ _ _ _ hx]
   exact Xd ((mem_cons.1 h).resolve_left hx)
theorem OB:∀{ms:List Nat}{fr:Fr}{t:Nat},t∉ms->fget (cO ms fr) t=fget fr t
 | [],fr,t,h=>rfl
 |x::r,fr,t,h=>by
  simp only[cO]
  simp only[mem_cons,not_or]at h
  rw[CJ _ _ _ _ h.1]
  exact OB h.2
theorem Xu:∀{st:List (Nat×Kd)}{ms:List Nat},stOk st ms=true->∀t∈st.map (·.1),t∈ms
 | [],ms,h,t,ht=>by cases ht
 |x::r,ms,h,t,ht=>by
  simp only[stOk,Bool.and_eq_true]at h
  rcases mem_cons.1 ht with rfl|ht
  ·simpa using h.1
  ·exact Xu h.2 t ht
theorem Sj{st:List (Nat×Kd)}{ms:List Nat}(hst:stOk st ms=true)(s:StTy st)(fr:Fr):Keep ms fr (setSt st s (cO ms fr)):=by
 intro t ht
 rw[PY fun h=>ht (Xu hst t h),OB ht]
section
variable{P:Program}{nt:Nat}{ds:List Deferred}
theorem V5{st:List (Nat×Kd)}{ms:List Nat}(hst:stOk st ms=true){fr fr':Fr}{a:Act}(hr:Ref nt ds fr' a)(hk:Keep ms fr fr'){K:StTy st->Prop}(h:Hz st fr' K):
  ∃s,K s/\Ref nt ds (setSt st s (cO ms fr)) a:=by
 obtain⟨s,h,hall⟩:=TP h
 refine⟨s,h,hr.size,hr.defers,fun t v ht=>?_⟩
 rcases hall _ t v ht with h1|⟨h1,h2⟩
 ·exact hr.val t v h1
 ·by_cases hm:t∈ms
  ·rw[Xd hm]at h2;cases h2
  ·rw[OB hm]at h2
   exact hr.val t v (by rw[hk t hm,h2])
theorem loop_mono{St:Type}{body body':St->World->(St->World->Prop)->Prop}(hb:∀s w next,body s w next->body' s w next){s:St}{w:World}(h:Ae body s w):Ae body' s w:=by
 obtain⟨⟨I,h0,h⟩⟩:=h
 exact⟨⟨I,h0,fun n s w hI=>hb _ _ _ (h n s w hI)⟩⟩
theorem JO.mono{St:Type}{gf:FuncId}{fi ca:List Value}{toA:St->List Value}{round:St->World->(World->(World->Prop)->Prop)->(World->Prop)->(World->Prop)->(Nat->World->Prop)->Prop}{w:World}{Qn Qr Qn' Qr':Nat->World->Prop}{Qx Qx':Nat->Nat->World->Prop}
  (h:JO P gf fi ca toA round w Qn Qr Qx) (hn:∀D w,Qn D w->Qn' D w) (hr:∀D w,Qr D w->Qr' D w) (hx:∀i D w,Qx i D w->Qx' i D w):JO P gf fi ca toA round w Qn' Qr' Qx':=by
 refine⟨fun D l w0 w1 rec h0 h1 hy=>⟨Calls.mono (h.run D l w0 w1 rec h0 h1 hy).run ?_⟩⟩
 rintro e w2 ⟨v,he,hh⟩
 refine⟨v,he,?_⟩
 rcases hh with⟨g,q⟩|⟨g,q⟩|⟨id,g,q⟩
 ·exact .inl ⟨g,hn _ _ q⟩
 ·exact .inr (.inl ⟨g,hr _ _ q⟩)
 ·exact .inr (.inr ⟨id,g,hx _ _ _ q⟩)
theorem and_true{a b:Bool}(h:(a&&b)=true):a=true/\b=true:=by simpa using h
theorem YQ(an:An):∀(c:Code)(fr:Fr)(ms:List Nat)(w:World)(Q Q':Exit->Fr->List Nat->World->Prop),V P an nt c fr ms w Q->(∀e fr' ms' w',Q e fr' ms' w'->Keep (mods c) fr fr'->(noRF c=true->ms'=ms)->Q' e fr' ms' w')->V P an nt c fr ms w Q':=by
 intro c
 induction c with
 |skip=>exact fun fr ms w Q Q' h hq=>hq _ _ _ _ h (Keep.refl _ _) fun _=>rfl
 |region id ops draw=>
  intro fr ms w Q Q' h hq
  simp only[V]at h⊢
  split at h
  ·exact Nl _ _ _ _ h fun fr' w' h hk=>hq _ _ _ _ h hk fun _=>rfl
  ·split at h
   ·exact JJ (fun eo h=>Uw (fun cl σ h=>Nl _ _ _ _ h fun fr' w' h hk=>hq _ _ _ _ h hk fun _=>rfl) h) h
   ·exact h.elim
 |seq a b iha ihb=>
  intro fr ms w Q Q' h hq
  have hma:∀t∈mods a,t∈mods (.seq a b):=fun t ht=>mem_append_left _ ht
  have hmb:∀t∈mods b,t∈mods (.seq a b):=fun t ht=>List.mem_append_right _ ht
  have hra:noRF (.seq a b)=true->noRF a=true:=fun h=>(and_true h).1
  have hrb:noRF (.seq a b)=true->noRF b=true:=fun h=>(and_true h).2
  simp only[V]at h⊢
  split at h
  ·rename_i st hf
   split at h
   ·rename_i hst
    obtain⟨hst,hrf⟩:=and_true hst
    obtain⟨h⟩:=h
    refine⟨?_⟩
    refine iha _ _ _ _ _ h fun e fr' ms' w' h hk hms=>?_
    cases e with
    |normal=>
     exact Lp (fun s h=>ihb _ _ _ _ _ h fun e fr'' ms'' w'' h hk' hms'=>hq _ _ _ _ h (Keep.trans ((Sj hst s fr).more hma) (hk'.more hmb)) fun hh=>hms' (hrb hh)) h
    |_=>exact hq _ _ _ _ h (hk.more hma) fun hh=>hms (hra hh)
   ·exact h.elim
  ·refine iha _ _ _ _ _ h fun e fr' ms' w' h hk hms=>?_
   cases e with
   |normal=>exact ihb _ _ _ _ _ h fun e fr'' ms'' w'' h hk' hms'=>hq _ _ _ _ h (Keep.trans (hk.more hma) (hk'.more hmb)) fun hh=>(hms' (hrb hh)).trans (hms (hra hh))
   |_=>exact hq _ _ _ _ h (hk.more hma) fun hh=>hms (hra hh)
 |cond c x y ihx ihy=>
  intro fr ms w Q Q' h hq
  simp only[V]at h⊢
  split at h
  ·rename_i b hb
   cases b with
   |true=>exact ihx _ _ _ _ _ h fun e fr' ms' w' h hk hms=>hq _ _ _ _ h (hk.more fun t ht=>mem_append_left _ ht) fun hh=>hms (and_true hh).1
   |false=>exact ihy _ _ _ _ _ h fun e fr' ms' w' h hk hms=>hq _ _ _ _ h (hk.more fun t ht=>List.mem_append_right _ ht) fun hh=>hms (and_true hh).2
  ·exact h.elim
 |block id c ih=>
  intro fr ms w Q Q' h hq
  simp only[V]at h⊢
  refine ih _ _ _ _ _ h fun e fr' ms' w' h hk hms=>?_
  cases e with
  |exit id'=>
   simp only at h⊢
   split at h<;>exact hq _ _ _ _ h hk hms
  |_=>exact hq _ _ _ _ h hk hms
 |loop c ih=>
  intro fr ms w Q Q' h hq
  simp only[V]at h⊢
  split at h
  ·rename_i st hf
   split at h
   ·rename_i hst
    obtain⟨hst,hrf⟩:=and_true hst
    refine Lp (fun s h=>loop_mono (fun s w next h=>?_) h) h
    refine ih _ _ _ _ _ h fun e fr' ms' w' h hk hms=>?_
    cases e with
    |normal=>exact h
    |_=>exact hq _ _ _ _ h (Keep.trans (Sj hst s fr) hk) hms
   ·exact h.elim
  ·exact h.elim
 |exit id=>exact fun fr ms w Q Q' h hq=>hq _ _ _ _ h (Keep.refl _ _) fun _=>rfl
 |scope c ih=>
  intro fr ms w Q Q' h hq
  simp only[V]at h⊢
  refine ih _ _ _ _ _ h fun e fr' ms' w' h hk hms=>?_
  cases e with
  |goto l=>exact h
  |_=>exact hq _ _ _ _ h hk hms
 |label l=>exact fun fr ms w Q Q' h hq=>hq _ _ _ _ h (Keep.refl _ _) fun _=>rfl
 |ret=>exact fun fr ms w Q Q' h hq=>hq _ _ _ _ h (Keep.refl _ _) fun _=>rfl
 |goto l=>exact fun fr ms w Q Q' h hq=>h.elim
 |refuse s=>exact fun fr ms w Q Q' h hq=>h.elim
 |rangeFunc f ps a b iha ihb=>
  intro fr ms w Q Q' h hq
  have hno:noRF (.rangeFunc f ps a b)=true->False:=fun h=>by cases h
  simp only[V]at h⊢
  split at h
  ·split at h
   ·split at h
    ·obtain⟨gf,fi,ca,e,hb,h⟩:=h
     exact⟨gf,fi,ca,e,hb,h.mono (fun D w' h=>hq _ _ _ _ h (Keep.refl _ _) fun hh=>(hno hh).elim) (fun D w' h=>by
       split at h
       ·exact hq _ _ _ _ h (Keep.refl _ _) fun hh=>(hno hh).elim
       ·exact h.elim) (fun i D w' h=>by
       split at h
       ·exact hq _ _ _ _ h (Keep.refl _ _) fun hh=>(hno hh).elim
       ·exact h.elim)⟩
    ·exact h.elim
   ·exact h.elim
  ·exact h.elim
theorem exists_least{p:Nat->Prop}(h:∃n,p n):∃n,p n/\∀m,m<n->¬p m:=by
 obtain⟨n,hn⟩:=h
 induction n using Nat.strongRecOn with
 |_ n ih=>
  by_cases hx:∃m,m<n/\p m
  ·obtain⟨m,h1,h2⟩:=hx;exact ih m h1 h2
  ·exact⟨n,hn,fun m hm hp=>hx ⟨m,hm,hp⟩⟩
theorem wpIn_loop_n{F:Fence}{n:Nat}{c:Code}{Q:Exit->Act->World->Prop}(I:Nat->Act->World->Prop){a:Act}{w:World}(h0:∃m,I m a w)
  (round:∀m a w,I m a w->c.wpIn F n P (Exit.then (fun a' w'=>∃m',m'<m/\I m' a' w') Q) a w):(Code.loop c).wpIn F n P Q a w:=by
 classical
 let μ:Act->World->Nat:=fun a w=>if h:∃m,I m a w then Classical.choose (exists_least h)else 0
 have hμ:∀a w,(∃m,I m a w)->I (μ a w) a w/\∀m,m<μ a w->¬I m a w:=by
  intro a w h
  simp only[μ,dif_pos h]
  exact Classical.choose_spec (exists_least h)
 refine wpIn_loop (fun a w=>∃m,I m a w) μ h0 fun a w h=>?_
 refine wpIn_mono (round _ _ _ (hμ a w h).1) fun e a' w' hq=>?_
 cases e with
 |normal=>
  obtain⟨m',hlt,hI⟩:=hq
  refine⟨⟨m',hI⟩,?_⟩
  have h1:=(hμ a' w' ⟨m',hI⟩).2
  have:¬m'<μ a' w':=fun hlt'=>h1 m' hlt' hI
  omega
 |_=>exact hq
section
variable{b:Frame}{a:Act}{k:List Item}{cs:List Frame}{w:World}
theorem stepR_scope{c:Code}:step P (lone (b.atR a (.code (.scope c)::k)) cs w)=.next (lone (b.atR a (.code c::.inScope c::k)) cs w):=
 step_lone_go (by simp[stepG,stepG.exec,Frame.atR])
theorem stepR_inScope{c:Code}:step P (lone (b.atR a (.inScope c::k)) cs w)=.next (lone (b.atR a k) cs w):=
 step_lone_go (by simp[stepG,stepG.exec,Frame.atR])
end
theorem wpIn_scope{F:Fence}{n:Nat}{c:Code}{Q:Exit->Act->World->Prop}{a:Act}{w:World}(h:c.wpIn F n P (Exit.noGoto Q) a w):(Code.scope c).wpIn F n P Q a w:=by
 intro b k cs hro hb hr
 obtain⟨e,a1,w1,hq,harr⟩:=h b (.inScope c::k) cs hro hb hr
 have s0:StepsIn (Machine.fenced P F) P (lone (b.atR a (.code (.scope c)::k)) cs w) (lone (b.atR a (.code c::.inScope c::k)) cs w):=.one (fenced_calm (fr:=b.atR a (.code (.scope c)::k)) hb hr rfl) stepR_scope
 cases e with
 |normal=>exact⟨.normal,a1,w1,hq,StepsIn.trans s0 (StepsIn.trans harr (.one (fenced_calm (fr:=b.atR a1 (.inScope c::k)) hb hr rfl) stepR_inScope))⟩
 |exit id=>
  refine⟨.exit id,a1,w1,hq,fun k' hk=>StepsIn.trans s0 (harr.1 k' (by simpa [exitTo]using hk)),fun hs hn=>?_⟩
  obtain⟨k1,h1,h2⟩:=harr.2 hs (by simpa [exitTo]using hn)
  exact⟨k1,h1,StepsIn.trans s0 h2⟩
 |goto l=>exact hq.elim
 |ret=>exact⟨_,a1,w1,hq,.of_steps s0 harr⟩
 |panic ch=>exact⟨_,a1,w1,hq,.of_steps s0 harr⟩
 |outgrown=>exact⟨_,a1,w1,hq,.of_steps (b:=b) (k:=k) (cs:=cs) (e:=.outgrown) s0 harr⟩
def mkM(ms:List Nat)(ds:List Deferred):List Deferred:=ms.map (fun D=> {target:=.collected D,args:= #[]})++ds
theorem Uk:∀(st:List (Nat×Kd))(s:StTy st)(fr:Fr),setSt st s fr=((st.map (·.1)).zip (Es st s)).map (fun p=>(p.1,some p.2))++fr
 | [],s,fr=>rfl
 | [x],s,fr=>rfl
 |x::y::r,s,fr=>by
  simp only[setSt,Es,map_cons,List.zip_cons_cons,cons_append]
  rw[Uk (y::r) s.2 fr]
  rfl
theorem SX:∀(st:List (Nat×Kd))(s:StTy st),(Es st s).length=st.length
 | [],s=>rfl
 | [x],s=>rfl
 |x::y::r,s=>by simp only[Es,length_cons];rw[SX (y::r) s.2];rfl
theorem XT:∀(kv:List (Nat×Value))(tm:Array Value)(t:Nat)(v:Value)(fr:Fr),(kv.map (·.1)).Nodup->(∀k∈kv.map (·.1),k<tm.size)->fget (kv.map (fun p=>(p.1,some p.2))++fr) t=some v->
  ((kv.foldl (fun t p=>t.setIfInBounds p.1 p.2) tm)[t]? =some v)\/(t∉kv.map (·.1)/\fget fr t=some v/\(kv.foldl (fun t p=>t.setIfInBounds p.1 p.2) tm)[t]? =tm[t]?)
 | [],tm,t,v,fr,_,_,h=>.inr ⟨by simp,h,rfl⟩
 |(k,u)::r,tm,t,v,fr,hn,hk,h=>by
  simp only[map_cons,nodup_cons]at hn
  simp only[map_cons,cons_append]at h
  rw[foldl_cons]
  have out:∀(r:List (Nat×Value))(tm:Array Value),k∉r.map (·.1)->(r.foldl (fun t p=>t.setIfInBounds p.1 p.2) tm)[k]? =tm[k]? :=by
   intro r
   induction r with
   |nil=>intro tm _;rfl
   |cons x q ih=>
    intro tm hx
    simp only[map_cons,mem_cons,not_or]at hx
    rw[foldl_cons,ih _ hx.2,Array.getElem?_setIfInBounds,if_neg (Ne.symm hx.1)]
  by_cases htk:t=k
  ·subst htk
   rw[EF]at h
   cases h
   left
   rw[out r _ hn.1]
   have:=hk t (by simp)
   simp[this]
  ·rw[CJ _ _ _ _ htk]at h
   rcases XT r (tm.setIfInBounds k u) t v fr hn.2 (fun j hj=>by simpa using hk j (by simp[hj])) h with h1|⟨h1,h2,h3⟩
   ·exact .inl h1
   ·refine .inr ⟨by simp[htk];simpa using h1,h2,?_⟩
    rw[h3,Array.getElem?_setIfInBounds,if_neg (Ne.symm htk)]
theorem Rt:∀{l:List Nat},nodupB l=true->l.Nodup
 | [],_=>.nil
 |x::r,h=>by
  simp only[nodupB,Bool.and_eq_true,Bool.not_eq_true',List.contains_iff_mem]at h
  refine nodup_cons.2 ⟨?_,Rt h.2⟩
  intro hx
  have:=h.1
  simp[hx]at this
theorem ref_round{st:List (Nat×Kd)}{ps:Array Tmp}{fr:Fr}{a:Act}(hr:Ref nt ds fr a)(hp:psOk nt st ps.toList=true)(s:StTy st):
  (Es st s).toArray.size=ps.size/\Ref nt [] (setSt st s fr) {tmps:=(ps.zip (Es st s).toArray).foldl (fun t (p,v)=>t.setIfInBounds p v) a.tmps,defers:=[]}:=by
 simp only[psOk,Bool.and_eq_true,beq_iff_eq]at hp
 obtain⟨⟨h1,h2⟩,h3⟩:=hp
 have h2:=Rt h2
 have hl:ps.size=st.length:=by rw[<- Array.length_toList,<- h1,List.length_map]
 have hal:=SX st s
 have e:(ps.zip (Es st s).toArray).toList=(st.map (·.1)).zip (Es st s):=by
  rw[Array.toList_zip,h1]
 have ef:(ps.zip (Es st s).toArray).foldl (fun t (p,v)=>t.setIfInBounds p v) a.tmps=((st.map (·.1)).zip (Es st s)).foldl (fun t p=>t.setIfInBounds p.1 p.2) a.tmps:=by
  rw[<- Array.foldl_toList,e]
 have hk:((st.map (·.1)).zip (Es st s)).map (·.1)=st.map (·.1):=List.map_fst_zip (by simp[hal])
 refine⟨by simp[hal,hl],?_,rfl,?_⟩
 ·show(_:Array Value).size=nt
  rw[ef]
  have:∀(l:List (Nat×Value))(tm:Array Value),(l.foldl (fun t p=>t.setIfInBounds p.1 p.2) tm).size=tm.size:=by
   intro l
   induction l with
   |nil=>intro tm;rfl
   |cons x r ih=>intro tm;rw[foldl_cons,ih];simp
  rw[this];exact hr.size
 ·intro t v ht
  show(_:Array Value)[t]? =some v
  rw[ef]
  rw[Uk]at ht
  rcases XT _ a.tmps t v fr (by rw[hk,h1];exact h2) (fun k hkk=>by
   rw[hk,h1]at hkk
   have:=all_eq_true.1 h3 k hkk
   rw[hr.size]
   exact Nat.lt_of_lt_of_le (Nat.lt_succ_self _) (Nat.le_of_ble_eq_true this)) ht with h4|⟨_,h5,h6⟩
  ·exact h4
  ·rw[h6];exact hr.val t v h5
theorem V_sound(hN:LD P)(an:An):∀(c:Code)(rd:Option Nat)(n:Nat)(ds:List Deferred)(fr:Fr)(ms:List Nat)(w:World)(Q:Exit->Fr->List Nat->World->Prop)(QA:Exit->Act->World->Prop)(a:Act),
  V P an nt c fr ms w Q->Ref nt (mkM ms ds) fr a->(rd≠none->noRF c=true)->(∀e fr' ms' w' a',Q e fr' ms' w'->Ref nt (mkM ms' ds) fr' a'->QA e a' w')->c.wpIn (W rd) n P QA a w:=by
 intro c
 induction c with
 |skip=>exact fun rd n ds fr ms w Q QA a h hr hrd hq=>wpIn_skip (hq _ _ _ _ _ h hr)
 |region id ops draw=>
  intro rd n ds fr ms w Q QA a h hr hrd hq
  simp only[V]at h
  split at h
  ·exact wpIn_region (by
    have:=WS (rd:=rd) (n:=n) (Q:=QA) hN (fun fr w a h hr=>hq _ _ _ _ _ h hr) _ _ _ _ a h hr
    simpa using this)
  ·split at h
   ·rename_i hok
    refine wpIn_region_draw fun t=>?_
    have h2:JU (oneV (an.wraps.contains id) P nt ops (fun fr' w'=>∀a',Ref nt (mkM ms ds) fr' a'->QA .normal a' w') fr w.drew) (KE (closure [] ops.toList) (bZ P ops.toList 0).length (bZ P ops.toList 0)):=
     JJ (fun eo h=>Uw (fun cl σ h=>Nl _ _ _ _ h fun fr' w' h hk a' hr'=>hq _ _ _ _ _ h hr') h) h
    exact draw_upon hN (fun f f' w hf h a' hr'=>h a' ⟨hr'.size,hr'.defers,fun t v ht=>hr'.val t v (by rw[<- hf t];exact ht)⟩)
     (fun fr w a h hr=>h a hr) hok h2 hr _ t
   ·exact h.elim
 |seq x y ihx ihy=>
  intro rd n ds fr ms w Q QA a h hr hrd hq
  have hrx:rd≠none->noRF x=true:=fun h=>(and_true (hrd h)).1
  have hry:rd≠none->noRF y=true:=fun h=>(and_true (hrd h)).2
  simp only[V]at h
  split at h
  ·rename_i st hf
   split at h
   ·rename_i hst
    obtain⟨hst,hrf⟩:=and_true hst
    obtain⟨h⟩:=h
    have h2:=YQ an x _ _ _ _ (fun e fr' ms' w'=>(match e with
     |.normal=>Hz st fr' fun s=>V P an nt y (setSt st s (cO (mods x) fr)) ms w' Q
     |e=>Q e fr' ms' w')/\Keep (mods x) fr fr'/\ms'=ms) h fun e fr' ms' w' h hk hms=>⟨h,hk,hms hrf⟩
    refine wpIn_seq (ihx _ _ _ _ _ _ _ _ _ h2 hr hrx fun e fr' ms' w' a' hh hr'=>?_)
    obtain⟨hh,hk,hms⟩:=hh
    subst hms
    cases e with
    |normal=>
     obtain⟨s,h3,hr3⟩:=V5 hst hr' hk hh
     exact ihy _ _ _ _ _ _ _ _ _ h3 hr3 hry hq
    |_=>exact hq _ _ _ _ _ hh hr'
   ·exact h.elim
  ·refine wpIn_seq (ihx _ _ _ _ _ _ _ _ _ h hr hrx fun e fr' ms' w' a' hh hr'=>?_)
   cases e with
   |normal=>exact ihy _ _ _ _ _ _ _ _ _ hh hr' hry hq
   |_=>exact hq _ _ _ _ _ hh hr'
 |cond c x y ihx ihy=>
  intro rd n ds fr ms w Q QA a h hr hrd hq
  simp only[V]at h
  split at h
  ·rename_i b hb
   cases b with
   |true=>exact wpIn_cond_true (hr.ev hb) (ihx _ _ _ _ _ _ _ _ _ h hr (fun h=>(and_true (hrd h)).1) hq)
   |false=>exact wpIn_cond_false (hr.ev hb) (ihy _ _ _ _ _ _ _ _ _ h hr (fun h=>(and_true (hrd h)).2) hq)
  ·exact h.elim
 |block id c ih=>
  intro rd n ds fr ms w Q QA a h hr hrd hq
  simp only[V]at h
  refine wpIn_block (ih _ _ _ _ _ _ _ _ _ h hr hrd fun e fr' ms' w' a' hh hr'=>?_)
  cases e with
  |exit id'=>
   simp only at hh
   simp only[Exit.inBlock]
   split at hh
   ·rename_i hb
    rw[if_pos (Nat.eq_of_beq_eq_true hb)]
    exact hq _ _ _ _ _ hh hr'
   ·rename_i hb
    rw[if_neg (fun e=>by subst e;simp at hb)]
    exact hq _ _ _ _ _ hh hr'
  |_=>exact hq _ _ _ _ _ hh hr'
 |loop c ih=>
  intro rd n ds fr ms w Q QA a h hr hrd hq
  simp only[V]at h
  split at h
  ·rename_i st hf
   split at h
   ·rename_i hst
    obtain⟨hst,hrf⟩:=and_true hst
    obtain⟨s0,⟨⟨I,⟨m0,h0⟩,hround⟩⟩,hr0⟩:=V5 hst hr (Keep.refl (mods c) fr) h
    refine wpIn_loop_n (fun m a w=>∃s,I m s w/\Ref nt (mkM ms ds) (setSt st s (cO (mods c) fr)) a) ⟨m0,s0,h0,hr0⟩ fun m a w hI=>?_
    obtain⟨s,hI,hra⟩:=hI
    have h1:=hround m s w hI
    have h2:=YQ an c _ _ _ _ (fun e fr' ms' w'=>(match e with
     |.normal=>Hz st fr' fun s'=>∃m',m'<m/\I m' s' w'
     |e=>Q e fr' ms' w')/\Keep (mods c) (setSt st s (cO (mods c) fr)) fr'/\ms'=ms) h1 fun e fr' ms' w' h hk hms=>⟨h,hk,hms hrf⟩
    refine ih _ _ _ _ _ _ _ _ _ h2 hra (fun _=>hrf) fun e fr' ms' w' a' hh hr'=>?_
    obtain⟨hh,hk,hms⟩:=hh
    subst hms
    cases e with
    |normal=>
     obtain⟨s',⟨m',hlt,hI'⟩,hr3⟩:=V5 hst hr' (Keep.trans (Sj hst s fr) hk) hh
     exact⟨m',hlt,s',hI',hr3⟩
    |_=>exact hq _ _ _ _ _ hh hr'
   ·exact h.elim
  ·exact h.elim
 |exit id=>exact fun rd n ds fr ms w Q QA a h hr hrd hq=>wpIn_exit (hq _ _ _ _ _ h hr)
 |scope c ih=>
  intro rd n ds fr ms w Q QA a h hr hrd hq
  simp only[V]at h
  refine wpIn_scope (ih _ _ _ _ _ _ _ _ _ h hr hrd fun e fr' ms' w' a' hh hr'=>?_)
  cases e with
  |goto l=>exact hh
  |_=>exact hq _ _ _ _ _ hh hr'
 |label l=>exact fun rd n ds fr ms w Q QA a h hr hrd hq=>wpIn_label (hq _ _ _ _ _ h hr)
 |ret=>exact fun rd n ds fr ms w Q QA a h hr hrd hq=>wpIn_ret (hq _ _ _ _ _ h hr)
 |goto l=>exact fun rd n ds fr ms w Q QA a h hr hrd hq=>h.elim
 |refuse s=>exact fun rd n ds fr ms w Q QA a h hr hrd hq=>h.elim
 |rangeFunc g ps assign body iha ihb=>
  intro rd n ds fr ms w Q QA a h hr hrd hq
  have hno:rd=none:=Classical.byContradiction fun hh=>by have:=hrd hh;cases this
  subst hno
  simp only[V]at h
  split at h
  ·rename_i st hf
   split at h
   ·rename_i hst
    obtain⟨hps,hrfs⟩:=and_true hst
    obtain⟨hrfa,hrfb⟩:=and_true hrfs
    split at h
    ·rename_i v hg
     obtain⟨gf,fi,ca,rfl,⟨fn,cd,hfn,hcd⟩,h⟩:=h
     refine wpIn_rangeFunc ?_
     intro f0 hf0
     obtain⟨rec,hrec⟩:∃rec:LoopState->Option Code->Obj,rec=fun st pe=>.loop {state:=st,pending:=pe,fn:=f0,tmps:=a.tmps,params:=ps,assign,body,defers:=w.heap.size}:=⟨_,rfl⟩
     have hy:∀(s:StTy st)(w':World)(R:Ending->World->Prop),V P an nt assign (setSt st s fr) [] w' (fun e fr1 _ w1=>match e with
       |.normal=>w1.heap[w.heap.size+1]? =some (rec .ready none)/\V P an nt body fr1 [] (w1.putObj (w.heap.size+1) (rec .busy none)) (fun e _ _ w3=>match e with
        |.normal=>w3.heap[w.heap.size+1]? =some (rec .busy none)/\R (.returned (.bool true)) (w3.putObj (w.heap.size+1) (rec .ready none))
        |.ret=>w3.heap[w.heap.size+1]? =some (rec .busy none)/\R (.returned (.bool false)) (w3.putObj (w.heap.size+1) (rec .done (some .ret)))
        |.exit id=>w3.heap[w.heap.size+1]? =some (rec .busy none)/\R (.returned (.bool false)) (w3.putObj (w.heap.size+1) (rec .done (some (.exit id))))
        |_=>False)
       |_=>False)->w'.heap[w.heap.size+1]? =some (rec .ready none)->Du P (.func (.yield (w.heap.size+1)) #[] #[]) (Es st s) w' R:=by
      intro s w' R hround hready
      obtain⟨hsz,href⟩:=ref_round hr hps s
      show Zu P (w.heap.size+1) (Es st s) w' R
      refine⟨fun rd' n'=>?_⟩
      rw[hrec]at hready
      refine⟨f0,_,assign,body,run_yield (P:=P) hready hsz,roundIn_of_wpIn (W_fn _ _) ?_⟩
      have hround2:=YQ an assign _ _ _ _ (fun e fr1 ms1 w1=>(match e with
       |.normal=>w1.heap[w.heap.size+1]? =some (rec .ready none)/\V P an nt body fr1 [] (w1.putObj (w.heap.size+1) (rec .busy none)) (fun e _ _ w3=>match e with
        |.normal=>w3.heap[w.heap.size+1]? =some (rec .busy none)/\R (.returned (.bool true)) (w3.putObj (w.heap.size+1) (rec .ready none))
        |.ret=>w3.heap[w.heap.size+1]? =some (rec .busy none)/\R (.returned (.bool false)) (w3.putObj (w.heap.size+1) (rec .done (some .ret)))
        |.exit id=>w3.heap[w.heap.size+1]? =some (rec .busy none)/\R (.returned (.bool false)) (w3.putObj (w.heap.size+1) (rec .done (some (.exit id))))
        |_=>False)
       |_=>False)/\ms1=[]) hround fun e fr1 ms1 w1 h _ hms=>⟨h,hms hrfa⟩
      refine iha (some (w.heap.size+1)) n' [] _ _ _ _ _ _ hround2 href (fun _=>hrfa) fun e fr1 ms1 w1 a1 hh hr1=>?_
      obtain⟨hh,rfl⟩:=hh
      cases e with
      |normal=>
       obtain⟨h1,h2⟩:=hh
       rw[hrec]at h1
       refine⟨_,run_beginRound (P:=P) h1 rfl,?_⟩
       refine ihb (some (w.heap.size+1)) n' [] _ _ _ _ _ _ (by rw[hrec]at h2;exact h2) hr1 (fun _=>hrfb) fun e fr2 ms2 w2 a2 hh hr2=>?_
       cases e with
       |normal=>exact⟨_,_,run_endRound (P:=P) none hh.1,hh.2⟩
       |ret=>exact⟨_,_,run_endRound (P:=P) (some .ret) hh.1,hh.2⟩
       |exit id=>exact⟨_,_,run_endRound (P:=P) (some (.exit id)) hh.1,hh.2⟩
       |_=>exact hh.elim
      |_=>exact hh.elim
     have hrun:=(h.run w.heap.size (w.heap.size+1) (w.alloc (.deferred (some []))) ((w.alloc (.deferred (some []))).alloc (rec .ready none)) rec ⟨rfl,rfl⟩ ⟨by simp,rfl⟩ hy).run
     have h1:=Xy (args:=(fi.toList++[Value.func (.yield (w.heap.size+1)) #[] #[]]++ca.toList).toArray) (w:=(w.alloc (.deferred (some []))).alloc (rec .ready none)) hN hfn hcd
     have ea:fi++ #[Value.func (.yield (w.heap.size+1)) #[] #[]]++ca=(fi.toList++[Value.func (.yield (w.heap.size+1)) #[] #[]]++ca.toList).toArray:=by
      apply Array.toList_inj.1;simp
     refine⟨w.heap.size+1,[{target:=.collected w.heap.size,args:= #[]}],(w.alloc (.deferred (some []))).alloc (rec .ready none),{target:=.fn (.func gf) ca,args:=fi++ #[Value.func (.yield (w.heap.size+1)) #[] #[]]},(w.alloc (.deferred (some []))).alloc (rec .ready none),gf,_,(w.alloc (.deferred (some []))).alloc (rec .ready none),?_,?_,fun f' _=>W_fn _ _,?_,fun hd=>by simp[Vw]at hd,(Tj hrun).mono ?_⟩
     ·rw[hrec];exact run_enterLoop_outer (P:=P) _ _ _ _ _
     ·simp only[resolve,hr.ev hg]
      simp[go_sem]
     ·simp only[invoke,ea,h1]
     rintro e w3 ⟨v,rfl,hh⟩
     have href:Ref nt (mkM (w.heap.size::ms) ds) fr {a with defers:=[{target:=.collected w.heap.size,args:= #[]}]++a.defers}:=⟨hr.size,by show _++a.defers=_;rw[hr.defers];rfl,hr.val⟩
     rw[hrec]at hh
     rcases hh with⟨g1,g2⟩|⟨g1,g2⟩|⟨id,g1,g2⟩
     ·exact⟨none,_,run_endLoop (P:=P) g1 (by simp),hq _ _ _ _ _ g2 href⟩
     ·split at g2
      ·exact⟨some .ret,_,run_endLoop (P:=P) g1 (by simp),wpIn_ret (hq _ _ _ _ _ g2 href)⟩
      ·exact g2.elim
     ·split at g2
      ·exact⟨some (.exit id),_,run_endLoop (P:=P) g1 (by simp),wpIn_exit (hq _ _ _ _ _ g2 href)⟩
      ·exact g2.elim
    ·exact h.elim
   ·exact h.elim
  ·exact h.elim
theorem res_one{fr:Fr}{w:World}{a:Act}(hr:Ref nt ds fr a):∀{rs:List ResultVar}{K:List Value->Prop},resV P fr w rs K->
  ∃l,K l/\l.length=rs.length/\(rs.mapM (m:=Sem) fun
   |.tmp t=>pure (a.tmps.getD t undef)
   |.cell x t=>do loadVar t (<- asAddr (a.tmps.getD x undef))).run P w=.ok l w
 | [],K,h=>⟨[],h,rfl,rfl⟩
 |.tmp t::r,K,h=>by
  simp only[resV]at h
  obtain⟨v,hv,h⟩:=AX h
  obtain⟨l,h,hl,hrun⟩:=res_one hr h
  refine⟨v::l,h,by simp[hl],?_⟩
  have hv':=hr.val t v hv
  simp only[mapM_cons,Sem.run_bind,Sem.run_pure,Result.andThen_ok,hrun]
  simp[Array.getD_eq_getD_getElem?,hv']
 |.cell x t::r,K,h=>by
  simp only[resV]at h
  split at h
  ·rename_i p hx
   obtain⟨ad,rfl,h1⟩:=Ej h
   obtain⟨v,hld,h2⟩:=Qp h1
   clear h h1
   obtain⟨l,h,hl,hrun⟩:=res_one hr h2
   refine⟨v::l,h,by simp[hl],?_⟩
   have hx':=hr.val x _ hx
   have hld':(loadVar t ad).run P w=.ok v w:=hld
   have e1:(do loadVar t (<- asAddr (a.tmps.getD x undef)):Sem Value).run P w=.ok v w:=by
    simp[Array.getD_eq_getD_getElem?,hx',asAddr,hld']
   rw[mapM_cons,Sem.run_bind]
   simp only[e1,Result.andThen_ok,Sem.run_bind,hrun,Sem.run_pure]
  ·exact h.elim
theorem ret_post{fn:Func}{fr:Fr}{w:World}{a:Act}{ds:List Deferred}{R:Ending->World->Prop}(hr:Ref nt ds fr a)(h:retV P fn fr w R):∃v,(results fn a.tmps).run P w=.ok v w/\R (.returned v) w:=by
 obtain⟨l,h,hl,hrun⟩:=res_one hr h
 have hm:(fn.results.mapM (m:=Sem) fun
   |.tmp t=>pure (a.tmps.getD t undef)
   |.cell x t=>do loadVar t (<- asAddr (a.tmps.getD x undef))).run P w=.ok l.toArray w:=by
  rw[Array.mapM_eq_mapM_toList]
  simp only[Sem.run_map,hrun,Result.andThen_ok]
 unfold results
 rw[Sem.run_bind]
 refine⟨_,(congrArg (fun r=>Result.andThen r _) hm).trans rfl,?_⟩
 match l,h with
 | [v],h=>exact h
 | [],h=>exact h
 |_::_::_,h=>
  simp only[List.size_toArray,length_cons]
  rw[dif_neg (by omega)]
  exact h
theorem Oj{F:Fence}{n:Nat}{fn:Func}{fr:Fr}{R:Ending->World->Prop}{a:Act}{ds:List Deferred}(hr:Ref nt ds fr a):∀(ms:List Nat)(w:World),ZU P fn fr ms w R->LeavesInM F n P fn a.tmps R (mkM ms []) .returning w
 | [],w,h=>by
  obtain⟨v,h1,h2⟩:=ret_post hr h
  exact⟨v,h1,h2⟩
 |D::ms,w,h=>by
  obtain⟨w1,⟨h1,rfl⟩,h2⟩:=h
  exact⟨by simp,.inl ⟨D,_,rfl,run_takeDeferred h1,Oj hr ms _ h2⟩⟩
theorem Uz:∀(l:List Value)(i t:Nat)(v:Value),fget (UB i l) t=some v->∃j,t=i+j/\l[j]? =some v
 | [],i,t,v,h=>by simp[UB,fget_nil]at h
 |x::r,i,t,v,h=>by
  simp only[UB]at h
  by_cases ht:t=i
  ·subst ht
   rw[EF]at h
   exact⟨0,rfl,by simpa using h⟩
  ·rw[CJ _ _ _ _ ht]at h
   obtain⟨j,rfl,hj⟩:=Uz r (i+1) t v h
   exact⟨j+1,by omega,by simpa using hj⟩
theorem ref_args{fn:Func}{args:List Value}(h0:decide (args.length<=fn.ntmps)=true):
  Ref fn.ntmps [] (UB 0 args) {tmps:=args.toArray++Array.replicate (fn.ntmps-args.toArray.size) undef,defers:=[]}:=by
 have h0:=of_decide_eq_true h0
 refine⟨by simp;omega,rfl,fun t v h=>?_⟩
 obtain⟨j,rfl,hj⟩:=Uz args 0 t v h
 have hlt:j<args.length:=(List.getElem?_eq_some_iff.1 hj).1
 simp only[Nat.zero_add]
 rw[Array.getElem?_append_left (by simpa using hlt)]
 simpa using hj
theorem calls_of_bodyV(hN:LD P){an:An}{f:FuncId}{fn:Func}{args:List Value}{w:World}{R:Ending->World->Prop}(hf:P.funcs[f]? =some fn)(h0:decide (args.length<=fn.ntmps)=true)
  (h:aW P an fn args w R):Calls P f args.toArray w R:=by
 simp only[aW]at h
 split at h
 ·exact h.elim
 ·rename_i c hc
  refine(callsIn_wide (n:=0)).1 (callsIn_of_wp_marks hf hc trivial ?_ rfl)
  refine V_sound hN an c none 0 [] _ _ _ _ _ _ h (ref_args h0) (fun h=>absurd rfl h) fun e fr' ms' w' a' hh hr'=>?_
  cases e with
  |normal=>
   show LeavesInM _ _ _ _ _ _ a'.defers _ _
   rw[hr'.defers];exact Oj hr' _ _ hh
  |ret=>
   show LeavesInM _ _ _ _ _ _ a'.defers _ _
   rw[hr'.defers];exact Oj hr' _ _ hh
  |_=>exact hh.elim
end
end Go.Vc
