/- Part 1 of 6 of the proof of nodetabRefused_holds: for every input, from every world that may be reached. -/
import Derived.WalkKit
import Derived.RangeFuncSeq
import Derived.KernelRfl
import Derived.RangeFuncLeaves
import Derived.Deep.AppendSrc
import Derived.Laws.MakeOwn
import Derived.Laws.BytesArg
import Derived.Laws.BytesString
import Derived.Laws.IdiomStrings
import Derived.Maps.RangeRun
import Derived.Laws.Pointers
import Derived.Lib.SliceRun
import Derived.Lib.Overlaps
import Derived.Lib.AppendZerosOnto
import Derived.Laws.Externs
import Derived.Laws.StructEq
import Derived.ChangeKeysEq
import Derived.WideKeyRuns
import Derived.Test.YtljenkbpnioipaaGreatRows
import Derived.ProofKit
import Derived.JoinedCond
import Derived.Test.YtljenkbpnioipaaGreatChecked
import Derived.Shelf.SlIter.Nil
import Derived.Shelf.SlIterI.Nil
import Derived.Shelf.SortM.Plain
import Derived.Shelf.SortM.SortNone
import Derived.Shelf.SlMaps.Clone
import Derived.Shelf.SlSortCmp.NoneTotal
import Derived.Sort.Walk0
import Derived.StringKeys
import Derived.Lib.Bytealg
set_option linter.unusedVariables false
set_option linter.unusedSimpArgs false
set_option linter.defProp false
set_option maxRecDepth 100000
set_option maxHeartbeats 4000000
namespace Go
theorem m1{α:Type _}{a b:α}{l:List α}:b∈a::b::l:=.tail _ (.head _)
theorem m2{α:Type _}{a b c:α}{l:List α}:c∈a::b::c::l:=.tail _ (.tail _ (.head _))
theorem m3{α:Type _}{a b c d:α}{l:List α}:d∈a::b::c::d::l:=.tail _ (.tail _ (.tail _ (.head _)))
theorem m4{α:Type _}{a b c d e:α}{l:List α}:e∈a::b::c::d::e::l:=.tail _ (.tail _ (.tail _ (.tail _ (.head _))))
theorem m5{α:Type _}{a b c d e f:α}{l:List α}:f∈a::b::c::d::e::f::l:=.tail _ (.tail _ (.tail _ (.tail _ (.tail _ (.head _)))))
theorem m6{α:Type _}{a b c d e f g:α}{l:List α}:g∈a::b::c::d::e::f::g::l:=.tail _ (.tail _ (.tail _ (.tail _ (.tail _ (.tail _ (.head _))))))
theorem m7{α:Type _}{a b c d e f g h:α}{l:List α}:h∈a::b::c::d::e::f::g::h::l:=.tail _ (.tail _ (.tail _ (.tail _ (.tail _ (.tail _ (.tail _ (.head _)))))))
theorem m8{α:Type _}{a b c d e f g h i:α}{l:List α}:i∈a::b::c::d::e::f::g::h::i::l:=.tail _ (.tail _ (.tail _ (.tail _ (.tail _ (.tail _ (.tail _ (.tail _ (.head _))))))))
theorem m9{α:Type _}{a b c d e f g h i j:α}{l:List α}:j∈a::b::c::d::e::f::g::h::i::j::l:=.tail _ (.tail _ (.tail _ (.tail _ (.tail _ (.tail _ (.tail _ (.tail _ (.tail _ (.head _)))))))))
theorem m10{α:Type _}{a b c d e f g h i j k:α}{l:List α}:k∈a::b::c::d::e::f::g::h::i::j::k::l:=.tail _ (.tail _ (.tail _ (.tail _ (.tail _ (.tail _ (.tail _ (.tail _ (.tail _ (.tail _ (.head _))))))))))
theorem m11{α:Type _}{a b c d e f g h i j k m:α}{l:List α}:m∈a::b::c::d::e::f::g::h::i::j::k::m::l:=.tail _ (.tail _ (.tail _ (.tail _ (.tail _ (.tail _ (.tail _ (.tail _ (.tail _ (.tail _ (.tail _ (.head _)))))))))))
theorem m12{α:Type _}{a b c d e f g h i j k m n:α}{l:List α}:n∈a::b::c::d::e::f::g::h::i::j::k::m::n::l:=.tail _ (.tail _ (.tail _ (.tail _ (.tail _ (.tail _ (.tail _ (.tail _ (.tail _ (.tail _ (.tail _ (.tail _ (.head _))))))))))))
theorem om{p:Prop}(h:p:=by omega):p:=h
theorem kS{A:Type _}{a b:A}(h:a=b:=by kernel_rfl):some a=some b:=congrArg some h
theorem kD{p:Prop}[Decidable p](h:decide p=true:=by kernel_rfl):p:=of_decide_eq_true h
theorem gE{A:Type _}{l:List A}{i:Nat}{a:A}(h:l[i]? =some a):∃h:i<l.length,l[i]=a:=List.getElem?_eq_some_iff.1 h
theorem AP{A:Type _}:(∀a b:List A,List.append a b=a++b)/\(∀a:List A,[]++a=a)/\∀(x:A)(a b:List A),x::a++b=x::(a++b):=⟨fun _ _=>rfl,fun _=>rfl,fun _ _ _=>rfl⟩
theorem t2{α:Type _}{a b c:α}{l:List α}(h:a∈l):a∈b::c::l:=.tail _ (.tail _ h)
theorem t3{α:Type _}{a b c d:α}{l:List α}(h:a∈l):a∈b::c::d::l:=.tail _ (.tail _ (.tail _ h))
theorem t4{α:Type _}{a b c d e:α}{l:List α}(h:a∈l):a∈b::c::d::e::l:=.tail _ (.tail _ (.tail _ (.tail _ h)))
theorem t5{α:Type _}{a b c d e f:α}{l:List α}(h:a∈l):a∈b::c::d::e::f::l:=.tail _ (.tail _ (.tail _ (.tail _ (.tail _ h))))
theorem t6{α:Type _}{a b c d e f g:α}{l:List α}(h:a∈l):a∈b::c::d::e::f::g::l:=.tail _ (.tail _ (.tail _ (.tail _ (.tail _ (.tail _ h)))))
theorem t7{α:Type _}{a b c d e f g i:α}{l:List α}(h:a∈l):a∈b::c::d::e::f::g::i::l:=.tail _ (.tail _ (.tail _ (.tail _ (.tail _ (.tail _ (.tail _ h))))))
theorem t8{α:Type _}{a b c d e f g i j:α}{l:List α}(h:a∈l):a∈b::c::d::e::f::g::i::j::l:=.tail _ (.tail _ (.tail _ (.tail _ (.tail _ (.tail _ (.tail _ (.tail _ h)))))))
def aA:=@List.getElem?_eq_some_iff
def aB:=@List.getElem?_eq_getElem
def aC:=@List.cons_append
def aF:=@List.length_append
def aG:=@List.mem_of_getElem?
def aH:=@List.take_succ_eq_append_getElem
def aI:=@List.length_take
def aJ:=@Int.toNat_natCast
def aK:=@List.length_cons
def aN:=@List.nil_append
def aO:=@List.mem_append_right
def aP:=@List.mem_cons
def aQ:=@List.length_map
def aS:=@List.mem_append_left
def aT:=@List.mem_map
def aU:=@List.append_nil
def aV:=@List.take_of_length_le
def aW:=@List.mem_append
def aX:=@List.append_eq
def aY:=@List.mem_singleton
def aZ:=@Nat.le_refl
def ai:=@List.map_append
def aj:=@List.map_cons
def au:=@List.getElem?_map
def ax:=@List.append_assoc
def ay:=@List.getElem?_of_mem
def az:=@Classical.byContradiction
def bC:=@List.eq_nil_of_length_eq_zero
def bD:=@List.nodup_append
def bF:=@List.getElem?_eq_none
def bG:=@Array.getElem?_eq_some_iff
def bH:=@List.pairwise_cons
def bI:=@List.perm_middle
def bJ:=@List.getElem?_cons_succ
def bK:=@List.take_length
def bM:=@List.nodup_cons
def bP:=@Array.length_toList
def bQ:=@List.drop_eq_getElem_cons
def bT:=@Nat.mul_one
def bU:=@List.flatMap_cons
def bV:=@List.length_set
def bW:=@List.getElem?_append_left
def bY:=@Nat.zero_le
def bZ:=@List.set_cons_succ
def bf:=@List.set_cons_zero
def bg:=@List.getElem?_append_right
def bn:=@List.getElem?_take_of_lt
def bu:=@Nat.zero_add
def bz:=@List.take_append_drop
def cO:=@List.length_drop
def cZ:=@Option.map_eq_some_iff
def dB:=@List.pairwise_iff_getElem
def dD:=@List.map_map
def dE:=@Nat.mul_le_mul_right
def dF:=@Option.map_some
def dG:=@List.getD_eq_getElem?_getD
def dH:=@List.getElem?_cons_zero
def dI:=@List.length_nil
def dJ:=@Bool.and_eq_true
def dK:=@List.ext_getElem?
def dL:=@List.filter_cons
def dM:=@List.drop_drop
def dN:=@List.mem_of_mem_take
def dO:=@List.mem_filter
def dP:=@List.foldl_cons
def dQ:=@List.flatMap_append
def dR:=@List.size_toArray
def dS:=@List.perm_append_comm
def dU:=@List.exists_cons_of_ne_nil
def dV:=@List.pairwise_map
def dW:=@Nat.eq_of_beq_eq_true
def dX:=@List.length_replicate
def dY:=@Nat.succ_mul
def dZ:=@Option.ne_none_iff_exists'
def df:=@Array.getElem?_setIfInBounds
def dh:=@List.mem_range
def di:=@Array.getElem?_modify
def dm:=@Classical.not_not
def dw:=@List.getElem_mem
def eF:=@List.getElem?_drop
def eG:=@Array.getElem?_eq_getElem
def eH:=@List.length_pos_iff
def eP:=@List.take_succ_cons
def eQ:=@List.drop_succ_cons
def eU:=@List.mem_of_mem_drop
def eY:=@List.Perm.eq_of_pairwise
def eu:=@List.take_zero
def fA:=@List.getLast?_eq_getElem?
def fB:=@Option.getD_some
def fC:=@List.drop_zero
def fD:=@List.mem_cons_self
def fE:=@Nat.lt_of_lt_of_le
def fF:=@List.getElem?_take
def fG:=@Array.getD_eq_getD_getElem?
def fH:=@Nat.le_trans
def fJ:=@List.all_eq_true
def fK:=@List.pairwise_append
def fM:=@List.mem_or_eq_of_mem_set
def fO:=@List.append_of_mem
def fP:=@List.head?_eq_getElem?
def fQ:=@Nat.min_eq_left
def fU:=@List.getElem?_toArray
def fV:=@List.length_singleton
def fZ:=@List.length_range
def gG:=@List.perm_append_comm_assoc
def gI:=@Nat.add_sub_cancel_left
def gJ:=@List.filter_append
def gQ:=@Array.toList_inj
def gU:=@Nat.add_comm
def gV:=@List.drop_of_length_le
def gW:=@Array.toList_modify
def gX:=@List.filter_eq_self
def gY:=@List.mergeSort_perm
def gm:=@Nat.add_mul
def gp:=@List.drop_take
def gq:=@List.mem_flatMap
def gu:=@List.drop_length
def gy:=@List.pairwise_mergeSort
def gz:=@List.getElem?_concat_length
def iC:=@List.map_take
def iD:=@List.sum_cons
def iE:=@Nat.sub_self
def iF:=@Array.getElem?_append_left
def iG:=@List.getElem?_set_self
def iH:=@List.foldl_append
def iI:=@List.drop_eq_nil_of_le
def iJ:=@List.take_left
def iK:=@Int.tdiv_eq_ediv_of_nonneg
def iL:=@List.getElem?_range
def iM:=@List.mem_map_of_mem
def iO:=@Bool.eq_iff_iff
def iP:=@List.take_left'
def iQ:=@Int.le_refl
def iT:=@List.range_succ
def iU:=@List.not_mem_nil
def iV:=@Nat.eq_zero_or_pos
def iW:=@Nat.add_sub_cancel
def iY:=@List.map_nil
def iZ:=@Array.toArray_toList
def ig:=@List.getElem?_append
def ik:=@List.foldl_nil
def iq:=@List.getElem?_set_ne
def iw:=@List.getElem?_replicate
def iy:=@List.head_eq_of_cons_eq
def jA:=@Int.not_lt
def jB:=@List.zipWith_append
def jC:=@List.getElem_cons_drop
def jD:=@Bool.false_eq_true
def jE:=@List.perm_ext_iff_of_nodup
def jF:=@List.take_take
def jG:=@Array.getElem?_toList
def jH:=@List.length_filter_le
def jI:=@List.extract_eq_take_drop
def jJ:=@List.findIdx?_eq_none_iff
def jK:=@List.set_append
def jL:=@Nat.zero_mul
def jM:=@List.mem_cons_of_mem
def jO:=@Array.toList_push
def jP:=@Array.size_modify
def jQ:=@Nat.add_assoc
def jR:=@Int.toNat_of_nonneg
def jS:=@Nat.shiftLeft_eq
def jT:=@List.drop_left
def jU:=@List.Perm.refl
def jV:=@Nat.shiftLeft_add_eq_or_of_lt
def jW:=@Nat.mul_comm
def jX:=@List.mem_filterMap
def jY:=@List.sublist_cons_self
def jZ:=@Array.ext_getElem?
def jb:=@Nat.le_of_eq
def jd:=@List.map_drop
def je:=@Nat.le_of_ble_eq_true
def jf:=@List.Perm.append_left
def jg:=@List.dropLast_eq_take
def jh:=@List.getElem?_set
def ji:=@Array.size_append
def jk:=@Nat.le_succ_of_le
def jl:=@Array.toList_extract
def jm:=@Int.fdiv_eq_ediv_of_nonneg
def jo:=@Nat.pow_le_pow_right
def jq:=@List.getElem_map
def jr:=@Nat.sub_zero
def jv:=@List.getElem?_eq_none_iff
def jw:=@Option.isSome_iff_ne_none
def jy:=@Array.toList_append
def kC:=@List.toList_toArray
def kE:=@List.filter_sublist
def kF:=@List.length_erase_of_mem
def kG:=@List.headD_cons
def kH:=@List.sum_append
def kJ:=@List.findIdx?_eq_some_iff_getElem
def kK:=@List.set_eq_take_append_cons_drop
def kL:=@ByteArray.data_extract
def kM:=@List.range_succ_eq_map
def kN:=@Bool.not_eq_true'
def kP:=@List.erase_of_not_mem
def kQ:=@List.set_getElem_self
def kR:=@Array.toList_map
def kU:=@Nat.lt_succ_self
def kV:=@Nat.mod_eq_of_lt
def kW:=@List.drop_append
def kX:=@Nat.le_add_right
def kY:=@List.flatMap_nil
def kZ:=@Bool.false_or
def ku:=@List.all_cons
def kw:=@List.take_append_of_le_length
def kz:=@Int.mul_le_mul_of_nonneg_left
def lC:=@List.drop_left'
def lD:=@Array.getElem?_push
def lF:=@List.map_congr_left
def lG:=@List.attach_map_subtype_val
def lH:=@List.nodup_nil
def lI:=@List.findIdx?_cons
def lJ:=@List.lt_irrefl
def lK:=@Int.tmod_eq_emod_of_nonneg
def lL:=@List.tail_cons
def lM:=@List.find?_eq_none
def lQ:=@List.length_attach
def lV:=@Array.mapM_eq_mapM_toList
def lW:=@List.getLastD_eq_getLast?
def lY:=@List.getElem?_zip_eq_some
def lZ:=@List.mem_of_find?_eq_some
def lh:=@Nat.sub_mul
def lm:=@List.flatten_cons
def lq:=@List.drop_sublist
def lu:=@Option.isSome_map
def lw:=@Function.comp_def
def l9:=@Nat.lt_trichotomy
def mD:=@Array.getElem?_replicate
def mF:=@Nat.mul_assoc
def mG:=@ByteArray.ext
def mJ:=@List.eq_of_mem_replicate
def mM:=@List.le_trans
def mP:=@List.le_total
def mQ:=@List.le_antisymm
def mV:=@Nat.pow_succ
def mf:=@List.zipWith_cons_cons
def mg:=@Int.pow_zero
def mi:=@List.pairwise_lt_range
def mr:=@ByteArray.size_extract
def nC:=@Int.ediv_nonneg
def nD:=@List.length_zip
def nG:=@List.modify_zero_cons
def nH:=@List.modify_succ_cons
def nI:=@List.eraseIdx_sublist
def nJ:=@List.getElem?_zipWith
def nK:=@Array.getElem?_mapIdx
def nM:=@List.mapM_cons
def nN:=@Array.mem_toList_iff
def nO:=@Nat.testBit_or
def nP:=@List.getElem?_modify
def nR:=@Nat.mod_one
def nS:=@List.le_iff_lt_or_eq
def nT:=@List.mem_of_getLast?
def nU:=@List.length_dropLast
def nV:=@List.replicate_succ'
def nX:=@List.extract_toArray
def nY:=@List.takeWhile_cons
def nZ:=@List.replicate_succ
def ng:=@List.filterMap_cons
def ni:=@Bool.not_true
def ny:=@List.le_of_lt
def nz:=@Bool.or_false
def oC:=@Array.foldl_toList
def oD:=@Array.toList_range
def oG:=@Array.all_eq_true'
def oH:=@Array.ext'
def oI:=@Int.emod_lt_of_pos
def oJ:=@UInt8.toNat_ofNat'
def oK:=@List.filter_filter
def oL:=@Option.isSome_none
def oM:=@Bool.eq_false_iff
def oN:=@Nat.lt_succ_of_lt
def oO:=@Int.le_of_lt
def oP:=@Prod.ext
def oQ:=@Int.le_of_eq
def oU:=@Int.pow_succ
def oV:=@Int.emod_eq_of_lt
def oW:=@Int.ediv_one
def oZ:=@List.map_set
def og:=@List.getElem?_inj
def oh:=@Int.pow_mul
def oq:=@Iff.rfl
def ou:=@Nat.blt_eq
def oz:=@Nat.not_lt
noncomputable abbrev PP:=Proofs.Tryz.prog
noncomputable abbrev CP:=Calls PP
abbrev I:Int→Value:=.int .i64
abbrev pT0(b:Nat):Value:=.pointer (some ⟨b,0,none⟩)
abbrev sP0(b:Nat):Option Addr:=some ⟨b,0,none⟩
abbrev eE0:Value→Ending:=.returned
abbrev OA:=Option Addr
abbrev LV:=List Value
abbrev LN0:=List Nat
abbrev LB0:=List ByteArray
abbrev LU:=List UInt8
abbrev WP:=World→Prop
abbrev EW:=Ending→World→Prop
end Go
namespace Go.Vc
open Go
noncomputable section
abbrev Fr:=List (Nat×Option Value)
def fget(fr:Fr)(t:Nat):Option Value:=
 List.rec (motive:=λ_=>Option Value) none (λx _ ih=>cond (Nat.beq t x.1) x.2 ih) fr
def ev(fr:Fr):Operand->Option Value
 |.tmp t=>fget fr t
 |.const v=>some v
 |.global g=>some (pT0 g)
 |.func f=>some (.func (.func f) #[] #[])
def evs(fr:Fr):List Operand->Option (LV)
 | []=>some []
 |x::r=>match ev fr x with
  |some v=>match evs fr r with
   |some l=>some (v::l)
   |none=>none
  |none=>none
def onO{α:Type}(x:Option α)(k:α->Prop):Prop:=
 match x with
 |some v=>k v
 |none=>False
abbrev onV(x:Option Value)(k:Value->Prop):Prop:=onO x k
def W(rd:Option Nat):Fence:= {Fence.wide with round:=rd}
def br(b:Bool)(x y:Prop):Prop:=
 match b with
 |true=>x
 |false=>y
def onP(p:OA)(k:Addr->Prop):Prop:=
 match p with
 |some a=>k a
 |none=>False
def inR(k:IntKind)(z:Int):Prop:=k.min<=z/\z<=k.max
def sb(s:ByteArray)(i:Int):Int:=((s.data.toList[i.toNat]?).getD 0).toNat
structure New(w:World)(o:Obj)(b:Nat)(w1:World):Prop where
 num:b=w.heap.size
 eq:w1=w.alloc o
def Ld(P:Program)(t:TypeId)(w:World)(a:Addr)(v:Value):Prop:=(loadVar t a).run P w=.ok v w
def St(P:Program)(t:TypeId)(w:World)(a:Addr)(v:Value)(w1:World):Prop:=(storeVar t a v).run P w=.ok () w1
def Eqv(P:Program)(op:BinOp)(t:TypeId)(x y:Operand)(w:World)(a b:Value)(r:Bool):Prop:=
 (do eqGuard op t x y a b;binOp op t a b:Sem Value).run P w=.ok (.bool r) w
def Lk(P:Program)(t:TypeId)(ok:Bool)(w:World)(m k v:Value):Prop:=(Instr.lookup t m k ok).run P w=.ok v w
def LenM(P:Program)(ts:Array TypeId)(t:TypeId)(w:World)(m v:Value):Prop:=(Builtin.len_ ts t #[m]).run P w=.ok v w
def B2S(P:Program)(src dst:TypeId)(w:World)(x v:Value):Prop:=(convert src dst x).run P w=.ok v w
def S2B(P:Program)(src dst:TypeId)(w:World)(x v:Value)(w1:World):Prop:=(convert src dst x).run P w=.ok v w1
def App(P:Program)(ts:Array TypeId)(t:TypeId)(w:World)(s x v:Value)(w1:World):Prop:=(Builtin.append_ ts t #[s,x]).run P w=.ok v w1
def Cpy(P:Program)(ts:Array TypeId)(t:TypeId)(w:World)(d s v:Value)(w1:World):Prop:=(Builtin.copy_ ts t #[d,s]).run P w=.ok v w1
def Del(P:Program)(ts:Array TypeId)(t:TypeId)(w:World)(m k:Value)(w1:World):Prop:=(Builtin.delete_ ts t #[m,k]).run P w=.ok (.tuple #[]) w1
def Clr(P:Program)(ts:Array TypeId)(t:TypeId)(w:World)(m:Value)(w1:World):Prop:=(Builtin.clear_ ts t #[m]).run P w=.ok (.tuple #[]) w1
def MUp(P:Program)(t:TypeId)(w:World)(m k v:Value)(w1:World):Prop:=(Instr.mapUpdate t m k v).run P w=.ok () w1
def MEn(P:Program)(t:TypeId)(w:World)(m k v:Value)(w1:World):Prop:=(Instr.mapEntry t m k).run P w=.ok v w1
def ESt(P:Program)(t:TypeId)(w:World)(m s v:Value)(w1:World):Prop:=(Instr.entryStore t m s v).run P w=.ok () w1
def MkS(P:Program)(t:TypeId)(w:World)(l c v:Value)(w1:World):Prop:=(Instr.makeSlice t l c).run P w=.ok v w1
def Rng(P:Program)(t:TypeId)(w:World)(x v:Value)(w1:World):Prop:=(Instr.range t x).run P w=.ok v w1
def Nxt(P:Program)(isS:Bool)(t:TypeId)(w:World)(it v:Value)(w1:World):Prop:=(Instr.next it isS t).run P w=.ok v w1
def Etr(P:Program)(w:World)(it v:Value)(w1:World):Prop:=(Instr.entry it).run P w=.ok v w1
def TAs(P:Program)(xT t:TypeId)(ok:Bool)(w:World)(x v:Value):Prop:=(Instr.typeAssert x xT t ok).run P w=.ok v w
def Prt(P:Program)(t:TypeId)(cs:LV)(off:Nat)(v:Value):Prop:=∀w:World,(part t cs.toArray off).run P w=.ok v w
structure CallV(P:Program)(f:FuncId)(args:LV)(w:World)(R:EW):Prop where
 run:Calls P f args.toArray w R
structure ExtV(P:Program)(f:FuncId)(args:LV)(w:World)(R:EW):Prop where
 run:∃(v:Value)(w1:World),(callFunc f args.toArray).run P w=.ok (.value v) w1/\R (eE0 v) w1
structure YieldV(P:Program)(l:Nat)(args:LV)(w:World)(R:EW):Prop where
 run:∀(rd:Option Nat)(n:Nat),YieldAt (W rd) n P l args.toArray w R
def CallX(P:Program)(fv:Value)(args:LV)(w:World)(R:EW):Prop:=
 match fv with
 |.func (.func g) fi ca=>match P.funcs[g]? with
  |some fn=>match fn.body with
   |some _=>CallV P g (fi.toList++args++ca.toList) w R
   |none=>ExtV P g (fi.toList++args++ca.toList) w R
  |none=>False
 |.func (.yield l) fi ca=>match fi.toList,ca.toList with
  | [],[]=>YieldV P l args w R
  |_,_=>False
 |_=>False
structure RangeP{St:Type}(P:Program)(gf:FuncId)(fi ca:LV)(toA:St->LV)(round:St->World->(World->(World->Prop)->Prop)->(World->Prop)->(World->Prop)->(Nat->World->Prop)->Prop)(w:World)(Qn Qr:Nat->World->Prop)(Qx:Nat->Nat->World->Prop):Prop where
 mk'::
 run:∀(D l:Nat)(w0 w1:World)(rec:LoopState->Option Code->Obj),New w (.deferred (some [])) D w0->New w0 (rec .ready none) l w1->
  (∀(s:St)(w':World)(R:EW),
   round s w' (λw1 k=>w1.heap[l]? =some (rec .ready none)/\k (w1.putObj l (rec .busy none)))
    (λw2=>w2.heap[l]? =some (rec .busy none)/\R (eE0 (.bool true)) (w2.putObj l (rec .ready none)))
    (λw2=>w2.heap[l]? =some (rec .busy none)/\R (eE0 (.bool false)) (w2.putObj l (rec .done (some .ret))))
    (λid w2=>w2.heap[l]? =some (rec .busy none)/\R (eE0 (.bool false)) (w2.putObj l (rec .done (some (.exit id)))))->
   w'.heap[l]? =some (rec .ready none)->CallX P (.func (.yield l) #[] #[]) (toA s) w' R)->
  CallV P gf (fi++[.func (.yield l) #[] #[]]++ca) w1 λe w2=>∃v,e=eE0 v/\
   ((w2.heap[l]? =some (rec .ready none)/\Qn D (w2.putObj l (rec .exhausted none)))\/
    (w2.heap[l]? =some (rec .done (some .ret))/\Qr D (w2.putObj l (rec .exhausted (some .ret))))\/
    ∃id,w2.heap[l]? =some (rec .done (some (.exit id)))/\Qx id D (w2.putObj l (rec .exhausted (some (.exit id)))))
def HasBody(P:Program)(gf:FuncId):Prop:=∃(fn:Func)(c:Code),P.funcs[gf]? =some fn/\fn.body=some c
def ShutD(w:World)(D:Nat)(w1:World):Prop:=w.heap[D]? =some (.deferred (some []))/\w1=w.putObj D (.deferred none)
structure LoopP{St:Type}(body:St->World->(St->World->Prop)->Prop)(s:St)(w:World):Prop where
 mk'::
 run:∃I:Nat->St->World->Prop,(∃n,I n s w)/\∀n s w,I n s w->body s w (λs' w'=>∃m,m<n/\I m s' w')
structure JoinP{St:Type}(R:St->World->Prop)(X:(St->World->Prop)->Prop):Prop where
 mk'::
 run:X R
def exLs(f:TypeId->(LV->Prop)->Prop):List TypeId->(LV->Prop)->Prop
 | [],C=>C []
 |t::r,C=>f t (λl=>exLs f r (λl'=>C (l++l')))
def exC(P:Program):Nat->TypeId->(LV->Prop)->Prop
 |0,_,C=>∃cs:LV,C cs
 |n+1,T,C=>
  match P.underlying T with
  |some .bool=>∃b:Bool,C [.bool b]
  |some (.int k)=>∃i:Int,C [.int k i]
  |some .string=>∃s:ByteArray,C [.string s]
  |some (.pointer _)=>∃p:OA,C [.pointer p]
  |some (.slice _)=>∃(a:OA)(l c:Nat),C [.slice a l c]
  |some (.map _ _)=>∃m:Option Nat,C [.map m]
  |some (.struct fs)=>exLs (exC P n) (fs.toList.map (·.type)) C
  |some (.array _ _)=>∃cs:LV,C cs
  |_=>∃v:Value,C [v]
def on1(C:Value->Prop):LV->Prop
 | [v]=>C v
 |_=>False
def exV(P:Program)(T:TypeId)(C:Value->Prop):Prop:=
 match P.underlying T with
 |some (.struct _)|some (.array _ _)=>exC P 8 T λcs=>C (.agg cs.toArray)
 |_=>exC P 8 T (on1 C)
def exVs(P:Program):List TypeId->(LV->Prop)->Prop
 | [],C=>C []
 |t::r,C=>exV P t (λv=>exVs P r (λl=>C (v::l)))
def exT(P:Program)(T:TypeId)(C:Value->Prop):Prop:=
 match P.underlying T with
 |some (.tuple ts)=>exVs P ts.toList λvs=>C (.tuple vs.toArray)
 |_=>exV P T C
def force:LV->(LV->Prop)->Prop
 | [],k=>k []
 |x::r,k=>force r (λr'=>k (x::r'))
def forceB(big:Bool)(l:LV)(k:LV->Prop):Prop:=match big with
 |true=>k l
 |false=>force l k
def over:LV->Nat->LV->LV
 | [],_,cs=>cs
 |x::r,0,_::cs=>x::over r 0 cs
 |_::_,_,[]=>[]
 |l,n+1,c::cs=>c::over l n cs
def fillL(place:Nat->Option (Nat×Nat)):List (Nat×Value)->LV->Option (LV)
 | [],cs=>some cs
 |(i,v)::r,cs=>
  match place i with
  |none=>none
  |some (off,size)=>
   if v.cells.size≠size||off+v.cells.size>cs.length then none
   else fillL place r (over v.cells.toList off cs)
def partsOf(fr:Fr):List (Nat×Operand)->Option (List (Nat×Value))
 | []=>some []
 |(i,x)::r=>match ev fr x with
  |some v=>match partsOf fr r with
   |some l=>some ((i,v)::l)
   |none=>none
  |none=>none
def sizesOf(P:Program):List Field->Option (List (Nat×Nat))
 | []=>some []
 |f::r=>match P.info? f.type with
  |some i=>match sizesOf P r with
   |some l=>some ((f.offset,i.size)::l)
   |none=>none
  |none=>none
def zeroOf(P:Program)(t:TypeId):Option Value:=match P.info? t with
 |some i=>i.zero
 |none=>none
def sizeV(P:Program)(t:TypeId):Option Nat:=match P.info? t with
 |some i=>some i.size
 |none=>none
def bigT(P:Program)(t:TypeId):Bool:=match sizeV P t with
 |some n=>Nat.blt 64 n
 |none=>false
def zl(P:Program)(t:TypeId):LV:=match zeroOf P t with
 |some z=>z.cells.toList
 |none=>[]
def buildL(P:Program)(t:TypeId)(parts:List (Nat×Value)):Option (LV):=
 match zeroOf P t with
 |none=>none
 |some z=>
  match P.underlying t with
  |some (.struct fs)=>match sizesOf P fs.toList with
   |some pl=>fillL (λi=>pl[i]?) parts z.cells.toList
   |none=>none
  |some (.array _ e)=>match sizeV P e with
   |some n=>fillL (λi=>some (i*n,n)) parts z.cells.toList
   |none=>none
  |_=>none
def bigL(P:Program)(t:TypeId)(parts:List (Nat×Value)):LV:=(buildL P t parts).getD []
def repL(z:LV):Nat->LV
 |0=>[]
 |n+1=>z++repL z n
def buildSL(P:Program)(t:TypeId)(len:Nat)(parts:List (Nat×Value)):Option (TypeId×LV):=
 match P.underlying t with
 |some (.slice e)=>match P.info? e with
  |some i=>match i.zero with
   |some z=>
    if z.cells.size≠i.size||i.size=0||len*i.size>16777216 then none
    else match fillL (λk=>some (k*i.size,i.size)) parts (repL z.cells.toList len)with
     |some l=>some (e,l)
     |none=>none
   |none=>none
  |none=>none
 |_=>none
def partV(P:Program)(t:TypeId)(cs:LV)(off:Nat)(K:Value->Prop):Prop:=
 match P.underlying t with
 |some (.struct _)|some (.array _ _)=>match sizeV P t with
  |some n=>force ((cs.drop off).take n) λl=>K (.agg l.toArray)
  |none=>False
 |some _=>match cs[off]? with
  |some v=>K v
  |none=>False
 |none=>False
def slA(a:OA)(m l size:Nat):OA:=if m=l then a else a.map (·.add (l*size))
def opI(fr:Fr)(x:Option Operand)(k:Option Int->Prop):Prop:=
 match x with
 |none=>k none
 |some o=>match ev fr o with
  |some (.int _ i)=>k (some i)
  |_=>False
def slcV(a:OA)(n c size:Nat)(lo hi mx:Option Int)(K:Value->Prop):Prop:=
 match mx,hi,lo with
 |none,none,none=>K (.slice a n c)
 |none,none,some l=>(0<=l/\l<=n)/\K (.slice (slA a c l.toNat size) (n-l.toNat) (c-l.toNat))
 |none,some h,none=>(0<=h/\h<=c)/\K (.slice a h.toNat c)
 |none,some h,some l=>(0<=l/\l<=h/\h<=c)/\K (.slice (slA a c l.toNat size) (h.toNat-l.toNat) (c-l.toNat))
 |some m,some h,none=>(0<=h/\h<=m/\m<=c)/\K (.slice a h.toNat m.toNat)
 |some m,some h,some l=>(0<=l/\l<=h/\h<=m/\m<=c)/\K (.slice (slA a m.toNat l.toNat size) (h.toNat-l.toNat) (m.toNat-l.toNat))
 |some _,none,_=>False
def slxV(P:Program)(t:TypeId)(x:Value)(lo hi mx:Option Int)(K:Value->Prop):Prop:=
 match P.underlying t,x with
 |some .string,.string s=>
  match mx,hi,lo with
  |none,none,none=>K (.string (s.extract 0 s.size))
  |none,none,some l=>(0<=l/\l<=s.size)/\K (.string (s.extract l.toNat s.size))
  |none,some h,none=>(0<=h/\h<=s.size)/\K (.string (s.extract 0 h.toNat))
  |none,some h,some l=>(0<=l/\l<=h/\h<=s.size)/\K (.string (s.extract l.toNat h.toNat))
  |some _,_,_=>False
 |some (.slice e),.slice a n c=>match sizeV P e with
  |some size=>slcV a n c size lo hi mx K
  |none=>False
 |some (.array n e),.pointer p=>match sizeV P e with
  |some size=>onP p λa=>slcV (some a) n n size lo hi mx K
  |none=>False
 |_,_=>False
def sliceV(P:Program)(fr:Fr)(t:TypeId)(x:Value)(lo hi mx:Option Operand)(K:Value->Prop):Prop:=
 opI fr lo λlo=>opI fr hi λhi=>opI fr mx λmx=>slxV P t x lo hi mx K
def arith(wr:Bool)(k:IntKind)(z:Int)(K:Value->Prop):Prop:=
 match wr with
 |true=>K (.int k (k.wrap z))
 |false=>inR k z/\K (.int k z)
def bits(op:BinOp)(k:IntKind)(x y:Int):Int:=
 match op with
 |.and=>k.wrap (BitVec.ofInt k.bits x&&&BitVec.ofInt k.bits y).toNat
 |.or=>k.wrap (BitVec.ofInt k.bits x|||BitVec.ofInt k.bits y).toNat
 |.xor=>k.wrap (BitVec.ofInt k.bits x^^^BitVec.ofInt k.bits y).toNat
 |.andNot=>k.wrap (BitVec.ofInt k.bits x&&& ~~~(BitVec.ofInt k.bits y)).toNat
 |_=>0
def binV(wr:Bool)(P:Program)(op:BinOp)(t:TypeId)(x y:Value)(K:Value->Prop):Prop:=
 match op,x,y with
 |.shl,.int k a,.int _ b=>0<=b/\arith wr k (a*2^(min b.toNat k.bits)) K
 |.shr,.int k a,.int _ b=>0<=b/\K (.int k (a.fdiv (2^(min b.toNat k.bits))))
 |op,.int k a,.int k' b=>
  if k=k' then
   match op with
   |.add=>arith wr k (a+b) K
   |.sub=>arith wr k (a-b) K
   |.mul=>arith wr k (a*b) K
   |.quo=>b≠0/\arith wr k (a.tdiv b) K
   |.rem=>b≠0/\K (.int k (a.tmod b))
   |.and=>K (.int k (bits .and k a b))
   |.or=>K (.int k (bits .or k a b))
   |.xor=>K (.int k (bits .xor k a b))
   |.andNot=>K (.int k (bits .andNot k a b))
   |.eql=>K (.bool (decide (a=b)))
   |.neq=>K (.bool (!decide (a=b)))
   |.lss=>K (.bool (decide (a<b)))
   |.leq=>K (.bool (decide (a<=b)))
   |.gtr=>K (.bool (decide (b<a)))
   |.geq=>K (.bool (decide (b<=a)))
   |_=>False
  else False
 |op,.string a,.string b=>
  match op with
  |.add=>((a.size+b.size:Nat):Int)<=9223372036854775807/\K (.string (a++b))
  |.eql=>K (.bool (decide (a=b)))
  |.neq=>K (.bool (!decide (a=b)))
  |.lss=>K (.bool (Op.bytesLess a.data.toList b.data.toList))
  |.leq=>K (.bool (Op.bytesLess a.data.toList b.data.toList||decide (a=b)))
  |.gtr=>K (.bool (!(Op.bytesLess a.data.toList b.data.toList||decide (a=b))))
  |.geq=>K (.bool (!Op.bytesLess a.data.toList b.data.toList))
  |_=>False
 |.eql,.bool a,.bool b=>match P.underlying t with
  |some .bool=>K (.bool (a==b))
  |_=>False
 |.neq,.bool a,.bool b=>match P.underlying t with
  |some .bool=>K (.bool (!(a==b)))
  |_=>False
 |_,_,_=>False
def unV(wr:Bool)(op:UnOp)(x:Value)(K:Value->Prop):Prop:=
 match op,x with
 |.not,.bool b=>K (.bool (!b))
 |.neg,.int k n=>arith wr k (0-n) K
 |.xor,.int k n=>K (.int k (bits .xor k (if k.signed then-1 else k.max) n))
 |_,_=>False
def lenV(P:Program)(ts:Array TypeId)(x:Value)(K:Value->Prop):Prop:=
 match ts[0]? with
 |none=>False
 |some t=>
  match P.underlying t,x with
  |some .string,.string s=>K (I s.size)
  |some (.slice _),.slice _ n _=>K (I n)
  |some (.array n _),_=>K (I n)
  |some (.pointer e),_=>match P.underlying e with
   |some (.array n _)=>K (I n)
   |_=>False
  |_,_=>False
def capV(P:Program)(ts:Array TypeId)(x:Value)(K:Value->Prop):Prop:=
 match ts[0]? with
 |none=>False
 |some t=>
  match P.underlying t,x with
  |some (.slice _),.slice _ _ c=>K (I c)
  |some (.array n _),_=>K (I n)
  |_,_=>False
def pureV(wr:Bool)(P:Program)(fr:Fr)(o:Oper)(K:Value->Prop):Prop:=
 match o.op with
 |.move x=>onV (ev fr x) K
 |.assign x=>onV (ev fr x) K
 |.pick c a b=>match ev fr c with
  |some (.bool t)=>br t (onV (ev fr a) K) (onV (ev fr b) K)
  |_=>False
 |.build t parts=>match partsOf fr parts.toList with
  |some ps=>match buildL P t ps with
   |some _=>forceB (bigT P t) (bigL P t ps) λl=>K (.agg l.toArray)
   |none=>False
  |none=>False
 |.nilCheck x=>match ev fr x with
  |some (.pointer p)=>onP p λa=>K (.pointer (some a))
  |some (.func (.func f) fi ca)=>K (.func (.func f) fi ca)
  |some (.iface t v)=>K (.iface t v)
  |_=>False
 |.binOp op t x y _=>onV (ev fr x) λa=>onV (ev fr y) λb=>binV wr P op t a b K
 |.unOp op _ x=>onV (ev fr x) λa=>unV wr op a K
 |.convert src dst x=>match P.underlying src,P.underlying dst,ev fr x with
  |some (.int _),some (.int k),some (.int _ n)=>K (.int k (k.wrap n))
  |some .string,some .string,some (.string s)=>K (.string s)
  |_,_,_=>False
 |.makeInterface t x=>match P.underlying t with
  |some (.interface _)=>False
  |some _=>onV (ev fr x) λv=>K (.iface t v)
  |none=>False
 |.makeFunc fn first captured=>match evs fr first.toList,evs fr captured.toList with
  |some fi,some ca=>K (.func fn fi.toArray ca.toArray)
  |_,_=>False
 |.slice t x lo hi mx=>onV (ev fr x) λv=>sliceV P fr t v lo hi mx K
 |.fieldAddr s x f=>match P.underlying s,ev fr x with
  |some (.struct fs),some (.pointer p)=>match fs[f]? with
   |some fd=>match sizeV P fd.type with
    |some (_+1)=>onP p λa=>K (.pointer (some (a.add fd.offset)))
    |_=>False
   |none=>False
  |_,_=>False
 |.field t x f=>match P.underlying t,ev fr x with
  |some (.struct fs),some (.agg cs)=>match fs[f]? with
   |some fd=>partV P fd.type cs.toList fd.offset K
   |none=>False
  |_,_=>False
 |.indexAddr t x ix=>match P.underlying t,ev fr x,ev fr ix with
  |some (.slice e),some (.slice p n _),some (.int _ i)=>match sizeV P e with
   |some sz=>onP p λa=>(0<=i/\i<n)/\K (.pointer (some (a.add (i.toNat*sz))))
   |none=>False
  |some (.array n e),some (.pointer p),some (.int _ i)=>match sizeV P e with
   |some sz=>onP p λa=>(0<=i/\i<n)/\K (.pointer (some (a.add (i.toNat*sz))))
   |none=>False
  |_,_,_=>False
 |.index t x ix=>match P.underlying t,ev fr x,ev fr ix with
  |some .string,some (.string s),some (.int _ i)=>(0<=i/\i<s.size)/\K (.int .u8 (sb s i))
  |some (.array n e),some (.agg cs),some (.int _ i)=>match sizeV P e with
   |some sz=>(0<=i/\i<n)/\exV P e λv=>Prt P e cs.toList (i.toNat*sz) v/\K v
   |none=>False
  |_,_,_=>False
 |.extract x i=>match ev fr x with
  |some (.tuple vs)=>match vs[i]? with
   |some v=>K v
   |none=>False
  |_=>False
 |.call c=>match c.callee,c.args.toList with
  |.builtin .len,[x]=>onV (ev fr x) λv=>lenV P c.argTypes v K
  |.builtin .cap,[x]=>onV (ev fr x) λv=>capV P c.argTypes v K
  |.builtin .min,[x,y]=>match ev fr x,ev fr y with
   |some (.int k a),some (.int _ b)=>K (.int k (min a b))
   |_,_=>False
  |.builtin .max,[x,y]=>match ev fr x,ev fr y with
   |some (.int k a),some (.int _ b)=>K (.int k (max a b))
   |_,_=>False
  |_,_=>False
 |_=>False
def readV(P:Program)(fr:Fr)(o:Oper)(w:World)(v:Value):Prop:=
 match o.op with
 |.load t x=>match ev fr x with
  |some (.pointer p)=>onP p λa=>Ld P t w a v
  |_=>False
 |.lookup t x k ok=>onV (ev fr x) λm=>onV (ev fr k) λk=>Lk P t ok w m k v
 |.binOp op t x y _=>onV (ev fr x) λa=>onV (ev fr y) λb=>match v with
  |.bool r=>Eqv P op t x y w a b r
  |_=>False
 |.convert src dst x=>onV (ev fr x) λa=>B2S P src dst w a v
 |.typeAssert x xT t ok=>onV (ev fr x) λa=>TAs P xT t ok w a v
 |.call c=>match c.callee,c.args.toList with
  |.builtin .len,[x]=>onV (ev fr x) λm=>LenM P c.argTypes o.type w m v
  |_,_=>False
 |_=>False
def callXF(P:Program)(fv:Value)(args:LV)(t:TypeId)(w:World)(K:Option Value->World->Prop):Prop:=
 CallX P fv args w λe w'=>exT P t λv=>e=eE0 v/\K (some v) w'
def extT:List Oper->Option Nat->Nat->Option TypeId
 | [],_,_=>none
 |o::r,d,i=>match o.op,d with
  |.extract (.tmp x) j,some d=>match Nat.beq x d&&Nat.beq j i with
   |true=>some o.type
   |false=>extT r (some d) i
  |_,d=>extT r d i
def exO(P:Program)(t:Option TypeId)(C:Value->Prop):Prop:=match t with
 |some t=>exT P t C
 |none=>∃v,C v
def onPt(x:Option Value)(k:Addr->Prop):Prop:=
 match x with
 |some (.pointer p)=>onP p k
 |_=>False
def biE(P:Program)(ty:TypeId)(ts:Array TypeId)(w:World)(K:Option Value->World->Prop)(b:Builtin)(args:LV):Prop:=
 match b,args with
 |.append,[s,x]=>∃(a:OA)(n m:Nat)(w1:World),App P ts ty w s x (.slice a n m) w1/\K (some (.slice a n m)) w1
 |.copy,[d,s]=>∃(n:Int)(w1:World),Cpy P ts ty w d s (I n) w1/\K (some (I n)) w1
 |.delete,[m,k]=>∃w1,Del P ts ty w m k w1/\K (some (.tuple #[])) w1
 |.clear,[m]=>∃w1,Clr P ts ty w m w1/\K (some (.tuple #[])) w1
 |_,_=>False
def effV(P:Program)(ops:List Oper)(fr:Fr)(o:Oper)(w:World)(K:Option Value->World->Prop):Prop:=
 match o.op with
 |.alloc t=>onO (zeroOf P t) λ_=>forceB (bigT P t) (zl P t) λl=>∀b w1,New w (.cells l.toArray t) b w1->K (some (pT0 b)) w1
 |.box t x=>onV (ev fr x) λv=>forceB (bigT P t) v.cells.toList λl=>∀b w1,New w (.cells l.toArray t) b w1->K (some (pT0 b)) w1
 |.buildSlice t len parts=>onO (partsOf fr parts.toList) λps=>onO (buildSL P t len ps) λx=>forceB false x.2 λl=>∀b w1,New w (.cells l.toArray x.1) b w1->K (some (.slice (sP0 b) len len)) w1
 |.store t x y=>onPt (ev fr x) λa=>onV (ev fr y) λv=>∃w1,St P t w a v w1/\K none w1
 |.convert src dst x=>onV (ev fr x) λv=>∃(a:OA)(l c:Nat)(w1:World),S2B P src dst w v (.slice a l c) w1/\K (some (.slice a l c)) w1
 |.makeSlice t l c=>onV (ev fr l) λl=>onV (ev fr c) λc=>∃(a:OA)(n m:Nat)(w1:World),MkS P t w l c (.slice a n m) w1/\K (some (.slice a n m)) w1
 |.makeMap t none=>∀b w1,New w (.map #[] 0) b w1->K (some (.map (some b))) w1
 |.mapUpdate t m k x|.insert t m k x=>onV (ev fr m) λm=>onV (ev fr k) λk=>onV (ev fr x) λv=>∃w1,MUp P t w m k v w1/\K none w1
 |.mapEntry t m k=>onV (ev fr m) λm=>onV (ev fr k) λk=>∃(v:Value)(i:Int)(w1:World),MEn P t w m k (.tuple #[v,I i]) w1/\K (some (.tuple #[v,I i])) w1
 |.entryStore t m s x=>onV (ev fr m) λm=>onV (ev fr s) λs=>onV (ev fr x) λv=>∃w1,ESt P t w m s v w1/\K none w1
 |.range t x=>onV (ev fr x) λv=>∃(p:OA)(w1:World),Rng P t w v (.pointer p) w1/\K (some (.pointer p)) w1
 |.next it isS=>onV (ev fr it) λi=>
   (∃w1,Nxt P isS o.type w i (.tuple #[.bool false]) w1/\K (some (.tuple #[.bool false])) w1)\/
   (∃(k v:Value)(w1:World),Nxt P isS o.type w i (.tuple #[.bool true,k,v]) w1/\K (some (.tuple #[.bool true,k,v])) w1)
 |.entry it=>onV (ev fr it) λi=>exO P (extT ops o.dst 0) λk=>exO P (extT ops o.dst 1) λv=>∃w1,Etr P w i (.tuple #[k,v]) w1/\K (some (.tuple #[k,v])) w1
 |.call c=>onO (evs fr c.args.toList) λargs=>match c.callee with
  |.value f=>onV (ev fr f) λfv=>callXF P fv args o.type w K
  |.builtin b=>biE P o.type c.argTypes w K b args
  |_=>False
 |_=>False
def cls(P:Program)(op:Op):Nat:=
 match op with
 |.move _|.assign _|.pick .. |.build .. |.nilCheck _|.unOp .. |.makeInterface .. |.makeFunc .. |.slice .. |.fieldAddr .. |.field .. |.indexAddr .. |.index .. |.extract .. =>0
 |.binOp op t _ _ _=>match op with
  |.eql|.neq=>match P.underlying t with
   |some (.int _)|some .string|some .bool=>0
   |_=>1
  |_=>0
 |.convert src dst _=>match P.underlying src,P.underlying dst with
  |some (.slice _),some .string=>1
  |some .string,some (.slice _)=>2
  |some (.slice _),some (.slice _)=>2
  |_,_=>0
 |.load .. |.lookup .. |.typeAssert .. =>1
 |.call c=>match c.callee with
  |.builtin .len=>match c.argTypes[0]? with
   |some t=>match P.underlying t with
    |some (.map _ _)=>1
    |_=>0
   |none=>0
  |.builtin .cap|.builtin .min|.builtin .max=>0
  |_=>2
 |_=>2
abbrev Past:=List (Nat×(World->Prop))
def again(bef:Nat->Nat->Bool)(j:Nat):Past->World->Prop->Prop
 | [],_,X=>X
 |(i,f)::p,w,X=>match bef i j with
  |true=>again bef j p w X
  |false=>f w/\again bef j p w X
def spl(sp:Bool)(v:Value)(K:Value->Prop):Prop:=
 match sp,v with
 |true,.bool b=>br b (K (.bool true)) (K (.bool false))
 |_,_=>K v
def slotOf(ops:List Oper)(j:Nat):Option Nat:=match ops[j]? with
 |some o=>o.dst
 |none=>none
def isGuard(ops:List Oper)(i:Nat):Bool:=ops.any λo=>match o.guard with
 |some (j,_)=>j==i
 |none=>false
def execV(wr:Bool)(P:Program)(bef:Nat->Nat->Bool)(ops:List Oper)(i:Nat)(o:Oper)(fr:Fr)(w:World)(past:Past)(K:Option Value->World->Past->Prop):Prop:=
 match cls P o.op with
 |0=>pureV wr P fr o λv=>spl (isGuard ops i) v λv=>K (some v) w past
 |1=>exT P o.type λv=>readV P fr o w v/\spl (isGuard ops i) v λv'=>K (some v') w ((i,λw'=>readV P fr o w' v)::past)
 |_=>effV P ops fr o w λrv w'=>again bef i past w' (match rv with
  |some v=>spl (isGuard ops i) v λv=>K (some v) w' past
  |none=>K none w' past)
def fput(nt:Nat)(fr:Fr)(d:Option Nat)(v:Option Value)(k:Fr->Prop):Prop:=
 match d with
 |some d=>match Nat.blt d nt with
  |true=>k ((d,v)::fr)
  |false=>False
 |none=>k fr
def stepD(wr:Bool)(P:Program)(bef:Nat->Nat->Bool)(ops:List Oper)(i:Nat)(o:Oper)(fr:Fr)(w:World)(past:Past)(K:Option Value->World->Past->Prop):Prop:=
 match o.guard with
 |none=>execV wr P bef ops i o fr w past K
 |some (j,want)=>match slotOf ops j with
  |none=>False
  |some s=>match fget fr s with
   |some (.bool b)=>
    match b,want with
    |true,true|false,false=>execV wr P bef ops i o fr w past K
    |_,_=>K (some (.tuple #[])) w past
   |some (.tuple _)=>K (some (.tuple #[])) w past
   |_=>False
def runV(wr:Bool)(P:Program)(nt:Nat)(bef:Nat->Nat->Bool)(ops:List Oper)(K:Fr->World->Prop):LN0->Fr->World->Past->Prop
 | [],fr,w,_=>K fr w
 |i::r,fr,w,past=>
  match ops[i]? with
  |none=>False
  |some o=>stepD wr P bef ops i o fr w past λv w' past'=>fput nt fr o.dst v λfr'=>runV wr P nt bef ops K r fr' w' past'
def edges(o:Oper):LN0:=(o.after.toList.filter λe=>Region.binds .any e).map (·.on)
def edgesX(ex:List (Nat×Nat))(j:Nat)(o:Oper):LN0:=edges o++(ex.filter λp=>Nat.beq p.2 j).map (·.1)
def getN(l:LN0)(e:Nat):Nat:=(l[e]?).getD 0
def passM(ex:List (Nat×Nat))(prev:LN0)(ops:List Oper):LN0:=
 ops.foldl (λacc o=>acc++[(edgesX ex acc.length o).foldl (λs e=>Nat.lor s (Nat.lor (Nat.pow 2 e) (Nat.lor (getN acc e) (getN prev e)))) 0]) []
def closure(ex:List (Nat×Nat))(ops:List Oper):LN0:=
 match ex with
 | []=>passM ex [] ops
 |_=>passM ex (passM ex (passM ex [] ops) ops) ops
def before(cl:LN0)(i j:Nat):Bool:=Nat.testBit (getN cl j) i
def within(m done:Nat):Bool:=Nat.beq (Nat.lor m done) done
def pickNext(P:Program)(ops:List Oper)(cl:LN0)(done:Nat):LN0->Option Nat->Option Nat
 | [],late=>late
 |i::r,late=>
  match Nat.testBit done i with
  |true=>pickNext P ops cl done r late
  |false=>
   match within (getN cl i) done with
   |false=>pickNext P ops cl done r late
   |true=>match ops[i]? with
    |some o=>match cls P o.op with
     |0=>some i
     |1=>some i
     |_=>pickNext P ops cl done r (match late with
      |none=>some i
      |some l=>some l)
    |none=>none
def orderOf(P:Program)(ops:List Oper)(cl:LN0)(all:LN0):Nat->Nat->LN0
 |0,_=>[]
 |n+1,done=>match pickNext P ops cl done all none with
  |some i=>i::orderOf P ops cl all n (Nat.lor done (Nat.pow 2 i))
  |none=>[]
def turners(P:Program):List Oper->Nat->LN0
 | [],_=>[]
 |o::r,i=>match cls P o.op with
  |0=>turners P r (i+1)
  |1=>turners P r (i+1)
  |_=>i::turners P r (i+1)
def remove(x:Nat):LN0->LN0
 | []=>[]
 |y::r=>match Nat.beq x y with
  |true=>r
  |false=>y::remove x r
def extsOf(cl:LN0):Nat->LN0->List (LN0)
 |0,_=>[[]]
 |n+1,l=>(l.filter λx=>l.all λy=> !before cl y x).flatMap λx=>(extsOf cl n (remove x l)).map (x:: ·)
def chainOf:LN0->List (Nat×Nat)
 |x::y::r=>(x,y)::chainOf (y::r)
 |_=>[]
def nodupB:LN0->Bool
 | []=>true
 |x::r=> !r.contains x&&nodupB r
def posIn(x:Nat):LN0->Nat
 | []=>0
 |y::r=>match Nat.beq x y with
  |true=>0
  |false=>posIn x r+1
def edgesIn(m:Region.Mode)(o:Oper):LN0:=(o.after.toList.filter λe=>Region.binds m e).map (·.on)
def forward(m:Region.Mode)(ops:List Oper)(σ:LN0):Bool:=
 (List.range ops.length).all λi=>match ops[i]? with
  |some o=>(edgesIn m o).all λj=>decide (j<ops.length)&&decide (posIn j σ<posIn i σ)
  |none=>false
def opTs(o:Op):LN0:=o.operands.toList.filterMap λx=>match x with
 |.tmp t=>some t
 |_=>none
def apartB(ops:List Oper)(i j:Nat):Bool:=
 match ops[i]?,ops[j]? with
 |some a,some b=>
  match a.dst,b.dst with
  |some x,some y=> !(x==y)&& !(opTs a.op).contains y&& !(opTs b.op).contains x&&
    (match a.guard with
     |some (k,_)=>match slotOf ops k with
      |some s=> !(s==y)
      |none=>true
     |none=>true)&&
    (match b.guard with
     |some (k,_)=>match slotOf ops k with
      |some s=> !(s==x)
      |none=>true
     |none=>true)
  |some x,none=> !(opTs b.op).contains x&&
    (match b.guard with
     |some (k,_)=>match slotOf ops k with
      |some s=> !(s==x)
      |none=>true
     |none=>true)
  |none,some y=> !(opTs a.op).contains y&&
    (match a.guard with
     |some (k,_)=>match slotOf ops k with
      |some s=> !(s==y)
      |none=>true
     |none=>true)
  |none,none=>true
 |_,_=>false
def pairsOk(f:Nat->Nat->Bool):LN0->Bool
 | []=>true
 |i::r=>r.all (f i)&&pairsOk f r
def turnOk(P:Program)(ops:List Oper)(cl:LN0)(i j:Nat):Bool:=
 before cl i j||
 (!before cl j i&&apartB ops i j&&
  match ops[i]?,ops[j]? with
  |some a,some b=>match cls P a.op,cls P b.op with
   |0,_=>true
   |_,0=>true
   |1,_=>true
   |_,_=>false
  |_,_=>false)
def drawOk(P:Program)(ops:Array Oper)(cl:LN0)(σ:LN0):Bool:=
 decide (σ.length=ops.toList.length)&&nodupB σ&&σ.all (λi=>decide (i<ops.toList.length))&&pairsOk (turnOk P ops.toList cl) σ
def drawBase(ops:Array Oper):Bool:=
 forward .any ops.toList (List.range ops.toList.length)&&
 (!Region.departs ops||(forward .text ops.toList (List.range ops.toList.length)&&forward .gc ops.toList (Region.linearise .gc ops 0)))
abbrev Kd:=IntKind⊕Nat
def KTy:Kd->Type
 |.inl _=>Int
 |.inr 0=>Bool
 |.inr 1=>ByteArray
 |.inr 2=>OA
 |.inr 3=>OA×Nat×Nat
 |.inr 4=>Option Nat
 |.inr (_+5)=>Value
def toV:(k:Kd)->KTy k->Value
 |.inl k,n=>.int k n
 |.inr 0,b=>.bool b
 |.inr 1,s=>.string s
 |.inr 2,p=>.pointer p
 |.inr 3,x=>.slice x.1 x.2.1 x.2.2
 |.inr 4,m=>.map m
 |.inr (_+5),v=>v
def fromV:(k:Kd)->Value->Option (KTy k)
 |.inl k,.int k' n=>match decide (k=k')with
  |true=>some n
  |false=>none
 |.inr 0,.bool b=>some b
 |.inr 1,.string s=>some s
 |.inr 2,.pointer p=>some p
 |.inr 3,.slice a l c=>some (a,l,c)
 |.inr 4,.map m=>some m
 |.inr (_+5),v=>some v
 |_,_=>none
def StTy:List (Nat×Kd)->Type
 | []=>Unit
 | [x]=>KTy x.2
 |x::y::r=>KTy x.2×StTy (y::r)
def setSt:(l:List (Nat×Kd))->StTy l->Fr->Fr
 | [],_,fr=>fr
 | [x],s,fr=>(x.1,some (toV x.2 s))::fr
 |x::y::r,s,fr=>(x.1,some (toV x.2 s.1))::setSt (y::r) s.2 fr
def getSt:(l:List (Nat×Kd))->Fr->(StTy l->Prop)->Prop
 | [],_,K=>K ()
 | [x],fr,K=>match fget fr x.1 with
  |some v=>match fromV x.2 v with
   |some s=>K s
   |none=>False
  |none=>False
 |x::y::r,fr,K=>match fget fr x.1 with
  |some v=>match fromV x.2 v with
   |some s=>getSt (y::r) fr λs'=>K (s,s')
   |none=>False
  |none=>False
def havoc:LN0->Fr->Fr
 | [],fr=>fr
 |t::r,fr=>(t,none)::havoc r fr
def opsMods:List Oper->LN0
 | []=>[]
 |o::r=>match o.dst with
  |some d=>d::opsMods r
  |none=>opsMods r
def mods:Code->LN0
 |.region _ ops _=>opsMods ops.toList
 |.seq a b=>mods a++mods b
 |.cond _ a b=>mods a++mods b
 |.block _ c=>mods c
 |.loop c=>mods c
 |.scope c=>mods c
 |_=>[]
def firstR:Code->Option Nat
 |.region id _ _=>some id
 |.seq a b=>match firstR a with
  |some i=>some i
  |none=>firstR b
 |.cond _ a b=>match firstR a with
  |some i=>some i
  |none=>firstR b
 |.block _ c=>firstR c
 |.loop c=>firstR c
 |.scope c=>firstR c
 |_=>none
def stOk:List (Nat×Kd)->LN0->Bool
 | [],_=>true
 |x::r,ms=>ms.contains x.1&&stOk r ms
structure An where
 wraps:LN0:=[]
 loops:List (Nat×List (Nat×Kd)):=[]
 joins:List (Nat×List (Nat×Kd)):=[]
 ranges:List (Nat×List (Nat×Kd)):=[]
def An.find(l:List (Nat×List (Nat×Kd)))(i:Option Nat):Option (List (Nat×Kd)):=
 match i with
 |none=>none
 |some i=>match l with
  | []=>none
  |(j,s)::r=>match Nat.beq i j with
   |true=>some s
   |false=>An.find r (some i)
def noRF:Code->Bool
 |.seq a b=>noRF a&&noRF b
 |.cond _ a b=>noRF a&&noRF b
 |.block _ c=>noRF c
 |.loop c=>noRF c
 |.scope c=>noRF c
 |.rangeFunc .. =>false
 |_=>true
def exitsOf:Code->LN0
 |.seq a b=>exitsOf a++exitsOf b
 |.cond _ a b=>exitsOf a++exitsOf b
 |.block id c=>(exitsOf c).filter λx=> !Nat.beq x id
 |.loop c=>exitsOf c
 |.scope c=>exitsOf c
 |.exit id=>[id]
 |_=>[]
def retsIn:Code->Bool
 |.seq a b=>retsIn a||retsIn b
 |.cond _ a b=>retsIn a||retsIn b
 |.block _ c=>retsIn c
 |.loop c=>retsIn c
 |.scope c=>retsIn c
 |.ret=>true
 |_=>false
def isIn(i:Nat):LN0->Bool
 | []=>false
 |x::r=>Nat.beq i x||isIn i r
def argsOf:(l:List (Nat×Kd))->StTy l->LV
 | [],_=>[]
 | [x],s=>[toV x.2 s]
 |x::y::r,s=>toV x.2 s.1::argsOf (y::r) s.2
def psOk(nt:Nat)(st:List (Nat×Kd))(ps:LN0):Bool:=(st.map (·.1)==ps)&&nodupB ps&&ps.all (Nat.blt · nt)
def drawAll(f:LN0->Prop):List (LN0)->Prop
 | []=>True
 | [x]=>f x
 |x::y::r=>f x/\drawAll f (y::r)
def V(P:Program)(an:An)(nt:Nat):Code->Fr->LN0->World->(Exit->Fr->LN0->World->Prop)->Prop
 |.skip,fr,ms,w,Q=>Q .normal fr ms w
 |.region id ops draw,fr,ms,w,Q=>
  match draw with
  |false=>runV (an.wraps.contains id) P nt (λ_ _=>true) ops.toList (λfr w=>Q .normal fr ms w) (List.range ops.toList.length) fr w []
  |true=>match drawBase ops with
   |true=>drawAll (λeo=>match closure (chainOf eo) ops.toList with
    |cl=>match orderOf P ops.toList cl (List.range ops.toList.length) ops.toList.length 0 with
     |σ=>match drawOk P ops cl σ with
      |true=>runV (an.wraps.contains id) P nt (before cl) ops.toList (λfr w=>Q .normal fr ms w) σ fr w.drew []
      |false=>False) (match turners P ops.toList 0 with
     |ts=>extsOf (closure [] ops.toList) ts.length ts)
   |false=>False
 |.seq a b,fr,ms,w,Q=>
  match An.find an.joins (firstR b)with
  |some st=>match stOk st (mods a)&&noRF a with
   |true=>JoinP (λ(s:StTy st) w'=>V P an nt b (setSt st s (havoc (mods a) fr)) ms w' Q) (λJ=>V P an nt a fr ms w (λe fr' ms' w'=>match e with
    |.normal=>getSt st fr' λs=>J s w'
    |e=>Q e fr' ms' w'))
   |false=>False
  |none=>V P an nt a fr ms w (λe fr' ms' w'=>match e with
    |.normal=>V P an nt b fr' ms' w' Q
    |e=>Q e fr' ms' w')
 |.cond c x y,fr,ms,w,Q=>
  match ev fr c with
  |some (.bool b)=>br b (V P an nt x fr ms w Q) (V P an nt y fr ms w Q)
  |_=>False
 |.block id c,fr,ms,w,Q=>V P an nt c fr ms w (λe fr' ms' w'=>match e with
   |.exit id'=>match Nat.beq id' id with
    |true=>Q .normal fr' ms' w'
    |false=>Q (.exit id') fr' ms' w'
   |e=>Q e fr' ms' w')
 |.loop c,fr,ms,w,Q=>
  match An.find an.loops (firstR c)with
  |some st=>match stOk st (mods c)with
   |true=>match noRF c with
    |true=>getSt st fr λs0=>LoopP (λ(s:StTy st) w' next=>V P an nt c (setSt st s (havoc (mods c) fr)) ms w' (λe fr' ms' w''=>match e with
     |.normal=>getSt st fr' λs'=>next s' w''
     |e=>Q e fr' ms' w'')) s0 w
    |false=>getSt st fr λs0=>LoopP (λ(s:StTy st×LN0) w' next=>V P an nt c (setSt st s.1 (havoc (mods c) fr)) s.2 w' (λe fr' ms' w''=>match e with
     |.normal=>getSt st fr' λs'=>next (s',ms') w''
     |e=>Q e fr' ms' w'')) (s0,ms) w
   |false=>False
  |none=>False
 |.exit id,fr,ms,w,Q=>Q (.exit id) fr ms w
 |.scope c,fr,ms,w,Q=>V P an nt c fr ms w (λe fr' ms' w'=>match e with
   |.goto _=>False
   |e=>Q e fr' ms' w')
 |.label _,fr,ms,w,Q=>Q .normal fr ms w
 |.ret,fr,ms,w,Q=>Q .ret fr ms w
 |.rangeFunc g ps assign body,fr,ms,w,Q=>
  match An.find an.ranges (firstR body)with
  |some st=>match psOk nt st ps.toList&&(noRF assign&&noRF body)with
   |true=>match ev fr g with
    |some v=>∃(gf:FuncId)(fi ca:Array Value),v=.func (.func gf) fi ca/\HasBody P gf/\RangeP P gf fi.toList ca.toList (argsOf st) (λ(s:StTy st) w' begin kn kr kx=>V P an nt assign (setSt st s fr) [] w' (λe fr1 _ w1=>match e with
        |.normal=>begin w1 λw2=>V P an nt body fr1 [] w2 (λe _ _ w3=>match e with
         |.normal=>kn w3
         |.ret=>kr w3
         |.exit id=>kx id w3
         |_=>False)
        |_=>False)) w (λD w'=>Q .normal fr (D::ms) w') (λD w'=>match retsIn body with
        |true=>Q .ret fr (D::ms) w'
        |false=>False) (λid D w'=>match isIn id (exitsOf body)with
        |true=>Q (.exit id) fr (D::ms) w'
        |false=>False)
    |_=>False
   |false=>False
  |none=>False
 |_,_,_,_,_=>False
def resV(P:Program)(fr:Fr)(w:World):List ResultVar->(LV->Prop)->Prop
 | [],K=>K []
 |.tmp t::r,K=>onV (fget fr t) λv=>resV P fr w r λl=>K (v::l)
 |.cell a t::r,K=>match fget fr a with
  |some (.pointer p)=>onP p λa=>exV P t λv=>Ld P t w a v/\resV P fr w r λl=>K (v::l)
  |_=>False
def retV(P:Program)(fn:Func)(fr:Fr)(w:World)(R:EW):Prop:=
 resV P fr w fn.results.toList λl=>match l with
  | [v]=>R (eE0 v) w
  |l=>R (eE0 (.tuple l.toArray)) w
def argFr:Nat->LV->Fr
 |_,[]=>[]
 |i,v::r=>(i,some v)::argFr (i+1) r
def shutV(P:Program)(fn:Func)(fr:Fr):LN0->World->(Ending->World->Prop)->Prop
 | [],w,R=>retV P fn fr w R
 |D::ms,w,R=>∃w1,ShutD w D w1/\shutV P fn fr ms w1 R
def ShutAll:LN0->World->World->Prop
 | [],w,w1=>w1=w
 |D::ms,w,w1=>∃w',ShutD w D w'/\ShutAll ms w' w1
def hasLRF:Code->Bool
 |.seq a b=>hasLRF a||hasLRF b
 |.cond _ a b=>hasLRF a||hasLRF b
 |.block _ c=>hasLRF c
 |.loop c=> !noRF c
 |.scope c=>hasLRF c
 |_=>false
def endV(P:Program)(fn:Func)(c:Code)(fr:Fr)(ms:LN0)(w:World)(R:EW):Prop:=
 match hasLRF c with
 |false=>shutV P fn fr ms w R
 |true=>∃w1,ShutAll ms w w1/\retV P fn fr w1 R
def bodyV(P:Program)(an:An)(fn:Func)(args:LV)(w:World)(R:EW):Prop:=
 match fn.body with
 |none=>False
 |some c=>V P an fn.ntmps c (argFr 0 args) [] w (λe fr' ms w'=>match e with
  |.normal=>endV P fn c fr' ms w' R
  |.ret=>endV P fn c fr' ms w' R
  |_=>False)
end
structure Ref(nt:Nat)(ds:List Deferred)(fr:Fr)(a:Act):Prop where
  size:a.tmps.size=nt
  defers:a.defers=ds
  val:∀t v,fget fr t=some v→a.tmps[t]? =some v
def fget_nil(t:Nat):fget [] t=none:=rfl
def fget_cons(x:Nat×Option Value)(fr:Fr)(t:Nat):fget (x::fr) t=cond (Nat.beq t x.1) x.2 (fget fr t):=rfl
def fget_hit(d:Nat)(v:Option Value)(fr:Fr):fget ((d,v)::fr) d=v:=by rw[fget_cons];simp
theorem fget_miss(d t:Nat)(v:Option Value)(fr:Fr)(h:t≠d):fget ((d,v)::fr) t=fget fr t:=by
  rw[fget_cons]
  have:Nat.beq t d=false:=by cases hb:Nat.beq t d with
    |false=>rfl
    |true=>exact absurd (dW hb) h
  simp[this]
section
variable {nt : Nat} {ds : List Deferred} {fr : Fr} {a : Act}
theorem Ref.ev(b:Ref nt ds fr a){x:Operand}{v:Value}(h:ev fr x=some v):a.eval x=v:=by
  cases x with
  |tmp t=>
    have:=b.val t v h;simp[Act.eval,fG,this]
  |const c=>simpa [Vc.ev,Act.eval]using h
  |global g=>simpa [Vc.ev,Act.eval]using h
  |func f=>simpa [Vc.ev,Act.eval]using h
def evs_cons{x:Operand}{r:List Operand}{l:LV}(h:evs fr (x::r)=some l):∃v l',Vc.ev fr x=some v∧evs fr r=some l'∧l=v::l':=by
  simp only[evs]at h;split at h
  · split at h
    · cases h;exact⟨_,_,by assumption,by assumption,rfl⟩
    · cases h
  · cases h
theorem Ref.evs(b:Ref nt ds fr a):∀{xs:List Operand}{l:LV},evs fr xs=some l→xs.map a.eval=l
  | [],l,h=>by simp[Vc.evs]at h;simp[h]
  |x::r,l,h=>by
    obtain⟨v,e,c,d,rfl⟩:=evs_cons h;simp[b.ev c,Ref.evs b d]
def Ref.evsA(b:Ref nt ds fr a){xs:Array Operand}{l:LV}(h:Vc.evs fr xs.toList=some l):xs.map a.eval=l.toArray:=by
  have:=b.evs h;apply gQ.1;simpa using this
theorem Ref.parts(b:Ref nt ds fr a):∀{xs:List (Nat×Operand)}{l:List (Nat×Value)},partsOf fr xs=some l→xs.map (λp=>(p.1,a.eval p.2))=l
  | [],l,h=>by simp[partsOf]at h;simp[h]
  |(i,x)::r,l,h=>by
    simp only[partsOf]at h;split at h
    · split at h
      · cases h;rename_i v c _ e d
        simp[b.ev c,Ref.parts b d]
      · cases h
    · cases h
def Ref.put(b:Ref nt ds fr a){d:Nat}(e:d<nt)(v:Value):Ref nt ds ((d,some v)::fr) (a.put (some d) v):=by
  refine⟨by simp[Act.put,b.size],by simp[Act.put,b.defers],λt u h=>?_⟩;by_cases c:t=d
  · subst c
    rw[fget_hit]at h;cases h;simp[Act.put,df,b.size,e]
  · rw[fget_miss _ _ _ _ c]at h
    have:=b.val t u h;simp[Act.put,df,Ne.symm c,this]
def Ref.lose(c:Ref nt ds fr a)(d:Option Nat)(v:Value):∀b,d=some b→Ref nt ds ((b,none)::fr) (a.put d v):=by
  rintro b rfl;refine⟨by simp[Act.put,c.size],by simp[Act.put,c.defers],λt u h=>?_⟩;by_cases e:t=b
  · subst e
    rw[fget_hit]at h;cases h
  · rw[fget_miss _ _ _ _ e]at h
    have:=c.val t u h;simp[Act.put,df,Ne.symm e,this]
theorem Ref.fput(b:Ref nt ds fr a){d:Option Nat}{c:Option Value}{v:Value}(e:∀u,c=some u→v=u){k:Fr→Prop}(h:fput nt fr d c k):
    ∃fr',k fr'∧Ref nt ds fr' (a.put d v):=by
  cases d with
  |none=>exact⟨fr,h,b⟩
  |some d=>
    simp only[Vc.fput]at h;split at h
    · rename_i f
      have g:d<nt:=by simpa [ou]using f
      refine⟨_,h,?_⟩;cases c with
      |some u=>cases e u rfl;exact b.put g v
      |none=>exact b.lose (some d) v d rfl
    · exact h.elim
end
theorem onV_some{x:Option Value}{k:Value→Prop}(h:onV x k):∃v,x=some v∧k v:=by
  cases x with
  |none=>exact h.elim
  |some v=>exact⟨v,rfl,h⟩
theorem onO_some{α:Type}{x:Option α}{k:α→Prop}(h:onO x k):∃v,x=some v∧k v:=by
  cases x with
  |none=>exact h.elim
  |some v=>exact⟨v,rfl,h⟩
theorem onP_some{x:OA}{k:Addr→Prop}(h:onP x k):∃v,x=some v∧k v:=by
  cases x with
  |none=>exact h.elim
  |some v=>exact⟨v,rfl,h⟩
def onPt_some{x:Option Value}{k:Addr→Prop}(h:onPt x k):∃a,x=some (.pointer (some a))∧k a:=by
  unfold onPt at h;split at h
  · obtain⟨a,rfl,h⟩:=onP_some h;exact⟨a,rfl,h⟩
  · exact h.elim
theorem exLs_one{f:TypeId→(LV→Prop)→Prop}(b:∀t (C:LV→Prop),f t C→∃l,C l∧∀C':LV→Prop,C' l→f t C'):∀{c:List TypeId}{C:LV→Prop},exLs f c C→∃l,C l∧∀C':LV→Prop,C' l→exLs f c C'
  | [],C,h=>⟨_,h,λ_ h=>h⟩
  |t::r,C,h=>by
    obtain⟨l,h,d⟩:=b _ _ h;obtain⟨i,h,e⟩:=exLs_one b h;exact⟨_,h,λC' g=>d _ (e _ g)⟩
theorem exC_one{P:Program}:∀(n:Nat)(T:TypeId)(C:LV→Prop),exC P n T C→∃l,C l∧∀C':LV→Prop,C' l→exC P n T C'
  |0,T,C,⟨l,h⟩=>⟨l,h,λC' h=>⟨l,h⟩⟩
  |n+1,T,C,h=>by
    simp only[exC]at h⊢;generalize P.underlying T=u at h⊢;rcases u with _|d;rotate_left;cases d
    all_goals first
      |(obtain⟨x,y,z,h⟩:=h;exact⟨_,h,λC' h=>⟨x,y,z,h⟩⟩)
      |(obtain⟨x,h⟩:=h;exact⟨_,h,λC' h=>⟨x,h⟩⟩)
      |exact exLs_one (exC_one n) h
theorem exV_one{P:Program}{T:TypeId}{C:Value→Prop}(h:exV P T C):∃v,C v∧∀C':Value→Prop,C' v→exV P T C':=by
  simp only[exV]at h⊢;split at h<;>obtain⟨l,h,b⟩:=exC_one _ _ _ h
  · exact⟨_,h,λC' h=>b _ h⟩
  · exact⟨_,h,λC' h=>b _ h⟩
  · match l,h with
    | [v],h=>exact⟨v,h,λC' h=>b _ h⟩
theorem exVs_one{P:Program}:∀{b:List TypeId}{C:LV→Prop},exVs P b C→∃l,C l∧∀C':LV→Prop,C' l→exVs P b C'
  | [],C,h=>⟨_,h,λ_ h=>h⟩
  |t::r,C,h=>by
    obtain⟨v,h,c⟩:=exV_one h;obtain⟨l,h,d⟩:=exVs_one h;exact⟨_,h,λC' e=>c _ (d _ e)⟩
def exT_one{P:Program}{T:TypeId}{C:Value→Prop}(h:exT P T C):∃v,C v∧∀C':Value→Prop,C' v→exT P T C':=by
  simp only[exT]at h⊢;split at h
  · obtain⟨l,h,b⟩:=exVs_one h;exact⟨_,h,λC' h=>b _ h⟩
  · exact exV_one h
def exT_some{P:Program}{T:TypeId}{C:Value→Prop}(h:exT P T C):∃v,C v:=(exT_one h).imp λ_ h=>h.1
def exT_mono{P:Program}{T:TypeId}{C C':Value→Prop}(b:∀v,C v→C' v)(h:exT P T C):exT P T C':=
  (exT_one h).elim λv h=>h.2 _ (b v h.1)
theorem exO_one{P:Program}{T:Option TypeId}{C:Value→Prop}(h:exO P T C):∃v,C v∧∀C':Value→Prop,C' v→exO P T C':=by
  cases T with
  |none=>obtain⟨v,h⟩:=h;exact⟨v,h,λ_ h=>⟨v,h⟩⟩
  |some t=>exact exT_one h
def wrap_inR{k:IntKind}{z:Int}(h:inR k z):k.wrap z=z:=by
  cases k<;>simp[inR,IntKind.min,IntKind.max,IntKind.signed,IntKind.bits]at h
  · exact IntWalk.i8_in _ om
  · exact IntWalk.i16_in _ om
  · exact IntWalk.i32_in _ om
  · exact IntWalk.i64_in _ om
  · exact IntWalk.u8_in _ om
  · exact IntWalk.u16_in _ om
  · exact IntWalk.u32_in _ om
  · exact IntWalk.u64_in _ om
theorem arith_one{wr:Bool}{k:IntKind}{z:Int}{K:Value→Prop}(h:arith wr k z K):K (.int k (k.wrap z))∧∀b:Value→Prop,b (.int k (k.wrap z))→arith wr k z b:=by
  cases wr with
  |true=>exact⟨h,λb h=>h⟩
  |false=>obtain⟨c,d⟩:=h;rw[wrap_inR c];exact⟨d,λb h=>⟨c,h⟩⟩
def toList_eq(a b:ByteArray):(a.toList==b.toList)=decide (a=b):=by
  rw[ByteArray.toList_eq,ByteArray.toList_eq,iO];simp only[beq_iff_eq,decide_eq_true_eq];constructor
  · intro h
    cases a;cases b;simp;exact gQ.1 h
  · rintro rfl;rfl
theorem over_cons(x:Value)(r:LV):∀(n:Nat)(cs:LV),n<cs.length→over (x::r) n cs=over r (n+1) (cs.set n x):=by
  intro n cs h
  induction cs generalizing n with
  |nil=>simp at h
  |cons c cs b=>
    cases n with
    |zero=>
      simp;cases r<;>simp[over]
    |succ n=>
      simp only[over,bZ];rw[b n (by simpa using h)];cases r with
      |nil=>simp[over]
      |cons y r=>simp[over]
theorem over_nil:∀(n:Nat)(cs:LV),over [] n cs=cs
  |0,_=>by simp[over]
  |n+1,_=>by simp[over]
theorem over_length(l:LV):∀(n:Nat)(cs:LV),n+l.length≤cs.length→(over l n cs).length=cs.length:=by
  induction l with
  |nil=>intro n cs _;rw[over_nil]
  |cons x r b=>
    intro n cs h;simp at h;rw[over_cons x r n cs om,b _ _ (by simp;omega)];simp
theorem foldl_over(b:Nat):∀(l:LV)(j:Nat)(cells:Array Value),b+j+l.length≤cells.size→
    ((l.zipIdx j).foldl (λcs (p:Value×Nat)=>cs.setIfInBounds (b+p.2) p.1) cells).toList=over l (b+j) cells.toList
  | [],j,cells,h=>by simp[over_nil]
  |x::r,j,cells,h=>by
    simp at h;simp;rw[foldl_over b r (j+1) _ (by simp;omega),over_cons x r _ _ (by simp;omega)];simp;congr 1
theorem fill_sound(b:Nat→Option (Nat×Nat)):∀(f:List (Nat×Value))(cs l:LV),fillL b f cs=some l→Instr.fill b cs.toArray f=some l.toArray
  | [],cs,l,h=>by simp[fillL]at h;simp[Instr.fill,h]
  |(i,v)::r,cs,l,h=>by
    simp only[fillL]at h;simp only[Instr.fill];cases hp:b i with
    |none=>simp[hp]at h
    |some p=>
      obtain⟨c,size⟩:=p;simp only[hp]at h⊢;split at h
      · cases h
      · rename_i g
        have d:(decide (v.cells.size≠size)||decide (c+v.cells.size>cs.toArray.size))=false:=by simpa using g
        simp at d;rw[if_neg (by simpa using g)];have e:=foldl_over c v.cells.toList 0 cs.toArray (by have:=d.2;simp at this⊢;omega)
        have j:(v.cells.zipIdx.foldl (λcs (p:Value×Nat)=>cs.setIfInBounds (c+p.2) p.1) cs.toArray)=(over v.cells.toList c cs).toArray:=by
          apply gQ.1;rw[← oC,Array.toList_zipIdx];simpa using e
        have:=fill_sound b r _ l h;rw[← j]at this;exact this
theorem run_sizes{P:Program}{w:World}:∀{c:List Field}{b:List (Nat×Nat)},sizesOf P c=some b→
    (c.mapM (m:=Sem) λf=>do pure (f.offset,← sizeOf f.type)).run P w=.ok b w
  | [],b,h=>by simp[sizesOf]at h;subst h;rfl
  |f::r,b,h=>by
    simp only[sizesOf]at h;split at h
    · rename_i i d
      split at h
      · rename_i l e
        cases h;have:=run_sizes (w:=w) e;have g:(sizeOf f.type).run P w=.ok i.size w:=by simp[sizeOf,typeInfo,d]
        simp only[nM,Sem.run_bind,Sem.run_map,g,this,Result.andThen_ok,Sem.run_pure]
      · cases h
    · cases h
theorem force_one:∀{l:LV}{k:LV→Prop},force l k↔k l
  | [],k=>oq
  |x::r,k=>force_one (k:=λb=>k (x::b))
def forceB_one{b:Bool}{l:LV}{k:LV→Prop}:forceB b l k↔k l:=by
  cases b
  · exact force_one
  · exact oq
def zl_of{P:Program}{t:TypeId}{z:Value}(h:zeroOf P t=some z):zl P t=z.cells.toList:=by simp[zl,h]
def bigL_of{P:Program}{t:TypeId}{b:List (Nat×Value)}{cs:LV}(h:buildL P t b=some cs):bigL P t b=cs:=by simp[bigL,h]
def run_zero{P:Program}{t:TypeId}{z:Value}(h:zeroOf P t=some z)(w:World):(zeroValue t).run P w=.ok z w:=by
  simp only[zeroOf]at h;split at h
  · rename_i i b
    simp[zeroValue,typeInfo,b,h]
  · cases h
def run_size{P:Program}{t:TypeId}{n:Nat}(h:sizeV P t=some n)(w:World):(sizeOf t).run P w=.ok n w:=by
  simp only[sizeV]at h;split at h
  · rename_i i b
    cases h;simp[sizeOf,typeInfo,b]
  · cases h
def run_und{P:Program}{t:TypeId}{d:TypeDesc}(h:P.underlying t=some d)(w:World):(underlying t).run P w=.ok d w:=by
  simp[underlying,h]
def build_sound{P:Program}{t:TypeId}{g:List (Nat×Value)}{l:LV}(h:buildL P t g=some l)(w:World):
    (Instr.build t g.toArray).run P w=.ok (.agg l.toArray) w:=by
  simp only[buildL]at h;split at h
  · cases h
  · rename_i z j
    split at h
    · rename_i p b
      split at h
      · rename_i m c
        have e:=fill_sound _ _ _ _ h;have d:(z.cells.toList).toArray=z.cells:=by simp
        rw[d]at e;have o:(λi:Nat=>m[i]?)=(λi:Nat=>(m.toArray)[i]?):=by funext i;simp
        rw[o]at e;simp only[Instr.build,Sem.run_bind,run_zero j,run_und b,Result.andThen_ok,Sem.run_pure];rw[lV];simp only[Sem.run_map,run_sizes c,Result.andThen_ok];rw[e];simp
      · cases h
    · rename_i n e b
      split at h
      · rename_i q f
        have e:=fill_sound _ _ _ _ h;have d:(z.cells.toList).toArray=z.cells:=by simp
        rw[d]at e;simp[Instr.build,run_zero j,run_und b,run_size f,e]
      · cases h
    · cases h
def IsI(v:Option Value)(i:Option Int):Prop:=∃kd,v=i.map (Value.int kd)
theorem opI_one{fr:Fr}{nt:Nat}{ds:List Deferred}{x:Option Operand}{k:Option Int→Prop}(h:opI fr x k):
    ∃i,k i∧(∀b:Option Int→Prop,b i→opI fr x b)∧∀(a:Act),Ref nt ds fr a→IsI (x.map a.eval) i:=by
  cases x with
  |none=>exact⟨none,h,λ_ h=>h,λa c=>⟨.i64,rfl⟩⟩
  |some o=>
    simp only[opI]at h⊢;split at h
    · rename_i d i e
      exact⟨some i,h,λb f=>f,λa c=>⟨d,by simp[c.ev e]⟩⟩
    · exact h.elim
def run_bound{P:Program}{w:World}{b:IntKind}{i:Int}{y:Nat}{c:BoundsCode}(h:0≤i∧i≤y):(Instr.sliceBound (.int b i) y c).run P w=.ok i.toNat w:=by
  simp[Instr.sliceBound,asIntOf,h]
def slA_zero(a:OA)(m size:Nat):(if m=0 then a else a.map (·.add (0*size)))=a:=by
  split
  · rfl
  · cases a<;>simp[Addr.add]
theorem slc_one{P:Program}{a:OA}{n c size:Nat}{lo d e:Option Int}{K:Value→Prop}(h:slcV a n c size lo d e K):
    ∃v,K v∧(∀f:Value→Prop,f v→slcV a n c size lo d e f)∧∀(b:Bool)(g i j:Option Value),IsI g lo→IsI i d→IsI j e→∀w,∃l h m,
      (Instr.sliceBounds b n c g i j).run P w=.ok (l,h,m) w∧v=.slice (if m=l then a else a.map (·.add (l*size))) (h-l) (m-l):=by
  cases e<;>cases d<;>cases lo<;>simp only[slcV]at h⊢ <;>first
    |exact h.elim
    |(obtain⟨o,h⟩:=h;refine⟨_,h,λ_ k=>⟨o,k⟩,?_⟩)
    |refine⟨_,h,λ_ k=>k,?_⟩
  all_goals
    rintro b _ _ _ ⟨_,rfl⟩ ⟨_,rfl⟩ ⟨_,rfl⟩ w;refine⟨_,_,_,by simp(disch:=omega) only[Instr.sliceBounds,run_bound,dF,Option.map_none,Sem.run_bind,Result.andThen_ok,Sem.run_pure];rfl,?_⟩
    first
      |rfl
      |(rw[slA_zero];simp)
theorem slice_one{P:Program}{nt:Nat}{ds:List Deferred}{fr:Fr}{t:TypeId}{x:Value}{lo q r:Option Operand}{K:Value→Prop}(h:sliceV P fr t x lo q r K):
    ∃v,K v∧(∀f:Value→Prop,f v→sliceV P fr t x lo q r f)∧∀a,Ref nt ds fr a→∀w,(Instr.sliceAt t x (lo.map a.eval) (q.map a.eval) (r.map a.eval)).run P w=.ok v w:=by
  simp only[sliceV]at h⊢;obtain⟨l,C,D,u⟩:=opI_one (nt:=nt) (ds:=ds) h;clear h;obtain⟨B,i,F,y⟩:=opI_one (nt:=nt) (ds:=ds) C;obtain⟨m,h,G,z⟩:=opI_one (nt:=nt) (ds:=ds) i;have back:∀{v:Value},(∀f:Value→Prop,f v→slxV P t x l B m f)→∀f:Value→Prop,f v→sliceV P fr t x lo q r f:=λi f j=>D _ (F _ (G _ (i f j)));simp only[slxV]at h back;split at h
  · rename_i s g
    cases m<;>cases B<;>cases l<;>first
      |exact h.elim
      |(obtain⟨H,h⟩:=h;refine⟨_,h,back (λ_ h=>by simp only[g];exact⟨H,h⟩),λa b w=>?_⟩)
      |refine⟨_,h,back (λ_ h=>by simp only[g];exact h),λa b w=>?_⟩
    all_goals
      obtain⟨_,J⟩:=u a b;obtain⟨_,L⟩:=y a b;obtain⟨_,M⟩:=z a b;rw[J,L,M];simp(disch:=omega) [Instr.sliceAt,run_und g,Instr.slice,Instr.sliceBounds,run_bound]
  · rename_i e N n c g
    split at h
    · rename_i size o
      obtain⟨v,A,j,d⟩:=slc_one (P:=P) h;refine⟨v,A,back (λ_ h=>by simp only[g,o];exact j _ h),λa b w=>?_⟩;obtain⟨O,R,T,i,rfl⟩:=d true _ _ _ (u a b) (y a b) (z a b) w;simp[Instr.sliceAt,run_und g,Instr.slice,i,run_size o]
    · exact h.elim
  · rename_i n e p g
    split at h
    · rename_i size o
      obtain⟨N,rfl,h⟩:=onP_some h;obtain⟨v,A,j,d⟩:=slc_one (P:=P) h;refine⟨v,A,back (λ_ h=>by simp only[g,o];exact j _ h),λa b w=>?_⟩;obtain⟨O,R,T,i,rfl⟩:=d false _ _ _ (u a b) (y a b) (z a b) w;simp[Instr.sliceAt,run_und g,Instr.sureAddr,i,run_size o];split<;>rfl
    · exact h.elim
  · exact h.elim
def eqGuard_int{P:Program}{c:BinOp}{t:TypeId}{x y:Operand}{k d:IntKind}{a b:Int}(w:World):(eqGuard c t x y (.int k a) (.int d b)).run P w=.ok () w:=by unfold eqGuard;split<;>rfl
def eqGuard_str{P:Program}{c:BinOp}{t:TypeId}{x y:Operand}{a b:ByteArray}(w:World):(eqGuard c t x y (.string a) (.string b)).run P w=.ok () w:=by unfold eqGuard;split<;>rfl
def eqGuard_bool{P:Program}{c:BinOp}{t:TypeId}{x y:Operand}{a b:Bool}(w:World):(eqGuard c t x y (.bool a) (.bool b)).run P w=.ok () w:=by unfold eqGuard;split<;>rfl
def equalIn_bool{P:Program}{t:TypeId}{a b:Bool}(h:P.underlying t=some .bool)(d:Nat)(w:World):(Op.equalIn (d+1) t (.bool a) (.bool b)).run P w=.ok (a==b) w:=by
  simp[Op.equalIn,run_und h]
def equal_bool{P:Program}{t:TypeId}{a b:Bool}(h:P.underlying t=some .bool)(w:World):(Op.equal t (.bool a) (.bool b)).run P w=.ok (a==b) w:=
  equalIn_bool h 9999 w
def data_eq(a b:ByteArray):(a.data.toList==b.data.toList)=decide (a=b):=by
  have:=toList_eq a b
  rwa [ByteArray.toList_eq,ByteArray.toList_eq]at this
def beq_dec(a b:Int):(a==b)=decide (a=b):=rfl
def bne_dec(a b:Int):(a !=b)= !decide (a=b):=rfl
theorem bin_one {wr : Bool} {P : Program} {op : BinOp} {t : TypeId} {a b : Value} {K : Value → Prop} (h : binV wr P op t a b K) :
    ∃ v,K v ∧ (∀ K' : Value → Prop,K' v → binV wr P op t a b K') ∧ ∀ (x y : Operand) (w : World),(do eqGuard op t x y a b; binOp op t a b : Sem Value).run P w = .ok v w := by
  cases a with
  | int k a =>
    cases b with
    | int k' b =>
      have e : ∀ {v : Value} (x y : Operand) (w : World),(binOp op t (.int k a) (.int k' b)).run P w = .ok v w → (do eqGuard op t x y (.int k a) (.int k' b); binOp op t (.int k a) (.int k' b) : Sem Value).run P w = .ok v w := by
        intro v x y w hb;simp only [Sem.run_bind,eqGuard_int,Result.andThen_ok,hb]
      cases op
      case' shl | shr =>
        simp only [binV] at h ⊢;obtain ⟨h0,h⟩ := h;have h1 := jA.2 h0
      case shl =>
        obtain ⟨h,hb⟩ := arith_one h;exact ⟨_,h,λK' hK => ⟨h0,hb _ hK⟩,λx y w => e x y w (by simp [binOp,Op.shift,h1])⟩
      case shr => exact ⟨_,h,λK' hK => ⟨h0,hK⟩,λx y w => e x y w (by simp [binOp,Op.shift,h1])⟩
      all_goals
        by_cases hk : k = k'
        · subst hk
          simp only [binV,if_true] at h ⊢
          first
            | exact h.elim
            | (obtain ⟨h,hb⟩ := arith_one h; exact ⟨_,h,hb,λx y w => e x y w (by simp [binOp,Op.intArith])⟩)
            | (obtain ⟨h0,h⟩ := h; obtain ⟨h,hb⟩ := arith_one h; exact ⟨_,h,λK' hK => ⟨h0,hb _ hK⟩,λx y w => e x y w (by simp [binOp,Op.intDiv,h0])⟩)
            | (obtain ⟨h0,h⟩ := h; exact ⟨_,h,λK' hK => ⟨h0,hK⟩,λx y w => e x y w (by simp [binOp,Op.intDiv,h0])⟩)
            | exact ⟨_,h,λ_ h => h,λx y w => e x y w (by simp [binOp,Op.intBits,bits,Op.intCmp,bne_dec,beq_dec])⟩
        · simp [binV,hk] at h
    | _ => cases op <;> exact h.elim
  | string a =>
    cases b with
    | string b =>
      cases op <;> simp only [binV] at h ⊢ <;> first
        | exact h.elim
        | (obtain ⟨h0,h⟩ := h
           refine ⟨_,h,λK' hK => ⟨h0,hK⟩,λx y w => ?_⟩;have hm : IntKind.i64.max = 9223372036854775807 := by decide
           simp only [Sem.run_bind,eqGuard_str,Result.andThen_ok,binOp,Op.stringOp,hm];rw [if_neg om];rfl)
        | exact ⟨_,h,λ_ h => h,λx y w => by simp only [Sem.run_bind,eqGuard_str,Result.andThen_ok,binOp,Op.stringOp,ByteArray.toList_eq,data_eq,Sem.run_pure]⟩
    | _ => cases op <;> exact h.elim
  | bool a =>
    cases b with
    | bool b =>
      cases op <;> simp only [binV] at h ⊢ <;> first
        | exact h.elim
        | (split at h
           · rename_i hu
             exact ⟨_,h,λK' hK => hK,λx y w => by simp only [Sem.run_bind,eqGuard_bool,Result.andThen_ok,binOp,equal_bool hu,Sem.run_pure]⟩
           · exact h.elim)
    | _ => cases op <;> exact h.elim
  | _ => cases op <;> exact h.elim
def un_one{wr:Bool}{P:Program}{d:UnOp}{a:Value}{K:Value→Prop}(h:unV wr d a K):
    ∃v,K v∧(∀b:Value→Prop,b v→unV wr d a b)∧∀(w:World),(Op.unary d a).run P w=.ok v w:=by
  cases d<;>cases a<;>simp only[unV]at h<;>try exact h.elim
  · obtain⟨h,e⟩:=arith_one h
    exact⟨_,h,λb c=>e _ c,λw=>rfl⟩
  · exact⟨_,h,λb c=>c,λw=>rfl⟩
  · exact⟨_,h,λb c=>c,λw=>rfl⟩
def part_one{P:Program}{t:TypeId}{cs:LV}{b:Nat}{K:Value→Prop}(h:partV P t cs b K):
    ∃v,K v∧(∀f:Value→Prop,f v→partV P t cs b f)∧∀(w:World),(part t cs.toArray b).run P w=.ok v w:=by
  have g:∀(n:Nat)(w:World),sizeV P t=some n→(isAgg t).run P w=.ok true w→(part t cs.toArray b).run P w=.ok (.agg ((cs.drop b).take n).toArray) w:=by
    intro n w c l;simp only[part,Sem.run_bind,l,Result.andThen_ok,if_true,run_size c,Sem.run_pure];congr 2;apply gQ.1;simp[jl,gp]
  simp only[partV]at h⊢;split at h
  · rename_i o i
    split at h
    · rename_i n c
      rw[force_one]at h;exact⟨_,h,λf j=>by simp only[c,force_one];exact j,λw=>g n w c (by simp[isAgg,run_und i])⟩
    · exact h.elim
  · rename_i n e i
    split at h
    · rename_i n c
      rw[force_one]at h;exact⟨_,h,λf j=>by simp only[c,force_one];exact j,λw=>g n w c (by simp[isAgg,run_und i])⟩
    · exact h.elim
  · rename_i d p q i
    split at h
    · rename_i v m
      refine⟨v,h,λf j=>j,λw=>?_⟩
      have l:(isAgg t).run P w=.ok false w:=by
        simp only[isAgg,Sem.run_bind,run_und i,Result.andThen_ok];cases d<;>simp_all
      simp only[part,Sem.run_bind,l,Result.andThen_ok,jD,if_false];have:cs.toArray[b]? =some v:=by simpa using m
      simp[this]
    · exact h.elim
  · exact h.elim
def run_val{P:Program}{s:Sem Value}{v:Value}{w w1:World}(h:s.run P w=.ok v w1):(do pure (Next.value (← s)):Sem Next).run P w=.ok (.value v) w1:=by
  simp only[Sem.run_map,Sem.run_bind,h,Result.andThen_ok,Sem.run_pure]
def run_unit{P:Program}{s:Sem Unit}{w w1:World}(h:s.run P w=.ok () w1):(do s;pure Next.skip:Sem Next).run P w=.ok .skip w1:=by
  simp only[Sem.run_bind,h,Result.andThen_ok,Sem.run_pure]
section
variable {nt : Nat} {ds : List Deferred} {fr : Fr} {P : Program} {ops : List Oper}
def run_builtin{a:Act}(e:Ref nt ds fr a){c:Call}{b:Builtin}{args:LV}(f:c.callee=.builtin b)(g:evs fr c.args.toList=some args)(t:TypeId)(w:World):
    ∃cs,(do let d ← resolve a.eval c t;invoke d.target d.args:Sem Next).run P w=(builtin b c.argTypes t cs args.toArray).run P w:=by
  refine⟨c.args.map λ|.const _=>true|_=>false,?_⟩;simp only[resolve,f,Sem.run_bind,Sem.run_pure,Result.andThen_ok,invoke,e.evsA g];rfl
def evs_one{x:Operand}{v:Value}(h:ev fr x=some v):evs fr [x]=some [v]:=by simp[evs,h]
def evs_two{x y:Operand}{v u:Value}(h:ev fr x=some v)(a:ev fr y=some u):evs fr [x,y]=some [v,u]:=by simp[evs,h,a]
def run_parts{a:Act}(c:Ref nt ds fr a){xs:Array (Nat×Operand)}{b:List (Nat×Value)}(h:partsOf fr xs.toList=some b):(xs.map λ(i,x)=>(i,a.eval x))=b.toArray:=by
  have:=c.parts h;apply gQ.1;simpa using this
def len_one{i:Array TypeId}{x:Value}{K:Value→Prop}(h:lenV P i x K):
    ∃v,K v∧(∀f:Value→Prop,f v→lenV P i x f)∧∀(t:TypeId)(w:World),(Builtin.len_ i t #[x]).run P w=.ok v w:=by
  simp only[lenV]at h⊢;split at h
  · exact h.elim
  · rename_i t g
    split at h
    · rename_i s d
      refine⟨_,h,λf b=>b,λj w=>?_⟩;simp only[Builtin.len_,g,fU,dH,Sem.run_bind,run_und d,Result.andThen_ok];rfl
    · rename_i e a n c d
      refine⟨_,h,λf b=>b,λj w=>?_⟩;simp only[Builtin.len_,g,fU,dH,Sem.run_bind,run_und d,Result.andThen_ok];rfl
    · rename_i n e d
      refine⟨_,h,λf b=>b,λj w=>?_⟩;simp only[Builtin.len_,g,fU,dH,Sem.run_bind,run_und d,Result.andThen_ok];rfl
    · rename_i e d
      split at h
      · rename_i n m l
        refine⟨_,h,λf b=>by first|exact b|(simp;exact b),λj w=>?_⟩;simp only[Builtin.len_,g,fU,dH,Sem.run_bind,run_und d,run_und l,Result.andThen_ok];rfl
      · exact h.elim
    · exact h.elim
def cap_one{d:Array TypeId}{x:Value}{K:Value→Prop}(h:capV P d x K):
    ∃v,K v∧(∀b:Value→Prop,b v→capV P d x b)∧∀(t:TypeId)(w:World),(Builtin.cap_ d t #[x]).run P w=.ok v w:=by
  simp only[capV]at h⊢;split at h
  · exact h.elim
  · rename_i t i
    split at h
    · rename_i e a n c f
      refine⟨_,h,λb g=>g,λj w=>?_⟩;simp only[Builtin.cap_,i,fU,dH,Sem.run_bind,run_und f,Result.andThen_ok];rfl
    · rename_i n e f
      refine⟨_,h,λb g=>g,λj w=>?_⟩;simp only[Builtin.cap_,i,fU,dH,Sem.run_bind,run_und f,Result.andThen_ok];rfl
    · exact h.elim
theorem pure_one{wr:Bool}{o:Oper}{K:Value→Prop}(h:pureV wr P fr o K):
    ∃v,K v∧(∀q:Value→Prop,q v→pureV wr P fr o q)∧∀a,Ref nt ds fr a→∀w,(execOp a.eval o).run P w=.ok (.value v) w:=by
  cases hop:o.op<;>simp only[pureV,hop]at h⊢ <;>try exact h.elim
  case move x=>
    obtain⟨v,z,h⟩:=onV_some h;exact⟨v,h,λq g=>by rw[z];exact g,λa b w=>by simp only[execOp,hop,b.ev z];rfl⟩
  case assign x=>
    obtain⟨v,z,h⟩:=onV_some h;exact⟨v,h,λq g=>by rw[z];exact g,λa b w=>by simp only[execOp,hop,b.ev z];rfl⟩
  case pick c x y=>
    split at h
    · rename_i t D
      cases t with
      |true=>
        obtain⟨v,z,h⟩:=onV_some h;exact⟨v,h,λq g=>by simp only[z];exact g,λa b w=>by simp only[execOp,hop,b.ev D,b.ev z,asBool];rfl⟩
      |false=>
        obtain⟨v,z,h⟩:=onV_some h;exact⟨v,h,λq g=>by simp only[z];exact g,λa b w=>by simp only[execOp,hop,b.ev D,b.ev z,asBool];rfl⟩
    · exact h.elim
  case build t parts=>
    split at h
    · rename_i ps O
      split at h
      · rename_i J F
        rw[forceB_one,bigL_of F]at h;refine⟨_,h,λq g=>by simp only[F,forceB_one,bigL_of F];exact g,λa b w=>?_⟩;simp only[execOp,hop,run_parts b O];exact run_val (build_sound F w)
      · exact h.elim
    · exact h.elim
  case nilCheck x=>
    split at h
    · rename_i p z
      obtain⟨R,rfl,h⟩:=onP_some h;exact⟨_,h,λq g=>g,λa b w=>by simp only[execOp,hop,b.ev z];rfl⟩
    · rename_i f fi ca z
      exact⟨_,h,λq g=>g,λa b w=>by simp only[execOp,hop,b.ev z];rfl⟩
    · rename_i t v z
      exact⟨_,h,λq g=>g,λa b w=>by simp only[execOp,hop,b.ev z];rfl⟩
    · exact h.elim
  case binOp op t x y yt=>
    obtain⟨u,m,h⟩:=onV_some h;obtain⟨u',X,h⟩:=onV_some h;obtain⟨v,h,B,l⟩:=bin_one h
    exact⟨v,h,λq g=>by simp only[m,X];exact B _ g,λa b w=>by
      simp only[execOp,hop,b.ev m,b.ev X];exact run_val (l x y w)⟩
  case unOp op t x=>
    obtain⟨u,m,h⟩:=onV_some h;obtain⟨v,h,B,l⟩:=un_one h
    exact⟨v,h,λq g=>by simp only[m];exact B _ g,λa b w=>by
      simp only[execOp,hop,b.ev m];exact run_val (l w)⟩
  case convert src dst x=>
    split at h
    · rename_i k0 k k1 n C N m
      exact⟨_,h,λq g=>g,λa b w=>by
        simp only[execOp,hop,b.ev m];exact run_val (by simp only[convert,Sem.run_bind,run_und C,run_und N,Result.andThen_ok];rfl)⟩
    · rename_i s C N m
      exact⟨_,h,λq g=>g,λa b w=>by
        simp only[execOp,hop,b.ev m];exact run_val (by simp only[convert,Sem.run_bind,run_und C,run_und N,Result.andThen_ok];rfl)⟩
    · exact h.elim
  case makeInterface t x=>
    split at h
    · exact h.elim
    · rename_i d N A
      obtain⟨v,z,h⟩:=onV_some h
      exact⟨_,h,λq g=>by rw[z];exact g,λa b w=>by
        simp only[execOp,hop,b.ev z]
        exact run_val (by
          simp only[Instr.makeInterface,Sem.run_bind,run_und A,Result.andThen_ok];cases d<;>first|rfl|simp_all)⟩
    · exact h.elim
  case makeFunc fn first captured=>
    split at h
    · rename_i fi ca L H
      exact⟨_,h,λq g=>g,λa b w=>by
        simp only[execOp,hop,b.evsA L,b.evsA H];exact run_val rfl⟩
    · exact h.elim
  case slice t x lo G mx=>
    obtain⟨u,m,h⟩:=onV_some h;obtain⟨v,h,B,l⟩:=slice_one (nt:=nt) (ds:=ds) h
    exact⟨v,h,λq g=>by simp only[m];exact B _ g,λa b w=>by
      simp only[execOp,hop,b.ev m];exact run_val (l a b w)⟩
  case fieldAddr s x f=>
    split at h
    · rename_i fs p A m
      split at h
      · rename_i fd T
        split at h
        · rename_i n C
          obtain⟨R,rfl,h⟩:=onP_some h
          exact⟨_,h,λq g=>by first|exact g|(simp only[C];exact g),λa b w=>by
            simp only[execOp,hop,b.ev m];exact run_val (by simp[Instr.fieldAt,run_und A,T,Instr.sureAddr,fieldPlace,run_size C])⟩
        · exact h.elim
      · exact h.elim
    · exact h.elim
  case field t x f=>
    split at h
    · rename_i fs J A m
      split at h
      · rename_i fd T
        obtain⟨v,h,B,l⟩:=part_one h
        exact⟨v,h,λq g=>B _ g,λa b w=>by
          simp only[execOp,hop,b.ev m];refine run_val ?_;have:=l w;simp only[iZ]at this;simp[Instr.field,run_und A,T,asAgg,this]⟩
      · exact h.elim
    · exact h.elim
  case indexAddr t x ix=>
    split at h
    · rename_i e p n c U i A m G
      split at h
      · rename_i Y C
        obtain⟨R,rfl,r,h⟩:=onP_some h
        exact⟨_,h,λq g=>⟨r,g⟩,λa b w=>by
          simp only[execOp,hop,b.ev m,b.ev G];exact run_val (by simp[Instr.indexAt,asIntOf,run_und A,r,run_size C])⟩
      · exact h.elim
    · rename_i n e p U i A m G
      split at h
      · rename_i Y C
        obtain⟨R,rfl,r,h⟩:=onP_some h
        exact⟨_,h,λq g=>⟨r,g⟩,λa b w=>by
          simp only[execOp,hop,b.ev m,b.ev G];exact run_val (by simp[Instr.indexAt,asIntOf,run_und A,r,run_size C,Instr.sureAddr])⟩
      · exact h.elim
    · exact h.elim
  case index t x ix=>
    split at h
    · rename_i s U i A m G
      obtain⟨r,h⟩:=h
      exact⟨_,h,λq g=>⟨r,g⟩,λa b w=>by
        simp only[execOp,hop,b.ev m,b.ev G];refine run_val ?_;have Z:i.toNat<s.size:=om;have H:s[i.toNat]? =some s[i.toNat]:=getElem?_pos s i.toNat Z
        have h3:sb s i=(s[i.toNat].toNat:Int):=by
          simp only[sb]
          have:s.data.toList[i.toNat]? =some s[i.toNat]:=by
            rw[jG,eG (by simpa using Z)];rfl
          rw[this];rfl
        simp[Instr.index,asIntOf,run_und A,r.1,H,h3]⟩
    · rename_i n e J U i A m G
      split at h
      · rename_i Y C
        obtain⟨r,h⟩:=h;obtain⟨v,⟨M,h⟩,B⟩:=exV_one h
        exact⟨v,h,λq g=>⟨r,B _ ⟨M,g⟩⟩,λa b w=>by
          simp only[execOp,hop,b.ev m,b.ev G];refine run_val ?_;have M:=M w;simp only[iZ]at M;simp[Instr.index,asIntOf,run_und A,r,run_size C,M]⟩
      · exact h.elim
    · exact h.elim
  case extract x i=>
    split at h
    · rename_i vs m
      split at h
      · rename_i v z
        exact⟨v,h,λq g=>g,λa b w=>by
          simp only[execOp,hop,b.ev m];exact run_val (by simp[Instr.extract,z])⟩
      · exact h.elim
    · exact h.elim
  case call c=>
    split at h
    · rename_i x D m
      obtain⟨u,A,h⟩:=onV_some h;obtain⟨v,h,B,l⟩:=len_one h
      exact⟨v,h,λq g=>by simp only[A];exact B _ g,λa b w=>by
        simp only[execOp,hop];obtain⟨J,e⟩:=run_builtin (P:=P) b D (by rw[m];exact evs_one A) o.type w;rw[e];exact run_val (l _ w)⟩
    · rename_i x D m
      obtain⟨u,A,h⟩:=onV_some h;obtain⟨v,h,B,l⟩:=cap_one h
      exact⟨v,h,λq g=>by simp only[A];exact B _ g,λa b w=>by
        simp only[execOp,hop];obtain⟨J,e⟩:=run_builtin (P:=P) b D (by rw[m];exact evs_one A) o.type w;rw[e];exact run_val (l _ w)⟩
    · rename_i x y D m
      split at h
      · rename_i k i k' j L H
        exact⟨_,h,λq g=>g,λa b w=>by
          simp only[execOp,hop];obtain⟨J,e⟩:=run_builtin (P:=P) b D (by rw[m];exact evs_two L H) o.type w;rw[e];refine run_val ?_;simp[Builtin.min_,Builtin.min2];omega⟩
      · exact h.elim
    · rename_i x y D m
      split at h
      · rename_i k i k' j L H
        exact⟨_,h,λq g=>g,λa b w=>by
          simp only[execOp,hop];obtain⟨J,e⟩:=run_builtin (P:=P) b D (by rw[m];exact evs_two L H) o.type w;rw[e];refine run_val ?_;simp[Builtin.max_,Builtin.max2];omega⟩
      · exact h.elim
    · exact h.elim
def read_run{o:Oper}{w:World}{v:Value}(h:readV P fr o w v){a:Act}(d:Ref nt ds fr a):(execOp a.eval o).run P w=.ok (.value v) w:=by
  cases hop:o.op<;>simp only[readV,hop]at h<;>try exact h.elim
  case load t x=>
    split at h
    · rename_i p b
      obtain⟨f,rfl,h⟩:=onP_some h;simp only[execOp,hop,d.ev b];refine run_val ?_;have g:(loadVar t f).run P w=.ok v w:=h;simp[Instr.loadAt,Instr.sureAddr,g]
    · exact h.elim
  case lookup t x k ok=>
    obtain⟨m,i,h⟩:=onV_some h;obtain⟨k,j,h⟩:=onV_some h;simp only[execOp,hop,d.ev i,d.ev j];exact run_val h
  case binOp op t x y yt=>
    obtain⟨u,b,h⟩:=onV_some h;obtain⟨r,l,h⟩:=onV_some h;split at h
    · simp only[execOp,hop,d.ev b,d.ev l]
      exact run_val h
    · exact h.elim
  case convert src dst x=>
    obtain⟨u,b,h⟩:=onV_some h;simp only[execOp,hop,d.ev b];exact run_val h
  case typeAssert x xT t ok=>
    obtain⟨u,b,h⟩:=onV_some h;simp only[execOp,hop,d.ev b];exact run_val h
  case call c=>
    split at h
    · rename_i x n b
      obtain⟨u,q,h⟩:=onV_some h;simp only[execOp,hop];obtain⟨s,e⟩:=run_builtin (P:=P) d n (by rw[b];exact evs_one q) o.type w;rw[e];exact run_val h
    · exact h.elim
def NoNum (P : Program) : Prop := ∀ (f : FuncId) (fn : Func), P.funcs[f]? = some fn → (fn.name == "runtime.NumGoroutine") = false
def W_fn(rd:Option Nat)(f:FuncId):(W rd).fn f:=trivial
def W_depth(rd:Option Nat):(W rd).depth=none:=rfl
def callsIn_W{rd:Option Nat}{n:Nat}{f:FuncId}{args:Array Value}{w:World}{R:Ending→World→Prop}(h:Calls P f args w R):CallsIn (W rd) n P f args w R:=
  (callsIn_wide (n:=n)).2 h
def call_run{f:FuncId}{fn:Func}{c:Code}{args:Array Value}{w:World}(b:NoNum P)(a:P.funcs[f]? =some fn)(d:fn.body=some c):(callFunc f args).run P w=.ok (.enter f args) w:=by
  have e:=b f fn a;simp only[callFunc,Sem.run_bind,run_program,Result.andThen_ok,a];rw[if_neg (by simpa using e)];simp[d]
def arr_nil{a:Array Value}(h:a.toList=[]):a= #[]:=by apply gQ.1;simpa using h
theorem build_slice_sound{t e:TypeId}{len:Nat}{s:List (Nat×Value)}{l:LV}(h:buildSL P t len s=some (e,l))(w:World):
    (Instr.buildSlice t len s.toArray).run P w=.ok (.slice (sP0 w.heap.size) len len) (w.alloc (.cells l.toArray e)):=by
  simp only[buildSL]at h;split at h
  · rename_i J A
    split at h
    · rename_i i u
      split at h
      · rename_i z B
        split at h
        · cases h
        · rename_i x
          simp at x;obtain⟨⟨o,p⟩,C⟩:=x;split at h
          · rename_i K D
            cases h;have a:(zeroValue e).run P w=.ok z w:=by simp[zeroValue,typeInfo,u,B]
            have b:(sizeOf e).run P w=.ok i.size w:=by simp[sizeOf,typeInfo,u]
            have c:=fill_sound _ _ _ _ D
            have d:∀n,repL z.cells.toList n=((Array.range (n*i.size)).map (z.cells[· %z.cells.size]!)).toList:=by
              intro n
              induction n with
              |zero=>simp[repL]
              |succ n m=>
                have F:repL z.cells.toList (n+1)=repL z.cells.toList n++z.cells.toList:=by
                  clear m
                  induction n with
                  |zero=>simp[repL]
                  |succ n m=>
                    show z.cells.toList++repL z.cells.toList (n+1)=(z.cells.toList++repL z.cells.toList n)++z.cells.toList;rw[m,ax]
                rw[F,m];rw[show(n+1)*i.size=n*i.size+i.size from dY n i.size];apply dK;intro k;simp only[kR,oD,ig,aQ,fZ,au];by_cases q:k<n*i.size
                · rw[if_pos q,iL q,iL om]
                · rw[if_neg q]
                  by_cases r:k<n*i.size+i.size
                  · rw[iL r]
                    have G:k%z.cells.size=k-n*i.size:=by
                      rw[o,Nat.mod_eq_sub_mul_div]
                      have:k/i.size=n:=by
                        apply Nat.div_eq_of_lt_le
                        · omega
                        · rw[dY];omega
                      rw[this,jW]
                    have g:k-n*i.size<z.cells.size:=om;simp only[dF,G];rw[getElem!_pos z.cells _ g];simp[g]
                  · rw[bF (by simp;omega),bF (by simp;omega)]
                    rfl
            rw[d]at c;simp only[iZ]at c;simp only[Instr.buildSlice,Sem.run_bind,run_und A,Result.andThen_ok,b];rw[if_neg om];by_cases y:len*i.size=0
            · have j:len=0:=(Nat.mul_eq_zero.1 y).resolve_right p
              subst j;have H:∀f:Nat→Value,Array.map f (Array.range 0)= #[]:=λf=>by apply gQ.1;simp
              simp only[jL,if_true,Sem.run_bind,Sem.run_pure,Result.andThen_ok,H]at c⊢;rw[c];rfl
            · simp only[if_neg y,Sem.run_bind,Sem.run_map,Sem.run_pure,a,Result.andThen_ok]
              rw[c];rfl
          · cases h
      · cases h
    · cases h
  · cases h
theorem eff_upon{rd:Option Nat}{n:Nat}(hN:NoNum P){o:Oper}{w:World}{K:Option Value→World→Prop}(h:effV P ops fr o w K){a:Act}(hr:Ref nt ds fr a)
    {next:Act→World→Prop} {Q:Exit→Act→World→Prop} (hK:∀rv w',K rv w'→∀v:Value,(∀u,rv=some u→v=u)→next (a.put o.dst v) w'):
    o.uponIn (W rd) n P a next Q ((execOp a.eval o).run P w)∧∀c,o.op≠.defer c:=by
  have val:∀{s:Sem Value}{v:Value}{w1:World},s.run P w=.ok v w1→K (some v) w1→o.uponIn (W rd) n P a next Q ((do pure (Next.value (← s)):Sem Next).run P w):=by
    intro s v w1 hs hk;rw[run_val hs];exact hK _ _ hk _ (λu hu=>by cases hu;rfl)
  have uni:∀{s:Sem Unit}{w1:World},s.run P w=.ok () w1→K none w1→o.uponIn (W rd) n P a next Q ((do s;pure Next.skip:Sem Next).run P w):=by
    intro s w1 hs hk;rw[run_unit hs];exact hK _ _ hk _ (λu hu=>by cases hu)
  cases hop:o.op<;>simp only[effV,hop]at h<;>try exact h.elim
  all_goals
    refine⟨?_,λc hc=>by cases hc⟩;simp only[execOp,hop]
  case alloc t=>
    obtain⟨z,hz,h⟩:=onO_some h;rw[forceB_one,zl_of hz]at h;exact val (w1:=w.alloc (.cells z.cells t)) (by simp only[Instr.alloc,Sem.run_bind,run_zero hz,Result.andThen_ok];rfl) (h _ _ ⟨rfl,by simp⟩)
  case box t x=>
    obtain⟨v,hv,h⟩:=onV_some h;rw[forceB_one]at h;simp only[hr.ev hv];exact val (w1:=w.alloc (.cells v.cells t)) rfl (h _ _ ⟨rfl,by simp⟩)
  case buildSlice t len parts=>
    obtain⟨ps,hps,h⟩:=onO_some h;obtain⟨⟨e,cs⟩,hcs,h⟩:=onO_some h;rw[forceB_one]at h;simp only[run_parts hr hps];exact val (build_slice_sound hcs w) (h _ _ ⟨rfl,rfl⟩)
  case store t x y=>
    obtain⟨ad,hx,h⟩:=onPt_some h;obtain⟨v,hy,w1,h1,h⟩:=onV_some h;simp only[hr.ev hx,hr.ev hy];exact uni (by have h1':(storeVar t ad v).run P w=.ok () w1:=h1;simp[Instr.storeAt,Instr.sureAddr,h1']) h
  case convert src dst x=>
    obtain⟨v,hv,ad,l,c,w1,h1,h⟩:=onV_some h;simp only[hr.ev hv];exact val h1 h
  case makeSlice t l c=>
    obtain⟨l,hl,h⟩:=onV_some h;obtain⟨c,hc,ad,n',m,w1,h1,h⟩:=onV_some h;simp only[hr.ev hl,hr.ev hc];exact val h1 h
  case makeMap t r=>
    cases r with
    |none=>exact val (v:=.map (some w.heap.size)) (w1:=w.alloc (.map #[] 0)) rfl (h _ _ ⟨rfl,rfl⟩)
    |some x=>exact h.elim
  case mapUpdate t m k x|insert t m k x|entryStore t m k x=>
    obtain⟨m,hm,h⟩:=onV_some h;obtain⟨k,hk,h⟩:=onV_some h;obtain⟨v,hv,w1,h1,h⟩:=onV_some h;simp only[hr.ev hm,hr.ev hk,hr.ev hv];exact uni h1 h
  case mapEntry t m k=>
    obtain⟨m,hm,h⟩:=onV_some h;obtain⟨k,hk,v,i,w1,h1,h⟩:=onV_some h;simp only[hr.ev hm,hr.ev hk];exact val h1 h
  case range t x=>
    obtain⟨v,hv,p,w1,h1,h⟩:=onV_some h;simp only[hr.ev hv];exact val h1 h
  case next it isS=>
    obtain⟨v,hv,h⟩:=onV_some h;simp only[hr.ev hv];rcases h with⟨w1,h1,h⟩|⟨k,v,w1,h1,h⟩<;>exact val h1 h
  case entry it=>
    obtain⟨v,hv,h⟩:=onV_some h;obtain⟨k,h,-⟩:=exO_one h;obtain⟨u,⟨w1,h1,h⟩,-⟩:=exO_one h;simp only[hr.ev hv];exact val h1 h
  case call c=>
    obtain⟨args,hargs,h⟩:=onO_some h
    have bi:∀{b:Builtin}{v:Value}{w1:World},c.callee=.builtin b→(∀cs,(builtin b c.argTypes o.type cs args.toArray).run P w=.ok (.value v) w1)→K (some v) w1→o.uponIn (W rd) n P a next Q ((do let d ← resolve a.eval c o.type;invoke d.target d.args:Sem Next).run P w):=by
      intro b v w1 hc hb hk;obtain⟨cs,e⟩:=run_builtin (P:=P) hr hc hargs o.type w;rw[e,hb cs];exact hK _ _ hk _ (λu hu=>by cases hu;rfl)
    cases hc:c.callee<;>simp only[hc]at h<;>try exact h.elim
    case builtin b=>
      unfold biE at h;split at h
      · obtain⟨ad,n',m,w1,h1,h⟩:=h;exact bi hc (λ_=>run_val h1) h
      · obtain⟨n',w1,h1,h⟩:=h;exact bi hc (λ_=>run_val h1) h
      · obtain⟨w1,h1,h⟩:=h;exact bi hc (λ_=>run_val h1) h
      · obtain⟨w1,h1,h⟩:=h;exact bi hc (λ_=>run_val h1) h
      · exact h.elim
    case value f=>
      obtain⟨fv,hf,h⟩:=onV_some h;unfold callXF CallX at h
      have iv:∀{g:Fn}{fi ca:Array Value}{x:Next}{w1:World},fv=.func g fi ca→(invoke (.fn g ca) (fi++args.toArray)).run P w=.ok x w1→(do let d ← resolve a.eval c o.type;invoke d.target d.args:Sem Next).run P w=.ok x w1:=by
        rintro g fi ca x w1 rfl hi;simp only[resolve,hc,hr.ev hf,Deferred.ofValue,Sem.run_bind,Sem.run_pure,Result.andThen_ok,hr.evsA hargs,hi]
      split at h
      · rename_i g fi ca
        have ea:fi++args.toArray++ca=(fi.toList++args++ca.toList).toArray:=by
          apply gQ.1;simp
        split at h
        · rename_i fn hfn
          split at h
          · rename_i cd hb
            rw[iv rfl (by simp only[invoke,ea,call_run hN hfn hb];rfl),Oper.uponIn_enter];refine⟨λhd=>by simp[W_depth]at hd,(callsIn_W h.run).mono ?_⟩;intro e w' he;obtain⟨v,rfl,hk⟩:=exT_some he;exact hK _ _ hk _ (λu hu=>by cases hu;rfl)
          · obtain⟨v,w1,h1,he⟩:=h.run
            rw[iv rfl (by simp only[invoke,ea,h1];rfl)];obtain⟨v',hv',hk⟩:=exT_some he;cases hv';exact hK _ _ hk _ (λu hu=>by cases hu;rfl)
        · exact h.elim
      · rename_i l fi ca
        split at h
        · rename_i hfi hca
          obtain rfl:=arr_nil hfi;obtain rfl:=arr_nil hca;obtain⟨fn',tm,as1,bd,hy,hro⟩:=h.run rd (n-1);rw[iv rfl (by simp only[invoke,Array.empty_append,hy];rfl),Oper.uponIn_round];refine⟨λhd=>by simp[W_depth]at hd,hro.mono ?_⟩;intro e w' he;obtain⟨v,rfl,hk⟩:=exT_some he;exact hK _ _ hk _ (λu hu=>by cases hu;rfl)
        · exact h.elim
      · exact h.elim
end
theorem again_out{bef:Nat->Nat->Bool}{j:Nat}:∀{p:Past}{w:World}{X:Prop},again bef j p w X->X
 | [],w,X,h=>h
 |(i,f)::p,w,X,h=>by
  simp only[again]at h;split at h
  ·exact again_out h
  ·exact again_out h.2
theorem again_iff{bef:Nat->Nat->Bool}{j:Nat}:∀{p:Past}{w:World}{X:Prop},again bef j p w X↔(∀x∈p,bef x.1 j=false->x.2 w)/\X
 | [],w,X=>by simp[again]
 |(i,f)::p,w,X=>by
  simp only[again];split
  ·rename_i a;rw[again_iff];simp[a]
  ·rename_i a;rw[again_iff];simp[a,and_assoc]
def spl_iff{a:Bool}{v:Value}{K:Value->Prop}:spl a v K↔K v:=by
 unfold spl;split
 ·rename_i b;cases b<;>simp[br]
 ·rfl
section
variable{wr:Bool}{P:Program}{bef:Nat->Nat->Bool}{ops:List Oper}{nt:Nat}{ds:List Deferred}{fr:Fr}{rd:Option Nat}{n:Nat}
def pure_defer{o:Oper}{K:Value->Prop}(h:pureV wr P fr o K):∀c,o.op≠.defer c:=by
 intro c a;simp[pureV,a]at h
def read_defer{o:Oper}{w:World}{v:Value}(h:readV P fr o w v):∀c,o.op≠.defer c:=by
 intro c a;simp[readV,a]at h
def exec_upon(r:NoNum P){i:Nat}{o:Oper}{w:World}{e:Past}{K:Option Value->World->Past->Prop}(h:execV wr P bef ops i o fr w e K){a:Act}(m:Ref nt ds fr a)
  {next:Act->World->Prop} {Q:Exit->Act->World->Prop} (l:∀p w' b,K p w' b->∀v:Value,(∀u,p=some u->v=u)->next (a.put o.dst v) w'):
  o.wpIn (W rd) n P a w next Q:=by
 refine⟨λf _=>trivial,?_⟩
 have go:∀(d:∀c,o.op≠.defer c),o.uponIn (W rd) n P a next Q ((execOp a.eval o).run P w)->o.uponIn (W rd) n P a next Q ((o.semAt (W rd).round a.eval).run P w):=λd h=>by
  rw[Oper.semAt_eq _ _ _ d];exact h
 unfold execV at h;split at h
 ·have d:=pure_defer h;obtain⟨v,h,-,g⟩:=pure_one (nt:=nt) (ds:=ds) h;refine go d ?_;rw[g a m w];exact l _ _ _ (spl_iff.1 h) v (λu q=>by cases q;rfl)
 ·obtain⟨v,j,h⟩:=exT_some h;refine go (read_defer j) ?_;rw[read_run j m];exact l _ _ _ (spl_iff.1 h) v (λu q=>by cases q;rfl)
 ·obtain⟨h,d⟩:=eff_upon (rd:=rd) (next:=next) r h m (λp w' s v j=>by
   have:=again_out s;split at this
   ·exact l _ _ _ (spl_iff.1 this) v j
   ·exact l _ _ _ this v j)
  exact go d h
def wanted_none{o:Oper}(h:o.guard=none)(y:Nat->Option Bool):Region.wanted o y=true:=by simp[Region.wanted,h]
def yielded_of{c:Array Oper}{a:Act}(f:Ref nt ds fr a){j s:Nat}{b:Bool}(d:slotOf c.toList j=some s)(g:fget fr s=some (.bool b)):yielded c a.tmps j=some b:=by
 have h:=f.val s _ g;unfold slotOf at d;split at d
 ·rename_i o i;have e:c[j]? =some o:=by simpa using i
  simp[yielded,e,d,h]
 ·cases d
def yielded_not{b:Array Oper}{a:Act}(e:Ref nt ds fr a){j s:Nat}{vs:Array Value}(c:slotOf b.toList j=some s)(f:fget fr s=some (.tuple vs)):yielded b a.tmps j=none:=by
 have g:=e.val s _ f;unfold slotOf at c;split at c
 ·rename_i o h;have d:b[j]? =some o:=by simpa using h
  simp[yielded,d,c,g]
 ·cases c
def step_upon(q:NoNum P){c:Array Oper}{Q:Exit->Act->World->Prop}{i:Nat}{o:Oper}{rest:LN0}{w:World}{g:Past}{K:Option Value->World->Past->Prop}(B:c.toList[i]? =some o)
  (h:stepD wr P bef c.toList i o fr w g K) {a:Act} (l:Ref nt ds fr a)
  (m:∀z w' e,K z w' e->∀v:Value,(∀u,z=some u->v=u)->wpOpsIn (W rd) n P c Q rest (a.put o.dst v) w'):
  wpOpsIn (W rd) n P c Q (i::rest) a w:=by
 have r:c[i]? =some o:=by simpa using B
 simp only[wpOpsIn,r];unfold stepD at h;split at h
 ·rename_i p;rw[if_pos (wanted_none p _)];exact exec_upon q h l m
 ·rename_i j d p;split at h
  ·exact h.elim
  ·rename_i s A;split at h
   ·rename_i b t;have C:=yielded_of l A t
    have x:Region.wanted o (yielded c a.tmps)=(b==d):=by
     simp[Region.wanted,p,C]
    rw[x];split at h
    ·exact exec_upon q h l m
    ·exact exec_upon q h l m
    ·rename_i D F
     have:(b==d)=false:=by
      cases b<;>cases d<;>simp_all
     rw[this,if_neg (by simp)];exact⟨λf _=>trivial,m _ _ _ h undef (λu y=>by cases y;rfl)⟩
   ·rename_i G t
    have x:Region.wanted o (yielded c a.tmps)=false:=by
     simp[Region.wanted,p,yielded_not l A t]
    rw[x,if_neg (by simp)];exact⟨λf _=>trivial,m _ _ _ h undef (λu y=>by cases y;rfl)⟩
   ·exact h.elim
theorem run_upon(g:NoNum P){c:Array Oper}{Q:Exit->Act->World->Prop}{K:Fr->World->Prop}(j:∀fr w a,K fr w->Ref nt ds fr a->Q .normal a w):
  ∀(σ:LN0)(fr:Fr)(w:World)(b:Past)(a:Act),runV wr P nt bef c.toList K σ fr w b->Ref nt ds fr a->wpOpsIn (W rd) n P c Q σ a w
 | [],fr,w,b,a,h,hr=>j _ _ _ h hr
 |i::r,fr,w,b,a,h,hr=>by
  simp only[runV]at h;split at h
  ·exact h.elim
  ·rename_i o l;refine step_upon g l h hr λq s d e v m=>?_;obtain⟨p,e,f⟩:=hr.fput m e;exact run_upon g j r _ _ _ _ e f
end
section
variable{wr:Bool}{P:Program}{ops:List Oper}{fr fr':Fr}
theorem evs_congr:∀{l:List Operand},(∀x∈l,ev fr x=ev fr' x)->evs fr l=evs fr' l
 | [],_=>rfl
 |x::r,h=>by
  simp only[evs];rw[h x (by simp),evs_congr (λy a=>h y (by simp[a]))]
theorem parts_congr:∀{l:List (Nat×Operand)},(∀x∈l,ev fr x.2=ev fr' x.2)->partsOf fr l=partsOf fr' l
 | [],_=>rfl
 |(i,x)::r,h=>by
  simp only[partsOf];rw[h (i,x) (by simp),parts_congr (λy a=>h y (by simp[a]))]
theorem opI_congr{x:Option Operand}(h:∀y∈x.toArray,ev fr y=ev fr' y)(k:Option Int->Prop):opI fr x k=opI fr' x k:=by
 cases x with
 |none=>rfl
 |some o=>simp only[opI];rw[h o (by simp)]
def args_congr{c:Call}(h:∀x∈(Op.call c).operands,ev fr x=ev fr' x):∀x∈c.args.toList,ev fr x=ev fr' x:=λx a=>h x (by simp[Op.operands,Call.operands];exact .inr (by simpa using a))
theorem pure_congr{o:Oper}(h:∀x∈o.op.operands,ev fr x=ev fr' x)(K:Value->Prop):pureV wr P fr o K=pureV wr P fr' o K:=by
 cases hop:o.op<;>simp only[pureV,hop]<;>rw[hop]at h
 case build t ps=>rw[parts_congr (λx d=>h x.2 (by simp[Op.operands];exact⟨x.1,nN.1 d⟩))]
 case makeFunc fn a b=>rw[evs_congr (λx d=>h x (by simp[Op.operands]at d⊢;exact .inl d)),evs_congr (λx d=>h x (by simp[Op.operands]at d⊢;exact .inr d))]
 case slice t x lo hi mx=>
  have e:∀{y:Option Operand},(∀z∈y.toArray,z∈(Op.slice t x lo hi mx).operands)->∀k,opI fr y k=opI fr' y k:=λg=>opI_congr λz j=>h z (g z j);rw[h x (by simp[Op.operands])];congr 1;funext v;simp only[sliceV];rw[e (by simp+contextual [Op.operands])];congr 1;funext l;rw[e (by simp+contextual [Op.operands])];congr 1;funext i;rw[e (by simp+contextual [Op.operands])]
 case call c=>
  have f:=args_congr h
  split<;>first
   |rfl
   |(rename_i d;rw[d]at f;simp at f;simp only[f])
 all_goals (simp[Op.operands]at h;simp only[h])
theorem read_congr{o:Oper}(h:∀x∈o.op.operands,ev fr x=ev fr' x)(w:World)(v:Value):readV P fr o w v=readV P fr' o w v:=by
 cases hop:o.op<;>simp only[readV,hop]<;>rw[hop]at h
 case call c=>
  have a:=args_congr h
  split<;>first
   |rfl
   |(rename_i b;rw[b]at a;simp at a;simp only[a])
 all_goals (simp[Op.operands]at h;simp only[h])
theorem eff_congr{o:Oper}(h:∀x∈o.op.operands,ev fr x=ev fr' x)(w:World)(K:Option Value->World->Prop):effV P ops fr o w K=effV P ops fr' o w K:=by
 cases hop:o.op<;>simp only[effV,hop]<;>rw[hop]at h
 case buildSlice t n ps=>rw[parts_congr (λx a=>h x.2 (by simp[Op.operands];exact⟨x.1,nN.1 a⟩))]
 case makeMap t r=>cases r<;>rfl
 case call c=>
  rw[evs_congr (args_congr h)];cases hc:c.callee with
  |value f=>simp only[h f (by simp[Op.operands,Call.operands,hc])]
  |_=>rfl
 all_goals (simp[Op.operands]at h;simp only[h])
end
section
variable{P:Program}{ops:List Oper}{fr:Fr}
def callX_both{f:Value}{args:LV}{w:World}{R g:EW}(c:∀e w',R e w'->g e w')(h:CallX P f args w R):CallX P f args w g/\∃e w',R e w':=by
 unfold CallX at h⊢;split at h
 ·split at h
  ·split at h
   ·obtain⟨e,w',fr',d,_⟩:=h.run [];exact⟨⟨Calls.mono h.run c⟩,_,_,d⟩
   ·obtain⟨v,p,d,i⟩:=h.run;exact⟨⟨⟨v,p,d,c _ _ i⟩⟩,_,_,i⟩
  ·exact h.elim
 ·split at h
  ·refine⟨⟨λrd n=>?_⟩,?_⟩
   ·obtain⟨j,l,b,m,o,a⟩:=h.run rd n;exact⟨j,l,b,m,o,a.mono c⟩
   ·obtain⟨j,l,b,m,o,a⟩:=h.run none 0;obtain⟨e,w',h,_⟩:=a.2 default [] (by simp[Fence.room,W,Fence.wide]);exact⟨_,_,h⟩
  ·exact h.elim
 ·exact h.elim
def callX_mono{a:Value}{args:LV}{w:World}{R b:EW}(c:∀e w',R e w'->b e w')(h:CallX P a args w R):CallX P a args w b:=(callX_both c h).1
def Mn(F:(Option Value->World->Prop)->Prop):Prop:=∀K K':Option Value->World->Prop,(∀rv w,K rv w->K' rv w)->F K->F K'/\∃rv w,K rv w
def Mn.k{X:Prop}{v:Option Value}{w:World}:Mn λK=>X/\K v w:=λ_ _ a h=>⟨⟨h.1,a _ _ h.2⟩,_,_,h.2⟩
def Mn.ex{α:Type}{F:α->(Option Value->World->Prop)->Prop}(h:∀x,Mn (F x)):Mn λK=>∃x,F x K:=λK a b ⟨x,c⟩=>⟨⟨x,(h x K a b c).1⟩,(h x K a b c).2⟩
def Mn.or{F G:(Option Value->World->Prop)->Prop}(h:Mn F)(c:Mn G):Mn λK=>F K\/G K:=λK a b=>Or.rec (λx=>⟨.inl (h K a b x).1,(h K a b x).2⟩) λx=>⟨.inr (c K a b x).1,(c K a b x).2⟩
def Mn.new{v:Nat->Option Value}{w:World}{o:Obj}:Mn λK=>∀b w1,New w o b w1->K (v b) w1:=λ_ _ a h=>⟨λb w1 c=>a _ _ (h b w1 c),_,_,h _ _ ⟨rfl,rfl⟩⟩
theorem Mn.onO{α:Type}{x:Option α}{F:α->(Option Value->World->Prop)->Prop}(h:∀x,Mn (F x)):Mn λK=>Vc.onO x λv=>F v K:=by
 cases x with
 |none=>exact λ_ _ _ h=>h.elim
 |some v=>exact h v
def Mn.onPt{x:Option Value}{F:Addr->(Option Value->World->Prop)->Prop}(h:∀x,Mn (F x)):Mn λK=>Vc.onPt x λv=>F v K:=by
 intro K c d b;obtain⟨a,rfl,b⟩:=onPt_some b;exact h a K c d b
def Mn.exO{T:Option TypeId}{F:Value->(Option Value->World->Prop)->Prop}(h:∀x,Mn (F x)):Mn λK=>Vc.exO P T λv=>F v K:=by
 intro K b c a;obtain⟨v,a,d⟩:=exO_one a;exact⟨d _ (h v K b c a).1,(h v K b c a).2⟩
def Mn.callXF{b:Value}{args:LV}{t:TypeId}{w:World}:Mn (callXF P b args t w):=by
 intro K c d h;obtain⟨f,e,a,h⟩:=callX_both (λe a h=>exT_mono (C':=λv=>e=eE0 v/\c (some v) a) (λv h=>⟨h.1,d _ _ h.2⟩) h) h;obtain⟨v,-,h⟩:=exT_some h;exact⟨f,_,_,h⟩
theorem eff_mn{o:Oper}{w:World}:Mn (effV P ops fr o w):=by
 show Mn λK=>effV P ops fr o w K;cases hop:o.op<;>simp only[effV,hop]<;>try exact λ_ _ _ h=>h.elim
 case makeMap t r=>
  cases r with
  |none=>exact .new
  |some _=>exact λ_ _ _ h=>h.elim
 case call c=>
  refine .onO λe=>?_;intro K g d h;cases hc:c.callee<;>simp only[hc]at h⊢ <;>try exact h.elim
  case value f=>exact Mn.onO (λ_=>.callXF) K g d h
  case builtin b=>
   unfold biE at h⊢
   split at h<;>first
    |exact h.elim
    |(obtain⟨_,_,_,_,a,h⟩:=h;exact⟨⟨_,_,_,_,a,d _ _ h⟩,_,_,h⟩)
    |(obtain⟨_,_,a,h⟩:=h;exact⟨⟨_,_,a,d _ _ h⟩,_,_,h⟩)
    |(obtain⟨_,a,h⟩:=h;exact⟨⟨_,a,d _ _ h⟩,_,_,h⟩)
 all_goals
  try simp only[forceB_one]
  repeat' first
   |exact .new
   |exact .k
   |refine .onO λ_=>?_
   |refine .onPt λ_=>?_
   |refine .exO λ_=>?_
   |refine .or ?_ ?_
   |refine .ex λ_=>?_
def eff_mono{o:Oper}{w:World}{K a:Option Value->World->Prop}(c:∀b w',K b w'->a b w')(h:effV P ops fr o w K):effV P ops fr o w a:=(eff_mn K a c h).1
def eff_some{o:Oper}{w:World}{K:Option Value->World->Prop}(h:effV P ops fr o w K):∃a w',K a w':=(eff_mn K K (λ_ _ h=>h) h).2
end
section
variable{wr:Bool}{P:Program}{bef:Nat->Nat->Bool}{ops:List Oper}{nt:Nat}{ds:List Deferred}{fr fr':Fr}
def Agree(ops:List Oper)(o:Oper)(fr fr':Fr):Prop:=
 (∀t∈opTs o.op,fget fr t=fget fr' t)/\∀j want s,o.guard=some (j,want)->slotOf ops j=some s->fget fr s=fget fr' s
theorem Agree.ev{o:Oper}(h:Agree ops o fr fr'):∀x∈o.op.operands,Vc.ev fr x=Vc.ev fr' x:=by
 intro x a;cases x with
 |tmp t=>
  exact h.1 t (by simp only[opTs,jX];exact⟨_,by simpa using a,rfl⟩)
 |_=>rfl
def exec_congr{i:Nat}{o:Oper}(h:∀x∈o.op.operands,ev fr x=ev fr' x)(w:World)(a:Past)(K:Option Value->World->Past->Prop):
  execV wr P bef ops i o fr w a K=execV wr P bef ops i o fr' w a K:=by
 unfold execV;split
 ·exact pure_congr h _
 ·congr 1;funext v;rw[read_congr h w v];have:(λb=>readV P fr o b v)=(λb=>readV P fr' o b v):=funext λb=>read_congr h b v;rw[this]
 ·exact eff_congr h _ _
theorem step_congr{i:Nat}{o:Oper}(h:Agree ops o fr fr')(w:World)(a:Past)(K:Option Value->World->Past->Prop):
  stepD wr P bef ops i o fr w a K=stepD wr P bef ops i o fr' w a K:=by
 unfold stepD;split
 ·exact exec_congr h.ev _ _ _
 ·rename_i j b c;cases hs:slotOf ops j with
  |none=>rfl
  |some s=>
   simp only;rw[h.2 j b s c hs];split
   ·split
    ·exact exec_congr h.ev _ _ _
    ·exact exec_congr h.ev _ _ _
    ·rfl
   ·rfl
   ·rfl
theorem rv_iff{b:Bool}{a:Option Value}{K:Option Value->Prop}:(match a with
  |some v=>spl b v λv=>K (some v)
  |none=>K none)↔K a:=by
 cases a with
 |none=>rfl
 |some v=>exact spl_iff
def exec_mono{i:Nat}{o:Oper}{w:World}{b a:Past}{K f:Option Value->World->Past->Prop}(c:∀e∈a,e∈b)
  (g:∀v w' p l,(∀e∈l,e∈p)->K v w' p->f v w' l) (h:execV wr P bef ops i o fr w b K):execV wr P bef ops i o fr w a f:=by
 unfold execV at h⊢;split at h
 ·obtain⟨v,h,j,-⟩:=pure_one (nt:=0) (ds:=[]) h;exact j _ (spl_iff.2 (g _ _ _ _ c (spl_iff.1 h)))
 ·exact exT_mono (λv h=>⟨h.1,spl_iff.2 (g _ _ _ _ (λe m=>by
   simp at m⊢;exact m.imp id (c e)) (spl_iff.1 h.2))⟩) h
 ·refine eff_mono (λd w' h=>?_) h;rw[again_iff]at h⊢;refine⟨λx q j=>h.1 x (c x q) j,?_⟩;have r:=(rv_iff (K:=λd=>K d w' b)).1 h.2;exact(rv_iff (K:=λd=>f d w' a)).2 (g _ _ _ _ c r)
def step_mono{i:Nat}{o:Oper}{w:World}{b a:Past}{K f:Option Value->World->Past->Prop}(c:∀e∈a,e∈b)
  (d:∀v w' p g,(∀e∈g,e∈p)->K v w' p->f v w' g) (h:stepD wr P bef ops i o fr w b K):stepD wr P bef ops i o fr w a f:=by
 unfold stepD at h⊢;split at h
 ·exact exec_mono c d h
 ·split at h
  ·exact h.elim
  ·split at h
   ·split at h
    ·exact exec_mono c d h
    ·exact exec_mono c d h
    ·exact d _ _ _ _ c h
   ·exact d _ _ _ _ c h
   ·exact h.elim
def step_cases{i:Nat}{o:Oper}{w:World}{d:Past}{K:Option Value->World->Past->Prop}{a:Act}(C:Ref nt ds fr a)(h:stepD wr P bef ops i o fr w d K):
  (∃v,K v w d/\(∀w' p (c:Option Value->World->Past->Prop),c v w' p->stepD wr P bef ops i o fr w' p c)/\
   ∀w' p (c:Option Value->World->Past->Prop),stepD wr P bef ops i o fr w' p c->c v w' p)\/
  (cls P o.op=1/\∃v,readV P fr o w v/\K (some v) w ((i,λw'=>readV P fr o w' v)::d)/\
   ∀w' p (c:Option Value->World->Past->Prop),readV P fr o w' v->c (some v) w' ((i,λw'=>readV P fr o w' v)::p)->stepD wr P bef ops i o fr w' p c)\/
  (cls P o.op≠0/\cls P o.op≠1/\∀w' p (c:Option Value->World->Past->Prop),stepD wr P bef ops i o fr w' p c↔effV P ops fr o w' λl g=>again bef i p g (c l g p)):=by
 have ex:(∀w' p (c:Option Value->World->Past->Prop),stepD wr P bef ops i o fr w' p c=execV wr P bef ops i o fr w' p c)->execV wr P bef ops i o fr w d K->
   (∃v,K v w d/\(∀w' p (c:Option Value->World->Past->Prop),c v w' p->stepD wr P bef ops i o fr w' p c)/\
   ∀w' p (c:Option Value->World->Past->Prop),stepD wr P bef ops i o fr w' p c->c v w' p)\/
  (cls P o.op=1/\∃v,readV P fr o w v/\K (some v) w ((i,λw'=>readV P fr o w' v)::d)/\
   ∀w' p (c:Option Value->World->Past->Prop),readV P fr o w' v->c (some v) w' ((i,λw'=>readV P fr o w' v)::p)->stepD wr P bef ops i o fr w' p c)\/
  (cls P o.op≠0/\cls P o.op≠1/\∀w' p (c:Option Value->World->Past->Prop),stepD wr P bef ops i o fr w' p c↔effV P ops fr o w' λl g=>again bef i p g (c l g p)):=by
  intro e h;simp only[e];unfold execV at h;split at h
  ·rename_i x;left;obtain⟨v,h,z,y⟩:=pure_one (nt:=nt) (ds:=ds) h;refine⟨some v,spl_iff.1 h,λw' p c f=>?_,λw' p c f=>?_⟩
   ·unfold execV;simp only[x];exact z _ (spl_iff.2 f)
   ·unfold execV at f;simp only[x]at f;obtain⟨M,J,-,r⟩:=pure_one (nt:=nt) (ds:=ds) f;have D:=y a C w;rw[r a C w]at D;cases D;exact spl_iff.1 J
  ·rename_i x;right;left;obtain⟨v,⟨L,h⟩,z⟩:=exT_one h;refine⟨x,v,L,spl_iff.1 h,λw' p c A f=>?_⟩;unfold execV;simp only[x];exact z _ ⟨A,spl_iff.2 f⟩
  ·rename_i B F;right;right;refine⟨B,F,λw' p c=>?_⟩;unfold execV;split
   ·exact absurd (by assumption) B
   ·exact absurd (by assumption) F
   ·constructor<;>refine eff_mono (λl g h=>?_)
    ·rw[again_iff]at h⊢;exact⟨h.1,(rv_iff (K:=λl=>c l g p)).1 h.2⟩
    ·rw[again_iff]at h⊢;exact⟨h.1,(rv_iff (K:=λl=>c l g p)).2 h.2⟩
 have B:=h;unfold stepD at h;split at h
 ·rename_i m;exact ex (λw' p c=>by unfold stepD;simp only[m]) h
 ·rename_i j q m;split at h
  ·exact h.elim
  ·rename_i s u;split at h
   ·rename_i b t;split at h
    ·exact ex (λw' p c=>by unfold stepD;simp only[m,u,t]) h
    ·exact ex (λw' p c=>by unfold stepD;simp only[m,u,t]) h
    ·rename_i G H;left;refine⟨some (.tuple #[]),h,λw' p c f=>?_,λw' p c f=>?_⟩
     ·unfold stepD;simp only[m,u,t];cases b<;>cases q<;>first|exact absurd rfl (G rfl)|exact absurd rfl (H rfl)|exact f
     ·unfold stepD at f;simp only[m,u,t]at f;cases b<;>cases q<;>first|exact absurd rfl (G rfl)|exact absurd rfl (H rfl)|exact f
   ·rename_i N t;left;refine⟨some (.tuple #[]),h,λw' p c f=>?_,λw' p c f=>?_⟩
    ·unfold stepD;simp only[m,u,t];exact f
    ·unfold stepD at f;simp only[m,u,t]at f;exact f
   ·exact h.elim
def put(fr:Fr)(d:Option Nat)(v:Option Value):Fr:=match d with
 |some d=>(d,v)::fr
 |none=>fr
def Fits(nt:Nat)(d:Option Nat):Prop:=∀x,d=some x->x<nt
theorem fput_iff{d:Option Nat}{v:Option Value}{k:Fr->Prop}:fput nt fr d v k↔Fits nt d/\k (put fr d v):=by
 cases d with
 |none=>simp[fput,put,Fits]
 |some d=>
  simp only[fput,put,Fits];split
  ·rename_i a;have:d<nt:=by simpa [ou]using a
   simp[this]
  ·rename_i a
   have:¬d<nt:=λb=>by
    have c:Nat.blt d nt=true:=by rw[ou];exact b
    rw[c]at a;cases a
   simp[this]
theorem put_other{d:Option Nat}{v:Option Value}{t:Nat}(h:∀x,d=some x->t≠x):fget (put fr d v) t=fget fr t:=by
 cases d with
 |none=>rfl
 |some d=>exact fget_miss _ _ _ _ (h d rfl)
def Feq(fr fr':Fr):Prop:=∀t,fget fr t=fget fr' t
theorem Feq.put{d:Option Nat}{v:Option Value}(h:Feq fr fr'):Feq (put fr d v) (put fr' d v):=by
 intro t;cases d with
 |none=>exact h t
 |some d=>
  by_cases a:t=d
  ·subst a;simp only[Vc.put,fget_hit]
  ·simp only[Vc.put,fget_miss _ _ _ _ a];exact h t
theorem put_swap{d a:Option Nat}{v e:Option Value}(h:∀x y,d=some x->a=some y->x≠y):Feq (put (put fr d v) a e) (put (put fr a e) d v):=by
 intro t;cases d with
 |none=>rfl
 |some d=>cases a with
  |none=>rfl
  |some a=>
   have:=h d a rfl rfl;simp only[put];by_cases b:t=d
   ·subst b;rw[fget_miss _ _ _ _ this,fget_hit,fget_hit]
   ·by_cases c:t=a
    ·subst c;rw[fget_hit,fget_miss _ _ _ _ b,fget_hit]
    ·rw[fget_miss _ _ _ _ c,fget_miss _ _ _ _ b,fget_miss _ _ _ _ b,fget_miss _ _ _ _ c]
def Feq.agree{o:Oper}(h:Feq fr fr'):Agree ops o fr fr':=⟨λt _=>h t,λj a s _ _=>h s⟩
structure Apart(ops:List Oper)(a b:Oper):Prop where
 dst:∀x y,a.dst=some x->b.dst=some y->x≠y
 left:∀y,b.dst=some y->(∀t∈opTs a.op,t≠y)/\∀k want s,a.guard=some (k,want)->slotOf ops k=some s->s≠y
 right:∀x,a.dst=some x->(∀t∈opTs b.op,t≠x)/\∀k want s,b.guard=some (k,want)->slotOf ops k=some s->s≠x
def Apart.agreeL{a b:Oper}(h:Apart ops a b)(v:Option Value):Agree ops a (put fr b.dst v) fr:=
 ⟨λt e=>put_other λy d=>(h.left y d).1 t e,λk c s f g=>put_other λy d=>(h.left y d).2 k c s f g⟩
def Apart.agreeR{a b:Oper}(h:Apart ops a b)(v:Option Value):Agree ops b (put fr a.dst v) fr:=
 ⟨λt e=>put_other λy d=>(h.right y d).1 t e,λk c s f g=>put_other λy d=>(h.right y d).2 k c s f g⟩
theorem apart_of{i j:Nat}{a b:Oper}(A:ops[i]? =some a)(B:ops[j]? =some b)(h:apartB ops i j=true):Apart ops a b:=by
 have f:∀{o:Oper}{x:Nat},(match o.guard with
   |some (k,_)=>match slotOf ops k with
    |some s=> !(s==x)
    |none=>true
   |none=>true)=true->∀k m s,o.guard=some (k,m)->slotOf ops k=some s->s≠x:=by
  intro o x h k m s C D;simp only[C,D]at h;simpa using h
 simp only[apartB,A,B]at h;split at h
 ·rename_i x y l g;simp only[dJ]at h;obtain⟨⟨⟨⟨F,z⟩,p⟩,G⟩,w⟩:=h;refine⟨λq r d c=>?_,λr c=>?_,λq d=>?_⟩
  ·rw[l]at d;rw[g]at c;cases d;cases c;simpa using F
  ·rw[g]at c;cases c;exact⟨λt u e=>by subst e;simp at z;exact z u,f G⟩
  ·rw[l]at d;cases d;exact⟨λt u e=>by subst e;simp at p;exact p u,f w⟩
 ·rename_i x l g;simp only[dJ]at h;obtain⟨p,w⟩:=h;refine⟨λq r d c=>(by rw[g]at c;cases c),λr c=>(by rw[g]at c;cases c),λq d=>?_⟩;rw[l]at d;cases d;exact⟨λt u e=>by subst e;simp at p;exact p u,f w⟩
 ·rename_i y l g;simp only[dJ]at h;obtain⟨p,w⟩:=h;refine⟨λq r d c=>(by rw[l]at d;cases d),λr c=>?_,λq d=>(by rw[l]at d;cases d)⟩;rw[g]at c;cases c;exact⟨λt u e=>by subst e;simp at p;exact p u,f w⟩
 ·rename_i l g;refine⟨λq r d c=>(by rw[g]at c;cases c),λr c=>(by rw[g]at c;cases c),λq d=>(by rw[l]at d;cases d)⟩
def turn{i x:Nat}{j l:Oper}{w:World}{y:Past}{a:Act}(O:Ref nt ds fr a)(A:Apart ops j l)(hb:bef i x=false)
  (hc:cls P j.op=0\/cls P l.op=0\/cls P j.op=1)
  {F:Fr->World->Past->Prop} (hF:∀f f' w p B,Feq f f'->(∀e∈B,e∈p)->F f w p->F f' w B)
  (h:stepD wr P bef ops i j fr w y λq w1 r=>Fits nt j.dst/\stepD wr P bef ops x l (put fr j.dst q) w1 r λd R T=>Fits nt l.dst/\F (put (put fr j.dst q) l.dst d) R T):
  stepD wr P bef ops x l fr w y λd w1 r=>Fits nt l.dst/\stepD wr P bef ops i j (put fr l.dst d) w1 r λq R T=>Fits nt j.dst/\F (put (put fr l.dst d) j.dst q) R T:=by
 have eR:∀q w1 r K,stepD wr P bef ops x l (put fr j.dst q) w1 r K=stepD wr P bef ops x l fr w1 r K:=λq w1 r K=>step_congr (A.agreeR q) _ _ _;have eL:∀d w1 r K,stepD wr P bef ops i j (put fr l.dst d) w1 r K=stepD wr P bef ops i j fr w1 r K:=λd w1 r K=>step_congr (A.agreeL d) _ _ _;simp only[eR]at h;simp only[eL]
 have s:∀q d w p B,(∀e∈B,e∈p)->F (put (put fr j.dst q) l.dst d) w p->F (put (put fr l.dst d) j.dst q) w B:=
  λq d w p B U h=>hF _ _ _ _ _ (put_swap A.dst) U h
 rcases step_cases O h with⟨q,⟨m,H⟩,t,-⟩|⟨aa,q,J,⟨m,H⟩,t⟩|⟨h0,X,z⟩
 ·exact step_mono (λe b=>b) (λd w1 p B U g=>⟨g.1,t _ _ _ ⟨m,s _ _ _ _ _ U g.2⟩⟩) H
 ·rcases step_cases O H with⟨d,⟨o,g⟩,c,-⟩|⟨C,d,L,⟨o,g⟩,c⟩|⟨M,ab,D⟩
  ·exact c _ _ _ ⟨o,t _ _ _ J ⟨m,s _ _ _ _ _ (λe b=>b) g⟩⟩
  ·exact c _ _ _ L ⟨o,t _ _ _ J ⟨m,s _ _ _ _ _ (λe b=>by
    simp only[aP]at b⊢;rcases b with b|b|b
    ·exact .inr (.inl b)
    ·exact .inl b
    ·exact .inr (.inr b)) g⟩⟩
  ·rw[D]at H⊢;refine eff_mono (λrv Y g=>?_) H;rw[again_iff]at g⊢;obtain⟨u,o,g⟩:=g;refine⟨λe b Z=>u e (jM _ b) Z,o,?_⟩;have G:=u _ (fD ..) hb;exact t _ _ _ G ⟨m,s _ _ _ _ _ (λe b=>b) g⟩
 ·have hx:cls P l.op=0:=by
   rcases hc with h|h|h
   ·exact absurd h h0
   ·exact h
   ·exact absurd h X
  rw[z]at h;obtain⟨ac,w0,hs⟩:=eff_some h;have hs:=(again_iff.1 hs).2.2;rcases step_cases O hs with⟨d,⟨o,-⟩,c,N⟩|⟨C,-⟩|⟨M,-⟩
  ·refine c _ _ _ ⟨o,?_⟩;rw[z];refine eff_mono (λrv Y g=>?_) h;rw[again_iff]at g⊢;obtain⟨u,m,g⟩:=g;have h3:=N _ _ _ g;exact⟨u,m,s _ _ _ _ _ (λe b=>b) h3.2⟩
  ·rw[hx]at C;cases C
  ·exact absurd hx M
theorem runV_cons{K:Fr->World->Prop}{i:Nat}{r:LN0}{w:World}{a:Past}:runV wr P nt bef ops K (i::r) fr w a↔
  ∃o,ops[i]? =some o/\stepD wr P bef ops i o fr w a λv w' b=>Fits nt o.dst/\runV wr P nt bef ops K r (put fr o.dst v) w' b:=by
 simp only[runV,fput_iff];cases ops[i]? with
 |none=>simp
 |some o=>simp
theorem run_weak{K:Fr->World->Prop}(b:∀f c w,Feq f c->K f w->K c w):∀(σ:LN0)(fr fr':Fr)(w:World)(p a:Past),Feq fr fr'->(∀e∈a,e∈p)->runV wr P nt bef ops K σ fr w p->runV wr P nt bef ops K σ fr' w a
 | [],fr,fr',w,p,a,hf,hp,h=>b _ _ _ hf h
 |i::r,fr,fr',w,p,a,hf,hp,h=>by
  rw[runV_cons]at h⊢;obtain⟨o,d,h⟩:=h;refine⟨o,d,?_⟩;rw[step_congr (fr':=fr') hf.agree]at h;exact step_mono hp (λv j q l g h=>⟨h.1,run_weak b r _ _ _ _ _ hf.put g h.2⟩) h
structure Turns(P:Program)(bef:Nat->Nat->Bool)(ops:List Oper)(i x:Nat):Prop where
 bef:bef i x=false
 apart:∀a b,ops[i]? =some a->ops[x]? =some b->Apart ops a b
 cls:∀a b,ops[i]? =some a->ops[x]? =some b->cls P a.op=0\/Vc.cls P b.op=0\/Vc.cls P a.op=1
theorem Ref.has{a:Act}(b:Ref nt ds fr a){d:Option Nat}(c:Fits nt d)(v:Option Value):∃a,Ref nt ds (Vc.put fr d v) a:=by
 cases d with
 |none=>exact⟨a,b⟩
 |some d=>
  cases v with
  |some v=>exact⟨_,b.put (c d rfl) v⟩
  |none=>exact⟨_,b.lose (some d) undef d rfl⟩
theorem pull{K:Fr->World->Prop}(A:∀f J w,Feq f J->K f w->K J w){x:Nat}{σ2:LN0}:∀(σ1:LN0)(fr:Fr)(w:World)(b:Past)(a:Act),Ref nt ds fr a->(∀i∈σ1,Turns P bef ops i x)->
  runV wr P nt bef ops K (σ1++x::σ2) fr w b->runV wr P nt bef ops K (x::(σ1++σ2)) fr w b
 | [],fr,w,b,a,G,ht,h=>h
 |i::r,fr,w,b,a,G,ht,h=>by
  rw[aC,runV_cons]at h;obtain⟨d,g,h⟩:=h;have L:∀j∈r,Turns P bef ops j x:=λj U=>ht j (jM _ U);have l:=ht i (fD ..)
  have H:stepD wr P bef ops i d fr w b λv u m=>Fits nt d.dst/\runV wr P nt bef ops K (x::(r++σ2)) (put fr d.dst v) u m:=
   step_mono (λe B=>B) (λv u p m s h=>by
    obtain⟨y,h⟩:=h;obtain⟨X,M⟩:=G.has y v;exact⟨y,run_weak A _ _ _ _ _ _ (λt=>rfl) s (pull A r _ _ _ X M L h)⟩) h
  have c:∃z,ops[x]? =some z:=by
   rcases step_cases G H with⟨v,h,-⟩|⟨-,v,-,h,-⟩|⟨-,-,C⟩
   ·exact(runV_cons.1 h.2).elim λo h=>⟨o,h.1⟩
   ·exact(runV_cons.1 h.2).elim λo h=>⟨o,h.1⟩
   ·rw[C]at H;obtain⟨rv,u,h⟩:=eff_some H;exact(runV_cons.1 (again_iff.1 h).2.2).elim λo h=>⟨o,h.1⟩
  obtain⟨z,c⟩:=c
  have Y:stepD wr P bef ops i d fr w b λv u m=>Fits nt d.dst/\stepD wr P bef ops x z (put fr d.dst v) u m λN O Z=>Fits nt z.dst/\runV wr P nt bef ops K (r++σ2) (put (put fr d.dst v) z.dst N) O Z:=
   step_mono (λe B=>B) (λv u p m s h=>by
    obtain⟨y,h⟩:=h;obtain⟨o',D,h⟩:=runV_cons.1 h;rw[c]at D;cases D;exact⟨y,step_mono s (λN O q q' R h=>⟨h.1,run_weak A _ _ _ _ _ _ (λt=>rfl) R h.2⟩) h⟩) H
  have h4:=turn G (l.apart _ _ g c) l.bef (l.cls _ _ g c)
   (F:=λf w p=>runV wr P nt bef ops K (r++σ2) f w p) (λf J w p m y s h=>run_weak A _ _ _ _ _ _ y s h) Y
  rw[runV_cons];refine⟨z,c,step_mono (λe B=>B) (λN w1 p m s h=>?_) h4⟩;obtain⟨T,h⟩:=h;refine⟨T,?_⟩;rw[aC,runV_cons];exact⟨d,g,step_mono s (λv O q q' R h=>⟨h.1,run_weak A _ _ _ _ _ _ (λt=>rfl) R h.2⟩) h⟩
end
def posIn_cons(x y:Nat)(r:LN0):posIn x (y::r)=if x=y then 0 else posIn x r+1:=by
 simp only[posIn];split<;>rename_i h
 ·rw[if_pos (dW h)]
 ·rw[if_neg λe=>by subst e;simp at h]
theorem posIn_lt{x:Nat}:∀{l:LN0},x∈l->posIn x l<l.length
 |y::r,h=>by
  rw[posIn_cons];split
  ·simp
  ·exact Nat.succ_lt_succ (posIn_lt ((aP.1 h).resolve_left ‹_›))
theorem pos_pw:∀{l:LN0},l.Nodup->l.Pairwise λa b=>posIn a l<posIn b l
 | [],_=>.nil
 |x::r,h=>by
  have f:=(bM.1 h).1;have c:∀{y},y∈r->y≠x:=λd e=>f (e▸d);refine .cons (λy d=>?_) ((pos_pw (bM.1 h).2).imp_of_mem λg i j=>?_)
  ·rw[posIn_cons,posIn_cons,if_pos rfl,if_neg (c d)];omega
  ·rw[posIn_cons,posIn_cons,if_neg (c g),if_neg (c i)];omega
theorem go_spec(m:Region.Mode)(ops:Array Oper)(σ:LN0)(hσ:forward m ops.toList σ=true):∀(fuel t:Nat)(listed:Array Bool)(acc:LN0),listed.size=ops.size->
  (listed.toList.filter (! ·)).length=fuel->
  ∃L,Region.linearise.go m ops fuel t listed acc=acc.reverse++L/\(∀i:Nat,i∈L↔listed[i]? =some false)/\L.Nodup/\
   ∀i∈L,∀o,ops[i]? =some o->∀e∈edgesIn m o,listed[e]? =some true\/posIn e L<posIn i L
 |0,t,listed,acc,hs,hf=>by
  refine⟨[],by simp[Region.linearise.go],λi=>?_,lH,λi h=>by cases h⟩;simp only[iU,false_iff];intro h
  have:false∈listed.toList:=by
   rw[bG]at h;obtain⟨h1,h2⟩:=h;rw[<- h2];simp
  have h2:false∈listed.toList.filter (! ·):=dO.2 ⟨this,rfl⟩;rw[List.length_eq_zero_iff]at hf;rw[hf]at h2;cases h2
 |fuel+1,t,listed,acc,hs,hf=>by
  have hex:∃i:Nat,listed[i]? =some false:=by
   have:(listed.toList.filter (! ·))≠[]:=by intro e;rw[e]at hf;simp at hf
   obtain⟨b,hb⟩:=List.exists_mem_of_ne_nil _ this;rw[dO]at hb;obtain⟨h1,h2⟩:=hb;obtain⟨i,hi⟩:=ay h1;refine⟨i,?_⟩;rw[jG]at hi;rw[hi];simpa using h2
  have hfree:∀(k i:Nat),listed[i]? =some false->posIn i σ<=k->∃j:Nat,listed[j]? =some false/\∀o,ops[j]? =some o->∀e∈edgesIn m o,listed[e]? =some true:=by
   intro k
   induction k using Nat.strongRecOn with
   |_ k ih=>
    intro i hi hk;by_cases hw:∀o,ops[i]? =some o->∀e∈edgesIn m o,listed[e]? =some true
    ·exact⟨i,hi,hw⟩
    ·simp only[Classical.not_forall]at hw;obtain⟨o,ho,e,he,hne⟩:=hw
     have hilt:i<ops.toList.length:=by
      have:=(bG.1 ho).1;simpa using this
     have hall:=fJ.1 hσ i (dh.2 hilt);have ho':ops.toList[i]? =some o:=by simpa using ho
     simp only[ho']at hall;have h2:=fJ.1 hall e he;simp only[dJ,decide_eq_true_eq]at h2
     have hef:listed[e]? =some false:=by
      have hlt:e<listed.size:=by rw[hs];simpa using h2.1
      rw[eG hlt]at hne⊢;cases hl:listed[e]with
      |true=>exact absurd (by rw[hl]) hne
      |false=>rfl
     exact ih (posIn e σ) om e hef (aZ _)
  obtain⟨i0,hi0⟩:=hex;obtain⟨j0,hj0,hj0'⟩:=hfree _ i0 hi0 (aZ _)
  have hrs:∀i:Nat,i∈((List.range ops.size).filter λi=> !listed.getD i true&&((ops[i]?).map (·.after.all λe=> !Region.binds m e||listed.getD e.on false)).getD false)↔
    listed[i]? =some false/\∀o,ops[i]? =some o->∀e∈edgesIn m o,listed[e]? =some true:=by
   intro i;rw[dO,dh];constructor
   ·rintro⟨hlt,h⟩;simp only[dJ]at h;obtain⟨h1,h2⟩:=h;have hlt':i<listed.size:=om;refine⟨?_,λo ho e he=>?_⟩
    ·rw[eG hlt'];rw[fG,eG hlt']at h1;simp at h1;rw[h1]
    ·rw[ho]at h2;simp only[dF,fB]at h2;simp only[edgesIn,aT,dO]at he;obtain⟨ed,⟨he1,he2⟩,rfl⟩:=he;have:=oG.1 h2 ed (by simpa using he1);simp only[he2,ni,kZ]at this;rw[fG]at this;cases hx:listed[ed.on]? with
     |none=>rw[hx]at this;simp at this
     |some b=>rw[hx]at this;simp at this;rw[this]
   ·rintro⟨h1,h2⟩;have hlt:i<ops.size:=by rw[<- hs];exact(bG.1 h1).1
    refine⟨hlt,?_⟩;simp only[dJ];refine⟨by rw[fG,h1];rfl,?_⟩;rw[eG hlt];simp only[dF,fB];refine oG.2 λed hed=>?_;cases hb:Region.binds m ed with
    |false=>rfl
    |true=>
     have:=h2 _ (eG hlt) ed.on (by
      simp only[edgesIn,aT,dO];exact⟨ed,⟨by simpa using hed,hb⟩,rfl⟩)
     rw[fG,this];rfl
  simp only[Region.linearise.go];generalize hR:((List.range ops.size).filter λi=> !listed.getD i true&&((ops[i]?).map (·.after.all λe=> !Region.binds m e||listed.getD e.on false)).getD false)=rs at hrs
  have hne:rs≠[]:=λe=>by
   have:=(hrs j0).2 ⟨hj0,hj0'⟩;rw[e]at this;cases this
  have hlen:t%rs.length<rs.length:=Nat.mod_lt _ (eH.2 hne);rw[aB hlen];simp only;have him:rs[t%rs.length]∈rs:=dw hlen;generalize rs[t%rs.length]=i at him;obtain⟨hi,hie⟩:=(hrs i).1 him;have hilt:i<listed.size:=(bG.1 hi).1
  have hcount:((listed.setIfInBounds i true).toList.filter (! ·)).length=fuel:=by
   rw[Array.toList_setIfInBounds];have h1:listed.toList[i]? =some false:=by rw[jG];exact hi
   have key:∀(l:List Bool)(i:Nat),l[i]? =some false->((l.set i true).filter (! ·)).length+1=(l.filter (! ·)).length:=by
    intro l
    induction l with
    |nil=>intro i h;simp at h
    |cons b l ih=>
     intro i h;cases i with
     |zero=>simp at h;subst h;simp
     |succ i=>
      simp only[bJ]at h;have:=ih i h;cases b<;>simp[bZ,dL]<;>omega
   have:=key _ _ h1;omega
  obtain⟨L,e1,e2,e3,e4⟩:=go_spec m ops σ hσ fuel (t/rs.length) (listed.setIfInBounds i true) (i::acc) (by simpa using hs) hcount
  have hget:∀k:Nat,(listed.setIfInBounds i true)[k]? =if i=k then some true else listed[k]? :=by
   intro k;rw[df];split
   ·first|rfl|rw[if_pos hilt]
   ·rfl
  refine⟨i::L,by rw[e1];simp,λk=>?_,?_,?_⟩
  ·rw[aP,e2,hget];by_cases hk:i=k
   ·subst hk;simp[hi]
   ·rw[if_neg hk];simp[Ne.symm hk]
  ·refine bM.2 ⟨λh=>?_,e3⟩;rw[e2,hget,if_pos rfl]at h;cases h
  ·intro k hk o ho e he;rw[posIn_cons,posIn_cons];by_cases hki:k=i
   ·subst hki;exact .inl (hie o ho e he)
   ·rw[if_neg hki];rcases e4 k ((aP.1 hk).resolve_left hki) o ho e he with h|h
    ·rw[hget]at h;split at h
     ·rw[if_pos (Eq.symm ‹_›)];exact .inr om
     ·exact .inl h
    ·exact .inr (by split<;>omega)
structure Lists(m:Region.Mode)(ops:Array Oper)(τ:LN0):Prop where
 mem:∀i,i∈τ↔i<ops.size
 nodup:τ.Nodup
 edge:∀i o,ops[i]? =some o->∀e∈edgesIn m o,posIn e τ<posIn i τ
def lists_of{m:Region.Mode}{ops:Array Oper}{σ:LN0}(c:forward m ops.toList σ=true)(t:Nat):Lists m ops (Region.linearise m ops t):=by
 obtain⟨L,d,f,g,j⟩:=go_spec m ops σ c ops.size t (Array.replicate ops.size false) [] (by simp) (by simp);have e:Region.linearise m ops t=L:=by simpa [Region.linearise]using d
 rw[e]
 have a:∀i,i∈L↔i<ops.size:=λi=>by
  rw[f,mD];split<;>simp_all
 refine⟨a,g,λi o b e l=>(j i ((a i).2 (bG.1 b).1) o b e l).resolve_left λh=>?_⟩;rw[mD]at h;split at h<;>cases h
def any_of_mode{m:Region.Mode}{o:Oper}{e:Nat}(h:e∈edgesIn .any o):e∈edgesIn m o:=by
 simp only[edgesIn,aT,dO]at h⊢;obtain⟨b,⟨c,a⟩,rfl⟩:=h;refine⟨b,⟨c,?_⟩,rfl⟩;simp only[Region.binds]at a⊢;split at a<;>first|rfl|cases a
def Good(τ:LN0)(cl:LN0):Prop:=∀i j,before cl i j=true->posIn j τ<τ.length->posIn i τ<posIn j τ
theorem bits_mem(f g:Nat->Nat):∀(l:LN0)(s i:Nat),Nat.testBit (l.foldl (λs e=>Nat.lor s (Nat.lor (Nat.pow 2 e) (Nat.lor (f e) (g e)))) s) i=true->
  Nat.testBit s i=true\/∃e∈l,i=e\/Nat.testBit (f e) i=true\/Nat.testBit (g e) i=true
 | [],s,i,h=>.inl h
 |e::r,s,i,h=>by
  rw[dP]at h;rcases bits_mem f g r _ i h with h|⟨b,a,h⟩
  ·have h:Nat.testBit (s|||(2^e|||(f e|||g e))) i=true:=h;rw[nO,nO,nO]at h;simp at h;rcases h with h|h|h|h
   ·exact .inl h
   ·rw[Nat.testBit_two_pow]at h;exact .inr ⟨e,fD ..,.inl (of_decide_eq_true h).symm⟩
   ·exact .inr ⟨e,fD ..,.inr (.inl h)⟩
   ·exact .inr ⟨e,fD ..,.inr (.inr h)⟩
  ·exact .inr ⟨b,jM _ a,h⟩
def good_nil(τ:LN0):Good τ []:=by
 intro i j h;simp[before,getN]at h
theorem good_pass{m:Region.Mode}{ops:Array Oper}{τ:LN0}(A:Lists m ops τ){ex:List (Nat×Nat)}(q:∀p∈ex,posIn p.1 τ<posIn p.2 τ){b:LN0}(B:Good τ b):
  Good τ (passM ex b ops.toList):=by
 have t:∀(l done:List Oper)(a:LN0),ops.toList=done++l->a.length=done.length->Good τ a->
   Good τ (l.foldl (λa o=>a++[(edgesX ex a.length o).foldl (λs e=>Nat.lor s (Nat.lor (Nat.pow 2 e) (Nat.lor (getN a e) (getN b e)))) 0]) a):=by
  intro l
  induction l with
  |nil=>exact λdone a _ _ h=>h
  |cons o r C=>
   intro done a y c z;rw[dP];refine C (done++[o]) _ (by rw[y];simp) (by simp[c]) ?_;intro i j d D;simp only[before,getN]at d;by_cases F:j<a.length
   ·rw[bW F]at d;exact z i j d D
   ·by_cases u:j=a.length
    ·subst u;rw[bg (aZ _)]at d;simp only[iE,dH,fB]at d;rcases bits_mem _ _ _ _ _ d with h|⟨e,g,h⟩
     ·simp at h
     ·have f:posIn e τ<posIn a.length τ:=by
       simp only[edgesX,aW,aT,dO]at g;rcases g with g|⟨p,⟨w,x⟩,rfl⟩
       ·refine A.edge _ o ?_ e (any_of_mode ?_)
        ·have:ops.toList[a.length]? =some o:=by rw[y,c];simp
         simpa using this
        ·simpa [edgesIn,edges]using g
       ·exact dW x▸q p w
      rcases h with rfl|h|h
      ·exact f
      ·exact Nat.lt_trans (z i e h om) f
      ·exact Nat.lt_trans (B i e h om) f
    ·rw[bF (by simp;omega)]at d;simp at d
 exact t ops.toList [] [] rfl rfl (good_nil τ)
def good_closure{m:Region.Mode}{ops:Array Oper}{τ:LN0}(b:Lists m ops τ){ex:List (Nat×Nat)}(a:∀p∈ex,posIn p.1 τ<posIn p.2 τ):Good τ (closure ex ops.toList):=by
 unfold closure;split
 ·exact good_pass b (λp c=>by cases c) (good_nil τ)
 ·exact good_pass b a (good_pass b a (good_pass b a (good_nil τ)))
theorem remove_erase(x:Nat):∀l:LN0,remove x l=l.erase x
 | []=>rfl
 |y::r=>by
  rw[List.erase_cons];simp only[remove,remove_erase x r];split
  ·rename_i h;rw[if_pos (by simpa using(dW h).symm)]
  ·rename_i h;have a:¬y=x:=λe=>by subst e;simp at h
   rw[if_neg (by simpa using a)]
theorem exts_mem{e:LN0}:∀(n:Nat)(l d:LN0),l.length=n->d.Perm l->(∀x∈l,before e x x=false)->d.Pairwise (λx y=>before e y x=false)->d∈extsOf e n l
 |0,l,d,hn,a,hx,hr=>by
  obtain rfl:=bC hn;obtain rfl:=a.eq_nil;simp[extsOf]
 |n+1,l,[],hn,a,hx,hr=>by rw[<- a.length_eq]at hn;cases hn
 |n+1,l,x::r,hn,a,hx,hr=>by
  obtain⟨b,f⟩:=List.cons_perm_iff_perm_erase.1 a;obtain⟨g,i⟩:=bH.1 hr;simp only[extsOf,gq,dO,aT];refine⟨x,⟨b,fJ.2 λy c=>?_⟩,r,exts_mem n _ r ?_ ?_ (λy c=>hx y ?_) i,rfl⟩
  ·rcases aP.1 (a.mem_iff.2 c)with rfl|h
   ·rw[hx y c];rfl
   ·rw[g y h];rfl
  ·rw[remove_erase,kF b];omega
  ·rw[remove_erase];exact f
  ·rw[remove_erase]at c;exact List.mem_of_mem_erase c
theorem chain_pw{R:Nat->Nat->Prop}:∀{b:LN0},b.Pairwise R->∀q∈chainOf b,R q.1 q.2
 |x::y::r,h,q,a=>by
  rcases aP.1 a with rfl|a
  ·exact(bH.1 h).1 y (fD ..)
  ·exact chain_pw (bH.1 h).2 q a
 | [x],h,q,a=>by cases a
 | [],h,q,a=>by cases a
theorem turners_mem{P:Program}:∀(l:List Oper)(k i:Nat),i∈turners P l k↔k<=i/\∃o,l[i-k]? =some o/\cls P o.op≠0/\cls P o.op≠1
 | [],k,i=>by simp[turners]
 |o::r,k,i=>by
  have h:=turners_mem (P:=P) r (k+1) i
  have b:(k+1<=i/\∃o,r[i-(k+1)]? =some o/\cls P o.op≠0/\cls P o.op≠1)↔(k<=i/\i≠k/\∃d,(o::r)[i-k]? =some d/\cls P d.op≠0/\cls P d.op≠1):=by
   constructor
   ·rintro⟨c,m⟩;refine⟨om,om,?_⟩;rw[show i-k=(i-(k+1))+1 by omega];simpa using m
   ·rintro⟨c,m,a⟩;refine⟨om,?_⟩;rw[show i-k=(i-(k+1))+1 by omega]at a;simpa using a
  simp only[turners];split
  ·rename_i j;rw[h,b];constructor
   ·rintro⟨c,_,a⟩;exact⟨c,a⟩
   ·rintro⟨c,d,a,g⟩;refine⟨c,λe=>?_,d,a,g⟩;subst e;simp at a;subst a;exact g.1 j
  ·rename_i j;rw[h,b];constructor
   ·rintro⟨c,_,a⟩;exact⟨c,a⟩
   ·rintro⟨c,d,a,g⟩;refine⟨c,λe=>?_,d,a,g⟩;subst e;simp at a;subst a;exact g.2 j
  ·rename_i p c;rw[aP,h,b];constructor
   ·rintro(rfl|⟨f,_,a⟩)
    ·exact⟨aZ _,o,by simp,p,c⟩
    ·exact⟨f,a⟩
   ·rintro⟨f,a⟩;by_cases e:i=k
    ·exact .inl e
    ·exact .inr ⟨f,e,a⟩
theorem turners_nodup{P:Program}:∀(l:List Oper)(k:Nat),(turners P l k).Nodup
 | [],k=>lH
 |o::r,k=>by
  have a:=turners_nodup (P:=P) r (k+1);simp only[turners];split
  ·exact a
  ·exact a
  ·refine bM.2 ⟨λh=>?_,a⟩;rw[turners_mem]at h;omega
theorem pairs_of{f:Nat->Nat->Bool}:∀{σ:LN0},pairsOk f σ=true->σ.Pairwise (λi j=>f i j=true)
 | [],_=>List.Pairwise.nil
 |i::r,h=>by
  simp only[pairsOk,dJ]at h;exact List.Pairwise.cons (λj a=>fJ.1 h.1 j a) (pairs_of h.2)
theorem nodup_of:∀{σ:LN0},nodupB σ=true->σ.Nodup
 | [],_=>lH
 |i::r,h=>by
  simp only[nodupB,dJ]at h;exact bM.2 ⟨by simpa using h.1,nodup_of h.2⟩
section
variable{wr:Bool}{P:Program}{nt:Nat}{ds:List Deferred}{rd:Option Nat}{n:Nat}
theorem Ref.putv{fr:Fr}{a:Act}(b:Ref nt ds fr a){d:Option Nat}(e:Fits nt d){c:Option Value}{v:Value}(f:∀u,c=some u->v=u):Ref nt ds (Vc.put fr d c) (a.put d v):=by
 cases d with
 |none=>exact b
 |some d=>
  cases c with
  |some u=>cases f u rfl;exact b.put (e d rfl) v
  |none=>exact b.lose (some d) v d rfl
theorem draw_run(s:NoNum P){c:Array Oper}{Q:Exit->Act->World->Prop}{K:Fr->World->Prop}(t:∀f u w,Feq f u->K f w->K u w)(y:∀fr w a,K fr w->Ref nt ds fr a->Q .normal a w):
  ∀(cl τ σ:LN0)(fr:Fr)(w:World)(d:Past)(a:Act),σ.Perm τ->τ.Pairwise (λx i=>before cl i x=false)->σ.Pairwise (λi j=>turnOk P c.toList cl i j=true)->
   runV wr P nt (before cl) c.toList K σ fr w d->Ref nt ds fr a->wpOpsIn (W rd) n P c Q τ a w
 |cl,[],σ,fr,w,d,a,hs,hresp,hp,h,hr=>by
  obtain rfl:=hs.eq_nil;exact y _ _ _ h hr
 |cl,x::τ',σ,fr,w,d,a,hs,hresp,hp,h,hr=>by
  obtain⟨σ1,σ2,rfl⟩:=fO (hs.mem_iff.2 (fD ..));have l:=(bI.symm.trans hs).cons_inv
  have e:∀i∈σ1,Turns P (before cl) c.toList i x:=by
   intro i z;have A:before cl i x=false:=(bH.1 hresp).1 i (l.mem_iff.1 (aS _ z));have m:=(fK.1 hp).2.2 i z x (fD ..);simp only[turnOk,A,kZ,dJ]at m;obtain⟨⟨-,p⟩,q⟩:=m;refine⟨A,λa b r g=>apart_of r g p,λa b r g=>?_⟩;simp only[r,g]at q;split at q
   ·left;assumption
   ·right;left;assumption
   ·right;right;assumption
   ·cases q
  have C:=pull t σ1 fr w d a hr e h;obtain⟨o,D,F⟩:=runV_cons.1 C;refine step_upon s D F hr λH J L B v G=>?_;exact draw_run s t y cl τ' (σ1++σ2) _ _ _ _ l (bH.1 hresp).2 (hp.sublist ((jY x σ2).append_left σ1)) B.2 (hr.putv B.1 G)
theorem drawAll_mem{f:LN0->Prop}:∀{l:List (LN0)}{x:LN0},x∈l->drawAll f l->f x
 | [y],x,a,h=>by
  simp at a;subst a;exact h
 |y::z::r,x,a,h=>by
  rcases aP.1 a with rfl|a
  ·exact h.1
  ·exact drawAll_mem a h.2
def oneV(wr:Bool)(P:Program)(nt:Nat)(opsA:Array Oper)(K:Fr->World->Prop)(fr:Fr)(w:World)(eo:LN0):Prop:=
 match closure (chainOf eo) opsA.toList with
 |cl=>match orderOf P opsA.toList cl (List.range opsA.toList.length) opsA.toList.length 0 with
  |σ=>match drawOk P opsA cl σ with
   |true=>runV wr P nt (before cl) opsA.toList K σ fr w []
   |false=>False
def oneV_mono{a:Array Oper}{K b:Fr->World->Prop}{fr:Fr}{w:World}{c:LN0}
  (e:∀d σ,runV wr P nt (before d) a.toList K σ fr w []->runV wr P nt (before d) a.toList b σ fr w []) (h:oneV wr P nt a K fr w c):oneV wr P nt a b fr w c:=by
 simp only[oneV]at h⊢;split at h
 ·exact e _ _ h
 ·exact h.elim
theorem drawAll_mono{f g:LN0->Prop}(a:∀x,f x->g x):∀{l:List (LN0)},drawAll f l->drawAll g l
 | [],h=>h
 | [x],h=>a x h
 |x::y::r,h=>⟨a x h.1,drawAll_mono a h.2⟩
theorem draw_upon(hN:NoNum P){opsA:Array Oper}{Q:Exit->Act->World->Prop}{K:Fr->World->Prop}(hK:∀f f' w,Feq f f'->K f w->K f' w)(hQ:∀fr w a,K fr w->Ref nt ds fr a->Q .normal a w)
  {fr:Fr} {w:World} {a:Act} (hbase:drawBase opsA=true)
  (h:drawAll (oneV wr P nt opsA K fr w) (extsOf (closure [] opsA.toList) (turners P opsA.toList 0).length (turners P opsA.toList 0))) (hr:Ref nt ds fr a) (mixed:Bool) (t:Nat):
  wpOpsIn (W rd) n P opsA Q (Region.schedule mixed opsA t) a w:=by
 simp only[drawBase,dJ]at hbase;obtain⟨hfa,hdep⟩:=hbase
 have hlists:∃m,Lists m opsA (Region.schedule mixed opsA t):=by
  simp only[Region.schedule];split
  ·exact⟨_,lists_of hfa t⟩
  ·rename_i hc
   have hd:Region.departs opsA=true:=by
    cases hd:Region.departs opsA with
    |true=>rfl
    |false=>rw[hd]at hc;simp at hc
   simp only[hd,ni,kZ,dJ]at hdep;split
   ·exact⟨_,lists_of hdep.1 _⟩
   ·exact⟨_,lists_of hdep.2 _⟩
 obtain⟨m,hl⟩:=hlists;generalize Region.schedule mixed opsA t=τ at hl⊢
 let p:Nat->Bool:=λi=>(turners P opsA.toList 0).contains i
 have hgood0:=good_closure (ex:=[]) hl (λq hq=>by cases hq)
 have hself:∀cl,Good τ cl->∀x∈τ,before cl x x=false:=λcl hg x hx=>
  oM.2 λhb=>Nat.lt_irrefl _ (hg x x hb (posIn_lt hx))
 have hresp:∀cl,Good τ cl->τ.Pairwise λx i=>before cl i x=false:=λcl hg=>
  (pos_pw hl.nodup).imp_of_mem λha hb hlt=>oM.2 λh=>Nat.lt_asymm hlt (hg _ _ h (posIn_lt ha))
 have htm:∀x,x∈turners P opsA.toList 0->x∈τ:=by
  intro x hx;rw[turners_mem]at hx;obtain⟨-,o,ho,-⟩:=hx;rw[hl.mem];have:=(aA.1 ho).1;simpa using this
 have hmem:τ.filter p∈extsOf (closure [] opsA.toList) (turners P opsA.toList 0).length (turners P opsA.toList 0):=by
  refine exts_mem _ _ _ rfl ((jE (hl.nodup.filter p) (turners_nodup _ _)).2 λx=>?_) (λx hx=>hself _ hgood0 x (htm x hx)) ((hresp _ hgood0).filter p);rw[dO];constructor
  ·rintro⟨-,h2⟩;simpa [p]using h2
  ·intro hx;exact⟨htm x hx,by simpa [p]using hx⟩
 have h1:=drawAll_mem hmem h;have hgood:=good_closure (ex:=chainOf (τ.filter p)) hl (chain_pw ((pos_pw hl.nodup).filter p));simp only[oneV]at h1;split at h1
 ·rename_i hok;simp only[drawOk,dJ,decide_eq_true_eq]at hok;obtain⟨⟨⟨hlen,hnd⟩,hall⟩,hpairs⟩:=hok;have hs:=nodup_of hnd;refine draw_run hN hK hQ _ _ _ fr w [] a ((jE hs hl.nodup).2 λi=>?_) (hresp _ hgood) (pairs_of hpairs) h1 hr;have hall:∀k∈_,k<opsA.toList.length:=λk hk=>of_decide_eq_true (fJ.1 hall k hk);rw[hl.mem,<- bP];refine⟨hall i,λhi=>az λhn=>?_⟩
  have:=(bM.2 ⟨hn,hs⟩).length_le_of_subset (l₂:=List.range opsA.toList.length) λk hk=>dh.2 (by
   rcases aP.1 hk with rfl|h
   ·exact hi
   ·exact hall k h)
  rw[aK,fZ]at this;omega
 ·exact h1.elim
end
def Keep(ms:LN0)(fr fr':Fr):Prop:=∀t,t∉ms->fget fr' t=fget fr t
def Keep.refl(c:LN0)(fr:Fr):Keep c fr fr:=λ_ _=>rfl
def Keep.trans{d:LN0}{a b c:Fr}(h:Keep d a b)(f:Keep d b c):Keep d a c:=λt e=>(f t e).trans (h t e)
def Keep.more{d c:LN0}{a b:Fr}(h:Keep d a b)(e:∀t∈d,t∈c):Keep c a b:=λt f=>h t λg=>f (e t g)
theorem opsMods_mem{ops:List Oper}{o:Oper}{d:Nat}(h:o∈ops)(e:o.dst=some d):d∈opsMods ops:=by
 induction ops with
 |nil=>cases h
 |cons x r c=>
  simp only[opsMods];rcases aP.1 h with rfl|h
  ·rw[e];exact fD ..
  ·cases x.dst with
   |none=>exact c h
   |some _=>exact jM _ (c h)
section
variable{wr:Bool}{P:Program}{bef:Nat->Nat->Bool}{ops:List Oper}{nt:Nat}{ds:List Deferred}
theorem run_past{K:Fr->World->Prop}:∀(σ:LN0)(fr:Fr)(w:World)(p c:Past),(∀e∈c,e∈p)->runV wr P nt bef ops K σ fr w p->runV wr P nt bef ops K σ fr w c
 | [],fr,w,p,c,hp,h=>h
 |i::r,fr,w,p,c,hp,h=>by
  rw[runV_cons]at h⊢;obtain⟨o,d,h⟩:=h;exact⟨o,d,step_mono hp (λv g q j f h=>⟨h.1,run_past r _ _ _ _ f h.2⟩) h⟩
theorem run_keep{K d:Fr->World->Prop}:∀(σ:LN0)(fr:Fr)(w:World)(p:Past),runV wr P nt bef ops K σ fr w p->(∀fr' w',K fr' w'->Keep (opsMods ops) fr fr'->d fr' w')->runV wr P nt bef ops d σ fr w p
 | [],fr,w,p,h,hk=>hk _ _ h (Keep.refl _ _)
 |i::r,fr,w,p,h,hk=>by
  rw[runV_cons]at h⊢;obtain⟨o,f,h⟩:=h;refine⟨o,f,step_mono (λe g=>g) (λv w' q u j h=>⟨h.1,?_⟩) h⟩;refine run_keep r _ _ _ (run_past r _ _ _ _ j h.2) λfr' l m c=>hk _ _ m ?_;refine Keep.trans ?_ c;intro t n;exact put_other λx s e=>n (e▸opsMods_mem (aG f) s)
end
theorem from_to{k:Kd}{v:Value}{s:KTy k}(h:fromV k v=some s):v=toV k s:=by
 cases k with
 |inl k=>
  cases v<;>simp only[fromV]at h<;>try cases h
  split at h
  ·rename_i c;have c:=of_decide_eq_true c;cases h;subst c;rfl
  ·cases h
 |inr n=>
  rcases n with _|_|_|_|_|n
  ·cases v<;>first|(cases h;rfl)|cases h
  ·cases v<;>first|(cases h;rfl)|cases h
  ·cases v<;>first|(cases h;rfl)|cases h
  ·cases v<;>first|(cases h;rfl)|cases h
  ·cases v<;>first|(cases h;rfl)|cases h
  ·have d:(some v:Option (KTy (.inr (n+5))))=some s:=by cases v<;>exact h
   exact Option.some.inj d
theorem getSt_some:∀{st:List (Nat×Kd)}{fr:Fr}{K:StTy st->Prop},getSt st fr K->∃s,K s/\∀d t v,fget (setSt st s d) t=some v->fget fr t=some v\/(t∉st.map (·.1)/\fget d t=some v)
 | [],fr,K,h=>⟨(),h,λd t v e=>.inr ⟨by simp,e⟩⟩
 | [x],fr,K,h=>by
  simp only[getSt]at h;split at h
  ·rename_i u g;split at h
   ·rename_i s i;refine⟨s,h,λd t v e=>?_⟩;simp only[setSt]at e;by_cases c:t=x.1
    ·subst c;rw[fget_hit]at e;cases e;left;rw[g,from_to i]
    ·rw[fget_miss _ _ _ _ c]at e;exact .inr ⟨by simpa using c,e⟩
   ·exact h.elim
  ·exact h.elim
 |x::y::r,fr,K,h=>by
  simp only[getSt]at h;split at h
  ·rename_i u g;split at h
   ·rename_i s i;obtain⟨l,h,f⟩:=getSt_some (st:=y::r) h;refine⟨(s,l),h,λd t v e=>?_⟩;simp only[setSt]at e;by_cases c:t=x.1
    ·subst c;rw[fget_hit]at e;cases e;left;rw[g,from_to i]
    ·rw[fget_miss _ _ _ _ c]at e;rcases f d t v e with j|⟨j,m⟩
     ·exact .inl j
     ·exact .inr ⟨by simpa [c]using j,m⟩
   ·exact h.elim
  ·exact h.elim
theorem setSt_other:∀{st:List (Nat×Kd)}{s:StTy st}{fr:Fr}{t:Nat},t∉st.map (·.1)->fget (setSt st s fr) t=fget fr t
 | [],s,fr,t,h=>rfl
 | [x],s,fr,t,h=>by
  simp at h;exact fget_miss _ _ _ _ h
 |x::y::r,s,fr,t,h=>by
  simp only[setSt];simp at h;rw[fget_miss _ _ _ _ h.1];exact setSt_other (st:=y::r) (by simp[h.2.1];simpa using h.2.2)
theorem havoc_in:∀{d:LN0}{fr:Fr}{t:Nat},t∈d->fget (havoc d fr) t=none
 |x::r,fr,t,h=>by
  simp only[havoc];by_cases c:t=x
  ·subst c;exact fget_hit ..
  ·rw[fget_miss _ _ _ _ c];exact havoc_in ((aP.1 h).resolve_left c)
theorem havoc_out:∀{c:LN0}{fr:Fr}{t:Nat},t∉c->fget (havoc c fr) t=fget fr t
 | [],fr,t,h=>rfl
 |x::r,fr,t,h=>by
  simp only[havoc];simp at h;rw[fget_miss _ _ _ _ h.1];exact havoc_out h.2
theorem stOk_mem:∀{st:List (Nat×Kd)}{d:LN0},stOk st d=true->∀t∈st.map (·.1),t∈d
 | [],d,h,t,c=>by cases c
 |x::r,d,h,t,c=>by
  simp only[stOk,dJ]at h;rcases aP.1 c with rfl|c
  ·simpa using h.1
  ·exact stOk_mem h.2 t c
def keep_set{st:List (Nat×Kd)}{c:LN0}(d:stOk st c=true)(s:StTy st)(fr:Fr):Keep c fr (setSt st s (havoc c fr)):=by
 intro t e;rw[setSt_other λh=>e (stOk_mem d t h),havoc_out e]
section
variable{P:Program}{nt:Nat}{ds:List Deferred}
def ref_set{st:List (Nat×Kd)}{d:LN0}(j:stOk st d=true){fr fr':Fr}{a:Act}(e:Ref nt ds fr' a)(l:Keep d fr fr'){K:StTy st->Prop}(h:getSt st fr' K):
  ∃s,K s/\Ref nt ds (setSt st s (havoc d fr)) a:=by
 obtain⟨s,h,c⟩:=getSt_some h;refine⟨s,h,e.size,e.defers,λt v m=>?_⟩;rcases c _ t v m with i|⟨i,f⟩
 ·exact e.val t v i
 ·by_cases g:t∈d
  ·rw[havoc_in g]at f;cases f
  ·rw[havoc_out g]at f;exact e.val t v (by rw[l t g,f])
def and_true{a b:Bool}(h:(a&&b)=true):a=true/\b=true:=by simpa using h
theorem exists_least{p:Nat->Prop}(h:∃n,p n):∃n,p n/\∀m,m<n->¬p m:=by
 obtain⟨n,d⟩:=h
 induction n using Nat.strongRecOn with
 |_ n e=>
  by_cases c:∃m,m<n/\p m
  ·obtain⟨m,f,g⟩:=c;exact e m f g
  ·exact⟨n,d,λm i j=>c ⟨m,i,j⟩⟩
theorem wpIn_loop_n{F:Fence}{n:Nat}{c:Code}{Q:Exit->Act->World->Prop}(I:Nat->Act->World->Prop){a:Act}{w:World}(o:∃m,I m a w)
  (d:∀m a w,I m a w->c.wpIn F n P (Exit.then (λa' w'=>∃f,f<m/\I f a' w') Q) a w):(Code.loop c).wpIn F n P Q a w:=by
 classical
 let μ:Act->World->Nat:=λa w=>if h:∃m,I m a w then Classical.choose (exists_least h)else 0
 have j:∀a w,(∃m,I m a w)->I (μ a w) a w/\∀m,m<μ a w->¬I m a w:=by
  intro a w h;simp only[μ,dif_pos h];exact Classical.choose_spec (exists_least h)
 refine wpIn_loop (λa w=>∃m,I m a w) μ o λa w h=>?_;refine wpIn_mono (d _ _ _ (j a w h).1) λe a' w' l=>?_;cases e with
 |normal=>
  obtain⟨f,p,i⟩:=l;refine⟨⟨f,i⟩,?_⟩;have q:=(j a' w' ⟨f,i⟩).2;have:¬f<μ a' w':=λg=>q f g i;omega
 |_=>exact l
section
variable{b:Frame}{a:Act}{k:List Item}{cs:List Frame}{w:World}
def stepR_scope{c:Code}:step P (lone (b.atR a (.code (.scope c)::k)) cs w)=.next (lone (b.atR a (.code c::.inScope c::k)) cs w):=
 step_lone_go (by simp[stepG,stepG.exec,Frame.atR])
def stepR_inScope{c:Code}:step P (lone (b.atR a (.inScope c::k)) cs w)=.next (lone (b.atR a k) cs w):=
 step_lone_go (by simp[stepG,stepG.exec,Frame.atR])
end
theorem wpIn_scope{F:Fence}{n:Nat}{c:Code}{Q:Exit->Act->World->Prop}{a:Act}{w:World}(h:c.wpIn F n P (Exit.noGoto Q) a w):(Code.scope c).wpIn F n P Q a w:=by
 intro b k cs m o p;obtain⟨e,f,j,g,d⟩:=h b (.inScope c::k) cs m o p;have i:StepsIn (Machine.fenced P F) P (lone (b.atR a (.code (.scope c)::k)) cs w) (lone (b.atR a (.code c::.inScope c::k)) cs w):=.one (fenced_calm (fr:=b.atR a (.code (.scope c)::k)) o p rfl) stepR_scope;cases e with
 |normal=>exact⟨.normal,f,j,g,StepsIn.trans i (StepsIn.trans d (.one (fenced_calm (fr:=b.atR f (.inScope c::k)) o p rfl) stepR_inScope))⟩
 |exit id=>
  refine⟨.exit id,f,j,g,λq r=>StepsIn.trans i (d.1 q (by simpa [exitTo]using r)),λs t=>?_⟩;obtain⟨u,x,y⟩:=d.2 s (by simpa [exitTo]using t);exact⟨u,x,StepsIn.trans i y⟩
 |goto l=>exact g.elim
 |ret=>exact⟨_,f,j,g,.of_steps i d⟩
 |panic z=>exact⟨_,f,j,g,.of_steps i d⟩
 |outgrown=>exact⟨_,f,j,g,.of_steps i d⟩
def mkM(ms:LN0)(ds:List Deferred):List Deferred:=ms.map (λD=> {target:=.collected D,args:= #[]})++ds
theorem setSt_app:∀(st:List (Nat×Kd))(s:StTy st)(fr:Fr),setSt st s fr=((st.map (·.1)).zip (argsOf st s)).map (λp=>(p.1,some p.2))++fr
 | [],s,fr=>rfl
 | [x],s,fr=>rfl
 |x::y::r,s,fr=>by
  simp only[setSt,argsOf,aj,List.zip_cons_cons,aC];rw[setSt_app (y::r) s.2 fr];rfl
theorem argsOf_len:∀(st:List (Nat×Kd))(s:StTy st),(argsOf st s).length=st.length
 | [],s=>rfl
 | [x],s=>rfl
 |x::y::r,s=>by simp only[argsOf,aK];rw[argsOf_len (y::r) s.2];rfl
theorem fold_get:∀(kv:List (Nat×Value))(c:Array Value)(t:Nat)(v:Value)(fr:Fr),(kv.map (·.1)).Nodup->(∀k∈kv.map (·.1),k<c.size)->fget (kv.map (λp=>(p.1,some p.2))++fr) t=some v->
  ((kv.foldl (λt p=>t.setIfInBounds p.1 p.2) c)[t]? =some v)\/(t∉kv.map (·.1)/\fget fr t=some v/\(kv.foldl (λt p=>t.setIfInBounds p.1 p.2) c)[t]? =c[t]?)
 | [],c,t,v,fr,_,_,h=>.inr ⟨by simp,h,rfl⟩
 |(k,u)::r,c,t,v,fr,e,hk,h=>by
  simp only[aj,bM]at e;simp at h;rw[dP]
  have out:∀(r:List (Nat×Value))(c:Array Value),k∉r.map (·.1)->(r.foldl (λt p=>t.setIfInBounds p.1 p.2) c)[k]? =c[k]? :=by
   intro r
   induction r with
   |nil=>intro c _;rfl
   |cons x q g=>
    intro c f;simp only[aj,aP,not_or]at f;rw[dP,g _ f.2,df,if_neg (Ne.symm f.1)]
  by_cases d:t=k
  ·subst d;rw[fget_hit]at h;cases h;left;rw[out r _ e.1];have:=hk t (by simp);simp[this]
  ·rw[fget_miss _ _ _ _ d]at h;rcases fold_get r (c.setIfInBounds k u) t v fr e.2 (λj i=>by simpa using hk j (by simp[i])) h with h1|⟨h1,h2,h3⟩
   ·exact .inl h1
   ·refine .inr ⟨by simp[d];simpa using h1,h2,?_⟩;rw[h3,df,if_neg (Ne.symm d)]
theorem ref_round{st:List (Nat×Kd)}{c:Array Tmp}{fr:Fr}{a:Act}(i:Ref nt ds fr a)(m:psOk nt st c.toList=true)(s:StTy st):
  (argsOf st s).toArray.size=c.size/\Ref nt [] (setSt st s fr) {tmps:=(c.zip (argsOf st s).toArray).foldl (λt (p,v)=>t.setIfInBounds p v) a.tmps,defers:=[]}:=by
 simp only[psOk,dJ,beq_iff_eq]at m;obtain⟨⟨g,j⟩,u⟩:=m;have j:=nodup_of j;have y:c.size=st.length:=by rw[<- bP,<- g,aQ]
 have d:=argsOf_len st s
 have e:(c.zip (argsOf st s).toArray).toList=(st.map (·.1)).zip (argsOf st s):=by
  rw[Array.toList_zip,g]
 have n:(c.zip (argsOf st s).toArray).foldl (λt (p,v)=>t.setIfInBounds p v) a.tmps=((st.map (·.1)).zip (argsOf st s)).foldl (λt p=>t.setIfInBounds p.1 p.2) a.tmps:=by
  rw[<- oC,e]
 have o:((st.map (·.1)).zip (argsOf st s)).map (·.1)=st.map (·.1):=List.map_fst_zip (by simp[d]);refine⟨by simp[d,y],?_,rfl,?_⟩
 ·show(_:Array Value).size=nt;rw[n]
  have:∀(l:List (Nat×Value))(h:Array Value),(l.foldl (λt p=>t.setIfInBounds p.1 p.2) h).size=h.size:=by
   intro l
   induction l with
   |nil=>intro h;rfl
   |cons x r z=>intro h;rw[dP,z];simp
  rw[this];exact i.size
 ·intro t v q;rw[n];rw[setSt_app]at q
  rcases fold_get _ a.tmps t v fr (by rw[o,g];exact j) (λk f=>by
   rw[o,g]at f;have:=fJ.1 u k f;rw[i.size];exact fE (kU _) (je this)) q with h4|⟨_,h5,h6⟩
  ·exact h4
  ·rw[h6];exact i.val t v h5
theorem V_sound(hN:NoNum P)(an:An):∀(c:Code)(rd:Option Nat)(n:Nat)(ds:List Deferred)(fr:Fr)(ms:LN0)(w:World)(Q:Exit->Fr->LN0->World->Prop)(QA:Exit->Act->World->Prop)(a:Act),
  V P an nt c fr ms w Q->Ref nt (mkM ms ds) fr a->(rd≠none->noRF c=true)->(∀e fr' ms' w' a',Q e fr' ms' w'->Ref nt (mkM ms' ds) fr' a'->Keep (mods c) fr fr'->(noRF c=true->ms'=ms)->QA e a' w')->c.wpIn (W rd) n P QA a w:=by
 intro c
 induction c with
 |skip=>exact λrd n ds fr ms w Q QA a h hr hrd hq=>wpIn_skip (hq _ _ _ _ _ h hr (Keep.refl _ _) λ_=>rfl)
 |region id ops draw=>
  intro rd n ds fr ms w Q QA a h hr hrd hq;simp only[V]at h;split at h
  ·exact wpIn_region (by
    have:=run_upon (rd:=rd) (n:=n) hN (λfr w a h hr=>hq _ _ _ _ _ h.1 hr h.2 λ_=>rfl) _ _ _ _ a (run_keep _ _ _ _ h λ_ _ h hk=>And.intro h hk) hr;simpa using this)
  ·split at h
   ·rename_i hok;refine wpIn_region_draw λt=>?_
    have h2:drawAll (oneV (an.wraps.contains id) P nt ops (λfr' w'=>∀a',Ref nt (mkM ms ds) fr' a'->QA .normal a' w') fr w.drew) (extsOf (closure [] ops.toList) (turners P ops.toList 0).length (turners P ops.toList 0)):=
     drawAll_mono (λeo h=>oneV_mono (λcl σ h=>run_keep _ _ _ _ h λfr' w' h hk a' hr'=>hq _ _ _ _ _ h hr' hk λ_=>rfl) h) h
    exact draw_upon hN (λf f' w hf h a' hr'=>h a' ⟨hr'.size,hr'.defers,λt v ht=>hr'.val t v (by rw[<- hf t];exact ht)⟩)
     (λfr w a h hr=>h a hr) hok h2 hr _ t
   ·exact h.elim
 |seq x y ihx ihy=>
  intro rd n ds fr ms w Q QA a h hr hrd hq;have hrx:rd≠none->noRF x=true:=λh=>(and_true (hrd h)).1;have hry:rd≠none->noRF y=true:=λh=>(and_true (hrd h)).2;have hma:∀t∈mods x,t∈mods (.seq x y):=λt ht=>aS _ ht;have hmb:∀t∈mods y,t∈mods (.seq x y):=λt ht=>aO _ ht;simp only[V]at h;split at h
  ·rename_i st hf;split at h
   ·rename_i hst;obtain⟨hst,hrf⟩:=and_true hst;obtain⟨h⟩:=h;refine wpIn_seq (ihx _ _ _ _ _ _ _ _ _ h hr hrx λe fr' ms' w' a' hh hr' hk hms=>?_);obtain rfl:=hms hrf;cases e with
    |normal=>
     obtain⟨s,h3,hr3⟩:=ref_set hst hr' hk hh;exact ihy _ _ _ _ _ _ _ _ _ h3 hr3 hry λe fr'' ms'' w'' a'' h hr hk' hms'=>hq _ _ _ _ _ h hr (Keep.trans ((keep_set hst s fr).more hma) (hk'.more hmb)) λhh=>hms' (and_true hh).2
    |_=>exact hq _ _ _ _ _ hh hr' (hk.more hma) λ_=>rfl
   ·exact h.elim
  ·refine wpIn_seq (ihx _ _ _ _ _ _ _ _ _ h hr hrx λe fr' ms' w' a' hh hr' hk hms=>?_);cases e with
   |normal=>exact ihy _ _ _ _ _ _ _ _ _ hh hr' hry λe fr'' ms'' w'' a'' h hr hk' hms'=>hq _ _ _ _ _ h hr (Keep.trans (hk.more hma) (hk'.more hmb)) λhh=>(hms' (and_true hh).2).trans (hms (and_true hh).1)
   |_=>exact hq _ _ _ _ _ hh hr' (hk.more hma) λhh=>hms (and_true hh).1
 |cond c x y ihx ihy=>
  intro rd n ds fr ms w Q QA a h hr hrd hq;simp only[V]at h;split at h
  ·rename_i b hb;cases b with
   |true=>exact wpIn_cond_true (hr.ev hb) (ihx _ _ _ _ _ _ _ _ _ h hr (λh=>(and_true (hrd h)).1) λe fr' ms' w' a' h hr hk hms=>hq _ _ _ _ _ h hr (hk.more λt ht=>aS _ ht) λhh=>hms (and_true hh).1)
   |false=>exact wpIn_cond_false (hr.ev hb) (ihy _ _ _ _ _ _ _ _ _ h hr (λh=>(and_true (hrd h)).2) λe fr' ms' w' a' h hr hk hms=>hq _ _ _ _ _ h hr (hk.more λt ht=>aO _ ht) λhh=>hms (and_true hh).2)
  ·exact h.elim
 |block id c ih=>
  intro rd n ds fr ms w Q QA a h hr hrd hq;simp only[V]at h;refine wpIn_block (ih _ _ _ _ _ _ _ _ _ h hr hrd λe fr' ms' w' a' hh hr' hk hms=>?_);cases e with
  |exit id'=>
   simp only at hh;simp only[Exit.inBlock];split at hh
   ·rename_i hb;rw[if_pos (dW hb)];exact hq _ _ _ _ _ hh hr' hk hms
   ·rename_i hb;rw[if_neg (λe=>by subst e;simp at hb)];exact hq _ _ _ _ _ hh hr' hk hms
  |_=>exact hq _ _ _ _ _ hh hr' hk hms
 |loop c ih=>
  intro rd n ds fr ms w Q QA a h hr hrd hq;simp only[V]at h;split at h
  ·rename_i st hf;split at h
   ·rename_i hst;split at h
    ·rename_i hrf;obtain⟨s0,⟨⟨I,⟨m0,h0⟩,hround⟩⟩,hr0⟩:=ref_set hst hr (Keep.refl (mods c) fr) h;refine wpIn_loop_n (λm a w=>∃s,I m s w/\Ref nt (mkM ms ds) (setSt st s (havoc (mods c) fr)) a) ⟨m0,s0,h0,hr0⟩ λm a w hI=>?_;obtain⟨s,hI,hra⟩:=hI;refine ih _ _ _ _ _ _ _ _ _ (hround m s w hI) hra (λ_=>hrf) λe fr' ms' w' a' hh hr' hk hms=>?_;obtain rfl:=hms hrf;cases e with
     |normal=>
      obtain⟨s',⟨m',hlt,hI'⟩,hr3⟩:=ref_set hst hr' (Keep.trans (keep_set hst s fr) hk) hh;exact⟨m',hlt,s',hI',hr3⟩
     |_=>exact hq _ _ _ _ _ hh hr' (Keep.trans (keep_set hst s fr) hk) λ_=>rfl
    ·rename_i hrf;obtain⟨s0,⟨⟨I,⟨m0,h0⟩,hround⟩⟩,hr0⟩:=ref_set hst hr (Keep.refl (mods c) fr) h;refine wpIn_loop_n (λm a w=>∃s:StTy st×LN0,I m s w/\Ref nt (mkM s.2 ds) (setSt st s.1 (havoc (mods c) fr)) a) ⟨m0,(s0,ms),h0,hr0⟩ λm a w hI=>?_;obtain⟨s,hI,hra⟩:=hI;have hrf:¬noRF c=true:=by simp[hrf]
     refine ih _ _ _ _ _ _ _ _ _ (hround m s w hI) hra (λhn=>absurd (hrd hn) hrf) λe fr' ms' w' a' hh hr' hk hms=>?_;cases e with
     |normal=>
      obtain⟨s',⟨m',hlt,hI'⟩,hr3⟩:=ref_set hst hr' (Keep.trans (keep_set hst s.1 fr) hk) hh;exact⟨m',hlt,(s',ms'),hI',hr3⟩
     |_=>exact hq _ _ _ _ _ hh hr' (Keep.trans (keep_set hst s.1 fr) hk) λhh=>absurd hh hrf
   ·exact h.elim
  ·exact h.elim
 |exit id=>exact λrd n ds fr ms w Q QA a h hr hrd hq=>wpIn_exit (hq _ _ _ _ _ h hr (Keep.refl _ _) λ_=>rfl)
 |scope c ih=>
  intro rd n ds fr ms w Q QA a h hr hrd hq;simp only[V]at h;refine wpIn_scope (ih _ _ _ _ _ _ _ _ _ h hr hrd λe fr' ms' w' a' hh hr' hk hms=>?_);cases e with
  |goto l=>exact hh
  |_=>exact hq _ _ _ _ _ hh hr' hk hms
 |label l=>exact λrd n ds fr ms w Q QA a h hr hrd hq=>wpIn_label (hq _ _ _ _ _ h hr (Keep.refl _ _) λ_=>rfl)
 |ret=>exact λrd n ds fr ms w Q QA a h hr hrd hq=>wpIn_ret (hq _ _ _ _ _ h hr (Keep.refl _ _) λ_=>rfl)
 |goto l=>exact λrd n ds fr ms w Q QA a h hr hrd hq=>h.elim
 |refuse s=>exact λrd n ds fr ms w Q QA a h hr hrd hq=>h.elim
 |rangeFunc g ps assign body iha ihb=>
  intro rd n ds fr ms w Q QA a h hr hrd hq;have hno:rd=none:=az λhh=>by have:=hrd hh;cases this
  subst hno;simp only[V]at h;split at h
  ·rename_i st hf;split at h
   ·rename_i hst;obtain⟨hps,hrfs⟩:=and_true hst;obtain⟨hrfa,hrfb⟩:=and_true hrfs;split at h
    ·rename_i v hg;obtain⟨gf,fi,ca,rfl,⟨fn,cd,hfn,hcd⟩,h⟩:=h;refine wpIn_rangeFunc ?_;intro f0 hf0;obtain⟨rec,hrec⟩:∃rec:LoopState->Option Code->Obj,rec=λst pe=>.loop {state:=st,pending:=pe,fn:=f0,tmps:=a.tmps,params:=ps,assign,body,defers:=w.heap.size}:=⟨_,rfl⟩
     have hrun:=(h.run w.heap.size (w.heap.size+1) _ ((w.alloc (.deferred (some []))).alloc (rec .ready none)) rec ⟨rfl,rfl⟩ ⟨by simp,rfl⟩ (by
      intro s w' R hround hready;obtain⟨hsz,href⟩:=ref_round hr hps s;show YieldV P (w.heap.size+1) (argsOf st s) w' R;refine⟨λrd' n'=>?_⟩;rw[hrec]at hready;refine⟨f0,_,assign,body,run_yield (P:=P) hready hsz,roundIn_of_wpIn (W_fn _ _) ?_⟩;refine iha (some (w.heap.size+1)) n' [] _ _ _ _ _ _ hround href (λ_=>hrfa) λe fr1 ms1 w1 a1 hh hr1 _ hms=>?_;obtain rfl:=hms hrfa;cases e with
      |normal=>
       obtain⟨h1,h2⟩:=hh;rw[hrec]at h1;refine⟨_,run_beginRound (P:=P) h1 rfl,?_⟩;refine ihb (some (w.heap.size+1)) n' [] _ _ _ _ _ _ (by rw[hrec]at h2;exact h2) hr1 (λ_=>hrfb) λe fr2 ms2 w2 a2 hh hr2 _ _=>?_;cases e with
       |normal=>exact⟨_,_,run_endRound (P:=P) none hh.1,hh.2⟩
       |ret=>exact⟨_,_,run_endRound (P:=P) (some .ret) hh.1,hh.2⟩
       |exit id=>exact⟨_,_,run_endRound (P:=P) (some (.exit id)) hh.1,hh.2⟩
       |_=>exact hh.elim
      |_=>exact hh.elim)).run
     have h1:=call_run (args:=(fi.toList++[Value.func (.yield (w.heap.size+1)) #[] #[]]++ca.toList).toArray) (w:=(w.alloc (.deferred (some []))).alloc (rec .ready none)) hN hfn hcd
     have ea:fi++ #[Value.func (.yield (w.heap.size+1)) #[] #[]]++ca=(fi.toList++[Value.func (.yield (w.heap.size+1)) #[] #[]]++ca.toList).toArray:=by
      apply gQ.1;simp
     refine⟨w.heap.size+1,[{target:=.collected w.heap.size,args:= #[]}],(w.alloc (.deferred (some []))).alloc (rec .ready none),{target:=.fn (.func gf) ca,args:=fi++ #[Value.func (.yield (w.heap.size+1)) #[] #[]]},(w.alloc (.deferred (some []))).alloc (rec .ready none),gf,_,(w.alloc (.deferred (some []))).alloc (rec .ready none),?_,?_,λf' _=>W_fn _ _,?_,λhd=>by simp[W_depth]at hd,(callsIn_W hrun).mono ?_⟩
     ·rw[hrec];exact run_enterLoop_outer (P:=P) _ _ _ _ _
     ·simp only[resolve,hr.ev hg];simp[go_sem]
     ·simp only[invoke,ea,h1]
     rintro e w3 ⟨v,rfl,hh⟩;have href:Ref nt (mkM (w.heap.size::ms) ds) fr {a with defers:=[{target:=.collected w.heap.size,args:= #[]}]++a.defers}:=⟨hr.size,by show _++a.defers=_;rw[hr.defers];rfl,hr.val⟩;rw[hrec]at hh;rcases hh with⟨g1,g2⟩|⟨g1,g2⟩|⟨id,g1,g2⟩
     ·exact⟨none,_,run_endLoop (P:=P) g1 (by simp),hq _ _ _ _ _ g2 href (Keep.refl _ _) λhh=>by cases hh⟩
     ·split at g2
      ·exact⟨some .ret,_,run_endLoop (P:=P) g1 (by simp),wpIn_ret (hq _ _ _ _ _ g2 href (Keep.refl _ _) λhh=>by cases hh)⟩
      ·exact g2.elim
     ·split at g2
      ·exact⟨some (.exit id),_,run_endLoop (P:=P) g1 (by simp),wpIn_exit (hq _ _ _ _ _ g2 href (Keep.refl _ _) λhh=>by cases hh)⟩
      ·exact g2.elim
    ·exact h.elim
   ·exact h.elim
  ·exact h.elim
theorem res_one{fr:Fr}{w:World}{a:Act}(e:Ref nt ds fr a):∀{f:List ResultVar}{K:LV->Prop},resV P fr w f K->
  ∃l,K l/\l.length=f.length/\(f.mapM (m:=Sem) λ
   |.tmp t=>pure (a.tmps.getD t undef)
   |.cell x t=>do loadVar t (<- asAddr (a.tmps.getD x undef))).run P w=.ok l w
 | [],K,h=>⟨[],h,rfl,rfl⟩
 |.tmp t::r,K,h=>by
  simp only[resV]at h;obtain⟨v,o,h⟩:=onV_some h;obtain⟨l,h,g,c⟩:=res_one e h;refine⟨v::l,h,by simp[g],?_⟩;have i:=e.val t v o;simp only[nM,Sem.run_bind,Sem.run_pure,Result.andThen_ok,c];simp[fG,i]
 |.cell x t::r,K,h=>by
  simp only[resV]at h;split at h
  ·rename_i p q;obtain⟨s,rfl,u⟩:=onP_some h;obtain⟨v,⟨j,y⟩,-⟩:=exV_one u;obtain⟨l,h,g,c⟩:=res_one e y;refine⟨v::l,h,by simp[g],?_⟩;have n:=e.val x _ q;have d:(loadVar t s).run P w=.ok v w:=j
   have z:(do loadVar t (<- asAddr (a.tmps.getD x undef)):Sem Value).run P w=.ok v w:=by
    simp[fG,n,asAddr,d]
   rw[nM,Sem.run_bind];simp only[z,Result.andThen_ok,Sem.run_bind,c,Sem.run_pure]
  ·exact h.elim
theorem ret_post{fn:Func}{fr:Fr}{w:World}{a:Act}{ds:List Deferred}{R:EW}(d:Ref nt ds fr a)(h:retV P fn fr w R):∃v,(results fn a.tmps).run P w=.ok v w/\R (eE0 v) w:=by
 obtain⟨l,h,f,c⟩:=res_one d h
 have e:(fn.results.mapM (m:=Sem) λ
   |.tmp t=>pure (a.tmps.getD t undef)
   |.cell x t=>do loadVar t (<- asAddr (a.tmps.getD x undef))).run P w=.ok l.toArray w:=by
  rw[lV];simp only[Sem.run_map,c,Result.andThen_ok]
 unfold results;rw[Sem.run_bind];refine⟨_,(congrArg (λr=>Result.andThen r _) e).trans rfl,?_⟩
 match l,h with
 | [v],h=>exact h
 | [],h=>exact h
 |_::_::_,h=>
  simp only[dR,aK];rw[dif_neg om];exact h
theorem shut_post{F:Fence}{n:Nat}{fn:Func}{fr:Fr}{R:EW}{a:Act}{ds:List Deferred}(f:Ref nt ds fr a):∀(c:LN0)(w:World),shutV P fn fr c w R->LeavesInM F n P fn a.tmps R (mkM c []) .returning w
 | [],w,h=>by
  obtain⟨v,d,e⟩:=ret_post f h;exact⟨v,d,e⟩
 |D::c,w,h=>by
  obtain⟨g,⟨d,rfl⟩,e⟩:=h;exact⟨by simp,.inl ⟨D,_,rfl,run_takeDeferred d,shut_post f c _ e⟩⟩
theorem shutV_all{fn:Func}{fr:Fr}{R:EW}{w1:World}(d:retV P fn fr w1 R):∀(c:LN0)(w:World),ShutAll c w w1->shutV P fn fr c w R
 | [],w,h=>by
  have h:w1=w:=h;subst h;exact d
 |D::c,w,h=>by
  obtain⟨e,f,g⟩:=h;exact⟨e,f,shutV_all d c e g⟩
def endV_shut{fn:Func}{c:Code}{fr:Fr}{d:LN0}{w:World}{R:EW}(h:endV P fn c fr d w R):shutV P fn fr d w R:=by
 unfold endV at h;split at h
 ·exact h
 ·obtain⟨g,e,f⟩:=h;exact shutV_all f d w e
theorem argFr_get:∀(l:LV)(i t:Nat)(v:Value),fget (argFr i l) t=some v->∃j,t=i+j/\l[j]? =some v
 | [],i,t,v,h=>by simp[argFr,fget_nil]at h
 |x::r,i,t,v,h=>by
  simp only[argFr]at h;by_cases c:t=i
  ·subst c;rw[fget_hit]at h;exact⟨0,rfl,by simpa using h⟩
  ·rw[fget_miss _ _ _ _ c]at h;obtain⟨j,rfl,d⟩:=argFr_get r (i+1) t v h;exact⟨j+1,om,by simpa using d⟩
def ref_args{fn:Func}{args:LV}(d:decide (args.length<=fn.ntmps)=true):
  Ref fn.ntmps [] (argFr 0 args) {tmps:=args.toArray++Array.replicate (fn.ntmps-args.toArray.size) undef,defers:=[]}:=by
 have d:=of_decide_eq_true d;refine⟨by simp;omega,rfl,λt v h=>?_⟩;obtain⟨j,rfl,e⟩:=argFr_get args 0 t v h;have c:j<args.length:=(aA.1 e).1;simp;rw[iF (by simpa using c)];simpa using e
theorem calls_of_bodyV(l:NoNum P){i:An}{f:FuncId}{fn:Func}{args:LV}{w:World}{R:EW}(m:P.funcs[f]? =some fn)(o:decide (args.length<=fn.ntmps)=true)
  (h:bodyV P i fn args w R):Calls P f args.toArray w R:=by
 simp only[bodyV]at h;split at h
 ·exact h.elim
 ·rename_i c p;refine(callsIn_wide (n:=0)).1 (callsIn_of_wp_marks m p trivial ?_ rfl);refine V_sound l i c none 0 [] _ _ _ _ _ _ h (ref_args o) (λh=>absurd rfl h) λe q r s j g d _ _=>?_;cases e with
  |normal=>
   show LeavesInM _ _ _ _ _ _ j.defers _ _;rw[d.defers];exact shut_post d _ _ (endV_shut g)
  |ret=>
   show LeavesInM _ _ _ _ _ _ j.defers _ _;rw[d.defers];exact shut_post d _ _ (endV_shut g)
  |_=>exact g.elim
end
theorem Dp{b:Bool}{x y:Prop}(a:b=true->x)(c:b=false->y):br b x y:=by
 cases b with
 |true=>exact a rfl
 |false=>exact c rfl
def AB{p:Prop}[Decidable p]{x y:Prop}(a:p->x)(b:¬p->y):br (decide p) x y:=
 Dp (λh=>a (of_decide_eq_true h)) (λh=>b (of_decide_eq_false h))
theorem Ec{b:Bool}{x y:Prop}(a:b=false->x)(c:b=true->y):br (!b) x y:=by
 cases b with
 |true=>exact c rfl
 |false=>exact a rfl
def AQ{p:Prop}[Decidable p]{x y:Prop}(a:¬p->x)(b:p->y):br (!decide p) x y:=
 Ec (λh=>a (of_decide_eq_false h)) (λh=>b (of_decide_eq_true h))
def CX{x y:Prop}(h:x):br true x y:=h
def BC{x y:Prop}(h:y):br false x y:=h
def AA{p:OA}{a:Addr}{k:Addr->Prop}(h:p=some a)(b:k a):onP p k:=by subst h;exact b
def LoopP.mk{St:Type}{a:St->World->(St->World->Prop)->Prop}{s:St}{w:World}(I:Nat->St->World->Prop)(n:Nat)(e:I n s w)
  (h:∀n s w next,I n s w->(∀m b w',m<n->I m b w'->next b w')->a s w next):LoopP a s w:=
 ⟨⟨I,⟨n,e⟩,λn s w f=>h n s w _ f λm b w' c d=>⟨m,c,d⟩⟩⟩
def JoinP.mk{St:Type}{R:St->World->Prop}{X:(St->World->Prop)->Prop}(J:St->World->Prop)(b:∀s w,J s w->R s w)(c:∀a:St->World->Prop,(∀s w,J s w->a s w)->X a):JoinP R X:=
 ⟨c R b⟩
def AC{P:Program}{f:FuncId}{args:LV}{w:World}{R a:EW}(h:Calls P f args.toArray w R)(b:∀e w',R e w'->a e w'):CallV P f args w a:=
 ⟨Calls.mono h b⟩
def DC{z:Int}:inR .i64 z↔ -9223372036854775808<=z/\z<=9223372036854775807:=by
 simp[inR,IntKind.min,IntKind.max,IntKind.signed,IntKind.bits]
def iR{z:Int}(h:-9223372036854775808<=z/\z<=9223372036854775807:=by omega):inR .i64 z:=DC.2 h
def IC{z:Int}(h: -9223372036854775808<=z/\z<=9223372036854775807):IntKind.i64.wrap z=z:=wrap_inR (DC.2 h)
def Chg(S:LN0)(w w':World):Prop:=
 w'.os=w.os/\w'.tape=w.tape/\w'.output=w.output/\w.heap.size<=w'.heap.size/\∀k,k<w.heap.size->k∉S->w'.heap[k]? =w.heap[k]?
def Chg.refl(S:LN0)(w:World):Chg S w w:=⟨rfl,rfl,rfl,aZ _,λ_ _ _=>rfl⟩
def Chg.size{S:LN0}{w w':World}(h:Chg S w w'):w.heap.size<=w'.heap.size:=h.2.2.2.1
def Chg.trans{S T U:LN0}{a b c:World}(h:Chg S a b)(d:Chg T b c)(i:∀k∈S,k∈U)(j:∀k∈T,k∈U\/a.heap.size<=k):Chg U a c:=by
 refine⟨d.1.trans h.1,d.2.1.trans h.2.1,d.2.2.1.trans h.2.2.1,fH h.size d.size,λk e f=>?_⟩;have l:=h.2.2.2.2 k e (λm=>f (i k m))
 have n:=d.2.2.2.2 k (fE e h.size) (λo=>by
  rcases j k o with g|g
  ·exact f g
  ·omega)
 exact n.trans l
def Chg.more{S T:LN0}{a b:World}(h:Chg S a b)(c:∀k∈S,k∈T):Chg T a b:=⟨h.1,h.2.1,h.2.2.1,h.size,λk d e=>h.2.2.2.2 k d λf=>e (c k f)⟩
def Chg.block{S:LN0}{w w':World}(h:Chg S w w'){k:Nat}{o:Obj}(a:w.heap[k]? =some o)(b:k∉S):w'.heap[k]? =some o:=by
 rw[h.2.2.2.2 k (bG.1 a).1 b];exact a
def Chg.cell{S:LN0}{w w':World}(h:Chg S w w'){a:Addr}{v:Value}(c:w.cell? a=some v)(d:a.block∉S):w'.cell? a=some v:=by
 have b:=World.block_lt_of_cell? w a c;rw[World.cell?_of_block (h.2.2.2.2 _ b d)];exact c
def alloc_old(w:World)(o:Obj)(k:Nat)(h:k<w.heap.size):(w.alloc o).heap[k]? =w.heap[k]? :=by
 show(w.heap.push o)[k]? =_;rw[lD,if_neg om]
def Hu(w:World)(o:Obj):(w.alloc o).heap[w.heap.size]? =some o:=by
 show(w.heap.push o)[w.heap.size]? =_;simp
def New.chg{w w1:World}{o:Obj}{b:Nat}(h:New w o b w1):Chg [] w w1:=by
 obtain⟨rfl,rfl⟩:=h;exact⟨rfl,rfl,rfl,by simp,λk a _=>alloc_old w o k a⟩
def New.blk{w w1:World}{o:Obj}{b:Nat}(h:New w o b w1):w1.heap[b]? =some o:=by
 obtain⟨rfl,rfl⟩:=h;exact Hu w o
def Blk(w:World)(b:Nat)(cs:LV)(T:TypeId):Prop:=w.heap[b]? =some (.cells cs.toArray T (0,0))
def New.cells{w w1:World}{cs:LV}{T:TypeId}{b:Nat}(h:New w (.cells cs.toArray T) b w1):Blk w1 b cs T:=h.blk
def Blk.chg{w w':World}{b:Nat}{cs:LV}{T:TypeId}{S:LN0}(h:Blk w b cs T)(a:Chg S w w')(c:b∉S):Blk w' b cs T:=a.block h c
def Blk.lt{w:World}{b:Nat}{cs:LV}{T:TypeId}(h:Blk w b cs T):b<w.heap.size:=(bG.1 h).1
def Blk.cell{w:World}{b:Nat}{cs:LV}{T:TypeId}(h:Blk w b cs T){o:Nat}{v:Value}(a:cs[o]? =some v):w.cell? ⟨b,o,none⟩=some v:=by
 have c:w.heap[b]? =some (.cells cs.toArray T (0,0)):=h;simp[World.cell?,c,a]
def aggB(P:Program)(t:TypeId):Option Bool:=match P.underlying t with
 |some (.struct _)|some (.array _ _)=>some true
 |some _=>some false
 |none=>none
theorem IE{P:Program}{t:TypeId}{b:Bool}(h:aggB P t=some b)(w:World):(isAgg t).run P w=.ok b w:=by
 unfold aggB at h;cases hu:P.underlying t with
 |none=>rw[hu]at h;cases h
 |some d=>
  rw[hu]at h;simp only[isAgg,Sem.run_bind,run_und hu,Result.andThen_ok];cases d<;>cases h<;>rfl
def Ny{P:Program}{t:TypeId}{w:World}{a:Addr}{v:Value}(b:aggB P t=some false)(h:w.cell? a=some v):Ld P t w a v:=by
 simp only[Ld,loadVar,Sem.run_bind,IE b,Result.andThen_ok,jD,if_false,run_load,h]
def WU{P:Program}{t:TypeId}{w:World}{a:Addr}{vs:LV}(b:aggB P t=some true)(c:sizeV P t=some vs.length)(h:∀j v,vs[j]? =some v->w.cell? (a.add j)=some v):Ld P t w a (.agg vs.toArray):=by
 simp only[Ld,loadVar,Sem.run_bind,IE b,Result.andThen_ok,if_true,run_size c,Sem.run_map,Sem.run_bind,run_loadCells_list w a vs h,Sem.run_pure]
def Blk.ld{P:Program}{t:TypeId}{w:World}{b:Nat}{cs:LV}{T:TypeId}(h:Blk w b cs T){o:Nat}{v:Value}(a:aggB P t=some false)(c:cs[o]? =some v):Ld P t w ⟨b,o,none⟩ v:=
 Ny a (h.cell c)
def add_lit(b o j:Nat):(⟨b,o,none⟩:Addr).add j=⟨b,o+j,none⟩:=by
 unfold Addr.add;split<;>simp_all
def Blk.ldA{P:Program}{t:TypeId}{w:World}{b:Nat}{cs:LV}{T:TypeId}(h:Blk w b cs T){o:Nat}{vs:LV}(c:aggB P t=some true)(d:sizeV P t=some vs.length)
  (e:(cs.drop o).take vs.length=vs):Ld P t w ⟨b,o,none⟩ (.agg vs.toArray):=by
 refine WU c d λj v a=>?_;rw[add_lit];refine h.cell ?_;rw[<- e]at a;rw[fF]at a;split at a
 ·simpa using a
 ·cases a
def setB(w:World)(b:Nat)(o:Obj):World:= {w with heap:=w.heap.setIfInBounds b o}
def Dv(w:World)(b:Nat)(o:Obj):Chg [b] w (setB w b o):=
 ⟨rfl,rfl,rfl,by simp[setB],λk c a=>by
  simp only[setB,df];rw[if_neg (by simpa using Ne.symm (by simpa using a))]⟩
def Du{w:World}{b:Nat}{o:Obj}(h:b<w.heap.size):(setB w b o).heap[b]? =some o:=by
 simp[setB,h]
def Gz{w:World}{b:Nat}{cs:LV}{T:TypeId}{fz:Nat×Nat}(h:w.heap[b]? =some (.cells cs.toArray T fz))(o:Nat)(v:Value):
  w.setCell ⟨b,o,none⟩ v=setB w b (.cells (cs.set o v).toArray T fz):=by
 simp only[World.setCell,setB];congr 1;apply jZ;intro k;rw[di,df];split
 ·rename_i a;subst a;rw[if_pos (bG.1 h).1,h];simp
 ·rfl
def Ja(w:World)(b:Nat)(o o':Obj):setB (setB w b o) b o'=setB w b o':=by
 simp only[setB];congr 1;apply jZ;intro k;simp only[df];split
 ·simp
 ·rfl
theorem Cf{P:Program}{b:Nat}{T:TypeId}{fz:Nat×Nat}:∀(vs:LV)(w:World)(cs:LV)(a:Addr)(o i:Nat),a.add i=⟨b,o,none⟩->(∀j,a.add (i+j)=⟨b,o+j,none⟩)->
  w.heap[b]? =some (.cells cs.toArray T fz)->o+vs.length<=cs.length->(∀k,o<=k->k<o+vs.length->(decide (fz.1<=k)&&decide (k<fz.2))=false)->(∀u∈vs,u.oneCell'=true)->
  (storeCells a vs i).run P w=.ok () (if vs=[]then w else setB w b (.cells (over vs o cs).toArray T fz))
 | [],w,cs,a,o,i,ha,haj,hb,hl,hf,h1=>by simp[storeCells]
 |v::r,w,cs,a,o,i,ha,haj,hb,hl,hf,h1=>by
  simp only[aK]at hl hf;simp only[storeCells,Sem.run_bind];have d:o<cs.length:=om;have c:w.cell? ⟨b,o,none⟩=some cs[o]:=by simp[World.cell?,hb,d]
  have e:w.frozen? ⟨b,o,none⟩=false:=by
   have:=hf o (aZ _) om;obtain⟨p,q⟩:=fz;simpa [World.frozen?,hb]using this
  have f:(store (a.add i) v).run P w=.ok () (w.setCell ⟨b,o,none⟩ v):=by
   rw[ha,run_store P w _ v _ (h1 v (fD ..))];simp[c,e]
  rw[f];simp only[Result.andThen_ok]
  have g:(w.setCell ⟨b,o,none⟩ v).heap[b]? =some (.cells (cs.set o v).toArray T fz):=by
   rw[Gz hb];exact Du (bG.1 hb).1
  rw[Cf r _ (cs.set o v) a (o+1) (i+1) (haj 1) (λj=>by rw[show i+1+j=i+(1+j) by omega,haj,show o+(1+j)=o+1+j by omega]) g (by simp;omega) (λk h l=>hf k om om) (λu m=>h1 u (jM _ m))];rw[Gz hb,if_neg (List.cons_ne_nil _ _),over_cons v r o cs d];split
  ·rename_i n;subst n;simp[over_nil]
  ·rw[Ja]
def Blk.st{P:Program}{t:TypeId}{w:World}{b:Nat}{cs:LV}{T:TypeId}(h:Blk w b cs T){o:Nat}{v:Value}(c:sizeV P t=some v.cells.size)(d:v.cells.toList.all (·.oneCell')=true)(f:o+v.cells.size<=cs.length):
  ∃w1,St P t w ⟨b,o,none⟩ v w1/\Blk w1 b (over v.cells.toList o cs) T/\Chg [b] w w1:=by
 have a:=Cf (P:=P) (fz:=(0,0)) v.cells.toList w cs ⟨b,o,none⟩ o 0 rfl (λj=>by simp[add_lit]) h (by simpa using f) (λk _ _=>by simp) (λu g=>fJ.1 d u g)
 have e:(storeVar t ⟨b,o,none⟩ v).run P w=(storeCells ⟨b,o,none⟩ v.cells.toList).run P w:=by
  simp only[storeVar,Sem.run_bind,run_size c,Result.andThen_ok];rw[if_neg (by simp)]
 refine⟨_,e.trans a,?_,?_⟩
 ·split
  ·rename_i i;rw[i,over_nil];exact h
  ·exact Du h.lt
 ·split
  ·exact Chg.refl _ _
  ·exact Dv _ _ _
def Thaw(fz:Nat×Nat)(n:Nat):Prop:=∀k,k<n->(decide (fz.1<=k)&&decide (k<fz.2))=false
def Thaw.zero(n:Nat):Thaw (0,0) n:=λk _=>by simp
def Thaw.behind(n m:Nat):Thaw (n,m) n:=λk a=>by
 have:¬n<=k:=om;simp[this]
def Own(w:World)(base:Nat)(e:TypeId)(sz:Nat)(a:OA)(n c:Nat)(xs:LV):Prop:=
 xs.length=n*sz/\((a=none/\n=0/\c=0)\/∃g cur fz,a=some ⟨g,0,none⟩/\base<=g/\w.heap[g]? =some (.cells cur e fz)/\Thaw fz cur.size/\n<=c/\c<=maxLen/\c*sz<=cur.size/\cur.toList.take (n*sz)=xs)
def blks(a:OA):LN0:=match a with
 |some a=>[a.block]
 |none=>[]
def Own.nil(w:World)(a:Nat)(e:TypeId)(sz:Nat):Own w a e sz none 0 0 []:=⟨by simp,.inl ⟨rfl,rfl,rfl⟩⟩
def Own.le{w:World}{b:Nat}{e:TypeId}{sz:Nat}{a:OA}{n c:Nat}{xs:LV}(h:Own w b e sz a n c xs):n<=c/\c<=maxLen:=by
 rcases h.2 with⟨_,rfl,rfl⟩|⟨g,d,_,_,_,_,_,f,i,_⟩
 ·exact⟨aZ _,by simp[maxLen]⟩
 ·exact⟨f,i⟩
def Own.mem{w:World}{b:Nat}{e:TypeId}{sz:Nat}{a:OA}{n c:Nat}{xs:LV}(h:Own w b e sz a n c xs):∀k∈blks a,b<=k/\k<w.heap.size:=by
 intro k d;rcases h.2 with⟨rfl,_⟩|⟨g,i,m,rfl,j,l,f⟩
 ·simp[blks]at d
 ·simp[blks]at d;subst d;exact⟨j,(bG.1 l).1⟩
def Own.front{w:World}{b:Nat}{e:TypeId}{sz:Nat}{a:OA}{n c F:Nat}{xs:LV}(h:Own w b e sz a n c xs)(f:F<=n):Own w b e sz a F F (xs.take (F*sz)):=by
 have i:F*sz<=n*sz:=dE _ f;refine⟨by rw[aI,h.1];omega,?_⟩;rcases h.2 with⟨rfl,rfl,rfl⟩|⟨g,d,j,rfl,l,m,o,r,s,p,q⟩
 ·exact .inl ⟨rfl,om,om⟩
 ·exact .inr ⟨g,d,j,rfl,l,m,o,aZ _,om,fH (dE _ (by omega:F<=c)) p,by rw[<- q,jF,fQ i]⟩
def Cells(w:World)(a:OA)(vs:LV):Prop:=∀j v,vs[j]? =some v->∃ad,a=some ad/\w.cell? (ad.add j)=some v
def Own.cells{w:World}{b:Nat}{e:TypeId}{sz:Nat}{a:OA}{n c:Nat}{xs:LV}(h:Own w b e sz a n c xs):Cells w a xs:=by
 intro j v d;rcases h.2 with⟨rfl,rfl,rfl⟩|⟨g,f,m,rfl,o,i,p,q,r,s,l⟩
 ·have:xs=[]:=bC (by simpa using h.1);subst this;simp at d
 ·refine⟨_,rfl,?_⟩;rw[add_lit];rw[<- l,fF]at d;split at d
  ·simp[World.cell?,i];simpa using d
  ·cases d
def Cells.chg{w w':World}{a:OA}{vs:LV}{S:LN0}(h:Cells w a vs)(d:Chg S w w')(e:∀k∈blks a,k∉S):Cells w' a vs:=by
 intro j v f;obtain⟨c,rfl,b⟩:=h j v f
 exact⟨c,rfl,d.cell b (by
  have:(c.add j).block=c.block:=by unfold Addr.add;split<;>rfl
  rw[this];exact e _ (by simp[blks]))⟩
def Blk.cells{w:World}{b:Nat}{cs:LV}{T:TypeId}(h:Blk w b cs T):Cells w (sP0 b) cs:=
 λj v a=>⟨_,rfl,by rw[add_lit];simpa using h.cell a⟩
structure Elt(P:Program)(t e:TypeId)(sz by_:Nat):Prop where
 und:P.underlying t=some (.slice e)
 row:∃i z,P.info? e=some i/\i.zero=some z/\i.size=sz/\i.bytes=by_/\z.cells.size=sz
def eltB(P:Program)(t e:TypeId)(sz by_:Nat):Bool:=
 match P.underlying t with
 |some (.slice e')=>Nat.beq e' e&&(match P.info? e with
  |some i=>match i.zero with
   |some z=>Nat.beq i.size sz&&Nat.beq i.bytes by_&&Nat.beq z.cells.size sz
   |none=>false
  |none=>false)
 |_=>false
def DD{P:Program}{t e:TypeId}{sz by_:Nat}(h:eltB P t e sz by_=true):Elt P t e sz by_:=by
 unfold eltB at h;split at h
 ·rename_i g b;simp only[dJ]at h;obtain⟨c,a⟩:=h;have:=dW c;subst this;refine⟨b,?_⟩;split at a
  ·rename_i i d;split at a
   ·rename_i z f;simp only[dJ]at a;exact⟨i,z,d,f,dW a.1.1,dW a.1.2,dW a.2⟩
   ·cases a
  ·cases a
 ·cases h
theorem IK:∀(l:LV)(o:Nat)(cs:LV),o+l.length<=cs.length->∀k,(over l o cs)[k]? =if o<=k/\k<o+l.length then l[k-o]? else cs[k]?
 | [],o,cs,h,k=>by
  rw[over_nil,if_neg];simp only[dI];omega
 |y::r,o,cs,h,k=>by
  simp at h⊢;rw[over_cons y r o cs om,IK r (o+1) _ (by simp;omega) k];by_cases b:o=k
  ·subst b;rw[if_neg om,if_pos om];rw[iG om];simp
  ·by_cases a:o+1<=k/\k<o+1+r.length
   ·rw[if_pos a,if_pos om,show k-o=(k-(o+1))+1 by omega];simp
   ·rw[if_neg a,if_neg om,jh];rw[if_neg b]
def Ui(l:LV)(o:Nat)(cs:LV)(h:o+l.length<=cs.length):(over l o cs).take (o+l.length)=cs.take o++l:=by
 apply dK;intro k;rw[fF,IK l o cs h,ig,fF,aI,show min o cs.length=o by omega];by_cases a:k<o
 ·rw[if_pos om,if_neg om,if_pos a,if_pos a]
 ·by_cases b:k<o+l.length
  ·rw[if_pos b,if_pos om,if_neg a]
  ·rw[if_neg b,if_neg a,bF om]
theorem I8{b:Nat}{T:TypeId}{fz:Nat×Nat}:∀(vs:LV)(w:World)(cs:LV)(o:Nat),w.heap[b]? =some (.cells cs.toArray T fz)->o+vs.length<=cs.length->
  (w.setCells b o vs).heap[b]? =some (.cells (over vs o cs).toArray T fz)/\Chg [b] w (w.setCells b o vs)
 | [],w,cs,o,h,hl=>by simp[World.setCells,over_nil,h,Chg.refl]
 |v::r,w,cs,o,h,hl=>by
  simp at hl;simp only[World.setCells];have a:=(bG.1 h).1
  have d:(w.setCell ⟨b,o,none⟩ v).heap[b]? =some (.cells (cs.set o v).toArray T fz):=by
   rw[Gz h];exact Du a
  obtain⟨e,f⟩:=I8 r _ (cs.set o v) (o+1) d (by simp;omega);rw[over_cons v r o cs om];refine⟨e,?_⟩;have g:Chg [b] w (w.setCell ⟨b,o,none⟩ v):=by rw[Gz h];exact Dv _ _ _
  exact g.trans f (λk c=>c) (λk c=>.inl c)
def Zl{P:Program}{t tx e ty:TypeId}{sz by_:Nat}(T:Elt P t e sz by_)(ab:0<sz){w:World}{h:Nat}{a:OA}{n c:Nat}{xs:LV}(l:Own w h e sz a n c xs){x:Value}{m:Nat}{b:LV}
  (r:Src P sz tx x m b w) (C:n+m<=maxLen) (H:(n+m)*by_<=140737488355328) (u:h<=w.heap.size):
  ∃a' c' w1,App P #[t,tx] ty w (.slice a n c) x (.slice a' (n+m) c') w1/\Own w1 h e sz a' (n+m) c' (xs++b)/\Chg (blks a) w w1/\∀k∈blks a',k∈blks a\/w.heap.size<=k:=by
 obtain⟨J,i,z,K,hz,rfl,rfl,L⟩:=T;have G:n+m<=9223372036854775807:=by simp only[maxLen]at C;omega
 have f:(xs++b).length=(n+m)*i.size:=by rw[aF,l.1,r.newsLen,gm]
 have grow:∀(s:(Builtin.firstCells i.size n (.slice a n c)).run P w.drew=.ok xs.toArray w.drew),c<n+m->
   ∃a' c' w1,App P #[t,tx] ty w (.slice a n c) x (.slice a' (n+m) c') w1/\Own w1 h e i.size a' (n+m) c' (xs++b)/\Chg (blks a) w w1/\∀k∈blks a',k∈blks a\/w.heap.size<=k:=by
  intro s B;have M:=run_append_grow_src w t tx ty e i z J K hz a n c xs s x m b r B om (growslice_fits B H);have N:=grownCap_ge w (n+m) c e;have y:grownCap w (n+m) c e<=maxLen:=grownCap_le_maxLen w (n+m) c e C;refine⟨_,_,_,M,⟨f,.inr ⟨w.heap.size,_,_,rfl,u,Hu w.drew _,Thaw.zero _,N,y,?_,?_⟩⟩,?_,?_⟩
  ·refine jb (Eq.symm ?_);simp only[ji,dR,size_zeroCells,L,f,<- gm];congr 1;omega
  ·rw[<- f,jy];exact iP rfl
  ·exact⟨rfl,rfl,rfl,by simp,λk q _=>alloc_old w.drew _ k q⟩
  ·intro k q;simp[blks]at q;subst q;exact .inr (aZ _)
 rcases l.2 with⟨rfl,rfl,rfl⟩|⟨g,d,O,rfl,R,B,hf,ac,y,D,A⟩
 ·have U:xs=[]:=bC (by simpa using l.1);subst U;by_cases hm:m=0
  ·subst hm;have hn:b=[]:=bC (by simpa using r.newsLen);subst hn;refine⟨none,0,w,?_,Own.nil w h e i.size,Chg.refl _ _,by simp[blks]⟩;have hl:=r.len w;have X:=r.cells;rcases r.kind with⟨e',q⟩|q<;>simp[App,Builtin.append_,run_und J,run_und q,sizeOf,typeInfo,K,hl,X]
  ·exact grow (run_firstCells_none _ _ _ _ _) om
 ·by_cases o:n+m<=c
  ·have aa:n*i.size+b.length<=d.size:=by rw[r.newsLen,<- gm];exact fH (dE _ o) D
   have p:∀j,j<b.length->(w.cell? ⟨g,0+n*i.size+j,none⟩).isSome=true:=by
    intro j Y;have:0+n*i.size+j<d.size:=om;simp[World.cell?,B];omega
   have M:=run_append_room_src w t tx ty e i J K g 0 n c x m b r o p (λj Y=>by
    have:=hf (0+n*i.size+j) om;obtain⟨f1,f2⟩:=O;simpa [World.frozen?,B]using this)
   have F:w.heap[g]? =some (.cells d.toList.toArray e O):=by simpa using B
   obtain⟨h3,h4⟩:=I8 b w d.toList (0+n*i.size) F (by simp;omega);refine⟨_,_,_,M,⟨f,.inr ⟨g,_,O,rfl,R,h3,?_,o,y,?_,?_⟩⟩,h4,λk q=>.inl q⟩
   ·intro k q;refine hf k ?_;rw[dR,over_length _ _ _ (by rw[show d.toList.length=d.size from bP];omega),bP]at q;exact q
   ·rw[dR,over_length _ _ _ (by rw[show d.toList.length=d.size from bP];omega),bP];exact D
   ·rw[<- f];have:=Ui b (0+n*i.size) d.toList (by rw[show d.toList.length=d.size from bP];omega);rw[show(xs++b).length=0+n*i.size+b.length by rw[f,gm,r.newsLen];omega];simp only[kC];rw[this,bu,A]
  ·refine grow ?_ om;refine run_firstCells_some _ _ _ _ _ _ xs l.1 λj v Y=>?_;obtain⟨ad,Z,p⟩:=l.cells j v Y;cases Z;simpa using p
structure KeyT(K:Type)[DecidableEq K]where
 kd:TypeDesc
 enc:K->Value
 same:∀a b,Instr.sameNow kd (enc a) (enc b)=some (decide (a=b))
 bits:∀a,Instr.sameBits 10000 (enc a) (enc a)=true
 plain:∀P t empty w,P.underlying t=some kd->∀a,(Instr.checkKey empty (9999+1) t (enc a)).run P w=.ok () w
def Uo{P:Program}{t:TypeId}{D:TypeDesc}(h:P.underlying t=some D)(b:(∃k,D=.int k)\/D=.string)(a:Bool)(d:Nat)(w:World)(v:Value):(Instr.checkKey a (d+1) t v).run P w=.ok () w:=by
 rcases b with⟨k,rfl⟩|rfl<;>simp only[Instr.checkKey,Sem.run_bind,run_und h,Result.andThen_ok,Sem.run_pure]
def Df(k:IntKind):KeyT Int where
 kd:=.int k
 enc:=.int k
 same:=λa b=>by simp only[Instr.sameNow,if_true];rfl
 bits:=λa=>by simp[Instr.sameBits]
 plain:=λP t empty w h a=>Uo h (.inl ⟨k,rfl⟩) empty 9999 w _
def Ul(a b:ByteArray):(a==b)=decide (a=b):=by
 obtain⟨a⟩:=a;obtain⟨b⟩:=b;rw[iO,decide_eq_true_iff,ByteArray.mk.injEq];show(a==b)=true↔a=b;exact beq_iff_eq
def F9:KeyT ByteArray where
 kd:=.string
 enc:=.string
 same:=λa b=>by simp only[Instr.sameNow,Ul]
 bits:=λa=>by simp[Instr.sameBits,Ul]
 plain:=λP t empty w h a=>Uo h (.inr rfl) empty 9999 w _
section
variable{K:Type}[DecidableEq K](kt:KeyT K)
def aget(l:List (K×Value))(k:K):Option Value:=match l with
 | []=>none
 |(x,v)::r=>if k=x then some v else aget r k
def aput(l:List (K×Value))(k:K)(v:Value):List (K×Value):=match l with
 | []=>[(k,v)]
 |(x,u)::r=>if k=x then(x,v)::r else(x,u)::aput r k v
def adel(l:List (K×Value))(k:K):List (K×Value):=match l with
 | []=>[]
 |(x,u)::r=>if k=x then r else(x,u)::adel r k
def Reads(es:List MapEntry)(al:List (K×Value)):Prop:=es.map (λe=>(e.key,e.val))=al.map λp=>(kt.enc p.1,p.2)
def MapAt(w:World)(b:Nat)(al:List (K×Value)):Prop:=
 ∃es clock,w.heap[b]? =some (.map es clock)/\Reads kt es.toList al/\(es.toList.map (·.born)).Nodup/\∀e∈es.toList,e.born<clock
variable{kt}
def MapAt.chg{w w':World}{b:Nat}{al:List (K×Value)}{S:LN0}(h:MapAt kt w b al)(c:Chg S w w')(d:b∉S):MapAt kt w' b al:=by
 obtain⟨e,a,f,g⟩:=h;exact⟨e,a,c.block f d,g⟩
def MapAt.lt{w:World}{b:Nat}{al:List (K×Value)}(h:MapAt kt w b al):b<w.heap.size:=by
 obtain⟨d,a,c,e⟩:=h;exact(bG.1 c).1
def MapAt.new{w w1:World}{b:Nat}(h:New w (.map #[] 0) b w1):MapAt kt w1 b []:=⟨#[],0,h.blk,rfl,by simp,by simp⟩
theorem Nu:∀{a:List MapEntry}{al:List (K×Value)}(i:Nat)(k:K),Reads kt a al->
  (aget al k=none/\Instr.findNow kt.kd (kt.enc k) a i=some none)\/
  ∃j v e,aget al k=some v/\Instr.findNow kt.kd (kt.enc k) a i=some (some (i+j,v))/\a[j]? =some e/\e.key=kt.enc k/\e.val=v/\
   (∀b,Reads kt (a.modify j λe=> {e with key:=kt.enc k,val:=b}) (aput al k b))/\Reads kt (a.eraseIdx j) (adel al k)
 | [],al,i,k,h=>by
  have:al=[]:=by cases al with
   |nil=>rfl
   |cons p r=>simp[Reads]at h
  subst this;exact .inl ⟨rfl,rfl⟩
 |e::a,al,i,k,h=>by
  cases al with
  |nil=>simp[Reads]at h
  |cons p al=>
   obtain⟨x,u⟩:=p;simp only[Reads,aj,List.cons.injEq,Prod.mk.injEq]at h;obtain⟨⟨c,f⟩,h⟩:=h;simp only[Instr.findNow,c,kt.same,aget,aput,adel];by_cases d:k=x
   ·subst d;right;refine⟨0,u,e,by simp,by simp[f],by simp,c,f,λb=>?_,?_⟩
    ·simp only[if_true,Reads,nG,aj,c];rw[h]
    ·simp;exact h
   ·simp only[d,decide_false,if_false];rcases Nu (i+1) k h with⟨g,l⟩|⟨j,v,n,g,l,o,q,s,t,m⟩
    ·exact .inl ⟨g,l⟩
    ·right;refine⟨j+1,v,n,g,by rw[l];congr 3;omega,by simpa using o,q,s,λb=>?_,?_⟩
     ·have:=t b;simp only[Reads,nH,aj,c,f]at this⊢;rw[this]
     ·simp only[Reads,List.eraseIdx_cons_succ,aj,c,f]at m⊢;rw[m]
theorem reads_push{d:List MapEntry}{al:List (K×Value)}(h:Reads kt d al){k:K}(a:aget al k=none)(v:Value)(c:Nat):Reads kt (d++[{key:=kt.enc k,val:=v,born:=c}]) (aput al k v):=by
 have:∀(al:List (K×Value)),aget al k=none->aput al k v=al++[(k,v)]:=by
  intro al
  induction al with
  |nil=>intro _;rfl
  |cons p r e=>
   obtain⟨x,u⟩:=p;intro a;simp only[aget]at a;split at a
   ·cases a
   ·rename_i b;simp only[aput,if_neg b,e a,aC]
 rw[this al a];simp only[Reads,ai,aj,iY]at h⊢;rw[h]
def run_findKey{P:Program}{w:World}{t:TypeId}{a:List MapEntry}{al:List (K×Value)}{k:K}{r:Option (Nat×Value)}(b:P.underlying t=some kt.kd)(h:Instr.findNow kt.kd (kt.enc k) a 0=some r):
  (Instr.findKey t (kt.enc k) a).run P w=.ok r w:=by
 simp only[Instr.findKey,Sem.run_bind,run_und b,Result.andThen_ok,h,Sem.run_pure]
def run_getObj_map{P:Program}{w:World}{b:Nat}{a:Array MapEntry}{c:Nat}(h:w.heap[b]? =some (.map a c)):(getObj b).run P w=.ok (.map a c) w:=by
 simp only[getObj,Sem.run,h]
def run_setObj_map{P:Program}{w:World}{b:Nat}{a:Array MapEntry}{c:Nat}(h:w.heap[b]? =some (.map a c))(o:Obj):(setObj b o).run P w=.ok () (setB w b o):=by
 simp only[setObj,Sem.run,h];rfl
structure MapT(P:Program)(kt:KeyT K)(t kT eT:TypeId)(z:Value):Prop where
 und:P.underlying t=some (.map kT eT)
 key:P.underlying kT=some kt.kd
 zero:zeroOf P eT=some z
def MR{P:Program}{t c l:TypeId}{z:Value}(T:MapT P kt t c l z){w:World}{b:Nat}{al:List (K×Value)}(h:MapAt kt w b al)(k:K):
  Lk P t false w (.map (some b)) (kt.enc k) ((aget al k).getD z)/\Lk P t true w (.map (some b)) (kt.enc k) (.tuple #[(aget al k).getD z,.bool (aget al k).isSome]):=by
 obtain⟨n,d,i,m,o⟩:=h;have a:∀e,(Instr.checkKey e 10000 c (kt.enc k)).run P w=.ok () w:=λe=>kt.plain P c e w T.key k;rcases Nu 0 k m with⟨f,g⟩|⟨j,v,e,f,g,-⟩
 ·simp only[Lk,Instr.lookup,Sem.run_bind,run_und T.und,Result.andThen_ok,run_getObj_map i,Sem.run_pure,a,run_findKey T.key g (al:=al),Sem.run_map,run_zero T.zero,f];constructor<;>rfl
 ·simp only[Lk,Instr.lookup,Sem.run_bind,run_und T.und,Result.andThen_ok,run_getObj_map i,Sem.run_pure,a,run_findKey T.key g (al:=al),f];constructor<;>rfl
theorem I7{a:List MapEntry}{j:Nat}{k v:Value}:(a.modify j λe=> {e with key:=k,val:=v}).map (·.born)=a.map (·.born):=by
 apply dK;intro i;simp only[au,nP];cases a[i]? with
 |none=>rfl
 |some e=>simp;split<;>rfl
def Zb{P:Program}{t p D:TypeId}{z:Value}(T:MapT P kt t p D z){w:World}{b:Nat}{al:List (K×Value)}(h:MapAt kt w b al)(k:K)(v:Value):
  ∃w1,MUp P t w (.map (some b)) (kt.enc k) v w1/\MapAt kt w1 b (aput al k v)/\Chg [b] w w1:=by
 obtain⟨n,d,i,x,y,q⟩:=h;have l:∀e,(Instr.checkKey e 10000 p (kt.enc k)).run P w=.ok () w:=λe=>kt.plain P p e w T.key k;have m:=(bG.1 i).1;rcases Nu 0 k x with⟨A,o⟩|⟨j,u,e,A,o,F,G,O,H,-⟩
 ·refine⟨setB w b (.map (n.push {key:=kt.enc k,val:=v,born:=d}) (d+1)),?_,⟨_,_,Du m,?_,?_,?_⟩,Dv _ _ _⟩
  ·simp only[MUp,Instr.mapUpdate,Sem.run_bind,run_und T.und,Result.andThen_ok,run_getObj_map i,l,run_findKey T.key o (al:=al),run_setObj_map i]
  ·rw[jO];exact reads_push x A v d
  ·rw[jO,ai,bD];refine⟨y,by simp,?_⟩;intro a J c B;simp at B;subst B;obtain⟨e,f,rfl⟩:=aT.1 J;exact Nat.ne_of_lt (q e f)
  ·intro e f;rw[jO]at f;rcases aW.1 f with f|f
   ·exact oN (q e f)
   ·simp at f;subst f;exact kU _
 ·have L:n[j]? =some e:=by simpa using F
  refine⟨setB w b (.map (n.modify j λe=> {e with key:=kt.enc k,val:=v}) d),?_,⟨_,_,Du m,?_,?_,?_⟩,Dv _ _ _⟩
  ·rw[bu]at o
   have g:(Instr.keyThatStays (kt.enc k) (kt.enc k)).run P w=.ok (kt.enc k) w:=by
    simp[Instr.keyThatStays,kt.bits]
   simp only[MUp,Instr.mapUpdate,Sem.run_bind,run_und T.und,Result.andThen_ok,run_getObj_map i,l,run_findKey T.key o (al:=al),L,dF,fB,G,g,run_setObj_map i]
  ·rw[gW];exact H v
  ·rw[gW,I7];exact y
  ·intro C r;have:C.born∈(n.modify j λe=> {e with key:=kt.enc k,val:=v}).toList.map (·.born):=aT.2 ⟨C,r,rfl⟩;rw[gW,I7]at this;obtain⟨M,s,N⟩:=aT.1 this;rw[<- N];exact q M s
def NH(a:Array MapEntry)(j:Nat):(a.eraseIdxIfInBounds j).toList=a.toList.eraseIdx j:=by
 rw[Array.eraseIdxIfInBounds];split
 ·simp
 ·rw[List.eraseIdx_of_length_le (by simpa using(by omega:a.size<=j))]
theorem ZM{P:Program}{s:Array TypeId}{ty t o F:TypeId}{z:Value}(T:MapT P kt t o F z)(d:s[0]? =some t){w:World}{b:Nat}{al:List (K×Value)}(h:MapAt kt w b al)(k:K):
  ∃w1,Del P s ty w (.map (some b)) (kt.enc k) w1/\MapAt kt w1 b (adel al k)/\Chg [b] w w1:=by
 obtain⟨y,a,f,A,B,C⟩:=h;have g:∀e,(Instr.checkKey e 10000 o (kt.enc k)).run P w=.ok () w:=λe=>kt.plain P o e w T.key k;have i:=(bG.1 f).1;rcases Nu 0 k A with⟨D,m⟩|⟨j,u,e,D,m,L,M,N,-,G⟩
 ·have c:∀(al:List (K×Value)),aget al k=none->adel al k=al:=by
   intro al
   induction al with
   |nil=>intro _;rfl
   |cons p r H=>
    obtain⟨x,u⟩:=p;intro n;simp only[aget]at n;split at n
    ·cases n
    ·rename_i q;simp only[adel,if_neg q,H n]
  refine⟨setB w b (.map y a),?_,⟨_,_,Du i,by rw[c al D];exact A,B,C⟩,Dv _ _ _⟩;simp only[Del,Builtin.delete_,d,fU,dH,bJ,Sem.run_bind,run_und T.und,Result.andThen_ok,run_getObj_map f,g,run_findKey T.key m (al:=al),run_setObj_map f,Sem.run_pure]
 ·refine⟨setB w b (.map (y.eraseIdxIfInBounds j) a),?_,⟨_,_,Du i,?_,?_,?_⟩,Dv _ _ _⟩
  ·rw[bu]at m;simp only[Del,Builtin.delete_,d,fU,dH,bJ,Sem.run_bind,run_und T.und,Result.andThen_ok,run_getObj_map f,g,run_findKey T.key m (al:=al),run_setObj_map f,Sem.run_pure]
  ·rw[NH];exact G
  ·rw[NH];exact B.sublist ((nI ..).map _)
  ·intro J l;rw[NH]at l;exact C J ((nI ..).subset l)
end
inductive Asn where
 |blk (b:Nat) (cs:List Value) (T:TypeId)
 |own (e:TypeId) (sz:Nat) (a:Option Addr) (n c:Nat) (xs:List Value)
 |imap (b:Nat) (k:IntKind) (al:List (Int×Value))
 |smap (b:Nat) (al:List (ByteArray×Value))
 |any (foot:List Nat) (p:World->Prop)
def Asn.foot:Asn->LN0
 |.blk b _ _=>[b]
 |.own _ _ a _ _ _=>blks a
 |.imap b _ _=>[b]
 |.smap b _=>[b]
 |.any f _=>f
def Asn.ok:Asn->World->Prop
 |.blk b cs T,w=>Blk w b cs T
 |.own e sz a n c xs,w=>Own w 0 e sz a n c xs
 |.imap b k al,w=>MapAt (Df k) w b al
 |.smap b al,w=>MapAt F9 w b al
 |.any f p,w=>(∀k∈f,k<w.heap.size)/\∀w',(∀k∈f,w'.heap[k]? =w.heap[k]?)->p w'
theorem Asn.Iw{a:Asn}{w:World}(h:a.ok w):∀k∈a.foot,k<w.heap.size:=by
 intro k d;cases a with
 |blk b cs T=>simp only[Asn.foot,aY]at d;subst d;exact Blk.lt h
 |own e sz a n c xs=>exact(Own.mem (show Own w 0 e sz a n c xs from h) k d).2
 |imap b i g=>simp only[Asn.foot,aY]at d;subst d;exact MapAt.lt h
 |smap b g=>simp only[Asn.foot,aY]at d;subst d;exact MapAt.lt h
 |any f p=>exact h.1 k d
def lt_of_eq{w w':World}{k:Nat}(h:k<w.heap.size)(e:w'.heap[k]? =w.heap[k]?):k<w'.heap.size:=by
 rw[eG h]at e;exact(bG.1 e).1
theorem Asn.QU{a:Asn}{w w':World}(h:a.ok w)(e:∀k∈a.foot,w'.heap[k]? =w.heap[k]?):a.ok w':=by
 cases a with
 |blk b cs T=>exact(e b (by simp[Asn.foot])).trans h
 |own N sz a n c xs=>
  refine⟨h.1,?_⟩;rcases h.2 with C|⟨g,r,D,rfl,F,H,i⟩
  ·exact .inl C
  ·exact .inr ⟨g,r,D,rfl,F,(e g (by simp[Asn.foot,blks])).trans H,i⟩
 |imap b O J=>
  obtain⟨s,d,A,j⟩:=h;exact⟨s,d,(e b (by simp[Asn.foot])).trans A,j⟩
 |smap b J=>
  obtain⟨s,d,A,j⟩:=h;exact⟨s,d,(e b (by simp[Asn.foot])).trans A,j⟩
 |any f p=>exact⟨λk l=>lt_of_eq (h.1 k l) (e k l),λK j=>h.2 K λk l=>(j k l).trans (e k l)⟩
structure Hp(B:LN0)(w0 w:World)(L:List Asn):Prop where
 chg:Chg B w0 w
 ok:∀a∈L,a.ok w
 own:∀a∈L,∀k∈a.foot,k∈B\/w0.heap.size<=k
 sep:L.Pairwise λa b=>∀k∈a.foot,k∉b.foot
def Hp.start(w:World):Hp [] w w []:=⟨Chg.refl _ _,by simp,by simp,.nil⟩
def Hp.Gn{w:World}{a:Asn}(h:a.ok w):Hp a.foot w w [a]:=⟨Chg.refl _ _,by simpa using h,by simp;intro k d;exact .inl d,by simp⟩
section
variable{B S:List Nat}{w0 w w':World}{L L1 L2 M:List Asn}{a a' x y z u v p q:Asn}
def Hp.use(H:Hp B w0 w (L1++L2))(j:Hp S w w' M)(D:∀k∈S,∃a∈L1,k∈a.foot):Hp B w0 w' (M++L2):=by
 have F:∀k∈S,k∈B\/w0.heap.size<=k:=λk g=>by
  obtain⟨a,A,C⟩:=D k g;exact H.own a (aS _ A) k C
 have i:=fK.1 H.sep
 have l:∀b∈L2,∀k∈b.foot,k∉S:=λb f k g K=>by
  obtain⟨a,A,C⟩:=D k K;exact i.2.2 a A b f k C g
 refine⟨H.chg.trans j.chg (λk g=>g) F,?_,?_,?_⟩
 ·intro b f;rcases aW.1 f with f|f
  ·exact j.ok b f
  ·have r:=H.ok b (aO _ f);exact Asn.QU r λk g=>j.chg.2.2.2.2 k (Asn.Iw r k g) (l b f k g)
 ·intro b f k g;rcases aW.1 f with f|f
  ·rcases j.own b f k g with h|h
   ·exact F k h
   ·exact .inr (fH H.chg.size h)
  ·exact H.own b (aO _ f) k g
 ·refine fK.2 ⟨j.sep,i.2.1,λb f d J k g s=>?_⟩;rcases j.own b f k g with h|h
  ·exact l d J k s h
  ·have:=Asn.Iw (H.ok d (aO _ J)) k s;omega
def Hp.ext(H:Hp B w0 w L)(d:Hp [] w w' M):Hp B w0 w' (M++L):=Hp.use (L1:=[]) H d (by simp)
def Hp.ext0(H:Hp B w0 w L)(d:Hp [] w w' []):Hp B w0 w' L:=Hp.use (L1:=[]) H d (by simp)
def Hp.ext1(H:Hp B w0 w L)(d:Hp [] w w' [x]):Hp B w0 w' (x::L):=Hp.use (L1:=[]) H d (by simp)
def Hp.use1(H:Hp B w0 w (a::L))(d:Hp a.foot w w' M):Hp B w0 w' (M++L):=Hp.use (L1:=[a]) H d (by simp)
def Hp.Ba(H:Hp B w0 w (a::L))(d:Hp a.foot w w' [x]):Hp B w0 w' (x::L):=Hp.use (L1:=[a]) H d (by simp)
def Hp.chg0(H:Hp B w0 w L)(h:Chg [] w w'):Hp B w0 w' L:=H.ext0 ⟨h,by simp,by simp,.nil⟩
def Hp.set(H:Hp B w0 w (a::L))(h:Chg a.foot w w')(d:a'.ok w')(f:∀k∈a'.foot,k∈a.foot\/w.heap.size<=k):Hp B w0 w' (a'::L):=
 H.Ba ⟨h,by simpa using d,by simpa using f,by simp⟩
def Hp.add(H:Hp B w0 w L)(h:Chg [] w w')(d:a'.ok w')(f:∀k∈a'.foot,w.heap.size<=k):Hp B w0 w' (a'::L):=
 H.ext1 ⟨h,by simpa using d,by simp;intro k g;exact f k g,by simp⟩
def Hp.perm(H:Hp B w0 w L)(h:L.Perm M):Hp B w0 w M:=
 ⟨H.chg,λa d=>H.ok a (h.mem_iff.2 d),λa d=>H.own a (h.mem_iff.2 d),(h.pairwise_iff (λg k i f=>g k f i)).1 H.sep⟩
def Hp.drop(H:Hp B w0 w (a::L)):Hp B w0 w L:=⟨H.chg,λb d=>H.ok b (.tail _ d),λb d=>H.own b (.tail _ d),(bH.1 H.sep).2⟩
def Hp.drop1(H:Hp B w0 w (x::a::L)):Hp B w0 w (x::L):=(H.perm (.swap a x L)).drop
def Hp.done(H:Hp B w0 w L):Hp B w0 w []:=⟨H.chg,by simp,by simp,.nil⟩
def Hp.MI(H:Hp B w0 w (x::L)):Hp B w0 w [x]:=⟨H.chg,λb d=>H.ok b (by simp at d;simp[d]),λb d=>H.own b (by simp at d;simp[d]),by simp⟩
def Hp.AX(H:Hp B w0 w (x::a::L)):Hp B w0 w (a::x::L):=H.perm (.swap a x L)
def Hp.Am(H:Hp B w0 w (x::y::a::L)):Hp B w0 w (a::x::y::L):=H.perm (((List.Perm.swap a y L).cons x).trans (.swap a x _))
def EX(L1:List Asn)(a:Asn)(L:List Asn):(L1++a::L).Perm (a::(L1++L)):=bI
def Hp.EQ(H:Hp B w0 w (x::y::z::a::L)):Hp B w0 w (a::x::y::z::L):=H.perm (EX [x,y,z] a L)
def Hp.Ij(H:Hp B w0 w (x::y::z::u::a::L)):Hp B w0 w (a::x::y::z::u::L):=H.perm (EX [x,y,z,u] a L)
def Hp.Zt(H:Hp B w0 w (x::y::z::u::v::a::L)):Hp B w0 w (a::x::y::z::u::v::L):=H.perm (EX [x,y,z,u,v] a L)
def Hp.pull6(H:Hp B w0 w (x::y::z::u::v::p::a::L)):Hp B w0 w (a::x::y::z::u::v::p::L):=H.perm (EX [x,y,z,u,v,p] a L)
def Hp.del1(H:Hp B w0 w (x::a::L)):Hp B w0 w (x::L):=(H.AX).drop
def Hp.del2(H:Hp B w0 w (x::y::a::L)):Hp B w0 w (x::y::L):=(H.Am).drop
end
structure Eqw(w w':World):Prop where
 heap:w'.heap=w.heap
 os:w'.os=w.os
 tape:w'.tape=w.tape
 output:w'.output=w.output
def EQ4{w w':World}(a:w'.heap=w.heap:=by exact rfl)(b:w'.os=w.os:=by exact rfl)(c:w'.tape=w.tape:=by exact rfl)(d:w'.output=w.output:=by exact rfl):Eqw w w':=⟨a,b,c,d⟩
def Eqw.chg{w w':World}(e:Eqw w w'):Chg [] w w':=⟨e.os,e.tape,e.output,by rw[e.heap];exact aZ _,λk _ _=>by rw[e.heap]⟩
def Hp.go{B:LN0}{w0 w w':World}{L:List Asn}(H:Hp B w0 w L)(e:Eqw w w'):Hp B w0 w' L:=H.chg0 e.chg
def Hp.drew{B:LN0}{w0 w:World}{L:List Asn}(H:Hp B w0 w L):Hp B w0 w.drew L:=H.go ⟨rfl,rfl,rfl,rfl⟩
structure Scl(P:Program)(t:TypeId):Prop where
 agg:aggB P t=some false
 size:sizeV P t=some 1
structure Agg(P:Program)(t:TypeId)(n:Nat):Prop where
 agg:aggB P t=some true
 size:sizeV P t=some n
def sclB(P:Program)(t:TypeId):Bool:=match aggB P t,sizeV P t with
 |some false,some 1=>true
 |_,_=>false
def sagB(P:Program)(t n:Nat):Bool:=match aggB P t,sizeV P t with
 |some true,some m=>Nat.beq m n
 |_,_=>false
def BN{P:Program}{t:TypeId}(h:sclB P t=true):Scl P t:=by
 unfold sclB at h;split at h
 ·exact⟨by assumption,by assumption⟩
 ·cases h
def DF{P:Program}{t n:Nat}(h:sagB P t n=true):Agg P t n:=by
 unfold sagB at h;split at h
 ·rename_i d f;have:=dW h;subst this;exact⟨d,f⟩
 ·cases h
section
variable{P:Program}{B:List Nat}{w0 w w':World}{L:List Asn}{b o n:Nat}{cs:List Value}{T t:TypeId}
def Hp.new(H:Hp B w0 w L)(e:Eqw w w'){w1:World}(h:New w' (.cells cs.toArray T) b w1):Hp B w0 w1 (.blk b cs T::L):=
 (H.go e).add h.chg h.cells (by simp[Asn.foot];exact h.num▸aZ _)
def Hp.newI(H:Hp B w0 w L)(e:Eqw w w'){w1:World}(k:IntKind)(h:New w' (.map #[] 0) b w1):Hp B w0 w1 (.imap b k []::L):=
 (H.go e).add h.chg (MapAt.new h) (by simp[Asn.foot];exact h.num▸aZ _)
def Hp.newS(H:Hp B w0 w L)(e:Eqw w w'){w1:World}(h:New w' (.map #[] 0) b w1):Hp B w0 w1 (.smap b []::L):=
 (H.go e).add h.chg (MapAt.new h) (by simp[Asn.foot];exact h.num▸aZ _)
def Hp.blk(H:Hp B w0 w L)(m:Asn.blk b cs T∈L):Blk w b cs T:=H.ok _ m
def Hp.ownA{e:TypeId}{sz:Nat}{a:OA}{n c:Nat}{xs:LV}(H:Hp B w0 w L)(m:Asn.own e sz a n c xs∈L):Own w 0 e sz a n c xs:=H.ok _ m
def Hp.ld(H:Hp B w0 w L)(e:Eqw w w')(S:Scl P t)(m:Asn.blk b cs T∈L){v:Value}(d:cs[o]? =some v):Ld P t w' ⟨b,o,none⟩ v:=
 Blk.ld ((H.go e).blk m) S.agg d
def Hp.ldA(H:Hp B w0 w L)(e:Eqw w w')(S:Agg P t n)(m:Asn.blk b cs T∈L){vs:LV}(d:(cs.drop o).take n=vs)(f:vs.length=n):Ld P t w' ⟨b,o,none⟩ (.agg vs.toArray):=by
 subst f;exact Blk.ldA ((H.go e).blk m) S.agg S.size d
def Hp.st(H:Hp B w0 w (.blk b cs T::L))(e:Eqw w w')(S:Scl P t){v:Value}{G:WP}(d:v.cells= #[v])(f:v.oneCell'=true)(h:o<cs.length){cs':LV}(i:cs.set o v=cs')
  (k:∀w1,Hp B w0 w1 (.blk b cs' T::L)->G w1):∃w1,St P t w' ⟨b,o,none⟩ v w1/\G w1:=by
 obtain⟨w1,f,g,j⟩:=Blk.st ((H.go e).blk (.head _)) (by rw[d];exact S.size) (by rw[d];simpa using f) (by rw[d];exact h);refine⟨w1,f,k w1 ((H.go e).set j ?_ (λk l=>.inl l))⟩;rw[d]at g;rw[<- i]
 have r:over #[v].toList o cs=cs.set o v:=by
  rw[show #[v].toList=[v]from rfl,over_cons v [] o cs h,over_nil]
 rw[r]at g;exact g
def Hp.stA(H:Hp B w0 w (.blk b cs T::L))(e:Eqw w w')(S:Agg P t n){vs:LV}{G:WP}(f:vs.length=n)(d:vs.all (·.oneCell')=true)(g:o+n<=cs.length){cs':LV}(h:over vs o cs=cs')
  (k:∀w1,Hp B w0 w1 (.blk b cs' T::L)->G w1):∃w1,St P t w' ⟨b,o,none⟩ (.agg vs.toArray) w1/\G w1:=by
 subst f;obtain⟨w1,d,i,j⟩:=Blk.st ((H.go e).blk (.head _)) (v:=.agg vs.toArray) (by simpa [Value.cells]using S.size) (by simpa [Value.cells]using d) (by simpa [Value.cells]using g);refine⟨w1,d,k w1 ((H.go e).set j ?_ (λk l=>.inl l))⟩;rw[<- h];exact i
variable{tx ty e:TypeId}{sz by_:Nat}{a:Option Addr}{c m:Nat}{xs news:List Value}{x:Value}{G:Option Addr->Nat->Nat->World->Prop}
def Hp.sx(H:Hp B w0 w (.blk b cs T::L))(S:Scl P t){v:Value}{G:WP}(k:∀w1,Hp B w0 w1 (.blk b (cs.set o v) T::L)->G w1)(e:Eqw w w':=by exact⟨rfl,rfl,rfl,rfl⟩)(d:v.cells= #[v]:=by exact rfl)(f:v.oneCell'=true:=by exact rfl)(g:o<cs.length:=by exact je rfl):∃w1,St P t w' ⟨b,o,none⟩ v w1/\G w1:=Hp.st H e S d f g rfl k
def Hp.sxA(H:Hp B w0 w (.blk b cs T::L))(S:Agg P t n){vs:LV}{G:WP}(k:∀w1,Hp B w0 w1 (.blk b (over vs o cs) T::L)->G w1)(e:Eqw w w':=by exact⟨rfl,rfl,rfl,rfl⟩)(d:vs.length=n:=by exact rfl)(f:vs.all (·.oneCell')=true:=by exact rfl)(g:o+n<=cs.length:=by exact je rfl):∃w1,St P t w' ⟨b,o,none⟩ (.agg vs.toArray) w1/\G w1:=Hp.stA H e S d f g rfl k
def Hp.app(T:Elt P t e sz by_)(f:0<sz)(H:Hp B w0 w (.own e sz a n c xs::L))(i:Eqw w w')(l:Src P sz tx x m news w')(g:n+m<=maxLen)(h:(n+m)*by_<=140737488355328)
  (k:∀a' c' w1,Hp B w0 w1 (.own e sz a' (n+m) c' (xs++news)::L)->G a' (n+m) c' w1):
  ∃a' j c' w1,App P #[t,tx] ty w' (.slice a n c) x (.slice a' j c') w1/\G a' j c' w1:=by
 have d:Own w' 0 e sz a n c xs:=(H.go i).ok _ (.head _);obtain⟨a',c',w1,r,s,A,C⟩:=Zl (ty:=ty) T f d l g h (bY _);exact⟨a',_,c',w1,r,k a' c' w1 ((H.go i).set A s C)⟩
end
def Blk.src{P:Program}{w:World}{b:Nat}{cs:LV}{T tx e':TypeId}{sz n c:Nat}(d:P.underlying tx=some (.slice e'))(h:Blk w b cs T)(f:cs.length=n*sz)(g:cs.all (·.oneCell')=true):Src P sz tx (.slice (sP0 b) n c) n cs w:=
 Src.ofSlice w d ⟨b,0,none⟩ n c cs f (λj u i=>by rw[add_lit];exact h.cell (by simpa using i)) (λu l=>fJ.1 g u l)
theorem Cells.src{P:Program}{w:World}{a:OA}{cs:LV}{tx e':TypeId}{sz n c:Nat}(d:P.underlying tx=some (.slice e'))(h:Cells w a cs)(f:cs.length=n*sz)(g:∀u∈cs,u.oneCell'=true)(i:a=none->n=0):Src P sz tx (.slice a n c) n cs w:=by
 cases a with
 |none=>
  have:=i rfl;subst this;have:cs=[]:=bC (by simpa using f);subst this;exact Src.ofNil w d c
 |some l=>exact Src.ofSlice w d l n c cs f (λj u r=>by obtain⟨s,A,C⟩:=h j u r;cases A;exact C) g
section
variable{P:Program}{B:List Nat}{w0 w w':World}{L:List Asn}
def Hp.s2b{src d e:TypeId}{s:ByteArray}(H:Hp B w0 w L)(h:Eqw w w')(i:P.underlying src=some .string)(j:P.underlying d=some (.slice e))(l:P.underlying e=some (.int .u8))(r:s.size<=maxLen)
  {G:OA->Nat->Nat->World->Prop} (k:∀a c w1,Hp B w0 w1 (.own e 1 a s.size c (byteCells s)::L)->G a s.size c w1):
  ∃a n c w1,S2B P src d w' (.string s) (.slice a n c) w1/\G a n c w1:=by
 refine⟨_,_,_,_,run_bytes_of_string w' src d e s i j l,k _ _ _ ((H.go h).add ?_ ?_ ?_)⟩
 ·exact⟨rfl,rfl,rfl,by simp,λk f _=>alloc_old w'.drew _ k f⟩
 ·refine⟨by rw[byteCells_length,bT],.inr ⟨_,_,_,rfl,bY _,Hu w'.drew _,Thaw.behind _ _,grownCap_ge _ _ _ _,grownCap_le_maxLen _ _ _ _ r,?_,?_⟩⟩
  ·have:=grownCap_ge w' s.size 0 e;simp only[bytesRow,ji,Array.size_map,Array.size_replicate,bT];have g:s.data.size=s.size:=rfl;omega
  ·have g:(byteCells s).length=s.size:=byteCells_length s;rw[bT,bytesRow,jy,kR,<- g];exact iP rfl
 ·intro k f;simp[Asn.foot,blks]at f;subst f;exact aZ _
theorem b2s{src f e:TypeId}{a:OA}{n c:Nat}{s:ByteArray}(l:P.underlying src=some (.slice e))(A:P.underlying e=some (.int .u8))(C:P.underlying f=some .string)(D:Cells w a (byteCells s))(H:n=s.size):
  B2S P src f w (.slice a n c) (.string s):=by
 subst H;cases a with
 |none=>
  have:byteCells s=[]:=by
   cases h:byteCells s with
   |nil=>rfl
   |cons v r=>obtain⟨F,g,_⟩:=D 0 v (by rw[h];rfl);cases g
  have J:s=ByteArray.empty:=by
   have i:s.data.toList=[]:=by simpa [byteCells]using this
   obtain⟨d⟩:=s;have:d= #[]:=by apply oH;simpa using i
   subst this;rfl
  subst J;exact run_convert_bytes_nil w src e l A _ _ f C
 |some F=>
  have:=run_convert_bytes_back w src f e F c s.data.toList l A C (λj K=>by
   have i:(byteCells s)[j]? =some (.int .u8 (s.data.toList[j].toNat:Int)):=by
    simp[byteCells,au,aB K]
   obtain⟨N,g,O⟩:=D j _ i;cases g;exact O)
  rw[show(s.data.toList.toArray)=s.data by simp]at this;simpa [B2S,bP]using this
def Hp.mkS{t e:TypeId}{sz by_:Nat}{j kc:IntKind}{n:Int}(T:Elt P t e sz by_)(H:Hp B w0 w L)(D:Eqw w w')(F:0<=n)(r:n.toNat<=maxLen)(g:(by_:Int)*n<=281474976710656){z:Value}(s:zeroOf P e=some z)
  {G:OA->Nat->Nat->World->Prop} (k:∀a w1,Hp B w0 w1 (.own e sz a n.toNat n.toNat (madeCells z.cells (n.toNat*sz)).toList::L)->G a n.toNat n.toNat w1):
  ∃a l c w1,MkS P t w' (.int j n) (.int kc n) (.slice a l c) w1/\G a l c w1:=by
 obtain⟨J,i,A,C,d,rfl,rfl,K⟩:=T
 have h:A=z:=by
  simp only[zeroOf,C,d,Option.some.injEq]at s;exact s
 subst h;refine⟨_,_,_,_,run_make w' t e i A J C d j kc n n F (iQ _) g (by simp only[maxLen]at r;omega),k _ _ ((H.go D).add ?_ ?_ ?_)⟩
 ·exact⟨rfl,rfl,rfl,by simp,λk f _=>alloc_old w' _ k f⟩
 ·refine⟨by rw[bP,size_madeCells],.inr ⟨_,_,_,rfl,bY _,Hu w' _,Thaw.zero _,aZ _,r,jb (size_madeCells _ _).symm,?_⟩⟩;rw[aV];rw[bP,size_madeCells];exact aZ _
 ·intro k f;simp[Asn.foot,blks]at f;subst f;exact aZ _
end
section
variable{P:Program}{B:List Nat}{w0 w w':World}{L:List Asn}{t kT eT:TypeId}{z v:Value}{b:Nat}
def Hp.lkI{k:IntKind}{al:List (Int×Value)}(T:MapT P (Df k) t kT eT z)(H:Hp B w0 w L)(e:Eqw w w')(m:Asn.imap b k al∈L){x:Int}(d:(aget al x).getD z=v):Lk P t false w' (.map (some b)) (.int k x) v:=by
 subst d;exact(MR T ((H.go e).ok _ m) x).1
def Hp.ML{k:IntKind}{al:List (Int×Value)}(T:MapT P (Df k) t kT eT z)(H:Hp B w0 w L)(e:Eqw w w')(m:Asn.imap b k al∈L){x:Int}{o:Bool}(d:(aget al x).getD z=v)(f:(aget al x).isSome=o):Lk P t true w' (.map (some b)) (.int k x) (.tuple #[v,.bool o]):=by
 subst d;subst f;exact(MR T ((H.go e).ok _ m) x).2
def Hp.lkS{al:List (ByteArray×Value)}(T:MapT P F9 t kT eT z)(H:Hp B w0 w L)(e:Eqw w w')(m:Asn.smap b al∈L){x:ByteArray}(d:(aget al x).getD z=v):Lk P t false w' (.map (some b)) (.string x) v:=by
 subst d;exact(MR T ((H.go e).ok _ m) x).1
def Hp.VQ{al:List (ByteArray×Value)}(T:MapT P F9 t kT eT z)(H:Hp B w0 w L)(e:Eqw w w')(m:Asn.smap b al∈L){x:ByteArray}{o:Bool}(d:(aget al x).getD z=v)(f:(aget al x).isSome=o):Lk P t true w' (.map (some b)) (.string x) (.tuple #[v,.bool o]):=by
 subst d;subst f;exact(MR T ((H.go e).ok _ m) x).2
def Hp.mupI{k:IntKind}{al:List (Int×Value)}(T:MapT P (Df k) t kT eT z)(H:Hp B w0 w (.imap b k al::L))(e:Eqw w w'){x:Int}{G:WP}
  (kk:∀w1,Hp B w0 w1 (.imap b k (aput al x v)::L)->G w1):∃w1,MUp P t w' (.map (some b)) (.int k x) v w1/\G w1:=by
 obtain⟨w1,d,f,g⟩:=Zb T ((H.go e).ok _ (.head _)) x v;exact⟨w1,d,kk w1 ((H.go e).set g f λk h=>.inl h)⟩
def Hp.mupS{al:List (ByteArray×Value)}(T:MapT P F9 t kT eT z)(H:Hp B w0 w (.smap b al::L))(e:Eqw w w'){x:ByteArray}{G:WP}
  (kk:∀w1,Hp B w0 w1 (.smap b (aput al x v)::L)->G w1):∃w1,MUp P t w' (.map (some b)) (.string x) v w1/\G w1:=by
 obtain⟨w1,d,f,g⟩:=Zb T ((H.go e).ok _ (.head _)) x v;exact⟨w1,d,kk w1 ((H.go e).set g f λk h=>.inl h)⟩
end
def Hp.front{B:LN0}{w0 w:World}{L:List Asn}{e:TypeId}{sz:Nat}{a:OA}{n c F:Nat}{xs:LV}(H:Hp B w0 w (.own e sz a n c xs::L))(d:F<=n):Hp B w0 w (.own e sz a F F (xs.take (F*sz))::L):=
 H.set (Chg.refl _ _) (Own.front (H.ok _ (.head _)) d) (λk f=>.inl f)
def Own.nil'(e:TypeId)(sz:Nat)(w:World):(Asn.own e sz none 0 0 []).ok w:=Own.nil w 0 e sz
def Hp.nilS{B:LN0}{w0 w:World}{L:List Asn}(H:Hp B w0 w L)(e:TypeId)(sz:Nat):Hp B w0 w (.own e sz none 0 0 []::L):=
 H.add (Chg.refl _ _) (Own.nil' e sz w) (by simp[Asn.foot,blks])
def Hp.lo{P:Program}{B:LN0}{w0 w w':World}{L:List Asn}{b o:Nat}{cs:LV}{T t:TypeId}(H:Hp B w0 w L)(S:Scl P t){v:Value}(e:Eqw w w':=by exact ⟨rfl,rfl,rfl,rfl⟩)(m:Asn.blk b cs T∈L:=by repeat first|exact .head _|refine .tail _ ?_)(d:cs[o]? =some v:=by exact rfl):Ld P t w' ⟨b,o,none⟩ v:=Hp.ld H e S m d
def Hp.loA{P:Program}{B:LN0}{w0 w w':World}{L:List Asn}{b o n:Nat}{cs:LV}{T t:TypeId}(H:Hp B w0 w L)(S:Agg P t n){vs:LV}(e:Eqw w w':=by exact ⟨rfl,rfl,rfl,rfl⟩)(m:Asn.blk b cs T∈L:=by repeat first|exact .head _|refine .tail _ ?_)(d:(cs.drop o).take n=vs:=by exact rfl)(f:vs.length=n:=by exact rfl):Ld P t w' ⟨b,o,none⟩ (.agg vs.toArray):=Hp.ldA H e S m d f
def Hp.nw{B:LN0}{w0 w w':World}{L:List Asn}{b:Nat}{cs:LV}{T:TypeId}(H:Hp B w0 w L){w1:World}(h:New w' (.cells cs.toArray T) b w1)(e:Eqw w w':=by exact ⟨rfl,rfl,rfl,rfl⟩):Hp B w0 w1 (.blk b cs T::L):=Hp.new H e h
def Hp.sA{P:Program}{B:LN0}{w0 w w':World}{L:List Asn}{b o n:Nat}{cs:LV}{T t:TypeId}(H:Hp B w0 w (.blk b cs T::L))(S:Agg P t n){vs:LV}{G:WP}{cs':LV}(k:∀w1,Hp B w0 w1 (.blk b cs' T::L)->G w1)(e:Eqw w w':=by exact ⟨rfl,rfl,rfl,rfl⟩)(d:vs.length=n:=by exact rfl)(f:vs.all (·.oneCell')=true:=by exact rfl)(g:o+n<=cs.length:=by simp)(h:over vs o cs=cs':=by exact rfl):∃w1,St P t w' ⟨b,o,none⟩ (.agg vs.toArray) w1/\G w1:=Hp.stA H e S d f g h k
def Hp.s1{P:Program}{B:LN0}{w0 w w':World}{L:List Asn}{b o:Nat}{cs:LV}{T t:TypeId}(H:Hp B w0 w (.blk b cs T::L))(S:Scl P t){v:Value}{G:WP}{cs':LV}(k:∀w1,Hp B w0 w1 (.blk b cs' T::L)->G w1)(e:Eqw w w':=by exact ⟨rfl,rfl,rfl,rfl⟩)(d:v.cells=#[v]:=by exact rfl)(f:v.oneCell'=true:=by exact rfl)(g:o<cs.length:=by simp)(h:cs.set o v=cs':=by exact rfl):∃w1,St P t w' ⟨b,o,none⟩ v w1/\G w1:=Hp.st H e S d f g h k
def bt(n:Int)(k:Nat):UInt8:=UInt8.ofNat ((n/2^(8*k))%256).toNat
def be(n:Int):Nat->LU
 |0=>[]
 |k+1=>bt n k::be n k
theorem AU(n:Int)(k:Nat):(be n k).length=k:=by
 induction k with
 |zero=>rfl
 |succ k a=>simp[be,a]
def Aa(l:LU):LV:=l.map λb=>Value.int .u8 (b.toNat:Int)
def sv(l:LU):Value:=.string ⟨l.toArray⟩
def Cm(a b:LU):Aa (a++b)=Aa a++Aa b:=by simp[Aa]
def Af(a:LU):(Aa a).length=a.length:=by simp[Aa]
def Cj(l:LU):byteCells ⟨l.toArray⟩=Aa l:=by simp[byteCells,Aa]
def Hm(s:ByteArray):byteCells s=Aa s.data.toList:=rfl
def FT(x:Int):IntKind.u8.wrap x=x%256:=by
 simp[IntKind.wrap,IntKind.signed,IntKind.bits]
def Rh(n:Int)(k:Nat):((bt n k).toNat:Int)=(n/2^(8*k))%256:=by
 have a:0<=(n/2^(8*k))%256:=Int.emod_nonneg _ om;have b:(n/2^(8*k))%256<256:=oI _ om;rw[bt]
 have:(UInt8.ofNat ((n/2^(8*k))%256).toNat).toNat=((n/2^(8*k))%256).toNat:=by
  rw[oJ];exact kV om
 rw[this];omega
def Oq(i:Int)(m:Nat)(h:m<8)(j:Int)(a:j=m):IntKind.u8.wrap (Int.fdiv i ((2:Int)^min (Int.toNat ((8:Int)*j)) (IntKind.bits IntKind.i64)))=((bt i m).toNat:Int):=by
 subst a;rw[FT,Rh];have b:Int.toNat ((8:Int)*(m:Int))=8*m:=om;have c:min (8*m) (IntKind.bits IntKind.i64)=8*m:=by simp only[IntKind.bits];omega
 rw[b,c,jm _ (oO (Int.pow_pos om))]
def add_add(a:Addr)(i j:Nat):(a.add i).add j=a.add (i+j):=by
 obtain⟨b,o,s⟩:=a;by_cases c:i=0<;>by_cases d:j=0<;>simp[Addr.add,c,d,jQ]
def Cells.slA{w:World}{a:OA}{xs:LV}(h:Cells w a xs){c i:Nat}(f:xs.length<=c):Cells w (slA a c i 1) (xs.drop i):=by
 intro j v d;rw[eF]at d;obtain⟨g,rfl,b⟩:=h _ v d;have e:=(aA.1 d).1;unfold Go.Vc.slA;rw[if_neg om];exact⟨_,rfl,by rw[add_add,bT];exact b⟩
def Cells.take{w:World}{a:OA}{xs:LV}(h:Cells w a xs)(i:Nat):Cells w a (xs.take i):=by
 intro j v b;rw[fF]at b;split at b
 ·exact h j v b
 ·cases b
def NQ(l:LU):∀u∈Aa l,u.oneCell'=true:=by
 intro u a;obtain⟨_,_,rfl⟩:=aT.1 a;rfl
def QW(l:LU)(n:Nat):Aa (l.drop n)=(Aa l).drop n:=by simp[Aa,jd]
def QT(l:LU)(n:Nat):Aa (l.take n)=(Aa l).take n:=by simp[Aa,iC]
def Own.pos{w:World}{e:TypeId}{sz:Nat}{a:OA}{n c:Nat}{xs:LV}(h:Own w 0 e sz a n c xs)(b:n≠0):a≠none:=by
 rcases h.2 with⟨_,d,_⟩|⟨g,f,i,rfl,_⟩
 ·exact absurd d b
 ·simp
def Kw(l:LV)(o:Nat)(cs:LV)(h:o+l.length<=cs.length):(over l o cs).length=cs.length:=over_length _ _ _ h
def Nq(l:LV)(o:Nat)(cs:LV)(n:Nat)(h:o+l.length<=n)(f:n<=cs.length):(over l o cs).take n=over l o (cs.take n):=by
 apply dK;intro k;have d:o+l.length<=(cs.take n).length:=by rw[aI];omega
 rw[fF,IK l o cs om,IK l o (cs.take n) d,fF];by_cases b:k<n
 ·rw[if_pos b,if_pos b]
 ·rw[if_neg b,if_neg b,if_neg om]
def Own.st{P:Program}{t:TypeId}{w:World}{e:TypeId}{sz:Nat}{a:OA}{n c:Nat}{xs:LV}(h:Own w 0 e sz a n c xs){x:Addr}(y:a=some x){o:Nat}{v:Value}(C:sizeV P t=some v.cells.size)(D:v.cells.toList.all (·.oneCell')=true)(O:o+v.cells.size<=xs.length):
  ∃w1,St P t w (x.add o) v w1/\Own w1 0 e sz a n c (over v.cells.toList o xs)/\Chg (blks a) w w1:=by
 have d:=h.1;rcases h.2 with⟨rfl,_⟩|⟨g,b,q,rfl,F,z,A,f,r,s,G⟩
 ·cases y
 cases y;have H:n*sz<=c*sz:=dE _ f;have i:w.heap[g]? =some (.cells b.toList.toArray e q):=by simpa using z
 have m:b.toList.length=b.size:=bP;have J:v.cells.toList.length=v.cells.size:=bP;have p:=Cf (P:=P) (fz:=q) v.cells.toList w b.toList ⟨g,o,none⟩ o 0 rfl (λj=>by simp[add_lit]) i om (λk R T=>A k om) (λu K=>fJ.1 D u K)
 have M:(storeVar t ((⟨g,0,none⟩:Addr).add o) v).run P w=(storeCells ⟨g,o,none⟩ v.cells.toList).run P w:=by
  rw[add_lit,bu];simp only[storeVar,Sem.run_bind,run_size C,Result.andThen_ok];rw[if_neg (by simp)]
 refine⟨_,M.trans p,?_,?_⟩
 ·split
  ·rename_i N;rw[N,over_nil];exact h
  ·refine⟨by rw[Kw _ _ _ om];exact d,.inr ⟨g,_,q,rfl,F,Du (bG.1 z).1,?_,f,r,?_,?_⟩⟩
   ·rw[dR,Kw _ _ _ om,m];exact A
   ·rw[dR,Kw _ _ _ om,m];exact s
   ·simp;rw[Nq _ _ _ _ om om,G]
 ·split
  ·exact Chg.refl _ _
  ·exact Dv _ _ _
def Cells.ldA{P:Program}{w:World}{a:OA}{xs:LV}(h:Cells w a xs){t:TypeId}{n:Nat}(T:Agg P t n){d:Addr}(f:a=some d){o:Nat}{vs:LV}(g:(xs.drop o).take n=vs)(i:vs.length=n):Ld P t w (d.add o) (.agg vs.toArray):=by
 subst i f;refine WU T.agg T.size λj v b=>?_;rw[add_add]
 obtain⟨m,p,q⟩:=h (o+j) v (by
  rw[<- g,fF]at b;split at b
  ·simpa using b
  ·cases b)
 cases p;exact q
def Cells.ld{P:Program}{w:World}{a:OA}{xs:LV}(h:Cells w a xs){t:TypeId}(T:Scl P t){b:Addr}(d:a=some b){o:Nat}{v:Value}(f:xs[o]? =some v):Ld P t w (b.add o) v:=by
 subst d;obtain⟨g,i,j⟩:=h o v f;cases i;exact Ny T.agg j
theorem Cells.some{w:World}{a:OA}{xs:LV}(h:Cells w a xs)(d:xs≠[]):∃b,a=some b:=by
 cases xs with
 |nil=>exact absurd rfl d
 |cons v r=>obtain⟨b,e,_⟩:=h 0 v rfl;exact⟨b,e⟩
section
variable{P:Program}{B:List Nat}{w0 w w':World}{L:List Asn}{e t:TypeId}{sz:Nat}{a:Option Addr}{n c o:Nat}{xs:List Value}{v:Value}
def Hp.stO(H:Hp B w0 w (.own e sz a n c xs::L))(b:Eqw w w'){d:Addr}(g:a=some d)(h:sizeV P t=some v.cells.size)(i:v.cells.toList.all (·.oneCell')=true)(j:o+v.cells.size<=xs.length){xs':LV}(m:over v.cells.toList o xs=xs'){G:WP}
  (k:∀w1,Hp B w0 w1 (.own e sz a n c xs'::L)->G w1):∃w1,St P t w' (d.add o) v w1/\G w1:=by
 obtain⟨w1,p,f,q⟩:=Own.st ((H.go b).ok _ (.head _)) g h i j;rw[m]at f;exact⟨w1,p,k w1 ((H.go b).set q f λk r=>.inl r)⟩
end
def over1(v:Value)(o:Nat)(xs:LV)(h:o<xs.length):over [v] o xs=xs.set o v:=by
 rw[over_cons v [] o xs h,over_nil]
section
variable{P:Program}{B:List Nat}{w0 w w':World}{L:List Asn}{e t:TypeId}{sz:Nat}{a:Option Addr}{n c o:Nat}{xs:List Value}{v:Value}
def Hp.stO1(H:Hp B w0 w (.own e sz a n c xs::L))(g:Eqw w w')(T:Scl P t){d:Addr}(h:a=some d)(b:v.cells= #[v])(i:v.oneCell'=true)(f:o<xs.length){G:WP}
  (k:∀w1,Hp B w0 w1 (.own e sz a n c (xs.set o v)::L)->G w1):∃w1,St P t w' (d.add o) v w1/\G w1:=
 Hp.stO H g h (by rw[b];exact T.size) (by rw[b];simpa using i) (by rw[b];exact f) (by rw[b];exact over1 v o xs f) k
end
def objA(l:Nat)(o:Obj):Asn:=.any [l] λw=>w.heap[l]? =some o
def Qp{l:Nat}{o:Obj}{w:World}(h:w.heap[l]? =some o):(objA l o).ok w:=
 ⟨λk b=>by rw[aY]at b;subst b;exact(bG.1 h).1,λw' d=>(d l (by simp)).trans h⟩
section
variable{P:Program}{B:List Nat}{w0 w w' w1:World}{L:List Asn}{l:Nat}{o o':Obj}
def Hp.obj(H:Hp B w0 w L)(m:objA l o∈L):w.heap[l]? =some o:=(H.ok _ m).2 w λ_ _=>rfl
def Hp.newO(H:Hp B w0 w L)(e:Eqw w w')(h:New w' o l w1):Hp B w0 w1 (objA l o::L):=
 (H.go e).add h.chg (Qp h.blk) (by intro k b;simp[objA,Asn.foot]at b;subst b;exact h.num▸aZ _)
def Hp.putO(H:Hp B w0 w (objA l o::L)):Hp B w0 (w.putObj l o') (objA l o'::L):=by
 have b:l<w.heap.size:=(bG.1 (H.obj (.head _))).1;exact H.set (Dv w l o') (Qp (World.putObj_heap_same b)) (λk d=>.inl d)
def Hp.shut(H:Hp B w0 w (objA l (.deferred (some []))::L)){G:WP}(k:∀w1,Hp B w0 w1 L->G w1):∃w1,ShutD w l w1/\G w1:=
 ⟨_,⟨H.obj (.head _),rfl⟩,k _ (H.putO (o':=.deferred none)).drop⟩
end
def Y3{P:Program}{b:Value}{args:LV}{w:World}{R d:EW}(h:CallX P b args w R)(f:∀e w',R e w'->d e w'):CallX P b args w d:=callX_mono f h
def Ef(es:Array MapEntry)(seen:Array Nat):List MapEntry:=es.toList.filter λe=> !seen.contains e.born
def QV(es:Array MapEntry):Ef es #[]=es.toList:=by
 simp[Ef]
theorem Uf:∀{l:List MapEntry}{e:MapEntry},e∈l->(l.map (·.born)).Nodup->l.Perm (e::l.filter λx=> !decide (x.born=e.born))
 |x::r,e,h,hn=>by
  simp only[aj,bM]at hn;rw[dL];by_cases d:x.born=e.born
  ·have f:x=e:=by
    rcases aP.1 h with rfl|h
    ·rfl
    ·exact absurd (d▸aT.2 ⟨e,h,rfl⟩) hn.1
   subst f;simp only[decide_true,ni,jD,if_false];refine List.Perm.cons _ ?_;rw[gX.2];intro y g;have:y.born≠x.born:=λe=>hn.1 (e▸aT.2 ⟨y,g,rfl⟩);simp[this]
  ·have i:e∈r:=by
    rcases aP.1 h with rfl|h
    ·exact absurd rfl d
    ·exact h
   simp only[d,decide_false,Bool.not_false,if_true];exact((Uf i hn.2).cons x).trans (.swap _ _ _)
def leftL_push{es:Array MapEntry}{seen:Array Nat}{e:MapEntry}(f:(es.toList.map (·.born)).Nodup)(g:e∈Ef es seen):(Ef es seen).Perm (e::Ef es (seen.push e.born)):=by
 have d:((Ef es seen).map (·.born)).Nodup:=f.sublist ((kE ..).map _);refine(Uf g d).trans ?_;refine List.Perm.cons _ (List.Perm.of_eq ?_);simp only[Ef,oK];congr 1;funext x;simp only[Array.contains_push,Bool.not_or];rw[Bool.and_comm];congr 1
def Qd(es:Array MapEntry)(seen:Array Nat):(leftOf es seen).toList=Ef es seen:=by simp[leftOf,Ef]
section
variable{P:Program}{B:List Nat}{w0 w w':World}{L:List Asn}{t kT eT:TypeId}{b it clock:Nat}{es:Array MapEntry}{seen:Array Nat}{ty:TypeId}
def Hp.rng(H:Hp B w0 w L)(f:Eqw w w')(g:P.underlying t=some (.map kT eT))(h:w.heap[b]? =some (.map es clock)){G:OA->World->Prop}
  (k:∀it w1,Hp B w0 w1 (objA it (.mapIter (some b) clock #[] clock)::L)->G (sP0 it) w1):∃(p:OA)(w1:World),Rng P t w' (.map (some b)) (.pointer p) w1/\G p w1:=by
 have d:w'.heap[b]? =some (.map es clock):=by rw[f.heap];exact h
 refine⟨some ⟨w'.heap.size,0,none⟩,w'.alloc (.mapIter (some b) clock #[] clock),?_,k _ _ (H.newO f ⟨rfl,rfl⟩)⟩;simp only[Rng,Instr.range,Sem.run_bind,run_und g,Result.andThen_ok,run_getObj_map d,Sem.run_pure];rfl
def Hp.nxt(H:Hp B w0 w (objA it (.mapIter (some b) clock seen clock)::L))(eq:Eqw w w')(hb:w.heap[b]? =some (.map es clock))(hold:∀e∈es.toList,e.born<clock)(hn:(es.toList.map (·.born)).Nodup)
  {G0:WP} {G1:Value->Value->World->Prop}
  (k0:Ef es seen=[]->G0 w')
  (k1:∀(e:MapEntry)(w1:World),e∈es.toList->(Ef es seen).Perm (e::Ef es (seen.push e.born))->Hp B w0 w1 (objA it (.mapIter (some b) clock (seen.push e.born) clock)::L)->
   (Instr.entry (pT0 it)).run P w1=.ok (.tuple #[e.key,e.val]) w1->G1 e.key e.val w1):
  (∃w1,Nxt P false ty w' (pT0 it) (.tuple #[.bool false]) w1/\G0 w1)\/(∃(k v:Value)(w1:World),Nxt P false ty w' (pT0 it) (.tuple #[.bool true,k,v]) w1/\G1 k v w1):=by
 have H1:=H.go eq;have hi:w'.heap[it]? =some (.mapIter (some b) clock seen clock):=H1.obj (.head _);have hb':w'.heap[b]? =some (.map es clock):=by rw[eq.heap];exact hb
 rcases run_next_at w' ty it b clock clock seen es clock hi hb' hold (aZ _)with⟨h1,h2⟩|⟨e,he,w1,hw,h2⟩
 ·refine .inl ⟨w',h2,k0 ?_⟩;rw[<- Qd];exact bC (by simpa using h1)
 ·rw[Qd]at he;have hmem:e∈es.toList:=(dO.1 he).1;have e1:Eqw w' w1:=by rcases hw with rfl|rfl<;>exact⟨rfl,rfl,rfl,rfl⟩
  have H2:=H1.go e1
  have hne:it≠b:=by
   rintro rfl;rw[hb']at hi;cases hi
  have H3:Hp B w0 (setB w1 it (.mapIter (some b) clock (seen.push e.born) clock)) (objA it (.mapIter (some b) clock (seen.push e.born) clock)::L):=H2.putO (o':=.mapIter (some b) clock (seen.push e.born) clock);have hset:ChangeMaps.setBlock w1 it (.mapIter (some b) clock (seen.push e.born) clock)=setB w1 it (.mapIter (some b) clock (seen.push e.born) clock):=rfl;rw[hset]at h2;refine .inr ⟨_,_,_,h2,k1 e _ hmem (leftL_push hn he) H3 ?_⟩;refine run_entry_at _ it b clock seen es clock e (H3.obj (.head _)) ?_ hmem hn
  have:(setB w1 it (.mapIter (some b) clock (seen.push e.born) clock)).heap[b]? =w1.heap[b]? :=by
   have hc:=Dv w1 it (.mapIter (some b) clock (seen.push e.born) clock);have hlt:b<w1.heap.size:=by rw[e1.heap];exact(bG.1 hb').1
   exact hc.2.2.2.2 b hlt (by simpa using λh=>hne h.symm)
  rw[this,e1.heap];exact hb'
end
section
variable{P:Program}{B:List Nat}{w0 w w':World}{L:List Asn}{e t:TypeId}{sz n c o m:Nat}{a:Option Addr}{xs:List Value}{v:Value}
def Hp.ldO(H:Hp B w0 w L)(i:Eqw w w')(S:Scl P t)(j:Asn.own e sz a n c xs∈L)(f:xs[o]? =some v):∃d,a=some d/\Ld P t w' (d.add o) v:=by
 have g:=((H.go i).ownA j).cells;obtain⟨d,h,_⟩:=g o v f;exact⟨d,h,g.ld S h f⟩
def Hp.ldOA(H:Hp B w0 w L)(j:Eqw w w')(S:Agg P t m)(q:0<m)(l:Asn.own e sz a n c xs∈L){vs:LV}(f:(xs.drop o).take m=vs)(g:vs.length=m):∃d,a=some d/\Ld P t w' (d.add o) (.agg vs.toArray):=by
 have h:=((H.go j).ownA l).cells
 have p:xs≠[]:=by
  rintro rfl;rw[List.drop_nil,List.take_nil]at f;subst f;simp at g;omega
 obtain⟨d,i⟩:=h.some p;exact⟨d,i,h.ldA S i f g⟩
end
def valN(l:LU):Nat:=l.foldl (λn x=>n*256+x.toNat) 0
def Dw(x:Int):IntKind.i64.wrap x=if x%18446744073709551616≥9223372036854775808 then x%18446744073709551616-18446744073709551616 else x%18446744073709551616:=by
 simp[IntKind.wrap,IntKind.signed,IntKind.bits]
def KP{x y:Int}(h:x%18446744073709551616=y%18446744073709551616):IntKind.i64.wrap x=IntKind.i64.wrap y:=by
 rw[Dw,Dw,h]
def FN(x:Int):IntKind.i64.wrap x%18446744073709551616=x%18446744073709551616:=by
 rw[Dw];split<;>omega
def IL{x y:Int}(h:x%18446744073709551616=y%18446744073709551616):BitVec.ofInt 64 x=BitVec.ofInt 64 y:=by
 apply BitVec.eq_of_toNat_eq;rw[BitVec.toNat_ofInt,BitVec.toNat_ofInt];have:(((2^64:Nat):Int))=18446744073709551616:=by decide
 rw[this,h]
def WB(v y:Nat)(f:y<256):Vc.bits .or .i64 (IntKind.i64.wrap (IntKind.i64.wrap (v:Int)*2^min (Int.toNat 8) (IntKind.bits .i64))) (IntKind.i64.wrap (y:Int))=IntKind.i64.wrap ((v*256+y:Nat):Int):=by
 have a:(2:Int)^min (Int.toNat 8) (IntKind.bits .i64)=256:=by decide
 rw[a];show IntKind.i64.wrap ((BitVec.ofInt 64 (IntKind.i64.wrap (IntKind.i64.wrap (v:Int)*256))|||BitVec.ofInt 64 (IntKind.i64.wrap (y:Int))).toNat:Int)=_
 have b:BitVec.ofInt 64 (IntKind.i64.wrap (IntKind.i64.wrap (v:Int)*256))=BitVec.ofInt 64 (((v%2^56)*256:Nat):Int):=by
  apply IL;rw[FN];have:=FN (v:Int);omega
 have c:BitVec.ofInt 64 (IntKind.i64.wrap (y:Int))=BitVec.ofInt 64 (y:Int):=IL (FN _);rw[b,c];apply KP;rw[BitVec.toNat_or,BitVec.toNat_ofInt,BitVec.toNat_ofInt]
 have d:((((v%2^56)*256:Nat):Int)%((2^64:Nat):Int)).toNat=(v%2^56)<<<8:=by
  rw[jS];omega
 have e:((y:Int)%((2^64:Nat):Int)).toNat=y:=om;rw[d,e,<- jV om,jS];omega
def O7(l:LU)(x:UInt8):valN (l++[x])=valN l*256+x.toNat:=by simp[valN,iH]
theorem OG(l:LU):valN l<256^l.length:=by
 have:∀(l:LU)(a:Nat),l.foldl (λn x=>n*256+x.toNat) a<(a+1)*256^l.length:=by
  intro l
  induction l with
  |nil=>intro a;simp
  |cons x r b=>
   intro a;have c:=b (a*256+x.toNat);have d:=x.toNat_lt;rw[dP,aK,mV];have e:(a*256+x.toNat+1)*256^r.length<=((a+1)*256)*256^r.length:=dE _ om;have f:(a+1)*(256^r.length*256)=((a+1)*256)*256^r.length:=by rw[jW (256^r.length) 256,mF]
   omega
 simpa [valN]using this l 0
theorem WW(n:Int)(d:0<=n):∀k,valN (be n k)=n.toNat%256^k:=by
 have b:∀k (a:Nat),(be n k).foldl (λn x=>n*256+x.toNat) a=a*256^k+n.toNat%256^k:=by
  intro k
  induction k with
  |zero=>intro a;simp[be,nR]
  |succ k e=>
   intro a
   have f:(bt n k).toNat=n.toNat/256^k%256:=by
    have c:=Rh n k
    have g:(2:Int)^(8*k)=((256^k:Nat):Int):=by
     rw[oh];simp
    rw[g]at c
    have h:n/((256^k:Nat):Int)=((n.toNat/256^k:Nat):Int):=by
     rw[Int.natCast_ediv,jR d]
    rw[h]at c;omega
   rw[be,dP,e,f,mV];have i:n.toNat%(256^k*256)=n.toNat%256^k+256^k*(n.toNat/256^k%256):=Nat.mod_mul;rw[i,gm,mF,jW 256 (256^k),jW (n.toNat/256^k%256)];omega
 intro k;simpa [valN]using b k 0
def Fa{n:Int}{k:Nat}(a:0<=n)(b:n<256^k):(valN (be n k):Int)=n:=by
 rw[WW n a,kV]
 ·omega
 ·have:((256^k:Nat):Int)=256^k:=by simp
  omega
def take_left{α:Type}(a b:List α)(n:Nat)(h:a.length=n):(a++b).take n=a:=by subst h;simp
def drop_left{α:Type}(a b:List α)(n:Nat)(h:a.length=n):(a++b).drop n=b:=by subst h;simp
def Wp(l:LU)(i j:Nat):(ByteArray.mk l.toArray).extract i j=⟨((l.take j).drop i).toArray⟩:=by
 apply mG;apply oH;rw[kL,jl,jI];simp only[gp]
def sb_get(l:LU)(i:Nat)(h:i<l.length):sb ⟨l.toArray⟩ (i:Int)=(l[i].toNat:Int):=by
 simp[sb,aB h]
def valN_take_succ(l:LU)(k:Nat)(h:k<l.length):valN (l.take (k+1))=valN (l.take k)*256+l[k].toNat:=by
 rw[aH h,O7]
def wrapByte(x:UInt8):IntKind.i64.wrap (x.toNat:Int)=(x.toNat:Int):=IC (by have:=x.toNat_lt;omega)
def mk_append(x y:LU):(ByteArray.mk x.toArray)++(ByteArray.mk y.toArray)=⟨(x++y).toArray⟩:=by
 apply mG;rw[ByteArray.data_append];simp
def GN(x:LU):(ByteArray.mk x.toArray).size=x.length:=by simp[ByteArray.size]
def Yz(s:ByteArray):s=⟨s.data.toList.toArray⟩:=by simp
def XM(v y:Nat)(c:v<36028797018963968)(a:y<256):Vc.bits .or .i64 ((v:Int)*2^min (Int.toNat 8) (IntKind.bits .i64)) (IntKind.i64.wrap (y:Int))=((v*256+y:Nat):Int):=by
 have h:=WB v y a;have b:(2:Int)^min (Int.toNat 8) (IntKind.bits .i64)=256:=by decide
 rw[b]at h⊢;rw[IC (z:=(v:Int)) om,IC (z:=(v:Int)*256) om,IC (z:=((v*256+y:Nat):Int)) om]at h;exact h
section
variable{P:Program}{w:World}{b:Nat}{cs:List Value}{T e:TypeId}{o n c m:Nat}
def YR(h:Blk w b cs T)(vs:LV)(one:∀u∈vs,u.oneCell'=true)(l:o+vs.length<=cs.length):∃w1,(storeCells ⟨b,o,none⟩ vs).run P w=.ok () w1/\Blk w1 b (over vs o cs) T/\Chg [b] w w1:=by
 have p:=Cf (P:=P) (fz:=(0,0)) vs w cs ⟨b,o,none⟩ o 0 rfl (λj=>by simp[add_lit]) h l (λk _ _=>by simp) one;refine⟨_,p,?_,?_⟩
 ·split
  ·rename_i q;rw[q,over_nil];exact h
  ·exact Du h.lt
 ·split
  ·exact Chg.refl _ _
  ·exact Dv _ _ _
def Blk.cpy{dT tx ty:TypeId}{x:Value}{l:LV}(h:Blk w b cs T)(t:P.underlying dT=some (.slice e))(u:sizeV P e=some 1)(q:Src P 1 tx x m l w)(r:m<=n)(s:o+m<=cs.length):
  ∃w1,Cpy P #[dT,tx] ty w (.slice (some ⟨b,o,none⟩) n c) x (I (m:Int)) w1/\Blk w1 b (over l o cs) T/\Chg [b] w w1:=by
 have G:=q.newsLen;obtain⟨w1,z,A,C⟩:=YR (P:=P) (o:=o) h l q.one om;refine⟨w1,?_,A,C⟩;have p:Nat.min m n=m:=fQ r;have D:(sizeOf e).run P w=.ok 1 w:=run_size u w;have F:=q.cells;simp only[Cpy,Builtin.copy_];simp[run_und t,q.len w,p,D,F,z,goInt]
theorem Blk.clr{dT ty:TypeId}{z:Value}(h:Blk w b cs T)(t:P.underlying dT=some (.slice e))(C:zeroOf P e=some z)(r:z.cells= #[z])(p:z.oneCell'=true)(q:o+n<=cs.length):
  ∃w1,Clr P #[dT] ty w (.slice (some ⟨b,o,none⟩) n c) w1/\Blk w1 b (over (List.replicate n z) o cs) T/\Chg [b] w w1:=by
 cases n with
 |zero=>
  refine⟨w,?_,by rw[List.replicate_zero,over_nil];exact h,Chg.refl _ _⟩;simp only[Clr,Builtin.clear_];simp[run_und t]
 |succ n=>
  obtain⟨w1,D,F,G⟩:=YR (P:=P) h (List.replicate (n+1) z) (λu H=>by rw[mJ H];exact p) (by simpa using q);refine⟨w1,?_,F,G⟩;have s:(zeroValue e).run P w=.ok z w:=run_zero C w
  have l:(Builtin.zeroCells z.cells (n+1)).toList=List.replicate (n+1) z:=by
   rw[r];apply dK;intro k;simp only[Builtin.zeroCells,dR,aK,dI,kR,oD,au,iw];by_cases A:k<n+1
   ·rw[if_pos A,iL om];simp[nR]
   ·rw[if_neg A,bF (by rw[fZ];omega)];rfl
  simp only[Clr,Builtin.clear_];simp[run_und t,s,l,D]
end
section
variable{P:Program}{B:List Nat}{w0 w w':World}{L:List Asn}{b:Nat}{cs:List Value}{T e:TypeId}{o n c m:Nat}
def Hp.cpy{dT tx ty:TypeId}{x:Value}{l:LV}(H:Hp B w0 w (.blk b cs T::L))(r:Eqw w w')(s:P.underlying dT=some (.slice e))(t:sizeV P e=some 1)(u:Src P 1 tx x m l w')(q:m<=n)(p:o+m<=cs.length){G:Int->World->Prop}
  (k:∀w1,Hp B w0 w1 (.blk b (over l o cs) T::L)->G (m:Int) w1):∃(i:Int)(w1:World),Cpy P #[dT,tx] ty w' (.slice (some ⟨b,o,none⟩) n c) x (I i) w1/\G i w1:=by
 obtain⟨w1,z,A,C⟩:=Blk.cpy (ty:=ty) ((H.go r).blk (.head _)) s t u q p;exact⟨_,w1,z,k w1 ((H.go r).set C A λk D=>.inl D)⟩
def Hp.clr{dT ty:TypeId}{z:Value}(H:Hp B w0 w (.blk b cs T::L))(r:Eqw w w')(s:P.underlying dT=some (.slice e))(t:zeroOf P e=some z)(q:z.cells= #[z])(l:z.oneCell'=true)(p:o+n<=cs.length){G:WP}
  (k:∀w1,Hp B w0 w1 (.blk b (over (List.replicate n z) o cs) T::L)->G w1):∃(w1:World),Clr P #[dT] ty w' (.slice (some ⟨b,o,none⟩) n c) w1/\G w1:=by
 obtain⟨w1,u,A,C⟩:=Blk.clr (ty:=ty) ((H.go r).blk (.head _)) s t q l p;exact⟨w1,u,k w1 ((H.go r).set C A λk D=>.inl D)⟩
end
section
variable{x:Asn}{L L1 L':List Asn}{a b c d e f g h i j k:Asn}
def JJ(h:L.Perm (x::L1))(l:L1.Perm L'):L.Perm (x::L'):=h.trans (l.cons x)
def OC:(a::L).Perm (a::L):=.refl _
def Na:(a::b::L).Perm (b::a::L):=EX [a] b L
def Oh:(a::b::c::L).Perm (c::a::b::L):=EX [a,b] c L
end
def Ey(v a x c:LV)(h:v.length=x.length):over v a.length (a++(x++c))=a++(v++c):=by
 apply dK;intro k;rw[IK _ _ _ (by simp[h])];by_cases l:k<a.length
 ·rw[if_neg om,bW l,bW l]
 ·by_cases p:k<a.length+v.length
  ·rw[if_pos om,bg om,bW om]
  ·rw[if_neg om,bg om,bg om,bg om,bg om,h]
def UA{P:Program}{t:TypeId}{p:OA}{x y:Operand}{w:World}(h:P.underlying t=some (.pointer (P.pointee t))):Eqv P .eql t x y w (.pointer p) (.pointer none) p.isNone:=by
 have:=run_eql_pointer_nil (w:=w) t p h;simp only[Eqv,Sem.run_bind,eqGuard];simp[this]
def OQ{P:Program}{t:TypeId}{p:OA}{x y:Operand}{w:World}(h:P.underlying t=some (.pointer (P.pointee t))):Eqv P .neq t x y w (.pointer p) (.pointer none) (!p.isNone):=by
 have:=run_neq_pointer_nil (w:=w) t p h;simp only[Eqv,Sem.run_bind,eqGuard];simp[this]
section
variable{B:List Nat}{w0 w w':World}{L:List Asn}{x y x' y':Asn}
end
def Hp.BK{B:LN0}{w0 w:World}{L R:List Asn}(H:Hp B w0 w (L++R)):Hp B w0 w L:=
 ⟨H.chg,λb l=>H.ok b (aS _ l),λb l=>H.own b (aS _ l),(fK.1 H.sep).1⟩
def Et{K:Type}(al:List (K×Value)):Prop:=(al.map (·.1)).Nodup
section
variable{K:Type}[DecidableEq K]
theorem Ez:∀{al:List (K×Value)},Et al->∀{k:K}{v:Value},aget al k=some v↔(k,v)∈al
 | [],h,k,v=>by simp[aget]
 |(x,u)::r,h,k,v=>by
  simp only[Et,aj,bM]at h;simp only[aget,aP,Prod.mk.injEq];by_cases e:k=x
  ·subst e;rw[if_pos rfl];refine⟨λa=>.inl ⟨rfl,(Option.some.inj a).symm⟩,λa=>?_⟩;rcases a with⟨_,rfl⟩|a
   ·rfl
   ·exact absurd (aT.2 ⟨_,a,rfl⟩) h.1
  ·rw[if_neg e,Ez (al:=r) h.2];exact⟨.inr,λa=>a.elim (λb=>absurd b.1 e) id⟩
theorem JH:∀{al:List (K×Value)}{k:K},aget al k=none↔k∉al.map (·.1)
 | [],k=>by simp[aget]
 |(x,u)::r,k=>by
  simp only[aget,aj,aP,not_or];by_cases e:k=x
  ·rw[if_pos e];simp[e]
  ·rw[if_neg e,JH (al:=r)];simp[e]
def acut(al:List (K×Value))(k:K):List (K×Value):=al.filter λp=> !decide (p.1=k)
def acut_none:∀{al:List (K×Value)}{k:K},k∉al.map (·.1)->acut al k=al:=by
 intro al k h;refine gX.2 λp a=>?_;have:p.1≠k:=λe=>h (aT.2 ⟨p,a,e⟩);simp[this]
theorem TC:∀{al:List (K×Value)},Et al->∀(k:K),adel al k=acut al k
 | [],h,k=>rfl
 |(x,u)::r,h,k=>by
  simp only[Et,aj,bM]at h;simp only[adel,acut,dL];by_cases e:k=x
  ·subst e;rw[if_pos rfl];simp;exact(acut_none h.1).symm
  ·have a:x≠k:=λh=>e h.symm;rw[if_neg e];simp only[a,decide_false,Bool.not_false,if_true,TC (al:=r) h.2 k,acut]
end
structure Std(w:World)(L:List Asn):Prop where
 ok:∀a∈L,a.ok w
 sep:L.Pairwise λa b=>∀k∈a.foot,k∉b.foot
def feet(L:List Asn):LN0:=L.flatMap Asn.foot
def Ap{L:List Asn}{k:Nat}:k∈feet L↔∃a∈L,k∈a.foot:=by simp[feet]
section
variable{B:List Nat}{w0 w w':World}{L L1 L2 M R:List Asn}
def Hp.Cb(h:Std w L):Hp (feet L) w w L:=⟨Chg.refl _ _,h.ok,λa b k c=>.inl (Ap.2 ⟨a,b,c⟩),h.sep⟩
def Hp.std(H:Hp B w0 w L):Std w L:=⟨H.ok,H.sep⟩
def Hp.std1(H:Hp B w0 w (L1++L2)):Std w L1:=H.BK.std
def Hp.useL(H:Hp B w0 w (L1++L2))(a:Hp (feet L1) w w' M):Hp B w0 w' (M++L2):=Hp.use H a λk b=>Ap.1 b
def Hp.Ff(H:Hp B w0 w L)(a:Hp (feet L) w w' M):Hp B w0 w' M:=by
 have h:Hp B w0 w (L++[]):=by rw[aU];exact H
 have:=h.useL a
 rwa [aU]at this
end
def pkA(F:LN0)(Q:List Asn->Prop):Asn:=.any F λw=>∃L,Q L/\Std w L/\∀k∈feet L,k∈F
section
variable{B F:List Nat}{w0 w w':World}{L M R:List Asn}{Q Q':List Asn->Prop}
def Std.of(h:Std w L)(e:∀k∈feet L,w'.heap[k]? =w.heap[k]?):Std w' L:=
 ⟨λa b=>Asn.QU (h.ok a b) λk c=>e k (Ap.2 ⟨a,b,c⟩),h.sep⟩
def pk_ok(c:Q L)(st:Std w L):(pkA (feet L) Q).ok w:=by
 refine⟨λk b=>?_,λw' d=>⟨L,c,st.of d,λk b=>b⟩⟩;obtain⟨a,e,b⟩:=Ap.1 b;exact Asn.Iw (st.ok a e) k b
def Ep(h:(pkA F Q).ok w):∃L,Q L/\Std w L/\∀k∈feet L,k∈F:=h.2 w λ_ _=>rfl
def Hp.pack(H:Hp B w0 w (M++L))(g:Q M):Hp B w0 w (pkA (feet M) Q::L):=by
 have f:=fK.1 H.sep;refine⟨H.chg,λa d=>?_,λa d k c=>?_,bH.2 ⟨λb h k c=>?_,f.2.1⟩⟩
 ·rcases aP.1 d with rfl|d
  ·exact pk_ok g H.std1
  ·exact H.ok a (aO _ d)
 ·rcases aP.1 d with rfl|d
  ·obtain⟨x,e,c⟩:=Ap.1 (show k∈feet M from c);exact H.own x (aS _ e) k c
  ·exact H.own a (aO _ d) k c
 ·obtain⟨x,e,c⟩:=Ap.1 (show k∈feet M from c);exact f.2.2 x e b h k c
def Hp.Dl(H:Hp B w0 w (M++L))(a:Q M):∃F,Hp B w0 w (pkA F Q::L):=⟨_,H.pack a⟩
def Hp.unpack(H:Hp B w0 w (pkA F Q::L)):∃M,Q M/\Hp B w0 w (M++L)/\∀k∈feet M,k∈F:=by
 obtain⟨M,g,st,e⟩:=Ep (H.ok _ (.head _));have f:=bH.1 H.sep;refine⟨M,g,⟨H.chg,λa c=>?_,λa c k d=>?_,fK.2 ⟨st.sep,f.2,λa c b h k d=>f.1 b h k (e k (Ap.2 ⟨a,c,d⟩))⟩⟩,e⟩
 ·rcases aW.1 c with c|c
  ·exact st.ok a c
  ·exact H.ok a (.tail _ c)
 ·rcases aW.1 c with c|c
  ·exact H.own _ (.head _) k (e k (Ap.2 ⟨a,c,d⟩))
  ·exact H.own a (.tail _ c) k d
def BQ(h:(pkA F Q).ok w):Hp F w w [pkA F Q]:=Hp.Gn h
end
def rP(a:Addr):a.add 0=a:=by unfold Addr.add;split<;>simp_all
def AL{L M:List Asn}(h:∀(f:List Asn->Nat)(g:Asn->Nat),f []=0->(∀x l,f (x::l)=g x+f l)->(∀a b,f (a++b)=f a+f b)->(∀a b,List.Perm a b->f a=f b)->f L=f M):L.Perm M:=by
 classical
 rw[List.perm_iff_count];intro z;refine h (λl=>l.count z) (λx=>if x==z then 1 else 0) rfl (λx l=>?_) (λa b=>List.count_append) (λa b c=>c.count_eq z);rw[List.count_cons,gU]
section
variable{K:Type}[DecidableEq K]{kt:KeyT K}
def TG{a:Array MapEntry}{j:Nat}{e:MapEntry}(f:(a.toList.map (·.born)).Nodup)(g:a[j]? =some e):a.findIdx? (λx=>(x.born:Int)==(e.born:Int))=some j:=by
 rw[Array.findIdx?_eq_some_iff_getElem];obtain⟨c,d⟩:=bG.1 g;refine⟨c,by simp[d],λi l=>?_⟩
 have m:a[i].born≠e.born:=by
  intro h;have n:(a.toList.map (·.born))[i]'(by simp;omega)=(a.toList.map (·.born))[j]'(by simp;omega):=by simp[h,d]
  have o:=dB.1 f i j (by simp;omega) (by simp;omega) l;exact o n
 simp;omega
def Vd{P:Program}(k:IntKind)(i:Int)(w:World):(asInt (.int k i)).run P w=.ok i w:=rfl
end
section
variable{P:Program}{B:List Nat}{w0 w w':World}{L:List Asn}{t kT eT:TypeId}{z v:Value}{b:Nat}
def Hp.qo{cs:LV}{T:TypeId}(H:Hp B w0 w (.blk b cs T::L))(sz n:Nat)(a:cs.length=n*sz)(c:n<=maxLen):Hp B w0 w (.own T sz (sP0 b) n n cs::L):=
 H.set (Chg.refl _ _) ⟨a,.inr ⟨b,cs.toArray,(0,0),rfl,bY _,H.blk (.head _),Thaw.zero _,aZ _,c,by simpa using jb a.symm,by simp[<- a]⟩⟩ (λk d=>.inl d)
end
def eqv_slcE{P:Program}{t e:TypeId}{a:OA}{n c d c':Nat}{x y:Operand}{w:World}(h:P.underlying t=some (.slice e)):Eqv P .eql t x y w (.slice a n c) (.slice none d c') a.isNone:=by
 have:=Go.Lib.run_eql_slice_nil w t e a n c d c' h;simp only[Eqv,Sem.run_bind,eqGuard];simp[this]
section
variable{P:Program}{w:World}{e:TypeId}{sz n c:Nat}{a:Option Addr}{xs:List Value}
def Own.keep(h:Own w 0 e sz a n c xs){F:Nat}(d:F<=n):Own w 0 e sz a F c (xs.take (F*sz)):=by
 have f:F*sz<=n*sz:=dE _ d;refine⟨by rw[aI,h.1];omega,?_⟩;rcases h.2 with⟨rfl,rfl,rfl⟩|⟨g,b,i,rfl,j,l,m,r,o,p,q⟩
 ·exact .inl ⟨rfl,om,rfl⟩
 ·exact .inr ⟨g,b,i,rfl,j,l,m,om,o,p,by rw[<- q,jF,fQ f]⟩
def Own.full(h:Own w 0 e sz a n c xs)(d:a≠none):∃ys,ys.length=(c-n)*sz/\Own w 0 e sz a c c (xs++ys):=by
 rcases h.2 with⟨rfl,_⟩|⟨g,b,f,rfl,i,j,l,m,o,p,q⟩
 ·exact(d rfl).elim
 ·have r:n*sz<=c*sz:=dE _ m;have s:b.toList.length=b.size:=bP;refine⟨(b.toList.take (c*sz)).drop (n*sz),?_,?_,.inr ⟨g,b,f,rfl,i,j,l,aZ _,o,p,?_⟩⟩
  ·rw[cO,aI,lh];omega
  ·rw[aF,h.1,cO,aI];omega
  ·rw[<- q];have:b.toList.take (n*sz)=(b.toList.take (c*sz)).take (n*sz):=by rw[jF,fQ r]
   rw[this,bz]
def Own.Dq(h:Own w 0 e sz a n c xs)(d:0<n):∃g,a=some ⟨g,0,none⟩:=by
 rcases h.2 with⟨_,f,_⟩|⟨g,b,i,rfl,_⟩
 ·omega
 ·exact⟨g,rfl⟩
structure Frm(P:Program)(sz:Nat)(x:Value)(lx k:Nat)(news:LV)(w:World):Prop where
 len:∀w':World,(Builtin.lenOf x).run P w'=.ok lx w'
 cells:(Builtin.firstCells sz k x).run P w=.ok news.toArray w
 newsLen:news.length=k*sz
 one:∀u∈news,u.oneCell'=true
theorem Frm.of{b:OA}{f g k:Nat}{d:LV}(h:Cells w b d)(i:d.length=k*sz)(l:∀u∈d,u.oneCell'=true):Frm P sz (.slice b f g) f k d w:=by
 refine⟨λx=>rfl,?_,i,l⟩;cases b with
 |none=>
  have:d=[]:=by
   cases hn:d with
   |nil=>rfl
   |cons v r=>obtain⟨_,m,_⟩:=h 0 v (by rw[hn];rfl);cases m
  subst this;exact run_firstCells_none w sz k f g
 |some o=>
  refine run_firstCells_some w sz k o f g d i λj v p=>?_;obtain⟨q,s,t⟩:=h j v p;cases s;exact t
def Own.cpy{dT tx ty:TypeId}{x:Value}{z i N c' k:Nat}{b:LV}(h:Own w 0 e sz a n c xs)(H:P.underlying dT=some (.slice e))(R:sizeV P e=some sz)(o:Frm P sz x z k b w)(T:k=min z N)(p:i+k<=n):
  ∃w1,Cpy P #[dT,tx] ty w (.slice (slA a c i sz) N c') x (I (k:Int)) w1/\Own w1 0 e sz a n c (over b (i*sz) xs)/\Chg (blks a) w w1:=by
 have J:(sizeOf e).run P w=.ok sz w:=run_size R w;have K:=o.cells;have f:Nat.min z N=k:=T.symm;have q:=h.1;have A:=o.newsLen;by_cases m:b=[]
 ·subst m;refine⟨w,?_,by rw[over_nil];exact h,Chg.refl _ _⟩;simp only[Cpy,Builtin.copy_];cases r:slA a c i sz<;>simp[run_und H,o.len w,f,J,K,storeCells,goInt]
 ·have s:0<k*sz:=by rw[<- A];exact eH.2 m
  have U:0<k:=Nat.pos_of_mul_pos_right s;rcases h.2 with⟨rfl,h0,_⟩|⟨g,d,B,rfl,X,L,M,t,C,D,Y⟩
  ·omega
  have F:¬c=i:=om;have O:i*sz+k*sz<=n*sz:=by rw[<- gm];exact dE _ p
  have G:n*sz<=c*sz:=dE _ t;have u:d.toList.length=d.size:=bP;have y:w.heap[g]? =some (.cells d.toList.toArray e B):=by simpa using L
  have l:=Cf (P:=P) (fz:=B) b w d.toList ⟨g,i*sz,none⟩ (i*sz) 0 rfl (λj=>by simp[add_lit]) y om (λZ h1 h2=>M Z om) o.one;rw[if_neg m]at l
  have r:slA (sP0 g) c i sz=some ⟨g,i*sz,none⟩:=by
   unfold slA;rw[if_neg F,dF,add_lit,bu]
  refine⟨_,?_,⟨by rw[over_length _ _ _ om];exact q,.inr ⟨g,(over b (i*sz) d.toList).toArray,B,rfl,X,Du (bG.1 L).1,?_,t,C,?_,?_⟩⟩,Dv _ _ _⟩
  ·simp only[Cpy,Builtin.copy_,r];simp[run_und H,o.len w,f,J,K,l,goInt]
  ·rw[dR,over_length _ _ _ om,u];exact M
  ·rw[dR,over_length _ _ _ om,u];exact D
  ·show(over b (i*sz) d.toList).take (n*sz)=_;rw[Nq _ _ _ _ om om,Y]
def Own.appIn{t tx ty:TypeId}{by_ m:Nat}{x:Value}{b:LV}(T:Elt P t e sz by_)(h:Own w 0 e sz a n c xs)(F:a≠none)(s:Src P sz tx x m b w)(d:n+m<=c):
  ∃w1,App P #[t,tx] ty w (.slice a n c) x (.slice a (n+m) c) w1/\Own w1 0 e sz a (n+m) c (xs++b)/\Chg (blks a) w w1:=by
 obtain⟨G,i,z,H,U,rfl,rfl,J⟩:=T;rcases h.2 with⟨rfl,_⟩|⟨g,f,u,rfl,y,A,C,K,B,p,l⟩
 ·exact(F rfl).elim
 have D:n*i.size+b.length<=f.size:=by rw[s.newsLen,<- gm];exact fH (dE _ d) p
 have o:∀j,j<b.length->(w.cell? ⟨g,0+n*i.size+j,none⟩).isSome=true:=by
  intro j L;have:0+n*i.size+j<f.size:=om;simp[World.cell?,A];omega
 have M:=run_append_room_src w t tx ty e i G H g 0 n c x m b s d o (λj L=>by
  have:=C (0+n*i.size+j) om;obtain⟨X,Y⟩:=u;simpa [World.frozen?,A]using this)
 have q:w.heap[g]? =some (.cells f.toList.toArray e u):=by simpa using A
 have r:f.toList.length=f.size:=bP;obtain⟨N,O⟩:=I8 b w f.toList (0+n*i.size) q om;refine⟨_,M,⟨by rw[aF,h.1,s.newsLen,gm],.inr ⟨g,_,u,rfl,y,N,?_,d,B,?_,?_⟩⟩,O⟩
 ·rw[dR,over_length _ _ _ om,r];exact C
 ·rw[dR,over_length _ _ _ om,r];exact p
 ·rw[bu,kC]at*;have R:=Ui b (n*i.size) f.toList om;rw[gm,<- s.newsLen,R,l]
def Own.clrBehind{dT ty:TypeId}{z:Value}{N c':Nat}(h:Own w 0 e sz a n c xs)(J:P.underlying dT=some (.slice e))(R:zeroOf P e=some z)(s:z.cells.size=sz)(f:∀u∈z.cells.toList,u.oneCell'=true)(T:n+N<=c):
  ∃w1,Clr P #[dT] ty w (.slice (slA a c n sz) N c') w1/\Own w1 0 e sz a n c xs/\Chg (blks a) w w1:=by
 have t:(zeroValue e).run P w=.ok z w:=run_zero R w;by_cases x:N=0
 ·subst x;refine⟨w,?_,h,Chg.refl _ _⟩;simp only[Clr,Builtin.clear_];cases i:slA a c n sz<;>simp[run_und J]
 ·rcases h.2 with⟨rfl,h0,rfl⟩|⟨g,b,r,rfl,U,K,L,y,A,B,X⟩
  ·omega
  have C:¬c=n:=om
  have i:slA (sP0 g) c n sz=some ⟨g,n*sz,none⟩:=by
   unfold slA;rw[if_neg C,dF,add_lit,bu]
  have l:b.toList.length=b.size:=bP;have Y:(Builtin.zeroCells z.cells N).toList.length=N*sz:=by rw[bP,size_zeroCells,s]
  have M:n*sz+N*sz<=c*sz:=by rw[<- gm];exact dE _ T
  have m:w.heap[g]? =some (.cells b.toList.toArray e r):=by simpa using K
  have o:=Cf (P:=P) (fz:=r) (Builtin.zeroCells z.cells N).toList w b.toList ⟨g,n*sz,none⟩ (n*sz) 0 rfl (λj=>by simp[add_lit]) m om (λZ h1 h2=>L Z om) (λu O=>by
   have D:∃q∈z.cells.toList,u=q:=by
    simp only[Builtin.zeroCells,kR,aT]at O;obtain⟨k,F,rfl⟩:=O;have F:=dh.1 (by simpa using F);refine⟨_,?_,rfl⟩
    have G:0<z.cells.size:=by
     rcases iV z.cells.size with H|H
     ·rw[H,Nat.mul_zero]at F;omega
     ·exact H
    have p:=Nat.mod_lt k G;rw[getElem!_pos z.cells _ p];exact Array.getElem_mem_toList p
   obtain⟨q,hq,rfl⟩:=D;exact f _ hq)
  obtain⟨w1,d⟩:∃w1,(storeCells ⟨g,n*sz,none⟩ (Builtin.zeroCells z.cells N).toList).run P w=.ok () w1/\(w1=w\/w1=setB w g (.cells (over (Builtin.zeroCells z.cells N).toList (n*sz) b.toList).toArray e r)):=by
   refine⟨_,o,?_⟩;split
   ·exact .inl rfl
   ·exact .inr rfl
  refine⟨w1,?_,?_,?_⟩
  ·simp only[Clr,Builtin.clear_,i];have:N=(N-1)+1:=om;rw[this]at d⊢;simp[run_und J,t,d.1]
  ·rcases d.2 with rfl|rfl
   ·exact h
   ·refine⟨h.1,.inr ⟨g,_,r,rfl,U,Du (bG.1 K).1,?_,y,A,?_,?_⟩⟩
    ·rw[dR,over_length _ _ _ om,l];exact L
    ·rw[dR,over_length _ _ _ om,l];exact B
    ·rw[<- X];apply dK;intro k;rw[fF,fF];split
     ·rw[kC,IK _ _ _ om,if_neg om]
     ·rfl
  ·rcases d.2 with rfl|rfl
   ·exact Chg.refl _ _
   ·exact Dv _ _ _
theorem Own.appZ{t tn ty:TypeId}{by_ m:Nat}{kn kq:IntKind}{z:Value}(T:Elt P t e sz by_)(r:0<sz)(h:Own w 0 e sz a n c xs)(s:P.underlying tn=some (.int kn))(y:zeroOf P e=some z)(C:0<m)(A:c<n+m)(d:n+m<=maxLen)(u:(n+m)*by_<=140737488355328):
  ∃a' c' ys w1,App P #[t,tn] ty w (.slice a n c) (.int kq (m:Int)) (.slice a' (n+m) c') w1/\ys.length=m*sz/\Own w1 0 e sz a' (n+m) c' (xs++ys)/\Chg [] w w1/\∀k∈blks a',w.heap.size<=k:=by
 obtain⟨D,i,p,B,f,rfl,rfl,l⟩:=T;have x:p=z:=by simp only[zeroOf,B,f,Option.some.injEq]at y;exact y
 subst x
 have o:(Builtin.firstCells i.size n (.slice a n c)).run P w.drew=.ok xs.toArray w.drew:=by
  cases a with
  |none=>
   rcases h.2 with⟨_,rfl,rfl⟩|⟨g,_,_,F,_⟩
   ·have:xs=[]:=bC (by simpa using h.1);subst this;exact run_firstCells_none _ _ _ _ _
   ·cases F
  |some G=>
   refine run_firstCells_some w.drew i.size n G n c xs h.1 λj v H=>?_;obtain⟨J,K,L⟩:=h.cells j v H;cases K;exact L
 have M:=Go.Lib.run_append_grow_zeros w t tn ty e i p kq kn D s B f a n c xs o m C r A (by simp only[maxLen]at d;omega) (by
  have:m*i.bytes<=(n+m)*i.bytes:=dE _ om;omega) (growslice_fits A u)
 have b:(Builtin.zeroCells p.cells m).toList.length=m*i.size:=by rw[bP,size_zeroCells,l]
 refine⟨_,_,(Builtin.zeroCells p.cells m).toList,_,M,b,⟨by rw[aF,h.1,b,gm],.inr ⟨w.heap.size,_,_,rfl,bY _,Hu w.drew _,Thaw.zero _,grownCap_ge _ _ _ _,grownCap_le_maxLen _ _ _ _ d,?_,?_⟩⟩,⟨rfl,rfl,rfl,by simp,λk q _=>alloc_old w.drew _ k q⟩,λk q=>by simp[blks]at q;subst q;exact aZ _⟩
 ·have N:=grownCap_ge w (n+m) c e;simp only[ji,dR,size_zeroCells,l,h.1,<- gm];refine dE _ ?_;omega
 ·rw[jy,jy,kC];exact iP (by rw[aF,h.1,b,gm])
end
def sEq:Value->Value->Bool
 |.int _ a,.int _ b=>decide (a=b)
 |.bool a,.bool b=>a==b
 |.string a,.string b=>decide (a=b)
 |_,_=>false
def beqB(a b:ByteArray):(a==b)=decide (a=b):=by
 obtain⟨x⟩:=a;obtain⟨y⟩:=b;show(x==y)=_;rw[iO];simp
def kdB(P:Program)(t:TypeId)(k:Kd):Bool:=match P.underlying t,k with
 |some (.int q),.inl q'=>decide (q=q')
 |some .bool,.inr 0=>true
 |some .string,.inr 1=>true
 |_,_=>false
def RZ(P:Program):List Field->List (Nat×Kd)->Bool
 | [],[]=>true
 | f :: fs, (o, k) :: l => Nat.beq f.offset o && f.name != "_" && kdB P f.type k && RZ P fs l
 |_,_=>false
structure VM(P:Program)(t:TypeId)(l:List (Nat×Kd)):Prop where
 und:∃fs,P.underlying t=some (.struct fs)/\RZ P fs.toList l=true
 guard:P.eqGuardType P.depth t=false
 stood:P.stoodInHeld t=false
def pO(P:Program)(t:TypeId)(l:List (Nat×Kd)):Bool:=match P.underlying t with
 |some (.struct fs)=>RZ P fs.toList l&& !P.eqGuardType P.depth t&& !P.stoodInHeld t
 |_=>false
def Wj{P:Program}{t:TypeId}{l:List (Nat×Kd)}(h:pO P t l=true):VM P t l:=by
 unfold pO at h;split at h
 ·rename_i a b;simp at h;exact⟨⟨a,b,h.1.1⟩,h.1.2,h.2⟩
 ·cases h
def fitL(l:List (Nat×Kd))(cs:LV):Bool:=l.all λp=>match cs[p.1]? with
 |some v=>(fromV p.2 v).isSome
 |none=>false
def eqL(l:List (Nat×Kd))(xs ys:LV):Bool:=l.all λp=>match xs[p.1]?,ys[p.1]? with
 |some a,some b=>sEq a b
 |_,_=>false
section
variable{P:Program}{w:World}
def run_sEq{t:TypeId}{k:Kd}{a b:Value}{d:Nat}(g:kdB P t k=true)(c:(fromV k a).isSome=true)(e:(fromV k b).isSome=true):(Op.equalIn (d+1) t a b).run P w=.ok (sEq a b) w:=by
 unfold kdB at g;split at g
 ·rename_i q j f;have:=of_decide_eq_true g;subst this;cases a<;>simp only[fromV,oL,jD]at c;cases b<;>simp only[fromV,oL,jD]at e;split at c
  ·split at e
   ·rename_i h _ i;have h:=of_decide_eq_true h;have i:=of_decide_eq_true i;subst h;subst i;exact(run_equalIn_int w d t _ _ _ _ f).trans (by rw[sEq,Bool.beq_eq_decide_eq])
   ·cases e
  ·cases c
 ·rename_i f;cases a<;>simp[fromV]at c;cases b<;>simp[fromV]at e;exact run_equalIn_bool w d t _ _ f
 ·rename_i f;cases a<;>simp[fromV]at c;cases b<;>simp[fromV]at e;simp[Op.equalIn,run_underlying f,sEq,beqB]
 ·cases g
def Io{t:TypeId}{k:Kd}{xs:Array Value}{o:Nat}{v:Value}(a:kdB P t k=true)(b:xs[o]? =some v):(part t xs o).run P w=.ok v w:=by
 refine run_part_plain w ?_ b;unfold kdB at a;unfold Program.plainKey;split at a<;>simp_all
theorem Ox{d:Nat}{xs ys:LV}:∀(c:List Field)(l:List (Nat×Kd)),RZ P c l=true->fitL l xs=true->fitL l ys=true->(Op.eqFields (d+1) xs.toArray ys.toArray c).run P w=.ok (eqL l xs ys) w
 | [],[],_,_,_=>rfl
 |f::c,(o,k)::l,h,hx,hy=>by
  simp only[RZ,dJ]at h;obtain⟨⟨⟨g,i⟩,e⟩,j⟩:=h;have:=dW g;subst this;simp only[fitL,ku,dJ]at hx hy;cases ha:xs[f.offset]? with
  |none=>rw[ha]at hx;cases hx.1
  |some a=>
   cases hb:ys[f.offset]? with
   |none=>rw[hb]at hy;cases hy.1
   |some b=>
    rw[ha]at hx;rw[hb]at hy;have m:=Ox (d:=d) c l j hx.2 hy.2;simp only[Op.eqFields];rw[if_pos (by simpa using i)];simp only[Sem.run_bind,Io (w:=w) e (show xs.toArray[f.offset]? =some a by simpa using ha),Io e (show ys.toArray[f.offset]? =some b by simpa using hb),Result.andThen_ok,run_sEq e hx.1 hy.1];have n:eqL ((f.offset,k)::l) xs ys=(sEq a b&&eqL l xs ys):=by simp only[eqL,ku,ha,hb]
    rw[n];cases sEq a b with
    |true=>simpa using m
    |false=>simp
def Wu{t:TypeId}{l:List (Nat×Kd)}(T:VM P t l){xs ys:LV}(c:fitL l xs=true)(d:fitL l ys=true):(Op.equalIn 10000 t (.agg xs.toArray) (.agg ys.toArray)).run P w=.ok (eqL l xs ys) w:=by
 obtain⟨⟨a,b,f⟩,h,g⟩:=T;have e:P.fieldsOf t=a:=by simp[Program.fieldsOf,b]
 rw[run_equalIn_struct w 9999 t _ _ (by rw[e];exact b) g,e];exact Ox a.toList l f c d
def Yq{t:TypeId}{l:List (Nat×Kd)}(T:VM P t l){xs ys:LV}{x y:Operand}{b:Bool}(a:fitL l xs=true)(c:fitL l ys=true)(d:(!eqL l xs ys)=b):Eqv P .neq t x y w (.agg xs.toArray) (.agg ys.toArray) b:=by
 subst d;simp only[Eqv,Sem.run_bind,run_eqGuard_agg w .neq t x y _ _ T.guard,Result.andThen_ok,run_neq_struct,Wu T a c]
end
structure Px(P:Program)(t:TypeId):Prop where
 und : ∃ f g, P.underlying t = some (.struct #[f, g]) ∧ f.offset = 0 ∧ g.offset = 1 ∧ f.name ≠ "_" ∧ g.name ≠ "_" ∧ kdB P f.type (.inl .i64) = true ∧ kdB P g.type (.inl .i64) = true
 flat:VM P t [(0,.inl .i64),(1,.inl .i64)]
def rE(P:Program)(t:TypeId):Bool:=match P.underlying t with
 | some (.struct ⟨[f, g]⟩) => Nat.beq f.offset 0 && Nat.beq g.offset 1 && f.name != "_" && g.name != "_" && kdB P f.type (.inl .i64) && kdB P g.type (.inl .i64)
 |_=>false
def pair_of{P:Program}{t:TypeId}(h:rE P t=true)(a:pO P t [(0,.inl .i64),(1,.inl .i64)]=true):Px P t:=by
 refine⟨?_,Wj a⟩;unfold rE at h;split at h
 ·rename_i f g c;simp only[dJ,bne_iff_ne,ne_eq]at h;obtain⟨⟨⟨⟨⟨d,e⟩,i⟩,j⟩,l⟩,m⟩:=h;exact⟨f,g,c,dW d,dW e,i,j,l,m⟩
 ·cases h
def Ah(p:Int×Int):Value:=.agg #[I p.1,I p.2]
section
variable{P:Program}{t:TypeId}{w:World}
def Og{t:TypeId}{k:Kd}{v:Value}{c:Bool}{n:Nat}(h:kdB P t k=true):(Instr.checkKey c (n+1) t v).run P w=.ok () w:=by
 unfold kdB at h;split at h
 ·rename_i a;simp only[Instr.checkKey,Sem.run_bind,run_und a,Result.andThen_ok,Sem.run_pure]
 ·rename_i a;simp only[Instr.checkKey,Sem.run_bind,run_und a,Result.andThen_ok,Sem.run_pure]
 ·rename_i a;simp only[Instr.checkKey,Sem.run_bind,run_und a,Result.andThen_ok,Sem.run_pure]
 ·cases h
def TB(T:Px P t)(h:Bool)(p:Int×Int)(w:World):(Instr.checkKey h 10000 t (Ah p)).run P w=.ok () w:=by
 obtain⟨⟨f,g,i,j,l,d,e,a,c⟩,_⟩:=T;rw[Instr.checkKey];simp only[Ah,Sem.run_bind,run_und i,Result.andThen_ok];rw[<- Array.forIn_toList]
 simp only[List.forIn_cons,List.forIn_nil,Sem.run_bind,d,e,ne_eq,not_false_eq_true,if_true,Result.andThen_ok,Io (w:=w) a (show(#[I p.1,I p.2]:Array Value)[f.offset]? =some (I p.1) by rw[j];rfl),
  Io c (show(#[I p.1,I p.2]:Array Value)[g.offset]? =some (I p.2) by rw[l];rfl),Og a,Og c,Sem.run_pure]
def pair_equal(T:Px P t)(a b:Int×Int)(w:World):(Op.equal t (Ah a) (Ah b)).run P w=.ok (decide (a=b)) w:=by
 have:=Wu (w:=w) T.flat (xs:=[I a.1,I a.2]) (ys:=[I b.1,I b.2]) (by simp[fitL,fromV];exact⟨rfl,rfl⟩) (by simp[fitL,fromV];exact⟨rfl,rfl⟩);refine this.trans ?_;simp only[eqL,ku,List.all_nil,dH,bJ,sEq,Bool.and_true];congr 1;rw[<- Bool.decide_and];exact decide_eq_decide.2 ⟨λh=>oP h.1 h.2,λh=>by rw[h];exact⟨rfl,rfl⟩⟩
def JB(es:List MapEntry)(al:List ((Int×Int)×Value)):Prop:=es.map (λe=>(e.key,e.val))=al.map λp=>(Ah p.1,p.2)
def MapP(w:World)(b:Nat)(al:List ((Int×Int)×Value)):Prop:=
 ∃es clock,w.heap[b]? =some (.map es clock)/\JB es.toList al/\(es.toList.map (·.born)).Nodup/\∀e∈es.toList,e.born<clock
theorem S9(T:Px P t)(w:World):∀{a:List MapEntry}{al:List ((Int×Int)×Value)}(i:Nat)(k:Int×Int),JB a al->
  (aget al k=none/\(Instr.findAsking t (Ah k) a i).run P w=.ok none w)\/
  ∃j v e,aget al k=some v/\(Instr.findAsking t (Ah k) a i).run P w=.ok (some (i+j,v)) w/\a[j]? =some e/\e.key=Ah k/\e.val=v/\
   (∀c,JB (a.modify j λe=> {e with key:=Ah k,val:=c}) (aput al k c))
 | [],al,i,k,h=>by
  have:al=[]:=by cases al with
   |nil=>rfl
   |cons p r=>simp[JB]at h
  subst this;exact .inl ⟨rfl,rfl⟩
 |e::a,al,i,k,h=>by
  cases al with
  |nil=>simp[JB]at h
  |cons p al=>
   obtain⟨x,u⟩:=p;simp only[JB,aj,List.cons.injEq,Prod.mk.injEq]at h;obtain⟨⟨f,g⟩,h⟩:=h;simp only[Instr.findAsking,Sem.run_bind,f,pair_equal T,Result.andThen_ok,aget,aput];by_cases d:k=x
   ·subst d;right;refine⟨0,u,e,by simp,by simp[g],by simp,f,g,λc=>?_⟩;simp only[if_true,JB,nG,aj,f];rw[h]
   ·simp only[d,decide_false,if_false,jD];rcases S9 T w (i+1) k h with⟨l,m⟩|⟨j,v,n,l,m,o,q,s,y⟩
    ·exact .inl ⟨l,m⟩
    ·right;refine⟨j+1,v,n,l,by rw[m];congr 3;omega,by simpa using o,q,s,λc=>?_⟩;have:=y c;simp only[JB,nH,aj,f,g]at this⊢;rw[this]
theorem Vy{K:Type}[DecidableEq K]{k:K}{v:Value}:∀(al:List (K×Value)),aget al k=none->aput al k v=al++[(k,v)]
 | [],_=>rfl
 |(x,u)::r,hn=>by
  simp only[aget]at hn;split at hn
  ·cases hn
  ·rename_i a;simp only[aput,if_neg a,Vy r hn,aC]
def Px.wide(T:Px P t):(match P.underlying t with|some (.array _ _)|some (.struct _)=>true|_=>false)=true:=by
 obtain⟨⟨f,g,a,_⟩,_⟩:=T;rw[a]
structure Xw(P:Program)(t kT eT:TypeId)(z:Value):Prop where
 und:P.underlying t=some (.map kT eT)
 key:Px P kT
 zero:zeroOf P eT=some z
def Zc{kT eT:TypeId}{z:Value}(T:Xw P t kT eT z){b:Nat}{al:List ((Int×Int)×Value)}(h:MapP w b al)(k:Int×Int):
  Lk P t false w (.map (some b)) (Ah k) ((aget al k).getD z)/\Lk P t true w (.map (some b)) (Ah k) (.tuple #[(aget al k).getD z,.bool (aget al k).isSome]):=by
 obtain⟨i,d,l,m,n⟩:=h;have a:∀e,(Instr.checkKey e 10000 kT (Ah k)).run P w=.ok () w:=λe=>TB T.key e k w;have c:(Instr.findKey kT (Ah k) i.toList).run P w=(Instr.findAsking kT (Ah k) i.toList).run P w:=run_findKey_eq w T.key.wide _ _;rcases S9 T.key w 0 k m with⟨f,g⟩|⟨j,v,e,f,g,-⟩
 ·simp only[Lk,Instr.lookup,Sem.run_bind,run_und T.und,Result.andThen_ok,run_getObj_map l,Sem.run_pure,a,c,g,Sem.run_map,run_zero T.zero,f];constructor<;>rfl
 ·simp only[Lk,Instr.lookup,Sem.run_bind,run_und T.und,Result.andThen_ok,run_getObj_map l,Sem.run_pure,a,c,g,f];constructor<;>rfl
def JV(b:Nat)(al:List ((Int×Int)×Value)):Asn:=.any [b] λw=>MapP w b al
def ZF{b:Nat}{al:List ((Int×Int)×Value)}{w:World}(h:MapP w b al):(JV b al).ok w:=
 ⟨by intro k d;simp at d;subst d;obtain⟨f,c,a,_⟩:=h;exact(bG.1 a).1,λw' e=>by
  obtain⟨f,c,a,g⟩:=h;exact⟨f,c,(e b (by simp)).trans a,g⟩⟩
def SV{b:Nat}{al:List ((Int×Int)×Value)}{w:World}(h:(JV b al).ok w):MapP w b al:=h.2 w λ_ _=>rfl
variable{B:List Nat}{w0 w':World}{L:List Asn}{kT eT:TypeId}{z v:Value}{b:Nat}
def Hp.newP(H:Hp B w0 w L)(e:Eqw w w'){w1:World}(h:New w' (.map #[] 0) b w1):Hp B w0 w1 (JV b []::L):=
 (H.go e).add h.chg (ZF ⟨#[],0,h.blk,rfl,by simp,by simp⟩) (by simp[Asn.foot,JV];exact h.num▸aZ _)
def Hp.lkP{al:List ((Int×Int)×Value)}(T:Xw P t kT eT z)(H:Hp B w0 w L)(e:Eqw w w')(m:JV b al∈L){x:Int×Int}(a:(aget al x).getD z=v):Lk P t false w' (.map (some b)) (Ah x) v:=by
 subst a;exact(Zc T (SV ((H.go e).ok _ m)) x).1
end
section
variable{P:Program}{t:TypeId}
theorem Lh{K:Type}[DecidableEq K](k:K)(v:Value):∀(al:List (K×Value)),aget (aput al k v) k=some v
 | []=>by simp[aput,aget]
 |(x,u)::r=>by
  rw[aput];by_cases h:k=x
  ·rw[if_pos h,aget,if_pos h]
  ·rw[if_neg h,aget,if_neg h];exact Lh k v r
theorem men_pair{kT eT:TypeId}{z:Value}(T:Xw P t kT eT z){w:World}{b:Nat}{al:List ((Int×Int)×Value)}(h:MapP w b al)(k:Int×Int)(v:Value):
  ∃(u:Value)(i:Int)(w1 Z:World),MEn P t w (.map (some b)) (Ah k) (.tuple #[u,I i]) w1/\MapP w1 b (aput al k ((aget al k).getD z))/\ESt P t w1 (.map (some b)) (I i) v Z/\MapP Z b (aput al k v)/\Chg [b] w Z:=by
 obtain⟨l,d,K,h2,h3,h4⟩:=h;have M:∀e,(Instr.checkKey e 10000 kT (Ah k)).run P w=.ok () w:=λe=>TB T.key e k w;have N:(Instr.findKey kT (Ah k) l.toList).run P w=(Instr.findAsking kT (Ah k) l.toList).run P w:=run_findKey_eq w T.key.wide _ _;have n:=(bG.1 K).1
 have m:∀o,aget al k=none->JB (l.push {key:=Ah k,val:=o,born:=d}).toList (aput al k o):=λo A=>by
  rw[jO,Vy al A];simp only[JB,ai,aj,iY]at h2⊢;rw[h2]
 have C:∀o,((l.push {key:=Ah k,val:=o,born:=d}).toList.map (·.born)).Nodup:=λo=>by
  rw[jO,ai,bD];refine⟨h3,by simp,?_⟩;intro a ha c hc;simp at hc;subst hc;obtain⟨e,r,rfl⟩:=aT.1 ha;exact Nat.ne_of_lt (h4 e r)
 have O:∀o,∀e∈(l.push {key:=Ah k,val:=o,born:=d}).toList,e.born<d+1:=λo e r=>by
  rw[jO]at r;rcases aW.1 r with r|r
  ·exact oN (h4 e r)
  ·simp at r;subst r;exact kU _
 rcases S9 T.key w 0 k h2 with⟨A,X⟩|⟨j,u,e,A,X,g3,g4,g5,g6⟩
 ·obtain⟨f,g⟩:∃f,f=l.push {key:=Ah k,val:=z,born:=d}:=⟨_,rfl⟩;have p:(setB w b (.map f (d+1))).heap[b]? =some (.map f (d+1)):=Du n;have s:(f.toList.map (·.born)).Nodup:=by rw[g];exact C z
  have D:f[l.size]? =some {key:=Ah k,val:=z,born:=d}:=by rw[g];simp
  have F:=TG s D
  have q:f.modify l.size (λe=> {e with val:=v})=l.push {key:=Ah k,val:=v,born:=d}:=by
   apply jZ;intro i;rw[di,g,lD,lD];by_cases J:i=l.size
   ·subst J;simp
   ·rw[if_neg (λh=>J h.symm),if_neg J,if_neg J]
  refine⟨z,d,setB w b (.map f (d+1)),setB (setB w b (.map f (d+1))) b (.map (l.push {key:=Ah k,val:=v,born:=d}) (d+1)),?_,?_,?_,?_,?_⟩
  ·simp only[MEn,Instr.mapEntry,Sem.run_bind,run_und T.und,Result.andThen_ok,run_getObj_map K,M,N,X,run_zero T.zero,run_setObj_map K,Sem.run_pure,<- g];rfl
  ·rw[A,g];exact⟨_,_,Du n,m z A,C z,O z⟩
  ·simp only[ESt,Instr.entryStore,Sem.run_bind,Sem.run_pure,Result.andThen_ok,run_getObj_map p,Vd];rw[show f.findIdx? (λe=>(e.born:Int)==(d:Int))=some l.size from F];simp only[run_setObj_map p,q]
  ·rw[Ja];exact⟨_,_,Du n,m v A,C v,O v⟩
  ·rw[Ja];exact Dv _ _ _
 ·have hj:l[j]? =some e:=by simpa using g3
  rw[bu]at X;obtain⟨f,g⟩:∃f,f=l.modify j λe=> {e with key:=Ah k}:=⟨_,rfl⟩;have p:(setB w b (.map f d)).heap[b]? =some (.map f d):=Du n
  have G:f.toList.map (·.born)=l.toList.map (·.born):=by
   rw[g,gW];apply dK;intro i;simp only[au,nP];cases l.toList[i]? with
   |none=>rfl
   |some e=>simp;split<;>rfl
  have s:(f.toList.map (·.born)).Nodup:=by rw[G];exact h3
  have D:f[j]? =some {e with key:=Ah k}:=by rw[g,di,if_pos rfl,hj];rfl
  have F:=TG s D
  have q:f.modify j (λe=> {e with val:=v})=l.modify j λe=> {e with key:=Ah k,val:=v}:=by
   apply jZ;intro i;rw[di,g,di,di];split
   ·cases l[i]? <;>rfl
   ·rfl
  have R:Instr.sameBits 10000 (Ah k) (Ah k)=true:=by
   show Instr.sameBits (9999+1) (Ah k) (Ah k)=true;simp[Instr.sameBits,Ah]
  have H:(Instr.keyThatStays (Ah k) (Ah k)).run P w=.ok (Ah k) w:=by
   simp[Instr.keyThatStays,R]
  have U:∀o,∀Y∈(l.modify j λe=> {e with key:=Ah k,val:=o}).toList,Y.born<d:=λo Y aa=>by
   have:Y.born∈(l.modify j λe=> {e with key:=Ah k,val:=o}).toList.map (·.born):=aT.2 ⟨Y,aa,rfl⟩;rw[gW,I7]at this;obtain⟨e2,ab,e3⟩:=aT.1 this;rw[<- e3];exact h4 e2 ab
  have y:f=l.modify j λe=> {e with key:=Ah k,val:=u}:=by
   rw[g];apply jZ;intro i;rw[di,di];split
   ·rename_i J;subst J;rw[hj];simp only[dF,g5]
   ·rfl
  refine⟨u,e.born,setB w b (.map f d),setB (setB w b (.map f d)) b (.map (l.modify j λe=> {e with key:=Ah k,val:=v}) d),?_,?_,?_,?_,?_⟩
  ·simp only[MEn,Instr.mapEntry,Sem.run_bind,run_und T.und,Result.andThen_ok,run_getObj_map K,M,N,X,hj,dF,fB,g4,H,run_setObj_map K,Sem.run_pure,<- g];rfl
  ·rw[A,fB];refine⟨_,_,Du n,?_,s,?_⟩
   ·rw[y,gW];exact g6 u
   ·rw[y];exact U u
  ·simp only[ESt,Instr.entryStore,Sem.run_bind,Sem.run_pure,Result.andThen_ok,run_getObj_map p,Vd];rw[show f.findIdx? (λx=>(x.born:Int)==(e.born:Int))=some j from F];simp only[run_setObj_map p,q]
  ·rw[Ja];refine⟨_,_,Du n,?_,?_,U v⟩
   ·rw[gW];exact g6 v
   ·rw[gW,I7];exact h3
  ·rw[Ja];exact Dv _ _ _
variable{B:List Nat}{w0 w w':World}{L:List Asn}{kT eT:TypeId}{z v:Value}{b:Nat}
def Hp.menP{al:List ((Int×Int)×Value)}(T:Xw P t kT eT z)(H:Hp B w0 w (JV b al::L))(e:Eqw w w'){x:Int×Int}{y:Value}(c:(aget al x).getD z=y){G:WP}
  (kk:∀w1,Hp B w0 w1 (JV b (aput al x v)::L)->G w1):∃(u:Value)(i:Int)(w1:World),MEn P t w' (.map (some b)) (Ah x) (.tuple #[u,I i]) w1/\Lk P t false w1 (.map (some b)) (Ah x) y/\∃a,ESt P t w1 (.map (some b)) (I i) v a/\G a:=by
 obtain⟨u,i,w1,a,d,f,g,h,j⟩:=men_pair T (SV ((H.go e).ok _ (.head _))) x v;refine⟨u,i,w1,d,?_,a,g,kk a ((H.go e).set j (ZF h) λk l=>.inl l)⟩;have:=(Zc T f x).1;rw[Lh,fB,c]at this;exact this
end
open Go.ChangeShapes Go.WideShapes Go.WideElems
noncomputable section
def RdK(P:Program)(w:World):Nat->TypeId->(LV->Prop)->Prop
 |0,_,K=>∃cs,K cs
 |n+1,t,K=>match P.underlying t with
  |some (.int k)=>∃i,inR k i/\K [.int k i]
  |some .bool=>∃b,K [.bool b]
  |some .string=>∃s:ByteArray,s.size<=reachBytes/\K [.string s]
  |some (.slice e)=>∃(a:OA)(cap:Nat)(els:List (LV)),els.length<=cap/\cap<=maxLen/\els.length*P.bytesOf e<=reachBytes/\(a=none->els=[])/\(∀x∈els,RdK P w n e (λcs=>x=cs))/\Cells w a els.flatten/\K [.slice a els.length cap]
  |some (.struct fs)=>exLs (RdK P w n) (fs.toList.map (·.type)) K
  |_=>∃cs,K cs
def ofC(b:Option Bool)(cs:LV):Value:=match b with
 |some true=>.agg cs.toArray
 |_=>cs.headD .nilFunc
section
variable{H:Type}{enc:TypeId×Value->H}{P:Program}{w:World}{base:Nat}{spare:Nat->Bool}{held:Bool}
def lit_inR{k:IntKind}{n:Int}(h:(Lit.int k n).wf=true):inR k n:=by
 simpa [Lit.wf,inR]using h
theorem YA:∀(sz:LN0)(cs:LV),cs.length=sz.sum->((List.range sz.length).map λi=>(cs.drop (sz.take i).sum).take (sz.getD i 0)).flatten=cs
 | [],cs,h=>by
  have:cs=[]:=bC (by simpa using h);simp[this]
 |n::r,cs,h=>by
  have a:=YA r (cs.drop n) (by simp at h⊢;omega);rw[aK,kM,aj,lm,dD]
  have e:((λi=>(cs.drop ((n::r).take i).sum).take ((n::r).getD i 0))∘Nat.succ)=λi=>((cs.drop n).drop (r.take i).sum).take (r.getD i 0):=by
   funext i;simp[dM]
  rw[e,a];simp[bz]
theorem ofC_eq{r:Reach}{g:Nat}{t:TypeId}{v:Value}(f:match P.underlying t with|some (.int _)|some .bool|some .string|some (.slice _)|some (.struct _)=>True|_=>False)(e:Value.okWide P w r g t v):ofC (aggB P t) v.cells.toList=v:=by
 cases hu:P.underlying t with
 |none=>rw[hu]at f;exact f.elim
 |some d=>
  rw[hu]at f;cases d<;>try exact f.elim
  ·obtain⟨b,rfl⟩:=okWide_bool hu e;simp[ofC,aggB,hu,Value.cells]
  ·obtain⟨b,rfl⟩:=okWide_int hu e;simp[ofC,aggB,hu,Value.cells]
  ·obtain⟨b,rfl⟩:=okWide_string hu e;simp[ofC,aggB,hu,Value.cells]
  ·obtain⟨a,l,c,rfl⟩:=okWide_slice hu e;simp[ofC,aggB,hu,Value.cells]
  ·obtain⟨h,rfl,_⟩:=okWide_struct hu e;simp[ofC,aggB,hu,Value.cells]
def RQ(P:Program)(t:TypeId):Bool:=Nat.blt t P.types.size&&P.readableRec t&&match P.underlying t with
 |some (.int _)|some .bool|some .string|some (.slice _)|some (.struct _)=>true
 |_=>false
def Xa{t:TypeId}(h:RQ P t=true):t<P.types.size/\P.readableRec t=true/\match P.underlying t with|some (.int _)|some .bool|some .string|some (.slice _)|some (.struct _)=>True|_=>False:=by
 simp only[RQ,dJ]at h;refine⟨fE (kU _) (je h.1.1),h.1.2,?_⟩;have:=h.2;split at this<;>simp_all
theorem QG(d:laidOutB P=true){W W':World}{f:Nat->Bool}(g:Go.RowKit.Below W.heap.size W W'):∀{c:List TypeId}{vs:LV}{ds:List (DataW H)}{b:List MemPlace},c.all (RQ P)=true->(∀x∈b,x.block<W.heap.size)->(∀x∈b,f x.block=true)->
  DataW.TrodAll enc P W 0 (λ_=>true) true c vs ds b->DataW.TrodAll enc P W' 0 f true c vs ds b
 | [],[],[],_,_,_,_,h=>h
 |_::_,_::_,_::_,_,hp,hlt,hs,⟨p,q,h1,h2,e⟩=>by
  simp only[ku,dJ]at hp;obtain⟨i,j,l⟩:=Xa hp.1
  exact⟨p,q,Trod_stays d j i h1 (λx a=>g.same (hlt x (by rw[e];exact aS _ a))) (λx a=>hs x (by rw[e];exact aS _ a)),
   QG d g hp.2 (λx a=>hlt x (by rw[e];exact aO _ a)) (λx a=>hs x (by rw[e];exact aO _ a)) h2,e⟩
theorem P8{W:World}:∀{a:List TypeId}{vs:LV}{ds:List (DataW H)}{b:List MemPlace},DataW.TrodAll enc P W base spare held a vs ds b->ds.length=a.length
 | [],[],[],_,_=>rfl
 |_::_,_::_,_::_,_,⟨_,_,_,h2,_⟩=>by simp[P8 h2]
end
def Chg.below{w w':World}(h:Chg [] w w'):Go.RowKit.Below w.heap.size w w':=⟨h.1,h.2.1,h.2.2.1,h.size,λk a=>h.2.2.2.2 k a (by simp)⟩
end
noncomputable section
def ZN(f:TypeId->(LV->Nat->Prop)->Prop):List TypeId->(LV->Nat->Prop)->Prop
 | [],K=>K [] 0
 |t::r,K=>f t λcs m=>ZN f r λl m'=>K (cs++l) (m+m')
def RdW(P:Program)(w:World):Nat->TypeId->(LV->Nat->Prop)->Prop
 |0,_,K=>∃cs,K cs 0
 |n+1,t,K=>match P.underlying t with
  |some (.int k)=>∃i,inR k i/\K [.int k i] 0
  |some .bool=>∃b,K [.bool b] 0
  |some .string=>∃s:ByteArray,K [.string s] s.size
  |some (.slice e)=>∃(a:OA)(cap:Nat)(els:List (LV×Nat)),els.length<=cap/\cap<=maxLen/\(a=none->els=[])/\(∀x∈els,RdW P w n e (λcs m=>x.1=cs/\m<=x.2))/\Cells w a (els.map (·.1)).flatten/\K [.slice a els.length cap] ((els.map λx=>x.2+1).sum)
  |some (.struct fs)=>ZN (RdW P w n) (fs.toList.map (·.type)) K
  |_=>∃cs,K cs 0
def RdAW(P:Program)(w:World)(n:Nat):List TypeId->(LV->Nat->Prop)->Prop
 | [],K=>K [] 0
 |t::r,K=>RdW P w n t λcs m=>RdAW P w n r λl m'=>K (ofC (aggB P t) cs::l) (m+m')
structure Bulk{H:Type}(bk:DataW H->Nat):Prop where
 one:∀d,1<=bk d
 str:∀b,b.length+1<=bk (.lit (.string b))
 sl:∀(l s:List (DataW H)),(l.map bk).sum+1<=bk (.slice l s)
 agg:∀l:List (DataW H),(l.map bk).sum+1<=bk (.agg l)
section
variable{H:Type}{enc:TypeId×Value->H}{P:Program}{w:World}{base:Nat}{spare:Nat->Bool}{held:Bool}{bk:DataW H->Nat}
theorem Xy{f:TypeId->(LV->Nat->Prop)->Prop}:∀(l:List TypeId)(p:List (LV))(q:LN0)(K:LV->Nat->Prop),p.length=l.length->q.length=l.length->
  (∀(i:Nat)(t:TypeId)(x:LV)(b:Nat),l[i]? =some t->p[i]? =some x->q[i]? =some b->∀a:LV->Nat->Prop,(∀m,m+1<=b->a x m)->f t a)->(∀m,m<=q.sum->K p.flatten m)->ZN f l K
 | [],[],[],K,_,_,_,hk=>hk 0 (bY _)
 |t::r,x::p,b::q,K,hl,hl2,hf,hk=>by
  rw[ZN];refine hf 0 t x b rfl rfl rfl _ λm n=>?_;refine Xy r p q _ (by simpa using hl) (by simpa using hl2) (λi t y c d e g=>hf (i+1) t y c d e g) λh j=>?_;have:=hk (m+h) (by simp;omega);simpa using this
theorem rdW(hbk:Bulk bk)(hl:laidOutB P=true):∀(n:Nat)(fuel:Nat)(t:TypeId)(cs:LV)(x:DataW H×List MemPlace)(K:LV->Nat->Prop),t<P.types.size->DataW.trod enc P w base spare held fuel t cs=some x->(∀m,m+1<=bk x.1->K cs m)->RdW P w n t K:=by
 intro n
 induction n with
 |zero=>intro fuel t cs x K _ _ hk;exact⟨cs,hk 0 (hbk.one _)⟩
 |succ n ih=>
  intro fuel t cs x K ht h hk;unfold RdW;split
  ·rename_i k hu;obtain⟨i,rfl,_,hw⟩:=DataW.trod_int hu h;exact⟨i,lit_inR hw,hk 0 (hbk.one _)⟩
  ·rename_i hu;obtain⟨b,rfl,_⟩:=DataW.trod_bool hu h;exact⟨b,hk 0 (hbk.one _)⟩
  ·rename_i hu;obtain⟨s,rfl,rfl,hs⟩:=DataW.trod_string hu h;have h1:=hbk.str s.data.toList;rw[bP]at h1;exact⟨s,hk s.size h1⟩
  ·rename_i e hu;have he:e<P.types.size:=kid_slice hl ht hu;rcases DataW.trod_slice hu h with⟨rfl,_⟩|⟨a,len,cap,elems,rest,m,rfl,rfl,hxx,hb,h1,h2,hlen,hel,hr1,hr2⟩
   ·exact⟨none,0,[],aZ _,by simp[maxLen],λ_=>rfl,by simp,by intro j v hj;simp at hj,hk _ (hbk.one _)⟩
   ·rw[hxx]at hk
    have hall:∀i (hi:i<len),∃y,w.cells? base (a.add (i*P.cellsOf e)) (P.cellsOf e)=some y/\∃z,elems[i]? =some z/\DataW.trod enc P w base spare held m e y=some z:=by
     intro i hi;have h3:=hel i hi;rw[aB om,Option.bind_eq_some_iff]at h3;obtain⟨y,hy,hz⟩:=h3;exact⟨y,hy,_,aB om,hz⟩
    obtain⟨els,hels,hget⟩:∃els:List (LV×Nat),els.length=len/\∀i y,els[i]? =some y->w.cells? base (a.add (i*P.cellsOf e)) (P.cellsOf e)=some y.1/\∃z,elems[i]? =some z/\DataW.trod enc P w base spare held m e y.1=some z/\y.2+1=bk z.1:=by
     clear hel hlen h hk h1 hr1 hr2 hxx
     induction len with
     |zero=>exact⟨[],rfl,by simp⟩
     |succ q ihq=>
      obtain⟨els,e1,e2⟩:=ihq λi hi=>hall i om;obtain⟨y,hy,z,hz1,hz2⟩:=hall q om;refine⟨els++[(y,bk z.1-1)],by simp[e1],λi u hu=>?_⟩;rw[ig]at hu;split at hu
      ·exact e2 i u hu
      ·have hi:i=q:=by
        have:=(aA.1 hu).1;simp at this;omega
       subst hi;simp[e1]at hu;subst hu;have:=hbk.one z.1;exact⟨hy,z,hz1,hz2,by simp only;omega⟩
    have hsum:(els.map λx=>x.2+1)=elems.map λz=>bk z.1:=by
     refine dK λi=>?_;rw[au,au];cases hi:els[i]? with
     |none=>
      have h3:els.length<=i:=jv.1 hi;rw[bF om];rfl
     |some y=>
      obtain⟨_,z,hz,_,hyz⟩:=hget i y hi;rw[hz];simp[hyz]
    have hsz:∀y∈els,y.1.length=P.cellsOf e:=by
     intro y hy;obtain⟨i,hi⟩:=ay hy;exact(World.cells?_some (hget i y hi).1).2.1
    refine⟨some a,cap,els,om,h2,by simp,?_,?_,?_⟩
    ·intro y hy;obtain⟨i,hi⟩:=ay hy;obtain⟨_,z,hzm,hz,hyz⟩:=hget i y hi;exact ih m e y.1 z _ he hz λm' hm'=>⟨rfl,om⟩
    ·have hcell:∀(els:List (LV))(i0:Nat),(∀i y,els[i]? =some y->y.length=P.cellsOf e/\∀j v,y[j]? =some v->w.cell? (a.add ((i0+i)*P.cellsOf e+j))=some v)->∀j v,els.flatten[j]? =some v->w.cell? (a.add (i0*P.cellsOf e+j))=some v:=by
      intro els
      induction els with
      |nil=>intro i0 _ j v hj;simp at hj
      |cons y r ihr=>
       intro i0 hh j v hj;obtain⟨hy,hyc⟩:=hh 0 y rfl;rw[lm,ig]at hj;split at hj
       ·simpa using hyc j v hj
       ·have:=ihr (i0+1) (λi z hz=>by
         have:=hh (i+1) z hz;rw[show i0+1+i=i0+(i+1) by omega];exact this) (j-y.length) v hj
        rw[gm,Nat.one_mul]at this;rw[show i0*P.cellsOf e+j=i0*P.cellsOf e+P.cellsOf e+(j-y.length) by omega];exact this
     intro j v hj;refine⟨a,rfl,?_⟩
     have:=hcell (els.map (·.1)) 0 (λi y hi=>by
      rw[au,cZ]at hi;obtain⟨u,hu2,rfl⟩:=hi;refine⟨hsz u (aG hu2),λj v hv=>?_⟩;have:=(World.cells?_some (hget i u hu2).1).2.2 j (by rw[<- hsz u (aG hu2)];exact(aA.1 hv).1);rw[add_add,hv]at this;simpa using this) j v hj
     simpa using this
    ·rw[hels];refine hk _ ?_;rw[hsum];have:=hbk.sl (elems.map (·.1)) (rest.map (·.1));rw[dD]at this
     first
      |exact this
      |(refine fH ?_ (hbk.sl _ _);rw[dD];exact aZ _)
  ·rename_i fs hu;obtain⟨xs,m,_,rfl,hcl,hxl,hf⟩:=DataW.trod_struct hu h;obtain⟨k1,k2,k3⟩:=kid_struct hl ht hu;have hcut:=YA (fs.toList.map λf=>P.cellsOf f.type) cs (by rw[hcl,k2])
   refine Xy _ _ (xs.map λz=>bk z.1) _ ?_ (by simp[hxl]) ?_ (λm hm=>by
    rw[hcut];refine hk m (fH (Nat.succ_le_succ hm) ?_);have:=hbk.agg (xs.map (·.1));rw[dD]at this;exact this)
   ·simp
   ·intro i t y b h1 h2 h3 K' hK';simp only[au,cZ]at h1;obtain⟨f,hfi,rfl⟩:=h1;have hi:i<fs.toList.length:=(aA.1 hfi).1;simp only[aQ,au,iL hi,dF,Option.some.injEq]at h2;have e3:=k3 i f hfi;rw[<- iC,<- e3]at h2
    have e4:(fs.toList.map λf=>P.cellsOf f.type).getD i 0=P.cellsOf f.type:=by
     rw[dG,au,hfi];rfl
    rw[e4]at h2;have h5:=hf i f (by simpa using hfi);rw[h2]at h5;have h6:i<xs.length:=by rw[hxl];simpa using hi
    rw[aB h6]at h5;rw[au,aB h6]at h3;have h7:=Option.some.inj h3;exact ih m f.type y _ _ (k1 f (aG hfi)) h5 λm hm=>hK' m (by rw[<- h7];exact hm)
  ·exact⟨cs,hk 0 (hbk.one _)⟩
theorem rdAW(hbk:Bulk bk)(hl:laidOutB P=true){r:Reach}{b0:Nat}(n:Nat):∀(ts:List TypeId)(vs:LV)(ds:List (DataW H))(ps:List MemPlace)(K:LV->Nat->Prop),ts.all (RQ P)=true->(∀(j:Nat) t v,ts[j]? =some t->vs[j]? =some v->Value.okWide P w r b0 t v)->
  DataW.TrodAll enc P w base spare held ts vs ds ps->(∀m,m<=(ds.map bk).sum->K vs m)->RdAW P w n ts K
 | [],[],[],ps,K,_,_,_,hk=>hk 0 (bY _)
 |t::ts,v::vs,d::ds,ps,K,hp,hv,⟨p,q,⟨fuel,h1⟩,h2,_⟩,hk=>by
  simp only[ku,dJ]at hp;obtain⟨p1,p2,p3⟩:=Xa hp.1;rw[RdAW];refine rdW hbk hl n fuel t _ _ _ p1 h1 λm hm=>?_;refine rdAW hbk hl n ts vs ds q _ hp.2 (λj t v h3 h4=>hv (j+1) t v h3 h4) h2 λm' hm'=>?_;rw[ofC_eq p3 (hv 0 t v rfl rfl)];exact hk _ (by simp;simp only at hm;omega)
end
end
noncomputable section
def law_liftU{C:Checked}{O:Os}{H:Type}{enc:TypeId×Value->H}(f:FuncId)(fn:Func){s:ChangeSpec}{kk:(H:Type)->List (DataW H)->Bool}(n:Nat){t0:TypeId}(own:ownKnob C.prog.godebug=none)(g:O.Started)(o:C.prog.inits.idxOf? f=none)(R:C.prog.funcs[f]? =some fn)
  (hl:laidOutB C.prog=true) (A:fn.params.toList.all (RQ C.prog)=true) (B:s.vars=[]) (D:fn.resultTypes= #[t0]) (hb:C.prog.underlying t0=some .bool)
  (T:∀ds:List (DataW H),ds.length=fn.params.toList.length->s.fn H ds= {results:=[.lit (.bool true)],args:=ds})
  (bk:DataW H->Nat) (U:Bulk bk) (X:Nat) (Y:∀ds:List (DataW H),kk H ds=true->(ds.map bk).sum<=X) {F:Stop.Interp}
  (h:∃(w:World)(c:Tape)(i:Input),w.os=O/\(w.forCall c i).Shaped C.prog/\i.vars=[]/\Input.okWide C.prog (w.forCall c i) .any w.heap.size f i/\
   ({OpenSpec.ofChange s with cond:=some kk}:OpenSpec).pre6 enc C.prog fn [] false (w.forCall c i).memory i.args/\({}:Assume).holds C.prog (lone (Frame.enter C.prog f i.args .normal) [] (w.forCall c i)))
  (d:∀(W:World)(args:Array Value),RdAW C.prog W n fn.params.toList (λl m=>args.toList=l/\m<=X)->Calls C.prog f args W λe W'=>e=eE0 (.bool true)/\Chg [] W W'):
  ReturnsInHanded {} C O f .any (({OpenSpec.ofChange s with cond:=some kk}:OpenSpec).pre6 enc C.prog fn [] false) ((({OpenSpec.ofChange s with cond:=some kk}:OpenSpec).at F).post enc C.prog fn false true false false):=by
 refine returnsInHanded_of_cond (s:= {OpenSpec.ofChange s with cond:=some kk}) rfl own g o R h ?_;intro W base args ds gs before G hW _ J _;have K:=hW;obtain⟨p,q,Z,hV,rfl,aa,ab⟩:=hW;change DataW.TrodVars enc C.prog W (λ_=>true) s.vars gs q at hV;rw[B]at hV;obtain⟨rfl,rfl⟩:=trodVars_none hV;have L:=P8 Z;rw[aU]at J;have ac:=rdAW U hl n fn.params.toList args.toList ds p (λl m=>args.toList=l/\m<=X) A (λj t v h1 h2=>G j t v (by simpa using h1) (by simpa using h2)) Z λm hm=>⟨rfl,fH hm (Y ds J)⟩;refine(d W args ac).mono λe W' ⟨he,hc⟩=>⟨_,he,?_⟩;have z:=hc.below;have r:=K.lt;simp at r;have a:s.fn H (ds++[])= {results:=[.lit (.bool true)],args:=ds}:=by rw[aU];exact T ds L
 have hR:∀(b:Nat)(u:Nat->Bool)(hd:Bool),DataW.TrodAll enc C.prog W' b u hd fn.resultTypes.toList ((Value.bool true).resultList fn.resultTypes.size) (s.fn H (ds++[])).results []:=λb u hd=>by
  rw[a,D];exact trodAll_mk1 (Go.RowKit.shut_bool hb true)
 have hG:∀u:Nat->Bool,(∀x∈p,u x.block=true)->DataW.TrodAll enc C.prog W' 0 u true fn.params.toList args.toList (s.fn H (ds++[])).args p:=λu hs=>by
  rw[a];exact QG hl z A r hs Z
 have M:∀u:Nat->Bool,DataW.TrodVars enc C.prog W' u s.vars (s.fn H (ds++[])).vars []:=λu=>by
  rw[a,B];rfl
 refine⟨ds,[],p++[],[],p,[],K,hR _ _ _,hG _ (λx y=>by simpa using r x y),M _,World.keptBut_mono (λx y=>⟨y,.inr (by simpa using y)⟩) (z.frame _),λ_=>?_⟩;refine⟨Go.RowKit.ok_one D rfl (Go.RowKit.okWide_bool_mk hb true),_,_,([]++p)++[],⟨[]++p,[],trodAll_append (hG _ (λ_ _=>rfl)) (hR _ _ _),M _,rfl,?_,?_⟩,?_⟩
 ·intro b N y;have h1:=r (.cell b N) (by simpa using y);rw[z.frozen h1];exact aa b N (by simpa using y)
 ·intro ha;simpa using ab ha
 ·intro x y _;simpa using y
end
end Go.Vc
