/- Part 1 of 6 of the proof of nodetabBack_holds: for every input, from every world that may be reached. -/
import Derived.WalkKit
import Derived.RangeFuncSeq
import Derived.KernelRfl
import Derived.RangeFuncLeaves
import Derived.Deep.AppendSrc
import Derived.Laws.MakeOwn
import Derived.Laws.BytesArg
import Derived.Laws.BytesString
import Derived.Laws.IdiomStrings
import Derived.Maps.RangeRun
import Derived.Laws.Pointers
import Derived.Lib.SliceRun
import Derived.Lib.Overlaps
import Derived.Lib.AppendZerosOnto
import Derived.Laws.Externs
import Derived.Laws.StructEq
import Derived.ChangeKeysEq
import Derived.WideKeyRuns
import Derived.Test.YtljenkbpnioipaaGreatRows
import Derived.ProofKit
import Derived.JoinedCond
import Derived.Test.YtljenkbpnioipaaGreatChecked
import Derived.Shelf.SlIter.Nil
import Derived.Shelf.SlIterI.Nil
import Derived.Shelf.SortM.Plain
import Derived.Shelf.SortM.SortNone
import Derived.Shelf.SlMaps.Clone
import Derived.Shelf.SlSortCmp.NoneTotal
import Derived.Sort.Walk0
import Derived.StringKeys
import Derived.Lib.Bytealg
set_option linter.unusedVariables false
set_option linter.unusedSimpArgs false
set_option linter.defProp false
set_option maxRecDepth 100000
set_option maxHeartbeats 4000000
namespace Go
theorem m1{α:Type _}{a b:α}{l:List α}:b∈a::b::l:=.tail _ (.head _)
theorem m2{α:Type _}{a b c:α}{l:List α}:c∈a::b::c::l:=.tail _ (.tail _ (.head _))
theorem m3{α:Type _}{a b c d:α}{l:List α}:d∈a::b::c::d::l:=.tail _ (.tail _ (.tail _ (.head _)))
theorem m4{α:Type _}{a b c d e:α}{l:List α}:e∈a::b::c::d::e::l:=.tail _ (.tail _ (.tail _ (.tail _ (.head _))))
theorem m5{α:Type _}{a b c d e f:α}{l:List α}:f∈a::b::c::d::e::f::l:=.tail _ (.tail _ (.tail _ (.tail _ (.tail _ (.head _)))))
theorem m6{α:Type _}{a b c d e f g:α}{l:List α}:g∈a::b::c::d::e::f::g::l:=.tail _ (.tail _ (.tail _ (.tail _ (.tail _ (.tail _ (.head _))))))
theorem m7{α:Type _}{a b c d e f g h:α}{l:List α}:h∈a::b::c::d::e::f::g::h::l:=.tail _ (.tail _ (.tail _ (.tail _ (.tail _ (.tail _ (.tail _ (.head _)))))))
theorem m8{α:Type _}{a b c d e f g h i:α}{l:List α}:i∈a::b::c::d::e::f::g::h::i::l:=.tail _ (.tail _ (.tail _ (.tail _ (.tail _ (.tail _ (.tail _ (.tail _ (.head _))))))))
theorem m9{α:Type _}{a b c d e f g h i j:α}{l:List α}:j∈a::b::c::d::e::f::g::h::i::j::l:=.tail _ (.tail _ (.tail _ (.tail _ (.tail _ (.tail _ (.tail _ (.tail _ (.tail _ (.head _)))))))))
theorem m10{α:Type _}{a b c d e f g h i j k:α}{l:List α}:k∈a::b::c::d::e::f::g::h::i::j::k::l:=.tail _ (.tail _ (.tail _ (.tail _ (.tail _ (.tail _ (.tail _ (.tail _ (.tail _ (.tail _ (.head _))))))))))
theorem m11{α:Type _}{a b c d e f g h i j k m:α}{l:List α}:m∈a::b::c::d::e::f::g::h::i::j::k::m::l:=.tail _ (.tail _ (.tail _ (.tail _ (.tail _ (.tail _ (.tail _ (.tail _ (.tail _ (.tail _ (.tail _ (.head _)))))))))))
theorem m12{α:Type _}{a b c d e f g h i j k m n:α}{l:List α}:n∈a::b::c::d::e::f::g::h::i::j::k::m::n::l:=.tail _ (.tail _ (.tail _ (.tail _ (.tail _ (.tail _ (.tail _ (.tail _ (.tail _ (.tail _ (.tail _ (.tail _ (.head _))))))))))))
theorem om{p:Prop}(h:p:=by omega):p:=h
theorem kS{A:Type _}{a b:A}(h:a=b:=by kernel_rfl):some a=some b:=congrArg some h
theorem kD{p:Prop}[Decidable p](h:decide p=true:=by kernel_rfl):p:=of_decide_eq_true h
theorem gE{A:Type _}{l:List A}{i:Nat}{a:A}(h:l[i]? =some a):∃h:i<l.length,l[i]=a:=List.getElem?_eq_some_iff.1 h
theorem AP{A:Type _}:(∀a b:List A,List.append a b=a++b)/\(∀a:List A,[]++a=a)/\∀(x:A)(a b:List A),x::a++b=x::(a++b):=⟨fun _ _=>rfl,fun _=>rfl,fun _ _ _=>rfl⟩
theorem t2{α:Type _}{a b c:α}{l:List α}(h:a∈l):a∈b::c::l:=.tail _ (.tail _ h)
theorem t3{α:Type _}{a b c d:α}{l:List α}(h:a∈l):a∈b::c::d::l:=.tail _ (.tail _ (.tail _ h))
theorem t4{α:Type _}{a b c d e:α}{l:List α}(h:a∈l):a∈b::c::d::e::l:=.tail _ (.tail _ (.tail _ (.tail _ h)))
theorem t5{α:Type _}{a b c d e f:α}{l:List α}(h:a∈l):a∈b::c::d::e::f::l:=.tail _ (.tail _ (.tail _ (.tail _ (.tail _ h))))
theorem t6{α:Type _}{a b c d e f g:α}{l:List α}(h:a∈l):a∈b::c::d::e::f::g::l:=.tail _ (.tail _ (.tail _ (.tail _ (.tail _ (.tail _ h)))))
theorem t7{α:Type _}{a b c d e f g i:α}{l:List α}(h:a∈l):a∈b::c::d::e::f::g::i::l:=.tail _ (.tail _ (.tail _ (.tail _ (.tail _ (.tail _ (.tail _ h))))))
theorem t8{α:Type _}{a b c d e f g i j:α}{l:List α}(h:a∈l):a∈b::c::d::e::f::g::i::j::l:=.tail _ (.tail _ (.tail _ (.tail _ (.tail _ (.tail _ (.tail _ (.tail _ h)))))))
def aA:=@List.getElem?_eq_some_iff
def aB:=@List.getElem?_eq_getElem
def aC:=@List.mem_of_getElem?
def aF:=@List.length_append
def aG:=@List.take_succ_eq_append_getElem
def aH:=@List.cons_append
def aI:=@List.mem_append_right
def aJ:=@List.length_take
def aK:=@List.length_cons
def aN:=@Int.toNat_natCast
def aO:=@List.nil_append
def aP:=@List.mem_cons
def aQ:=@List.length_map
def aS:=@List.mem_append_left
def aT:=@List.mem_append
def aU:=@List.mem_map
def aV:=@List.take_of_length_le
def aW:=@List.mem_singleton
def aX:=@List.append_nil
def aY:=@List.append_eq
def aZ:=@Nat.le_refl
def ai:=@List.map_append
def aj:=@List.map_cons
def au:=@List.getElem?_map
def ax:=@List.append_assoc
def ay:=@List.eq_nil_of_length_eq_zero
def az:=@Classical.byContradiction
def bC:=@List.getElem?_eq_none
def bD:=@List.getElem?_of_mem
def bF:=@List.pairwise_cons
def bG:=@List.nodup_append
def bH:=@List.nodup_cons
def bI:=@List.getElem?_cons_succ
def bJ:=@List.take_length
def bK:=@Array.getElem?_eq_some_iff
def bM:=@List.drop_eq_getElem_cons
def bP:=@List.perm_middle
def bQ:=@List.getElem?_append_left
def bT:=@Array.length_toList
def bU:=@List.length_set
def bV:=@Nat.mul_one
def bW:=@List.flatMap_cons
def bY:=@List.take_append_drop
def bZ:=@Nat.zero_le
def bf:=@List.length_drop
def bg:=@List.getElem?_append_right
def bn:=@List.getElem?_take_of_lt
def bu:=@List.set_cons_succ
def bz:=@List.set_cons_zero
def cO:=@Option.map_eq_some_iff
def cZ:=@Nat.zero_add
def dB:=@List.map_map
def dD:=@List.pairwise_map
def dE:=@List.pairwise_iff_getElem
def dF:=@Nat.mul_le_mul_right
def dG:=@Option.map_some
def dH:=@List.getD_eq_getElem?_getD
def dI:=@List.getElem?_cons_zero
def dJ:=@List.mem_of_mem_take
def dK:=@List.length_nil
def dL:=@List.filter_cons
def dM:=@Bool.and_eq_true
def dN:=@List.ext_getElem?
def dO:=@List.mem_filter
def dP:=@List.foldl_cons
def dQ:=@List.length_replicate
def dR:=@List.flatMap_append
def dS:=@List.drop_drop
def dU:=@List.perm_append_comm
def dV:=@List.size_toArray
def dW:=@List.mem_range
def dX:=@List.exists_cons_of_ne_nil
def dY:=@List.take_succ_cons
def dZ:=@List.getLast?_eq_getElem?
def df:=@Nat.eq_of_beq_eq_true
def dh:=@List.Perm.eq_of_pairwise
def di:=@Nat.succ_mul
def dm:=@List.getElem?_drop
def dw:=@Option.ne_none_iff_exists'
def eF:=@List.drop_succ_cons
def eG:=@List.mem_map_of_mem
def eH:=@Array.getElem?_setIfInBounds
def eP:=@List.pairwise_append
def eQ:=@Array.getElem?_modify
def eU:=@Classical.not_not
def eY:=@List.getElem_mem
def eu:=@List.drop_of_length_le
def fA:=@List.mem_of_mem_drop
def fB:=@Array.getElem?_eq_getElem
def fC:=@List.length_pos_iff
def fD:=@List.take_zero
def fE:=@Nat.min_eq_left
def fF:=@List.drop_zero
def fG:=@Option.getD_some
def fH:=@List.mem_flatMap
def fJ:=@Nat.le_trans
def fK:=@List.mem_cons_self
def fM:=@Nat.lt_of_lt_of_le
def fO:=@List.getElem?_take
def fP:=@Array.getD_eq_getD_getElem?
def fQ:=@List.all_eq_true
def fU:=@List.perm_ext_iff_of_nodup
def fV:=@List.pairwise_mergeSort
def fZ:=@List.length_range
def gG:=@List.mem_or_eq_of_mem_set
def gI:=@List.append_of_mem
def gJ:=@List.head?_eq_getElem?
def gQ:=@List.range_succ
def gU:=@Option.isSome_iff_exists
def gV:=@List.filter_eq_self
def gW:=@List.mergeSort_perm
def gX:=@List.getElem?_toArray
def gY:=@List.length_singleton
def gm:=@List.perm_append_comm_assoc
def gp:=@List.getElem?_replicate
def gq:=@Nat.add_sub_cancel_left
def gu:=@List.drop_take
def gy:=@List.getElem?_append
def gz:=@Int.le_refl
def iC:=@List.filter_append
def iD:=@Bool.eq_iff_iff
def iE:=@List.map_take
def iF:=@Array.toList_inj
def iG:=@Nat.add_comm
def iH:=@Array.toList_modify
def iK:=@Nat.add_mul
def iL:=@Nat.sub_self
def iM:=@List.take_left'
def iO:=@Nat.eq_zero_or_pos
def iP:=@List.not_mem_nil
def iQ:=@List.drop_length
def iT:=@List.head_eq_of_cons_eq
def iV:=@List.getElem?_concat_length
def iW:=@List.sum_cons
def iY:=@Array.getElem?_append_left
def iZ:=@List.getElem?_set_self
def ig:=@List.foldl_append
def ik:=@List.drop_eq_nil_of_le
def iq:=@List.take_left
def iw:=@Int.tdiv_eq_ediv_of_nonneg
def iy:=@List.getElem?_range
def jA:=@List.mem_iff_getElem?
def jB:=@Nat.add_sub_cancel
def jC:=@List.map_nil
def jD:=@Array.toArray_toList
def jE:=@List.take_take
def jF:=@List.foldl_nil
def jG:=@List.getElem?_set_ne
def jH:=@Int.not_lt
def jI:=@Int.toNat_of_nonneg
def jJ:=@List.zipWith_append
def jK:=@List.filterMap_cons
def jL:=@List.getElem_cons_drop
def jM:=@Bool.false_eq_true
def jO:=@List.mem_filterMap
def jP:=@List.zip_cons_cons
def jQ:=@Array.getElem?_toList
def jR:=@List.length_filter_le
def jS:=@List.extract_eq_take_drop
def jT:=@List.findIdx?_eq_none_iff
def jU:=@List.set_append
def jV:=@Nat.zero_mul
def jW:=@List.mem_cons_of_mem
def jX:=@List.getElem?_set
def jY:=@Array.toList_push
def jZ:=@Array.size_modify
def jb:=@Nat.add_assoc
def jd:=@List.map_drop
def je:=@List.map_congr_left
def jf:=@Nat.shiftLeft_eq
def jg:=@List.drop_left
def jh:=@List.Perm.refl
def ji:=@Nat.shiftLeft_add_eq_or_of_lt
def jk:=@Nat.mul_comm
def jl:=@List.sublist_cons_self
def jm:=@Array.ext_getElem?
def jo:=@Nat.le_of_eq
def jq:=@List.range_succ_eq_map
def jr:=@List.pairwise_lt_range
def jv:=@List.map_singleton
def jw:=@List.headD_cons
def jy:=@Nat.le_of_ble_eq_true
def kC:=@List.Perm.append_left
def kE:=@List.dropLast_eq_take
def kF:=@List.filterMap_append
def kG:=@Array.size_append
def kH:=@Nat.le_succ_of_le
def kJ:=@Array.toList_extract
def kK:=@Int.fdiv_eq_ediv_of_nonneg
def kL:=@Nat.pow_le_pow_right
def kM:=@List.getElem_map
def kN:=@Nat.sub_zero
def kP:=@List.getElem?_eq_none_iff
def kQ:=@Option.isSome_iff_ne_none
def kR:=@Array.toList_append
def kU:=@List.toList_toArray
def kV:=@List.filter_sublist
def kW:=@List.length_erase_of_mem
def kX:=@List.drop_left'
def kY:=@List.sum_append
def kZ:=@List.findIdx?_eq_some_iff_getElem
def ku:=@List.set_eq_take_append_cons_drop
def kw:=@ByteArray.data_extract
def kz:=@List.lt_irrefl
def lC:=@Bool.not_eq_true'
def lD:=@List.tail_cons
def lF:=@List.drop_sublist
def lG:=@Option.isSome_map
def lH:=@List.erase_of_not_mem
def lJ:=@List.set_getElem_self
def lK:=@List.cons_lt_cons_iff
def lL:=@Array.toList_map
def lM:=@Nat.lt_succ_self
def lQ:=@Nat.mod_eq_of_lt
def lV:=@List.drop_append
def lW:=@Nat.le_add_right
def lY:=@List.flatMap_nil
def lZ:=@List.le_antisymm
def lh:=@Bool.false_or
def lm:=@List.all_cons
def lq:=@List.le_trans
def lu:=@List.le_total
def lw:=@Bool.or_false
def l9:=@List.take_append_of_le_length
def mD:=@List.mem_of_getLast?
def mF:=@Int.mul_le_mul_of_nonneg_left
def mG:=@Array.getElem?_push
def mJ:=@List.reverse_append
def mM:=@List.attach_map_subtype_val
def mP:=@List.nodup_nil
def mQ:=@List.findIdx?_cons
def mV:=@Int.tmod_eq_emod_of_nonneg
def mf:=@List.find?_eq_none
def mg:=@List.length_attach
def mi:=@Array.mapM_eq_mapM_toList
def mr:=@List.sublist_append_right
def nC:=@List.getLastD_eq_getLast?
def nD:=@List.getElem?_zip_eq_some
def nG:=@List.mem_of_find?_eq_some
def nH:=@Nat.sub_mul
def nI:=@List.flatten_cons
def nJ:=@Function.comp_def
def nK:=@Nat.lt_trichotomy
def nM:=@List.getElem?_inj
def nN:=@Array.getElem?_replicate
def nO:=@Nat.mul_assoc
def nP:=@ByteArray.ext
def nR:=@List.eq_of_mem_replicate
def nS:=@List.le_of_lt
def nT:=@List.pairwise_singleton
def nU:=@Int.ediv_le_ediv
def nV:=@Nat.pow_succ
def nX:=@List.zipWith_cons_cons
def nY:=@Int.pow_zero
def nZ:=@List.filter_eq_nil_iff
def ng:=@ByteArray.size_extract
def ni:=@Int.emod_nonneg
def ny:=@List.count_cons
def nz:=@Bool.or_eq_true
def oC:=@Int.ediv_nonneg
def oD:=@List.length_zip
def oG:=@List.modify_zero_cons
def oH:=@List.modify_succ_cons
def oI:=@List.eraseIdx_sublist
def oJ:=@List.getElem?_zipWith
def oK:=@Int.mul_ediv_add_emod
def oL:=@Array.getElem?_mapIdx
def oM:=@List.mapM_cons
def oO:=@Array.mem_toList_iff
def oP:=@Nat.testBit_or
def oQ:=@List.getElem?_modify
def oU:=@Nat.mod_one
def oV:=@List.le_iff_lt_or_eq
def oW:=@List.length_dropLast
def oZ:=@List.replicate_succ'
def og:=@List.extract_toArray
def oh:=@List.getLastD_concat
def oq:=@List.perm_iff_count
def ou:=@List.takeWhile_cons
def oz:=@Int.mul_ediv_cancel
def o6:=@List.replicate_succ
def o7:=@List.length_reverse
def o8:=@Bool.not_true
def o9:=@Array.foldl_toList
def pF:=@Array.toList_range
def pG:=@Array.all_eq_true'
def pI:=@Array.ext'
def pJ:=@Int.emod_lt_of_pos
def pK:=@UInt8.toNat_ofNat'
def pM:=@List.filter_filter
def pO:=@Option.isSome_none
def pR:=@Nat.sub_add_cancel
def pU:=@Bool.eq_false_iff
def pV:=@Nat.lt_succ_of_lt
def pW:=@Int.le_of_lt
def pX:=@List.count_append
def pY:=@Prod.ext
def pz:=@Int.le_of_eq
def qA:=@Int.pow_succ
def qB:=@Int.emod_eq_of_lt
def qC:=@Int.ediv_one
def qE:=@List.map_set
def qF:=@Bool.or_true
def qG:=@List.reverse_cons
def qH:=@List.filter_congr
def qI:=@Int.pow_mul
def qJ:=@Iff.rfl
def qK:=@Nat.blt_eq
def qL:=@Nat.not_lt
noncomputable abbrev PP:=Proofs.Tryz.prog
noncomputable abbrev CP:=Calls PP
abbrev I:Int→Value:=.int .i64
abbrev pq(b:Nat):Value:=.pointer (some ⟨b,0,none⟩)
abbrev Pq(b:Nat):Option Addr:=some ⟨b,0,none⟩
abbrev Ej:Value→Ending:=.returned
abbrev OA:=Option Addr
abbrev LV:=List Value
abbrev Nq:=List Nat
abbrev Lj:=List ByteArray
abbrev LU:=List UInt8
abbrev WP:=World→Prop
abbrev EW:=Ending→World→Prop
abbrev iJ:Int→Value:=.int .i32
abbrev iU:Int→Value:=.int .u8
abbrev lI:=List Int
abbrev oN:=Option Nat
abbrev BA:=ByteArray
abbrev Wq:=World
abbrev iI{B:Type _}:IntKind⊕B:=.inl .i64
end Go
namespace Go.Vc
open Go
noncomputable section
abbrev Fr:=List (Nat×Option Value)
def yw(fr:Fr)(t:Nat):Option Value:=
 List.rec (motive:=λ_=>Option Value) none (λx _ ih=>cond (Nat.beq t x.1) x.2 ih) fr
def ev(fr:Fr):Operand->Option Value
 |.tmp t=>yw fr t
 |.const v=>some v
 |.global g=>some (pq g)
 |.func f=>some (.func (.func f) #[] #[])
def evs(fr:Fr):List Operand->Option (LV)
 | []=>some []
 |x::r=>match ev fr x with
  |some v=>match evs fr r with
   |some l=>some (v::l)
   |none=>none
  |none=>none
def onO{α:Type}(x:Option α)(k:α->Prop):Prop:=
 match x with
 |some v=>k v
 |none=>False
abbrev onV(x:Option Value)(k:Value->Prop):Prop:=onO x k
def W(rd:oN):Fence:= {Fence.wide with round:=rd}
def br(b:Bool)(x y:Prop):Prop:=
 match b with
 |true=>x
 |false=>y
def onP(p:OA)(k:Addr->Prop):Prop:=
 match p with
 |some a=>k a
 |none=>False
def inR(k:IntKind)(z:Int):Prop:=k.min<=z/\z<=k.max
def sb(s:BA)(i:Int):Int:=((s.data.toList[i.toNat]?).getD 0).toNat
structure New(w:Wq)(o:Obj)(b:Nat)(w1:Wq):Prop where
 num:b=w.heap.size
 eq:w1=w.alloc o
def Ld(P:Program)(t:TypeId)(w:Wq)(a:Addr)(v:Value):Prop:=(loadVar t a).run P w=.ok v w
def St(P:Program)(t:TypeId)(w:Wq)(a:Addr)(v:Value)(w1:Wq):Prop:=(storeVar t a v).run P w=.ok () w1
def Eqv(P:Program)(op:BinOp)(t:TypeId)(x y:Operand)(w:Wq)(a b:Value)(r:Bool):Prop:=
 (do eqGuard op t x y a b;binOp op t a b:Sem Value).run P w=.ok (.bool r) w
def Lk(P:Program)(t:TypeId)(ok:Bool)(w:Wq)(m k v:Value):Prop:=(Instr.lookup t m k ok).run P w=.ok v w
def LenM(P:Program)(ts:Array TypeId)(t:TypeId)(w:Wq)(m v:Value):Prop:=(Builtin.len_ ts t #[m]).run P w=.ok v w
def B2S(P:Program)(src dst:TypeId)(w:Wq)(x v:Value):Prop:=(convert src dst x).run P w=.ok v w
def S2B(P:Program)(src dst:TypeId)(w:Wq)(x v:Value)(w1:Wq):Prop:=(convert src dst x).run P w=.ok v w1
def App(P:Program)(ts:Array TypeId)(t:TypeId)(w:Wq)(s x v:Value)(w1:Wq):Prop:=(Builtin.append_ ts t #[s,x]).run P w=.ok v w1
def Cpy(P:Program)(ts:Array TypeId)(t:TypeId)(w:Wq)(d s v:Value)(w1:Wq):Prop:=(Builtin.copy_ ts t #[d,s]).run P w=.ok v w1
def Del(P:Program)(ts:Array TypeId)(t:TypeId)(w:Wq)(m k:Value)(w1:Wq):Prop:=(Builtin.delete_ ts t #[m,k]).run P w=.ok (.tuple #[]) w1
def Clr(P:Program)(ts:Array TypeId)(t:TypeId)(w:Wq)(m:Value)(w1:Wq):Prop:=(Builtin.clear_ ts t #[m]).run P w=.ok (.tuple #[]) w1
def MUp(P:Program)(t:TypeId)(w:Wq)(m k v:Value)(w1:Wq):Prop:=(Instr.mapUpdate t m k v).run P w=.ok () w1
def MEn(P:Program)(t:TypeId)(w:Wq)(m k v:Value)(w1:Wq):Prop:=(Instr.mapEntry t m k).run P w=.ok v w1
def ESt(P:Program)(t:TypeId)(w:Wq)(m s v:Value)(w1:Wq):Prop:=(Instr.entryStore t m s v).run P w=.ok () w1
def MkS(P:Program)(t:TypeId)(w:Wq)(l c v:Value)(w1:Wq):Prop:=(Instr.makeSlice t l c).run P w=.ok v w1
def Rng(P:Program)(t:TypeId)(w:Wq)(x v:Value)(w1:Wq):Prop:=(Instr.range t x).run P w=.ok v w1
def Nxt(P:Program)(isS:Bool)(t:TypeId)(w:Wq)(it v:Value)(w1:Wq):Prop:=(Instr.next it isS t).run P w=.ok v w1
def Etr(P:Program)(w:Wq)(it v:Value)(w1:Wq):Prop:=(Instr.entry it).run P w=.ok v w1
def TAs(P:Program)(xT t:TypeId)(ok:Bool)(w:Wq)(x v:Value):Prop:=(Instr.typeAssert x xT t ok).run P w=.ok v w
def Prt(P:Program)(t:TypeId)(cs:LV)(off:Nat)(v:Value):Prop:=∀w:Wq,(part t cs.toArray off).run P w=.ok v w
structure xk(P:Program)(f:FuncId)(args:LV)(w:Wq)(R:EW):Prop where
 run:Calls P f args.toArray w R
structure KEs(P:Program)(f:FuncId)(args:LV)(w:Wq)(R:EW):Prop where
 run:∃(v:Value)(w1:Wq),(callFunc f args.toArray).run P w=.ok (.value v) w1/\R (Ej v) w1
structure KEc(P:Program)(l:Nat)(args:LV)(w:Wq)(R:EW):Prop where
 run:∀(rd:oN)(n:Nat),YieldAt (W rd) n P l args.toArray w R
def zC(P:Program)(fv:Value)(args:LV)(w:Wq)(R:EW):Prop:=
 match fv with
 |.func (.func g) fi ca=>match P.funcs[g]? with
  |some fn=>match fn.body with
   |some _=>xk P g (fi.toList++args++ca.toList) w R
   |none=>KEs P g (fi.toList++args++ca.toList) w R
  |none=>False
 |.func (.yield l) fi ca=>match fi.toList,ca.toList with
  | [],[]=>KEc P l args w R
  |_,_=>False
 |_=>False
structure KAA{St:Type}(P:Program)(gf:FuncId)(fi ca:LV)(toA:St->LV)(round:St->Wq->(Wq->(Wq->Prop)->Prop)->(Wq->Prop)->(Wq->Prop)->(Nat->Wq->Prop)->Prop)(w:Wq)(Qn Qr:Nat->Wq->Prop)(Qx:Nat->Nat->Wq->Prop):Prop where
 mk'::
 run:∀(D l:Nat)(w0 w1:Wq)(rec:LoopState->Option Code->Obj),New w (.deferred (some [])) D w0->New w0 (rec .ready none) l w1->
  (∀(s:St)(w':Wq)(R:EW),
   round s w' (λw1 k=>w1.heap[l]? =some (rec .ready none)/\k (w1.putObj l (rec .busy none)))
    (λw2=>w2.heap[l]? =some (rec .busy none)/\R (Ej (.bool true)) (w2.putObj l (rec .ready none)))
    (λw2=>w2.heap[l]? =some (rec .busy none)/\R (Ej (.bool false)) (w2.putObj l (rec .done (some .ret))))
    (λid w2=>w2.heap[l]? =some (rec .busy none)/\R (Ej (.bool false)) (w2.putObj l (rec .done (some (.exit id)))))->
   w'.heap[l]? =some (rec .ready none)->zC P (.func (.yield l) #[] #[]) (toA s) w' R)->
  xk P gf (fi++[.func (.yield l) #[] #[]]++ca) w1 λe w2=>∃v,e=Ej v/\
   ((w2.heap[l]? =some (rec .ready none)/\Qn D (w2.putObj l (rec .exhausted none)))\/
    (w2.heap[l]? =some (rec .done (some .ret))/\Qr D (w2.putObj l (rec .exhausted (some .ret))))\/
    ∃id,w2.heap[l]? =some (rec .done (some (.exit id)))/\Qx id D (w2.putObj l (rec .exhausted (some (.exit id)))))
def zo(P:Program)(gf:FuncId):Prop:=∃(fn:Func)(c:Code),P.funcs[gf]? =some fn/\fn.body=some c
def zS(w:Wq)(D:Nat)(w1:Wq):Prop:=w.heap[D]? =some (.deferred (some []))/\w1=w.putObj D (.deferred none)
structure xI{St:Type}(body:St->Wq->(St->Wq->Prop)->Prop)(s:St)(w:Wq):Prop where
 mk'::
 run:∃I:Nat->St->Wq->Prop,(∃n,I n s w)/\∀n s w,I n s w->body s w (λs' w'=>∃m,m<n/\I m s' w')
structure xM{St:Type}(R:St->Wq->Prop)(X:(St->Wq->Prop)->Prop):Prop where
 mk'::
 run:X R
def KEj(f:TypeId->(LV->Prop)->Prop):List TypeId->(LV->Prop)->Prop
 | [],C=>C []
 |t::r,C=>f t (λl=>KEj f r (λl'=>C (l++l')))
def exC(P:Program):Nat->TypeId->(LV->Prop)->Prop
 |0,_,C=>∃cs:LV,C cs
 |n+1,T,C=>
  match P.underlying T with
  |some .bool=>∃b:Bool,C [.bool b]
  |some (.int k)=>∃i:Int,C [.int k i]
  |some .string=>∃s:BA,C [.string s]
  |some (.pointer _)=>∃p:OA,C [.pointer p]
  |some (.slice _)=>∃(a:OA)(l c:Nat),C [.slice a l c]
  |some (.map _ _)=>∃m:oN,C [.map m]
  |some (.struct fs)=>KEj (exC P n) (fs.toList.map (·.type)) C
  |some (.array _ _)=>∃cs:LV,C cs
  |_=>∃v:Value,C [v]
def on1(C:Value->Prop):LV->Prop
 | [v]=>C v
 |_=>False
def exV(P:Program)(T:TypeId)(C:Value->Prop):Prop:=
 match P.underlying T with
 |some (.struct _)|some (.array _ _)=>exC P 8 T λcs=>C (.agg cs.toArray)
 |_=>exC P 8 T (on1 C)
def KFA(P:Program):List TypeId->(LV->Prop)->Prop
 | [],C=>C []
 |t::r,C=>exV P t (λv=>KFA P r (λl=>C (v::l)))
def exT(P:Program)(T:TypeId)(C:Value->Prop):Prop:=
 match P.underlying T with
 |some (.tuple ts)=>KFA P ts.toList λvs=>C (.tuple vs.toArray)
 |_=>exV P T C
def force:LV->(LV->Prop)->Prop
 | [],k=>k []
 |x::r,k=>force r (λr'=>k (x::r'))
def KCV(big:Bool)(l:LV)(k:LV->Prop):Prop:=match big with
 |true=>k l
 |false=>force l k
def over:LV->Nat->LV->LV
 | [],_,cs=>cs
 |x::r,0,_::cs=>x::over r 0 cs
 |_::_,_,[]=>[]
 |l,n+1,c::cs=>c::over l n cs
def KCL(place:Nat->Option (Nat×Nat)):List (Nat×Value)->LV->Option (LV)
 | [],cs=>some cs
 |(i,v)::r,cs=>
  match place i with
  |none=>none
  |some (off,size)=>
   if v.cells.size≠size||off+v.cells.size>cs.length then none
   else KCL place r (over v.cells.toList off cs)
def partsOf(fr:Fr):List (Nat×Operand)->Option (List (Nat×Value))
 | []=>some []
 |(i,x)::r=>match ev fr x with
  |some v=>match partsOf fr r with
   |some l=>some ((i,v)::l)
   |none=>none
  |none=>none
def KBX(P:Program):List Field->Option (List (Nat×Nat))
 | []=>some []
 |f::r=>match P.info? f.type with
  |some i=>match KBX P r with
   |some l=>some ((f.offset,i.size)::l)
   |none=>none
  |none=>none
def zeroOf(P:Program)(t:TypeId):Option Value:=match P.info? t with
 |some i=>i.zero
 |none=>none
def yj(P:Program)(t:TypeId):oN:=match P.info? t with
 |some i=>some i.size
 |none=>none
def bigT(P:Program)(t:TypeId):Bool:=match yj P t with
 |some n=>Nat.blt 64 n
 |none=>false
def zl(P:Program)(t:TypeId):LV:=match zeroOf P t with
 |some z=>z.cells.toList
 |none=>[]
def KCN(P:Program)(t:TypeId)(parts:List (Nat×Value)):Option (LV):=
 match zeroOf P t with
 |none=>none
 |some z=>
  match P.underlying t with
  |some (.struct fs)=>match KBX P fs.toList with
   |some pl=>KCL (λi=>pl[i]?) parts z.cells.toList
   |none=>none
  |some (.array _ e)=>match yj P e with
   |some n=>KCL (λi=>some (i*n,n)) parts z.cells.toList
   |none=>none
  |_=>none
def KEg(P:Program)(t:TypeId)(parts:List (Nat×Value)):LV:=(KCN P t parts).getD []
def KDP(z:LV):Nat->LV
 |0=>[]
 |n+1=>z++KDP z n
def KCx(P:Program)(t:TypeId)(len:Nat)(parts:List (Nat×Value)):Option (TypeId×LV):=
 match P.underlying t with
 |some (.slice e)=>match P.info? e with
  |some i=>match i.zero with
   |some z=>
    if z.cells.size≠i.size||i.size=0||len*i.size>16777216 then none
    else match KCL (λk=>some (k*i.size,i.size)) parts (KDP z.cells.toList len)with
     |some l=>some (e,l)
     |none=>none
   |none=>none
  |none=>none
 |_=>none
def KEM(P:Program)(t:TypeId)(cs:LV)(off:Nat)(K:Value->Prop):Prop:=
 match P.underlying t with
 |some (.struct _)|some (.array _ _)=>match yj P t with
  |some n=>force ((cs.drop off).take n) λl=>K (.agg l.toArray)
  |none=>False
 |some _=>match cs[off]? with
  |some v=>K v
  |none=>False
 |none=>False
def slA(a:OA)(m l size:Nat):OA:=if m=l then a else a.map (·.add (l*size))
def opI(fr:Fr)(x:Option Operand)(k:Option Int->Prop):Prop:=
 match x with
 |none=>k none
 |some o=>match ev fr o with
  |some (.int _ i)=>k (some i)
  |_=>False
def KEp(a:OA)(n c size:Nat)(lo hi mx:Option Int)(K:Value->Prop):Prop:=
 match mx,hi,lo with
 |none,none,none=>K (.slice a n c)
 |none,none,some l=>(0<=l/\l<=n)/\K (.slice (slA a c l.toNat size) (n-l.toNat) (c-l.toNat))
 |none,some h,none=>(0<=h/\h<=c)/\K (.slice a h.toNat c)
 |none,some h,some l=>(0<=l/\l<=h/\h<=c)/\K (.slice (slA a c l.toNat size) (h.toNat-l.toNat) (c-l.toNat))
 |some m,some h,none=>(0<=h/\h<=m/\m<=c)/\K (.slice a h.toNat m.toNat)
 |some m,some h,some l=>(0<=l/\l<=h/\h<=m/\m<=c)/\K (.slice (slA a m.toNat l.toNat size) (h.toNat-l.toNat) (m.toNat-l.toNat))
 |some _,none,_=>False
def KFb(P:Program)(t:TypeId)(x:Value)(lo hi mx:Option Int)(K:Value->Prop):Prop:=
 match P.underlying t,x with
 |some .string,.string s=>
  match mx,hi,lo with
  |none,none,none=>K (.string (s.extract 0 s.size))
  |none,none,some l=>(0<=l/\l<=s.size)/\K (.string (s.extract l.toNat s.size))
  |none,some h,none=>(0<=h/\h<=s.size)/\K (.string (s.extract 0 h.toNat))
  |none,some h,some l=>(0<=l/\l<=h/\h<=s.size)/\K (.string (s.extract l.toNat h.toNat))
  |some _,_,_=>False
 |some (.slice e),.slice a n c=>match yj P e with
  |some size=>KEp a n c size lo hi mx K
  |none=>False
 |some (.array n e),.pointer p=>match yj P e with
  |some size=>onP p λa=>KEp (some a) n n size lo hi mx K
  |none=>False
 |_,_=>False
def KBi(P:Program)(fr:Fr)(t:TypeId)(x:Value)(lo hi mx:Option Operand)(K:Value->Prop):Prop:=
 opI fr lo λlo=>opI fr hi λhi=>opI fr mx λmx=>KFb P t x lo hi mx K
def arith(wr:Bool)(k:IntKind)(z:Int)(K:Value->Prop):Prop:=
 match wr with
 |true=>K (.int k (k.wrap z))
 |false=>inR k z/\K (.int k z)
def bits(op:BinOp)(k:IntKind)(x y:Int):Int:=
 match op with
 |.and=>k.wrap (BitVec.ofInt k.bits x&&&BitVec.ofInt k.bits y).toNat
 |.or=>k.wrap (BitVec.ofInt k.bits x|||BitVec.ofInt k.bits y).toNat
 |.xor=>k.wrap (BitVec.ofInt k.bits x^^^BitVec.ofInt k.bits y).toNat
 |.andNot=>k.wrap (BitVec.ofInt k.bits x&&& ~~~(BitVec.ofInt k.bits y)).toNat
 |_=>0
def KDk(wr:Bool)(P:Program)(op:BinOp)(t:TypeId)(x y:Value)(K:Value->Prop):Prop:=
 match op,x,y with
 |.shl,.int k a,.int _ b=>0<=b/\arith wr k (a*2^(min b.toNat k.bits)) K
 |.shr,.int k a,.int _ b=>0<=b/\K (.int k (a.fdiv (2^(min b.toNat k.bits))))
 |op,.int k a,.int k' b=>
  if k=k' then
   match op with
   |.add=>arith wr k (a+b) K
   |.sub=>arith wr k (a-b) K
   |.mul=>arith wr k (a*b) K
   |.quo=>b≠0/\arith wr k (a.tdiv b) K
   |.rem=>b≠0/\K (.int k (a.tmod b))
   |.and=>K (.int k (bits .and k a b))
   |.or=>K (.int k (bits .or k a b))
   |.xor=>K (.int k (bits .xor k a b))
   |.andNot=>K (.int k (bits .andNot k a b))
   |.eql=>K (.bool (decide (a=b)))
   |.neq=>K (.bool (!decide (a=b)))
   |.lss=>K (.bool (decide (a<b)))
   |.leq=>K (.bool (decide (a<=b)))
   |.gtr=>K (.bool (decide (b<a)))
   |.geq=>K (.bool (decide (b<=a)))
   |_=>False
  else False
 |op,.string a,.string b=>
  match op with
  |.add=>((a.size+b.size:Nat):Int)<=9223372036854775807/\K (.string (a++b))
  |.eql=>K (.bool (decide (a=b)))
  |.neq=>K (.bool (!decide (a=b)))
  |.lss=>K (.bool (Op.bytesLess a.data.toList b.data.toList))
  |.leq=>K (.bool (Op.bytesLess a.data.toList b.data.toList||decide (a=b)))
  |.gtr=>K (.bool (!(Op.bytesLess a.data.toList b.data.toList||decide (a=b))))
  |.geq=>K (.bool (!Op.bytesLess a.data.toList b.data.toList))
  |_=>False
 |.eql,.bool a,.bool b=>match P.underlying t with
  |some .bool=>K (.bool (a==b))
  |_=>False
 |.neq,.bool a,.bool b=>match P.underlying t with
  |some .bool=>K (.bool (!(a==b)))
  |_=>False
 |_,_,_=>False
def unV(wr:Bool)(op:UnOp)(x:Value)(K:Value->Prop):Prop:=
 match op,x with
 |.not,.bool b=>K (.bool (!b))
 |.neg,.int k n=>arith wr k (0-n) K
 |.xor,.int k n=>K (.int k (bits .xor k (if k.signed then-1 else k.max) n))
 |_,_=>False
def lenV(P:Program)(ts:Array TypeId)(x:Value)(K:Value->Prop):Prop:=
 match ts[0]? with
 |none=>False
 |some t=>
  match P.underlying t,x with
  |some .string,.string s=>K (I s.size)
  |some (.slice _),.slice _ n _=>K (I n)
  |some (.array n _),_=>K (I n)
  |some (.pointer e),_=>match P.underlying e with
   |some (.array n _)=>K (I n)
   |_=>False
  |_,_=>False
def KEu(P:Program)(ts:Array TypeId)(x:Value)(K:Value->Prop):Prop:=
 match ts[0]? with
 |none=>False
 |some t=>
  match P.underlying t,x with
  |some (.slice _),.slice _ _ c=>K (I c)
  |some (.array n _),_=>K (I n)
  |_,_=>False
def KBT(wr:Bool)(P:Program)(fr:Fr)(o:Oper)(K:Value->Prop):Prop:=
 match o.op with
 |.move x=>onV (ev fr x) K
 |.assign x=>onV (ev fr x) K
 |.pick c a b=>match ev fr c with
  |some (.bool t)=>br t (onV (ev fr a) K) (onV (ev fr b) K)
  |_=>False
 |.build t parts=>match partsOf fr parts.toList with
  |some ps=>match KCN P t ps with
   |some _=>KCV (bigT P t) (KEg P t ps) λl=>K (.agg l.toArray)
   |none=>False
  |none=>False
 |.nilCheck x=>match ev fr x with
  |some (.pointer p)=>onP p λa=>K (.pointer (some a))
  |some (.func (.func f) fi ca)=>K (.func (.func f) fi ca)
  |some (.iface t v)=>K (.iface t v)
  |_=>False
 |.binOp op t x y _=>onV (ev fr x) λa=>onV (ev fr y) λb=>KDk wr P op t a b K
 |.unOp op _ x=>onV (ev fr x) λa=>unV wr op a K
 |.convert src dst x=>match P.underlying src,P.underlying dst,ev fr x with
  |some (.int _),some (.int k),some (.int _ n)=>K (.int k (k.wrap n))
  |some .string,some .string,some (.string s)=>K (.string s)
  |_,_,_=>False
 |.makeInterface t x=>match P.underlying t with
  |some (.interface _)=>False
  |some _=>onV (ev fr x) λv=>K (.iface t v)
  |none=>False
 |.makeFunc fn first captured=>match evs fr first.toList,evs fr captured.toList with
  |some fi,some ca=>K (.func fn fi.toArray ca.toArray)
  |_,_=>False
 |.slice t x lo hi mx=>onV (ev fr x) λv=>KBi P fr t v lo hi mx K
 |.fieldAddr s x f=>match P.underlying s,ev fr x with
  |some (.struct fs),some (.pointer p)=>match fs[f]? with
   |some fd=>match yj P fd.type with
    |some (_+1)=>onP p λa=>K (.pointer (some (a.add fd.offset)))
    |_=>False
   |none=>False
  |_,_=>False
 |.field t x f=>match P.underlying t,ev fr x with
  |some (.struct fs),some (.agg cs)=>match fs[f]? with
   |some fd=>KEM P fd.type cs.toList fd.offset K
   |none=>False
  |_,_=>False
 |.indexAddr t x ix=>match P.underlying t,ev fr x,ev fr ix with
  |some (.slice e),some (.slice p n _),some (.int _ i)=>match yj P e with
   |some sz=>onP p λa=>(0<=i/\i<n)/\K (.pointer (some (a.add (i.toNat*sz))))
   |none=>False
  |some (.array n e),some (.pointer p),some (.int _ i)=>match yj P e with
   |some sz=>onP p λa=>(0<=i/\i<n)/\K (.pointer (some (a.add (i.toNat*sz))))
   |none=>False
  |_,_,_=>False
 |.index t x ix=>match P.underlying t,ev fr x,ev fr ix with
  |some .string,some (.string s),some (.int _ i)=>(0<=i/\i<s.size)/\K (iU (sb s i))
  |some (.array n e),some (.agg cs),some (.int _ i)=>match yj P e with
   |some sz=>(0<=i/\i<n)/\exV P e λv=>Prt P e cs.toList (i.toNat*sz) v/\K v
   |none=>False
  |_,_,_=>False
 |.extract x i=>match ev fr x with
  |some (.tuple vs)=>match vs[i]? with
   |some v=>K v
   |none=>False
  |_=>False
 |.call c=>match c.callee,c.args.toList with
  |.builtin .len,[x]=>onV (ev fr x) λv=>lenV P c.argTypes v K
  |.builtin .cap,[x]=>onV (ev fr x) λv=>KEu P c.argTypes v K
  |.builtin .min,[x,y]=>match ev fr x,ev fr y with
   |some (.int k a),some (.int _ b)=>K (.int k (min a b))
   |_,_=>False
  |.builtin .max,[x,y]=>match ev fr x,ev fr y with
   |some (.int k a),some (.int _ b)=>K (.int k (max a b))
   |_,_=>False
  |_,_=>False
 |_=>False
def zU(P:Program)(fr:Fr)(o:Oper)(w:Wq)(v:Value):Prop:=
 match o.op with
 |.load t x=>match ev fr x with
  |some (.pointer p)=>onP p λa=>Ld P t w a v
  |_=>False
 |.lookup t x k ok=>onV (ev fr x) λm=>onV (ev fr k) λk=>Lk P t ok w m k v
 |.binOp op t x y _=>onV (ev fr x) λa=>onV (ev fr y) λb=>match v with
  |.bool r=>Eqv P op t x y w a b r
  |_=>False
 |.convert src dst x=>onV (ev fr x) λa=>B2S P src dst w a v
 |.typeAssert x xT t ok=>onV (ev fr x) λa=>TAs P xT t ok w a v
 |.call c=>match c.callee,c.args.toList with
  |.builtin .len,[x]=>onV (ev fr x) λm=>LenM P c.argTypes o.type w m v
  |_,_=>False
 |_=>False
def KCQ(P:Program)(fv:Value)(args:LV)(t:TypeId)(w:Wq)(K:Option Value->Wq->Prop):Prop:=
 zC P fv args w λe w'=>exT P t λv=>e=Ej v/\K (some v) w'
def KFB:List Oper->oN->Nat->Option TypeId
 | [],_,_=>none
 |o::r,d,i=>match o.op,d with
  |.extract (.tmp x) j,some d=>match Nat.beq x d&&Nat.beq j i with
   |true=>some o.type
   |false=>KFB r (some d) i
  |_,d=>KFB r d i
def exO(P:Program)(t:Option TypeId)(C:Value->Prop):Prop:=match t with
 |some t=>exT P t C
 |none=>∃v,C v
def KES(x:Option Value)(k:Addr->Prop):Prop:=
 match x with
 |some (.pointer p)=>onP p k
 |_=>False
def biE(P:Program)(ty:TypeId)(ts:Array TypeId)(w:Wq)(K:Option Value->Wq->Prop)(b:Builtin)(args:LV):Prop:=
 match b,args with
 |.append,[s,x]=>∃(a:OA)(n m:Nat)(w1:Wq),App P ts ty w s x (.slice a n m) w1/\K (some (.slice a n m)) w1
 |.copy,[d,s]=>∃(n:Int)(w1:Wq),Cpy P ts ty w d s (I n) w1/\K (some (I n)) w1
 |.delete,[m,k]=>∃w1,Del P ts ty w m k w1/\K (some (.tuple #[])) w1
 |.clear,[m]=>∃w1,Clr P ts ty w m w1/\K (some (.tuple #[])) w1
 |_,_=>False
def KBf(P:Program)(ops:List Oper)(fr:Fr)(o:Oper)(w:Wq)(K:Option Value->Wq->Prop):Prop:=
 match o.op with
 |.alloc t=>onO (zeroOf P t) λ_=>KCV (bigT P t) (zl P t) λl=>∀b w1,New w (.cells l.toArray t) b w1->K (some (pq b)) w1
 |.box t x=>onV (ev fr x) λv=>KCV (bigT P t) v.cells.toList λl=>∀b w1,New w (.cells l.toArray t) b w1->K (some (pq b)) w1
 |.buildSlice t len parts=>onO (partsOf fr parts.toList) λps=>onO (KCx P t len ps) λx=>KCV false x.2 λl=>∀b w1,New w (.cells l.toArray x.1) b w1->K (some (.slice (Pq b) len len)) w1
 |.store t x y=>KES (ev fr x) λa=>onV (ev fr y) λv=>∃w1,St P t w a v w1/\K none w1
 |.convert src dst x=>onV (ev fr x) λv=>∃(a:OA)(l c:Nat)(w1:Wq),S2B P src dst w v (.slice a l c) w1/\K (some (.slice a l c)) w1
 |.makeSlice t l c=>onV (ev fr l) λl=>onV (ev fr c) λc=>∃(a:OA)(n m:Nat)(w1:Wq),MkS P t w l c (.slice a n m) w1/\K (some (.slice a n m)) w1
 |.makeMap t none=>∀b w1,New w (.map #[] 0) b w1->K (some (.map (some b))) w1
 |.mapUpdate t m k x|.insert t m k x=>onV (ev fr m) λm=>onV (ev fr k) λk=>onV (ev fr x) λv=>∃w1,MUp P t w m k v w1/\K none w1
 |.mapEntry t m k=>onV (ev fr m) λm=>onV (ev fr k) λk=>∃(v:Value)(i:Int)(w1:Wq),MEn P t w m k (.tuple #[v,I i]) w1/\K (some (.tuple #[v,I i])) w1
 |.entryStore t m s x=>onV (ev fr m) λm=>onV (ev fr s) λs=>onV (ev fr x) λv=>∃w1,ESt P t w m s v w1/\K none w1
 |.range t x=>onV (ev fr x) λv=>∃(p:OA)(w1:Wq),Rng P t w v (.pointer p) w1/\K (some (.pointer p)) w1
 |.next it isS=>onV (ev fr it) λi=>
   (∃w1,Nxt P isS o.type w i (.tuple #[.bool false]) w1/\K (some (.tuple #[.bool false])) w1)\/
   (∃(k v:Value)(w1:Wq),Nxt P isS o.type w i (.tuple #[.bool true,k,v]) w1/\K (some (.tuple #[.bool true,k,v])) w1)
 |.entry it=>onV (ev fr it) λi=>exO P (KFB ops o.dst 0) λk=>exO P (KFB ops o.dst 1) λv=>∃w1,Etr P w i (.tuple #[k,v]) w1/\K (some (.tuple #[k,v])) w1
 |.call c=>onO (evs fr c.args.toList) λargs=>match c.callee with
  |.value f=>onV (ev fr f) λfv=>KCQ P fv args o.type w K
  |.builtin b=>biE P o.type c.argTypes w K b args
  |_=>False
 |_=>False
def cls(P:Program)(op:Op):Nat:=
 match op with
 |.move _|.assign _|.pick .. |.build .. |.nilCheck _|.unOp .. |.makeInterface .. |.makeFunc .. |.slice .. |.fieldAddr .. |.field .. |.indexAddr .. |.index .. |.extract .. =>0
 |.binOp op t _ _ _=>match op with
  |.eql|.neq=>match P.underlying t with
   |some (.int _)|some .string|some .bool=>0
   |_=>1
  |_=>0
 |.convert src dst _=>match P.underlying src,P.underlying dst with
  |some (.slice _),some .string=>1
  |some .string,some (.slice _)=>2
  |some (.slice _),some (.slice _)=>2
  |_,_=>0
 |.load .. |.lookup .. |.typeAssert .. =>1
 |.call c=>match c.callee with
  |.builtin .len=>match c.argTypes[0]? with
   |some t=>match P.underlying t with
    |some (.map _ _)=>1
    |_=>0
   |none=>0
  |.builtin .cap|.builtin .min|.builtin .max=>0
  |_=>2
 |_=>2
abbrev Past:=List (Nat×(Wq->Prop))
def again(bef:Nat->Nat->Bool)(j:Nat):Past->Wq->Prop->Prop
 | [],_,X=>X
 |(i,f)::p,w,X=>match bef i j with
  |true=>again bef j p w X
  |false=>f w/\again bef j p w X
def spl(sp:Bool)(v:Value)(K:Value->Prop):Prop:=
 match sp,v with
 |true,.bool b=>br b (K (.bool true)) (K (.bool false))
 |_,_=>K v
def zH(ops:List Oper)(j:Nat):oN:=match ops[j]? with
 |some o=>o.dst
 |none=>none
def KDD(ops:List Oper)(i:Nat):Bool:=ops.any λo=>match o.guard with
 |some (j,_)=>j==i
 |none=>false
def zt(wr:Bool)(P:Program)(bef:Nat->Nat->Bool)(ops:List Oper)(i:Nat)(o:Oper)(fr:Fr)(w:Wq)(past:Past)(K:Option Value->Wq->Past->Prop):Prop:=
 match cls P o.op with
 |0=>KBT wr P fr o λv=>spl (KDD ops i) v λv=>K (some v) w past
 |1=>exT P o.type λv=>zU P fr o w v/\spl (KDD ops i) v λv'=>K (some v') w ((i,λw'=>zU P fr o w' v)::past)
 |_=>KBf P ops fr o w λrv w'=>again bef i past w' (match rv with
  |some v=>spl (KDD ops i) v λv=>K (some v) w' past
  |none=>K none w' past)
def KDl(nt:Nat)(fr:Fr)(d:oN)(v:Option Value)(k:Fr->Prop):Prop:=
 match d with
 |some d=>match Nat.blt d nt with
  |true=>k ((d,v)::fr)
  |false=>False
 |none=>k fr
def stepD(wr:Bool)(P:Program)(bef:Nat->Nat->Bool)(ops:List Oper)(i:Nat)(o:Oper)(fr:Fr)(w:Wq)(past:Past)(K:Option Value->Wq->Past->Prop):Prop:=
 match o.guard with
 |none=>zt wr P bef ops i o fr w past K
 |some (j,want)=>match zH ops j with
  |none=>False
  |some s=>match yw fr s with
   |some (.bool b)=>
    match b,want with
    |true,true|false,false=>zt wr P bef ops i o fr w past K
    |_,_=>K (some (.tuple #[])) w past
   |some (.tuple _)=>K (some (.tuple #[])) w past
   |_=>False
def KAJ(wr:Bool)(P:Program)(nt:Nat)(bef:Nat->Nat->Bool)(ops:List Oper)(K:Fr->Wq->Prop):Nq->Fr->Wq->Past->Prop
 | [],fr,w,_=>K fr w
 |i::r,fr,w,past=>
  match ops[i]? with
  |none=>False
  |some o=>stepD wr P bef ops i o fr w past λv w' past'=>KDl nt fr o.dst v λfr'=>KAJ wr P nt bef ops K r fr' w' past'
def KFI(o:Oper):Nq:=(o.after.toList.filter λe=>Region.binds .any e).map (·.on)
def KDv(ex:List (Nat×Nat))(j:Nat)(o:Oper):Nq:=KFI o++(ex.filter λp=>Nat.beq p.2 j).map (·.1)
def KDm(l:Nq)(e:Nat):Nat:=(l[e]?).getD 0
def KDX(ex:List (Nat×Nat))(prev:Nq)(ops:List Oper):Nq:=
 ops.foldl (λacc o=>acc++[(KDv ex acc.length o).foldl (λs e=>Nat.lor s (Nat.lor (Nat.pow 2 e) (Nat.lor (KDm acc e) (KDm prev e)))) 0]) []
def closure(ex:List (Nat×Nat))(ops:List Oper):Nq:=
 match ex with
 | []=>KDX ex [] ops
 |_=>KDX ex (KDX ex (KDX ex [] ops) ops) ops
def before(cl:Nq)(i j:Nat):Bool:=Nat.testBit (KDm cl j) i
def within(m done:Nat):Bool:=Nat.beq (Nat.lor m done) done
def KBW(P:Program)(ops:List Oper)(cl:Nq)(done:Nat):Nq->oN->oN
 | [],late=>late
 |i::r,late=>
  match Nat.testBit done i with
  |true=>KBW P ops cl done r late
  |false=>
   match within (KDm cl i) done with
   |false=>KBW P ops cl done r late
   |true=>match ops[i]? with
    |some o=>match cls P o.op with
     |0=>some i
     |1=>some i
     |_=>KBW P ops cl done r (match late with
      |none=>some i
      |some l=>some l)
    |none=>none
def KDA(P:Program)(ops:List Oper)(cl:Nq)(all:Nq):Nat->Nat->Nq
 |0,_=>[]
 |n+1,done=>match KBW P ops cl done all none with
  |some i=>i::KDA P ops cl all n (Nat.lor done (Nat.pow 2 i))
  |none=>[]
def yU(P:Program):List Oper->Nat->Nq
 | [],_=>[]
 |o::r,i=>match cls P o.op with
  |0=>yU P r (i+1)
  |1=>yU P r (i+1)
  |_=>i::yU P r (i+1)
def remove(x:Nat):Nq->Nq
 | []=>[]
 |y::r=>match Nat.beq x y with
  |true=>r
  |false=>y::remove x r
def KAv(cl:Nq):Nat->Nq->List (Nq)
 |0,_=>[[]]
 |n+1,l=>(l.filter λx=>l.all λy=> !before cl y x).flatMap λx=>(KAv cl n (remove x l)).map (x:: ·)
def chainOf:Nq->List (Nat×Nat)
 |x::y::r=>(x,y)::chainOf (y::r)
 |_=>[]
def nodupB:Nq->Bool
 | []=>true
 |x::r=> !r.contains x&&nodupB r
def yu(x:Nat):Nq->Nat
 | []=>0
 |y::r=>match Nat.beq x y with
  |true=>0
  |false=>yu x r+1
def zG(m:Region.Mode)(o:Oper):Nq:=(o.after.toList.filter λe=>Region.binds m e).map (·.on)
def forward(m:Region.Mode)(ops:List Oper)(σ:Nq):Bool:=
 (List.range ops.length).all λi=>match ops[i]? with
  |some o=>(zG m o).all λj=>decide (j<ops.length)&&decide (yu j σ<yu i σ)
  |none=>false
def KDp(o:Op):Nq:=o.operands.toList.filterMap λx=>match x with
 |.tmp t=>some t
 |_=>none
def apartB(ops:List Oper)(i j:Nat):Bool:=
 match ops[i]?,ops[j]? with
 |some a,some b=>
  match a.dst,b.dst with
  |some x,some y=> !(x==y)&& !(KDp a.op).contains y&& !(KDp b.op).contains x&&
    (match a.guard with
     |some (k,_)=>match zH ops k with
      |some s=> !(s==y)
      |none=>true
     |none=>true)&&
    (match b.guard with
     |some (k,_)=>match zH ops k with
      |some s=> !(s==x)
      |none=>true
     |none=>true)
  |some x,none=> !(KDp b.op).contains x&&
    (match b.guard with
     |some (k,_)=>match zH ops k with
      |some s=> !(s==x)
      |none=>true
     |none=>true)
  |none,some y=> !(KDp a.op).contains y&&
    (match a.guard with
     |some (k,_)=>match zH ops k with
      |some s=> !(s==y)
      |none=>true
     |none=>true)
  |none,none=>true
 |_,_=>false
def KCF(f:Nat->Nat->Bool):Nq->Bool
 | []=>true
 |i::r=>r.all (f i)&&KCF f r
def KDu(P:Program)(ops:List Oper)(cl:Nq)(i j:Nat):Bool:=
 before cl i j||
 (!before cl j i&&apartB ops i j&&
  match ops[i]?,ops[j]? with
  |some a,some b=>match cls P a.op,cls P b.op with
   |0,_=>true
   |_,0=>true
   |1,_=>true
   |_,_=>false
  |_,_=>false)
def KDt(P:Program)(ops:Array Oper)(cl:Nq)(σ:Nq):Bool:=
 decide (σ.length=ops.toList.length)&&nodupB σ&&σ.all (λi=>decide (i<ops.toList.length))&&KCF (KDu P ops.toList cl) σ
def KCJ(ops:Array Oper):Bool:=
 forward .any ops.toList (List.range ops.toList.length)&&
 (!Region.departs ops||(forward .text ops.toList (List.range ops.toList.length)&&forward .gc ops.toList (Region.linearise .gc ops 0)))
abbrev Kd:=IntKind⊕Nat
def KTy:Kd->Type
 |.inl _=>Int
 |.inr 0=>Bool
 |.inr 1=>BA
 |.inr 2=>OA
 |.inr 3=>OA×Nat×Nat
 |.inr 4=>oN
 |.inr (_+5)=>Value
def toV:(k:Kd)->KTy k->Value
 |.inl k,n=>.int k n
 |.inr 0,b=>.bool b
 |.inr 1,s=>.string s
 |.inr 2,p=>.pointer p
 |.inr 3,x=>.slice x.1 x.2.1 x.2.2
 |.inr 4,m=>.map m
 |.inr (_+5),v=>v
def fromV:(k:Kd)->Value->Option (KTy k)
 |.inl k,.int k' n=>match decide (k=k')with
  |true=>some n
  |false=>none
 |.inr 0,.bool b=>some b
 |.inr 1,.string s=>some s
 |.inr 2,.pointer p=>some p
 |.inr 3,.slice a l c=>some (a,l,c)
 |.inr 4,.map m=>some m
 |.inr (_+5),v=>some v
 |_,_=>none
def KBF:List (Nat×Kd)->Type
 | []=>Unit
 | [x]=>KTy x.2
 |x::y::r=>KTy x.2×KBF (y::r)
def setSt:(l:List (Nat×Kd))->KBF l->Fr->Fr
 | [],_,fr=>fr
 | [x],s,fr=>(x.1,some (toV x.2 s))::fr
 |x::y::r,s,fr=>(x.1,some (toV x.2 s.1))::setSt (y::r) s.2 fr
def KBJ:(l:List (Nat×Kd))->Fr->(KBF l->Prop)->Prop
 | [],_,K=>K ()
 | [x],fr,K=>match yw fr x.1 with
  |some v=>match fromV x.2 v with
   |some s=>K s
   |none=>False
  |none=>False
 |x::y::r,fr,K=>match yw fr x.1 with
  |some v=>match fromV x.2 v with
   |some s=>KBJ (y::r) fr λs'=>K (s,s')
   |none=>False
  |none=>False
def KAh:Nq->Fr->Fr
 | [],fr=>fr
 |t::r,fr=>(t,none)::KAh r fr
def KBD:List Oper->Nq
 | []=>[]
 |o::r=>match o.dst with
  |some d=>d::KBD r
  |none=>KBD r
def KAQ:Code->Nq
 |.region _ ops _=>KBD ops.toList
 |.seq a b=>KAQ a++KAQ b
 |.cond _ a b=>KAQ a++KAQ b
 |.block _ c=>KAQ c
 |.loop c=>KAQ c
 |.scope c=>KAQ c
 |_=>[]
def KAL:Code->oN
 |.region id _ _=>some id
 |.seq a b=>match KAL a with
  |some i=>some i
  |none=>KAL b
 |.cond _ a b=>match KAL a with
  |some i=>some i
  |none=>KAL b
 |.block _ c=>KAL c
 |.loop c=>KAL c
 |.scope c=>KAL c
 |_=>none
def KEG:List (Nat×Kd)->Nq->Bool
 | [],_=>true
 |x::r,ms=>ms.contains x.1&&KEG r ms
structure An where
 wraps:Nq:=[]
 loops:List (Nat×List (Nat×Kd)):=[]
 joins:List (Nat×List (Nat×Kd)):=[]
 ranges:List (Nat×List (Nat×Kd)):=[]
def An.find(l:List (Nat×List (Nat×Kd)))(i:oN):Option (List (Nat×Kd)):=
 match i with
 |none=>none
 |some i=>match l with
  | []=>none
  |(j,s)::r=>match Nat.beq i j with
   |true=>some s
   |false=>An.find r (some i)
def KAy:Code->Bool
 |.seq a b=>KAy a&&KAy b
 |.cond _ a b=>KAy a&&KAy b
 |.block _ c=>KAy c
 |.loop c=>KAy c
 |.scope c=>KAy c
 |.rangeFunc .. =>false
 |_=>true
def KAK:Code->Nq
 |.seq a b=>KAK a++KAK b
 |.cond _ a b=>KAK a++KAK b
 |.block id c=>(KAK c).filter λx=> !Nat.beq x id
 |.loop c=>KAK c
 |.scope c=>KAK c
 |.exit id=>[id]
 |_=>[]
def KAp:Code->Bool
 |.seq a b=>KAp a||KAp b
 |.cond _ a b=>KAp a||KAp b
 |.block _ c=>KAp c
 |.loop c=>KAp c
 |.scope c=>KAp c
 |.ret=>true
 |_=>false
def isIn(i:Nat):Nq->Bool
 | []=>false
 |x::r=>Nat.beq i x||isIn i r
def zQ:(l:List (Nat×Kd))->KBF l->LV
 | [],_=>[]
 | [x],s=>[toV x.2 s]
 |x::y::r,s=>toV x.2 s.1::zQ (y::r) s.2
def KFU(nt:Nat)(st:List (Nat×Kd))(ps:Nq):Bool:=(st.map (·.1)==ps)&&nodupB ps&&ps.all (Nat.blt · nt)
def KAX(f:Nq->Prop):List (Nq)->Prop
 | []=>True
 | [x]=>f x
 |x::y::r=>f x/\KAX f (y::r)
def V(P:Program)(an:An)(nt:Nat):Code->Fr->Nq->Wq->(Exit->Fr->Nq->Wq->Prop)->Prop
 |.skip,fr,ms,w,Q=>Q .normal fr ms w
 |.region id ops draw,fr,ms,w,Q=>
  match draw with
  |false=>KAJ (an.wraps.contains id) P nt (λ_ _=>true) ops.toList (λfr w=>Q .normal fr ms w) (List.range ops.toList.length) fr w []
  |true=>match KCJ ops with
   |true=>KAX (λeo=>match closure (chainOf eo) ops.toList with
    |cl=>match KDA P ops.toList cl (List.range ops.toList.length) ops.toList.length 0 with
     |σ=>match KDt P ops cl σ with
      |true=>KAJ (an.wraps.contains id) P nt (before cl) ops.toList (λfr w=>Q .normal fr ms w) σ fr w.drew []
      |false=>False) (match yU P ops.toList 0 with
     |ts=>KAv (closure [] ops.toList) ts.length ts)
   |false=>False
 |.seq a b,fr,ms,w,Q=>
  match An.find an.joins (KAL b)with
  |some st=>match KEG st (KAQ a)&&KAy a with
   |true=>xM (λ(s:KBF st) w'=>V P an nt b (setSt st s (KAh (KAQ a) fr)) ms w' Q) (λJ=>V P an nt a fr ms w (λe fr' ms' w'=>match e with
    |.normal=>KBJ st fr' λs=>J s w'
    |e=>Q e fr' ms' w'))
   |false=>False
  |none=>V P an nt a fr ms w (λe fr' ms' w'=>match e with
    |.normal=>V P an nt b fr' ms' w' Q
    |e=>Q e fr' ms' w')
 |.cond c x y,fr,ms,w,Q=>
  match ev fr c with
  |some (.bool b)=>br b (V P an nt x fr ms w Q) (V P an nt y fr ms w Q)
  |_=>False
 |.block id c,fr,ms,w,Q=>V P an nt c fr ms w (λe fr' ms' w'=>match e with
   |.exit id'=>match Nat.beq id' id with
    |true=>Q .normal fr' ms' w'
    |false=>Q (.exit id') fr' ms' w'
   |e=>Q e fr' ms' w')
 |.loop c,fr,ms,w,Q=>
  match An.find an.loops (KAL c)with
  |some st=>match KEG st (KAQ c)with
   |true=>match KAy c with
    |true=>KBJ st fr λs0=>xI (λ(s:KBF st) w' next=>V P an nt c (setSt st s (KAh (KAQ c) fr)) ms w' (λe fr' ms' w''=>match e with
     |.normal=>KBJ st fr' λs'=>next s' w''
     |e=>Q e fr' ms' w'')) s0 w
    |false=>KBJ st fr λs0=>xI (λ(s:KBF st×Nq) w' next=>V P an nt c (setSt st s.1 (KAh (KAQ c) fr)) s.2 w' (λe fr' ms' w''=>match e with
     |.normal=>KBJ st fr' λs'=>next (s',ms') w''
     |e=>Q e fr' ms' w'')) (s0,ms) w
   |false=>False
  |none=>False
 |.exit id,fr,ms,w,Q=>Q (.exit id) fr ms w
 |.scope c,fr,ms,w,Q=>V P an nt c fr ms w (λe fr' ms' w'=>match e with
   |.goto _=>False
   |e=>Q e fr' ms' w')
 |.label _,fr,ms,w,Q=>Q .normal fr ms w
 |.ret,fr,ms,w,Q=>Q .ret fr ms w
 |.rangeFunc g ps assign body,fr,ms,w,Q=>
  match An.find an.ranges (KAL body)with
  |some st=>match KFU nt st ps.toList&&(KAy assign&&KAy body)with
   |true=>match ev fr g with
    |some v=>∃(gf:FuncId)(fi ca:Array Value),v=.func (.func gf) fi ca/\zo P gf/\KAA P gf fi.toList ca.toList (zQ st) (λ(s:KBF st) w' begin kn kr kx=>V P an nt assign (setSt st s fr) [] w' (λe fr1 _ w1=>match e with
        |.normal=>begin w1 λw2=>V P an nt body fr1 [] w2 (λe _ _ w3=>match e with
         |.normal=>kn w3
         |.ret=>kr w3
         |.exit id=>kx id w3
         |_=>False)
        |_=>False)) w (λD w'=>Q .normal fr (D::ms) w') (λD w'=>match KAp body with
        |true=>Q .ret fr (D::ms) w'
        |false=>False) (λid D w'=>match isIn id (KAK body)with
        |true=>Q (.exit id) fr (D::ms) w'
        |false=>False)
    |_=>False
   |false=>False
  |none=>False
 |_,_,_,_,_=>False
def resV(P:Program)(fr:Fr)(w:Wq):List ResultVar->(LV->Prop)->Prop
 | [],K=>K []
 |.tmp t::r,K=>onV (yw fr t) λv=>resV P fr w r λl=>K (v::l)
 |.cell a t::r,K=>match yw fr a with
  |some (.pointer p)=>onP p λa=>exV P t λv=>Ld P t w a v/\resV P fr w r λl=>K (v::l)
  |_=>False
def KFH(P:Program)(fn:Func)(fr:Fr)(w:Wq)(R:EW):Prop:=
 resV P fr w fn.results.toList λl=>match l with
  | [v]=>R (Ej v) w
  |l=>R (Ej (.tuple l.toArray)) w
def KCo:Nat->LV->Fr
 |_,[]=>[]
 |i,v::r=>(i,some v)::KCo (i+1) r
def KDd(P:Program)(fn:Func)(fr:Fr):Nq->Wq->(Ending->Wq->Prop)->Prop
 | [],w,R=>KFH P fn fr w R
 |D::ms,w,R=>∃w1,zS w D w1/\KDd P fn fr ms w1 R
def KAD:Nq->Wq->Wq->Prop
 | [],w,w1=>w1=w
 |D::ms,w,w1=>∃w',zS w D w'/\KAD ms w' w1
def KBM:Code->Bool
 |.seq a b=>KBM a||KBM b
 |.cond _ a b=>KBM a||KBM b
 |.block _ c=>KBM c
 |.loop c=> !KAy c
 |.scope c=>KBM c
 |_=>false
def KEy(P:Program)(fn:Func)(c:Code)(fr:Fr)(ms:Nq)(w:Wq)(R:EW):Prop:=
 match KBM c with
 |false=>KDd P fn fr ms w R
 |true=>∃w1,KAD ms w w1/\KFH P fn fr w1 R
def KEZ(P:Program)(an:An)(fn:Func)(args:LV)(w:Wq)(R:EW):Prop:=
 match fn.body with
 |none=>False
 |some c=>V P an fn.ntmps c (KCo 0 args) [] w (λe fr' ms w'=>match e with
  |.normal=>KEy P fn c fr' ms w' R
  |.ret=>KEy P fn c fr' ms w' R
  |_=>False)
end
structure Ref(nt:Nat)(ds:List Deferred)(fr:Fr)(a:Act):Prop where
  size:a.tmps.size=nt
  defers:a.defers=ds
  val:∀t v,yw fr t=some v→a.tmps[t]? =some v
def fget_nil(t:Nat):yw [] t=none:=rfl
def KCu(x:Nat×Option Value)(fr:Fr)(t:Nat):yw (x::fr) t=cond (Nat.beq t x.1) x.2 (yw fr t):=rfl
def yh(d:Nat)(v:Option Value)(fr:Fr):yw ((d,v)::fr) d=v:=by rw[KCu];simp
theorem yB(d t:Nat)(v:Option Value)(fr:Fr)(h:t≠d):yw ((d,v)::fr) t=yw fr t:=by
  rw[KCu]
  have:Nat.beq t d=false:=by cases hb:Nat.beq t d with
    |false=>rfl
    |true=>exact absurd (df hb) h
  simp[this]
section
variable {nt : Nat} {ds : List Deferred} {fr : Fr} {a : Act}
theorem Ref.ev(b:Ref nt ds fr a){x:Operand}{v:Value}(h:ev fr x=some v):a.eval x=v:=by
  cases x with
  |tmp t=>
    have:=b.val t v h;simp[Act.eval,fP,this]
  |const c=>simpa [Vc.ev,Act.eval]using h
  |global g=>simpa [Vc.ev,Act.eval]using h
  |func f=>simpa [Vc.ev,Act.eval]using h
def evs_cons{x:Operand}{r:List Operand}{l:LV}(h:evs fr (x::r)=some l):∃v l',Vc.ev fr x=some v∧evs fr r=some l'∧l=v::l':=by
  simp only[evs]at h;split at h
  · split at h
    · cases h;exact⟨_,_,by assumption,by assumption,rfl⟩
    cases h
  cases h
theorem Ref.evs(b:Ref nt ds fr a):∀{xs:List Operand}{l:LV},evs fr xs=some l→xs.map a.eval=l
  | [],l,h=>by simp[Vc.evs]at h;simp[h]
  |x::r,l,h=>by
    obtain⟨v,e,c,d,rfl⟩:=evs_cons h;simp[b.ev c,Ref.evs b d]
def Ref.KEz(b:Ref nt ds fr a){xs:Array Operand}{l:LV}(h:Vc.evs fr xs.toList=some l):xs.map a.eval=l.toArray:=by
  have:=b.evs h;apply iF.1;simpa using this
theorem Ref.parts(b:Ref nt ds fr a):∀{xs:List (Nat×Operand)}{l:List (Nat×Value)},partsOf fr xs=some l→xs.map (λp=>(p.1,a.eval p.2))=l
  | [],l,h=>by simp[partsOf]at h;simp[h]
  |(i,x)::r,l,h=>by
    simp only[partsOf]at h;split at h
    · split at h
      · cases h;rename_i v c _ e d
        simp[b.ev c,Ref.parts b d]
      cases h
    cases h
def Ref.put(b:Ref nt ds fr a){d:Nat}(e:d<nt)(v:Value):Ref nt ds ((d,some v)::fr) (a.put (some d) v):=by
  refine⟨by simp[Act.put,b.size],by simp[Act.put,b.defers],λt u h=>?_⟩;by_cases c:t=d
  · subst c
    rw[yh]at h;cases h;simp[Act.put,eH,b.size,e]
  rw[yB _ _ _ _ c]at h;have:=b.val t u h;simp[Act.put,eH,Ne.symm c,this]
def Ref.KFS(c:Ref nt ds fr a)(d:oN)(v:Value):∀b,d=some b→Ref nt ds ((b,none)::fr) (a.put d v):=by
  rintro b rfl;refine⟨by simp[Act.put,c.size],by simp[Act.put,c.defers],λt u h=>?_⟩;by_cases e:t=b
  · subst e
    rw[yh]at h;cases h
  rw[yB _ _ _ _ e]at h;have:=c.val t u h;simp[Act.put,eH,Ne.symm e,this]
theorem Ref.KDl(b:Ref nt ds fr a){d:oN}{c:Option Value}{v:Value}(e:∀u,c=some u→v=u){k:Fr→Prop}(h:KDl nt fr d c k):
    ∃fr',k fr'∧Ref nt ds fr' (a.put d v):=by
  cases d with
  |none=>exact⟨fr,h,b⟩
  |some d=>
    simp only[Vc.KDl]at h;split at h
    · rename_i f
      have g:d<nt:=by simpa [qK]using f
      refine⟨_,h,?_⟩;cases c with
      |some u=>cases e u rfl;exact b.put g v
      |none=>exact b.KFS (some d) v d rfl
    exact h.elim
end
theorem xX{x:Option Value}{k:Value→Prop}(h:onV x k):∃v,x=some v∧k v:=by
  cases x with
  |none=>exact h.elim
  |some v=>exact⟨v,rfl,h⟩
theorem KBU{α:Type}{x:Option α}{k:α→Prop}(h:onO x k):∃v,x=some v∧k v:=by
  cases x with
  |none=>exact h.elim
  |some v=>exact⟨v,rfl,h⟩
theorem zu{x:OA}{k:Addr→Prop}(h:onP x k):∃v,x=some v∧k v:=by
  cases x with
  |none=>exact h.elim
  |some v=>exact⟨v,rfl,h⟩
def KCq{x:Option Value}{k:Addr→Prop}(h:KES x k):∃a,x=some (.pointer (some a))∧k a:=by
  unfold KES at h;split at h
  · obtain⟨a,rfl,h⟩:=zu h;exact⟨a,rfl,h⟩
  exact h.elim
theorem KDU{f:TypeId→(LV→Prop)→Prop}(b:∀t (C:LV→Prop),f t C→∃l,C l∧∀C':LV→Prop,C' l→f t C'):∀{c:List TypeId}{C:LV→Prop},KEj f c C→∃l,C l∧∀C':LV→Prop,C' l→KEj f c C'
  | [],C,h=>⟨_,h,λ_ h=>h⟩
  |t::r,C,h=>by
    obtain⟨l,h,d⟩:=b _ _ h;obtain⟨i,h,e⟩:=KDU b h;exact⟨_,h,λC' g=>d _ (e _ g)⟩
theorem KEN{P:Program}:∀(n:Nat)(T:TypeId)(C:LV→Prop),exC P n T C→∃l,C l∧∀C':LV→Prop,C' l→exC P n T C'
  |0,T,C,⟨l,h⟩=>⟨l,h,λC' h=>⟨l,h⟩⟩
  |n+1,T,C,h=>by
    simp only[exC]at h⊢;generalize P.underlying T=u at h⊢;rcases u with _|d;rotate_left;cases d
    all_goals first
      |(obtain⟨x,y,z,h⟩:=h;exact⟨_,h,λC' h=>⟨x,y,z,h⟩⟩)
      |(obtain⟨x,h⟩:=h;exact⟨_,h,λC' h=>⟨x,h⟩⟩)
      |exact KDU (KEN n) h
theorem KCH{P:Program}{T:TypeId}{C:Value→Prop}(h:exV P T C):∃v,C v∧∀C':Value→Prop,C' v→exV P T C':=by
  simp only[exV]at h⊢;split at h<;>obtain⟨l,h,b⟩:=KEN _ _ _ h
  · exact⟨_,h,λC' h=>b _ h⟩
  · exact⟨_,h,λC' h=>b _ h⟩
  match l,h with
  | [v],h=>exact⟨v,h,λC' h=>b _ h⟩
theorem KDV{P:Program}:∀{b:List TypeId}{C:LV→Prop},KFA P b C→∃l,C l∧∀C':LV→Prop,C' l→KFA P b C'
  | [],C,h=>⟨_,h,λ_ h=>h⟩
  |t::r,C,h=>by
    obtain⟨v,h,c⟩:=KCH h;obtain⟨l,h,d⟩:=KDV h;exact⟨_,h,λC' e=>c _ (d _ e)⟩
def KCG{P:Program}{T:TypeId}{C:Value→Prop}(h:exT P T C):∃v,C v∧∀C':Value→Prop,C' v→exT P T C':=by
  simp only[exT]at h⊢;split at h
  · obtain⟨l,h,b⟩:=KDV h;exact⟨_,h,λC' h=>b _ h⟩
  exact KCH h
def KAt{P:Program}{T:TypeId}{C:Value→Prop}(h:exT P T C):∃v,C v:=(KCG h).imp λ_ h=>h.1
def KDe{P:Program}{T:TypeId}{C C':Value→Prop}(b:∀v,C v→C' v)(h:exT P T C):exT P T C':=
  (KCG h).elim λv h=>h.2 _ (b v h.1)
theorem KCz{P:Program}{T:Option TypeId}{C:Value→Prop}(h:exO P T C):∃v,C v∧∀C':Value→Prop,C' v→exO P T C':=by
  cases T with
  |none=>obtain⟨v,h⟩:=h;exact⟨v,h,λ_ h=>⟨v,h⟩⟩
  |some t=>exact KCG h
def KAs{k:IntKind}{z:Int}(h:inR k z):k.wrap z=z:=by
  cases k<;>simp[inR,IntKind.min,IntKind.max,IntKind.signed,IntKind.bits]at h
  · exact IntWalk.i8_in _ om
  · exact IntWalk.i16_in _ om
  · exact IntWalk.i32_in _ om
  · exact IntWalk.i64_in _ om
  · exact IntWalk.u8_in _ om
  · exact IntWalk.u16_in _ om
  · exact IntWalk.u32_in _ om
  exact IntWalk.u64_in _ om
theorem KBB{wr:Bool}{k:IntKind}{z:Int}{K:Value→Prop}(h:arith wr k z K):K (.int k (k.wrap z))∧∀b:Value→Prop,b (.int k (k.wrap z))→arith wr k z b:=by
  cases wr with
  |true=>exact⟨h,λb h=>h⟩
  |false=>obtain⟨c,d⟩:=h;rw[KAs c];exact⟨d,λb h=>⟨c,h⟩⟩
def toList_eq(a b:BA):(a.toList==b.toList)=decide (a=b):=by
  rw[ByteArray.toList_eq,ByteArray.toList_eq,iD];simp only[beq_iff_eq,decide_eq_true_eq];constructor
  · intro h
    cases a;cases b;simp;exact iF.1 h
  rintro rfl;rfl
theorem yf(x:Value)(r:LV):∀(n:Nat)(cs:LV),n<cs.length→over (x::r) n cs=over r (n+1) (cs.set n x):=by
  intro n cs h
  induction cs generalizing n with
  |nil=>simp at h
  |cons c cs b=>
    cases n with
    |zero=>
      simp;cases r<;>simp[over]
    |succ n=>
      simp only[over,bu];rw[b n (by simpa using h)];cases r with
      |nil=>simp[over]
      |cons y r=>simp[over]
theorem yQ:∀(n:Nat)(cs:LV),over [] n cs=cs
  |0,_=>by simp[over]
  |n+1,_=>by simp[over]
theorem yT(l:LV):∀(n:Nat)(cs:LV),n+l.length≤cs.length→(over l n cs).length=cs.length:=by
  induction l with
  |nil=>intro n cs _;rw[yQ]
  |cons x r b=>
    intro n cs h;simp at h;rw[yf x r n cs om,b _ _ (by simp;omega)];simp
theorem KCM(b:Nat):∀(l:LV)(j:Nat)(cells:Array Value),b+j+l.length≤cells.size→
    ((l.zipIdx j).foldl (λcs (p:Value×Nat)=>cs.setIfInBounds (b+p.2) p.1) cells).toList=over l (b+j) cells.toList
  | [],j,cells,h=>by simp[yQ]
  |x::r,j,cells,h=>by
    simp at h;simp;rw[KCM b r (j+1) _ (by simp;omega),yf x r _ _ (by simp;omega)];simp;congr 1
theorem KAZ(b:Nat→Option (Nat×Nat)):∀(f:List (Nat×Value))(cs l:LV),KCL b f cs=some l→Instr.fill b cs.toArray f=some l.toArray
  | [],cs,l,h=>by simp[KCL]at h;simp[Instr.fill,h]
  |(i,v)::r,cs,l,h=>by
    simp only[KCL]at h;simp only[Instr.fill];cases hp:b i with
    |none=>simp[hp]at h
    |some p=>
      obtain⟨c,size⟩:=p;simp only[hp]at h⊢;split at h
      · cases h
      rename_i g;have d:(decide (v.cells.size≠size)||decide (c+v.cells.size>cs.toArray.size))=false:=by simpa using g
      simp at d;rw[if_neg (by simpa using g)];have e:=KCM c v.cells.toList 0 cs.toArray (by have:=d.2;simp at this⊢;omega)
      have j:(v.cells.zipIdx.foldl (λcs (p:Value×Nat)=>cs.setIfInBounds (c+p.2) p.1) cs.toArray)=(over v.cells.toList c cs).toArray:=by
        apply iF.1;rw[← o9,Array.toList_zipIdx];simpa using e
      have:=KAZ b r _ l h;rw[← j]at this;exact this
theorem KCt{P:Program}{w:Wq}:∀{c:List Field}{b:List (Nat×Nat)},KBX P c=some b→
    (c.mapM (m:=Sem) λf=>do pure (f.offset,← sizeOf f.type)).run P w=.ok b w
  | [],b,h=>by simp[KBX]at h;subst h;rfl
  |f::r,b,h=>by
    simp only[KBX]at h;split at h
    · rename_i i d
      split at h
      · rename_i l e
        cases h;have:=KCt (w:=w) e;have g:(sizeOf f.type).run P w=.ok i.size w:=by simp[sizeOf,typeInfo,d]
        simp only[oM,Sem.run_bind,Sem.run_map,g,this,Result.andThen_ok,Sem.run_pure]
      cases h
    cases h
theorem KAG:∀{l:LV}{k:LV→Prop},force l k↔k l
  | [],k=>qJ
  |x::r,k=>KAG (k:=λb=>k (x::b))
def zZ{b:Bool}{l:LV}{k:LV→Prop}:KCV b l k↔k l:=by
  cases b
  · exact KAG
  exact qJ
def zl_of{P:Program}{t:TypeId}{z:Value}(h:zeroOf P t=some z):zl P t=z.cells.toList:=by simp[zl,h]
def KEK{P:Program}{t:TypeId}{b:List (Nat×Value)}{cs:LV}(h:KCN P t b=some cs):KEg P t b=cs:=by simp[KEg,h]
def zq{P:Program}{t:TypeId}{z:Value}(h:zeroOf P t=some z)(w:Wq):(zeroValue t).run P w=.ok z w:=by
  simp only[zeroOf]at h;split at h
  · rename_i i b
    simp[zeroValue,typeInfo,b,h]
  cases h
def yI{P:Program}{t:TypeId}{n:Nat}(h:yj P t=some n)(w:Wq):(sizeOf t).run P w=.ok n w:=by
  simp only[yj]at h;split at h
  · rename_i i b
    cases h;simp[sizeOf,typeInfo,b]
  cases h
def xQ{P:Program}{t:TypeId}{d:TypeDesc}(h:P.underlying t=some d)(w:Wq):(underlying t).run P w=.ok d w:=by
  simp[underlying,h]
def build_sound{P:Program}{t:TypeId}{g:List (Nat×Value)}{l:LV}(h:KCN P t g=some l)(w:Wq):
    (Instr.build t g.toArray).run P w=.ok (.agg l.toArray) w:=by
  simp only[KCN]at h;split at h
  · cases h
  rename_i z j;split at h
  · rename_i p b
    split at h
    · rename_i m c
      have e:=KAZ _ _ _ _ h;have d:(z.cells.toList).toArray=z.cells:=by simp
      rw[d]at e;have o:(λi:Nat=>m[i]?)=(λi:Nat=>(m.toArray)[i]?):=by funext i;simp
      rw[o]at e;simp only[Instr.build,Sem.run_bind,zq j,xQ b,Result.andThen_ok,Sem.run_pure];rw[mi];simp only[Sem.run_map,KCt c,Result.andThen_ok];rw[e];simp
    cases h
  · rename_i n e b
    split at h
    · rename_i q f
      have e:=KAZ _ _ _ _ h;have d:(z.cells.toList).toArray=z.cells:=by simp
      rw[d]at e;simp[Instr.build,zq j,xQ b,yI f,e]
    cases h
  cases h
def IsI(v:Option Value)(i:Option Int):Prop:=∃kd,v=i.map (Value.int kd)
theorem KDB{fr:Fr}{nt:Nat}{ds:List Deferred}{x:Option Operand}{k:Option Int→Prop}(h:opI fr x k):
    ∃i,k i∧(∀b:Option Int→Prop,b i→opI fr x b)∧∀(a:Act),Ref nt ds fr a→IsI (x.map a.eval) i:=by
  cases x with
  |none=>exact⟨none,h,λ_ h=>h,λa c=>⟨.i64,rfl⟩⟩
  |some o=>
    simp only[opI]at h⊢;split at h
    · rename_i d i e
      exact⟨some i,h,λb f=>f,λa c=>⟨d,by simp[c.ev e]⟩⟩
    exact h.elim
def KCw{P:Program}{w:Wq}{b:IntKind}{i:Int}{y:Nat}{c:BoundsCode}(h:0≤i∧i≤y):(Instr.sliceBound (.int b i) y c).run P w=.ok i.toNat w:=by
  simp[Instr.sliceBound,asIntOf,h]
def slA_zero(a:OA)(m size:Nat):(if m=0 then a else a.map (·.add (0*size)))=a:=by
  split
  · rfl
  cases a<;>simp[Addr.add]
theorem KEI{P:Program}{a:OA}{n c size:Nat}{lo d e:Option Int}{K:Value→Prop}(h:KEp a n c size lo d e K):
    ∃v,K v∧(∀f:Value→Prop,f v→KEp a n c size lo d e f)∧∀(b:Bool)(g i j:Option Value),IsI g lo→IsI i d→IsI j e→∀w,∃l h m,
      (Instr.sliceBounds b n c g i j).run P w=.ok (l,h,m) w∧v=.slice (if m=l then a else a.map (·.add (l*size))) (h-l) (m-l):=by
  cases e<;>cases d<;>cases lo<;>simp only[KEp]at h⊢ <;>first
    |exact h.elim
    |(obtain⟨o,h⟩:=h;refine⟨_,h,λ_ k=>⟨o,k⟩,?_⟩)
    |refine⟨_,h,λ_ k=>k,?_⟩
  all_goals
    rintro b _ _ _ ⟨_,rfl⟩ ⟨_,rfl⟩ ⟨_,rfl⟩ w;refine⟨_,_,_,by simp(disch:=omega) only[Instr.sliceBounds,KCw,dG,Option.map_none,Sem.run_bind,Result.andThen_ok,Sem.run_pure];rfl,?_⟩
    first
      |rfl
      |(rw[slA_zero];simp)
theorem slice_one{P:Program}{nt:Nat}{ds:List Deferred}{fr:Fr}{t:TypeId}{x:Value}{lo q r:Option Operand}{K:Value→Prop}(h:KBi P fr t x lo q r K):
    ∃v,K v∧(∀f:Value→Prop,f v→KBi P fr t x lo q r f)∧∀a,Ref nt ds fr a→∀w,(Instr.sliceAt t x (lo.map a.eval) (q.map a.eval) (r.map a.eval)).run P w=.ok v w:=by
  simp only[KBi]at h⊢;obtain⟨l,C,D,u⟩:=KDB (nt:=nt) (ds:=ds) h;clear h;obtain⟨B,i,F,y⟩:=KDB (nt:=nt) (ds:=ds) C;obtain⟨m,h,G,z⟩:=KDB (nt:=nt) (ds:=ds) i;have back:∀{v:Value},(∀f:Value→Prop,f v→KFb P t x l B m f)→∀f:Value→Prop,f v→KBi P fr t x lo q r f:=λi f j=>D _ (F _ (G _ (i f j)));simp only[KFb]at h back;split at h
  · rename_i s g
    cases m<;>cases B<;>cases l<;>first
      |exact h.elim
      |(obtain⟨H,h⟩:=h;refine⟨_,h,back (λ_ h=>by simp only[g];exact⟨H,h⟩),λa b w=>?_⟩)
      |refine⟨_,h,back (λ_ h=>by simp only[g];exact h),λa b w=>?_⟩
    all_goals
      obtain⟨_,J⟩:=u a b;obtain⟨_,L⟩:=y a b;obtain⟨_,M⟩:=z a b;rw[J,L,M];simp(disch:=omega) [Instr.sliceAt,xQ g,Instr.slice,Instr.sliceBounds,KCw]
  · rename_i e N n c g
    split at h
    · rename_i size o
      obtain⟨v,A,j,d⟩:=KEI (P:=P) h;refine⟨v,A,back (λ_ h=>by simp only[g,o];exact j _ h),λa b w=>?_⟩;obtain⟨O,R,T,i,rfl⟩:=d true _ _ _ (u a b) (y a b) (z a b) w;simp[Instr.sliceAt,xQ g,Instr.slice,i,yI o]
    exact h.elim
  · rename_i n e p g
    split at h
    · rename_i size o
      obtain⟨N,rfl,h⟩:=zu h;obtain⟨v,A,j,d⟩:=KEI (P:=P) h;refine⟨v,A,back (λ_ h=>by simp only[g,o];exact j _ h),λa b w=>?_⟩;obtain⟨O,R,T,i,rfl⟩:=d false _ _ _ (u a b) (y a b) (z a b) w;simp[Instr.sliceAt,xQ g,Instr.sureAddr,i,yI o];split<;>rfl
    exact h.elim
  exact h.elim
def eqGuard_int{P:Program}{c:BinOp}{t:TypeId}{x y:Operand}{k d:IntKind}{a b:Int}(w:Wq):(eqGuard c t x y (.int k a) (.int d b)).run P w=.ok () w:=by unfold eqGuard;split<;>rfl
def KBx{P:Program}{c:BinOp}{t:TypeId}{x y:Operand}{a b:BA}(w:Wq):(eqGuard c t x y (.string a) (.string b)).run P w=.ok () w:=by unfold eqGuard;split<;>rfl
def eqGuard_bool{P:Program}{c:BinOp}{t:TypeId}{x y:Operand}{a b:Bool}(w:Wq):(eqGuard c t x y (.bool a) (.bool b)).run P w=.ok () w:=by unfold eqGuard;split<;>rfl
def equalIn_bool{P:Program}{t:TypeId}{a b:Bool}(h:P.underlying t=some .bool)(d:Nat)(w:Wq):(Op.equalIn (d+1) t (.bool a) (.bool b)).run P w=.ok (a==b) w:=by
  simp[Op.equalIn,xQ h]
def equal_bool{P:Program}{t:TypeId}{a b:Bool}(h:P.underlying t=some .bool)(w:Wq):(Op.equal t (.bool a) (.bool b)).run P w=.ok (a==b) w:=
  equalIn_bool h 9999 w
def data_eq(a b:BA):(a.data.toList==b.data.toList)=decide (a=b):=by
  have:=toList_eq a b
  rwa [ByteArray.toList_eq,ByteArray.toList_eq]at this
def beq_dec(a b:Int):(a==b)=decide (a=b):=rfl
def bne_dec(a b:Int):(a !=b)= !decide (a=b):=rfl
theorem bin_one {wr : Bool} {P : Program} {op : BinOp} {t : TypeId} {a b : Value} {K : Value → Prop} (h : KDk wr P op t a b K) :
    ∃ v,K v ∧ (∀ K' : Value → Prop,K' v → KDk wr P op t a b K') ∧ ∀ (x y : Operand) (w : Wq),(do eqGuard op t x y a b; binOp op t a b : Sem Value).run P w = .ok v w := by
  cases a with
  | int k a =>
    cases b with
    | int k' b =>
      have e : ∀ {v : Value} (x y : Operand) (w : Wq),(binOp op t (.int k a) (.int k' b)).run P w = .ok v w → (do eqGuard op t x y (.int k a) (.int k' b); binOp op t (.int k a) (.int k' b) : Sem Value).run P w = .ok v w := by
        intro v x y w hb;simp only [Sem.run_bind,eqGuard_int,Result.andThen_ok,hb]
      cases op
      case' shl | shr =>
        simp only [KDk] at h ⊢;obtain ⟨h0,h⟩ := h;have h1 := jH.2 h0
      case shl =>
        obtain ⟨h,hb⟩ := KBB h;exact ⟨_,h,λK' hK => ⟨h0,hb _ hK⟩,λx y w => e x y w (by simp [binOp,Op.shift,h1])⟩
      case shr => exact ⟨_,h,λK' hK => ⟨h0,hK⟩,λx y w => e x y w (by simp [binOp,Op.shift,h1])⟩
      all_goals
        by_cases hk : k = k'
        · subst hk
          simp only [KDk,if_true] at h ⊢
          first
            | exact h.elim
            | (obtain ⟨h,hb⟩ := KBB h; exact ⟨_,h,hb,λx y w => e x y w (by simp [binOp,Op.intArith])⟩)
            | (obtain ⟨h0,h⟩ := h; obtain ⟨h,hb⟩ := KBB h; exact ⟨_,h,λK' hK => ⟨h0,hb _ hK⟩,λx y w => e x y w (by simp [binOp,Op.intDiv,h0])⟩)
            | (obtain ⟨h0,h⟩ := h; exact ⟨_,h,λK' hK => ⟨h0,hK⟩,λx y w => e x y w (by simp [binOp,Op.intDiv,h0])⟩)
            | exact ⟨_,h,λ_ h => h,λx y w => e x y w (by simp [binOp,Op.intBits,bits,Op.intCmp,bne_dec,beq_dec])⟩
        simp [KDk,hk] at h
    | _ => cases op <;> exact h.elim
  | string a =>
    cases b with
    | string b =>
      cases op <;> simp only [KDk] at h ⊢ <;> first
        | exact h.elim
        | (obtain ⟨h0,h⟩ := h
           refine ⟨_,h,λK' hK => ⟨h0,hK⟩,λx y w => ?_⟩;have hm : IntKind.i64.max = 9223372036854775807 := by decide
           simp only [Sem.run_bind,KBx,Result.andThen_ok,binOp,Op.stringOp,hm];rw [if_neg om];rfl)
        | exact ⟨_,h,λ_ h => h,λx y w => by simp only [Sem.run_bind,KBx,Result.andThen_ok,binOp,Op.stringOp,ByteArray.toList_eq,data_eq,Sem.run_pure]⟩
    | _ => cases op <;> exact h.elim
  | bool a =>
    cases b with
    | bool b =>
      cases op <;> simp only [KDk] at h ⊢ <;> first
        | exact h.elim
        | (split at h
           · rename_i hu
             exact ⟨_,h,λK' hK => hK,λx y w => by simp only [Sem.run_bind,eqGuard_bool,Result.andThen_ok,binOp,equal_bool hu,Sem.run_pure]⟩
           exact h.elim)
    | _ => cases op <;> exact h.elim
  | _ => cases op <;> exact h.elim
def un_one{wr:Bool}{P:Program}{d:UnOp}{a:Value}{K:Value→Prop}(h:unV wr d a K):
    ∃v,K v∧(∀b:Value→Prop,b v→unV wr d a b)∧∀(w:Wq),(Op.unary d a).run P w=.ok v w:=by
  cases d<;>cases a<;>simp only[unV]at h<;>try exact h.elim
  · obtain⟨h,e⟩:=KBB h
    exact⟨_,h,λb c=>e _ c,λw=>rfl⟩
  · exact⟨_,h,λb c=>c,λw=>rfl⟩
  exact⟨_,h,λb c=>c,λw=>rfl⟩
def part_one{P:Program}{t:TypeId}{cs:LV}{b:Nat}{K:Value→Prop}(h:KEM P t cs b K):
    ∃v,K v∧(∀f:Value→Prop,f v→KEM P t cs b f)∧∀(w:Wq),(part t cs.toArray b).run P w=.ok v w:=by
  have g:∀(n:Nat)(w:Wq),yj P t=some n→(isAgg t).run P w=.ok true w→(part t cs.toArray b).run P w=.ok (.agg ((cs.drop b).take n).toArray) w:=by
    intro n w c l;simp only[part,Sem.run_bind,l,Result.andThen_ok,if_true,yI c,Sem.run_pure];congr 2;apply iF.1;simp[kJ,gu]
  simp only[KEM]at h⊢;split at h
  · rename_i o i
    split at h
    · rename_i n c
      rw[KAG]at h;exact⟨_,h,λf j=>by simp only[c,KAG];exact j,λw=>g n w c (by simp[isAgg,xQ i])⟩
    exact h.elim
  · rename_i n e i
    split at h
    · rename_i n c
      rw[KAG]at h;exact⟨_,h,λf j=>by simp only[c,KAG];exact j,λw=>g n w c (by simp[isAgg,xQ i])⟩
    exact h.elim
  · rename_i d p q i
    split at h
    · rename_i v m
      refine⟨v,h,λf j=>j,λw=>?_⟩
      have l:(isAgg t).run P w=.ok false w:=by
        simp only[isAgg,Sem.run_bind,xQ i,Result.andThen_ok];cases d<;>simp_all
      simp only[part,Sem.run_bind,l,Result.andThen_ok,jM,if_false];have:cs.toArray[b]? =some v:=by simpa using m
      simp[this]
    exact h.elim
  exact h.elim
def xw{P:Program}{s:Sem Value}{v:Value}{w w1:Wq}(h:s.run P w=.ok v w1):(do pure (Next.value (← s)):Sem Next).run P w=.ok (.value v) w1:=by
  simp only[Sem.run_map,Sem.run_bind,h,Result.andThen_ok,Sem.run_pure]
def run_unit{P:Program}{s:Sem Unit}{w w1:Wq}(h:s.run P w=.ok () w1):(do s;pure Next.skip:Sem Next).run P w=.ok .skip w1:=by
  simp only[Sem.run_bind,h,Result.andThen_ok,Sem.run_pure]
section
variable {nt : Nat} {ds : List Deferred} {fr : Fr} {P : Program} {ops : List Oper}
def zL{a:Act}(e:Ref nt ds fr a){c:Call}{b:Builtin}{args:LV}(f:c.callee=.builtin b)(g:evs fr c.args.toList=some args)(t:TypeId)(w:Wq):
    ∃cs,(do let d ← resolve a.eval c t;invoke d.target d.args:Sem Next).run P w=(builtin b c.argTypes t cs args.toArray).run P w:=by
  refine⟨c.args.map λ|.const _=>true|_=>false,?_⟩;simp only[resolve,f,Sem.run_bind,Sem.run_pure,Result.andThen_ok,invoke,e.KEz g];rfl
def KDE{x:Operand}{v:Value}(h:ev fr x=some v):evs fr [x]=some [v]:=by simp[evs,h]
def KEH{x y:Operand}{v u:Value}(h:ev fr x=some v)(a:ev fr y=some u):evs fr [x,y]=some [v,u]:=by simp[evs,h,a]
def run_parts{a:Act}(c:Ref nt ds fr a){xs:Array (Nat×Operand)}{b:List (Nat×Value)}(h:partsOf fr xs.toList=some b):(xs.map λ(i,x)=>(i,a.eval x))=b.toArray:=by
  have:=c.parts h;apply iF.1;simpa using this
def len_one{i:Array TypeId}{x:Value}{K:Value→Prop}(h:lenV P i x K):
    ∃v,K v∧(∀f:Value→Prop,f v→lenV P i x f)∧∀(t:TypeId)(w:Wq),(Builtin.len_ i t #[x]).run P w=.ok v w:=by
  simp only[lenV]at h⊢;split at h
  · exact h.elim
  rename_i t g;split at h
  · rename_i s d
    refine⟨_,h,λf b=>b,λj w=>?_⟩;simp only[Builtin.len_,g,gX,dI,Sem.run_bind,xQ d,Result.andThen_ok];rfl
  · rename_i e a n c d
    refine⟨_,h,λf b=>b,λj w=>?_⟩;simp only[Builtin.len_,g,gX,dI,Sem.run_bind,xQ d,Result.andThen_ok];rfl
  · rename_i n e d
    refine⟨_,h,λf b=>b,λj w=>?_⟩;simp only[Builtin.len_,g,gX,dI,Sem.run_bind,xQ d,Result.andThen_ok];rfl
  · rename_i e d
    split at h
    · rename_i n m l
      refine⟨_,h,λf b=>by first|exact b|(simp;exact b),λj w=>?_⟩;simp only[Builtin.len_,g,gX,dI,Sem.run_bind,xQ d,xQ l,Result.andThen_ok];rfl
    exact h.elim
  exact h.elim
def cap_one{d:Array TypeId}{x:Value}{K:Value→Prop}(h:KEu P d x K):
    ∃v,K v∧(∀b:Value→Prop,b v→KEu P d x b)∧∀(t:TypeId)(w:Wq),(Builtin.cap_ d t #[x]).run P w=.ok v w:=by
  simp only[KEu]at h⊢;split at h
  · exact h.elim
  rename_i t i;split at h
  · rename_i e a n c f
    refine⟨_,h,λb g=>g,λj w=>?_⟩;simp only[Builtin.cap_,i,gX,dI,Sem.run_bind,xQ f,Result.andThen_ok];rfl
  · rename_i n e f
    refine⟨_,h,λb g=>g,λj w=>?_⟩;simp only[Builtin.cap_,i,gX,dI,Sem.run_bind,xQ f,Result.andThen_ok];rfl
  exact h.elim
theorem KBa{wr:Bool}{o:Oper}{K:Value→Prop}(h:KBT wr P fr o K):
    ∃v,K v∧(∀q:Value→Prop,q v→KBT wr P fr o q)∧∀a,Ref nt ds fr a→∀w,(execOp a.eval o).run P w=.ok (.value v) w:=by
  cases hop:o.op<;>simp only[KBT,hop]at h⊢ <;>try exact h.elim
  case move x=>
    obtain⟨v,z,h⟩:=xX h;exact⟨v,h,λq g=>by rw[z];exact g,λa b w=>by simp only[execOp,hop,b.ev z];rfl⟩
  case assign x=>
    obtain⟨v,z,h⟩:=xX h;exact⟨v,h,λq g=>by rw[z];exact g,λa b w=>by simp only[execOp,hop,b.ev z];rfl⟩
  case pick c x y=>
    split at h
    · rename_i t D
      cases t with
      |true=>
        obtain⟨v,z,h⟩:=xX h;exact⟨v,h,λq g=>by simp only[z];exact g,λa b w=>by simp only[execOp,hop,b.ev D,b.ev z,asBool];rfl⟩
      |false=>
        obtain⟨v,z,h⟩:=xX h;exact⟨v,h,λq g=>by simp only[z];exact g,λa b w=>by simp only[execOp,hop,b.ev D,b.ev z,asBool];rfl⟩
    exact h.elim
  case build t parts=>
    split at h
    · rename_i ps O
      split at h
      · rename_i J F
        rw[zZ,KEK F]at h;refine⟨_,h,λq g=>by simp only[F,zZ,KEK F];exact g,λa b w=>?_⟩;simp only[execOp,hop,run_parts b O];exact xw (build_sound F w)
      exact h.elim
    exact h.elim
  case nilCheck x=>
    split at h
    · rename_i p z
      obtain⟨R,rfl,h⟩:=zu h;exact⟨_,h,λq g=>g,λa b w=>by simp only[execOp,hop,b.ev z];rfl⟩
    · rename_i f fi ca z
      exact⟨_,h,λq g=>g,λa b w=>by simp only[execOp,hop,b.ev z];rfl⟩
    · rename_i t v z
      exact⟨_,h,λq g=>g,λa b w=>by simp only[execOp,hop,b.ev z];rfl⟩
    exact h.elim
  case binOp op t x y yt=>
    obtain⟨u,m,h⟩:=xX h;obtain⟨u',X,h⟩:=xX h;obtain⟨v,h,B,l⟩:=bin_one h
    exact⟨v,h,λq g=>by simp only[m,X];exact B _ g,λa b w=>by
      simp only[execOp,hop,b.ev m,b.ev X];exact xw (l x y w)⟩
  case unOp op t x=>
    obtain⟨u,m,h⟩:=xX h;obtain⟨v,h,B,l⟩:=un_one h
    exact⟨v,h,λq g=>by simp only[m];exact B _ g,λa b w=>by
      simp only[execOp,hop,b.ev m];exact xw (l w)⟩
  case convert src dst x=>
    split at h
    · rename_i k0 k k1 n C N m
      exact⟨_,h,λq g=>g,λa b w=>by
        simp only[execOp,hop,b.ev m];exact xw (by simp only[convert,Sem.run_bind,xQ C,xQ N,Result.andThen_ok];rfl)⟩
    · rename_i s C N m
      exact⟨_,h,λq g=>g,λa b w=>by
        simp only[execOp,hop,b.ev m];exact xw (by simp only[convert,Sem.run_bind,xQ C,xQ N,Result.andThen_ok];rfl)⟩
    exact h.elim
  case makeInterface t x=>
    split at h
    · exact h.elim
    · rename_i d N A
      obtain⟨v,z,h⟩:=xX h
      exact⟨_,h,λq g=>by rw[z];exact g,λa b w=>by
        simp only[execOp,hop,b.ev z]
        exact xw (by
          simp only[Instr.makeInterface,Sem.run_bind,xQ A,Result.andThen_ok];cases d<;>first|rfl|simp_all)⟩
    exact h.elim
  case makeFunc fn first captured=>
    split at h
    · rename_i fi ca L H
      exact⟨_,h,λq g=>g,λa b w=>by
        simp only[execOp,hop,b.KEz L,b.KEz H];exact xw rfl⟩
    exact h.elim
  case slice t x lo G mx=>
    obtain⟨u,m,h⟩:=xX h;obtain⟨v,h,B,l⟩:=slice_one (nt:=nt) (ds:=ds) h
    exact⟨v,h,λq g=>by simp only[m];exact B _ g,λa b w=>by
      simp only[execOp,hop,b.ev m];exact xw (l a b w)⟩
  case fieldAddr s x f=>
    split at h
    · rename_i fs p A m
      split at h
      · rename_i fd T
        split at h
        · rename_i n C
          obtain⟨R,rfl,h⟩:=zu h
          exact⟨_,h,λq g=>by first|exact g|(simp only[C];exact g),λa b w=>by
            simp only[execOp,hop,b.ev m];exact xw (by simp[Instr.fieldAt,xQ A,T,Instr.sureAddr,fieldPlace,yI C])⟩
        exact h.elim
      exact h.elim
    exact h.elim
  case field t x f=>
    split at h
    · rename_i fs J A m
      split at h
      · rename_i fd T
        obtain⟨v,h,B,l⟩:=part_one h
        exact⟨v,h,λq g=>B _ g,λa b w=>by
          simp only[execOp,hop,b.ev m];refine xw ?_;have:=l w;simp only[jD]at this;simp[Instr.field,xQ A,T,asAgg,this]⟩
      exact h.elim
    exact h.elim
  case indexAddr t x ix=>
    split at h
    · rename_i e p n c U i A m G
      split at h
      · rename_i Y C
        obtain⟨R,rfl,r,h⟩:=zu h
        exact⟨_,h,λq g=>⟨r,g⟩,λa b w=>by
          simp only[execOp,hop,b.ev m,b.ev G];exact xw (by simp[Instr.indexAt,asIntOf,xQ A,r,yI C])⟩
      exact h.elim
    · rename_i n e p U i A m G
      split at h
      · rename_i Y C
        obtain⟨R,rfl,r,h⟩:=zu h
        exact⟨_,h,λq g=>⟨r,g⟩,λa b w=>by
          simp only[execOp,hop,b.ev m,b.ev G];exact xw (by simp[Instr.indexAt,asIntOf,xQ A,r,yI C,Instr.sureAddr])⟩
      exact h.elim
    exact h.elim
  case index t x ix=>
    split at h
    · rename_i s U i A m G
      obtain⟨r,h⟩:=h
      exact⟨_,h,λq g=>⟨r,g⟩,λa b w=>by
        simp only[execOp,hop,b.ev m,b.ev G];refine xw ?_;have Z:i.toNat<s.size:=om;have H:s[i.toNat]? =some s[i.toNat]:=getElem?_pos s i.toNat Z
        have h3:sb s i=(s[i.toNat].toNat:Int):=by
          simp only[sb]
          have:s.data.toList[i.toNat]? =some s[i.toNat]:=by
            rw[jQ,fB (by simpa using Z)];rfl
          rw[this];rfl
        simp[Instr.index,asIntOf,xQ A,r.1,H,h3]⟩
    · rename_i n e J U i A m G
      split at h
      · rename_i Y C
        obtain⟨r,h⟩:=h;obtain⟨v,⟨M,h⟩,B⟩:=KCH h
        exact⟨v,h,λq g=>⟨r,B _ ⟨M,g⟩⟩,λa b w=>by
          simp only[execOp,hop,b.ev m,b.ev G];refine xw ?_;have M:=M w;simp only[jD]at M;simp[Instr.index,asIntOf,xQ A,r,yI C,M]⟩
      exact h.elim
    exact h.elim
  case extract x i=>
    split at h
    · rename_i vs m
      split at h
      · rename_i v z
        exact⟨v,h,λq g=>g,λa b w=>by
          simp only[execOp,hop,b.ev m];exact xw (by simp[Instr.extract,z])⟩
      exact h.elim
    exact h.elim
  case call c=>
    split at h
    · rename_i x D m
      obtain⟨u,A,h⟩:=xX h;obtain⟨v,h,B,l⟩:=len_one h
      exact⟨v,h,λq g=>by simp only[A];exact B _ g,λa b w=>by
        simp only[execOp,hop];obtain⟨J,e⟩:=zL (P:=P) b D (by rw[m];exact KDE A) o.type w;rw[e];exact xw (l _ w)⟩
    · rename_i x D m
      obtain⟨u,A,h⟩:=xX h;obtain⟨v,h,B,l⟩:=cap_one h
      exact⟨v,h,λq g=>by simp only[A];exact B _ g,λa b w=>by
        simp only[execOp,hop];obtain⟨J,e⟩:=zL (P:=P) b D (by rw[m];exact KDE A) o.type w;rw[e];exact xw (l _ w)⟩
    · rename_i x y D m
      split at h
      · rename_i k i k' j L H
        exact⟨_,h,λq g=>g,λa b w=>by
          simp only[execOp,hop];obtain⟨J,e⟩:=zL (P:=P) b D (by rw[m];exact KEH L H) o.type w;rw[e];refine xw ?_;simp[Builtin.min_,Builtin.min2];omega⟩
      exact h.elim
    · rename_i x y D m
      split at h
      · rename_i k i k' j L H
        exact⟨_,h,λq g=>g,λa b w=>by
          simp only[execOp,hop];obtain⟨J,e⟩:=zL (P:=P) b D (by rw[m];exact KEH L H) o.type w;rw[e];refine xw ?_;simp[Builtin.max_,Builtin.max2];omega⟩
      exact h.elim
    exact h.elim
def read_run{o:Oper}{w:Wq}{v:Value}(h:zU P fr o w v){a:Act}(d:Ref nt ds fr a):(execOp a.eval o).run P w=.ok (.value v) w:=by
  cases hop:o.op<;>simp only[zU,hop]at h<;>try exact h.elim
  case load t x=>
    split at h
    · rename_i p b
      obtain⟨f,rfl,h⟩:=zu h;simp only[execOp,hop,d.ev b];refine xw ?_;have g:(loadVar t f).run P w=.ok v w:=h;simp[Instr.loadAt,Instr.sureAddr,g]
    exact h.elim
  case lookup t x k ok=>
    obtain⟨m,i,h⟩:=xX h;obtain⟨k,j,h⟩:=xX h;simp only[execOp,hop,d.ev i,d.ev j];exact xw h
  case binOp op t x y yt=>
    obtain⟨u,b,h⟩:=xX h;obtain⟨r,l,h⟩:=xX h;split at h
    · simp only[execOp,hop,d.ev b,d.ev l]
      exact xw h
    exact h.elim
  case convert src dst x=>
    obtain⟨u,b,h⟩:=xX h;simp only[execOp,hop,d.ev b];exact xw h
  case typeAssert x xT t ok=>
    obtain⟨u,b,h⟩:=xX h;simp only[execOp,hop,d.ev b];exact xw h
  case call c=>
    split at h
    · rename_i x n b
      obtain⟨u,q,h⟩:=xX h;simp only[execOp,hop];obtain⟨s,e⟩:=zL (P:=P) d n (by rw[b];exact KDE q) o.type w;rw[e];exact xw h
    exact h.elim
def KBH (P : Program) : Prop := ∀ (f : FuncId) (fn : Func), P.funcs[f]? = some fn → (fn.name == "runtime.NumGoroutine") = false
def W_fn(rd:oN)(f:FuncId):(W rd).fn f:=trivial
def KCy(rd:oN):(W rd).depth=none:=rfl
def KCr{rd:oN}{n:Nat}{f:FuncId}{args:Array Value}{w:Wq}{R:Ending→Wq→Prop}(h:Calls P f args w R):CallsIn (W rd) n P f args w R:=
  (callsIn_wide (n:=n)).2 h
def KDT{f:FuncId}{fn:Func}{c:Code}{args:Array Value}{w:Wq}(b:KBH P)(a:P.funcs[f]? =some fn)(d:fn.body=some c):(callFunc f args).run P w=.ok (.enter f args) w:=by
  have e:=b f fn a;simp only[callFunc,Sem.run_bind,run_program,Result.andThen_ok,a];rw[if_neg (by simpa using e)];simp[d]
def KEJ{a:Array Value}(h:a.toList=[]):a= #[]:=by apply iF.1;simpa using h
theorem build_slice_sound{t e:TypeId}{len:Nat}{s:List (Nat×Value)}{l:LV}(h:KCx P t len s=some (e,l))(w:Wq):
    (Instr.buildSlice t len s.toArray).run P w=.ok (.slice (Pq w.heap.size) len len) (w.alloc (.cells l.toArray e)):=by
  simp only[KCx]at h;split at h
  · rename_i J A
    split at h
    · rename_i i u
      split at h
      · rename_i z B
        split at h
        · cases h
        rename_i x;simp at x;obtain⟨⟨o,p⟩,C⟩:=x;split at h
        · rename_i K D
          cases h;have a:(zeroValue e).run P w=.ok z w:=by simp[zeroValue,typeInfo,u,B]
          have b:(sizeOf e).run P w=.ok i.size w:=by simp[sizeOf,typeInfo,u]
          have c:=KAZ _ _ _ _ D
          have d:∀n,KDP z.cells.toList n=((Array.range (n*i.size)).map (z.cells[· %z.cells.size]!)).toList:=by
            intro n
            induction n with
            |zero=>simp[KDP]
            |succ n m=>
              have F:KDP z.cells.toList (n+1)=KDP z.cells.toList n++z.cells.toList:=by
                clear m
                induction n with
                |zero=>simp[KDP]
                |succ n m=>
                  show z.cells.toList++KDP z.cells.toList (n+1)=(z.cells.toList++KDP z.cells.toList n)++z.cells.toList;rw[m,ax]
              rw[F,m];rw[show(n+1)*i.size=n*i.size+i.size from di n i.size];apply dN;intro k;simp only[lL,pF,gy,aQ,fZ,au];by_cases q:k<n*i.size
              · rw[if_pos q,iy q,iy om]
              rw[if_neg q];by_cases r:k<n*i.size+i.size
              · rw[iy r]
                have G:k%z.cells.size=k-n*i.size:=by
                  rw[o,Nat.mod_eq_sub_mul_div]
                  have:k/i.size=n:=by
                    apply Nat.div_eq_of_lt_le
                    · omega
                    rw[di];omega
                  rw[this,jk]
                have g:k-n*i.size<z.cells.size:=om;simp only[dG,G];rw[getElem!_pos z.cells _ g];simp[g]
              rw[bC (by simp;omega),bC (by simp;omega)];rfl
          rw[d]at c;simp only[jD]at c;simp only[Instr.buildSlice,Sem.run_bind,xQ A,Result.andThen_ok,b];rw[if_neg om];by_cases y:len*i.size=0
          · have j:len=0:=(Nat.mul_eq_zero.1 y).resolve_right p
            subst j;have H:∀f:Nat→Value,Array.map f (Array.range 0)= #[]:=λf=>by apply iF.1;simp
            simp only[jV,if_true,Sem.run_bind,Sem.run_pure,Result.andThen_ok,H]at c⊢;rw[c];rfl
          simp only[if_neg y,Sem.run_bind,Sem.run_map,Sem.run_pure,a,Result.andThen_ok];rw[c];rfl
        cases h
      cases h
    cases h
  cases h
theorem eff_upon{rd:oN}{n:Nat}(hN:KBH P){o:Oper}{w:Wq}{K:Option Value→Wq→Prop}(h:KBf P ops fr o w K){a:Act}(hr:Ref nt ds fr a)
    {next:Act→Wq→Prop} {Q:Exit→Act→Wq→Prop} (hK:∀rv w',K rv w'→∀v:Value,(∀u,rv=some u→v=u)→next (a.put o.dst v) w'):
    o.uponIn (W rd) n P a next Q ((execOp a.eval o).run P w)∧∀c,o.op≠.defer c:=by
  have val:∀{s:Sem Value}{v:Value}{w1:Wq},s.run P w=.ok v w1→K (some v) w1→o.uponIn (W rd) n P a next Q ((do pure (Next.value (← s)):Sem Next).run P w):=by
    intro s v w1 hs hk;rw[xw hs];exact hK _ _ hk _ (λu hu=>by cases hu;rfl)
  have uni:∀{s:Sem Unit}{w1:Wq},s.run P w=.ok () w1→K none w1→o.uponIn (W rd) n P a next Q ((do s;pure Next.skip:Sem Next).run P w):=by
    intro s w1 hs hk;rw[run_unit hs];exact hK _ _ hk _ (λu hu=>by cases hu)
  cases hop:o.op<;>simp only[KBf,hop]at h<;>try exact h.elim
  all_goals
    refine⟨?_,λc hc=>by cases hc⟩;simp only[execOp,hop]
  case alloc t=>
    obtain⟨z,hz,h⟩:=KBU h;rw[zZ,zl_of hz]at h;exact val (w1:=w.alloc (.cells z.cells t)) (by simp only[Instr.alloc,Sem.run_bind,zq hz,Result.andThen_ok];rfl) (h _ _ ⟨rfl,by simp⟩)
  case box t x=>
    obtain⟨v,hv,h⟩:=xX h;rw[zZ]at h;simp only[hr.ev hv];exact val (w1:=w.alloc (.cells v.cells t)) rfl (h _ _ ⟨rfl,by simp⟩)
  case buildSlice t len parts=>
    obtain⟨ps,hps,h⟩:=KBU h;obtain⟨⟨e,cs⟩,hcs,h⟩:=KBU h;rw[zZ]at h;simp only[run_parts hr hps];exact val (build_slice_sound hcs w) (h _ _ ⟨rfl,rfl⟩)
  case store t x y=>
    obtain⟨ad,hx,h⟩:=KCq h;obtain⟨v,hy,w1,h1,h⟩:=xX h;simp only[hr.ev hx,hr.ev hy];exact uni (by have h1':(storeVar t ad v).run P w=.ok () w1:=h1;simp[Instr.storeAt,Instr.sureAddr,h1']) h
  case convert src dst x=>
    obtain⟨v,hv,ad,l,c,w1,h1,h⟩:=xX h;simp only[hr.ev hv];exact val h1 h
  case makeSlice t l c=>
    obtain⟨l,hl,h⟩:=xX h;obtain⟨c,hc,ad,n',m,w1,h1,h⟩:=xX h;simp only[hr.ev hl,hr.ev hc];exact val h1 h
  case makeMap t r=>
    cases r with
    |none=>exact val (v:=.map (some w.heap.size)) (w1:=w.alloc (.map #[] 0)) rfl (h _ _ ⟨rfl,rfl⟩)
    |some x=>exact h.elim
  case mapUpdate t m k x|insert t m k x|entryStore t m k x=>
    obtain⟨m,hm,h⟩:=xX h;obtain⟨k,hk,h⟩:=xX h;obtain⟨v,hv,w1,h1,h⟩:=xX h;simp only[hr.ev hm,hr.ev hk,hr.ev hv];exact uni h1 h
  case mapEntry t m k=>
    obtain⟨m,hm,h⟩:=xX h;obtain⟨k,hk,v,i,w1,h1,h⟩:=xX h;simp only[hr.ev hm,hr.ev hk];exact val h1 h
  case range t x=>
    obtain⟨v,hv,p,w1,h1,h⟩:=xX h;simp only[hr.ev hv];exact val h1 h
  case next it isS=>
    obtain⟨v,hv,h⟩:=xX h;simp only[hr.ev hv];rcases h with⟨w1,h1,h⟩|⟨k,v,w1,h1,h⟩<;>exact val h1 h
  case entry it=>
    obtain⟨v,hv,h⟩:=xX h;obtain⟨k,h,-⟩:=KCz h;obtain⟨u,⟨w1,h1,h⟩,-⟩:=KCz h;simp only[hr.ev hv];exact val h1 h
  case call c=>
    obtain⟨args,hargs,h⟩:=KBU h
    have bi:∀{b:Builtin}{v:Value}{w1:Wq},c.callee=.builtin b→(∀cs,(builtin b c.argTypes o.type cs args.toArray).run P w=.ok (.value v) w1)→K (some v) w1→o.uponIn (W rd) n P a next Q ((do let d ← resolve a.eval c o.type;invoke d.target d.args:Sem Next).run P w):=by
      intro b v w1 hc hb hk;obtain⟨cs,e⟩:=zL (P:=P) hr hc hargs o.type w;rw[e,hb cs];exact hK _ _ hk _ (λu hu=>by cases hu;rfl)
    cases hc:c.callee<;>simp only[hc]at h<;>try exact h.elim
    case builtin b=>
      unfold biE at h;split at h
      · obtain⟨ad,n',m,w1,h1,h⟩:=h;exact bi hc (λ_=>xw h1) h
      · obtain⟨n',w1,h1,h⟩:=h;exact bi hc (λ_=>xw h1) h
      · obtain⟨w1,h1,h⟩:=h;exact bi hc (λ_=>xw h1) h
      · obtain⟨w1,h1,h⟩:=h;exact bi hc (λ_=>xw h1) h
      exact h.elim
    case value f=>
      obtain⟨fv,hf,h⟩:=xX h;unfold KCQ zC at h
      have iv:∀{g:Fn}{fi ca:Array Value}{x:Next}{w1:Wq},fv=.func g fi ca→(invoke (.fn g ca) (fi++args.toArray)).run P w=.ok x w1→(do let d ← resolve a.eval c o.type;invoke d.target d.args:Sem Next).run P w=.ok x w1:=by
        rintro g fi ca x w1 rfl hi;simp only[resolve,hc,hr.ev hf,Deferred.ofValue,Sem.run_bind,Sem.run_pure,Result.andThen_ok,hr.KEz hargs,hi]
      split at h
      · rename_i g fi ca
        have ea:fi++args.toArray++ca=(fi.toList++args++ca.toList).toArray:=by
          apply iF.1;simp
        split at h
        · rename_i fn hfn
          split at h
          · rename_i cd hb
            rw[iv rfl (by simp only[invoke,ea,KDT hN hfn hb];rfl),Oper.uponIn_enter];refine⟨λhd=>by simp[KCy]at hd,(KCr h.run).mono ?_⟩;intro e w' he;obtain⟨v,rfl,hk⟩:=KAt he;exact hK _ _ hk _ (λu hu=>by cases hu;rfl)
          obtain⟨v,w1,h1,he⟩:=h.run;rw[iv rfl (by simp only[invoke,ea,h1];rfl)];obtain⟨v',hv',hk⟩:=KAt he;cases hv';exact hK _ _ hk _ (λu hu=>by cases hu;rfl)
        exact h.elim
      · rename_i l fi ca
        split at h
        · rename_i hfi hca
          obtain rfl:=KEJ hfi;obtain rfl:=KEJ hca;obtain⟨fn',tm,as1,bd,hy,hro⟩:=h.run rd (n-1);rw[iv rfl (by simp only[invoke,Array.empty_append,hy];rfl),Oper.uponIn_round];refine⟨λhd=>by simp[KCy]at hd,hro.mono ?_⟩;intro e w' he;obtain⟨v,rfl,hk⟩:=KAt he;exact hK _ _ hk _ (λu hu=>by cases hu;rfl)
        exact h.elim
      exact h.elim
end
theorem KBn{bef:Nat->Nat->Bool}{j:Nat}:∀{p:Past}{w:Wq}{X:Prop},again bef j p w X->X
 | [],w,X,h=>h
 |(i,f)::p,w,X,h=>by
  simp only[again]at h;split at h
  ·exact KBn h
  exact KBn h.2
theorem y7{bef:Nat->Nat->Bool}{j:Nat}:∀{p:Past}{w:Wq}{X:Prop},again bef j p w X↔(∀x∈p,bef x.1 j=false->x.2 w)/\X
 | [],w,X=>by simp[again]
 |(i,f)::p,w,X=>by
  simp only[again];split
  ·rename_i a;rw[y7];simp[a]
  rename_i a;rw[y7];simp[a,and_assoc]
def y5{a:Bool}{v:Value}{K:Value->Prop}:spl a v K↔K v:=by
 unfold spl;split
 ·rename_i b;cases b<;>simp[br]
 rfl
section
variable{wr:Bool}{P:Program}{bef:Nat->Nat->Bool}{ops:List Oper}{nt:Nat}{ds:List Deferred}{fr:Fr}{rd:Option Nat}{n:Nat}
def pure_defer{o:Oper}{K:Value->Prop}(h:KBT wr P fr o K):∀c,o.op≠.defer c:=by
 intro c a;simp[KBT,a]at h
def read_defer{o:Oper}{w:Wq}{v:Value}(h:zU P fr o w v):∀c,o.op≠.defer c:=by
 intro c a;simp[zU,a]at h
def KBj(r:KBH P){i:Nat}{o:Oper}{w:Wq}{e:Past}{K:Option Value->Wq->Past->Prop}(h:zt wr P bef ops i o fr w e K){a:Act}(m:Ref nt ds fr a)
  {next:Act->Wq->Prop} {Q:Exit->Act->Wq->Prop} (l:∀p w' b,K p w' b->∀v:Value,(∀u,p=some u->v=u)->next (a.put o.dst v) w'):
  o.wpIn (W rd) n P a w next Q:=by
 refine⟨λf _=>trivial,?_⟩
 have go:∀(d:∀c,o.op≠.defer c),o.uponIn (W rd) n P a next Q ((execOp a.eval o).run P w)->o.uponIn (W rd) n P a next Q ((o.semAt (W rd).round a.eval).run P w):=λd h=>by
  rw[Oper.semAt_eq _ _ _ d];exact h
 unfold zt at h;split at h
 ·have d:=pure_defer h;obtain⟨v,h,-,g⟩:=KBa (nt:=nt) (ds:=ds) h;refine go d ?_;rw[g a m w];exact l _ _ _ (y5.1 h) v (λu q=>by cases q;rfl)
 ·obtain⟨v,j,h⟩:=KAt h;refine go (read_defer j) ?_;rw[read_run j m];exact l _ _ _ (y5.1 h) v (λu q=>by cases q;rfl)
 obtain⟨h,d⟩:=eff_upon (rd:=rd) (next:=next) r h m (λp w' s v j=>by
  have:=KBn s;split at this
  ·exact l _ _ _ (y5.1 this) v j
  exact l _ _ _ this v j)
 exact go d h
def wanted_none{o:Oper}(h:o.guard=none)(y:Nat->Option Bool):Region.wanted o y=true:=by simp[Region.wanted,h]
def yielded_of{c:Array Oper}{a:Act}(f:Ref nt ds fr a){j s:Nat}{b:Bool}(d:zH c.toList j=some s)(g:yw fr s=some (.bool b)):yielded c a.tmps j=some b:=by
 have h:=f.val s _ g;unfold zH at d;split at d
 ·rename_i o i;have e:c[j]? =some o:=by simpa using i
  simp[yielded,e,d,h]
 cases d
def yielded_not{b:Array Oper}{a:Act}(e:Ref nt ds fr a){j s:Nat}{vs:Array Value}(c:zH b.toList j=some s)(f:yw fr s=some (.tuple vs)):yielded b a.tmps j=none:=by
 have g:=e.val s _ f;unfold zH at c;split at c
 ·rename_i o h;have d:b[j]? =some o:=by simpa using h
  simp[yielded,d,c,g]
 cases c
def KCs(q:KBH P){c:Array Oper}{Q:Exit->Act->Wq->Prop}{i:Nat}{o:Oper}{rest:Nq}{w:Wq}{g:Past}{K:Option Value->Wq->Past->Prop}(B:c.toList[i]? =some o)
  (h:stepD wr P bef c.toList i o fr w g K) {a:Act} (l:Ref nt ds fr a)
  (m:∀z w' e,K z w' e->∀v:Value,(∀u,z=some u->v=u)->wpOpsIn (W rd) n P c Q rest (a.put o.dst v) w'):
  wpOpsIn (W rd) n P c Q (i::rest) a w:=by
 have r:c[i]? =some o:=by simpa using B
 simp only[wpOpsIn,r];unfold stepD at h;split at h
 ·rename_i p;rw[if_pos (wanted_none p _)];exact KBj q h l m
 rename_i j d p;split at h
 ·exact h.elim
 rename_i s A;split at h
 ·rename_i b t;have C:=yielded_of l A t
  have x:Region.wanted o (yielded c a.tmps)=(b==d):=by
   simp[Region.wanted,p,C]
  rw[x];split at h
  ·exact KBj q h l m
  ·exact KBj q h l m
  rename_i D F
  have:(b==d)=false:=by
   cases b<;>cases d<;>simp_all
  rw[this,if_neg (by simp)];exact⟨λf _=>trivial,m _ _ _ h undef (λu y=>by cases y;rfl)⟩
 ·rename_i G t
  have x:Region.wanted o (yielded c a.tmps)=false:=by
   simp[Region.wanted,p,yielded_not l A t]
  rw[x,if_neg (by simp)];exact⟨λf _=>trivial,m _ _ _ h undef (λu y=>by cases y;rfl)⟩
 exact h.elim
theorem KDf(g:KBH P){c:Array Oper}{Q:Exit->Act->Wq->Prop}{K:Fr->Wq->Prop}(j:∀fr w a,K fr w->Ref nt ds fr a->Q .normal a w):
  ∀(σ:Nq)(fr:Fr)(w:Wq)(b:Past)(a:Act),KAJ wr P nt bef c.toList K σ fr w b->Ref nt ds fr a->wpOpsIn (W rd) n P c Q σ a w
 | [],fr,w,b,a,h,hr=>j _ _ _ h hr
 |i::r,fr,w,b,a,h,hr=>by
  simp only[KAJ]at h;split at h
  ·exact h.elim
  rename_i o l;refine KCs g l h hr λq s d e v m=>?_;obtain⟨p,e,f⟩:=hr.KDl m e;exact KDf g j r _ _ _ _ e f
end
section
variable{wr:Bool}{P:Program}{ops:List Oper}{fr fr':Fr}
theorem KBC:∀{l:List Operand},(∀x∈l,ev fr x=ev fr' x)->evs fr l=evs fr' l
 | [],_=>rfl
 |x::r,h=>by
  simp only[evs];rw[h x (by simp),KBC (λy a=>h y (by simp[a]))]
theorem KAq:∀{l:List (Nat×Operand)},(∀x∈l,ev fr x.2=ev fr' x.2)->partsOf fr l=partsOf fr' l
 | [],_=>rfl
 |(i,x)::r,h=>by
  simp only[partsOf];rw[h (i,x) (by simp),KAq (λy a=>h y (by simp[a]))]
theorem opI_congr{x:Option Operand}(h:∀y∈x.toArray,ev fr y=ev fr' y)(k:Option Int->Prop):opI fr x k=opI fr' x k:=by
 cases x with
 |none=>rfl
 |some o=>simp only[opI];rw[h o (by simp)]
def KBK{c:Call}(h:∀x∈(Op.call c).operands,ev fr x=ev fr' x):∀x∈c.args.toList,ev fr x=ev fr' x:=λx a=>h x (by simp[Op.operands,Call.operands];exact .inr (by simpa using a))
theorem pure_congr{o:Oper}(h:∀x∈o.op.operands,ev fr x=ev fr' x)(K:Value->Prop):KBT wr P fr o K=KBT wr P fr' o K:=by
 cases hop:o.op<;>simp only[KBT,hop]<;>rw[hop]at h
 case build t ps=>rw[KAq (λx d=>h x.2 (by simp[Op.operands];exact⟨x.1,oO.1 d⟩))]
 case makeFunc fn a b=>rw[KBC (λx d=>h x (by simp[Op.operands]at d⊢;exact .inl d)),KBC (λx d=>h x (by simp[Op.operands]at d⊢;exact .inr d))]
 case slice t x lo hi mx=>
  have e:∀{y:Option Operand},(∀z∈y.toArray,z∈(Op.slice t x lo hi mx).operands)->∀k,opI fr y k=opI fr' y k:=λg=>opI_congr λz j=>h z (g z j);rw[h x (by simp[Op.operands])];congr 1;funext v;simp only[KBi];rw[e (by simp+contextual [Op.operands])];congr 1;funext l;rw[e (by simp+contextual [Op.operands])];congr 1;funext i;rw[e (by simp+contextual [Op.operands])]
 case call c=>
  have f:=KBK h
  split<;>first
   |rfl
   |(rename_i d;rw[d]at f;simp at f;simp only[f])
 all_goals (simp[Op.operands]at h;simp only[h])
theorem KCK{o:Oper}(h:∀x∈o.op.operands,ev fr x=ev fr' x)(w:Wq)(v:Value):zU P fr o w v=zU P fr' o w v:=by
 cases hop:o.op<;>simp only[zU,hop]<;>rw[hop]at h
 case call c=>
  have a:=KBK h
  split<;>first
   |rfl
   |(rename_i b;rw[b]at a;simp at a;simp only[a])
 all_goals (simp[Op.operands]at h;simp only[h])
theorem eff_congr{o:Oper}(h:∀x∈o.op.operands,ev fr x=ev fr' x)(w:Wq)(K:Option Value->Wq->Prop):KBf P ops fr o w K=KBf P ops fr' o w K:=by
 cases hop:o.op<;>simp only[KBf,hop]<;>rw[hop]at h
 case buildSlice t n ps=>rw[KAq (λx a=>h x.2 (by simp[Op.operands];exact⟨x.1,oO.1 a⟩))]
 case makeMap t r=>cases r<;>rfl
 case call c=>
  rw[KBC (KBK h)];cases hc:c.callee with
  |value f=>simp only[h f (by simp[Op.operands,Call.operands,hc])]
  |_=>rfl
 all_goals (simp[Op.operands]at h;simp only[h])
end
section
variable{P:Program}{ops:List Oper}{fr:Fr}
def KCR{f:Value}{args:LV}{w:Wq}{R g:EW}(c:∀e w',R e w'->g e w')(h:zC P f args w R):zC P f args w g/\∃e w',R e w':=by
 unfold zC at h⊢;split at h
 ·split at h
  ·split at h
   ·obtain⟨e,w',fr',d,_⟩:=h.run [];exact⟨⟨Calls.mono h.run c⟩,_,_,d⟩
   obtain⟨v,p,d,i⟩:=h.run;exact⟨⟨⟨v,p,d,c _ _ i⟩⟩,_,_,i⟩
  exact h.elim
 ·split at h
  ·refine⟨⟨λrd n=>?_⟩,?_⟩
   ·obtain⟨j,l,b,m,o,a⟩:=h.run rd n;exact⟨j,l,b,m,o,a.mono c⟩
   obtain⟨j,l,b,m,o,a⟩:=h.run none 0;obtain⟨e,w',h,_⟩:=a.2 default [] (by simp[Fence.room,W,Fence.wide]);exact⟨_,_,h⟩
  exact h.elim
 exact h.elim
def callX_mono{a:Value}{args:LV}{w:Wq}{R b:EW}(c:∀e w',R e w'->b e w')(h:zC P a args w R):zC P a args w b:=(KCR c h).1
def Mn(F:(Option Value->Wq->Prop)->Prop):Prop:=∀K K':Option Value->Wq->Prop,(∀rv w,K rv w->K' rv w)->F K->F K'/\∃rv w,K rv w
def Mn.k{X:Prop}{v:Option Value}{w:Wq}:Mn λK=>X/\K v w:=λ_ _ a h=>⟨⟨h.1,a _ _ h.2⟩,_,_,h.2⟩
def Mn.ex{α:Type}{F:α->(Option Value->Wq->Prop)->Prop}(h:∀x,Mn (F x)):Mn λK=>∃x,F x K:=λK a b ⟨x,c⟩=>⟨⟨x,(h x K a b c).1⟩,(h x K a b c).2⟩
def Mn.or{F G:(Option Value->Wq->Prop)->Prop}(h:Mn F)(c:Mn G):Mn λK=>F K\/G K:=λK a b=>Or.rec (λx=>⟨.inl (h K a b x).1,(h K a b x).2⟩) λx=>⟨.inr (c K a b x).1,(c K a b x).2⟩
def Mn.new{v:Nat->Option Value}{w:Wq}{o:Obj}:Mn λK=>∀b w1,New w o b w1->K (v b) w1:=λ_ _ a h=>⟨λb w1 c=>a _ _ (h b w1 c),_,_,h _ _ ⟨rfl,rfl⟩⟩
theorem Mn.onO{α:Type}{x:Option α}{F:α->(Option Value->Wq->Prop)->Prop}(h:∀x,Mn (F x)):Mn λK=>Vc.onO x λv=>F v K:=by
 cases x with
 |none=>exact λ_ _ _ h=>h.elim
 |some v=>exact h v
def Mn.KES{x:Option Value}{F:Addr->(Option Value->Wq->Prop)->Prop}(h:∀x,Mn (F x)):Mn λK=>Vc.KES x λv=>F v K:=by
 intro K c d b;obtain⟨a,rfl,b⟩:=KCq b;exact h a K c d b
def Mn.exO{T:Option TypeId}{F:Value->(Option Value->Wq->Prop)->Prop}(h:∀x,Mn (F x)):Mn λK=>Vc.exO P T λv=>F v K:=by
 intro K b c a;obtain⟨v,a,d⟩:=KCz a;exact⟨d _ (h v K b c a).1,(h v K b c a).2⟩
def Mn.KCQ{b:Value}{args:LV}{t:TypeId}{w:Wq}:Mn (KCQ P b args t w):=by
 intro K c d h;obtain⟨f,e,a,h⟩:=KCR (λe a h=>KDe (C':=λv=>e=Ej v/\c (some v) a) (λv h=>⟨h.1,d _ _ h.2⟩) h) h;obtain⟨v,-,h⟩:=KAt h;exact⟨f,_,_,h⟩
theorem KEa{o:Oper}{w:Wq}:Mn (KBf P ops fr o w):=by
 show Mn λK=>KBf P ops fr o w K;cases hop:o.op<;>simp only[KBf,hop]<;>try exact λ_ _ _ h=>h.elim
 case makeMap t r=>
  cases r with
  |none=>exact .new
  |some _=>exact λ_ _ _ h=>h.elim
 case call c=>
  refine .onO λe=>?_;intro K g d h;cases hc:c.callee<;>simp only[hc]at h⊢ <;>try exact h.elim
  case value f=>exact Mn.onO (λ_=>.KCQ) K g d h
  case builtin b=>
   unfold biE at h⊢
   split at h<;>first
    |exact h.elim
    |(obtain⟨_,_,_,_,a,h⟩:=h;exact⟨⟨_,_,_,_,a,d _ _ h⟩,_,_,h⟩)
    |(obtain⟨_,_,a,h⟩:=h;exact⟨⟨_,_,a,d _ _ h⟩,_,_,h⟩)
    |(obtain⟨_,a,h⟩:=h;exact⟨⟨_,a,d _ _ h⟩,_,_,h⟩)
 all_goals
  try simp only[zZ]
  repeat' first
   |exact .new
   |exact .k
   |refine .onO λ_=>?_
   |refine .KES λ_=>?_
   |refine .exO λ_=>?_
   |refine .or ?_ ?_
   |refine .ex λ_=>?_
def KBY{o:Oper}{w:Wq}{K a:Option Value->Wq->Prop}(c:∀b w',K b w'->a b w')(h:KBf P ops fr o w K):KBf P ops fr o w a:=(KEa K a c h).1
def KDb{o:Oper}{w:Wq}{K:Option Value->Wq->Prop}(h:KBf P ops fr o w K):∃a w',K a w':=(KEa K K (λ_ _ h=>h) h).2
end
section
variable{wr:Bool}{P:Program}{bef:Nat->Nat->Bool}{ops:List Oper}{nt:Nat}{ds:List Deferred}{fr fr':Fr}
def Agree(ops:List Oper)(o:Oper)(fr fr':Fr):Prop:=
 (∀t∈KDp o.op,yw fr t=yw fr' t)/\∀j want s,o.guard=some (j,want)->zH ops j=some s->yw fr s=yw fr' s
theorem Agree.ev{o:Oper}(h:Agree ops o fr fr'):∀x∈o.op.operands,Vc.ev fr x=Vc.ev fr' x:=by
 intro x a;cases x with
 |tmp t=>
  exact h.1 t (by simp only[KDp,jO];exact⟨_,by simpa using a,rfl⟩)
 |_=>rfl
def KBN{i:Nat}{o:Oper}(h:∀x∈o.op.operands,ev fr x=ev fr' x)(w:Wq)(a:Past)(K:Option Value->Wq->Past->Prop):
  zt wr P bef ops i o fr w a K=zt wr P bef ops i o fr' w a K:=by
 unfold zt;split
 ·exact pure_congr h _
 ·congr 1;funext v;rw[KCK h w v];have:(λb=>zU P fr o b v)=(λb=>zU P fr' o b v):=funext λb=>KCK h b v;rw[this]
 exact eff_congr h _ _
theorem KBL{i:Nat}{o:Oper}(h:Agree ops o fr fr')(w:Wq)(a:Past)(K:Option Value->Wq->Past->Prop):
  stepD wr P bef ops i o fr w a K=stepD wr P bef ops i o fr' w a K:=by
 unfold stepD;split
 ·exact KBN h.ev _ _ _
 rename_i j b c;cases hs:zH ops j with
 |none=>rfl
 |some s=>
  simp only;rw[h.2 j b s c hs];split
  ·split
   ·exact KBN h.ev _ _ _
   ·exact KBN h.ev _ _ _
   rfl
  ·rfl
  rfl
theorem KDC{b:Bool}{a:Option Value}{K:Option Value->Prop}:(match a with
  |some v=>spl b v λv=>K (some v)
  |none=>K none)↔K a:=by
 cases a with
 |none=>rfl
 |some v=>exact y5
def KBm{i:Nat}{o:Oper}{w:Wq}{b a:Past}{K f:Option Value->Wq->Past->Prop}(c:∀e∈a,e∈b)
  (g:∀v w' p l,(∀e∈l,e∈p)->K v w' p->f v w' l) (h:zt wr P bef ops i o fr w b K):zt wr P bef ops i o fr w a f:=by
 unfold zt at h⊢;split at h
 ·obtain⟨v,h,j,-⟩:=KBa (nt:=0) (ds:=[]) h;exact j _ (y5.2 (g _ _ _ _ c (y5.1 h)))
 ·exact KDe (λv h=>⟨h.1,y5.2 (g _ _ _ _ (λe m=>by
   simp at m⊢;exact m.imp id (c e)) (y5.1 h.2))⟩) h
 refine KBY (λd w' h=>?_) h;rw[y7]at h⊢;refine⟨λx q j=>h.1 x (c x q) j,?_⟩;have r:=(KDC (K:=λd=>K d w' b)).1 h.2;exact(KDC (K:=λd=>f d w' a)).2 (g _ _ _ _ c r)
def y8{i:Nat}{o:Oper}{w:Wq}{b a:Past}{K f:Option Value->Wq->Past->Prop}(c:∀e∈a,e∈b)
  (d:∀v w' p g,(∀e∈g,e∈p)->K v w' p->f v w' g) (h:stepD wr P bef ops i o fr w b K):stepD wr P bef ops i o fr w a f:=by
 unfold stepD at h⊢;split at h
 ·exact KBm c d h
 split at h
 ·exact h.elim
 split at h
 ·split at h
  ·exact KBm c d h
  ·exact KBm c d h
  exact d _ _ _ _ c h
 ·exact d _ _ _ _ c h
 exact h.elim
def KAY{i:Nat}{o:Oper}{w:Wq}{d:Past}{K:Option Value->Wq->Past->Prop}{a:Act}(C:Ref nt ds fr a)(h:stepD wr P bef ops i o fr w d K):
  (∃v,K v w d/\(∀w' p (c:Option Value->Wq->Past->Prop),c v w' p->stepD wr P bef ops i o fr w' p c)/\
   ∀w' p (c:Option Value->Wq->Past->Prop),stepD wr P bef ops i o fr w' p c->c v w' p)\/
  (cls P o.op=1/\∃v,zU P fr o w v/\K (some v) w ((i,λw'=>zU P fr o w' v)::d)/\
   ∀w' p (c:Option Value->Wq->Past->Prop),zU P fr o w' v->c (some v) w' ((i,λw'=>zU P fr o w' v)::p)->stepD wr P bef ops i o fr w' p c)\/
  (cls P o.op≠0/\cls P o.op≠1/\∀w' p (c:Option Value->Wq->Past->Prop),stepD wr P bef ops i o fr w' p c↔KBf P ops fr o w' λl g=>again bef i p g (c l g p)):=by
 have ex:(∀w' p (c:Option Value->Wq->Past->Prop),stepD wr P bef ops i o fr w' p c=zt wr P bef ops i o fr w' p c)->zt wr P bef ops i o fr w d K->
   (∃v,K v w d/\(∀w' p (c:Option Value->Wq->Past->Prop),c v w' p->stepD wr P bef ops i o fr w' p c)/\
   ∀w' p (c:Option Value->Wq->Past->Prop),stepD wr P bef ops i o fr w' p c->c v w' p)\/
  (cls P o.op=1/\∃v,zU P fr o w v/\K (some v) w ((i,λw'=>zU P fr o w' v)::d)/\
   ∀w' p (c:Option Value->Wq->Past->Prop),zU P fr o w' v->c (some v) w' ((i,λw'=>zU P fr o w' v)::p)->stepD wr P bef ops i o fr w' p c)\/
  (cls P o.op≠0/\cls P o.op≠1/\∀w' p (c:Option Value->Wq->Past->Prop),stepD wr P bef ops i o fr w' p c↔KBf P ops fr o w' λl g=>again bef i p g (c l g p)):=by
  intro e h;simp only[e];unfold zt at h;split at h
  ·rename_i x;left;obtain⟨v,h,z,y⟩:=KBa (nt:=nt) (ds:=ds) h;refine⟨some v,y5.1 h,λw' p c f=>?_,λw' p c f=>?_⟩
   ·unfold zt;simp only[x];exact z _ (y5.2 f)
   unfold zt at f;simp only[x]at f;obtain⟨M,J,-,r⟩:=KBa (nt:=nt) (ds:=ds) f;have D:=y a C w;rw[r a C w]at D;cases D;exact y5.1 J
  ·rename_i x;right;left;obtain⟨v,⟨L,h⟩,z⟩:=KCG h;refine⟨x,v,L,y5.1 h,λw' p c A f=>?_⟩;unfold zt;simp only[x];exact z _ ⟨A,y5.2 f⟩
  rename_i B F;right;right;refine⟨B,F,λw' p c=>?_⟩;unfold zt;split
  ·exact absurd (by assumption) B
  ·exact absurd (by assumption) F
  constructor<;>refine KBY (λl g h=>?_)
  ·rw[y7]at h⊢;exact⟨h.1,(KDC (K:=λl=>c l g p)).1 h.2⟩
  rw[y7]at h⊢;exact⟨h.1,(KDC (K:=λl=>c l g p)).2 h.2⟩
 have B:=h;unfold stepD at h;split at h
 ·rename_i m;exact ex (λw' p c=>by unfold stepD;simp only[m]) h
 rename_i j q m;split at h
 ·exact h.elim
 rename_i s u;split at h
 ·rename_i b t;split at h
  ·exact ex (λw' p c=>by unfold stepD;simp only[m,u,t]) h
  ·exact ex (λw' p c=>by unfold stepD;simp only[m,u,t]) h
  rename_i G H;left;refine⟨some (.tuple #[]),h,λw' p c f=>?_,λw' p c f=>?_⟩
  ·unfold stepD;simp only[m,u,t];cases b<;>cases q<;>first|exact absurd rfl (G rfl)|exact absurd rfl (H rfl)|exact f
  unfold stepD at f;simp only[m,u,t]at f;cases b<;>cases q<;>first|exact absurd rfl (G rfl)|exact absurd rfl (H rfl)|exact f
 ·rename_i N t;left;refine⟨some (.tuple #[]),h,λw' p c f=>?_,λw' p c f=>?_⟩
  ·unfold stepD;simp only[m,u,t];exact f
  unfold stepD at f;simp only[m,u,t]at f;exact f
 exact h.elim
def put(fr:Fr)(d:oN)(v:Option Value):Fr:=match d with
 |some d=>(d,v)::fr
 |none=>fr
def Fits(nt:Nat)(d:oN):Prop:=∀x,d=some x->x<nt
theorem fput_iff{d:oN}{v:Option Value}{k:Fr->Prop}:KDl nt fr d v k↔Fits nt d/\k (put fr d v):=by
 cases d with
 |none=>simp[KDl,put,Fits]
 |some d=>
  simp only[KDl,put,Fits];split
  ·rename_i a;have:d<nt:=by simpa [qK]using a
   simp[this]
  rename_i a
  have:¬d<nt:=λb=>by
   have c:Nat.blt d nt=true:=by rw[qK];exact b
   rw[c]at a;cases a
  simp[this]
theorem KAT{d:oN}{v:Option Value}{t:Nat}(h:∀x,d=some x->t≠x):yw (put fr d v) t=yw fr t:=by
 cases d with
 |none=>rfl
 |some d=>exact yB _ _ _ _ (h d rfl)
def Feq(fr fr':Fr):Prop:=∀t,yw fr t=yw fr' t
theorem Feq.put{d:oN}{v:Option Value}(h:Feq fr fr'):Feq (put fr d v) (put fr' d v):=by
 intro t;cases d with
 |none=>exact h t
 |some d=>
  by_cases a:t=d
  ·subst a;simp only[Vc.put,yh]
  simp only[Vc.put,yB _ _ _ _ a];exact h t
theorem put_swap{d a:oN}{v e:Option Value}(h:∀x y,d=some x->a=some y->x≠y):Feq (put (put fr d v) a e) (put (put fr a e) d v):=by
 intro t;cases d with
 |none=>rfl
 |some d=>cases a with
  |none=>rfl
  |some a=>
   have:=h d a rfl rfl;simp only[put];by_cases b:t=d
   ·subst b;rw[yB _ _ _ _ this,yh,yh]
   by_cases c:t=a
   ·subst c;rw[yh,yB _ _ _ _ b,yh]
   rw[yB _ _ _ _ c,yB _ _ _ _ b,yB _ _ _ _ b,yB _ _ _ _ c]
def Feq.agree{o:Oper}(h:Feq fr fr'):Agree ops o fr fr':=⟨λt _=>h t,λj a s _ _=>h s⟩
structure Apart(ops:List Oper)(a b:Oper):Prop where
 dst:∀x y,a.dst=some x->b.dst=some y->x≠y
 left:∀y,b.dst=some y->(∀t∈KDp a.op,t≠y)/\∀k want s,a.guard=some (k,want)->zH ops k=some s->s≠y
 right:∀x,a.dst=some x->(∀t∈KDp b.op,t≠x)/\∀k want s,b.guard=some (k,want)->zH ops k=some s->s≠x
def Apart.agreeL{a b:Oper}(h:Apart ops a b)(v:Option Value):Agree ops a (put fr b.dst v) fr:=
 ⟨λt e=>KAT λy d=>(h.left y d).1 t e,λk c s f g=>KAT λy d=>(h.left y d).2 k c s f g⟩
def Apart.agreeR{a b:Oper}(h:Apart ops a b)(v:Option Value):Agree ops b (put fr a.dst v) fr:=
 ⟨λt e=>KAT λy d=>(h.right y d).1 t e,λk c s f g=>KAT λy d=>(h.right y d).2 k c s f g⟩
theorem apart_of{i j:Nat}{a b:Oper}(A:ops[i]? =some a)(B:ops[j]? =some b)(h:apartB ops i j=true):Apart ops a b:=by
 have f:∀{o:Oper}{x:Nat},(match o.guard with
   |some (k,_)=>match zH ops k with
    |some s=> !(s==x)
    |none=>true
   |none=>true)=true->∀k m s,o.guard=some (k,m)->zH ops k=some s->s≠x:=by
  intro o x h k m s C D;simp only[C,D]at h;simpa using h
 simp only[apartB,A,B]at h;split at h
 ·rename_i x y l g;simp only[dM]at h;obtain⟨⟨⟨⟨F,z⟩,p⟩,G⟩,w⟩:=h;refine⟨λq r d c=>?_,λr c=>?_,λq d=>?_⟩
  ·rw[l]at d;rw[g]at c;cases d;cases c;simpa using F
  ·rw[g]at c;cases c;exact⟨λt u e=>by subst e;simp at z;exact z u,f G⟩
  rw[l]at d;cases d;exact⟨λt u e=>by subst e;simp at p;exact p u,f w⟩
 ·rename_i x l g;simp only[dM]at h;obtain⟨p,w⟩:=h;refine⟨λq r d c=>(by rw[g]at c;cases c),λr c=>(by rw[g]at c;cases c),λq d=>?_⟩;rw[l]at d;cases d;exact⟨λt u e=>by subst e;simp at p;exact p u,f w⟩
 ·rename_i y l g;simp only[dM]at h;obtain⟨p,w⟩:=h;refine⟨λq r d c=>(by rw[l]at d;cases d),λr c=>?_,λq d=>(by rw[l]at d;cases d)⟩;rw[g]at c;cases c;exact⟨λt u e=>by subst e;simp at p;exact p u,f w⟩
 rename_i l g;refine⟨λq r d c=>(by rw[g]at c;cases c),λr c=>(by rw[g]at c;cases c),λq d=>(by rw[l]at d;cases d)⟩
def turn{i x:Nat}{j l:Oper}{w:Wq}{y:Past}{a:Act}(O:Ref nt ds fr a)(A:Apart ops j l)(hb:bef i x=false)
  (hc:cls P j.op=0\/cls P l.op=0\/cls P j.op=1)
  {F:Fr->Wq->Past->Prop} (hF:∀f f' w p B,Feq f f'->(∀e∈B,e∈p)->F f w p->F f' w B)
  (h:stepD wr P bef ops i j fr w y λq w1 r=>Fits nt j.dst/\stepD wr P bef ops x l (put fr j.dst q) w1 r λd R T=>Fits nt l.dst/\F (put (put fr j.dst q) l.dst d) R T):
  stepD wr P bef ops x l fr w y λd w1 r=>Fits nt l.dst/\stepD wr P bef ops i j (put fr l.dst d) w1 r λq R T=>Fits nt j.dst/\F (put (put fr l.dst d) j.dst q) R T:=by
 have eR:∀q w1 r K,stepD wr P bef ops x l (put fr j.dst q) w1 r K=stepD wr P bef ops x l fr w1 r K:=λq w1 r K=>KBL (A.agreeR q) _ _ _;have eL:∀d w1 r K,stepD wr P bef ops i j (put fr l.dst d) w1 r K=stepD wr P bef ops i j fr w1 r K:=λd w1 r K=>KBL (A.agreeL d) _ _ _;simp only[eR]at h;simp only[eL]
 have s:∀q d w p B,(∀e∈B,e∈p)->F (put (put fr j.dst q) l.dst d) w p->F (put (put fr l.dst d) j.dst q) w B:=
  λq d w p B U h=>hF _ _ _ _ _ (put_swap A.dst) U h
 rcases KAY O h with⟨q,⟨m,H⟩,t,-⟩|⟨aa,q,J,⟨m,H⟩,t⟩|⟨h0,X,z⟩
 ·exact y8 (λe b=>b) (λd w1 p B U g=>⟨g.1,t _ _ _ ⟨m,s _ _ _ _ _ U g.2⟩⟩) H
 ·rcases KAY O H with⟨d,⟨o,g⟩,c,-⟩|⟨C,d,L,⟨o,g⟩,c⟩|⟨M,ab,D⟩
  ·exact c _ _ _ ⟨o,t _ _ _ J ⟨m,s _ _ _ _ _ (λe b=>b) g⟩⟩
  ·exact c _ _ _ L ⟨o,t _ _ _ J ⟨m,s _ _ _ _ _ (λe b=>by
    simp only[aP]at b⊢;rcases b with b|b|b
    ·exact .inr (.inl b)
    ·exact .inl b
    exact .inr (.inr b)) g⟩⟩
  rw[D]at H⊢;refine KBY (λrv Y g=>?_) H;rw[y7]at g⊢;obtain⟨u,o,g⟩:=g;refine⟨λe b Z=>u e (jW _ b) Z,o,?_⟩;have G:=u _ (fK ..) hb;exact t _ _ _ G ⟨m,s _ _ _ _ _ (λe b=>b) g⟩
 have hx:cls P l.op=0:=by
  rcases hc with h|h|h
  ·exact absurd h h0
  ·exact h
  exact absurd h X
 rw[z]at h;obtain⟨ac,w0,hs⟩:=KDb h;have hs:=(y7.1 hs).2.2;rcases KAY O hs with⟨d,⟨o,-⟩,c,N⟩|⟨C,-⟩|⟨M,-⟩
 ·refine c _ _ _ ⟨o,?_⟩;rw[z];refine KBY (λrv Y g=>?_) h;rw[y7]at g⊢;obtain⟨u,m,g⟩:=g;have h3:=N _ _ _ g;exact⟨u,m,s _ _ _ _ _ (λe b=>b) h3.2⟩
 ·rw[hx]at C;cases C
 exact absurd hx M
theorem yZ{K:Fr->Wq->Prop}{i:Nat}{r:Nq}{w:Wq}{a:Past}:KAJ wr P nt bef ops K (i::r) fr w a↔
  ∃o,ops[i]? =some o/\stepD wr P bef ops i o fr w a λv w' b=>Fits nt o.dst/\KAJ wr P nt bef ops K r (put fr o.dst v) w' b:=by
 simp only[KAJ,fput_iff];cases ops[i]? with
 |none=>simp
 |some o=>simp
theorem KAr{K:Fr->Wq->Prop}(b:∀f c w,Feq f c->K f w->K c w):∀(σ:Nq)(fr fr':Fr)(w:Wq)(p a:Past),Feq fr fr'->(∀e∈a,e∈p)->KAJ wr P nt bef ops K σ fr w p->KAJ wr P nt bef ops K σ fr' w a
 | [],fr,fr',w,p,a,hf,hp,h=>b _ _ _ hf h
 |i::r,fr,fr',w,p,a,hf,hp,h=>by
  rw[yZ]at h⊢;obtain⟨o,d,h⟩:=h;refine⟨o,d,?_⟩;rw[KBL (fr':=fr') hf.agree]at h;exact y8 hp (λv j q l g h=>⟨h.1,KAr b r _ _ _ _ _ hf.put g h.2⟩) h
structure KEb(P:Program)(bef:Nat->Nat->Bool)(ops:List Oper)(i x:Nat):Prop where
 bef:bef i x=false
 apart:∀a b,ops[i]? =some a->ops[x]? =some b->Apart ops a b
 cls:∀a b,ops[i]? =some a->ops[x]? =some b->cls P a.op=0\/Vc.cls P b.op=0\/Vc.cls P a.op=1
theorem Ref.has{a:Act}(b:Ref nt ds fr a){d:oN}(c:Fits nt d)(v:Option Value):∃a,Ref nt ds (Vc.put fr d v) a:=by
 cases d with
 |none=>exact⟨a,b⟩
 |some d=>
  cases v with
  |some v=>exact⟨_,b.put (c d rfl) v⟩
  |none=>exact⟨_,b.KFS (some d) undef d rfl⟩
theorem pull{K:Fr->Wq->Prop}(A:∀f J w,Feq f J->K f w->K J w){x:Nat}{σ2:Nq}:∀(σ1:Nq)(fr:Fr)(w:Wq)(b:Past)(a:Act),Ref nt ds fr a->(∀i∈σ1,KEb P bef ops i x)->
  KAJ wr P nt bef ops K (σ1++x::σ2) fr w b->KAJ wr P nt bef ops K (x::(σ1++σ2)) fr w b
 | [],fr,w,b,a,G,ht,h=>h
 |i::r,fr,w,b,a,G,ht,h=>by
  rw[aH,yZ]at h;obtain⟨d,g,h⟩:=h;have L:∀j∈r,KEb P bef ops j x:=λj U=>ht j (jW _ U);have l:=ht i (fK ..)
  have H:stepD wr P bef ops i d fr w b λv u m=>Fits nt d.dst/\KAJ wr P nt bef ops K (x::(r++σ2)) (put fr d.dst v) u m:=
   y8 (λe B=>B) (λv u p m s h=>by
    obtain⟨y,h⟩:=h;obtain⟨X,M⟩:=G.has y v;exact⟨y,KAr A _ _ _ _ _ _ (λt=>rfl) s (pull A r _ _ _ X M L h)⟩) h
  have c:∃z,ops[x]? =some z:=by
   rcases KAY G H with⟨v,h,-⟩|⟨-,v,-,h,-⟩|⟨-,-,C⟩
   ·exact(yZ.1 h.2).elim λo h=>⟨o,h.1⟩
   ·exact(yZ.1 h.2).elim λo h=>⟨o,h.1⟩
   rw[C]at H;obtain⟨rv,u,h⟩:=KDb H;exact(yZ.1 (y7.1 h).2.2).elim λo h=>⟨o,h.1⟩
  obtain⟨z,c⟩:=c
  have Y:stepD wr P bef ops i d fr w b λv u m=>Fits nt d.dst/\stepD wr P bef ops x z (put fr d.dst v) u m λN O Z=>Fits nt z.dst/\KAJ wr P nt bef ops K (r++σ2) (put (put fr d.dst v) z.dst N) O Z:=
   y8 (λe B=>B) (λv u p m s h=>by
    obtain⟨y,h⟩:=h;obtain⟨o',D,h⟩:=yZ.1 h;rw[c]at D;cases D;exact⟨y,y8 s (λN O q q' R h=>⟨h.1,KAr A _ _ _ _ _ _ (λt=>rfl) R h.2⟩) h⟩) H
  have h4:=turn G (l.apart _ _ g c) l.bef (l.cls _ _ g c)
   (F:=λf w p=>KAJ wr P nt bef ops K (r++σ2) f w p) (λf J w p m y s h=>KAr A _ _ _ _ _ _ y s h) Y
  rw[yZ];refine⟨z,c,y8 (λe B=>B) (λN w1 p m s h=>?_) h4⟩;obtain⟨T,h⟩:=h;refine⟨T,?_⟩;rw[aH,yZ];exact⟨d,g,y8 s (λv O q q' R h=>⟨h.1,KAr A _ _ _ _ _ _ (λt=>rfl) R h.2⟩) h⟩
end
def zI(x y:Nat)(r:Nq):yu x (y::r)=if x=y then 0 else yu x r+1:=by
 simp only[yu];split<;>rename_i h
 ·rw[if_pos (df h)]
 rw[if_neg λe=>by subst e;simp at h]
theorem KCT{x:Nat}:∀{l:Nq},x∈l->yu x l<l.length
 |y::r,h=>by
  rw[zI];split
  ·simp
  exact Nat.succ_lt_succ (KCT ((aP.1 h).resolve_left ‹_›))
theorem KDw:∀{l:Nq},l.Nodup->l.Pairwise λa b=>yu a l<yu b l
 | [],_=>.nil
 |x::r,h=>by
  have f:=(bH.1 h).1;have c:∀{y},y∈r->y≠x:=λd e=>f (e▸d);refine .cons (λy d=>?_) ((KDw (bH.1 h).2).imp_of_mem λg i j=>?_)
  ·rw[zI,zI,if_pos rfl,if_neg (c d)];omega
  rw[zI,zI,if_neg (c g),if_neg (c i)];omega
theorem KEL(m:Region.Mode)(ops:Array Oper)(σ:Nq)(hσ:forward m ops.toList σ=true):∀(fuel t:Nat)(listed:Array Bool)(acc:Nq),listed.size=ops.size->
  (listed.toList.filter (! ·)).length=fuel->
  ∃L,Region.linearise.go m ops fuel t listed acc=acc.reverse++L/\(∀i:Nat,i∈L↔listed[i]? =some false)/\L.Nodup/\
   ∀i∈L,∀o,ops[i]? =some o->∀e∈zG m o,listed[e]? =some true\/yu e L<yu i L
 |0,t,listed,acc,hs,hf=>by
  refine⟨[],by simp[Region.linearise.go],λi=>?_,mP,λi h=>by cases h⟩;simp only[iP,false_iff];intro h
  have:false∈listed.toList:=by
   rw[bK]at h;obtain⟨h1,h2⟩:=h;rw[<- h2];simp
  have h2:false∈listed.toList.filter (! ·):=dO.2 ⟨this,rfl⟩;rw[List.length_eq_zero_iff]at hf;rw[hf]at h2;cases h2
 |fuel+1,t,listed,acc,hs,hf=>by
  have hex:∃i:Nat,listed[i]? =some false:=by
   have:(listed.toList.filter (! ·))≠[]:=by intro e;rw[e]at hf;simp at hf
   obtain⟨b,hb⟩:=List.exists_mem_of_ne_nil _ this;rw[dO]at hb;obtain⟨h1,h2⟩:=hb;obtain⟨i,hi⟩:=bD h1;refine⟨i,?_⟩;rw[jQ]at hi;rw[hi];simpa using h2
  have hfree:∀(k i:Nat),listed[i]? =some false->yu i σ<=k->∃j:Nat,listed[j]? =some false/\∀o,ops[j]? =some o->∀e∈zG m o,listed[e]? =some true:=by
   intro k
   induction k using Nat.strongRecOn with
   |_ k ih=>
    intro i hi hk;by_cases hw:∀o,ops[i]? =some o->∀e∈zG m o,listed[e]? =some true
    ·exact⟨i,hi,hw⟩
    simp only[Classical.not_forall]at hw;obtain⟨o,ho,e,he,hne⟩:=hw
    have hilt:i<ops.toList.length:=by
     have:=(bK.1 ho).1;simpa using this
    have hall:=fQ.1 hσ i (dW.2 hilt);have ho':ops.toList[i]? =some o:=by simpa using ho
    simp only[ho']at hall;have h2:=fQ.1 hall e he;simp only[dM,decide_eq_true_eq]at h2
    have hef:listed[e]? =some false:=by
     have hlt:e<listed.size:=by rw[hs];simpa using h2.1
     rw[fB hlt]at hne⊢;cases hl:listed[e]with
     |true=>exact absurd (by rw[hl]) hne
     |false=>rfl
    exact ih (yu e σ) om e hef (aZ _)
  obtain⟨i0,hi0⟩:=hex;obtain⟨j0,hj0,hj0'⟩:=hfree _ i0 hi0 (aZ _)
  have hrs:∀i:Nat,i∈((List.range ops.size).filter λi=> !listed.getD i true&&((ops[i]?).map (·.after.all λe=> !Region.binds m e||listed.getD e.on false)).getD false)↔
    listed[i]? =some false/\∀o,ops[i]? =some o->∀e∈zG m o,listed[e]? =some true:=by
   intro i;rw[dO,dW];constructor
   ·rintro⟨hlt,h⟩;simp only[dM]at h;obtain⟨h1,h2⟩:=h;have hlt':i<listed.size:=om;refine⟨?_,λo ho e he=>?_⟩
    ·rw[fB hlt'];rw[fP,fB hlt']at h1;simp at h1;rw[h1]
    rw[ho]at h2;simp only[dG,fG]at h2;simp only[zG,aU,dO]at he;obtain⟨ed,⟨he1,he2⟩,rfl⟩:=he;have:=pG.1 h2 ed (by simpa using he1);simp only[he2,o8,lh]at this;rw[fP]at this;cases hx:listed[ed.on]? with
    |none=>rw[hx]at this;simp at this
    |some b=>rw[hx]at this;simp at this;rw[this]
   rintro⟨h1,h2⟩;have hlt:i<ops.size:=by rw[<- hs];exact(bK.1 h1).1
   refine⟨hlt,?_⟩;simp only[dM];refine⟨by rw[fP,h1];rfl,?_⟩;rw[fB hlt];simp only[dG,fG];refine pG.2 λed hed=>?_;cases hb:Region.binds m ed with
   |false=>rfl
   |true=>
    have:=h2 _ (fB hlt) ed.on (by
     simp only[zG,aU,dO];exact⟨ed,⟨by simpa using hed,hb⟩,rfl⟩)
    rw[fP,this];rfl
  simp only[Region.linearise.go];generalize hR:((List.range ops.size).filter λi=> !listed.getD i true&&((ops[i]?).map (·.after.all λe=> !Region.binds m e||listed.getD e.on false)).getD false)=rs at hrs
  have hne:rs≠[]:=λe=>by
   have:=(hrs j0).2 ⟨hj0,hj0'⟩;rw[e]at this;cases this
  have hlen:t%rs.length<rs.length:=Nat.mod_lt _ (fC.2 hne);rw[aB hlen];simp only;have him:rs[t%rs.length]∈rs:=eY hlen;generalize rs[t%rs.length]=i at him;obtain⟨hi,hie⟩:=(hrs i).1 him;have hilt:i<listed.size:=(bK.1 hi).1
  have hcount:((listed.setIfInBounds i true).toList.filter (! ·)).length=fuel:=by
   rw[Array.toList_setIfInBounds];have h1:listed.toList[i]? =some false:=by rw[jQ];exact hi
   have key:∀(l:List Bool)(i:Nat),l[i]? =some false->((l.set i true).filter (! ·)).length+1=(l.filter (! ·)).length:=by
    intro l
    induction l with
    |nil=>intro i h;simp at h
    |cons b l ih=>
     intro i h;cases i with
     |zero=>simp at h;subst h;simp
     |succ i=>
      simp only[bI]at h;have:=ih i h;cases b<;>simp[bu,dL]<;>omega
   have:=key _ _ h1;omega
  obtain⟨L,e1,e2,e3,e4⟩:=KEL m ops σ hσ fuel (t/rs.length) (listed.setIfInBounds i true) (i::acc) (by simpa using hs) hcount
  have hget:∀k:Nat,(listed.setIfInBounds i true)[k]? =if i=k then some true else listed[k]? :=by
   intro k;rw[eH];split
   ·first|rfl|rw[if_pos hilt]
   rfl
  refine⟨i::L,by rw[e1];simp,λk=>?_,?_,?_⟩
  ·rw[aP,e2,hget];by_cases hk:i=k
   ·subst hk;simp[hi]
   rw[if_neg hk];simp[Ne.symm hk]
  ·refine bH.2 ⟨λh=>?_,e3⟩;rw[e2,hget,if_pos rfl]at h;cases h
  intro k hk o ho e he;rw[zI,zI];by_cases hki:k=i
  ·subst hki;exact .inl (hie o ho e he)
  rw[if_neg hki];rcases e4 k ((aP.1 hk).resolve_left hki) o ho e he with h|h
  ·rw[hget]at h;split at h
   ·rw[if_pos (Eq.symm ‹_›)];exact .inr om
   exact .inl h
  exact .inr (by split<;>omega)
structure Lists(m:Region.Mode)(ops:Array Oper)(τ:Nq):Prop where
 mem:∀i,i∈τ↔i<ops.size
 nodup:τ.Nodup
 edge:∀i o,ops[i]? =some o->∀e∈zG m o,yu e τ<yu i τ
def KCP{m:Region.Mode}{ops:Array Oper}{σ:Nq}(c:forward m ops.toList σ=true)(t:Nat):Lists m ops (Region.linearise m ops t):=by
 obtain⟨L,d,f,g,j⟩:=KEL m ops σ c ops.size t (Array.replicate ops.size false) [] (by simp) (by simp);have e:Region.linearise m ops t=L:=by simpa [Region.linearise]using d
 rw[e]
 have a:∀i,i∈L↔i<ops.size:=λi=>by
  rw[f,nN];split<;>simp_all
 refine⟨a,g,λi o b e l=>(j i ((a i).2 (bK.1 b).1) o b e l).resolve_left λh=>?_⟩;rw[nN]at h;split at h<;>cases h
def any_of_mode{m:Region.Mode}{o:Oper}{e:Nat}(h:e∈zG .any o):e∈zG m o:=by
 simp only[zG,aU,dO]at h⊢;obtain⟨b,⟨c,a⟩,rfl⟩:=h;refine⟨b,⟨c,?_⟩,rfl⟩;simp only[Region.binds]at a⊢;split at a<;>first|rfl|cases a
def Good(τ:Nq)(cl:Nq):Prop:=∀i j,before cl i j=true->yu j τ<τ.length->yu i τ<yu j τ
theorem KDZ(f g:Nat->Nat):∀(l:Nq)(s i:Nat),Nat.testBit (l.foldl (λs e=>Nat.lor s (Nat.lor (Nat.pow 2 e) (Nat.lor (f e) (g e)))) s) i=true->
  Nat.testBit s i=true\/∃e∈l,i=e\/Nat.testBit (f e) i=true\/Nat.testBit (g e) i=true
 | [],s,i,h=>.inl h
 |e::r,s,i,h=>by
  rw[dP]at h;rcases KDZ f g r _ i h with h|⟨b,a,h⟩
  ·have h:Nat.testBit (s|||(2^e|||(f e|||g e))) i=true:=h;rw[oP,oP,oP]at h;simp at h;rcases h with h|h|h|h
   ·exact .inl h
   ·rw[Nat.testBit_two_pow]at h;exact .inr ⟨e,fK ..,.inl (of_decide_eq_true h).symm⟩
   ·exact .inr ⟨e,fK ..,.inr (.inl h)⟩
   exact .inr ⟨e,fK ..,.inr (.inr h)⟩
  exact .inr ⟨b,jW _ a,h⟩
def KCU(τ:Nq):Good τ []:=by
 intro i j h;simp[before,KDm]at h
theorem KBE{m:Region.Mode}{ops:Array Oper}{τ:Nq}(A:Lists m ops τ){ex:List (Nat×Nat)}(q:∀p∈ex,yu p.1 τ<yu p.2 τ){b:Nq}(B:Good τ b):
  Good τ (KDX ex b ops.toList):=by
 have t:∀(l done:List Oper)(a:Nq),ops.toList=done++l->a.length=done.length->Good τ a->
   Good τ (l.foldl (λa o=>a++[(KDv ex a.length o).foldl (λs e=>Nat.lor s (Nat.lor (Nat.pow 2 e) (Nat.lor (KDm a e) (KDm b e)))) 0]) a):=by
  intro l
  induction l with
  |nil=>exact λdone a _ _ h=>h
  |cons o r C=>
   intro done a y c z;rw[dP];refine C (done++[o]) _ (by rw[y];simp) (by simp[c]) ?_;intro i j d D;simp only[before,KDm]at d;by_cases F:j<a.length
   ·rw[bQ F]at d;exact z i j d D
   by_cases u:j=a.length
   ·subst u;rw[bg (aZ _)]at d;simp only[iL,dI,fG]at d;rcases KDZ _ _ _ _ _ d with h|⟨e,g,h⟩
    ·simp at h
    have f:yu e τ<yu a.length τ:=by
     simp only[KDv,aT,aU,dO]at g;rcases g with g|⟨p,⟨w,x⟩,rfl⟩
     ·refine A.edge _ o ?_ e (any_of_mode ?_)
      ·have:ops.toList[a.length]? =some o:=by rw[y,c];simp
       simpa using this
      simpa [zG,KFI]using g
     exact df x▸q p w
    rcases h with rfl|h|h
    ·exact f
    ·exact Nat.lt_trans (z i e h om) f
    exact Nat.lt_trans (B i e h om) f
   rw[bC (by simp;omega)]at d;simp at d
 exact t ops.toList [] [] rfl rfl (KCU τ)
def KBb{m:Region.Mode}{ops:Array Oper}{τ:Nq}(b:Lists m ops τ){ex:List (Nat×Nat)}(a:∀p∈ex,yu p.1 τ<yu p.2 τ):Good τ (closure ex ops.toList):=by
 unfold closure;split
 ·exact KBE b (λp c=>by cases c) (KCU τ)
 exact KBE b a (KBE b a (KBE b a (KCU τ)))
theorem KAC(x:Nat):∀l:Nq,remove x l=l.erase x
 | []=>rfl
 |y::r=>by
  rw[List.erase_cons];simp only[remove,KAC x r];split
  ·rename_i h;rw[if_pos (by simpa using(df h).symm)]
  rename_i h;have a:¬y=x:=λe=>by subst e;simp at h
  rw[if_neg (by simpa using a)]
theorem KDg{e:Nq}:∀(n:Nat)(l d:Nq),l.length=n->d.Perm l->(∀x∈l,before e x x=false)->d.Pairwise (λx y=>before e y x=false)->d∈KAv e n l
 |0,l,d,hn,a,hx,hr=>by
  obtain rfl:=ay hn;obtain rfl:=a.eq_nil;simp[KAv]
 |n+1,l,[],hn,a,hx,hr=>by rw[<- a.length_eq]at hn;cases hn
 |n+1,l,x::r,hn,a,hx,hr=>by
  obtain⟨b,f⟩:=List.cons_perm_iff_perm_erase.1 a;obtain⟨g,i⟩:=bF.1 hr;simp only[KAv,fH,dO,aU];refine⟨x,⟨b,fQ.2 λy c=>?_⟩,r,KDg n _ r ?_ ?_ (λy c=>hx y ?_) i,rfl⟩
  ·rcases aP.1 (a.mem_iff.2 c)with rfl|h
   ·rw[hx y c];rfl
   rw[g y h];rfl
  ·rw[KAC,kW b];omega
  ·rw[KAC];exact f
  rw[KAC]at c;exact List.mem_of_mem_erase c
theorem KDS{R:Nat->Nat->Prop}:∀{b:Nq},b.Pairwise R->∀q∈chainOf b,R q.1 q.2
 |x::y::r,h,q,a=>by
  rcases aP.1 a with rfl|a
  ·exact(bF.1 h).1 y (fK ..)
  exact KDS (bF.1 h).2 q a
 | [x],h,q,a=>by cases a
 | [],h,q,a=>by cases a
theorem KAu{P:Program}:∀(l:List Oper)(k i:Nat),i∈yU P l k↔k<=i/\∃o,l[i-k]? =some o/\cls P o.op≠0/\cls P o.op≠1
 | [],k,i=>by simp[yU]
 |o::r,k,i=>by
  have h:=KAu (P:=P) r (k+1) i
  have b:(k+1<=i/\∃o,r[i-(k+1)]? =some o/\cls P o.op≠0/\cls P o.op≠1)↔(k<=i/\i≠k/\∃d,(o::r)[i-k]? =some d/\cls P d.op≠0/\cls P d.op≠1):=by
   constructor
   ·rintro⟨c,m⟩;refine⟨om,om,?_⟩;rw[show i-k=(i-(k+1))+1 by omega];simpa using m
   rintro⟨c,m,a⟩;refine⟨om,?_⟩;rw[show i-k=(i-(k+1))+1 by omega]at a;simpa using a
  simp only[yU];split
  ·rename_i j;rw[h,b];constructor
   ·rintro⟨c,_,a⟩;exact⟨c,a⟩
   rintro⟨c,d,a,g⟩;refine⟨c,λe=>?_,d,a,g⟩;subst e;simp at a;subst a;exact g.1 j
  ·rename_i j;rw[h,b];constructor
   ·rintro⟨c,_,a⟩;exact⟨c,a⟩
   rintro⟨c,d,a,g⟩;refine⟨c,λe=>?_,d,a,g⟩;subst e;simp at a;subst a;exact g.2 j
  rename_i p c;rw[aP,h,b];constructor
  ·rintro(rfl|⟨f,_,a⟩)
   ·exact⟨aZ _,o,by simp,p,c⟩
   exact⟨f,a⟩
  rintro⟨f,a⟩;by_cases e:i=k
  ·exact .inl e
  exact .inr ⟨f,e,a⟩
theorem KBI{P:Program}:∀(l:List Oper)(k:Nat),(yU P l k).Nodup
 | [],k=>mP
 |o::r,k=>by
  have a:=KBI (P:=P) r (k+1);simp only[yU];split
  ·exact a
  ·exact a
  refine bH.2 ⟨λh=>?_,a⟩;rw[KAu]at h;omega
theorem KDc{f:Nat->Nat->Bool}:∀{σ:Nq},KCF f σ=true->σ.Pairwise (λi j=>f i j=true)
 | [],_=>List.Pairwise.nil
 |i::r,h=>by
  simp only[KCF,dM]at h;exact List.Pairwise.cons (λj a=>fQ.1 h.1 j a) (KDc h.2)
theorem KCW:∀{σ:Nq},nodupB σ=true->σ.Nodup
 | [],_=>mP
 |i::r,h=>by
  simp only[nodupB,dM]at h;exact bH.2 ⟨by simpa using h.1,KCW h.2⟩
section
variable{wr:Bool}{P:Program}{nt:Nat}{ds:List Deferred}{rd:Option Nat}{n:Nat}
theorem Ref.putv{fr:Fr}{a:Act}(b:Ref nt ds fr a){d:oN}(e:Fits nt d){c:Option Value}{v:Value}(f:∀u,c=some u->v=u):Ref nt ds (Vc.put fr d c) (a.put d v):=by
 cases d with
 |none=>exact b
 |some d=>
  cases c with
  |some u=>cases f u rfl;exact b.put (e d rfl) v
  |none=>exact b.KFS (some d) v d rfl
theorem KDY(s:KBH P){c:Array Oper}{Q:Exit->Act->Wq->Prop}{K:Fr->Wq->Prop}(t:∀f u w,Feq f u->K f w->K u w)(y:∀fr w a,K fr w->Ref nt ds fr a->Q .normal a w):
  ∀(cl τ σ:Nq)(fr:Fr)(w:Wq)(d:Past)(a:Act),σ.Perm τ->τ.Pairwise (λx i=>before cl i x=false)->σ.Pairwise (λi j=>KDu P c.toList cl i j=true)->
   KAJ wr P nt (before cl) c.toList K σ fr w d->Ref nt ds fr a->wpOpsIn (W rd) n P c Q τ a w
 |cl,[],σ,fr,w,d,a,hs,hresp,hp,h,hr=>by
  obtain rfl:=hs.eq_nil;exact y _ _ _ h hr
 |cl,x::τ',σ,fr,w,d,a,hs,hresp,hp,h,hr=>by
  obtain⟨σ1,σ2,rfl⟩:=gI (hs.mem_iff.2 (fK ..));have l:=(bP.symm.trans hs).cons_inv
  have e:∀i∈σ1,KEb P (before cl) c.toList i x:=by
   intro i z;have A:before cl i x=false:=(bF.1 hresp).1 i (l.mem_iff.1 (aS _ z));have m:=(eP.1 hp).2.2 i z x (fK ..);simp only[KDu,A,lh,dM]at m;obtain⟨⟨-,p⟩,q⟩:=m;refine⟨A,λa b r g=>apart_of r g p,λa b r g=>?_⟩;simp only[r,g]at q;split at q
   ·left;assumption
   ·right;left;assumption
   ·right;right;assumption
   cases q
  have C:=pull t σ1 fr w d a hr e h;obtain⟨o,D,F⟩:=yZ.1 C;refine KCs s D F hr λH J L B v G=>?_;exact KDY s t y cl τ' (σ1++σ2) _ _ _ _ l (bF.1 hresp).2 (hp.sublist ((jl x σ2).append_left σ1)) B.2 (hr.putv B.1 G)
theorem KCA{f:Nq->Prop}:∀{l:List (Nq)}{x:Nq},x∈l->KAX f l->f x
 | [y],x,a,h=>by
  simp at a;subst a;exact h
 |y::z::r,x,a,h=>by
  rcases aP.1 a with rfl|a
  ·exact h.1
  exact KCA a h.2
def KET(wr:Bool)(P:Program)(nt:Nat)(opsA:Array Oper)(K:Fr->Wq->Prop)(fr:Fr)(w:Wq)(eo:Nq):Prop:=
 match closure (chainOf eo) opsA.toList with
 |cl=>match KDA P opsA.toList cl (List.range opsA.toList.length) opsA.toList.length 0 with
  |σ=>match KDt P opsA cl σ with
   |true=>KAJ wr P nt (before cl) opsA.toList K σ fr w []
   |false=>False
def oneV_mono{a:Array Oper}{K b:Fr->Wq->Prop}{fr:Fr}{w:Wq}{c:Nq}
  (e:∀d σ,KAJ wr P nt (before d) a.toList K σ fr w []->KAJ wr P nt (before d) a.toList b σ fr w []) (h:KET wr P nt a K fr w c):KET wr P nt a b fr w c:=by
 simp only[KET]at h⊢;split at h
 ·exact e _ _ h
 exact h.elim
theorem KBV{f g:Nq->Prop}(a:∀x,f x->g x):∀{l:List (Nq)},KAX f l->KAX g l
 | [],h=>h
 | [x],h=>a x h
 |x::y::r,h=>⟨a x h.1,KBV a h.2⟩
theorem draw_upon(hN:KBH P){opsA:Array Oper}{Q:Exit->Act->Wq->Prop}{K:Fr->Wq->Prop}(hK:∀f f' w,Feq f f'->K f w->K f' w)(hQ:∀fr w a,K fr w->Ref nt ds fr a->Q .normal a w)
  {fr:Fr} {w:Wq} {a:Act} (hbase:KCJ opsA=true)
  (h:KAX (KET wr P nt opsA K fr w) (KAv (closure [] opsA.toList) (yU P opsA.toList 0).length (yU P opsA.toList 0))) (hr:Ref nt ds fr a) (mixed:Bool) (t:Nat):
  wpOpsIn (W rd) n P opsA Q (Region.schedule mixed opsA t) a w:=by
 simp only[KCJ,dM]at hbase;obtain⟨hfa,hdep⟩:=hbase
 have hlists:∃m,Lists m opsA (Region.schedule mixed opsA t):=by
  simp only[Region.schedule];split
  ·exact⟨_,KCP hfa t⟩
  rename_i hc
  have hd:Region.departs opsA=true:=by
   cases hd:Region.departs opsA with
   |true=>rfl
   |false=>rw[hd]at hc;simp at hc
  simp only[hd,o8,lh,dM]at hdep;split
  ·exact⟨_,KCP hdep.1 _⟩
  exact⟨_,KCP hdep.2 _⟩
 obtain⟨m,hl⟩:=hlists;generalize Region.schedule mixed opsA t=τ at hl⊢
 let p:Nat->Bool:=λi=>(yU P opsA.toList 0).contains i
 have hgood0:=KBb (ex:=[]) hl (λq hq=>by cases hq)
 have hself:∀cl,Good τ cl->∀x∈τ,before cl x x=false:=λcl hg x hx=>
  pU.2 λhb=>Nat.lt_irrefl _ (hg x x hb (KCT hx))
 have hresp:∀cl,Good τ cl->τ.Pairwise λx i=>before cl i x=false:=λcl hg=>
  (KDw hl.nodup).imp_of_mem λha hb hlt=>pU.2 λh=>Nat.lt_asymm hlt (hg _ _ h (KCT ha))
 have htm:∀x,x∈yU P opsA.toList 0->x∈τ:=by
  intro x hx;rw[KAu]at hx;obtain⟨-,o,ho,-⟩:=hx;rw[hl.mem];have:=(aA.1 ho).1;simpa using this
 have hmem:τ.filter p∈KAv (closure [] opsA.toList) (yU P opsA.toList 0).length (yU P opsA.toList 0):=by
  refine KDg _ _ _ rfl ((fU (hl.nodup.filter p) (KBI _ _)).2 λx=>?_) (λx hx=>hself _ hgood0 x (htm x hx)) ((hresp _ hgood0).filter p);rw[dO];constructor
  ·rintro⟨-,h2⟩;simpa [p]using h2
  intro hx;exact⟨htm x hx,by simpa [p]using hx⟩
 have h1:=KCA hmem h;have hgood:=KBb (ex:=chainOf (τ.filter p)) hl (KDS ((KDw hl.nodup).filter p));simp only[KET]at h1;split at h1
 ·rename_i hok;simp only[KDt,dM,decide_eq_true_eq]at hok;obtain⟨⟨⟨hlen,hnd⟩,hall⟩,hpairs⟩:=hok;have hs:=KCW hnd;refine KDY hN hK hQ _ _ _ fr w [] a ((fU hs hl.nodup).2 λi=>?_) (hresp _ hgood) (KDc hpairs) h1 hr;have hall:∀k∈_,k<opsA.toList.length:=λk hk=>of_decide_eq_true (fQ.1 hall k hk);rw[hl.mem,<- bT];refine⟨hall i,λhi=>az λhn=>?_⟩
  have:=(bH.2 ⟨hn,hs⟩).length_le_of_subset (l₂:=List.range opsA.toList.length) λk hk=>dW.2 (by
   rcases aP.1 hk with rfl|h
   ·exact hi
   exact hall k h)
  rw[aK,fZ]at this;omega
 exact h1.elim
end
def Keep(ms:Nq)(fr fr':Fr):Prop:=∀t,t∉ms->yw fr' t=yw fr t
def Keep.refl(c:Nq)(fr:Fr):Keep c fr fr:=λ_ _=>rfl
def Keep.trans{d:Nq}{a b c:Fr}(h:Keep d a b)(f:Keep d b c):Keep d a c:=λt e=>(f t e).trans (h t e)
def Keep.more{d c:Nq}{a b:Fr}(h:Keep d a b)(e:∀t∈d,t∈c):Keep c a b:=λt f=>h t λg=>f (e t g)
theorem opsMods_mem{ops:List Oper}{o:Oper}{d:Nat}(h:o∈ops)(e:o.dst=some d):d∈KBD ops:=by
 induction ops with
 |nil=>cases h
 |cons x r c=>
  simp only[KBD];rcases aP.1 h with rfl|h
  ·rw[e];exact fK ..
  cases x.dst with
  |none=>exact c h
  |some _=>exact jW _ (c h)
section
variable{wr:Bool}{P:Program}{bef:Nat->Nat->Bool}{ops:List Oper}{nt:Nat}{ds:List Deferred}
theorem KDa{K:Fr->Wq->Prop}:∀(σ:Nq)(fr:Fr)(w:Wq)(p c:Past),(∀e∈c,e∈p)->KAJ wr P nt bef ops K σ fr w p->KAJ wr P nt bef ops K σ fr w c
 | [],fr,w,p,c,hp,h=>h
 |i::r,fr,w,p,c,hp,h=>by
  rw[yZ]at h⊢;obtain⟨o,d,h⟩:=h;exact⟨o,d,y8 hp (λv g q j f h=>⟨h.1,KDa r _ _ _ _ f h.2⟩) h⟩
theorem KCI{K d:Fr->Wq->Prop}:∀(σ:Nq)(fr:Fr)(w:Wq)(p:Past),KAJ wr P nt bef ops K σ fr w p->(∀fr' w',K fr' w'->Keep (KBD ops) fr fr'->d fr' w')->KAJ wr P nt bef ops d σ fr w p
 | [],fr,w,p,h,hk=>hk _ _ h (Keep.refl _ _)
 |i::r,fr,w,p,h,hk=>by
  rw[yZ]at h⊢;obtain⟨o,f,h⟩:=h;refine⟨o,f,y8 (λe g=>g) (λv w' q u j h=>⟨h.1,?_⟩) h⟩;refine KCI r _ _ _ (KDa r _ _ _ _ j h.2) λfr' l m c=>hk _ _ m ?_;refine Keep.trans ?_ c;intro t n;exact KAT λx s e=>n (e▸opsMods_mem (aC f) s)
end
theorem KEO{k:Kd}{v:Value}{s:KTy k}(h:fromV k v=some s):v=toV k s:=by
 cases k with
 |inl k=>
  cases v<;>simp only[fromV]at h<;>try cases h
  split at h
  ·rename_i c;have c:=of_decide_eq_true c;cases h;subst c;rfl
  cases h
 |inr n=>
  rcases n with _|_|_|_|_|n
  ·cases v<;>first|(cases h;rfl)|cases h
  ·cases v<;>first|(cases h;rfl)|cases h
  ·cases v<;>first|(cases h;rfl)|cases h
  ·cases v<;>first|(cases h;rfl)|cases h
  ·cases v<;>first|(cases h;rfl)|cases h
  have d:(some v:Option (KTy (.inr (n+5))))=some s:=by cases v<;>exact h
  exact Option.some.inj d
theorem KCO:∀{st:List (Nat×Kd)}{fr:Fr}{K:KBF st->Prop},KBJ st fr K->∃s,K s/\∀d t v,yw (setSt st s d) t=some v->yw fr t=some v\/(t∉st.map (·.1)/\yw d t=some v)
 | [],fr,K,h=>⟨(),h,λd t v e=>.inr ⟨by simp,e⟩⟩
 | [x],fr,K,h=>by
  simp only[KBJ]at h;split at h
  ·rename_i u g;split at h
   ·rename_i s i;refine⟨s,h,λd t v e=>?_⟩;simp only[setSt]at e;by_cases c:t=x.1
    ·subst c;rw[yh]at e;cases e;left;rw[g,KEO i]
    rw[yB _ _ _ _ c]at e;exact .inr ⟨by simpa using c,e⟩
   exact h.elim
  exact h.elim
 |x::y::r,fr,K,h=>by
  simp only[KBJ]at h;split at h
  ·rename_i u g;split at h
   ·rename_i s i;obtain⟨l,h,f⟩:=KCO (st:=y::r) h;refine⟨(s,l),h,λd t v e=>?_⟩;simp only[setSt]at e;by_cases c:t=x.1
    ·subst c;rw[yh]at e;cases e;left;rw[g,KEO i]
    rw[yB _ _ _ _ c]at e;rcases f d t v e with j|⟨j,m⟩
    ·exact .inl j
    exact .inr ⟨by simpa [c]using j,m⟩
   exact h.elim
  exact h.elim
theorem KBz:∀{st:List (Nat×Kd)}{s:KBF st}{fr:Fr}{t:Nat},t∉st.map (·.1)->yw (setSt st s fr) t=yw fr t
 | [],s,fr,t,h=>rfl
 | [x],s,fr,t,h=>by
  simp at h;exact yB _ _ _ _ h
 |x::y::r,s,fr,t,h=>by
  simp only[setSt];simp at h;rw[yB _ _ _ _ h.1];exact KBz (st:=y::r) (by simp[h.2.1];simpa using h.2.2)
theorem KDR:∀{d:Nq}{fr:Fr}{t:Nat},t∈d->yw (KAh d fr) t=none
 |x::r,fr,t,h=>by
  simp only[KAh];by_cases c:t=x
  ·subst c;exact yh ..
  rw[yB _ _ _ _ c];exact KDR ((aP.1 h).resolve_left c)
theorem KBl:∀{c:Nq}{fr:Fr}{t:Nat},t∉c->yw (KAh c fr) t=yw fr t
 | [],fr,t,h=>rfl
 |x::r,fr,t,h=>by
  simp only[KAh];simp at h;rw[yB _ _ _ _ h.1];exact KBl h.2
theorem KDW:∀{st:List (Nat×Kd)}{d:Nq},KEG st d=true->∀t∈st.map (·.1),t∈d
 | [],d,h,t,c=>by cases c
 |x::r,d,h,t,c=>by
  simp only[KEG,dM]at h;rcases aP.1 c with rfl|c
  ·simpa using h.1
  exact KDW h.2 t c
def KAo{st:List (Nat×Kd)}{c:Nq}(d:KEG st c=true)(s:KBF st)(fr:Fr):Keep c fr (setSt st s (KAh c fr)):=by
 intro t e;rw[KBz λh=>e (KDW d t h),KBl e]
section
variable{P:Program}{nt:Nat}{ds:List Deferred}
def KBZ{st:List (Nat×Kd)}{d:Nq}(j:KEG st d=true){fr fr':Fr}{a:Act}(e:Ref nt ds fr' a)(l:Keep d fr fr'){K:KBF st->Prop}(h:KBJ st fr' K):
  ∃s,K s/\Ref nt ds (setSt st s (KAh d fr)) a:=by
 obtain⟨s,h,c⟩:=KCO h;refine⟨s,h,e.size,e.defers,λt v m=>?_⟩;rcases c _ t v m with i|⟨i,f⟩
 ·exact e.val t v i
 by_cases g:t∈d
 ·rw[KDR g]at f;cases f
 rw[KBl g]at f;exact e.val t v (by rw[l t g,f])
def and_true{a b:Bool}(h:(a&&b)=true):a=true/\b=true:=by simpa using h
theorem exists_least{p:Nat->Prop}(h:∃n,p n):∃n,p n/\∀m,m<n->¬p m:=by
 obtain⟨n,d⟩:=h
 induction n using Nat.strongRecOn with
 |_ n e=>
  by_cases c:∃m,m<n/\p m
  ·obtain⟨m,f,g⟩:=c;exact e m f g
  exact⟨n,d,λm i j=>c ⟨m,i,j⟩⟩
theorem KBy{F:Fence}{n:Nat}{c:Code}{Q:Exit->Act->Wq->Prop}(I:Nat->Act->Wq->Prop){a:Act}{w:Wq}(o:∃m,I m a w)
  (d:∀m a w,I m a w->c.wpIn F n P (Exit.then (λa' w'=>∃f,f<m/\I f a' w') Q) a w):(Code.loop c).wpIn F n P Q a w:=by
 classical
 let μ:Act->Wq->Nat:=λa w=>if h:∃m,I m a w then Classical.choose (exists_least h)else 0
 have j:∀a w,(∃m,I m a w)->I (μ a w) a w/\∀m,m<μ a w->¬I m a w:=by
  intro a w h;simp only[μ,dif_pos h];exact Classical.choose_spec (exists_least h)
 refine wpIn_loop (λa w=>∃m,I m a w) μ o λa w h=>?_;refine wpIn_mono (d _ _ _ (j a w h).1) λe a' w' l=>?_;cases e with
 |normal=>
  obtain⟨f,p,i⟩:=l;refine⟨⟨f,i⟩,?_⟩;have q:=(j a' w' ⟨f,i⟩).2;have:¬f<μ a' w':=λg=>q f g i;omega
 |_=>exact l
section
variable{b:Frame}{a:Act}{k:List Item}{cs:List Frame}{w:World}
def stepR_scope{c:Code}:step P (lone (b.atR a (.code (.scope c)::k)) cs w)=.next (lone (b.atR a (.code c::.inScope c::k)) cs w):=
 step_lone_go (by simp[stepG,stepG.exec,Frame.atR])
def stepR_inScope{c:Code}:step P (lone (b.atR a (.inScope c::k)) cs w)=.next (lone (b.atR a k) cs w):=
 step_lone_go (by simp[stepG,stepG.exec,Frame.atR])
end
theorem wpIn_scope{F:Fence}{n:Nat}{c:Code}{Q:Exit->Act->Wq->Prop}{a:Act}{w:Wq}(h:c.wpIn F n P (Exit.noGoto Q) a w):(Code.scope c).wpIn F n P Q a w:=by
 intro b k cs m o p;obtain⟨e,f,j,g,d⟩:=h b (.inScope c::k) cs m o p;have i:StepsIn (Machine.fenced P F) P (lone (b.atR a (.code (.scope c)::k)) cs w) (lone (b.atR a (.code c::.inScope c::k)) cs w):=.one (fenced_calm (fr:=b.atR a (.code (.scope c)::k)) o p rfl) stepR_scope;cases e with
 |normal=>exact⟨.normal,f,j,g,StepsIn.trans i (StepsIn.trans d (.one (fenced_calm (fr:=b.atR f (.inScope c::k)) o p rfl) stepR_inScope))⟩
 |exit id=>
  refine⟨.exit id,f,j,g,λq r=>StepsIn.trans i (d.1 q (by simpa [exitTo]using r)),λs t=>?_⟩;obtain⟨u,x,y⟩:=d.2 s (by simpa [exitTo]using t);exact⟨u,x,StepsIn.trans i y⟩
 |goto l=>exact g.elim
 |ret=>exact⟨_,f,j,g,.of_steps i d⟩
 |panic z=>exact⟨_,f,j,g,.of_steps i d⟩
 |outgrown=>exact⟨_,f,j,g,.of_steps i d⟩
def mkM(ms:Nq)(ds:List Deferred):List Deferred:=ms.map (λD=> {target:=.collected D,args:= #[]})++ds
theorem KCv:∀(st:List (Nat×Kd))(s:KBF st)(fr:Fr),setSt st s fr=((st.map (·.1)).zip (zQ st s)).map (λp=>(p.1,some p.2))++fr
 | [],s,fr=>rfl
 | [x],s,fr=>rfl
 |x::y::r,s,fr=>by
  simp only[setSt,zQ,aj,jP,aH];rw[KCv (y::r) s.2 fr];rfl
theorem KCS:∀(st:List (Nat×Kd))(s:KBF st),(zQ st s).length=st.length
 | [],s=>rfl
 | [x],s=>rfl
 |x::y::r,s=>by simp only[zQ,aK];rw[KCS (y::r) s.2];rfl
theorem KDh:∀(kv:List (Nat×Value))(c:Array Value)(t:Nat)(v:Value)(fr:Fr),(kv.map (·.1)).Nodup->(∀k∈kv.map (·.1),k<c.size)->yw (kv.map (λp=>(p.1,some p.2))++fr) t=some v->
  ((kv.foldl (λt p=>t.setIfInBounds p.1 p.2) c)[t]? =some v)\/(t∉kv.map (·.1)/\yw fr t=some v/\(kv.foldl (λt p=>t.setIfInBounds p.1 p.2) c)[t]? =c[t]?)
 | [],c,t,v,fr,_,_,h=>.inr ⟨by simp,h,rfl⟩
 |(k,u)::r,c,t,v,fr,e,hk,h=>by
  simp only[aj,bH]at e;simp at h;rw[dP]
  have out:∀(r:List (Nat×Value))(c:Array Value),k∉r.map (·.1)->(r.foldl (λt p=>t.setIfInBounds p.1 p.2) c)[k]? =c[k]? :=by
   intro r
   induction r with
   |nil=>intro c _;rfl
   |cons x q g=>
    intro c f;simp only[aj,aP,not_or]at f;rw[dP,g _ f.2,eH,if_neg (Ne.symm f.1)]
  by_cases d:t=k
  ·subst d;rw[yh]at h;cases h;left;rw[out r _ e.1];have:=hk t (by simp);simp[this]
  rw[yB _ _ _ _ d]at h;rcases KDh r (c.setIfInBounds k u) t v fr e.2 (λj i=>by simpa using hk j (by simp[i])) h with h1|⟨h1,h2,h3⟩
  ·exact .inl h1
  refine .inr ⟨by simp[d];simpa using h1,h2,?_⟩;rw[h3,eH,if_neg (Ne.symm d)]
theorem ref_round{st:List (Nat×Kd)}{c:Array Tmp}{fr:Fr}{a:Act}(i:Ref nt ds fr a)(m:KFU nt st c.toList=true)(s:KBF st):
  (zQ st s).toArray.size=c.size/\Ref nt [] (setSt st s fr) {tmps:=(c.zip (zQ st s).toArray).foldl (λt (p,v)=>t.setIfInBounds p v) a.tmps,defers:=[]}:=by
 simp only[KFU,dM,beq_iff_eq]at m;obtain⟨⟨g,j⟩,u⟩:=m;have j:=KCW j;have y:c.size=st.length:=by rw[<- bT,<- g,aQ]
 have d:=KCS st s
 have e:(c.zip (zQ st s).toArray).toList=(st.map (·.1)).zip (zQ st s):=by
  rw[Array.toList_zip,g]
 have n:(c.zip (zQ st s).toArray).foldl (λt (p,v)=>t.setIfInBounds p v) a.tmps=((st.map (·.1)).zip (zQ st s)).foldl (λt p=>t.setIfInBounds p.1 p.2) a.tmps:=by
  rw[<- o9,e]
 have o:((st.map (·.1)).zip (zQ st s)).map (·.1)=st.map (·.1):=List.map_fst_zip (by simp[d]);refine⟨by simp[d,y],?_,rfl,?_⟩
 ·show(_:Array Value).size=nt;rw[n]
  have:∀(l:List (Nat×Value))(h:Array Value),(l.foldl (λt p=>t.setIfInBounds p.1 p.2) h).size=h.size:=by
   intro l
   induction l with
   |nil=>intro h;rfl
   |cons x r z=>intro h;rw[dP,z];simp
  rw[this];exact i.size
 intro t v q;rw[n];rw[KCv]at q
 rcases KDh _ a.tmps t v fr (by rw[o,g];exact j) (λk f=>by
  rw[o,g]at f;have:=fQ.1 u k f;rw[i.size];exact fM (lM _) (jy this)) q with h4|⟨_,h5,h6⟩
 ·exact h4
 rw[h6];exact i.val t v h5
theorem V_sound(hN:KBH P)(an:An):∀(c:Code)(rd:oN)(n:Nat)(ds:List Deferred)(fr:Fr)(ms:Nq)(w:Wq)(Q:Exit->Fr->Nq->Wq->Prop)(QA:Exit->Act->Wq->Prop)(a:Act),
  V P an nt c fr ms w Q->Ref nt (mkM ms ds) fr a->(rd≠none->KAy c=true)->(∀e fr' ms' w' a',Q e fr' ms' w'->Ref nt (mkM ms' ds) fr' a'->Keep (KAQ c) fr fr'->(KAy c=true->ms'=ms)->QA e a' w')->c.wpIn (W rd) n P QA a w:=by
 intro c
 induction c with
 |skip=>exact λrd n ds fr ms w Q QA a h hr hrd hq=>wpIn_skip (hq _ _ _ _ _ h hr (Keep.refl _ _) λ_=>rfl)
 |region id ops draw=>
  intro rd n ds fr ms w Q QA a h hr hrd hq;simp only[V]at h;split at h
  ·exact wpIn_region (by
    have:=KDf (rd:=rd) (n:=n) hN (λfr w a h hr=>hq _ _ _ _ _ h.1 hr h.2 λ_=>rfl) _ _ _ _ a (KCI _ _ _ _ h λ_ _ h hk=>And.intro h hk) hr;simpa using this)
  split at h
  ·rename_i hok;refine wpIn_region_draw λt=>?_
   have h2:KAX (KET (an.wraps.contains id) P nt ops (λfr' w'=>∀a',Ref nt (mkM ms ds) fr' a'->QA .normal a' w') fr w.drew) (KAv (closure [] ops.toList) (yU P ops.toList 0).length (yU P ops.toList 0)):=
    KBV (λeo h=>oneV_mono (λcl σ h=>KCI _ _ _ _ h λfr' w' h hk a' hr'=>hq _ _ _ _ _ h hr' hk λ_=>rfl) h) h
   exact draw_upon hN (λf f' w hf h a' hr'=>h a' ⟨hr'.size,hr'.defers,λt v ht=>hr'.val t v (by rw[<- hf t];exact ht)⟩)
    (λfr w a h hr=>h a hr) hok h2 hr _ t
  exact h.elim
 |seq x y ihx ihy=>
  intro rd n ds fr ms w Q QA a h hr hrd hq;have hrx:rd≠none->KAy x=true:=λh=>(and_true (hrd h)).1;have hry:rd≠none->KAy y=true:=λh=>(and_true (hrd h)).2;have hma:∀t∈KAQ x,t∈KAQ (.seq x y):=λt ht=>aS _ ht;have hmb:∀t∈KAQ y,t∈KAQ (.seq x y):=λt ht=>aI _ ht;simp only[V]at h;split at h
  ·rename_i st hf;split at h
   ·rename_i hst;obtain⟨hst,hrf⟩:=and_true hst;obtain⟨h⟩:=h;refine wpIn_seq (ihx _ _ _ _ _ _ _ _ _ h hr hrx λe fr' ms' w' a' hh hr' hk hms=>?_);obtain rfl:=hms hrf;cases e with
    |normal=>
     obtain⟨s,h3,hr3⟩:=KBZ hst hr' hk hh;exact ihy _ _ _ _ _ _ _ _ _ h3 hr3 hry λe fr'' ms'' w'' a'' h hr hk' hms'=>hq _ _ _ _ _ h hr (Keep.trans ((KAo hst s fr).more hma) (hk'.more hmb)) λhh=>hms' (and_true hh).2
    |_=>exact hq _ _ _ _ _ hh hr' (hk.more hma) λ_=>rfl
   exact h.elim
  refine wpIn_seq (ihx _ _ _ _ _ _ _ _ _ h hr hrx λe fr' ms' w' a' hh hr' hk hms=>?_);cases e with
  |normal=>exact ihy _ _ _ _ _ _ _ _ _ hh hr' hry λe fr'' ms'' w'' a'' h hr hk' hms'=>hq _ _ _ _ _ h hr (Keep.trans (hk.more hma) (hk'.more hmb)) λhh=>(hms' (and_true hh).2).trans (hms (and_true hh).1)
  |_=>exact hq _ _ _ _ _ hh hr' (hk.more hma) λhh=>hms (and_true hh).1
 |cond c x y ihx ihy=>
  intro rd n ds fr ms w Q QA a h hr hrd hq;simp only[V]at h;split at h
  ·rename_i b hb;cases b with
   |true=>exact wpIn_cond_true (hr.ev hb) (ihx _ _ _ _ _ _ _ _ _ h hr (λh=>(and_true (hrd h)).1) λe fr' ms' w' a' h hr hk hms=>hq _ _ _ _ _ h hr (hk.more λt ht=>aS _ ht) λhh=>hms (and_true hh).1)
   |false=>exact wpIn_cond_false (hr.ev hb) (ihy _ _ _ _ _ _ _ _ _ h hr (λh=>(and_true (hrd h)).2) λe fr' ms' w' a' h hr hk hms=>hq _ _ _ _ _ h hr (hk.more λt ht=>aI _ ht) λhh=>hms (and_true hh).2)
  exact h.elim
 |block id c ih=>
  intro rd n ds fr ms w Q QA a h hr hrd hq;simp only[V]at h;refine wpIn_block (ih _ _ _ _ _ _ _ _ _ h hr hrd λe fr' ms' w' a' hh hr' hk hms=>?_);cases e with
  |exit id'=>
   simp only at hh;simp only[Exit.inBlock];split at hh
   ·rename_i hb;rw[if_pos (df hb)];exact hq _ _ _ _ _ hh hr' hk hms
   rename_i hb;rw[if_neg (λe=>by subst e;simp at hb)];exact hq _ _ _ _ _ hh hr' hk hms
  |_=>exact hq _ _ _ _ _ hh hr' hk hms
 |loop c ih=>
  intro rd n ds fr ms w Q QA a h hr hrd hq;simp only[V]at h;split at h
  ·rename_i st hf;split at h
   ·rename_i hst;split at h
    ·rename_i hrf;obtain⟨s0,⟨⟨I,⟨m0,h0⟩,hround⟩⟩,hr0⟩:=KBZ hst hr (Keep.refl (KAQ c) fr) h;refine KBy (λm a w=>∃s,I m s w/\Ref nt (mkM ms ds) (setSt st s (KAh (KAQ c) fr)) a) ⟨m0,s0,h0,hr0⟩ λm a w hI=>?_;obtain⟨s,hI,hra⟩:=hI;refine ih _ _ _ _ _ _ _ _ _ (hround m s w hI) hra (λ_=>hrf) λe fr' ms' w' a' hh hr' hk hms=>?_;obtain rfl:=hms hrf;cases e with
     |normal=>
      obtain⟨s',⟨m',hlt,hI'⟩,hr3⟩:=KBZ hst hr' (Keep.trans (KAo hst s fr) hk) hh;exact⟨m',hlt,s',hI',hr3⟩
     |_=>exact hq _ _ _ _ _ hh hr' (Keep.trans (KAo hst s fr) hk) λ_=>rfl
    rename_i hrf;obtain⟨s0,⟨⟨I,⟨m0,h0⟩,hround⟩⟩,hr0⟩:=KBZ hst hr (Keep.refl (KAQ c) fr) h;refine KBy (λm a w=>∃s:KBF st×Nq,I m s w/\Ref nt (mkM s.2 ds) (setSt st s.1 (KAh (KAQ c) fr)) a) ⟨m0,(s0,ms),h0,hr0⟩ λm a w hI=>?_;obtain⟨s,hI,hra⟩:=hI;have hrf:¬KAy c=true:=by simp[hrf]
    refine ih _ _ _ _ _ _ _ _ _ (hround m s w hI) hra (λhn=>absurd (hrd hn) hrf) λe fr' ms' w' a' hh hr' hk hms=>?_;cases e with
    |normal=>
     obtain⟨s',⟨m',hlt,hI'⟩,hr3⟩:=KBZ hst hr' (Keep.trans (KAo hst s.1 fr) hk) hh;exact⟨m',hlt,(s',ms'),hI',hr3⟩
    |_=>exact hq _ _ _ _ _ hh hr' (Keep.trans (KAo hst s.1 fr) hk) λhh=>absurd hh hrf
   exact h.elim
  exact h.elim
 |exit id=>exact λrd n ds fr ms w Q QA a h hr hrd hq=>wpIn_exit (hq _ _ _ _ _ h hr (Keep.refl _ _) λ_=>rfl)
 |scope c ih=>
  intro rd n ds fr ms w Q QA a h hr hrd hq;simp only[V]at h;refine wpIn_scope (ih _ _ _ _ _ _ _ _ _ h hr hrd λe fr' ms' w' a' hh hr' hk hms=>?_);cases e with
  |goto l=>exact hh
  |_=>exact hq _ _ _ _ _ hh hr' hk hms
 |label l=>exact λrd n ds fr ms w Q QA a h hr hrd hq=>wpIn_label (hq _ _ _ _ _ h hr (Keep.refl _ _) λ_=>rfl)
 |ret=>exact λrd n ds fr ms w Q QA a h hr hrd hq=>wpIn_ret (hq _ _ _ _ _ h hr (Keep.refl _ _) λ_=>rfl)
 |goto l=>exact λrd n ds fr ms w Q QA a h hr hrd hq=>h.elim
 |refuse s=>exact λrd n ds fr ms w Q QA a h hr hrd hq=>h.elim
 |rangeFunc g ps assign body iha ihb=>
  intro rd n ds fr ms w Q QA a h hr hrd hq;have hno:rd=none:=az λhh=>by have:=hrd hh;cases this
  subst hno;simp only[V]at h;split at h
  ·rename_i st hf;split at h
   ·rename_i hst;obtain⟨hps,hrfs⟩:=and_true hst;obtain⟨hrfa,hrfb⟩:=and_true hrfs;split at h
    ·rename_i v hg;obtain⟨gf,fi,ca,rfl,⟨fn,cd,hfn,hcd⟩,h⟩:=h;refine wpIn_rangeFunc ?_;intro f0 hf0;obtain⟨rec,hrec⟩:∃rec:LoopState->Option Code->Obj,rec=λst pe=>.loop {state:=st,pending:=pe,fn:=f0,tmps:=a.tmps,params:=ps,assign,body,defers:=w.heap.size}:=⟨_,rfl⟩
     have hrun:=(h.run w.heap.size (w.heap.size+1) _ ((w.alloc (.deferred (some []))).alloc (rec .ready none)) rec ⟨rfl,rfl⟩ ⟨by simp,rfl⟩ (by
      intro s w' R hround hready;obtain⟨hsz,href⟩:=ref_round hr hps s;show KEc P (w.heap.size+1) (zQ st s) w' R;refine⟨λrd' n'=>?_⟩;rw[hrec]at hready;refine⟨f0,_,assign,body,run_yield (P:=P) hready hsz,roundIn_of_wpIn (W_fn _ _) ?_⟩;refine iha (some (w.heap.size+1)) n' [] _ _ _ _ _ _ hround href (λ_=>hrfa) λe fr1 ms1 w1 a1 hh hr1 _ hms=>?_;obtain rfl:=hms hrfa;cases e with
      |normal=>
       obtain⟨h1,h2⟩:=hh;rw[hrec]at h1;refine⟨_,run_beginRound (P:=P) h1 rfl,?_⟩;refine ihb (some (w.heap.size+1)) n' [] _ _ _ _ _ _ (by rw[hrec]at h2;exact h2) hr1 (λ_=>hrfb) λe fr2 ms2 w2 a2 hh hr2 _ _=>?_;cases e with
       |normal=>exact⟨_,_,run_endRound (P:=P) none hh.1,hh.2⟩
       |ret=>exact⟨_,_,run_endRound (P:=P) (some .ret) hh.1,hh.2⟩
       |exit id=>exact⟨_,_,run_endRound (P:=P) (some (.exit id)) hh.1,hh.2⟩
       |_=>exact hh.elim
      |_=>exact hh.elim)).run
     have h1:=KDT (args:=(fi.toList++[Value.func (.yield (w.heap.size+1)) #[] #[]]++ca.toList).toArray) (w:=(w.alloc (.deferred (some []))).alloc (rec .ready none)) hN hfn hcd
     have ea:fi++ #[Value.func (.yield (w.heap.size+1)) #[] #[]]++ca=(fi.toList++[Value.func (.yield (w.heap.size+1)) #[] #[]]++ca.toList).toArray:=by
      apply iF.1;simp
     refine⟨w.heap.size+1,[{target:=.collected w.heap.size,args:= #[]}],(w.alloc (.deferred (some []))).alloc (rec .ready none),{target:=.fn (.func gf) ca,args:=fi++ #[Value.func (.yield (w.heap.size+1)) #[] #[]]},(w.alloc (.deferred (some []))).alloc (rec .ready none),gf,_,(w.alloc (.deferred (some []))).alloc (rec .ready none),?_,?_,λf' _=>W_fn _ _,?_,λhd=>by simp[KCy]at hd,(KCr hrun).mono ?_⟩
     ·rw[hrec];exact run_enterLoop_outer (P:=P) _ _ _ _ _
     ·simp only[resolve,hr.ev hg];simp[go_sem]
     ·simp only[invoke,ea,h1]
     rintro e w3 ⟨v,rfl,hh⟩;have href:Ref nt (mkM (w.heap.size::ms) ds) fr {a with defers:=[{target:=.collected w.heap.size,args:= #[]}]++a.defers}:=⟨hr.size,by show _++a.defers=_;rw[hr.defers];rfl,hr.val⟩;rw[hrec]at hh;rcases hh with⟨g1,g2⟩|⟨g1,g2⟩|⟨id,g1,g2⟩
     ·exact⟨none,_,run_endLoop (P:=P) g1 (by simp),hq _ _ _ _ _ g2 href (Keep.refl _ _) λhh=>by cases hh⟩
     ·split at g2
      ·exact⟨some .ret,_,run_endLoop (P:=P) g1 (by simp),wpIn_ret (hq _ _ _ _ _ g2 href (Keep.refl _ _) λhh=>by cases hh)⟩
      exact g2.elim
     split at g2
     ·exact⟨some (.exit id),_,run_endLoop (P:=P) g1 (by simp),wpIn_exit (hq _ _ _ _ _ g2 href (Keep.refl _ _) λhh=>by cases hh)⟩
     exact g2.elim
    exact h.elim
   exact h.elim
  exact h.elim
theorem res_one{fr:Fr}{w:Wq}{a:Act}(e:Ref nt ds fr a):∀{f:List ResultVar}{K:LV->Prop},resV P fr w f K->
  ∃l,K l/\l.length=f.length/\(f.mapM (m:=Sem) λ
   |.tmp t=>pure (a.tmps.getD t undef)
   |.cell x t=>do loadVar t (<- asAddr (a.tmps.getD x undef))).run P w=.ok l w
 | [],K,h=>⟨[],h,rfl,rfl⟩
 |.tmp t::r,K,h=>by
  simp only[resV]at h;obtain⟨v,o,h⟩:=xX h;obtain⟨l,h,g,c⟩:=res_one e h;refine⟨v::l,h,by simp[g],?_⟩;have i:=e.val t v o;simp only[oM,Sem.run_bind,Sem.run_pure,Result.andThen_ok,c];simp[fP,i]
 |.cell x t::r,K,h=>by
  simp only[resV]at h;split at h
  ·rename_i p q;obtain⟨s,rfl,u⟩:=zu h;obtain⟨v,⟨j,y⟩,-⟩:=KCH u;obtain⟨l,h,g,c⟩:=res_one e y;refine⟨v::l,h,by simp[g],?_⟩;have n:=e.val x _ q;have d:(loadVar t s).run P w=.ok v w:=j
   have z:(do loadVar t (<- asAddr (a.tmps.getD x undef)):Sem Value).run P w=.ok v w:=by
    simp[fP,n,asAddr,d]
   rw[oM,Sem.run_bind];simp only[z,Result.andThen_ok,Sem.run_bind,c,Sem.run_pure]
  exact h.elim
theorem ret_post{fn:Func}{fr:Fr}{w:Wq}{a:Act}{ds:List Deferred}{R:EW}(d:Ref nt ds fr a)(h:KFH P fn fr w R):∃v,(results fn a.tmps).run P w=.ok v w/\R (Ej v) w:=by
 obtain⟨l,h,f,c⟩:=res_one d h
 have e:(fn.results.mapM (m:=Sem) λ
   |.tmp t=>pure (a.tmps.getD t undef)
   |.cell x t=>do loadVar t (<- asAddr (a.tmps.getD x undef))).run P w=.ok l.toArray w:=by
  rw[mi];simp only[Sem.run_map,c,Result.andThen_ok]
 unfold results;rw[Sem.run_bind];refine⟨_,(congrArg (λr=>Result.andThen r _) e).trans rfl,?_⟩
 match l,h with
 | [v],h=>exact h
 | [],h=>exact h
 |_::_::_,h=>
  simp only[dV,aK];rw[dif_neg om];exact h
theorem KBk{F:Fence}{n:Nat}{fn:Func}{fr:Fr}{R:EW}{a:Act}{ds:List Deferred}(f:Ref nt ds fr a):∀(c:Nq)(w:Wq),KDd P fn fr c w R->LeavesInM F n P fn a.tmps R (mkM c []) .returning w
 | [],w,h=>by
  obtain⟨v,d,e⟩:=ret_post f h;exact⟨v,d,e⟩
 |D::c,w,h=>by
  obtain⟨g,⟨d,rfl⟩,e⟩:=h;exact⟨by simp,.inl ⟨D,_,rfl,run_takeDeferred d,KBk f c _ e⟩⟩
theorem KCm{fn:Func}{fr:Fr}{R:EW}{w1:Wq}(d:KFH P fn fr w1 R):∀(c:Nq)(w:Wq),KAD c w w1->KDd P fn fr c w R
 | [],w,h=>by
  have h:w1=w:=h;subst h;exact d
 |D::c,w,h=>by
  obtain⟨e,f,g⟩:=h;exact⟨e,f,KCm d c e g⟩
def KCp{fn:Func}{c:Code}{fr:Fr}{d:Nq}{w:Wq}{R:EW}(h:KEy P fn c fr d w R):KDd P fn fr d w R:=by
 unfold KEy at h;split at h
 ·exact h
 obtain⟨g,e,f⟩:=h;exact KCm f d w e
theorem KCn:∀(l:LV)(i t:Nat)(v:Value),yw (KCo i l) t=some v->∃j,t=i+j/\l[j]? =some v
 | [],i,t,v,h=>by simp[KCo,fget_nil]at h
 |x::r,i,t,v,h=>by
  simp only[KCo]at h;by_cases c:t=i
  ·subst c;rw[yh]at h;exact⟨0,rfl,by simpa using h⟩
  rw[yB _ _ _ _ c]at h;obtain⟨j,rfl,d⟩:=KCn r (i+1) t v h;exact⟨j+1,om,by simpa using d⟩
def ref_args{fn:Func}{args:LV}(d:decide (args.length<=fn.ntmps)=true):
  Ref fn.ntmps [] (KCo 0 args) {tmps:=args.toArray++Array.replicate (fn.ntmps-args.toArray.size) undef,defers:=[]}:=by
 have d:=of_decide_eq_true d;refine⟨by simp;omega,rfl,λt v h=>?_⟩;obtain⟨j,rfl,e⟩:=KCn args 0 t v h;have c:j<args.length:=(aA.1 e).1;simp;rw[iY (by simpa using c)];simpa using e
theorem calls_of_bodyV(l:KBH P){i:An}{f:FuncId}{fn:Func}{args:LV}{w:Wq}{R:EW}(m:P.funcs[f]? =some fn)(o:decide (args.length<=fn.ntmps)=true)
  (h:KEZ P i fn args w R):Calls P f args.toArray w R:=by
 simp only[KEZ]at h;split at h
 ·exact h.elim
 rename_i c p;refine(callsIn_wide (n:=0)).1 (callsIn_of_wp_marks m p trivial ?_ rfl);refine V_sound l i c none 0 [] _ _ _ _ _ _ h (ref_args o) (λh=>absurd rfl h) λe q r s j g d _ _=>?_;cases e with
 |normal=>
  show LeavesInM _ _ _ _ _ _ j.defers _ _;rw[d.defers];exact KBk d _ _ (KCp g)
 |ret=>
  show LeavesInM _ _ _ _ _ _ j.defers _ _;rw[d.defers];exact KBk d _ _ (KCp g)
 |_=>exact g.elim
end
theorem Du{b:Bool}{x y:Prop}(a:b=true->x)(c:b=false->y):br b x y:=by
 cases b with
 |true=>exact a rfl
 |false=>exact c rfl
def AB{p:Prop}[Decidable p]{x y:Prop}(a:p->x)(b:¬p->y):br (decide p) x y:=
 Du (λh=>a (of_decide_eq_true h)) (λh=>b (of_decide_eq_false h))
theorem Es{b:Bool}{x y:Prop}(a:b=false->x)(c:b=true->y):br (!b) x y:=by
 cases b with
 |true=>exact c rfl
 |false=>exact a rfl
def AQ{p:Prop}[Decidable p]{x y:Prop}(a:¬p->x)(b:p->y):br (!decide p) x y:=
 Es (λh=>a (of_decide_eq_false h)) (λh=>b (of_decide_eq_true h))
def Cc{x y:Prop}(h:x):br true x y:=h
def Au{x y:Prop}(h:y):br false x y:=h
def AA{p:OA}{a:Addr}{k:Addr->Prop}(h:p=some a)(b:k a):onP p k:=by subst h;exact b
def xI.mk{St:Type}{a:St->Wq->(St->Wq->Prop)->Prop}{s:St}{w:Wq}(I:Nat->St->Wq->Prop)(n:Nat)(e:I n s w)
  (h:∀n s w next,I n s w->(∀m b w',m<n->I m b w'->next b w')->a s w next):xI a s w:=
 ⟨⟨I,⟨n,e⟩,λn s w f=>h n s w _ f λm b w' c d=>⟨m,c,d⟩⟩⟩
def xM.mk{St:Type}{R:St->Wq->Prop}{X:(St->Wq->Prop)->Prop}(J:St->Wq->Prop)(b:∀s w,J s w->R s w)(c:∀a:St->Wq->Prop,(∀s w,J s w->a s w)->X a):xM R X:=
 ⟨c R b⟩
def AC{P:Program}{f:FuncId}{args:LV}{w:Wq}{R a:EW}(h:Calls P f args.toArray w R)(b:∀e w',R e w'->a e w'):xk P f args w a:=
 ⟨Calls.mono h b⟩
def DT{z:Int}:inR .i64 z↔ -9223372036854775808<=z/\z<=9223372036854775807:=by
 simp[inR,IntKind.min,IntKind.max,IntKind.signed,IntKind.bits]
abbrev gB(z:Int):=inR .i64 z
def iR{z:Int}(h:-9223372036854775808<=z/\z<=9223372036854775807:=by omega):inR .i64 z:=DT.2 h
def Ig{z:Int}(h: -9223372036854775808<=z/\z<=9223372036854775807):IntKind.i64.wrap z=z:=KAs (DT.2 h)
def Chg(S:Nq)(w w':Wq):Prop:=
 w'.os=w.os/\w'.tape=w.tape/\w'.output=w.output/\w.heap.size<=w'.heap.size/\∀k,k<w.heap.size->k∉S->w'.heap[k]? =w.heap[k]?
def Chg.refl(S:Nq)(w:Wq):Chg S w w:=⟨rfl,rfl,rfl,aZ _,λ_ _ _=>rfl⟩
def Chg.size{S:Nq}{w w':Wq}(h:Chg S w w'):w.heap.size<=w'.heap.size:=h.2.2.2.1
def Chg.trans{S T U:Nq}{a b c:Wq}(h:Chg S a b)(d:Chg T b c)(i:∀k∈S,k∈U)(j:∀k∈T,k∈U\/a.heap.size<=k):Chg U a c:=by
 refine⟨d.1.trans h.1,d.2.1.trans h.2.1,d.2.2.1.trans h.2.2.1,fJ h.size d.size,λk e f=>?_⟩;have l:=h.2.2.2.2 k e (λm=>f (i k m))
 have n:=d.2.2.2.2 k (fM e h.size) (λo=>by
  rcases j k o with g|g
  ·exact f g
  omega)
 exact n.trans l
def Chg.more{S T:Nq}{a b:Wq}(h:Chg S a b)(c:∀k∈S,k∈T):Chg T a b:=⟨h.1,h.2.1,h.2.2.1,h.size,λk d e=>h.2.2.2.2 k d λf=>e (c k f)⟩
def Chg.block{S:Nq}{w w':Wq}(h:Chg S w w'){k:Nat}{o:Obj}(a:w.heap[k]? =some o)(b:k∉S):w'.heap[k]? =some o:=by
 rw[h.2.2.2.2 k (bK.1 a).1 b];exact a
def Chg.cell{S:Nq}{w w':Wq}(h:Chg S w w'){a:Addr}{v:Value}(c:w.cell? a=some v)(d:a.block∉S):w'.cell? a=some v:=by
 have b:=World.block_lt_of_cell? w a c;rw[World.cell?_of_block (h.2.2.2.2 _ b d)];exact c
def alloc_old(w:Wq)(o:Obj)(k:Nat)(h:k<w.heap.size):(w.alloc o).heap[k]? =w.heap[k]? :=by
 show(w.heap.push o)[k]? =_;rw[mG,if_neg om]
def Ii(w:Wq)(o:Obj):(w.alloc o).heap[w.heap.size]? =some o:=by
 show(w.heap.push o)[w.heap.size]? =_;simp
def New.chg{w w1:Wq}{o:Obj}{b:Nat}(h:New w o b w1):Chg [] w w1:=by
 obtain⟨rfl,rfl⟩:=h;exact⟨rfl,rfl,rfl,by simp,λk a _=>alloc_old w o k a⟩
def New.blk{w w1:Wq}{o:Obj}{b:Nat}(h:New w o b w1):w1.heap[b]? =some o:=by
 obtain⟨rfl,rfl⟩:=h;exact Ii w o
def Blk(w:Wq)(b:Nat)(cs:LV)(T:TypeId):Prop:=w.heap[b]? =some (.cells cs.toArray T (0,0))
def New.cells{w w1:Wq}{cs:LV}{T:TypeId}{b:Nat}(h:New w (.cells cs.toArray T) b w1):Blk w1 b cs T:=h.blk
def Blk.chg{w w':Wq}{b:Nat}{cs:LV}{T:TypeId}{S:Nq}(h:Blk w b cs T)(a:Chg S w w')(c:b∉S):Blk w' b cs T:=a.block h c
def Blk.lt{w:Wq}{b:Nat}{cs:LV}{T:TypeId}(h:Blk w b cs T):b<w.heap.size:=(bK.1 h).1
def Blk.cell{w:Wq}{b:Nat}{cs:LV}{T:TypeId}(h:Blk w b cs T){o:Nat}{v:Value}(a:cs[o]? =some v):w.cell? ⟨b,o,none⟩=some v:=by
 have c:w.heap[b]? =some (.cells cs.toArray T (0,0)):=h;simp[World.cell?,c,a]
def KAw(P:Program)(t:TypeId):Option Bool:=match P.underlying t with
 |some (.struct _)|some (.array _ _)=>some true
 |some _=>some false
 |none=>none
theorem Ih{P:Program}{t:TypeId}{b:Bool}(h:KAw P t=some b)(w:Wq):(isAgg t).run P w=.ok b w:=by
 unfold KAw at h;cases hu:P.underlying t with
 |none=>rw[hu]at h;cases h
 |some d=>
  rw[hu]at h;simp only[isAgg,Sem.run_bind,xQ hu,Result.andThen_ok];cases d<;>cases h<;>rfl
def PD{P:Program}{t:TypeId}{w:Wq}{a:Addr}{v:Value}(b:KAw P t=some false)(h:w.cell? a=some v):Ld P t w a v:=by
 simp only[Ld,loadVar,Sem.run_bind,Ih b,Result.andThen_ok,jM,if_false,run_load,h]
def Xt{P:Program}{t:TypeId}{w:Wq}{a:Addr}{vs:LV}(b:KAw P t=some true)(c:yj P t=some vs.length)(h:∀j v,vs[j]? =some v->w.cell? (a.add j)=some v):Ld P t w a (.agg vs.toArray):=by
 simp only[Ld,loadVar,Sem.run_bind,Ih b,Result.andThen_ok,if_true,yI c,Sem.run_map,Sem.run_bind,run_loadCells_list w a vs h,Sem.run_pure]
def Blk.ld{P:Program}{t:TypeId}{w:Wq}{b:Nat}{cs:LV}{T:TypeId}(h:Blk w b cs T){o:Nat}{v:Value}(a:KAw P t=some false)(c:cs[o]? =some v):Ld P t w ⟨b,o,none⟩ v:=
 PD a (h.cell c)
def add_lit(b o j:Nat):(⟨b,o,none⟩:Addr).add j=⟨b,o+j,none⟩:=by
 unfold Addr.add;split<;>simp_all
def Blk.ldA{P:Program}{t:TypeId}{w:Wq}{b:Nat}{cs:LV}{T:TypeId}(h:Blk w b cs T){o:Nat}{vs:LV}(c:KAw P t=some true)(d:yj P t=some vs.length)
  (e:(cs.drop o).take vs.length=vs):Ld P t w ⟨b,o,none⟩ (.agg vs.toArray):=by
 refine Xt c d λj v a=>?_;rw[add_lit];refine h.cell ?_;rw[<- e]at a;rw[fO]at a;split at a
 ·simpa using a
 cases a
def setB(w:Wq)(b:Nat)(o:Obj):Wq:= {w with heap:=w.heap.setIfInBounds b o}
def EC(w:Wq)(b:Nat)(o:Obj):Chg [b] w (setB w b o):=
 ⟨rfl,rfl,rfl,by simp[setB],λk c a=>by
  simp only[setB,eH];rw[if_neg (by simpa using Ne.symm (by simpa using a))]⟩
def D7{w:Wq}{b:Nat}{o:Obj}(h:b<w.heap.size):(setB w b o).heap[b]? =some o:=by
 simp[setB,h]
def IW{w:Wq}{b:Nat}{cs:LV}{T:TypeId}{fz:Nat×Nat}(h:w.heap[b]? =some (.cells cs.toArray T fz))(o:Nat)(v:Value):
  w.setCell ⟨b,o,none⟩ v=setB w b (.cells (cs.set o v).toArray T fz):=by
 simp only[World.setCell,setB];congr 1;apply jm;intro k;rw[eQ,eH];split
 ·rename_i a;subst a;rw[if_pos (bK.1 h).1,h];simp
 rfl
def KD(w:Wq)(b:Nat)(o o':Obj):setB (setB w b o) b o'=setB w b o':=by
 simp only[setB];congr 1;apply jm;intro k;simp only[eH];split
 ·simp
 rfl
theorem Cm{P:Program}{b:Nat}{T:TypeId}{fz:Nat×Nat}:∀(vs:LV)(w:Wq)(cs:LV)(a:Addr)(o i:Nat),a.add i=⟨b,o,none⟩->(∀j,a.add (i+j)=⟨b,o+j,none⟩)->
  w.heap[b]? =some (.cells cs.toArray T fz)->o+vs.length<=cs.length->(∀k,o<=k->k<o+vs.length->(decide (fz.1<=k)&&decide (k<fz.2))=false)->(∀u∈vs,u.oneCell'=true)->
  (storeCells a vs i).run P w=.ok () (if vs=[]then w else setB w b (.cells (over vs o cs).toArray T fz))
 | [],w,cs,a,o,i,ha,haj,hb,hl,hf,h1=>by simp[storeCells]
 |v::r,w,cs,a,o,i,ha,haj,hb,hl,hf,h1=>by
  simp only[aK]at hl hf;simp only[storeCells,Sem.run_bind];have d:o<cs.length:=om;have c:w.cell? ⟨b,o,none⟩=some cs[o]:=by simp[World.cell?,hb,d]
  have e:w.frozen? ⟨b,o,none⟩=false:=by
   have:=hf o (aZ _) om;obtain⟨p,q⟩:=fz;simpa [World.frozen?,hb]using this
  have f:(store (a.add i) v).run P w=.ok () (w.setCell ⟨b,o,none⟩ v):=by
   rw[ha,run_store P w _ v _ (h1 v (fK ..))];simp[c,e]
  rw[f];simp only[Result.andThen_ok]
  have g:(w.setCell ⟨b,o,none⟩ v).heap[b]? =some (.cells (cs.set o v).toArray T fz):=by
   rw[IW hb];exact D7 (bK.1 hb).1
  rw[Cm r _ (cs.set o v) a (o+1) (i+1) (haj 1) (λj=>by rw[show i+1+j=i+(1+j) by omega,haj,show o+(1+j)=o+1+j by omega]) g (by simp;omega) (λk h l=>hf k om om) (λu m=>h1 u (jW _ m))];rw[IW hb,if_neg (List.cons_ne_nil _ _),yf v r o cs d];split
  ·rename_i n;subst n;simp[yQ]
  rw[KD]
def Blk.st{P:Program}{t:TypeId}{w:Wq}{b:Nat}{cs:LV}{T:TypeId}(h:Blk w b cs T){o:Nat}{v:Value}(c:yj P t=some v.cells.size)(d:v.cells.toList.all (·.oneCell')=true)(f:o+v.cells.size<=cs.length):
  ∃w1,St P t w ⟨b,o,none⟩ v w1/\Blk w1 b (over v.cells.toList o cs) T/\Chg [b] w w1:=by
 have a:=Cm (P:=P) (fz:=(0,0)) v.cells.toList w cs ⟨b,o,none⟩ o 0 rfl (λj=>by simp[add_lit]) h (by simpa using f) (λk _ _=>by simp) (λu g=>fQ.1 d u g)
 have e:(storeVar t ⟨b,o,none⟩ v).run P w=(storeCells ⟨b,o,none⟩ v.cells.toList).run P w:=by
  simp only[storeVar,Sem.run_bind,yI c,Result.andThen_ok];rw[if_neg (by simp)]
 refine⟨_,e.trans a,?_,?_⟩
 ·split
  ·rename_i i;rw[i,yQ];exact h
  exact D7 h.lt
 split
 ·exact Chg.refl _ _
 exact EC _ _ _
def KBc(fz:Nat×Nat)(n:Nat):Prop:=∀k,k<n->(decide (fz.1<=k)&&decide (k<fz.2))=false
def KBc.zero(n:Nat):KBc (0,0) n:=λk _=>by simp
def KBc.behind(n m:Nat):KBc (n,m) n:=λk a=>by
 have:¬n<=k:=om;simp[this]
def Own(w:Wq)(base:Nat)(e:TypeId)(sz:Nat)(a:OA)(n c:Nat)(xs:LV):Prop:=
 xs.length=n*sz/\((a=none/\n=0/\c=0)\/∃g cur fz,a=some ⟨g,0,none⟩/\base<=g/\w.heap[g]? =some (.cells cur e fz)/\KBc fz cur.size/\n<=c/\c<=maxLen/\c*sz<=cur.size/\cur.toList.take (n*sz)=xs)
def x9(a:OA):Nq:=match a with
 |some a=>[a.block]
 |none=>[]
def Own.nil(w:Wq)(a:Nat)(e:TypeId)(sz:Nat):Own w a e sz none 0 0 []:=⟨by simp,.inl ⟨rfl,rfl,rfl⟩⟩
def Own.le{w:Wq}{b:Nat}{e:TypeId}{sz:Nat}{a:OA}{n c:Nat}{xs:LV}(h:Own w b e sz a n c xs):n<=c/\c<=maxLen:=by
 rcases h.2 with⟨_,rfl,rfl⟩|⟨g,d,_,_,_,_,_,f,i,_⟩
 ·exact⟨aZ _,by simp[maxLen]⟩
 exact⟨f,i⟩
def Own.mem{w:Wq}{b:Nat}{e:TypeId}{sz:Nat}{a:OA}{n c:Nat}{xs:LV}(h:Own w b e sz a n c xs):∀k∈x9 a,b<=k/\k<w.heap.size:=by
 intro k d;rcases h.2 with⟨rfl,_⟩|⟨g,i,m,rfl,j,l,f⟩
 ·simp[x9]at d
 simp[x9]at d;subst d;exact⟨j,(bK.1 l).1⟩
def Own.front{w:Wq}{b:Nat}{e:TypeId}{sz:Nat}{a:OA}{n c F:Nat}{xs:LV}(h:Own w b e sz a n c xs)(f:F<=n):Own w b e sz a F F (xs.take (F*sz)):=by
 have i:F*sz<=n*sz:=dF _ f;refine⟨by rw[aJ,h.1];omega,?_⟩;rcases h.2 with⟨rfl,rfl,rfl⟩|⟨g,d,j,rfl,l,m,o,r,s,p,q⟩
 ·exact .inl ⟨rfl,om,om⟩
 exact .inr ⟨g,d,j,rfl,l,m,o,aZ _,om,fJ (dF _ (by omega:F<=c)) p,by rw[<- q,jE,fE i]⟩
def Cells(w:Wq)(a:OA)(vs:LV):Prop:=∀j v,vs[j]? =some v->∃ad,a=some ad/\w.cell? (ad.add j)=some v
def Own.cells{w:Wq}{b:Nat}{e:TypeId}{sz:Nat}{a:OA}{n c:Nat}{xs:LV}(h:Own w b e sz a n c xs):Cells w a xs:=by
 intro j v d;rcases h.2 with⟨rfl,rfl,rfl⟩|⟨g,f,m,rfl,o,i,p,q,r,s,l⟩
 ·have:xs=[]:=ay (by simpa using h.1);subst this;simp at d
 refine⟨_,rfl,?_⟩;rw[add_lit];rw[<- l,fO]at d;split at d
 ·simp[World.cell?,i];simpa using d
 cases d
def Cells.chg{w w':Wq}{a:OA}{vs:LV}{S:Nq}(h:Cells w a vs)(d:Chg S w w')(e:∀k∈x9 a,k∉S):Cells w' a vs:=by
 intro j v f;obtain⟨c,rfl,b⟩:=h j v f
 exact⟨c,rfl,d.cell b (by
  have:(c.add j).block=c.block:=by unfold Addr.add;split<;>rfl
  rw[this];exact e _ (by simp[x9]))⟩
def Blk.cells{w:Wq}{b:Nat}{cs:LV}{T:TypeId}(h:Blk w b cs T):Cells w (Pq b) cs:=
 λj v a=>⟨_,rfl,by rw[add_lit];simpa using h.cell a⟩
structure Elt(P:Program)(t e:TypeId)(sz by_:Nat):Prop where
 und:P.underlying t=some (.slice e)
 row:∃i z,P.info? e=some i/\i.zero=some z/\i.size=sz/\i.bytes=by_/\z.cells.size=sz
def eltB(P:Program)(t e:TypeId)(sz by_:Nat):Bool:=
 match P.underlying t with
 |some (.slice e')=>Nat.beq e' e&&(match P.info? e with
  |some i=>match i.zero with
   |some z=>Nat.beq i.size sz&&Nat.beq i.bytes by_&&Nat.beq z.cells.size sz
   |none=>false
  |none=>false)
 |_=>false
def DU{P:Program}{t e:TypeId}{sz by_:Nat}(h:eltB P t e sz by_=true):Elt P t e sz by_:=by
 unfold eltB at h;split at h
 ·rename_i g b;simp only[dM]at h;obtain⟨c,a⟩:=h;have:=df c;subst this;refine⟨b,?_⟩;split at a
  ·rename_i i d;split at a
   ·rename_i z f;simp only[dM]at a;exact⟨i,z,d,f,df a.1.1,df a.1.2,df a.2⟩
   cases a
  cases a
 cases h
theorem Ip:∀(l:LV)(o:Nat)(cs:LV),o+l.length<=cs.length->∀k,(over l o cs)[k]? =if o<=k/\k<o+l.length then l[k-o]? else cs[k]?
 | [],o,cs,h,k=>by
  rw[yQ,if_neg];simp only[dK];omega
 |y::r,o,cs,h,k=>by
  simp at h⊢;rw[yf y r o cs om,Ip r (o+1) _ (by simp;omega) k];by_cases b:o=k
  ·subst b;rw[if_neg om,if_pos om];rw[iZ om];simp
  by_cases a:o+1<=k/\k<o+1+r.length
  ·rw[if_pos a,if_pos om,show k-o=(k-(o+1))+1 by omega];simp
  rw[if_neg a,if_neg om,jX];rw[if_neg b]
def Xd(l:LV)(o:Nat)(cs:LV)(h:o+l.length<=cs.length):(over l o cs).take (o+l.length)=cs.take o++l:=by
 apply dN;intro k;rw[fO,Ip l o cs h,gy,fO,aJ,show min o cs.length=o by omega];by_cases a:k<o
 ·rw[if_pos om,if_neg om,if_pos a,if_pos a]
 by_cases b:k<o+l.length
 ·rw[if_pos b,if_pos om,if_neg a]
 rw[if_neg b,if_neg a,bC om]
theorem Jd{b:Nat}{T:TypeId}{fz:Nat×Nat}:∀(vs:LV)(w:Wq)(cs:LV)(o:Nat),w.heap[b]? =some (.cells cs.toArray T fz)->o+vs.length<=cs.length->
  (w.setCells b o vs).heap[b]? =some (.cells (over vs o cs).toArray T fz)/\Chg [b] w (w.setCells b o vs)
 | [],w,cs,o,h,hl=>by simp[World.setCells,yQ,h,Chg.refl]
 |v::r,w,cs,o,h,hl=>by
  simp at hl;simp only[World.setCells];have a:=(bK.1 h).1
  have d:(w.setCell ⟨b,o,none⟩ v).heap[b]? =some (.cells (cs.set o v).toArray T fz):=by
   rw[IW h];exact D7 a
  obtain⟨e,f⟩:=Jd r _ (cs.set o v) (o+1) d (by simp;omega);rw[yf v r o cs om];refine⟨e,?_⟩;have g:Chg [b] w (w.setCell ⟨b,o,none⟩ v):=by rw[IW h];exact EC _ _ _
  exact g.trans f (λk c=>c) (λk c=>.inl c)
def rO{P:Program}{t tx e ty:TypeId}{sz by_:Nat}(T:Elt P t e sz by_)(ab:0<sz){w:Wq}{h:Nat}{a:OA}{n c:Nat}{xs:LV}(l:Own w h e sz a n c xs){x:Value}{m:Nat}{b:LV}
  (r:Src P sz tx x m b w) (C:n+m<=maxLen) (H:(n+m)*by_<=140737488355328) (u:h<=w.heap.size):
  ∃a' c' w1,App P #[t,tx] ty w (.slice a n c) x (.slice a' (n+m) c') w1/\Own w1 h e sz a' (n+m) c' (xs++b)/\Chg (x9 a) w w1/\∀k∈x9 a',k∈x9 a\/w.heap.size<=k:=by
 obtain⟨J,i,z,K,hz,rfl,rfl,L⟩:=T;have G:n+m<=9223372036854775807:=by simp only[maxLen]at C;omega
 have f:(xs++b).length=(n+m)*i.size:=by rw[aF,l.1,r.newsLen,iK]
 have grow:∀(s:(Builtin.firstCells i.size n (.slice a n c)).run P w.drew=.ok xs.toArray w.drew),c<n+m->
   ∃a' c' w1,App P #[t,tx] ty w (.slice a n c) x (.slice a' (n+m) c') w1/\Own w1 h e i.size a' (n+m) c' (xs++b)/\Chg (x9 a) w w1/\∀k∈x9 a',k∈x9 a\/w.heap.size<=k:=by
  intro s B;have M:=run_append_grow_src w t tx ty e i z J K hz a n c xs s x m b r B om (growslice_fits B H);have N:=grownCap_ge w (n+m) c e;have y:grownCap w (n+m) c e<=maxLen:=grownCap_le_maxLen w (n+m) c e C;refine⟨_,_,_,M,⟨f,.inr ⟨w.heap.size,_,_,rfl,u,Ii w.drew _,KBc.zero _,N,y,?_,?_⟩⟩,?_,?_⟩
  ·refine jo (Eq.symm ?_);simp only[kG,dV,size_zeroCells,L,f,<- iK];congr 1;omega
  ·rw[<- f,kR];exact iM rfl
  ·exact⟨rfl,rfl,rfl,by simp,λk q _=>alloc_old w.drew _ k q⟩
  intro k q;simp[x9]at q;subst q;exact .inr (aZ _)
 rcases l.2 with⟨rfl,rfl,rfl⟩|⟨g,d,O,rfl,R,B,hf,ac,y,D,A⟩
 ·have U:xs=[]:=ay (by simpa using l.1);subst U;by_cases hm:m=0
  ·subst hm;have hn:b=[]:=ay (by simpa using r.newsLen);subst hn;refine⟨none,0,w,?_,Own.nil w h e i.size,Chg.refl _ _,by simp[x9]⟩;have hl:=r.len w;have X:=r.cells;rcases r.kind with⟨e',q⟩|q<;>simp[App,Builtin.append_,xQ J,xQ q,sizeOf,typeInfo,K,hl,X]
  exact grow (run_firstCells_none _ _ _ _ _) om
 by_cases o:n+m<=c
 ·have aa:n*i.size+b.length<=d.size:=by rw[r.newsLen,<- iK];exact fJ (dF _ o) D
  have p:∀j,j<b.length->(w.cell? ⟨g,0+n*i.size+j,none⟩).isSome=true:=by
   intro j Y;have:0+n*i.size+j<d.size:=om;simp[World.cell?,B];omega
  have M:=run_append_room_src w t tx ty e i J K g 0 n c x m b r o p (λj Y=>by
   have:=hf (0+n*i.size+j) om;obtain⟨f1,f2⟩:=O;simpa [World.frozen?,B]using this)
  have F:w.heap[g]? =some (.cells d.toList.toArray e O):=by simpa using B
  obtain⟨h3,h4⟩:=Jd b w d.toList (0+n*i.size) F (by simp;omega);refine⟨_,_,_,M,⟨f,.inr ⟨g,_,O,rfl,R,h3,?_,o,y,?_,?_⟩⟩,h4,λk q=>.inl q⟩
  ·intro k q;refine hf k ?_;rw[dV,yT _ _ _ (by rw[show d.toList.length=d.size from bT];omega),bT]at q;exact q
  ·rw[dV,yT _ _ _ (by rw[show d.toList.length=d.size from bT];omega),bT];exact D
  rw[<- f];have:=Xd b (0+n*i.size) d.toList (by rw[show d.toList.length=d.size from bT];omega);rw[show(xs++b).length=0+n*i.size+b.length by rw[f,iK,r.newsLen];omega];simp only[kU];rw[this,cZ,A]
 refine grow ?_ om;refine run_firstCells_some _ _ _ _ _ _ xs l.1 λj v Y=>?_;obtain⟨ad,Z,p⟩:=l.cells j v Y;cases Z;simpa using p
structure KCY(K:Type)[DecidableEq K]where
 kd:TypeDesc
 enc:K->Value
 same:∀a b,Instr.sameNow kd (enc a) (enc b)=some (decide (a=b))
 bits:∀a,Instr.sameBits 10000 (enc a) (enc a)=true
 plain:∀P t empty w,P.underlying t=some kd->∀a,(Instr.checkKey empty (9999+1) t (enc a)).run P w=.ok () w
def XB{P:Program}{t:TypeId}{D:TypeDesc}(h:P.underlying t=some D)(b:(∃k,D=.int k)\/D=.string)(a:Bool)(d:Nat)(w:Wq)(v:Value):(Instr.checkKey a (d+1) t v).run P w=.ok () w:=by
 rcases b with⟨k,rfl⟩|rfl<;>simp only[Instr.checkKey,Sem.run_bind,xQ h,Result.andThen_ok,Sem.run_pure]
def Dn(k:IntKind):KCY Int where
 kd:=.int k
 enc:=.int k
 same:=λa b=>by simp only[Instr.sameNow,if_true];rfl
 bits:=λa=>by simp[Instr.sameBits]
 plain:=λP t empty w h a=>XB h (.inl ⟨k,rfl⟩) empty 9999 w _
def Wi(a b:BA):(a==b)=decide (a=b):=by
 obtain⟨a⟩:=a;obtain⟨b⟩:=b;rw[iD,decide_eq_true_iff,ByteArray.mk.injEq];show(a==b)=true↔a=b;exact beq_iff_eq
def Gu:KCY BA where
 kd:=.string
 enc:=.string
 same:=λa b=>by simp only[Instr.sameNow,Wi]
 bits:=λa=>by simp[Instr.sameBits,Wi]
 plain:=λP t empty w h a=>XB h (.inr rfl) empty 9999 w _
section
variable{K:Type}[DecidableEq K](kt:KCY K)
def xZ(l:List (K×Value))(k:K):Option Value:=match l with
 | []=>none
 |(x,v)::r=>if k=x then some v else xZ r k
def xY(l:List (K×Value))(k:K)(v:Value):List (K×Value):=match l with
 | []=>[(k,v)]
 |(x,u)::r=>if k=x then(x,v)::r else(x,u)::xY r k v
def zx(l:List (K×Value))(k:K):List (K×Value):=match l with
 | []=>[]
 |(x,u)::r=>if k=x then r else(x,u)::zx r k
def Reads(es:List MapEntry)(al:List (K×Value)):Prop:=es.map (λe=>(e.key,e.val))=al.map λp=>(kt.enc p.1,p.2)
def MapAt(w:Wq)(b:Nat)(al:List (K×Value)):Prop:=
 ∃es clock,w.heap[b]? =some (.map es clock)/\Reads kt es.toList al/\(es.toList.map (·.born)).Nodup/\∀e∈es.toList,e.born<clock
variable{kt}
def MapAt.chg{w w':Wq}{b:Nat}{al:List (K×Value)}{S:Nq}(h:MapAt kt w b al)(c:Chg S w w')(d:b∉S):MapAt kt w' b al:=by
 obtain⟨e,a,f,g⟩:=h;exact⟨e,a,c.block f d,g⟩
def MapAt.lt{w:Wq}{b:Nat}{al:List (K×Value)}(h:MapAt kt w b al):b<w.heap.size:=by
 obtain⟨d,a,c,e⟩:=h;exact(bK.1 c).1
def MapAt.new{w w1:Wq}{b:Nat}(h:New w (.map #[] 0) b w1):MapAt kt w1 b []:=⟨#[],0,h.blk,rfl,by simp,by simp⟩
theorem Py:∀{a:List MapEntry}{al:List (K×Value)}(i:Nat)(k:K),Reads kt a al->
  (xZ al k=none/\Instr.findNow kt.kd (kt.enc k) a i=some none)\/
  ∃j v e,xZ al k=some v/\Instr.findNow kt.kd (kt.enc k) a i=some (some (i+j,v))/\a[j]? =some e/\e.key=kt.enc k/\e.val=v/\
   (∀b,Reads kt (a.modify j λe=> {e with key:=kt.enc k,val:=b}) (xY al k b))/\Reads kt (a.eraseIdx j) (zx al k)
 | [],al,i,k,h=>by
  have:al=[]:=by cases al with
   |nil=>rfl
   |cons p r=>simp[Reads]at h
  subst this;exact .inl ⟨rfl,rfl⟩
 |e::a,al,i,k,h=>by
  cases al with
  |nil=>simp[Reads]at h
  |cons p al=>
   obtain⟨x,u⟩:=p;simp only[Reads,aj,List.cons.injEq,Prod.mk.injEq]at h;obtain⟨⟨c,f⟩,h⟩:=h;simp only[Instr.findNow,c,kt.same,xZ,xY,zx];by_cases d:k=x
   ·subst d;right;refine⟨0,u,e,by simp,by simp[f],by simp,c,f,λb=>?_,?_⟩
    ·simp only[if_true,Reads,oG,aj,c];rw[h]
    simp;exact h
   simp only[d,decide_false,if_false];rcases Py (i+1) k h with⟨g,l⟩|⟨j,v,n,g,l,o,q,s,t,m⟩
   ·exact .inl ⟨g,l⟩
   right;refine⟨j+1,v,n,g,by rw[l];congr 3;omega,by simpa using o,q,s,λb=>?_,?_⟩
   ·have:=t b;simp only[Reads,oH,aj,c,f]at this⊢;rw[this]
   simp only[Reads,List.eraseIdx_cons_succ,aj,c,f]at m⊢;rw[m]
theorem reads_push{d:List MapEntry}{al:List (K×Value)}(h:Reads kt d al){k:K}(a:xZ al k=none)(v:Value)(c:Nat):Reads kt (d++[{key:=kt.enc k,val:=v,born:=c}]) (xY al k v):=by
 have:∀(al:List (K×Value)),xZ al k=none->xY al k v=al++[(k,v)]:=by
  intro al
  induction al with
  |nil=>intro _;rfl
  |cons p r e=>
   obtain⟨x,u⟩:=p;intro a;simp only[xZ]at a;split at a
   ·cases a
   rename_i b;simp only[xY,if_neg b,e a,aH]
 rw[this al a];simp only[Reads,ai,aj,jC]at h⊢;rw[h]
def run_findKey{P:Program}{w:Wq}{t:TypeId}{a:List MapEntry}{al:List (K×Value)}{k:K}{r:Option (Nat×Value)}(b:P.underlying t=some kt.kd)(h:Instr.findNow kt.kd (kt.enc k) a 0=some r):
  (Instr.findKey t (kt.enc k) a).run P w=.ok r w:=by
 simp only[Instr.findKey,Sem.run_bind,xQ b,Result.andThen_ok,h,Sem.run_pure]
def run_getObj_map{P:Program}{w:Wq}{b:Nat}{a:Array MapEntry}{c:Nat}(h:w.heap[b]? =some (.map a c)):(getObj b).run P w=.ok (.map a c) w:=by
 simp only[getObj,Sem.run,h]
def run_setObj_map{P:Program}{w:Wq}{b:Nat}{a:Array MapEntry}{c:Nat}(h:w.heap[b]? =some (.map a c))(o:Obj):(setObj b o).run P w=.ok () (setB w b o):=by
 simp only[setObj,Sem.run,h];rfl
structure KAa(P:Program)(kt:KCY K)(t kT eT:TypeId)(z:Value):Prop where
 und:P.underlying t=some (.map kT eT)
 key:P.underlying kT=some kt.kd
 zero:zeroOf P eT=some z
def MJ{P:Program}{t c l:TypeId}{z:Value}(T:KAa P kt t c l z){w:Wq}{b:Nat}{al:List (K×Value)}(h:MapAt kt w b al)(k:K):
  Lk P t false w (.map (some b)) (kt.enc k) ((xZ al k).getD z)/\Lk P t true w (.map (some b)) (kt.enc k) (.tuple #[(xZ al k).getD z,.bool (xZ al k).isSome]):=by
 obtain⟨n,d,i,m,o⟩:=h;have a:∀e,(Instr.checkKey e 10000 c (kt.enc k)).run P w=.ok () w:=λe=>kt.plain P c e w T.key k;rcases Py 0 k m with⟨f,g⟩|⟨j,v,e,f,g,-⟩
 ·simp only[Lk,Instr.lookup,Sem.run_bind,xQ T.und,Result.andThen_ok,run_getObj_map i,Sem.run_pure,a,run_findKey T.key g (al:=al),Sem.run_map,zq T.zero,f];constructor<;>rfl
 simp only[Lk,Instr.lookup,Sem.run_bind,xQ T.und,Result.andThen_ok,run_getObj_map i,Sem.run_pure,a,run_findKey T.key g (al:=al),f];constructor<;>rfl
theorem JL{a:List MapEntry}{j:Nat}{k v:Value}:(a.modify j λe=> {e with key:=k,val:=v}).map (·.born)=a.map (·.born):=by
 apply dN;intro i;simp only[au,oQ];cases a[i]? with
 |none=>rfl
 |some e=>simp;split<;>rfl
def rU{P:Program}{t p D:TypeId}{z:Value}(T:KAa P kt t p D z){w:Wq}{b:Nat}{al:List (K×Value)}(h:MapAt kt w b al)(k:K)(v:Value):
  ∃w1,MUp P t w (.map (some b)) (kt.enc k) v w1/\MapAt kt w1 b (xY al k v)/\Chg [b] w w1:=by
 obtain⟨n,d,i,x,y,q⟩:=h;have l:∀e,(Instr.checkKey e 10000 p (kt.enc k)).run P w=.ok () w:=λe=>kt.plain P p e w T.key k;have m:=(bK.1 i).1;rcases Py 0 k x with⟨A,o⟩|⟨j,u,e,A,o,F,G,O,H,-⟩
 ·refine⟨setB w b (.map (n.push {key:=kt.enc k,val:=v,born:=d}) (d+1)),?_,⟨_,_,D7 m,?_,?_,?_⟩,EC _ _ _⟩
  ·simp only[MUp,Instr.mapUpdate,Sem.run_bind,xQ T.und,Result.andThen_ok,run_getObj_map i,l,run_findKey T.key o (al:=al),run_setObj_map i]
  ·rw[jY];exact reads_push x A v d
  ·rw[jY,ai,bG];refine⟨y,by simp,?_⟩;intro a J c B;simp at B;subst B;obtain⟨e,f,rfl⟩:=aU.1 J;exact Nat.ne_of_lt (q e f)
  intro e f;rw[jY]at f;rcases aT.1 f with f|f
  ·exact pV (q e f)
  simp at f;subst f;exact lM _
 have L:n[j]? =some e:=by simpa using F
 refine⟨setB w b (.map (n.modify j λe=> {e with key:=kt.enc k,val:=v}) d),?_,⟨_,_,D7 m,?_,?_,?_⟩,EC _ _ _⟩
 ·rw[cZ]at o
  have g:(Instr.keyThatStays (kt.enc k) (kt.enc k)).run P w=.ok (kt.enc k) w:=by
   simp[Instr.keyThatStays,kt.bits]
  simp only[MUp,Instr.mapUpdate,Sem.run_bind,xQ T.und,Result.andThen_ok,run_getObj_map i,l,run_findKey T.key o (al:=al),L,dG,fG,G,g,run_setObj_map i]
 ·rw[iH];exact H v
 ·rw[iH,JL];exact y
 intro C r;have:C.born∈(n.modify j λe=> {e with key:=kt.enc k,val:=v}).toList.map (·.born):=aU.2 ⟨C,r,rfl⟩;rw[iH,JL]at this;obtain⟨M,s,N⟩:=aU.1 this;rw[<- N];exact q M s
def OU(a:Array MapEntry)(j:Nat):(a.eraseIdxIfInBounds j).toList=a.toList.eraseIdx j:=by
 rw[Array.eraseIdxIfInBounds];split
 ·simp
 rw[List.eraseIdx_of_length_le (by simpa using(by omega:a.size<=j))]
theorem qx{P:Program}{s:Array TypeId}{ty t o F:TypeId}{z:Value}(T:KAa P kt t o F z)(d:s[0]? =some t){w:Wq}{b:Nat}{al:List (K×Value)}(h:MapAt kt w b al)(k:K):
  ∃w1,Del P s ty w (.map (some b)) (kt.enc k) w1/\MapAt kt w1 b (zx al k)/\Chg [b] w w1:=by
 obtain⟨y,a,f,A,B,C⟩:=h;have g:∀e,(Instr.checkKey e 10000 o (kt.enc k)).run P w=.ok () w:=λe=>kt.plain P o e w T.key k;have i:=(bK.1 f).1;rcases Py 0 k A with⟨D,m⟩|⟨j,u,e,D,m,L,M,N,-,G⟩
 ·have c:∀(al:List (K×Value)),xZ al k=none->zx al k=al:=by
   intro al
   induction al with
   |nil=>intro _;rfl
   |cons p r H=>
    obtain⟨x,u⟩:=p;intro n;simp only[xZ]at n;split at n
    ·cases n
    rename_i q;simp only[zx,if_neg q,H n]
  refine⟨setB w b (.map y a),?_,⟨_,_,D7 i,by rw[c al D];exact A,B,C⟩,EC _ _ _⟩;simp only[Del,Builtin.delete_,d,gX,dI,bI,Sem.run_bind,xQ T.und,Result.andThen_ok,run_getObj_map f,g,run_findKey T.key m (al:=al),run_setObj_map f,Sem.run_pure]
 refine⟨setB w b (.map (y.eraseIdxIfInBounds j) a),?_,⟨_,_,D7 i,?_,?_,?_⟩,EC _ _ _⟩
 ·rw[cZ]at m;simp only[Del,Builtin.delete_,d,gX,dI,bI,Sem.run_bind,xQ T.und,Result.andThen_ok,run_getObj_map f,g,run_findKey T.key m (al:=al),run_setObj_map f,Sem.run_pure]
 ·rw[OU];exact G
 ·rw[OU];exact B.sublist ((oI ..).map _)
 intro J l;rw[OU]at l;exact C J ((oI ..).subset l)
end
inductive Asn where
 |blk (b:Nat) (cs:List Value) (T:TypeId)
 |own (e:TypeId) (sz:Nat) (a:Option Addr) (n c:Nat) (xs:List Value)
 |Z6 (b:Nat) (k:IntKind) (al:List (Int×Value))
 |xH (b:Nat) (al:List (ByteArray×Value))
 |any (foot:List Nat) (p:World->Prop)
def Asn.foot:Asn->Nq
 |.blk b _ _=>[b]
 |.own _ _ a _ _ _=>x9 a
 |.Z6 b _ _=>[b]
 |.xH b _=>[b]
 |.any f _=>f
def Asn.ok:Asn->Wq->Prop
 |.blk b cs T,w=>Blk w b cs T
 |.own e sz a n c xs,w=>Own w 0 e sz a n c xs
 |.Z6 b k al,w=>MapAt (Dn k) w b al
 |.xH b al,w=>MapAt Gu w b al
 |.any f p,w=>(∀k∈f,k<w.heap.size)/\∀w',(∀k∈f,w'.heap[k]? =w.heap[k]?)->p w'
theorem Asn.Jb{a:Asn}{w:Wq}(h:a.ok w):∀k∈a.foot,k<w.heap.size:=by
 intro k d;cases a with
 |blk b cs T=>simp only[Asn.foot,aW]at d;subst d;exact Blk.lt h
 |own e sz a n c xs=>exact(Own.mem (show Own w 0 e sz a n c xs from h) k d).2
 |Z6 b i g=>simp only[Asn.foot,aW]at d;subst d;exact MapAt.lt h
 |xH b g=>simp only[Asn.foot,aW]at d;subst d;exact MapAt.lt h
 |any f p=>exact h.1 k d
def lt_of_eq{w w':Wq}{k:Nat}(h:k<w.heap.size)(e:w'.heap[k]? =w.heap[k]?):k<w'.heap.size:=by
 rw[fB h]at e;exact(bK.1 e).1
theorem Asn.Ri{a:Asn}{w w':Wq}(h:a.ok w)(e:∀k∈a.foot,w'.heap[k]? =w.heap[k]?):a.ok w':=by
 cases a with
 |blk b cs T=>exact(e b (by simp[Asn.foot])).trans h
 |own N sz a n c xs=>
  refine⟨h.1,?_⟩;rcases h.2 with C|⟨g,r,D,rfl,F,H,i⟩
  ·exact .inl C
  exact .inr ⟨g,r,D,rfl,F,(e g (by simp[Asn.foot,x9])).trans H,i⟩
 |Z6 b O J=>
  obtain⟨s,d,A,j⟩:=h;exact⟨s,d,(e b (by simp[Asn.foot])).trans A,j⟩
 |xH b J=>
  obtain⟨s,d,A,j⟩:=h;exact⟨s,d,(e b (by simp[Asn.foot])).trans A,j⟩
 |any f p=>exact⟨λk l=>lt_of_eq (h.1 k l) (e k l),λK j=>h.2 K λk l=>(j k l).trans (e k l)⟩
structure Hp(B:Nq)(w0 w:Wq)(L:List Asn):Prop where
 chg:Chg B w0 w
 ok:∀a∈L,a.ok w
 own:∀a∈L,∀k∈a.foot,k∈B\/w0.heap.size<=k
 sep:L.Pairwise λa b=>∀k∈a.foot,k∉b.foot
def Hp.start(w:Wq):Hp [] w w []:=⟨Chg.refl _ _,by simp,by simp,.nil⟩
def Hp.II{w:Wq}{a:Asn}(h:a.ok w):Hp a.foot w w [a]:=⟨Chg.refl _ _,by simpa using h,by simp;intro k d;exact .inl d,by simp⟩
section
variable{B S:List Nat}{w0 w w':World}{L L1 L2 M:List Asn}{a a' x y z u v p q:Asn}
def Hp.use(H:Hp B w0 w (L1++L2))(j:Hp S w w' M)(D:∀k∈S,∃a∈L1,k∈a.foot):Hp B w0 w' (M++L2):=by
 have F:∀k∈S,k∈B\/w0.heap.size<=k:=λk g=>by
  obtain⟨a,A,C⟩:=D k g;exact H.own a (aS _ A) k C
 have i:=eP.1 H.sep
 have l:∀b∈L2,∀k∈b.foot,k∉S:=λb f k g K=>by
  obtain⟨a,A,C⟩:=D k K;exact i.2.2 a A b f k C g
 refine⟨H.chg.trans j.chg (λk g=>g) F,?_,?_,?_⟩
 ·intro b f;rcases aT.1 f with f|f
  ·exact j.ok b f
  have r:=H.ok b (aI _ f);exact Asn.Ri r λk g=>j.chg.2.2.2.2 k (Asn.Jb r k g) (l b f k g)
 ·intro b f k g;rcases aT.1 f with f|f
  ·rcases j.own b f k g with h|h
   ·exact F k h
   exact .inr (fJ H.chg.size h)
  exact H.own b (aI _ f) k g
 refine eP.2 ⟨j.sep,i.2.1,λb f d J k g s=>?_⟩;rcases j.own b f k g with h|h
 ·exact l d J k s h
 have:=Asn.Jb (H.ok d (aI _ J)) k s;omega
def Hp.ext(H:Hp B w0 w L)(d:Hp [] w w' M):Hp B w0 w' (M++L):=Hp.use (L1:=[]) H d (by simp)
def Hp.xN(H:Hp B w0 w L)(d:Hp [] w w' []):Hp B w0 w' L:=Hp.use (L1:=[]) H d (by simp)
def Hp.yC(H:Hp B w0 w L)(d:Hp [] w w' [x]):Hp B w0 w' (x::L):=Hp.use (L1:=[]) H d (by simp)
def Hp.ext2(H:Hp B w0 w L)(d:Hp [] w w' [x,y]):Hp B w0 w' (x::y::L):=Hp.use (L1:=[]) H d (by simp)
def Hp.zK(H:Hp B w0 w (a::L))(d:Hp a.foot w w' M):Hp B w0 w' (M++L):=Hp.use (L1:=[a]) H d (by simp)
def Hp.Bg(H:Hp B w0 w (a::L))(d:Hp a.foot w w' [x]):Hp B w0 w' (x::L):=Hp.use (L1:=[a]) H d (by simp)
def Hp.KFO(H:Hp B w0 w L)(h:Chg [] w w'):Hp B w0 w' L:=H.xN ⟨h,by simp,by simp,.nil⟩
def Hp.set(H:Hp B w0 w (a::L))(h:Chg a.foot w w')(d:a'.ok w')(f:∀k∈a'.foot,k∈a.foot\/w.heap.size<=k):Hp B w0 w' (a'::L):=
 H.Bg ⟨h,by simpa using d,by simpa using f,by simp⟩
def Hp.add(H:Hp B w0 w L)(h:Chg [] w w')(d:a'.ok w')(f:∀k∈a'.foot,w.heap.size<=k):Hp B w0 w' (a'::L):=
 H.yC ⟨h,by simpa using d,by simp;intro k g;exact f k g,by simp⟩
def Hp.perm(H:Hp B w0 w L)(h:L.Perm M):Hp B w0 w M:=
 ⟨H.chg,λa d=>H.ok a (h.mem_iff.2 d),λa d=>H.own a (h.mem_iff.2 d),(h.pairwise_iff (λg k i f=>g k f i)).1 H.sep⟩
def Hp.drop(H:Hp B w0 w (a::L)):Hp B w0 w L:=⟨H.chg,λb d=>H.ok b (.tail _ d),λb d=>H.own b (.tail _ d),(bF.1 H.sep).2⟩
def Hp.drop1(H:Hp B w0 w (x::a::L)):Hp B w0 w (x::L):=(H.perm (.swap a x L)).drop
def Hp.done(H:Hp B w0 w L):Hp B w0 w []:=⟨H.chg,by simp,by simp,.nil⟩
def Hp.Nb(H:Hp B w0 w (x::L)):Hp B w0 w [x]:=⟨H.chg,λb d=>H.ok b (by simp at d;simp[d]),λb d=>H.own b (by simp at d;simp[d]),by simp⟩
def Hp.AX(H:Hp B w0 w (x::a::L)):Hp B w0 w (a::x::L):=H.perm (.swap a x L)
def Hp.BF(H:Hp B w0 w (x::y::a::L)):Hp B w0 w (a::x::y::L):=H.perm (((List.Perm.swap a y L).cons x).trans (.swap a x _))
def Em(L1:List Asn)(a:Asn)(L:List Asn):(L1++a::L).Perm (a::(L1++L)):=bP
def Hp.ET(H:Hp B w0 w (x::y::z::a::L)):Hp B w0 w (a::x::y::z::L):=H.perm (Em [x,y,z] a L)
def Hp.JH(H:Hp B w0 w (x::y::z::u::a::L)):Hp B w0 w (a::x::y::z::u::L):=H.perm (Em [x,y,z,u] a L)
def Hp.vN(H:Hp B w0 w (x::y::z::u::v::a::L)):Hp B w0 w (a::x::y::z::u::v::L):=H.perm (Em [x,y,z,u,v] a L)
def Hp.pull6(H:Hp B w0 w (x::y::z::u::v::p::a::L)):Hp B w0 w (a::x::y::z::u::v::p::L):=H.perm (Em [x,y,z,u,v,p] a L)
def Hp.KBe(H:Hp B w0 w (x::a::L)):Hp B w0 w (x::L):=(H.AX).drop
def Hp.KDJ(H:Hp B w0 w (x::y::a::L)):Hp B w0 w (x::y::L):=(H.BF).drop
end
structure Eqw(w w':Wq):Prop where
 heap:w'.heap=w.heap
 os:w'.os=w.os
 tape:w'.tape=w.tape
 output:w'.output=w.output
def EQ4{w w':Wq}(a:w'.heap=w.heap:=by exact rfl)(b:w'.os=w.os:=by exact rfl)(c:w'.tape=w.tape:=by exact rfl)(d:w'.output=w.output:=by exact rfl):Eqw w w':=⟨a,b,c,d⟩
def Eqw.chg{w w':Wq}(e:Eqw w w'):Chg [] w w':=⟨e.os,e.tape,e.output,by rw[e.heap];exact aZ _,λk _ _=>by rw[e.heap]⟩
def Hp.go{B:Nq}{w0 w w':Wq}{L:List Asn}(H:Hp B w0 w L)(e:Eqw w w'):Hp B w0 w' L:=H.KFO e.chg
def Hp.drew{B:Nq}{w0 w:Wq}{L:List Asn}(H:Hp B w0 w L):Hp B w0 w.drew L:=H.go ⟨rfl,rfl,rfl,rfl⟩
structure Scl(P:Program)(t:TypeId):Prop where
 agg:KAw P t=some false
 size:yj P t=some 1
structure Agg(P:Program)(t:TypeId)(n:Nat):Prop where
 agg:KAw P t=some true
 size:yj P t=some n
def sclB(P:Program)(t:TypeId):Bool:=match KAw P t,yj P t with
 |some false,some 1=>true
 |_,_=>false
def sagB(P:Program)(t n:Nat):Bool:=match KAw P t,yj P t with
 |some true,some m=>Nat.beq m n
 |_,_=>false
def BQ{P:Program}{t:TypeId}(h:sclB P t=true):Scl P t:=by
 unfold sclB at h;split at h
 ·exact⟨by assumption,by assumption⟩
 cases h
def DN{P:Program}{t n:Nat}(h:sagB P t n=true):Agg P t n:=by
 unfold sagB at h;split at h
 ·rename_i d f;have:=df h;subst this;exact⟨d,f⟩
 cases h
section
variable{P:Program}{B:List Nat}{w0 w w':World}{L:List Asn}{b o n:Nat}{cs:List Value}{T t:TypeId}
def Hp.new(H:Hp B w0 w L)(e:Eqw w w'){w1:Wq}(h:New w' (.cells cs.toArray T) b w1):Hp B w0 w1 (.blk b cs T::L):=
 (H.go e).add h.chg h.cells (by simp[Asn.foot];exact h.num▸aZ _)
def Hp.KDN(H:Hp B w0 w L)(e:Eqw w w'){w1:Wq}(k:IntKind)(h:New w' (.map #[] 0) b w1):Hp B w0 w1 (.Z6 b k []::L):=
 (H.go e).add h.chg (MapAt.new h) (by simp[Asn.foot];exact h.num▸aZ _)
def Hp.KFF(H:Hp B w0 w L)(e:Eqw w w'){w1:Wq}(h:New w' (.map #[] 0) b w1):Hp B w0 w1 (.xH b []::L):=
 (H.go e).add h.chg (MapAt.new h) (by simp[Asn.foot];exact h.num▸aZ _)
def Hp.blk(H:Hp B w0 w L)(m:Asn.blk b cs T∈L):Blk w b cs T:=H.ok _ m
def Hp.xh{e:TypeId}{sz:Nat}{a:OA}{n c:Nat}{xs:LV}(H:Hp B w0 w L)(m:Asn.own e sz a n c xs∈L):Own w 0 e sz a n c xs:=H.ok _ m
def Hp.ld(H:Hp B w0 w L)(e:Eqw w w')(S:Scl P t)(m:Asn.blk b cs T∈L){v:Value}(d:cs[o]? =some v):Ld P t w' ⟨b,o,none⟩ v:=
 Blk.ld ((H.go e).blk m) S.agg d
def Hp.ldA(H:Hp B w0 w L)(e:Eqw w w')(S:Agg P t n)(m:Asn.blk b cs T∈L){vs:LV}(d:(cs.drop o).take n=vs)(f:vs.length=n):Ld P t w' ⟨b,o,none⟩ (.agg vs.toArray):=by
 subst f;exact Blk.ldA ((H.go e).blk m) S.agg S.size d
def Hp.st(H:Hp B w0 w (.blk b cs T::L))(e:Eqw w w')(S:Scl P t){v:Value}{G:WP}(d:v.cells= #[v])(f:v.oneCell'=true)(h:o<cs.length){cs':LV}(i:cs.set o v=cs')
  (k:∀w1,Hp B w0 w1 (.blk b cs' T::L)->G w1):∃w1,St P t w' ⟨b,o,none⟩ v w1/\G w1:=by
 obtain⟨w1,f,g,j⟩:=Blk.st ((H.go e).blk (.head _)) (by rw[d];exact S.size) (by rw[d];simpa using f) (by rw[d];exact h);refine⟨w1,f,k w1 ((H.go e).set j ?_ (λk l=>.inl l))⟩;rw[d]at g;rw[<- i]
 have r:over #[v].toList o cs=cs.set o v:=by
  rw[show #[v].toList=[v]from rfl,yf v [] o cs h,yQ]
 rw[r]at g;exact g
def Hp.stA(H:Hp B w0 w (.blk b cs T::L))(e:Eqw w w')(S:Agg P t n){vs:LV}{G:WP}(f:vs.length=n)(d:vs.all (·.oneCell')=true)(g:o+n<=cs.length){cs':LV}(h:over vs o cs=cs')
  (k:∀w1,Hp B w0 w1 (.blk b cs' T::L)->G w1):∃w1,St P t w' ⟨b,o,none⟩ (.agg vs.toArray) w1/\G w1:=by
 subst f;obtain⟨w1,d,i,j⟩:=Blk.st ((H.go e).blk (.head _)) (v:=.agg vs.toArray) (by simpa [Value.cells]using S.size) (by simpa [Value.cells]using d) (by simpa [Value.cells]using g);refine⟨w1,d,k w1 ((H.go e).set j ?_ (λk l=>.inl l))⟩;rw[<- h];exact i
variable{tx ty e:TypeId}{sz by_:Nat}{a:Option Addr}{c m:Nat}{xs news:List Value}{x:Value}{G:Option Addr->Nat->Nat->World->Prop}
def Hp.sx(H:Hp B w0 w (.blk b cs T::L))(S:Scl P t){v:Value}{G:WP}(k:∀w1,Hp B w0 w1 (.blk b (cs.set o v) T::L)->G w1)(e:Eqw w w':=by exact⟨rfl,rfl,rfl,rfl⟩)(d:v.cells= #[v]:=by exact rfl)(f:v.oneCell'=true:=by exact rfl)(g:o<cs.length:=by exact jy rfl):∃w1,St P t w' ⟨b,o,none⟩ v w1/\G w1:=Hp.st H e S d f g rfl k
def Hp.sxA(H:Hp B w0 w (.blk b cs T::L))(S:Agg P t n){vs:LV}{G:WP}(k:∀w1,Hp B w0 w1 (.blk b (over vs o cs) T::L)->G w1)(e:Eqw w w':=by exact⟨rfl,rfl,rfl,rfl⟩)(d:vs.length=n:=by exact rfl)(f:vs.all (·.oneCell')=true:=by exact rfl)(g:o+n<=cs.length:=by exact jy rfl):∃w1,St P t w' ⟨b,o,none⟩ (.agg vs.toArray) w1/\G w1:=Hp.stA H e S d f g rfl k
def Hp.app(T:Elt P t e sz by_)(f:0<sz)(H:Hp B w0 w (.own e sz a n c xs::L))(i:Eqw w w')(l:Src P sz tx x m news w')(g:n+m<=maxLen)(h:(n+m)*by_<=140737488355328)
  (k:∀a' c' w1,Hp B w0 w1 (.own e sz a' (n+m) c' (xs++news)::L)->G a' (n+m) c' w1):
  ∃a' j c' w1,App P #[t,tx] ty w' (.slice a n c) x (.slice a' j c') w1/\G a' j c' w1:=by
 have d:Own w' 0 e sz a n c xs:=(H.go i).ok _ (.head _);obtain⟨a',c',w1,r,s,A,C⟩:=rO (ty:=ty) T f d l g h (bZ _);exact⟨a',_,c',w1,r,k a' c' w1 ((H.go i).set A s C)⟩
end
def Blk.src{P:Program}{w:Wq}{b:Nat}{cs:LV}{T tx e':TypeId}{sz n c:Nat}(d:P.underlying tx=some (.slice e'))(h:Blk w b cs T)(f:cs.length=n*sz)(g:cs.all (·.oneCell')=true):Src P sz tx (.slice (Pq b) n c) n cs w:=
 Src.ofSlice w d ⟨b,0,none⟩ n c cs f (λj u i=>by rw[add_lit];exact h.cell (by simpa using i)) (λu l=>fQ.1 g u l)
theorem Cells.src{P:Program}{w:Wq}{a:OA}{cs:LV}{tx e':TypeId}{sz n c:Nat}(d:P.underlying tx=some (.slice e'))(h:Cells w a cs)(f:cs.length=n*sz)(g:∀u∈cs,u.oneCell'=true)(i:a=none->n=0):Src P sz tx (.slice a n c) n cs w:=by
 cases a with
 |none=>
  have:=i rfl;subst this;have:cs=[]:=ay (by simpa using f);subst this;exact Src.ofNil w d c
 |some l=>exact Src.ofSlice w d l n c cs f (λj u r=>by obtain⟨s,A,C⟩:=h j u r;cases A;exact C) g
section
variable{P:Program}{B:List Nat}{w0 w w':World}{L:List Asn}
def Hp.s2b{src d e:TypeId}{s:BA}(H:Hp B w0 w L)(h:Eqw w w')(i:P.underlying src=some .string)(j:P.underlying d=some (.slice e))(l:P.underlying e=some (.int .u8))(r:s.size<=maxLen)
  {G:OA->Nat->Nat->Wq->Prop} (k:∀a c w1,Hp B w0 w1 (.own e 1 a s.size c (byteCells s)::L)->G a s.size c w1):
  ∃a n c w1,S2B P src d w' (.string s) (.slice a n c) w1/\G a n c w1:=by
 refine⟨_,_,_,_,run_bytes_of_string w' src d e s i j l,k _ _ _ ((H.go h).add ?_ ?_ ?_)⟩
 ·exact⟨rfl,rfl,rfl,by simp,λk f _=>alloc_old w'.drew _ k f⟩
 ·refine⟨by rw[byteCells_length,bV],.inr ⟨_,_,_,rfl,bZ _,Ii w'.drew _,KBc.behind _ _,grownCap_ge _ _ _ _,grownCap_le_maxLen _ _ _ _ r,?_,?_⟩⟩
  ·have:=grownCap_ge w' s.size 0 e;simp only[bytesRow,kG,Array.size_map,Array.size_replicate,bV];have g:s.data.size=s.size:=rfl;omega
  have g:(byteCells s).length=s.size:=byteCells_length s;rw[bV,bytesRow,kR,lL,<- g];exact iM rfl
 intro k f;simp[Asn.foot,x9]at f;subst f;exact aZ _
theorem b2s{src f e:TypeId}{a:OA}{n c:Nat}{s:BA}(l:P.underlying src=some (.slice e))(A:P.underlying e=some (.int .u8))(C:P.underlying f=some .string)(D:Cells w a (byteCells s))(H:n=s.size):
  B2S P src f w (.slice a n c) (.string s):=by
 subst H;cases a with
 |none=>
  have:byteCells s=[]:=by
   cases h:byteCells s with
   |nil=>rfl
   |cons v r=>obtain⟨F,g,_⟩:=D 0 v (by rw[h];rfl);cases g
  have J:s=ByteArray.empty:=by
   have i:s.data.toList=[]:=by simpa [byteCells]using this
   obtain⟨d⟩:=s;have:d= #[]:=by apply pI;simpa using i
   subst this;rfl
  subst J;exact run_convert_bytes_nil w src e l A _ _ f C
 |some F=>
  have:=run_convert_bytes_back w src f e F c s.data.toList l A C (λj K=>by
   have i:(byteCells s)[j]? =some (iU (s.data.toList[j].toNat:Int)):=by
    simp[byteCells,au,aB K]
   obtain⟨N,g,O⟩:=D j _ i;cases g;exact O)
  rw[show(s.data.toList.toArray)=s.data by simp]at this;simpa [B2S,bT]using this
def Hp.mkS{t e:TypeId}{sz by_:Nat}{j kc:IntKind}{n:Int}(T:Elt P t e sz by_)(H:Hp B w0 w L)(D:Eqw w w')(F:0<=n)(r:n.toNat<=maxLen)(g:(by_:Int)*n<=281474976710656){z:Value}(s:zeroOf P e=some z)
  {G:OA->Nat->Nat->Wq->Prop} (k:∀a w1,Hp B w0 w1 (.own e sz a n.toNat n.toNat (madeCells z.cells (n.toNat*sz)).toList::L)->G a n.toNat n.toNat w1):
  ∃a l c w1,MkS P t w' (.int j n) (.int kc n) (.slice a l c) w1/\G a l c w1:=by
 obtain⟨J,i,A,C,d,rfl,rfl,K⟩:=T
 have h:A=z:=by
  simp only[zeroOf,C,d,Option.some.injEq]at s;exact s
 subst h;refine⟨_,_,_,_,run_make w' t e i A J C d j kc n n F (gz _) g (by simp only[maxLen]at r;omega),k _ _ ((H.go D).add ?_ ?_ ?_)⟩
 ·exact⟨rfl,rfl,rfl,by simp,λk f _=>alloc_old w' _ k f⟩
 ·refine⟨by rw[bT,size_madeCells],.inr ⟨_,_,_,rfl,bZ _,Ii w' _,KBc.zero _,aZ _,r,jo (size_madeCells _ _).symm,?_⟩⟩;rw[aV];rw[bT,size_madeCells];exact aZ _
 intro k f;simp[Asn.foot,x9]at f;subst f;exact aZ _
end
section
variable{P:Program}{B:List Nat}{w0 w w':World}{L:List Asn}{t kT eT:TypeId}{z v:Value}{b:Nat}
def Hp.lkI{k:IntKind}{al:List (Int×Value)}(T:KAa P (Dn k) t kT eT z)(H:Hp B w0 w L)(e:Eqw w w')(m:Asn.Z6 b k al∈L){x:Int}(d:(xZ al x).getD z=v):Lk P t false w' (.map (some b)) (.int k x) v:=by
 subst d;exact(MJ T ((H.go e).ok _ m) x).1
def Hp.Np{k:IntKind}{al:List (Int×Value)}(T:KAa P (Dn k) t kT eT z)(H:Hp B w0 w L)(e:Eqw w w')(m:Asn.Z6 b k al∈L){x:Int}{o:Bool}(d:(xZ al x).getD z=v)(f:(xZ al x).isSome=o):Lk P t true w' (.map (some b)) (.int k x) (.tuple #[v,.bool o]):=by
 subst d;subst f;exact(MJ T ((H.go e).ok _ m) x).2
def Hp.lkS{al:List (BA×Value)}(T:KAa P Gu t kT eT z)(H:Hp B w0 w L)(e:Eqw w w')(m:Asn.xH b al∈L){x:BA}(d:(xZ al x).getD z=v):Lk P t false w' (.map (some b)) (.string x) v:=by
 subst d;exact(MJ T ((H.go e).ok _ m) x).1
def Hp.XN{al:List (BA×Value)}(T:KAa P Gu t kT eT z)(H:Hp B w0 w L)(e:Eqw w w')(m:Asn.xH b al∈L){x:BA}{o:Bool}(d:(xZ al x).getD z=v)(f:(xZ al x).isSome=o):Lk P t true w' (.map (some b)) (.string x) (.tuple #[v,.bool o]):=by
 subst d;subst f;exact(MJ T ((H.go e).ok _ m) x).2
def Hp.KCj{k:IntKind}{al:List (Int×Value)}(T:KAa P (Dn k) t kT eT z)(H:Hp B w0 w (.Z6 b k al::L))(e:Eqw w w'){x:Int}{G:WP}
  (kk:∀w1,Hp B w0 w1 (.Z6 b k (xY al x v)::L)->G w1):∃w1,MUp P t w' (.map (some b)) (.int k x) v w1/\G w1:=by
 obtain⟨w1,d,f,g⟩:=rU T ((H.go e).ok _ (.head _)) x v;exact⟨w1,d,kk w1 ((H.go e).set g f λk h=>.inl h)⟩
def Hp.KEC{al:List (BA×Value)}(T:KAa P Gu t kT eT z)(H:Hp B w0 w (.xH b al::L))(e:Eqw w w'){x:BA}{G:WP}
  (kk:∀w1,Hp B w0 w1 (.xH b (xY al x v)::L)->G w1):∃w1,MUp P t w' (.map (some b)) (.string x) v w1/\G w1:=by
 obtain⟨w1,d,f,g⟩:=rU T ((H.go e).ok _ (.head _)) x v;exact⟨w1,d,kk w1 ((H.go e).set g f λk h=>.inl h)⟩
end
def Hp.front{B:Nq}{w0 w:Wq}{L:List Asn}{e:TypeId}{sz:Nat}{a:OA}{n c F:Nat}{xs:LV}(H:Hp B w0 w (.own e sz a n c xs::L))(d:F<=n):Hp B w0 w (.own e sz a F F (xs.take (F*sz))::L):=
 H.set (Chg.refl _ _) (Own.front (H.ok _ (.head _)) d) (λk f=>.inl f)
def Own.nil'(e:TypeId)(sz:Nat)(w:Wq):(Asn.own e sz none 0 0 []).ok w:=Own.nil w 0 e sz
def Hp.yS{B:Nq}{w0 w:Wq}{L:List Asn}(H:Hp B w0 w L)(e:TypeId)(sz:Nat):Hp B w0 w (.own e sz none 0 0 []::L):=
 H.add (Chg.refl _ _) (Own.nil' e sz w) (by simp[Asn.foot,x9])
def Hp.lo{P:Program}{B:Nq}{w0 w w':Wq}{L:List Asn}{b o:Nat}{cs:LV}{T t:TypeId}(H:Hp B w0 w L)(S:Scl P t){v:Value}(e:Eqw w w':=by exact ⟨rfl,rfl,rfl,rfl⟩)(m:Asn.blk b cs T∈L:=by repeat first|exact .head _|refine .tail _ ?_)(d:cs[o]? =some v:=by exact rfl):Ld P t w' ⟨b,o,none⟩ v:=Hp.ld H e S m d
def Hp.loA{P:Program}{B:Nq}{w0 w w':Wq}{L:List Asn}{b o n:Nat}{cs:LV}{T t:TypeId}(H:Hp B w0 w L)(S:Agg P t n){vs:LV}(e:Eqw w w':=by exact ⟨rfl,rfl,rfl,rfl⟩)(m:Asn.blk b cs T∈L:=by repeat first|exact .head _|refine .tail _ ?_)(d:(cs.drop o).take n=vs:=by exact rfl)(f:vs.length=n:=by exact rfl):Ld P t w' ⟨b,o,none⟩ (.agg vs.toArray):=Hp.ldA H e S m d f
def Hp.nw{B:Nq}{w0 w w':Wq}{L:List Asn}{b:Nat}{cs:LV}{T:TypeId}(H:Hp B w0 w L){w1:Wq}(h:New w' (.cells cs.toArray T) b w1)(e:Eqw w w':=by exact ⟨rfl,rfl,rfl,rfl⟩):Hp B w0 w1 (.blk b cs T::L):=Hp.new H e h
def Hp.sA{P:Program}{B:Nq}{w0 w w':Wq}{L:List Asn}{b o n:Nat}{cs:LV}{T t:TypeId}(H:Hp B w0 w (.blk b cs T::L))(S:Agg P t n){vs:LV}{G:WP}{cs':LV}(k:∀w1,Hp B w0 w1 (.blk b cs' T::L)->G w1)(e:Eqw w w':=by exact ⟨rfl,rfl,rfl,rfl⟩)(d:vs.length=n:=by exact rfl)(f:vs.all (·.oneCell')=true:=by exact rfl)(g:o+n<=cs.length:=by simp)(h:over vs o cs=cs':=by exact rfl):∃w1,St P t w' ⟨b,o,none⟩ (.agg vs.toArray) w1/\G w1:=Hp.stA H e S d f g h k
def Hp.s1{P:Program}{B:Nq}{w0 w w':Wq}{L:List Asn}{b o:Nat}{cs:LV}{T t:TypeId}(H:Hp B w0 w (.blk b cs T::L))(S:Scl P t){v:Value}{G:WP}{cs':LV}(k:∀w1,Hp B w0 w1 (.blk b cs' T::L)->G w1)(e:Eqw w w':=by exact ⟨rfl,rfl,rfl,rfl⟩)(d:v.cells=#[v]:=by exact rfl)(f:v.oneCell'=true:=by exact rfl)(g:o<cs.length:=by simp)(h:cs.set o v=cs':=by exact rfl):∃w1,St P t w' ⟨b,o,none⟩ v w1/\G w1:=Hp.st H e S d f g h k
noncomputable abbrev l7(f:FuncId)(l:Array Value)(w:World)(v:Value)(B:List Nat)(L:List Asn):=Calls PP f l w fun e x=>e=.returned v/\Hp B w x L
def bt(n:Int)(k:Nat):UInt8:=UInt8.ofNat ((n/2^(8*k))%256).toNat
def be(n:Int):Nat->LU
 |0=>[]
 |k+1=>bt n k::be n k
theorem AU(n:Int)(k:Nat):(be n k).length=k:=by
 induction k with
 |zero=>rfl
 |succ k a=>simp[be,a]
def Ae(l:LU):LV:=l.map λb=>iU (b.toNat:Int)
def sv(l:LU):Value:=.string ⟨l.toArray⟩
def DK(a b:LU):Ae (a++b)=Ae a++Ae b:=by simp[Ae]
def Ah(a:LU):(Ae a).length=a.length:=by simp[Ae]
def DF(l:LU):byteCells ⟨l.toArray⟩=Ae l:=by simp[byteCells,Ae]
def Ib(s:BA):byteCells s=Ae s.data.toList:=rfl
def Fh(x:Int):IntKind.u8.wrap x=x%256:=by
 simp[IntKind.wrap,IntKind.signed,IntKind.bits]
def UU(n:Int)(k:Nat):((bt n k).toNat:Int)=(n/2^(8*k))%256:=by
 have a:0<=(n/2^(8*k))%256:=ni _ om;have b:(n/2^(8*k))%256<256:=pJ _ om;rw[bt]
 have:(UInt8.ofNat ((n/2^(8*k))%256).toNat).toNat=((n/2^(8*k))%256).toNat:=by
  rw[pK];exact lQ om
 rw[this];omega
def PO(i:Int)(m:Nat)(h:m<8)(j:Int)(a:j=m):IntKind.u8.wrap (Int.fdiv i ((2:Int)^min (Int.toNat ((8:Int)*j)) (IntKind.bits IntKind.i64)))=((bt i m).toNat:Int):=by
 subst a;rw[Fh,UU];have b:Int.toNat ((8:Int)*(m:Int))=8*m:=om;have c:min (8*m) (IntKind.bits IntKind.i64)=8*m:=by simp only[IntKind.bits];omega
 rw[b,c,kK _ (pW (Int.pow_pos om))]
def add_add(a:Addr)(i j:Nat):(a.add i).add j=a.add (i+j):=by
 obtain⟨b,o,s⟩:=a;by_cases c:i=0<;>by_cases d:j=0<;>simp[Addr.add,c,d,jb]
def Cells.slA{w:Wq}{a:OA}{xs:LV}(h:Cells w a xs){c i:Nat}(f:xs.length<=c):Cells w (slA a c i 1) (xs.drop i):=by
 intro j v d;rw[dm]at d;obtain⟨g,rfl,b⟩:=h _ v d;have e:=(aA.1 d).1;unfold Go.Vc.slA;rw[if_neg om];exact⟨_,rfl,by rw[add_add,bV];exact b⟩
def Cells.take{w:Wq}{a:OA}{xs:LV}(h:Cells w a xs)(i:Nat):Cells w a (xs.take i):=by
 intro j v b;rw[fO]at b;split at b
 ·exact h j v b
 cases b
def OZ(l:LU):∀u∈Ae l,u.oneCell'=true:=by
 intro u a;obtain⟨_,_,rfl⟩:=aU.1 a;rfl
def SG(l:LU)(n:Nat):Ae (l.drop n)=(Ae l).drop n:=by simp[Ae,jd]
def Ru(l:LU)(n:Nat):Ae (l.take n)=(Ae l).take n:=by simp[Ae,iE]
def Own.pos{w:Wq}{e:TypeId}{sz:Nat}{a:OA}{n c:Nat}{xs:LV}(h:Own w 0 e sz a n c xs)(b:n≠0):a≠none:=by
 rcases h.2 with⟨_,d,_⟩|⟨g,f,i,rfl,_⟩
 ·exact absurd d b
 simp
def LJ(l:LV)(o:Nat)(cs:LV)(h:o+l.length<=cs.length):(over l o cs).length=cs.length:=yT _ _ _ h
def Ot(l:LV)(o:Nat)(cs:LV)(n:Nat)(h:o+l.length<=n)(f:n<=cs.length):(over l o cs).take n=over l o (cs.take n):=by
 apply dN;intro k;have d:o+l.length<=(cs.take n).length:=by rw[aJ];omega
 rw[fO,Ip l o cs om,Ip l o (cs.take n) d,fO];by_cases b:k<n
 ·rw[if_pos b,if_pos b]
 rw[if_neg b,if_neg b,if_neg om]
def Own.st{P:Program}{t:TypeId}{w:Wq}{e:TypeId}{sz:Nat}{a:OA}{n c:Nat}{xs:LV}(h:Own w 0 e sz a n c xs){x:Addr}(y:a=some x){o:Nat}{v:Value}(C:yj P t=some v.cells.size)(D:v.cells.toList.all (·.oneCell')=true)(O:o+v.cells.size<=xs.length):
  ∃w1,St P t w (x.add o) v w1/\Own w1 0 e sz a n c (over v.cells.toList o xs)/\Chg (x9 a) w w1:=by
 have d:=h.1;rcases h.2 with⟨rfl,_⟩|⟨g,b,q,rfl,F,z,A,f,r,s,G⟩
 ·cases y
 cases y;have H:n*sz<=c*sz:=dF _ f;have i:w.heap[g]? =some (.cells b.toList.toArray e q):=by simpa using z
 have m:b.toList.length=b.size:=bT;have J:v.cells.toList.length=v.cells.size:=bT;have p:=Cm (P:=P) (fz:=q) v.cells.toList w b.toList ⟨g,o,none⟩ o 0 rfl (λj=>by simp[add_lit]) i om (λk R T=>A k om) (λu K=>fQ.1 D u K)
 have M:(storeVar t ((⟨g,0,none⟩:Addr).add o) v).run P w=(storeCells ⟨g,o,none⟩ v.cells.toList).run P w:=by
  rw[add_lit,cZ];simp only[storeVar,Sem.run_bind,yI C,Result.andThen_ok];rw[if_neg (by simp)]
 refine⟨_,M.trans p,?_,?_⟩
 ·split
  ·rename_i N;rw[N,yQ];exact h
  refine⟨by rw[LJ _ _ _ om];exact d,.inr ⟨g,_,q,rfl,F,D7 (bK.1 z).1,?_,f,r,?_,?_⟩⟩
  ·rw[dV,LJ _ _ _ om,m];exact A
  ·rw[dV,LJ _ _ _ om,m];exact s
  simp;rw[Ot _ _ _ _ om om,G]
 split
 ·exact Chg.refl _ _
 exact EC _ _ _
def Cells.ldA{P:Program}{w:Wq}{a:OA}{xs:LV}(h:Cells w a xs){t:TypeId}{n:Nat}(T:Agg P t n){d:Addr}(f:a=some d){o:Nat}{vs:LV}(g:(xs.drop o).take n=vs)(i:vs.length=n):Ld P t w (d.add o) (.agg vs.toArray):=by
 subst i f;refine Xt T.agg T.size λj v b=>?_;rw[add_add]
 obtain⟨m,p,q⟩:=h (o+j) v (by
  rw[<- g,fO]at b;split at b
  ·simpa using b
  cases b)
 cases p;exact q
def Cells.ld{P:Program}{w:Wq}{a:OA}{xs:LV}(h:Cells w a xs){t:TypeId}(T:Scl P t){b:Addr}(d:a=some b){o:Nat}{v:Value}(f:xs[o]? =some v):Ld P t w (b.add o) v:=by
 subst d;obtain⟨g,i,j⟩:=h o v f;cases i;exact PD T.agg j
theorem Cells.some{w:Wq}{a:OA}{xs:LV}(h:Cells w a xs)(d:xs≠[]):∃b,a=some b:=by
 cases xs with
 |nil=>exact absurd rfl d
 |cons v r=>obtain⟨b,e,_⟩:=h 0 v rfl;exact⟨b,e⟩
section
variable{P:Program}{B:List Nat}{w0 w w':World}{L:List Asn}{e t:TypeId}{sz:Nat}{a:Option Addr}{n c o:Nat}{xs:List Value}{v:Value}
def Hp.stO(H:Hp B w0 w (.own e sz a n c xs::L))(b:Eqw w w'){d:Addr}(g:a=some d)(h:yj P t=some v.cells.size)(i:v.cells.toList.all (·.oneCell')=true)(j:o+v.cells.size<=xs.length){xs':LV}(m:over v.cells.toList o xs=xs'){G:WP}
  (k:∀w1,Hp B w0 w1 (.own e sz a n c xs'::L)->G w1):∃w1,St P t w' (d.add o) v w1/\G w1:=by
 obtain⟨w1,p,f,q⟩:=Own.st ((H.go b).ok _ (.head _)) g h i j;rw[m]at f;exact⟨w1,p,k w1 ((H.go b).set q f λk r=>.inl r)⟩
end
def over1(v:Value)(o:Nat)(xs:LV)(h:o<xs.length):over [v] o xs=xs.set o v:=by
 rw[yf v [] o xs h,yQ]
section
variable{P:Program}{B:List Nat}{w0 w w':World}{L:List Asn}{e t:TypeId}{sz:Nat}{a:Option Addr}{n c o:Nat}{xs:List Value}{v:Value}
def Hp.KEq(H:Hp B w0 w (.own e sz a n c xs::L))(g:Eqw w w')(T:Scl P t){d:Addr}(h:a=some d)(b:v.cells= #[v])(i:v.oneCell'=true)(f:o<xs.length){G:WP}
  (k:∀w1,Hp B w0 w1 (.own e sz a n c (xs.set o v)::L)->G w1):∃w1,St P t w' (d.add o) v w1/\G w1:=
 Hp.stO H g h (by rw[b];exact T.size) (by rw[b];simpa using i) (by rw[b];exact f) (by rw[b];exact over1 v o xs f) k
end
def yE(l:Nat)(o:Obj):Asn:=.any [l] λw=>w.heap[l]? =some o
def TD{l:Nat}{o:Obj}{w:Wq}(h:w.heap[l]? =some o):(yE l o).ok w:=
 ⟨λk b=>by rw[aW]at b;subst b;exact(bK.1 h).1,λw' d=>(d l (by simp)).trans h⟩
section
variable{P:Program}{B:List Nat}{w0 w w' w1:World}{L:List Asn}{l:Nat}{o o':Obj}
def Hp.obj(H:Hp B w0 w L)(m:yE l o∈L):w.heap[l]? =some o:=(H.ok _ m).2 w λ_ _=>rfl
def Hp.KED(H:Hp B w0 w L)(e:Eqw w w')(h:New w' o l w1):Hp B w0 w1 (yE l o::L):=
 (H.go e).add h.chg (TD h.blk) (by intro k b;simp[yE,Asn.foot]at b;subst b;exact h.num▸aZ _)
def Hp.KBh(H:Hp B w0 w (yE l o::L)):Hp B w0 (w.putObj l o') (yE l o'::L):=by
 have b:l<w.heap.size:=(bK.1 (H.obj (.head _))).1;exact H.set (EC w l o') (TD (World.putObj_heap_same b)) (λk d=>.inl d)
def Hp.shut(H:Hp B w0 w (yE l (.deferred (some []))::L)){G:WP}(k:∀w1,Hp B w0 w1 L->G w1):∃w1,zS w l w1/\G w1:=
 ⟨_,⟨H.obj (.head _),rfl⟩,k _ (H.KBh (o':=.deferred none)).drop⟩
end
def uK{P:Program}{b:Value}{args:LV}{w:Wq}{R d:EW}(h:zC P b args w R)(f:∀e w',R e w'->d e w'):zC P b args w d:=callX_mono f h
def Ey(es:Array MapEntry)(seen:Array Nat):List MapEntry:=es.toList.filter λe=> !seen.contains e.born
def Ro(es:Array MapEntry):Ey es #[]=es.toList:=by
 simp[Ey]
theorem XR:∀{l:List MapEntry}{e:MapEntry},e∈l->(l.map (·.born)).Nodup->l.Perm (e::l.filter λx=> !decide (x.born=e.born))
 |x::r,e,h,hn=>by
  simp only[aj,bH]at hn;rw[dL];by_cases d:x.born=e.born
  ·have f:x=e:=by
    rcases aP.1 h with rfl|h
    ·rfl
    exact absurd (d▸aU.2 ⟨e,h,rfl⟩) hn.1
   subst f;simp only[decide_true,o8,jM,if_false];refine List.Perm.cons _ ?_;rw[gV.2];intro y g;have:y.born≠x.born:=λe=>hn.1 (e▸aU.2 ⟨y,g,rfl⟩);simp[this]
  have i:e∈r:=by
   rcases aP.1 h with rfl|h
   ·exact absurd rfl d
   exact h
  simp only[d,decide_false,Bool.not_false,if_true];exact((XR i hn.2).cons x).trans (.swap _ _ _)
def leftL_push{es:Array MapEntry}{seen:Array Nat}{e:MapEntry}(f:(es.toList.map (·.born)).Nodup)(g:e∈Ey es seen):(Ey es seen).Perm (e::Ey es (seen.push e.born)):=by
 have d:((Ey es seen).map (·.born)).Nodup:=f.sublist ((kV ..).map _);refine(XR g d).trans ?_;refine List.Perm.cons _ (List.Perm.of_eq ?_);simp only[Ey,pM];congr 1;funext x;simp only[Array.contains_push,Bool.not_or];rw[Bool.and_comm];congr 1
def Rk(es:Array MapEntry)(seen:Array Nat):(leftOf es seen).toList=Ey es seen:=by simp[leftOf,Ey]
section
variable{P:Program}{B:List Nat}{w0 w w':World}{L:List Asn}{t kT eT:TypeId}{b it clock:Nat}{es:Array MapEntry}{seen:Array Nat}{ty:TypeId}
def Hp.rng(H:Hp B w0 w L)(f:Eqw w w')(g:P.underlying t=some (.map kT eT))(h:w.heap[b]? =some (.map es clock)){G:OA->Wq->Prop}
  (k:∀it w1,Hp B w0 w1 (yE it (.mapIter (some b) clock #[] clock)::L)->G (Pq it) w1):∃(p:OA)(w1:Wq),Rng P t w' (.map (some b)) (.pointer p) w1/\G p w1:=by
 have d:w'.heap[b]? =some (.map es clock):=by rw[f.heap];exact h
 refine⟨some ⟨w'.heap.size,0,none⟩,w'.alloc (.mapIter (some b) clock #[] clock),?_,k _ _ (H.KED f ⟨rfl,rfl⟩)⟩;simp only[Rng,Instr.range,Sem.run_bind,xQ g,Result.andThen_ok,run_getObj_map d,Sem.run_pure];rfl
def Hp.nxt(H:Hp B w0 w (yE it (.mapIter (some b) clock seen clock)::L))(eq:Eqw w w')(hb:w.heap[b]? =some (.map es clock))(hold:∀e∈es.toList,e.born<clock)(hn:(es.toList.map (·.born)).Nodup)
  {G0:WP} {G1:Value->Value->Wq->Prop}
  (k0:Ey es seen=[]->G0 w')
  (k1:∀(e:MapEntry)(w1:Wq),e∈es.toList->(Ey es seen).Perm (e::Ey es (seen.push e.born))->Hp B w0 w1 (yE it (.mapIter (some b) clock (seen.push e.born) clock)::L)->
   (Instr.entry (pq it)).run P w1=.ok (.tuple #[e.key,e.val]) w1->G1 e.key e.val w1):
  (∃w1,Nxt P false ty w' (pq it) (.tuple #[.bool false]) w1/\G0 w1)\/(∃(k v:Value)(w1:Wq),Nxt P false ty w' (pq it) (.tuple #[.bool true,k,v]) w1/\G1 k v w1):=by
 have H1:=H.go eq;have hi:w'.heap[it]? =some (.mapIter (some b) clock seen clock):=H1.obj (.head _);have hb':w'.heap[b]? =some (.map es clock):=by rw[eq.heap];exact hb
 rcases run_next_at w' ty it b clock clock seen es clock hi hb' hold (aZ _)with⟨h1,h2⟩|⟨e,he,w1,hw,h2⟩
 ·refine .inl ⟨w',h2,k0 ?_⟩;rw[<- Rk];exact ay (by simpa using h1)
 rw[Rk]at he;have hmem:e∈es.toList:=(dO.1 he).1;have e1:Eqw w' w1:=by rcases hw with rfl|rfl<;>exact⟨rfl,rfl,rfl,rfl⟩
 have H2:=H1.go e1
 have hne:it≠b:=by
  rintro rfl;rw[hb']at hi;cases hi
 have H3:Hp B w0 (setB w1 it (.mapIter (some b) clock (seen.push e.born) clock)) (yE it (.mapIter (some b) clock (seen.push e.born) clock)::L):=H2.KBh (o':=.mapIter (some b) clock (seen.push e.born) clock);have hset:ChangeMaps.setBlock w1 it (.mapIter (some b) clock (seen.push e.born) clock)=setB w1 it (.mapIter (some b) clock (seen.push e.born) clock):=rfl;rw[hset]at h2;refine .inr ⟨_,_,_,h2,k1 e _ hmem (leftL_push hn he) H3 ?_⟩;refine run_entry_at _ it b clock seen es clock e (H3.obj (.head _)) ?_ hmem hn
 have:(setB w1 it (.mapIter (some b) clock (seen.push e.born) clock)).heap[b]? =w1.heap[b]? :=by
  have hc:=EC w1 it (.mapIter (some b) clock (seen.push e.born) clock);have hlt:b<w1.heap.size:=by rw[e1.heap];exact(bK.1 hb').1
  exact hc.2.2.2.2 b hlt (by simpa using λh=>hne h.symm)
 rw[this,e1.heap];exact hb'
end
section
variable{P:Program}{B:List Nat}{w0 w w':World}{L:List Asn}{e t:TypeId}{sz n c o m:Nat}{a:Option Addr}{xs:List Value}{v:Value}
def Hp.ldO(H:Hp B w0 w L)(i:Eqw w w')(S:Scl P t)(j:Asn.own e sz a n c xs∈L)(f:xs[o]? =some v):∃d,a=some d/\Ld P t w' (d.add o) v:=by
 have g:=((H.go i).xh j).cells;obtain⟨d,h,_⟩:=g o v f;exact⟨d,h,g.ld S h f⟩
def Hp.ldOA(H:Hp B w0 w L)(j:Eqw w w')(S:Agg P t m)(q:0<m)(l:Asn.own e sz a n c xs∈L){vs:LV}(f:(xs.drop o).take m=vs)(g:vs.length=m):∃d,a=some d/\Ld P t w' (d.add o) (.agg vs.toArray):=by
 have h:=((H.go j).xh l).cells
 have p:xs≠[]:=by
  rintro rfl;rw[List.drop_nil,List.take_nil]at f;subst f;simp at g;omega
 obtain⟨d,i⟩:=h.some p;exact⟨d,i,h.ldA S i f g⟩
end
def yM(l:LU):Nat:=l.foldl (λn x=>n*256+x.toNat) 0
def EE(x:Int):IntKind.i64.wrap x=if x%18446744073709551616≥9223372036854775808 then x%18446744073709551616-18446744073709551616 else x%18446744073709551616:=by
 simp[IntKind.wrap,IntKind.signed,IntKind.bits]
def LX{x y:Int}(h:x%18446744073709551616=y%18446744073709551616):IntKind.i64.wrap x=IntKind.i64.wrap y:=by
 rw[EE,EE,h]
def Fe(x:Int):IntKind.i64.wrap x%18446744073709551616=x%18446744073709551616:=by
 rw[EE];split<;>omega
def Iu{x y:Int}(h:x%18446744073709551616=y%18446744073709551616):BitVec.ofInt 64 x=BitVec.ofInt 64 y:=by
 apply BitVec.eq_of_toNat_eq;rw[BitVec.toNat_ofInt,BitVec.toNat_ofInt];have:(((2^64:Nat):Int))=18446744073709551616:=by decide
 rw[this,h]
def YL(v y:Nat)(f:y<256):Vc.bits .or .i64 (IntKind.i64.wrap (IntKind.i64.wrap (v:Int)*2^min (Int.toNat 8) (IntKind.bits .i64))) (IntKind.i64.wrap (y:Int))=IntKind.i64.wrap ((v*256+y:Nat):Int):=by
 have a:(2:Int)^min (Int.toNat 8) (IntKind.bits .i64)=256:=by decide
 rw[a];show IntKind.i64.wrap ((BitVec.ofInt 64 (IntKind.i64.wrap (IntKind.i64.wrap (v:Int)*256))|||BitVec.ofInt 64 (IntKind.i64.wrap (y:Int))).toNat:Int)=_
 have b:BitVec.ofInt 64 (IntKind.i64.wrap (IntKind.i64.wrap (v:Int)*256))=BitVec.ofInt 64 (((v%2^56)*256:Nat):Int):=by
  apply Iu;rw[Fe];have:=Fe (v:Int);omega
 have c:BitVec.ofInt 64 (IntKind.i64.wrap (y:Int))=BitVec.ofInt 64 (y:Int):=Iu (Fe _);rw[b,c];apply LX;rw[BitVec.toNat_or,BitVec.toNat_ofInt,BitVec.toNat_ofInt]
 have d:((((v%2^56)*256:Nat):Int)%((2^64:Nat):Int)).toNat=(v%2^56)<<<8:=by
  rw[jf];omega
 have e:((y:Int)%((2^64:Nat):Int)).toNat=y:=om;rw[d,e,<- ji om,jf];omega
def QO(l:LU)(x:UInt8):yM (l++[x])=yM l*256+x.toNat:=by simp[yM,ig]
theorem O8(l:LU):yM l<256^l.length:=by
 have:∀(l:LU)(a:Nat),l.foldl (λn x=>n*256+x.toNat) a<(a+1)*256^l.length:=by
  intro l
  induction l with
  |nil=>intro a;simp
  |cons x r b=>
   intro a;have c:=b (a*256+x.toNat);have d:=x.toNat_lt;rw[dP,aK,nV];have e:(a*256+x.toNat+1)*256^r.length<=((a+1)*256)*256^r.length:=dF _ om;have f:(a+1)*(256^r.length*256)=((a+1)*256)*256^r.length:=by rw[jk (256^r.length) 256,nO]
   omega
 simpa [yM]using this l 0
theorem X8(n:Int)(d:0<=n):∀k,yM (be n k)=n.toNat%256^k:=by
 have b:∀k (a:Nat),(be n k).foldl (λn x=>n*256+x.toNat) a=a*256^k+n.toNat%256^k:=by
  intro k
  induction k with
  |zero=>intro a;simp[be,oU]
  |succ k e=>
   intro a
   have f:(bt n k).toNat=n.toNat/256^k%256:=by
    have c:=UU n k
    have g:(2:Int)^(8*k)=((256^k:Nat):Int):=by
     rw[qI];simp
    rw[g]at c
    have h:n/((256^k:Nat):Int)=((n.toNat/256^k:Nat):Int):=by
     rw[Int.natCast_ediv,jI d]
    rw[h]at c;omega
   rw[be,dP,e,f,nV];have i:n.toNat%(256^k*256)=n.toNat%256^k+256^k*(n.toNat/256^k%256):=Nat.mod_mul;rw[i,iK,nO,jk 256 (256^k),jk (n.toNat/256^k%256)];omega
 intro k;simpa [yM]using b k 0
def Ec{n:Int}{k:Nat}(a:0<=n)(b:n<256^k):(yM (be n k):Int)=n:=by
 rw[X8 n a,lQ]
 ·omega
 have:((256^k:Nat):Int)=256^k:=by simp
 omega
def take_left{α:Type}(a b:List α)(n:Nat)(h:a.length=n):(a++b).take n=a:=by subst h;simp
def drop_left{α:Type}(a b:List α)(n:Nat)(h:a.length=n):(a++b).drop n=b:=by subst h;simp
def X7(l:LU)(i j:Nat):(ByteArray.mk l.toArray).extract i j=⟨((l.take j).drop i).toArray⟩:=by
 apply nP;apply pI;rw[kw,kJ,jS];simp only[gu]
def sb_get(l:LU)(i:Nat)(h:i<l.length):sb ⟨l.toArray⟩ (i:Int)=(l[i].toNat:Int):=by
 simp[sb,aB h]
def valN_take_succ(l:LU)(k:Nat)(h:k<l.length):yM (l.take (k+1))=yM (l.take k)*256+l[k].toNat:=by
 rw[aG h,QO]
def wrapByte(x:UInt8):IntKind.i64.wrap (x.toNat:Int)=(x.toNat:Int):=Ig (by have:=x.toNat_lt;omega)
def mk_append(x y:LU):(ByteArray.mk x.toArray)++(ByteArray.mk y.toArray)=⟨(x++y).toArray⟩:=by
 apply nP;rw[ByteArray.data_append];simp
def Gy(x:LU):(ByteArray.mk x.toArray).size=x.length:=by simp[ByteArray.size]
def qY(s:BA):s=⟨s.data.toList.toArray⟩:=by simp
def YM(v y:Nat)(c:v<36028797018963968)(a:y<256):Vc.bits .or .i64 ((v:Int)*2^min (Int.toNat 8) (IntKind.bits .i64)) (IntKind.i64.wrap (y:Int))=((v*256+y:Nat):Int):=by
 have h:=YL v y a;have b:(2:Int)^min (Int.toNat 8) (IntKind.bits .i64)=256:=by decide
 rw[b]at h⊢;rw[Ig (z:=(v:Int)) om,Ig (z:=(v:Int)*256) om,Ig (z:=((v*256+y:Nat):Int)) om]at h;exact h
section
variable{P:Program}{w:World}{b:Nat}{cs:List Value}{T e:TypeId}{o n c m:Nat}
def Yp(h:Blk w b cs T)(vs:LV)(one:∀u∈vs,u.oneCell'=true)(l:o+vs.length<=cs.length):∃w1,(storeCells ⟨b,o,none⟩ vs).run P w=.ok () w1/\Blk w1 b (over vs o cs) T/\Chg [b] w w1:=by
 have p:=Cm (P:=P) (fz:=(0,0)) vs w cs ⟨b,o,none⟩ o 0 rfl (λj=>by simp[add_lit]) h l (λk _ _=>by simp) one;refine⟨_,p,?_,?_⟩
 ·split
  ·rename_i q;rw[q,yQ];exact h
  exact D7 h.lt
 split
 ·exact Chg.refl _ _
 exact EC _ _ _
def Blk.cpy{dT tx ty:TypeId}{x:Value}{l:LV}(h:Blk w b cs T)(t:P.underlying dT=some (.slice e))(u:yj P e=some 1)(q:Src P 1 tx x m l w)(r:m<=n)(s:o+m<=cs.length):
  ∃w1,Cpy P #[dT,tx] ty w (.slice (some ⟨b,o,none⟩) n c) x (I (m:Int)) w1/\Blk w1 b (over l o cs) T/\Chg [b] w w1:=by
 have G:=q.newsLen;obtain⟨w1,z,A,C⟩:=Yp (P:=P) (o:=o) h l q.one om;refine⟨w1,?_,A,C⟩;have p:Nat.min m n=m:=fE r;have D:(sizeOf e).run P w=.ok 1 w:=yI u w;have F:=q.cells;simp only[Cpy,Builtin.copy_];simp[xQ t,q.len w,p,D,F,z,goInt]
theorem Blk.clr{dT ty:TypeId}{z:Value}(h:Blk w b cs T)(t:P.underlying dT=some (.slice e))(C:zeroOf P e=some z)(r:z.cells= #[z])(p:z.oneCell'=true)(q:o+n<=cs.length):
  ∃w1,Clr P #[dT] ty w (.slice (some ⟨b,o,none⟩) n c) w1/\Blk w1 b (over (List.replicate n z) o cs) T/\Chg [b] w w1:=by
 cases n with
 |zero=>
  refine⟨w,?_,by rw[List.replicate_zero,yQ];exact h,Chg.refl _ _⟩;simp only[Clr,Builtin.clear_];simp[xQ t]
 |succ n=>
  obtain⟨w1,D,F,G⟩:=Yp (P:=P) h (List.replicate (n+1) z) (λu H=>by rw[nR H];exact p) (by simpa using q);refine⟨w1,?_,F,G⟩;have s:(zeroValue e).run P w=.ok z w:=zq C w
  have l:(Builtin.zeroCells z.cells (n+1)).toList=List.replicate (n+1) z:=by
   rw[r];apply dN;intro k;simp only[Builtin.zeroCells,dV,aK,dK,lL,pF,au,gp];by_cases A:k<n+1
   ·rw[if_pos A,iy om];simp[oU]
   rw[if_neg A,bC (by rw[fZ];omega)];rfl
  simp only[Clr,Builtin.clear_];simp[xQ t,s,l,D]
end
section
variable{P:Program}{B:List Nat}{w0 w w':World}{L:List Asn}{b:Nat}{cs:List Value}{T e:TypeId}{o n c m:Nat}
def Hp.cpy{dT tx ty:TypeId}{x:Value}{l:LV}(H:Hp B w0 w (.blk b cs T::L))(r:Eqw w w')(s:P.underlying dT=some (.slice e))(t:yj P e=some 1)(u:Src P 1 tx x m l w')(q:m<=n)(p:o+m<=cs.length){G:Int->Wq->Prop}
  (k:∀w1,Hp B w0 w1 (.blk b (over l o cs) T::L)->G (m:Int) w1):∃(i:Int)(w1:Wq),Cpy P #[dT,tx] ty w' (.slice (some ⟨b,o,none⟩) n c) x (I i) w1/\G i w1:=by
 obtain⟨w1,z,A,C⟩:=Blk.cpy (ty:=ty) ((H.go r).blk (.head _)) s t u q p;exact⟨_,w1,z,k w1 ((H.go r).set C A λk D=>.inl D)⟩
def Hp.clr{dT ty:TypeId}{z:Value}(H:Hp B w0 w (.blk b cs T::L))(r:Eqw w w')(s:P.underlying dT=some (.slice e))(t:zeroOf P e=some z)(q:z.cells= #[z])(l:z.oneCell'=true)(p:o+n<=cs.length){G:WP}
  (k:∀w1,Hp B w0 w1 (.blk b (over (List.replicate n z) o cs) T::L)->G w1):∃(w1:Wq),Clr P #[dT] ty w' (.slice (some ⟨b,o,none⟩) n c) w1/\G w1:=by
 obtain⟨w1,u,A,C⟩:=Blk.clr (ty:=ty) ((H.go r).blk (.head _)) s t q l p;exact⟨w1,u,k w1 ((H.go r).set C A λk D=>.inl D)⟩
end
section
variable{x:Asn}{L L1 L':List Asn}{a b c d e f g h i j k:Asn}
def Jt(h:L.Perm (x::L1))(l:L1.Perm L'):L.Perm (x::L'):=h.trans (l.cons x)
def Ph:(a::L).Perm (a::L):=.refl _
def O9:(a::b::L).Perm (b::a::L):=Em [a] b L
def QF:(a::b::c::L).Perm (c::a::b::L):=Em [a,b] c L
end
def FU(v a x c:LV)(h:v.length=x.length):over v a.length (a++(x++c))=a++(v++c):=by
 apply dN;intro k;rw[Ip _ _ _ (by simp[h])];by_cases l:k<a.length
 ·rw[if_neg om,bQ l,bQ l]
 by_cases p:k<a.length+v.length
 ·rw[if_pos om,bg om,bQ om]
 rw[if_neg om,bg om,bg om,bg om,bg om,h]
def Vb{P:Program}{t:TypeId}{p:OA}{x y:Operand}{w:Wq}(h:P.underlying t=some (.pointer (P.pointee t))):Eqv P .eql t x y w (.pointer p) (.pointer none) p.isNone:=by
 have:=run_eql_pointer_nil (w:=w) t p h;simp only[Eqv,Sem.run_bind,eqGuard];simp[this]
def PE{P:Program}{t:TypeId}{p:OA}{x y:Operand}{w:Wq}(h:P.underlying t=some (.pointer (P.pointee t))):Eqv P .neq t x y w (.pointer p) (.pointer none) (!p.isNone):=by
 have:=run_neq_pointer_nil (w:=w) t p h;simp only[Eqv,Sem.run_bind,eqGuard];simp[this]
section
variable{B:List Nat}{w0 w w':World}{L:List Asn}{x y x' y':Asn}
end
def Hp.BM{B:Nq}{w0 w:Wq}{L R:List Asn}(H:Hp B w0 w (L++R)):Hp B w0 w L:=
 ⟨H.chg,λb l=>H.ok b (aS _ l),λb l=>H.own b (aS _ l),(eP.1 H.sep).1⟩
def FN{K:Type}(al:List (K×Value)):Prop:=(al.map (·.1)).Nodup
section
variable{K:Type}[DecidableEq K]
theorem FV:∀{al:List (K×Value)},FN al->∀{k:K}{v:Value},xZ al k=some v↔(k,v)∈al
 | [],h,k,v=>by simp[xZ]
 |(x,u)::r,h,k,v=>by
  simp only[FN,aj,bH]at h;simp only[xZ,aP,Prod.mk.injEq];by_cases e:k=x
  ·subst e;rw[if_pos rfl];refine⟨λa=>.inl ⟨rfl,(Option.some.inj a).symm⟩,λa=>?_⟩;rcases a with⟨_,rfl⟩|a
   ·rfl
   exact absurd (aU.2 ⟨_,a,rfl⟩) h.1
  rw[if_neg e,FV (al:=r) h.2];exact⟨.inr,λa=>a.elim (λb=>absurd b.1 e) id⟩
theorem Jo:∀{al:List (K×Value)}{k:K},xZ al k=none↔k∉al.map (·.1)
 | [],k=>by simp[xZ]
 |(x,u)::r,k=>by
  simp only[xZ,aj,aP,not_or];by_cases e:k=x
  ·rw[if_pos e];simp[e]
  rw[if_neg e,Jo (al:=r)];simp[e]
def KDi(al:List (K×Value))(k:K):List (K×Value):=al.filter λp=> !decide (p.1=k)
def acut_none:∀{al:List (K×Value)}{k:K},k∉al.map (·.1)->KDi al k=al:=by
 intro al k h;refine gV.2 λp a=>?_;have:p.1≠k:=λe=>h (aU.2 ⟨p,a,e⟩);simp[this]
theorem VB:∀{al:List (K×Value)},FN al->∀(k:K),zx al k=KDi al k
 | [],h,k=>rfl
 |(x,u)::r,h,k=>by
  simp only[FN,aj,bH]at h;simp only[zx,KDi,dL];by_cases e:k=x
  ·subst e;rw[if_pos rfl];simp;exact(acut_none h.1).symm
  have a:x≠k:=λh=>e h.symm;rw[if_neg e];simp only[a,decide_false,Bool.not_false,if_true,VB (al:=r) h.2 k,KDi]
end
structure Std(w:Wq)(L:List Asn):Prop where
 ok:∀a∈L,a.ok w
 sep:L.Pairwise λa b=>∀k∈a.foot,k∉b.foot
def xq(L:List Asn):Nq:=L.flatMap Asn.foot
def BD{L:List Asn}{k:Nat}:k∈xq L↔∃a∈L,k∈a.foot:=by simp[xq]
section
variable{B:List Nat}{w0 w w':World}{L L1 L2 M R:List Asn}
def Hp.Cb(h:Std w L):Hp (xq L) w w L:=⟨Chg.refl _ _,h.ok,λa b k c=>.inl (BD.2 ⟨a,b,c⟩),h.sep⟩
def Hp.std(H:Hp B w0 w L):Std w L:=⟨H.ok,H.sep⟩
def Hp.KCE(H:Hp B w0 w (L1++L2)):Std w L1:=H.BM.std
def Hp.KEX(H:Hp B w0 w (L1++L2))(a:Hp (xq L1) w w' M):Hp B w0 w' (M++L2):=Hp.use H a λk b=>BD.1 b
def Hp.GR(H:Hp B w0 w L)(a:Hp (xq L) w w' M):Hp B w0 w' M:=by
 have h:Hp B w0 w (L++[]):=by rw[aX];exact H
 have:=h.KEX a
 rwa [aX]at this
end
def pkA(F:Nq)(Q:List Asn->Prop):Asn:=.any F λw=>∃L,Q L/\Std w L/\∀k∈xq L,k∈F
section
variable{B F:List Nat}{w0 w w':World}{L M R:List Asn}{Q Q':List Asn->Prop}
def Std.of(h:Std w L)(e:∀k∈xq L,w'.heap[k]? =w.heap[k]?):Std w' L:=
 ⟨λa b=>Asn.Ri (h.ok a b) λk c=>e k (BD.2 ⟨a,b,c⟩),h.sep⟩
def pk_ok(c:Q L)(st:Std w L):(pkA (xq L) Q).ok w:=by
 refine⟨λk b=>?_,λw' d=>⟨L,c,st.of d,λk b=>b⟩⟩;obtain⟨a,e,b⟩:=BD.1 b;exact Asn.Jb (st.ok a e) k b
def E5(h:(pkA F Q).ok w):∃L,Q L/\Std w L/\∀k∈xq L,k∈F:=h.2 w λ_ _=>rfl
def Hp.pack(H:Hp B w0 w (M++L))(g:Q M):Hp B w0 w (pkA (xq M) Q::L):=by
 have f:=eP.1 H.sep;refine⟨H.chg,λa d=>?_,λa d k c=>?_,bF.2 ⟨λb h k c=>?_,f.2.1⟩⟩
 ·rcases aP.1 d with rfl|d
  ·exact pk_ok g H.KCE
  exact H.ok a (aI _ d)
 ·rcases aP.1 d with rfl|d
  ·obtain⟨x,e,c⟩:=BD.1 (show k∈xq M from c);exact H.own x (aS _ e) k c
  exact H.own a (aI _ d) k c
 obtain⟨x,e,c⟩:=BD.1 (show k∈xq M from c);exact f.2.2 x e b h k c
def Hp.D5(H:Hp B w0 w (M++L))(a:Q M):∃F,Hp B w0 w (pkA F Q::L):=⟨_,H.pack a⟩
def Hp.unpack(H:Hp B w0 w (pkA F Q::L)):∃M,Q M/\Hp B w0 w (M++L)/\∀k∈xq M,k∈F:=by
 obtain⟨M,g,st,e⟩:=E5 (H.ok _ (.head _));have f:=bF.1 H.sep;refine⟨M,g,⟨H.chg,λa c=>?_,λa c k d=>?_,eP.2 ⟨st.sep,f.2,λa c b h k d=>f.1 b h k (e k (BD.2 ⟨a,c,d⟩))⟩⟩,e⟩
 ·rcases aT.1 c with c|c
  ·exact st.ok a c
  exact H.ok a (.tail _ c)
 rcases aT.1 c with c|c
 ·exact H.own _ (.head _) k (e k (BD.2 ⟨a,c,d⟩))
 exact H.own a (.tail _ c) k d
def BU(h:(pkA F Q).ok w):Hp F w w [pkA F Q]:=Hp.II h
end
def wR(a:Addr):a.add 0=a:=by unfold Addr.add;split<;>simp_all
def AL{L M:List Asn}(h:∀(f:List Asn->Nat)(g:Asn->Nat),f []=0->(∀x l,f (x::l)=g x+f l)->(∀a b,f (a++b)=f a+f b)->(∀a b,List.Perm a b->f a=f b)->f L=f M):L.Perm M:=by
 classical
 rw[oq];intro z;refine h (λl=>l.count z) (λx=>if x==z then 1 else 0) rfl (λx l=>?_) (λa b=>pX) (λa b c=>c.count_eq z);rw[ny,iG]
section
variable{K:Type}[DecidableEq K]{kt:KCY K}
def Uz{a:Array MapEntry}{j:Nat}{e:MapEntry}(f:(a.toList.map (·.born)).Nodup)(g:a[j]? =some e):a.findIdx? (λx=>(x.born:Int)==(e.born:Int))=some j:=by
 rw[Array.findIdx?_eq_some_iff_getElem];obtain⟨c,d⟩:=bK.1 g;refine⟨c,by simp[d],λi l=>?_⟩
 have m:a[i].born≠e.born:=by
  intro h;have n:(a.toList.map (·.born))[i]'(by simp;omega)=(a.toList.map (·.born))[j]'(by simp;omega):=by simp[h,d]
  have o:=dE.1 f i j (by simp;omega) (by simp;omega) l;exact o n
 simp;omega
def WM{P:Program}(k:IntKind)(i:Int)(w:Wq):(asInt (.int k i)).run P w=.ok i w:=rfl
end
section
variable{P:Program}{B:List Nat}{w0 w w':World}{L:List Asn}{t kT eT:TypeId}{z v:Value}{b:Nat}
def Hp.xB{cs:LV}{T:TypeId}(H:Hp B w0 w (.blk b cs T::L))(sz n:Nat)(a:cs.length=n*sz)(c:n<=maxLen):Hp B w0 w (.own T sz (Pq b) n n cs::L):=
 H.set (Chg.refl _ _) ⟨a,.inr ⟨b,cs.toArray,(0,0),rfl,bZ _,H.blk (.head _),KBc.zero _,aZ _,c,by simpa using jo a.symm,by simp[<- a]⟩⟩ (λk d=>.inl d)
end
def eqv_slcE{P:Program}{t e:TypeId}{a:OA}{n c d c':Nat}{x y:Operand}{w:Wq}(h:P.underlying t=some (.slice e)):Eqv P .eql t x y w (.slice a n c) (.slice none d c') a.isNone:=by
 have:=Go.Lib.run_eql_slice_nil w t e a n c d c' h;simp only[Eqv,Sem.run_bind,eqGuard];simp[this]
section
variable{P:Program}{w:World}{e:TypeId}{sz n c:Nat}{a:Option Addr}{xs:List Value}
def Own.keep(h:Own w 0 e sz a n c xs){F:Nat}(d:F<=n):Own w 0 e sz a F c (xs.take (F*sz)):=by
 have f:F*sz<=n*sz:=dF _ d;refine⟨by rw[aJ,h.1];omega,?_⟩;rcases h.2 with⟨rfl,rfl,rfl⟩|⟨g,b,i,rfl,j,l,m,r,o,p,q⟩
 ·exact .inl ⟨rfl,om,rfl⟩
 exact .inr ⟨g,b,i,rfl,j,l,m,om,o,p,by rw[<- q,jE,fE f]⟩
def Own.full(h:Own w 0 e sz a n c xs)(d:a≠none):∃ys,ys.length=(c-n)*sz/\Own w 0 e sz a c c (xs++ys):=by
 rcases h.2 with⟨rfl,_⟩|⟨g,b,f,rfl,i,j,l,m,o,p,q⟩
 ·exact(d rfl).elim
 have r:n*sz<=c*sz:=dF _ m;have s:b.toList.length=b.size:=bT;refine⟨(b.toList.take (c*sz)).drop (n*sz),?_,?_,.inr ⟨g,b,f,rfl,i,j,l,aZ _,o,p,?_⟩⟩
 ·rw[bf,aJ,nH];omega
 ·rw[aF,h.1,bf,aJ];omega
 rw[<- q];have:b.toList.take (n*sz)=(b.toList.take (c*sz)).take (n*sz):=by rw[jE,fE r]
 rw[this,bY]
def Own.D6(h:Own w 0 e sz a n c xs)(d:0<n):∃g,a=some ⟨g,0,none⟩:=by
 rcases h.2 with⟨_,f,_⟩|⟨g,b,i,rfl,_⟩
 ·omega
 exact⟨g,rfl⟩
structure Frm(P:Program)(sz:Nat)(x:Value)(lx k:Nat)(news:LV)(w:Wq):Prop where
 len:∀w':Wq,(Builtin.lenOf x).run P w'=.ok lx w'
 cells:(Builtin.firstCells sz k x).run P w=.ok news.toArray w
 newsLen:news.length=k*sz
 one:∀u∈news,u.oneCell'=true
theorem Frm.of{b:OA}{f g k:Nat}{d:LV}(h:Cells w b d)(i:d.length=k*sz)(l:∀u∈d,u.oneCell'=true):Frm P sz (.slice b f g) f k d w:=by
 refine⟨λx=>rfl,?_,i,l⟩;cases b with
 |none=>
  have:d=[]:=by
   cases hn:d with
   |nil=>rfl
   |cons v r=>obtain⟨_,m,_⟩:=h 0 v (by rw[hn];rfl);cases m
  subst this;exact run_firstCells_none w sz k f g
 |some o=>
  refine run_firstCells_some w sz k o f g d i λj v p=>?_;obtain⟨q,s,t⟩:=h j v p;cases s;exact t
def Own.cpy{dT tx ty:TypeId}{x:Value}{z i N c' k:Nat}{b:LV}(h:Own w 0 e sz a n c xs)(H:P.underlying dT=some (.slice e))(R:yj P e=some sz)(o:Frm P sz x z k b w)(T:k=min z N)(p:i+k<=n):
  ∃w1,Cpy P #[dT,tx] ty w (.slice (slA a c i sz) N c') x (I (k:Int)) w1/\Own w1 0 e sz a n c (over b (i*sz) xs)/\Chg (x9 a) w w1:=by
 have J:(sizeOf e).run P w=.ok sz w:=yI R w;have K:=o.cells;have f:Nat.min z N=k:=T.symm;have q:=h.1;have A:=o.newsLen;by_cases m:b=[]
 ·subst m;refine⟨w,?_,by rw[yQ];exact h,Chg.refl _ _⟩;simp only[Cpy,Builtin.copy_];cases r:slA a c i sz<;>simp[xQ H,o.len w,f,J,K,storeCells,goInt]
 have s:0<k*sz:=by rw[<- A];exact fC.2 m
 have U:0<k:=Nat.pos_of_mul_pos_right s;rcases h.2 with⟨rfl,h0,_⟩|⟨g,d,B,rfl,X,L,M,t,C,D,Y⟩
 ·omega
 have F:¬c=i:=om;have O:i*sz+k*sz<=n*sz:=by rw[<- iK];exact dF _ p
 have G:n*sz<=c*sz:=dF _ t;have u:d.toList.length=d.size:=bT;have y:w.heap[g]? =some (.cells d.toList.toArray e B):=by simpa using L
 have l:=Cm (P:=P) (fz:=B) b w d.toList ⟨g,i*sz,none⟩ (i*sz) 0 rfl (λj=>by simp[add_lit]) y om (λZ h1 h2=>M Z om) o.one;rw[if_neg m]at l
 have r:slA (Pq g) c i sz=some ⟨g,i*sz,none⟩:=by
  unfold slA;rw[if_neg F,dG,add_lit,cZ]
 refine⟨_,?_,⟨by rw[yT _ _ _ om];exact q,.inr ⟨g,(over b (i*sz) d.toList).toArray,B,rfl,X,D7 (bK.1 L).1,?_,t,C,?_,?_⟩⟩,EC _ _ _⟩
 ·simp only[Cpy,Builtin.copy_,r];simp[xQ H,o.len w,f,J,K,l,goInt]
 ·rw[dV,yT _ _ _ om,u];exact M
 ·rw[dV,yT _ _ _ om,u];exact D
 show(over b (i*sz) d.toList).take (n*sz)=_;rw[Ot _ _ _ _ om om,Y]
def Own.appIn{t tx ty:TypeId}{by_ m:Nat}{x:Value}{b:LV}(T:Elt P t e sz by_)(h:Own w 0 e sz a n c xs)(F:a≠none)(s:Src P sz tx x m b w)(d:n+m<=c):
  ∃w1,App P #[t,tx] ty w (.slice a n c) x (.slice a (n+m) c) w1/\Own w1 0 e sz a (n+m) c (xs++b)/\Chg (x9 a) w w1:=by
 obtain⟨G,i,z,H,U,rfl,rfl,J⟩:=T;rcases h.2 with⟨rfl,_⟩|⟨g,f,u,rfl,y,A,C,K,B,p,l⟩
 ·exact(F rfl).elim
 have D:n*i.size+b.length<=f.size:=by rw[s.newsLen,<- iK];exact fJ (dF _ d) p
 have o:∀j,j<b.length->(w.cell? ⟨g,0+n*i.size+j,none⟩).isSome=true:=by
  intro j L;have:0+n*i.size+j<f.size:=om;simp[World.cell?,A];omega
 have M:=run_append_room_src w t tx ty e i G H g 0 n c x m b s d o (λj L=>by
  have:=C (0+n*i.size+j) om;obtain⟨X,Y⟩:=u;simpa [World.frozen?,A]using this)
 have q:w.heap[g]? =some (.cells f.toList.toArray e u):=by simpa using A
 have r:f.toList.length=f.size:=bT;obtain⟨N,O⟩:=Jd b w f.toList (0+n*i.size) q om;refine⟨_,M,⟨by rw[aF,h.1,s.newsLen,iK],.inr ⟨g,_,u,rfl,y,N,?_,d,B,?_,?_⟩⟩,O⟩
 ·rw[dV,yT _ _ _ om,r];exact C
 ·rw[dV,yT _ _ _ om,r];exact p
 rw[cZ,kU]at*;have R:=Xd b (n*i.size) f.toList om;rw[iK,<- s.newsLen,R,l]
def Own.clrBehind{dT ty:TypeId}{z:Value}{N c':Nat}(h:Own w 0 e sz a n c xs)(J:P.underlying dT=some (.slice e))(R:zeroOf P e=some z)(s:z.cells.size=sz)(f:∀u∈z.cells.toList,u.oneCell'=true)(T:n+N<=c):
  ∃w1,Clr P #[dT] ty w (.slice (slA a c n sz) N c') w1/\Own w1 0 e sz a n c xs/\Chg (x9 a) w w1:=by
 have t:(zeroValue e).run P w=.ok z w:=zq R w;by_cases x:N=0
 ·subst x;refine⟨w,?_,h,Chg.refl _ _⟩;simp only[Clr,Builtin.clear_];cases i:slA a c n sz<;>simp[xQ J]
 rcases h.2 with⟨rfl,h0,rfl⟩|⟨g,b,r,rfl,U,K,L,y,A,B,X⟩
 ·omega
 have C:¬c=n:=om
 have i:slA (Pq g) c n sz=some ⟨g,n*sz,none⟩:=by
  unfold slA;rw[if_neg C,dG,add_lit,cZ]
 have l:b.toList.length=b.size:=bT;have Y:(Builtin.zeroCells z.cells N).toList.length=N*sz:=by rw[bT,size_zeroCells,s]
 have M:n*sz+N*sz<=c*sz:=by rw[<- iK];exact dF _ T
 have m:w.heap[g]? =some (.cells b.toList.toArray e r):=by simpa using K
 have o:=Cm (P:=P) (fz:=r) (Builtin.zeroCells z.cells N).toList w b.toList ⟨g,n*sz,none⟩ (n*sz) 0 rfl (λj=>by simp[add_lit]) m om (λZ h1 h2=>L Z om) (λu O=>by
  have D:∃q∈z.cells.toList,u=q:=by
   simp only[Builtin.zeroCells,lL,aU]at O;obtain⟨k,F,rfl⟩:=O;have F:=dW.1 (by simpa using F);refine⟨_,?_,rfl⟩
   have G:0<z.cells.size:=by
    rcases iO z.cells.size with H|H
    ·rw[H,Nat.mul_zero]at F;omega
    exact H
   have p:=Nat.mod_lt k G;rw[getElem!_pos z.cells _ p];exact Array.getElem_mem_toList p
  obtain⟨q,hq,rfl⟩:=D;exact f _ hq)
 obtain⟨w1,d⟩:∃w1,(storeCells ⟨g,n*sz,none⟩ (Builtin.zeroCells z.cells N).toList).run P w=.ok () w1/\(w1=w\/w1=setB w g (.cells (over (Builtin.zeroCells z.cells N).toList (n*sz) b.toList).toArray e r)):=by
  refine⟨_,o,?_⟩;split
  ·exact .inl rfl
  exact .inr rfl
 refine⟨w1,?_,?_,?_⟩
 ·simp only[Clr,Builtin.clear_,i];have:N=(N-1)+1:=om;rw[this]at d⊢;simp[xQ J,t,d.1]
 ·rcases d.2 with rfl|rfl
  ·exact h
  refine⟨h.1,.inr ⟨g,_,r,rfl,U,D7 (bK.1 K).1,?_,y,A,?_,?_⟩⟩
  ·rw[dV,yT _ _ _ om,l];exact L
  ·rw[dV,yT _ _ _ om,l];exact B
  rw[<- X];apply dN;intro k;rw[fO,fO];split
  ·rw[kU,Ip _ _ _ om,if_neg om]
  rfl
 rcases d.2 with rfl|rfl
 ·exact Chg.refl _ _
 exact EC _ _ _
theorem Own.KEf{t tn ty:TypeId}{by_ m:Nat}{kn kq:IntKind}{z:Value}(T:Elt P t e sz by_)(r:0<sz)(h:Own w 0 e sz a n c xs)(s:P.underlying tn=some (.int kn))(y:zeroOf P e=some z)(C:0<m)(A:c<n+m)(d:n+m<=maxLen)(u:(n+m)*by_<=140737488355328):
  ∃a' c' ys w1,App P #[t,tn] ty w (.slice a n c) (.int kq (m:Int)) (.slice a' (n+m) c') w1/\ys.length=m*sz/\Own w1 0 e sz a' (n+m) c' (xs++ys)/\Chg [] w w1/\∀k∈x9 a',w.heap.size<=k:=by
 obtain⟨D,i,p,B,f,rfl,rfl,l⟩:=T;have x:p=z:=by simp only[zeroOf,B,f,Option.some.injEq]at y;exact y
 subst x
 have o:(Builtin.firstCells i.size n (.slice a n c)).run P w.drew=.ok xs.toArray w.drew:=by
  cases a with
  |none=>
   rcases h.2 with⟨_,rfl,rfl⟩|⟨g,_,_,F,_⟩
   ·have:xs=[]:=ay (by simpa using h.1);subst this;exact run_firstCells_none _ _ _ _ _
   cases F
  |some G=>
   refine run_firstCells_some w.drew i.size n G n c xs h.1 λj v H=>?_;obtain⟨J,K,L⟩:=h.cells j v H;cases K;exact L
 have M:=Go.Lib.run_append_grow_zeros w t tn ty e i p kq kn D s B f a n c xs o m C r A (by simp only[maxLen]at d;omega) (by
  have:m*i.bytes<=(n+m)*i.bytes:=dF _ om;omega) (growslice_fits A u)
 have b:(Builtin.zeroCells p.cells m).toList.length=m*i.size:=by rw[bT,size_zeroCells,l]
 refine⟨_,_,(Builtin.zeroCells p.cells m).toList,_,M,b,⟨by rw[aF,h.1,b,iK],.inr ⟨w.heap.size,_,_,rfl,bZ _,Ii w.drew _,KBc.zero _,grownCap_ge _ _ _ _,grownCap_le_maxLen _ _ _ _ d,?_,?_⟩⟩,⟨rfl,rfl,rfl,by simp,λk q _=>alloc_old w.drew _ k q⟩,λk q=>by simp[x9]at q;subst q;exact aZ _⟩
 ·have N:=grownCap_ge w (n+m) c e;simp only[kG,dV,size_zeroCells,l,h.1,<- iK];refine dF _ ?_;omega
 rw[kR,kR,kU];exact iM (by rw[aF,h.1,b,iK])
end
def sEq:Value->Value->Bool
 |.int _ a,.int _ b=>decide (a=b)
 |.bool a,.bool b=>a==b
 |.string a,.string b=>decide (a=b)
 |_,_=>false
def KFN(a b:BA):(a==b)=decide (a=b):=by
 obtain⟨x⟩:=a;obtain⟨y⟩:=b;show(x==y)=_;rw[iD];simp
def kdB(P:Program)(t:TypeId)(k:Kd):Bool:=match P.underlying t,k with
 |some (.int q),.inl q'=>decide (q=q')
 |some .bool,.inr 0=>true
 |some .string,.inr 1=>true
 |_,_=>false
def Ue(P:Program):List Field->List (Nat×Kd)->Bool
 | [],[]=>true
 | f :: fs, (o, k) :: l => Nat.beq f.offset o && f.name != "_" && kdB P f.type k && Ue P fs l
 |_,_=>false
structure Uy(P:Program)(t:TypeId)(l:List (Nat×Kd)):Prop where
 und:∃fs,P.underlying t=some (.struct fs)/\Ue P fs.toList l=true
 guard:P.eqGuardType P.depth t=false
 stood:P.stoodInHeld t=false
def vU(P:Program)(t:TypeId)(l:List (Nat×Kd)):Bool:=match P.underlying t with
 |some (.struct fs)=>Ue P fs.toList l&& !P.eqGuardType P.depth t&& !P.stoodInHeld t
 |_=>false
def Sz{P:Program}{t:TypeId}{l:List (Nat×Kd)}(h:vU P t l=true):Uy P t l:=by
 unfold vU at h;split at h
 ·rename_i a b;simp at h;exact⟨⟨a,b,h.1.1⟩,h.1.2,h.2⟩
 cases h
def KDL(l:List (Nat×Kd))(cs:LV):Bool:=l.all λp=>match cs[p.1]? with
 |some v=>(fromV p.2 v).isSome
 |none=>false
def eqL(l:List (Nat×Kd))(xs ys:LV):Bool:=l.all λp=>match xs[p.1]?,ys[p.1]? with
 |some a,some b=>sEq a b
 |_,_=>false
section
variable{P:Program}{w:World}
def run_sEq{t:TypeId}{k:Kd}{a b:Value}{d:Nat}(g:kdB P t k=true)(c:(fromV k a).isSome=true)(e:(fromV k b).isSome=true):(Op.equalIn (d+1) t a b).run P w=.ok (sEq a b) w:=by
 unfold kdB at g;split at g
 ·rename_i q j f;have:=of_decide_eq_true g;subst this;cases a<;>simp only[fromV,pO,jM]at c;cases b<;>simp only[fromV,pO,jM]at e;split at c
  ·split at e
   ·rename_i h _ i;have h:=of_decide_eq_true h;have i:=of_decide_eq_true i;subst h;subst i;exact(run_equalIn_int w d t _ _ _ _ f).trans (by rw[sEq,Bool.beq_eq_decide_eq])
   cases e
  cases c
 ·rename_i f;cases a<;>simp[fromV]at c;cases b<;>simp[fromV]at e;exact run_equalIn_bool w d t _ _ f
 ·rename_i f;cases a<;>simp[fromV]at c;cases b<;>simp[fromV]at e;simp[Op.equalIn,run_underlying f,sEq,KFN]
 cases g
def Ja{t:TypeId}{k:Kd}{xs:Array Value}{o:Nat}{v:Value}(a:kdB P t k=true)(b:xs[o]? =some v):(part t xs o).run P w=.ok v w:=by
 refine run_part_plain w ?_ b;unfold kdB at a;unfold Program.plainKey;split at a<;>simp_all
theorem Pz{d:Nat}{xs ys:LV}:∀(c:List Field)(l:List (Nat×Kd)),Ue P c l=true->KDL l xs=true->KDL l ys=true->(Op.eqFields (d+1) xs.toArray ys.toArray c).run P w=.ok (eqL l xs ys) w
 | [],[],_,_,_=>rfl
 |f::c,(o,k)::l,h,hx,hy=>by
  simp only[Ue,dM]at h;obtain⟨⟨⟨g,i⟩,e⟩,j⟩:=h;have:=df g;subst this;simp only[KDL,lm,dM]at hx hy;cases ha:xs[f.offset]? with
  |none=>rw[ha]at hx;cases hx.1
  |some a=>
   cases hb:ys[f.offset]? with
   |none=>rw[hb]at hy;cases hy.1
   |some b=>
    rw[ha]at hx;rw[hb]at hy;have m:=Pz (d:=d) c l j hx.2 hy.2;simp only[Op.eqFields];rw[if_pos (by simpa using i)];simp only[Sem.run_bind,Ja (w:=w) e (show xs.toArray[f.offset]? =some a by simpa using ha),Ja e (show ys.toArray[f.offset]? =some b by simpa using hb),Result.andThen_ok,run_sEq e hx.1 hy.1];have n:eqL ((f.offset,k)::l) xs ys=(sEq a b&&eqL l xs ys):=by simp only[eqL,lm,ha,hb]
    rw[n];cases sEq a b with
    |true=>simpa using m
    |false=>simp
def ZB{t:TypeId}{l:List (Nat×Kd)}(T:Uy P t l){xs ys:LV}(c:KDL l xs=true)(d:KDL l ys=true):(Op.equalIn 10000 t (.agg xs.toArray) (.agg ys.toArray)).run P w=.ok (eqL l xs ys) w:=by
 obtain⟨⟨a,b,f⟩,h,g⟩:=T;have e:P.fieldsOf t=a:=by simp[Program.fieldsOf,b]
 rw[run_equalIn_struct w 9999 t _ _ (by rw[e];exact b) g,e];exact Pz a.toList l f c d
def YC{t:TypeId}{l:List (Nat×Kd)}(T:Uy P t l){xs ys:LV}{x y:Operand}{b:Bool}(a:KDL l xs=true)(c:KDL l ys=true)(d:(!eqL l xs ys)=b):Eqv P .neq t x y w (.agg xs.toArray) (.agg ys.toArray) b:=by
 subst d;simp only[Eqv,Sem.run_bind,run_eqGuard_agg w .neq t x y _ _ T.guard,Result.andThen_ok,run_neq_struct,ZB T a c]
end
structure Q3(P:Program)(t:TypeId):Prop where
 und : ∃ f g, P.underlying t = some (.struct #[f, g]) ∧ f.offset = 0 ∧ g.offset = 1 ∧ f.name ≠ "_" ∧ g.name ≠ "_" ∧ kdB P f.type (.inl .i64) = true ∧ kdB P g.type (.inl .i64) = true
 flat:Uy P t [(0,iI),(1,iI)]
def wP(P:Program)(t:TypeId):Bool:=match P.underlying t with
 | some (.struct ⟨[f, g]⟩) => Nat.beq f.offset 0 && Nat.beq g.offset 1 && f.name != "_" && g.name != "_" && kdB P f.type (.inl .i64) && kdB P g.type (.inl .i64)
 |_=>false
def pair_of{P:Program}{t:TypeId}(h:wP P t=true)(a:vU P t [(0,iI),(1,iI)]=true):Q3 P t:=by
 refine⟨?_,Sz a⟩;unfold wP at h;split at h
 ·rename_i f g c;simp only[dM,bne_iff_ne,ne_eq]at h;obtain⟨⟨⟨⟨⟨d,e⟩,i⟩,j⟩,l⟩,m⟩:=h;exact⟨f,g,c,df d,df e,i,j,l,m⟩
 cases h
def Ai(p:Int×Int):Value:=.agg #[I p.1,I p.2]
section
variable{P:Program}{t:TypeId}{w:World}
def O0{t:TypeId}{k:Kd}{v:Value}{c:Bool}{n:Nat}(h:kdB P t k=true):(Instr.checkKey c (n+1) t v).run P w=.ok () w:=by
 unfold kdB at h;split at h
 ·rename_i a;simp only[Instr.checkKey,Sem.run_bind,xQ a,Result.andThen_ok,Sem.run_pure]
 ·rename_i a;simp only[Instr.checkKey,Sem.run_bind,xQ a,Result.andThen_ok,Sem.run_pure]
 ·rename_i a;simp only[Instr.checkKey,Sem.run_bind,xQ a,Result.andThen_ok,Sem.run_pure]
 cases h
def Uw(T:Q3 P t)(h:Bool)(p:Int×Int)(w:Wq):(Instr.checkKey h 10000 t (Ai p)).run P w=.ok () w:=by
 obtain⟨⟨f,g,i,j,l,d,e,a,c⟩,_⟩:=T;rw[Instr.checkKey];simp only[Ai,Sem.run_bind,xQ i,Result.andThen_ok];rw[<- Array.forIn_toList]
 simp only[List.forIn_cons,List.forIn_nil,Sem.run_bind,d,e,ne_eq,not_false_eq_true,if_true,Result.andThen_ok,Ja (w:=w) a (show(#[I p.1,I p.2]:Array Value)[f.offset]? =some (I p.1) by rw[j];rfl),
  Ja c (show(#[I p.1,I p.2]:Array Value)[g.offset]? =some (I p.2) by rw[l];rfl),O0 a,O0 c,Sem.run_pure]
def pair_equal(T:Q3 P t)(a b:Int×Int)(w:Wq):(Op.equal t (Ai a) (Ai b)).run P w=.ok (decide (a=b)) w:=by
 have:=ZB (w:=w) T.flat (xs:=[I a.1,I a.2]) (ys:=[I b.1,I b.2]) (by simp[KDL,fromV];exact⟨rfl,rfl⟩) (by simp[KDL,fromV];exact⟨rfl,rfl⟩);refine this.trans ?_;simp only[eqL,lm,List.all_nil,dI,bI,sEq,Bool.and_true];congr 1;rw[<- Bool.decide_and];exact decide_eq_decide.2 ⟨λh=>pY h.1 h.2,λh=>by rw[h];exact⟨rfl,rfl⟩⟩
def Jf(es:List MapEntry)(al:List ((Int×Int)×Value)):Prop:=es.map (λe=>(e.key,e.val))=al.map λp=>(Ai p.1,p.2)
def KDz(w:Wq)(b:Nat)(al:List ((Int×Int)×Value)):Prop:=
 ∃es clock,w.heap[b]? =some (.map es clock)/\Jf es.toList al/\(es.toList.map (·.born)).Nodup/\∀e∈es.toList,e.born<clock
theorem Tu(T:Q3 P t)(w:Wq):∀{a:List MapEntry}{al:List ((Int×Int)×Value)}(i:Nat)(k:Int×Int),Jf a al->
  (xZ al k=none/\(Instr.findAsking t (Ai k) a i).run P w=.ok none w)\/
  ∃j v e,xZ al k=some v/\(Instr.findAsking t (Ai k) a i).run P w=.ok (some (i+j,v)) w/\a[j]? =some e/\e.key=Ai k/\e.val=v/\
   (∀c,Jf (a.modify j λe=> {e with key:=Ai k,val:=c}) (xY al k c))
 | [],al,i,k,h=>by
  have:al=[]:=by cases al with
   |nil=>rfl
   |cons p r=>simp[Jf]at h
  subst this;exact .inl ⟨rfl,rfl⟩
 |e::a,al,i,k,h=>by
  cases al with
  |nil=>simp[Jf]at h
  |cons p al=>
   obtain⟨x,u⟩:=p;simp only[Jf,aj,List.cons.injEq,Prod.mk.injEq]at h;obtain⟨⟨f,g⟩,h⟩:=h;simp only[Instr.findAsking,Sem.run_bind,f,pair_equal T,Result.andThen_ok,xZ,xY];by_cases d:k=x
   ·subst d;right;refine⟨0,u,e,by simp,by simp[g],by simp,f,g,λc=>?_⟩;simp only[if_true,Jf,oG,aj,f];rw[h]
   simp only[d,decide_false,if_false,jM];rcases Tu T w (i+1) k h with⟨l,m⟩|⟨j,v,n,l,m,o,q,s,y⟩
   ·exact .inl ⟨l,m⟩
   right;refine⟨j+1,v,n,l,by rw[m];congr 3;omega,by simpa using o,q,s,λc=>?_⟩;have:=y c;simp only[Jf,oH,aj,f,g]at this⊢;rw[this]
theorem We{K:Type}[DecidableEq K]{k:K}{v:Value}:∀(al:List (K×Value)),xZ al k=none->xY al k v=al++[(k,v)]
 | [],_=>rfl
 |(x,u)::r,hn=>by
  simp only[xZ]at hn;split at hn
  ·cases hn
  rename_i a;simp only[xY,if_neg a,We r hn,aH]
def Q3.wide(T:Q3 P t):(match P.underlying t with|some (.array _ _)|some (.struct _)=>true|_=>false)=true:=by
 obtain⟨⟨f,g,a,_⟩,_⟩:=T;rw[a]
structure YT(P:Program)(t kT eT:TypeId)(z:Value):Prop where
 und:P.underlying t=some (.map kT eT)
 key:Q3 P kT
 zero:zeroOf P eT=some z
def rX{kT eT:TypeId}{z:Value}(T:YT P t kT eT z){b:Nat}{al:List ((Int×Int)×Value)}(h:KDz w b al)(k:Int×Int):
  Lk P t false w (.map (some b)) (Ai k) ((xZ al k).getD z)/\Lk P t true w (.map (some b)) (Ai k) (.tuple #[(xZ al k).getD z,.bool (xZ al k).isSome]):=by
 obtain⟨i,d,l,m,n⟩:=h;have a:∀e,(Instr.checkKey e 10000 kT (Ai k)).run P w=.ok () w:=λe=>Uw T.key e k w;have c:(Instr.findKey kT (Ai k) i.toList).run P w=(Instr.findAsking kT (Ai k) i.toList).run P w:=run_findKey_eq w T.key.wide _ _;rcases Tu T.key w 0 k m with⟨f,g⟩|⟨j,v,e,f,g,-⟩
 ·simp only[Lk,Instr.lookup,Sem.run_bind,xQ T.und,Result.andThen_ok,run_getObj_map l,Sem.run_pure,a,c,g,Sem.run_map,zq T.zero,f];constructor<;>rfl
 simp only[Lk,Instr.lookup,Sem.run_bind,xQ T.und,Result.andThen_ok,run_getObj_map l,Sem.run_pure,a,c,g,f];constructor<;>rfl
def Jh(b:Nat)(al:List ((Int×Int)×Value)):Asn:=.any [b] λw=>KDz w b al
def sJ{b:Nat}{al:List ((Int×Int)×Value)}{w:Wq}(h:KDz w b al):(Jh b al).ok w:=
 ⟨by intro k d;simp at d;subst d;obtain⟨f,c,a,_⟩:=h;exact(bK.1 a).1,λw' e=>by
  obtain⟨f,c,a,g⟩:=h;exact⟨f,c,(e b (by simp)).trans a,g⟩⟩
def TW{b:Nat}{al:List ((Int×Int)×Value)}{w:Wq}(h:(Jh b al).ok w):KDz w b al:=h.2 w λ_ _=>rfl
variable{B:List Nat}{w0 w':World}{L:List Asn}{kT eT:TypeId}{z v:Value}{b:Nat}
def Hp.newP(H:Hp B w0 w L)(e:Eqw w w'){w1:Wq}(h:New w' (.map #[] 0) b w1):Hp B w0 w1 (Jh b []::L):=
 (H.go e).add h.chg (sJ ⟨#[],0,h.blk,rfl,by simp,by simp⟩) (by simp[Asn.foot,Jh];exact h.num▸aZ _)
def Hp.lkP{al:List ((Int×Int)×Value)}(T:YT P t kT eT z)(H:Hp B w0 w L)(e:Eqw w w')(m:Jh b al∈L){x:Int×Int}(a:(xZ al x).getD z=v):Lk P t false w' (.map (some b)) (Ai x) v:=by
 subst a;exact(rX T (TW ((H.go e).ok _ m)) x).1
end
section
variable{P:Program}{t:TypeId}
theorem NU{K:Type}[DecidableEq K](k:K)(v:Value):∀(al:List (K×Value)),xZ (xY al k v) k=some v
 | []=>by simp[xY,xZ]
 |(x,u)::r=>by
  rw[xY];by_cases h:k=x
  ·rw[if_pos h,xZ,if_pos h]
  rw[if_neg h,xZ,if_neg h];exact NU k v r
theorem men_pair{kT eT:TypeId}{z:Value}(T:YT P t kT eT z){w:Wq}{b:Nat}{al:List ((Int×Int)×Value)}(h:KDz w b al)(k:Int×Int)(v:Value):
  ∃(u:Value)(i:Int)(w1 Z:Wq),MEn P t w (.map (some b)) (Ai k) (.tuple #[u,I i]) w1/\KDz w1 b (xY al k ((xZ al k).getD z))/\ESt P t w1 (.map (some b)) (I i) v Z/\KDz Z b (xY al k v)/\Chg [b] w Z:=by
 obtain⟨l,d,K,h2,h3,h4⟩:=h;have M:∀e,(Instr.checkKey e 10000 kT (Ai k)).run P w=.ok () w:=λe=>Uw T.key e k w;have N:(Instr.findKey kT (Ai k) l.toList).run P w=(Instr.findAsking kT (Ai k) l.toList).run P w:=run_findKey_eq w T.key.wide _ _;have n:=(bK.1 K).1
 have m:∀o,xZ al k=none->Jf (l.push {key:=Ai k,val:=o,born:=d}).toList (xY al k o):=λo A=>by
  rw[jY,We al A];simp only[Jf,ai,aj,jC]at h2⊢;rw[h2]
 have C:∀o,((l.push {key:=Ai k,val:=o,born:=d}).toList.map (·.born)).Nodup:=λo=>by
  rw[jY,ai,bG];refine⟨h3,by simp,?_⟩;intro a ha c hc;simp at hc;subst hc;obtain⟨e,r,rfl⟩:=aU.1 ha;exact Nat.ne_of_lt (h4 e r)
 have O:∀o,∀e∈(l.push {key:=Ai k,val:=o,born:=d}).toList,e.born<d+1:=λo e r=>by
  rw[jY]at r;rcases aT.1 r with r|r
  ·exact pV (h4 e r)
  simp at r;subst r;exact lM _
 rcases Tu T.key w 0 k h2 with⟨A,X⟩|⟨j,u,e,A,X,g3,g4,g5,g6⟩
 ·obtain⟨f,g⟩:∃f,f=l.push {key:=Ai k,val:=z,born:=d}:=⟨_,rfl⟩;have p:(setB w b (.map f (d+1))).heap[b]? =some (.map f (d+1)):=D7 n;have s:(f.toList.map (·.born)).Nodup:=by rw[g];exact C z
  have D:f[l.size]? =some {key:=Ai k,val:=z,born:=d}:=by rw[g];simp
  have F:=Uz s D
  have q:f.modify l.size (λe=> {e with val:=v})=l.push {key:=Ai k,val:=v,born:=d}:=by
   apply jm;intro i;rw[eQ,g,mG,mG];by_cases J:i=l.size
   ·subst J;simp
   rw[if_neg (λh=>J h.symm),if_neg J,if_neg J]
  refine⟨z,d,setB w b (.map f (d+1)),setB (setB w b (.map f (d+1))) b (.map (l.push {key:=Ai k,val:=v,born:=d}) (d+1)),?_,?_,?_,?_,?_⟩
  ·simp only[MEn,Instr.mapEntry,Sem.run_bind,xQ T.und,Result.andThen_ok,run_getObj_map K,M,N,X,zq T.zero,run_setObj_map K,Sem.run_pure,<- g];rfl
  ·rw[A,g];exact⟨_,_,D7 n,m z A,C z,O z⟩
  ·simp only[ESt,Instr.entryStore,Sem.run_bind,Sem.run_pure,Result.andThen_ok,run_getObj_map p,WM];rw[show f.findIdx? (λe=>(e.born:Int)==(d:Int))=some l.size from F];simp only[run_setObj_map p,q]
  ·rw[KD];exact⟨_,_,D7 n,m v A,C v,O v⟩
  rw[KD];exact EC _ _ _
 have hj:l[j]? =some e:=by simpa using g3
 rw[cZ]at X;obtain⟨f,g⟩:∃f,f=l.modify j λe=> {e with key:=Ai k}:=⟨_,rfl⟩;have p:(setB w b (.map f d)).heap[b]? =some (.map f d):=D7 n
 have G:f.toList.map (·.born)=l.toList.map (·.born):=by
  rw[g,iH];apply dN;intro i;simp only[au,oQ];cases l.toList[i]? with
  |none=>rfl
  |some e=>simp;split<;>rfl
 have s:(f.toList.map (·.born)).Nodup:=by rw[G];exact h3
 have D:f[j]? =some {e with key:=Ai k}:=by rw[g,eQ,if_pos rfl,hj];rfl
 have F:=Uz s D
 have q:f.modify j (λe=> {e with val:=v})=l.modify j λe=> {e with key:=Ai k,val:=v}:=by
  apply jm;intro i;rw[eQ,g,eQ,eQ];split
  ·cases l[i]? <;>rfl
  rfl
 have R:Instr.sameBits 10000 (Ai k) (Ai k)=true:=by
  show Instr.sameBits (9999+1) (Ai k) (Ai k)=true;simp[Instr.sameBits,Ai]
 have H:(Instr.keyThatStays (Ai k) (Ai k)).run P w=.ok (Ai k) w:=by
  simp[Instr.keyThatStays,R]
 have U:∀o,∀Y∈(l.modify j λe=> {e with key:=Ai k,val:=o}).toList,Y.born<d:=λo Y aa=>by
  have:Y.born∈(l.modify j λe=> {e with key:=Ai k,val:=o}).toList.map (·.born):=aU.2 ⟨Y,aa,rfl⟩;rw[iH,JL]at this;obtain⟨e2,ab,e3⟩:=aU.1 this;rw[<- e3];exact h4 e2 ab
 have y:f=l.modify j λe=> {e with key:=Ai k,val:=u}:=by
  rw[g];apply jm;intro i;rw[eQ,eQ];split
  ·rename_i J;subst J;rw[hj];simp only[dG,g5]
  rfl
 refine⟨u,e.born,setB w b (.map f d),setB (setB w b (.map f d)) b (.map (l.modify j λe=> {e with key:=Ai k,val:=v}) d),?_,?_,?_,?_,?_⟩
 ·simp only[MEn,Instr.mapEntry,Sem.run_bind,xQ T.und,Result.andThen_ok,run_getObj_map K,M,N,X,hj,dG,fG,g4,H,run_setObj_map K,Sem.run_pure,<- g];rfl
 ·rw[A,fG];refine⟨_,_,D7 n,?_,s,?_⟩
  ·rw[y,iH];exact g6 u
  rw[y];exact U u
 ·simp only[ESt,Instr.entryStore,Sem.run_bind,Sem.run_pure,Result.andThen_ok,run_getObj_map p,WM];rw[show f.findIdx? (λx=>(x.born:Int)==(e.born:Int))=some j from F];simp only[run_setObj_map p,q]
 ·rw[KD];refine⟨_,_,D7 n,?_,?_,U v⟩
  ·rw[iH];exact g6 v
  rw[iH,JL];exact h3
 rw[KD];exact EC _ _ _
variable{B:List Nat}{w0 w w':World}{L:List Asn}{kT eT:TypeId}{z v:Value}{b:Nat}
def Hp.KFT{al:List ((Int×Int)×Value)}(T:YT P t kT eT z)(H:Hp B w0 w (Jh b al::L))(e:Eqw w w'){x:Int×Int}{y:Value}(c:(xZ al x).getD z=y){G:WP}
  (kk:∀w1,Hp B w0 w1 (Jh b (xY al x v)::L)->G w1):∃(u:Value)(i:Int)(w1:Wq),MEn P t w' (.map (some b)) (Ai x) (.tuple #[u,I i]) w1/\Lk P t false w1 (.map (some b)) (Ai x) y/\∃a,ESt P t w1 (.map (some b)) (I i) v a/\G a:=by
 obtain⟨u,i,w1,a,d,f,g,h,j⟩:=men_pair T (TW ((H.go e).ok _ (.head _))) x v;refine⟨u,i,w1,d,?_,a,g,kk a ((H.go e).set j (sJ h) λk l=>.inl l)⟩;have:=(rX T f x).1;rw[NU,fG,c]at this;exact this
end
open Go.ChangeShapes Go.WideShapes Go.WideElems
noncomputable section
def RdK(P:Program)(w:Wq):Nat->TypeId->(LV->Prop)->Prop
 |0,_,K=>∃cs,K cs
 |n+1,t,K=>match P.underlying t with
  |some (.int k)=>∃i,inR k i/\K [.int k i]
  |some .bool=>∃b,K [.bool b]
  |some .string=>∃s:BA,s.size<=reachBytes/\K [.string s]
  |some (.slice e)=>∃(a:OA)(cap:Nat)(els:List (LV)),els.length<=cap/\cap<=maxLen/\els.length*P.bytesOf e<=reachBytes/\(a=none->els=[])/\(∀x∈els,RdK P w n e (λcs=>x=cs))/\Cells w a els.flatten/\K [.slice a els.length cap]
  |some (.struct fs)=>KEj (RdK P w n) (fs.toList.map (·.type)) K
  |_=>∃cs,K cs
def ofC(b:Option Bool)(cs:LV):Value:=match b with
 |some true=>.agg cs.toArray
 |_=>cs.headD .nilFunc
section
variable{H:Type}{enc:TypeId×Value->H}{P:Program}{w:World}{base:Nat}{spare:Nat->Bool}{held:Bool}
def lit_inR{k:IntKind}{n:Int}(h:(Lit.int k n).wf=true):inR k n:=by
 simpa [Lit.wf,inR]using h
theorem Y3:∀(sz:Nq)(cs:LV),cs.length=sz.sum->((List.range sz.length).map λi=>(cs.drop (sz.take i).sum).take (sz.getD i 0)).flatten=cs
 | [],cs,h=>by
  have:cs=[]:=ay (by simpa using h);simp[this]
 |n::r,cs,h=>by
  have a:=Y3 r (cs.drop n) (by simp at h⊢;omega);rw[aK,jq,aj,nI,dB]
  have e:((λi=>(cs.drop ((n::r).take i).sum).take ((n::r).getD i 0))∘Nat.succ)=λi=>((cs.drop n).drop (r.take i).sum).take (r.getD i 0):=by
   funext i;simp[dS]
  rw[e,a];simp[bY]
theorem ofC_eq{r:Reach}{g:Nat}{t:TypeId}{v:Value}(f:match P.underlying t with|some (.int _)|some .bool|some .string|some (.slice _)|some (.struct _)=>True|_=>False)(e:Value.okWide P w r g t v):ofC (KAw P t) v.cells.toList=v:=by
 cases hu:P.underlying t with
 |none=>rw[hu]at f;exact f.elim
 |some d=>
  rw[hu]at f;cases d<;>try exact f.elim
  ·obtain⟨b,rfl⟩:=okWide_bool hu e;simp[ofC,KAw,hu,Value.cells]
  ·obtain⟨b,rfl⟩:=okWide_int hu e;simp[ofC,KAw,hu,Value.cells]
  ·obtain⟨b,rfl⟩:=okWide_string hu e;simp[ofC,KAw,hu,Value.cells]
  ·obtain⟨a,l,c,rfl⟩:=okWide_slice hu e;simp[ofC,KAw,hu,Value.cells]
  obtain⟨h,rfl,_⟩:=okWide_struct hu e;simp[ofC,KAw,hu,Value.cells]
def VA(P:Program)(t:TypeId):Bool:=Nat.blt t P.types.size&&P.readableRec t&&match P.underlying t with
 |some (.int _)|some .bool|some .string|some (.slice _)|some (.struct _)=>true
 |_=>false
def Yl{t:TypeId}(h:VA P t=true):t<P.types.size/\P.readableRec t=true/\match P.underlying t with|some (.int _)|some .bool|some .string|some (.slice _)|some (.struct _)=>True|_=>False:=by
 simp only[VA,dM]at h;refine⟨fM (lM _) (jy h.1.1),h.1.2,?_⟩;have:=h.2;split at this<;>simp_all
theorem SL(d:laidOutB P=true){W W':Wq}{f:Nat->Bool}(g:Go.RowKit.Below W.heap.size W W'):∀{c:List TypeId}{vs:LV}{ds:List (DataW H)}{b:List MemPlace},c.all (VA P)=true->(∀x∈b,x.block<W.heap.size)->(∀x∈b,f x.block=true)->
  DataW.TrodAll enc P W 0 (λ_=>true) true c vs ds b->DataW.TrodAll enc P W' 0 f true c vs ds b
 | [],[],[],_,_,_,_,h=>h
 |_::_,_::_,_::_,_,hp,hlt,hs,⟨p,q,h1,h2,e⟩=>by
  simp only[lm,dM]at hp;obtain⟨i,j,l⟩:=Yl hp.1
  exact⟨p,q,Trod_stays d j i h1 (λx a=>g.same (hlt x (by rw[e];exact aS _ a))) (λx a=>hs x (by rw[e];exact aS _ a)),
   SL d g hp.2 (λx a=>hlt x (by rw[e];exact aI _ a)) (λx a=>hs x (by rw[e];exact aI _ a)) h2,e⟩
theorem Rx{W:Wq}:∀{a:List TypeId}{vs:LV}{ds:List (DataW H)}{b:List MemPlace},DataW.TrodAll enc P W base spare held a vs ds b->ds.length=a.length
 | [],[],[],_,_=>rfl
 |_::_,_::_,_::_,_,⟨_,_,_,h2,_⟩=>by simp[Rx h2]
end
def Chg.below{w w':Wq}(h:Chg [] w w'):Go.RowKit.Below w.heap.size w w':=⟨h.1,h.2.1,h.2.2.1,h.size,λk a=>h.2.2.2.2 k a (by simp)⟩
end
noncomputable section
def qc(f:TypeId->(LV->Nat->Prop)->Prop):List TypeId->(LV->Nat->Prop)->Prop
 | [],K=>K [] 0
 |t::r,K=>f t λcs m=>qc f r λl m'=>K (cs++l) (m+m')
def RdW(P:Program)(w:Wq):Nat->TypeId->(LV->Nat->Prop)->Prop
 |0,_,K=>∃cs,K cs 0
 |n+1,t,K=>match P.underlying t with
  |some (.int k)=>∃i,inR k i/\K [.int k i] 0
  |some .bool=>∃b,K [.bool b] 0
  |some .string=>∃s:BA,K [.string s] s.size
  |some (.slice e)=>∃(a:OA)(cap:Nat)(els:List (LV×Nat)),els.length<=cap/\cap<=maxLen/\(a=none->els=[])/\(∀x∈els,RdW P w n e (λcs m=>x.1=cs/\m<=x.2))/\Cells w a (els.map (·.1)).flatten/\K [.slice a els.length cap] ((els.map λx=>x.2+1).sum)
  |some (.struct fs)=>qc (RdW P w n) (fs.toList.map (·.type)) K
  |_=>∃cs,K cs 0
def KEP(P:Program)(w:Wq)(n:Nat):List TypeId->(LV->Nat->Prop)->Prop
 | [],K=>K [] 0
 |t::r,K=>RdW P w n t λcs m=>KEP P w n r λl m'=>K (ofC (KAw P t) cs::l) (m+m')
structure KEr{H:Type}(bk:DataW H->Nat):Prop where
 one:∀d,1<=bk d
 str:∀b,b.length+1<=bk (.lit (.string b))
 sl:∀(l s:List (DataW H)),(l.map bk).sum+1<=bk (.slice l s)
 agg:∀l:List (DataW H),(l.map bk).sum+1<=bk (.agg l)
section
variable{H:Type}{enc:TypeId×Value->H}{P:Program}{w:World}{base:Nat}{spare:Nat->Bool}{held:Bool}{bk:DataW H->Nat}
theorem Yy{f:TypeId->(LV->Nat->Prop)->Prop}:∀(l:List TypeId)(p:List (LV))(q:Nq)(K:LV->Nat->Prop),p.length=l.length->q.length=l.length->
  (∀(i:Nat)(t:TypeId)(x:LV)(b:Nat),l[i]? =some t->p[i]? =some x->q[i]? =some b->∀a:LV->Nat->Prop,(∀m,m+1<=b->a x m)->f t a)->(∀m,m<=q.sum->K p.flatten m)->qc f l K
 | [],[],[],K,_,_,_,hk=>hk 0 (bZ _)
 |t::r,x::p,b::q,K,hl,hl2,hf,hk=>by
  rw[qc];refine hf 0 t x b rfl rfl rfl _ λm n=>?_;refine Yy r p q _ (by simpa using hl) (by simpa using hl2) (λi t y c d e g=>hf (i+1) t y c d e g) λh j=>?_;have:=hk (m+h) (by simp;omega);simpa using this
theorem rdW(hbk:KEr bk)(hl:laidOutB P=true):∀(n:Nat)(fuel:Nat)(t:TypeId)(cs:LV)(x:DataW H×List MemPlace)(K:LV->Nat->Prop),t<P.types.size->DataW.trod enc P w base spare held fuel t cs=some x->(∀m,m+1<=bk x.1->K cs m)->RdW P w n t K:=by
 intro n
 induction n with
 |zero=>intro fuel t cs x K _ _ hk;exact⟨cs,hk 0 (hbk.one _)⟩
 |succ n ih=>
  intro fuel t cs x K ht h hk;unfold RdW;split
  ·rename_i k hu;obtain⟨i,rfl,_,hw⟩:=DataW.trod_int hu h;exact⟨i,lit_inR hw,hk 0 (hbk.one _)⟩
  ·rename_i hu;obtain⟨b,rfl,_⟩:=DataW.trod_bool hu h;exact⟨b,hk 0 (hbk.one _)⟩
  ·rename_i hu;obtain⟨s,rfl,rfl,hs⟩:=DataW.trod_string hu h;have h1:=hbk.str s.data.toList;rw[bT]at h1;exact⟨s,hk s.size h1⟩
  ·rename_i e hu;have he:e<P.types.size:=kid_slice hl ht hu;rcases DataW.trod_slice hu h with⟨rfl,_⟩|⟨a,len,cap,elems,rest,m,rfl,rfl,hxx,hb,h1,h2,hlen,hel,hr1,hr2⟩
   ·exact⟨none,0,[],aZ _,by simp[maxLen],λ_=>rfl,by simp,by intro j v hj;simp at hj,hk _ (hbk.one _)⟩
   rw[hxx]at hk
   have hall:∀i (hi:i<len),∃y,w.cells? base (a.add (i*P.cellsOf e)) (P.cellsOf e)=some y/\∃z,elems[i]? =some z/\DataW.trod enc P w base spare held m e y=some z:=by
    intro i hi;have h3:=hel i hi;rw[aB om,Option.bind_eq_some_iff]at h3;obtain⟨y,hy,hz⟩:=h3;exact⟨y,hy,_,aB om,hz⟩
   obtain⟨els,hels,hget⟩:∃els:List (LV×Nat),els.length=len/\∀i y,els[i]? =some y->w.cells? base (a.add (i*P.cellsOf e)) (P.cellsOf e)=some y.1/\∃z,elems[i]? =some z/\DataW.trod enc P w base spare held m e y.1=some z/\y.2+1=bk z.1:=by
    clear hel hlen h hk h1 hr1 hr2 hxx
    induction len with
    |zero=>exact⟨[],rfl,by simp⟩
    |succ q ihq=>
     obtain⟨els,e1,e2⟩:=ihq λi hi=>hall i om;obtain⟨y,hy,z,hz1,hz2⟩:=hall q om;refine⟨els++[(y,bk z.1-1)],by simp[e1],λi u hu=>?_⟩;rw[gy]at hu;split at hu
     ·exact e2 i u hu
     have hi:i=q:=by
      have:=(aA.1 hu).1;simp at this;omega
     subst hi;simp[e1]at hu;subst hu;have:=hbk.one z.1;exact⟨hy,z,hz1,hz2,by simp only;omega⟩
   have hsum:(els.map λx=>x.2+1)=elems.map λz=>bk z.1:=by
    refine dN λi=>?_;rw[au,au];cases hi:els[i]? with
    |none=>
     have h3:els.length<=i:=kP.1 hi;rw[bC om];rfl
    |some y=>
     obtain⟨_,z,hz,_,hyz⟩:=hget i y hi;rw[hz];simp[hyz]
   have hsz:∀y∈els,y.1.length=P.cellsOf e:=by
    intro y hy;obtain⟨i,hi⟩:=bD hy;exact(World.cells?_some (hget i y hi).1).2.1
   refine⟨some a,cap,els,om,h2,by simp,?_,?_,?_⟩
   ·intro y hy;obtain⟨i,hi⟩:=bD hy;obtain⟨_,z,hzm,hz,hyz⟩:=hget i y hi;exact ih m e y.1 z _ he hz λm' hm'=>⟨rfl,om⟩
   ·have hcell:∀(els:List (LV))(i0:Nat),(∀i y,els[i]? =some y->y.length=P.cellsOf e/\∀j v,y[j]? =some v->w.cell? (a.add ((i0+i)*P.cellsOf e+j))=some v)->∀j v,els.flatten[j]? =some v->w.cell? (a.add (i0*P.cellsOf e+j))=some v:=by
     intro els
     induction els with
     |nil=>intro i0 _ j v hj;simp at hj
     |cons y r ihr=>
      intro i0 hh j v hj;obtain⟨hy,hyc⟩:=hh 0 y rfl;rw[nI,gy]at hj;split at hj
      ·simpa using hyc j v hj
      have:=ihr (i0+1) (λi z hz=>by
       have:=hh (i+1) z hz;rw[show i0+1+i=i0+(i+1) by omega];exact this) (j-y.length) v hj
      rw[iK,Nat.one_mul]at this;rw[show i0*P.cellsOf e+j=i0*P.cellsOf e+P.cellsOf e+(j-y.length) by omega];exact this
    intro j v hj;refine⟨a,rfl,?_⟩
    have:=hcell (els.map (·.1)) 0 (λi y hi=>by
     rw[au,cO]at hi;obtain⟨u,hu2,rfl⟩:=hi;refine⟨hsz u (aC hu2),λj v hv=>?_⟩;have:=(World.cells?_some (hget i u hu2).1).2.2 j (by rw[<- hsz u (aC hu2)];exact(aA.1 hv).1);rw[add_add,hv]at this;simpa using this) j v hj
    simpa using this
   rw[hels];refine hk _ ?_;rw[hsum];have:=hbk.sl (elems.map (·.1)) (rest.map (·.1));rw[dB]at this
   first
    |exact this
    |(refine fJ ?_ (hbk.sl _ _);rw[dB];exact aZ _)
  ·rename_i fs hu;obtain⟨xs,m,_,rfl,hcl,hxl,hf⟩:=DataW.trod_struct hu h;obtain⟨k1,k2,k3⟩:=kid_struct hl ht hu;have hcut:=Y3 (fs.toList.map λf=>P.cellsOf f.type) cs (by rw[hcl,k2])
   refine Yy _ _ (xs.map λz=>bk z.1) _ ?_ (by simp[hxl]) ?_ (λm hm=>by
    rw[hcut];refine hk m (fJ (Nat.succ_le_succ hm) ?_);have:=hbk.agg (xs.map (·.1));rw[dB]at this;exact this)
   ·simp
   intro i t y b h1 h2 h3 K' hK';simp only[au,cO]at h1;obtain⟨f,hfi,rfl⟩:=h1;have hi:i<fs.toList.length:=(aA.1 hfi).1;simp only[aQ,au,iy hi,dG,Option.some.injEq]at h2;have e3:=k3 i f hfi;rw[<- iE,<- e3]at h2
   have e4:(fs.toList.map λf=>P.cellsOf f.type).getD i 0=P.cellsOf f.type:=by
    rw[dH,au,hfi];rfl
   rw[e4]at h2;have h5:=hf i f (by simpa using hfi);rw[h2]at h5;have h6:i<xs.length:=by rw[hxl];simpa using hi
   rw[aB h6]at h5;rw[au,aB h6]at h3;have h7:=Option.some.inj h3;exact ih m f.type y _ _ (k1 f (aC hfi)) h5 λm hm=>hK' m (by rw[<- h7];exact hm)
  exact⟨cs,hk 0 (hbk.one _)⟩
theorem rdAW(hbk:KEr bk)(hl:laidOutB P=true){r:Reach}{b0:Nat}(n:Nat):∀(ts:List TypeId)(vs:LV)(ds:List (DataW H))(ps:List MemPlace)(K:LV->Nat->Prop),ts.all (VA P)=true->(∀(j:Nat) t v,ts[j]? =some t->vs[j]? =some v->Value.okWide P w r b0 t v)->
  DataW.TrodAll enc P w base spare held ts vs ds ps->(∀m,m<=(ds.map bk).sum->K vs m)->KEP P w n ts K
 | [],[],[],ps,K,_,_,_,hk=>hk 0 (bZ _)
 |t::ts,v::vs,d::ds,ps,K,hp,hv,⟨p,q,⟨fuel,h1⟩,h2,_⟩,hk=>by
  simp only[lm,dM]at hp;obtain⟨p1,p2,p3⟩:=Yl hp.1;rw[KEP];refine rdW hbk hl n fuel t _ _ _ p1 h1 λm hm=>?_;refine rdAW hbk hl n ts vs ds q _ hp.2 (λj t v h3 h4=>hv (j+1) t v h3 h4) h2 λm' hm'=>?_;rw[ofC_eq p3 (hv 0 t v rfl rfl)];exact hk _ (by simp;simp only at hm;omega)
end
end
noncomputable section
def law_liftU{C:Checked}{O:Os}{H:Type}{enc:TypeId×Value->H}(f:FuncId)(fn:Func){s:ChangeSpec}{kk:(H:Type)->List (DataW H)->Bool}(n:Nat){t0:TypeId}(own:ownKnob C.prog.godebug=none)(g:O.Started)(o:C.prog.inits.idxOf? f=none)(R:C.prog.funcs[f]? =some fn)
  (hl:laidOutB C.prog=true) (A:fn.params.toList.all (VA C.prog)=true) (B:s.vars=[]) (D:fn.resultTypes= #[t0]) (hb:C.prog.underlying t0=some .bool)
  (T:∀ds:List (DataW H),ds.length=fn.params.toList.length->s.fn H ds= {results:=[.lit (.bool true)],args:=ds})
  (bk:DataW H->Nat) (U:KEr bk) (X:Nat) (Y:∀ds:List (DataW H),kk H ds=true->(ds.map bk).sum<=X) {F:Stop.Interp}
  (h:∃(w:Wq)(c:Tape)(i:Input),w.os=O/\(w.forCall c i).Shaped C.prog/\i.vars=[]/\Input.okWide C.prog (w.forCall c i) .any w.heap.size f i/\
   ({OpenSpec.ofChange s with cond:=some kk}:OpenSpec).pre6 enc C.prog fn [] false (w.forCall c i).memory i.args/\({}:Assume).holds C.prog (lone (Frame.enter C.prog f i.args .normal) [] (w.forCall c i)))
  (d:∀(W:Wq)(args:Array Value),KEP C.prog W n fn.params.toList (λl m=>args.toList=l/\m<=X)->Calls C.prog f args W λe W'=>e=Ej (.bool true)/\Chg [] W W'):
  ReturnsInHanded {} C O f .any (({OpenSpec.ofChange s with cond:=some kk}:OpenSpec).pre6 enc C.prog fn [] false) ((({OpenSpec.ofChange s with cond:=some kk}:OpenSpec).at F).post enc C.prog fn false true false false):=by
 refine returnsInHanded_of_cond (s:= {OpenSpec.ofChange s with cond:=some kk}) rfl own g o R h ?_;intro W base args ds gs before G hW _ J _;have K:=hW;obtain⟨p,q,Z,hV,rfl,aa,ab⟩:=hW;change DataW.TrodVars enc C.prog W (λ_=>true) s.vars gs q at hV;rw[B]at hV;obtain⟨rfl,rfl⟩:=trodVars_none hV;have L:=Rx Z;rw[aX]at J;have ac:=rdAW U hl n fn.params.toList args.toList ds p (λl m=>args.toList=l/\m<=X) A (λj t v h1 h2=>G j t v (by simpa using h1) (by simpa using h2)) Z λm hm=>⟨rfl,fJ hm (Y ds J)⟩;refine(d W args ac).mono λe W' ⟨he,hc⟩=>⟨_,he,?_⟩;have z:=hc.below;have r:=K.lt;simp at r;have a:s.fn H (ds++[])= {results:=[.lit (.bool true)],args:=ds}:=by rw[aX];exact T ds L
 have hR:∀(b:Nat)(u:Nat->Bool)(hd:Bool),DataW.TrodAll enc C.prog W' b u hd fn.resultTypes.toList ((Value.bool true).resultList fn.resultTypes.size) (s.fn H (ds++[])).results []:=λb u hd=>by
  rw[a,D];exact trodAll_mk1 (Go.RowKit.shut_bool hb true)
 have hG:∀u:Nat->Bool,(∀x∈p,u x.block=true)->DataW.TrodAll enc C.prog W' 0 u true fn.params.toList args.toList (s.fn H (ds++[])).args p:=λu hs=>by
  rw[a];exact SL hl z A r hs Z
 have M:∀u:Nat->Bool,DataW.TrodVars enc C.prog W' u s.vars (s.fn H (ds++[])).vars []:=λu=>by
  rw[a,B];rfl
 refine⟨ds,[],p++[],[],p,[],K,hR _ _ _,hG _ (λx y=>by simpa using r x y),M _,World.keptBut_mono (λx y=>⟨y,.inr (by simpa using y)⟩) (z.frame _),λ_=>?_⟩;refine⟨Go.RowKit.ok_one D rfl (Go.RowKit.okWide_bool_mk hb true),_,_,([]++p)++[],⟨[]++p,[],trodAll_append (hG _ (λ_ _=>rfl)) (hR _ _ _),M _,rfl,?_,?_⟩,?_⟩
 ·intro b N y;have h1:=r (.cell b N) (by simpa using y);rw[z.frozen h1];exact aa b N (by simpa using y)
 ·intro ha;simpa using ab ha
 intro x y _;simpa using y
end
end Go.Vc
namespace Go.Nod
structure NX where
 kind:Int
 name:BA
 text:BA
 FP:List (BA×BA)
structure Rw where
 id:Int
 level:Int
 x:NX
inductive Fo where
 |nil
 |cons (id:Int) (x:NX) (kids sibs:Fo)
def flat:Fo->Int->List Rw
 |.nil,_=>[]
 |.cons i x k s,l=>⟨i,l,x⟩::(flat k (l+1)++flat s l)
def ids:Fo->lI
 |.nil=>[]
 |.cons i _ k s=>i::(ids k++ids s)
def xJ:Fo->lI
 |.nil=>[]
 |.cons i _ _ s=>i::xJ s
def AZ:Fo->Int->Int->Option (Int×NX×Fo)
 |.nil,_,_=>none
 |.cons j x k s,p,i=>if j=i then some (p,x,k)else match AZ k j i with
  |some r=>some r
  |none=>AZ s p i
theorem BK:∀(F:Fo)(l:Int),(flat F l).map (·.id)=ids F
 |.nil,_=>rfl
 |.cons i x k s,l=>by rw[flat,ids,aj,ai,BK k,BK s]
theorem Bh:∀(F:Fo)(l:Int),∀r∈flat F l,l<=r.level
 |.nil,_,r,h=>by cases h
 |.cons i x k s,l,r,h=>by
  rw[flat]at h;rcases aP.1 h with rfl|h
  ·exact gz _
  rcases aT.1 h with h|h
  ·have:=Bh k (l+1) r h;omega
  exact Bh s l r h
theorem Fj:∀(F:Fo)(l:Int)(r:Rw),(flat F l).head? =some r->r.level=l
 |.nil,_,r,h=>by cases h
 |.cons i x k s,l,r,h=>by
  rw[flat,List.head?_cons]at h;cases h;rfl
theorem BI:∀(F:Fo)(p i:Int),AZ F p i≠none↔i∈ids F
 |.nil,p,i=>by simp[AZ,ids]
 |.cons j x k s,p,i=>by
  rw[AZ,ids];by_cases h:j=i
  ·simp[h]
  rw[if_neg h,aP,aT];have a:=BI k j i;have c:=BI s p i;cases hl:AZ k j i with
  |some r=>
   rw[hl]at a;simp at a⊢;exact .inr (.inl a)
  |none=>
   rw[hl]at a;have a:i∉ids k:=λd=>(a.2 d) rfl;rw[c];constructor
   ·exact λh=>.inr (.inr h)
   rintro(b|b|b)
   ·exact absurd b.symm h
   ·exact absurd b a
   exact b
def under(i:Int)(f:Fo->Fo):Fo->Fo
 |.nil=>.nil
 |.cons j x k s=>if j=i then .cons j x (f k) s else .cons j x (under i f k) (under i f s)
def yJ(i:Int):Fo->Fo
 |.nil=>.nil
 |.cons j x k s=>if j=i then s else .cons j x (yJ i k) (yJ i s)
def Ed(i:Int)(f:NX->NX):Fo->Fo
 |.nil=>.nil
 |.cons j x k s=>if j=i then .cons j (f x) k s else .cons j x (Ed i f k) (Ed i f s)
theorem Hq{i:Int}{f:Fo->Fo}:∀(F:Fo),i∉ids F->under i f F=F
 |.nil,_=>rfl
 |.cons j x k s,h=>by
  rw[ids,aP,aT]at h;rw[under,if_neg (λe=>h (.inl e.symm)),Hq k (λe=>h (.inr (.inl e))),Hq s (λe=>h (.inr (.inr e)))]
theorem GL{i:Int}:∀(F:Fo),i∉ids F->yJ i F=F
 |.nil,_=>rfl
 |.cons j x k s,h=>by
  rw[ids,aP,aT]at h;rw[yJ,if_neg (λe=>h (.inl e.symm)),GL k (λe=>h (.inr (.inl e))),GL s (λe=>h (.inr (.inr e)))]
theorem JY{i:Int}{f:NX->NX}:∀(F:Fo),i∉ids F->Ed i f F=F
 |.nil,_=>rfl
 |.cons j x k s,h=>by
  rw[ids,aP,aT]at h;rw[Ed,if_neg (λe=>h (.inl e.symm)),JY k (λe=>h (.inr (.inl e))),JY s (λe=>h (.inr (.inr e)))]
structure Mid(F:Fo)(p i l:Int)(q:Int)(x:NX)(k:Fo)(A B:List Rw)(v:Int):Prop where
 fl:flat F l=A++(⟨i,v,x⟩::(flat k (v+1)++B))
 un:∀f,flat (under i f F) l=A++(⟨i,v,x⟩::(flat (f k) (v+1)++B))
 cu:flat (yJ i F) l=A++B
 tu:∀f,flat (Ed i f F) l=A++(⟨i,v,f x⟩::(flat k (v+1)++B))
 le:l<=v
 next:∀r,B.head? =some r->r.level<=v
 up:q=p/\v=l\/l<v/\∃A1 y A2,A=A1++⟨q,v-1,y⟩::A2/\∀z∈A2,v<=z.level
theorem CV:∀(F:Fo)(p i l:Int){q:Int}{x:NX}{k:Fo},(ids F).Nodup->AZ F p i=some (q,x,k)->∃(A B:List Rw)(v:Int),Mid F p i l q x k A B v
 |.nil,p,i,l,q,x,k,_,h=>by cases h
 |.cons j y kk s,p,i,l,q,x,k,hn,h=>by
  rw[ids,bH,bG]at hn;obtain⟨L,g,m,n⟩:=hn;rw[AZ]at h;split at h
  ·rename_i e;cases h;subst e;exact⟨[],flat s l,l,rfl,λf=>by rw[under,if_pos rfl];rfl,by rw[yJ,if_pos rfl];rfl,λf=>by rw[Ed,if_pos rfl];rfl,gz _,λr a=>pz (Fj s l r a),.inl ⟨rfl,rfl⟩⟩
  rename_i e;split at h
  ·rename_i r a;cases h;have M:i∈ids kk:=(BI kk j i).1 (by rw[a];simp);have o:i∉ids s:=λh=>n i M i h rfl;obtain⟨A,B,v,d,u,w,C,J,D,c⟩:=CV kk j i (l+1) g a;refine⟨⟨j,l,y⟩::A,B++flat s l,v,by rw[flat,d];simp,λf=>by rw[under,if_neg e,Hq s o,flat,u];simp,by rw[yJ,if_neg e,GL s o,flat,w];simp,λf=>by rw[Ed,if_neg e,JY s o,flat,C];simp,om,λr a=>?_,.inr ⟨om,?_⟩⟩
   ·cases B with
    |nil=>
     have:=Fj s l r a;omega
    |cons b t=>exact D r a
   rcases c with⟨rfl,rfl⟩|⟨K,A1,z,A2,rfl,G⟩
   ·refine⟨[],y,A,by rw[show l+1-1=l by omega];rfl,λz N=>Bh kk (l+1) z ?_⟩;rw[d];exact aS _ N
   exact⟨⟨j,l,y⟩::A1,z,A2,rfl,G⟩
  rename_i a;have H:i∉ids kk:=λO=>(BI kk j i).2 O a;obtain⟨A,B,v,d,u,w,C,J,D,c⟩:=CV s p i l m h;refine⟨⟨j,l,y⟩::(flat kk (l+1)++A),B,v,by rw[flat,d];simp,λf=>by rw[under,if_neg e,Hq kk H,flat,u];simp,by rw[yJ,if_neg e,GL kk H,flat,w];simp,λf=>by rw[Ed,if_neg e,JY kk H,flat,C];simp,J,D,?_⟩;rcases c with c|⟨K,A1,z,A2,rfl,G⟩
  ·exact .inl c
  exact .inr ⟨K,⟨j,l,y⟩::(flat kk (l+1)++A1),z,A2,by simp,G⟩
def EI(l:List Rw)(i:Int):oN:=l.findIdx? λr=>decide (r.id=i)
def KBr(v:Int):Nat->List Rw->Nat
 |n,[]=>n
 |n,r::t=>if r.level<=v then n else KBr v (n+1) t
def yg(l:List Rw)(k:Nat):Nat:=match l[k]? with
 |some r=>KBr r.level (k+1) (l.drop (k+1))
 |none=>k+1
theorem Ub{v:Int}:∀(X:List Rw)(n:Nat)(B:List Rw),(∀r∈X,v<r.level)->(∀r,B.head? =some r->r.level<=v)->KBr v n (X++B)=n+X.length
 | [],n,[],_,_=>rfl
 | [],n,b::t,_,h=>by
  rw[aO,KBr,if_pos (h b rfl)];rfl
 |x::X,n,B,hX,hB=>by
  have c:=hX x (.head _);rw[aH,KBr,if_neg om,Ub X (n+1) B (λr a=>hX r (.tail _ a)) hB,aK];omega
def ZU{A:List Rw}{r:Rw}{B:List Rw}(h:∀x∈A,x.id≠r.id):EI (A++r::B) r.id=some A.length:=by
 rw[EI,List.findIdx?_append]
 have a:A.findIdx? (λx=>decide (x.id=r.id))=none:=by
  rw[jT];intro x b;simpa using h x b
 rw[a,mQ];simp
def end_mid{A:List Rw}{r:Rw}{k:Fo}{B:List Rw}(a:∀x,B.head? =some x->x.level<=r.level):yg (A++r::(flat k (r.level+1)++B)) A.length=A.length+1+(flat k (r.level+1)).length:=by
 have b:(A++r::(flat k (r.level+1)++B))[A.length]? =some r:=by rw[bg (aZ _),iL];rfl
 have c:(A++r::(flat k (r.level+1)++B)).drop (A.length+1)=flat k (r.level+1)++B:=by
  rw[lV,ik om,aO,gq];rfl
 rw[yg,b];rw[c];exact Ub _ _ _ (λx d=>by have:=Bh k _ x d;omega) a
def Eb(v:Int)(o:Int):List Rw->Int
 | []=>o
 |r::t=>Eb v (if r.level=v-1 then r.id else o) t
def AY(l:List Rw)(k:Nat):Int:=match l[k]? with
 |some r=>Eb r.level 0 (l.take k)
 |none=>0
theorem KW{v:Int}:∀(A:List Rw)(o:Int),(∀z∈A,v<=z.level)->Eb v o A=o
 | [],o,_=>rfl
 |r::t,o,h=>by
  have:=h r (.head _);rw[Eb,if_neg om];exact KW t o λz a=>h z (.tail _ a)
theorem MO{v:Int}:∀(A B:List Rw)(o:Int),Eb v o (A++B)=Eb v (Eb v o A) B
 | [],B,o=>rfl
 |r::t,B,o=>by rw[aH,Eb,Eb,MO t B]
def parent_mid{A1 A2 B:List Rw}{q v:Int}{y:NX}{r:Rw}(a:r.level=v)(h:∀z∈A2,v<=z.level):AY ((A1++⟨q,v-1,y⟩::A2)++r::B) (A1++(⟨q,v-1,y⟩:Rw)::A2).length=q:=by
 have b:((A1++(⟨q,v-1,y⟩:Rw)::A2)++r::B)[(A1++(⟨q,v-1,y⟩:Rw)::A2).length]? =some r:=by rw[bg (aZ _),iL];rfl
 rw[AY,b];dsimp only;rw[iq,a,MO,Eb,if_pos rfl,KW A2 q h]
def KAd(v:Int):Nat->List Rw->Nq
 |_,[]=>[]
 |n,r::t=>if r.level=v+1 then n::KAd v (n+1) t else KAd v (n+1) t
theorem SX{v:Int}:∀(X Y:List Rw)(n:Nat),KAd v n (X++Y)=KAd v n X++KAd v (n+X.length) Y
 | [],Y,n=>rfl
 |r::t,Y,n=>by
  have a:=SX (v:=v) t Y (n+1);have e:n+(r::t).length=n+1+t.length:=by rw[aK];omega
  rw[aH,KAd,KAd,a,e];split
  ·rfl
  rfl
theorem XF{v:Int}:∀(X:List Rw)(n:Nat),(∀r∈X,v+1<r.level)->KAd v n X=[]
 | [],n,_=>rfl
 |r::t,n,h=>by
  have:=h r (.head _);rw[KAd,if_neg om];exact XF t (n+1) λz a=>h z (.tail _ a)
def begins:Fo->Nat->Nq
 |.nil,_=>[]
 |.cons _ _ k s,n=>n::begins s (n+1+(ids k).length)
def BZ(F:Fo)(l:Int):(flat F l).length=(ids F).length:=by rw[<- BK F l,aQ]
theorem WT:∀(F:Fo)(v:Int)(n:Nat),KAd v n (flat F (v+1))=begins F n
 |.nil,_,_=>rfl
 |.cons i x k s,v,n=>by
  rw[flat,KAd,if_pos rfl,SX,XF _ _ (λr a=>by have:=Bh k _ r a;omega),aO,BZ,WT s v,begins]
theorem UG:∀(F:Fo)(n:Nat),(begins F n).length=(xJ F).length
 |.nil,_=>rfl
 |.cons i x k s,n=>by rw[begins,xJ,aK,aK,UG s]
def app:Fo->Fo->Fo
 |.nil,G=>G
 |.cons i x k s,G=>.cons i x k (app s G)
theorem Vh:∀(F G:Fo)(l:Int),flat (app F G) l=flat F l++flat G l
 |.nil,G,l=>rfl
 |.cons i x k s,G,l=>by rw[app,flat,flat,Vh s G l];simp
theorem I5:∀(F G:Fo),xJ (app F G)=xJ F++xJ G
 |.nil,G=>rfl
 |.cons i x k s,G=>by rw[app,xJ,xJ,I5 s G];rfl
def putAt:Nat->Fo->Fo->Fo
 |0,N,F=>app N F
 |n+1,N,.nil=>N
 |n+1,N,.cons i x k s=>.cons i x k (putAt n N s)
theorem YS:∀(n:Nat)(N F:Fo),n<=(xJ F).length->xJ (putAt n N F)=(xJ F).take n++xJ N++(xJ F).drop n
 |0,N,F,_=>by rw[putAt,I5];simp
 |n+1,N,.nil,h=>by simp[xJ]at h
 |n+1,N,.cons i x k s,h=>by
  rw[putAt,xJ,xJ,YS n N s (by rw[xJ,aK]at h;omega)];simp
def Jm(F:Fo)(n:Nat):Nat:=(begins F 0).getD n (ids F).length
theorem QP:∀(F:Fo)(m n:Nat),begins F (m+n)=(begins F n).map (· +m)
 |.nil,_,_=>rfl
 |.cons i x k s,m,n=>by
  rw[begins,begins,aj,show m+n+1+(ids k).length=m+(n+1+(ids k).length) by omega,QP s m,iG m n]
theorem TZ:∀(n:Nat)(N F:Fo)(l:Int),n<=(xJ F).length->flat (putAt n N F) l=(flat F l).take (Jm F n)++flat N l++(flat F l).drop (Jm F n)
 |0,N,F,l,_=>by
  have e:Jm F 0=0:=by
   cases F with
   |nil=>rfl
   |cons i x k s=>rfl
  rw[putAt,Vh,e];simp
 |n+1,N,.nil,l,h=>by simp[xJ]at h
 |n+1,N,.cons i x k s,l,h=>by
  have a:n<=(xJ s).length:=by rw[xJ,aK]at h;omega
  have e:Jm (.cons i x k s) (n+1)=1+(ids k).length+Jm s n:=by
   rw[Jm,Jm,begins,List.getD_cons_succ,show 0+1+(ids k).length=(1+(ids k).length)+0 by omega,QP s,ids,aK,aF];simp;cases(begins s 0)[n]? with
   |none=>simp;omega
   |some b=>simp;omega
  have c:(⟨i,l,x⟩::flat k (l+1):List Rw).length=1+(ids k).length:=by rw[aK,BZ];omega
  have d:flat (.cons i x k s) l=(⟨i,l,x⟩::flat k (l+1))++flat s l:=rfl;have f:flat (putAt (n+1) N (.cons i x k s)) l=(⟨i,l,x⟩::flat k (l+1))++flat (putAt n N s) l:=rfl;rw[f,TZ n N s l a,e,d,<- c];generalize(⟨i,l,x⟩::flat k (l+1):List Rw)=X;rw[List.take_append,lV,aV (lW _ _),ik (show X.length<=_ from lW _ _),gq];simp
end Go.Nod
