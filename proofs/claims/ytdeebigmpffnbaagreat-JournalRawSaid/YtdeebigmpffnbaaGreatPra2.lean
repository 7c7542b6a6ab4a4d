/- Part 2 of 6 of the proof of journalRaw_holds: for every input, from every world that may be reached. -/
import Derived.WalkKit
import Derived.RangeFuncSeq
import Derived.KernelRfl
import Derived.RangeFuncLeaves
import Derived.Test.YtdeebigmpffnbaaGreatChecked
import Derived.Deep.AppendSrc
import Derived.Laws.MakeOwn
import Derived.Laws.BytesArg
import Derived.Laws.BytesString
import Derived.Laws.IdiomStrings
import Derived.Maps.RangeRun
import Derived.Shelf.SlIter.Nil
import Derived.Shelf.SlIterI.Nil
import Derived.Shelf.SortM.Plain
import Derived.Shelf.SortM.SortNone
import Derived.Shelf.SlMaps.Clone
import Derived.StringKeys
import Derived.Laws.Pointers
import Derived.Sort.Walk0
import Derived.Lib.SliceRun
import Derived.Test.YtdeebigmpffnbaaGreatRows
import Derived.ProofKit
import Derived.Laws.StructEq
import Derived.ChangeKeysEq
import Derived.WideKeyRuns
import Derived.Test.YtdeebigmpffnbaaGreatPra1
set_option linter.unusedVariables false
set_option linter.unusedSimpArgs false
set_option maxRecDepth 100000
namespace Go.Proofs.YtdeebigmpffnbaaGreat
open Go Go.Vc
theorem noNum : NoNum Tryz.prog := by
 have h : Tryz.prog.funcs.toList.all (fun fn => !(fn.name == "runtime.NumGoroutine")) = true := by kernel_rfl
 intro f fn hf
 have := List.all_eq_true.1 h fn (by have := Array.mem_of_getElem? hf; simpa using this)
 simpa using this
def new.an : An := { wraps := [],loops := [],joins := [],ranges := [] }
def new.vc (room : Int) (w : World) (R : Ending → World → Prop) : Prop := ∀ b w1,New w (Obj.map #[] 0) b w1 → ∀ b_1 w1_1,New w1 (Obj.map #[] 0) b_1 w1_1 → ∀ b_2 w1,New w1_1 (Obj.cells #[Value.int IntKind.i64 (min (max room (0 : Int)) (65536 : Int)),Value.slice none 0 0,
 Value.map (some b),Value.map (some b_1),Value.slice none 0 0,Value.int IntKind.i64 0,Value.int IntKind.i64 0,Value.bool false] 71) b_2 w1 → R (Ending.returned (Value.pointer (some (Addr.mk b_2 0
 none)))) w1
theorem new.eq (room : Int) (w : World) (R : Ending → World → Prop) : bodyV Tryz.prog new.an Tryz.f7 [.int .i64 room] w R = new.vc room w R := by kernel_rfl
theorem new.ok (room : Int) (w : World) (R : Ending → World → Prop) (h : new.vc room w R) : Calls Tryz.prog 7 #[.int .i64 room] w R :=
 calls_of_bodyV noNum (an := new.an) (args := [.int .i64 room]) Tryz.func7 (by kernel_rfl) ((new.eq room w R).mpr h)
def create.an : An := { wraps := [],loops := [],joins := [],ranges := [] }
def create.vc (d : Option Addr) (name : ByteArray) (w : World) (R : Ending → World → Prop) : Prop := ∀ b w1,New w (Obj.cells #[Value.string name] 9) b w1 → onP d fun a ↦ ∃ b_1,Ld Tryz.prog 4 w1 (Addr.add a 7) (Value.bool b_1) ∧ br b_1 (R (Ending.returned (Value.int IntKind.i64 93)) w1) (∃
 s,Ld Tryz.prog 9 w1 (Addr.mk b 0 none) (Value.string s) ∧ CallV Tryz.prog 30 [Value.string s] w1 fun e w' ↦ ∃ b_2,e = Ending.returned (Value.bool b_2) ∧ br (!b_2) (R
 (Ending.returned (Value.int IntKind.i64 92)) w') (onP d fun a ↦ ∃ a_1 l c,Ld Tryz.prog 68 w' (Addr.add a 1) (Value.slice a_1 l c) ∧ ∀ b_3 w1,New w' (Obj.cells #[Value.int IntKind.i64 0] 3)
 b_3 w1 → ∃ w1_1, St Tryz.prog 3 w1 (Addr.mk b_3 0 none) (Value.int IntKind.i64 (↑l : Int)) w1_1 ∧ onP d fun a ↦ ∃ a_2 l c, Ld Tryz.prog 68 w1_1 (Addr.add a 1) (Value.slice a_2 l c) ∧
 ∀ b_4 w1,New w1_1 (Obj.map #[] 0) b_4 w1 → ∀ b_5 w1_2,New w1 (Obj.cells #[Value.slice none 0 0,Value.slice none 0 0,Value.map (some b_4)] 80) b_5 w1_2 → ∀ b_6 w1,New w1_2 (Obj.cells
 #[Value.pointer (some (Addr.mk b_5 0 none))] 76) b_6 w1 → ∃ a n m w1_3,App Tryz.prog #[68,68] 68 w1 (Value.slice a_2 l c) (Value.slice (some (Addr.mk b_6 0 none)) 1 1) (Value.slice a n m)
 w1_3 ∧ onP d fun a_3 ↦ ∃ w1,St Tryz.prog 68 w1_3 (Addr.add a_3 1) (Value.slice a n m) w1 ∧ CallV Tryz.prog 31 [Value.pointer d,Value.func (Fn.func 32) #[] #[Value.pointer (some
 (Addr.mk b_3 0 none)),Value.pointer (some (Addr.mk b 0 none))]] w1 fun e w' ↦ ∃ i,e = Ending.returned (Value.int IntKind.i64 i) ∧ R (Ending.returned (Value.int IntKind.i64 i)) w'))
theorem create.eq (d : Option Addr) (name : ByteArray) (w : World) (R : Ending → World → Prop) : bodyV Tryz.prog create.an Tryz.f9 [.pointer d,.string name] w R = create.vc d name w R := by kernel_rfl
theorem create.ok (d : Option Addr) (name : ByteArray) (w : World) (R : Ending → World → Prop) (h : create.vc d name w R) : Calls Tryz.prog 9 #[.pointer d,.string name] w R :=
 calls_of_bodyV noNum (an := create.an) (args := [.pointer d,.string name]) Tryz.func9 (by kernel_rfl) ((create.eq d name w R).mpr h)
def write.an : An := { wraps := [],loops := [],joins := [],ranges := [] }
def write.vc (d : Option Addr) (name : ByteArray) (n : Int) (ba : Option Addr) (bn : Nat) (bc : Nat) (w : World) (R : Ending → World → Prop) : Prop := CallV Tryz.prog 33 [Value.pointer d,Value.string name] w fun e w' ↦ ∃ p,e = Ending.returned (Value.pointer p) ∧ onP d fun a ↦ ∃ b,Ld Tryz.prog 4 w' (Addr.add a 7) (Value.bool b) ∧
 br b (R (Ending.returned (Value.int IntKind.i64 93)) w') (∃ b,Eqv Tryz.prog BinOp.eql 76 (Operand.tmp 20) (Operand.const (Value.pointer none)) w' (Value.pointer p) (Value.pointer none) b ∧
 br b (R (Ending.returned (Value.int IntKind.i64 90)) w') (br (decide (n < (0 : Int))) (R (Ending.returned (Value.int IntKind.i64 91)) w') (onP p fun a ↦ ∃ a_1 l c,Ld Tryz.prog 78 w' a
 (Value.slice a_1 l c) ∧ br (decide ((↑l : Int) < n)) (R (Ending.returned (Value.int IntKind.i64 91)) w') (br (decide ((512 : Int) < (↑bn : Int))) (R (Ending.returned (Value.int IntKind.i64 91)) w')
 (onP p fun a ↦ ∃ a_2 l c, Ld Tryz.prog 78 (World.drew w') a (Value.slice a_2 l c) ∧ br (decide (n = (↑l : Int))) (onP d fun a ↦ ∃ i, Ld Tryz.prog 3 (World.drew w') a (Value.int
 IntKind.i64 i) ∧ CallV Tryz.prog 34 [Value.pointer d] (World.drew w') fun e w' ↦ ∃ i_1,e = Ending.returned (Value.int IntKind.i64 i_1) ∧ Ld Tryz.prog 3 w' a (Value.int IntKind.i64
 i) ∧ br (decide (i ≤ i_1)) (R (Ending.returned (Value.int IntKind.i64 94)) w') (CallV Tryz.prog 35 [Value.pointer d] w' fun e w' ↦ ∃ b,e = Ending.returned (Value.bool b) ∧ br b (R
 (Ending.returned (Value.int IntKind.i64 95)) w') (∀ b w1,New w' (Obj.cells (List.toArray (zl Tryz.prog 85)) 85) b w1 → ∃ n_1 w1_1,Cpy Tryz.prog #[29,29] 3 w1 (Value.slice (some
 (Addr.mk b 0 none)) 512 512) (Value.slice ba bn bc) (Value.int IntKind.i64 n_1) w1_1 ∧ onP p fun a ↦ ∃ a_3 l c, Ld Tryz.prog 78 w1_1 a (Value.slice a_3 l c) ∧ br (decide (n = (↑l : Int)))
 (onP p fun a ↦ ∃ a_4 l c,Ld Tryz.prog 78 (World.drew w1_1) a (Value.slice a_4 l c) ∧ ∃ (cs : List Value),Ld Tryz.prog 85 (World.drew w1_1) (Addr.mk b 0 none) (Value.agg
 (List.toArray cs)) ∧ ∃ (e : TypeId),∃ (l_1 : List Value),BuildS Tryz.prog 78 1 [(0,Value.agg (List.toArray cs))] e l_1 ∧ ∀ b_1 w1,New (World.drew w1_1) (Obj.cells (List.toArray l_1) e)
 b_1 w1 → Ld Tryz.prog 78 w1 a (Value.slice a_4 l c) ∧ ∃ a n_2 m w1_2,App Tryz.prog #[78,78] 78 w1 (Value.slice a_4 l c) (Value.slice (some (Addr.mk b_1 0 none)) 1 1) (Value.slice a
 n_2 m) w1_2 ∧ onP p fun a_6 ↦ ∃ w1,St Tryz.prog 78 w1_2 a_6 (Value.slice a n_2 m) w1 ∧ onP p fun a ↦ ∃ a_7 l c,Ld Tryz.prog 78 (World.drew w1) a (Value.slice a_7 l c) ∧ onP p fun a
 ↦ ∃ m,Ld Tryz.prog 77 (World.drew w1) (Addr.add a 2) (Value.map m) ∧ ∃ (cs : List Value),Ld Tryz.prog 85 (World.drew w1) (Addr.mk b 0 none) (Value.agg (List.toArray cs)) ∧ onP a_7
 fun a ↦ ((0 : Int) ≤ n ∧ n < (↑l : Int)) ∧ ∃ w1_3, St Tryz.prog 85 (World.drew w1) (Addr.add a (Int.toNat n * 512)) (Value.agg (List.toArray cs)) w1_3 ∧ ∃ v i w1, MEn Tryz.prog 77
 w1_3 (Value.map m) (Value.int IntKind.i64 n) (Value.tuple #[v,Value.int IntKind.i64 i]) w1 ∧ ∃ w1_4,ESt Tryz.prog 77 w1 (Value.map m) (Value.int IntKind.i64 i) (Value.bool true) w1_4 ∧
 CallV Tryz.prog 36 [Value.pointer d] w1_4 fun (e : Ending) (w' : World) ↦ ∃ i,e = Ending.returned (Value.int IntKind.i64 i) ∧ R (Ending.returned (Value.int IntKind.i64 i)) w') (onP p fun a ↦
 ∃ a_4 l c,Ld Tryz.prog 78 (World.drew w1_1) a (Value.slice a_4 l c) ∧ onP p fun a ↦ ∃ m,Ld Tryz.prog 77 (World.drew w1_1) (Addr.add a 2) (Value.map m) ∧ ∃ (cs : List Value),Ld
 Tryz.prog 85 (World.drew w1_1) (Addr.mk b 0 none) (Value.agg (List.toArray cs)) ∧ onP a_4 fun a ↦ ((0 : Int) ≤ n ∧ n < (↑l : Int)) ∧ ∃ w1, St Tryz.prog 85 (World.drew w1_1) (Addr.add
 a (Int.toNat n * 512)) (Value.agg (List.toArray cs)) w1 ∧ ∃ v i w1_2,MEn Tryz.prog 77 w1 (Value.map m) (Value.int IntKind.i64 n) (Value.tuple #[v,Value.int IntKind.i64 i]) w1_2 ∧ ∃ w1,ESt
 Tryz.prog 77 w1_2 (Value.map m) (Value.int IntKind.i64 i) (Value.bool true) w1 ∧ CallV Tryz.prog 36 [Value.pointer d] w1 fun e w' ↦ ∃ i,e = Ending.returned (Value.int IntKind.i64 i)
 ∧ R (Ending.returned (Value.int IntKind.i64 i)) w')))) (CallV Tryz.prog 35 [Value.pointer d] (World.drew w') fun e w' ↦ ∃ b,e = Ending.returned (Value.bool b) ∧ br b (R (Ending.returned
 (Value.int IntKind.i64 95)) w') (∀ b w1,New w' (Obj.cells (List.toArray (zl Tryz.prog 85)) 85) b w1 → ∃ n_1 w1_1,Cpy Tryz.prog #[29,29] 3 w1 (Value.slice (some (Addr.mk b 0 none))
 512 512) (Value.slice ba bn bc) (Value.int IntKind.i64 n_1) w1_1 ∧ onP p fun a ↦ ∃ a_3 l c, Ld Tryz.prog 78 w1_1 a (Value.slice a_3 l c) ∧ br (decide (n = (↑l : Int))) (onP p fun a ↦ ∃ a_4 l
 c,Ld Tryz.prog 78 (World.drew w1_1) a (Value.slice a_4 l c) ∧ ∃ (cs : List Value),Ld Tryz.prog 85 (World.drew w1_1) (Addr.mk b 0 none) (Value.agg (List.toArray cs)) ∧ ∃ (e :
 TypeId),∃ (l_1 : List Value),BuildS Tryz.prog 78 1 [(0,Value.agg (List.toArray cs))] e l_1 ∧ ∀ b_1 w1,New (World.drew w1_1) (Obj.cells (List.toArray l_1) e) b_1 w1 → Ld Tryz.prog
 78 w1 a (Value.slice a_4 l c) ∧ ∃ a n_2 m w1_2,App Tryz.prog #[78,78] 78 w1 (Value.slice a_4 l c) (Value.slice (some (Addr.mk b_1 0 none)) 1 1) (Value.slice a n_2 m) w1_2 ∧ onP p fun a_6 ↦
 ∃ w1,St Tryz.prog 78 w1_2 a_6 (Value.slice a n_2 m) w1 ∧ onP p fun a ↦ ∃ a_7 l c,Ld Tryz.prog 78 (World.drew w1) a (Value.slice a_7 l c) ∧ onP p fun a ↦ ∃ m,Ld Tryz.prog
 77 (World.drew w1) (Addr.add a 2) (Value.map m) ∧ ∃ (cs : List Value),Ld Tryz.prog 85 (World.drew w1) (Addr.mk b 0 none) (Value.agg (List.toArray cs)) ∧ onP a_7 fun a ↦ ((0 : Int) ≤ n ∧ n <
 (↑l : Int)) ∧ ∃ w1_3, St Tryz.prog 85 (World.drew w1) (Addr.add a (Int.toNat n * 512)) (Value.agg (List.toArray cs)) w1_3 ∧ ∃ v i w1, MEn Tryz.prog 77 w1_3 (Value.map m) (Value.int
 IntKind.i64 n) (Value.tuple #[v,Value.int IntKind.i64 i]) w1 ∧ ∃ w1_4,ESt Tryz.prog 77 w1 (Value.map m) (Value.int IntKind.i64 i) (Value.bool true) w1_4 ∧ CallV Tryz.prog 36
 [Value.pointer d] w1_4 fun e w' ↦ ∃ i,e = Ending.returned (Value.int IntKind.i64 i) ∧ R (Ending.returned (Value.int IntKind.i64 i)) w') (onP p fun a ↦ ∃ a_4 l c,Ld Tryz.prog 78 (World.drew
 w1_1) a (Value.slice a_4 l c) ∧ onP p fun a ↦ ∃ m,Ld Tryz.prog 77 (World.drew w1_1) (Addr.add a 2) (Value.map m) ∧ ∃ (cs : List Value),Ld Tryz.prog 85 (World.drew w1_1) (Addr.mk b
 0 none) (Value.agg (List.toArray cs)) ∧ onP a_4 fun a ↦ ((0 : Int) ≤ n ∧ n < (↑l : Int)) ∧ ∃ w1, St Tryz.prog 85 (World.drew w1_1) (Addr.add a (Int.toNat n * 512)) (Value.agg (List.toArray
 cs)) w1 ∧ ∃ v i w1_2,MEn Tryz.prog 77 w1 (Value.map m) (Value.int IntKind.i64 n) (Value.tuple #[v,Value.int IntKind.i64 i]) w1_2 ∧ ∃ w1,ESt Tryz.prog 77 w1_2 (Value.map m)
 (Value.int IntKind.i64 i) (Value.bool true) w1 ∧ CallV Tryz.prog 36 [Value.pointer d] w1 fun e w' ↦ ∃ i,e = Ending.returned (Value.int IntKind.i64 i) ∧ R (Ending.returned (Value.int
 IntKind.i64 i)) w'))))))))
theorem write.eq (d : Option Addr) (name : ByteArray) (n : Int) (ba : Option Addr) (bn : Nat) (bc : Nat) (w : World) (R : Ending → World → Prop) : bodyV Tryz.prog write.an Tryz.f10 [.pointer d,.string name,.int .i64 n,.slice ba bn bc] w R = write.vc d name n ba bn bc w R := by kernel_rfl
theorem write.ok (d : Option Addr) (name : ByteArray) (n : Int) (ba : Option Addr) (bn : Nat) (bc : Nat) (w : World) (R : Ending → World → Prop) (h : write.vc d name n ba bn bc w R) : Calls Tryz.prog 10 #[.pointer d,.string name,.int .i64 n,.slice ba bn bc] w R :=
 calls_of_bodyV noNum (an := write.an) (args := [.pointer d,.string name,.int .i64 n,.slice ba bn bc]) Tryz.func10 (by kernel_rfl) ((write.eq d name n ba bn bc w R).mpr h)
def open_.an : An := { wraps := [],loops := [],joins := [],ranges := [] }
def open_.vc (d : Option Addr) (name : ByteArray) (w : World) (R : Ending → World → Prop) : Prop := ∀ b w1,New w (Obj.cells #[Value.pointer d,Value.string name,Value.int IntKind.u64 0,Value.slice none 0 0,Value.int IntKind.i64 0,Value.int IntKind.i64 0,Value.slice none 0 0,Value.int
 IntKind.i64 0] 129) b w1 → CallV Tryz.prog 66 [Value.pointer d] w1 fun e w' ↦ ∃ b_1,e = Ending.returned (Value.bool b_1) ∧ br b_1 (R (Ending.returned (Value.tuple #[Value.pointer none,
 Value.int IntKind.i64 93])) w') (br (decide (name = ByteArray.mk #[])) (R (Ending.returned (Value.tuple #[Value.pointer none,Value.int IntKind.i64 92])) w') (br (decide ((56 : Int) <
 (↑(ByteArray.size name) : Int))) (R (Ending.returned (Value.tuple #[Value.pointer none, Value.int IntKind.i64 92])) w') (CallV Tryz.prog 67 [Value.pointer d, Value.string name] w' fun e w' ↦
 ∃ i,e = Ending.returned (Value.int IntKind.i64 i) ∧ br (decide ((2 : Int) ≤ i)) (CallV Tryz.prog 68 [Value.pointer (some (Addr.mk b 0 none))] w' fun e w' ↦ ∃ p i,e = Ending.returned
 (Value.tuple #[Value.pointer p,Value.int IntKind.i64 i]) ∧ R (Ending.returned (Value.tuple #[Value.pointer p,Value.int IntKind.i64 i])) w') (CallV Tryz.prog 69 [Value.pointer (some (Addr.mk
 b 0 none)),Value.slice none 0 0] w' fun e w' ↦ ∃ i,e = Ending.returned (Value.int IntKind.i64 i) ∧ br (!decide (i = (0 : Int))) (R (Ending.returned (Value.tuple #[Value.pointer none,Value.int
 IntKind.i64 i])) w') (R (Ending.returned (Value.tuple #[Value.pointer (some (Addr.mk b 0 none)),Value.int IntKind.i64 0])) w')))))
theorem open_.eq (d : Option Addr) (name : ByteArray) (w : World) (R : Ending → World → Prop) : bodyV Tryz.prog open_.an Tryz.f37 [.pointer d,.string name] w R = open_.vc d name w R := by kernel_rfl
theorem open_.ok (d : Option Addr) (name : ByteArray) (w : World) (R : Ending → World → Prop) (h : open_.vc d name w R) : Calls Tryz.prog 37 #[.pointer d,.string name] w R :=
 calls_of_bodyV noNum (an := open_.an) (args := [.pointer d,.string name]) Tryz.func37 (by kernel_rfl) ((open_.eq d name w R).mpr h)
def lfirm.an : An := { wraps := [],loops := [],joins := [],ranges := [] }
def lfirm.vc (l : Option Addr) (w : World) (R : Ending → World → Prop) : Prop := onP l fun a ↦ ∃ i,Ld Tryz.prog 3 w (Addr.add a 5) (Value.int IntKind.i64 i) ∧ R (Ending.returned (Value.int IntKind.i64 i)) w
theorem lfirm.eq (l : Option Addr) (w : World) (R : Ending → World → Prop) : bodyV Tryz.prog lfirm.an Tryz.f70 [.pointer l] w R = lfirm.vc l w R := by kernel_rfl
theorem lfirm.ok (l : Option Addr) (w : World) (R : Ending → World → Prop) (h : lfirm.vc l w R) : Calls Tryz.prog 70 #[.pointer l] w R :=
 calls_of_bodyV noNum (an := lfirm.an) (args := [.pointer l]) Tryz.func70 (by kernel_rfl) ((lfirm.eq l w R).mpr h)
def lstuck.an : An := { wraps := [],loops := [],joins := [],ranges := [] }
def lstuck.vc (l : Option Addr) (w : World) (R : Ending → World → Prop) : Prop := onP l fun a ↦ ∃ i,Ld Tryz.prog 27 w (Addr.add a 7) (Value.int IntKind.i64 i) ∧ R (Ending.returned (Value.int IntKind.i64 i)) w
theorem lstuck.eq (l : Option Addr) (w : World) (R : Ending → World → Prop) : bodyV Tryz.prog lstuck.an Tryz.f46 [.pointer l] w R = lstuck.vc l w R := by kernel_rfl
theorem lstuck.ok (l : Option Addr) (w : World) (R : Ending → World → Prop) (h : lstuck.vc l w R) : Calls Tryz.prog 46 #[.pointer l] w R :=
 calls_of_bodyV noNum (an := lstuck.an) (args := [.pointer l]) Tryz.func46 (by kernel_rfl) ((lstuck.eq l w R).mpr h)
def crash.an : An := { wraps := [],loops := [(4,[(24,.inl .i64)]),(10,[(63,.inl .i64)])],joins := [],ranges := [] }
def crash.vc (d : Option Addr) (names : Int) (picksa : Option Addr) (picksn : Nat) (picksc : Nat) (w : World) (R : Ending → World → Prop) : Prop := ∀ b w1,New w (Obj.cells #[Value.slice picksa picksn picksc] 30) b w1 → onP d fun a ↦ ∃ i,Ld Tryz.prog 3 w1 a (Value.int IntKind.i64 i) ∧ CallV Tryz.prog 7 [Value.int IntKind.i64 i]
 w1 fun e w' ↦ ∃ p,e = Ending.returned (Value.pointer p) ∧ onP d fun a ↦ ∃ a_1 l c,Ld Tryz.prog 68 w' (Addr.add a 1) (Value.slice a_1 l c) ∧ LoopP (fun (s : Int) (w' : World) (next : Int →
 World → Prop) ↦ br (decide (s < (↑l : Int))) (onP a_1 fun a ↦ ((0 : Int) ≤ s ∧ s < (↑l : Int)) ∧ ∃ p_1, Ld Tryz.prog 76 w' (Addr.add a (Int.toNat s * 1)) (Value.pointer p_1) ∧ onP p fun a ↦ ∃
 a_2 l c,Ld Tryz.prog 68 (World.drew w') (Addr.add a 1) (Value.slice a_2 l c) ∧ CallV Tryz.prog 63 [Value.pointer p_1,Value.func (Fn.func 62) #[] #[Value.pointer (some (Addr.mk b 0
 none))]] (World.drew w') fun e w' ↦ ∃ p_2,e = Ending.returned (Value.pointer p_2) ∧ Ld Tryz.prog 68 w' (Addr.add a 1) (Value.slice a_2 l c) ∧ ∀ b w1,New w' (Obj.cells #[Value.pointer p_2]
 76) b w1 → Ld Tryz.prog 68 w1 (Addr.add a 1) (Value.slice a_2 l c) ∧ ∃ a n m w1_1,App Tryz.prog #[68,68] 68 w1 (Value.slice a_2 l c) (Value.slice (some (Addr.mk b 0 none)) 1 1)
 (Value.slice a n m) w1_1 ∧ onP p fun a_4 ↦ ∃ w1,St Tryz.prog 68 w1_1 (Addr.add a_4 1) (Value.slice a n m) w1 ∧ inR IntKind.i64 (s + (1 : Int)) ∧ next (s + (1 : Int)) w1) (onP d fun a ↦ ∃ m,
 Ld Tryz.prog 67 w' (Addr.add a 3) (Value.map m) ∧ CallV Tryz.prog 64 [Value.map m] w' fun e w' ↦ ∃ m,e = Ending.returned (Value.map m) ∧ onP p fun a ↦ ∃ w1,St Tryz.prog 67
 w' (Addr.add a 2) (Value.map m) w1 ∧ onP d fun a ↦ ∃ a_2 l c,Ld Tryz.prog 69 (World.drew w1) (Addr.add a 4) (Value.slice a_2 l c) ∧ onP d fun a ↦ ∃ a_3 l c_1,Ld Tryz.prog 69
 (World.drew w1) (Addr.add a 4) (Value.slice a_3 l c_1) ∧ ((0 : Int) ≤ min (max names (0 : Int)) (↑l : Int) ∧ min (max names (0 : Int)) (↑l : Int) ≤ (↑c : Int)) ∧ LoopP (fun (s : Int) (w' : World)
 (next : Int → World → Prop) ↦ br (decide (s < (↑(Int.toNat (min (max names (0 : Int)) (↑l : Int))) : Int))) (onP a_2 fun a ↦ ((0 : Int) ≤ s ∧ s < (↑(Int.toNat (min (max names (0 : Int)) (↑l : Int))) :
 Int)) ∧ ∃ v,Ld Tryz.prog 125 w' (Addr.add a (Int.toNat s * 1)) v ∧ onP p fun a ↦ ∃ m,Ld Tryz.prog 67 w' (Addr.add a 2) (Value.map m) ∧ CallX Tryz.prog v [Value.map m] w'
 fun e w' ↦ e = Ending.returned (Value.tuple #[]) ∧ inR IntKind.i64 (s + (1 : Int)) ∧ next (s + (1 : Int)) w') (onP p fun a ↦ ∃ m,Ld Tryz.prog 67 w' (Addr.add a 2) (Value.map m) ∧ CallV
 Tryz.prog 64 [Value.map m] w' fun e w' ↦ ∃ m,e = Ending.returned (Value.map m) ∧ onP p fun a ↦ ∃ w1,St Tryz.prog 67 w' (Addr.add a 3) (Value.map m) w1 ∧ R (Ending.returned
 (Value.pointer p)) w1)) (0 : Int) (World.drew w1))) (0 : Int) w'
theorem crash.eq (d : Option Addr) (names : Int) (picksa : Option Addr) (picksn : Nat) (picksc : Nat) (w : World) (R : Ending → World → Prop) : bodyV Tryz.prog crash.an Tryz.f29 [.pointer d,.int .i64 names,.slice picksa picksn picksc] w R = crash.vc d names picksa picksn picksc w R := by kernel_rfl
theorem crash.ok (d : Option Addr) (names : Int) (picksa : Option Addr) (picksn : Nat) (picksc : Nat) (w : World) (R : Ending → World → Prop) (h : crash.vc d names picksa picksn picksc w R) : Calls Tryz.prog 29 #[.pointer d,.int .i64 names,.slice picksa picksn picksc] w R :=
 calls_of_bodyV noNum (an := crash.an) (args := [.pointer d,.int .i64 names,.slice picksa picksn picksc]) Tryz.func29 (by kernel_rfl) ((crash.eq d names picksa picksn picksc w R).mpr h)
def lall.an : An := { wraps := [],loops := [],joins := [],ranges := [] }
def lall.vc (l : Option Addr) (w : World) (R : Ending → World → Prop) : Prop := onP l fun a ↦ ∃ a_1 l c,Ld Tryz.prog 26 w (Addr.add a 6) (Value.slice a_1 l c) ∧ CallV Tryz.prog 111 [Value.slice a_1 l c] w fun e w' ↦ ∃ a l c,e = Ending.returned (Value.slice a l
 c) ∧ R (Ending.returned (Value.slice a l c)) w'
theorem lall.eq (l : Option Addr) (w : World) (R : Ending → World → Prop) : bodyV Tryz.prog lall.an Tryz.f71 [.pointer l] w R = lall.vc l w R := by kernel_rfl
theorem lall.ok (l : Option Addr) (w : World) (R : Ending → World → Prop) (h : lall.vc l w R) : Calls Tryz.prog 71 #[.pointer l] w R :=
 calls_of_bodyV noNum (an := lall.an) (args := [.pointer l]) Tryz.func71 (by kernel_rfl) ((lall.eq l w R).mpr h)
def lappend.an : An := { wraps := [],loops := [],joins := [],ranges := [] }
def lappend.vc (l : Option Addr) (s : ByteArray) (w : World) (R : Ending → World → Prop) : Prop := br (decide ((65536 : Int) < (↑(ByteArray.size s) : Int))) (R (Ending.returned (Value.tuple #[Value.int IntKind.i64 0, Value.int IntKind.i64 101])) w) ((onP l fun a ↦ ∃ a_1 l_1 c, Ld Tryz.prog
 29 (World.drew w) (Addr.add a 3) (Value.slice a_1 l_1 c) ∧ onP l fun a ↦ ∃ a_2 l_2 c_1,Ld Tryz.prog 26 (World.drew w) (Addr.add a 6) (Value.slice a_2 l_2 c_1) ∧ CallV Tryz.prog 101
 [Value.slice a_1 l_1 c,Value.string s] (World.drew w) fun e w' ↦ ∃ a_3 l_3 c,e = Ending.returned (Value.slice a_3 l_3 c) ∧ Ld Tryz.prog 26 w' (Addr.add a 6) (Value.slice a_2 l_2 c_1) ∧ ∀ b
 w1,New w' (Obj.cells #[Value.string s] 9) b w1 → Ld Tryz.prog 26 w1 (Addr.add a 6) (Value.slice a_2 l_2 c_1) ∧ ∃ a n m w1_1,App Tryz.prog #[26,26] 26 w1 (Value.slice a_2 l_2 c_1)
 (Value.slice (some (Addr.mk b 0 none)) 1 1) (Value.slice a n m) w1_1 ∧ onP l fun a_5 ↦ ∃ w1,St Tryz.prog 29 w1_1 (Addr.add a_5 3) (Value.slice a_3 l_3 c) w1 ∧ onP l fun a_6 ↦ ∃ w1_2,St
 Tryz.prog 26 w1 (Addr.add a_6 6) (Value.slice a n m) w1_2 ∧ onP l fun a ↦ ∃ a_7 l c,Ld Tryz.prog 26 w1_2 (Addr.add a 6) (Value.slice a_7 l c) ∧ R (Ending.returned (Value.tuple
 #[Value.int IntKind.i64 (↑l : Int), Value.int IntKind.i64 0])) w1_2) ∧ onP l fun a ↦ ∃ a_1 l_1 c, Ld Tryz.prog 29 (World.drew w) (Addr.add a 3) (Value.slice a_1 l_1 c) ∧ onP l fun a_2 ↦ ∃ a_3
 l_2 c_1,Ld Tryz.prog 26 (World.drew w) (Addr.add a_2 6) (Value.slice a_3 l_2 c_1) ∧ ∀ b w1,New (World.drew w) (Obj.cells #[Value.string s] 9) b w1 → Ld Tryz.prog 26 w1 (Addr.add
 a_2 6) (Value.slice a_3 l_2 c_1) ∧ Ld Tryz.prog 29 w1 (Addr.add a 3) (Value.slice a_1 l_1 c) ∧ CallV Tryz.prog 101 [Value.slice a_1 l_1 c,Value.string s] w1 fun e w' ↦ ∃ a l_3 c,e
 = Ending.returned (Value.slice a l_3 c) ∧ Ld Tryz.prog 26 w' (Addr.add a_2 6) (Value.slice a_3 l_2 c_1) ∧ ∃ a_5 n m w1,App Tryz.prog #[26,26] 26 w' (Value.slice a_3 l_2 c_1)
 (Value.slice (some (Addr.mk b 0 none)) 1 1) (Value.slice a_5 n m) w1 ∧ onP l fun a_6 ↦ ∃ w1_1,St Tryz.prog 29 w1 (Addr.add a_6 3) (Value.slice a l_3 c) w1_1 ∧ onP l fun a ↦ ∃ w1,St
 Tryz.prog 26 w1_1 (Addr.add a 6) (Value.slice a_5 n m) w1 ∧ onP l fun a ↦ ∃ a_7 l c,Ld Tryz.prog 26 w1 (Addr.add a 6) (Value.slice a_7 l c) ∧ R (Ending.returned (Value.tuple
 #[Value.int IntKind.i64 (↑l : Int), Value.int IntKind.i64 0])) w1)
theorem lappend.eq (l : Option Addr) (s : ByteArray) (w : World) (R : Ending → World → Prop) : bodyV Tryz.prog lappend.an Tryz.f56 [.pointer l,.string s] w R = lappend.vc l s w R := by kernel_rfl
theorem lappend.ok (l : Option Addr) (s : ByteArray) (w : World) (R : Ending → World → Prop) (h : lappend.vc l s w R) : Calls Tryz.prog 56 #[.pointer l,.string s] w R :=
 calls_of_bodyV noNum (an := lappend.an) (args := [.pointer l,.string s]) Tryz.func56 (by kernel_rfl) ((lappend.eq l s w R).mpr h)
def lflush.an : An := { wraps := [],loops := [],joins := [],ranges := [] }
def lflush.vc (l : Option Addr) (w : World) (R : Ending → World → Prop) : Prop := onP l fun a ↦ ∃ i,Ld Tryz.prog 27 w (Addr.add a 7) (Value.int IntKind.i64 i) ∧ br (!decide (i = (0 : Int))) (onP l fun a ↦ ∃ i,Ld Tryz.prog 27 w (Addr.add a 7) (Value.int
 IntKind.i64 i) ∧ R (Ending.returned (Value.int IntKind.i64 i)) w) (onP l fun a ↦ ∃ s,Ld Tryz.prog 9 (World.drew w) (Addr.add a 1) (Value.string s) ∧ onP l fun a ↦ ∃ a_1 l_1 c,Ld
 Tryz.prog 29 (World.drew w) (Addr.add a 3) (Value.slice a_1 l_1 c) ∧ onP l fun a ↦ ∃ i,Ld Tryz.prog 3 (World.drew w) (Addr.add a 4) (Value.int IntKind.i64 i) ∧ CallV
 Tryz.prog 81 [Value.pointer l,Value.string s,Value.slice a_1 l_1 c,Value.int IntKind.i64 i] (World.drew w) fun e w' ↦ ∃ i,e = Ending.returned (Value.int IntKind.i64 i) ∧ br (decide (i =
 (0 : Int))) (onP l fun a ↦ ∃ s,Ld Tryz.prog 9 (World.drew w') (Addr.add a 1) (Value.string s) ∧ onP l fun a ↦ ∃ i,Ld Tryz.prog 127 (World.drew w') (Addr.add a 2) (Value.int
 IntKind.u64 i) ∧ inR IntKind.u64 (i + (1 : Int)) ∧ onP l fun a ↦ ∃ a_2 l_2 c,Ld Tryz.prog 29 (World.drew w') (Addr.add a 3) (Value.slice a_2 l_2 c) ∧ CallV Tryz.prog 82
 [Value.pointer l, Value.string s, Value.int IntKind.u64 (i + (1 : Int)), Value.int IntKind.i64 (↑l_2 : Int)] (World.drew w') fun e w' ↦ ∃ i, e = Ending.returned (Value.int IntKind.i64 i) ∧ br (!decide
 (i = (0 : Int))) (CallV Tryz.prog 83 [Value.pointer l,Value.int IntKind.i64 i] w' fun e w' ↦ ∃ i,e = Ending.returned (Value.int IntKind.i64 i) ∧ R (Ending.returned (Value.int IntKind.i64
 i)) w') (onP l fun a ↦ ∃ i,Ld Tryz.prog 127 w' (Addr.add a 2) (Value.int IntKind.u64 i) ∧ inR IntKind.u64 (i + (1 : Int)) ∧ onP l fun a ↦ ∃ w1,St Tryz.prog 127 w' (Addr.add a 2)
 (Value.int IntKind.u64 (i + (1 : Int))) w1 ∧ onP l fun a ↦ ∃ a_3 l_3 c,Ld Tryz.prog 29 (World.drew w1) (Addr.add a 3) (Value.slice a_3 l_3 c) ∧ onP l fun a ↦ ∃ a_4 l_4 c,Ld
 Tryz.prog 26 (World.drew w1) (Addr.add a 6) (Value.slice a_4 l_4 c) ∧ onP l fun a ↦ ∃ w1_1, St Tryz.prog 3 (World.drew w1) (Addr.add a 4) (Value.int IntKind.i64 (↑l_3 : Int)) w1_1 ∧
 onP l fun a ↦ ∃ w1, St Tryz.prog 3 w1_1 (Addr.add a 5) (Value.int IntKind.i64 (↑l_4 : Int)) w1 ∧ R (Ending.returned (Value.int IntKind.i64 0)) w1)) (br (!decide (i = (0 : Int))) (CallV
 Tryz.prog 83 [Value.pointer l,Value.int IntKind.i64 i] w' fun e w' ↦ ∃ i,e = Ending.returned (Value.int IntKind.i64 i) ∧ R (Ending.returned (Value.int IntKind.i64 i)) w') (onP l fun a ↦ ∃
 i,Ld Tryz.prog 127 w' (Addr.add a 2) (Value.int IntKind.u64 i) ∧ inR IntKind.u64 (i + (1 : Int)) ∧ onP l fun a ↦ ∃ w1,St Tryz.prog 127 w' (Addr.add a 2) (Value.int IntKind.u64 (i +
 (1 : Int))) w1 ∧ onP l fun a ↦ ∃ a_2 l_2 c,Ld Tryz.prog 29 (World.drew w1) (Addr.add a 3) (Value.slice a_2 l_2 c) ∧ onP l fun a ↦ ∃ a_3 l_3 c,Ld Tryz.prog 26 (World.drew w1)
 (Addr.add a 6) (Value.slice a_3 l_3 c) ∧ onP l fun a ↦ ∃ w1_1, St Tryz.prog 3 (World.drew w1) (Addr.add a 4) (Value.int IntKind.i64 (↑l_2 : Int)) w1_1 ∧ onP l fun a ↦ ∃ w1, St
 Tryz.prog 3 w1_1 (Addr.add a 5) (Value.int IntKind.i64 (↑l_3 : Int)) w1 ∧ R (Ending.returned (Value.int IntKind.i64 0)) w1)))
theorem lflush.eq (l : Option Addr) (w : World) (R : Ending → World → Prop) : bodyV Tryz.prog lflush.an Tryz.f47 [.pointer l] w R = lflush.vc l w R := by kernel_rfl
theorem lflush.ok (l : Option Addr) (w : World) (R : Ending → World → Prop) (h : lflush.vc l w R) : Calls Tryz.prog 47 #[.pointer l] w R :=
 calls_of_bodyV noNum (an := lflush.an) (args := [.pointer l]) Tryz.func47 (by kernel_rfl) ((lflush.eq l w R).mpr h)
def right.an : An := { wraps := [],loops := [],joins := [],ranges := [] }
def right.vc (name : ByteArray) (w : World) (R : Ending → World → Prop) : Prop := br (!decide (name = ByteArray.mk #[])) (R (Ending.returned (Value.bool (decide ((↑(ByteArray.size name) : Int) ≤ (60 : Int))))) w) (R (Ending.returned (Value.bool false)) w)
theorem right.eq (name : ByteArray) (w : World) (R : Ending → World → Prop) : bodyV Tryz.prog right.an Tryz.f30 [.string name] w R = right.vc name w R := by kernel_rfl
theorem right.ok (name : ByteArray) (w : World) (R : Ending → World → Prop) (h : right.vc name w R) : Calls Tryz.prog 30 #[.string name] w R :=
 calls_of_bodyV noNum (an := right.an) (args := [.string name]) Tryz.func30 (by kernel_rfl) ((right.eq name w R).mpr h)
def drenameC.an : An := { wraps := [],loops := [],joins := [],ranges := [] }
def drenameC.vc (d : Option Addr) (x : Option Addr) (y : Option Addr) (w : World) (R : Ending → World → Prop) : Prop := onP d fun a ↦ ∃ m,Ld Tryz.prog 67 w (Addr.add a 2) (Value.map m) ∧ CallV Tryz.prog 32 [Value.map m,Value.pointer x,Value.pointer y] w fun e w' ↦ e = Ending.returned (Value.tuple
 #[]) ∧ onP d fun a ↦ ∃ a_1 l c,Ld Tryz.prog 69 w' (Addr.add a 4) (Value.slice a_1 l c) ∧ ∀ b w1,New w' (Obj.cells #[Value.func (Fn.func 32) #[] #[Value.pointer x,Value.pointer y]] 125) b
 w1 → ∃ a n m w1_1,App Tryz.prog #[69,69] 69 w1 (Value.slice a_1 l c) (Value.slice (some (Addr.mk b 0 none)) 1 1) (Value.slice a n m) w1_1 ∧ onP d fun a_2 ↦ ∃ w1,St Tryz.prog 69
 w1_1 (Addr.add a_2 4) (Value.slice a n m) w1 ∧ CallV Tryz.prog 36 [Value.pointer d] w1 fun e w' ↦ ∃ i,e = Ending.returned (Value.int IntKind.i64 i) ∧ R (Ending.returned (Value.int
 IntKind.i64 i)) w'
theorem drenameC.eq (d : Option Addr) (x : Option Addr) (y : Option Addr) (w : World) (R : Ending → World → Prop) : bodyV Tryz.prog drenameC.an Tryz.f31 [.pointer d,(.func (.func 32) #[] #[.pointer x,.pointer y])] w R = drenameC.vc d x y w R := by kernel_rfl
theorem drenameC.ok (d : Option Addr) (x : Option Addr) (y : Option Addr) (w : World) (R : Ending → World → Prop) (h : drenameC.vc d x y w R) : Calls Tryz.prog 31 #[.pointer d,(.func (.func 32) #[] #[.pointer x,.pointer y])] w R :=
 calls_of_bodyV noNum (an := drenameC.an) (args := [.pointer d,(.func (.func 32) #[] #[.pointer x,.pointer y])]) Tryz.func31 (by kernel_rfl) ((drenameC.eq d x y w R).mpr h)
def drenameR.an : An := { wraps := [],loops := [],joins := [],ranges := [] }
def drenameR.vc (d : Option Addr) (x : Option Addr) (y : Option Addr) (z : Option Addr) (w : World) (R : Ending → World → Prop) : Prop := onP d fun a ↦ ∃ m,Ld Tryz.prog 67 w (Addr.add a 2) (Value.map m) ∧ CallV Tryz.prog 136 [Value.map m,Value.pointer x,Value.pointer y,Value.pointer z] w fun e w' ↦ e =
 Ending.returned (Value.tuple #[]) ∧ onP d fun a ↦ ∃ a_1 l c,Ld Tryz.prog 69 w' (Addr.add a 4) (Value.slice a_1 l c) ∧ ∀ b w1,New w' (Obj.cells #[Value.func (Fn.func 136) #[] #[Value.pointer
 x,Value.pointer y,Value.pointer z]] 125) b w1 → ∃ a n m w1_1,App Tryz.prog #[69,69] 69 w1 (Value.slice a_1 l c) (Value.slice (some (Addr.mk b 0 none)) 1 1) (Value.slice a n m) w1_1 ∧ onP
 d fun a_2 ↦ ∃ w1,St Tryz.prog 69 w1_1 (Addr.add a_2 4) (Value.slice a n m) w1 ∧ CallV Tryz.prog 36 [Value.pointer d] w1 fun e w' ↦ ∃ i,e = Ending.returned (Value.int IntKind.i64 i)
 ∧ R (Ending.returned (Value.int IntKind.i64 i)) w'
theorem drenameR.eq (d : Option Addr) (x : Option Addr) (y : Option Addr) (z : Option Addr) (w : World) (R : Ending → World → Prop) : bodyV Tryz.prog drenameR.an Tryz.f31 [.pointer d,(.func (.func 136) #[] #[.pointer x,.pointer y,.pointer z])] w R = drenameR.vc d x y z w R := by kernel_rfl
theorem drenameR.ok (d : Option Addr) (x : Option Addr) (y : Option Addr) (z : Option Addr) (w : World) (R : Ending → World → Prop) (h : drenameR.vc d x y z w R) : Calls Tryz.prog 31 #[.pointer d,(.func (.func 136) #[] #[.pointer x,.pointer y,.pointer z])] w R :=
 calls_of_bodyV noNum (an := drenameR.an) (args := [.pointer d,(.func (.func 136) #[] #[.pointer x,.pointer y,.pointer z])]) Tryz.func31 (by kernel_rfl) ((drenameR.eq d x y z w R).mpr h)
def createC.an : An := { wraps := [],loops := [],joins := [],ranges := [] }
def createC.vc (names : Option Nat) (free0 : Option Addr) (free1 : Option Addr) (w : World) (R : Ending → World → Prop) : Prop := ∃ s,(onP free1 fun a ↦ Ld Tryz.prog 9 w a (Value.string s)) ∧ ∃ i,(onP free0 fun a ↦ Ld Tryz.prog 3 w a (Value.int IntKind.i64 i)) ∧ ∃ w1,MUp Tryz.prog 67 w (Value.map
 names) (Value.string s) (Value.int IntKind.i64 i) w1 ∧ R (Ending.returned (Value.tuple #[])) w1
theorem createC.eq (names : Option Nat) (free0 : Option Addr) (free1 : Option Addr) (w : World) (R : Ending → World → Prop) : bodyV Tryz.prog createC.an Tryz.f32 [.map names,(.pointer free0),(.pointer free1)] w R = createC.vc names free0 free1 w R := by kernel_rfl
theorem createC.ok (names : Option Nat) (free0 : Option Addr) (free1 : Option Addr) (w : World) (R : Ending → World → Prop) (h : createC.vc names free0 free1 w R) : Calls Tryz.prog 32 #[.map names,(.pointer free0),(.pointer free1)] w R :=
 calls_of_bodyV noNum (an := createC.an) (args := [.map names,(.pointer free0),(.pointer free1)]) Tryz.func32 (by kernel_rfl) ((createC.eq names free0 free1 w R).mpr h)
def find.an : An := { wraps := [],loops := [],joins := [],ranges := [] }
def find.vc (d : Option Addr) (name : ByteArray) (w : World) (R : Ending → World → Prop) : Prop := onP d fun a ↦ ∃ m,Ld Tryz.prog 67 w (Addr.add a 2) (Value.map m) ∧ ∃ i b,Lk Tryz.prog 67 true w (Value.map m) (Value.string name) (Value.tuple #[Value.int IntKind.i64 i,Value.bool
 b]) ∧ br (!b) (R (Ending.returned (Value.pointer none)) w) (onP d fun a ↦ ∃ a_1 l c, Ld Tryz.prog 68 w (Addr.add a 1) (Value.slice a_1 l c) ∧ onP a_1 fun a ↦ ((0 : Int) ≤ i ∧ i < (↑l : Int))
 ∧ ∃ p,Ld Tryz.prog 76 w (Addr.add a (Int.toNat i * 1)) (Value.pointer p) ∧ R (Ending.returned (Value.pointer p)) w)
theorem find.eq (d : Option Addr) (name : ByteArray) (w : World) (R : Ending → World → Prop) : bodyV Tryz.prog find.an Tryz.f33 [.pointer d,.string name] w R = find.vc d name w R := by kernel_rfl
theorem find.ok (d : Option Addr) (name : ByteArray) (w : World) (R : Ending → World → Prop) (h : find.vc d name w R) : Calls Tryz.prog 33 #[.pointer d,.string name] w R :=
 calls_of_bodyV noNum (an := find.an) (args := [.pointer d,.string name]) Tryz.func33 (by kernel_rfl) ((find.eq d name w R).mpr h)
def used.an : An := { wraps := [],loops := [(3,[(3,.inl .i64)])],joins := [],ranges := [] }
def used.vc (d : Option Addr) (w : World) (R : Ending → World → Prop) : Prop := onP d fun a ↦ ∃ m,Ld Tryz.prog 67 w (Addr.add a 2) (Value.map m) ∧ ∃ p w1,Rng Tryz.prog 67 w (Value.map m) (Value.pointer p) w1 ∧ LoopP (fun (s : Int) (w' : World) (next : Int →
 World → Prop) ↦ (∃ w1,Nxt Tryz.prog false 0 w' (Value.pointer p) (Value.tuple #[Value.bool false]) w1 ∧ R (Ending.returned (Value.int IntKind.i64 s)) w1) ∨ ∃ k v w1,Nxt Tryz.prog
 false 0 w' (Value.pointer p) (Value.tuple #[Value.bool true,k,v]) w1 ∧ ∃ v i w1_1,Etr Tryz.prog w1 (Value.pointer p) (Value.tuple #[v,Value.int IntKind.i64 i]) w1_1 ∧ onP d fun a ↦ ∃ a_1
 l c, Ld Tryz.prog 68 w1_1 (Addr.add a 1) (Value.slice a_1 l c) ∧ onP a_1 fun a ↦ ((0 : Int) ≤ i ∧ i < (↑l : Int)) ∧ ∃ p, Ld Tryz.prog 76 w1_1 (Addr.add a (Int.toNat i * 1))
 (Value.pointer p) ∧ onP p fun a ↦ ∃ a_2 l c, Ld Tryz.prog 78 w1_1 a (Value.slice a_2 l c) ∧ inR IntKind.i64 (s + (↑l : Int)) ∧ next (s + (↑l : Int)) w1_1) (0 : Int) w1
theorem used.eq (d : Option Addr) (w : World) (R : Ending → World → Prop) : bodyV Tryz.prog used.an Tryz.f34 [.pointer d] w R = used.vc d w R := by kernel_rfl
theorem used.ok (d : Option Addr) (w : World) (R : Ending → World → Prop) (h : used.vc d w R) : Calls Tryz.prog 34 #[.pointer d] w R :=
 calls_of_bodyV noNum (an := used.an) (args := [.pointer d]) Tryz.func34 (by kernel_rfl) ((used.eq d w R).mpr h)
def denies.an : An := { wraps := [],loops := [],joins := [],ranges := [] }
def denies.vc (d : Option Addr) (w : World) (R : Ending → World → Prop) : Prop := onP d fun a ↦ ∃ i,Ld Tryz.prog 3 w (Addr.add a 6) (Value.int IntKind.i64 i) ∧ br (decide (i = (0 : Int))) (R (Ending.returned (Value.bool false)) w) (onP d fun a ↦ ∃ i,Ld Tryz.prog
 3 w (Addr.add a 6) (Value.int IntKind.i64 i) ∧ inR IntKind.i64 (i - (1 : Int)) ∧ onP d fun a ↦ ∃ w1,St Tryz.prog 3 w (Addr.add a 6) (Value.int IntKind.i64 (i - (1 : Int))) w1 ∧ onP d fun a ↦
 ∃ i,Ld Tryz.prog 3 w1 (Addr.add a 6) (Value.int IntKind.i64 i) ∧ R (Ending.returned (Value.bool (decide (i = (0 : Int))))) w1)
theorem denies.eq (d : Option Addr) (w : World) (R : Ending → World → Prop) : bodyV Tryz.prog denies.an Tryz.f35 [.pointer d] w R = denies.vc d w R := by kernel_rfl
theorem denies.ok (d : Option Addr) (w : World) (R : Ending → World → Prop) (h : denies.vc d w R) : Calls Tryz.prog 35 #[.pointer d] w R :=
 calls_of_bodyV noNum (an := denies.an) (args := [.pointer d]) Tryz.func35 (by kernel_rfl) ((denies.eq d w R).mpr h)
def done.an : An := { wraps := [],loops := [],joins := [],ranges := [] }
def done.vc (d : Option Addr) (w : World) (R : Ending → World → Prop) : Prop := CallV Tryz.prog 65 [Value.pointer d] w fun e w' ↦ ∃ b,e = Ending.returned (Value.bool b) ∧ br b (R (Ending.returned (Value.int IntKind.i64 93)) w') (R (Ending.returned (Value.int IntKind.i64
 0)) w')
theorem done.eq (d : Option Addr) (w : World) (R : Ending → World → Prop) : bodyV Tryz.prog done.an Tryz.f36 [.pointer d] w R = done.vc d w R := by kernel_rfl
theorem done.ok (d : Option Addr) (w : World) (R : Ending → World → Prop) (h : done.vc d w R) : Calls Tryz.prog 36 #[.pointer d] w R :=
 calls_of_bodyV noNum (an := done.an) (args := [.pointer d]) Tryz.func36 (by kernel_rfl) ((done.eq d w R).mpr h)
def dead.an : An := { wraps := [],loops := [],joins := [],ranges := [] }
def dead.vc (d : Option Addr) (w : World) (R : Ending → World → Prop) : Prop := onP d fun a ↦ ∃ b,Ld Tryz.prog 4 w (Addr.add a 7) (Value.bool b) ∧ R (Ending.returned (Value.bool b)) w
theorem dead.eq (d : Option Addr) (w : World) (R : Ending → World → Prop) : bodyV Tryz.prog dead.an Tryz.f66 [.pointer d] w R = dead.vc d w R := by kernel_rfl
theorem dead.ok (d : Option Addr) (w : World) (R : Ending → World → Prop) (h : dead.vc d w R) : Calls Tryz.prog 66 #[.pointer d] w R :=
 calls_of_bodyV noNum (an := dead.an) (args := [.pointer d]) Tryz.func66 (by kernel_rfl) ((dead.eq d w R).mpr h)
def size.an : An := { wraps := [],loops := [],joins := [],ranges := [] }
def size.vc (d : Option Addr) (name : ByteArray) (w : World) (R : Ending → World → Prop) : Prop := CallV Tryz.prog 33 [Value.pointer d,Value.string name] w fun e w' ↦ ∃ p,e = Ending.returned (Value.pointer p) ∧ ∃ b,Eqv Tryz.prog BinOp.eql 76 (Operand.tmp 9) (Operand.const
 (Value.pointer none)) w' (Value.pointer p) (Value.pointer none) b ∧ br b (R (Ending.returned (Value.int IntKind.i64 (-1 : Int))) w') (onP p fun a ↦ ∃ a_1 l c,Ld Tryz.prog 78 w' a
 (Value.slice a_1 l c) ∧ R (Ending.returned (Value.int IntKind.i64 (↑l : Int))) w')
theorem size.eq (d : Option Addr) (name : ByteArray) (w : World) (R : Ending → World → Prop) : bodyV Tryz.prog size.an Tryz.f67 [.pointer d,.string name] w R = size.vc d name w R := by kernel_rfl
theorem size.ok (d : Option Addr) (name : ByteArray) (w : World) (R : Ending → World → Prop) (h : size.vc d name w R) : Calls Tryz.prog 67 #[.pointer d,.string name] w R :=
 calls_of_bodyV noNum (an := size.an) (args := [.pointer d,.string name]) Tryz.func67 (by kernel_rfl) ((size.eq d name w R).mpr h)
def lfind.an : An := { wraps := [],loops := [(3,[(4,.inl .u64),(14,.inl .i64)]),(12,[(9,.inl .i64)])],joins := [],ranges := [] }
def lfind.vc (l : Option Addr) (w : World) (R : Ending → World → Prop) : Prop := LoopP (fun (s : Int × Int) (w' : World) (next : Int × Int → World → Prop) ↦ br (decide (Prod.snd s < (2 : Int))) (CallV Tryz.prog 106 [Value.pointer l,Value.int IntKind.i64 (Prod.snd s)] w'
 fun e w' ↦ ∃ i i_1 b,e = Ending.returned (Value.tuple #[Value.int IntKind.u64 i,Value.int IntKind.u64 i_1,Value.bool b]) ∧ br b (onP l fun a ↦ ∃ i_2,Ld Tryz.prog 127 w' (Addr.add a 2)
 (Value.int IntKind.u64 i_2) ∧ br (decide (i_2 < i)) (onP l fun a ↦ ∃ w1,St Tryz.prog 127 w' (Addr.add a 2) (Value.int IntKind.u64 i) w1 ∧ inR IntKind.i64 (Prod.snd s + (1 : Int)) ∧ next
 (i_1,Prod.snd s + (1 : Int)) w1) (inR IntKind.i64 (Prod.snd s + (1 : Int)) ∧ next (Prod.fst s,Prod.snd s + (1 : Int)) w')) (inR IntKind.i64 (Prod.snd s + (1 : Int)) ∧ next (Prod.fst s,Prod.snd s +
 (1 : Int)) w')) (onP l fun a ↦ ∃ p,Ld Tryz.prog 23 (World.drew w') a (Value.pointer p) ∧ onP l fun a ↦ ∃ s_1,Ld Tryz.prog 9 (World.drew w') (Addr.add a 1) (Value.string s_1) ∧
 CallV Tryz.prog 67 [Value.pointer p,Value.string s_1] (World.drew w') fun e w' ↦ ∃ i,e = Ending.returned (Value.int IntKind.i64 i) ∧ inR IntKind.i64 (i - (2 : Int)) ∧ inR IntKind.i64 ((i -
 (2 : Int)) * (512 : Int)) ∧ br (decide (IntKind.wrap IntKind.u64 ((i - (2 : Int)) * (512 : Int)) < Prod.fst s)) (R (Ending.returned (Value.tuple #[Value.pointer none,Value.int IntKind.i64 100])) w')
 (LoopP (fun (s_2 : Int) (w' : World) (next : Int → World → Prop) ↦ onP l fun a ↦ ∃ a_1 l_1 c, Ld Tryz.prog 29 w' (Addr.add a 3) (Value.slice a_1 l_1 c) ∧ br (decide ((↑l_1 : Int) <
 IntKind.wrap IntKind.i64 (Prod.fst s))) (onP l fun a ↦ ∃ p,Ld Tryz.prog 23 (World.drew w') a (Value.pointer p) ∧ onP l fun a ↦ ∃ s,Ld Tryz.prog 9 (World.drew w') (Addr.add a 1)
 (Value.string s) ∧ CallV Tryz.prog 107 [Value.pointer p,Value.string s,Value.int IntKind.i64 s_2] (World.drew w') fun e w' ↦ ∃ a l_2 c i,e = Ending.returned (Value.tuple #[Value.slice a
 l_2 c,Value.int IntKind.i64 i]) ∧ br (!decide (i = (0 : Int))) (R (Ending.returned (Value.tuple #[Value.pointer none,Value.int IntKind.i64 i])) w') (onP l fun a_2 ↦ ∃ a_3 l_3 c_1,Ld
 Tryz.prog 29 w' (Addr.add a_2 3) (Value.slice a_3 l_3 c_1) ∧ ∃ a_4 n m w1,App Tryz.prog #[29,29] 29 w' (Value.slice a_3 l_3 c_1) (Value.slice a l_2 c) (Value.slice a_4 n m) w1 ∧
 onP l fun a ↦ ∃ w1_1,St Tryz.prog 29 w1 (Addr.add a 3) (Value.slice a_4 n m) w1_1 ∧ inR IntKind.i64 (s_2 + (1 : Int)) ∧ next (s_2 + (1 : Int)) w1_1)) (onP l fun a ↦ ∃ a_2 l_2 c,Ld
 Tryz.prog 29 w' (Addr.add a 3) (Value.slice a_2 l_2 c) ∧ ((0 : Int) ≤ Prod.fst s ∧ Prod.fst s ≤ Prod.fst s ∧ Prod.fst s ≤ (↑c : Int)) ∧ onP l fun a ↦ ∃ w1, St Tryz.prog 29 w'
 (Addr.add a 3) (Value.slice a_2 (Int.toNat (Prod.fst s)) (Int.toNat (Prod.fst s))) w1 ∧ onP l fun a ↦ ∃ a_3 l_3 c,Ld Tryz.prog 29 w1 (Addr.add a 3) (Value.slice a_3 l_3 c) ∧ CallV
 Tryz.prog 108 [Value.slice a_3 l_3 c] w1 fun e w' ↦ ∃ a l_4 c b,e = Ending.returned (Value.tuple #[Value.slice a l_4 c,Value.bool b]) ∧ br (!b) (R (Ending.returned (Value.tuple
 #[Value.pointer none,Value.int IntKind.i64 100])) w') (onP l fun a_4 ↦ ∃ a_5 l_5 c_1,Ld Tryz.prog 29 w' (Addr.add a_4 3) (Value.slice a_5 l_5 c_1) ∧ onP l fun a_6 ↦ ∃ w1,St
 Tryz.prog 26 w' (Addr.add a_6 6) (Value.slice a l_4 c) w1 ∧ onP l fun a ↦ ∃ w1_1, St Tryz.prog 3 w1 (Addr.add a 4) (Value.int IntKind.i64 (↑l_5 : Int)) w1_1 ∧ onP l fun a ↦ ∃ w1, St
 Tryz.prog 3 w1_1 (Addr.add a 5) (Value.int IntKind.i64 (↑l_4 : Int)) w1 ∧ R (Ending.returned (Value.tuple #[Value.pointer l, Value.int IntKind.i64 0])) w1))) (2 : Int) w'))) ((0 : Int), (0 :
 Int)) w
theorem lfind.eq (l : Option Addr) (w : World) (R : Ending → World → Prop) : bodyV Tryz.prog lfind.an Tryz.f68 [.pointer l] w R = lfind.vc l w R := by kernel_rfl
theorem lfind.ok (l : Option Addr) (w : World) (R : Ending → World → Prop) (h : lfind.vc l w R) : Calls Tryz.prog 68 #[.pointer l] w R :=
 calls_of_bodyV noNum (an := lfind.an) (args := [.pointer l]) Tryz.func68 (by kernel_rfl) ((lfind.eq l w R).mpr h)
def lrenew.an : An := { wraps := [],loops := [(3,[(5,.inr 3),(11,.inl .i64)])],joins := [],ranges := [] }
def lrenew.vc (l : Option Addr) (alla : Option Addr) (alln : Nat) (allc : Nat) (w : World) (R : Ending → World → Prop) : Prop := LoopP (fun (s : (Option Addr × Nat × Nat) × Int) (w' : World) (next : (Option Addr × Nat × Nat) × Int → World → Prop) ↦ br (decide (Prod.snd s < (↑alln : Int))) (onP alla fun a ↦ ((0 : Int) ≤ Prod.snd
 s ∧ Prod.snd s < (↑alln : Int)) ∧ ∃ s_1, Ld Tryz.prog 9 w' (Addr.add a (Int.toNat (Prod.snd s) * 1)) (Value.string s_1) ∧ CallV Tryz.prog 101 [Value.slice (Prod.fst (Prod.fst s))
 (Prod.fst (Prod.snd (Prod.fst s))) (Prod.snd (Prod.snd (Prod.fst s))),Value.string s_1] w' fun e w' ↦ ∃ a l c,e = Ending.returned (Value.slice a l c) ∧ inR IntKind.i64 (Prod.snd s + (1 : Int)) ∧
 next ((a, l, c), Prod.snd s + (1 : Int)) w') (onP l fun a ↦ ∃ s_1, Ld Tryz.prog 9 w' (Addr.add a 1) (Value.string s_1) ∧ (↑(ByteArray.size s_1 + ByteArray.size (ByteArray.mk #[(46 : UInt8),
 (110 : UInt8),(101 : UInt8),(119 : UInt8)])) : Int) ≤ (9223372036854775807 : Int) ∧ CallV Tryz.prog 109 [Value.pointer l,Value.string (s_1 ++ ByteArray.mk #[(46 : UInt8),(110 : UInt8),
 (101 : UInt8),(119 : UInt8)]),Value.slice (Prod.fst (Prod.fst s)) (Prod.fst (Prod.snd (Prod.fst s))) (Prod.snd (Prod.snd (Prod.fst s)))] w' fun e w' ↦ ∃ i,e = Ending.returned (Value.int IntKind.i64
 i) ∧ br (decide (i = (0 : Int))) (onP l fun a ↦ ∃ p,Ld Tryz.prog 23 (World.drew w') a (Value.pointer p) ∧ onP l fun a ↦ ∃ s_2,Ld Tryz.prog 9 (World.drew w') (Addr.add a 1)
 (Value.string s_2) ∧ (↑(ByteArray.size s_2 + ByteArray.size (ByteArray.mk #[(46 : UInt8), (110 : UInt8), (101 : UInt8), (119 : UInt8)])) : Int) ≤ (9223372036854775807 : Int) ∧ onP l fun a ↦ ∃ s_3, Ld
 Tryz.prog 9 (World.drew w') (Addr.add a 1) (Value.string s_3) ∧ CallV Tryz.prog 110 [Value.pointer p,Value.string (s_2 ++ ByteArray.mk #[(46 : UInt8),(110 : UInt8),(101 : UInt8),
 (119 : UInt8)]),Value.string s_3] (World.drew w') fun e w' ↦ ∃ i,e = Ending.returned (Value.int IntKind.i64 i) ∧ br (decide (i = (0 : Int))) (onP l fun a ↦ ∃ p,Ld Tryz.prog 23 w' a
 (Value.pointer p) ∧ CallV Tryz.prog 52 [Value.pointer p] w' fun e w' ↦ ∃ i,e = Ending.returned (Value.int IntKind.i64 i) ∧ br (!decide (i = (0 : Int))) (R (Ending.returned (Value.int
 IntKind.i64 i)) w') (onP l fun a ↦ ∃ w1,St Tryz.prog 127 w' (Addr.add a 2) (Value.int IntKind.u64 1) w1 ∧ onP l fun a ↦ ∃ w1_1,St Tryz.prog 29 w1 (Addr.add a 3) (Value.slice
 (Prod.fst (Prod.fst s)) (Prod.fst (Prod.snd (Prod.fst s))) (Prod.snd (Prod.snd (Prod.fst s)))) w1_1 ∧ onP l fun a ↦ ∃ w1, St Tryz.prog 3 w1_1 (Addr.add a 4) (Value.int IntKind.i64 (↑(Prod.fst
 (Prod.snd (Prod.fst s))) : Int)) w1 ∧ CallV Tryz.prog 111 [Value.slice alla alln allc] w1 fun e w' ↦ ∃ a l_1 c,e = Ending.returned (Value.slice a l_1 c) ∧ onP l fun a_1 ↦ ∃ w1,St
 Tryz.prog 26 w' (Addr.add a_1 6) (Value.slice a l_1 c) w1 ∧ onP l fun a ↦ ∃ w1_2, St Tryz.prog 3 w1 (Addr.add a 5) (Value.int IntKind.i64 (↑alln : Int)) w1_2 ∧ R (Ending.returned
 (Value.int IntKind.i64 0)) w1_2)) (br (!decide (i = (0 : Int))) (R (Ending.returned (Value.int IntKind.i64 i)) w') (onP l fun a ↦ ∃ w1,St Tryz.prog 127 w' (Addr.add a 2) (Value.int
 IntKind.u64 1) w1 ∧ onP l fun a ↦ ∃ w1_1,St Tryz.prog 29 w1 (Addr.add a 3) (Value.slice (Prod.fst (Prod.fst s)) (Prod.fst (Prod.snd (Prod.fst s))) (Prod.snd (Prod.snd (Prod.fst s)))) w1_1 ∧
 onP l fun a ↦ ∃ w1, St Tryz.prog 3 w1_1 (Addr.add a 4) (Value.int IntKind.i64 (↑(Prod.fst (Prod.snd (Prod.fst s))) : Int)) w1 ∧ CallV Tryz.prog 111 [Value.slice alla alln allc] w1
 fun e w' ↦ ∃ a l_1 c,e = Ending.returned (Value.slice a l_1 c) ∧ onP l fun a_1 ↦ ∃ w1,St Tryz.prog 26 w' (Addr.add a_1 6) (Value.slice a l_1 c) w1 ∧ onP l fun a ↦ ∃ w1_2,St
 Tryz.prog 3 w1 (Addr.add a 5) (Value.int IntKind.i64 (↑alln : Int)) w1_2 ∧ R (Ending.returned (Value.int IntKind.i64 0)) w1_2))) (br (decide (i = (0 : Int))) (onP l fun a ↦ ∃ p, Ld
 Tryz.prog 23 w' a (Value.pointer p) ∧ CallV Tryz.prog 52 [Value.pointer p] w' fun e w' ↦ ∃ i,e = Ending.returned (Value.int IntKind.i64 i) ∧ br (!decide (i = (0 : Int))) (R
 (Ending.returned (Value.int IntKind.i64 i)) w') (onP l fun a ↦ ∃ w1,St Tryz.prog 127 w' (Addr.add a 2) (Value.int IntKind.u64 1) w1 ∧ onP l fun a ↦ ∃ w1_1,St Tryz.prog 29 w1
 (Addr.add a 3) (Value.slice (Prod.fst (Prod.fst s)) (Prod.fst (Prod.snd (Prod.fst s))) (Prod.snd (Prod.snd (Prod.fst s)))) w1_1 ∧ onP l fun a ↦ ∃ w1,St Tryz.prog 3 w1_1 (Addr.add a 4)
 (Value.int IntKind.i64 (↑(Prod.fst (Prod.snd (Prod.fst s))) : Int)) w1 ∧ CallV Tryz.prog 111 [Value.slice alla alln allc] w1 fun e w' ↦ ∃ a l_1 c, e = Ending.returned (Value.slice a l_1 c) ∧
 onP l fun a_1 ↦ ∃ w1, St Tryz.prog 26 w' (Addr.add a_1 6) (Value.slice a l_1 c) w1 ∧ onP l fun a ↦ ∃ w1_2, St Tryz.prog 3 w1 (Addr.add a 5) (Value.int IntKind.i64 (↑alln : Int)) w1_2
 ∧ R (Ending.returned (Value.int IntKind.i64 0)) w1_2)) (br (!decide (i = (0 : Int))) (R (Ending.returned (Value.int IntKind.i64 i)) w') (onP l fun a ↦ ∃ w1,St Tryz.prog 127 w' (Addr.add a 2)
 (Value.int IntKind.u64 1) w1 ∧ onP l fun a ↦ ∃ w1_1,St Tryz.prog 29 w1 (Addr.add a 3) (Value.slice (Prod.fst (Prod.fst s)) (Prod.fst (Prod.snd (Prod.fst s))) (Prod.snd (Prod.snd (Prod.fst
 s)))) w1_1 ∧ onP l fun a ↦ ∃ w1, St Tryz.prog 3 w1_1 (Addr.add a 4) (Value.int IntKind.i64 (↑(Prod.fst (Prod.snd (Prod.fst s))) : Int)) w1 ∧ CallV Tryz.prog 111 [Value.slice alla
 alln allc] w1 fun e w' ↦ ∃ a l_1 c,e = Ending.returned (Value.slice a l_1 c) ∧ onP l fun a_1 ↦ ∃ w1,St Tryz.prog 26 w' (Addr.add a_1 6) (Value.slice a l_1 c) w1 ∧ onP l fun a ↦ ∃ w1_2,St
 Tryz.prog 3 w1 (Addr.add a 5) (Value.int IntKind.i64 (↑alln : Int)) w1_2 ∧ R (Ending.returned (Value.int IntKind.i64 0)) w1_2))))) ((none, 0, 0), (0 : Int)) w
theorem lrenew.eq (l : Option Addr) (alla : Option Addr) (alln : Nat) (allc : Nat) (w : World) (R : Ending → World → Prop) : bodyV Tryz.prog lrenew.an Tryz.f69 [.pointer l,.slice alla alln allc] w R = lrenew.vc l alla alln allc w R := by kernel_rfl
theorem lrenew.ok (l : Option Addr) (alla : Option Addr) (alln : Nat) (allc : Nat) (w : World) (R : Ending → World → Prop) (h : lrenew.vc l alla alln allc w R) : Calls Tryz.prog 69 #[.pointer l,.slice alla alln allc] w R :=
 calls_of_bodyV noNum (an := lrenew.an) (args := [.pointer l,.slice alla alln allc]) Tryz.func69 (by kernel_rfl) ((lrenew.eq l alla alln allc w R).mpr h)
def crashC.an : An := { wraps := [],loops := [],joins := [],ranges := [] }
def crashC.vc (free0 : Option Addr) (w : World) (R : Ending → World → Prop) : Prop := ∃ a l c, (onP free0 fun a_1 ↦ Ld Tryz.prog 30 w a_1 (Value.slice a l c)) ∧ br (decide ((↑l : Int) = (0 : Int))) (R (Ending.returned (Value.int IntKind.i64 0)) w) (∃ a l c, (onP free0 fun a_1 ↦
 Ld Tryz.prog 30 w a_1 (Value.slice a l c)) ∧ onP a fun a ↦ ((0 : Int) ≤ (0 : Int) ∧ (0 : Int) < (↑l : Int)) ∧ ∃ i, Ld Tryz.prog 3 w a (Value.int IntKind.i64 i) ∧ ∃ a l c, (onP free0
 fun a_1 ↦ Ld Tryz.prog 30 w a_1 (Value.slice a l c)) ∧ ((0 : Int) ≤ (1 : Int) ∧ (1 : Int) ≤ (↑l : Int)) ∧ onP free0 fun a_1 ↦ ∃ w1, St Tryz.prog 30 w a_1 (Value.slice (slA a c
 (Int.toNat (1 : Int)) 1) (l - Int.toNat (1 : Int)) (c - Int.toNat (1 : Int))) w1 ∧ R (Ending.returned (Value.int IntKind.i64 i)) w1)
theorem crashC.eq (free0 : Option Addr) (w : World) (R : Ending → World → Prop) : bodyV Tryz.prog crashC.an Tryz.f62 [(.pointer free0)] w R = crashC.vc free0 w R := by kernel_rfl
theorem crashC.ok (free0 : Option Addr) (w : World) (R : Ending → World → Prop) (h : crashC.vc free0 w R) : Calls Tryz.prog 62 #[(.pointer free0)] w R :=
 calls_of_bodyV noNum (an := crashC.an) (args := [(.pointer free0)]) Tryz.func62 (by kernel_rfl) ((crashC.eq free0 w R).mpr h)
def found.an : An := { wraps := [],loops := [(3,[(5,.inr 3),(21,.inl .i64)]),(7,[(5,.inr 3)])],joins := [],ranges := [] }
def found.vc (f : Option Addr) (next : Value) (w : World) (R : Ending → World → Prop) : Prop := onP f fun a ↦ ∃ a_1 l c,Ld Tryz.prog 78 w (Addr.add a 1) (Value.slice a_1 l c) ∧ CallV Tryz.prog 103 [Value.slice a_1 l c] w fun e w' ↦ ∃ a l c,e = Ending.returned (Value.slice a l
 c) ∧ onP f fun a_2 ↦ ∃ m,Ld Tryz.prog 77 w' (Addr.add a_2 2) (Value.map m) ∧ CallV Tryz.prog 104 [Value.map m] w' fun e w' ↦ ∃ v,e = Ending.returned v ∧ CallV Tryz.prog 48
 [v] w' fun e w' ↦ ∃ a_3 l_1 c_1,e = Ending.returned (Value.slice a_3 l_1 c_1) ∧ LoopP (fun (s : (Option Addr × Nat × Nat) × Int) (w' : World) (next_1 : (Option Addr × Nat × Nat) × Int → World → Prop)
 ↦ br (decide (Prod.snd s < (↑l_1 : Int))) (onP a_3 fun a ↦ ((0 : Int) ≤ Prod.snd s ∧ Prod.snd s < (↑l_1 : Int)) ∧ ∃ i, Ld Tryz.prog 3 w' (Addr.add a (Int.toNat (Prod.snd s) * 1)) (Value.int
 IntKind.i64 i) ∧ CallX Tryz.prog next [] w' fun e w' ↦ ∃ i_1,e = Ending.returned (Value.int IntKind.i64 i_1) ∧ br (decide (min (max i_1 (0 : Int)) (512 : Int) = (0 : Int))) (inR IntKind.i64
 (Prod.snd s + (1 : Int)) ∧ next_1 ((Prod.fst (Prod.fst s),Prod.fst (Prod.snd (Prod.fst s)),Prod.snd (Prod.snd (Prod.fst s))),Prod.snd s + (1 : Int)) w') (LoopP (fun (s_1 : Option Addr × Nat × Nat)
 (w' : World) (next : Option Addr × Nat × Nat → World → Prop) ↦ br (decide ((↑(Prod.fst (Prod.snd s_1)) : Int) ≤ i)) (∃ (e : TypeId), ∃ (l : List Value), BuildS Tryz.prog 78 1 [(0, Value.agg
 (List.toArray (bigL Tryz.prog 85 [])))] e l ∧ ∀ b w1,New w' (Obj.cells (List.toArray l) e) b w1 → ∃ a n m w1_1,App Tryz.prog #[78,78] 78 w1 (Value.slice (Prod.fst s_1) (Prod.fst
 (Prod.snd s_1)) (Prod.snd (Prod.snd s_1))) (Value.slice (some (Addr.mk b 0 none)) 1 1) (Value.slice a n m) w1_1 ∧ next (a, n, m) w1_1) (onP (Prod.fst s_1) fun a ↦ ((0 : Int) ≤ i ∧ i < (↑(Prod.fst
 (Prod.snd s_1)) : Int)) ∧ ((0 : Int) ≤ min (max i_1 (0 : Int)) (512 : Int) ∧ min (max i_1 (0 : Int)) (512 : Int) ≤ (↑(512 : Nat) : Int)) ∧ onP f fun a_4 ↦ ∃ a_5 l c, Ld Tryz.prog 78
 (World.drew w') a_4 (Value.slice a_5 l c) ∧ onP a_5 fun a_6 ↦ ((0 : Int) ≤ i ∧ i < (↑l : Int)) ∧ ∃ n w1, Cpy Tryz.prog #[29, 29] 3 (World.drew w') (Value.slice (some (Addr.add a (Int.toNat i
 * 512))) (Int.toNat (min (max i_1 (0 : Int)) (512 : Int))) 512) (Value.slice (some (Addr.add a_6 (Int.toNat i * 512))) 512 512) (Value.int IntKind.i64 n) w1 ∧ inR IntKind.i64 (Prod.snd s + (1 : Int))
 ∧ next_1 ((Prod.fst s_1,Prod.fst (Prod.snd s_1),Prod.snd (Prod.snd s_1)),Prod.snd s + (1 : Int)) w1)) (Prod.fst (Prod.fst s),Prod.fst (Prod.snd (Prod.fst s)),Prod.snd (Prod.snd (Prod.fst s)))
 w')) (CallV Tryz.prog 103 [Value.slice (Prod.fst (Prod.fst s)) (Prod.fst (Prod.snd (Prod.fst s))) (Prod.snd (Prod.snd (Prod.fst s)))] w' fun e w' ↦ ∃ a l c,e = Ending.returned (Value.slice a
 l c) ∧ ∀ b w1,New w' (Obj.map #[] 0) b w1 → ∀ b_1 w1_1,New w1 (Obj.cells #[Value.slice a l c,Value.slice (Prod.fst (Prod.fst s)) (Prod.fst (Prod.snd (Prod.fst s))) (Prod.snd (Prod.snd (Prod.fst
 s))),Value.map (some b)] 80) b_1 w1_1 → R (Ending.returned (Value.pointer (some (Addr.mk b_1 0 none)))) w1_1)) ((a,l,c),(0 : Int)) w'
theorem found.eq (f : Option Addr) (next : Value) (w : World) (R : Ending → World → Prop) : bodyV Tryz.prog found.an Tryz.f63 [.pointer f,next] w R = found.vc f next w R := by kernel_rfl
theorem found.ok (f : Option Addr) (next : Value) (w : World) (R : Ending → World → Prop) (h : found.vc f next w R) : Calls Tryz.prog 63 #[.pointer f,next] w R :=
 calls_of_bodyV noNum (an := found.an) (args := [.pointer f,next]) Tryz.func63 (by kernel_rfl) ((found.eq f next w R).mpr h)
def cloneT.an : An := { wraps := [],loops := [],joins := [],ranges := [] }
def cloneT.vc (sa : Option Addr) (sn : Nat) (sc : Nat) (w : World) (R : Ending → World → Prop) : Prop := ∃ b,Eqv Tryz.prog BinOp.eql 26 (Operand.tmp 3) (Operand.const (Value.slice none 0 0)) w (Value.slice sa sn sc) (Value.slice none 0 0) b ∧ br b (R (Ending.returned (Value.slice none 0 0)) w)
 (∀ b w1,New w (Obj.cells #[] 9) b w1 → ∃ a n m w1_1,App Tryz.prog #[26,26] 26 w1 (Value.slice (some (Addr.mk b 0 none)) 0 0) (Value.slice sa sn sc) (Value.slice a n m) w1_1 ∧ R
 (Ending.returned (Value.slice a n m)) w1_1)
theorem cloneT.eq (sa : Option Addr) (sn : Nat) (sc : Nat) (w : World) (R : Ending → World → Prop) : bodyV Tryz.prog cloneT.an Tryz.f111 [.slice sa sn sc] w R = cloneT.vc sa sn sc w R := by kernel_rfl
theorem cloneT.ok (sa : Option Addr) (sn : Nat) (sc : Nat) (w : World) (R : Ending → World → Prop) (h : cloneT.vc sa sn sc w R) : Calls Tryz.prog 111 #[.slice sa sn sc] w R :=
 calls_of_bodyV noNum (an := cloneT.an) (args := [.slice sa sn sc]) Tryz.func111 (by kernel_rfl) ((cloneT.eq sa sn sc w R).mpr h)
def framed.an : An := { wraps := [],loops := [],joins := [],ranges := [] }
def framed.vc (ba : Option Addr) (bn : Nat) (bc : Nat) (s : ByteArray) (w : World) (R : Ending → World → Prop) : Prop := ∀ b w1,New w (Obj.cells #[Value.int IntKind.u8 0,Value.int IntKind.u8 0,Value.int IntKind.u8 0,Value.int IntKind.u8 0] 202) b w1 → CallV Tryz.prog 133 [Value.slice (some (Addr.mk b 0
 none)) 4 4, Value.int IntKind.u32 (IntKind.wrap IntKind.u32 (↑(ByteArray.size s) : Int))] w1 fun e w' ↦ e = Ending.returned (Value.tuple #[]) ∧ ∃ a n m w1, App Tryz.prog #[29, 29] 29 w'
 (Value.slice ba bn bc) (Value.slice (some (Addr.mk b 0 none)) 4 4) (Value.slice a n m) w1 ∧ ∃ a_1 n_1 m_1 w1_1,App Tryz.prog #[29,9] 29 w1 (Value.slice a n m) (Value.string s) (Value.slice
 a_1 n_1 m_1) w1_1 ∧ R (Ending.returned (Value.slice a_1 n_1 m_1)) w1_1
theorem framed.eq (ba : Option Addr) (bn : Nat) (bc : Nat) (s : ByteArray) (w : World) (R : Ending → World → Prop) : bodyV Tryz.prog framed.an Tryz.f101 [.slice ba bn bc,.string s] w R = framed.vc ba bn bc s w R := by kernel_rfl
theorem framed.ok (ba : Option Addr) (bn : Nat) (bc : Nat) (s : ByteArray) (w : World) (R : Ending → World → Prop) (h : framed.vc ba bn bc s w R) : Calls Tryz.prog 101 #[.slice ba bn bc,.string s] w R :=
 calls_of_bodyV noNum (an := framed.an) (args := [.slice ba bn bc,.string s]) Tryz.func101 (by kernel_rfl) ((framed.eq ba bn bc s w R).mpr h)
def lwrite.an : An := { wraps := [],loops := [(2,[(9,.inl .i64)])],joins := [],ranges := [] }
def lwrite.vc (l : Option Addr) (name : ByteArray) (ba : Option Addr) (bn : Nat) (bc : Nat) (from_ : Int) (w : World) (R : Ending → World → Prop) : Prop := (512 : Int) ≠ (0 : Int) ∧ inR IntKind.i64 (Int.tdiv from_ (512 : Int)) ∧ inR IntKind.i64 (Int.tdiv from_ (512 : Int) * (512 : Int)) ∧ LoopP (fun (s : Int) (w' : World) (next : Int → World → Prop) ↦ br
 (decide (s < (↑bn : Int))) (inR IntKind.i64 (s + (512 : Int)) ∧ onP l fun a ↦ ∃ p, Ld Tryz.prog 23 (World.drew w') a (Value.pointer p) ∧ (512 : Int) ≠ (0 : Int) ∧ inR IntKind.i64 (Int.tdiv s
 (512 : Int)) ∧ inR IntKind.i64 ((2 : Int) + Int.tdiv s (512 : Int)) ∧ ((0 : Int) ≤ s ∧ s ≤ min (s + (512 : Int)) (↑bn : Int) ∧ min (s + (512 : Int)) (↑bn : Int) ≤ min (s + (512 : Int)) (↑bn : Int) ∧
 min (s + (512 : Int)) (↑bn : Int) ≤ (↑bc : Int)) ∧ CallV Tryz.prog 10 [Value.pointer p, Value.string name, Value.int IntKind.i64 ((2 : Int) + Int.tdiv s (512 : Int)), Value.slice (slA ba
 (Int.toNat (min (s + (512 : Int)) (↑bn : Int))) (Int.toNat s) 1) (Int.toNat (min (s + (512 : Int)) (↑bn : Int)) - Int.toNat s) (Int.toNat (min (s + (512 : Int)) (↑bn : Int)) - Int.toNat s)]
 (World.drew w') fun e w' ↦ ∃ i,e = Ending.returned (Value.int IntKind.i64 i) ∧ br (!decide (i = (0 : Int))) (R (Ending.returned (Value.int IntKind.i64 i)) w') (inR IntKind.i64 (s + (512 : Int)) ∧
 next (s + (512 : Int)) w')) (R (Ending.returned (Value.int IntKind.i64 0)) w')) (Int.tdiv from_ (512 : Int) * (512 : Int)) w
theorem lwrite.eq (l : Option Addr) (name : ByteArray) (ba : Option Addr) (bn : Nat) (bc : Nat) (from_ : Int) (w : World) (R : Ending → World → Prop) : bodyV Tryz.prog lwrite.an Tryz.f81 [.pointer l,.string name,.slice ba bn bc,.int .i64 from_] w R = lwrite.vc l name ba bn bc from_ w R := by kernel_rfl
theorem lwrite.ok (l : Option Addr) (name : ByteArray) (ba : Option Addr) (bn : Nat) (bc : Nat) (from_ : Int) (w : World) (R : Ending → World → Prop) (h : lwrite.vc l name ba bn bc from_ w R) : Calls Tryz.prog 81 #[.pointer l,.string name,.slice ba bn bc,.int .i64 from_] w R :=
 calls_of_bodyV noNum (an := lwrite.an) (args := [.pointer l,.string name,.slice ba bn bc,.int .i64 from_]) Tryz.func81 (by kernel_rfl) ((lwrite.eq l name ba bn bc from_ w R).mpr h)
def lseal.an : An := { wraps := [],loops := [],joins := [],ranges := [] }
def lseal.vc (l : Option Addr) (name : ByteArray) (mark : Int) (firm : Int) (w : World) (R : Ending → World → Prop) : Prop := ∀ b w1, New w (Obj.cells (List.toArray (zl Tryz.prog 84)) 84) b w1 → ((0 : Int) ≤ (8 : Int) ∧ (8 : Int) ≤ (↑(512 : Nat) : Int)) ∧ CallV Tryz.prog 120 [Value.slice (some (Addr.mk b 0
 none)) 8 512, Value.int IntKind.u64 mark] w1 fun e w' ↦ e = Ending.returned (Value.tuple #[]) ∧ ((0 : Int) ≤ (8 : Int) ∧ (8 : Int) ≤ (16 : Int) ∧ (16 : Int) ≤ (↑(512 : Nat) : Int)) ∧ CallV
 Tryz.prog 120 [Value.slice (some (Addr.mk b 8 none)) 8 504,Value.int IntKind.u64 (IntKind.wrap IntKind.u64 firm)] w' fun e w' ↦ e = Ending.returned (Value.tuple #[]) ∧ ((0 : Int) ≤ (504 :
 Int) ∧ (504 : Int) ≤ (↑(512 : Nat) : Int)) ∧ CallV Tryz.prog 120 [Value.slice (some (Addr.mk b 504 none)) 8 8, Value.int IntKind.u64 mark] w' fun e w' ↦ e = Ending.returned (Value.tuple #[])
 ∧ onP l fun a ↦ ∃ p,Ld Tryz.prog 23 w' a (Value.pointer p) ∧ CallV Tryz.prog 94 [Value.pointer p,Value.string name] w' fun e w' ↦ ∃ i,e = Ending.returned (Value.int IntKind.i64 i)
 ∧ br (decide (i = (0 : Int))) (onP l fun a ↦ ∃ p,Ld Tryz.prog 23 (World.drew w') a (Value.pointer p) ∧ (2 : Int) ≠ (0 : Int) ∧ CallV Tryz.prog 10 [Value.pointer p,Value.string
 name,Value.int IntKind.i64 (IntKind.wrap IntKind.i64 (Int.tmod mark (2 : Int))),Value.slice (some (Addr.mk b 0 none)) 512 512] (World.drew w') fun e w' ↦ ∃ i,e = Ending.returned (Value.int
 IntKind.i64 i) ∧ br (decide (i = (0 : Int))) (onP l fun a ↦ ∃ p,Ld Tryz.prog 23 w' a (Value.pointer p) ∧ CallV Tryz.prog 94 [Value.pointer p,Value.string name] w' fun e w' ↦ ∃ i,e
 = Ending.returned (Value.int IntKind.i64 i) ∧ R (Ending.returned (Value.int IntKind.i64 i)) w') (R (Ending.returned (Value.int IntKind.i64 i)) w')) (br (decide (i = (0 : Int))) (onP l fun a ↦ ∃ p,Ld
 Tryz.prog 23 w' a (Value.pointer p) ∧ CallV Tryz.prog 94 [Value.pointer p,Value.string name] w' fun e w' ↦ ∃ i,e = Ending.returned (Value.int IntKind.i64 i) ∧ R (Ending.returned
 (Value.int IntKind.i64 i)) w') (R (Ending.returned (Value.int IntKind.i64 i)) w'))
theorem lseal.eq (l : Option Addr) (name : ByteArray) (mark : Int) (firm : Int) (w : World) (R : Ending → World → Prop) : bodyV Tryz.prog lseal.an Tryz.f82 [.pointer l,.string name,.int .u64 mark,.int .i64 firm] w R = lseal.vc l name mark firm w R := by kernel_rfl
theorem lseal.ok (l : Option Addr) (name : ByteArray) (mark : Int) (firm : Int) (w : World) (R : Ending → World → Prop) (h : lseal.vc l name mark firm w R) : Calls Tryz.prog 82 #[.pointer l,.string name,.int .u64 mark,.int .i64 firm] w R :=
 calls_of_bodyV noNum (an := lseal.an) (args := [.pointer l,.string name,.int .u64 mark,.int .i64 firm]) Tryz.func82 (by kernel_rfl) ((lseal.eq l name mark firm w R).mpr h)
def stuck.an : An := { wraps := [],loops := [],joins := [],ranges := [] }
def stuck.vc (l : Option Addr) (e : Int) (w : World) (R : Ending → World → Prop) : Prop := onP l fun a ↦ ∃ i,Ld Tryz.prog 27 w (Addr.add a 7) (Value.int IntKind.i64 i) ∧ br (decide (i = (0 : Int))) (onP l fun a ↦ ∃ w1,St Tryz.prog 27 w (Addr.add a 7) (Value.int
 IntKind.i64 e) w1 ∧ onP l fun a ↦ ∃ i,Ld Tryz.prog 27 w1 (Addr.add a 7) (Value.int IntKind.i64 i) ∧ R (Ending.returned (Value.int IntKind.i64 i)) w1) (onP l fun a ↦ ∃ i,Ld
 Tryz.prog 27 w (Addr.add a 7) (Value.int IntKind.i64 i) ∧ R (Ending.returned (Value.int IntKind.i64 i)) w)
theorem stuck.eq (l : Option Addr) (e : Int) (w : World) (R : Ending → World → Prop) : bodyV Tryz.prog stuck.an Tryz.f83 [.pointer l,.int .i64 e] w R = stuck.vc l e w R := by kernel_rfl
theorem stuck.ok (l : Option Addr) (e : Int) (w : World) (R : Ending → World → Prop) (h : stuck.vc l e w R) : Calls Tryz.prog 83 #[.pointer l,.int .i64 e] w R :=
 calls_of_bodyV noNum (an := stuck.an) (args := [.pointer l,.int .i64 e]) Tryz.func83 (by kernel_rfl) ((stuck.eq l e w R).mpr h)
def dies.an : An := { wraps := [],loops := [],joins := [],ranges := [] }
def dies.vc (d : Option Addr) (w : World) (R : Ending → World → Prop) : Prop := onP d fun a ↦ ∃ i,Ld Tryz.prog 3 w (Addr.add a 5) (Value.int IntKind.i64 i) ∧ br (decide ((0 : Int) < i)) (onP d fun a ↦ ∃ i,Ld Tryz.prog 3 w (Addr.add a 5) (Value.int IntKind.i64
 i) ∧ inR IntKind.i64 (i - (1 : Int)) ∧ onP d fun a ↦ ∃ w1,St Tryz.prog 3 w (Addr.add a 5) (Value.int IntKind.i64 (i - (1 : Int))) w1 ∧ onP d fun a ↦ ∃ i,Ld Tryz.prog 3 w1 (Addr.add
 a 5) (Value.int IntKind.i64 i) ∧ onP d fun a ↦ ∃ w1_1,St Tryz.prog 4 w1 (Addr.add a 7) (Value.bool (decide (i = (0 : Int)))) w1_1 ∧ onP d fun a ↦ ∃ b,Ld Tryz.prog 4 w1_1 (Addr.add
 a 7) (Value.bool b) ∧ R (Ending.returned (Value.bool b)) w1_1) (onP d fun a ↦ ∃ b,Ld Tryz.prog 4 w (Addr.add a 7) (Value.bool b) ∧ R (Ending.returned (Value.bool b)) w)
theorem dies.eq (d : Option Addr) (w : World) (R : Ending → World → Prop) : bodyV Tryz.prog dies.an Tryz.f65 [.pointer d] w R = dies.vc d w R := by kernel_rfl
theorem dies.ok (d : Option Addr) (w : World) (R : Ending → World → Prop) (h : dies.vc d w R) : Calls Tryz.prog 65 #[.pointer d] w R :=
 calls_of_bodyV noNum (an := dies.an) (args := [.pointer d]) Tryz.func65 (by kernel_rfl) ((dies.eq d w R).mpr h)
def look.an : An := { wraps := [],loops := [],joins := [],ranges := [] }
def look.vc (l : Option Addr) (n : Int) (w : World) (R : Ending → World → Prop) : Prop := onP l fun a ↦ ∃ p,Ld Tryz.prog 23 (World.drew w) a (Value.pointer p) ∧ onP l fun a ↦ ∃ s,Ld Tryz.prog 9 (World.drew w) (Addr.add a 1) (Value.string s) ∧ CallV Tryz.prog 107
 [Value.pointer p,Value.string s,Value.int IntKind.i64 n] (World.drew w) fun e w' ↦ ∃ a l c i,e = Ending.returned (Value.tuple #[Value.slice a l c,Value.int IntKind.i64 i]) ∧ br (!decide (i = (0 :
 Int))) (R (Ending.returned (Value.tuple #[Value.int IntKind.u64 0, Value.int IntKind.u64 0, Value.bool false])) (World.drew w')) (((0 : Int) ≤ (8 : Int) ∧ (8 : Int) ≤ (↑c : Int)) ∧ 8 ≤ Int.toNat (8 :
 Int) ∧ ∃ (cs : List Value), (onP a fun a ↦ Ld Tryz.prog 206 (World.drew w') a (Value.agg (List.toArray cs))) ∧ ((0 : Int) ≤ (504 : Int) ∧ (504 : Int) ≤ (↑l : Int)) ∧ 8 ≤ l - Int.toNat (504 :
 Int) ∧ ∃ (cs_1 : List Value),(onP (slA a c (Int.toNat (504 : Int)) 1) fun a ↦ Ld Tryz.prog 206 (World.drew w') a (Value.agg (List.toArray cs_1))) ∧ ∃ b,Eqv Tryz.prog BinOp.neq 206
 (Operand.tmp 28) (Operand.tmp 32) (World.drew w') (Value.agg (List.toArray cs)) (Value.agg (List.toArray cs_1)) b ∧ br b (R (Ending.returned (Value.tuple #[Value.int IntKind.u64 0,Value.int
 IntKind.u64 0, Value.bool false])) (World.drew w')) (((0 : Int) ≤ (8 : Int) ∧ (8 : Int) ≤ (↑c : Int)) ∧ ((0 : Int) ≤ (8 : Int) ∧ (8 : Int) ≤ (16 : Int) ∧ (16 : Int) ≤ (↑c : Int)) ∧ CallV
 Tryz.prog 135 [Value.slice a 8 c] (World.drew (World.drew w')) fun e w' ↦ ∃ i,e = Ending.returned (Value.int IntKind.u64 i) ∧ CallV Tryz.prog 135 [Value.slice (slA a c (Int.toNat (8
 : Int)) 1) 8 (c - Int.toNat (8 : Int))] w' fun e w' ↦ ∃ i_1,e = Ending.returned (Value.int IntKind.u64 i_1) ∧ R (Ending.returned (Value.tuple #[Value.int IntKind.u64 i,Value.int IntKind.u64 i_1,
 Value.bool true])) w'))
theorem look.eq (l : Option Addr) (n : Int) (w : World) (R : Ending → World → Prop) : bodyV Tryz.prog look.an Tryz.f106 [.pointer l,.int .i64 n] w R = look.vc l n w R := by kernel_rfl
theorem look.ok (l : Option Addr) (n : Int) (w : World) (R : Ending → World → Prop) (h : look.vc l n w R) : Calls Tryz.prog 106 #[.pointer l,.int .i64 n] w R :=
 calls_of_bodyV noNum (an := look.an) (args := [.pointer l,.int .i64 n]) Tryz.func106 (by kernel_rfl) ((look.eq l n w R).mpr h)
def read.an : An := { wraps := [],loops := [],joins := [],ranges := [] }
def read.vc (d : Option Addr) (name : ByteArray) (n : Int) (w : World) (R : Ending → World → Prop) : Prop := CallV Tryz.prog 33 [Value.pointer d,Value.string name] w fun e w' ↦ ∃ p,e = Ending.returned (Value.pointer p) ∧ onP d fun a ↦ ∃ b,Ld Tryz.prog 4 w' (Addr.add a 7) (Value.bool b) ∧
 br b (R (Ending.returned (Value.tuple #[Value.slice none 0 0,Value.int IntKind.i64 93])) w') (∃ b,Eqv Tryz.prog BinOp.eql 76 (Operand.tmp 19) (Operand.const (Value.pointer none)) w'
 (Value.pointer p) (Value.pointer none) b ∧ br b (R (Ending.returned (Value.tuple #[Value.slice none 0 0,Value.int IntKind.i64 90])) w') (br (decide (n < (0 : Int))) (R (Ending.returned (Value.tuple
 #[Value.slice none 0 0, Value.int IntKind.i64 91])) w') (onP p fun a ↦ ∃ a_1 l c, Ld Tryz.prog 78 w' a (Value.slice a_1 l c) ∧ br (decide ((↑l : Int) ≤ n)) (R (Ending.returned (Value.tuple
 #[Value.slice none 0 0, Value.int IntKind.i64 91])) w') (onP p fun a ↦ ∃ a_2 l c, Ld Tryz.prog 78 w' a (Value.slice a_2 l c) ∧ onP a_2 fun a ↦ ((0 : Int) ≤ n ∧ n < (↑l : Int)) ∧ ∃ (cs : List
 Value),Ld Tryz.prog 85 w' (Addr.add a (Int.toNat n * 512)) (Value.agg (List.toArray cs)) ∧ ∀ b w1,New w' (Obj.cells (List.toArray (zl Tryz.prog 85)) 85) b w1 → ∃ w1_1,St
 Tryz.prog 85 w1 (Addr.mk b 0 none) (Value.agg (List.toArray cs)) w1_1 ∧ R (Ending.returned (Value.tuple #[Value.slice (some (Addr.mk b 0 none)) 512 512,Value.int IntKind.i64 0])) w1_1))))
theorem read.eq (d : Option Addr) (name : ByteArray) (n : Int) (w : World) (R : Ending → World → Prop) : bodyV Tryz.prog read.an Tryz.f107 [.pointer d,.string name,.int .i64 n] w R = read.vc d name n w R := by kernel_rfl
theorem read.ok (d : Option Addr) (name : ByteArray) (n : Int) (w : World) (R : Ending → World → Prop) (h : read.vc d name n w R) : Calls Tryz.prog 107 #[.pointer d,.string name,.int .i64 n] w R :=
 calls_of_bodyV noNum (an := read.an) (args := [.pointer d,.string name,.int .i64 n]) Tryz.func107 (by kernel_rfl) ((read.eq d name n w R).mpr h)
def records.an : An := { wraps := [],loops := [(2,[(0,.inr 3),(4,.inr 3)])],joins := [],ranges := [] }
def records.vc (ba : Option Addr) (bn : Nat) (bc : Nat) (w : World) (R : Ending → World → Prop) : Prop := LoopP (fun (s : (Option Addr × Nat × Nat) × Option Addr × Nat × Nat) (w' : World) (next : (Option Addr × Nat × Nat) × Option Addr × Nat × Nat → World → Prop) ↦ br (decide ((0 : Int) < (↑(Prod.fst
 (Prod.snd (Prod.fst s))) : Int))) (br (decide ((↑(Prod.fst (Prod.snd (Prod.fst s))) : Int) < (4 : Int))) (R (Ending.returned (Value.tuple #[Value.slice none 0 0, Value.bool false])) w') (((0 : Int) ≤
 (4 : Int) ∧ (4 : Int) ≤ (↑(Prod.snd (Prod.snd (Prod.fst s))) : Int)) ∧ CallV Tryz.prog 135 [Value.slice (Prod.fst (Prod.fst s)) 4 (Prod.snd (Prod.snd (Prod.fst s)))] w' fun e w' ↦ ∃ i, e =
 Ending.returned (Value.int IntKind.u64 i) ∧ br (decide ((65536 : Int) < IntKind.wrap IntKind.i64 i)) (R (Ending.returned (Value.tuple #[Value.slice none 0 0,Value.bool false])) w') (inR IntKind.i64
 ((↑(Prod.fst (Prod.snd (Prod.fst s))) : Int) - (4 : Int)) ∧ br (decide ((↑(Prod.fst (Prod.snd (Prod.fst s))) : Int) - (4 : Int) < IntKind.wrap IntKind.i64 i)) (R (Ending.returned (Value.tuple
 #[Value.slice none 0 0,Value.bool false])) w') (inR IntKind.i64 ((4 : Int) + IntKind.wrap IntKind.i64 i) ∧ ((0 : Int) ≤ (4 : Int) ∧ (4 : Int) ≤ (4 : Int) + IntKind.wrap IntKind.i64 i ∧ (4 : Int) +
 IntKind.wrap IntKind.i64 i ≤ (↑(Prod.snd (Prod.snd (Prod.fst s))) : Int)) ∧ ∃ s_1, B2S Tryz.prog 29 9 w' (Value.slice (slA (Prod.fst (Prod.fst s)) (Prod.snd (Prod.snd (Prod.fst s)))
 (Int.toNat (4 : Int)) 1) (Int.toNat ((4 : Int) + IntKind.wrap IntKind.i64 i) - Int.toNat (4 : Int)) (Prod.snd (Prod.snd (Prod.fst s)) - Int.toNat (4 : Int))) (Value.string s_1) ∧ ∀ b w1,New w'
 (Obj.cells #[Value.string s_1] 9) b w1 → ∃ a n m w1_1,App Tryz.prog #[26,26] 26 w1 (Value.slice (Prod.fst (Prod.snd s)) (Prod.fst (Prod.snd (Prod.snd s))) (Prod.snd (Prod.snd (Prod.snd
 s)))) (Value.slice (some (Addr.mk b 0 none)) 1 1) (Value.slice a n m) w1_1 ∧ inR IntKind.i64 ((4 : Int) + IntKind.wrap IntKind.i64 i) ∧ ((0 : Int) ≤ (4 : Int) + IntKind.wrap IntKind.i64 i ∧ (4 : Int)
 + IntKind.wrap IntKind.i64 i ≤ (↑(Prod.fst (Prod.snd (Prod.fst s))) : Int)) ∧ next ((slA (Prod.fst (Prod.fst s)) (Prod.snd (Prod.snd (Prod.fst s))) (Int.toNat ((4 : Int) + IntKind.wrap IntKind.i64 i))
 1,Prod.fst (Prod.snd (Prod.fst s)) - Int.toNat ((4 : Int) + IntKind.wrap IntKind.i64 i),Prod.snd (Prod.snd (Prod.fst s)) - Int.toNat ((4 : Int) + IntKind.wrap IntKind.i64 i)),a,n,m) w1_1)))) (R
 (Ending.returned (Value.tuple #[Value.slice (Prod.fst (Prod.snd s)) (Prod.fst (Prod.snd (Prod.snd s))) (Prod.snd (Prod.snd (Prod.snd s))),Value.bool true])) w')) ((ba,bn,bc),none,0,0) w
theorem records.eq (ba : Option Addr) (bn : Nat) (bc : Nat) (w : World) (R : Ending → World → Prop) : bodyV Tryz.prog records.an Tryz.f108 [.slice ba bn bc] w R = records.vc ba bn bc w R := by kernel_rfl
theorem records.ok (ba : Option Addr) (bn : Nat) (bc : Nat) (w : World) (R : Ending → World → Prop) (h : records.vc ba bn bc w R) : Calls Tryz.prog 108 #[.slice ba bn bc] w R :=
 calls_of_bodyV noNum (an := records.an) (args := [.slice ba bn bc]) Tryz.func108 (by kernel_rfl) ((records.eq ba bn bc w R).mpr h)
def lfill.an : An := { wraps := [],loops := [(3,[(7,.inl .i64),(8,.inl .i64)])],joins := [],ranges := [] }
def lfill.vc (l : Option Addr) (name : ByteArray) (ba : Option Addr) (bn : Nat) (bc : Nat) (w : World) (R : Ending → World → Prop) : Prop := onP l fun a ↦ ∃ p,Ld Tryz.prog 23 w a (Value.pointer p) ∧ CallV Tryz.prog 9 [Value.pointer p,Value.string name] w fun e w' ↦ ∃ i,e = Ending.returned (Value.int IntKind.i64 i) ∧
 LoopP (fun (s : Int × Int) (w' : World) (next : Int × Int → World → Prop) ↦ br (decide (Prod.snd s < (2 : Int))) (br (decide (Prod.fst s = (0 : Int))) (onP l fun a ↦ ∃ p,Ld Tryz.prog 23 w' a
 (Value.pointer p) ∧ CallV Tryz.prog 10 [Value.pointer p,Value.string name,Value.int IntKind.i64 (Prod.snd s),Value.slice none 0 0] w' fun e w' ↦ ∃ i,e = Ending.returned (Value.int
 IntKind.i64 i) ∧ inR IntKind.i64 (Prod.snd s + (1 : Int)) ∧ next (i,Prod.snd s + (1 : Int)) w') (br (decide (Prod.fst s = (0 : Int))) (CallV Tryz.prog 81 [Value.pointer l,Value.string name,
 Value.slice ba bn bc,Value.int IntKind.i64 0] w' fun e w' ↦ ∃ i,e = Ending.returned (Value.int IntKind.i64 i) ∧ br (decide (i = (0 : Int))) (CallV Tryz.prog 82 [Value.pointer l,
 Value.string name, Value.int IntKind.u64 1, Value.int IntKind.i64 (↑bn : Int)] w' fun e w' ↦ ∃ i, e = Ending.returned (Value.int IntKind.i64 i) ∧ R (Ending.returned (Value.int IntKind.i64 i)) w') (R
 (Ending.returned (Value.int IntKind.i64 i)) w')) (br (decide (Prod.fst s = (0 : Int))) (CallV Tryz.prog 82 [Value.pointer l,Value.string name,Value.int IntKind.u64 1,Value.int IntKind.i64
 (↑bn : Int)] w' fun e w' ↦ ∃ i, e = Ending.returned (Value.int IntKind.i64 i) ∧ R (Ending.returned (Value.int IntKind.i64 i)) w') (R (Ending.returned (Value.int IntKind.i64 (Prod.fst s))) w')))) (br
 (decide (Prod.fst s = (0 : Int))) (CallV Tryz.prog 81 [Value.pointer l,Value.string name,Value.slice ba bn bc,Value.int IntKind.i64 0] w' fun e w' ↦ ∃ i,e = Ending.returned (Value.int
 IntKind.i64 i) ∧ br (decide (i = (0 : Int))) (CallV Tryz.prog 82 [Value.pointer l, Value.string name, Value.int IntKind.u64 1, Value.int IntKind.i64 (↑bn : Int)] w' fun e w' ↦ ∃ i, e =
 Ending.returned (Value.int IntKind.i64 i) ∧ R (Ending.returned (Value.int IntKind.i64 i)) w') (R (Ending.returned (Value.int IntKind.i64 i)) w')) (br (decide (Prod.fst s = (0 : Int))) (CallV
 Tryz.prog 82 [Value.pointer l, Value.string name, Value.int IntKind.u64 1, Value.int IntKind.i64 (↑bn : Int)] w' fun e w' ↦ ∃ i, e = Ending.returned (Value.int IntKind.i64 i) ∧ R
 (Ending.returned (Value.int IntKind.i64 i)) w') (R (Ending.returned (Value.int IntKind.i64 (Prod.fst s))) w')))) (i,(0 : Int)) w'
theorem lfill.eq (l : Option Addr) (name : ByteArray) (ba : Option Addr) (bn : Nat) (bc : Nat) (w : World) (R : Ending → World → Prop) : bodyV Tryz.prog lfill.an Tryz.f109 [.pointer l,.string name,.slice ba bn bc] w R = lfill.vc l name ba bn bc w R := by kernel_rfl
theorem lfill.ok (l : Option Addr) (name : ByteArray) (ba : Option Addr) (bn : Nat) (bc : Nat) (w : World) (R : Ending → World → Prop) (h : lfill.vc l name ba bn bc w R) : Calls Tryz.prog 109 #[.pointer l,.string name,.slice ba bn bc] w R :=
 calls_of_bodyV noNum (an := lfill.an) (args := [.pointer l,.string name,.slice ba bn bc]) Tryz.func109 (by kernel_rfl) ((lfill.eq l name ba bn bc w R).mpr h)
def rename.an : An := { wraps := [],loops := [],joins := [],ranges := [] }
def rename.vc (d : Option Addr) (from_ : ByteArray) (to_ : ByteArray) (w : World) (R : Ending → World → Prop) : Prop := ∀ b w1,New w (Obj.cells #[Value.string from_] 9) b w1 → ∀ b_1 w1_1,New w1 (Obj.cells #[Value.string to_] 9) b_1 w1_1 → onP d fun a ↦ ∃ m,Ld Tryz.prog 67 (World.drew w1_1) (Addr.add a 2)
 (Value.map m) ∧ ∃ s,Ld Tryz.prog 9 (World.drew w1_1) (Addr.mk b 0 none) (Value.string s) ∧ ∃ i b_2,Lk Tryz.prog 67 true (World.drew w1_1) (Value.map m) (Value.string s)
 (Value.tuple #[Value.int IntKind.i64 i,Value.bool b_2]) ∧ ∀ b_3 w1,New (World.drew w1_1) (Obj.cells #[Value.int IntKind.i64 0] 3) b_3 w1 → Lk Tryz.prog 67 true w1 (Value.map m)
 (Value.string s) (Value.tuple #[Value.int IntKind.i64 i,Value.bool b_2]) ∧ Ld Tryz.prog 9 w1 (Addr.mk b 0 none) (Value.string s) ∧ Ld Tryz.prog 67 w1 (Addr.add a 2) (Value.map m) ∧
 ∃ w1_2,St Tryz.prog 3 w1 (Addr.mk b_3 0 none) (Value.int IntKind.i64 i) w1_2 ∧ onP d fun a ↦ ∃ b_4,Ld Tryz.prog 4 w1_2 (Addr.add a 7) (Value.bool b_4) ∧ br b_4 (R (Ending.returned
 (Value.int IntKind.i64 93)) w1_2) (br (!b_2) (R (Ending.returned (Value.int IntKind.i64 90)) w1_2) (∃ s,Ld Tryz.prog 9 w1_2 (Addr.mk b_1 0 none) (Value.string s) ∧ CallV Tryz.prog
 30 [Value.string s] w1_2 fun e w' ↦ ∃ b_5,e = Ending.returned (Value.bool b_5) ∧ br (!b_5) (R (Ending.returned (Value.int IntKind.i64 92)) w') (∃ s,Ld Tryz.prog 9 w' (Addr.mk b 0 none)
 (Value.string s) ∧ ∃ s_1,Ld Tryz.prog 9 w' (Addr.mk b_1 0 none) (Value.string s_1) ∧ br (decide (s = s_1)) (R (Ending.returned (Value.int IntKind.i64 0)) w') (CallV Tryz.prog 31
 [Value.pointer d,Value.func (Fn.func 136) #[] #[Value.pointer (some (Addr.mk b 0 none)),Value.pointer (some (Addr.mk b_3 0 none)),Value.pointer (some (Addr.mk b_1 0 none))]] w' fun e w' ↦ ∃ i,e =
 Ending.returned (Value.int IntKind.i64 i) ∧ R (Ending.returned (Value.int IntKind.i64 i)) w'))))
theorem rename.eq (d : Option Addr) (from_ : ByteArray) (to_ : ByteArray) (w : World) (R : Ending → World → Prop) : bodyV Tryz.prog rename.an Tryz.f110 [.pointer d,.string from_,.string to_] w R = rename.vc d from_ to_ w R := by kernel_rfl
theorem rename.ok (d : Option Addr) (from_ : ByteArray) (to_ : ByteArray) (w : World) (R : Ending → World → Prop) (h : rename.vc d from_ to_ w R) : Calls Tryz.prog 110 #[.pointer d,.string from_,.string to_] w R :=
 calls_of_bodyV noNum (an := rename.an) (args := [.pointer d,.string from_,.string to_]) Tryz.func110 (by kernel_rfl) ((rename.eq d from_ to_ w R).mpr h)
def syncNames.an : An := { wraps := [],loops := [],joins := [],ranges := [] }
def syncNames.vc (d : Option Addr) (w : World) (R : Ending → World → Prop) : Prop := onP d fun a ↦ ∃ b,Ld Tryz.prog 4 w (Addr.add a 7) (Value.bool b) ∧ br b (R (Ending.returned (Value.int IntKind.i64 93)) w) (CallV Tryz.prog 65 [Value.pointer d] w fun e w' ↦ ∃ b,e =
 Ending.returned (Value.bool b) ∧ br b (R (Ending.returned (Value.int IntKind.i64 93)) w') (onP d fun a ↦ ∃ m,Ld Tryz.prog 67 w' (Addr.add a 2) (Value.map m) ∧ CallV Tryz.prog 64
 [Value.map m] w' fun e w' ↦ ∃ m,e = Ending.returned (Value.map m) ∧ onP d fun a ↦ ∃ w1,St Tryz.prog 67 w' (Addr.add a 3) (Value.map m) w1 ∧ onP d fun a ↦ ∃ w1_1,St Tryz.prog 69 w1
 (Addr.add a 4) (Value.slice none 0 0) w1_1 ∧ R (Ending.returned (Value.int IntKind.i64 0)) w1_1))
theorem syncNames.eq (d : Option Addr) (w : World) (R : Ending → World → Prop) : bodyV Tryz.prog syncNames.an Tryz.f52 [.pointer d] w R = syncNames.vc d w R := by kernel_rfl
theorem syncNames.ok (d : Option Addr) (w : World) (R : Ending → World → Prop) (h : syncNames.vc d w R) : Calls Tryz.prog 52 #[.pointer d] w R :=
 calls_of_bodyV noNum (an := syncNames.an) (args := [.pointer d]) Tryz.func52 (by kernel_rfl) ((syncNames.eq d w R).mpr h)
def cloneS.an : An := { wraps := [],loops := [],joins := [],ranges := [] }
def cloneS.vc (sa : Option Addr) (sn : Nat) (sc : Nat) (w : World) (R : Ending → World → Prop) : Prop := ∃ b,Eqv Tryz.prog BinOp.eql 78 (Operand.tmp 3) (Operand.const (Value.slice none 0 0)) w (Value.slice sa sn sc) (Value.slice none 0 0) b ∧ br b (R (Ending.returned (Value.slice none 0 0)) w)
 (∃ (e : TypeId),∃ (l : List Value),BuildS Tryz.prog 78 0 [] e l ∧ ∀ b w1,New w (Obj.cells (List.toArray l) e) b w1 → ∃ a n m w1_1,App Tryz.prog #[78,78] 78 w1 (Value.slice (some
 (Addr.mk b 0 none)) 0 0) (Value.slice sa sn sc) (Value.slice a n m) w1_1 ∧ R (Ending.returned (Value.slice a n m)) w1_1)
theorem cloneS.eq (sa : Option Addr) (sn : Nat) (sc : Nat) (w : World) (R : Ending → World → Prop) : bodyV Tryz.prog cloneS.an Tryz.f103 [.slice sa sn sc] w R = cloneS.vc sa sn sc w R := by kernel_rfl
theorem cloneS.ok (sa : Option Addr) (sn : Nat) (sc : Nat) (w : World) (R : Ending → World → Prop) (h : cloneS.vc sa sn sc w R) : Calls Tryz.prog 103 #[.slice sa sn sc] w R :=
 calls_of_bodyV noNum (an := cloneS.an) (args := [.slice sa sn sc]) Tryz.func103 (by kernel_rfl) ((cloneS.eq sa sn sc w R).mpr h)
def lay32.an : An := { wraps := [],loops := [(1,[(7,.inl .i64)])],joins := [],ranges := [] }
def lay32.vc (ba : Option Addr) (bn : Nat) (bc : Nat) (n : Int) (w : World) (R : Ending → World → Prop) : Prop := LoopP (fun (s : Int) (w' : World) (next : Int → World → Prop) ↦ br (decide (s < (↑bn : Int))) (inR IntKind.i64 ((↑bn : Int) - (1 : Int)) ∧ inR IntKind.i64 ((↑bn : Int) - (1 : Int) - s) ∧ inR
 IntKind.i64 ((8 : Int) * s) ∧ (0 : Int) ≤ (8 : Int) * s ∧ onP ba fun a ↦ ((0 : Int) ≤ (↑bn : Int) - (1 : Int) - s ∧ (↑bn : Int) - (1 : Int) - s < (↑bn : Int)) ∧ ∃ w1, St Tryz.prog 5 w'
 (Addr.add a (Int.toNat ((↑bn : Int) - (1 : Int) - s) * 1)) (Value.int IntKind.u8 (IntKind.wrap IntKind.u8 (Int.fdiv n ((2 : Int) ^ min (Int.toNat ((8 : Int) * s)) (IntKind.bits IntKind.u32))))) w1 ∧
 inR IntKind.i64 (s + (1 : Int)) ∧ next (s + (1 : Int)) w1) (R (Ending.returned (Value.tuple #[])) w')) (0 : Int) w
theorem lay32.eq (ba : Option Addr) (bn : Nat) (bc : Nat) (n : Int) (w : World) (R : Ending → World → Prop) : bodyV Tryz.prog lay32.an Tryz.f133 [.slice ba bn bc,.int .u32 n] w R = lay32.vc ba bn bc n w R := by kernel_rfl
theorem lay32.ok (ba : Option Addr) (bn : Nat) (bc : Nat) (n : Int) (w : World) (R : Ending → World → Prop) (h : lay32.vc ba bn bc n w R) : Calls Tryz.prog 133 #[.slice ba bn bc,.int .u32 n] w R :=
 calls_of_bodyV noNum (an := lay32.an) (args := [.slice ba bn bc,.int .u32 n]) Tryz.func133 (by kernel_rfl) ((lay32.eq ba bn bc n w R).mpr h)
def lay64.an : An := { wraps := [],loops := [(1,[(7,.inl .i64)])],joins := [],ranges := [] }
def lay64.vc (ba : Option Addr) (bn : Nat) (bc : Nat) (n : Int) (w : World) (R : Ending → World → Prop) : Prop := LoopP (fun (s : Int) (w' : World) (next : Int → World → Prop) ↦ br (decide (s < (↑bn : Int))) (inR IntKind.i64 ((↑bn : Int) - (1 : Int)) ∧ inR IntKind.i64 ((↑bn : Int) - (1 : Int) - s) ∧ inR
 IntKind.i64 ((8 : Int) * s) ∧ (0 : Int) ≤ (8 : Int) * s ∧ onP ba fun a ↦ ((0 : Int) ≤ (↑bn : Int) - (1 : Int) - s ∧ (↑bn : Int) - (1 : Int) - s < (↑bn : Int)) ∧ ∃ w1, St Tryz.prog 5 w'
 (Addr.add a (Int.toNat ((↑bn : Int) - (1 : Int) - s) * 1)) (Value.int IntKind.u8 (IntKind.wrap IntKind.u8 (Int.fdiv n ((2 : Int) ^ min (Int.toNat ((8 : Int) * s)) (IntKind.bits IntKind.u64))))) w1 ∧
 inR IntKind.i64 (s + (1 : Int)) ∧ next (s + (1 : Int)) w1) (R (Ending.returned (Value.tuple #[])) w')) (0 : Int) w
theorem lay64.eq (ba : Option Addr) (bn : Nat) (bc : Nat) (n : Int) (w : World) (R : Ending → World → Prop) : bodyV Tryz.prog lay64.an Tryz.f120 [.slice ba bn bc,.int .u64 n] w R = lay64.vc ba bn bc n w R := by kernel_rfl
theorem lay64.ok (ba : Option Addr) (bn : Nat) (bc : Nat) (n : Int) (w : World) (R : Ending → World → Prop) (h : lay64.vc ba bn bc n w R) : Calls Tryz.prog 120 #[.slice ba bn bc,.int .u64 n] w R :=
 calls_of_bodyV noNum (an := lay64.an) (args := [.slice ba bn bc,.int .u64 n]) Tryz.func120 (by kernel_rfl) ((lay64.eq ba bn bc n w R).mpr h)
def sync.an : An := { wraps := [],loops := [],joins := [],ranges := [] }
def sync.vc (d : Option Addr) (name : ByteArray) (w : World) (R : Ending → World → Prop) : Prop := CallV Tryz.prog 33 [Value.pointer d,Value.string name] w fun e w' ↦ ∃ p,e = Ending.returned (Value.pointer p) ∧ onP d fun a ↦ ∃ b,Ld Tryz.prog 4 w' (Addr.add a 7) (Value.bool b) ∧
 br b (R (Ending.returned (Value.int IntKind.i64 93)) w') (∃ b,Eqv Tryz.prog BinOp.eql 76 (Operand.tmp 15) (Operand.const (Value.pointer none)) w' (Value.pointer p) (Value.pointer none) b ∧
 br b (R (Ending.returned (Value.int IntKind.i64 90)) w') (CallV Tryz.prog 35 [Value.pointer d] w' fun e w' ↦ ∃ b,e = Ending.returned (Value.bool b) ∧ br b (R (Ending.returned (Value.int
 IntKind.i64 95)) w') (CallV Tryz.prog 65 [Value.pointer d] w' fun e w' ↦ ∃ b,e = Ending.returned (Value.bool b) ∧ br b (R (Ending.returned (Value.int IntKind.i64 93)) w') (onP p fun a ↦ ∃
 a_1 l c,Ld Tryz.prog 78 w' a (Value.slice a_1 l c) ∧ CallV Tryz.prog 103 [Value.slice a_1 l c] w' fun e w' ↦ ∃ a l c,e = Ending.returned (Value.slice a l c) ∧ onP p fun a_2 ↦ ∃ w1,
 St Tryz.prog 78 w' (Addr.add a_2 1) (Value.slice a l c) w1 ∧ onP p fun a ↦ ∃ m,Ld Tryz.prog 77 w1 (Addr.add a 2) (Value.map m) ∧ ∃ w1_1,Clr Tryz.prog #[77] 0 w1 (Value.map
 m) w1_1 ∧ R (Ending.returned (Value.int IntKind.i64 0)) w1_1))))
theorem sync.eq (d : Option Addr) (name : ByteArray) (w : World) (R : Ending → World → Prop) : bodyV Tryz.prog sync.an Tryz.f94 [.pointer d,.string name] w R = sync.vc d name w R := by kernel_rfl
theorem sync.ok (d : Option Addr) (name : ByteArray) (w : World) (R : Ending → World → Prop) (h : sync.vc d name w R) : Calls Tryz.prog 94 #[.pointer d,.string name] w R :=
 calls_of_bodyV noNum (an := sync.an) (args := [.pointer d,.string name]) Tryz.func94 (by kernel_rfl) ((sync.eq d name w R).mpr h)
def take.an : An := { wraps := [],loops := [(3,[(3,.inl .u64),(8,.inl .i64)])],joins := [],ranges := [] }
def take.vc (ba : Option Addr) (bn : Nat) (bc : Nat) (w : World) (R : Ending → World → Prop) : Prop := LoopP (fun (s : Int × Int) (w' : World) (next : Int × Int → World → Prop) ↦ br (decide (Prod.snd s < (↑bn : Int))) (onP ba fun a ↦ ((0 : Int) ≤ Prod.snd s ∧ Prod.snd s < (↑bn : Int)) ∧ ∃ i, Ld
 Tryz.prog 5 w' (Addr.add a (Int.toNat (Prod.snd s) * 1)) (Value.int IntKind.u8 i) ∧ (0 : Int) ≤ (8 : Int) ∧ inR IntKind.u64 (Prod.fst s * (2 : Int) ^ min (Int.toNat (8 : Int)) (IntKind.bits
 IntKind.u64)) ∧ inR IntKind.i64 (Prod.snd s + (1 : Int)) ∧ next (Vc.bits BinOp.or IntKind.u64 (Prod.fst s * (2 : Int) ^ min (Int.toNat (8 : Int)) (IntKind.bits IntKind.u64)) (IntKind.wrap IntKind.u64
 i),Prod.snd s + (1 : Int)) w') (R (Ending.returned (Value.int IntKind.u64 (Prod.fst s))) w')) ((0 : Int),(0 : Int)) w
theorem take.eq (ba : Option Addr) (bn : Nat) (bc : Nat) (w : World) (R : Ending → World → Prop) : bodyV Tryz.prog take.an Tryz.f135 [.slice ba bn bc] w R = take.vc ba bn bc w R := by kernel_rfl
theorem take.ok (ba : Option Addr) (bn : Nat) (bc : Nat) (w : World) (R : Ending → World → Prop) (h : take.vc ba bn bc w R) : Calls Tryz.prog 135 #[.slice ba bn bc] w R :=
 calls_of_bodyV noNum (an := take.an) (args := [.slice ba bn bc]) Tryz.func135 (by kernel_rfl) ((take.eq ba bn bc w R).mpr h)
def renameC.an : An := { wraps := [],loops := [],joins := [],ranges := [] }
def renameC.vc (names : Option Nat) (free0 : Option Addr) (free1 : Option Addr) (free2 : Option Addr) (w : World) (R : Ending → World → Prop) : Prop := ∃ s,(onP free0 fun a ↦ Ld Tryz.prog 9 w a (Value.string s)) ∧ ∃ w1,Del Tryz.prog #[67,9] 0 w (Value.map names) (Value.string s) w1 ∧ ∃ s,(onP free2 fun a ↦ Ld Tryz.prog 9
 w1 a (Value.string s)) ∧ ∃ i,(onP free1 fun a ↦ Ld Tryz.prog 3 w1 a (Value.int IntKind.i64 i)) ∧ ∃ w1_1,MUp Tryz.prog 67 w1 (Value.map names) (Value.string s) (Value.int
 IntKind.i64 i) w1_1 ∧ R (Ending.returned (Value.tuple #[])) w1_1
theorem renameC.eq (names : Option Nat) (free0 : Option Addr) (free1 : Option Addr) (free2 : Option Addr) (w : World) (R : Ending → World → Prop) : bodyV Tryz.prog renameC.an Tryz.f136 [.map names,(.pointer free0),(.pointer free1),(.pointer free2)] w R = renameC.vc names free0 free1 free2 w R := by kernel_rfl
theorem renameC.ok (names : Option Nat) (free0 : Option Addr) (free1 : Option Addr) (free2 : Option Addr) (w : World) (R : Ending → World → Prop) (h : renameC.vc names free0 free1 free2 w R) : Calls Tryz.prog 136 #[.map names,(.pointer free0),(.pointer free1),(.pointer free2)] w R :=
 calls_of_bodyV noNum (an := renameC.an) (args := [.map names,(.pointer free0),(.pointer free1),(.pointer free2)]) Tryz.func136 (by kernel_rfl) ((renameC.eq names free0 free1 free2 w R).mpr h)
def snew.an : An := { wraps := [],loops := [],joins := [],ranges := [] }
def snew.vc  (w : World) (R : Ending → World → Prop) : Prop := ∀ b w1,New w (Obj.cells (List.toArray (bigL Tryz.prog 144 [(2,Value.int IntKind.i64 4096)])) 144) b w1 → R (Ending.returned (Value.pointer (some (Addr.mk b 0 none)))) w1
theorem snew.eq  (w : World) (R : Ending → World → Prop) : bodyV Tryz.prog snew.an Tryz.f98 [] w R = snew.vc  w R := by kernel_rfl
theorem snew.ok  (w : World) (R : Ending → World → Prop) (h : snew.vc  w R) : Calls Tryz.prog 98 #[] w R :=
 calls_of_bodyV noNum (an := snew.an) (args := []) Tryz.func98 (by kernel_rfl) ((snew.eq  w R).mpr h)
def two.an : An := { wraps := [],loops := [],joins := [],ranges := [] }
def two.vc (p : Option Addr) (at_ : Int) (w : World) (R : Ending → World → Prop) : Prop := onP p fun a ↦ ((0 : Int) ≤ at_ ∧ at_ < (↑(4096 : Nat) : Int)) ∧ ∃ i, Ld Tryz.prog 5 (World.drew w) (Addr.add a (Int.toNat at_ * 1)) (Value.int IntKind.u8 i) ∧ (0 : Int) ≤ (8 : Int) ∧ inR
 IntKind.i64 (IntKind.wrap IntKind.i64 i * (2 : Int) ^ min (Int.toNat (8 : Int)) (IntKind.bits IntKind.i64)) ∧ inR IntKind.i64 (at_ + (1 : Int)) ∧ onP p fun a ↦ ((0 : Int) ≤ at_ + (1 : Int) ∧ at_ + (1
 : Int) < (↑(4096 : Nat) : Int)) ∧ ∃ i_1, Ld Tryz.prog 5 (World.drew w) (Addr.add a (Int.toNat (at_ + (1 : Int)) * 1)) (Value.int IntKind.u8 i_1) ∧ R (Ending.returned (Value.int IntKind.i64
 (Vc.bits BinOp.or IntKind.i64 (IntKind.wrap IntKind.i64 i * (2 : Int) ^ min (Int.toNat (8 : Int)) (IntKind.bits IntKind.i64)) (IntKind.wrap IntKind.i64 i_1)))) (World.drew w)
theorem two.eq (p : Option Addr) (at_ : Int) (w : World) (R : Ending → World → Prop) : bodyV Tryz.prog two.an Tryz.f117 [.pointer p,.int .i64 at_] w R = two.vc p at_ w R := by kernel_rfl
theorem two.ok (p : Option Addr) (at_ : Int) (w : World) (R : Ending → World → Prop) (h : two.vc p at_ w R) : Calls Tryz.prog 117 #[.pointer p,.int .i64 at_] w R :=
 calls_of_bodyV noNum (an := two.an) (args := [.pointer p,.int .i64 at_]) Tryz.func117 (by kernel_rfl) ((two.eq p at_ w R).mpr h)
def lay.an : An := { wraps := [],loops := [],joins := [],ranges := [] }
def lay.vc (p : Option Addr) (at_ : Int) (n : Int) (w : World) (R : Ending → World → Prop) : Prop := inR IntKind.i64 (at_ + (1 : Int)) ∧ (0 : Int) ≤ (8 : Int) ∧ onP p fun a ↦ ((0 : Int) ≤ at_ ∧ at_ < (↑(4096 : Nat) : Int)) ∧ onP p fun a_1 ↦ ∃ w1, St Tryz.prog 5 (World.drew w) (Addr.add a
 (Int.toNat at_ * 1)) (Value.int IntKind.u8 (IntKind.wrap IntKind.u8 (Int.fdiv n ((2 : Int) ^ min (Int.toNat (8 : Int)) (IntKind.bits IntKind.i64))))) w1 ∧ ((0 : Int) ≤ at_ + (1 : Int) ∧ at_ + (1 :
 Int) < (↑(4096 : Nat) : Int)) ∧ ∃ w1_1, St Tryz.prog 5 w1 (Addr.add a_1 (Int.toNat (at_ + (1 : Int)) * 1)) (Value.int IntKind.u8 (IntKind.wrap IntKind.u8 n)) w1_1 ∧ R (Ending.returned
 (Value.tuple #[])) w1_1
theorem lay.eq (p : Option Addr) (at_ : Int) (n : Int) (w : World) (R : Ending → World → Prop) : bodyV Tryz.prog lay.an Tryz.f132 [.pointer p,.int .i64 at_,.int .i64 n] w R = lay.vc p at_ n w R := by kernel_rfl
theorem lay.ok (p : Option Addr) (at_ : Int) (n : Int) (w : World) (R : Ending → World → Prop) (h : lay.vc p at_ n w R) : Calls Tryz.prog 132 #[.pointer p,.int .i64 at_,.int .i64 n] w R :=
 calls_of_bodyV noNum (an := lay.an) (args := [.pointer p,.int .i64 at_,.int .i64 n]) Tryz.func132 (by kernel_rfl) ((lay.eq p at_ n w R).mpr h)
def slot.an : An := { wraps := [],loops := [],joins := [],ranges := [] }
def slot.vc (p : Option Addr) (k : Int) (w : World) (R : Ending → World → Prop) : Prop := br (decide (k < (0 : Int))) (R (Ending.returned (Value.tuple #[Value.int IntKind.i64 0,Value.int IntKind.i64 0])) w) (onP p fun a ↦ ∃ i,Ld Tryz.prog 3 w (Addr.add a 4096) (Value.int
 IntKind.i64 i) ∧ br (decide (i ≤ k)) (R (Ending.returned (Value.tuple #[Value.int IntKind.i64 0,Value.int IntKind.i64 0])) w) (inR IntKind.i64 ((4 : Int) * k) ∧ inR IntKind.i64 ((10 : Int) + (4 :
 Int) * k) ∧ CallV Tryz.prog 117 [Value.pointer p,Value.int IntKind.i64 ((10 : Int) + (4 : Int) * k)] w fun e w' ↦ ∃ i,e = Ending.returned (Value.int IntKind.i64 i) ∧ inR IntKind.i64 ((4 :
 Int) * k) ∧ inR IntKind.i64 ((10 : Int) + (4 : Int) * k) ∧ inR IntKind.i64 ((10 : Int) + (4 : Int) * k + (2 : Int)) ∧ CallV Tryz.prog 117 [Value.pointer p,Value.int IntKind.i64 ((10 : Int) +
 (4 : Int) * k + (2 : Int))] w' fun e w' ↦ ∃ i_1,e = Ending.returned (Value.int IntKind.i64 i_1) ∧ R (Ending.returned (Value.tuple #[Value.int IntKind.i64 i,Value.int IntKind.i64 i_1])) w'))
theorem slot.eq (p : Option Addr) (k : Int) (w : World) (R : Ending → World → Prop) : bodyV Tryz.prog slot.an Tryz.f77 [.pointer p,.int .i64 k] w R = slot.vc p k w R := by kernel_rfl
theorem slot.ok (p : Option Addr) (k : Int) (w : World) (R : Ending → World → Prop) (h : slot.vc p k w R) : Calls Tryz.prog 77 #[.pointer p,.int .i64 k] w R :=
 calls_of_bodyV noNum (an := slot.an) (args := [.pointer p,.int .i64 k]) Tryz.func77 (by kernel_rfl) ((slot.eq p k w R).mpr h)
def set.an : An := { wraps := [],loops := [],joins := [],ranges := [] }
def set.vc (p : Option Addr) (k : Int) (at_ : Int) (long : Int) (w : World) (R : Ending → World → Prop) : Prop := inR IntKind.i64 ((4 : Int) * k) ∧ inR IntKind.i64 ((10 : Int) + (4 : Int) * k) ∧ CallV Tryz.prog 132 [Value.pointer p,Value.int IntKind.i64 ((10 : Int) + (4 : Int) * k),Value.int IntKind.i64
 at_] w fun e w' ↦ e = Ending.returned (Value.tuple #[]) ∧ inR IntKind.i64 ((4 : Int) * k) ∧ inR IntKind.i64 ((10 : Int) + (4 : Int) * k) ∧ inR IntKind.i64 ((10 : Int) + (4 : Int) * k + (2 : Int)) ∧
 CallV Tryz.prog 132 [Value.pointer p,Value.int IntKind.i64 ((10 : Int) + (4 : Int) * k + (2 : Int)),Value.int IntKind.i64 long] w' fun e w' ↦ e = Ending.returned (Value.tuple #[]) ∧ R
 (Ending.returned (Value.tuple #[])) w'
theorem set.eq (p : Option Addr) (k : Int) (at_ : Int) (long : Int) (w : World) (R : Ending → World → Prop) : bodyV Tryz.prog set.an Tryz.f131 [.pointer p,.int .i64 k,.int .i64 at_,.int .i64 long] w R = set.vc p k at_ long w R := by kernel_rfl
theorem set.ok (p : Option Addr) (k : Int) (at_ : Int) (long : Int) (w : World) (R : Ending → World → Prop) (h : set.vc p k at_ long w R) : Calls Tryz.prog 131 #[.pointer p,.int .i64 k,.int .i64 at_,.int .i64 long] w R :=
 calls_of_bodyV noNum (an := set.an) (args := [.pointer p,.int .i64 k,.int .i64 at_,.int .i64 long]) Tryz.func131 (by kernel_rfl) ((set.eq p k at_ long w R).mpr h)
def each.an : An := { wraps := [],loops := [(1,[(11,.inl .i64)])],joins := [],ranges := [] }
def each.vc (p : Option Addr) (yield : Value) (w : World) (R : Ending → World → Prop) : Prop := onP p fun a ↦ ∃ i,Ld Tryz.prog 3 w (Addr.add a 4096) (Value.int IntKind.i64 i) ∧ LoopP (fun (s : Int) (w' : World) (next : Int → World → Prop) ↦ br (decide (s < i)) (CallV Tryz.prog
 77 [Value.pointer p,Value.int IntKind.i64 s] w' fun e w' ↦ ∃ i i_1,e = Ending.returned (Value.tuple #[Value.int IntKind.i64 i,Value.int IntKind.i64 i_1]) ∧ br (decide ((0 : Int) < i)) (CallX
 Tryz.prog yield [Value.int IntKind.i64 s] w' fun e w' ↦ ∃ b,e = Ending.returned (Value.bool b) ∧ br (!b) (R (Ending.returned (Value.tuple #[])) w') (inR IntKind.i64 (s + (1 : Int)) ∧ next (s
 + (1 : Int)) w')) (inR IntKind.i64 (s + (1 : Int)) ∧ next (s + (1 : Int)) w')) (R (Ending.returned (Value.tuple #[])) w')) (0 : Int) w
theorem each.eq (p : Option Addr) (yield : Value) (w : World) (R : Ending → World → Prop) : bodyV Tryz.prog each.an Tryz.f76 [.pointer p,yield] w R = each.vc p yield w R := by kernel_rfl
theorem each.ok (p : Option Addr) (yield : Value) (w : World) (R : Ending → World → Prop) (h : each.vc p yield w R) : Calls Tryz.prog 76 #[.pointer p,yield] w R :=
 calls_of_bodyV noNum (an := each.an) (args := [.pointer p,yield]) Tryz.func76 (by kernel_rfl) ((each.eq p yield w R).mpr h)
def slots.an : An := { wraps := [],loops := [],joins := [],ranges := [(4,[(7,.inl .i64)])] }
def slots.vc (p : Option Addr) (w : World) (R : Ending → World → Prop) : Prop := ∀ b w1,New w (Obj.cells #[Value.slice none 0 0] 30) b w1 → ∃ (gf : FuncId),∃ (fi : Array Value),∃ (ca : Array Value),Value.func (Fn.func 76) #[Value.pointer p] #[] = Value.func (Fn.func gf) fi ca ∧
 HasBody Tryz.prog gf ∧ RangeP Tryz.prog gf (Array.toList fi) (Array.toList ca) (fun s ↦ [Value.int IntKind.i64 s]) (fun (s : Int) (w' : World) (begin : World → (World → Prop) → Prop)
 (kn kr : World → Prop) (kx : Nat → World → Prop) ↦ begin w' fun w2 ↦ ∃ a l c,Ld Tryz.prog 30 w2 (Addr.mk b 0 none) (Value.slice a l c) ∧ ∀ b_1 w1,New w2 (Obj.cells #[Value.int IntKind.i64
 s] 3) b_1 w1 → ∃ a_2 n m w1_1,App Tryz.prog #[30,30] 30 w1 (Value.slice a l c) (Value.slice (some (Addr.mk b_1 0 none)) 1 1) (Value.slice a_2 n m) w1_1 ∧ ∃ w1,St Tryz.prog 30 w1_1
 (Addr.mk b 0 none) (Value.slice a_2 n m) w1 ∧ kn w1) w1 (fun D w' ↦ ∃ a l c,Ld Tryz.prog 30 w' (Addr.mk b 0 none) (Value.slice a l c) ∧ ∃ w1,ShutD w' D w1 ∧ R (Ending.returned (Value.slice
 a l c)) w1) (fun D w' ↦ False) fun (id D : Nat) (w' : World) ↦ False
theorem slots.eq (p : Option Addr) (w : World) (R : Ending → World → Prop) : bodyV Tryz.prog slots.an Tryz.f42 [.pointer p] w R = slots.vc p w R := by kernel_rfl
theorem slots.ok (p : Option Addr) (w : World) (R : Ending → World → Prop) (h : slots.vc p w R) : Calls Tryz.prog 42 #[.pointer p] w R :=
 calls_of_bodyV noNum (an := slots.an) (args := [.pointer p]) Tryz.func42 (by kernel_rfl) ((slots.eq p w R).mpr h)
def room.an : An := { wraps := [],loops := [],joins := [],ranges := [(4,[(9,.inl .i64)])] }
def room.vc (p : Option Addr) (w : World) (R : Ending → World → Prop) : Prop := ∀ b w1,New w (Obj.cells #[Value.pointer p] 99) b w1 → ∀ b_1 w1_1,New w1 (Obj.cells #[Value.int IntKind.i64 0] 3) b_1 w1_1 → ∃ w1,St Tryz.prog 3 w1_1 (Addr.mk b_1 0 none) (Value.int
 IntKind.i64 3600) w1 ∧ ∃ p,Ld Tryz.prog 99 w1 (Addr.mk b 0 none) (Value.pointer p) ∧ ∃ (gf : FuncId),∃ (fi : Array Value),∃ (ca : Array Value),Value.func (Fn.func 76) #[Value.pointer p]
 #[] = Value.func (Fn.func gf) fi ca ∧ HasBody Tryz.prog gf ∧ RangeP Tryz.prog gf (Array.toList fi) (Array.toList ca) (fun s ↦ [Value.int IntKind.i64 s]) (fun (s : Int) (w' : World)
 (begin : World → (World → Prop) → Prop) (kn kr : World → Prop) (kx : Nat → World → Prop) ↦ begin w' fun w2 ↦ ∃ p,Ld Tryz.prog 99 w2 (Addr.mk b 0 none) (Value.pointer p) ∧ CallV
 Tryz.prog 77 [Value.pointer p,Value.int IntKind.i64 s] w2 fun e w' ↦ ∃ i i_1,e = Ending.returned (Value.tuple #[Value.int IntKind.i64 i,Value.int IntKind.i64 i_1]) ∧ ∃ i,Ld
 Tryz.prog 3 w' (Addr.mk b_1 0 none) (Value.int IntKind.i64 i) ∧ inR IntKind.i64 (i - i_1) ∧ ∃ w1,St Tryz.prog 3 w' (Addr.mk b_1 0 none) (Value.int IntKind.i64 (i - i_1)) w1 ∧ kn w1)
 w1 (fun D w' ↦ ∃ i,Ld Tryz.prog 3 w' (Addr.mk b_1 0 none) (Value.int IntKind.i64 i) ∧ ∃ w1,ShutD w' D w1 ∧ R (Ending.returned (Value.int IntKind.i64 i)) w1) (fun D w' ↦ False) fun (id D :
 Nat) (w' : World) ↦ False
theorem room.eq (p : Option Addr) (w : World) (R : Ending → World → Prop) : bodyV Tryz.prog room.an Tryz.f130 [.pointer p] w R = room.vc p w R := by kernel_rfl
theorem room.ok (p : Option Addr) (w : World) (R : Ending → World → Prop) (h : room.vc p w R) : Calls Tryz.prog 130 #[.pointer p] w R :=
 calls_of_bodyV noNum (an := room.an) (args := [.pointer p]) Tryz.func130 (by kernel_rfl) ((room.eq p w R).mpr h)
def get.an : An := { wraps := [],loops := [],joins := [],ranges := [] }
def get.vc (p : Option Addr) (slot : Int) (w : World) (R : Ending → World → Prop) : Prop := CallV Tryz.prog 77 [Value.pointer p,Value.int IntKind.i64 slot] w fun e w' ↦ ∃ i i_1,e = Ending.returned (Value.tuple #[Value.int IntKind.i64 i,Value.int IntKind.i64 i_1]) ∧ br (decide (i =
 (0 : Int))) (R (Ending.returned (Value.tuple #[Value.string (ByteArray.mk #[]), Value.bool false])) w') (onP p fun a ↦ inR IntKind.i64 (i + i_1) ∧ ((0 : Int) ≤ i ∧ i ≤ i + i_1 ∧ i + i_1 ≤ (↑(4096 :
 Nat) : Int)) ∧ ∃ s,B2S Tryz.prog 29 9 w' (Value.slice (slA (some a) 4096 (Int.toNat i) 1) (Int.toNat (i + i_1) - Int.toNat i) (4096 - Int.toNat i)) (Value.string s) ∧ R (Ending.returned
 (Value.tuple #[Value.string s,Value.bool true])) w')
theorem get.eq (p : Option Addr) (slot : Int) (w : World) (R : Ending → World → Prop) : bodyV Tryz.prog get.an Tryz.f43 [.pointer p,.int .i64 slot] w R = get.vc p slot w R := by kernel_rfl
theorem get.ok (p : Option Addr) (slot : Int) (w : World) (R : Ending → World → Prop) (h : get.vc p slot w R) : Calls Tryz.prog 43 #[.pointer p,.int .i64 slot] w R :=
 calls_of_bodyV noNum (an := get.an) (args := [.pointer p,.int .i64 slot]) Tryz.func43 (by kernel_rfl) ((get.eq p slot w R).mpr h)
def drop.an : An := { wraps := [],loops := [(12,[])],joins := [],ranges := [(6,[(42,.inl .i64)])] }
def drop.vc (p : Option Addr) (slot : Int) (w : World) (R : Ending → World → Prop) : Prop := ∀ b w1,New w (Obj.cells #[Value.pointer p] 99) b w1 → ∃ p,Ld Tryz.prog 99 w1 (Addr.mk b 0 none) (Value.pointer p) ∧ CallV Tryz.prog 77 [Value.pointer p,Value.int IntKind.i64 slot]
 w1 fun e w' ↦ ∃ i i_1,e = Ending.returned (Value.tuple #[Value.int IntKind.i64 i,Value.int IntKind.i64 i_1]) ∧ ∀ b_1 w1,New w' (Obj.cells #[Value.int IntKind.i64 0] 3) b_1 w1 → ∀ b_2 w1_1,New w1
 (Obj.cells #[Value.int IntKind.i64 0] 3) b_2 w1_1 → ∃ w1,St Tryz.prog 3 w1_1 (Addr.mk b_1 0 none) (Value.int IntKind.i64 i) w1 ∧ ∃ w1_2,St Tryz.prog 3 w1 (Addr.mk b_2 0 none)
 (Value.int IntKind.i64 i_1) w1_2 ∧ ∃ i,Ld Tryz.prog 3 w1_2 (Addr.mk b_1 0 none) (Value.int IntKind.i64 i) ∧ br (decide (i = (0 : Int))) (R (Ending.returned (Value.tuple #[])) w1_2) (∃ p,Ld
 Tryz.prog 99 (World.drew w1_2) (Addr.mk b 0 none) (Value.pointer p) ∧ onP p fun a ↦ ∃ p,Ld Tryz.prog 99 (World.drew w1_2) (Addr.mk b 0 none) (Value.pointer p) ∧ onP p fun a_1 ↦ ∃ i,
 Ld Tryz.prog 3 (World.drew w1_2) (Addr.add a_1 4097) (Value.int IntKind.i64 i) ∧ ∃ i_2,Ld Tryz.prog 3 (World.drew w1_2) (Addr.mk b_2 0 none) (Value.int IntKind.i64 i_2) ∧ inR
 IntKind.i64 (i + i_2) ∧ ∃ i_3,Ld Tryz.prog 3 (World.drew w1_2) (Addr.mk b_1 0 none) (Value.int IntKind.i64 i_3) ∧ ∃ i_4,Ld Tryz.prog 3 (World.drew w1_2) (Addr.mk b_2 0 none)
 (Value.int IntKind.i64 i_4) ∧ inR IntKind.i64 (i_3 + i_4) ∧ ((0 : Int) ≤ i + i_2 ∧ i + i_2 ≤ i_3 + i_4 ∧ i_3 + i_4 ≤ (↑(4096 : Nat) : Int)) ∧ ∃ p, Ld Tryz.prog 99 (World.drew w1_2) (Addr.mk b
 0 none) (Value.pointer p) ∧ onP p fun a_2 ↦ ∃ p,Ld Tryz.prog 99 (World.drew w1_2) (Addr.mk b 0 none) (Value.pointer p) ∧ onP p fun a_3 ↦ ∃ i_5,Ld Tryz.prog 3 (World.drew w1_2)
 (Addr.add a_3 4097) (Value.int IntKind.i64 i_5) ∧ ∃ i_6, Ld Tryz.prog 3 (World.drew w1_2) (Addr.mk b_1 0 none) (Value.int IntKind.i64 i_6) ∧ ((0 : Int) ≤ i_5 ∧ i_5 ≤ i_6 ∧ i_6 ≤ (↑(4096 :
 Nat) : Int)) ∧ ∃ n w1,Cpy Tryz.prog #[29,29] 3 (World.drew w1_2) (Value.slice (slA (some a) 4096 (Int.toNat (i + i_2)) 1) (Int.toNat (i_3 + i_4) - Int.toNat (i + i_2)) (4096 - Int.toNat (i
 + i_2))) (Value.slice (slA (some a_2) 4096 (Int.toNat i_5) 1) (Int.toNat i_6 - Int.toNat i_5) (4096 - Int.toNat i_5)) (Value.int IntKind.i64 n) w1 ∧ ∃ p,Ld Tryz.prog 99 w1 (Addr.mk b 0 none)
 (Value.pointer p) ∧ ∃ (gf : FuncId),∃ (fi : Array Value),∃ (ca : Array Value),Value.func (Fn.func 76) #[Value.pointer p] #[] = Value.func (Fn.func gf) fi ca ∧ HasBody Tryz.prog gf ∧ RangeP
 Tryz.prog gf (Array.toList fi) (Array.toList ca) (fun s ↦ [Value.int IntKind.i64 s]) (fun (s : Int) (w' : World) (begin : World → (World → Prop) → Prop) (kn kr : World → Prop) (kx : Nat →
 World → Prop) ↦ begin w' fun w2 ↦ ∃ p,Ld Tryz.prog 99 w2 (Addr.mk b 0 none) (Value.pointer p) ∧ CallV Tryz.prog 77 [Value.pointer p,Value.int IntKind.i64 s] w2 fun e w' ↦ ∃ i i_7,
 e = Ending.returned (Value.tuple #[Value.int IntKind.i64 i,Value.int IntKind.i64 i_7]) ∧ ∃ i_8,Ld Tryz.prog 3 w' (Addr.mk b_1 0 none) (Value.int IntKind.i64 i_8) ∧ br (decide (i ≤ i_8)) (∃
 p,Ld Tryz.prog 99 w' (Addr.mk b 0 none) (Value.pointer p) ∧ ∃ i_9,Ld Tryz.prog 3 w' (Addr.mk b_2 0 none) (Value.int IntKind.i64 i_9) ∧ inR IntKind.i64 (i + i_9) ∧ CallV
 Tryz.prog 131 [Value.pointer p,Value.int IntKind.i64 s,Value.int IntKind.i64 (i + i_9),Value.int IntKind.i64 i_7] w' fun e w' ↦ e = Ending.returned (Value.tuple #[]) ∧ kn w') (kn w')) w1
 (fun D w' ↦ ∃ p,Ld Tryz.prog 99 (World.drew w') (Addr.mk b 0 none) (Value.pointer p) ∧ onP p fun a ↦ ∃ p,Ld Tryz.prog 99 (World.drew w') (Addr.mk b 0 none) (Value.pointer p) ∧ onP
 p fun a_4 ↦ ∃ i,Ld Tryz.prog 3 (World.drew w') (Addr.add a_4 4097) (Value.int IntKind.i64 i) ∧ ∃ p,Ld Tryz.prog 99 (World.drew w') (Addr.mk b 0 none) (Value.pointer p) ∧ onP p fun
 a_5 ↦ ∃ i_7,Ld Tryz.prog 3 (World.drew w') (Addr.add a_5 4097) (Value.int IntKind.i64 i_7) ∧ ∃ i_8,Ld Tryz.prog 3 (World.drew w') (Addr.mk b_2 0 none) (Value.int IntKind.i64 i_8) ∧
 inR IntKind.i64 (i_7 + i_8) ∧ ((0 : Int) ≤ i ∧ i ≤ i_7 + i_8 ∧ i_7 + i_8 ≤ (↑(4096 : Nat) : Int)) ∧ ∃ w1, Clr Tryz.prog #[29] 0 (World.drew w') (Value.slice (slA (some a) 4096 (Int.toNat i)
 1) (Int.toNat (i_7 + i_8) - Int.toNat i) (4096 - Int.toNat i)) w1 ∧ ∃ p,Ld Tryz.prog 99 (World.drew w1) (Addr.mk b 0 none) (Value.pointer p) ∧ onP p fun a ↦ ∃ i,Ld Tryz.prog 3
 (World.drew w1) (Addr.add a 4097) (Value.int IntKind.i64 i) ∧ ∃ i_9,Ld Tryz.prog 3 (World.drew w1) (Addr.mk b_2 0 none) (Value.int IntKind.i64 i_9) ∧ inR IntKind.i64 (i + i_9) ∧ onP p fun a
 ↦ ∃ w1_3,St Tryz.prog 3 (World.drew w1) (Addr.add a 4097) (Value.int IntKind.i64 (i + i_9)) w1_3 ∧ ∃ p,Ld Tryz.prog 99 w1_3 (Addr.mk b 0 none) (Value.pointer p) ∧ CallV
 Tryz.prog 131 [Value.pointer p,Value.int IntKind.i64 slot,Value.int IntKind.i64 0,Value.int IntKind.i64 0] w1_3 fun (e : Ending) (w' : World) ↦ e = Ending.returned (Value.tuple #[]) ∧
 LoopP (fun (s : PUnit) (w' : World) (next : PUnit → World → Prop) ↦ ∃ (p : Option Addr),Ld Tryz.prog 99 (World.drew w') (Addr.mk b 0 none) (Value.pointer p) ∧ onP p fun (a : Addr) ↦ ∃ (i :
 Int),Ld Tryz.prog 3 (World.drew w') (Addr.add a 4096) (Value.int IntKind.i64 i) ∧ br (decide ((0 : Int) < i)) (∃ (p : Option Addr),Ld Tryz.prog 99 (World.drew w') (Addr.mk b 0
 none) (Value.pointer p) ∧ ∃ (p_1 : Option Addr),Ld Tryz.prog 99 (World.drew w') (Addr.mk b 0 none) (Value.pointer p_1) ∧ onP p_1 fun (a : Addr) ↦ ∃ (i : Int),Ld Tryz.prog 3
 (World.drew w') (Addr.add a 4096) (Value.int IntKind.i64 i) ∧ inR IntKind.i64 (i - (1 : Int)) ∧ inR IntKind.i64 ((4 : Int) * (i - (1 : Int))) ∧ inR IntKind.i64 ((10 : Int) + (4 : Int) * (i - (1 :
 Int))) ∧ CallV Tryz.prog 117 [Value.pointer p,Value.int IntKind.i64 ((10 : Int) + (4 : Int) * (i - (1 : Int)))] (World.drew w') fun (e : Ending) (w' : World) ↦ ∃ (i : Int),e =
 Ending.returned (Value.int IntKind.i64 i) ∧ br (decide (i = (0 : Int))) (∃ (p : Option Addr),Ld Tryz.prog 99 w' (Addr.mk b 0 none) (Value.pointer p) ∧ onP p fun (a : Addr) ↦ ∃ (i : Int),Ld
 Tryz.prog 3 w' (Addr.add a 4096) (Value.int IntKind.i64 i) ∧ inR IntKind.i64 (i - (1 : Int)) ∧ onP p fun (a : Addr) ↦ ∃ (w1 : World),St Tryz.prog 3 w' (Addr.add a 4096) (Value.int
 IntKind.i64 (i - (1 : Int))) w1 ∧ next () w1) (∃ (p : Option Addr),Ld Tryz.prog 99 (World.drew w') (Addr.mk b 0 none) (Value.pointer p) ∧ ∃ (p_2 : Option Addr),Ld Tryz.prog 99
 (World.drew w') (Addr.mk b 0 none) (Value.pointer p_2) ∧ onP p_2 fun (a : Addr) ↦ ∃ (i : Int),Ld Tryz.prog 3 (World.drew w') (Addr.add a 4096) (Value.int IntKind.i64 i) ∧ CallV
 Tryz.prog 132 [Value.pointer p,Value.int IntKind.i64 8,Value.int IntKind.i64 i] (World.drew w') fun (e : Ending) (w' : World) ↦ e = Ending.returned (Value.tuple #[]) ∧ ∃ (w1 : World),ShutD
 w' D w1 ∧ R (Ending.returned (Value.tuple #[])) w1)) (∃ (p : Option Addr),Ld Tryz.prog 99 (World.drew (World.drew w')) (Addr.mk b 0 none) (Value.pointer p) ∧ ∃ (p_1 : Option Addr),Ld
 Tryz.prog 99 (World.drew (World.drew w')) (Addr.mk b 0 none) (Value.pointer p_1) ∧ onP p_1 fun (a : Addr) ↦ ∃ (i : Int),Ld Tryz.prog 3 (World.drew (World.drew w')) (Addr.add a 4096)
 (Value.int IntKind.i64 i) ∧ CallV Tryz.prog 132 [Value.pointer p,Value.int IntKind.i64 8,Value.int IntKind.i64 i] (World.drew (World.drew w')) fun (e : Ending) (w' : World) ↦ e =
 Ending.returned (Value.tuple #[]) ∧ ∃ (w1 : World),ShutD w' D w1 ∧ R (Ending.returned (Value.tuple #[])) w1)) () w') (fun D w' ↦ False) fun (id D : Nat) (w' : World) ↦ False)
theorem drop.eq (p : Option Addr) (slot : Int) (w : World) (R : Ending → World → Prop) : bodyV Tryz.prog drop.an Tryz.f129 [.pointer p,.int .i64 slot] w R = drop.vc p slot w R := by kernel_rfl
theorem drop.ok (p : Option Addr) (slot : Int) (w : World) (R : Ending → World → Prop) (h : drop.vc p slot w R) : Calls Tryz.prog 129 #[.pointer p,.int .i64 slot] w R :=
 calls_of_bodyV noNum (an := drop.an) (args := [.pointer p,.int .i64 slot]) Tryz.func129 (by kernel_rfl) ((drop.eq p slot w R).mpr h)
def put.an : An := { wraps := [],loops := [(10,[])],joins := [(7,[(7,.inl .i64)])],ranges := [] }
def put.vc (p : Option Addr) (slot : Int) (s : ByteArray) (w : World) (R : Ending → World → Prop) : Prop := br (decide (slot < (0 : Int))) (R (Ending.returned (Value.int IntKind.i64 110)) w) (br (decide ((120 : Int) ≤ slot)) (R (Ending.returned (Value.int IntKind.i64 110)) w) (CallV Tryz.prog 130
 [Value.pointer p] w fun e w' ↦ ∃ i,e = Ending.returned (Value.int IntKind.i64 i) ∧ CallV Tryz.prog 77 [Value.pointer p,Value.int IntKind.i64 slot] w' fun e w' ↦ ∃ i_1 i_2,e =
 Ending.returned (Value.tuple #[Value.int IntKind.i64 i_1, Value.int IntKind.i64 i_2]) ∧ JoinP (fun s_1 w' ↦ br (decide (s_1 < (↑(ByteArray.size s) : Int))) (R (Ending.returned (Value.int IntKind.i64
 111)) w') (CallV Tryz.prog 129 [Value.pointer p,Value.int IntKind.i64 slot] w' fun e w' ↦ e = Ending.returned (Value.tuple #[]) ∧ LoopP (fun (s_2 : PUnit) (w' : World) (next : PUnit → World
 → Prop) ↦ onP p fun a ↦ ∃ i,Ld Tryz.prog 3 w' (Addr.add a 4096) (Value.int IntKind.i64 i) ∧ br (decide (i ≤ slot)) (onP p fun a ↦ ∃ i,Ld Tryz.prog 3 w' (Addr.add a 4096) (Value.int
 IntKind.i64 i) ∧ CallV Tryz.prog 131 [Value.pointer p,Value.int IntKind.i64 i,Value.int IntKind.i64 0,Value.int IntKind.i64 0] w' fun e w' ↦ e = Ending.returned (Value.tuple #[]) ∧ onP p
 fun a ↦ ∃ i,Ld Tryz.prog 3 w' (Addr.add a 4096) (Value.int IntKind.i64 i) ∧ inR IntKind.i64 (i + (1 : Int)) ∧ onP p fun a ↦ ∃ w1,St Tryz.prog 3 w' (Addr.add a 4096) (Value.int
 IntKind.i64 (i + (1 : Int))) w1 ∧ next () w1) (onP p fun a ↦ ∃ i,Ld Tryz.prog 3 w' (Addr.add a 4096) (Value.int IntKind.i64 i) ∧ CallV Tryz.prog 132 [Value.pointer p,Value.int
 IntKind.i64 8,Value.int IntKind.i64 i] w' fun e w' ↦ e = Ending.returned (Value.tuple #[]) ∧ onP p fun a ↦ ∃ i,Ld Tryz.prog 3 w' (Addr.add a 4097) (Value.int IntKind.i64 i) ∧ inR
 IntKind.i64 (i - (↑(ByteArray.size s) : Int)) ∧ onP p fun a ↦ ∃ w1, St Tryz.prog 3 w' (Addr.add a 4097) (Value.int IntKind.i64 (i - (↑(ByteArray.size s) : Int))) w1 ∧ onP p fun a ↦ onP p fun
 a_1 ↦ ∃ i, Ld Tryz.prog 3 (World.drew w1) (Addr.add a_1 4097) (Value.int IntKind.i64 i) ∧ ((0 : Int) ≤ i ∧ i ≤ (↑(4096 : Nat) : Int)) ∧ ∃ n w1_1, Cpy Tryz.prog #[29, 9] 3 (World.drew
 w1) (Value.slice (slA (some a) 4096 (Int.toNat i) 1) (4096 - Int.toNat i) (4096 - Int.toNat i)) (Value.string s) (Value.int IntKind.i64 n) w1_1 ∧ onP p fun a ↦ ∃ i,Ld Tryz.prog 3 w1_1
 (Addr.add a 4097) (Value.int IntKind.i64 i) ∧ CallV Tryz.prog 131 [Value.pointer p, Value.int IntKind.i64 slot, Value.int IntKind.i64 i, Value.int IntKind.i64 (↑(ByteArray.size s) : Int)]
 w1_1 fun e w' ↦ e = Ending.returned (Value.tuple #[]) ∧ R (Ending.returned (Value.int IntKind.i64 0)) w')) () w')) fun (J : Int → World → Prop) ↦ br (decide ((0 : Int) < i_1)) (inR IntKind.i64 (i +
 i_2) ∧ J (i + i_2) w') (J i w')))
theorem put.eq (p : Option Addr) (slot : Int) (s : ByteArray) (w : World) (R : Ending → World → Prop) : bodyV Tryz.prog put.an Tryz.f100 [.pointer p,.int .i64 slot,.string s] w R = put.vc p slot s w R := by kernel_rfl
theorem put.ok (p : Option Addr) (slot : Int) (s : ByteArray) (w : World) (R : Ending → World → Prop) (h : put.vc p slot s w R) : Calls Tryz.prog 100 #[.pointer p,.int .i64 slot,.string s] w R :=
 calls_of_bodyV noNum (an := put.an) (args := [.pointer p,.int .i64 slot,.string s]) Tryz.func100 (by kernel_rfl) ((put.eq p slot s w R).mpr h)
def delete.an : An := { wraps := [],loops := [],joins := [],ranges := [] }
def delete.vc (p : Option Addr) (slot : Int) (w : World) (R : Ending → World → Prop) : Prop := CallV Tryz.prog 77 [Value.pointer p,Value.int IntKind.i64 slot] w fun e w' ↦ ∃ i i_1,e = Ending.returned (Value.tuple #[Value.int IntKind.i64 i,Value.int IntKind.i64 i_1]) ∧ br (decide (i =
 (0 : Int))) (R (Ending.returned (Value.int IntKind.i64 110)) w') (CallV Tryz.prog 129 [Value.pointer p,Value.int IntKind.i64 slot] w' fun e w' ↦ e = Ending.returned (Value.tuple #[]) ∧ R
 (Ending.returned (Value.int IntKind.i64 0)) w')
theorem delete.eq (p : Option Addr) (slot : Int) (w : World) (R : Ending → World → Prop) : bodyV Tryz.prog delete.an Tryz.f99 [.pointer p,.int .i64 slot] w R = delete.vc p slot w R := by kernel_rfl
theorem delete.ok (p : Option Addr) (slot : Int) (w : World) (R : Ending → World → Prop) (h : delete.vc p slot w R) : Calls Tryz.prog 99 #[.pointer p,.int .i64 slot] w R :=
 calls_of_bodyV noNum (an := delete.an) (args := [.pointer p,.int .i64 slot]) Tryz.func99 (by kernel_rfl) ((delete.eq p slot w R).mpr h)
def stamp.an : An := { wraps := [0,1,2,3,4,5,6,7,8],loops := [(3,[(3,.inl .i64),(11,.inl .i64)])],joins := [],ranges := [] }
def stamp.vc (p : Option Addr) (w : World) (R : Ending → World → Prop) : Prop := onP p fun a ↦ ((0 : Int) ≤ (8 : Int) ∧ (8 : Int) ≤ (↑(4096 : Nat) : Int)) ∧ LoopP (fun (s : Int × Int) (w' : World) (next : Int × Int → World → Prop) ↦ br (decide (Prod.snd s < (↑(Int.toNat (8 : Int))
 : Int))) (((0 : Int) ≤ Prod.snd s ∧ Prod.snd s < (↑(Int.toNat (8 : Int)) : Int)) ∧ ∃ i, Ld Tryz.prog 5 w' (Addr.add a (Int.toNat (Prod.snd s) * 1)) (Value.int IntKind.u8 i) ∧ (0 : Int) ≤ (8 :
 Int) ∧ next (Vc.bits BinOp.or IntKind.i64 (IntKind.wrap IntKind.i64 (Prod.fst s * (2 : Int) ^ min (Int.toNat (8 : Int)) (IntKind.bits IntKind.i64))) (IntKind.wrap IntKind.i64 i),IntKind.wrap
 IntKind.i64 (Prod.snd s + (1 : Int))) w') (R (Ending.returned (Value.int IntKind.i64 (Prod.fst s))) w')) ((0 : Int),(0 : Int)) w
theorem stamp.eq (p : Option Addr) (w : World) (R : Ending → World → Prop) : bodyV Tryz.prog stamp.an Tryz.f126 [.pointer p] w R = stamp.vc p w R := by kernel_rfl
theorem stamp.ok (p : Option Addr) (w : World) (R : Ending → World → Prop) (h : stamp.vc p w R) : Calls Tryz.prog 126 #[.pointer p] w R :=
 calls_of_bodyV noNum (an := stamp.an) (args := [.pointer p]) Tryz.func126 (by kernel_rfl) ((stamp.eq p w R).mpr h)
def setStamp.an : An := { wraps := [],loops := [(4,[(12,.inl .i64)])],joins := [],ranges := [] }
def setStamp.vc (p : Option Addr) (n : Int) (w : World) (R : Ending → World → Prop) : Prop := br (decide (n < (0 : Int))) (R (Ending.returned (Value.bool false)) w) (br (decide ((4611686018427387904 : Int) < n)) (R (Ending.returned (Value.bool false)) w) (LoopP (fun (s : Int) (w' : World) (next
 : Int → World → Prop) ↦ br (decide (s < (8 : Int))) (inR IntKind.i64 ((8 : Int) * s) ∧ inR IntKind.i64 ((56 : Int) - (8 : Int) * s) ∧ (0 : Int) ≤ (56 : Int) - (8 : Int) * s ∧ onP p fun a ↦ ((0 : Int)
 ≤ s ∧ s < (↑(4096 : Nat) : Int)) ∧ ∃ w1, St Tryz.prog 5 (World.drew w') (Addr.add a (Int.toNat s * 1)) (Value.int IntKind.u8 (IntKind.wrap IntKind.u8 (Int.fdiv n ((2 : Int) ^ min (Int.toNat
 ((56 : Int) - (8 : Int) * s)) (IntKind.bits IntKind.i64))))) w1 ∧ inR IntKind.i64 (s + (1 : Int)) ∧ next (s + (1 : Int)) w1) (R (Ending.returned (Value.bool true)) w')) (0 : Int) w))
theorem setStamp.eq (p : Option Addr) (n : Int) (w : World) (R : Ending → World → Prop) : bodyV Tryz.prog setStamp.an Tryz.f102 [.pointer p,.int .i64 n] w R = setStamp.vc p n w R := by kernel_rfl
theorem setStamp.ok (p : Option Addr) (n : Int) (w : World) (R : Ending → World → Prop) (h : setStamp.vc p n w R) : Calls Tryz.prog 102 #[.pointer p,.int .i64 n] w R :=
 calls_of_bodyV noNum (an := setStamp.an) (args := [.pointer p,.int .i64 n]) Tryz.func102 (by kernel_rfl) ((setStamp.eq p n w R).mpr h)
def bytes.an : An := { wraps := [],loops := [],joins := [],ranges := [] }
def bytes.vc (p : Option Addr) (w : World) (R : Ending → World → Prop) : Prop := onP p fun a ↦ ∃ (cs : List Value),Ld Tryz.prog 142 w a (Value.agg (List.toArray cs)) ∧ ∀ b w1,New w (Obj.cells (List.toArray (zl Tryz.prog 142)) 142) b w1 → ∃ w1_1,St
 Tryz.prog 142 w1 (Addr.mk b 0 none) (Value.agg (List.toArray cs)) w1_1 ∧ R (Ending.returned (Value.slice (some (Addr.mk b 0 none)) 4096 4096)) w1_1
theorem bytes.eq (p : Option Addr) (w : World) (R : Ending → World → Prop) : bodyV Tryz.prog bytes.an Tryz.f59 [.pointer p] w R = bytes.vc p w R := by kernel_rfl
theorem bytes.ok (p : Option Addr) (w : World) (R : Ending → World → Prop) (h : bytes.vc p w R) : Calls Tryz.prog 59 #[.pointer p] w R :=
 calls_of_bodyV noNum (an := bytes.an) (args := [.pointer p]) Tryz.func59 (by kernel_rfl) ((bytes.eq p w R).mpr h)
def clone.an : An := { wraps := [],loops := [],joins := [],ranges := [] }
def clone.vc (p : Option Addr) (w : World) (R : Ending → World → Prop) : Prop := onP p fun a ↦ ∃ (cs : List Value),∃ i i_1,Ld Tryz.prog 144 w a (Value.agg (List.toArray (cs ++ ([Value.int IntKind.i64 i] ++ ([Value.int IntKind.i64 i_1] ++ []))))) ∧ ∀ b w1,New w
 (Obj.cells (List.toArray (zl Tryz.prog 144)) 144) b w1 → ∃ w1_1,St Tryz.prog 144 w1 (Addr.mk b 0 none) (Value.agg (List.toArray (cs ++ ([Value.int IntKind.i64 i] ++ ([Value.int
 IntKind.i64 i_1] ++ []))))) w1_1 ∧ R (Ending.returned (Value.pointer (some (Addr.mk b 0 none)))) w1_1
theorem clone.eq (p : Option Addr) (w : World) (R : Ending → World → Prop) : bodyV Tryz.prog clone.an Tryz.f89 [.pointer p] w R = clone.vc p w R := by kernel_rfl
theorem clone.ok (p : Option Addr) (w : World) (R : Ending → World → Prop) (h : clone.vc p w R) : Calls Tryz.prog 89 #[.pointer p] w R :=
 calls_of_bodyV noNum (an := clone.an) (args := [.pointer p]) Tryz.func89 (by kernel_rfl) ((clone.eq p w R).mpr h)
def load.an : An := { wraps := [],loops := [],joins := [],ranges := [(11,[(29,.inl .i64)])] }
def load.vc (ba : Option Addr) (bn : Nat) (bc : Nat) (w : World) (R : Ending → World → Prop) : Prop := ∀ b w1,New w (Obj.cells #[Value.slice ba bn bc] 29) b w1 → ∀ b_1 w1_1,New w1 (Obj.cells #[Value.pointer none] 99) b_1 w1_1 → ∀ b_2 w1,New w1_1 (Obj.cells #[Value.int IntKind.i64 0] 27) b_2 w1 → ∃ a
 l c, Ld Tryz.prog 29 w1 (Addr.mk b 0 none) (Value.slice a l c) ∧ br (!decide ((↑l : Int) = (4096 : Int))) (∃ w1_2, St Tryz.prog 99 w1 (Addr.mk b_1 0 none) (Value.pointer none) w1_2 ∧
 ∃ w1,St Tryz.prog 27 w1_2 (Addr.mk b_2 0 none) (Value.int IntKind.i64 112) w1 ∧ ∃ p,Ld Tryz.prog 99 w1 (Addr.mk b_1 0 none) (Value.pointer p) ∧ ∃ i,Ld Tryz.prog 27 w1
 (Addr.mk b_2 0 none) (Value.int IntKind.i64 i) ∧ R (Ending.returned (Value.tuple #[Value.pointer p,Value.int IntKind.i64 i])) w1) (∀ b_3 w1_2,New w1 (Obj.cells (List.toArray (zl Tryz.prog
 144)) 144) b_3 w1_2 → ∃ a l c,Ld Tryz.prog 29 (World.drew w1_2) (Addr.mk b 0 none) (Value.slice a l c) ∧ ∃ n w1,Cpy Tryz.prog #[29,29] 3 (World.drew w1_2) (Value.slice (some
 (Addr.mk b_3 0 none)) 4096 4096) (Value.slice a l c) (Value.int IntKind.i64 n) w1 ∧ CallV Tryz.prog 117 [Value.pointer (some (Addr.mk b_3 0 none)),Value.int IntKind.i64 8] w1 fun e w' ↦ ∃ i,
 e = Ending.returned (Value.int IntKind.i64 i) ∧ ∃ w1,St Tryz.prog 3 w' (Addr.mk b_3 4096 none) (Value.int IntKind.i64 i) w1 ∧ CallV Tryz.prog 98 [] w1 fun e w' ↦ ∃ p,e =
 Ending.returned (Value.pointer p) ∧ ∀ b_4 w1,New w' (Obj.cells #[Value.pointer none] 99) b_4 w1 → ∃ w1_3,St Tryz.prog 99 w1 (Addr.mk b_4 0 none) (Value.pointer p) w1_3 ∧ ∃ i,Ld
 Tryz.prog 3 (World.drew w1_3) (Addr.mk b_3 4096 none) (Value.int IntKind.i64 i) ∧ br (decide ((120 : Int) < i)) (∃ w1,St Tryz.prog 99 (World.drew w1_3) (Addr.mk b_1 0 none)
 (Value.pointer none) w1 ∧ ∃ w1_4,St Tryz.prog 27 w1 (Addr.mk b_2 0 none) (Value.int IntKind.i64 112) w1_4 ∧ ∃ p,Ld Tryz.prog 99 w1_4 (Addr.mk b_1 0 none) (Value.pointer p) ∧ ∃ i,
 Ld Tryz.prog 27 w1_4 (Addr.mk b_2 0 none) (Value.int IntKind.i64 i) ∧ R (Ending.returned (Value.tuple #[Value.pointer p,Value.int IntKind.i64 i])) w1_4) (∃ p,Ld Tryz.prog 99
 (World.drew w1_3) (Addr.mk b_4 0 none) (Value.pointer p) ∧ CallV Tryz.prog 126 [Value.pointer (some (Addr.mk b_3 0 none))] (World.drew w1_3) fun e w' ↦ ∃ i,e = Ending.returned (Value.int
 IntKind.i64 i) ∧ Ld Tryz.prog 99 w' (Addr.mk b_4 0 none) (Value.pointer p) ∧ CallV Tryz.prog 102 [Value.pointer p,Value.int IntKind.i64 i] w' fun e w' ↦ ∃ b_5,e = Ending.returned
 (Value.bool b_5) ∧ br (!b_5) (∃ w1,St Tryz.prog 99 w' (Addr.mk b_1 0 none) (Value.pointer none) w1 ∧ ∃ w1_4,St Tryz.prog 27 w1 (Addr.mk b_2 0 none) (Value.int IntKind.i64 112) w1_4
 ∧ ∃ p,Ld Tryz.prog 99 w1_4 (Addr.mk b_1 0 none) (Value.pointer p) ∧ ∃ i,Ld Tryz.prog 27 w1_4 (Addr.mk b_2 0 none) (Value.int IntKind.i64 i) ∧ R (Ending.returned (Value.tuple
 #[Value.pointer p,Value.int IntKind.i64 i])) w1_4) (∃ (gf : FuncId),∃ (fi : Array Value),∃ (ca : Array Value),Value.func (Fn.func 76) #[Value.pointer (some (Addr.mk b_3 0 none))] #[] = Value.func
 (Fn.func gf) fi ca ∧ HasBody Tryz.prog gf ∧ RangeP Tryz.prog gf (Array.toList fi) (Array.toList ca) (fun s ↦ [Value.int IntKind.i64 s]) (fun (s : Int) (w' : World) (begin : World →
 (World → Prop) → Prop) (kn kr : World → Prop) (kx : Nat → World → Prop) ↦ begin w' fun w2 ↦ CallV Tryz.prog 77 [Value.pointer (some (Addr.mk b_3 0 none)),Value.int IntKind.i64 s] w2 fun e w'
 ↦ ∃ i i_1,e = Ending.returned (Value.tuple #[Value.int IntKind.i64 i,Value.int IntKind.i64 i_1]) ∧ br (decide (i < (10 : Int))) (∃ w1,St Tryz.prog 99 (World.drew w') (Addr.mk b_1 0 none)
 (Value.pointer none) w1 ∧ ∃ w1_4,St Tryz.prog 27 w1 (Addr.mk b_2 0 none) (Value.int IntKind.i64 112) w1_4 ∧ kr w1_4) (inR IntKind.i64 ((4096 : Int) - i) ∧ br (decide ((4096 : Int) - i <
 i_1)) (∃ w1,St Tryz.prog 99 (World.drew w') (Addr.mk b_1 0 none) (Value.pointer none) w1 ∧ ∃ w1_4,St Tryz.prog 27 w1 (Addr.mk b_2 0 none) (Value.int IntKind.i64 112) w1_4 ∧ kr
 w1_4) (∃ p,Ld Tryz.prog 99 (World.drew w') (Addr.mk b_4 0 none) (Value.pointer p) ∧ ∃ a l c,Ld Tryz.prog 29 (World.drew w') (Addr.mk b 0 none) (Value.slice a l c) ∧ inR IntKind.i64
 (i + i_1) ∧ ((0 : Int) ≤ i ∧ i ≤ i + i_1 ∧ i + i_1 ≤ (↑c : Int)) ∧ ∃ s_1, B2S Tryz.prog 29 9 (World.drew w') (Value.slice (slA a c (Int.toNat i) 1) (Int.toNat (i + i_1) - Int.toNat i) (c -
 Int.toNat i)) (Value.string s_1) ∧ CallV Tryz.prog 100 [Value.pointer p,Value.int IntKind.i64 s,Value.string s_1] (World.drew w') fun e w' ↦ ∃ i,e = Ending.returned (Value.int IntKind.i64
 i) ∧ br (!decide (i = (0 : Int))) (∃ w1,St Tryz.prog 99 w' (Addr.mk b_1 0 none) (Value.pointer none) w1 ∧ ∃ w1_4,St Tryz.prog 27 w1 (Addr.mk b_2 0 none) (Value.int IntKind.i64 112)
 w1_4 ∧ kr w1_4) (kn w')))) w' (fun D w' ↦ ∃ p,Ld Tryz.prog 99 w' (Addr.mk b_4 0 none) (Value.pointer p) ∧ ∃ w1,St Tryz.prog 99 w' (Addr.mk b_1 0 none) (Value.pointer p) w1 ∧ ∃
 w1_4,St Tryz.prog 27 w1 (Addr.mk b_2 0 none) (Value.int IntKind.i64 0) w1_4 ∧ ∃ w1,ShutD w1_4 D w1 ∧ ∃ p,Ld Tryz.prog 99 w1 (Addr.mk b_1 0 none) (Value.pointer p) ∧ ∃ i,Ld
 Tryz.prog 27 w1 (Addr.mk b_2 0 none) (Value.int IntKind.i64 i) ∧ R (Ending.returned (Value.tuple #[Value.pointer p,Value.int IntKind.i64 i])) w1) (fun D w' ↦ ∃ w1,ShutD w' D w1 ∧ ∃ p,Ld
 Tryz.prog 99 w1 (Addr.mk b_1 0 none) (Value.pointer p) ∧ ∃ i,Ld Tryz.prog 27 w1 (Addr.mk b_2 0 none) (Value.int IntKind.i64 i) ∧ R (Ending.returned (Value.tuple #[Value.pointer p,
 Value.int IntKind.i64 i])) w1) fun (id D : Nat) (w' : World) ↦ False)))
theorem load.eq (ba : Option Addr) (bn : Nat) (bc : Nat) (w : World) (R : Ending → World → Prop) : bodyV Tryz.prog load.an Tryz.f116 [.slice ba bn bc] w R = load.vc ba bn bc w R := by kernel_rfl
theorem load.ok (ba : Option Addr) (bn : Nat) (bc : Nat) (w : World) (R : Ending → World → Prop) (h : load.vc ba bn bc w R) : Calls Tryz.prog 116 #[.slice ba bn bc] w R :=
 calls_of_bodyV noNum (an := load.an) (args := [.slice ba bn bc]) Tryz.func116 (by kernel_rfl) ((load.eq ba bn bc w R).mpr h)
def ffind.an : An := { wraps := [],loops := [(2,[(12,.inl .i64)])],joins := [],ranges := [] }
def ffind.vc (p : Option Addr) (n : Int) (w : World) (R : Ending → World → Prop) : Prop := onP p fun a ↦ ∃ a_1 l c, Ld Tryz.prog 132 w (Addr.add a 4) (Value.slice a_1 l c) ∧ LoopP (fun (s : Int) (w' : World) (next : Int → World → Prop) ↦ br (decide (s < (↑l : Int))) (onP a_1 fun a ↦
 ((0 : Int) ≤ s ∧ s < (↑l : Int)) ∧ ∃ p, Ld Tryz.prog 153 w' (Addr.add a (Int.toNat s * 1)) (Value.pointer p) ∧ onP p fun a ↦ ∃ i, Ld Tryz.prog 3 w' a (Value.int IntKind.i64 i) ∧ br
 (decide (i = n)) (R (Ending.returned (Value.pointer p)) w') (inR IntKind.i64 (s + (1 : Int)) ∧ next (s + (1 : Int)) w')) (R (Ending.returned (Value.pointer none)) w')) (0 : Int) w
theorem ffind.eq (p : Option Addr) (n : Int) (w : World) (R : Ending → World → Prop) : bodyV Tryz.prog ffind.an Tryz.f87 [.pointer p,.int .i64 n] w R = ffind.vc p n w R := by kernel_rfl
theorem ffind.ok (p : Option Addr) (n : Int) (w : World) (R : Ending → World → Prop) (h : ffind.vc p n w R) : Calls Tryz.prog 87 #[.pointer p,.int .i64 n] w R :=
 calls_of_bodyV noNum (an := ffind.an) (args := [.pointer p,.int .i64 n]) Tryz.func87 (by kernel_rfl) ((ffind.eq p n w R).mpr h)
def fwrite.an : An := { wraps := [],loops := [(4,[(7,.inl .i64)]),(9,[(47,.inl .i64)])],joins := [(2,[(5,.inr 2)])],ranges := [] }
def fwrite.vc (p : Option Addr) (f : Option Addr) (w : World) (R : Ending → World → Prop) : Prop := ∀ b w1,New w (Obj.cells #[Value.pointer p] 88) b w1 → JoinP (fun s w' ↦ ∃ p,Ld Tryz.prog 88 (World.drew w') (Addr.mk b 0 none) (Value.pointer p) ∧ onP p fun a ↦ ∃ p,Ld Tryz.prog 23
 (World.drew w') a (Value.pointer p) ∧ ∃ p_1,Ld Tryz.prog 88 (World.drew w') (Addr.mk b 0 none) (Value.pointer p_1) ∧ onP p_1 fun a ↦ ∃ s_1,Ld Tryz.prog 9 (World.drew w') (Addr.add
 a 1) (Value.string s_1) ∧ CallV Tryz.prog 67 [Value.pointer p,Value.string s_1] (World.drew w') fun e w' ↦ ∃ i,e = Ending.returned (Value.int IntKind.i64 i) ∧ LoopP (fun (s_2 : Int) (w' :
 World) (next : Int → World → Prop) ↦ onP f fun a ↦ ∃ i,Ld Tryz.prog 3 w' a (Value.int IntKind.i64 i) ∧ inR IntKind.i64 (i * (8 : Int)) ∧ br (decide (s_2 < i * (8 : Int))) (CallV
 Tryz.prog 127 [Value.int IntKind.i64 s_2,Value.slice none 0 0,Value.pointer s,Value.pointer (some (Addr.mk b 0 none))] w' fun e w' ↦ e = Ending.returned (Value.tuple #[]) ∧ inR IntKind.i64
 (s_2 + (1 : Int)) ∧ next (s_2 + (1 : Int)) w') (onP f fun a ↦ ∃ p,Ld Tryz.prog 99 w' (Addr.add a 1) (Value.pointer p) ∧ CallV Tryz.prog 59 [Value.pointer p] w' fun e w' ↦ ∃ a l c,e
 = Ending.returned (Value.slice a l c) ∧ LoopP (fun (s_3 : Int) (w' : World) (next : Int → World → Prop) ↦ br (decide (s_3 < (8 : Int))) (onP f fun a_1 ↦ ∃ i,Ld Tryz.prog 3 (World.drew w')
 a_1 (Value.int IntKind.i64 i) ∧ inR IntKind.i64 (i * (8 : Int)) ∧ inR IntKind.i64 (i * (8 : Int) + s_3) ∧ inR IntKind.i64 (s_3 * (512 : Int)) ∧ inR IntKind.i64 (s_3 + (1 : Int)) ∧ inR IntKind.i64
 ((s_3 + (1 : Int)) * (512 : Int)) ∧ ((0 : Int) ≤ s_3 * (512 : Int) ∧ s_3 * (512 : Int) ≤ (s_3 + (1 : Int)) * (512 : Int) ∧ (s_3 + (1 : Int)) * (512 : Int) ≤ (↑c : Int)) ∧ CallV Tryz.prog 127
 [Value.int IntKind.i64 (i * (8 : Int) + s_3),Value.slice (slA a c (Int.toNat (s_3 * (512 : Int))) 1) (Int.toNat ((s_3 + (1 : Int)) * (512 : Int)) - Int.toNat (s_3 * (512 : Int))) (c - Int.toNat (s_3
 * (512 : Int))),Value.pointer s,Value.pointer (some (Addr.mk b 0 none))] (World.drew w') fun e w' ↦ e = Ending.returned (Value.tuple #[]) ∧ inR IntKind.i64 (s_3 + (1 : Int)) ∧ next (s_3 + (1 : Int))
 w') (∃ i,(onP s fun a ↦ Ld Tryz.prog 27 w' a (Value.int IntKind.i64 i)) ∧ br (decide (i = (0 : Int))) (onP f fun a ↦ ∃ w1,St Tryz.prog 4 w' (Addr.add a 3) (Value.bool false) w1 ∧ ∃
 i,(onP s fun a ↦ Ld Tryz.prog 27 w1 a (Value.int IntKind.i64 i)) ∧ R (Ending.returned (Value.int IntKind.i64 i)) w1) (∃ i,(onP s fun a ↦ Ld Tryz.prog 27 w' a (Value.int IntKind.i64
 i)) ∧ R (Ending.returned (Value.int IntKind.i64 i)) w'))) (0 : Int) w')) i w') fun (J : Option Addr → World → Prop) ↦ (∃ p,Ld Tryz.prog 88 (World.drew w1) (Addr.mk b 0 none) (Value.pointer
 p) ∧ onP p fun a ↦ ∃ v,Ld Tryz.prog 96 (World.drew w1) (Addr.add a 3) v ∧ onP f fun a_1 ↦ ∃ p_1,Ld Tryz.prog 99 (World.drew w1) (Addr.add a_1 1) (Value.pointer p_1) ∧ CallV
 Tryz.prog 126 [Value.pointer p_1] (World.drew w1) fun e w' ↦ ∃ i,e = Ending.returned (Value.int IntKind.i64 i) ∧ Ld Tryz.prog 96 w' (Addr.add a 3) v ∧ Ld Tryz.prog 88 w'
 (Addr.mk b 0 none) (Value.pointer p) ∧ CallX Tryz.prog v [Value.int IntKind.i64 i] w' fun e w' ↦ ∃ i,e = Ending.returned (Value.int IntKind.i64 i) ∧ ∀ b w1,New w' (Obj.cells #[Value.int
 IntKind.i64 0] 27) b w1 → ∃ w1_1,St Tryz.prog 27 w1 (Addr.mk b 0 none) (Value.int IntKind.i64 i) w1_1 ∧ J (some (Addr.mk b 0 none)) w1_1) ∧ (∃ p,Ld Tryz.prog 88 (World.drew w1)
 (Addr.mk b 0 none) (Value.pointer p) ∧ onP p fun a ↦ ∃ v,Ld Tryz.prog 96 (World.drew w1) (Addr.add a 3) v ∧ onP f fun a_1 ↦ ∃ p_1,Ld Tryz.prog 99 (World.drew w1) (Addr.add a_1 1)
 (Value.pointer p_1) ∧ CallV Tryz.prog 126 [Value.pointer p_1] (World.drew w1) fun e w' ↦ ∃ i,e = Ending.returned (Value.int IntKind.i64 i) ∧ Ld Tryz.prog 96 w' (Addr.add a 3) v ∧ Ld
 Tryz.prog 88 w' (Addr.mk b 0 none) (Value.pointer p) ∧ ∀ b_1 w1,New w' (Obj.cells #[Value.int IntKind.i64 0] 27) b_1 w1 → Ld Tryz.prog 96 w1 (Addr.add a 3) v ∧ Ld Tryz.prog
 88 w1 (Addr.mk b 0 none) (Value.pointer p) ∧ CallX Tryz.prog v [Value.int IntKind.i64 i] w1 fun e w' ↦ ∃ i,e = Ending.returned (Value.int IntKind.i64 i) ∧ ∃ w1,St Tryz.prog 27 w'
 (Addr.mk b_1 0 none) (Value.int IntKind.i64 i) w1 ∧ J (some (Addr.mk b_1 0 none)) w1) ∧ ∃ p,Ld Tryz.prog 88 (World.drew w1) (Addr.mk b 0 none) (Value.pointer p) ∧ onP p fun a ↦ ∃ v,Ld
 Tryz.prog 96 (World.drew w1) (Addr.add a 3) v ∧ onP f fun a_1 ↦ ∃ p_1,Ld Tryz.prog 99 (World.drew w1) (Addr.add a_1 1) (Value.pointer p_1) ∧ ∀ b_1 w1_1,New (World.drew w1)
 (Obj.cells #[Value.int IntKind.i64 0] 27) b_1 w1_1 → Ld Tryz.prog 99 w1_1 (Addr.add a_1 1) (Value.pointer p_1) ∧ Ld Tryz.prog 96 w1_1 (Addr.add a 3) v ∧ Ld Tryz.prog 88 w1_1
 (Addr.mk b 0 none) (Value.pointer p) ∧ CallV Tryz.prog 126 [Value.pointer p_1] w1_1 fun e w' ↦ ∃ i,e = Ending.returned (Value.int IntKind.i64 i) ∧ Ld Tryz.prog 96 w' (Addr.add a 3)
 v ∧ Ld Tryz.prog 88 w' (Addr.mk b 0 none) (Value.pointer p) ∧ CallX Tryz.prog v [Value.int IntKind.i64 i] w' fun e w' ↦ ∃ i,e = Ending.returned (Value.int IntKind.i64 i) ∧ ∃ w1,St
 Tryz.prog 27 w' (Addr.mk b_1 0 none) (Value.int IntKind.i64 i) w1 ∧ J (some (Addr.mk b_1 0 none)) w1
theorem fwrite.eq (p : Option Addr) (f : Option Addr) (w : World) (R : Ending → World → Prop) : bodyV Tryz.prog fwrite.an Tryz.f93 [.pointer p,.pointer f] w R = fwrite.vc p f w R := by kernel_rfl
theorem fwrite.ok (p : Option Addr) (f : Option Addr) (w : World) (R : Ending → World → Prop) (h : fwrite.vc p f w R) : Calls Tryz.prog 93 #[.pointer p,.pointer f] w R :=
 calls_of_bodyV noNum (an := fwrite.an) (args := [.pointer p,.pointer f]) Tryz.func93 (by kernel_rfl) ((fwrite.eq p f w R).mpr h)
def fwriteC.an : An := { wraps := [],loops := [],joins := [],ranges := [] }
def fwriteC.vc (n : Int) (ba : Option Addr) (bn : Nat) (bc : Nat) (free0 : Option Addr) (free1 : Option Addr) (w : World) (R : Ending → World → Prop) : Prop := ∃ i,(onP free0 fun a ↦ Ld Tryz.prog 27 w a (Value.int IntKind.i64 i)) ∧ br (decide (i = (0 : Int))) (∃ p,(onP free1 fun a ↦ Ld Tryz.prog 88 (World.drew w) a (Value.pointer p)) ∧ onP
 p fun a ↦ ∃ p,Ld Tryz.prog 23 (World.drew w) a (Value.pointer p) ∧ ∃ p_1,(onP free1 fun a ↦ Ld Tryz.prog 88 (World.drew w) a (Value.pointer p_1)) ∧ onP p_1 fun a ↦ ∃ s,Ld
 Tryz.prog 9 (World.drew w) (Addr.add a 1) (Value.string s) ∧ CallV Tryz.prog 10 [Value.pointer p,Value.string s,Value.int IntKind.i64 n,Value.slice ba bn bc] (World.drew w) fun e
 w' ↦ ∃ i,e = Ending.returned (Value.int IntKind.i64 i) ∧ onP free0 fun a ↦ ∃ w1,St Tryz.prog 27 w' a (Value.int IntKind.i64 i) w1 ∧ R (Ending.returned (Value.tuple #[])) w1) (R
 (Ending.returned (Value.tuple #[])) w)
theorem fwriteC.eq (n : Int) (ba : Option Addr) (bn : Nat) (bc : Nat) (free0 : Option Addr) (free1 : Option Addr) (w : World) (R : Ending → World → Prop) : bodyV Tryz.prog fwriteC.an Tryz.f127 [.int .i64 n,.slice ba bn bc,(.pointer free0),(.pointer free1)] w R = fwriteC.vc n ba bn bc free0 free1 w R := by kernel_rfl
theorem fwriteC.ok (n : Int) (ba : Option Addr) (bn : Nat) (bc : Nat) (free0 : Option Addr) (free1 : Option Addr) (w : World) (R : Ending → World → Prop) (h : fwriteC.vc n ba bn bc free0 free1 w R) : Calls Tryz.prog 127 #[.int .i64 n,.slice ba bn bc,(.pointer free0),(.pointer free1)] w R :=
 calls_of_bodyV noNum (an := fwriteC.an) (args := [.int .i64 n,.slice ba bn bc,(.pointer free0),(.pointer free1)]) Tryz.func127 (by kernel_rfl) ((fwriteC.eq n ba bn bc free0 free1 w R).mpr h)
def free.an : An := { wraps := [],loops := [(6,[(4,.inl .i64),(41,.inl .i64)])],joins := [],ranges := [] }
def free.vc (p : Option Addr) (w : World) (R : Ending → World → Prop) : Prop := onP p fun a ↦ ∃ a_1 l c,Ld Tryz.prog 132 (World.drew w) (Addr.add a 4) (Value.slice a_1 l c) ∧ onP p fun a ↦ ∃ i,Ld Tryz.prog 3 (World.drew w) (Addr.add a 2) (Value.int IntKind.i64
 i) ∧ br (decide ((↑l : Int) < i)) (onP p fun a ↦ ∃ a_2 l c, Ld Tryz.prog 132 (World.drew w) (Addr.add a 4) (Value.slice a_2 l c) ∧ ∀ b w1, New (World.drew w) (Obj.cells #[Value.int
 IntKind.i64 (-1 : Int),Value.pointer none,Value.int IntKind.i64 0,Value.bool false,Value.bool false] 156) b w1 → ∀ b_1 w1_1,New w1 (Obj.cells #[Value.pointer (some (Addr.mk b 0 none))] 153) b_1
 w1_1 → ∃ a n m w1,App Tryz.prog #[132,132] 132 w1_1 (Value.slice a_2 l c) (Value.slice (some (Addr.mk b_1 0 none)) 1 1) (Value.slice a n m) w1 ∧ onP p fun a_3 ↦ ∃ w1_2,St
 Tryz.prog 132 w1 (Addr.add a_3 4) (Value.slice a n m) w1_2 ∧ onP p fun a ↦ ∃ a_4 l c, Ld Tryz.prog 132 w1_2 (Addr.add a 4) (Value.slice a_4 l c) ∧ inR IntKind.i64 ((↑l : Int) - (1 :
 Int)) ∧ R (Ending.returned (Value.tuple #[Value.int IntKind.i64 ((↑l : Int) - (1 : Int)), Value.int IntKind.i64 0])) w1_2) (onP p fun a ↦ ∃ a_2 l c, Ld Tryz.prog 132 (World.drew w) (Addr.add
 a 4) (Value.slice a_2 l c) ∧ inR IntKind.i64 ((2 : Int) * (↑l : Int)) ∧ LoopP (fun (s : Int × Int) (w' : World) (next : Int × Int → World → Prop) ↦ br (decide (Prod.snd s < (2 : Int) * (↑l : Int)))
 (onP p fun a ↦ ∃ a_3 l c,Ld Tryz.prog 132 (World.drew w') (Addr.add a 4) (Value.slice a_3 l c) ∧ onP p fun a ↦ ∃ i,Ld Tryz.prog 3 (World.drew w') (Addr.add a 5) (Value.int
 IntKind.i64 i) ∧ onP a_3 fun a ↦ ((0 : Int) ≤ i ∧ i < (↑l : Int)) ∧ ∃ p_1, Ld Tryz.prog 153 (World.drew w') (Addr.add a (Int.toNat i * 1)) (Value.pointer p_1) ∧ onP p fun a ↦ ∃ i, Ld
 Tryz.prog 3 (World.drew w') (Addr.add a 5) (Value.int IntKind.i64 i) ∧ onP p fun a ↦ ∃ i_1,Ld Tryz.prog 3 (World.drew (World.drew w')) (Addr.add a 5) (Value.int IntKind.i64 i_1) ∧
 inR IntKind.i64 (i_1 + (1 : Int)) ∧ onP p fun a ↦ ∃ a_4 l c, Ld Tryz.prog 132 (World.drew (World.drew w')) (Addr.add a 4) (Value.slice a_4 l c) ∧ (↑l : Int) ≠ (0 : Int) ∧ onP p fun a ↦ ∃ w1,
 St Tryz.prog 3 (World.drew (World.drew w')) (Addr.add a 5) (Value.int IntKind.i64 (Int.tmod (i_1 + (1 : Int)) (↑l : Int))) w1 ∧ onP p_1 fun a ↦ ∃ i_2, Ld Tryz.prog 3 w1 (Addr.add a
 2) (Value.int IntKind.i64 i_2) ∧ br (decide ((0 : Int) < i_2)) (inR IntKind.i64 (Prod.snd s + (1 : Int)) ∧ next (Prod.fst s,Prod.snd s + (1 : Int)) w1) (onP p_1 fun a ↦ ∃ b,Ld Tryz.prog 4
 w1 (Addr.add a 4) (Value.bool b) ∧ br b (onP p_1 fun a ↦ ∃ w1_1,St Tryz.prog 4 w1 (Addr.add a 4) (Value.bool false) w1_1 ∧ inR IntKind.i64 (Prod.snd s + (1 : Int)) ∧ next (Prod.fst s,
 Prod.snd s + (1 : Int)) w1_1) (br (decide (i < (0 : Int))) (R (Ending.returned (Value.tuple #[Value.int IntKind.i64 0,Value.int IntKind.i64 120])) w1) (onP p fun a ↦ ∃ a_5 l c,Ld Tryz.prog
 132 w1 (Addr.add a 4) (Value.slice a_5 l c) ∧ onP a_5 fun a ↦ ((0 : Int) ≤ i ∧ i < (↑l : Int)) ∧ ∃ p_2, Ld Tryz.prog 153 w1 (Addr.add a (Int.toNat i * 1)) (Value.pointer p_2) ∧ onP p_2 fun a
 ↦ ∃ b,Ld Tryz.prog 4 w1 (Addr.add a 3) (Value.bool b) ∧ br b (onP p fun a ↦ ∃ a_6 l c,Ld Tryz.prog 132 w1 (Addr.add a 4) (Value.slice a_6 l c) ∧ onP a_6 fun a ↦ ((0 : Int) ≤ i ∧ i
 < (↑l : Int)) ∧ ∃ p_3, Ld Tryz.prog 153 w1 (Addr.add a (Int.toNat i * 1)) (Value.pointer p_3) ∧ CallV Tryz.prog 93 [Value.pointer p, Value.pointer p_3] w1 fun e w' ↦ ∃ i_3, e =
 Ending.returned (Value.int IntKind.i64 i_3) ∧ br (!decide (i_3 = (0 : Int))) (R (Ending.returned (Value.tuple #[Value.int IntKind.i64 0,Value.int IntKind.i64 i_3])) w') (R (Ending.returned
 (Value.tuple #[Value.int IntKind.i64 i,Value.int IntKind.i64 0])) w')) (R (Ending.returned (Value.tuple #[Value.int IntKind.i64 i,Value.int IntKind.i64 0])) w1))))) (br (decide (Prod.fst s < (0 :
 Int))) (R (Ending.returned (Value.tuple #[Value.int IntKind.i64 0,Value.int IntKind.i64 120])) w') (onP p fun a ↦ ∃ a_3 l c,Ld Tryz.prog 132 w' (Addr.add a 4) (Value.slice a_3 l c) ∧ onP
 a_3 fun a ↦ ((0 : Int) ≤ Prod.fst s ∧ Prod.fst s < (↑l : Int)) ∧ ∃ p_1, Ld Tryz.prog 153 w' (Addr.add a (Int.toNat (Prod.fst s) * 1)) (Value.pointer p_1) ∧ onP p_1 fun a ↦ ∃ b, Ld
 Tryz.prog 4 w' (Addr.add a 3) (Value.bool b) ∧ br b (onP p fun a ↦ ∃ a_4 l c,Ld Tryz.prog 132 w' (Addr.add a 4) (Value.slice a_4 l c) ∧ onP a_4 fun a ↦ ((0 : Int) ≤ Prod.fst s ∧
 Prod.fst s < (↑l : Int)) ∧ ∃ p_2, Ld Tryz.prog 153 w' (Addr.add a (Int.toNat (Prod.fst s) * 1)) (Value.pointer p_2) ∧ CallV Tryz.prog 93 [Value.pointer p, Value.pointer p_2] w' fun e
 w' ↦ ∃ i,e = Ending.returned (Value.int IntKind.i64 i) ∧ br (!decide (i = (0 : Int))) (R (Ending.returned (Value.tuple #[Value.int IntKind.i64 0,Value.int IntKind.i64 i])) w') (R (Ending.returned
 (Value.tuple #[Value.int IntKind.i64 (Prod.fst s),Value.int IntKind.i64 0])) w')) (R (Ending.returned (Value.tuple #[Value.int IntKind.i64 (Prod.fst s),Value.int IntKind.i64 0])) w')))) ((-1 : Int),
 (0 : Int)) (World.drew w))
theorem free.eq (p : Option Addr) (w : World) (R : Ending → World → Prop) : bodyV Tryz.prog free.an Tryz.f124 [.pointer p] w R = free.vc p w R := by kernel_rfl
theorem free.ok (p : Option Addr) (w : World) (R : Ending → World → Prop) (h : free.vc p w R) : Calls Tryz.prog 124 #[.pointer p] w R :=
 calls_of_bodyV noNum (an := free.an) (args := [.pointer p]) Tryz.func124 (by kernel_rfl) ((free.eq p w R).mpr h)
def fread.an : An := { wraps := [],loops := [(3,[(6,.inr 3),(10,.inl .i64)])],joins := [],ranges := [] }
def fread.vc (p : Option Addr) (n : Int) (w : World) (R : Ending → World → Prop) : Prop := LoopP (fun (s : (Option Addr × Nat × Nat) × Int) (w' : World) (next : (Option Addr × Nat × Nat) × Int → World → Prop) ↦ br (decide (Prod.snd s < (8 : Int))) (onP p fun a ↦ ∃ p_1,Ld Tryz.prog
 23 (World.drew w') a (Value.pointer p_1) ∧ onP p fun a ↦ ∃ s_1,Ld Tryz.prog 9 (World.drew w') (Addr.add a 1) (Value.string s_1) ∧ inR IntKind.i64 (n * (8 : Int)) ∧ inR IntKind.i64 (n * (8 :
 Int) + Prod.snd s) ∧ CallV Tryz.prog 107 [Value.pointer p_1,Value.string s_1,Value.int IntKind.i64 (n * (8 : Int) + Prod.snd s)] (World.drew w') fun e w' ↦ ∃ a l c i,e = Ending.returned
 (Value.tuple #[Value.slice a l c,Value.int IntKind.i64 i]) ∧ br (decide (i = (0 : Int))) (∃ a_1 n m w1,App Tryz.prog #[29,29] 29 w' (Value.slice (Prod.fst (Prod.fst s)) (Prod.fst (Prod.snd
 (Prod.fst s))) (Prod.snd (Prod.snd (Prod.fst s)))) (Value.slice a l c) (Value.slice a_1 n m) w1 ∧ inR IntKind.i64 (Prod.snd s + (1 : Int)) ∧ next ((a_1,n,m),Prod.snd s + (1 : Int)) w1) (br (decide
 (i = (91 : Int))) (∃ a n m w1,App Tryz.prog #[29,3] 29 w' (Value.slice (Prod.fst (Prod.fst s)) (Prod.fst (Prod.snd (Prod.fst s))) (Prod.snd (Prod.snd (Prod.fst s)))) (Value.int IntKind.i64
 512) (Value.slice a n m) w1 ∧ inR IntKind.i64 (Prod.snd s + (1 : Int)) ∧ next ((a,n,m),Prod.snd s + (1 : Int)) w1) (R (Ending.returned (Value.tuple #[Value.pointer none,Value.int IntKind.i64 i]))
 w'))) (CallV Tryz.prog 116 [Value.slice (Prod.fst (Prod.fst s)) (Prod.fst (Prod.snd (Prod.fst s))) (Prod.snd (Prod.snd (Prod.fst s)))] w' fun e w' ↦ ∃ p i,e = Ending.returned (Value.tuple
 #[Value.pointer p,Value.int IntKind.i64 i]) ∧ R (Ending.returned (Value.tuple #[Value.pointer p,Value.int IntKind.i64 i])) w')) ((none,0,0),(0 : Int)) w
theorem fread.eq (p : Option Addr) (n : Int) (w : World) (R : Ending → World → Prop) : bodyV Tryz.prog fread.an Tryz.f137 [.pointer p,.int .i64 n] w R = fread.vc p n w R := by kernel_rfl
theorem fread.ok (p : Option Addr) (n : Int) (w : World) (R : Ending → World → Prop) (h : fread.vc p n w R) : Calls Tryz.prog 137 #[.pointer p,.int .i64 n] w R :=
 calls_of_bodyV noNum (an := fread.an) (args := [.pointer p,.int .i64 n]) Tryz.func137 (by kernel_rfl) ((fread.eq p n w R).mpr h)
def hold.an : An := { wraps := [],loops := [],joins := [],ranges := [] }
def hold.vc (p : Option Addr) (n : Int) (page : Option Addr) (w : World) (R : Ending → World → Prop) : Prop := CallV Tryz.prog 124 [Value.pointer p] w fun e w' ↦ ∃ i i_1,e = Ending.returned (Value.tuple #[Value.int IntKind.i64 i,Value.int IntKind.i64 i_1]) ∧ br (!decide (i_1 = (0 : Int))) (R
 (Ending.returned (Value.tuple #[Value.pointer none,Value.int IntKind.i64 i_1])) w') (onP p fun a ↦ ∃ a_1 l c,Ld Tryz.prog 132 w' (Addr.add a 4) (Value.slice a_1 l c) ∧ ∀ b w1,New w'
 (Obj.cells #[Value.int IntKind.i64 n, Value.pointer page, Value.int IntKind.i64 0, Value.bool false, Value.bool true] 156) b w1 → onP a_1 fun a ↦ ((0 : Int) ≤ i ∧ i < (↑l : Int)) ∧ ∃ w1_1, St
 Tryz.prog 153 w1 (Addr.add a (Int.toNat i * 1)) (Value.pointer (some (Addr.mk b 0 none))) w1_1 ∧ onP p fun a ↦ ∃ i_2,Ld Tryz.prog 3 w1_1 (Addr.add a 6) (Value.int IntKind.i64 i_2) ∧
 inR IntKind.i64 (n + (1 : Int)) ∧ onP p fun a ↦ ∃ w1,St Tryz.prog 3 w1_1 (Addr.add a 6) (Value.int IntKind.i64 (max i_2 (n + (1 : Int)))) w1 ∧ onP p fun a ↦ ∃ a_2 l c,Ld Tryz.prog
 132 w1 (Addr.add a 4) (Value.slice a_2 l c) ∧ onP a_2 fun a ↦ ((0 : Int) ≤ i ∧ i < (↑l : Int)) ∧ ∃ p, Ld Tryz.prog 153 w1 (Addr.add a (Int.toNat i * 1)) (Value.pointer p) ∧ R (Ending.returned
 (Value.tuple #[Value.pointer p,Value.int IntKind.i64 0])) w1)
theorem hold.eq (p : Option Addr) (n : Int) (page : Option Addr) (w : World) (R : Ending → World → Prop) : bodyV Tryz.prog hold.an Tryz.f88 [.pointer p,.int .i64 n,.pointer page] w R = hold.vc p n page w R := by kernel_rfl
theorem hold.ok (p : Option Addr) (n : Int) (page : Option Addr) (w : World) (R : Ending → World → Prop) (h : hold.vc p n page w R) : Calls Tryz.prog 88 #[.pointer p,.int .i64 n,.pointer page] w R :=
 calls_of_bodyV noNum (an := hold.an) (args := [.pointer p,.int .i64 n,.pointer page]) Tryz.func88 (by kernel_rfl) ((hold.eq p n page w R).mpr h)
def fget.an : An := { wraps := [],loops := [],joins := [],ranges := [] }
def fget.vc (p : Option Addr) (n : Int) (w : World) (R : Ending → World → Prop) : Prop := br (decide (n < (0 : Int))) (R (Ending.returned (Value.tuple #[Value.pointer none,Value.int IntKind.i64 121])) w) (br (decide ((4096 : Int) ≤ n)) (R (Ending.returned (Value.tuple #[Value.pointer none,
 Value.int IntKind.i64 121])) w) (CallV Tryz.prog 87 [Value.pointer p,Value.int IntKind.i64 n] w fun e w' ↦ ∃ p_1,e = Ending.returned (Value.pointer p_1) ∧ ∃ b,Eqv Tryz.prog
 BinOp.eql 153 (Operand.tmp 18) (Operand.const (Value.pointer none)) w' (Value.pointer p_1) (Value.pointer none) b ∧ br b (CallV Tryz.prog 137 [Value.pointer p,Value.int IntKind.i64 n] w' fun
 e w' ↦ ∃ p_2 i,e = Ending.returned (Value.tuple #[Value.pointer p_2,Value.int IntKind.i64 i]) ∧ br (!decide (i = (0 : Int))) (R (Ending.returned (Value.tuple #[Value.pointer none,Value.int
 IntKind.i64 i])) w') (CallV Tryz.prog 88 [Value.pointer p,Value.int IntKind.i64 n,Value.pointer p_2] w' fun e w' ↦ ∃ p i,e = Ending.returned (Value.tuple #[Value.pointer p,Value.int
 IntKind.i64 i]) ∧ br (!decide (i = (0 : Int))) (R (Ending.returned (Value.tuple #[Value.pointer none,Value.int IntKind.i64 i])) w') (onP p fun a ↦ ∃ i,Ld Tryz.prog 3 w' (Addr.add a 2)
 (Value.int IntKind.i64 i) ∧ inR IntKind.i64 (i + (1 : Int)) ∧ onP p fun a ↦ ∃ w1,St Tryz.prog 3 w' (Addr.add a 2) (Value.int IntKind.i64 (i + (1 : Int))) w1 ∧ onP p fun a ↦ ∃ w1_1,St
 Tryz.prog 4 w1 (Addr.add a 4) (Value.bool true) w1_1 ∧ onP p fun a ↦ ∃ p,Ld Tryz.prog 99 w1_1 (Addr.add a 1) (Value.pointer p) ∧ R (Ending.returned (Value.tuple #[Value.pointer p,
 Value.int IntKind.i64 0])) w1_1))) (onP p_1 fun a ↦ ∃ i,Ld Tryz.prog 3 w' (Addr.add a 2) (Value.int IntKind.i64 i) ∧ inR IntKind.i64 (i + (1 : Int)) ∧ onP p_1 fun a ↦ ∃ w1,St
 Tryz.prog 3 w' (Addr.add a 2) (Value.int IntKind.i64 (i + (1 : Int))) w1 ∧ onP p_1 fun a ↦ ∃ w1_1,St Tryz.prog 4 w1 (Addr.add a 4) (Value.bool true) w1_1 ∧ onP p_1 fun a ↦ ∃ p,Ld
 Tryz.prog 99 w1_1 (Addr.add a 1) (Value.pointer p) ∧ R (Ending.returned (Value.tuple #[Value.pointer p,Value.int IntKind.i64 0])) w1_1)))
theorem fget.eq (p : Option Addr) (n : Int) (w : World) (R : Ending → World → Prop) : bodyV Tryz.prog fget.an Tryz.f114 [.pointer p,.int .i64 n] w R = fget.vc p n w R := by kernel_rfl
theorem fget.ok (p : Option Addr) (n : Int) (w : World) (R : Ending → World → Prop) (h : fget.vc p n w R) : Calls Tryz.prog 114 #[.pointer p,.int .i64 n] w R :=
 calls_of_bodyV noNum (an := fget.an) (args := [.pointer p,.int .i64 n]) Tryz.func114 (by kernel_rfl) ((fget.eq p n w R).mpr h)
def fdone.an : An := { wraps := [],loops := [],joins := [],ranges := [] }
def fdone.vc (p : Option Addr) (n : Int) (changed : Bool) (w : World) (R : Ending → World → Prop) : Prop := CallV Tryz.prog 87 [Value.pointer p,Value.int IntKind.i64 n] w fun e w' ↦ ∃ p,e = Ending.returned (Value.pointer p) ∧ br (decide (n < (0 : Int))) (R (Ending.returned (Value.bool false)) w')
 (∃ b,Eqv Tryz.prog BinOp.eql 153 (Operand.tmp 14) (Operand.const (Value.pointer none)) w' (Value.pointer p) (Value.pointer none) b ∧ br b (R (Ending.returned (Value.bool false)) w') (onP p
 fun a ↦ ∃ i,Ld Tryz.prog 3 w' (Addr.add a 2) (Value.int IntKind.i64 i) ∧ br (decide (i = (0 : Int))) (R (Ending.returned (Value.bool false)) w') (onP p fun a ↦ ∃ i,Ld Tryz.prog 3
 w' (Addr.add a 2) (Value.int IntKind.i64 i) ∧ inR IntKind.i64 (i - (1 : Int)) ∧ onP p fun a ↦ ∃ w1,St Tryz.prog 3 w' (Addr.add a 2) (Value.int IntKind.i64 (i - (1 : Int))) w1 ∧ onP p fun a ↦
 ∃ b,Ld Tryz.prog 4 w1 (Addr.add a 3) (Value.bool b) ∧ br b (onP p fun a ↦ ∃ w1_1,St Tryz.prog 4 w1 (Addr.add a 3) (Value.bool true) w1_1 ∧ R (Ending.returned (Value.bool true))
 w1_1) (onP p fun a ↦ ∃ w1_1,St Tryz.prog 4 w1 (Addr.add a 3) (Value.bool changed) w1_1 ∧ R (Ending.returned (Value.bool true)) w1_1))))
theorem fdone.eq (p : Option Addr) (n : Int) (changed : Bool) (w : World) (R : Ending → World → Prop) : bodyV Tryz.prog fdone.an Tryz.f115 [.pointer p,.int .i64 n,.bool changed] w R = fdone.vc p n changed w R := by kernel_rfl
theorem fdone.ok (p : Option Addr) (n : Int) (changed : Bool) (w : World) (R : Ending → World → Prop) (h : fdone.vc p n changed w R) : Calls Tryz.prog 115 #[.pointer p,.int .i64 n,.bool changed] w R :=
 calls_of_bodyV noNum (an := fdone.an) (args := [.pointer p,.int .i64 n,.bool changed]) Tryz.func115 (by kernel_rfl) ((fdone.eq p n changed w R).mpr h)
def fpages.an : An := { wraps := [],loops := [],joins := [],ranges := [] }
def fpages.vc (p : Option Addr) (w : World) (R : Ending → World → Prop) : Prop := onP p fun a ↦ ∃ i,Ld Tryz.prog 3 w (Addr.add a 6) (Value.int IntKind.i64 i) ∧ R (Ending.returned (Value.int IntKind.i64 i)) w
theorem fpages.eq (p : Option Addr) (w : World) (R : Ending → World → Prop) : bodyV Tryz.prog fpages.an Tryz.f113 [.pointer p] w R = fpages.vc p w R := by kernel_rfl
theorem fpages.ok (p : Option Addr) (w : World) (R : Ending → World → Prop) (h : fpages.vc p w R) : Calls Tryz.prog 113 #[.pointer p] w R :=
 calls_of_bodyV noNum (an := fpages.an) (args := [.pointer p]) Tryz.func113 (by kernel_rfl) ((fpages.eq p w R).mpr h)
def jnum.an : An := { wraps := [],loops := [(3,[(11,.inl .i64)])],joins := [],ranges := [] }
def jnum.vc (n : Int) (many : Int) (w : World) (R : Ending → World → Prop) : Prop := ∃ a n_1 m w1,MkS Tryz.prog 29 w (Value.int IntKind.i64 many) (Value.int IntKind.i64 many) (Value.slice a n_1 m) w1 ∧ LoopP (fun (s : Int) (w' : World) (next : Int → World → Prop) ↦ br (decide
 (s < (↑n_1 : Int))) (inR IntKind.i64 (many - (1 : Int)) ∧ inR IntKind.i64 (many - (1 : Int) - s) ∧ inR IntKind.i64 ((8 : Int) * (many - (1 : Int) - s)) ∧ (0 : Int) ≤ (8 : Int) * (many - (1 : Int) - s)
 ∧ onP a fun a ↦ ((0 : Int) ≤ s ∧ s < (↑n_1 : Int)) ∧ ∃ w1, St Tryz.prog 5 w' (Addr.add a (Int.toNat s * 1)) (Value.int IntKind.u8 (IntKind.wrap IntKind.u8 (Int.fdiv n ((2 : Int) ^ min
 (Int.toNat ((8 : Int) * (many - (1 : Int) - s))) (IntKind.bits IntKind.i64))))) w1 ∧ inR IntKind.i64 (s + (1 : Int)) ∧ next (s + (1 : Int)) w1) (∃ s,B2S Tryz.prog 29 9 w' (Value.slice a n_1
 m) (Value.string s) ∧ R (Ending.returned (Value.string s)) w')) (0 : Int) w1
theorem jnum.eq (n : Int) (many : Int) (w : World) (R : Ending → World → Prop) : bodyV Tryz.prog jnum.an Tryz.f57 [.int .i64 n,.int .i64 many] w R = jnum.vc n many w R := by kernel_rfl
theorem jnum.ok (n : Int) (many : Int) (w : World) (R : Ending → World → Prop) (h : jnum.vc n many w R) : Calls Tryz.prog 57 #[.int .i64 n,.int .i64 many] w R :=
 calls_of_bodyV noNum (an := jnum.an) (args := [.int .i64 n,.int .i64 many]) Tryz.func57 (by kernel_rfl) ((jnum.eq n many w R).mpr h)
def jval.an : An := { wraps := [],loops := [(3,[(3,.inl .i64),(9,.inl .i64)])],joins := [],ranges := [] }
def jval.vc (s : ByteArray) (w : World) (R : Ending → World → Prop) : Prop := ∃ a l c w1, S2B Tryz.prog 9 29 w (Value.string s) (Value.slice a l c) w1 ∧ LoopP (fun (s : Int × Int) (w' : World) (next : Int × Int → World → Prop) ↦ br (decide (Prod.snd s < (↑l : Int)))
 (onP a fun a ↦ ((0 : Int) ≤ Prod.snd s ∧ Prod.snd s < (↑l : Int)) ∧ ∃ i, Ld Tryz.prog 5 w' (Addr.add a (Int.toNat (Prod.snd s) * 1)) (Value.int IntKind.u8 i) ∧ (0 : Int) ≤ (8 : Int) ∧ inR
 IntKind.i64 (Prod.fst s * (2 : Int) ^ min (Int.toNat (8 : Int)) (IntKind.bits IntKind.i64)) ∧ inR IntKind.i64 (Prod.snd s + (1 : Int)) ∧ next (Vc.bits BinOp.or IntKind.i64 (Prod.fst s * (2 : Int) ^
 min (Int.toNat (8 : Int)) (IntKind.bits IntKind.i64)) (IntKind.wrap IntKind.i64 i),Prod.snd s + (1 : Int)) w') (R (Ending.returned (Value.int IntKind.i64 (Prod.fst s))) w')) ((0 : Int),(0 : Int))
 w1
theorem jval.eq (s : ByteArray) (w : World) (R : Ending → World → Prop) : bodyV Tryz.prog jval.an Tryz.f112 [.string s] w R = jval.vc s w R := by kernel_rfl
theorem jval.ok (s : ByteArray) (w : World) (R : Ending → World → Prop) (h : jval.vc s w R) : Calls Tryz.prog 112 #[.string s] w R :=
 calls_of_bodyV noNum (an := jval.an) (args := [.string s]) Tryz.func112 (by kernel_rfl) ((jval.eq s w R).mpr h)
def jlaid.an : An := { wraps := [],loops := [],joins := [],ranges := [] }
def jlaid.vc (c_Page : Int) (c_Slot : Int) (c_S : ByteArray) (c_Gone : Bool) (w : World) (R : Ending → World → Prop) : Prop := ∀ b w1,New w (Obj.cells #[Value.int IntKind.i64 c_Page,Value.int IntKind.i64 c_Slot,Value.string c_S,Value.bool c_Gone] 73) b w1 → ∃ b_1,Ld Tryz.prog 4 w1 (Addr.mk b 3 none) (Value.bool
 b_1) ∧ br b_1 (∃ w1_1,St Tryz.prog 9 w1 (Addr.mk b 2 none) (Value.string (ByteArray.mk #[])) w1_1 ∧ ∃ i,Ld Tryz.prog 3 (World.drew w1_1) (Addr.mk b 0 none) (Value.int IntKind.i64
 i) ∧ ∃ i_1,Ld Tryz.prog 3 (World.drew w1_1) (Addr.mk b 1 none) (Value.int IntKind.i64 i_1) ∧ ∃ s,Ld Tryz.prog 9 (World.drew w1_1) (Addr.mk b 2 none) (Value.string s) ∧ ∃ s_1,Ld
 Tryz.prog 9 (World.drew w1_1) (Addr.mk b 2 none) (Value.string s_1) ∧ CallV Tryz.prog 57 [Value.int IntKind.i64 i,Value.int IntKind.i64 2] (World.drew w1_1) fun e w' ↦ ∃ s_2,e =
 Ending.returned (Value.string s_2) ∧ Ld Tryz.prog 9 w' (Addr.mk b 2 none) (Value.string s_1) ∧ Ld Tryz.prog 9 w' (Addr.mk b 2 none) (Value.string s) ∧ Ld Tryz.prog 3 w'
 (Addr.mk b 1 none) (Value.int IntKind.i64 i_1) ∧ CallV Tryz.prog 57 [Value.int IntKind.i64 i_1,Value.int IntKind.i64 1] w' fun e w' ↦ ∃ s_3,e = Ending.returned (Value.string s_3) ∧ Ld
 Tryz.prog 9 w' (Addr.mk b 2 none) (Value.string s_1) ∧ Ld Tryz.prog 9 w' (Addr.mk b 2 none) (Value.string s) ∧ (↑(ByteArray.size s_2 + ByteArray.size s_3) : Int) ≤
 (9223372036854775807 : Int) ∧ CallV Tryz.prog 57 [Value.int IntKind.i64 1,Value.int IntKind.i64 1] w' fun e w' ↦ ∃ s_4,e = Ending.returned (Value.string s_4) ∧ Ld Tryz.prog 9 w'
 (Addr.mk b 2 none) (Value.string s_1) ∧ Ld Tryz.prog 9 w' (Addr.mk b 2 none) (Value.string s) ∧ (↑(ByteArray.size (s_2 ++ s_3) + ByteArray.size s_4) : Int) ≤ (9223372036854775807 : Int) ∧
 CallV Tryz.prog 57 [Value.int IntKind.i64 (↑(ByteArray.size s) : Int), Value.int IntKind.i64 2] w' fun e w' ↦ ∃ s, e = Ending.returned (Value.string s) ∧ Ld Tryz.prog 9 w' (Addr.mk b
 2 none) (Value.string s_1) ∧ (↑(ByteArray.size (s_2 ++ s_3 ++ s_4) + ByteArray.size s) : Int) ≤ (9223372036854775807 : Int) ∧ (↑(ByteArray.size (s_2 ++ s_3 ++ s_4 ++ s) + ByteArray.size s_1) : Int) ≤
 (9223372036854775807 : Int) ∧ R (Ending.returned (Value.string (s_2 ++ s_3 ++ s_4 ++ s ++ s_1))) w') (∃ i,Ld Tryz.prog 3 (World.drew w1) (Addr.mk b 0 none) (Value.int IntKind.i64 i) ∧ ∃ i_1,
 Ld Tryz.prog 3 (World.drew w1) (Addr.mk b 1 none) (Value.int IntKind.i64 i_1) ∧ ∃ s,Ld Tryz.prog 9 (World.drew w1) (Addr.mk b 2 none) (Value.string s) ∧ ∃ s_1,Ld Tryz.prog
 9 (World.drew w1) (Addr.mk b 2 none) (Value.string s_1) ∧ CallV Tryz.prog 57 [Value.int IntKind.i64 i,Value.int IntKind.i64 2] (World.drew w1) fun e w' ↦ ∃ s_2,e = Ending.returned
 (Value.string s_2) ∧ Ld Tryz.prog 9 w' (Addr.mk b 2 none) (Value.string s_1) ∧ Ld Tryz.prog 9 w' (Addr.mk b 2 none) (Value.string s) ∧ Ld Tryz.prog 3 w' (Addr.mk b 1 none)
 (Value.int IntKind.i64 i_1) ∧ CallV Tryz.prog 57 [Value.int IntKind.i64 i_1,Value.int IntKind.i64 1] w' fun e w' ↦ ∃ s_3,e = Ending.returned (Value.string s_3) ∧ Ld Tryz.prog 9 w'
 (Addr.mk b 2 none) (Value.string s_1) ∧ Ld Tryz.prog 9 w' (Addr.mk b 2 none) (Value.string s) ∧ (↑(ByteArray.size s_2 + ByteArray.size s_3) : Int) ≤ (9223372036854775807 : Int) ∧ CallV
 Tryz.prog 57 [Value.int IntKind.i64 0,Value.int IntKind.i64 1] w' fun e w' ↦ ∃ s_4,e = Ending.returned (Value.string s_4) ∧ Ld Tryz.prog 9 w' (Addr.mk b 2 none) (Value.string s_1)
 ∧ Ld Tryz.prog 9 w' (Addr.mk b 2 none) (Value.string s) ∧ (↑(ByteArray.size (s_2 ++ s_3) + ByteArray.size s_4) : Int) ≤ (9223372036854775807 : Int) ∧ CallV Tryz.prog 57 [Value.int
 IntKind.i64 (↑(ByteArray.size s) : Int), Value.int IntKind.i64 2] w' fun e w' ↦ ∃ s, e = Ending.returned (Value.string s) ∧ Ld Tryz.prog 9 w' (Addr.mk b 2 none) (Value.string s_1) ∧
 (↑(ByteArray.size (s_2 ++ s_3 ++ s_4) + ByteArray.size s) : Int) ≤ (9223372036854775807 : Int) ∧ (↑(ByteArray.size (s_2 ++ s_3 ++ s_4 ++ s) + ByteArray.size s_1) : Int) ≤ (9223372036854775807 : Int) ∧
 R (Ending.returned (Value.string (s_2 ++ s_3 ++ s_4 ++ s ++ s_1))) w')
theorem jlaid.eq (c_Page : Int) (c_Slot : Int) (c_S : ByteArray) (c_Gone : Bool) (w : World) (R : Ending → World → Prop) : bodyV Tryz.prog jlaid.an Tryz.f60 [.agg #[.int .i64 c_Page,.int .i64 c_Slot,.string c_S,.bool c_Gone]] w R = jlaid.vc c_Page c_Slot c_S c_Gone w R := by kernel_rfl
theorem jlaid.ok (c_Page : Int) (c_Slot : Int) (c_S : ByteArray) (c_Gone : Bool) (w : World) (R : Ending → World → Prop) (h : jlaid.vc c_Page c_Slot c_S c_Gone w R) : Calls Tryz.prog 60 #[.agg #[.int .i64 c_Page,.int .i64 c_Slot,.string c_S,.bool c_Gone]] w R :=
 calls_of_bodyV noNum (an := jlaid.an) (args := [.agg #[.int .i64 c_Page,.int .i64 c_Slot,.string c_S,.bool c_Gone]]) Tryz.func60 (by kernel_rfl) ((jlaid.eq c_Page c_Slot c_S c_Gone w R).mpr h)
def jtaken.an : An := { wraps := [],loops := [(2,[(0,.inr 1),(4,.inr 3)])],joins := [],ranges := [] }
def jtaken.vc (s : ByteArray) (w : World) (R : Ending → World → Prop) : Prop := LoopP (fun (s : ByteArray × Option Addr × Nat × Nat) (w' : World) (next : ByteArray × Option Addr × Nat × Nat → World → Prop) ↦ br (!decide (Prod.fst s = ByteArray.mk #[])) (br (decide
 ((↑(ByteArray.size (Prod.fst s)) : Int) < (6 : Int))) (R (Ending.returned (Value.tuple #[Value.slice none 0 0, Value.bool false])) w') (inR IntKind.i64 ((↑(ByteArray.size (Prod.fst s)) : Int) - (6 :
 Int)) ∧ ((0 : Int) ≤ (4 : Int) ∧ (4 : Int) ≤ (6 : Int) ∧ (6 : Int) ≤ (↑(ByteArray.size (Prod.fst s)) : Int)) ∧ CallV Tryz.prog 112 [Value.string (ByteArray.extract (Prod.fst s) (Int.toNat (4
 : Int)) (Int.toNat (6 : Int)))] w' fun e w' ↦ ∃ i, e = Ending.returned (Value.int IntKind.i64 i) ∧ br (decide ((↑(ByteArray.size (Prod.fst s)) : Int) - (6 : Int) < i)) (R (Ending.returned (Value.tuple
 #[Value.slice none 0 0, Value.bool false])) w') (((0 : Int) ≤ (4 : Int) ∧ (4 : Int) ≤ (6 : Int) ∧ (6 : Int) ≤ (↑(ByteArray.size (Prod.fst s)) : Int)) ∧ CallV Tryz.prog 112 [Value.string
 (ByteArray.extract (Prod.fst s) (Int.toNat (4 : Int)) (Int.toNat (6 : Int)))] w' fun e w' ↦ ∃ i,e = Ending.returned (Value.int IntKind.i64 i) ∧ inR IntKind.i64 ((6 : Int) + i) ∧ ((0 : Int) ≤ (2 :
 Int) ∧ (2 : Int) ≤ (↑(ByteArray.size (Prod.fst s)) : Int)) ∧ ((0 : Int) ≤ (2 : Int) ∧ (2 : Int) ≤ (3 : Int) ∧ (3 : Int) ≤ (↑(ByteArray.size (Prod.fst s)) : Int)) ∧ ((0 : Int) ≤ (3 : Int) ∧ (3 : Int) <
 (↑(ByteArray.size (Prod.fst s)) : Int)) ∧ ((0 : Int) ≤ (6 : Int) ∧ (6 : Int) ≤ (6 : Int) + i ∧ (6 : Int) + i ≤ (↑(ByteArray.size (Prod.fst s)) : Int)) ∧ CallV Tryz.prog 112 [Value.string
 (ByteArray.extract (Prod.fst s) 0 (Int.toNat (2 : Int)))] (World.drew w') fun e w' ↦ ∃ i_1,e = Ending.returned (Value.int IntKind.i64 i_1) ∧ CallV Tryz.prog 112 [Value.string
 (ByteArray.extract (Prod.fst s) (Int.toNat (2 : Int)) (Int.toNat (3 : Int)))] w' fun e w' ↦ ∃ i_2,e = Ending.returned (Value.int IntKind.i64 i_2) ∧ ∀ b w1,New w' (Obj.cells #[Value.int IntKind.i64
 i_1,Value.int IntKind.i64 i_2,Value.string (ByteArray.extract (Prod.fst s) (Int.toNat (6 : Int)) (Int.toNat ((6 : Int) + i))),Value.bool (decide (sb (Prod.fst s) (3 : Int) = (1 : Int)))] 73) b w1 →
 ∃ a n m w1_1,App Tryz.prog #[40,40] 40 w1 (Value.slice (Prod.fst (Prod.snd s)) (Prod.fst (Prod.snd (Prod.snd s))) (Prod.snd (Prod.snd (Prod.snd s)))) (Value.slice (some (Addr.mk b 0 none))
 1 1) (Value.slice a n m) w1_1 ∧ ((0 : Int) ≤ (6 : Int) + i ∧ (6 : Int) + i ≤ (↑(ByteArray.size (Prod.fst s)) : Int)) ∧ next (ByteArray.extract (Prod.fst s) (Int.toNat ((6 : Int) + i)) (ByteArray.size
 (Prod.fst s)),a,n,m) w1_1))) (R (Ending.returned (Value.tuple #[Value.slice (Prod.fst (Prod.snd s)) (Prod.fst (Prod.snd (Prod.snd s))) (Prod.snd (Prod.snd (Prod.snd s))),Value.bool true])) w'))
 (s,none,0,0) w
theorem jtaken.eq (s : ByteArray) (w : World) (R : Ending → World → Prop) : bodyV Tryz.prog jtaken.an Tryz.f75 [.string s] w R = jtaken.vc s w R := by kernel_rfl
theorem jtaken.ok (s : ByteArray) (w : World) (R : Ending → World → Prop) (h : jtaken.vc s w R) : Calls Tryz.prog 75 #[.string s] w R :=
 calls_of_bodyV noNum (an := jtaken.an) (args := [.string s]) Tryz.func75 (by kernel_rfl) ((jtaken.eq s w R).mpr h)
def jopen.an : An := { wraps := [],loops := [],joins := [],ranges := [] }
def jopen.vc (d : Option Addr) (many : Int) (w : World) (R : Ending → World → Prop) : Prop := br (decide (many < (4 : Int))) (R (Ending.returned (Value.tuple #[Value.pointer none,Value.int IntKind.i64 1])) w) (br (decide ((64 : Int) < many)) (R (Ending.returned (Value.tuple #[Value.pointer
 none,Value.int IntKind.i64 1])) w) (∀ b w1,New w (Obj.map #[] 0) b w1 → ∀ b_1 w1_1,New w1 (Obj.cells #[Value.pointer d,Value.pointer none,Value.pointer none,Value.slice none 0 0,Value.map (some
 b),Value.int IntKind.i64 0] 91) b_1 w1_1 → CallV Tryz.prog 37 [Value.pointer d,Value.string (ByteArray.mk #[(108 : UInt8),(111 : UInt8),(103 : UInt8)])] w1_1 fun e w' ↦ ∃ p i,e =
 Ending.returned (Value.tuple #[Value.pointer p,Value.int IntKind.i64 i]) ∧ br (!decide (i = (0 : Int))) (R (Ending.returned (Value.tuple #[Value.pointer none,Value.int IntKind.i64 i])) w') (∃ w1,St
 Tryz.prog 87 w' (Addr.mk b_1 1 none) (Value.pointer p) w1 ∧ CallV Tryz.prog 38 [Value.pointer d,Value.string (ByteArray.mk #[(100 : UInt8),(97 : UInt8),(116 : UInt8),(97 :
 UInt8)]),Value.int IntKind.i64 many,Value.func (Fn.func 39) #[Value.pointer (some (Addr.mk b_1 0 none))] #[]] w1 fun e w' ↦ ∃ p i,e = Ending.returned (Value.tuple #[Value.pointer p,Value.int
 IntKind.i64 i]) ∧ ∃ w1,St Tryz.prog 88 w' (Addr.mk b_1 2 none) (Value.pointer p) w1 ∧ br (!decide (i = (0 : Int))) (R (Ending.returned (Value.tuple #[Value.pointer none,Value.int
 IntKind.i64 i])) w1) (CallV Tryz.prog 40 [Value.pointer (some (Addr.mk b_1 0 none))] w1 fun e w' ↦ ∃ i,e = Ending.returned (Value.int IntKind.i64 i) ∧ br (!decide (i = (0 : Int))) (R
 (Ending.returned (Value.tuple #[Value.pointer none,Value.int IntKind.i64 i])) w') (R (Ending.returned (Value.tuple #[Value.pointer (some (Addr.mk b_1 0 none)),Value.int IntKind.i64 0])) w')))))
theorem jopen.eq (d : Option Addr) (many : Int) (w : World) (R : Ending → World → Prop) : bodyV Tryz.prog jopen.an Tryz.f11 [.pointer d,.int .i64 many] w R = jopen.vc d many w R := by kernel_rfl
theorem jopen.ok (d : Option Addr) (many : Int) (w : World) (R : Ending → World → Prop) (h : jopen.vc d many w R) : Calls Tryz.prog 11 #[.pointer d,.int .i64 many] w R :=
 calls_of_bodyV noNum (an := jopen.an) (args := [.pointer d,.int .i64 many]) Tryz.func11 (by kernel_rfl) ((jopen.eq d many w R).mpr h)
def jahead.an : An := { wraps := [],loops := [],joins := [],ranges := [] }
def jahead.vc (j : Option Addr) (stamp : Int) (w : World) (R : Ending → World → Prop) : Prop := onP j fun a ↦ ∃ p,Ld Tryz.prog 87 w (Addr.add a 1) (Value.pointer p) ∧ CallV Tryz.prog 70 [Value.pointer p] w fun e w' ↦ ∃ i,e = Ending.returned (Value.int IntKind.i64 i) ∧ br
 (decide (stamp ≤ i)) (R (Ending.returned (Value.int IntKind.i64 0)) w') (onP j fun a ↦ ∃ p,Ld Tryz.prog 87 w' (Addr.add a 1) (Value.pointer p) ∧ CallV Tryz.prog 47 [Value.pointer p]
 w' fun e w' ↦ ∃ i,e = Ending.returned (Value.int IntKind.i64 i) ∧ R (Ending.returned (Value.int IntKind.i64 i)) w')
theorem jahead.eq (j : Option Addr) (stamp : Int) (w : World) (R : Ending → World → Prop) : bodyV Tryz.prog jahead.an Tryz.f39 [.pointer j,.int .i64 stamp] w R = jahead.vc j stamp w R := by kernel_rfl
theorem jahead.ok (j : Option Addr) (stamp : Int) (w : World) (R : Ending → World → Prop) (h : jahead.vc j stamp w R) : Calls Tryz.prog 39 #[.pointer j,.int .i64 stamp] w R :=
 calls_of_bodyV noNum (an := jahead.an) (args := [.pointer j,.int .i64 stamp]) Tryz.func39 (by kernel_rfl) ((jahead.eq j stamp w R).mpr h)
def jread.an : An := { wraps := [],loops := [(2,[(14,.inl .i64)])],joins := [],ranges := [] }
def jread.vc (j : Option Addr) (fresh : Option Nat) (w : World) (R : Ending → World → Prop) : Prop := onP j fun a ↦ ∃ p,Ld Tryz.prog 88 w (Addr.add a 2) (Value.pointer p) ∧ CallV Tryz.prog 113 [Value.pointer p] w fun e w' ↦ ∃ i,e = Ending.returned (Value.int IntKind.i64 i) ∧ LoopP
 (fun (s : Int) (w' : World) (next : Int → World → Prop) ↦ br (decide (s < min i (4096 : Int))) (∃ i,Lk Tryz.prog 86 false w' (Value.map fresh) (Value.int IntKind.i64 s) (Value.int
 IntKind.i64 i) ∧ br (decide ((0 : Int) < i)) (CallV Tryz.prog 58 [Value.pointer j,Value.int IntKind.i64 s] w' fun e w' ↦ ∃ p,e = Ending.returned (Value.pointer p) ∧ inR IntKind.i64 (s + (1
 : Int)) ∧ next (s + (1 : Int)) w') (onP j fun a ↦ ∃ p,Ld Tryz.prog 88 w' (Addr.add a 2) (Value.pointer p) ∧ CallV Tryz.prog 114 [Value.pointer p,Value.int IntKind.i64 s] w' fun e
 w' ↦ ∃ p i,e = Ending.returned (Value.tuple #[Value.pointer p,Value.int IntKind.i64 i]) ∧ br (!decide (i = (0 : Int))) (R (Ending.returned (Value.int IntKind.i64 i)) w') (CallV Tryz.prog 58
 [Value.pointer j,Value.int IntKind.i64 s] w' fun e w' ↦ ∃ p_1,e = Ending.returned (Value.pointer p_1) ∧ CallV Tryz.prog 89 [Value.pointer p] w' fun e w' ↦ ∃ p,e = Ending.returned
 (Value.pointer p) ∧ onP p fun a ↦ ∃ (cs : List Value),∃ i i_1,Ld Tryz.prog 144 w' a (Value.agg (List.toArray (cs ++ ([Value.int IntKind.i64 i] ++ ([Value.int IntKind.i64 i_1] ++ []))))) ∧
 onP p_1 fun a ↦ ∃ w1,St Tryz.prog 144 w' a (Value.agg (List.toArray (cs ++ ([Value.int IntKind.i64 i] ++ ([Value.int IntKind.i64 i_1] ++ []))))) w1 ∧ onP j fun a ↦ ∃ p,Ld Tryz.prog
 88 w1 (Addr.add a 2) (Value.pointer p) ∧ CallV Tryz.prog 115 [Value.pointer p,Value.int IntKind.i64 s,Value.bool false] w1 fun e w' ↦ ∃ b,e = Ending.returned (Value.bool b) ∧ inR
 IntKind.i64 (s + (1 : Int)) ∧ next (s + (1 : Int)) w'))) (R (Ending.returned (Value.int IntKind.i64 0)) w')) (0 : Int) w'
theorem jread.eq (j : Option Addr) (fresh : Option Nat) (w : World) (R : Ending → World → Prop) : bodyV Tryz.prog jread.an Tryz.f73 [.pointer j,.map fresh] w R = jread.vc j fresh w R := by kernel_rfl
theorem jread.ok (j : Option Addr) (fresh : Option Nat) (w : World) (R : Ending → World → Prop) (h : jread.vc j fresh w R) : Calls Tryz.prog 73 #[.pointer j,.map fresh] w R :=
 calls_of_bodyV noNum (an := jread.an) (args := [.pointer j,.map fresh]) Tryz.func73 (by kernel_rfl) ((jread.eq j fresh w R).mpr h)
def jpage.an : An := { wraps := [],loops := [(1,[])],joins := [],ranges := [] }
def jpage.vc (j : Option Addr) (n : Int) (w : World) (R : Ending → World → Prop) : Prop := LoopP (fun (s : PUnit) (w' : World) (next : PUnit → World → Prop) ↦ onP j fun a ↦ ∃ a_1 l c, Ld Tryz.prog 89 w' (Addr.add a 3) (Value.slice a_1 l c) ∧ br (decide ((↑l : Int) ≤ n)) (onP j fun a
 ↦ ∃ a_2 l c,Ld Tryz.prog 89 (World.drew w') (Addr.add a 3) (Value.slice a_2 l c) ∧ CallV Tryz.prog 98 [] (World.drew w') fun e w' ↦ ∃ p,e = Ending.returned (Value.pointer p) ∧ Ld
 Tryz.prog 89 w' (Addr.add a 3) (Value.slice a_2 l c) ∧ ∀ b w1,New w' (Obj.cells #[Value.pointer p] 99) b w1 → Ld Tryz.prog 89 w1 (Addr.add a 3) (Value.slice a_2 l c) ∧ ∃ a n m w1_1,
 App Tryz.prog #[89,89] 89 w1 (Value.slice a_2 l c) (Value.slice (some (Addr.mk b 0 none)) 1 1) (Value.slice a n m) w1_1 ∧ onP j fun a_4 ↦ ∃ w1,St Tryz.prog 89 w1_1 (Addr.add a_4 3)
 (Value.slice a n m) w1 ∧ next () w1) (onP j fun a ↦ ∃ a_2 l c, Ld Tryz.prog 89 w' (Addr.add a 3) (Value.slice a_2 l c) ∧ onP a_2 fun a ↦ ((0 : Int) ≤ n ∧ n < (↑l : Int)) ∧ ∃ p, Ld
 Tryz.prog 99 w' (Addr.add a (Int.toNat n * 1)) (Value.pointer p) ∧ R (Ending.returned (Value.pointer p)) w')) () w
theorem jpage.eq (j : Option Addr) (n : Int) (w : World) (R : Ending → World → Prop) : bodyV Tryz.prog jpage.an Tryz.f58 [.pointer j,.int .i64 n] w R = jpage.vc j n w R := by kernel_rfl
theorem jpage.ok (j : Option Addr) (n : Int) (w : World) (R : Ending → World → Prop) (h : jpage.vc j n w R) : Calls Tryz.prog 58 #[.pointer j,.int .i64 n] w R :=
 calls_of_bodyV noNum (an := jpage.an) (args := [.pointer j,.int .i64 n]) Tryz.func58 (by kernel_rfl) ((jpage.eq j n w R).mpr h)
def jimages.an : An := { wraps := [],loops := [(3,[(9,.inl .i64)])],joins := [],ranges := [] }
def jimages.vc (la : Option Addr) (ln : Nat) (lc : Nat) (w : World) (R : Ending → World → Prop) : Prop := ∀ b w1, New w (Obj.map #[] 0) b w1 → LoopP (fun (s : Int) (w' : World) (next : Int → World → Prop) ↦ br (decide (s < (↑ln : Int))) (onP la fun a ↦ ((0 : Int) ≤ s ∧ s < (↑ln : Int)) ∧ ∃ s_1, Ld
 Tryz.prog 9 w' (Addr.add a (Int.toNat s * 1)) (Value.string s_1) ∧ br (!decide (s_1 = ByteArray.mk #[])) (((0 : Int) ≤ (0 : Int) ∧ (0 : Int) < (↑(ByteArray.size s_1) : Int)) ∧ br (decide (sb
 s_1 (0 : Int) = (112 : Int))) (br (decide ((3 : Int) < (↑(ByteArray.size s_1) : Int))) (((0 : Int) ≤ (1 : Int) ∧ (1 : Int) ≤ (3 : Int) ∧ (3 : Int) ≤ (↑(ByteArray.size s_1) : Int)) ∧ CallV
 Tryz.prog 112 [Value.string (ByteArray.extract s_1 (Int.toNat (1 : Int)) (Int.toNat (3 : Int)))] w' fun e w' ↦ ∃ i,e = Ending.returned (Value.int IntKind.i64 i) ∧ ∃ i_1,Lk
 Tryz.prog 86 false w' (Value.map (some b)) (Value.int IntKind.i64 i) (Value.int IntKind.i64 i_1) ∧ inR IntKind.i64 (i_1 + (1 : Int)) ∧ ∃ w1,MUp Tryz.prog 86 w' (Value.map (some b))
 (Value.int IntKind.i64 i) (Value.int IntKind.i64 (i_1 + (1 : Int))) w1 ∧ inR IntKind.i64 (s + (1 : Int)) ∧ next (s + (1 : Int)) w1) (inR IntKind.i64 (s + (1 : Int)) ∧ next (s + (1 : Int)) w')) (inR
 IntKind.i64 (s + (1 : Int)) ∧ next (s + (1 : Int)) w')) (inR IntKind.i64 (s + (1 : Int)) ∧ next (s + (1 : Int)) w')) (R (Ending.returned (Value.map (some b))) w')) (0 : Int) w1
theorem jimages.eq (la : Option Addr) (ln : Nat) (lc : Nat) (w : World) (R : Ending → World → Prop) : bodyV Tryz.prog jimages.an Tryz.f72 [.slice la ln lc] w R = jimages.vc la ln lc w R := by kernel_rfl
theorem jimages.ok (la : Option Addr) (ln : Nat) (lc : Nat) (w : World) (R : Ending → World → Prop) (h : jimages.vc la ln lc w R) : Calls Tryz.prog 72 #[.slice la ln lc] w R :=
 calls_of_bodyV noNum (an := jimages.an) (args := [.slice la ln lc]) Tryz.func72 (by kernel_rfl) ((jimages.eq la ln lc w R).mpr h)
def jrecover.an : An := { wraps := [],loops := [(8,[(5,.inr 3),(34,.inl .i64)])],joins := [],ranges := [] }
def jrecover.vc (j : Option Addr) (w : World) (R : Ending → World → Prop) : Prop := onP j fun a ↦ ∃ p,Ld Tryz.prog 87 w (Addr.add a 1) (Value.pointer p) ∧ CallV Tryz.prog 71 [Value.pointer p] w fun e w' ↦ ∃ a l c,e = Ending.returned (Value.slice a l c) ∧ CallV
 Tryz.prog 72 [Value.slice a l c] w' fun e w' ↦ ∃ m,e = Ending.returned (Value.map m) ∧ onP j fun a_1 ↦ ∃ w1,St Tryz.prog 86 w' (Addr.add a_1 4) (Value.map m) w1 ∧ onP j fun a_2 ↦ ∃
 m,Ld Tryz.prog 86 w1 (Addr.add a_2 4) (Value.map m) ∧ CallV Tryz.prog 73 [Value.pointer j,Value.map m] w1 fun e w' ↦ ∃ i,e = Ending.returned (Value.int IntKind.i64 i) ∧ br
 (!decide (i = (0 : Int))) (R (Ending.returned (Value.int IntKind.i64 i)) w') (LoopP (fun (s : (Option Addr × Nat × Nat) × Int) (w' : World) (next : (Option Addr × Nat × Nat) × Int → World → Prop) ↦ br
 (decide (Prod.snd s < (↑l : Int))) (onP a fun a ↦ ((0 : Int) ≤ Prod.snd s ∧ Prod.snd s < (↑l : Int)) ∧ ∃ s_1, Ld Tryz.prog 9 w' (Addr.add a (Int.toNat (Prod.snd s) * 1)) (Value.string s_1) ∧
 br (decide (s_1 = ByteArray.mk #[])) (R (Ending.returned (Value.int IntKind.i64 180)) w') (((0 : Int) ≤ (0 : Int) ∧ (0 : Int) < (↑(ByteArray.size s_1) : Int)) ∧ br (decide (sb s_1 (0 : Int) = (112 :
 Int))) (CallV Tryz.prog 74 [Value.pointer j,Value.string s_1] w' fun e w' ↦ ∃ i,e = Ending.returned (Value.int IntKind.i64 i) ∧ br (!decide (i = (0 : Int))) (R (Ending.returned (Value.int
 IntKind.i64 i)) w') (inR IntKind.i64 (Prod.snd s + (1 : Int)) ∧ next ((Prod.fst (Prod.fst s),Prod.fst (Prod.snd (Prod.fst s)),Prod.snd (Prod.snd (Prod.fst s))),Prod.snd s + (1 : Int)) w')) (((0 :
 Int) ≤ (1 : Int) ∧ (1 : Int) ≤ (↑(ByteArray.size s_1) : Int)) ∧ CallV Tryz.prog 75 [Value.string (ByteArray.extract s_1 (Int.toNat (1 : Int)) (ByteArray.size s_1))] w' fun e w' ↦ ∃ a l c b, e
 = Ending.returned (Value.tuple #[Value.slice a l c,Value.bool b]) ∧ br (!b) (R (Ending.returned (Value.int IntKind.i64 180)) w') (∃ a_3 n m w1,App Tryz.prog #[40,40] 40 w' (Value.slice
 (Prod.fst (Prod.fst s)) (Prod.fst (Prod.snd (Prod.fst s))) (Prod.snd (Prod.snd (Prod.fst s)))) (Value.slice a l c) (Value.slice a_3 n m) w1 ∧ ((0 : Int) ≤ (0 : Int) ∧ (0 : Int) < (↑(ByteArray.size
 s_1) : Int)) ∧ br (decide (sb s_1 (0 : Int) = (101 : Int))) (CallV Tryz.prog 54 [Value.pointer j,Value.slice a_3 n m] w1 fun e w' ↦ ∃ m b,e = Ending.returned (Value.tuple #[Value.map m,
 Value.bool b]) ∧ br (!b) (R (Ending.returned (Value.int IntKind.i64 180)) w') (inR IntKind.i64 (Prod.snd s + (1 : Int)) ∧ CallV Tryz.prog 61 [Value.pointer j,Value.map m,Value.int
 IntKind.i64 (Prod.snd s + (1 : Int))] w' fun e w' ↦ e = Ending.returned (Value.tuple #[]) ∧ inR IntKind.i64 (Prod.snd s + (1 : Int)) ∧ next ((none,0,0),Prod.snd s + (1 : Int)) w')) (inR IntKind.i64
 (Prod.snd s + (1 : Int)) ∧ next ((a_3,n,m),Prod.snd s + (1 : Int)) w1))))) (R (Ending.returned (Value.int IntKind.i64 0)) w')) ((none,0,0),(0 : Int)) w')
theorem jrecover.eq (j : Option Addr) (w : World) (R : Ending → World → Prop) : bodyV Tryz.prog jrecover.an Tryz.f40 [.pointer j] w R = jrecover.vc j w R := by kernel_rfl
theorem jrecover.ok (j : Option Addr) (w : World) (R : Ending → World → Prop) (h : jrecover.vc j w R) : Calls Tryz.prog 40 #[.pointer j] w R :=
 calls_of_bodyV noNum (an := jrecover.an) (args := [.pointer j]) Tryz.func40 (by kernel_rfl) ((jrecover.eq j w R).mpr h)
def jrestore.an : An := { wraps := [],loops := [],joins := [],ranges := [] }
def jrestore.vc (j : Option Addr) (s : ByteArray) (w : World) (R : Ending → World → Prop) : Prop := br (!decide ((↑(ByteArray.size s) : Int) = (4099 : Int))) (R (Ending.returned (Value.int IntKind.i64 180)) w) (((0 : Int) ≤ (1 : Int) ∧ (1 : Int) ≤ (3 : Int) ∧ (3 : Int) ≤ (↑(ByteArray.size s) : Int))
 ∧ CallV Tryz.prog 112 [Value.string (ByteArray.extract s (Int.toNat (1 : Int)) (Int.toNat (3 : Int)))] w fun e w' ↦ ∃ i,e = Ending.returned (Value.int IntKind.i64 i) ∧ br (decide ((4096 :
 Int) ≤ i)) (R (Ending.returned (Value.int IntKind.i64 180)) w') (((0 : Int) ≤ (3 : Int) ∧ (3 : Int) ≤ (↑(ByteArray.size s) : Int)) ∧ ∃ a l c w1, S2B Tryz.prog 9 29 w' (Value.string
 (ByteArray.extract s (Int.toNat (3 : Int)) (ByteArray.size s))) (Value.slice a l c) w1 ∧ CallV Tryz.prog 116 [Value.slice a l c] w1 fun e w' ↦ ∃ p i,e = Ending.returned (Value.tuple
 #[Value.pointer p,Value.int IntKind.i64 i]) ∧ br (!decide (i = (0 : Int))) (R (Ending.returned (Value.int IntKind.i64 i)) w') (((0 : Int) ≤ (1 : Int) ∧ (1 : Int) ≤ (3 : Int) ∧ (3 : Int) ≤
 (↑(ByteArray.size s) : Int)) ∧ onP p fun a ↦ ∃ (cs : List Value), ∃ i i_1, Ld Tryz.prog 144 (World.drew w') a (Value.agg (List.toArray (cs ++ ([Value.int IntKind.i64 i] ++ ([Value.int
 IntKind.i64 i_1] ++ []))))) ∧ CallV Tryz.prog 112 [Value.string (ByteArray.extract s (Int.toNat (1 : Int)) (Int.toNat (3 : Int)))] (World.drew w') fun e w' ↦ ∃ i_2,e = Ending.returned
 (Value.int IntKind.i64 i_2) ∧ Ld Tryz.prog 144 w' a (Value.agg (List.toArray (cs ++ ([Value.int IntKind.i64 i] ++ ([Value.int IntKind.i64 i_1] ++ []))))) ∧ CallV Tryz.prog 58
 [Value.pointer j,Value.int IntKind.i64 i_2] w' fun e w' ↦ ∃ p,e = Ending.returned (Value.pointer p) ∧ Ld Tryz.prog 144 w' a (Value.agg (List.toArray (cs ++ ([Value.int IntKind.i64 i] ++
 ([Value.int IntKind.i64 i_1] ++ []))))) ∧ onP p fun a ↦ ∃ w1,St Tryz.prog 144 w' a (Value.agg (List.toArray (cs ++ ([Value.int IntKind.i64 i] ++ ([Value.int IntKind.i64 i_1] ++ []))))) w1 ∧
 R (Ending.returned (Value.int IntKind.i64 0)) w1)))
theorem jrestore.eq (j : Option Addr) (s : ByteArray) (w : World) (R : Ending → World → Prop) : bodyV Tryz.prog jrestore.an Tryz.f74 [.pointer j,.string s] w R = jrestore.vc j s w R := by kernel_rfl
theorem jrestore.ok (j : Option Addr) (s : ByteArray) (w : World) (R : Ending → World → Prop) (h : jrestore.vc j s w R) : Calls Tryz.prog 74 #[.pointer j,.string s] w R :=
 calls_of_bodyV noNum (an := jrestore.an) (args := [.pointer j,.string s]) Tryz.func74 (by kernel_rfl) ((jrestore.eq j s w R).mpr h)
def jrows.an : An := { wraps := [],loops := [(3,[(3,.inr 3),(15,.inl .i64)]),(6,[(3,.inr 3),(23,.inl .i64)])],joins := [],ranges := [] }
def jrows.vc (j : Option Addr) (w : World) (R : Ending → World → Prop) : Prop := onP j fun a ↦ ∃ a_1 l c,Ld Tryz.prog 89 w (Addr.add a 3) (Value.slice a_1 l c) ∧ LoopP (fun (s : (Option Addr × Nat × Nat) × Int) (w' : World) (next : (Option Addr × Nat × Nat) × Int → World
 → Prop) ↦ br (decide (Prod.snd s < (↑l : Int))) (onP a_1 fun a ↦ ((0 : Int) ≤ Prod.snd s ∧ Prod.snd s < (↑l : Int)) ∧ ∃ p, Ld Tryz.prog 99 w' (Addr.add a (Int.toNat (Prod.snd s) * 1))
 (Value.pointer p) ∧ CallV Tryz.prog 42 [Value.pointer p] w' fun e w' ↦ ∃ a l c,e = Ending.returned (Value.slice a l c) ∧ LoopP (fun (s_1 : (Option Addr × Nat × Nat) × Int) (w' : World)
 (next_1 : (Option Addr × Nat × Nat) × Int → World → Prop) ↦ br (decide (Prod.snd s_1 < (↑l : Int))) (onP a fun a ↦ ((0 : Int) ≤ Prod.snd s_1 ∧ Prod.snd s_1 < (↑l : Int)) ∧ ∃ i, Ld Tryz.prog 3
 w' (Addr.add a (Int.toNat (Prod.snd s_1) * 1)) (Value.int IntKind.i64 i) ∧ CallV Tryz.prog 43 [Value.pointer p,Value.int IntKind.i64 i] w' fun e w' ↦ ∃ s_2 b,e = Ending.returned
 (Value.tuple #[Value.string s_2,Value.bool b]) ∧ ∀ b w1,New w' (Obj.cells #[Value.int IntKind.i64 (Prod.snd s),Value.int IntKind.i64 i,Value.string s_2,Value.bool false] 73) b w1 → ∃ a n m w1_1,
 App Tryz.prog #[40,40] 40 w1 (Value.slice (Prod.fst (Prod.fst s_1)) (Prod.fst (Prod.snd (Prod.fst s_1))) (Prod.snd (Prod.snd (Prod.fst s_1)))) (Value.slice (some (Addr.mk b 0 none)) 1 1)
 (Value.slice a n m) w1_1 ∧ inR IntKind.i64 (Prod.snd s_1 + (1 : Int)) ∧ next_1 ((a,n,m),Prod.snd s_1 + (1 : Int)) w1_1) (inR IntKind.i64 (Prod.snd s + (1 : Int)) ∧ next ((Prod.fst (Prod.fst s_1),
 Prod.fst (Prod.snd (Prod.fst s_1)),Prod.snd (Prod.snd (Prod.fst s_1))),Prod.snd s + (1 : Int)) w')) ((Prod.fst (Prod.fst s),Prod.fst (Prod.snd (Prod.fst s)),Prod.snd (Prod.snd (Prod.fst s))),(0 :
 Int)) w') (R (Ending.returned (Value.slice (Prod.fst (Prod.fst s)) (Prod.fst (Prod.snd (Prod.fst s))) (Prod.snd (Prod.snd (Prod.fst s))))) w')) ((none,0,0),(0 : Int)) w
theorem jrows.eq (j : Option Addr) (w : World) (R : Ending → World → Prop) : bodyV Tryz.prog jrows.an Tryz.f14 [.pointer j] w R = jrows.vc j w R := by kernel_rfl
theorem jrows.ok (j : Option Addr) (w : World) (R : Ending → World → Prop) (h : jrows.vc j w R) : Calls Tryz.prog 14 #[.pointer j] w R :=
 calls_of_bodyV noNum (an := jrows.an) (args := [.pointer j]) Tryz.func14 (by kernel_rfl) ((jrows.eq j w R).mpr h)
def jfinal.an : An := { wraps := [],loops := [(4,[(7,.inr 3),(18,.inl .i64)])],joins := [],ranges := [] }
def jfinal.vc (j : Option Addr) (la : Option Addr) (ln : Nat) (lc : Nat) (w : World) (R : Ending → World → Prop) : Prop := ∀ b w1, New w (Obj.map #[] 0) b w1 → LoopP (fun (s : (Option Addr × Nat × Nat) × Int) (w' : World) (next : (Option Addr × Nat × Nat) × Int → World → Prop) ↦ br (decide (Prod.snd s < (↑ln : Int))) (onP
 la fun a ↦ ((0 : Int) ≤ Prod.snd s ∧ Prod.snd s < (↑ln : Int)) ∧ ∃ i i_1 s_1 b_1, Ld Tryz.prog 73 w' (Addr.add a (Int.toNat (Prod.snd s) * 4)) (Value.agg #[Value.int IntKind.i64 i, Value.int
 IntKind.i64 i_1,Value.string s_1,Value.bool b_1]) ∧ ∀ b_2 w1,New w' (Obj.cells #[Value.int IntKind.i64 0,Value.int IntKind.i64 0,Value.string (ByteArray.mk #[]),Value.bool false] 73) b_2 w1 → ∃
 w1_1,St Tryz.prog 73 w1 (Addr.mk b_2 0 none) (Value.agg #[Value.int IntKind.i64 i,Value.int IntKind.i64 i_1,Value.string s_1,Value.bool b_1]) w1_1 ∧ ∃ i,Ld Tryz.prog 3 w1_1
 (Addr.mk b_2 0 none) (Value.int IntKind.i64 i) ∧ br (decide (i < (0 : Int))) (R (Ending.returned (Value.tuple #[Value.slice none 0 0,Value.map none,Value.bool false])) w1_1) (∃ i,Ld
 Tryz.prog 3 w1_1 (Addr.mk b_2 0 none) (Value.int IntKind.i64 i) ∧ br (decide ((4096 : Int) ≤ i)) (R (Ending.returned (Value.tuple #[Value.slice none 0 0,Value.map none,Value.bool false]))
 w1_1) (∃ i,Ld Tryz.prog 3 w1_1 (Addr.mk b_2 1 none) (Value.int IntKind.i64 i) ∧ br (decide (i < (0 : Int))) (R (Ending.returned (Value.tuple #[Value.slice none 0 0,Value.map none,
 Value.bool false])) w1_1) (∃ i,Ld Tryz.prog 3 w1_1 (Addr.mk b_2 1 none) (Value.int IntKind.i64 i) ∧ br (decide ((120 : Int) ≤ i)) (R (Ending.returned (Value.tuple #[Value.slice none 0 0,
 Value.map none,Value.bool false])) w1_1) (∃ b_3,Ld Tryz.prog 4 w1_1 (Addr.mk b_2 3 none) (Value.bool b_3) ∧ br (!b_3) (∃ s_2,Ld Tryz.prog 9 w1_1 (Addr.mk b_2 2 none) (Value.string
 s_2) ∧ br (decide ((3600 : Int) < (↑(ByteArray.size s_2) : Int))) (R (Ending.returned (Value.tuple #[Value.slice none 0 0, Value.map none, Value.bool false])) w1_1) (∃ i, Ld Tryz.prog 3 w1_1
 (Addr.mk b_2 0 none) (Value.int IntKind.i64 i) ∧ ∃ i_2,Ld Tryz.prog 3 w1_1 (Addr.mk b_2 1 none) (Value.int IntKind.i64 i_2) ∧ ∀ b_4 w1,New w1_1 (Obj.cells #[Value.int IntKind.i64 0,
 Value.int IntKind.i64 0] 169) b_4 w1 → ∃ w1_2,St Tryz.prog 169 w1 (Addr.mk b_4 0 none) (Value.agg #[Value.int IntKind.i64 i,Value.int IntKind.i64 i_2]) w1_2 ∧ ∃ i i_3,Ld Tryz.prog
 169 w1_2 (Addr.mk b_4 0 none) (Value.agg #[Value.int IntKind.i64 i,Value.int IntKind.i64 i_3]) ∧ ∃ i_4 i_5 s_3 b_5 b_6,Lk Tryz.prog 165 true w1_2 (Value.map (some b)) (Value.agg #[Value.int
 IntKind.i64 i,Value.int IntKind.i64 i_3]) (Value.tuple #[Value.agg #[Value.int IntKind.i64 i_4,Value.int IntKind.i64 i_5,Value.string s_3,Value.bool b_5],Value.bool b_6]) ∧ ∀ b_7 w1,New w1_2
 (Obj.cells #[Value.int IntKind.i64 0,Value.int IntKind.i64 0,Value.string (ByteArray.mk #[]),Value.bool false] 73) b_7 w1 → ∃ w1_3,St Tryz.prog 73 w1 (Addr.mk b_7 0 none) (Value.agg
 #[Value.int IntKind.i64 i_4,Value.int IntKind.i64 i_5,Value.string s_3,Value.bool b_5]) w1_3 ∧ br b_6 (∃ b_8,Ld Tryz.prog 4 w1_3 (Addr.mk b_7 3 none) (Value.bool b_8) ∧ br (!b_6) (∃ i
 i_6,Ld Tryz.prog 169 w1_3 (Addr.mk b_4 0 none) (Value.agg #[Value.int IntKind.i64 i,Value.int IntKind.i64 i_6]) ∧ ∀ b_9 w1,New w1_3 (Obj.cells #[Value.int IntKind.i64 i,Value.int
 IntKind.i64 i_6] 169) b_9 w1 → ∃ a n m w1_4,App Tryz.prog #[164,164] 164 w1 (Value.slice (Prod.fst (Prod.fst s)) (Prod.fst (Prod.snd (Prod.fst s))) (Prod.snd (Prod.snd (Prod.fst s))))
 (Value.slice (some (Addr.mk b_9 0 none)) 1 1) (Value.slice a n m) w1_4 ∧ ∃ i,Ld Tryz.prog 3 (World.drew w1_4) (Addr.mk b_2 0 none) (Value.int IntKind.i64 i) ∧ onP j fun a_1 ↦ ∃ a_2 l c,Ld
 Tryz.prog 89 (World.drew w1_4) (Addr.add a_1 3) (Value.slice a_2 l c) ∧ br (decide (i < (↑l : Int))) (onP j fun a_3 ↦ ∃ a_4 l c, Ld Tryz.prog 89 (World.drew (World.drew w1_4))
 (Addr.add a_3 3) (Value.slice a_4 l c) ∧ ∃ i, Ld Tryz.prog 3 (World.drew (World.drew w1_4)) (Addr.mk b_2 0 none) (Value.int IntKind.i64 i) ∧ onP a_4 fun a_5 ↦ ((0 : Int) ≤ i ∧ i < (↑l : Int))
 ∧ ∃ p,Ld Tryz.prog 99 (World.drew (World.drew w1_4)) (Addr.add a_5 (Int.toNat i * 1)) (Value.pointer p) ∧ ∃ i,Ld Tryz.prog 3 (World.drew (World.drew w1_4)) (Addr.mk b_2 1 none)
 (Value.int IntKind.i64 i) ∧ CallV Tryz.prog 43 [Value.pointer p,Value.int IntKind.i64 i] (World.drew (World.drew w1_4)) fun (e : Ending) (w' : World) ↦ ∃ (s_4 : ByteArray),∃ b_10,e =
 Ending.returned (Value.tuple #[Value.string s_4,Value.bool b_10]) ∧ ∃ (b_11 : Bool),Ld Tryz.prog 4 w' (Addr.mk b_2 3 none) (Value.bool b_11) ∧ br b_11 (br (!b_10) (R (Ending.returned
 (Value.tuple #[Value.slice none 0 0,Value.map none,Value.bool false])) w') (∃ (i : Int),∃ (i_7 : Int),Ld Tryz.prog 169 w' (Addr.mk b_4 0 none) (Value.agg #[Value.int IntKind.i64 i,
 Value.int IntKind.i64 i_7]) ∧ ∃ (i_8 : Int),∃ (i_9 : Int),∃ (s_5 : ByteArray),∃ (b_12 : Bool),Ld Tryz.prog 73 w' (Addr.mk b_2 0 none) (Value.agg #[Value.int IntKind.i64 i_8,Value.int
 IntKind.i64 i_9,Value.string s_5,Value.bool b_12]) ∧ ∃ (w1 : World),MUp Tryz.prog 165 w' (Value.map (some b)) (Value.agg #[Value.int IntKind.i64 i,Value.int IntKind.i64 i_7]) (Value.agg
 #[Value.int IntKind.i64 i_8,Value.int IntKind.i64 i_9,Value.string s_5,Value.bool b_12]) w1 ∧ inR IntKind.i64 (Prod.snd s + (1 : Int)) ∧ next ((a,n,m),Prod.snd s + (1 : Int)) w1)) (∃ (i : Int),
 ∃ (i_7 : Int),Ld Tryz.prog 169 w' (Addr.mk b_4 0 none) (Value.agg #[Value.int IntKind.i64 i,Value.int IntKind.i64 i_7]) ∧ ∃ (i_8 : Int),∃ (i_9 : Int),∃ (s_5 : ByteArray),∃ (b_12 : Bool),
 Ld Tryz.prog 73 w' (Addr.mk b_2 0 none) (Value.agg #[Value.int IntKind.i64 i_8,Value.int IntKind.i64 i_9,Value.string s_5,Value.bool b_12]) ∧ ∃ (w1 : World),MUp Tryz.prog 165 w'
 (Value.map (some b)) (Value.agg #[Value.int IntKind.i64 i,Value.int IntKind.i64 i_7]) (Value.agg #[Value.int IntKind.i64 i_8,Value.int IntKind.i64 i_9,Value.string s_5,Value.bool b_12]) w1 ∧ inR
 IntKind.i64 (Prod.snd s + (1 : Int)) ∧ next ((a,n,m),Prod.snd s + (1 : Int)) w1)) (∃ b_10,Ld Tryz.prog 4 (World.drew w1_4) (Addr.mk b_2 3 none) (Value.bool b_10) ∧ br b_10 (br (!!b_8) (R
 (Ending.returned (Value.tuple #[Value.slice none 0 0,Value.map none,Value.bool false])) (World.drew w1_4)) (∃ i i_7,Ld Tryz.prog 169 (World.drew w1_4) (Addr.mk b_4 0 none) (Value.agg
 #[Value.int IntKind.i64 i,Value.int IntKind.i64 i_7]) ∧ ∃ i_8 i_9 s_4 b_11,Ld Tryz.prog 73 (World.drew w1_4) (Addr.mk b_2 0 none) (Value.agg #[Value.int IntKind.i64 i_8,Value.int
 IntKind.i64 i_9,Value.string s_4,Value.bool b_11]) ∧ ∃ w1,MUp Tryz.prog 165 (World.drew w1_4) (Value.map (some b)) (Value.agg #[Value.int IntKind.i64 i,Value.int IntKind.i64 i_7])
 (Value.agg #[Value.int IntKind.i64 i_8,Value.int IntKind.i64 i_9,Value.string s_4,Value.bool b_11]) w1 ∧ inR IntKind.i64 (Prod.snd s + (1 : Int)) ∧ next ((a,n,m),Prod.snd s + (1 : Int)) w1)) (∃
 i i_7,Ld Tryz.prog 169 (World.drew w1_4) (Addr.mk b_4 0 none) (Value.agg #[Value.int IntKind.i64 i,Value.int IntKind.i64 i_7]) ∧ ∃ i_8 i_9 s_4 b_11,Ld Tryz.prog 73 (World.drew
 w1_4) (Addr.mk b_2 0 none) (Value.agg #[Value.int IntKind.i64 i_8,Value.int IntKind.i64 i_9,Value.string s_4,Value.bool b_11]) ∧ ∃ w1,MUp Tryz.prog 165 (World.drew w1_4) (Value.map (some
 b)) (Value.agg #[Value.int IntKind.i64 i,Value.int IntKind.i64 i_7]) (Value.agg #[Value.int IntKind.i64 i_8,Value.int IntKind.i64 i_9,Value.string s_4,Value.bool b_11]) w1 ∧ inR IntKind.i64
 (Prod.snd s + (1 : Int)) ∧ next ((a,n,m),Prod.snd s + (1 : Int)) w1))) (∃ b_9,Ld Tryz.prog 4 w1_3 (Addr.mk b_2 3 none) (Value.bool b_9) ∧ br b_9 (br (!!b_8) (R (Ending.returned
 (Value.tuple #[Value.slice none 0 0,Value.map none,Value.bool false])) w1_3) (∃ i i_6,Ld Tryz.prog 169 w1_3 (Addr.mk b_4 0 none) (Value.agg #[Value.int IntKind.i64 i,Value.int IntKind.i64
 i_6]) ∧ ∃ i_7 i_8 s_4 b_10,Ld Tryz.prog 73 w1_3 (Addr.mk b_2 0 none) (Value.agg #[Value.int IntKind.i64 i_7,Value.int IntKind.i64 i_8,Value.string s_4,Value.bool b_10]) ∧ ∃ w1,MUp
 Tryz.prog 165 w1_3 (Value.map (some b)) (Value.agg #[Value.int IntKind.i64 i,Value.int IntKind.i64 i_6]) (Value.agg #[Value.int IntKind.i64 i_7,Value.int IntKind.i64 i_8,Value.string s_4,
 Value.bool b_10]) w1 ∧ inR IntKind.i64 (Prod.snd s + (1 : Int)) ∧ next ((Prod.fst (Prod.fst s),Prod.fst (Prod.snd (Prod.fst s)),Prod.snd (Prod.snd (Prod.fst s))),Prod.snd s + (1 : Int)) w1)) (∃ i
 i_6,Ld Tryz.prog 169 w1_3 (Addr.mk b_4 0 none) (Value.agg #[Value.int IntKind.i64 i,Value.int IntKind.i64 i_6]) ∧ ∃ i_7 i_8 s_4 b_10,Ld Tryz.prog 73 w1_3 (Addr.mk b_2 0 none)
 (Value.agg #[Value.int IntKind.i64 i_7,Value.int IntKind.i64 i_8,Value.string s_4,Value.bool b_10]) ∧ ∃ w1,MUp Tryz.prog 165 w1_3 (Value.map (some b)) (Value.agg #[Value.int IntKind.i64
 i,Value.int IntKind.i64 i_6]) (Value.agg #[Value.int IntKind.i64 i_7,Value.int IntKind.i64 i_8,Value.string s_4,Value.bool b_10]) w1 ∧ inR IntKind.i64 (Prod.snd s + (1 : Int)) ∧ next ((Prod.fst
 (Prod.fst s),Prod.fst (Prod.snd (Prod.fst s)),Prod.snd (Prod.snd (Prod.fst s))),Prod.snd s + (1 : Int)) w1))) (br (!b_6) (∃ i i_6,Ld Tryz.prog 169 w1_3 (Addr.mk b_4 0 none) (Value.agg
 #[Value.int IntKind.i64 i,Value.int IntKind.i64 i_6]) ∧ ∀ b_8 w1,New w1_3 (Obj.cells #[Value.int IntKind.i64 i,Value.int IntKind.i64 i_6] 169) b_8 w1 → ∃ a n m w1_4,App Tryz.prog #[164,
 164] 164 w1 (Value.slice (Prod.fst (Prod.fst s)) (Prod.fst (Prod.snd (Prod.fst s))) (Prod.snd (Prod.snd (Prod.fst s)))) (Value.slice (some (Addr.mk b_8 0 none)) 1 1) (Value.slice a n m) w1_4 ∧ ∃ i,Ld
 Tryz.prog 3 (World.drew w1_4) (Addr.mk b_2 0 none) (Value.int IntKind.i64 i) ∧ onP j fun a_1 ↦ ∃ a_2 l c,Ld Tryz.prog 89 (World.drew w1_4) (Addr.add a_1 3) (Value.slice a_2 l c) ∧
 br (decide (i < (↑l : Int))) (onP j fun a_3 ↦ ∃ a_4 l c, Ld Tryz.prog 89 (World.drew (World.drew w1_4)) (Addr.add a_3 3) (Value.slice a_4 l c) ∧ ∃ i, Ld Tryz.prog 3 (World.drew
 (World.drew w1_4)) (Addr.mk b_2 0 none) (Value.int IntKind.i64 i) ∧ onP a_4 fun a_5 ↦ ((0 : Int) ≤ i ∧ i < (↑l : Int)) ∧ ∃ p, Ld Tryz.prog 99 (World.drew (World.drew w1_4)) (Addr.add a_5
 (Int.toNat i * 1)) (Value.pointer p) ∧ ∃ i,Ld Tryz.prog 3 (World.drew (World.drew w1_4)) (Addr.mk b_2 1 none) (Value.int IntKind.i64 i) ∧ CallV Tryz.prog 43 [Value.pointer p,
 Value.int IntKind.i64 i] (World.drew (World.drew w1_4)) fun (e : Ending) (w' : World) ↦ ∃ s_4 b_9,e = Ending.returned (Value.tuple #[Value.string s_4,Value.bool b_9]) ∧ ∃ b_10,Ld Tryz.prog
 4 w' (Addr.mk b_2 3 none) (Value.bool b_10) ∧ br b_10 (br (!b_9) (R (Ending.returned (Value.tuple #[Value.slice none 0 0,Value.map none,Value.bool false])) w') (∃ (i : Int),∃ (i_7 : Int),Ld
 Tryz.prog 169 w' (Addr.mk b_4 0 none) (Value.agg #[Value.int IntKind.i64 i,Value.int IntKind.i64 i_7]) ∧ ∃ (i_8 : Int),∃ (i_9 : Int),∃ (s_5 : ByteArray),∃ (b_11 : Bool),Ld
 Tryz.prog 73 w' (Addr.mk b_2 0 none) (Value.agg #[Value.int IntKind.i64 i_8,Value.int IntKind.i64 i_9,Value.string s_5,Value.bool b_11]) ∧ ∃ (w1 : World),MUp Tryz.prog 165 w'
 (Value.map (some b)) (Value.agg #[Value.int IntKind.i64 i,Value.int IntKind.i64 i_7]) (Value.agg #[Value.int IntKind.i64 i_8,Value.int IntKind.i64 i_9,Value.string s_5,Value.bool b_11]) w1 ∧ inR
 IntKind.i64 (Prod.snd s + (1 : Int)) ∧ next ((a,n,m),Prod.snd s + (1 : Int)) w1)) (∃ (i : Int),∃ (i_7 : Int),Ld Tryz.prog 169 w' (Addr.mk b_4 0 none) (Value.agg #[Value.int IntKind.i64
 i,Value.int IntKind.i64 i_7]) ∧ ∃ (i_8 : Int),∃ (i_9 : Int),∃ (s_5 : ByteArray),∃ (b_11 : Bool),Ld Tryz.prog 73 w' (Addr.mk b_2 0 none) (Value.agg #[Value.int IntKind.i64 i_8,Value.int
 IntKind.i64 i_9,Value.string s_5,Value.bool b_11]) ∧ ∃ (w1 : World),MUp Tryz.prog 165 w' (Value.map (some b)) (Value.agg #[Value.int IntKind.i64 i,Value.int IntKind.i64 i_7]) (Value.agg
 #[Value.int IntKind.i64 i_8,Value.int IntKind.i64 i_9,Value.string s_5,Value.bool b_11]) w1 ∧ inR IntKind.i64 (Prod.snd s + (1 : Int)) ∧ next ((a,n,m),Prod.snd s + (1 : Int)) w1)) (∃ b_9,Ld
 Tryz.prog 4 (World.drew w1_4) (Addr.mk b_2 3 none) (Value.bool b_9) ∧ br b_9 (R (Ending.returned (Value.tuple #[Value.slice none 0 0,Value.map none,Value.bool false])) (World.drew w1_4)) (∃
 i i_7,Ld Tryz.prog 169 (World.drew w1_4) (Addr.mk b_4 0 none) (Value.agg #[Value.int IntKind.i64 i,Value.int IntKind.i64 i_7]) ∧ ∃ i_8 i_9 s_4 b_10,Ld Tryz.prog 73 (World.drew
 w1_4) (Addr.mk b_2 0 none) (Value.agg #[Value.int IntKind.i64 i_8,Value.int IntKind.i64 i_9,Value.string s_4,Value.bool b_10]) ∧ ∃ w1,MUp Tryz.prog 165 (World.drew w1_4) (Value.map (some
 b)) (Value.agg #[Value.int IntKind.i64 i,Value.int IntKind.i64 i_7]) (Value.agg #[Value.int IntKind.i64 i_8,Value.int IntKind.i64 i_9,Value.string s_4,Value.bool b_10]) w1 ∧ inR IntKind.i64
 (Prod.snd s + (1 : Int)) ∧ next ((a,n,m),Prod.snd s + (1 : Int)) w1))) (∃ b_8,Ld Tryz.prog 4 w1_3 (Addr.mk b_2 3 none) (Value.bool b_8) ∧ br b_8 (R (Ending.returned (Value.tuple
 #[Value.slice none 0 0,Value.map none,Value.bool false])) w1_3) (∃ i i_6,Ld Tryz.prog 169 w1_3 (Addr.mk b_4 0 none) (Value.agg #[Value.int IntKind.i64 i,Value.int IntKind.i64 i_6]) ∧ ∃
 i_7 i_8 s_4 b_9,Ld Tryz.prog 73 w1_3 (Addr.mk b_2 0 none) (Value.agg #[Value.int IntKind.i64 i_7,Value.int IntKind.i64 i_8,Value.string s_4,Value.bool b_9]) ∧ ∃ w1,MUp Tryz.prog
 165 w1_3 (Value.map (some b)) (Value.agg #[Value.int IntKind.i64 i,Value.int IntKind.i64 i_6]) (Value.agg #[Value.int IntKind.i64 i_7,Value.int IntKind.i64 i_8,Value.string s_4,Value.bool b_9]) w1
 ∧ inR IntKind.i64 (Prod.snd s + (1 : Int)) ∧ next ((Prod.fst (Prod.fst s),Prod.fst (Prod.snd (Prod.fst s)),Prod.snd (Prod.snd (Prod.fst s))),Prod.snd s + (1 : Int)) w1))))) (∃ i,Ld
 Tryz.prog 3 w1_1 (Addr.mk b_2 0 none) (Value.int IntKind.i64 i) ∧ ∃ i_2,Ld Tryz.prog 3 w1_1 (Addr.mk b_2 1 none) (Value.int IntKind.i64 i_2) ∧ ∀ b_4 w1,New w1_1 (Obj.cells
 #[Value.int IntKind.i64 0,Value.int IntKind.i64 0] 169) b_4 w1 → ∃ w1_2,St Tryz.prog 169 w1 (Addr.mk b_4 0 none) (Value.agg #[Value.int IntKind.i64 i,Value.int IntKind.i64 i_2]) w1_2 ∧ ∃ i
 i_3,Ld Tryz.prog 169 w1_2 (Addr.mk b_4 0 none) (Value.agg #[Value.int IntKind.i64 i,Value.int IntKind.i64 i_3]) ∧ ∃ i_4 i_5 s_2 b_5 b_6,Lk Tryz.prog 165 true w1_2 (Value.map (some
 b)) (Value.agg #[Value.int IntKind.i64 i,Value.int IntKind.i64 i_3]) (Value.tuple #[Value.agg #[Value.int IntKind.i64 i_4,Value.int IntKind.i64 i_5,Value.string s_2,Value.bool b_5],Value.bool
 b_6]) ∧ ∀ b_7 w1,New w1_2 (Obj.cells #[Value.int IntKind.i64 0,Value.int IntKind.i64 0,Value.string (ByteArray.mk #[]),Value.bool false] 73) b_7 w1 → ∃ w1_3,St Tryz.prog 73 w1 (Addr.mk
 b_7 0 none) (Value.agg #[Value.int IntKind.i64 i_4,Value.int IntKind.i64 i_5,Value.string s_2,Value.bool b_5]) w1_3 ∧ br b_6 (∃ b_8,Ld Tryz.prog 4 w1_3 (Addr.mk b_7 3 none) (Value.bool
 b_8) ∧ br (!b_6) (∃ i i_6,Ld Tryz.prog 169 w1_3 (Addr.mk b_4 0 none) (Value.agg #[Value.int IntKind.i64 i,Value.int IntKind.i64 i_6]) ∧ ∀ b_9 w1,New w1_3 (Obj.cells #[Value.int IntKind.i64
 i,Value.int IntKind.i64 i_6] 169) b_9 w1 → ∃ a n m w1_4,App Tryz.prog #[164,164] 164 w1 (Value.slice (Prod.fst (Prod.fst s)) (Prod.fst (Prod.snd (Prod.fst s))) (Prod.snd (Prod.snd
 (Prod.fst s)))) (Value.slice (some (Addr.mk b_9 0 none)) 1 1) (Value.slice a n m) w1_4 ∧ ∃ i,Ld Tryz.prog 3 (World.drew w1_4) (Addr.mk b_2 0 none) (Value.int IntKind.i64 i) ∧ onP j fun a_1 ↦
 ∃ a_2 l c, Ld Tryz.prog 89 (World.drew w1_4) (Addr.add a_1 3) (Value.slice a_2 l c) ∧ br (decide (i < (↑l : Int))) (onP j fun a_3 ↦ ∃ a_4 l c, Ld Tryz.prog 89 (World.drew (World.drew
 w1_4)) (Addr.add a_3 3) (Value.slice a_4 l c) ∧ ∃ i, Ld Tryz.prog 3 (World.drew (World.drew w1_4)) (Addr.mk b_2 0 none) (Value.int IntKind.i64 i) ∧ onP a_4 fun a_5 ↦ ((0 : Int) ≤ i ∧ i < (↑l
 : Int)) ∧ ∃ p,Ld Tryz.prog 99 (World.drew (World.drew w1_4)) (Addr.add a_5 (Int.toNat i * 1)) (Value.pointer p) ∧ ∃ i,Ld Tryz.prog 3 (World.drew (World.drew w1_4)) (Addr.mk b_2 1
 none) (Value.int IntKind.i64 i) ∧ CallV Tryz.prog 43 [Value.pointer p,Value.int IntKind.i64 i] (World.drew (World.drew w1_4)) fun (e : Ending) (w' : World) ↦ ∃ s_3 b_10,e = Ending.returned
 (Value.tuple #[Value.string s_3,Value.bool b_10]) ∧ ∃ b_11,Ld Tryz.prog 4 w' (Addr.mk b_2 3 none) (Value.bool b_11) ∧ br b_11 (br (!b_10) (R (Ending.returned (Value.tuple #[Value.slice none
 0 0,Value.map none,Value.bool false])) w') (∃ (i : Int),∃ (i_7 : Int),Ld Tryz.prog 169 w' (Addr.mk b_4 0 none) (Value.agg #[Value.int IntKind.i64 i,Value.int IntKind.i64 i_7]) ∧ ∃ (i_8 :
 Int),∃ (i_9 : Int),∃ (s_4 : ByteArray),∃ (b_12 : Bool),Ld Tryz.prog 73 w' (Addr.mk b_2 0 none) (Value.agg #[Value.int IntKind.i64 i_8,Value.int IntKind.i64 i_9,Value.string s_4,
 Value.bool b_12]) ∧ ∃ (w1 : World),MUp Tryz.prog 165 w' (Value.map (some b)) (Value.agg #[Value.int IntKind.i64 i,Value.int IntKind.i64 i_7]) (Value.agg #[Value.int IntKind.i64 i_8,
 Value.int IntKind.i64 i_9,Value.string s_4,Value.bool b_12]) w1 ∧ inR IntKind.i64 (Prod.snd s + (1 : Int)) ∧ next ((a,n,m),Prod.snd s + (1 : Int)) w1)) (∃ (i : Int),∃ (i_7 : Int),Ld
 Tryz.prog 169 w' (Addr.mk b_4 0 none) (Value.agg #[Value.int IntKind.i64 i,Value.int IntKind.i64 i_7]) ∧ ∃ (i_8 : Int),∃ (i_9 : Int),∃ (s_4 : ByteArray),∃ (b_12 : Bool),Ld
 Tryz.prog 73 w' (Addr.mk b_2 0 none) (Value.agg #[Value.int IntKind.i64 i_8,Value.int IntKind.i64 i_9,Value.string s_4,Value.bool b_12]) ∧ ∃ (w1 : World),MUp Tryz.prog 165 w'
 (Value.map (some b)) (Value.agg #[Value.int IntKind.i64 i,Value.int IntKind.i64 i_7]) (Value.agg #[Value.int IntKind.i64 i_8,Value.int IntKind.i64 i_9,Value.string s_4,Value.bool b_12]) w1 ∧ inR
 IntKind.i64 (Prod.snd s + (1 : Int)) ∧ next ((a,n,m),Prod.snd s + (1 : Int)) w1)) (∃ b_10,Ld Tryz.prog 4 (World.drew w1_4) (Addr.mk b_2 3 none) (Value.bool b_10) ∧ br b_10 (br (!!b_8) (R
 (Ending.returned (Value.tuple #[Value.slice none 0 0,Value.map none,Value.bool false])) (World.drew w1_4)) (∃ i i_7,Ld Tryz.prog 169 (World.drew w1_4) (Addr.mk b_4 0 none) (Value.agg
 #[Value.int IntKind.i64 i,Value.int IntKind.i64 i_7]) ∧ ∃ i_8 i_9 s_3 b_11,Ld Tryz.prog 73 (World.drew w1_4) (Addr.mk b_2 0 none) (Value.agg #[Value.int IntKind.i64 i_8,Value.int
 IntKind.i64 i_9,Value.string s_3,Value.bool b_11]) ∧ ∃ w1,MUp Tryz.prog 165 (World.drew w1_4) (Value.map (some b)) (Value.agg #[Value.int IntKind.i64 i,Value.int IntKind.i64 i_7])
 (Value.agg #[Value.int IntKind.i64 i_8,Value.int IntKind.i64 i_9,Value.string s_3,Value.bool b_11]) w1 ∧ inR IntKind.i64 (Prod.snd s + (1 : Int)) ∧ next ((a,n,m),Prod.snd s + (1 : Int)) w1)) (∃
 i i_7,Ld Tryz.prog 169 (World.drew w1_4) (Addr.mk b_4 0 none) (Value.agg #[Value.int IntKind.i64 i,Value.int IntKind.i64 i_7]) ∧ ∃ i_8 i_9 s_3 b_11,Ld Tryz.prog 73 (World.drew
 w1_4) (Addr.mk b_2 0 none) (Value.agg #[Value.int IntKind.i64 i_8,Value.int IntKind.i64 i_9,Value.string s_3,Value.bool b_11]) ∧ ∃ w1,MUp Tryz.prog 165 (World.drew w1_4) (Value.map (some
 b)) (Value.agg #[Value.int IntKind.i64 i,Value.int IntKind.i64 i_7]) (Value.agg #[Value.int IntKind.i64 i_8,Value.int IntKind.i64 i_9,Value.string s_3,Value.bool b_11]) w1 ∧ inR IntKind.i64
 (Prod.snd s + (1 : Int)) ∧ next ((a,n,m),Prod.snd s + (1 : Int)) w1))) (∃ b_9,Ld Tryz.prog 4 w1_3 (Addr.mk b_2 3 none) (Value.bool b_9) ∧ br b_9 (br (!!b_8) (R (Ending.returned
 (Value.tuple #[Value.slice none 0 0,Value.map none,Value.bool false])) w1_3) (∃ i i_6,Ld Tryz.prog 169 w1_3 (Addr.mk b_4 0 none) (Value.agg #[Value.int IntKind.i64 i,Value.int IntKind.i64
 i_6]) ∧ ∃ i_7 i_8 s_3 b_10,Ld Tryz.prog 73 w1_3 (Addr.mk b_2 0 none) (Value.agg #[Value.int IntKind.i64 i_7,Value.int IntKind.i64 i_8,Value.string s_3,Value.bool b_10]) ∧ ∃ w1,MUp
 Tryz.prog 165 w1_3 (Value.map (some b)) (Value.agg #[Value.int IntKind.i64 i,Value.int IntKind.i64 i_6]) (Value.agg #[Value.int IntKind.i64 i_7,Value.int IntKind.i64 i_8,Value.string s_3,
 Value.bool b_10]) w1 ∧ inR IntKind.i64 (Prod.snd s + (1 : Int)) ∧ next ((Prod.fst (Prod.fst s),Prod.fst (Prod.snd (Prod.fst s)),Prod.snd (Prod.snd (Prod.fst s))),Prod.snd s + (1 : Int)) w1)) (∃ i
 i_6,Ld Tryz.prog 169 w1_3 (Addr.mk b_4 0 none) (Value.agg #[Value.int IntKind.i64 i,Value.int IntKind.i64 i_6]) ∧ ∃ i_7 i_8 s_3 b_10,Ld Tryz.prog 73 w1_3 (Addr.mk b_2 0 none)
 (Value.agg #[Value.int IntKind.i64 i_7,Value.int IntKind.i64 i_8,Value.string s_3,Value.bool b_10]) ∧ ∃ w1,MUp Tryz.prog 165 w1_3 (Value.map (some b)) (Value.agg #[Value.int IntKind.i64
 i,Value.int IntKind.i64 i_6]) (Value.agg #[Value.int IntKind.i64 i_7,Value.int IntKind.i64 i_8,Value.string s_3,Value.bool b_10]) w1 ∧ inR IntKind.i64 (Prod.snd s + (1 : Int)) ∧ next ((Prod.fst
 (Prod.fst s),Prod.fst (Prod.snd (Prod.fst s)),Prod.snd (Prod.snd (Prod.fst s))),Prod.snd s + (1 : Int)) w1))) (br (!b_6) (∃ i i_6,Ld Tryz.prog 169 w1_3 (Addr.mk b_4 0 none) (Value.agg
 #[Value.int IntKind.i64 i,Value.int IntKind.i64 i_6]) ∧ ∀ b_8 w1,New w1_3 (Obj.cells #[Value.int IntKind.i64 i,Value.int IntKind.i64 i_6] 169) b_8 w1 → ∃ a n m w1_4,App Tryz.prog #[164,
 164] 164 w1 (Value.slice (Prod.fst (Prod.fst s)) (Prod.fst (Prod.snd (Prod.fst s))) (Prod.snd (Prod.snd (Prod.fst s)))) (Value.slice (some (Addr.mk b_8 0 none)) 1 1) (Value.slice a n m) w1_4 ∧ ∃ i,Ld
 Tryz.prog 3 (World.drew w1_4) (Addr.mk b_2 0 none) (Value.int IntKind.i64 i) ∧ onP j fun a_1 ↦ ∃ a_2 l c,Ld Tryz.prog 89 (World.drew w1_4) (Addr.add a_1 3) (Value.slice a_2 l c) ∧
 br (decide (i < (↑l : Int))) (onP j fun a_3 ↦ ∃ a_4 l c, Ld Tryz.prog 89 (World.drew (World.drew w1_4)) (Addr.add a_3 3) (Value.slice a_4 l c) ∧ ∃ i, Ld Tryz.prog 3 (World.drew
 (World.drew w1_4)) (Addr.mk b_2 0 none) (Value.int IntKind.i64 i) ∧ onP a_4 fun a_5 ↦ ((0 : Int) ≤ i ∧ i < (↑l : Int)) ∧ ∃ p, Ld Tryz.prog 99 (World.drew (World.drew w1_4)) (Addr.add a_5
 (Int.toNat i * 1)) (Value.pointer p) ∧ ∃ i,Ld Tryz.prog 3 (World.drew (World.drew w1_4)) (Addr.mk b_2 1 none) (Value.int IntKind.i64 i) ∧ CallV Tryz.prog 43 [Value.pointer p,
 Value.int IntKind.i64 i] (World.drew (World.drew w1_4)) fun (e : Ending) (w' : World) ↦ ∃ s_3 b_9,e = Ending.returned (Value.tuple #[Value.string s_3,Value.bool b_9]) ∧ ∃ b_10,Ld Tryz.prog
 4 w' (Addr.mk b_2 3 none) (Value.bool b_10) ∧ br b_10 (br (!b_9) (R (Ending.returned (Value.tuple #[Value.slice none 0 0,Value.map none,Value.bool false])) w') (∃ i,∃ (i_7 : Int),Ld
 Tryz.prog 169 w' (Addr.mk b_4 0 none) (Value.agg #[Value.int IntKind.i64 i,Value.int IntKind.i64 i_7]) ∧ ∃ (i_8 : Int),∃ (i_9 : Int),∃ (s_4 : ByteArray),∃ (b_11 : Bool),Ld
 Tryz.prog 73 w' (Addr.mk b_2 0 none) (Value.agg #[Value.int IntKind.i64 i_8,Value.int IntKind.i64 i_9,Value.string s_4,Value.bool b_11]) ∧ ∃ (w1 : World),MUp Tryz.prog 165 w'
 (Value.map (some b)) (Value.agg #[Value.int IntKind.i64 i,Value.int IntKind.i64 i_7]) (Value.agg #[Value.int IntKind.i64 i_8,Value.int IntKind.i64 i_9,Value.string s_4,Value.bool b_11]) w1 ∧ inR
 IntKind.i64 (Prod.snd s + (1 : Int)) ∧ next ((a,n,m),Prod.snd s + (1 : Int)) w1)) (∃ i i_7,Ld Tryz.prog 169 w' (Addr.mk b_4 0 none) (Value.agg #[Value.int IntKind.i64 i,Value.int
 IntKind.i64 i_7]) ∧ ∃ (i_8 : Int),∃ (i_9 : Int),∃ (s_4 : ByteArray),∃ (b_11 : Bool),Ld Tryz.prog 73 w' (Addr.mk b_2 0 none) (Value.agg #[Value.int IntKind.i64 i_8,Value.int IntKind.i64
 i_9,Value.string s_4,Value.bool b_11]) ∧ ∃ (w1 : World),MUp Tryz.prog 165 w' (Value.map (some b)) (Value.agg #[Value.int IntKind.i64 i,Value.int IntKind.i64 i_7]) (Value.agg #[Value.int
 IntKind.i64 i_8,Value.int IntKind.i64 i_9,Value.string s_4,Value.bool b_11]) w1 ∧ inR IntKind.i64 (Prod.snd s + (1 : Int)) ∧ next ((a,n,m),Prod.snd s + (1 : Int)) w1)) (∃ b_9,Ld
 Tryz.prog 4 (World.drew w1_4) (Addr.mk b_2 3 none) (Value.bool b_9) ∧ br b_9 (R (Ending.returned (Value.tuple #[Value.slice none 0 0,Value.map none,Value.bool false])) (World.drew w1_4)) (∃
 i i_7,Ld Tryz.prog 169 (World.drew w1_4) (Addr.mk b_4 0 none) (Value.agg #[Value.int IntKind.i64 i,Value.int IntKind.i64 i_7]) ∧ ∃ i_8 i_9 s_3 b_10,Ld Tryz.prog 73 (World.drew
 w1_4) (Addr.mk b_2 0 none) (Value.agg #[Value.int IntKind.i64 i_8,Value.int IntKind.i64 i_9,Value.string s_3,Value.bool b_10]) ∧ ∃ w1,MUp Tryz.prog 165 (World.drew w1_4) (Value.map (some
 b)) (Value.agg #[Value.int IntKind.i64 i,Value.int IntKind.i64 i_7]) (Value.agg #[Value.int IntKind.i64 i_8,Value.int IntKind.i64 i_9,Value.string s_3,Value.bool b_10]) w1 ∧ inR IntKind.i64
 (Prod.snd s + (1 : Int)) ∧ next ((a,n,m),Prod.snd s + (1 : Int)) w1))) (∃ b_8,Ld Tryz.prog 4 w1_3 (Addr.mk b_2 3 none) (Value.bool b_8) ∧ br b_8 (R (Ending.returned (Value.tuple
 #[Value.slice none 0 0,Value.map none,Value.bool false])) w1_3) (∃ i i_6,Ld Tryz.prog 169 w1_3 (Addr.mk b_4 0 none) (Value.agg #[Value.int IntKind.i64 i,Value.int IntKind.i64 i_6]) ∧ ∃
 i_7 i_8 s_3 b_9,Ld Tryz.prog 73 w1_3 (Addr.mk b_2 0 none) (Value.agg #[Value.int IntKind.i64 i_7,Value.int IntKind.i64 i_8,Value.string s_3,Value.bool b_9]) ∧ ∃ w1,MUp Tryz.prog
 165 w1_3 (Value.map (some b)) (Value.agg #[Value.int IntKind.i64 i,Value.int IntKind.i64 i_6]) (Value.agg #[Value.int IntKind.i64 i_7,Value.int IntKind.i64 i_8,Value.string s_3,Value.bool b_9]) w1
 ∧ inR IntKind.i64 (Prod.snd s + (1 : Int)) ∧ next ((Prod.fst (Prod.fst s),Prod.fst (Prod.snd (Prod.fst s)),Prod.snd (Prod.snd (Prod.fst s))),Prod.snd s + (1 : Int)) w1))))))))) (R (Ending.returned
 (Value.tuple #[Value.slice (Prod.fst (Prod.fst s)) (Prod.fst (Prod.snd (Prod.fst s))) (Prod.snd (Prod.snd (Prod.fst s))),Value.map (some b),Value.bool true])) w')) ((none,0,0),(0 : Int)) w1
theorem jfinal.eq (j : Option Addr) (la : Option Addr) (ln : Nat) (lc : Nat) (w : World) (R : Ending → World → Prop) : bodyV Tryz.prog jfinal.an Tryz.f97 [.pointer j,.slice la ln lc] w R = jfinal.vc j la ln lc w R := by kernel_rfl
theorem jfinal.ok (j : Option Addr) (la : Option Addr) (ln : Nat) (lc : Nat) (w : World) (R : Ending → World → Prop) (h : jfinal.vc j la ln lc w R) : Calls Tryz.prog 97 #[.pointer j,.slice la ln lc] w R :=
 calls_of_bodyV noNum (an := jfinal.an) (args := [.pointer j,.slice la ln lc]) Tryz.func97 (by kernel_rfl) ((jfinal.eq j la ln lc w R).mpr h)
end Go.Proofs.YtdeebigmpffnbaaGreat
namespace Go.Proofs.YtdeebigmpffnbaaGreat
open Go Go.Vc
def jtried.an : An := { wraps := [],loops := [(6,[(29,.inl .i64)]),(17,[(72,.inl .i64)])],joins := [],ranges := [] }
def jtried.vc (j : Option Addr) (la : Option Addr) (ln : Nat) (lc : Nat) (w : World) (R : Ending → World → Prop) : Prop := CallV Tryz.prog 97 [Value.pointer j,Value.slice la ln lc] w fun e w' ↦ ∃ a l c m b,e = Ending.returned (Value.tuple #[Value.slice a l c,Value.map m,Value.bool b]) ∧ br (!b) (R
 (Ending.returned (Value.tuple #[Value.map none, Value.bool false])) w') (∀ b w1, New w' (Obj.map #[] 0) b w1 → LoopP (fun (s : Int) (w' : World) (next : Int → World → Prop) ↦ br (decide (s < (↑l :
 Int))) (onP a fun a ↦ ((0 : Int) ≤ s ∧ s < (↑l : Int)) ∧ ∃ i i_1, Ld Tryz.prog 169 w' (Addr.add a (Int.toNat s * 2)) (Value.agg #[Value.int IntKind.i64 i, Value.int IntKind.i64 i_1]) ∧ ∀ b_1
 w1,New w' (Obj.cells #[Value.int IntKind.i64 0,Value.int IntKind.i64 0] 169) b_1 w1 → ∃ w1_1,St Tryz.prog 169 w1 (Addr.mk b_1 0 none) (Value.agg #[Value.int IntKind.i64 i,Value.int
 IntKind.i64 i_1]) w1_1 ∧ ∃ i,Ld Tryz.prog 3 w1_1 (Addr.mk b_1 0 none) (Value.int IntKind.i64 i) ∧ ∃ p b_2,Lk Tryz.prog 112 true w1_1 (Value.map (some b)) (Value.int IntKind.i64 i)
 (Value.tuple #[Value.pointer p,Value.bool b_2]) ∧ br b_2 (∃ i,Ld Tryz.prog 3 w1_1 (Addr.mk b_1 1 none) (Value.int IntKind.i64 i) ∧ CallV Tryz.prog 99 [Value.pointer p,Value.int
 IntKind.i64 i] w1_1 fun e w' ↦ ∃ i,e = Ending.returned (Value.int IntKind.i64 i) ∧ ∃ i,Ld Tryz.prog 3 w' (Addr.mk b_1 0 none) (Value.int IntKind.i64 i) ∧ ∃ w1,MUp Tryz.prog 112 w'
 (Value.map (some b)) (Value.int IntKind.i64 i) (Value.pointer p) w1 ∧ inR IntKind.i64 (s + (1 : Int)) ∧ next (s + (1 : Int)) w1) (∃ i,Ld Tryz.prog 3 (World.drew w1_1) (Addr.mk b_1 0 none)
 (Value.int IntKind.i64 i) ∧ onP j fun a ↦ ∃ a_2 l c, Ld Tryz.prog 89 (World.drew w1_1) (Addr.add a 3) (Value.slice a_2 l c) ∧ br (decide (i < (↑l : Int))) (onP j fun a ↦ ∃ a_3 l c, Ld
 Tryz.prog 89 (World.drew (World.drew w1_1)) (Addr.add a 3) (Value.slice a_3 l c) ∧ ∃ i,Ld Tryz.prog 3 (World.drew (World.drew w1_1)) (Addr.mk b_1 0 none) (Value.int IntKind.i64 i) ∧
 onP a_3 fun a ↦ ((0 : Int) ≤ i ∧ i < (↑l : Int)) ∧ ∃ p, Ld Tryz.prog 99 (World.drew (World.drew w1_1)) (Addr.add a (Int.toNat i * 1)) (Value.pointer p) ∧ CallV Tryz.prog 89
 [Value.pointer p] (World.drew (World.drew w1_1)) fun e w' ↦ ∃ p,e = Ending.returned (Value.pointer p) ∧ ∃ i,Ld Tryz.prog 3 w' (Addr.mk b_1 1 none) (Value.int IntKind.i64 i) ∧ CallV
 Tryz.prog 99 [Value.pointer p,Value.int IntKind.i64 i] w' fun e w' ↦ ∃ i,e = Ending.returned (Value.int IntKind.i64 i) ∧ ∃ i,Ld Tryz.prog 3 w' (Addr.mk b_1 0 none) (Value.int
 IntKind.i64 i) ∧ ∃ w1,MUp Tryz.prog 112 w' (Value.map (some b)) (Value.int IntKind.i64 i) (Value.pointer p) w1 ∧ inR IntKind.i64 (s + (1 : Int)) ∧ next (s + (1 : Int)) w1) (CallV
 Tryz.prog 98 [] (World.drew w1_1) fun e w' ↦ ∃ p,e = Ending.returned (Value.pointer p) ∧ ∃ i,Ld Tryz.prog 3 w' (Addr.mk b_1 1 none) (Value.int IntKind.i64 i) ∧ CallV
 Tryz.prog 99 [Value.pointer p,Value.int IntKind.i64 i] w' fun e w' ↦ ∃ i,e = Ending.returned (Value.int IntKind.i64 i) ∧ ∃ i,Ld Tryz.prog 3 w' (Addr.mk b_1 0 none) (Value.int
 IntKind.i64 i) ∧ ∃ w1,MUp Tryz.prog 112 w' (Value.map (some b)) (Value.int IntKind.i64 i) (Value.pointer p) w1 ∧ inR IntKind.i64 (s + (1 : Int)) ∧ next (s + (1 : Int)) w1))) (LoopP (fun (s :
 Int) (w' : World) (next : Int → World → Prop) ↦ br (decide (s < (↑l : Int))) (onP a fun a ↦ ((0 : Int) ≤ s ∧ s < (↑l : Int)) ∧ ∃ i i_1, Ld Tryz.prog 169 w' (Addr.add a (Int.toNat s * 2))
 (Value.agg #[Value.int IntKind.i64 i,Value.int IntKind.i64 i_1]) ∧ ∀ b_1 w1,New w' (Obj.cells #[Value.int IntKind.i64 0,Value.int IntKind.i64 0] 169) b_1 w1 → ∃ w1_1,St Tryz.prog 169 w1
 (Addr.mk b_1 0 none) (Value.agg #[Value.int IntKind.i64 i,Value.int IntKind.i64 i_1]) w1_1 ∧ ∃ i i_2,Ld Tryz.prog 169 w1_1 (Addr.mk b_1 0 none) (Value.agg #[Value.int IntKind.i64 i,
 Value.int IntKind.i64 i_2]) ∧ ∃ i_3 i_4 s_1 b_2,Lk Tryz.prog 165 false w1_1 (Value.map m) (Value.agg #[Value.int IntKind.i64 i,Value.int IntKind.i64 i_2]) (Value.agg #[Value.int IntKind.i64
 i_3,Value.int IntKind.i64 i_4,Value.string s_1,Value.bool b_2]) ∧ ∀ b_3 w1,New w1_1 (Obj.cells #[Value.int IntKind.i64 0,Value.int IntKind.i64 0,Value.string (ByteArray.mk #[]),Value.bool
 false] 73) b_3 w1 → ∃ w1_2,St Tryz.prog 73 w1 (Addr.mk b_3 0 none) (Value.agg #[Value.int IntKind.i64 i_3,Value.int IntKind.i64 i_4,Value.string s_1,Value.bool b_2]) w1_2 ∧ ∃ b_4,Ld
 Tryz.prog 4 w1_2 (Addr.mk b_3 3 none) (Value.bool b_4) ∧ br (!b_4) (∃ i,Ld Tryz.prog 3 w1_2 (Addr.mk b_1 0 none) (Value.int IntKind.i64 i) ∧ ∃ p,Lk Tryz.prog 112 false
 w1_2 (Value.map (some b)) (Value.int IntKind.i64 i) (Value.pointer p) ∧ ∃ i,Ld Tryz.prog 3 w1_2 (Addr.mk b_1 1 none) (Value.int IntKind.i64 i) ∧ ∃ s_2,Ld Tryz.prog 9 w1_2 (Addr.mk
 b_3 2 none) (Value.string s_2) ∧ CallV Tryz.prog 100 [Value.pointer p,Value.int IntKind.i64 i,Value.string s_2] w1_2 fun e w' ↦ ∃ i,e = Ending.returned (Value.int IntKind.i64 i) ∧ br
 (!decide (i = (0 : Int))) (R (Ending.returned (Value.tuple #[Value.map none,Value.bool false])) w') (inR IntKind.i64 (s + (1 : Int)) ∧ next (s + (1 : Int)) w')) (inR IntKind.i64 (s + (1 : Int)) ∧
 next (s + (1 : Int)) w1_2)) (R (Ending.returned (Value.tuple #[Value.map (some b),Value.bool true])) w')) (0 : Int) w')) (0 : Int) w1)
theorem jtried.eq (j : Option Addr) (la : Option Addr) (ln : Nat) (lc : Nat) (w : World) (R : Ending → World → Prop) : bodyV Tryz.prog jtried.an Tryz.f54 [.pointer j,.slice la ln lc] w R = jtried.vc j la ln lc w R := by kernel_rfl
theorem jtried.ok (j : Option Addr) (la : Option Addr) (ln : Nat) (lc : Nat) (w : World) (R : Ending → World → Prop) (h : jtried.vc j la ln lc w R) : Calls Tryz.prog 54 #[.pointer j,.slice la ln lc] w R :=
 calls_of_bodyV noNum (an := jtried.an) (args := [.pointer j,.slice la ln lc]) Tryz.func54 (by kernel_rfl) ((jtried.eq j la ln lc w R).mpr h)
def jchange.an : An := { wraps := [],loops := [(1,[])],joins := [],ranges := [] }
def jchange.vc (j : Option Addr) (m : Option Nat) (stamp : Int) (w : World) (R : Ending → World → Prop) : Prop := ∃ p w1,Rng Tryz.prog 112 w (Value.map m) (Value.pointer p) w1 ∧ LoopP (fun (s : PUnit) (w' : World) (next : PUnit → World → Prop) ↦ (∃ w1,Nxt Tryz.prog false 0 w' (Value.pointer p)
 (Value.tuple #[Value.bool false]) w1 ∧ R (Ending.returned (Value.tuple #[])) w1) ∨ ∃ k v w1,Nxt Tryz.prog false 0 w' (Value.pointer p) (Value.tuple #[Value.bool true,k,v]) w1 ∧ ∃ i p_1
 w1_1,Etr Tryz.prog w1 (Value.pointer p) (Value.tuple #[Value.int IntKind.i64 i,Value.pointer p_1]) w1_1 ∧ CallV Tryz.prog 102 [Value.pointer p_1,Value.int IntKind.i64 stamp] w1_1
 fun e w' ↦ ∃ b,e = Ending.returned (Value.bool b) ∧ onP p_1 fun a ↦ ∃ (cs : List Value),∃ i_1 i_2,Ld Tryz.prog 144 (World.drew w') a (Value.agg (List.toArray (cs ++ ([Value.int IntKind.i64
 i_1] ++ ([Value.int IntKind.i64 i_2] ++ []))))) ∧ CallV Tryz.prog 58 [Value.pointer j,Value.int IntKind.i64 i] (World.drew w') fun e w' ↦ ∃ p,e = Ending.returned (Value.pointer p) ∧ Ld
 Tryz.prog 144 w' a (Value.agg (List.toArray (cs ++ ([Value.int IntKind.i64 i_1] ++ ([Value.int IntKind.i64 i_2] ++ []))))) ∧ onP p fun a ↦ ∃ w1,St Tryz.prog 144 w' a (Value.agg
 (List.toArray (cs ++ ([Value.int IntKind.i64 i_1] ++ ([Value.int IntKind.i64 i_2] ++ []))))) w1 ∧ onP j fun a ↦ ∃ m,Ld Tryz.prog 86 w1 (Addr.add a 4) (Value.map m) ∧ ∃ i_3,Lk
 Tryz.prog 86 false w1 (Value.map m) (Value.int IntKind.i64 i) (Value.int IntKind.i64 i_3) ∧ inR IntKind.i64 (i_3 + (1 : Int)) ∧ ∃ w1_2,MUp Tryz.prog 86 w1 (Value.map m) (Value.int
 IntKind.i64 i) (Value.int IntKind.i64 (i_3 + (1 : Int))) w1_2 ∧ next () w1_2) () w1
theorem jchange.eq (j : Option Addr) (m : Option Nat) (stamp : Int) (w : World) (R : Ending → World → Prop) : bodyV Tryz.prog jchange.an Tryz.f61 [.pointer j,.map m,.int .i64 stamp] w R = jchange.vc j m stamp w R := by kernel_rfl
theorem jchange.ok (j : Option Addr) (m : Option Nat) (stamp : Int) (w : World) (R : Ending → World → Prop) (h : jchange.vc j m stamp w R) : Calls Tryz.prog 61 #[.pointer j,.map m,.int .i64 stamp] w R :=
 calls_of_bodyV noNum (an := jchange.an) (args := [.pointer j,.map m,.int .i64 stamp]) Tryz.func61 (by kernel_rfl) ((jchange.eq j m stamp w R).mpr h)
def jcommit.an : An := { wraps := [],loops := [(7,[(33,.inl .i64)]),(13,[(9,.inr 1),(54,.inl .i64)])],joins := [],ranges := [] }
def jcommit.vc (j : Option Addr) (la : Option Addr) (ln : Nat) (lc : Nat) (w : World) (R : Ending → World → Prop) : Prop := onP j fun a ↦ ∃ p,Ld Tryz.prog 87 w (Addr.add a 1) (Value.pointer p) ∧ CallV Tryz.prog 46 [Value.pointer p] w fun e w' ↦ ∃ i,e = Ending.returned (Value.int IntKind.i64 i) ∧ br
 (!decide (i = (0 : Int))) (R (Ending.returned (Value.int IntKind.i64 190)) w') (CallV Tryz.prog 54 [Value.pointer j,Value.slice la ln lc] w' fun e w' ↦ ∃ m b,e = Ending.returned
 (Value.tuple #[Value.map m,Value.bool b]) ∧ br (!b) (R (Ending.returned (Value.int IntKind.i64 180)) w') (CallV Tryz.prog 55 [Value.pointer j,Value.slice la ln lc] w' fun e w' ↦ ∃ a l c,e
 = Ending.returned (Value.slice a l c) ∧ LoopP (fun (s : Int) (w' : World) (next : Int → World → Prop) ↦ br (decide (s < (↑l : Int))) (onP a fun a ↦ ((0 : Int) ≤ s ∧ s < (↑l : Int)) ∧ ∃ i, Ld
 Tryz.prog 3 w' (Addr.add a (Int.toNat s * 1)) (Value.int IntKind.i64 i) ∧ onP j fun a ↦ ∃ p,Ld Tryz.prog 87 (World.drew w') (Addr.add a 1) (Value.pointer p) ∧ CallV
 Tryz.prog 57 [Value.int IntKind.i64 i,Value.int IntKind.i64 2] (World.drew w') fun e w' ↦ ∃ s_1,e = Ending.returned (Value.string s_1) ∧ Ld Tryz.prog 87 w' (Addr.add a 1)
 (Value.pointer p) ∧ (↑(ByteArray.size (ByteArray.mk #[(112 : UInt8)]) + ByteArray.size s_1) : Int) ≤ (9223372036854775807 : Int) ∧ CallV Tryz.prog 58 [Value.pointer j, Value.int IntKind.i64
 i] w' fun e w' ↦ ∃ p_1,e = Ending.returned (Value.pointer p_1) ∧ Ld Tryz.prog 87 w' (Addr.add a 1) (Value.pointer p) ∧ CallV Tryz.prog 59 [Value.pointer p_1] w' fun e w' ↦ ∃ a_1 l
 c,e = Ending.returned (Value.slice a_1 l c) ∧ Ld Tryz.prog 87 w' (Addr.add a 1) (Value.pointer p) ∧ ∃ s_2,B2S Tryz.prog 29 9 w' (Value.slice a_1 l c) (Value.string s_2) ∧
 (↑(ByteArray.size (ByteArray.mk #[(112 : UInt8)] ++ s_1) + ByteArray.size s_2) : Int) ≤ (9223372036854775807 : Int) ∧ CallV Tryz.prog 56 [Value.pointer p, Value.string (ByteArray.mk #[(112 :
 UInt8)] ++ s_1 ++ s_2)] w' fun e w' ↦ ∃ i i_1,e = Ending.returned (Value.tuple #[Value.int IntKind.i64 i,Value.int IntKind.i64 i_1]) ∧ inR IntKind.i64 (s + (1 : Int)) ∧ next (s + (1 : Int)) w')
 (LoopP (fun (s : ByteArray × Int) (w' : World) (next : ByteArray × Int → World → Prop) ↦ br (decide (Prod.snd s < (↑ln : Int))) (onP la fun a ↦ ((0 : Int) ≤ Prod.snd s ∧ Prod.snd s < (↑ln : Int)) ∧ ∃
 i i_1 s_1 b,Ld Tryz.prog 73 w' (Addr.add a (Int.toNat (Prod.snd s) * 4)) (Value.agg #[Value.int IntKind.i64 i,Value.int IntKind.i64 i_1,Value.string s_1,Value.bool b]) ∧ ∀ b_1 w1,New w'
 (Obj.cells #[Value.int IntKind.i64 0,Value.int IntKind.i64 0,Value.string (ByteArray.mk #[]),Value.bool false] 73) b_1 w1 → ∃ w1_1,St Tryz.prog 73 w1 (Addr.mk b_1 0 none) (Value.agg
 #[Value.int IntKind.i64 i,Value.int IntKind.i64 i_1,Value.string s_1,Value.bool b]) w1_1 ∧ ∃ i i_2 s_2 b,Ld Tryz.prog 73 w1_1 (Addr.mk b_1 0 none) (Value.agg #[Value.int IntKind.i64 i,
 Value.int IntKind.i64 i_2,Value.string s_2,Value.bool b]) ∧ CallV Tryz.prog 60 [Value.agg #[Value.int IntKind.i64 i,Value.int IntKind.i64 i_2,Value.string s_2,Value.bool b]] w1_1 fun e
 w' ↦ ∃ s_3, e = Ending.returned (Value.string s_3) ∧ inR IntKind.i64 ((↑(ByteArray.size (Prod.fst s)) : Int) + (↑(ByteArray.size s_3) : Int)) ∧ br (decide ((60000 : Int) < (↑(ByteArray.size (Prod.fst
 s)) : Int) + (↑(ByteArray.size s_3) : Int))) (onP j fun a ↦ ∃ p, Ld Tryz.prog 87 w' (Addr.add a 1) (Value.pointer p) ∧ (↑(ByteArray.size (ByteArray.mk #[(100 : UInt8)]) + ByteArray.size
 (Prod.fst s)) : Int) ≤ (9223372036854775807 : Int) ∧ CallV Tryz.prog 56 [Value.pointer p,Value.string (ByteArray.mk #[(100 : UInt8)] ++ Prod.fst s)] w' fun e w' ↦ ∃ i i_3,e =
 Ending.returned (Value.tuple #[Value.int IntKind.i64 i, Value.int IntKind.i64 i_3]) ∧ (↑(ByteArray.size (ByteArray.mk #[]) + ByteArray.size s_3) : Int) ≤ (9223372036854775807 : Int) ∧ inR IntKind.i64
 (Prod.snd s + (1 : Int)) ∧ next (ByteArray.mk #[] ++ s_3, Prod.snd s + (1 : Int)) w') ((↑(ByteArray.size (Prod.fst s) + ByteArray.size s_3) : Int) ≤ (9223372036854775807 : Int) ∧ inR IntKind.i64
 (Prod.snd s + (1 : Int)) ∧ next (Prod.fst s ++ s_3, Prod.snd s + (1 : Int)) w')) (onP j fun a ↦ ∃ p, Ld Tryz.prog 87 w' (Addr.add a 1) (Value.pointer p) ∧ (↑(ByteArray.size (ByteArray.mk
 #[(101 : UInt8)]) + ByteArray.size (Prod.fst s)) : Int) ≤ (9223372036854775807 : Int) ∧ CallV Tryz.prog 56 [Value.pointer p,Value.string (ByteArray.mk #[(101 : UInt8)] ++ Prod.fst s)] w' fun
 e w' ↦ ∃ i i_1,e = Ending.returned (Value.tuple #[Value.int IntKind.i64 i,Value.int IntKind.i64 i_1]) ∧ CallV Tryz.prog 61 [Value.pointer j,Value.map m,Value.int IntKind.i64 i] w' fun e
 w' ↦ e = Ending.returned (Value.tuple #[]) ∧ onP j fun a ↦ ∃ i,Ld Tryz.prog 3 w' (Addr.add a 5) (Value.int IntKind.i64 i) ∧ inR IntKind.i64 (i + (1 : Int)) ∧ onP j fun a ↦ ∃ w1,St
 Tryz.prog 3 w' (Addr.add a 5) (Value.int IntKind.i64 (i + (1 : Int))) w1 ∧ R (Ending.returned (Value.int IntKind.i64 0)) w1)) (ByteArray.mk #[],(0 : Int)) w')) (0 : Int) w'))
theorem jcommit.eq (j : Option Addr) (la : Option Addr) (ln : Nat) (lc : Nat) (w : World) (R : Ending → World → Prop) : bodyV Tryz.prog jcommit.an Tryz.f28 [.pointer j,.slice la ln lc] w R = jcommit.vc j la ln lc w R := by kernel_rfl
theorem jcommit.ok (j : Option Addr) (la : Option Addr) (ln : Nat) (lc : Nat) (w : World) (R : Ending → World → Prop) (h : jcommit.vc j la ln lc w R) : Calls Tryz.prog 28 #[.pointer j,.slice la ln lc] w R :=
 calls_of_bodyV noNum (an := jcommit.an) (args := [.pointer j,.slice la ln lc]) Tryz.func28 (by kernel_rfl) ((jcommit.eq j la ln lc w R).mpr h)
def jfresh.an : An := { wraps := [],loops := [(3,[(11,.inl .i64)])],joins := [],ranges := [] }
def jfresh.vc (j : Option Addr) (la : Option Addr) (ln : Nat) (lc : Nat) (w : World) (R : Ending → World → Prop) : Prop := ∀ b w1, New w (Obj.map #[] 0) b w1 → LoopP (fun (s : Int) (w' : World) (next : Int → World → Prop) ↦ br (decide (s < (↑ln : Int))) (onP la fun a ↦ ((0 : Int) ≤ s ∧ s < (↑ln : Int)) ∧ ∃ i i_1 s_1 b_1,
 Ld Tryz.prog 73 w' (Addr.add a (Int.toNat s * 4)) (Value.agg #[Value.int IntKind.i64 i,Value.int IntKind.i64 i_1,Value.string s_1,Value.bool b_1]) ∧ ∀ b_2 w1,New w' (Obj.cells #[Value.int
 IntKind.i64 0,Value.int IntKind.i64 0,Value.string (ByteArray.mk #[]),Value.bool false] 73) b_2 w1 → ∃ w1_1,St Tryz.prog 73 w1 (Addr.mk b_2 0 none) (Value.agg #[Value.int IntKind.i64 i,
 Value.int IntKind.i64 i_1,Value.string s_1,Value.bool b_1]) w1_1 ∧ onP j fun a ↦ ∃ m,Ld Tryz.prog 86 (World.drew w1_1) (Addr.add a 4) (Value.map m) ∧ ∃ i,Ld Tryz.prog 3
 (World.drew w1_1) (Addr.mk b_2 0 none) (Value.int IntKind.i64 i) ∧ ∃ i_2,Lk Tryz.prog 86 false (World.drew w1_1) (Value.map m) (Value.int IntKind.i64 i) (Value.int IntKind.i64 i_2) ∧ br
 (decide (i_2 = (0 : Int))) (∃ i,Ld Tryz.prog 3 (World.drew w1_1) (Addr.mk b_2 0 none) (Value.int IntKind.i64 i) ∧ ∃ i_3,Lk Tryz.prog 86 false (World.drew w1_1) (Value.map (some b))
 (Value.int IntKind.i64 i) (Value.int IntKind.i64 i_3) ∧ inR IntKind.i64 (i_3 + (1 : Int)) ∧ ∃ w1,MUp Tryz.prog 86 (World.drew w1_1) (Value.map (some b)) (Value.int IntKind.i64 i) (Value.int
 IntKind.i64 (i_3 + (1 : Int))) w1 ∧ inR IntKind.i64 (s + (1 : Int)) ∧ next (s + (1 : Int)) w1) (inR IntKind.i64 (s + (1 : Int)) ∧ next (s + (1 : Int)) (World.drew w1_1))) (CallV Tryz.prog 49
 [Value.map (some b)] w' fun e w' ↦ ∃ v,e = Ending.returned v ∧ CallV Tryz.prog 48 [v] w' fun e w' ↦ ∃ a l c,e = Ending.returned (Value.slice a l c) ∧ R (Ending.returned (Value.slice a l c))
 w')) (0 : Int) w1
theorem jfresh.eq (j : Option Addr) (la : Option Addr) (ln : Nat) (lc : Nat) (w : World) (R : Ending → World → Prop) : bodyV Tryz.prog jfresh.an Tryz.f55 [.pointer j,.slice la ln lc] w R = jfresh.vc j la ln lc w R := by kernel_rfl
theorem jfresh.ok (j : Option Addr) (la : Option Addr) (ln : Nat) (lc : Nat) (w : World) (R : Ending → World → Prop) (h : jfresh.vc j la ln lc w R) : Calls Tryz.prog 55 #[.pointer j,.slice la ln lc] w R :=
 calls_of_bodyV noNum (an := jfresh.an) (args := [.pointer j,.slice la ln lc]) Tryz.func55 (by kernel_rfl) ((jfresh.eq j la ln lc w R).mpr h)
def jwaiting.an : An := { wraps := [],loops := [],joins := [],ranges := [] }
def jwaiting.vc (j : Option Addr) (w : World) (R : Ending → World → Prop) : Prop := onP j fun a ↦ ∃ i,Ld Tryz.prog 3 w (Addr.add a 5) (Value.int IntKind.i64 i) ∧ R (Ending.returned (Value.int IntKind.i64 i)) w
theorem jwaiting.eq (j : Option Addr) (w : World) (R : Ending → World → Prop) : bodyV Tryz.prog jwaiting.an Tryz.f15 [.pointer j] w R = jwaiting.vc j w R := by kernel_rfl
theorem jwaiting.ok (j : Option Addr) (w : World) (R : Ending → World → Prop) (h : jwaiting.vc j w R) : Calls Tryz.prog 15 #[.pointer j] w R :=
 calls_of_bodyV noNum (an := jwaiting.an) (args := [.pointer j]) Tryz.func15 (by kernel_rfl) ((jwaiting.eq j w R).mpr h)
def jsync.an : An := { wraps := [],loops := [],joins := [],ranges := [] }
def jsync.vc (j : Option Addr) (w : World) (R : Ending → World → Prop) : Prop := onP j fun a ↦ ∃ p,Ld Tryz.prog 87 w (Addr.add a 1) (Value.pointer p) ∧ CallV Tryz.prog 46 [Value.pointer p] w fun e w' ↦ ∃ i,e = Ending.returned (Value.int IntKind.i64 i) ∧ br
 (!decide (i = (0 : Int))) (R (Ending.returned (Value.int IntKind.i64 190)) w') (onP j fun a ↦ ∃ p,Ld Tryz.prog 87 w' (Addr.add a 1) (Value.pointer p) ∧ CallV Tryz.prog 47
 [Value.pointer p] w' fun e w' ↦ ∃ i,e = Ending.returned (Value.int IntKind.i64 i) ∧ br (decide (i = (0 : Int))) (onP j fun a ↦ ∃ w1,St Tryz.prog 3 w' (Addr.add a 5) (Value.int IntKind.i64
 0) w1 ∧ R (Ending.returned (Value.int IntKind.i64 i)) w1) (R (Ending.returned (Value.int IntKind.i64 i)) w'))
theorem jsync.eq (j : Option Addr) (w : World) (R : Ending → World → Prop) : bodyV Tryz.prog jsync.an Tryz.f22 [.pointer j] w R = jsync.vc j w R := by kernel_rfl
theorem jsync.ok (j : Option Addr) (w : World) (R : Ending → World → Prop) (h : jsync.vc j w R) : Calls Tryz.prog 22 #[.pointer j] w R :=
 calls_of_bodyV noNum (an := jsync.an) (args := [.pointer j]) Tryz.func22 (by kernel_rfl) ((jsync.eq j w R).mpr h)
def fopen.an : An := { wraps := [],loops := [],joins := [],ranges := [] }
def fopen.vc (d : Option Addr) (name : ByteArray) (many : Int) (jv : Option Addr) (w : World) (R : Ending → World → Prop) : Prop := br (decide (many < (4 : Int))) (R (Ending.returned (Value.tuple #[Value.pointer none,Value.int IntKind.i64 1])) w) (br (decide ((64 : Int) < many)) (R (Ending.returned (Value.tuple #[Value.pointer
 none,Value.int IntKind.i64 1])) w) (∃ b,Eqv Tryz.prog BinOp.eql 96 (Operand.tmp 18) (Operand.const Value.nilFunc) w (Value.func (Fn.func 39) #[Value.pointer jv] #[]) Value.nilFunc b ∧ br b
 (R (Ending.returned (Value.tuple #[Value.pointer none,Value.int IntKind.i64 1])) w) (CallV Tryz.prog 67 [Value.pointer d,Value.string name] w fun e w' ↦ ∃ i,e = Ending.returned (Value.int
 IntKind.i64 i) ∧ br (decide (i < (0 : Int))) (CallV Tryz.prog 9 [Value.pointer d,Value.string name] w' fun e w' ↦ ∃ i,e = Ending.returned (Value.int IntKind.i64 i) ∧ br (!decide (i = (0 :
 Int))) (R (Ending.returned (Value.tuple #[Value.pointer none,Value.int IntKind.i64 i])) w') (CallV Tryz.prog 67 [Value.pointer d,Value.string name] w' fun e w' ↦ ∃ i,e = Ending.returned
 (Value.int IntKind.i64 i) ∧ inR IntKind.i64 (i + (8 : Int)) ∧ inR IntKind.i64 (i + (8 : Int) - (1 : Int)) ∧ (8 : Int) ≠ (0 : Int) ∧ inR IntKind.i64 (Int.tdiv (i + (8 : Int) - (1 : Int)) (8 : Int)) ∧ ∀
 b w1,New w' (Obj.cells #[Value.pointer d,Value.string name,Value.int IntKind.i64 many,Value.func (Fn.func 39) #[Value.pointer jv] #[],Value.slice none 0 0,Value.int IntKind.i64 0,Value.int
 IntKind.i64 (Int.tdiv (i + (8 : Int) - (1 : Int)) (8 : Int))] 134) b w1 → R (Ending.returned (Value.tuple #[Value.pointer (some (Addr.mk b 0 none)),Value.int IntKind.i64 0])) w1)) (CallV
 Tryz.prog 67 [Value.pointer d,Value.string name] w' fun e w' ↦ ∃ i,e = Ending.returned (Value.int IntKind.i64 i) ∧ inR IntKind.i64 (i + (8 : Int)) ∧ inR IntKind.i64 (i + (8 : Int) - (1 :
 Int)) ∧ (8 : Int) ≠ (0 : Int) ∧ inR IntKind.i64 (Int.tdiv (i + (8 : Int) - (1 : Int)) (8 : Int)) ∧ ∀ b w1,New w' (Obj.cells #[Value.pointer d,Value.string name,Value.int IntKind.i64 many,
 Value.func (Fn.func 39) #[Value.pointer jv] #[],Value.slice none 0 0,Value.int IntKind.i64 0,Value.int IntKind.i64 (Int.tdiv (i + (8 : Int) - (1 : Int)) (8 : Int))] 134) b w1 → R (Ending.returned
 (Value.tuple #[Value.pointer (some (Addr.mk b 0 none)),Value.int IntKind.i64 0])) w1))))
theorem fopen.eq (d : Option Addr) (name : ByteArray) (many : Int) (jv : Option Addr) (w : World) (R : Ending → World → Prop) : bodyV Tryz.prog fopen.an Tryz.f38 [.pointer d,.string name,.int .i64 many,(.func (.func 39) #[.pointer jv] #[])] w R = fopen.vc d name many jv w R := by kernel_rfl
theorem fopen.ok (d : Option Addr) (name : ByteArray) (many : Int) (jv : Option Addr) (w : World) (R : Ending → World → Prop) (h : fopen.vc d name many jv w R) : Calls Tryz.prog 38 #[.pointer d,.string name,.int .i64 many,(.func (.func 39) #[.pointer jv] #[])] w R :=
 calls_of_bodyV noNum (an := fopen.an) (args := [.pointer d,.string name,.int .i64 many,(.func (.func 39) #[.pointer jv] #[])]) Tryz.func38 (by kernel_rfl) ((fopen.eq d name many jv w R).mpr h)
def alive.an : An := { wraps := [],loops := [],joins := [],ranges := [] }
def alive.vc  (w : World) (R : Ending → World → Prop) : Prop := CallV Tryz.prog 7 [Value.int IntKind.i64 500] w fun e w' ↦ ∃ p,e = Ending.returned (Value.pointer p) ∧ ∃ b,Eqv Tryz.prog BinOp.eql 23 (Operand.tmp 10) (Operand.const (Value.pointer
 none)) w' (Value.pointer p) (Value.pointer none) b ∧ br b (R (Ending.returned (Value.bool false)) w') (CallV Tryz.prog 11 [Value.pointer p,Value.int IntKind.i64 4] w' fun e w' ↦ ∃ p_1 i,e =
 Ending.returned (Value.tuple #[Value.pointer p_1,Value.int IntKind.i64 i]) ∧ br (!decide (i = (0 : Int))) (R (Ending.returned (Value.bool false)) w') (∃ b,Eqv Tryz.prog BinOp.eql 34
 (Operand.tmp 20) (Operand.const (Value.pointer none)) w' (Value.pointer p_1) (Value.pointer none) b ∧ br b (R (Ending.returned (Value.bool false)) w') (∀ b w1,New w' (Obj.cells #[Value.int
 IntKind.i64 0,Value.int IntKind.i64 0,Value.string (ByteArray.mk #[(97 : UInt8)]),Value.bool false] 73) b w1 → CallV Tryz.prog 28 [Value.pointer p_1,Value.slice (some (Addr.mk b 0 none))
 1 1] w1 fun e w' ↦ ∃ i,e = Ending.returned (Value.int IntKind.i64 i) ∧ CallV Tryz.prog 22 [Value.pointer p_1] w' fun e w' ↦ ∃ i_1,e = Ending.returned (Value.int IntKind.i64 i_1) ∧ ∀ b w1,
 New w' (Obj.cells #[Value.int IntKind.i64 0,Value.int IntKind.i64 1,Value.string (ByteArray.mk #[(98 : UInt8)]),Value.bool false] 73) b w1 → CallV Tryz.prog 28 [Value.pointer p_1,
 Value.slice (some (Addr.mk b 0 none)) 1 1] w1 fun e w' ↦ ∃ i_2,e = Ending.returned (Value.int IntKind.i64 i_2) ∧ CallV Tryz.prog 29 [Value.pointer p,Value.int IntKind.i64 0,Value.slice
 none 0 0] w' fun e w' ↦ ∃ p,e = Ending.returned (Value.pointer p) ∧ ∃ b,Eqv Tryz.prog BinOp.eql 23 (Operand.tmp 35) (Operand.const (Value.pointer none)) w' (Value.pointer p) (Value.pointer
 none) b ∧ br b (R (Ending.returned (Value.bool false)) w') (CallV Tryz.prog 11 [Value.pointer p,Value.int IntKind.i64 4] w' fun e w' ↦ ∃ p i_3,e = Ending.returned (Value.tuple
 #[Value.pointer p,Value.int IntKind.i64 i_3]) ∧ br (decide (i = (0 : Int))) (br (decide (i_1 = (0 : Int))) (br (decide (i_3 = (0 : Int))) (∃ b,Eqv Tryz.prog BinOp.neq 34 (Operand.tmp 53)
 (Operand.const (Value.pointer none)) w' (Value.pointer p) (Value.pointer none) b ∧ br b (CallV Tryz.prog 14 [Value.pointer p] w' fun e w' ↦ ∃ a l c,e = Ending.returned (Value.slice a l c) ∧
 br (decide ((↑l : Int) = (1 : Int))) (CallV Tryz.prog 14 [Value.pointer p_1] w' fun e w' ↦ ∃ a l c, e = Ending.returned (Value.slice a l c) ∧ br (decide ((↑l : Int) = (2 : Int))) (CallV
 Tryz.prog 15 [Value.pointer p_1] w' fun e w' ↦ ∃ i,e = Ending.returned (Value.int IntKind.i64 i) ∧ R (Ending.returned (Value.bool (decide (i = (1 : Int))))) w') (R (Ending.returned
 (Value.bool false)) w')) (R (Ending.returned (Value.bool false)) w')) (R (Ending.returned (Value.bool false)) w')) (R (Ending.returned (Value.bool false)) w')) (R (Ending.returned (Value.bool false))
 w')) (R (Ending.returned (Value.bool false)) w')))))
theorem alive.eq  (w : World) (R : Ending → World → Prop) : bodyV Tryz.prog alive.an Tryz.f8 [] w R = alive.vc  w R := by kernel_rfl
theorem alive.ok  (w : World) (R : Ending → World → Prop) (h : alive.vc  w R) : Calls Tryz.prog 8 #[] w R :=
 calls_of_bodyV noNum (an := alive.an) (args := []) Tryz.func8 (by kernel_rfl) ((alive.eq  w R).mpr h)
def plain.an : An := { wraps := [],loops := [(3,[(3,.inr 3),(8,.inl .i64)])],joins := [],ranges := [] }
def plain.vc (la : Option Addr) (ln : Nat) (lc : Nat) (w : World) (R : Ending → World → Prop) : Prop := LoopP (fun (s : (Option Addr × Nat × Nat) × Int) (w' : World) (next : (Option Addr × Nat × Nat) × Int → World → Prop) ↦ br (decide (Prod.snd s < (↑ln : Int))) (onP la fun a ↦ ((0 : Int) ≤ Prod.snd s ∧
 Prod.snd s < (↑ln : Int)) ∧ ∃ i i_1 s_1 b, Ld Tryz.prog 73 w' (Addr.add a (Int.toNat (Prod.snd s) * 4)) (Value.agg #[Value.int IntKind.i64 i, Value.int IntKind.i64 i_1, Value.string s_1,
 Value.bool b]) ∧ ∀ b_1 w1,New w' (Obj.cells #[Value.int IntKind.i64 0,Value.int IntKind.i64 0,Value.string (ByteArray.mk #[]),Value.bool false] 73) b_1 w1 → ∃ w1_1,St Tryz.prog 73 w1
 (Addr.mk b_1 0 none) (Value.agg #[Value.int IntKind.i64 i,Value.int IntKind.i64 i_1,Value.string s_1,Value.bool b]) w1_1 ∧ ∃ i i_2 s_2 b,Ld Tryz.prog 73 w1_1 (Addr.mk b_1 0 none)
 (Value.agg #[Value.int IntKind.i64 i,Value.int IntKind.i64 i_2,Value.string s_2,Value.bool b]) ∧ ∀ b_2 w1,New w1_1 (Obj.cells #[Value.int IntKind.i64 i,Value.int IntKind.i64 i_2,Value.string
 s_2,Value.bool b] 98) b_2 w1 → ∃ a n m w1_2,App Tryz.prog #[38,38] 38 w1 (Value.slice (Prod.fst (Prod.fst s)) (Prod.fst (Prod.snd (Prod.fst s))) (Prod.snd (Prod.snd (Prod.fst s))))
 (Value.slice (some (Addr.mk b_2 0 none)) 1 1) (Value.slice a n m) w1_2 ∧ inR IntKind.i64 (Prod.snd s + (1 : Int)) ∧ next ((a,n,m),Prod.snd s + (1 : Int)) w1_2) (R (Ending.returned (Value.slice
 (Prod.fst (Prod.fst s)) (Prod.fst (Prod.snd (Prod.fst s))) (Prod.snd (Prod.snd (Prod.fst s))))) w')) ((none,0,0),(0 : Int)) w
theorem plain.eq (la : Option Addr) (ln : Nat) (lc : Nat) (w : World) (R : Ending → World → Prop) : bodyV Tryz.prog plain.an Tryz.f13 [.slice la ln lc] w R = plain.vc la ln lc w R := by kernel_rfl
theorem plain.ok (la : Option Addr) (ln : Nat) (lc : Nat) (w : World) (R : Ending → World → Prop) (h : plain.vc la ln lc w R) : Calls Tryz.prog 13 #[.slice la ln lc] w R :=
 calls_of_bodyV noNum (an := plain.an) (args := [.slice la ln lc]) Tryz.func13 (by kernel_rfl) ((plain.eq la ln lc w R).mpr h)
def rise.an : An := { wraps := [],loops := [(2,[(3,.inl .i64)])],joins := [],ranges := [] }
def rise.vc (la : Option Addr) (ln : Nat) (lc : Nat) (w : World) (R : Ending → World → Prop) : Prop := LoopP (fun (s : Int) (w' : World) (next : Int → World → Prop) ↦ br (decide (s < (↑ln : Int))) (inR IntKind.i64 (s - (1 : Int)) ∧ onP la fun a ↦ ((0 : Int) ≤ s - (1 : Int) ∧ s - (1 : Int) < (↑ln : Int))
 ∧ ∃ i i_1 s_1 b,Ld Tryz.prog 98 (World.drew w') (Addr.add a (Int.toNat (s - (1 : Int)) * 4)) (Value.agg #[Value.int IntKind.i64 i,Value.int IntKind.i64 i_1,Value.string s_1,Value.bool b])
 ∧ onP la fun a ↦ ((0 : Int) ≤ s ∧ s < (↑ln : Int)) ∧ ∃ i_2 i_3 s_2 b_1, Ld Tryz.prog 98 (World.drew w') (Addr.add a (Int.toNat s * 4)) (Value.agg #[Value.int IntKind.i64 i_2, Value.int
 IntKind.i64 i_3,Value.string s_2,Value.bool b_1]) ∧ CallV Tryz.prog 41 [Value.agg #[Value.int IntKind.i64 i,Value.int IntKind.i64 i_1,Value.string s_1,Value.bool b],Value.agg
 #[Value.int IntKind.i64 i_2,Value.int IntKind.i64 i_3,Value.string s_2,Value.bool b_1]] (World.drew w') fun e w' ↦ ∃ b,e = Ending.returned (Value.bool b) ∧ br (!b) (R (Ending.returned (Value.bool
 false)) w') (inR IntKind.i64 (s + (1 : Int)) ∧ next (s + (1 : Int)) w')) (R (Ending.returned (Value.bool true)) w')) (1 : Int) w
theorem rise.eq (la : Option Addr) (ln : Nat) (lc : Nat) (w : World) (R : Ending → World → Prop) : bodyV Tryz.prog rise.an Tryz.f12 [.slice la ln lc] w R = rise.vc la ln lc w R := by kernel_rfl
theorem rise.ok (la : Option Addr) (ln : Nat) (lc : Nat) (w : World) (R : Ending → World → Prop) (h : rise.vc la ln lc w R) : Calls Tryz.prog 12 #[.slice la ln lc] w R :=
 calls_of_bodyV noNum (an := rise.an) (args := [.slice la ln lc]) Tryz.func12 (by kernel_rfl) ((rise.eq la ln lc w R).mpr h)
def rahead.an : An := { wraps := [],loops := [],joins := [],ranges := [] }
def rahead.vc (a_Page : Int) (a_Slot : Int) (a_S : ByteArray) (a_Gone : Bool) (b_Page : Int) (b_Slot : Int) (b_S : ByteArray) (b_Gone : Bool) (w : World) (R : Ending → World → Prop) : Prop := ∀ b w1,New w (Obj.cells #[Value.int IntKind.i64 a_Page,Value.int IntKind.i64 a_Slot,Value.string a_S,Value.bool a_Gone] 98) b w1 → ∀ b_1 w1_1,New w1 (Obj.cells #[Value.int IntKind.i64 b_Page,
 Value.int IntKind.i64 b_Slot,Value.string b_S,Value.bool b_Gone] 98) b_1 w1_1 → ∃ i,Ld Tryz.prog 3 w1_1 (Addr.mk b 0 none) (Value.int IntKind.i64 i) ∧ ∃ i_1,Ld Tryz.prog 3 w1_1
 (Addr.mk b_1 0 none) (Value.int IntKind.i64 i_1) ∧ br (!decide (i = i_1)) (∃ i,Ld Tryz.prog 3 w1_1 (Addr.mk b 0 none) (Value.int IntKind.i64 i) ∧ ∃ i_2,Ld Tryz.prog 3 w1_1 (Addr.mk
 b_1 0 none) (Value.int IntKind.i64 i_2) ∧ R (Ending.returned (Value.bool (decide (i < i_2)))) w1_1) (∃ i,Ld Tryz.prog 3 w1_1 (Addr.mk b 1 none) (Value.int IntKind.i64 i) ∧ ∃ i_2,Ld
 Tryz.prog 3 w1_1 (Addr.mk b_1 1 none) (Value.int IntKind.i64 i_2) ∧ R (Ending.returned (Value.bool (decide (i < i_2)))) w1_1)
theorem rahead.eq (a_Page : Int) (a_Slot : Int) (a_S : ByteArray) (a_Gone : Bool) (b_Page : Int) (b_Slot : Int) (b_S : ByteArray) (b_Gone : Bool) (w : World) (R : Ending → World → Prop) : bodyV Tryz.prog rahead.an Tryz.f41 [.agg #[.int .i64 a_Page,.int .i64 a_Slot,.string a_S,.bool a_Gone],.agg #[.int .i64 b_Page,.int .i64 b_Slot,.string b_S,.bool b_Gone]] w R = rahead.vc a_Page a_Slot a_S a_Gone b_Page b_Slot b_S b_Gone w R := by kernel_rfl
theorem rahead.ok (a_Page : Int) (a_Slot : Int) (a_S : ByteArray) (a_Gone : Bool) (b_Page : Int) (b_Slot : Int) (b_S : ByteArray) (b_Gone : Bool) (w : World) (R : Ending → World → Prop) (h : rahead.vc a_Page a_Slot a_S a_Gone b_Page b_Slot b_S b_Gone w R) : Calls Tryz.prog 41 #[.agg #[.int .i64 a_Page,.int .i64 a_Slot,.string a_S,.bool a_Gone],.agg #[.int .i64 b_Page,.int .i64 b_Slot,.string b_S,.bool b_Gone]] w R :=
 calls_of_bodyV noNum (an := rahead.an) (args := [.agg #[.int .i64 a_Page,.int .i64 a_Slot,.string a_S,.bool a_Gone],.agg #[.int .i64 b_Page,.int .i64 b_Slot,.string b_S,.bool b_Gone]]) Tryz.func41 (by kernel_rfl) ((rahead.eq a_Page a_Slot a_S a_Gone b_Page b_Slot b_S b_Gone w R).mpr h)
def journalRaw.an : An := { wraps := [],loops := [(5,[(25,.inl .i64)]),(9,[(34,.inl .i64)])],joins := [(3,[(17,.inr 0)])],ranges := [] }
def journalRaw.vc (scripta : Option Addr) (scriptn : Nat) (scriptc : Nat) (w : World) (R : Ending → World → Prop) : Prop := CallV Tryz.prog 7 [Value.int IntKind.i64 300] w fun e w' ↦ ∃ p,e = Ending.returned (Value.pointer p) ∧ JoinP (fun s w' ↦ br s (∃ b,Eqv Tryz.prog BinOp.neq 23 (Operand.tmp 18)
 (Operand.const (Value.pointer none)) w' (Value.pointer p) (Value.pointer none) b ∧ br b (CallV Tryz.prog 8 [] w' fun e w' ↦ ∃ b,e = Ending.returned (Value.bool b) ∧ R (Ending.returned
 (Value.bool b)) w') (R (Ending.returned (Value.bool false)) w')) (∀ b w1,New w' (Obj.cells #[Value.string (ByteArray.mk #[(108 : UInt8),(111 : UInt8),(103 : UInt8)]),Value.string (ByteArray.mk
 #[(100 : UInt8), (97 : UInt8), (116 : UInt8), (97 : UInt8)])] 9) b w1 → LoopP (fun (s : Int) (w' : World) (next : Int → World → Prop) ↦ br (decide (s < (↑(2 : Nat) : Int))) (((0 : Int) ≤ s ∧ s < (↑(2
 : Nat) : Int)) ∧ ∃ s_1,Ld Tryz.prog 9 w' (Addr.add (Addr.mk b 0 none) (Int.toNat s * 1)) (Value.string s_1) ∧ CallV Tryz.prog 9 [Value.pointer p,Value.string s_1] w' fun e w' ↦ ∃
 i, e = Ending.returned (Value.int IntKind.i64 i) ∧ LoopP (fun (s_2 : Int) (w' : World) (next_1 : Int → World → Prop) ↦ br (decide (s_2 < (↑scriptn : Int))) (onP scripta fun a ↦ ((0 : Int) ≤ s_2 ∧ s_2
 < (↑scriptn : Int)) ∧ ∃ i i_1 s s_3 a_1 l c a_2 l_1 c_1, Ld Tryz.prog 32 w' (Addr.add a (Int.toNat s_2 * 6)) (Value.agg #[Value.int IntKind.i64 i, Value.int IntKind.i64 i_1, Value.string s,
 Value.string s_3,Value.slice a_1 l c,Value.slice a_2 l_1 c_1]) ∧ ∀ b w1,New w' (Obj.cells #[Value.int IntKind.i64 0,Value.int IntKind.i64 0,Value.string (ByteArray.mk #[]),Value.string
 (ByteArray.mk #[]),Value.slice none 0 0,Value.slice none 0 0] 32) b w1 → ∃ w1_1,St Tryz.prog 32 w1 (Addr.mk b 0 none) (Value.agg #[Value.int IntKind.i64 i,Value.int IntKind.i64 i_1,
 Value.string s,Value.string s_3,Value.slice a_1 l c,Value.slice a_2 l_1 c_1]) w1_1 ∧ ∃ i,Ld Tryz.prog 3 w1_1 (Addr.mk b 0 none) (Value.int IntKind.i64 i) ∧ br (decide (i = (1 : Int))) (∃
 s,Ld Tryz.prog 9 w1_1 (Addr.mk b 2 none) (Value.string s) ∧ br (decide (s = s_1)) (∃ i,Ld Tryz.prog 3 w1_1 (Addr.mk b 1 none) (Value.int IntKind.i64 i) ∧ ∃ a l c,Ld
 Tryz.prog 29 w1_1 (Addr.mk b 4 none) (Value.slice a l c) ∧ CallV Tryz.prog 10 [Value.pointer p,Value.string s_1,Value.int IntKind.i64 i,Value.slice a l c] w1_1 fun e w' ↦ ∃ i,e =
 Ending.returned (Value.int IntKind.i64 i) ∧ inR IntKind.i64 (s_2 + (1 : Int)) ∧ next_1 (s_2 + (1 : Int)) w') (br (decide (s_1 = ByteArray.mk #[(108 : UInt8),(111 : UInt8),(103 : UInt8)])) (∃ i,Ld
 Tryz.prog 3 w1_1 (Addr.mk b 1 none) (Value.int IntKind.i64 i) ∧ ∃ a l c,Ld Tryz.prog 29 w1_1 (Addr.mk b 4 none) (Value.slice a l c) ∧ CallV Tryz.prog 10 [Value.pointer p,
 Value.string s_1,Value.int IntKind.i64 i,Value.slice a l c] w1_1 fun e w' ↦ ∃ i,e = Ending.returned (Value.int IntKind.i64 i) ∧ inR IntKind.i64 (s_2 + (1 : Int)) ∧ next_1 (s_2 + (1 : Int)) w') (inR
 IntKind.i64 (s_2 + (1 : Int)) ∧ next_1 (s_2 + (1 : Int)) w1_1))) (inR IntKind.i64 (s_2 + (1 : Int)) ∧ next_1 (s_2 + (1 : Int)) w1_1)) (inR IntKind.i64 (s + (1 : Int)) ∧ next (s + (1 : Int)) w')) (0 :
 Int) w') (CallV Tryz.prog 11 [Value.pointer p,Value.int IntKind.i64 4] w' fun e w' ↦ ∃ p i,e = Ending.returned (Value.tuple #[Value.pointer p,Value.int IntKind.i64 i]) ∧ br (!decide (i =
 (0 : Int))) (CallV Tryz.prog 8 [] w' fun e w' ↦ ∃ b,e = Ending.returned (Value.bool b) ∧ br b (∃ b,Eqv Tryz.prog BinOp.eql 34 (Operand.tmp 69) (Operand.const (Value.pointer none))
 w' (Value.pointer p) (Value.pointer none) b ∧ R (Ending.returned (Value.bool b)) w') (R (Ending.returned (Value.bool false)) w')) (CallV Tryz.prog 8 [] w' fun e w' ↦ ∃ b,e = Ending.returned
 (Value.bool b) ∧ br b (∃ b,Eqv Tryz.prog BinOp.neq 34 (Operand.tmp 74) (Operand.const (Value.pointer none)) w' (Value.pointer p) (Value.pointer none) b ∧ br b (CallV Tryz.prog 14
 [Value.pointer p] w' fun e w' ↦ ∃ a l c,e = Ending.returned (Value.slice a l c) ∧ CallV Tryz.prog 13 [Value.slice a l c] w' fun e w' ↦ ∃ a l c,e = Ending.returned (Value.slice a l c) ∧
 CallV Tryz.prog 12 [Value.slice a l c] w' fun e w' ↦ ∃ b,e = Ending.returned (Value.bool b) ∧ br b (CallV Tryz.prog 15 [Value.pointer p] w' fun e w' ↦ ∃ i,e = Ending.returned
 (Value.int IntKind.i64 i) ∧ R (Ending.returned (Value.bool (decide (i = (0 : Int))))) w') (R (Ending.returned (Value.bool false)) w')) (R (Ending.returned (Value.bool false)) w')) (R (Ending.returned
 (Value.bool false)) w')))) (0 : Int) w1)) fun (J : Bool → World → Prop) ↦ ∃ b,Eqv Tryz.prog BinOp.eql 23 (Operand.tmp 11) (Operand.const (Value.pointer none)) w' (Value.pointer p)
 (Value.pointer none) b ∧ br b (J true w') (J (decide ((100 : Int) < (↑scriptn : Int))) w')
theorem journalRaw.eq (scripta : Option Addr) (scriptn : Nat) (scriptc : Nat) (w : World) (R : Ending → World → Prop) : bodyV Tryz.prog journalRaw.an Tryz.f3 [.slice scripta scriptn scriptc] w R = journalRaw.vc scripta scriptn scriptc w R := by kernel_rfl
theorem journalRaw.ok (scripta : Option Addr) (scriptn : Nat) (scriptc : Nat) (w : World) (R : Ending → World → Prop) (h : journalRaw.vc scripta scriptn scriptc w R) : Calls Tryz.prog 3 #[.slice scripta scriptn scriptc] w R :=
 calls_of_bodyV noNum (an := journalRaw.an) (args := [.slice scripta scriptn scriptc]) Tryz.func3 (by kernel_rfl) ((journalRaw.eq scripta scriptn scriptc w R).mpr h)
end Go.Proofs.YtdeebigmpffnbaaGreat
