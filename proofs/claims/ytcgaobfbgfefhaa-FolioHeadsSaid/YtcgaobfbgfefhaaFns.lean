/- Of each function the statement that the calculus reckons, printed by a program, and that it is that statement. -/
import Derived.Test.YtcgaobfbgfefhaaVcCode
import Derived.Test.YtcgaobfbgfefhaaChecked
set_option linter.unusedVariables false
set_option maxRecDepth 100000
namespace Go.Proofs.Ytcgaobfbgfefhaa
open Go Go.Vc

/-- no function bears the name that the model takes apart -/
theorem noNum : NoNum Go.Proofs.Try.prog := by
  have h : Go.Proofs.Try.prog.funcs.toList.all (fun fn => !(fn.name == "runtime.NumGoroutine")) = true := by kernel_rfl
  intro f fn hf
  have := List.all_eq_true.1 h fn (by have := Array.mem_of_getElem? hf; simpa using this)
  simpa using this

/-- incunable/folio.named -/
def named.an : An := { wraps := [], loops := [], joins := [] }
def named.vc (n : Int) (w : World) (R : Ending → World → Prop) : Prop :=
  br (decide ((1 : Int) ≤ n)) (R (Ending.returned (Value.bool (decide (n ≤ (4000 : Int))))) w) (R (Ending.returned (Value.bool false)) w)
theorem named.eq (n : Int) (w : World) (R : Ending → World → Prop) : bodyV Go.Proofs.Try.prog named.an Go.Proofs.Try.f32 [.int .i64 n] w R = named.vc n w R := by kernel_rfl
theorem named.ok (n : Int) (w : World) (R : Ending → World → Prop) (h : named.vc n w R) : Calls Go.Proofs.Try.prog 32 #[.int .i64 n] w R :=
  calls_of_bodyV noNum (an := named.an) (args := [.int .i64 n]) Go.Proofs.Try.func32 (by kernel_rfl) ((named.eq n w R).mpr h)

/-- incunable/folio.Right -/
def right.an : An := { wraps := [], loops := [], joins := [] }
def right.vc (r_Id : Int) (r_Parent : Int) (r_Kind : Int) (r_Name : Int) (r_Span_From : Int) (r_Span_To : Int) (r_Text : ByteArray) (r_Attrsa : Option Addr) (r_Attrsn : Nat) (r_Attrsc : Nat) (w : World) (R : Ending → World → Prop) : Prop :=
  ∀ (b : Nat) (w1 : World),
  New w
  (Obj.cells
  #[Value.int IntKind.i64 r_Id, Value.int IntKind.i64 r_Parent, Value.int IntKind.i64 r_Kind, Value.int IntKind.i64 r_Name, Value.int IntKind.i64 r_Span_From, Value.int IntKind.i64 r_Span_To,
  Value.string r_Text, Value.slice r_Attrsa r_Attrsn r_Attrsc]
  (34 : Nat))
  b w1 →
  ∃ (i : Int),
  ∃ (i_1 : Int),
  Ld Go.Proofs.Try.prog (31 : Nat) w1 (Addr.mk b (4 : Nat) none) (Value.agg #[Value.int IntKind.i64 i, Value.int IntKind.i64 i_1]) ∧
  ∀ (b_1 : Nat) (w1_1 : World),
  New w1 (Obj.cells #[Value.int IntKind.i64 (0 : Int), Value.int IntKind.i64 (0 : Int)] (31 : Nat)) b_1 w1_1 →
  ∃ (w1 : World),
  St Go.Proofs.Try.prog (31 : Nat) w1_1 (Addr.mk b_1 (0 : Nat) none) (Value.agg #[Value.int IntKind.i64 i, Value.int IntKind.i64 i_1]) w1 ∧
  ∃ (i : Int),
  Ld Go.Proofs.Try.prog (3 : Nat) w1 (Addr.mk b (0 : Nat) none) (Value.int IntKind.i64 i) ∧
  br (decide (i < (1 : Int))) (R (Ending.returned (Value.bool false)) w1)
  (∃ (i : Int),
  Ld Go.Proofs.Try.prog (3 : Nat) w1 (Addr.mk b (0 : Nat) none) (Value.int IntKind.i64 i) ∧
  br (decide ((2147483647 : Int) < i)) (R (Ending.returned (Value.bool false)) w1)
  (∃ (i : Int),
  Ld Go.Proofs.Try.prog (3 : Nat) w1 (Addr.mk b (1 : Nat) none) (Value.int IntKind.i64 i) ∧
  br (decide (i < (0 : Int))) (R (Ending.returned (Value.bool false)) w1)
  (∃ (i : Int),
  Ld Go.Proofs.Try.prog (3 : Nat) w1 (Addr.mk b (1 : Nat) none) (Value.int IntKind.i64 i) ∧
  br (decide ((2147483647 : Int) < i)) (R (Ending.returned (Value.bool false)) w1)
  (∃ (i : Int),
  Ld Go.Proofs.Try.prog (3 : Nat) w1 (Addr.mk b_1 (0 : Nat) none) (Value.int IntKind.i64 i) ∧
  br (decide (i < (0 : Int))) (R (Ending.returned (Value.bool false)) w1)
  (∃ (i : Int),
  Ld Go.Proofs.Try.prog (3 : Nat) w1 (Addr.mk b_1 (0 : Nat) none) (Value.int IntKind.i64 i) ∧
  ∃ (i_2 : Int),
  Ld Go.Proofs.Try.prog (3 : Nat) w1 (Addr.mk b_1 (1 : Nat) none) (Value.int IntKind.i64 i_2) ∧
  br (decide (i_2 ≤ i)) (R (Ending.returned (Value.bool false)) w1)
  (∃ (i : Int),
  Ld Go.Proofs.Try.prog (3 : Nat) w1 (Addr.mk b_1 (1 : Nat) none) (Value.int IntKind.i64 i) ∧
  br (decide ((4611686018427387904 : Int) < i)) (R (Ending.returned (Value.bool false)) w1)
  (∃ (i : Int),
  Ld Go.Proofs.Try.prog (3 : Nat) w1 (Addr.mk b (2 : Nat) none) (Value.int IntKind.i64 i) ∧
  br (decide (i = (1 : Int)))
  (∃ (i : Int),
  ∃ (i_3 : Int),
  ∃ (i_4 : Int),
  ∃ (i_5 : Int),
  ∃ (i_6 : Int),
  ∃ (i_7 : Int),
  ∃ (s : ByteArray),
  ∃ (a : Option Addr),
  ∃ (l : Nat),
  ∃ (c : Nat),
  Ld Go.Proofs.Try.prog (34 : Nat) w1 (Addr.mk b (0 : Nat) none)
  (Value.agg
  #[Value.int IntKind.i64 i, Value.int IntKind.i64 i_3, Value.int IntKind.i64 i_4,
  Value.int IntKind.i64 i_5, Value.int IntKind.i64 i_6, Value.int IntKind.i64 i_7, Value.string s,
  Value.slice a l c]) ∧
  CallV Go.Proofs.Try.prog (26 : Nat)
  [Value.agg
  #[Value.int IntKind.i64 i, Value.int IntKind.i64 i_3, Value.int IntKind.i64 i_4,
  Value.int IntKind.i64 i_5, Value.int IntKind.i64 i_6, Value.int IntKind.i64 i_7, Value.string s,
  Value.slice a l c]]
  w1 fun (e : Ending) (w' : World) ↦
  ∃ (b : Bool), e = Ending.returned (Value.bool b) ∧ R (Ending.returned (Value.bool b)) w')
  (br (decide (i = (2 : Int)))
  (∃ (i : Int),
  Ld Go.Proofs.Try.prog (3 : Nat) w1 (Addr.mk b (3 : Nat) none) (Value.int IntKind.i64 i) ∧
  br (decide (i = (0 : Int)))
  (∃ (a : Option Addr),
  ∃ (l : Nat),
  ∃ (c : Nat),
  Ld Go.Proofs.Try.prog (32 : Nat) w1 (Addr.mk b (7 : Nat) none) (Value.slice a l c) ∧
  br (decide ((↑l : Int) = (0 : Int)))
  (∃ (s : ByteArray),
  Ld Go.Proofs.Try.prog (9 : Nat) w1 (Addr.mk b (6 : Nat) none) (Value.string s) ∧
  R (Ending.returned (Value.bool (decide ((↑(ByteArray.size s) : Int) ≤ (1500 : Int))))) w1)
  (R (Ending.returned (Value.bool false)) w1))
  (R (Ending.returned (Value.bool false)) w1))
  (R (Ending.returned (Value.bool false)) w1)))))))))
theorem right.eq (r_Id : Int) (r_Parent : Int) (r_Kind : Int) (r_Name : Int) (r_Span_From : Int) (r_Span_To : Int) (r_Text : ByteArray) (r_Attrsa : Option Addr) (r_Attrsn : Nat) (r_Attrsc : Nat) (w : World) (R : Ending → World → Prop) : bodyV Go.Proofs.Try.prog right.an Go.Proofs.Try.f14 [.agg #[.int .i64 r_Id, .int .i64 r_Parent, .int .i64 r_Kind, .int .i64 r_Name, .int .i64 r_Span_From, .int .i64 r_Span_To, .string r_Text, .slice r_Attrsa r_Attrsn r_Attrsc]] w R = right.vc r_Id r_Parent r_Kind r_Name r_Span_From r_Span_To r_Text r_Attrsa r_Attrsn r_Attrsc w R := by kernel_rfl
theorem right.ok (r_Id : Int) (r_Parent : Int) (r_Kind : Int) (r_Name : Int) (r_Span_From : Int) (r_Span_To : Int) (r_Text : ByteArray) (r_Attrsa : Option Addr) (r_Attrsn : Nat) (r_Attrsc : Nat) (w : World) (R : Ending → World → Prop) (h : right.vc r_Id r_Parent r_Kind r_Name r_Span_From r_Span_To r_Text r_Attrsa r_Attrsn r_Attrsc w R) : Calls Go.Proofs.Try.prog 14 #[.agg #[.int .i64 r_Id, .int .i64 r_Parent, .int .i64 r_Kind, .int .i64 r_Name, .int .i64 r_Span_From, .int .i64 r_Span_To, .string r_Text, .slice r_Attrsa r_Attrsn r_Attrsc]] w R :=
  calls_of_bodyV noNum (an := right.an) (args := [.agg #[.int .i64 r_Id, .int .i64 r_Parent, .int .i64 r_Kind, .int .i64 r_Name, .int .i64 r_Span_From, .int .i64 r_Span_To, .string r_Text, .slice r_Attrsa r_Attrsn r_Attrsc]]) Go.Proofs.Try.func14 (by kernel_rfl) ((right.eq r_Id r_Parent r_Kind r_Name r_Span_From r_Span_To r_Text r_Attrsa r_Attrsn r_Attrsc w R).mpr h)

/-- (incunable/folio.Record).element -/
def element.an : An := { wraps := [], loops := [(3, [(10, .inl .i64)])], joins := [] }
def element.vc (r_Id : Int) (r_Parent : Int) (r_Kind : Int) (r_Name : Int) (r_Span_From : Int) (r_Span_To : Int) (r_Text : ByteArray) (r_Attrsa : Option Addr) (r_Attrsn : Nat) (r_Attrsc : Nat) (w : World) (R : Ending → World → Prop) : Prop :=
  ∀ (b : Nat) (w1 : World),
  New w
  (Obj.cells
  #[Value.int IntKind.i64 r_Id, Value.int IntKind.i64 r_Parent, Value.int IntKind.i64 r_Kind, Value.int IntKind.i64 r_Name, Value.int IntKind.i64 r_Span_From, Value.int IntKind.i64 r_Span_To,
  Value.string r_Text, Value.slice r_Attrsa r_Attrsn r_Attrsc]
  (34 : Nat))
  b w1 →
  ∀ (b_1 : Nat) (w1_1 : World),
  New w1 (Obj.map #[] (0 : Nat)) b_1 w1_1 →
  ∃ (a : Option Addr),
  ∃ (l : Nat),
  ∃ (c : Nat),
  Ld Go.Proofs.Try.prog (32 : Nat) w1_1 (Addr.mk b (7 : Nat) none) (Value.slice a l c) ∧
  LoopP
  (fun (s : Int) (w' : World) (next : Int → World → Prop) ↦
  br (decide (s < (↑l : Int)))
  (onP a fun (a : Addr) ↦
  ((0 : Int) ≤ s ∧ s < (↑l : Int)) ∧
  ∃ (i : Int),
  ∃ (s_1 : ByteArray),
  Ld Go.Proofs.Try.prog (58 : Nat) w' (Addr.add a (Int.toNat s * (2 : Nat))) (Value.agg #[Value.int IntKind.i64 i, Value.string s_1]) ∧
  ∀ (b : Nat) (w1 : World),
  New w' (Obj.cells #[Value.int IntKind.i64 (0 : Int), Value.string (ByteArray.mk #[])] (58 : Nat)) b w1 →
  ∃ (w1_2 : World),
  St Go.Proofs.Try.prog (58 : Nat) w1 (Addr.mk b (0 : Nat) none) (Value.agg #[Value.int IntKind.i64 i, Value.string s_1]) w1_2 ∧
  ∃ (i : Int),
  Ld Go.Proofs.Try.prog (3 : Nat) w1_2 (Addr.mk b (0 : Nat) none) (Value.int IntKind.i64 i) ∧
  CallV Go.Proofs.Try.prog (32 : Nat) [Value.int IntKind.i64 i] w1_2 fun (e : Ending) (w' : World) ↦
  ∃ (b_2 : Bool),
  e = Ending.returned (Value.bool b_2) ∧
  br (!b_2) (R (Ending.returned (Value.bool false)) w')
  (∃ (i : Int),
  Ld Go.Proofs.Try.prog (3 : Nat) w' (Addr.mk b (0 : Nat) none) (Value.int IntKind.i64 i) ∧
  ∃ (i_1 : Int),
  Lk Go.Proofs.Try.prog (70 : Nat) false w' (Value.map (some b_1)) (Value.int IntKind.i64 i) (Value.int IntKind.i64 i_1) ∧
  br (decide ((0 : Int) < i_1)) (R (Ending.returned (Value.bool false)) w')
  (∃ (s_2 : ByteArray),
  Ld Go.Proofs.Try.prog (9 : Nat) w' (Addr.mk b (1 : Nat) none) (Value.string s_2) ∧
  br (decide ((1500 : Int) < (↑(ByteArray.size s_2) : Int))) (R (Ending.returned (Value.bool false)) w')
  (∃ (i : Int),
  Ld Go.Proofs.Try.prog (3 : Nat) w' (Addr.mk b (0 : Nat) none) (Value.int IntKind.i64 i) ∧
  ∃ (i_2 : Int),
  Lk Go.Proofs.Try.prog (70 : Nat) false w' (Value.map (some b_1)) (Value.int IntKind.i64 i) (Value.int IntKind.i64 i_2) ∧
  inR IntKind.i64 (i_2 + (1 : Int)) ∧
  ∃ (w1 : World),
  MUp Go.Proofs.Try.prog (70 : Nat) w' (Value.map (some b_1)) (Value.int IntKind.i64 i)
  (Value.int IntKind.i64 (i_2 + (1 : Int))) w1 ∧
  inR IntKind.i64 (s + (1 : Int)) ∧ next (s + (1 : Int)) w1))))
  (∃ (i : Int),
  Ld Go.Proofs.Try.prog (3 : Nat) w' (Addr.mk b (3 : Nat) none) (Value.int IntKind.i64 i) ∧
  CallV Go.Proofs.Try.prog (32 : Nat) [Value.int IntKind.i64 i] w' fun (e : Ending) (w' : World) ↦
  ∃ (b_2 : Bool),
  e = Ending.returned (Value.bool b_2) ∧
  br b_2
  (∃ (s : ByteArray),
  Ld Go.Proofs.Try.prog (9 : Nat) w' (Addr.mk b (6 : Nat) none) (Value.string s) ∧
  br (decide (s = ByteArray.mk #[]))
  (∃ (a : Option Addr),
  ∃ (l : Nat),
  ∃ (c : Nat),
  Ld Go.Proofs.Try.prog (32 : Nat) w' (Addr.mk b (7 : Nat) none) (Value.slice a l c) ∧ R (Ending.returned (Value.bool (decide ((↑l : Int) ≤ (20 : Int))))) w')
  (R (Ending.returned (Value.bool false)) w'))
  (R (Ending.returned (Value.bool false)) w')))
  (0 : Int) w1_1
theorem element.eq (r_Id : Int) (r_Parent : Int) (r_Kind : Int) (r_Name : Int) (r_Span_From : Int) (r_Span_To : Int) (r_Text : ByteArray) (r_Attrsa : Option Addr) (r_Attrsn : Nat) (r_Attrsc : Nat) (w : World) (R : Ending → World → Prop) : bodyV Go.Proofs.Try.prog element.an Go.Proofs.Try.f26 [.agg #[.int .i64 r_Id, .int .i64 r_Parent, .int .i64 r_Kind, .int .i64 r_Name, .int .i64 r_Span_From, .int .i64 r_Span_To, .string r_Text, .slice r_Attrsa r_Attrsn r_Attrsc]] w R = element.vc r_Id r_Parent r_Kind r_Name r_Span_From r_Span_To r_Text r_Attrsa r_Attrsn r_Attrsc w R := by kernel_rfl
theorem element.ok (r_Id : Int) (r_Parent : Int) (r_Kind : Int) (r_Name : Int) (r_Span_From : Int) (r_Span_To : Int) (r_Text : ByteArray) (r_Attrsa : Option Addr) (r_Attrsn : Nat) (r_Attrsc : Nat) (w : World) (R : Ending → World → Prop) (h : element.vc r_Id r_Parent r_Kind r_Name r_Span_From r_Span_To r_Text r_Attrsa r_Attrsn r_Attrsc w R) : Calls Go.Proofs.Try.prog 26 #[.agg #[.int .i64 r_Id, .int .i64 r_Parent, .int .i64 r_Kind, .int .i64 r_Name, .int .i64 r_Span_From, .int .i64 r_Span_To, .string r_Text, .slice r_Attrsa r_Attrsn r_Attrsc]] w R :=
  calls_of_bodyV noNum (an := element.an) (args := [.agg #[.int .i64 r_Id, .int .i64 r_Parent, .int .i64 r_Kind, .int .i64 r_Name, .int .i64 r_Span_From, .int .i64 r_Span_To, .string r_Text, .slice r_Attrsa r_Attrsn r_Attrsc]]) Go.Proofs.Try.func26 (by kernel_rfl) ((element.eq r_Id r_Parent r_Kind r_Name r_Span_From r_Span_To r_Text r_Attrsa r_Attrsn r_Attrsc w R).mpr h)

/-- incunable/folio.lay -/
def lay.an : An := { wraps := [], loops := [(2, [(0, .inr 3), (10, .inl .i64)]), (5, [(0, .inr 3), (7, .inl .i64)])], joins := [] }
def lay.vc (ba : Option Addr) (bn : Nat) (bc : Nat) (la : Option Addr) (ln : Nat) (lc : Nat) (w : World) (R : Ending → World → Prop) : Prop :=
  LoopP
  (fun (s : (Option Addr × Nat × Nat) × Int) (w' : World) (next : (Option Addr × Nat × Nat) × Int → World → Prop) ↦
  br (decide (Prod.snd s < (↑ln : Int)))
  (onP la fun (a : Addr) ↦
  ((0 : Int) ≤ Prod.snd s ∧ Prod.snd s < (↑ln : Int)) ∧
  ∃ (i : Int),
  ∃ (i_1 : Int),
  Ld Go.Proofs.Try.prog (57 : Nat) w' (Addr.add a (Int.toNat (Prod.snd s) * (2 : Nat))) (Value.agg #[Value.int IntKind.i64 i, Value.int IntKind.i64 i_1]) ∧
  ∀ (b : Nat) (w1 : World),
  New w' (Obj.cells #[Value.int IntKind.i64 (0 : Int), Value.int IntKind.i64 (0 : Int)] (57 : Nat)) b w1 →
  ∃ (w1_1 : World),
  St Go.Proofs.Try.prog (57 : Nat) w1 (Addr.mk b (0 : Nat) none) (Value.agg #[Value.int IntKind.i64 i, Value.int IntKind.i64 i_1]) w1_1 ∧
  ∃ (i : Int),
  Ld Go.Proofs.Try.prog (3 : Nat) w1_1 (Addr.mk b (1 : Nat) none) (Value.int IntKind.i64 i) ∧
  inR IntKind.i64 (i - (1 : Int)) ∧
  LoopP
  (fun (s_1 : (Option Addr × Nat × Nat) × Int) (w' : World) (next_1 : (Option Addr × Nat × Nat) × Int → World → Prop) ↦
  br (decide ((0 : Int) ≤ Prod.snd s_1))
  (∃ (i : Int),
  Ld Go.Proofs.Try.prog (3 : Nat) w' (Addr.mk b (0 : Nat) none) (Value.int IntKind.i64 i) ∧
  inR IntKind.i64 ((8 : Int) * Prod.snd s_1) ∧
  (0 : Int) ≤ (8 : Int) * Prod.snd s_1 ∧
  ∀ (b : Nat) (w1 : World),
  New w'
  (Obj.cells
  #[Value.int IntKind.u8 (IntKind.wrap IntKind.u8 (Int.fdiv i ((2 : Int) ^ min (Int.toNat ((8 : Int) * Prod.snd s_1)) (IntKind.bits IntKind.i64))))]
  (5 : Nat))
  b w1 →
  ∃ (a : Option Addr),
  ∃ (n : Nat),
  ∃ (m : Nat),
  ∃ (w1_2 : World),
  App Go.Proofs.Try.prog #[(53 : Nat), (53 : Nat)] (53 : Nat) w1
  (Value.slice (Prod.fst (Prod.fst s_1)) (Prod.fst (Prod.snd (Prod.fst s_1))) (Prod.snd (Prod.snd (Prod.fst s_1))))
  (Value.slice (some (Addr.mk b (0 : Nat) none)) (1 : Nat) (1 : Nat)) (Value.slice a n m) w1_2 ∧
  inR IntKind.i64 (Prod.snd s_1 - (1 : Int)) ∧ next_1 ((a, n, m), Prod.snd s_1 - (1 : Int)) w1_2)
  (inR IntKind.i64 (Prod.snd s + (1 : Int)) ∧
  next ((Prod.fst (Prod.fst s_1), Prod.fst (Prod.snd (Prod.fst s_1)), Prod.snd (Prod.snd (Prod.fst s_1))), Prod.snd s + (1 : Int)) w'))
  ((Prod.fst (Prod.fst s), Prod.fst (Prod.snd (Prod.fst s)), Prod.snd (Prod.snd (Prod.fst s))), i - (1 : Int)) w1_1)
  (R (Ending.returned (Value.slice (Prod.fst (Prod.fst s)) (Prod.fst (Prod.snd (Prod.fst s))) (Prod.snd (Prod.snd (Prod.fst s))))) w'))
  ((ba, bn, bc), (0 : Int)) w
theorem lay.eq (ba : Option Addr) (bn : Nat) (bc : Nat) (la : Option Addr) (ln : Nat) (lc : Nat) (w : World) (R : Ending → World → Prop) : bodyV Go.Proofs.Try.prog lay.an Go.Proofs.Try.f24 [.slice ba bn bc, .slice la ln lc] w R = lay.vc ba bn bc la ln lc w R := by kernel_rfl
theorem lay.ok (ba : Option Addr) (bn : Nat) (bc : Nat) (la : Option Addr) (ln : Nat) (lc : Nat) (w : World) (R : Ending → World → Prop) (h : lay.vc ba bn bc la ln lc w R) : Calls Go.Proofs.Try.prog 24 #[.slice ba bn bc, .slice la ln lc] w R :=
  calls_of_bodyV noNum (an := lay.an) (args := [.slice ba bn bc, .slice la ln lc]) Go.Proofs.Try.func24 (by kernel_rfl) ((lay.eq ba bn bc la ln lc w R).mpr h)

/-- (incunable/folio.Record).whole -/
def whole.an : An := { wraps := [], loops := [(4, [(3, .inr 3), (45, .inl .i64)])], joins := [(3, [(3, .inr 3)])] }
def whole.vc (r_Id : Int) (r_Parent : Int) (r_Kind : Int) (r_Name : Int) (r_Span_From : Int) (r_Span_To : Int) (r_Text : ByteArray) (r_Attrsa : Option Addr) (r_Attrsn : Nat) (r_Attrsc : Nat) (w : World) (R : Ending → World → Prop) : Prop :=
  ∀ (b : Nat) (w1 : World),
  New w
  (Obj.cells
  #[Value.int IntKind.i64 r_Id, Value.int IntKind.i64 r_Parent, Value.int IntKind.i64 r_Kind, Value.int IntKind.i64 r_Name, Value.int IntKind.i64 r_Span_From, Value.int IntKind.i64 r_Span_To,
  Value.string r_Text, Value.slice r_Attrsa r_Attrsn r_Attrsc]
  (34 : Nat))
  b w1 →
  ∃ (i : Int),
  Ld Go.Proofs.Try.prog (3 : Nat) w1 (Addr.mk b (0 : Nat) none) (Value.int IntKind.i64 i) ∧
  ∃ (i_1 : Int),
  Ld Go.Proofs.Try.prog (3 : Nat) w1 (Addr.mk b (1 : Nat) none) (Value.int IntKind.i64 i_1) ∧
  ∃ (i_2 : Int),
  Ld Go.Proofs.Try.prog (3 : Nat) w1 (Addr.mk b (4 : Nat) none) (Value.int IntKind.i64 i_2) ∧
  ∃ (i_3 : Int),
  Ld Go.Proofs.Try.prog (3 : Nat) w1 (Addr.add (Addr.mk b (4 : Nat) none) (1 : Nat)) (Value.int IntKind.i64 i_3) ∧
  ∃ (i_4 : Int),
  Ld Go.Proofs.Try.prog (3 : Nat) w1 (Addr.mk b (2 : Nat) none) (Value.int IntKind.i64 i_4) ∧
  ∃ (i_5 : Int),
  Ld Go.Proofs.Try.prog (3 : Nat) w1 (Addr.mk b (3 : Nat) none) (Value.int IntKind.i64 i_5) ∧
  ∃ (s : ByteArray),
  Ld Go.Proofs.Try.prog (9 : Nat) w1 (Addr.mk b (6 : Nat) none) (Value.string s) ∧
  ∀ (b_1 : Nat) (w1_1 : World),
  New w1
  (Obj.cells
  #[Value.int IntKind.i64 i, Value.int IntKind.i64 (4 : Int), Value.int IntKind.i64 i_1, Value.int IntKind.i64 (4 : Int), Value.int IntKind.i64 i_2,
  Value.int IntKind.i64 (8 : Int), Value.int IntKind.i64 i_3, Value.int IntKind.i64 (8 : Int), Value.int IntKind.i64 i_4, Value.int IntKind.i64 (1 : Int),
  Value.int IntKind.i64 i_5, Value.int IntKind.i64 (2 : Int), Value.int IntKind.i64 (↑(ByteArray.size s) : Int), Value.int IntKind.i64 (2 : Int)]
  (57 : Nat))
  b_1 w1_1 →
  CallV Go.Proofs.Try.prog (24 : Nat) [Value.slice none (0 : Nat) (0 : Nat), Value.slice (some (Addr.mk b_1 (0 : Nat) none)) (7 : Nat) (7 : Nat)] w1_1
  fun (e : Ending) (w' : World) ↦
  ∃ (a : Option Addr),
  ∃ (l : Nat),
  ∃ (c : Nat),
  e = Ending.returned (Value.slice a l c) ∧
  JoinP
  (fun (s : Option Addr × Nat × Nat) (w' : World) ↦
  ∃ (a : Option Addr),
  ∃ (l : Nat),
  ∃ (c : Nat),
  Ld Go.Proofs.Try.prog (32 : Nat) w' (Addr.mk b (7 : Nat) none) (Value.slice a l c) ∧
  LoopP
  (fun (s : (Option Addr × Nat × Nat) × Int) (w' : World) (next : (Option Addr × Nat × Nat) × Int → World → Prop) ↦
  br (decide (Prod.snd s < (↑l : Int)))
  (onP a fun (a : Addr) ↦
  ((0 : Int) ≤ Prod.snd s ∧ Prod.snd s < (↑l : Int)) ∧
  ∃ (i : Int),
  ∃ (s_1 : ByteArray),
  Ld Go.Proofs.Try.prog (58 : Nat) w' (Addr.add a (Int.toNat (Prod.snd s) * (2 : Nat)))
  (Value.agg #[Value.int IntKind.i64 i, Value.string s_1]) ∧
  ∀ (b : Nat) (w1 : World),
  New w' (Obj.cells #[Value.int IntKind.i64 (0 : Int), Value.string (ByteArray.mk #[])] (58 : Nat)) b w1 →
  ∃ (w1_2 : World),
  St Go.Proofs.Try.prog (58 : Nat) w1 (Addr.mk b (0 : Nat) none) (Value.agg #[Value.int IntKind.i64 i, Value.string s_1])
  w1_2 ∧
  ∃ (i : Int),
  Ld Go.Proofs.Try.prog (3 : Nat) (World.drew w1_2) (Addr.mk b (0 : Nat) none) (Value.int IntKind.i64 i) ∧
  ∃ (s_2 : ByteArray),
  Ld Go.Proofs.Try.prog (9 : Nat) (World.drew w1_2) (Addr.mk b (1 : Nat) none) (Value.string s_2) ∧
  ∃ (s_3 : ByteArray),
  Ld Go.Proofs.Try.prog (9 : Nat) (World.drew w1_2) (Addr.mk b (1 : Nat) none) (Value.string s_3) ∧
  ∀ (b_2 : Nat) (w1 : World),
  New (World.drew w1_2)
  (Obj.cells
  #[Value.int IntKind.i64 i, Value.int IntKind.i64 (2 : Int),
  Value.int IntKind.i64 (↑(ByteArray.size s_2) : Int), Value.int IntKind.i64 (2 : Int)]
  (57 : Nat))
  b_2 w1 →
  Ld Go.Proofs.Try.prog (9 : Nat) w1 (Addr.mk b (1 : Nat) none) (Value.string s_3) ∧
  CallV Go.Proofs.Try.prog (24 : Nat)
  [Value.slice (Prod.fst (Prod.fst s)) (Prod.fst (Prod.snd (Prod.fst s)))
  (Prod.snd (Prod.snd (Prod.fst s))),
  Value.slice (some (Addr.mk b_2 (0 : Nat) none)) (2 : Nat) (2 : Nat)]
  w1 fun (e : Ending) (w' : World) ↦
  ∃ (a : Option Addr),
  ∃ (l : Nat),
  ∃ (c : Nat),
  e = Ending.returned (Value.slice a l c) ∧
  Ld Go.Proofs.Try.prog (9 : Nat) w' (Addr.mk b (1 : Nat) none) (Value.string s_3) ∧
  ∃ (a_1 : Option Addr),
  ∃ (n : Nat),
  ∃ (m : Nat),
  ∃ (w1 : World),
  App Go.Proofs.Try.prog #[(53 : Nat), (9 : Nat)] (53 : Nat) w' (Value.slice a l c)
  (Value.string s_3) (Value.slice a_1 n m) w1 ∧
  inR IntKind.i64 (Prod.snd s + (1 : Int)) ∧
  next ((a_1, n, m), Prod.snd s + (1 : Int)) w1)
  (R (Ending.returned (Value.slice (Prod.fst (Prod.fst s)) (Prod.fst (Prod.snd (Prod.fst s))) (Prod.snd (Prod.snd (Prod.fst s))))) w'))
  ((Prod.fst s, Prod.fst (Prod.snd s), Prod.snd (Prod.snd s)), (0 : Int)) w')
  fun (J : Option Addr × Nat × Nat → World → Prop) ↦
  (∃ (s : ByteArray),
  Ld Go.Proofs.Try.prog (9 : Nat) (World.drew w') (Addr.mk b (6 : Nat) none) (Value.string s) ∧
  ∃ (a_1 : Option Addr),
  ∃ (l_1 : Nat),
  ∃ (c_1 : Nat),
  Ld Go.Proofs.Try.prog (32 : Nat) (World.drew w') (Addr.mk b (7 : Nat) none) (Value.slice a_1 l_1 c_1) ∧
  ∃ (a_2 : Option Addr),
  ∃ (n : Nat),
  ∃ (m : Nat),
  ∃ (w1 : World),
  App Go.Proofs.Try.prog #[(53 : Nat), (9 : Nat)] (53 : Nat) (World.drew w') (Value.slice a l c) (Value.string s) (Value.slice a_2 n m)
  w1 ∧
  Ld Go.Proofs.Try.prog (32 : Nat) w1 (Addr.mk b (7 : Nat) none) (Value.slice a_1 l_1 c_1) ∧
  ∀ (b : Nat) (w1_2 : World),
  New w1 (Obj.cells #[Value.int IntKind.i64 (↑l_1 : Int), Value.int IntKind.i64 (1 : Int)] (57 : Nat)) b w1_2 →
  CallV Go.Proofs.Try.prog (24 : Nat) [Value.slice a_2 n m, Value.slice (some (Addr.mk b (0 : Nat) none)) (1 : Nat) (1 : Nat)]
  w1_2 fun (e : Ending) (w' : World) ↦
  ∃ (a : Option Addr), ∃ (l : Nat), ∃ (c : Nat), e = Ending.returned (Value.slice a l c) ∧ J (a, l, c) w') ∧
  ∃ (s : ByteArray),
  Ld Go.Proofs.Try.prog (9 : Nat) (World.drew w') (Addr.mk b (6 : Nat) none) (Value.string s) ∧
  ∃ (a_1 : Option Addr),
  ∃ (l_1 : Nat),
  ∃ (c_1 : Nat),
  Ld Go.Proofs.Try.prog (32 : Nat) (World.drew w') (Addr.mk b (7 : Nat) none) (Value.slice a_1 l_1 c_1) ∧
  ∀ (b_2 : Nat) (w1 : World),
  New (World.drew w') (Obj.cells #[Value.int IntKind.i64 (↑l_1 : Int), Value.int IntKind.i64 (1 : Int)] (57 : Nat)) b_2 w1 →
  Ld Go.Proofs.Try.prog (9 : Nat) w1 (Addr.mk b (6 : Nat) none) (Value.string s) ∧
  ∃ (a_3 : Option Addr),
  ∃ (n : Nat),
  ∃ (m : Nat),
  ∃ (w1_2 : World),
  App Go.Proofs.Try.prog #[(53 : Nat), (9 : Nat)] (53 : Nat) w1 (Value.slice a l c) (Value.string s) (Value.slice a_3 n m) w1_2 ∧
  CallV Go.Proofs.Try.prog (24 : Nat)
  [Value.slice a_3 n m, Value.slice (some (Addr.mk b_2 (0 : Nat) none)) (1 : Nat) (1 : Nat)] w1_2
  fun (e : Ending) (w' : World) ↦
  ∃ (a : Option Addr), ∃ (l : Nat), ∃ (c : Nat), e = Ending.returned (Value.slice a l c) ∧ J (a, l, c) w'
theorem whole.eq (r_Id : Int) (r_Parent : Int) (r_Kind : Int) (r_Name : Int) (r_Span_From : Int) (r_Span_To : Int) (r_Text : ByteArray) (r_Attrsa : Option Addr) (r_Attrsn : Nat) (r_Attrsc : Nat) (w : World) (R : Ending → World → Prop) : bodyV Go.Proofs.Try.prog whole.an Go.Proofs.Try.f23 [.agg #[.int .i64 r_Id, .int .i64 r_Parent, .int .i64 r_Kind, .int .i64 r_Name, .int .i64 r_Span_From, .int .i64 r_Span_To, .string r_Text, .slice r_Attrsa r_Attrsn r_Attrsc]] w R = whole.vc r_Id r_Parent r_Kind r_Name r_Span_From r_Span_To r_Text r_Attrsa r_Attrsn r_Attrsc w R := by kernel_rfl
theorem whole.ok (r_Id : Int) (r_Parent : Int) (r_Kind : Int) (r_Name : Int) (r_Span_From : Int) (r_Span_To : Int) (r_Text : ByteArray) (r_Attrsa : Option Addr) (r_Attrsn : Nat) (r_Attrsc : Nat) (w : World) (R : Ending → World → Prop) (h : whole.vc r_Id r_Parent r_Kind r_Name r_Span_From r_Span_To r_Text r_Attrsa r_Attrsn r_Attrsc w R) : Calls Go.Proofs.Try.prog 23 #[.agg #[.int .i64 r_Id, .int .i64 r_Parent, .int .i64 r_Kind, .int .i64 r_Name, .int .i64 r_Span_From, .int .i64 r_Span_To, .string r_Text, .slice r_Attrsa r_Attrsn r_Attrsc]] w R :=
  calls_of_bodyV noNum (an := whole.an) (args := [.agg #[.int .i64 r_Id, .int .i64 r_Parent, .int .i64 r_Kind, .int .i64 r_Name, .int .i64 r_Span_From, .int .i64 r_Span_To, .string r_Text, .slice r_Attrsa r_Attrsn r_Attrsc]]) Go.Proofs.Try.func23 (by kernel_rfl) ((whole.eq r_Id r_Parent r_Kind r_Name r_Span_From r_Span_To r_Text r_Attrsa r_Attrsn r_Attrsc w R).mpr h)

/-- incunable/folio.Encode -/
def encode.an : An := { wraps := [], loops := [(7, [(6, .inr 3), (20, .inl .i64)])], joins := [] }
def encode.vc (r_Id : Int) (r_Parent : Int) (r_Kind : Int) (r_Name : Int) (r_Span_From : Int) (r_Span_To : Int) (r_Text : ByteArray) (r_Attrsa : Option Addr) (r_Attrsn : Nat) (r_Attrsc : Nat) (w : World) (R : Ending → World → Prop) : Prop :=
  ∀ (b : Nat) (w1 : World),
  New w
  (Obj.cells
  #[Value.int IntKind.i64 r_Id, Value.int IntKind.i64 r_Parent, Value.int IntKind.i64 r_Kind, Value.int IntKind.i64 r_Name, Value.int IntKind.i64 r_Span_From, Value.int IntKind.i64 r_Span_To,
  Value.string r_Text, Value.slice r_Attrsa r_Attrsn r_Attrsc]
  (34 : Nat))
  b w1 →
  ∃ (i : Int),
  ∃ (i_1 : Int),
  ∃ (i_2 : Int),
  ∃ (i_3 : Int),
  ∃ (i_4 : Int),
  ∃ (i_5 : Int),
  ∃ (s : ByteArray),
  ∃ (a : Option Addr),
  ∃ (l : Nat),
  ∃ (c : Nat),
  Ld Go.Proofs.Try.prog (34 : Nat) w1 (Addr.mk b (0 : Nat) none)
  (Value.agg
  #[Value.int IntKind.i64 i, Value.int IntKind.i64 i_1, Value.int IntKind.i64 i_2, Value.int IntKind.i64 i_3, Value.int IntKind.i64 i_4, Value.int IntKind.i64 i_5,
  Value.string s, Value.slice a l c]) ∧
  CallV Go.Proofs.Try.prog (14 : Nat)
  [Value.agg
  #[Value.int IntKind.i64 i, Value.int IntKind.i64 i_1, Value.int IntKind.i64 i_2, Value.int IntKind.i64 i_3, Value.int IntKind.i64 i_4, Value.int IntKind.i64 i_5,
  Value.string s, Value.slice a l c]]
  w1 fun (e : Ending) (w' : World) ↦
  ∃ (b_1 : Bool),
  e = Ending.returned (Value.bool b_1) ∧
  br (!b_1) (R (Ending.returned (Value.tuple #[Value.slice none (0 : Nat) (0 : Nat), Value.int IntKind.i64 (160 : Int)])) w')
  (∃ (i : Int),
  ∃ (i_6 : Int),
  ∃ (i_7 : Int),
  ∃ (i_8 : Int),
  ∃ (i_9 : Int),
  ∃ (i_10 : Int),
  ∃ (s : ByteArray),
  ∃ (a : Option Addr),
  ∃ (l : Nat),
  ∃ (c : Nat),
  Ld Go.Proofs.Try.prog (34 : Nat) w' (Addr.mk b (0 : Nat) none)
  (Value.agg
  #[Value.int IntKind.i64 i, Value.int IntKind.i64 i_6, Value.int IntKind.i64 i_7, Value.int IntKind.i64 i_8, Value.int IntKind.i64 i_9,
  Value.int IntKind.i64 i_10, Value.string s, Value.slice a l c]) ∧
  CallV Go.Proofs.Try.prog (23 : Nat)
  [Value.agg
  #[Value.int IntKind.i64 i, Value.int IntKind.i64 i_6, Value.int IntKind.i64 i_7, Value.int IntKind.i64 i_8, Value.int IntKind.i64 i_9,
  Value.int IntKind.i64 i_10, Value.string s, Value.slice a l c]]
  w' fun (e : Ending) (w' : World) ↦
  ∃ (a : Option Addr),
  ∃ (l : Nat),
  ∃ (c : Nat),
  e = Ending.returned (Value.slice a l c) ∧
  inR IntKind.i64 ((↑l : Int) + (900 : Int)) ∧
  inR IntKind.i64 ((↑l : Int) + (900 : Int) - (1 : Int)) ∧
  (900 : Int) ≠ (0 : Int) ∧
  inR IntKind.i64 (Int.tdiv ((↑l : Int) + (900 : Int) - (1 : Int)) (900 : Int)) ∧
  LoopP
  (fun (s : (Option Addr × Nat × Nat) × Int) (w' : World) (next : (Option Addr × Nat × Nat) × Int → World → Prop) ↦
  br (decide (Prod.snd s < Int.tdiv ((↑l : Int) + (900 : Int) - (1 : Int)) (900 : Int)))
  (∃ (i : Int),
  Ld Go.Proofs.Try.prog (3 : Nat) w' (Addr.mk b (0 : Nat) none) (Value.int IntKind.i64 i) ∧
  ∀ (b : Nat) (w1 : World),
  New w'
  (Obj.cells
  #[Value.int IntKind.i64 i, Value.int IntKind.i64 (4 : Int), Value.int IntKind.i64 (Prod.snd s),
  Value.int IntKind.i64 (1 : Int),
  Value.int IntKind.i64 (Int.tdiv ((↑l : Int) + (900 : Int) - (1 : Int)) (900 : Int)),
  Value.int IntKind.i64 (1 : Int)]
  (57 : Nat))
  b w1 →
  CallV Go.Proofs.Try.prog (24 : Nat)
  [Value.slice none (0 : Nat) (0 : Nat), Value.slice (some (Addr.mk b (0 : Nat) none)) (3 : Nat) (3 : Nat)] w1
  fun (e : Ending) (w' : World) ↦
  ∃ (a_2 : Option Addr),
  ∃ (l_1 : Nat),
  ∃ (c_1 : Nat),
  e = Ending.returned (Value.slice a_2 l_1 c_1) ∧
  inR IntKind.i64 (Prod.snd s * (900 : Int)) ∧
  inR IntKind.i64 (Prod.snd s + (1 : Int)) ∧
  inR IntKind.i64 ((Prod.snd s + (1 : Int)) * (900 : Int)) ∧
  ((0 : Int) ≤ Prod.snd s * (900 : Int) ∧
  Prod.snd s * (900 : Int) ≤ min (↑l : Int) ((Prod.snd s + (1 : Int)) * (900 : Int)) ∧
  min (↑l : Int) ((Prod.snd s + (1 : Int)) * (900 : Int)) ≤ (↑c : Int)) ∧
  ∃ (a_3 : Option Addr),
  ∃ (n : Nat),
  ∃ (m : Nat),
  ∃ (w1 : World),
  App Go.Proofs.Try.prog #[(53 : Nat), (53 : Nat)] (53 : Nat) w' (Value.slice a_2 l_1 c_1)
  (Value.slice (slA a c (Int.toNat (Prod.snd s * (900 : Int))) (1 : Nat))
  (Int.toNat (min (↑l : Int) ((Prod.snd s + (1 : Int)) * (900 : Int))) -
  Int.toNat (Prod.snd s * (900 : Int)))
  (c - Int.toNat (Prod.snd s * (900 : Int))))
  (Value.slice a_3 n m) w1 ∧
  ∃ (s_1 : ByteArray),
  B2S Go.Proofs.Try.prog (53 : Nat) (9 : Nat) w1 (Value.slice a_3 n m)
  (Value.string s_1) ∧
  ∀ (b : Nat) (w1_1 : World),
  New w1 (Obj.cells #[Value.string s_1] (9 : Nat)) b w1_1 →
  ∃ (a : Option Addr),
  ∃ (n : Nat),
  ∃ (m : Nat),
  ∃ (w1 : World),
  App Go.Proofs.Try.prog #[(26 : Nat), (26 : Nat)] (26 : Nat) w1_1
  (Value.slice (Prod.fst (Prod.fst s))
  (Prod.fst (Prod.snd (Prod.fst s)))
  (Prod.snd (Prod.snd (Prod.fst s))))
  (Value.slice (some (Addr.mk b (0 : Nat) none)) (1 : Nat)
  (1 : Nat))
  (Value.slice a n m) w1 ∧
  inR IntKind.i64 (Prod.snd s + (1 : Int)) ∧
  next ((a, n, m), Prod.snd s + (1 : Int)) w1)
  (R
  (Ending.returned
  (Value.tuple
  #[Value.slice (Prod.fst (Prod.fst s)) (Prod.fst (Prod.snd (Prod.fst s))) (Prod.snd (Prod.snd (Prod.fst s))),
  Value.int IntKind.i64 (0 : Int)]))
  w'))
  ((none, (0 : Nat), (0 : Nat)), (0 : Int)) w')
theorem encode.eq (r_Id : Int) (r_Parent : Int) (r_Kind : Int) (r_Name : Int) (r_Span_From : Int) (r_Span_To : Int) (r_Text : ByteArray) (r_Attrsa : Option Addr) (r_Attrsn : Nat) (r_Attrsc : Nat) (w : World) (R : Ending → World → Prop) : bodyV Go.Proofs.Try.prog encode.an Go.Proofs.Try.f11 [.agg #[.int .i64 r_Id, .int .i64 r_Parent, .int .i64 r_Kind, .int .i64 r_Name, .int .i64 r_Span_From, .int .i64 r_Span_To, .string r_Text, .slice r_Attrsa r_Attrsn r_Attrsc]] w R = encode.vc r_Id r_Parent r_Kind r_Name r_Span_From r_Span_To r_Text r_Attrsa r_Attrsn r_Attrsc w R := by kernel_rfl
theorem encode.ok (r_Id : Int) (r_Parent : Int) (r_Kind : Int) (r_Name : Int) (r_Span_From : Int) (r_Span_To : Int) (r_Text : ByteArray) (r_Attrsa : Option Addr) (r_Attrsn : Nat) (r_Attrsc : Nat) (w : World) (R : Ending → World → Prop) (h : encode.vc r_Id r_Parent r_Kind r_Name r_Span_From r_Span_To r_Text r_Attrsa r_Attrsn r_Attrsc w R) : Calls Go.Proofs.Try.prog 11 #[.agg #[.int .i64 r_Id, .int .i64 r_Parent, .int .i64 r_Kind, .int .i64 r_Name, .int .i64 r_Span_From, .int .i64 r_Span_To, .string r_Text, .slice r_Attrsa r_Attrsn r_Attrsc]] w R :=
  calls_of_bodyV noNum (an := encode.an) (args := [.agg #[.int .i64 r_Id, .int .i64 r_Parent, .int .i64 r_Kind, .int .i64 r_Name, .int .i64 r_Span_From, .int .i64 r_Span_To, .string r_Text, .slice r_Attrsa r_Attrsn r_Attrsc]]) Go.Proofs.Try.func11 (by kernel_rfl) ((encode.eq r_Id r_Parent r_Kind r_Name r_Span_From r_Span_To r_Text r_Attrsa r_Attrsn r_Attrsc w R).mpr h)

/-- (*incunable/folio.reader).number -/
def number.an : An := { wraps := [5], loops := [(3, [(5, .inl .i64), (13, .inl .i64)])], joins := [] }
def number.vc (r : Option Addr) (long : Int) (w : World) (R : Ending → World → Prop) : Prop :=
  CallV Go.Proofs.Try.prog (29 : Nat) [Value.pointer r, Value.int IntKind.i64 long] w fun (e : Ending) (w' : World) ↦
  ∃ (s : ByteArray),
  e = Ending.returned (Value.string s) ∧
  ∃ (a : Option Addr),
  ∃ (l : Nat),
  ∃ (c : Nat),
  ∃ (w1 : World),
  S2B Go.Proofs.Try.prog (9 : Nat) (53 : Nat) w' (Value.string s) (Value.slice a l c) w1 ∧
  LoopP
  (fun (s : Int × Int) (w' : World) (next : Int × Int → World → Prop) ↦
  br (decide (Prod.snd s < (↑l : Int)))
  (onP a fun (a : Addr) ↦
  ((0 : Int) ≤ Prod.snd s ∧ Prod.snd s < (↑l : Int)) ∧
  ∃ (i : Int),
  Ld Go.Proofs.Try.prog (5 : Nat) w' (Addr.add a (Int.toNat (Prod.snd s) * (1 : Nat))) (Value.int IntKind.u8 i) ∧
  (0 : Int) ≤ (8 : Int) ∧
  inR IntKind.i64 (Prod.snd s + (1 : Int)) ∧
  next
  (Vc.bits BinOp.or IntKind.i64 (IntKind.wrap IntKind.i64 (Prod.fst s * (2 : Int) ^ min (Int.toNat (8 : Int)) (IntKind.bits IntKind.i64)))
  (IntKind.wrap IntKind.i64 i),
  Prod.snd s + (1 : Int))
  w')
  (R (Ending.returned (Value.int IntKind.i64 (Prod.fst s))) w'))
  ((0 : Int), (0 : Int)) w1
theorem number.eq (r : Option Addr) (long : Int) (w : World) (R : Ending → World → Prop) : bodyV Go.Proofs.Try.prog number.an Go.Proofs.Try.f28 [.pointer r, .int .i64 long] w R = number.vc r long w R := by kernel_rfl
theorem number.ok (r : Option Addr) (long : Int) (w : World) (R : Ending → World → Prop) (h : number.vc r long w R) : Calls Go.Proofs.Try.prog 28 #[.pointer r, .int .i64 long] w R :=
  calls_of_bodyV noNum (an := number.an) (args := [.pointer r, .int .i64 long]) Go.Proofs.Try.func28 (by kernel_rfl) ((number.eq r long w R).mpr h)

/-- (*incunable/folio.reader).text -/
def text.an : An := { wraps := [], loops := [], joins := [] }
def text.vc (r : Option Addr) (long : Int) (w : World) (R : Ending → World → Prop) : Prop :=
  onP r fun (a : Addr) ↦
  ∃ (a_1 : Option Addr),
  ∃ (l : Nat),
  ∃ (c : Nat),
  Ld Go.Proofs.Try.prog (53 : Nat) w a (Value.slice a_1 l c) ∧
  br (decide ((↑l : Int) < long))
  (onP r fun (a : Addr) ↦
  ∃ (w1 : World),
  St Go.Proofs.Try.prog (53 : Nat) w a (Value.slice none (0 : Nat) (0 : Nat)) w1 ∧
  onP r fun (a : Addr) ↦ ∃ (w1_1 : World), St Go.Proofs.Try.prog (4 : Nat) w1 (Addr.add a (1 : Nat)) (Value.bool true) w1_1 ∧ R (Ending.returned (Value.string (ByteArray.mk #[]))) w1_1)
  (onP r fun (a : Addr) ↦
  ∃ (a_2 : Option Addr),
  ∃ (l : Nat),
  ∃ (c : Nat),
  Ld Go.Proofs.Try.prog (53 : Nat) w a (Value.slice a_2 l c) ∧
  ((0 : Int) ≤ long ∧ long ≤ (↑c : Int)) ∧
  ∃ (s : ByteArray),
  B2S Go.Proofs.Try.prog (53 : Nat) (9 : Nat) w (Value.slice a_2 (Int.toNat long) c) (Value.string s) ∧
  onP r fun (a : Addr) ↦
  ∃ (a_3 : Option Addr),
  ∃ (l : Nat),
  ∃ (c : Nat),
  Ld Go.Proofs.Try.prog (53 : Nat) w a (Value.slice a_3 l c) ∧
  ((0 : Int) ≤ long ∧ long ≤ (↑l : Int)) ∧
  onP r fun (a : Addr) ↦
  ∃ (w1 : World),
  St Go.Proofs.Try.prog (53 : Nat) w a (Value.slice (slA a_3 c (Int.toNat long) (1 : Nat)) (l - Int.toNat long) (c - Int.toNat long)) w1 ∧
  R (Ending.returned (Value.string s)) w1)
theorem text.eq (r : Option Addr) (long : Int) (w : World) (R : Ending → World → Prop) : bodyV Go.Proofs.Try.prog text.an Go.Proofs.Try.f29 [.pointer r, .int .i64 long] w R = text.vc r long w R := by kernel_rfl
theorem text.ok (r : Option Addr) (long : Int) (w : World) (R : Ending → World → Prop) (h : text.vc r long w R) : Calls Go.Proofs.Try.prog 29 #[.pointer r, .int .i64 long] w R :=
  calls_of_bodyV noNum (an := text.an) (args := [.pointer r, .int .i64 long]) Go.Proofs.Try.func29 (by kernel_rfl) ((text.eq r long w R).mpr h)

/-- incunable/folio.Head -/
def head.an : An := { wraps := [], loops := [], joins := [] }
def head.vc (s : ByteArray) (w : World) (R : Ending → World → Prop) : Prop :=
  br (decide ((↑(ByteArray.size s) : Int) < (6 : Int)))
  (R (Ending.returned (Value.tuple #[Value.int IntKind.i64 (0 : Int), Value.int IntKind.i64 (0 : Int), Value.int IntKind.i64 (0 : Int), Value.bool false])) w)
  (br (decide ((906 : Int) < (↑(ByteArray.size s) : Int)))
  (R (Ending.returned (Value.tuple #[Value.int IntKind.i64 (0 : Int), Value.int IntKind.i64 (0 : Int), Value.int IntKind.i64 (0 : Int), Value.bool false])) w)
  (∃ (a : Option Addr),
  ∃ (l : Nat),
  ∃ (c : Nat),
  ∃ (w1 : World),
  S2B Go.Proofs.Try.prog (9 : Nat) (53 : Nat) w (Value.string s) (Value.slice a l c) w1 ∧
  ∀ (b : Nat) (w1_1 : World),
  New w1 (Obj.cells #[Value.slice a l c, Value.bool false] (64 : Nat)) b w1_1 →
  CallV Go.Proofs.Try.prog (28 : Nat) [Value.pointer (some (Addr.mk b (0 : Nat) none)), Value.int IntKind.i64 (4 : Int)] w1_1 fun (e : Ending) (w' : World) ↦
  ∃ (i : Int),
  e = Ending.returned (Value.int IntKind.i64 i) ∧
  CallV Go.Proofs.Try.prog (28 : Nat) [Value.pointer (some (Addr.mk b (0 : Nat) none)), Value.int IntKind.i64 (1 : Int)] w' fun (e : Ending) (w' : World) ↦
  ∃ (i_1 : Int),
  e = Ending.returned (Value.int IntKind.i64 i_1) ∧
  CallV Go.Proofs.Try.prog (28 : Nat) [Value.pointer (some (Addr.mk b (0 : Nat) none)), Value.int IntKind.i64 (1 : Int)] w' fun (e : Ending) (w' : World) ↦
  ∃ (i_2 : Int),
  e = Ending.returned (Value.int IntKind.i64 i_2) ∧
  br (decide (i < (1 : Int)))
  (R (Ending.returned (Value.tuple #[Value.int IntKind.i64 (0 : Int), Value.int IntKind.i64 (0 : Int), Value.int IntKind.i64 (0 : Int), Value.bool false])) w')
  (br (decide ((2147483647 : Int) < i))
  (R (Ending.returned (Value.tuple #[Value.int IntKind.i64 (0 : Int), Value.int IntKind.i64 (0 : Int), Value.int IntKind.i64 (0 : Int), Value.bool false])) w')
  (br (decide (i_2 ≤ i_1))
  (R (Ending.returned (Value.tuple #[Value.int IntKind.i64 (0 : Int), Value.int IntKind.i64 (0 : Int), Value.int IntKind.i64 (0 : Int), Value.bool false])) w')
  (R (Ending.returned (Value.tuple #[Value.int IntKind.i64 i, Value.int IntKind.i64 i_1, Value.int IntKind.i64 i_2, Value.bool true])) w')))))
theorem head.eq (s : ByteArray) (w : World) (R : Ending → World → Prop) : bodyV Go.Proofs.Try.prog head.an Go.Proofs.Try.f21 [.string s] w R = head.vc s w R := by kernel_rfl
theorem head.ok (s : ByteArray) (w : World) (R : Ending → World → Prop) (h : head.vc s w R) : Calls Go.Proofs.Try.prog 21 #[.string s] w R :=
  calls_of_bodyV noNum (an := head.an) (args := [.string s]) Go.Proofs.Try.func21 (by kernel_rfl) ((head.eq s w R).mpr h)

/-- incunable/folio.joined -/
def joined.an : An := { wraps := [], loops := [(3, [(4, .inr 3), (17, .inl .i64)])], joins := [] }
def joined.vc (la : Option Addr) (ln : Nat) (lc : Nat) (w : World) (R : Ending → World → Prop) : Prop :=
  LoopP
  (fun (s : (Option Addr × Nat × Nat) × Int) (w' : World) (next : (Option Addr × Nat × Nat) × Int → World → Prop) ↦
  br (decide (Prod.snd s < (↑ln : Int)))
  (onP la fun (a : Addr) ↦
  ((0 : Int) ≤ Prod.snd s ∧ Prod.snd s < (↑ln : Int)) ∧
  ∃ (s_1 : ByteArray),
  Ld Go.Proofs.Try.prog (9 : Nat) w' (Addr.add a (Int.toNat (Prod.snd s) * (1 : Nat))) (Value.string s_1) ∧
  CallV Go.Proofs.Try.prog (21 : Nat) [Value.string s_1] w' fun (e : Ending) (w' : World) ↦
  ∃ (i : Int),
  ∃ (i_1 : Int),
  ∃ (i_2 : Int),
  ∃ (b : Bool),
  e = Ending.returned (Value.tuple #[Value.int IntKind.i64 i, Value.int IntKind.i64 i_1, Value.int IntKind.i64 i_2, Value.bool b]) ∧
  onP la fun (a : Addr) ↦
  ((0 : Int) ≤ (0 : Int) ∧ (0 : Int) < (↑ln : Int)) ∧
  ∃ (s_2 : ByteArray),
  Ld Go.Proofs.Try.prog (9 : Nat) w' a (Value.string s_2) ∧
  CallV Go.Proofs.Try.prog (21 : Nat) [Value.string s_2] w' fun (e : Ending) (w' : World) ↦
  ∃ (i_3 : Int),
  ∃ (i_4 : Int),
  ∃ (i_5 : Int),
  ∃ (b_1 : Bool),
  e = Ending.returned (Value.tuple #[Value.int IntKind.i64 i_3, Value.int IntKind.i64 i_4, Value.int IntKind.i64 i_5, Value.bool b_1]) ∧
  br (!b) (R (Ending.returned (Value.tuple #[Value.slice none (0 : Nat) (0 : Nat), Value.bool false])) w')
  (br (!decide (i = i_3)) (R (Ending.returned (Value.tuple #[Value.slice none (0 : Nat) (0 : Nat), Value.bool false])) w')
  (br (!decide (i_1 = Prod.snd s)) (R (Ending.returned (Value.tuple #[Value.slice none (0 : Nat) (0 : Nat), Value.bool false])) w')
  (br (!decide (i_2 = (↑ln : Int))) (R (Ending.returned (Value.tuple #[Value.slice none (0 : Nat) (0 : Nat), Value.bool false])) w')
  (((0 : Int) ≤ (6 : Int) ∧ (6 : Int) ≤ (↑(ByteArray.size s_1) : Int)) ∧
  ∃ (a : Option Addr),
  ∃ (n : Nat),
  ∃ (m : Nat),
  ∃ (w1 : World),
  App Go.Proofs.Try.prog #[(53 : Nat), (9 : Nat)] (53 : Nat) w'
  (Value.slice (Prod.fst (Prod.fst s)) (Prod.fst (Prod.snd (Prod.fst s))) (Prod.snd (Prod.snd (Prod.fst s))))
  (Value.string (ByteArray.extract s_1 (Int.toNat (6 : Int)) (ByteArray.size s_1))) (Value.slice a n m) w1 ∧
  inR IntKind.i64 (Prod.snd s + (1 : Int)) ∧ next ((a, n, m), Prod.snd s + (1 : Int)) w1)))))
  (R
  (Ending.returned
  (Value.tuple
  #[Value.slice (Prod.fst (Prod.fst s)) (Prod.fst (Prod.snd (Prod.fst s))) (Prod.snd (Prod.snd (Prod.fst s))),
  Value.bool (decide ((0 : Int) < (↑(Prod.fst (Prod.snd (Prod.fst s))) : Int)))]))
  w'))
  ((none, (0 : Nat), (0 : Nat)), (0 : Int)) w
theorem joined.eq (la : Option Addr) (ln : Nat) (lc : Nat) (w : World) (R : Ending → World → Prop) : bodyV Go.Proofs.Try.prog joined.an Go.Proofs.Try.f27 [.slice la ln lc] w R = joined.vc la ln lc w R := by kernel_rfl
theorem joined.ok (la : Option Addr) (ln : Nat) (lc : Nat) (w : World) (R : Ending → World → Prop) (h : joined.vc la ln lc w R) : Calls Go.Proofs.Try.prog 27 #[.slice la ln lc] w R :=
  calls_of_bodyV noNum (an := joined.an) (args := [.slice la ln lc]) Go.Proofs.Try.func27 (by kernel_rfl) ((joined.eq la ln lc w R).mpr h)

/-- incunable/folio.Decode -/
def decode.an : An := { wraps := [], loops := [(11, [(53, .inl .i64)]), (20, [(101, .inl .i64)])], joins := [(18, [(97, .inr 0)])] }
def decode.vc (la : Option Addr) (ln : Nat) (lc : Nat) (w : World) (R : Ending → World → Prop) : Prop :=
  ∀ (b : Nat) (w1 : World),
  New w
  (Obj.cells
  #[Value.int IntKind.i64 (0 : Int), Value.int IntKind.i64 (0 : Int), Value.int IntKind.i64 (0 : Int), Value.int IntKind.i64 (0 : Int), Value.int IntKind.i64 (0 : Int),
  Value.int IntKind.i64 (0 : Int), Value.string (ByteArray.mk #[]), Value.slice none (0 : Nat) (0 : Nat)]
  (34 : Nat))
  b w1 →
  CallV Go.Proofs.Try.prog (27 : Nat) [Value.slice la ln lc] w1 fun (e : Ending) (w' : World) ↦
  ∃ (a : Option Addr),
  ∃ (l : Nat),
  ∃ (c : Nat),
  ∃ (b_1 : Bool),
  e = Ending.returned (Value.tuple #[Value.slice a l c, Value.bool b_1]) ∧
  br (!b_1)
  (∃ (w1 : World),
  St Go.Proofs.Try.prog (34 : Nat) w' (Addr.mk b (0 : Nat) none)
  (Value.agg
  #[Value.int IntKind.i64 (0 : Int), Value.int IntKind.i64 (0 : Int), Value.int IntKind.i64 (0 : Int), Value.int IntKind.i64 (0 : Int), Value.int IntKind.i64 (0 : Int),
  Value.int IntKind.i64 (0 : Int), Value.string (ByteArray.mk #[]), Value.slice none (0 : Nat) (0 : Nat)])
  w1 ∧
  ∃ (i : Int),
  ∃ (i_1 : Int),
  ∃ (i_2 : Int),
  ∃ (i_3 : Int),
  ∃ (i_4 : Int),
  ∃ (i_5 : Int),
  ∃ (s : ByteArray),
  ∃ (a : Option Addr),
  ∃ (l : Nat),
  ∃ (c : Nat),
  Ld Go.Proofs.Try.prog (34 : Nat) w1 (Addr.mk b (0 : Nat) none)
  (Value.agg
  #[Value.int IntKind.i64 i, Value.int IntKind.i64 i_1, Value.int IntKind.i64 i_2, Value.int IntKind.i64 i_3, Value.int IntKind.i64 i_4,
  Value.int IntKind.i64 i_5, Value.string s, Value.slice a l c]) ∧
  R
  (Ending.returned
  (Value.tuple
  #[Value.agg
  #[Value.int IntKind.i64 i, Value.int IntKind.i64 i_1, Value.int IntKind.i64 i_2, Value.int IntKind.i64 i_3, Value.int IntKind.i64 i_4,
  Value.int IntKind.i64 i_5, Value.string s, Value.slice a l c],
  Value.int IntKind.i64 (160 : Int)]))
  w1)
  (∀ (b_2 : Nat) (w1 : World),
  New w' (Obj.cells #[Value.slice a l c, Value.bool false] (64 : Nat)) b_2 w1 →
  CallV Go.Proofs.Try.prog (28 : Nat) [Value.pointer (some (Addr.mk b_2 (0 : Nat) none)), Value.int IntKind.i64 (4 : Int)] w1 fun (e : Ending) (w' : World) ↦
  ∃ (i : Int),
  e = Ending.returned (Value.int IntKind.i64 i) ∧
  CallV Go.Proofs.Try.prog (28 : Nat) [Value.pointer (some (Addr.mk b_2 (0 : Nat) none)), Value.int IntKind.i64 (4 : Int)] w' fun (e : Ending) (w' : World) ↦
  ∃ (i_1 : Int),
  e = Ending.returned (Value.int IntKind.i64 i_1) ∧
  ∀ (b_3 : Nat) (w1 : World),
  New w'
  (Obj.cells
  #[Value.int IntKind.i64 (0 : Int), Value.int IntKind.i64 (0 : Int), Value.int IntKind.i64 (0 : Int), Value.int IntKind.i64 (0 : Int),
  Value.int IntKind.i64 (0 : Int), Value.int IntKind.i64 (0 : Int), Value.string (ByteArray.mk #[]), Value.slice none (0 : Nat) (0 : Nat)]
  (34 : Nat))
  b_3 w1 →
  ∃ (w1_1 : World),
  St Go.Proofs.Try.prog (34 : Nat) w1 (Addr.mk b_3 (0 : Nat) none)
  (Value.agg
  #[Value.int IntKind.i64 i, Value.int IntKind.i64 i_1, Value.int IntKind.i64 (0 : Int), Value.int IntKind.i64 (0 : Int), Value.int IntKind.i64 (0 : Int),
  Value.int IntKind.i64 (0 : Int), Value.string (ByteArray.mk #[]), Value.slice none (0 : Nat) (0 : Nat)])
  w1_1 ∧
  CallV Go.Proofs.Try.prog (28 : Nat) [Value.pointer (some (Addr.mk b_2 (0 : Nat) none)), Value.int IntKind.i64 (8 : Int)] w1_1 fun (e : Ending) (w' : World) ↦
  ∃ (i : Int),
  e = Ending.returned (Value.int IntKind.i64 i) ∧
  CallV Go.Proofs.Try.prog (28 : Nat) [Value.pointer (some (Addr.mk b_2 (0 : Nat) none)), Value.int IntKind.i64 (8 : Int)] w' fun (e : Ending) (w' : World) ↦
  ∃ (i_2 : Int),
  e = Ending.returned (Value.int IntKind.i64 i_2) ∧
  ∃ (w1 : World),
  St Go.Proofs.Try.prog (31 : Nat) w' (Addr.mk b_3 (4 : Nat) none) (Value.agg #[Value.int IntKind.i64 i, Value.int IntKind.i64 i_2]) w1 ∧
  CallV Go.Proofs.Try.prog (28 : Nat) [Value.pointer (some (Addr.mk b_2 (0 : Nat) none)), Value.int IntKind.i64 (1 : Int)] w1
  fun (e : Ending) (w' : World) ↦
  ∃ (i : Int),
  e = Ending.returned (Value.int IntKind.i64 i) ∧
  CallV Go.Proofs.Try.prog (28 : Nat) [Value.pointer (some (Addr.mk b_2 (0 : Nat) none)), Value.int IntKind.i64 (2 : Int)] w'
  fun (e : Ending) (w' : World) ↦
  ∃ (i_3 : Int),
  e = Ending.returned (Value.int IntKind.i64 i_3) ∧
  ∃ (w1 : World),
  St Go.Proofs.Try.prog (3 : Nat) w' (Addr.mk b_3 (2 : Nat) none) (Value.int IntKind.i64 i) w1 ∧
  ∃ (w1_2 : World),
  St Go.Proofs.Try.prog (3 : Nat) w1 (Addr.mk b_3 (3 : Nat) none) (Value.int IntKind.i64 i_3) w1_2 ∧
  CallV Go.Proofs.Try.prog (28 : Nat) [Value.pointer (some (Addr.mk b_2 (0 : Nat) none)), Value.int IntKind.i64 (2 : Int)] w1_2
  fun (e : Ending) (w' : World) ↦
  ∃ (i : Int),
  e = Ending.returned (Value.int IntKind.i64 i) ∧
  CallV Go.Proofs.Try.prog (29 : Nat) [Value.pointer (some (Addr.mk b_2 (0 : Nat) none)), Value.int IntKind.i64 i] w'
  fun (e : Ending) (w' : World) ↦
  ∃ (s : ByteArray),
  e = Ending.returned (Value.string s) ∧
  ∃ (w1 : World),
  St Go.Proofs.Try.prog (9 : Nat) w' (Addr.mk b_3 (6 : Nat) none) (Value.string s) w1 ∧
  CallV Go.Proofs.Try.prog (28 : Nat)
  [Value.pointer (some (Addr.mk b_2 (0 : Nat) none)), Value.int IntKind.i64 (1 : Int)] w1
  fun (e : Ending) (w' : World) ↦
  ∃ (i : Int),
  e = Ending.returned (Value.int IntKind.i64 i) ∧
  LoopP
  (fun (s : Int) (w' : World) (next : Int → World → Prop) ↦
  br (decide (s < i))
  (CallV Go.Proofs.Try.prog (28 : Nat)
  [Value.pointer (some (Addr.mk b_2 (0 : Nat) none)), Value.int IntKind.i64 (2 : Int)] w'
  fun (e : Ending) (w' : World) ↦
  ∃ (i : Int),
  e = Ending.returned (Value.int IntKind.i64 i) ∧
  ∀ (b : Nat) (w1 : World),
  New w'
  (Obj.cells #[Value.int IntKind.i64 (0 : Int), Value.string (ByteArray.mk #[])]
  (58 : Nat))
  b w1 →
  ∃ (w1_3 : World),
  St Go.Proofs.Try.prog (58 : Nat) w1 (Addr.mk b (0 : Nat) none)
  (Value.agg #[Value.int IntKind.i64 i, Value.string (ByteArray.mk #[])]) w1_3 ∧
  CallV Go.Proofs.Try.prog (28 : Nat)
  [Value.pointer (some (Addr.mk b_2 (0 : Nat) none)),
  Value.int IntKind.i64 (2 : Int)]
  w1_3 fun (e : Ending) (w' : World) ↦
  ∃ (i : Int),
  e = Ending.returned (Value.int IntKind.i64 i) ∧
  CallV Go.Proofs.Try.prog (29 : Nat)
  [Value.pointer (some (Addr.mk b_2 (0 : Nat) none)),
  Value.int IntKind.i64 i]
  w' fun (e : Ending) (w' : World) ↦
  ∃ (s_1 : ByteArray),
  e = Ending.returned (Value.string s_1) ∧
  ∃ (w1 : World),
  St Go.Proofs.Try.prog (9 : Nat) w' (Addr.mk b (1 : Nat) none)
  (Value.string s_1) w1 ∧
  ∃ (a : Option Addr),
  ∃ (l : Nat),
  ∃ (c : Nat),
  Ld Go.Proofs.Try.prog (32 : Nat) w1
  (Addr.mk b_3 (7 : Nat) none) (Value.slice a l c) ∧
  ∃ (i : Int),
  ∃ (s_2 : ByteArray),
  Ld Go.Proofs.Try.prog (58 : Nat) w1
  (Addr.mk b (0 : Nat) none)
  (Value.agg
  #[Value.int IntKind.i64 i,
  Value.string s_2]) ∧
  ∀ (b : Nat) (w1_4 : World),
  New w1
  (Obj.cells
  #[Value.int IntKind.i64 i,
  Value.string s_2]
  (58 : Nat))
  b w1_4 →
  ∃ (a_2 : Option Addr),
  ∃ (n : Nat),
  ∃ (m : Nat),
  ∃ (w1 : World),
  App Go.Proofs.Try.prog
  #[(32 : Nat), (32 : Nat)]
  (32 : Nat) w1_4
  (Value.slice a l c)
  (Value.slice
  (some
  (Addr.mk b (0 : Nat) none))
  (1 : Nat) (1 : Nat))
  (Value.slice a_2 n m) w1 ∧
  ∃ (w1_5 : World),
  St Go.Proofs.Try.prog (32 : Nat) w1
  (Addr.mk b_3 (7 : Nat) none)
  (Value.slice a_2 n m) w1_5 ∧
  inR IntKind.i64
  (s + (1 : Int)) ∧
  next (s + (1 : Int)) w1_5)
  (∃ (i : Int),
  ∃ (i_4 : Int),
  ∃ (i_5 : Int),
  ∃ (i_6 : Int),
  ∃ (i_7 : Int),
  ∃ (i_8 : Int),
  ∃ (s : ByteArray),
  ∃ (a : Option Addr),
  ∃ (l : Nat),
  ∃ (c : Nat),
  Ld Go.Proofs.Try.prog (34 : Nat) w' (Addr.mk b_3 (0 : Nat) none)
  (Value.agg
  #[Value.int IntKind.i64 i, Value.int IntKind.i64 i_4,
  Value.int IntKind.i64 i_5, Value.int IntKind.i64 i_6,
  Value.int IntKind.i64 i_7, Value.int IntKind.i64 i_8,
  Value.string s, Value.slice a l c]) ∧
  CallV Go.Proofs.Try.prog (11 : Nat)
  [Value.agg
  #[Value.int IntKind.i64 i, Value.int IntKind.i64 i_4,
  Value.int IntKind.i64 i_5, Value.int IntKind.i64 i_6,
  Value.int IntKind.i64 i_7, Value.int IntKind.i64 i_8,
  Value.string s, Value.slice a l c]]
  w' fun (e : Ending) (w' : World) ↦
  ∃ (a : Option Addr),
  ∃ (l : Nat),
  ∃ (c : Nat),
  ∃ (i : Int),
  e =
  Ending.returned
  (Value.tuple
  #[Value.slice a l c, Value.int IntKind.i64 i]) ∧
  JoinP
  (fun (s : Bool) (w' : World) ↦
  br s
  (∃ (w1 : World),
  St Go.Proofs.Try.prog (34 : Nat) w'
  (Addr.mk b (0 : Nat) none)
  (Value.agg
  #[Value.int IntKind.i64 (0 : Int),
  Value.int IntKind.i64 (0 : Int),
  Value.int IntKind.i64 (0 : Int),
  Value.int IntKind.i64 (0 : Int),
  Value.int IntKind.i64 (0 : Int),
  Value.int IntKind.i64 (0 : Int),
  Value.string (ByteArray.mk #[]),
  Value.slice none (0 : Nat) (0 : Nat)])
  w1 ∧
  ∃ (i : Int),
  ∃ (i_9 : Int),
  ∃ (i_10 : Int),
  ∃ (i_11 : Int),
  ∃ (i_12 : Int),
  ∃ (i_13 : Int),
  ∃ (s : ByteArray),
  ∃ (a : Option Addr),
  ∃ (l : Nat),
  ∃ (c : Nat),
  Ld Go.Proofs.Try.prog (34 : Nat)
  w1
  (Addr.mk b (0 : Nat) none)
  (Value.agg
  #[Value.int IntKind.i64
  i,
  Value.int IntKind.i64
  i_9,
  Value.int IntKind.i64
  i_10,
  Value.int IntKind.i64
  i_11,
  Value.int IntKind.i64
  i_12,
  Value.int IntKind.i64
  i_13,
  Value.string s,
  Value.slice a l c]) ∧
  R
  (Ending.returned
  (Value.tuple
  #[Value.agg
  #[Value.int
  IntKind.i64 i,
  Value.int
  IntKind.i64
  i_9,
  Value.int
  IntKind.i64
  i_10,
  Value.int
  IntKind.i64
  i_11,
  Value.int
  IntKind.i64
  i_12,
  Value.int
  IntKind.i64
  i_13,
  Value.string s,
  Value.slice a l
  c],
  Value.int
  IntKind.i64
  (160 : Int)]))
  w1)
  (LoopP
  (fun (s : Int) (w' : World)
  (next : Int → World → Prop) ↦
  br (decide (s < (↑ln : Int)))
  (onP a fun (a : Addr) ↦
  ((0 : Int) ≤ s ∧ s < (↑l : Int)) ∧
  ∃ (s_1 : ByteArray),
  Ld Go.Proofs.Try.prog (9 : Nat)
  (World.drew w')
  (Addr.add a (Int.toNat s * (1 : Nat)))
  (Value.string s_1) ∧
  onP la fun (a : Addr) ↦
  ((0 : Int) ≤ s ∧ s < (↑ln : Int)) ∧
  ∃ (s_2 : ByteArray),
  Ld Go.Proofs.Try.prog (9 : Nat)
  (World.drew w')
  (Addr.add a
  (Int.toNat s * (1 : Nat)))
  (Value.string s_2) ∧
  br (!decide (s_1 = s_2))
  (∃ (w1 : World),
  St Go.Proofs.Try.prog
  (34 : Nat)
  (World.drew w')
  (Addr.mk b (0 : Nat)
  none)
  (Value.agg
  #[Value.int
  IntKind.i64
  (0 : Int),
  Value.int
  IntKind.i64
  (0 : Int),
  Value.int
  IntKind.i64
  (0 : Int),
  Value.int
  IntKind.i64
  (0 : Int),
  Value.int
  IntKind.i64
  (0 : Int),
  Value.int
  IntKind.i64
  (0 : Int),
  Value.string
  (ByteArray.mk
  #[]),
  Value.slice none
  (0 : Nat)
  (0 : Nat)])
  w1 ∧
  ∃ (i : Int),
  ∃ (i_9 : Int),
  ∃ (i_10 : Int),
  ∃ (i_11 : Int),
  ∃ (i_12 : Int),
  ∃ (i_13 : Int),
  ∃ (s :
  ByteArray),
  ∃ (a :
  Option
  Addr),
  ∃ (l :
  Nat),
  ∃ (c :
  Nat),
  Ld
  Go.Proofs.Try.prog
  (34 :
  Nat)
  w1
  (Addr.mk
  b
  (0 :
  Nat)
  none)
  (Value.agg
  #[Value.int
  IntKind.i64
  i,
  Value.int
  IntKind.i64
  i_9,
  Value.int
  IntKind.i64
  i_10,
  Value.int
  IntKind.i64
  i_11,
  Value.int
  IntKind.i64
  i_12,
  Value.int
  IntKind.i64
  i_13,
  Value.string
  s,
  Value.slice
  a
  l
  c]) ∧
  R
  (Ending.returned
  (Value.tuple
  #[Value.agg
  #[Value.int
  IntKind.i64
  i,
  Value.int
  IntKind.i64
  i_9,
  Value.int
  IntKind.i64
  i_10,
  Value.int
  IntKind.i64
  i_11,
  Value.int
  IntKind.i64
  i_12,
  Value.int
  IntKind.i64
  i_13,
  Value.string
  s,
  Value.slice
  a
  l
  c],
  Value.int
  IntKind.i64
  (160 :
  Int)]))
  w1)
  (inR IntKind.i64
  (s + (1 : Int)) ∧
  next (s + (1 : Int))
  (World.drew w')))
  (∃ (i : Int),
  ∃ (i_9 : Int),
  ∃ (i_10 : Int),
  ∃ (i_11 : Int),
  ∃ (i_12 : Int),
  ∃ (i_13 : Int),
  ∃ (s : ByteArray),
  ∃ (a : Option Addr),
  ∃ (l : Nat),
  ∃ (c : Nat),
  Ld Go.Proofs.Try.prog
  (34 : Nat) w'
  (Addr.mk b_3 (0 : Nat)
  none)
  (Value.agg
  #[Value.int
  IntKind.i64 i,
  Value.int
  IntKind.i64 i_9,
  Value.int
  IntKind.i64 i_10,
  Value.int
  IntKind.i64 i_11,
  Value.int
  IntKind.i64 i_12,
  Value.int
  IntKind.i64 i_13,
  Value.string s,
  Value.slice a l
  c]) ∧
  ∃ (w1 : World),
  St Go.Proofs.Try.prog
  (34 : Nat) w'
  (Addr.mk b (0 : Nat)
  none)
  (Value.agg
  #[Value.int
  IntKind.i64 i,
  Value.int
  IntKind.i64
  i_9,
  Value.int
  IntKind.i64
  i_10,
  Value.int
  IntKind.i64
  i_11,
  Value.int
  IntKind.i64
  i_12,
  Value.int
  IntKind.i64
  i_13,
  Value.string s,
  Value.slice a l
  c])
  w1 ∧
  ∃ (i : Int),
  ∃ (i_14 : Int),
  ∃ (i_15 : Int),
  ∃ (i_16 : Int),
  ∃ (i_17 :
  Int),
  ∃ (i_18 :
  Int),
  ∃ (s :
  ByteArray),
  ∃ (a :
  Option
  Addr),
  ∃ (l :
  Nat),
  ∃ (c
  :
  Nat),
  Ld
  Go.Proofs.Try.prog
  (34 :
  Nat)
  w1
  (Addr.mk
  b
  (0 :
  Nat)
  none)
  (Value.agg
  #[Value.int
  IntKind.i64
  i,
  Value.int
  IntKind.i64
  i_14,
  Value.int
  IntKind.i64
  i_15,
  Value.int
  IntKind.i64
  i_16,
  Value.int
  IntKind.i64
  i_17,
  Value.int
  IntKind.i64
  i_18,
  Value.string
  s,
  Value.slice
  a
  l
  c]) ∧
  R
  (Ending.returned
  (Value.tuple
  #[Value.agg
  #[Value.int
  IntKind.i64
  i,
  Value.int
  IntKind.i64
  i_14,
  Value.int
  IntKind.i64
  i_15,
  Value.int
  IntKind.i64
  i_16,
  Value.int
  IntKind.i64
  i_17,
  Value.int
  IntKind.i64
  i_18,
  Value.string
  s,
  Value.slice
  a
  l
  c],
  Value.int
  IntKind.i64
  (0 :
  Int)]))
  w1))
  (0 : Int) w'))
  fun (J : Bool → World → Prop) ↦
  ∃ (b : Bool),
  Ld Go.Proofs.Try.prog (4 : Nat) w'
  (Addr.mk b_2 (1 : Nat) none) (Value.bool b) ∧
  br b (J true w')
  (∃ (a : Option Addr),
  ∃ (l_1 : Nat),
  ∃ (c : Nat),
  Ld Go.Proofs.Try.prog (53 : Nat) w'
  (Addr.mk b_2 (0 : Nat) none)
  (Value.slice a l_1 c) ∧
  br (decide ((0 : Int) < (↑l_1 : Int)))
  (J true w')
  (br (!decide (i = (0 : Int))) (J true w')
  (J (!decide ((↑l : Int) = (↑ln : Int)))
  w')))))
  (0 : Int) w')
theorem decode.eq (la : Option Addr) (ln : Nat) (lc : Nat) (w : World) (R : Ending → World → Prop) : bodyV Go.Proofs.Try.prog decode.an Go.Proofs.Try.f17 [.slice la ln lc] w R = decode.vc la ln lc w R := by kernel_rfl
theorem decode.ok (la : Option Addr) (ln : Nat) (lc : Nat) (w : World) (R : Ending → World → Prop) (h : decode.vc la ln lc w R) : Calls Go.Proofs.Try.prog 17 #[.slice la ln lc] w R :=
  calls_of_bodyV noNum (an := decode.an) (args := [.slice la ln lc]) Go.Proofs.Try.func17 (by kernel_rfl) ((decode.eq la ln lc w R).mpr h)

/-- incunable/incunableref16.number -/
def rnumber.an : An := { wraps := [], loops := [(3, [(0, .inl .i64), (6, .inl .i64)])], joins := [] }
def rnumber.vc (n : Int) (long : Int) (w : World) (R : Ending → World → Prop) : Prop :=
  ∃ (a : Option Addr),
  ∃ (n_1 : Nat),
  ∃ (m : Nat),
  ∃ (w1 : World),
  MkS Go.Proofs.Try.prog (53 : Nat) w (Value.int IntKind.i64 long) (Value.int IntKind.i64 long) (Value.slice a n_1 m) w1 ∧
  inR IntKind.i64 (long - (1 : Int)) ∧
  LoopP
  (fun (s : Int × Int) (w' : World) (next : Int × Int → World → Prop) ↦
  br (decide ((0 : Int) ≤ Prod.snd s))
  ((256 : Int) ≠ (0 : Int) ∧
  onP a fun (a : Addr) ↦
  ((0 : Int) ≤ Prod.snd s ∧ Prod.snd s < (↑n_1 : Int)) ∧
  ∃ (w1 : World),
  St Go.Proofs.Try.prog (5 : Nat) w' (Addr.add a (Int.toNat (Prod.snd s) * (1 : Nat))) (Value.int IntKind.u8 (IntKind.wrap IntKind.u8 (Int.tmod (Prod.fst s) (256 : Int)))) w1 ∧
  (256 : Int) ≠ (0 : Int) ∧
  inR IntKind.i64 (Int.tdiv (Prod.fst s) (256 : Int)) ∧ inR IntKind.i64 (Prod.snd s - (1 : Int)) ∧ next (Int.tdiv (Prod.fst s) (256 : Int), Prod.snd s - (1 : Int)) w1)
  (∃ (s : ByteArray), B2S Go.Proofs.Try.prog (53 : Nat) (9 : Nat) w' (Value.slice a n_1 m) (Value.string s) ∧ R (Ending.returned (Value.string s)) w'))
  (n, long - (1 : Int)) w1
theorem rnumber.eq (n : Int) (long : Int) (w : World) (R : Ending → World → Prop) : bodyV Go.Proofs.Try.prog rnumber.an Go.Proofs.Try.f25 [.int .i64 n, .int .i64 long] w R = rnumber.vc n long w R := by kernel_rfl
theorem rnumber.ok (n : Int) (long : Int) (w : World) (R : Ending → World → Prop) (h : rnumber.vc n long w R) : Calls Go.Proofs.Try.prog 25 #[.int .i64 n, .int .i64 long] w R :=
  calls_of_bodyV noNum (an := rnumber.an) (args := [.int .i64 n, .int .i64 long]) Go.Proofs.Try.func25 (by kernel_rfl) ((rnumber.eq n long w R).mpr h)

/-- incunable/incunableref16.Right -/
def rright.an : An := { wraps := [], loops := [(8, [(3, .inl .i64)]), (13, [(4, .inl .i64)])], joins := [] }
def rright.vc (r_Id : Int) (r_Parent : Int) (r_Kind : Int) (r_Name : Int) (r_From : Int) (r_To : Int) (r_Text : ByteArray) (r_Attrsa : Option Addr) (r_Attrsn : Nat) (r_Attrsc : Nat) (w : World) (R : Ending → World → Prop) : Prop :=
  ∀ (b : Nat) (w1 : World),
  New w
  (Obj.cells
  #[Value.int IntKind.i64 r_Id, Value.int IntKind.i64 r_Parent, Value.int IntKind.i64 r_Kind, Value.int IntKind.i64 r_Name, Value.int IntKind.i64 r_From, Value.int IntKind.i64 r_To,
  Value.string r_Text, Value.slice r_Attrsa r_Attrsn r_Attrsc]
  (24 : Nat))
  b w1 →
  ∃ (i : Int),
  Ld Go.Proofs.Try.prog (3 : Nat) w1 (Addr.mk b (0 : Nat) none) (Value.int IntKind.i64 i) ∧
  br (decide (i < (1 : Int))) (R (Ending.returned (Value.bool false)) w1)
  (∃ (i : Int),
  Ld Go.Proofs.Try.prog (3 : Nat) w1 (Addr.mk b (0 : Nat) none) (Value.int IntKind.i64 i) ∧
  br (decide ((2147483647 : Int) < i)) (R (Ending.returned (Value.bool false)) w1)
  (∃ (i : Int),
  Ld Go.Proofs.Try.prog (3 : Nat) w1 (Addr.mk b (1 : Nat) none) (Value.int IntKind.i64 i) ∧
  br (decide (i < (0 : Int))) (R (Ending.returned (Value.bool false)) w1)
  (∃ (i : Int),
  Ld Go.Proofs.Try.prog (3 : Nat) w1 (Addr.mk b (1 : Nat) none) (Value.int IntKind.i64 i) ∧
  br (decide ((2147483647 : Int) < i)) (R (Ending.returned (Value.bool false)) w1)
  (∃ (i : Int),
  Ld Go.Proofs.Try.prog (3 : Nat) w1 (Addr.mk b (4 : Nat) none) (Value.int IntKind.i64 i) ∧
  br (decide (i < (0 : Int))) (R (Ending.returned (Value.bool false)) w1)
  (∃ (i : Int),
  Ld Go.Proofs.Try.prog (3 : Nat) w1 (Addr.mk b (5 : Nat) none) (Value.int IntKind.i64 i) ∧
  ∃ (i_1 : Int),
  Ld Go.Proofs.Try.prog (3 : Nat) w1 (Addr.mk b (4 : Nat) none) (Value.int IntKind.i64 i_1) ∧
  br (decide (i ≤ i_1)) (R (Ending.returned (Value.bool false)) w1)
  (∃ (i : Int),
  Ld Go.Proofs.Try.prog (3 : Nat) w1 (Addr.mk b (5 : Nat) none) (Value.int IntKind.i64 i) ∧
  br (decide ((4611686018427387904 : Int) < i)) (R (Ending.returned (Value.bool false)) w1)
  (∃ (i : Int),
  Ld Go.Proofs.Try.prog (3 : Nat) w1 (Addr.mk b (2 : Nat) none) (Value.int IntKind.i64 i) ∧
  br (decide (i = (2 : Int)))
  (∃ (i : Int),
  Ld Go.Proofs.Try.prog (3 : Nat) w1 (Addr.mk b (3 : Nat) none) (Value.int IntKind.i64 i) ∧
  br (decide (i = (0 : Int)))
  (∃ (a : Option Addr),
  ∃ (l : Nat),
  ∃ (c : Nat),
  Ld Go.Proofs.Try.prog (22 : Nat) w1 (Addr.mk b (7 : Nat) none) (Value.slice a l c) ∧
  br (decide ((↑l : Int) = (0 : Int)))
  (∃ (s : ByteArray),
  Ld Go.Proofs.Try.prog (9 : Nat) w1 (Addr.mk b (6 : Nat) none) (Value.string s) ∧
  R (Ending.returned (Value.bool (decide ((↑(ByteArray.size s) : Int) ≤ (1500 : Int))))) w1)
  (R (Ending.returned (Value.bool false)) w1))
  (R (Ending.returned (Value.bool false)) w1))
  (∃ (i : Int),
  Ld Go.Proofs.Try.prog (3 : Nat) w1 (Addr.mk b (2 : Nat) none) (Value.int IntKind.i64 i) ∧
  br (!decide (i = (1 : Int))) (R (Ending.returned (Value.bool false)) w1)
  (∃ (i : Int),
  Ld Go.Proofs.Try.prog (3 : Nat) w1 (Addr.mk b (3 : Nat) none) (Value.int IntKind.i64 i) ∧
  br (decide (i < (1 : Int))) (R (Ending.returned (Value.bool false)) w1)
  (∃ (i : Int),
  Ld Go.Proofs.Try.prog (3 : Nat) w1 (Addr.mk b (3 : Nat) none) (Value.int IntKind.i64 i) ∧
  br (decide ((4000 : Int) < i)) (R (Ending.returned (Value.bool false)) w1)
  (∃ (s : ByteArray),
  Ld Go.Proofs.Try.prog (9 : Nat) w1 (Addr.mk b (6 : Nat) none) (Value.string s) ∧
  br (!decide (s = ByteArray.mk #[])) (R (Ending.returned (Value.bool false)) w1)
  (∃ (a : Option Addr),
  ∃ (l : Nat),
  ∃ (c : Nat),
  Ld Go.Proofs.Try.prog (22 : Nat) w1 (Addr.mk b (7 : Nat) none) (Value.slice a l c) ∧
  br (decide ((20 : Int) < (↑l : Int))) (R (Ending.returned (Value.bool false)) w1)
  (LoopP
  (fun (s : Int) (w' : World) (next : Int → World → Prop) ↦
  ∃ (a : Option Addr),
  ∃ (l : Nat),
  ∃ (c : Nat),
  Ld Go.Proofs.Try.prog (22 : Nat) w' (Addr.mk b (7 : Nat) none) (Value.slice a l c) ∧
  br (decide (s < (↑l : Int)))
  (∃ (a : Option Addr),
  ∃ (l : Nat),
  ∃ (c : Nat),
  Ld Go.Proofs.Try.prog (22 : Nat) w' (Addr.mk b (7 : Nat) none) (Value.slice a l c) ∧
  onP a fun (a : Addr) ↦
  ((0 : Int) ≤ s ∧ s < (↑l : Int)) ∧
  ∃ (i : Int),
  Ld Go.Proofs.Try.prog (3 : Nat) w' (Addr.add a (Int.toNat s * (2 : Nat)))
  (Value.int IntKind.i64 i) ∧
  br (decide (i < (1 : Int))) (R (Ending.returned (Value.bool false)) w')
  (∃ (a : Option Addr),
  ∃ (l : Nat),
  ∃ (c : Nat),
  Ld Go.Proofs.Try.prog (22 : Nat) w' (Addr.mk b (7 : Nat) none)
  (Value.slice a l c) ∧
  onP a fun (a : Addr) ↦
  ((0 : Int) ≤ s ∧ s < (↑l : Int)) ∧
  ∃ (i : Int),
  Ld Go.Proofs.Try.prog (3 : Nat) w'
  (Addr.add a (Int.toNat s * (2 : Nat)))
  (Value.int IntKind.i64 i) ∧
  br (decide ((4000 : Int) < i))
  (R (Ending.returned (Value.bool false)) w')
  (∃ (a : Option Addr),
  ∃ (l : Nat),
  ∃ (c : Nat),
  Ld Go.Proofs.Try.prog (22 : Nat) w'
  (Addr.mk b (7 : Nat) none) (Value.slice a l c) ∧
  onP a fun (a : Addr) ↦
  ((0 : Int) ≤ s ∧ s < (↑l : Int)) ∧
  ∃ (s_1 : ByteArray),
  Ld Go.Proofs.Try.prog (9 : Nat) w'
  (Addr.add
  (Addr.add a (Int.toNat s * (2 : Nat)))
  (1 : Nat))
  (Value.string s_1) ∧
  br
  (decide
  ((1500 : Int) <
  (↑(ByteArray.size s_1) : Int)))
  (R (Ending.returned (Value.bool false))
  w')
  (LoopP
  (fun (s_2 : Int) (w' : World)
  (next_1 : Int → World → Prop) ↦
  br (decide (s_2 < s))
  (∃ (a : Option Addr),
  ∃ (l : Nat),
  ∃ (c : Nat),
  Ld Go.Proofs.Try.prog (22 : Nat)
  (World.drew w')
  (Addr.mk b (7 : Nat) none)
  (Value.slice a l c) ∧
  onP a fun (a : Addr) ↦
  ((0 : Int) ≤ s_2 ∧
  s_2 < (↑l : Int)) ∧
  ∃ (i : Int),
  Ld Go.Proofs.Try.prog
  (3 : Nat)
  (World.drew w')
  (Addr.add a
  (Int.toNat s_2 *
  (2 : Nat)))
  (Value.int
  IntKind.i64 i) ∧
  ∃ (a : Option Addr),
  ∃ (l : Nat),
  ∃ (c : Nat),
  Ld
  Go.Proofs.Try.prog
  (22 : Nat)
  (World.drew
  w')
  (Addr.mk b
  (7 :
  Nat)
  none)
  (Value.slice
  a l c) ∧
  onP a
  fun
  (a :
  Addr) ↦
  ((0 :
  Int) ≤
  s ∧
  s <
  (↑l :
  Int)) ∧
  ∃ (i_2 :
  Int),
  Ld
  Go.Proofs.Try.prog
  (3 :
  Nat)
  (World.drew
  w')
  (Addr.add
  a
  (Int.toNat
  s *
  (2 :
  Nat)))
  (Value.int
  IntKind.i64
  i_2) ∧
  br
  (decide
  (i =
  i_2))
  (R
  (Ending.returned
  (Value.bool
  false))
  (World.drew
  w'))
  (inR
  IntKind.i64
  (s_2 +
  (1 :
  Int)) ∧
  next_1
  (s_2 +
  (1 :
  Int))
  (World.drew
  w')))
  (inR IntKind.i64 (s + (1 : Int)) ∧
  next (s + (1 : Int)) w'))
  (0 : Int) w'))))
  (R (Ending.returned (Value.bool true)) w'))
  (0 : Int) w1)))))))))))))
theorem rright.eq (r_Id : Int) (r_Parent : Int) (r_Kind : Int) (r_Name : Int) (r_From : Int) (r_To : Int) (r_Text : ByteArray) (r_Attrsa : Option Addr) (r_Attrsn : Nat) (r_Attrsc : Nat) (w : World) (R : Ending → World → Prop) : bodyV Go.Proofs.Try.prog rright.an Go.Proofs.Try.f15 [.agg #[.int .i64 r_Id, .int .i64 r_Parent, .int .i64 r_Kind, .int .i64 r_Name, .int .i64 r_From, .int .i64 r_To, .string r_Text, .slice r_Attrsa r_Attrsn r_Attrsc]] w R = rright.vc r_Id r_Parent r_Kind r_Name r_From r_To r_Text r_Attrsa r_Attrsn r_Attrsc w R := by kernel_rfl
theorem rright.ok (r_Id : Int) (r_Parent : Int) (r_Kind : Int) (r_Name : Int) (r_From : Int) (r_To : Int) (r_Text : ByteArray) (r_Attrsa : Option Addr) (r_Attrsn : Nat) (r_Attrsc : Nat) (w : World) (R : Ending → World → Prop) (h : rright.vc r_Id r_Parent r_Kind r_Name r_From r_To r_Text r_Attrsa r_Attrsn r_Attrsc w R) : Calls Go.Proofs.Try.prog 15 #[.agg #[.int .i64 r_Id, .int .i64 r_Parent, .int .i64 r_Kind, .int .i64 r_Name, .int .i64 r_From, .int .i64 r_To, .string r_Text, .slice r_Attrsa r_Attrsn r_Attrsc]] w R :=
  calls_of_bodyV noNum (an := rright.an) (args := [.agg #[.int .i64 r_Id, .int .i64 r_Parent, .int .i64 r_Kind, .int .i64 r_Name, .int .i64 r_From, .int .i64 r_To, .string r_Text, .slice r_Attrsa r_Attrsn r_Attrsc]]) Go.Proofs.Try.func15 (by kernel_rfl) ((rright.eq r_Id r_Parent r_Kind r_Name r_From r_To r_Text r_Attrsa r_Attrsn r_Attrsc w R).mpr h)

/-- incunable/incunableref16.Encode -/
def rencode.an : An := { wraps := [], loops := [(5, [(4, .inr 1), (5, .inl .i64)]), (9, [(6, .inl .i64)]), (13, [(7, .inr 3), (8, .inl .i64)])], joins := [] }
def rencode.vc (r_Id : Int) (r_Parent : Int) (r_Kind : Int) (r_Name : Int) (r_From : Int) (r_To : Int) (r_Text : ByteArray) (r_Attrsa : Option Addr) (r_Attrsn : Nat) (r_Attrsc : Nat) (w : World) (R : Ending → World → Prop) : Prop :=
  ∀ (b : Nat) (w1 : World),
  New w
  (Obj.cells
  #[Value.int IntKind.i64 r_Id, Value.int IntKind.i64 r_Parent, Value.int IntKind.i64 r_Kind, Value.int IntKind.i64 r_Name, Value.int IntKind.i64 r_From, Value.int IntKind.i64 r_To,
  Value.string r_Text, Value.slice r_Attrsa r_Attrsn r_Attrsc]
  (24 : Nat))
  b w1 →
  ∃ (i : Int),
  ∃ (i_1 : Int),
  ∃ (i_2 : Int),
  ∃ (i_3 : Int),
  ∃ (i_4 : Int),
  ∃ (i_5 : Int),
  ∃ (s : ByteArray),
  ∃ (a : Option Addr),
  ∃ (l : Nat),
  ∃ (c : Nat),
  Ld Go.Proofs.Try.prog (24 : Nat) w1 (Addr.mk b (0 : Nat) none)
  (Value.agg
  #[Value.int IntKind.i64 i, Value.int IntKind.i64 i_1, Value.int IntKind.i64 i_2, Value.int IntKind.i64 i_3, Value.int IntKind.i64 i_4, Value.int IntKind.i64 i_5,
  Value.string s, Value.slice a l c]) ∧
  CallV Go.Proofs.Try.prog (15 : Nat)
  [Value.agg
  #[Value.int IntKind.i64 i, Value.int IntKind.i64 i_1, Value.int IntKind.i64 i_2, Value.int IntKind.i64 i_3, Value.int IntKind.i64 i_4, Value.int IntKind.i64 i_5,
  Value.string s, Value.slice a l c]]
  w1 fun (e : Ending) (w' : World) ↦
  ∃ (b_1 : Bool),
  e = Ending.returned (Value.bool b_1) ∧
  br (!b_1) (R (Ending.returned (Value.tuple #[Value.slice none (0 : Nat) (0 : Nat), Value.int IntKind.i64 (160 : Int)])) w')
  (∃ (i : Int),
  Ld Go.Proofs.Try.prog (3 : Nat) (World.drew w') (Addr.mk b (0 : Nat) none) (Value.int IntKind.i64 i) ∧
  ∃ (i_6 : Int),
  Ld Go.Proofs.Try.prog (3 : Nat) (World.drew w') (Addr.mk b (1 : Nat) none) (Value.int IntKind.i64 i_6) ∧
  ∃ (i_7 : Int),
  Ld Go.Proofs.Try.prog (3 : Nat) (World.drew w') (Addr.mk b (4 : Nat) none) (Value.int IntKind.i64 i_7) ∧
  ∃ (i_8 : Int),
  Ld Go.Proofs.Try.prog (3 : Nat) (World.drew w') (Addr.mk b (5 : Nat) none) (Value.int IntKind.i64 i_8) ∧
  ∃ (i_9 : Int),
  Ld Go.Proofs.Try.prog (3 : Nat) (World.drew w') (Addr.mk b (2 : Nat) none) (Value.int IntKind.i64 i_9) ∧
  ∃ (i_10 : Int),
  Ld Go.Proofs.Try.prog (3 : Nat) (World.drew w') (Addr.mk b (3 : Nat) none) (Value.int IntKind.i64 i_10) ∧
  ∃ (s : ByteArray),
  Ld Go.Proofs.Try.prog (9 : Nat) (World.drew w') (Addr.mk b (6 : Nat) none) (Value.string s) ∧
  ∃ (s_1 : ByteArray),
  Ld Go.Proofs.Try.prog (9 : Nat) (World.drew w') (Addr.mk b (6 : Nat) none) (Value.string s_1) ∧
  ∃ (a : Option Addr),
  ∃ (l : Nat),
  ∃ (c : Nat),
  Ld Go.Proofs.Try.prog (22 : Nat) (World.drew w') (Addr.mk b (7 : Nat) none) (Value.slice a l c) ∧
  CallV Go.Proofs.Try.prog (25 : Nat) [Value.int IntKind.i64 i, Value.int IntKind.i64 (4 : Int)] (World.drew w')
  fun (e : Ending) (w' : World) ↦
  ∃ (s_2 : ByteArray),
  e = Ending.returned (Value.string s_2) ∧
  Ld Go.Proofs.Try.prog (22 : Nat) w' (Addr.mk b (7 : Nat) none) (Value.slice a l c) ∧
  Ld Go.Proofs.Try.prog (9 : Nat) w' (Addr.mk b (6 : Nat) none) (Value.string s_1) ∧
  Ld Go.Proofs.Try.prog (9 : Nat) w' (Addr.mk b (6 : Nat) none) (Value.string s) ∧
  Ld Go.Proofs.Try.prog (3 : Nat) w' (Addr.mk b (3 : Nat) none) (Value.int IntKind.i64 i_10) ∧
  Ld Go.Proofs.Try.prog (3 : Nat) w' (Addr.mk b (2 : Nat) none) (Value.int IntKind.i64 i_9) ∧
  Ld Go.Proofs.Try.prog (3 : Nat) w' (Addr.mk b (5 : Nat) none) (Value.int IntKind.i64 i_8) ∧
  Ld Go.Proofs.Try.prog (3 : Nat) w' (Addr.mk b (4 : Nat) none) (Value.int IntKind.i64 i_7) ∧
  Ld Go.Proofs.Try.prog (3 : Nat) w' (Addr.mk b (1 : Nat) none) (Value.int IntKind.i64 i_6) ∧
  CallV Go.Proofs.Try.prog (25 : Nat) [Value.int IntKind.i64 i_6, Value.int IntKind.i64 (4 : Int)] w'
  fun (e : Ending) (w' : World) ↦
  ∃ (s_3 : ByteArray),
  e = Ending.returned (Value.string s_3) ∧
  Ld Go.Proofs.Try.prog (22 : Nat) w' (Addr.mk b (7 : Nat) none) (Value.slice a l c) ∧
  Ld Go.Proofs.Try.prog (9 : Nat) w' (Addr.mk b (6 : Nat) none) (Value.string s_1) ∧
  Ld Go.Proofs.Try.prog (9 : Nat) w' (Addr.mk b (6 : Nat) none) (Value.string s) ∧
  Ld Go.Proofs.Try.prog (3 : Nat) w' (Addr.mk b (3 : Nat) none) (Value.int IntKind.i64 i_10) ∧
  Ld Go.Proofs.Try.prog (3 : Nat) w' (Addr.mk b (2 : Nat) none) (Value.int IntKind.i64 i_9) ∧
  Ld Go.Proofs.Try.prog (3 : Nat) w' (Addr.mk b (5 : Nat) none) (Value.int IntKind.i64 i_8) ∧
  Ld Go.Proofs.Try.prog (3 : Nat) w' (Addr.mk b (4 : Nat) none)
  (Value.int IntKind.i64 i_7) ∧
  (↑(ByteArray.size s_2 + ByteArray.size s_3) : Int) ≤ (9223372036854775807 : Int) ∧
  CallV Go.Proofs.Try.prog (25 : Nat)
  [Value.int IntKind.i64 i_7, Value.int IntKind.i64 (8 : Int)] w'
  fun (e : Ending) (w' : World) ↦
  ∃ (s_4 : ByteArray),
  e = Ending.returned (Value.string s_4) ∧
  Ld Go.Proofs.Try.prog (22 : Nat) w' (Addr.mk b (7 : Nat) none)
  (Value.slice a l c) ∧
  Ld Go.Proofs.Try.prog (9 : Nat) w' (Addr.mk b (6 : Nat) none)
  (Value.string s_1) ∧
  Ld Go.Proofs.Try.prog (9 : Nat) w' (Addr.mk b (6 : Nat) none)
  (Value.string s) ∧
  Ld Go.Proofs.Try.prog (3 : Nat) w' (Addr.mk b (3 : Nat) none)
  (Value.int IntKind.i64 i_10) ∧
  Ld Go.Proofs.Try.prog (3 : Nat) w' (Addr.mk b (2 : Nat) none)
  (Value.int IntKind.i64 i_9) ∧
  Ld Go.Proofs.Try.prog (3 : Nat) w' (Addr.mk b (5 : Nat) none)
  (Value.int IntKind.i64 i_8) ∧
  (↑(ByteArray.size (s_2 ++ s_3) + ByteArray.size s_4) : Int) ≤
  (9223372036854775807 : Int) ∧
  CallV Go.Proofs.Try.prog (25 : Nat)
  [Value.int IntKind.i64 i_8, Value.int IntKind.i64 (8 : Int)]
  w' fun (e : Ending) (w' : World) ↦
  ∃ (s_5 : ByteArray),
  e = Ending.returned (Value.string s_5) ∧
  Ld Go.Proofs.Try.prog (22 : Nat) w'
  (Addr.mk b (7 : Nat) none) (Value.slice a l c) ∧
  Ld Go.Proofs.Try.prog (9 : Nat) w'
  (Addr.mk b (6 : Nat) none) (Value.string s_1) ∧
  Ld Go.Proofs.Try.prog (9 : Nat) w'
  (Addr.mk b (6 : Nat) none) (Value.string s) ∧
  Ld Go.Proofs.Try.prog (3 : Nat) w'
  (Addr.mk b (3 : Nat) none)
  (Value.int IntKind.i64 i_10) ∧
  Ld Go.Proofs.Try.prog (3 : Nat) w'
  (Addr.mk b (2 : Nat) none)
  (Value.int IntKind.i64 i_9) ∧
  (↑(ByteArray.size (s_2 ++ s_3 ++ s_4) +
  ByteArray.size s_5) :
  Int) ≤
  (9223372036854775807 : Int) ∧
  CallV Go.Proofs.Try.prog (25 : Nat)
  [Value.int IntKind.i64 i_9,
  Value.int IntKind.i64 (1 : Int)]
  w' fun (e : Ending) (w' : World) ↦
  ∃ (s_6 : ByteArray),
  e = Ending.returned (Value.string s_6) ∧
  Ld Go.Proofs.Try.prog (22 : Nat) w'
  (Addr.mk b (7 : Nat) none)
  (Value.slice a l c) ∧
  Ld Go.Proofs.Try.prog (9 : Nat) w'
  (Addr.mk b (6 : Nat) none)
  (Value.string s_1) ∧
  Ld Go.Proofs.Try.prog (9 : Nat) w'
  (Addr.mk b (6 : Nat) none)
  (Value.string s) ∧
  Ld Go.Proofs.Try.prog (3 : Nat) w'
  (Addr.mk b (3 : Nat) none)
  (Value.int IntKind.i64
  i_10) ∧
  (↑(ByteArray.size
  (s_2 ++ s_3 ++
  s_4 ++
  s_5) +
  ByteArray.size
  s_6) :
  Int) ≤
  (9223372036854775807 :
  Int) ∧
  CallV Go.Proofs.Try.prog
  (25 : Nat)
  [Value.int IntKind.i64
  i_10,
  Value.int IntKind.i64
  (2 : Int)]
  w'
  fun (e : Ending)
  (w' : World) ↦
  ∃ (s_7 : ByteArray),
  e =
  Ending.returned
  (Value.string
  s_7) ∧
  Ld Go.Proofs.Try.prog
  (22 : Nat) w'
  (Addr.mk b
  (7 : Nat) none)
  (Value.slice a l
  c) ∧
  Ld Go.Proofs.Try.prog
  (9 : Nat) w'
  (Addr.mk b
  (6 : Nat)
  none)
  (Value.string
  s_1) ∧
  Ld Go.Proofs.Try.prog
  (9 : Nat) w'
  (Addr.mk b
  (6 : Nat)
  none)
  (Value.string
  s) ∧
  (↑(ByteArray.size
  (s_2 ++
  s_3 ++
  s_4 ++
  s_5 ++
  s_6) +
  ByteArray.size
  s_7) :
  Int) ≤
  (9223372036854775807 :
  Int) ∧
  CallV
  Go.Proofs.Try.prog
  (25 : Nat)
  [Value.int
  IntKind.i64
  (↑(ByteArray.size
  s) :
  Int),
  Value.int
  IntKind.i64
  (2 :
  Int)]
  w'
  fun
  (e :
  Ending)
  (w' :
  World) ↦
  ∃ (s :
  ByteArray),
  e =
  Ending.returned
  (Value.string
  s) ∧
  Ld
  Go.Proofs.Try.prog
  (22 :
  Nat)
  w'
  (Addr.mk
  b
  (7 :
  Nat)
  none)
  (Value.slice
  a
  l
  c) ∧
  Ld
  Go.Proofs.Try.prog
  (9 :
  Nat)
  w'
  (Addr.mk
  b
  (6 :
  Nat)
  none)
  (Value.string
  s_1) ∧
  (↑(ByteArray.size
  (s_2 ++
  s_3 ++
  s_4 ++
  s_5 ++
  s_6 ++
  s_7) +
  ByteArray.size
  s) :
  Int) ≤
  (9223372036854775807 :
  Int) ∧
  (↑(ByteArray.size
  (s_2 ++
  s_3 ++
  s_4 ++
  s_5 ++
  s_6 ++
  s_7 ++
  s) +
  ByteArray.size
  s_1) :
  Int) ≤
  (9223372036854775807 :
  Int) ∧
  CallV
  Go.Proofs.Try.prog
  (25 :
  Nat)
  [Value.int
  IntKind.i64
  (↑l :
  Int),
  Value.int
  IntKind.i64
  (1 :
  Int)]
  w'
  fun
  (e :
  Ending)
  (w' :
  World) ↦
  ∃
  (s_8
  :
  ByteArray),
  e =
  Ending.returned
  (Value.string
  s_8) ∧
  Ld
  Go.Proofs.Try.prog
  (9 :
  Nat)
  w'
  (Addr.mk
  b
  (6 :
  Nat)
  none)
  (Value.string
  s_1) ∧
  (↑(ByteArray.size
  (s_2 ++
  s_3 ++
  s_4 ++
  s_5 ++
  s_6 ++
  s_7 ++
  s ++
  s_1) +
  ByteArray.size
  s_8) :
  Int) ≤
  (9223372036854775807 :
  Int) ∧
  LoopP
  (fun
  (s :
  ByteArray ×
  Int)
  (w' :
  World)
  (next :
  ByteArray ×
  Int →
  World →
  Prop) ↦
  ∃
  (a
  :
  Option
  Addr),
  ∃
  (l
  :
  Nat),
  ∃
  (c
  :
  Nat),
  Ld
  Go.Proofs.Try.prog
  (22 :
  Nat)
  w'
  (Addr.mk
  b
  (7 :
  Nat)
  none)
  (Value.slice
  a
  l
  c) ∧
  br
  (decide
  (Prod.snd
  s <
  (↑l :
  Int)))
  (∃
  (a
  :
  Option
  Addr),
  ∃
  (l
  :
  Nat),
  ∃
  (c
  :
  Nat),
  Ld
  Go.Proofs.Try.prog
  (22 :
  Nat)
  (World.drew
  w')
  (Addr.mk
  b
  (7 :
  Nat)
  none)
  (Value.slice
  a
  l
  c) ∧
  onP
  a
  fun
  (a :
  Addr) ↦
  ((0 :
  Int) ≤
  Prod.snd
  s ∧
  Prod.snd
  s <
  (↑l :
  Int)) ∧
  ∃
  (i
  :
  Int),
  Ld
  Go.Proofs.Try.prog
  (3 :
  Nat)
  (World.drew
  w')
  (Addr.add
  a
  (Int.toNat
  (Prod.snd
  s) *
  (2 :
  Nat)))
  (Value.int
  IntKind.i64
  i) ∧
  ∃
  (a
  :
  Option
  Addr),
  ∃
  (l
  :
  Nat),
  ∃
  (c
  :
  Nat),
  Ld
  Go.Proofs.Try.prog
  (22 :
  Nat)
  (World.drew
  w')
  (Addr.mk
  b
  (7 :
  Nat)
  none)
  (Value.slice
  a
  l
  c) ∧
  onP
  a
  fun
  (a_1 :
  Addr) ↦
  ((0 :
  Int) ≤
  Prod.snd
  s ∧
  Prod.snd
  s <
  (↑l :
  Int)) ∧
  ∃
  (s_9
  :
  ByteArray),
  Ld
  Go.Proofs.Try.prog
  (9 :
  Nat)
  (World.drew
  w')
  (Addr.add
  (Addr.add
  a_1
  (Int.toNat
  (Prod.snd
  s) *
  (2 :
  Nat)))
  (1 :
  Nat))
  (Value.string
  s_9) ∧
  ∃
  (a_2
  :
  Option
  Addr),
  ∃
  (l_1
  :
  Nat),
  ∃
  (c_1
  :
  Nat),
  Ld
  Go.Proofs.Try.prog
  (22 :
  Nat)
  (World.drew
  w')
  (Addr.mk
  b
  (7 :
  Nat)
  none)
  (Value.slice
  a_2
  l_1
  c_1) ∧
  onP
  a_2
  fun
  (a_3 :
  Addr) ↦
  ((0 :
  Int) ≤
  Prod.snd
  s ∧
  Prod.snd
  s <
  (↑l_1 :
  Int)) ∧
  ∃
  (s_10
  :
  ByteArray),
  Ld
  Go.Proofs.Try.prog
  (9 :
  Nat)
  (World.drew
  w')
  (Addr.add
  (Addr.add
  a_3
  (Int.toNat
  (Prod.snd
  s) *
  (2 :
  Nat)))
  (1 :
  Nat))
  (Value.string
  s_10) ∧
  CallV
  Go.Proofs.Try.prog
  (25 :
  Nat)
  [Value.int
  IntKind.i64
  i,
  Value.int
  IntKind.i64
  (2 :
  Int)]
  (World.drew
  w')
  fun
  (e :
  Ending)
  (w' :
  World) ↦
  ∃
  (s_11
  :
  ByteArray),
  e =
  Ending.returned
  (Value.string
  s_11) ∧
  Ld
  Go.Proofs.Try.prog
  (9 :
  Nat)
  w'
  (Addr.add
  (Addr.add
  a_3
  (Int.toNat
  (Prod.snd
  s) *
  (2 :
  Nat)))
  (1 :
  Nat))
  (Value.string
  s_10) ∧
  Ld
  Go.Proofs.Try.prog
  (22 :
  Nat)
  w'
  (Addr.mk
  b
  (7 :
  Nat)
  none)
  (Value.slice
  a_2
  l_1
  c_1) ∧
  Ld
  Go.Proofs.Try.prog
  (9 :
  Nat)
  w'
  (Addr.add
  (Addr.add
  a_1
  (Int.toNat
  (Prod.snd
  s) *
  (2 :
  Nat)))
  (1 :
  Nat))
  (Value.string
  s_9) ∧
  Ld
  Go.Proofs.Try.prog
  (22 :
  Nat)
  w'
  (Addr.mk
  b
  (7 :
  Nat)
  none)
  (Value.slice
  a
  l
  c) ∧
  (↑(ByteArray.size
  (Prod.fst
  s) +
  ByteArray.size
  s_11) :
  Int) ≤
  (9223372036854775807 :
  Int) ∧
  CallV
  Go.Proofs.Try.prog
  (25 :
  Nat)
  [Value.int
  IntKind.i64
  (↑(ByteArray.size
  s_9) :
  Int),
  Value.int
  IntKind.i64
  (2 :
  Int)]
  w'
  fun
  (e :
  Ending)
  (w' :
  World) ↦
  ∃
  (s_12
  :
  ByteArray),
  e =
  Ending.returned
  (Value.string
  s_12) ∧
  Ld
  Go.Proofs.Try.prog
  (9 :
  Nat)
  w'
  (Addr.add
  (Addr.add
  a_3
  (Int.toNat
  (Prod.snd
  s) *
  (2 :
  Nat)))
  (1 :
  Nat))
  (Value.string
  s_10) ∧
  Ld
  Go.Proofs.Try.prog
  (22 :
  Nat)
  w'
  (Addr.mk
  b
  (7 :
  Nat)
  none)
  (Value.slice
  a_2
  l_1
  c_1) ∧
  (↑(ByteArray.size
  (Prod.fst
  s ++
  s_11) +
  ByteArray.size
  s_12) :
  Int) ≤
  (9223372036854775807 :
  Int) ∧
  (↑(ByteArray.size
  (Prod.fst
  s ++
  s_11 ++
  s_12) +
  ByteArray.size
  s_10) :
  Int) ≤
  (9223372036854775807 :
  Int) ∧
  inR
  IntKind.i64
  (Prod.snd
  s +
  (1 :
  Int)) ∧
  next
  (Prod.fst
  s ++
  s_11 ++
  s_12 ++
  s_10,
  Prod.snd
  s +
  (1 :
  Int))
  w')
  (LoopP
  (fun
  (s_9 :
  Int)
  (w' :
  World)
  (next :
  Int →
  World →
  Prop) ↦
  inR
  IntKind.i64
  ((900 :
  Int) *
  s_9) ∧
  br
  (decide
  ((900 :
  Int) *
  s_9 <
  (↑(ByteArray.size
  (Prod.fst
  s)) :
  Int)))
  (inR
  IntKind.i64
  (s_9 +
  (1 :
  Int)) ∧
  next
  (s_9 +
  (1 :
  Int))
  w')
  (LoopP
  (fun
  (s_10 :
  (Option
  Addr ×
  Nat ×
  Nat) ×
  Int)
  (w' :
  World)
  (next :
  (Option
  Addr ×
  Nat ×
  Nat) ×
  Int →
  World →
  Prop) ↦
  br
  (decide
  (Prod.snd
  s_10 <
  s_9))
  (∃
  (i
  :
  Int),
  Ld
  Go.Proofs.Try.prog
  (3 :
  Nat)
  (World.drew
  w')
  (Addr.mk
  b
  (0 :
  Nat)
  none)
  (Value.int
  IntKind.i64
  i) ∧
  inR
  IntKind.i64
  ((900 :
  Int) *
  Prod.snd
  s_10) ∧
  inR
  IntKind.i64
  ((900 :
  Int) *
  Prod.snd
  s_10) ∧
  inR
  IntKind.i64
  ((900 :
  Int) *
  Prod.snd
  s_10 +
  (900 :
  Int)) ∧
  ((0 :
  Int) ≤
  (900 :
  Int) *
  Prod.snd
  s_10 ∧
  (900 :
  Int) *
  Prod.snd
  s_10 ≤
  min
  ((900 :
  Int) *
  Prod.snd
  s_10 +
  (900 :
  Int))
  (↑(ByteArray.size
  (Prod.fst
  s)) :
  Int) ∧
  min
  ((900 :
  Int) *
  Prod.snd
  s_10 +
  (900 :
  Int))
  (↑(ByteArray.size
  (Prod.fst
  s)) :
  Int) ≤
  (↑(ByteArray.size
  (Prod.fst
  s)) :
  Int)) ∧
  CallV
  Go.Proofs.Try.prog
  (25 :
  Nat)
  [Value.int
  IntKind.i64
  i,
  Value.int
  IntKind.i64
  (4 :
  Int)]
  (World.drew
  w')
  fun
  (e :
  Ending)
  (w' :
  World) ↦
  ∃
  (s_11
  :
  ByteArray),
  e =
  Ending.returned
  (Value.string
  s_11) ∧
  CallV
  Go.Proofs.Try.prog
  (25 :
  Nat)
  [Value.int
  IntKind.i64
  (Prod.snd
  s_10),
  Value.int
  IntKind.i64
  (1 :
  Int)]
  w'
  fun
  (e :
  Ending)
  (w' :
  World) ↦
  ∃
  (s_12
  :
  ByteArray),
  e =
  Ending.returned
  (Value.string
  s_12) ∧
  (↑(ByteArray.size
  s_11 +
  ByteArray.size
  s_12) :
  Int) ≤
  (9223372036854775807 :
  Int) ∧
  CallV
  Go.Proofs.Try.prog
  (25 :
  Nat)
  [Value.int
  IntKind.i64
  s_9,
  Value.int
  IntKind.i64
  (1 :
  Int)]
  w'
  fun
  (e :
  Ending)
  (w' :
  World) ↦
  ∃
  (s_13
  :
  ByteArray),
  e =
  Ending.returned
  (Value.string
  s_13) ∧
  (↑(ByteArray.size
  (s_11 ++
  s_12) +
  ByteArray.size
  s_13) :
  Int) ≤
  (9223372036854775807 :
  Int) ∧
  (↑(ByteArray.size
  (s_11 ++
  s_12 ++
  s_13) +
  ByteArray.size
  (ByteArray.extract
  (Prod.fst
  s)
  (Int.toNat
  ((900 :
  Int) *
  Prod.snd
  s_10))
  (Int.toNat
  (min
  ((900 :
  Int) *
  Prod.snd
  s_10 +
  (900 :
  Int))
  (↑(ByteArray.size
  (Prod.fst
  s)) :
  Int))))) :
  Int) ≤
  (9223372036854775807 :
  Int) ∧
  ∀
  (b :
  Nat)
  (w1 :
  World),
  New
  w'
  (Obj.cells
  #[Value.string
  (s_11 ++
  s_12 ++
  s_13 ++
  ByteArray.extract
  (Prod.fst
  s)
  (Int.toNat
  ((900 :
  Int) *
  Prod.snd
  s_10))
  (Int.toNat
  (min
  ((900 :
  Int) *
  Prod.snd
  s_10 +
  (900 :
  Int))
  (↑(ByteArray.size
  (Prod.fst
  s)) :
  Int))))]
  (9 :
  Nat))
  b
  w1 →
  ∃
  (a
  :
  Option
  Addr),
  ∃
  (n
  :
  Nat),
  ∃
  (m
  :
  Nat),
  ∃
  (w1_1
  :
  World),
  App
  Go.Proofs.Try.prog
  #[(26 :
  Nat),
  (26 :
  Nat)]
  (26 :
  Nat)
  w1
  (Value.slice
  (Prod.fst
  (Prod.fst
  s_10))
  (Prod.fst
  (Prod.snd
  (Prod.fst
  s_10)))
  (Prod.snd
  (Prod.snd
  (Prod.fst
  s_10))))
  (Value.slice
  (some
  (Addr.mk
  b
  (0 :
  Nat)
  none))
  (1 :
  Nat)
  (1 :
  Nat))
  (Value.slice
  a
  n
  m)
  w1_1 ∧
  inR
  IntKind.i64
  (Prod.snd
  s_10 +
  (1 :
  Int)) ∧
  next
  ((a,
  n,
  m),
  Prod.snd
  s_10 +
  (1 :
  Int))
  w1_1)
  (R
  (Ending.returned
  (Value.tuple
  #[Value.slice
  (Prod.fst
  (Prod.fst
  s_10))
  (Prod.fst
  (Prod.snd
  (Prod.fst
  s_10)))
  (Prod.snd
  (Prod.snd
  (Prod.fst
  s_10))),
  Value.int
  IntKind.i64
  (0 :
  Int)]))
  w'))
  ((none,
  (0 :
  Nat),
  (0 :
  Nat)),
  (0 :
  Int))
  w'))
  (0 :
  Int)
  w'))
  (s_2 ++
  s_3 ++
  s_4 ++
  s_5 ++
  s_6 ++
  s_7 ++
  s ++
  s_1 ++
  s_8,
  (0 :
  Int))
  w')
theorem rencode.eq (r_Id : Int) (r_Parent : Int) (r_Kind : Int) (r_Name : Int) (r_From : Int) (r_To : Int) (r_Text : ByteArray) (r_Attrsa : Option Addr) (r_Attrsn : Nat) (r_Attrsc : Nat) (w : World) (R : Ending → World → Prop) : bodyV Go.Proofs.Try.prog rencode.an Go.Proofs.Try.f13 [.agg #[.int .i64 r_Id, .int .i64 r_Parent, .int .i64 r_Kind, .int .i64 r_Name, .int .i64 r_From, .int .i64 r_To, .string r_Text, .slice r_Attrsa r_Attrsn r_Attrsc]] w R = rencode.vc r_Id r_Parent r_Kind r_Name r_From r_To r_Text r_Attrsa r_Attrsn r_Attrsc w R := by kernel_rfl
theorem rencode.ok (r_Id : Int) (r_Parent : Int) (r_Kind : Int) (r_Name : Int) (r_From : Int) (r_To : Int) (r_Text : ByteArray) (r_Attrsa : Option Addr) (r_Attrsn : Nat) (r_Attrsc : Nat) (w : World) (R : Ending → World → Prop) (h : rencode.vc r_Id r_Parent r_Kind r_Name r_From r_To r_Text r_Attrsa r_Attrsn r_Attrsc w R) : Calls Go.Proofs.Try.prog 13 #[.agg #[.int .i64 r_Id, .int .i64 r_Parent, .int .i64 r_Kind, .int .i64 r_Name, .int .i64 r_From, .int .i64 r_To, .string r_Text, .slice r_Attrsa r_Attrsn r_Attrsc]] w R :=
  calls_of_bodyV noNum (an := rencode.an) (args := [.agg #[.int .i64 r_Id, .int .i64 r_Parent, .int .i64 r_Kind, .int .i64 r_Name, .int .i64 r_From, .int .i64 r_To, .string r_Text, .slice r_Attrsa r_Attrsn r_Attrsc]]) Go.Proofs.Try.func13 (by kernel_rfl) ((rencode.eq r_Id r_Parent r_Kind r_Name r_From r_To r_Text r_Attrsa r_Attrsn r_Attrsc w R).mpr h)

/-- incunable/incunableref16.SamePieces -/
def samePieces.an : An := { wraps := [], loops := [(4, [(5, .inl .i64)])], joins := [] }
def samePieces.vc (aa : Option Addr) (an : Nat) (ac : Nat) (ba : Option Addr) (bn : Nat) (bc : Nat) (w : World) (R : Ending → World → Prop) : Prop :=
  br (!decide ((↑an : Int) = (↑bn : Int))) (R (Ending.returned (Value.bool false)) w)
  (LoopP
  (fun (s : Int) (w' : World) (next : Int → World → Prop) ↦
  br (decide (s < (↑an : Int)))
  (onP aa fun (a : Addr) ↦
  ((0 : Int) ≤ s ∧ s < (↑an : Int)) ∧
  ∃ (s_1 : ByteArray),
  Ld Go.Proofs.Try.prog (9 : Nat) (World.drew w') (Addr.add a (Int.toNat s * (1 : Nat))) (Value.string s_1) ∧
  onP ba fun (a : Addr) ↦
  ((0 : Int) ≤ s ∧ s < (↑bn : Int)) ∧
  ∃ (s_2 : ByteArray),
  Ld Go.Proofs.Try.prog (9 : Nat) (World.drew w') (Addr.add a (Int.toNat s * (1 : Nat))) (Value.string s_2) ∧
  br (!decide (s_1 = s_2)) (R (Ending.returned (Value.bool false)) (World.drew w')) (inR IntKind.i64 (s + (1 : Int)) ∧ next (s + (1 : Int)) (World.drew w')))
  (R (Ending.returned (Value.bool true)) w'))
  (0 : Int) w)
theorem samePieces.eq (aa : Option Addr) (an : Nat) (ac : Nat) (ba : Option Addr) (bn : Nat) (bc : Nat) (w : World) (R : Ending → World → Prop) : bodyV Go.Proofs.Try.prog samePieces.an Go.Proofs.Try.f16 [.slice aa an ac, .slice ba bn bc] w R = samePieces.vc aa an ac ba bn bc w R := by kernel_rfl
theorem samePieces.ok (aa : Option Addr) (an : Nat) (ac : Nat) (ba : Option Addr) (bn : Nat) (bc : Nat) (w : World) (R : Ending → World → Prop) (h : samePieces.vc aa an ac ba bn bc w R) : Calls Go.Proofs.Try.prog 16 #[.slice aa an ac, .slice ba bn bc] w R :=
  calls_of_bodyV noNum (an := samePieces.an) (args := [.slice aa an ac, .slice ba bn bc]) Go.Proofs.Try.func16 (by kernel_rfl) ((samePieces.eq aa an ac ba bn bc w R).mpr h)

/-- incunable/incunableref16.Decode -/
def rdecode.an : An := { wraps := [], loops := [(3, [(4, .inr 1), (5, .inl .i64)]), (17, [(8, .inl .i64), (10, .inl .i64)]), (26, [(14, .inl .i64)])], joins := [(11, [(6, .inr 2)]), (22, [])] }
def rdecode.vc (la : Option Addr) (ln : Nat) (lc : Nat) (w : World) (R : Ending → World → Prop) : Prop :=
  ∀ (b : Nat) (w1 : World),
  New w
  (Obj.cells
  #[Value.int IntKind.i64 (0 : Int), Value.int IntKind.i64 (0 : Int), Value.int IntKind.i64 (0 : Int), Value.int IntKind.i64 (0 : Int), Value.int IntKind.i64 (0 : Int),
  Value.int IntKind.i64 (0 : Int), Value.string (ByteArray.mk #[]), Value.slice none (0 : Nat) (0 : Nat)]
  (24 : Nat))
  b w1 →
  LoopP
  (fun (s : ByteArray × Int) (w' : World) (next : ByteArray × Int → World → Prop) ↦
  br (decide (Prod.snd s < (↑ln : Int)))
  (onP la fun (a : Addr) ↦
  ((0 : Int) ≤ Prod.snd s ∧ Prod.snd s < (↑ln : Int)) ∧
  ∃ (s_1 : ByteArray),
  Ld Go.Proofs.Try.prog (9 : Nat) w' (Addr.add a (Int.toNat (Prod.snd s) * (1 : Nat))) (Value.string s_1) ∧
  br (decide ((↑(ByteArray.size s_1) : Int) < (6 : Int)))
  (∃ (w1 : World),
  St Go.Proofs.Try.prog (24 : Nat) w' (Addr.mk b (0 : Nat) none)
  (Value.agg
  #[Value.int IntKind.i64 (0 : Int), Value.int IntKind.i64 (0 : Int), Value.int IntKind.i64 (0 : Int), Value.int IntKind.i64 (0 : Int), Value.int IntKind.i64 (0 : Int),
  Value.int IntKind.i64 (0 : Int), Value.string (ByteArray.mk #[]), Value.slice none (0 : Nat) (0 : Nat)])
  w1 ∧
  ∃ (i : Int),
  ∃ (i_1 : Int),
  ∃ (i_2 : Int),
  ∃ (i_3 : Int),
  ∃ (i_4 : Int),
  ∃ (i_5 : Int),
  ∃ (s : ByteArray),
  ∃ (a : Option Addr),
  ∃ (l : Nat),
  ∃ (c : Nat),
  Ld Go.Proofs.Try.prog (24 : Nat) w1 (Addr.mk b (0 : Nat) none)
  (Value.agg
  #[Value.int IntKind.i64 i, Value.int IntKind.i64 i_1, Value.int IntKind.i64 i_2, Value.int IntKind.i64 i_3, Value.int IntKind.i64 i_4,
  Value.int IntKind.i64 i_5, Value.string s, Value.slice a l c]) ∧
  R
  (Ending.returned
  (Value.tuple
  #[Value.agg
  #[Value.int IntKind.i64 i, Value.int IntKind.i64 i_1, Value.int IntKind.i64 i_2, Value.int IntKind.i64 i_3, Value.int IntKind.i64 i_4,
  Value.int IntKind.i64 i_5, Value.string s, Value.slice a l c],
  Value.int IntKind.i64 (160 : Int)]))
  w1)
  (onP la fun (a : Addr) ↦
  ((0 : Int) ≤ Prod.snd s ∧ Prod.snd s < (↑ln : Int)) ∧
  ∃ (s_2 : ByteArray),
  Ld Go.Proofs.Try.prog (9 : Nat) w' (Addr.add a (Int.toNat (Prod.snd s) * (1 : Nat))) (Value.string s_2) ∧
  ((0 : Int) ≤ (6 : Int) ∧ (6 : Int) ≤ (↑(ByteArray.size s_2) : Int)) ∧
  (↑(ByteArray.size (Prod.fst s) + ByteArray.size (ByteArray.extract s_2 (Int.toNat (6 : Int)) (ByteArray.size s_2))) : Int) ≤ (9223372036854775807 : Int) ∧
  inR IntKind.i64 (Prod.snd s + (1 : Int)) ∧ next (Prod.fst s ++ ByteArray.extract s_2 (Int.toNat (6 : Int)) (ByteArray.size s_2), Prod.snd s + (1 : Int)) w'))
  (br (decide ((↑(ByteArray.size (Prod.fst s)) : Int) < (30 : Int)))
  (∃ (w1 : World),
  St Go.Proofs.Try.prog (24 : Nat) w' (Addr.mk b (0 : Nat) none)
  (Value.agg
  #[Value.int IntKind.i64 (0 : Int), Value.int IntKind.i64 (0 : Int), Value.int IntKind.i64 (0 : Int), Value.int IntKind.i64 (0 : Int), Value.int IntKind.i64 (0 : Int),
  Value.int IntKind.i64 (0 : Int), Value.string (ByteArray.mk #[]), Value.slice none (0 : Nat) (0 : Nat)])
  w1 ∧
  ∃ (i : Int),
  ∃ (i_1 : Int),
  ∃ (i_2 : Int),
  ∃ (i_3 : Int),
  ∃ (i_4 : Int),
  ∃ (i_5 : Int),
  ∃ (s : ByteArray),
  ∃ (a : Option Addr),
  ∃ (l : Nat),
  ∃ (c : Nat),
  Ld Go.Proofs.Try.prog (24 : Nat) w1 (Addr.mk b (0 : Nat) none)
  (Value.agg
  #[Value.int IntKind.i64 i, Value.int IntKind.i64 i_1, Value.int IntKind.i64 i_2, Value.int IntKind.i64 i_3, Value.int IntKind.i64 i_4,
  Value.int IntKind.i64 i_5, Value.string s, Value.slice a l c]) ∧
  R
  (Ending.returned
  (Value.tuple
  #[Value.agg
  #[Value.int IntKind.i64 i, Value.int IntKind.i64 i_1, Value.int IntKind.i64 i_2, Value.int IntKind.i64 i_3, Value.int IntKind.i64 i_4,
  Value.int IntKind.i64 i_5, Value.string s, Value.slice a l c],
  Value.int IntKind.i64 (160 : Int)]))
  w1)
  (CallV Go.Proofs.Try.prog (30 : Nat) [Value.string (Prod.fst s), Value.int IntKind.i64 (8 : Int), Value.int IntKind.i64 (1 : Int)] w' fun (e : Ending) (w' : World) ↦
  ∃ (s_1 : ByteArray),
  e = Ending.returned (Value.string s_1) ∧
  br (!Op.bytesLess (Array.toList (ByteArray.data s_1)) (Array.toList (ByteArray.data (ByteArray.mk #[(128 : UInt8)]))))
  (∃ (w1 : World),
  St Go.Proofs.Try.prog (24 : Nat) w' (Addr.mk b (0 : Nat) none)
  (Value.agg
  #[Value.int IntKind.i64 (0 : Int), Value.int IntKind.i64 (0 : Int), Value.int IntKind.i64 (0 : Int), Value.int IntKind.i64 (0 : Int), Value.int IntKind.i64 (0 : Int),
  Value.int IntKind.i64 (0 : Int), Value.string (ByteArray.mk #[]), Value.slice none (0 : Nat) (0 : Nat)])
  w1 ∧
  ∃ (i : Int),
  ∃ (i_1 : Int),
  ∃ (i_2 : Int),
  ∃ (i_3 : Int),
  ∃ (i_4 : Int),
  ∃ (i_5 : Int),
  ∃ (s : ByteArray),
  ∃ (a : Option Addr),
  ∃ (l : Nat),
  ∃ (c : Nat),
  Ld Go.Proofs.Try.prog (24 : Nat) w1 (Addr.mk b (0 : Nat) none)
  (Value.agg
  #[Value.int IntKind.i64 i, Value.int IntKind.i64 i_1, Value.int IntKind.i64 i_2, Value.int IntKind.i64 i_3, Value.int IntKind.i64 i_4,
  Value.int IntKind.i64 i_5, Value.string s, Value.slice a l c]) ∧
  R
  (Ending.returned
  (Value.tuple
  #[Value.agg
  #[Value.int IntKind.i64 i, Value.int IntKind.i64 i_1, Value.int IntKind.i64 i_2, Value.int IntKind.i64 i_3, Value.int IntKind.i64 i_4,
  Value.int IntKind.i64 i_5, Value.string s, Value.slice a l c],
  Value.int IntKind.i64 (160 : Int)]))
  w1)
  (CallV Go.Proofs.Try.prog (30 : Nat) [Value.string (Prod.fst s), Value.int IntKind.i64 (16 : Int), Value.int IntKind.i64 (1 : Int)] w' fun (e : Ending) (w' : World) ↦
  ∃ (s_2 : ByteArray),
  e = Ending.returned (Value.string s_2) ∧
  br (!Op.bytesLess (Array.toList (ByteArray.data s_2)) (Array.toList (ByteArray.data (ByteArray.mk #[(128 : UInt8)]))))
  (∃ (w1 : World),
  St Go.Proofs.Try.prog (24 : Nat) w' (Addr.mk b (0 : Nat) none)
  (Value.agg
  #[Value.int IntKind.i64 (0 : Int), Value.int IntKind.i64 (0 : Int), Value.int IntKind.i64 (0 : Int), Value.int IntKind.i64 (0 : Int),
  Value.int IntKind.i64 (0 : Int), Value.int IntKind.i64 (0 : Int), Value.string (ByteArray.mk #[]), Value.slice none (0 : Nat) (0 : Nat)])
  w1 ∧
  ∃ (i : Int),
  ∃ (i_1 : Int),
  ∃ (i_2 : Int),
  ∃ (i_3 : Int),
  ∃ (i_4 : Int),
  ∃ (i_5 : Int),
  ∃ (s : ByteArray),
  ∃ (a : Option Addr),
  ∃ (l : Nat),
  ∃ (c : Nat),
  Ld Go.Proofs.Try.prog (24 : Nat) w1 (Addr.mk b (0 : Nat) none)
  (Value.agg
  #[Value.int IntKind.i64 i, Value.int IntKind.i64 i_1, Value.int IntKind.i64 i_2, Value.int IntKind.i64 i_3, Value.int IntKind.i64 i_4,
  Value.int IntKind.i64 i_5, Value.string s, Value.slice a l c]) ∧
  R
  (Ending.returned
  (Value.tuple
  #[Value.agg
  #[Value.int IntKind.i64 i, Value.int IntKind.i64 i_1, Value.int IntKind.i64 i_2, Value.int IntKind.i64 i_3, Value.int IntKind.i64 i_4,
  Value.int IntKind.i64 i_5, Value.string s, Value.slice a l c],
  Value.int IntKind.i64 (160 : Int)]))
  w1)
  (JoinP
  (fun (s_3 : Option Addr) (w' : World) ↦
  ((0 : Int) ≤ (27 : Int) ∧ (27 : Int) ≤ (29 : Int) ∧ (29 : Int) ≤ (↑(ByteArray.size (Prod.fst s)) : Int)) ∧
  CallV Go.Proofs.Try.prog (31 : Nat) [Value.string (ByteArray.extract (Prod.fst s) (Int.toNat (27 : Int)) (Int.toNat (29 : Int)))] w' fun (e : Ending) (w' : World) ↦
  ∃ (i : Int),
  e = Ending.returned (Value.int IntKind.i64 i) ∧
  CallV Go.Proofs.Try.prog (30 : Nat) [Value.string (Prod.fst s), Value.int IntKind.i64 (29 : Int), Value.int IntKind.i64 i] w' fun (e : Ending) (w' : World) ↦
  ∃ (s_4 : ByteArray),
  e = Ending.returned (Value.string s_4) ∧
  onP s_3 fun (a : Addr) ↦
  ∃ (w1 : World),
  St Go.Proofs.Try.prog (9 : Nat) w' (Addr.add a (6 : Nat)) (Value.string s_4) w1 ∧
  inR IntKind.i64 ((29 : Int) + i) ∧
  CallV Go.Proofs.Try.prog (30 : Nat) [Value.string (Prod.fst s), Value.int IntKind.i64 ((29 : Int) + i), Value.int IntKind.i64 (1 : Int)] w1
  fun (e : Ending) (w' : World) ↦
  ∃ (s_5 : ByteArray),
  e = Ending.returned (Value.string s_5) ∧
  CallV Go.Proofs.Try.prog (31 : Nat) [Value.string s_5] w' fun (e : Ending) (w' : World) ↦
  ∃ (i_1 : Int),
  e = Ending.returned (Value.int IntKind.i64 i_1) ∧
  inR IntKind.i64 ((29 : Int) + i + (1 : Int)) ∧
  JoinP
  (fun (s : PUnit) (w' : World) ↦
  ∃ (i : Int),
  ∃ (i_2 : Int),
  ∃ (i_3 : Int),
  ∃ (i_4 : Int),
  ∃ (i_5 : Int),
  ∃ (i_6 : Int),
  ∃ (s : ByteArray),
  ∃ (a : Option Addr),
  ∃ (l : Nat),
  ∃ (c : Nat),
  (onP s_3 fun (a_1 : Addr) ↦
  Ld Go.Proofs.Try.prog (24 : Nat) w' a_1
  (Value.agg
  #[Value.int IntKind.i64 i, Value.int IntKind.i64 i_2, Value.int IntKind.i64 i_3,
  Value.int IntKind.i64 i_4, Value.int IntKind.i64 i_5, Value.int IntKind.i64 i_6, Value.string s,
  Value.slice a l c])) ∧
  CallV Go.Proofs.Try.prog (13 : Nat)
  [Value.agg
  #[Value.int IntKind.i64 i, Value.int IntKind.i64 i_2, Value.int IntKind.i64 i_3,
  Value.int IntKind.i64 i_4, Value.int IntKind.i64 i_5, Value.int IntKind.i64 i_6, Value.string s,
  Value.slice a l c]]
  w' fun (e : Ending) (w' : World) ↦
  ∃ (a : Option Addr),
  ∃ (l : Nat),
  ∃ (c : Nat),
  ∃ (i : Int),
  e = Ending.returned (Value.tuple #[Value.slice a l c, Value.int IntKind.i64 i]) ∧
  br (!decide (i = (0 : Int)))
  (∃ (w1 : World),
  St Go.Proofs.Try.prog (24 : Nat) w' (Addr.mk b (0 : Nat) none)
  (Value.agg
  #[Value.int IntKind.i64 (0 : Int), Value.int IntKind.i64 (0 : Int),
  Value.int IntKind.i64 (0 : Int), Value.int IntKind.i64 (0 : Int),
  Value.int IntKind.i64 (0 : Int), Value.int IntKind.i64 (0 : Int),
  Value.string (ByteArray.mk #[]), Value.slice none (0 : Nat) (0 : Nat)])
  w1 ∧
  ∃ (i : Int),
  ∃ (i_7 : Int),
  ∃ (i_8 : Int),
  ∃ (i_9 : Int),
  ∃ (i_10 : Int),
  ∃ (i_11 : Int),
  ∃ (s : ByteArray),
  ∃ (a : Option Addr),
  ∃ (l : Nat),
  ∃ (c : Nat),
  Ld Go.Proofs.Try.prog (24 : Nat) w1 (Addr.mk b (0 : Nat) none)
  (Value.agg
  #[Value.int IntKind.i64 i, Value.int IntKind.i64 i_7,
  Value.int IntKind.i64 i_8, Value.int IntKind.i64 i_9,
  Value.int IntKind.i64 i_10, Value.int IntKind.i64 i_11,
  Value.string s, Value.slice a l c]) ∧
  R
  (Ending.returned
  (Value.tuple
  #[Value.agg
  #[Value.int IntKind.i64 i, Value.int IntKind.i64 i_7,
  Value.int IntKind.i64 i_8, Value.int IntKind.i64 i_9,
  Value.int IntKind.i64 i_10,
  Value.int IntKind.i64 i_11, Value.string s,
  Value.slice a l c],
  Value.int IntKind.i64 (160 : Int)]))
  w1)
  (br (!decide ((↑l : Int) = (↑ln : Int)))
  (∃ (w1 : World),
  St Go.Proofs.Try.prog (24 : Nat) w' (Addr.mk b (0 : Nat) none)
  (Value.agg
  #[Value.int IntKind.i64 (0 : Int), Value.int IntKind.i64 (0 : Int),
  Value.int IntKind.i64 (0 : Int), Value.int IntKind.i64 (0 : Int),
  Value.int IntKind.i64 (0 : Int), Value.int IntKind.i64 (0 : Int),
  Value.string (ByteArray.mk #[]), Value.slice none (0 : Nat) (0 : Nat)])
  w1 ∧
  ∃ (i : Int),
  ∃ (i_7 : Int),
  ∃ (i_8 : Int),
  ∃ (i_9 : Int),
  ∃ (i_10 : Int),
  ∃ (i_11 : Int),
  ∃ (s : ByteArray),
  ∃ (a : Option Addr),
  ∃ (l : Nat),
  ∃ (c : Nat),
  Ld Go.Proofs.Try.prog (24 : Nat) w1 (Addr.mk b (0 : Nat) none)
  (Value.agg
  #[Value.int IntKind.i64 i, Value.int IntKind.i64 i_7,
  Value.int IntKind.i64 i_8, Value.int IntKind.i64 i_9,
  Value.int IntKind.i64 i_10, Value.int IntKind.i64 i_11,
  Value.string s, Value.slice a l c]) ∧
  R
  (Ending.returned
  (Value.tuple
  #[Value.agg
  #[Value.int IntKind.i64 i, Value.int IntKind.i64 i_7,
  Value.int IntKind.i64 i_8,
  Value.int IntKind.i64 i_9,
  Value.int IntKind.i64 i_10,
  Value.int IntKind.i64 i_11, Value.string s,
  Value.slice a l c],
  Value.int IntKind.i64 (160 : Int)]))
  w1)
  (LoopP
  (fun (s : Int) (w' : World) (next : Int → World → Prop) ↦
  br (decide (s < (↑ln : Int)))
  (onP a fun (a : Addr) ↦
  ((0 : Int) ≤ s ∧ s < (↑l : Int)) ∧
  ∃ (s_6 : ByteArray),
  Ld Go.Proofs.Try.prog (9 : Nat) (World.drew w')
  (Addr.add a (Int.toNat s * (1 : Nat))) (Value.string s_6) ∧
  onP la fun (a : Addr) ↦
  ((0 : Int) ≤ s ∧ s < (↑ln : Int)) ∧
  ∃ (s_7 : ByteArray),
  Ld Go.Proofs.Try.prog (9 : Nat) (World.drew w')
  (Addr.add a (Int.toNat s * (1 : Nat))) (Value.string s_7) ∧
  br (!decide (s_6 = s_7))
  (∃ (w1 : World),
  St Go.Proofs.Try.prog (24 : Nat) (World.drew w')
  (Addr.mk b (0 : Nat) none)
  (Value.agg
  #[Value.int IntKind.i64 (0 : Int),
  Value.int IntKind.i64 (0 : Int),
  Value.int IntKind.i64 (0 : Int),
  Value.int IntKind.i64 (0 : Int),
  Value.int IntKind.i64 (0 : Int),
  Value.int IntKind.i64 (0 : Int),
  Value.string (ByteArray.mk #[]),
  Value.slice none (0 : Nat) (0 : Nat)])
  w1 ∧
  ∃ (i : Int),
  ∃ (i_7 : Int),
  ∃ (i_8 : Int),
  ∃ (i_9 : Int),
  ∃ (i_10 : Int),
  ∃ (i_11 : Int),
  ∃ (s : ByteArray),
  ∃ (a : Option Addr),
  ∃ (l : Nat),
  ∃ (c : Nat),
  Ld Go.Proofs.Try.prog (24 : Nat) w1
  (Addr.mk b (0 : Nat) none)
  (Value.agg
  #[Value.int IntKind.i64 i,
  Value.int IntKind.i64 i_7,
  Value.int IntKind.i64 i_8,
  Value.int IntKind.i64 i_9,
  Value.int IntKind.i64 i_10,
  Value.int IntKind.i64 i_11,
  Value.string s,
  Value.slice a l c]) ∧
  R
  (Ending.returned
  (Value.tuple
  #[Value.agg
  #[Value.int IntKind.i64 i,
  Value.int IntKind.i64 i_7,
  Value.int IntKind.i64 i_8,
  Value.int IntKind.i64 i_9,
  Value.int IntKind.i64 i_10,
  Value.int IntKind.i64 i_11,
  Value.string s,
  Value.slice a l c],
  Value.int IntKind.i64
  (160 : Int)]))
  w1)
  (inR IntKind.i64 (s + (1 : Int)) ∧
  next (s + (1 : Int)) (World.drew w')))
  (∃ (i : Int),
  ∃ (i_7 : Int),
  ∃ (i_8 : Int),
  ∃ (i_9 : Int),
  ∃ (i_10 : Int),
  ∃ (i_11 : Int),
  ∃ (s : ByteArray),
  ∃ (a : Option Addr),
  ∃ (l : Nat),
  ∃ (c : Nat),
  (onP s_3 fun (a_1 : Addr) ↦
  Ld Go.Proofs.Try.prog (24 : Nat) w' a_1
  (Value.agg
  #[Value.int IntKind.i64 i, Value.int IntKind.i64 i_7,
  Value.int IntKind.i64 i_8, Value.int IntKind.i64 i_9,
  Value.int IntKind.i64 i_10,
  Value.int IntKind.i64 i_11, Value.string s,
  Value.slice a l c])) ∧
  ∃ (w1 : World),
  St Go.Proofs.Try.prog (24 : Nat) w' (Addr.mk b (0 : Nat) none)
  (Value.agg
  #[Value.int IntKind.i64 i, Value.int IntKind.i64 i_7,
  Value.int IntKind.i64 i_8,
  Value.int IntKind.i64 i_9,
  Value.int IntKind.i64 i_10,
  Value.int IntKind.i64 i_11, Value.string s,
  Value.slice a l c])
  w1 ∧
  ∃ (i : Int),
  ∃ (i_12 : Int),
  ∃ (i_13 : Int),
  ∃ (i_14 : Int),
  ∃ (i_15 : Int),
  ∃ (i_16 : Int),
  ∃ (s : ByteArray),
  ∃ (a : Option Addr),
  ∃ (l : Nat),
  ∃ (c : Nat),
  Ld Go.Proofs.Try.prog (24 : Nat) w1
  (Addr.mk b (0 : Nat) none)
  (Value.agg
  #[Value.int IntKind.i64 i,
  Value.int IntKind.i64 i_12,
  Value.int IntKind.i64 i_13,
  Value.int IntKind.i64 i_14,
  Value.int IntKind.i64 i_15,
  Value.int IntKind.i64 i_16,
  Value.string s,
  Value.slice a l c]) ∧
  R
  (Ending.returned
  (Value.tuple
  #[Value.agg
  #[Value.int IntKind.i64 i,
  Value.int IntKind.i64
  i_12,
  Value.int IntKind.i64
  i_13,
  Value.int IntKind.i64
  i_14,
  Value.int IntKind.i64
  i_15,
  Value.int IntKind.i64
  i_16,
  Value.string s,
  Value.slice a l c],
  Value.int IntKind.i64
  (0 : Int)]))
  w1))
  (0 : Int) w')))
  fun (J : PUnit → World → Prop) ↦
  LoopP
  (fun (s_6 : Int × Int) (w' : World) (next : Int × Int → World → Prop) ↦
  br (decide (Prod.snd s_6 < i_1))
  (br (decide (Prod.fst s_6 < (↑(ByteArray.size (Prod.fst s)) : Int)))
  (inR IntKind.i64 (Prod.fst s_6 + (2 : Int)) ∧
  CallV Go.Proofs.Try.prog (30 : Nat)
  [Value.string (Prod.fst s), Value.int IntKind.i64 (Prod.fst s_6 + (2 : Int)), Value.int IntKind.i64 (2 : Int)] w'
  fun (e : Ending) (w' : World) ↦
  ∃ (s_7 : ByteArray),
  e = Ending.returned (Value.string s_7) ∧
  CallV Go.Proofs.Try.prog (31 : Nat) [Value.string s_7] w' fun (e : Ending) (w' : World) ↦
  ∃ (i : Int),
  e = Ending.returned (Value.int IntKind.i64 i) ∧
  onP s_3 fun (a : Addr) ↦
  ∃ (a_1 : Option Addr),
  ∃ (l : Nat),
  ∃ (c : Nat),
  Ld Go.Proofs.Try.prog (22 : Nat) (World.drew w') (Addr.add a (7 : Nat)) (Value.slice a_1 l c) ∧
  inR IntKind.i64 (Prod.fst s_6 + (4 : Int)) ∧
  CallV Go.Proofs.Try.prog (30 : Nat)
  [Value.string (Prod.fst s), Value.int IntKind.i64 (Prod.fst s_6),
  Value.int IntKind.i64 (2 : Int)]
  (World.drew w') fun (e : Ending) (w' : World) ↦
  ∃ (s_8 : ByteArray),
  e = Ending.returned (Value.string s_8) ∧
  Ld Go.Proofs.Try.prog (22 : Nat) w' (Addr.add a (7 : Nat)) (Value.slice a_1 l c) ∧
  CallV Go.Proofs.Try.prog (31 : Nat) [Value.string s_8] w' fun (e : Ending) (w' : World) ↦
  ∃ (i_2 : Int),
  e = Ending.returned (Value.int IntKind.i64 i_2) ∧
  Ld Go.Proofs.Try.prog (22 : Nat) w' (Addr.add a (7 : Nat)) (Value.slice a_1 l c) ∧
  CallV Go.Proofs.Try.prog (30 : Nat)
  [Value.string (Prod.fst s), Value.int IntKind.i64 (Prod.fst s_6 + (4 : Int)),
  Value.int IntKind.i64 i]
  w' fun (e : Ending) (w' : World) ↦
  ∃ (s : ByteArray),
  e = Ending.returned (Value.string s) ∧
  Ld Go.Proofs.Try.prog (22 : Nat) w' (Addr.add a (7 : Nat))
  (Value.slice a_1 l c) ∧
  ∀ (b : Nat) (w1 : World),
  New w'
  (Obj.cells #[Value.int IntKind.i64 i_2, Value.string s]
  (52 : Nat))
  b w1 →
  Ld Go.Proofs.Try.prog (22 : Nat) w1 (Addr.add a (7 : Nat))
  (Value.slice a_1 l c) ∧
  ∃ (a : Option Addr),
  ∃ (n : Nat),
  ∃ (m : Nat),
  ∃ (w1_1 : World),
  App Go.Proofs.Try.prog #[(22 : Nat), (22 : Nat)] (22 : Nat)
  w1 (Value.slice a_1 l c)
  (Value.slice (some (Addr.mk b (0 : Nat) none))
  (1 : Nat) (1 : Nat))
  (Value.slice a n m) w1_1 ∧
  onP s_3 fun (a_3 : Addr) ↦
  ∃ (w1 : World),
  St Go.Proofs.Try.prog (22 : Nat) w1_1
  (Addr.add a_3 (7 : Nat)) (Value.slice a n m)
  w1 ∧
  inR IntKind.i64 (Prod.fst s_6 + (4 : Int)) ∧
  inR IntKind.i64 (Prod.fst s_6 + (4 : Int) + i) ∧
  inR IntKind.i64 (Prod.snd s_6 + (1 : Int)) ∧
  next
  (Prod.fst s_6 + (4 : Int) + i,
  Prod.snd s_6 + (1 : Int))
  w1)
  (J () w'))
  (J () w'))
  ((29 : Int) + i + (1 : Int), (0 : Int)) w')
  fun (J : Option Addr → World → Prop) ↦
  (((0 : Int) ≤ (4 : Int) ∧ (4 : Int) ≤ (↑(ByteArray.size (Prod.fst s)) : Int)) ∧
  ((0 : Int) ≤ (4 : Int) ∧ (4 : Int) ≤ (8 : Int) ∧ (8 : Int) ≤ (↑(ByteArray.size (Prod.fst s)) : Int)) ∧
  ((0 : Int) ≤ (8 : Int) ∧ (8 : Int) ≤ (16 : Int) ∧ (16 : Int) ≤ (↑(ByteArray.size (Prod.fst s)) : Int)) ∧
  ((0 : Int) ≤ (16 : Int) ∧ (16 : Int) ≤ (24 : Int) ∧ (24 : Int) ≤ (↑(ByteArray.size (Prod.fst s)) : Int)) ∧
  ((0 : Int) ≤ (24 : Int) ∧ (24 : Int) ≤ (25 : Int) ∧ (25 : Int) ≤ (↑(ByteArray.size (Prod.fst s)) : Int)) ∧
  ((0 : Int) ≤ (25 : Int) ∧ (25 : Int) ≤ (27 : Int) ∧ (27 : Int) ≤ (↑(ByteArray.size (Prod.fst s)) : Int)) ∧
  CallV Go.Proofs.Try.prog (31 : Nat) [Value.string (ByteArray.extract (Prod.fst s) (0 : Nat) (Int.toNat (4 : Int)))] (World.drew w')
  fun (e : Ending) (w' : World) ↦
  ∃ (i : Int),
  e = Ending.returned (Value.int IntKind.i64 i) ∧
  CallV Go.Proofs.Try.prog (31 : Nat) [Value.string (ByteArray.extract (Prod.fst s) (Int.toNat (4 : Int)) (Int.toNat (8 : Int)))] w'
  fun (e : Ending) (w' : World) ↦
  ∃ (i_1 : Int),
  e = Ending.returned (Value.int IntKind.i64 i_1) ∧
  CallV Go.Proofs.Try.prog (31 : Nat) [Value.string (ByteArray.extract (Prod.fst s) (Int.toNat (8 : Int)) (Int.toNat (16 : Int)))] w'
  fun (e : Ending) (w' : World) ↦
  ∃ (i_2 : Int),
  e = Ending.returned (Value.int IntKind.i64 i_2) ∧
  CallV Go.Proofs.Try.prog (31 : Nat) [Value.string (ByteArray.extract (Prod.fst s) (Int.toNat (16 : Int)) (Int.toNat (24 : Int)))] w'
  fun (e : Ending) (w' : World) ↦
  ∃ (i_3 : Int),
  e = Ending.returned (Value.int IntKind.i64 i_3) ∧
  CallV Go.Proofs.Try.prog (31 : Nat) [Value.string (ByteArray.extract (Prod.fst s) (Int.toNat (24 : Int)) (Int.toNat (25 : Int)))] w'
  fun (e : Ending) (w' : World) ↦
  ∃ (i_4 : Int),
  e = Ending.returned (Value.int IntKind.i64 i_4) ∧
  CallV Go.Proofs.Try.prog (31 : Nat) [Value.string (ByteArray.extract (Prod.fst s) (Int.toNat (25 : Int)) (Int.toNat (27 : Int)))]
  w' fun (e : Ending) (w' : World) ↦
  ∃ (i_5 : Int),
  e = Ending.returned (Value.int IntKind.i64 i_5) ∧
  ∀ (b : Nat) (w1 : World),
  New w'
  (Obj.cells
  #[Value.int IntKind.i64 (0 : Int), Value.int IntKind.i64 (0 : Int), Value.int IntKind.i64 (0 : Int),
  Value.int IntKind.i64 (0 : Int), Value.int IntKind.i64 (0 : Int), Value.int IntKind.i64 (0 : Int),
  Value.string (ByteArray.mk #[]), Value.slice none (0 : Nat) (0 : Nat)]
  (24 : Nat))
  b w1 →
  ∃ (w1_1 : World),
  St Go.Proofs.Try.prog (24 : Nat) w1 (Addr.mk b (0 : Nat) none)
  (Value.agg
  #[Value.int IntKind.i64 i, Value.int IntKind.i64 i_1, Value.int IntKind.i64 i_4, Value.int IntKind.i64 i_5,
  Value.int IntKind.i64 i_2, Value.int IntKind.i64 i_3, Value.string (ByteArray.mk #[]),
  Value.slice none (0 : Nat) (0 : Nat)])
  w1_1 ∧
  J (some (Addr.mk b (0 : Nat) none)) w1_1) ∧
  (((0 : Int) ≤ (4 : Int) ∧ (4 : Int) ≤ (↑(ByteArray.size (Prod.fst s)) : Int)) ∧
  ((0 : Int) ≤ (4 : Int) ∧ (4 : Int) ≤ (8 : Int) ∧ (8 : Int) ≤ (↑(ByteArray.size (Prod.fst s)) : Int)) ∧
  ((0 : Int) ≤ (8 : Int) ∧ (8 : Int) ≤ (16 : Int) ∧ (16 : Int) ≤ (↑(ByteArray.size (Prod.fst s)) : Int)) ∧
  ((0 : Int) ≤ (16 : Int) ∧ (16 : Int) ≤ (24 : Int) ∧ (24 : Int) ≤ (↑(ByteArray.size (Prod.fst s)) : Int)) ∧
  ((0 : Int) ≤ (24 : Int) ∧ (24 : Int) ≤ (25 : Int) ∧ (25 : Int) ≤ (↑(ByteArray.size (Prod.fst s)) : Int)) ∧
  ((0 : Int) ≤ (25 : Int) ∧ (25 : Int) ≤ (27 : Int) ∧ (27 : Int) ≤ (↑(ByteArray.size (Prod.fst s)) : Int)) ∧
  CallV Go.Proofs.Try.prog (31 : Nat) [Value.string (ByteArray.extract (Prod.fst s) (0 : Nat) (Int.toNat (4 : Int)))] (World.drew w')
  fun (e : Ending) (w' : World) ↦
  ∃ (i : Int),
  e = Ending.returned (Value.int IntKind.i64 i) ∧
  CallV Go.Proofs.Try.prog (31 : Nat) [Value.string (ByteArray.extract (Prod.fst s) (Int.toNat (4 : Int)) (Int.toNat (8 : Int)))] w'
  fun (e : Ending) (w' : World) ↦
  ∃ (i_1 : Int),
  e = Ending.returned (Value.int IntKind.i64 i_1) ∧
  CallV Go.Proofs.Try.prog (31 : Nat) [Value.string (ByteArray.extract (Prod.fst s) (Int.toNat (8 : Int)) (Int.toNat (16 : Int)))] w'
  fun (e : Ending) (w' : World) ↦
  ∃ (i_2 : Int),
  e = Ending.returned (Value.int IntKind.i64 i_2) ∧
  CallV Go.Proofs.Try.prog (31 : Nat) [Value.string (ByteArray.extract (Prod.fst s) (Int.toNat (16 : Int)) (Int.toNat (24 : Int)))] w'
  fun (e : Ending) (w' : World) ↦
  ∃ (i_3 : Int),
  e = Ending.returned (Value.int IntKind.i64 i_3) ∧
  CallV Go.Proofs.Try.prog (31 : Nat) [Value.string (ByteArray.extract (Prod.fst s) (Int.toNat (24 : Int)) (Int.toNat (25 : Int)))] w'
  fun (e : Ending) (w' : World) ↦
  ∃ (i_4 : Int),
  e = Ending.returned (Value.int IntKind.i64 i_4) ∧
  ∀ (b : Nat) (w1 : World),
  New w'
  (Obj.cells
  #[Value.int IntKind.i64 (0 : Int), Value.int IntKind.i64 (0 : Int), Value.int IntKind.i64 (0 : Int),
  Value.int IntKind.i64 (0 : Int), Value.int IntKind.i64 (0 : Int), Value.int IntKind.i64 (0 : Int),
  Value.string (ByteArray.mk #[]), Value.slice none (0 : Nat) (0 : Nat)]
  (24 : Nat))
  b w1 →
  CallV Go.Proofs.Try.prog (31 : Nat)
  [Value.string (ByteArray.extract (Prod.fst s) (Int.toNat (25 : Int)) (Int.toNat (27 : Int)))] w1
  fun (e : Ending) (w' : World) ↦
  ∃ (i_5 : Int),
  e = Ending.returned (Value.int IntKind.i64 i_5) ∧
  ∃ (w1 : World),
  St Go.Proofs.Try.prog (24 : Nat) w' (Addr.mk b (0 : Nat) none)
  (Value.agg
  #[Value.int IntKind.i64 i, Value.int IntKind.i64 i_1, Value.int IntKind.i64 i_4,
  Value.int IntKind.i64 i_5, Value.int IntKind.i64 i_2, Value.int IntKind.i64 i_3,
  Value.string (ByteArray.mk #[]), Value.slice none (0 : Nat) (0 : Nat)])
  w1 ∧
  J (some (Addr.mk b (0 : Nat) none)) w1) ∧
  (((0 : Int) ≤ (4 : Int) ∧ (4 : Int) ≤ (↑(ByteArray.size (Prod.fst s)) : Int)) ∧
  ((0 : Int) ≤ (4 : Int) ∧ (4 : Int) ≤ (8 : Int) ∧ (8 : Int) ≤ (↑(ByteArray.size (Prod.fst s)) : Int)) ∧
  ((0 : Int) ≤ (8 : Int) ∧ (8 : Int) ≤ (16 : Int) ∧ (16 : Int) ≤ (↑(ByteArray.size (Prod.fst s)) : Int)) ∧
  ((0 : Int) ≤ (16 : Int) ∧ (16 : Int) ≤ (24 : Int) ∧ (24 : Int) ≤ (↑(ByteArray.size (Prod.fst s)) : Int)) ∧
  ((0 : Int) ≤ (24 : Int) ∧ (24 : Int) ≤ (25 : Int) ∧ (25 : Int) ≤ (↑(ByteArray.size (Prod.fst s)) : Int)) ∧
  ((0 : Int) ≤ (25 : Int) ∧ (25 : Int) ≤ (27 : Int) ∧ (27 : Int) ≤ (↑(ByteArray.size (Prod.fst s)) : Int)) ∧
  CallV Go.Proofs.Try.prog (31 : Nat) [Value.string (ByteArray.extract (Prod.fst s) (0 : Nat) (Int.toNat (4 : Int)))] (World.drew w')
  fun (e : Ending) (w' : World) ↦
  ∃ (i : Int),
  e = Ending.returned (Value.int IntKind.i64 i) ∧
  CallV Go.Proofs.Try.prog (31 : Nat) [Value.string (ByteArray.extract (Prod.fst s) (Int.toNat (4 : Int)) (Int.toNat (8 : Int)))] w'
  fun (e : Ending) (w' : World) ↦
  ∃ (i_1 : Int),
  e = Ending.returned (Value.int IntKind.i64 i_1) ∧
  CallV Go.Proofs.Try.prog (31 : Nat) [Value.string (ByteArray.extract (Prod.fst s) (Int.toNat (8 : Int)) (Int.toNat (16 : Int)))] w'
  fun (e : Ending) (w' : World) ↦
  ∃ (i_2 : Int),
  e = Ending.returned (Value.int IntKind.i64 i_2) ∧
  CallV Go.Proofs.Try.prog (31 : Nat) [Value.string (ByteArray.extract (Prod.fst s) (Int.toNat (16 : Int)) (Int.toNat (24 : Int)))] w'
  fun (e : Ending) (w' : World) ↦
  ∃ (i_3 : Int),
  e = Ending.returned (Value.int IntKind.i64 i_3) ∧
  ∀ (b : Nat) (w1 : World),
  New w'
  (Obj.cells
  #[Value.int IntKind.i64 (0 : Int), Value.int IntKind.i64 (0 : Int), Value.int IntKind.i64 (0 : Int),
  Value.int IntKind.i64 (0 : Int), Value.int IntKind.i64 (0 : Int), Value.int IntKind.i64 (0 : Int),
  Value.string (ByteArray.mk #[]), Value.slice none (0 : Nat) (0 : Nat)]
  (24 : Nat))
  b w1 →
  CallV Go.Proofs.Try.prog (31 : Nat)
  [Value.string (ByteArray.extract (Prod.fst s) (Int.toNat (24 : Int)) (Int.toNat (25 : Int)))] w1
  fun (e : Ending) (w' : World) ↦
  ∃ (i_4 : Int),
  e = Ending.returned (Value.int IntKind.i64 i_4) ∧
  CallV Go.Proofs.Try.prog (31 : Nat)
  [Value.string (ByteArray.extract (Prod.fst s) (Int.toNat (25 : Int)) (Int.toNat (27 : Int)))] w'
  fun (e : Ending) (w' : World) ↦
  ∃ (i_5 : Int),
  e = Ending.returned (Value.int IntKind.i64 i_5) ∧
  ∃ (w1 : World),
  St Go.Proofs.Try.prog (24 : Nat) w' (Addr.mk b (0 : Nat) none)
  (Value.agg
  #[Value.int IntKind.i64 i, Value.int IntKind.i64 i_1, Value.int IntKind.i64 i_4,
  Value.int IntKind.i64 i_5, Value.int IntKind.i64 i_2, Value.int IntKind.i64 i_3,
  Value.string (ByteArray.mk #[]), Value.slice none (0 : Nat) (0 : Nat)])
  w1 ∧
  J (some (Addr.mk b (0 : Nat) none)) w1) ∧
  (((0 : Int) ≤ (4 : Int) ∧ (4 : Int) ≤ (↑(ByteArray.size (Prod.fst s)) : Int)) ∧
  ((0 : Int) ≤ (4 : Int) ∧ (4 : Int) ≤ (8 : Int) ∧ (8 : Int) ≤ (↑(ByteArray.size (Prod.fst s)) : Int)) ∧
  ((0 : Int) ≤ (8 : Int) ∧ (8 : Int) ≤ (16 : Int) ∧ (16 : Int) ≤ (↑(ByteArray.size (Prod.fst s)) : Int)) ∧
  ((0 : Int) ≤ (16 : Int) ∧ (16 : Int) ≤ (24 : Int) ∧ (24 : Int) ≤ (↑(ByteArray.size (Prod.fst s)) : Int)) ∧
  ((0 : Int) ≤ (24 : Int) ∧ (24 : Int) ≤ (25 : Int) ∧ (25 : Int) ≤ (↑(ByteArray.size (Prod.fst s)) : Int)) ∧
  ((0 : Int) ≤ (25 : Int) ∧ (25 : Int) ≤ (27 : Int) ∧ (27 : Int) ≤ (↑(ByteArray.size (Prod.fst s)) : Int)) ∧
  CallV Go.Proofs.Try.prog (31 : Nat) [Value.string (ByteArray.extract (Prod.fst s) (0 : Nat) (Int.toNat (4 : Int)))] (World.drew w')
  fun (e : Ending) (w' : World) ↦
  ∃ (i : Int),
  e = Ending.returned (Value.int IntKind.i64 i) ∧
  CallV Go.Proofs.Try.prog (31 : Nat) [Value.string (ByteArray.extract (Prod.fst s) (Int.toNat (4 : Int)) (Int.toNat (8 : Int)))] w'
  fun (e : Ending) (w' : World) ↦
  ∃ (i_1 : Int),
  e = Ending.returned (Value.int IntKind.i64 i_1) ∧
  CallV Go.Proofs.Try.prog (31 : Nat) [Value.string (ByteArray.extract (Prod.fst s) (Int.toNat (8 : Int)) (Int.toNat (16 : Int)))] w'
  fun (e : Ending) (w' : World) ↦
  ∃ (i_2 : Int),
  e = Ending.returned (Value.int IntKind.i64 i_2) ∧
  ∀ (b : Nat) (w1 : World),
  New w'
  (Obj.cells
  #[Value.int IntKind.i64 (0 : Int), Value.int IntKind.i64 (0 : Int), Value.int IntKind.i64 (0 : Int),
  Value.int IntKind.i64 (0 : Int), Value.int IntKind.i64 (0 : Int), Value.int IntKind.i64 (0 : Int),
  Value.string (ByteArray.mk #[]), Value.slice none (0 : Nat) (0 : Nat)]
  (24 : Nat))
  b w1 →
  CallV Go.Proofs.Try.prog (31 : Nat) [Value.string (ByteArray.extract (Prod.fst s) (Int.toNat (16 : Int)) (Int.toNat (24 : Int)))]
  w1 fun (e : Ending) (w' : World) ↦
  ∃ (i_3 : Int),
  e = Ending.returned (Value.int IntKind.i64 i_3) ∧
  CallV Go.Proofs.Try.prog (31 : Nat)
  [Value.string (ByteArray.extract (Prod.fst s) (Int.toNat (24 : Int)) (Int.toNat (25 : Int)))] w'
  fun (e : Ending) (w' : World) ↦
  ∃ (i_4 : Int),
  e = Ending.returned (Value.int IntKind.i64 i_4) ∧
  CallV Go.Proofs.Try.prog (31 : Nat)
  [Value.string (ByteArray.extract (Prod.fst s) (Int.toNat (25 : Int)) (Int.toNat (27 : Int)))] w'
  fun (e : Ending) (w' : World) ↦
  ∃ (i_5 : Int),
  e = Ending.returned (Value.int IntKind.i64 i_5) ∧
  ∃ (w1 : World),
  St Go.Proofs.Try.prog (24 : Nat) w' (Addr.mk b (0 : Nat) none)
  (Value.agg
  #[Value.int IntKind.i64 i, Value.int IntKind.i64 i_1, Value.int IntKind.i64 i_4,
  Value.int IntKind.i64 i_5, Value.int IntKind.i64 i_2, Value.int IntKind.i64 i_3,
  Value.string (ByteArray.mk #[]), Value.slice none (0 : Nat) (0 : Nat)])
  w1 ∧
  J (some (Addr.mk b (0 : Nat) none)) w1) ∧
  (((0 : Int) ≤ (4 : Int) ∧ (4 : Int) ≤ (↑(ByteArray.size (Prod.fst s)) : Int)) ∧
  ((0 : Int) ≤ (4 : Int) ∧ (4 : Int) ≤ (8 : Int) ∧ (8 : Int) ≤ (↑(ByteArray.size (Prod.fst s)) : Int)) ∧
  ((0 : Int) ≤ (8 : Int) ∧ (8 : Int) ≤ (16 : Int) ∧ (16 : Int) ≤ (↑(ByteArray.size (Prod.fst s)) : Int)) ∧
  ((0 : Int) ≤ (16 : Int) ∧ (16 : Int) ≤ (24 : Int) ∧ (24 : Int) ≤ (↑(ByteArray.size (Prod.fst s)) : Int)) ∧
  ((0 : Int) ≤ (24 : Int) ∧ (24 : Int) ≤ (25 : Int) ∧ (25 : Int) ≤ (↑(ByteArray.size (Prod.fst s)) : Int)) ∧
  ((0 : Int) ≤ (25 : Int) ∧ (25 : Int) ≤ (27 : Int) ∧ (27 : Int) ≤ (↑(ByteArray.size (Prod.fst s)) : Int)) ∧
  CallV Go.Proofs.Try.prog (31 : Nat) [Value.string (ByteArray.extract (Prod.fst s) (0 : Nat) (Int.toNat (4 : Int)))] (World.drew w')
  fun (e : Ending) (w' : World) ↦
  ∃ (i : Int),
  e = Ending.returned (Value.int IntKind.i64 i) ∧
  CallV Go.Proofs.Try.prog (31 : Nat) [Value.string (ByteArray.extract (Prod.fst s) (Int.toNat (4 : Int)) (Int.toNat (8 : Int)))] w'
  fun (e : Ending) (w' : World) ↦
  ∃ (i_1 : Int),
  e = Ending.returned (Value.int IntKind.i64 i_1) ∧
  ∀ (b : Nat) (w1 : World),
  New w'
  (Obj.cells
  #[Value.int IntKind.i64 (0 : Int), Value.int IntKind.i64 (0 : Int), Value.int IntKind.i64 (0 : Int),
  Value.int IntKind.i64 (0 : Int), Value.int IntKind.i64 (0 : Int), Value.int IntKind.i64 (0 : Int),
  Value.string (ByteArray.mk #[]), Value.slice none (0 : Nat) (0 : Nat)]
  (24 : Nat))
  b w1 →
  CallV Go.Proofs.Try.prog (31 : Nat) [Value.string (ByteArray.extract (Prod.fst s) (Int.toNat (8 : Int)) (Int.toNat (16 : Int)))] w1
  fun (e : Ending) (w' : World) ↦
  ∃ (i_2 : Int),
  e = Ending.returned (Value.int IntKind.i64 i_2) ∧
  CallV Go.Proofs.Try.prog (31 : Nat) [Value.string (ByteArray.extract (Prod.fst s) (Int.toNat (16 : Int)) (Int.toNat (24 : Int)))]
  w' fun (e : Ending) (w' : World) ↦
  ∃ (i_3 : Int),
  e = Ending.returned (Value.int IntKind.i64 i_3) ∧
  CallV Go.Proofs.Try.prog (31 : Nat)
  [Value.string (ByteArray.extract (Prod.fst s) (Int.toNat (24 : Int)) (Int.toNat (25 : Int)))] w'
  fun (e : Ending) (w' : World) ↦
  ∃ (i_4 : Int),
  e = Ending.returned (Value.int IntKind.i64 i_4) ∧
  CallV Go.Proofs.Try.prog (31 : Nat)
  [Value.string (ByteArray.extract (Prod.fst s) (Int.toNat (25 : Int)) (Int.toNat (27 : Int)))] w'
  fun (e : Ending) (w' : World) ↦
  ∃ (i_5 : Int),
  e = Ending.returned (Value.int IntKind.i64 i_5) ∧
  ∃ (w1 : World),
  St Go.Proofs.Try.prog (24 : Nat) w' (Addr.mk b (0 : Nat) none)
  (Value.agg
  #[Value.int IntKind.i64 i, Value.int IntKind.i64 i_1, Value.int IntKind.i64 i_4,
  Value.int IntKind.i64 i_5, Value.int IntKind.i64 i_2, Value.int IntKind.i64 i_3,
  Value.string (ByteArray.mk #[]), Value.slice none (0 : Nat) (0 : Nat)])
  w1 ∧
  J (some (Addr.mk b (0 : Nat) none)) w1) ∧
  (((0 : Int) ≤ (4 : Int) ∧ (4 : Int) ≤ (↑(ByteArray.size (Prod.fst s)) : Int)) ∧
  ((0 : Int) ≤ (4 : Int) ∧ (4 : Int) ≤ (8 : Int) ∧ (8 : Int) ≤ (↑(ByteArray.size (Prod.fst s)) : Int)) ∧
  ((0 : Int) ≤ (8 : Int) ∧ (8 : Int) ≤ (16 : Int) ∧ (16 : Int) ≤ (↑(ByteArray.size (Prod.fst s)) : Int)) ∧
  ((0 : Int) ≤ (16 : Int) ∧ (16 : Int) ≤ (24 : Int) ∧ (24 : Int) ≤ (↑(ByteArray.size (Prod.fst s)) : Int)) ∧
  ((0 : Int) ≤ (24 : Int) ∧ (24 : Int) ≤ (25 : Int) ∧ (25 : Int) ≤ (↑(ByteArray.size (Prod.fst s)) : Int)) ∧
  ((0 : Int) ≤ (25 : Int) ∧ (25 : Int) ≤ (27 : Int) ∧ (27 : Int) ≤ (↑(ByteArray.size (Prod.fst s)) : Int)) ∧
  CallV Go.Proofs.Try.prog (31 : Nat) [Value.string (ByteArray.extract (Prod.fst s) (0 : Nat) (Int.toNat (4 : Int)))] (World.drew w')
  fun (e : Ending) (w' : World) ↦
  ∃ (i : Int),
  e = Ending.returned (Value.int IntKind.i64 i) ∧
  ∀ (b : Nat) (w1 : World),
  New w'
  (Obj.cells
  #[Value.int IntKind.i64 (0 : Int), Value.int IntKind.i64 (0 : Int), Value.int IntKind.i64 (0 : Int),
  Value.int IntKind.i64 (0 : Int), Value.int IntKind.i64 (0 : Int), Value.int IntKind.i64 (0 : Int),
  Value.string (ByteArray.mk #[]), Value.slice none (0 : Nat) (0 : Nat)]
  (24 : Nat))
  b w1 →
  CallV Go.Proofs.Try.prog (31 : Nat) [Value.string (ByteArray.extract (Prod.fst s) (Int.toNat (4 : Int)) (Int.toNat (8 : Int)))] w1
  fun (e : Ending) (w' : World) ↦
  ∃ (i_1 : Int),
  e = Ending.returned (Value.int IntKind.i64 i_1) ∧
  CallV Go.Proofs.Try.prog (31 : Nat) [Value.string (ByteArray.extract (Prod.fst s) (Int.toNat (8 : Int)) (Int.toNat (16 : Int)))] w'
  fun (e : Ending) (w' : World) ↦
  ∃ (i_2 : Int),
  e = Ending.returned (Value.int IntKind.i64 i_2) ∧
  CallV Go.Proofs.Try.prog (31 : Nat)
  [Value.string (ByteArray.extract (Prod.fst s) (Int.toNat (16 : Int)) (Int.toNat (24 : Int)))] w'
  fun (e : Ending) (w' : World) ↦
  ∃ (i_3 : Int),
  e = Ending.returned (Value.int IntKind.i64 i_3) ∧
  CallV Go.Proofs.Try.prog (31 : Nat)
  [Value.string (ByteArray.extract (Prod.fst s) (Int.toNat (24 : Int)) (Int.toNat (25 : Int)))] w'
  fun (e : Ending) (w' : World) ↦
  ∃ (i_4 : Int),
  e = Ending.returned (Value.int IntKind.i64 i_4) ∧
  CallV Go.Proofs.Try.prog (31 : Nat)
  [Value.string (ByteArray.extract (Prod.fst s) (Int.toNat (25 : Int)) (Int.toNat (27 : Int)))] w'
  fun (e : Ending) (w' : World) ↦
  ∃ (i_5 : Int),
  e = Ending.returned (Value.int IntKind.i64 i_5) ∧
  ∃ (w1 : World),
  St Go.Proofs.Try.prog (24 : Nat) w' (Addr.mk b (0 : Nat) none)
  (Value.agg
  #[Value.int IntKind.i64 i, Value.int IntKind.i64 i_1, Value.int IntKind.i64 i_4,
  Value.int IntKind.i64 i_5, Value.int IntKind.i64 i_2, Value.int IntKind.i64 i_3,
  Value.string (ByteArray.mk #[]), Value.slice none (0 : Nat) (0 : Nat)])
  w1 ∧
  J (some (Addr.mk b (0 : Nat) none)) w1) ∧
  ((0 : Int) ≤ (4 : Int) ∧ (4 : Int) ≤ (↑(ByteArray.size (Prod.fst s)) : Int)) ∧
  ((0 : Int) ≤ (4 : Int) ∧ (4 : Int) ≤ (8 : Int) ∧ (8 : Int) ≤ (↑(ByteArray.size (Prod.fst s)) : Int)) ∧
  ((0 : Int) ≤ (8 : Int) ∧ (8 : Int) ≤ (16 : Int) ∧ (16 : Int) ≤ (↑(ByteArray.size (Prod.fst s)) : Int)) ∧
  ((0 : Int) ≤ (16 : Int) ∧ (16 : Int) ≤ (24 : Int) ∧ (24 : Int) ≤ (↑(ByteArray.size (Prod.fst s)) : Int)) ∧
  ((0 : Int) ≤ (24 : Int) ∧ (24 : Int) ≤ (25 : Int) ∧ (25 : Int) ≤ (↑(ByteArray.size (Prod.fst s)) : Int)) ∧
  ((0 : Int) ≤ (25 : Int) ∧ (25 : Int) ≤ (27 : Int) ∧ (27 : Int) ≤ (↑(ByteArray.size (Prod.fst s)) : Int)) ∧
  ∀ (b : Nat) (w1 : World),
  New (World.drew w')
  (Obj.cells
  #[Value.int IntKind.i64 (0 : Int), Value.int IntKind.i64 (0 : Int), Value.int IntKind.i64 (0 : Int), Value.int IntKind.i64 (0 : Int),
  Value.int IntKind.i64 (0 : Int), Value.int IntKind.i64 (0 : Int), Value.string (ByteArray.mk #[]), Value.slice none (0 : Nat) (0 : Nat)]
  (24 : Nat))
  b w1 →
  CallV Go.Proofs.Try.prog (31 : Nat) [Value.string (ByteArray.extract (Prod.fst s) (0 : Nat) (Int.toNat (4 : Int)))] w1
  fun (e : Ending) (w' : World) ↦
  ∃ (i : Int),
  e = Ending.returned (Value.int IntKind.i64 i) ∧
  CallV Go.Proofs.Try.prog (31 : Nat) [Value.string (ByteArray.extract (Prod.fst s) (Int.toNat (4 : Int)) (Int.toNat (8 : Int)))] w'
  fun (e : Ending) (w' : World) ↦
  ∃ (i_1 : Int),
  e = Ending.returned (Value.int IntKind.i64 i_1) ∧
  CallV Go.Proofs.Try.prog (31 : Nat) [Value.string (ByteArray.extract (Prod.fst s) (Int.toNat (8 : Int)) (Int.toNat (16 : Int)))] w'
  fun (e : Ending) (w' : World) ↦
  ∃ (i_2 : Int),
  e = Ending.returned (Value.int IntKind.i64 i_2) ∧
  CallV Go.Proofs.Try.prog (31 : Nat)
  [Value.string (ByteArray.extract (Prod.fst s) (Int.toNat (16 : Int)) (Int.toNat (24 : Int)))] w'
  fun (e : Ending) (w' : World) ↦
  ∃ (i_3 : Int),
  e = Ending.returned (Value.int IntKind.i64 i_3) ∧
  CallV Go.Proofs.Try.prog (31 : Nat)
  [Value.string (ByteArray.extract (Prod.fst s) (Int.toNat (24 : Int)) (Int.toNat (25 : Int)))] w'
  fun (e : Ending) (w' : World) ↦
  ∃ (i_4 : Int),
  e = Ending.returned (Value.int IntKind.i64 i_4) ∧
  CallV Go.Proofs.Try.prog (31 : Nat)
  [Value.string (ByteArray.extract (Prod.fst s) (Int.toNat (25 : Int)) (Int.toNat (27 : Int)))] w'
  fun (e : Ending) (w' : World) ↦
  ∃ (i_5 : Int),
  e = Ending.returned (Value.int IntKind.i64 i_5) ∧
  ∃ (w1 : World),
  St Go.Proofs.Try.prog (24 : Nat) w' (Addr.mk b (0 : Nat) none)
  (Value.agg
  #[Value.int IntKind.i64 i, Value.int IntKind.i64 i_1, Value.int IntKind.i64 i_4,
  Value.int IntKind.i64 i_5, Value.int IntKind.i64 i_2, Value.int IntKind.i64 i_3,
  Value.string (ByteArray.mk #[]), Value.slice none (0 : Nat) (0 : Nat)])
  w1 ∧
  J (some (Addr.mk b (0 : Nat) none)) w1)))))
  (ByteArray.mk #[], (0 : Int)) w1
theorem rdecode.eq (la : Option Addr) (ln : Nat) (lc : Nat) (w : World) (R : Ending → World → Prop) : bodyV Go.Proofs.Try.prog rdecode.an Go.Proofs.Try.f18 [.slice la ln lc] w R = rdecode.vc la ln lc w R := by kernel_rfl
theorem rdecode.ok (la : Option Addr) (ln : Nat) (lc : Nat) (w : World) (R : Ending → World → Prop) (h : rdecode.vc la ln lc w R) : Calls Go.Proofs.Try.prog 18 #[.slice la ln lc] w R :=
  calls_of_bodyV noNum (an := rdecode.an) (args := [.slice la ln lc]) Go.Proofs.Try.func18 (by kernel_rfl) ((rdecode.eq la ln lc w R).mpr h)

/-- incunable/incunableref16.Same -/
def rsame.an : An := { wraps := [], loops := [(4, [(5, .inl .i64)])], joins := [] }
def rsame.vc (a_Id : Int) (a_Parent : Int) (a_Kind : Int) (a_Name : Int) (a_From : Int) (a_To : Int) (a_Text : ByteArray) (a_Attrsa : Option Addr) (a_Attrsn : Nat) (a_Attrsc : Nat) (b_Id : Int) (b_Parent : Int) (b_Kind : Int) (b_Name : Int) (b_From : Int) (b_To : Int) (b_Text : ByteArray) (b_Attrsa : Option Addr) (b_Attrsn : Nat) (b_Attrsc : Nat) (w : World) (R : Ending → World → Prop) : Prop :=
  ∀ (b : Nat) (w1 : World),
  New w
  (Obj.cells
  #[Value.int IntKind.i64 a_Id, Value.int IntKind.i64 a_Parent, Value.int IntKind.i64 a_Kind, Value.int IntKind.i64 a_Name, Value.int IntKind.i64 a_From, Value.int IntKind.i64 a_To,
  Value.string a_Text, Value.slice a_Attrsa a_Attrsn a_Attrsc]
  (24 : Nat))
  b w1 →
  ∀ (b_1 : Nat) (w1_1 : World),
  New w1
  (Obj.cells
  #[Value.int IntKind.i64 b_Id, Value.int IntKind.i64 b_Parent, Value.int IntKind.i64 b_Kind, Value.int IntKind.i64 b_Name, Value.int IntKind.i64 b_From, Value.int IntKind.i64 b_To,
  Value.string b_Text, Value.slice b_Attrsa b_Attrsn b_Attrsc]
  (24 : Nat))
  b_1 w1_1 →
  ∃ (i : Int),
  Ld Go.Proofs.Try.prog (3 : Nat) w1_1 (Addr.mk b (0 : Nat) none) (Value.int IntKind.i64 i) ∧
  ∃ (i_1 : Int),
  Ld Go.Proofs.Try.prog (3 : Nat) w1_1 (Addr.mk b_1 (0 : Nat) none) (Value.int IntKind.i64 i_1) ∧
  br (!decide (i = i_1)) (R (Ending.returned (Value.bool false)) w1_1)
  (∃ (i : Int),
  Ld Go.Proofs.Try.prog (3 : Nat) w1_1 (Addr.mk b (1 : Nat) none) (Value.int IntKind.i64 i) ∧
  ∃ (i_2 : Int),
  Ld Go.Proofs.Try.prog (3 : Nat) w1_1 (Addr.mk b_1 (1 : Nat) none) (Value.int IntKind.i64 i_2) ∧
  br (!decide (i = i_2)) (R (Ending.returned (Value.bool false)) w1_1)
  (∃ (i : Int),
  Ld Go.Proofs.Try.prog (3 : Nat) w1_1 (Addr.mk b (2 : Nat) none) (Value.int IntKind.i64 i) ∧
  ∃ (i_3 : Int),
  Ld Go.Proofs.Try.prog (3 : Nat) w1_1 (Addr.mk b_1 (2 : Nat) none) (Value.int IntKind.i64 i_3) ∧
  br (!decide (i = i_3)) (R (Ending.returned (Value.bool false)) w1_1)
  (∃ (i : Int),
  Ld Go.Proofs.Try.prog (3 : Nat) w1_1 (Addr.mk b (3 : Nat) none) (Value.int IntKind.i64 i) ∧
  ∃ (i_4 : Int),
  Ld Go.Proofs.Try.prog (3 : Nat) w1_1 (Addr.mk b_1 (3 : Nat) none) (Value.int IntKind.i64 i_4) ∧
  br (!decide (i = i_4)) (R (Ending.returned (Value.bool false)) w1_1)
  (∃ (i : Int),
  Ld Go.Proofs.Try.prog (3 : Nat) w1_1 (Addr.mk b (4 : Nat) none) (Value.int IntKind.i64 i) ∧
  ∃ (i_5 : Int),
  Ld Go.Proofs.Try.prog (3 : Nat) w1_1 (Addr.mk b_1 (4 : Nat) none) (Value.int IntKind.i64 i_5) ∧
  br (!decide (i = i_5)) (R (Ending.returned (Value.bool false)) w1_1)
  (∃ (i : Int),
  Ld Go.Proofs.Try.prog (3 : Nat) w1_1 (Addr.mk b (5 : Nat) none) (Value.int IntKind.i64 i) ∧
  ∃ (i_6 : Int),
  Ld Go.Proofs.Try.prog (3 : Nat) w1_1 (Addr.mk b_1 (5 : Nat) none) (Value.int IntKind.i64 i_6) ∧
  br (!decide (i = i_6)) (R (Ending.returned (Value.bool false)) w1_1)
  (∃ (s : ByteArray),
  Ld Go.Proofs.Try.prog (9 : Nat) w1_1 (Addr.mk b (6 : Nat) none) (Value.string s) ∧
  ∃ (s_1 : ByteArray),
  Ld Go.Proofs.Try.prog (9 : Nat) w1_1 (Addr.mk b_1 (6 : Nat) none) (Value.string s_1) ∧
  br (!decide (s = s_1)) (R (Ending.returned (Value.bool false)) w1_1)
  (∃ (a : Option Addr),
  ∃ (l : Nat),
  ∃ (c : Nat),
  Ld Go.Proofs.Try.prog (22 : Nat) w1_1 (Addr.mk b (7 : Nat) none) (Value.slice a l c) ∧
  ∃ (a : Option Addr),
  ∃ (l_1 : Nat),
  ∃ (c : Nat),
  Ld Go.Proofs.Try.prog (22 : Nat) w1_1 (Addr.mk b_1 (7 : Nat) none) (Value.slice a l_1 c) ∧
  br (!decide ((↑l : Int) = (↑l_1 : Int))) (R (Ending.returned (Value.bool false)) w1_1)
  (LoopP
  (fun (s : Int) (w' : World) (next : Int → World → Prop) ↦
  ∃ (a : Option Addr),
  ∃ (l : Nat),
  ∃ (c : Nat),
  Ld Go.Proofs.Try.prog (22 : Nat) w' (Addr.mk b (7 : Nat) none) (Value.slice a l c) ∧
  br (decide (s < (↑l : Int)))
  (∃ (a : Option Addr),
  ∃ (l : Nat),
  ∃ (c : Nat),
  Ld Go.Proofs.Try.prog (22 : Nat) (World.drew w') (Addr.mk b (7 : Nat) none)
  (Value.slice a l c) ∧
  onP a fun (a : Addr) ↦
  ((0 : Int) ≤ s ∧ s < (↑l : Int)) ∧
  ∃ (i : Int),
  ∃ (s_2 : ByteArray),
  Ld Go.Proofs.Try.prog (52 : Nat) (World.drew w')
  (Addr.add a (Int.toNat s * (2 : Nat)))
  (Value.agg #[Value.int IntKind.i64 i, Value.string s_2]) ∧
  ∃ (a : Option Addr),
  ∃ (l : Nat),
  ∃ (c : Nat),
  Ld Go.Proofs.Try.prog (22 : Nat) (World.drew w')
  (Addr.mk b_1 (7 : Nat) none) (Value.slice a l c) ∧
  onP a fun (a : Addr) ↦
  ((0 : Int) ≤ s ∧ s < (↑l : Int)) ∧
  ∃ (i_7 : Int),
  ∃ (s_3 : ByteArray),
  Ld Go.Proofs.Try.prog (52 : Nat) (World.drew w')
  (Addr.add a (Int.toNat s * (2 : Nat)))
  (Value.agg
  #[Value.int IntKind.i64 i_7, Value.string s_3]) ∧
  ∃ (b : Bool),
  Eqv Go.Proofs.Try.prog BinOp.neq (52 : Nat)
  (Operand.tmp (73 : Nat))
  (Operand.tmp (78 : Nat)) (World.drew w')
  (Value.agg
  #[Value.int IntKind.i64 i, Value.string s_2])
  (Value.agg
  #[Value.int IntKind.i64 i_7,
  Value.string s_3])
  b ∧
  br b
  (R (Ending.returned (Value.bool false))
  (World.drew w'))
  (inR IntKind.i64 (s + (1 : Int)) ∧
  next (s + (1 : Int)) (World.drew w')))
  (R (Ending.returned (Value.bool true)) w'))
  (0 : Int) w1_1))))))))
theorem rsame.eq (a_Id : Int) (a_Parent : Int) (a_Kind : Int) (a_Name : Int) (a_From : Int) (a_To : Int) (a_Text : ByteArray) (a_Attrsa : Option Addr) (a_Attrsn : Nat) (a_Attrsc : Nat) (b_Id : Int) (b_Parent : Int) (b_Kind : Int) (b_Name : Int) (b_From : Int) (b_To : Int) (b_Text : ByteArray) (b_Attrsa : Option Addr) (b_Attrsn : Nat) (b_Attrsc : Nat) (w : World) (R : Ending → World → Prop) : bodyV Go.Proofs.Try.prog rsame.an Go.Proofs.Try.f19 [.agg #[.int .i64 a_Id, .int .i64 a_Parent, .int .i64 a_Kind, .int .i64 a_Name, .int .i64 a_From, .int .i64 a_To, .string a_Text, .slice a_Attrsa a_Attrsn a_Attrsc], .agg #[.int .i64 b_Id, .int .i64 b_Parent, .int .i64 b_Kind, .int .i64 b_Name, .int .i64 b_From, .int .i64 b_To, .string b_Text, .slice b_Attrsa b_Attrsn b_Attrsc]] w R = rsame.vc a_Id a_Parent a_Kind a_Name a_From a_To a_Text a_Attrsa a_Attrsn a_Attrsc b_Id b_Parent b_Kind b_Name b_From b_To b_Text b_Attrsa b_Attrsn b_Attrsc w R := by kernel_rfl
theorem rsame.ok (a_Id : Int) (a_Parent : Int) (a_Kind : Int) (a_Name : Int) (a_From : Int) (a_To : Int) (a_Text : ByteArray) (a_Attrsa : Option Addr) (a_Attrsn : Nat) (a_Attrsc : Nat) (b_Id : Int) (b_Parent : Int) (b_Kind : Int) (b_Name : Int) (b_From : Int) (b_To : Int) (b_Text : ByteArray) (b_Attrsa : Option Addr) (b_Attrsn : Nat) (b_Attrsc : Nat) (w : World) (R : Ending → World → Prop) (h : rsame.vc a_Id a_Parent a_Kind a_Name a_From a_To a_Text a_Attrsa a_Attrsn a_Attrsc b_Id b_Parent b_Kind b_Name b_From b_To b_Text b_Attrsa b_Attrsn b_Attrsc w R) : Calls Go.Proofs.Try.prog 19 #[.agg #[.int .i64 a_Id, .int .i64 a_Parent, .int .i64 a_Kind, .int .i64 a_Name, .int .i64 a_From, .int .i64 a_To, .string a_Text, .slice a_Attrsa a_Attrsn a_Attrsc], .agg #[.int .i64 b_Id, .int .i64 b_Parent, .int .i64 b_Kind, .int .i64 b_Name, .int .i64 b_From, .int .i64 b_To, .string b_Text, .slice b_Attrsa b_Attrsn b_Attrsc]] w R :=
  calls_of_bodyV noNum (an := rsame.an) (args := [.agg #[.int .i64 a_Id, .int .i64 a_Parent, .int .i64 a_Kind, .int .i64 a_Name, .int .i64 a_From, .int .i64 a_To, .string a_Text, .slice a_Attrsa a_Attrsn a_Attrsc], .agg #[.int .i64 b_Id, .int .i64 b_Parent, .int .i64 b_Kind, .int .i64 b_Name, .int .i64 b_From, .int .i64 b_To, .string b_Text, .slice b_Attrsa b_Attrsn b_Attrsc]]) Go.Proofs.Try.func19 (by kernel_rfl) ((rsame.eq a_Id a_Parent a_Kind a_Name a_From a_To a_Text a_Attrsa a_Attrsn a_Attrsc b_Id b_Parent b_Kind b_Name b_From b_To b_Text b_Attrsa b_Attrsn b_Attrsc w R).mpr h)

/-- incunable/incunableref16.Head -/
def rhead.an : An := { wraps := [], loops := [], joins := [] }
def rhead.vc (s : ByteArray) (w : World) (R : Ending → World → Prop) : Prop :=
  br (decide ((↑(ByteArray.size s) : Int) < (6 : Int)))
  (R (Ending.returned (Value.tuple #[Value.int IntKind.i64 (0 : Int), Value.int IntKind.i64 (0 : Int), Value.int IntKind.i64 (0 : Int), Value.bool false])) w)
  (br (decide ((906 : Int) < (↑(ByteArray.size s) : Int)))
  (R (Ending.returned (Value.tuple #[Value.int IntKind.i64 (0 : Int), Value.int IntKind.i64 (0 : Int), Value.int IntKind.i64 (0 : Int), Value.bool false])) w)
  (((0 : Int) ≤ (4 : Int) ∧ (4 : Int) ≤ (↑(ByteArray.size s) : Int)) ∧
  CallV Go.Proofs.Try.prog (31 : Nat) [Value.string (ByteArray.extract s (0 : Nat) (Int.toNat (4 : Int)))] w fun (e : Ending) (w' : World) ↦
  ∃ (i : Int),
  e = Ending.returned (Value.int IntKind.i64 i) ∧
  br (decide (i < (1 : Int)))
  (R (Ending.returned (Value.tuple #[Value.int IntKind.i64 (0 : Int), Value.int IntKind.i64 (0 : Int), Value.int IntKind.i64 (0 : Int), Value.bool false])) (World.drew w'))
  (br (decide ((2147483647 : Int) < i))
  (R (Ending.returned (Value.tuple #[Value.int IntKind.i64 (0 : Int), Value.int IntKind.i64 (0 : Int), Value.int IntKind.i64 (0 : Int), Value.bool false])) (World.drew w'))
  (((0 : Int) ≤ (4 : Int) ∧ (4 : Int) < (↑(ByteArray.size s) : Int)) ∧
  ((0 : Int) ≤ (5 : Int) ∧ (5 : Int) < (↑(ByteArray.size s) : Int)) ∧
  br (decide (sb s (5 : Int) ≤ sb s (4 : Int)))
  (R (Ending.returned (Value.tuple #[Value.int IntKind.i64 (0 : Int), Value.int IntKind.i64 (0 : Int), Value.int IntKind.i64 (0 : Int), Value.bool false])) (World.drew w'))
  (((0 : Int) ≤ (4 : Int) ∧ (4 : Int) < (↑(ByteArray.size s) : Int)) ∧
  ((0 : Int) ≤ (5 : Int) ∧ (5 : Int) < (↑(ByteArray.size s) : Int)) ∧
  R
  (Ending.returned
  (Value.tuple
  #[Value.int IntKind.i64 i, Value.int IntKind.i64 (IntKind.wrap IntKind.i64 (sb s (4 : Int))), Value.int IntKind.i64 (IntKind.wrap IntKind.i64 (sb s (5 : Int))),
  Value.bool true]))
  (World.drew (World.drew w')))))))
theorem rhead.eq (s : ByteArray) (w : World) (R : Ending → World → Prop) : bodyV Go.Proofs.Try.prog rhead.an Go.Proofs.Try.f22 [.string s] w R = rhead.vc s w R := by kernel_rfl
theorem rhead.ok (s : ByteArray) (w : World) (R : Ending → World → Prop) (h : rhead.vc s w R) : Calls Go.Proofs.Try.prog 22 #[.string s] w R :=
  calls_of_bodyV noNum (an := rhead.an) (args := [.string s]) Go.Proofs.Try.func22 (by kernel_rfl) ((rhead.eq s w R).mpr h)

/-- incunable/incunableref16.part -/
def part.an : An := { wraps := [], loops := [], joins := [] }
def part.vc (s : ByteArray) (at_ : Int) (long : Int) (w : World) (R : Ending → World → Prop) : Prop :=
  inR IntKind.i64 (at_ + long) ∧
  ((0 : Int) ≤ min at_ (↑(ByteArray.size s) : Int) ∧
  min at_ (↑(ByteArray.size s) : Int) ≤ min (at_ + long) (↑(ByteArray.size s) : Int) ∧ min (at_ + long) (↑(ByteArray.size s) : Int) ≤ (↑(ByteArray.size s) : Int)) ∧
  R (Ending.returned (Value.string (ByteArray.extract s (Int.toNat (min at_ (↑(ByteArray.size s) : Int))) (Int.toNat (min (at_ + long) (↑(ByteArray.size s) : Int)))))) w
theorem part.eq (s : ByteArray) (at_ : Int) (long : Int) (w : World) (R : Ending → World → Prop) : bodyV Go.Proofs.Try.prog part.an Go.Proofs.Try.f30 [.string s, .int .i64 at_, .int .i64 long] w R = part.vc s at_ long w R := by kernel_rfl
theorem part.ok (s : ByteArray) (at_ : Int) (long : Int) (w : World) (R : Ending → World → Prop) (h : part.vc s at_ long w R) : Calls Go.Proofs.Try.prog 30 #[.string s, .int .i64 at_, .int .i64 long] w R :=
  calls_of_bodyV noNum (an := part.an) (args := [.string s, .int .i64 at_, .int .i64 long]) Go.Proofs.Try.func30 (by kernel_rfl) ((part.eq s at_ long w R).mpr h)

/-- incunable/incunableref16.value -/
def value.an : An := { wraps := [], loops := [(3, [(3, .inl .i64), (4, .inl .i64)])], joins := [] }
def value.vc (s : ByteArray) (w : World) (R : Ending → World → Prop) : Prop :=
  LoopP
  (fun (s_1 : Int × Int) (w' : World) (next : Int × Int → World → Prop) ↦
  br (decide (Prod.snd s_1 < (↑(ByteArray.size s) : Int)))
  (inR IntKind.i64 (Prod.fst s_1 * (256 : Int)) ∧
  ((0 : Int) ≤ Prod.snd s_1 ∧ Prod.snd s_1 < (↑(ByteArray.size s) : Int)) ∧
  inR IntKind.i64 (Prod.fst s_1 * (256 : Int) + IntKind.wrap IntKind.i64 (sb s (Prod.snd s_1))) ∧
  inR IntKind.i64 (Prod.snd s_1 + (1 : Int)) ∧ next (Prod.fst s_1 * (256 : Int) + IntKind.wrap IntKind.i64 (sb s (Prod.snd s_1)), Prod.snd s_1 + (1 : Int)) w')
  (R (Ending.returned (Value.int IntKind.i64 (Prod.fst s_1))) w'))
  ((0 : Int), (0 : Int)) w
theorem value.eq (s : ByteArray) (w : World) (R : Ending → World → Prop) : bodyV Go.Proofs.Try.prog value.an Go.Proofs.Try.f31 [.string s] w R = value.vc s w R := by kernel_rfl
theorem value.ok (s : ByteArray) (w : World) (R : Ending → World → Prop) (h : value.vc s w R) : Calls Go.Proofs.Try.prog 31 #[.string s] w R :=
  calls_of_bodyV noNum (an := value.an) (args := [.string s]) Go.Proofs.Try.func31 (by kernel_rfl) ((value.eq s w R).mpr h)

/-- incunable/incunablelaw16.alive -/
def alive.an : An := { wraps := [], loops := [], joins := [] }
def alive.vc  (w : World) (R : Ending → World → Prop) : Prop :=
  ∀ (b : Nat) (w1 : World),
  New w
  (Obj.cells
  #[Value.int IntKind.i64 (0 : Int), Value.int IntKind.i64 (0 : Int), Value.int IntKind.i64 (0 : Int), Value.int IntKind.i64 (0 : Int), Value.int IntKind.i64 (0 : Int),
  Value.int IntKind.i64 (0 : Int), Value.string (ByteArray.mk #[]), Value.slice none (0 : Nat) (0 : Nat)]
  (24 : Nat))
  b w1 →
  ∃ (w1_1 : World),
  St Go.Proofs.Try.prog (24 : Nat) w1 (Addr.mk b (0 : Nat) none)
  (Value.agg
  #[Value.int IntKind.i64 (1 : Int), Value.int IntKind.i64 (0 : Int), Value.int IntKind.i64 (1 : Int), Value.int IntKind.i64 (2 : Int), Value.int IntKind.i64 (3 : Int),
  Value.int IntKind.i64 (9 : Int), Value.string (ByteArray.mk #[]), Value.slice none (0 : Nat) (0 : Nat)])
  w1_1 ∧
  ∃ (i : Int),
  ∃ (i_1 : Int),
  ∃ (i_2 : Int),
  ∃ (i_3 : Int),
  ∃ (i_4 : Int),
  ∃ (i_5 : Int),
  ∃ (s : ByteArray),
  ∃ (a : Option Addr),
  ∃ (l : Nat),
  ∃ (c : Nat),
  Ld Go.Proofs.Try.prog (24 : Nat) w1_1 (Addr.mk b (0 : Nat) none)
  (Value.agg
  #[Value.int IntKind.i64 i, Value.int IntKind.i64 i_1, Value.int IntKind.i64 i_2, Value.int IntKind.i64 i_3, Value.int IntKind.i64 i_4, Value.int IntKind.i64 i_5,
  Value.string s, Value.slice a l c]) ∧
  CallV Go.Proofs.Try.prog (12 : Nat)
  [Value.agg
  #[Value.int IntKind.i64 i, Value.int IntKind.i64 i_1, Value.int IntKind.i64 i_2, Value.int IntKind.i64 i_3, Value.int IntKind.i64 i_4, Value.int IntKind.i64 i_5,
  Value.string s, Value.slice a l c]]
  w1_1 fun (e : Ending) (w' : World) ↦
  ∃ (i : Int),
  ∃ (i_6 : Int),
  ∃ (i_7 : Int),
  ∃ (i_8 : Int),
  ∃ (i_9 : Int),
  ∃ (i_10 : Int),
  ∃ (s : ByteArray),
  ∃ (a : Option Addr),
  ∃ (l : Nat),
  ∃ (c : Nat),
  e =
  Ending.returned
  (Value.agg
  #[Value.int IntKind.i64 i, Value.int IntKind.i64 i_6, Value.int IntKind.i64 i_7, Value.int IntKind.i64 i_8, Value.int IntKind.i64 i_9,
  Value.int IntKind.i64 i_10, Value.string s, Value.slice a l c]) ∧
  CallV Go.Proofs.Try.prog (11 : Nat)
  [Value.agg
  #[Value.int IntKind.i64 i, Value.int IntKind.i64 i_6, Value.int IntKind.i64 i_7, Value.int IntKind.i64 i_8, Value.int IntKind.i64 i_9,
  Value.int IntKind.i64 i_10, Value.string s, Value.slice a l c]]
  w' fun (e : Ending) (w' : World) ↦
  ∃ (a : Option Addr),
  ∃ (l : Nat),
  ∃ (c : Nat),
  ∃ (i : Int),
  e = Ending.returned (Value.tuple #[Value.slice a l c, Value.int IntKind.i64 i]) ∧
  CallV Go.Proofs.Try.prog (17 : Nat) [Value.slice a l c] w' fun (e : Ending) (w' : World) ↦
  ∃ (i_11 : Int),
  ∃ (i_12 : Int),
  ∃ (i_13 : Int),
  ∃ (i_14 : Int),
  ∃ (i_15 : Int),
  ∃ (i_16 : Int),
  ∃ (s : ByteArray),
  ∃ (a_1 : Option Addr),
  ∃ (l_1 : Nat),
  ∃ (c : Nat),
  ∃ (i_17 : Int),
  e =
  Ending.returned
  (Value.tuple
  #[Value.agg
  #[Value.int IntKind.i64 i_11, Value.int IntKind.i64 i_12, Value.int IntKind.i64 i_13,
  Value.int IntKind.i64 i_14, Value.int IntKind.i64 i_15, Value.int IntKind.i64 i_16,
  Value.string s, Value.slice a_1 l_1 c],
  Value.int IntKind.i64 i_17]) ∧
  ∀ (b_1 : Nat) (w1 : World),
  New w'
  (Obj.cells
  #[Value.int IntKind.i64 (0 : Int), Value.int IntKind.i64 (0 : Int), Value.int IntKind.i64 (0 : Int),
  Value.int IntKind.i64 (0 : Int), Value.int IntKind.i64 (0 : Int), Value.int IntKind.i64 (0 : Int),
  Value.string (ByteArray.mk #[]), Value.slice none (0 : Nat) (0 : Nat)]
  (34 : Nat))
  b_1 w1 →
  ∃ (w1_2 : World),
  St Go.Proofs.Try.prog (34 : Nat) w1 (Addr.mk b_1 (0 : Nat) none)
  (Value.agg
  #[Value.int IntKind.i64 i_11, Value.int IntKind.i64 i_12, Value.int IntKind.i64 i_13,
  Value.int IntKind.i64 i_14, Value.int IntKind.i64 i_15, Value.int IntKind.i64 i_16,
  Value.string s, Value.slice a_1 l_1 c])
  w1_2 ∧
  br (decide (i = (0 : Int)))
  (br (decide ((↑l : Int) = (1 : Int)))
  (onP a fun (a : Addr) ↦
  ((0 : Int) ≤ (0 : Int) ∧ (0 : Int) < (↑l : Int)) ∧
  ∃ (s : ByteArray),
  Ld Go.Proofs.Try.prog (9 : Nat) (World.drew w1_2) a (Value.string s) ∧
  br (decide ((↑(ByteArray.size s) : Int) = (36 : Int)))
  (br (decide (i_17 = (0 : Int)))
  (∃ (i : Int),
  ∃ (i_18 : Int),
  ∃ (i_19 : Int),
  ∃ (i_20 : Int),
  ∃ (i_21 : Int),
  ∃ (i_22 : Int),
  ∃ (s : ByteArray),
  ∃ (a : Option Addr),
  ∃ (l : Nat),
  ∃ (c : Nat),
  Ld Go.Proofs.Try.prog (34 : Nat) (World.drew w1_2)
  (Addr.mk b_1 (0 : Nat) none)
  (Value.agg
  #[Value.int IntKind.i64 i, Value.int IntKind.i64 i_18,
  Value.int IntKind.i64 i_19, Value.int IntKind.i64 i_20,
  Value.int IntKind.i64 i_21, Value.int IntKind.i64 i_22,
  Value.string s, Value.slice a l c]) ∧
  ∃ (i_23 : Int),
  ∃ (i_24 : Int),
  ∃ (i_25 : Int),
  ∃ (i_26 : Int),
  ∃ (i_27 : Int),
  ∃ (i_28 : Int),
  ∃ (s_1 : ByteArray),
  ∃ (a_3 : Option Addr),
  ∃ (l_2 : Nat),
  ∃ (c_1 : Nat),
  Ld Go.Proofs.Try.prog (24 : Nat)
  (World.drew w1_2)
  (Addr.mk b (0 : Nat) none)
  (Value.agg
  #[Value.int IntKind.i64 i_23,
  Value.int IntKind.i64 i_24,
  Value.int IntKind.i64 i_25,
  Value.int IntKind.i64 i_26,
  Value.int IntKind.i64 i_27,
  Value.int IntKind.i64 i_28,
  Value.string s_1,
  Value.slice a_3 l_2 c_1]) ∧
  CallV Go.Proofs.Try.prog (20 : Nat)
  [Value.agg
  #[Value.int IntKind.i64 i,
  Value.int IntKind.i64 i_18,
  Value.int IntKind.i64 i_19,
  Value.int IntKind.i64 i_20,
  Value.int IntKind.i64 i_21,
  Value.int IntKind.i64 i_22,
  Value.string s,
  Value.slice a l c]]
  (World.drew w1_2)
  fun (e : Ending) (w' : World) ↦
  ∃ (i : Int),
  ∃ (i_29 : Int),
  ∃ (i_30 : Int),
  ∃ (i_31 : Int),
  ∃ (i_32 : Int),
  ∃ (i_33 : Int),
  ∃ (s : ByteArray),
  ∃ (a : Option Addr),
  ∃ (l : Nat),
  ∃ (c : Nat),
  e =
  Ending.returned
  (Value.agg
  #[Value.int
  IntKind.i64
  i,
  Value.int
  IntKind.i64
  i_29,
  Value.int
  IntKind.i64
  i_30,
  Value.int
  IntKind.i64
  i_31,
  Value.int
  IntKind.i64
  i_32,
  Value.int
  IntKind.i64
  i_33,
  Value.string
  s,
  Value.slice
  a l
  c]) ∧
  Ld
  Go.Proofs.Try.prog
  (24 : Nat)
  w'
  (Addr.mk b
  (0 : Nat)
  none)
  (Value.agg
  #[Value.int
  IntKind.i64
  i_23,
  Value.int
  IntKind.i64
  i_24,
  Value.int
  IntKind.i64
  i_25,
  Value.int
  IntKind.i64
  i_26,
  Value.int
  IntKind.i64
  i_27,
  Value.int
  IntKind.i64
  i_28,
  Value.string
  s_1,
  Value.slice
  a_3
  l_2
  c_1]) ∧
  CallV
  Go.Proofs.Try.prog
  (19 : Nat)
  [Value.agg
  #[Value.int
  IntKind.i64
  i,
  Value.int
  IntKind.i64
  i_29,
  Value.int
  IntKind.i64
  i_30,
  Value.int
  IntKind.i64
  i_31,
  Value.int
  IntKind.i64
  i_32,
  Value.int
  IntKind.i64
  i_33,
  Value.string
  s,
  Value.slice
  a l
  c],
  Value.agg
  #[Value.int
  IntKind.i64
  i_23,
  Value.int
  IntKind.i64
  i_24,
  Value.int
  IntKind.i64
  i_25,
  Value.int
  IntKind.i64
  i_26,
  Value.int
  IntKind.i64
  i_27,
  Value.int
  IntKind.i64
  i_28,
  Value.string
  s_1,
  Value.slice
  a_3
  l_2
  c_1]]
  w'
  fun
  (e :
  Ending)
  (w' :
  World) ↦
  ∃ (b :
  Bool),
  e =
  Ending.returned
  (Value.bool
  b) ∧
  R
  (Ending.returned
  (Value.bool
  b))
  w')
  (R (Ending.returned (Value.bool false)) (World.drew w1_2)))
  (R (Ending.returned (Value.bool false)) (World.drew w1_2)))
  (R (Ending.returned (Value.bool false)) (World.drew w1_2)))
  (R (Ending.returned (Value.bool false)) (World.drew w1_2))
theorem alive.eq  (w : World) (R : Ending → World → Prop) : bodyV Go.Proofs.Try.prog alive.an Go.Proofs.Try.f10 [] w R = alive.vc  w R := by kernel_rfl
theorem alive.ok  (w : World) (R : Ending → World → Prop) (h : alive.vc  w R) : Calls Go.Proofs.Try.prog 10 #[] w R :=
  calls_of_bodyV noNum (an := alive.an) (args := []) Go.Proofs.Try.func10 (by kernel_rfl) ((alive.eq  w R).mpr h)

/-- incunable/incunablelaw16.own -/
def own.an : An := { wraps := [], loops := [(3, [(25, .inl .i64)])], joins := [] }
def own.vc (r_Id : Int) (r_Parent : Int) (r_Kind : Int) (r_Name : Int) (r_From : Int) (r_To : Int) (r_Text : ByteArray) (r_Attrsa : Option Addr) (r_Attrsn : Nat) (r_Attrsc : Nat) (w : World) (R : Ending → World → Prop) : Prop :=
  ∀ (b : Nat) (w1 : World),
  New w
  (Obj.cells
  #[Value.int IntKind.i64 r_Id, Value.int IntKind.i64 r_Parent, Value.int IntKind.i64 r_Kind, Value.int IntKind.i64 r_Name, Value.int IntKind.i64 r_From, Value.int IntKind.i64 r_To,
  Value.string r_Text, Value.slice r_Attrsa r_Attrsn r_Attrsc]
  (24 : Nat))
  b w1 →
  ∀ (b_1 : Nat) (w1_1 : World),
  New w1
  (Obj.cells
  #[Value.int IntKind.i64 (0 : Int), Value.int IntKind.i64 (0 : Int), Value.int IntKind.i64 (0 : Int), Value.int IntKind.i64 (0 : Int), Value.int IntKind.i64 (0 : Int),
  Value.int IntKind.i64 (0 : Int), Value.string (ByteArray.mk #[]), Value.slice none (0 : Nat) (0 : Nat)]
  (34 : Nat))
  b_1 w1_1 →
  ∃ (i : Int),
  Ld Go.Proofs.Try.prog (3 : Nat) w1_1 (Addr.mk b (0 : Nat) none) (Value.int IntKind.i64 i) ∧
  ∃ (i_1 : Int),
  Ld Go.Proofs.Try.prog (3 : Nat) w1_1 (Addr.mk b (1 : Nat) none) (Value.int IntKind.i64 i_1) ∧
  ∃ (i_2 : Int),
  Ld Go.Proofs.Try.prog (3 : Nat) w1_1 (Addr.mk b (2 : Nat) none) (Value.int IntKind.i64 i_2) ∧
  ∃ (i_3 : Int),
  Ld Go.Proofs.Try.prog (3 : Nat) w1_1 (Addr.mk b (3 : Nat) none) (Value.int IntKind.i64 i_3) ∧
  ∃ (i_4 : Int),
  Ld Go.Proofs.Try.prog (3 : Nat) w1_1 (Addr.mk b (4 : Nat) none) (Value.int IntKind.i64 i_4) ∧
  ∃ (i_5 : Int),
  Ld Go.Proofs.Try.prog (3 : Nat) w1_1 (Addr.mk b (5 : Nat) none) (Value.int IntKind.i64 i_5) ∧
  ∃ (s : ByteArray),
  Ld Go.Proofs.Try.prog (9 : Nat) w1_1 (Addr.mk b (6 : Nat) none) (Value.string s) ∧
  ∀ (b_2 : Nat) (w1 : World),
  New w1_1
  (Obj.cells
  #[Value.int IntKind.i64 (0 : Int), Value.int IntKind.i64 (0 : Int), Value.int IntKind.i64 (0 : Int), Value.int IntKind.i64 (0 : Int),
  Value.int IntKind.i64 (0 : Int), Value.int IntKind.i64 (0 : Int), Value.string (ByteArray.mk #[]), Value.slice none (0 : Nat) (0 : Nat)]
  (34 : Nat))
  b_2 w1 →
  ∃ (w1_2 : World),
  St Go.Proofs.Try.prog (34 : Nat) w1 (Addr.mk b_2 (0 : Nat) none)
  (Value.agg
  #[Value.int IntKind.i64 i, Value.int IntKind.i64 i_1, Value.int IntKind.i64 i_2, Value.int IntKind.i64 i_3, Value.int IntKind.i64 i_4,
  Value.int IntKind.i64 i_5, Value.string s, Value.slice none (0 : Nat) (0 : Nat)])
  w1_2 ∧
  ∃ (a : Option Addr),
  ∃ (l : Nat),
  ∃ (c : Nat),
  Ld Go.Proofs.Try.prog (22 : Nat) w1_2 (Addr.mk b (7 : Nat) none) (Value.slice a l c) ∧
  LoopP
  (fun (s : Int) (w' : World) (next : Int → World → Prop) ↦
  br (decide (s < (↑l : Int)))
  (onP a fun (a : Addr) ↦
  ((0 : Int) ≤ s ∧ s < (↑l : Int)) ∧
  ∃ (i : Int),
  ∃ (s_1 : ByteArray),
  Ld Go.Proofs.Try.prog (52 : Nat) w' (Addr.add a (Int.toNat s * (2 : Nat))) (Value.agg #[Value.int IntKind.i64 i, Value.string s_1]) ∧
  ∀ (b : Nat) (w1 : World),
  New w' (Obj.cells #[Value.int IntKind.i64 (0 : Int), Value.string (ByteArray.mk #[])] (52 : Nat)) b w1 →
  ∃ (w1_3 : World),
  St Go.Proofs.Try.prog (52 : Nat) w1 (Addr.mk b (0 : Nat) none) (Value.agg #[Value.int IntKind.i64 i, Value.string s_1]) w1_3 ∧
  ∃ (a : Option Addr),
  ∃ (l : Nat),
  ∃ (c : Nat),
  Ld Go.Proofs.Try.prog (32 : Nat) w1_3 (Addr.mk b_2 (7 : Nat) none) (Value.slice a l c) ∧
  ∃ (i : Int),
  ∃ (s_2 : ByteArray),
  Ld Go.Proofs.Try.prog (52 : Nat) w1_3 (Addr.mk b (0 : Nat) none)
  (Value.agg #[Value.int IntKind.i64 i, Value.string s_2]) ∧
  ∀ (b : Nat) (w1 : World),
  New w1_3 (Obj.cells #[Value.int IntKind.i64 i, Value.string s_2] (58 : Nat)) b w1 →
  ∃ (a_2 : Option Addr),
  ∃ (n : Nat),
  ∃ (m : Nat),
  ∃ (w1_4 : World),
  App Go.Proofs.Try.prog #[(32 : Nat), (32 : Nat)] (32 : Nat) w1 (Value.slice a l c)
  (Value.slice (some (Addr.mk b (0 : Nat) none)) (1 : Nat) (1 : Nat)) (Value.slice a_2 n m)
  w1_4 ∧
  ∃ (w1 : World),
  St Go.Proofs.Try.prog (32 : Nat) w1_4 (Addr.mk b_2 (7 : Nat) none) (Value.slice a_2 n m) w1 ∧
  inR IntKind.i64 (s + (1 : Int)) ∧ next (s + (1 : Int)) w1)
  (∃ (i : Int),
  ∃ (i_6 : Int),
  ∃ (i_7 : Int),
  ∃ (i_8 : Int),
  ∃ (i_9 : Int),
  ∃ (i_10 : Int),
  ∃ (s : ByteArray),
  ∃ (a : Option Addr),
  ∃ (l : Nat),
  ∃ (c : Nat),
  Ld Go.Proofs.Try.prog (34 : Nat) w' (Addr.mk b_2 (0 : Nat) none)
  (Value.agg
  #[Value.int IntKind.i64 i, Value.int IntKind.i64 i_6, Value.int IntKind.i64 i_7, Value.int IntKind.i64 i_8,
  Value.int IntKind.i64 i_9, Value.int IntKind.i64 i_10, Value.string s, Value.slice a l c]) ∧
  ∃ (w1 : World),
  St Go.Proofs.Try.prog (34 : Nat) w' (Addr.mk b_1 (0 : Nat) none)
  (Value.agg
  #[Value.int IntKind.i64 i, Value.int IntKind.i64 i_6, Value.int IntKind.i64 i_7, Value.int IntKind.i64 i_8,
  Value.int IntKind.i64 i_9, Value.int IntKind.i64 i_10, Value.string s, Value.slice a l c])
  w1 ∧
  ∃ (i : Int),
  ∃ (i_11 : Int),
  ∃ (i_12 : Int),
  ∃ (i_13 : Int),
  ∃ (i_14 : Int),
  ∃ (i_15 : Int),
  ∃ (s : ByteArray),
  ∃ (a : Option Addr),
  ∃ (l : Nat),
  ∃ (c : Nat),
  Ld Go.Proofs.Try.prog (34 : Nat) w1 (Addr.mk b_1 (0 : Nat) none)
  (Value.agg
  #[Value.int IntKind.i64 i, Value.int IntKind.i64 i_11, Value.int IntKind.i64 i_12,
  Value.int IntKind.i64 i_13, Value.int IntKind.i64 i_14, Value.int IntKind.i64 i_15,
  Value.string s, Value.slice a l c]) ∧
  R
  (Ending.returned
  (Value.agg
  #[Value.int IntKind.i64 i, Value.int IntKind.i64 i_11, Value.int IntKind.i64 i_12,
  Value.int IntKind.i64 i_13, Value.int IntKind.i64 i_14, Value.int IntKind.i64 i_15,
  Value.string s, Value.slice a l c]))
  w1))
  (0 : Int) w1_2
theorem own.eq (r_Id : Int) (r_Parent : Int) (r_Kind : Int) (r_Name : Int) (r_From : Int) (r_To : Int) (r_Text : ByteArray) (r_Attrsa : Option Addr) (r_Attrsn : Nat) (r_Attrsc : Nat) (w : World) (R : Ending → World → Prop) : bodyV Go.Proofs.Try.prog own.an Go.Proofs.Try.f12 [.agg #[.int .i64 r_Id, .int .i64 r_Parent, .int .i64 r_Kind, .int .i64 r_Name, .int .i64 r_From, .int .i64 r_To, .string r_Text, .slice r_Attrsa r_Attrsn r_Attrsc]] w R = own.vc r_Id r_Parent r_Kind r_Name r_From r_To r_Text r_Attrsa r_Attrsn r_Attrsc w R := by kernel_rfl
theorem own.ok (r_Id : Int) (r_Parent : Int) (r_Kind : Int) (r_Name : Int) (r_From : Int) (r_To : Int) (r_Text : ByteArray) (r_Attrsa : Option Addr) (r_Attrsn : Nat) (r_Attrsc : Nat) (w : World) (R : Ending → World → Prop) (h : own.vc r_Id r_Parent r_Kind r_Name r_From r_To r_Text r_Attrsa r_Attrsn r_Attrsc w R) : Calls Go.Proofs.Try.prog 12 #[.agg #[.int .i64 r_Id, .int .i64 r_Parent, .int .i64 r_Kind, .int .i64 r_Name, .int .i64 r_From, .int .i64 r_To, .string r_Text, .slice r_Attrsa r_Attrsn r_Attrsc]] w R :=
  calls_of_bodyV noNum (an := own.an) (args := [.agg #[.int .i64 r_Id, .int .i64 r_Parent, .int .i64 r_Kind, .int .i64 r_Name, .int .i64 r_From, .int .i64 r_To, .string r_Text, .slice r_Attrsa r_Attrsn r_Attrsc]]) Go.Proofs.Try.func12 (by kernel_rfl) ((own.eq r_Id r_Parent r_Kind r_Name r_From r_To r_Text r_Attrsa r_Attrsn r_Attrsc w R).mpr h)

/-- incunable/incunablelaw16.plain -/
def plain.an : An := { wraps := [], loops := [(3, [(26, .inl .i64)])], joins := [] }
def plain.vc (r_Id : Int) (r_Parent : Int) (r_Kind : Int) (r_Name : Int) (r_Span_From : Int) (r_Span_To : Int) (r_Text : ByteArray) (r_Attrsa : Option Addr) (r_Attrsn : Nat) (r_Attrsc : Nat) (w : World) (R : Ending → World → Prop) : Prop :=
  ∀ (b : Nat) (w1 : World),
  New w
  (Obj.cells
  #[Value.int IntKind.i64 r_Id, Value.int IntKind.i64 r_Parent, Value.int IntKind.i64 r_Kind, Value.int IntKind.i64 r_Name, Value.int IntKind.i64 r_Span_From, Value.int IntKind.i64 r_Span_To,
  Value.string r_Text, Value.slice r_Attrsa r_Attrsn r_Attrsc]
  (34 : Nat))
  b w1 →
  ∀ (b_1 : Nat) (w1_1 : World),
  New w1
  (Obj.cells
  #[Value.int IntKind.i64 (0 : Int), Value.int IntKind.i64 (0 : Int), Value.int IntKind.i64 (0 : Int), Value.int IntKind.i64 (0 : Int), Value.int IntKind.i64 (0 : Int),
  Value.int IntKind.i64 (0 : Int), Value.string (ByteArray.mk #[]), Value.slice none (0 : Nat) (0 : Nat)]
  (24 : Nat))
  b_1 w1_1 →
  ∃ (i : Int),
  Ld Go.Proofs.Try.prog (3 : Nat) w1_1 (Addr.mk b (0 : Nat) none) (Value.int IntKind.i64 i) ∧
  ∃ (i_1 : Int),
  Ld Go.Proofs.Try.prog (3 : Nat) w1_1 (Addr.mk b (1 : Nat) none) (Value.int IntKind.i64 i_1) ∧
  ∃ (i_2 : Int),
  Ld Go.Proofs.Try.prog (3 : Nat) w1_1 (Addr.mk b (2 : Nat) none) (Value.int IntKind.i64 i_2) ∧
  ∃ (i_3 : Int),
  Ld Go.Proofs.Try.prog (3 : Nat) w1_1 (Addr.mk b (3 : Nat) none) (Value.int IntKind.i64 i_3) ∧
  ∃ (i_4 : Int),
  Ld Go.Proofs.Try.prog (3 : Nat) w1_1 (Addr.mk b (4 : Nat) none) (Value.int IntKind.i64 i_4) ∧
  ∃ (i_5 : Int),
  Ld Go.Proofs.Try.prog (3 : Nat) w1_1 (Addr.add (Addr.mk b (4 : Nat) none) (1 : Nat)) (Value.int IntKind.i64 i_5) ∧
  ∃ (s : ByteArray),
  Ld Go.Proofs.Try.prog (9 : Nat) w1_1 (Addr.mk b (6 : Nat) none) (Value.string s) ∧
  ∀ (b_2 : Nat) (w1 : World),
  New w1_1
  (Obj.cells
  #[Value.int IntKind.i64 (0 : Int), Value.int IntKind.i64 (0 : Int), Value.int IntKind.i64 (0 : Int), Value.int IntKind.i64 (0 : Int),
  Value.int IntKind.i64 (0 : Int), Value.int IntKind.i64 (0 : Int), Value.string (ByteArray.mk #[]), Value.slice none (0 : Nat) (0 : Nat)]
  (24 : Nat))
  b_2 w1 →
  ∃ (w1_2 : World),
  St Go.Proofs.Try.prog (24 : Nat) w1 (Addr.mk b_2 (0 : Nat) none)
  (Value.agg
  #[Value.int IntKind.i64 i, Value.int IntKind.i64 i_1, Value.int IntKind.i64 i_2, Value.int IntKind.i64 i_3, Value.int IntKind.i64 i_4,
  Value.int IntKind.i64 i_5, Value.string s, Value.slice none (0 : Nat) (0 : Nat)])
  w1_2 ∧
  ∃ (a : Option Addr),
  ∃ (l : Nat),
  ∃ (c : Nat),
  Ld Go.Proofs.Try.prog (32 : Nat) w1_2 (Addr.mk b (7 : Nat) none) (Value.slice a l c) ∧
  LoopP
  (fun (s : Int) (w' : World) (next : Int → World → Prop) ↦
  br (decide (s < (↑l : Int)))
  (onP a fun (a : Addr) ↦
  ((0 : Int) ≤ s ∧ s < (↑l : Int)) ∧
  ∃ (i : Int),
  ∃ (s_1 : ByteArray),
  Ld Go.Proofs.Try.prog (58 : Nat) w' (Addr.add a (Int.toNat s * (2 : Nat))) (Value.agg #[Value.int IntKind.i64 i, Value.string s_1]) ∧
  ∀ (b : Nat) (w1 : World),
  New w' (Obj.cells #[Value.int IntKind.i64 (0 : Int), Value.string (ByteArray.mk #[])] (58 : Nat)) b w1 →
  ∃ (w1_3 : World),
  St Go.Proofs.Try.prog (58 : Nat) w1 (Addr.mk b (0 : Nat) none) (Value.agg #[Value.int IntKind.i64 i, Value.string s_1]) w1_3 ∧
  ∃ (a : Option Addr),
  ∃ (l : Nat),
  ∃ (c : Nat),
  Ld Go.Proofs.Try.prog (22 : Nat) w1_3 (Addr.mk b_2 (7 : Nat) none) (Value.slice a l c) ∧
  ∃ (i : Int),
  ∃ (s_2 : ByteArray),
  Ld Go.Proofs.Try.prog (58 : Nat) w1_3 (Addr.mk b (0 : Nat) none)
  (Value.agg #[Value.int IntKind.i64 i, Value.string s_2]) ∧
  ∀ (b : Nat) (w1 : World),
  New w1_3 (Obj.cells #[Value.int IntKind.i64 i, Value.string s_2] (52 : Nat)) b w1 →
  ∃ (a_2 : Option Addr),
  ∃ (n : Nat),
  ∃ (m : Nat),
  ∃ (w1_4 : World),
  App Go.Proofs.Try.prog #[(22 : Nat), (22 : Nat)] (22 : Nat) w1 (Value.slice a l c)
  (Value.slice (some (Addr.mk b (0 : Nat) none)) (1 : Nat) (1 : Nat)) (Value.slice a_2 n m)
  w1_4 ∧
  ∃ (w1 : World),
  St Go.Proofs.Try.prog (22 : Nat) w1_4 (Addr.mk b_2 (7 : Nat) none) (Value.slice a_2 n m) w1 ∧
  inR IntKind.i64 (s + (1 : Int)) ∧ next (s + (1 : Int)) w1)
  (∃ (i : Int),
  ∃ (i_6 : Int),
  ∃ (i_7 : Int),
  ∃ (i_8 : Int),
  ∃ (i_9 : Int),
  ∃ (i_10 : Int),
  ∃ (s : ByteArray),
  ∃ (a : Option Addr),
  ∃ (l : Nat),
  ∃ (c : Nat),
  Ld Go.Proofs.Try.prog (24 : Nat) w' (Addr.mk b_2 (0 : Nat) none)
  (Value.agg
  #[Value.int IntKind.i64 i, Value.int IntKind.i64 i_6, Value.int IntKind.i64 i_7, Value.int IntKind.i64 i_8,
  Value.int IntKind.i64 i_9, Value.int IntKind.i64 i_10, Value.string s, Value.slice a l c]) ∧
  ∃ (w1 : World),
  St Go.Proofs.Try.prog (24 : Nat) w' (Addr.mk b_1 (0 : Nat) none)
  (Value.agg
  #[Value.int IntKind.i64 i, Value.int IntKind.i64 i_6, Value.int IntKind.i64 i_7, Value.int IntKind.i64 i_8,
  Value.int IntKind.i64 i_9, Value.int IntKind.i64 i_10, Value.string s, Value.slice a l c])
  w1 ∧
  ∃ (i : Int),
  ∃ (i_11 : Int),
  ∃ (i_12 : Int),
  ∃ (i_13 : Int),
  ∃ (i_14 : Int),
  ∃ (i_15 : Int),
  ∃ (s : ByteArray),
  ∃ (a : Option Addr),
  ∃ (l : Nat),
  ∃ (c : Nat),
  Ld Go.Proofs.Try.prog (24 : Nat) w1 (Addr.mk b_1 (0 : Nat) none)
  (Value.agg
  #[Value.int IntKind.i64 i, Value.int IntKind.i64 i_11, Value.int IntKind.i64 i_12,
  Value.int IntKind.i64 i_13, Value.int IntKind.i64 i_14, Value.int IntKind.i64 i_15,
  Value.string s, Value.slice a l c]) ∧
  R
  (Ending.returned
  (Value.agg
  #[Value.int IntKind.i64 i, Value.int IntKind.i64 i_11, Value.int IntKind.i64 i_12,
  Value.int IntKind.i64 i_13, Value.int IntKind.i64 i_14, Value.int IntKind.i64 i_15,
  Value.string s, Value.slice a l c]))
  w1))
  (0 : Int) w1_2
theorem plain.eq (r_Id : Int) (r_Parent : Int) (r_Kind : Int) (r_Name : Int) (r_Span_From : Int) (r_Span_To : Int) (r_Text : ByteArray) (r_Attrsa : Option Addr) (r_Attrsn : Nat) (r_Attrsc : Nat) (w : World) (R : Ending → World → Prop) : bodyV Go.Proofs.Try.prog plain.an Go.Proofs.Try.f20 [.agg #[.int .i64 r_Id, .int .i64 r_Parent, .int .i64 r_Kind, .int .i64 r_Name, .int .i64 r_Span_From, .int .i64 r_Span_To, .string r_Text, .slice r_Attrsa r_Attrsn r_Attrsc]] w R = plain.vc r_Id r_Parent r_Kind r_Name r_Span_From r_Span_To r_Text r_Attrsa r_Attrsn r_Attrsc w R := by kernel_rfl
theorem plain.ok (r_Id : Int) (r_Parent : Int) (r_Kind : Int) (r_Name : Int) (r_Span_From : Int) (r_Span_To : Int) (r_Text : ByteArray) (r_Attrsa : Option Addr) (r_Attrsn : Nat) (r_Attrsc : Nat) (w : World) (R : Ending → World → Prop) (h : plain.vc r_Id r_Parent r_Kind r_Name r_Span_From r_Span_To r_Text r_Attrsa r_Attrsn r_Attrsc w R) : Calls Go.Proofs.Try.prog 20 #[.agg #[.int .i64 r_Id, .int .i64 r_Parent, .int .i64 r_Kind, .int .i64 r_Name, .int .i64 r_Span_From, .int .i64 r_Span_To, .string r_Text, .slice r_Attrsa r_Attrsn r_Attrsc]] w R :=
  calls_of_bodyV noNum (an := plain.an) (args := [.agg #[.int .i64 r_Id, .int .i64 r_Parent, .int .i64 r_Kind, .int .i64 r_Name, .int .i64 r_Span_From, .int .i64 r_Span_To, .string r_Text, .slice r_Attrsa r_Attrsn r_Attrsc]]) Go.Proofs.Try.func20 (by kernel_rfl) ((plain.eq r_Id r_Parent r_Kind r_Name r_Span_From r_Span_To r_Text r_Attrsa r_Attrsn r_Attrsc w R).mpr h)

/-- incunable/incunablelaw16.FolioWrites -/
def folioWrites.an : An := { wraps := [], loops := [], joins := [] }
def folioWrites.vc (r_Id : Int) (r_Parent : Int) (r_Kind : Int) (r_Name : Int) (r_From : Int) (r_To : Int) (r_Text : ByteArray) (r_Attrsa : Option Addr) (r_Attrsn : Nat) (r_Attrsc : Nat) (w : World) (R : Ending → World → Prop) : Prop :=
  ∀ (b : Nat) (w1 : World),
  New w
  (Obj.cells
  #[Value.int IntKind.i64 r_Id, Value.int IntKind.i64 r_Parent, Value.int IntKind.i64 r_Kind, Value.int IntKind.i64 r_Name, Value.int IntKind.i64 r_From, Value.int IntKind.i64 r_To,
  Value.string r_Text, Value.slice r_Attrsa r_Attrsn r_Attrsc]
  (24 : Nat))
  b w1 →
  ∃ (a : Option Addr),
  ∃ (l : Nat),
  ∃ (c : Nat),
  Ld Go.Proofs.Try.prog (22 : Nat) w1 (Addr.mk b (7 : Nat) none) (Value.slice a l c) ∧
  br (decide ((100 : Int) < (↑l : Int)))
  (CallV Go.Proofs.Try.prog (10 : Nat) [] w1 fun (e : Ending) (w' : World) ↦ ∃ (b : Bool), e = Ending.returned (Value.bool b) ∧ R (Ending.returned (Value.bool b)) w')
  (∃ (i : Int),
  ∃ (i_1 : Int),
  ∃ (i_2 : Int),
  ∃ (i_3 : Int),
  ∃ (i_4 : Int),
  ∃ (i_5 : Int),
  ∃ (s : ByteArray),
  ∃ (a : Option Addr),
  ∃ (l : Nat),
  ∃ (c : Nat),
  Ld Go.Proofs.Try.prog (24 : Nat) w1 (Addr.mk b (0 : Nat) none)
  (Value.agg
  #[Value.int IntKind.i64 i, Value.int IntKind.i64 i_1, Value.int IntKind.i64 i_2, Value.int IntKind.i64 i_3, Value.int IntKind.i64 i_4,
  Value.int IntKind.i64 i_5, Value.string s, Value.slice a l c]) ∧
  CallV Go.Proofs.Try.prog (12 : Nat)
  [Value.agg
  #[Value.int IntKind.i64 i, Value.int IntKind.i64 i_1, Value.int IntKind.i64 i_2, Value.int IntKind.i64 i_3, Value.int IntKind.i64 i_4,
  Value.int IntKind.i64 i_5, Value.string s, Value.slice a l c]]
  w1 fun (e : Ending) (w' : World) ↦
  ∃ (i : Int),
  ∃ (i_6 : Int),
  ∃ (i_7 : Int),
  ∃ (i_8 : Int),
  ∃ (i_9 : Int),
  ∃ (i_10 : Int),
  ∃ (s : ByteArray),
  ∃ (a : Option Addr),
  ∃ (l : Nat),
  ∃ (c : Nat),
  e =
  Ending.returned
  (Value.agg
  #[Value.int IntKind.i64 i, Value.int IntKind.i64 i_6, Value.int IntKind.i64 i_7, Value.int IntKind.i64 i_8, Value.int IntKind.i64 i_9,
  Value.int IntKind.i64 i_10, Value.string s, Value.slice a l c]) ∧
  CallV Go.Proofs.Try.prog (11 : Nat)
  [Value.agg
  #[Value.int IntKind.i64 i, Value.int IntKind.i64 i_6, Value.int IntKind.i64 i_7, Value.int IntKind.i64 i_8, Value.int IntKind.i64 i_9,
  Value.int IntKind.i64 i_10, Value.string s, Value.slice a l c]]
  w' fun (e : Ending) (w' : World) ↦
  ∃ (a : Option Addr),
  ∃ (l : Nat),
  ∃ (c : Nat),
  ∃ (i : Int),
  e = Ending.returned (Value.tuple #[Value.slice a l c, Value.int IntKind.i64 i]) ∧
  ∃ (i_11 : Int),
  ∃ (i_12 : Int),
  ∃ (i_13 : Int),
  ∃ (i_14 : Int),
  ∃ (i_15 : Int),
  ∃ (i_16 : Int),
  ∃ (s : ByteArray),
  ∃ (a_1 : Option Addr),
  ∃ (l_1 : Nat),
  ∃ (c_1 : Nat),
  Ld Go.Proofs.Try.prog (24 : Nat) w' (Addr.mk b (0 : Nat) none)
  (Value.agg
  #[Value.int IntKind.i64 i_11, Value.int IntKind.i64 i_12, Value.int IntKind.i64 i_13,
  Value.int IntKind.i64 i_14, Value.int IntKind.i64 i_15, Value.int IntKind.i64 i_16, Value.string s,
  Value.slice a_1 l_1 c_1]) ∧
  CallV Go.Proofs.Try.prog (13 : Nat)
  [Value.agg
  #[Value.int IntKind.i64 i_11, Value.int IntKind.i64 i_12, Value.int IntKind.i64 i_13,
  Value.int IntKind.i64 i_14, Value.int IntKind.i64 i_15, Value.int IntKind.i64 i_16,
  Value.string s, Value.slice a_1 l_1 c_1]]
  w' fun (e : Ending) (w' : World) ↦
  ∃ (a_2 : Option Addr),
  ∃ (l_2 : Nat),
  ∃ (c_2 : Nat),
  ∃ (i_17 : Int),
  e = Ending.returned (Value.tuple #[Value.slice a_2 l_2 c_2, Value.int IntKind.i64 i_17]) ∧
  CallV Go.Proofs.Try.prog (10 : Nat) [] (World.drew w') fun (e : Ending) (w' : World) ↦
  ∃ (b_1 : Bool),
  e = Ending.returned (Value.bool b_1) ∧
  br b_1
  (∃ (i_18 : Int),
  ∃ (i_19 : Int),
  ∃ (i_20 : Int),
  ∃ (i_21 : Int),
  ∃ (i_22 : Int),
  ∃ (i_23 : Int),
  ∃ (s : ByteArray),
  ∃ (a_3 : Option Addr),
  ∃ (l_3 : Nat),
  ∃ (c_3 : Nat),
  Ld Go.Proofs.Try.prog (24 : Nat) w' (Addr.mk b (0 : Nat) none)
  (Value.agg
  #[Value.int IntKind.i64 i_18, Value.int IntKind.i64 i_19,
  Value.int IntKind.i64 i_20, Value.int IntKind.i64 i_21,
  Value.int IntKind.i64 i_22, Value.int IntKind.i64 i_23,
  Value.string s, Value.slice a_3 l_3 c_3]) ∧
  ∃ (i_24 : Int),
  ∃ (i_25 : Int),
  ∃ (i_26 : Int),
  ∃ (i_27 : Int),
  ∃ (i_28 : Int),
  ∃ (i_29 : Int),
  ∃ (s_1 : ByteArray),
  ∃ (a_4 : Option Addr),
  ∃ (l_4 : Nat),
  ∃ (c_4 : Nat),
  Ld Go.Proofs.Try.prog (24 : Nat) w'
  (Addr.mk b (0 : Nat) none)
  (Value.agg
  #[Value.int IntKind.i64 i_24,
  Value.int IntKind.i64 i_25,
  Value.int IntKind.i64 i_26,
  Value.int IntKind.i64 i_27,
  Value.int IntKind.i64 i_28,
  Value.int IntKind.i64 i_29,
  Value.string s_1,
  Value.slice a_4 l_4 c_4]) ∧
  CallV Go.Proofs.Try.prog (12 : Nat)
  [Value.agg
  #[Value.int IntKind.i64 i_18,
  Value.int IntKind.i64 i_19,
  Value.int IntKind.i64 i_20,
  Value.int IntKind.i64 i_21,
  Value.int IntKind.i64 i_22,
  Value.int IntKind.i64 i_23,
  Value.string s,
  Value.slice a_3 l_3 c_3]]
  w' fun (e : Ending) (w' : World) ↦
  ∃ (i_30 : Int),
  ∃ (i_31 : Int),
  ∃ (i_32 : Int),
  ∃ (i_33 : Int),
  ∃ (i_34 : Int),
  ∃ (i_35 : Int),
  ∃ (s : ByteArray),
  ∃ (a_5 : Option Addr),
  ∃ (l_5 : Nat),
  ∃ (c_5 : Nat),
  e =
  Ending.returned
  (Value.agg
  #[Value.int
  IntKind.i64
  i_30,
  Value.int
  IntKind.i64
  i_31,
  Value.int
  IntKind.i64
  i_32,
  Value.int
  IntKind.i64
  i_33,
  Value.int
  IntKind.i64
  i_34,
  Value.int
  IntKind.i64
  i_35,
  Value.string
  s,
  Value.slice
  a_5 l_5
  c_5]) ∧
  Ld Go.Proofs.Try.prog
  (24 : Nat) w'
  (Addr.mk b
  (0 : Nat)
  none)
  (Value.agg
  #[Value.int
  IntKind.i64
  i_24,
  Value.int
  IntKind.i64
  i_25,
  Value.int
  IntKind.i64
  i_26,
  Value.int
  IntKind.i64
  i_27,
  Value.int
  IntKind.i64
  i_28,
  Value.int
  IntKind.i64
  i_29,
  Value.string
  s_1,
  Value.slice
  a_4 l_4
  c_4]) ∧
  CallV
  Go.Proofs.Try.prog
  (14 : Nat)
  [Value.agg
  #[Value.int
  IntKind.i64
  i_30,
  Value.int
  IntKind.i64
  i_31,
  Value.int
  IntKind.i64
  i_32,
  Value.int
  IntKind.i64
  i_33,
  Value.int
  IntKind.i64
  i_34,
  Value.int
  IntKind.i64
  i_35,
  Value.string
  s,
  Value.slice
  a_5
  l_5
  c_5]]
  w'
  fun
  (e : Ending)
  (w' :
  World) ↦
  ∃ (b_2 :
  Bool),
  e =
  Ending.returned
  (Value.bool
  b_2) ∧
  Ld
  Go.Proofs.Try.prog
  (24 :
  Nat)
  w'
  (Addr.mk
  b
  (0 :
  Nat)
  none)
  (Value.agg
  #[Value.int
  IntKind.i64
  i_24,
  Value.int
  IntKind.i64
  i_25,
  Value.int
  IntKind.i64
  i_26,
  Value.int
  IntKind.i64
  i_27,
  Value.int
  IntKind.i64
  i_28,
  Value.int
  IntKind.i64
  i_29,
  Value.string
  s_1,
  Value.slice
  a_4
  l_4
  c_4]) ∧
  CallV
  Go.Proofs.Try.prog
  (15 :
  Nat)
  [Value.agg
  #[Value.int
  IntKind.i64
  i_24,
  Value.int
  IntKind.i64
  i_25,
  Value.int
  IntKind.i64
  i_26,
  Value.int
  IntKind.i64
  i_27,
  Value.int
  IntKind.i64
  i_28,
  Value.int
  IntKind.i64
  i_29,
  Value.string
  s_1,
  Value.slice
  a_4
  l_4
  c_4]]
  w'
  fun
  (e :
  Ending)
  (w' :
  World) ↦
  ∃ (b :
  Bool),
  e =
  Ending.returned
  (Value.bool
  b) ∧
  br
  (b_2 ==
  b)
  (br
  (decide
  (i =
  i_17))
  (CallV
  Go.Proofs.Try.prog
  (16 :
  Nat)
  [Value.slice
  a
  l
  c,
  Value.slice
  a_2
  l_2
  c_2]
  w'
  fun
  (e :
  Ending)
  (w' :
  World) ↦
  ∃
  (b
  :
  Bool),
  e =
  Ending.returned
  (Value.bool
  b) ∧
  R
  (Ending.returned
  (Value.bool
  b))
  w')
  (R
  (Ending.returned
  (Value.bool
  false))
  w'))
  (R
  (Ending.returned
  (Value.bool
  false))
  w'))
  (R (Ending.returned (Value.bool false)) w'))
theorem folioWrites.eq (r_Id : Int) (r_Parent : Int) (r_Kind : Int) (r_Name : Int) (r_From : Int) (r_To : Int) (r_Text : ByteArray) (r_Attrsa : Option Addr) (r_Attrsn : Nat) (r_Attrsc : Nat) (w : World) (R : Ending → World → Prop) : bodyV Go.Proofs.Try.prog folioWrites.an Go.Proofs.Try.f3 [.agg #[.int .i64 r_Id, .int .i64 r_Parent, .int .i64 r_Kind, .int .i64 r_Name, .int .i64 r_From, .int .i64 r_To, .string r_Text, .slice r_Attrsa r_Attrsn r_Attrsc]] w R = folioWrites.vc r_Id r_Parent r_Kind r_Name r_From r_To r_Text r_Attrsa r_Attrsn r_Attrsc w R := by kernel_rfl
theorem folioWrites.ok (r_Id : Int) (r_Parent : Int) (r_Kind : Int) (r_Name : Int) (r_From : Int) (r_To : Int) (r_Text : ByteArray) (r_Attrsa : Option Addr) (r_Attrsn : Nat) (r_Attrsc : Nat) (w : World) (R : Ending → World → Prop) (h : folioWrites.vc r_Id r_Parent r_Kind r_Name r_From r_To r_Text r_Attrsa r_Attrsn r_Attrsc w R) : Calls Go.Proofs.Try.prog 3 #[.agg #[.int .i64 r_Id, .int .i64 r_Parent, .int .i64 r_Kind, .int .i64 r_Name, .int .i64 r_From, .int .i64 r_To, .string r_Text, .slice r_Attrsa r_Attrsn r_Attrsc]] w R :=
  calls_of_bodyV noNum (an := folioWrites.an) (args := [.agg #[.int .i64 r_Id, .int .i64 r_Parent, .int .i64 r_Kind, .int .i64 r_Name, .int .i64 r_From, .int .i64 r_To, .string r_Text, .slice r_Attrsa r_Attrsn r_Attrsc]]) Go.Proofs.Try.func3 (by kernel_rfl) ((folioWrites.eq r_Id r_Parent r_Kind r_Name r_From r_To r_Text r_Attrsa r_Attrsn r_Attrsc w R).mpr h)

/-- incunable/incunablelaw16.FolioReads -/
def folioReads.an : An := { wraps := [], loops := [], joins := [] }
def folioReads.vc (la : Option Addr) (ln : Nat) (lc : Nat) (w : World) (R : Ending → World → Prop) : Prop :=
  br (decide ((60 : Int) < (↑ln : Int))) (CallV Go.Proofs.Try.prog (10 : Nat) [] w fun (e : Ending) (w' : World) ↦ ∃ (b : Bool), e = Ending.returned (Value.bool b) ∧ R (Ending.returned (Value.bool b)) w')
  (CallV Go.Proofs.Try.prog (17 : Nat) [Value.slice la ln lc] w fun (e : Ending) (w' : World) ↦
  ∃ (i : Int),
  ∃ (i_1 : Int),
  ∃ (i_2 : Int),
  ∃ (i_3 : Int),
  ∃ (i_4 : Int),
  ∃ (i_5 : Int),
  ∃ (s : ByteArray),
  ∃ (a : Option Addr),
  ∃ (l : Nat),
  ∃ (c : Nat),
  ∃ (i_6 : Int),
  e =
  Ending.returned
  (Value.tuple
  #[Value.agg
  #[Value.int IntKind.i64 i, Value.int IntKind.i64 i_1, Value.int IntKind.i64 i_2, Value.int IntKind.i64 i_3, Value.int IntKind.i64 i_4, Value.int IntKind.i64 i_5,
  Value.string s, Value.slice a l c],
  Value.int IntKind.i64 i_6]) ∧
  ∀ (b : Nat) (w1 : World),
  New w'
  (Obj.cells
  #[Value.int IntKind.i64 (0 : Int), Value.int IntKind.i64 (0 : Int), Value.int IntKind.i64 (0 : Int), Value.int IntKind.i64 (0 : Int),
  Value.int IntKind.i64 (0 : Int), Value.int IntKind.i64 (0 : Int), Value.string (ByteArray.mk #[]), Value.slice none (0 : Nat) (0 : Nat)]
  (34 : Nat))
  b w1 →
  ∃ (w1_1 : World),
  St Go.Proofs.Try.prog (34 : Nat) w1 (Addr.mk b (0 : Nat) none)
  (Value.agg
  #[Value.int IntKind.i64 i, Value.int IntKind.i64 i_1, Value.int IntKind.i64 i_2, Value.int IntKind.i64 i_3, Value.int IntKind.i64 i_4,
  Value.int IntKind.i64 i_5, Value.string s, Value.slice a l c])
  w1_1 ∧
  CallV Go.Proofs.Try.prog (18 : Nat) [Value.slice la ln lc] w1_1 fun (e : Ending) (w' : World) ↦
  ∃ (i : Int),
  ∃ (i_7 : Int),
  ∃ (i_8 : Int),
  ∃ (i_9 : Int),
  ∃ (i_10 : Int),
  ∃ (i_11 : Int),
  ∃ (s : ByteArray),
  ∃ (a : Option Addr),
  ∃ (l : Nat),
  ∃ (c : Nat),
  ∃ (i_12 : Int),
  e =
  Ending.returned
  (Value.tuple
  #[Value.agg
  #[Value.int IntKind.i64 i, Value.int IntKind.i64 i_7, Value.int IntKind.i64 i_8, Value.int IntKind.i64 i_9,
  Value.int IntKind.i64 i_10, Value.int IntKind.i64 i_11, Value.string s, Value.slice a l c],
  Value.int IntKind.i64 i_12]) ∧
  ∀ (b_1 : Nat) (w1 : World),
  New w'
  (Obj.cells
  #[Value.int IntKind.i64 (0 : Int), Value.int IntKind.i64 (0 : Int), Value.int IntKind.i64 (0 : Int),
  Value.int IntKind.i64 (0 : Int), Value.int IntKind.i64 (0 : Int), Value.int IntKind.i64 (0 : Int),
  Value.string (ByteArray.mk #[]), Value.slice none (0 : Nat) (0 : Nat)]
  (24 : Nat))
  b_1 w1 →
  ∃ (w1_2 : World),
  St Go.Proofs.Try.prog (24 : Nat) w1 (Addr.mk b_1 (0 : Nat) none)
  (Value.agg
  #[Value.int IntKind.i64 i, Value.int IntKind.i64 i_7, Value.int IntKind.i64 i_8, Value.int IntKind.i64 i_9,
  Value.int IntKind.i64 i_10, Value.int IntKind.i64 i_11, Value.string s, Value.slice a l c])
  w1_2 ∧
  CallV Go.Proofs.Try.prog (10 : Nat) [] (World.drew w1_2) fun (e : Ending) (w' : World) ↦
  ∃ (b_2 : Bool),
  e = Ending.returned (Value.bool b_2) ∧
  br b_2
  (br (decide (i_6 = i_12))
  (∃ (i : Int),
  ∃ (i_13 : Int),
  ∃ (i_14 : Int),
  ∃ (i_15 : Int),
  ∃ (i_16 : Int),
  ∃ (i_17 : Int),
  ∃ (s : ByteArray),
  ∃ (a : Option Addr),
  ∃ (l : Nat),
  ∃ (c : Nat),
  Ld Go.Proofs.Try.prog (34 : Nat) w' (Addr.mk b (0 : Nat) none)
  (Value.agg
  #[Value.int IntKind.i64 i, Value.int IntKind.i64 i_13, Value.int IntKind.i64 i_14,
  Value.int IntKind.i64 i_15, Value.int IntKind.i64 i_16, Value.int IntKind.i64 i_17,
  Value.string s, Value.slice a l c]) ∧
  ∃ (i_18 : Int),
  ∃ (i_19 : Int),
  ∃ (i_20 : Int),
  ∃ (i_21 : Int),
  ∃ (i_22 : Int),
  ∃ (i_23 : Int),
  ∃ (s_1 : ByteArray),
  ∃ (a_3 : Option Addr),
  ∃ (l_1 : Nat),
  ∃ (c_1 : Nat),
  Ld Go.Proofs.Try.prog (24 : Nat) w' (Addr.mk b_1 (0 : Nat) none)
  (Value.agg
  #[Value.int IntKind.i64 i_18, Value.int IntKind.i64 i_19,
  Value.int IntKind.i64 i_20, Value.int IntKind.i64 i_21,
  Value.int IntKind.i64 i_22, Value.int IntKind.i64 i_23,
  Value.string s_1, Value.slice a_3 l_1 c_1]) ∧
  CallV Go.Proofs.Try.prog (20 : Nat)
  [Value.agg
  #[Value.int IntKind.i64 i, Value.int IntKind.i64 i_13,
  Value.int IntKind.i64 i_14, Value.int IntKind.i64 i_15,
  Value.int IntKind.i64 i_16, Value.int IntKind.i64 i_17,
  Value.string s, Value.slice a l c]]
  w' fun (e : Ending) (w' : World) ↦
  ∃ (i : Int),
  ∃ (i_24 : Int),
  ∃ (i_25 : Int),
  ∃ (i_26 : Int),
  ∃ (i_27 : Int),
  ∃ (i_28 : Int),
  ∃ (s : ByteArray),
  ∃ (a : Option Addr),
  ∃ (l : Nat),
  ∃ (c : Nat),
  e =
  Ending.returned
  (Value.agg
  #[Value.int IntKind.i64 i,
  Value.int IntKind.i64 i_24,
  Value.int IntKind.i64 i_25,
  Value.int IntKind.i64 i_26,
  Value.int IntKind.i64 i_27,
  Value.int IntKind.i64 i_28, Value.string s,
  Value.slice a l c]) ∧
  Ld Go.Proofs.Try.prog (24 : Nat) w'
  (Addr.mk b_1 (0 : Nat) none)
  (Value.agg
  #[Value.int IntKind.i64 i_18,
  Value.int IntKind.i64 i_19,
  Value.int IntKind.i64 i_20,
  Value.int IntKind.i64 i_21,
  Value.int IntKind.i64 i_22,
  Value.int IntKind.i64 i_23,
  Value.string s_1,
  Value.slice a_3 l_1 c_1]) ∧
  CallV Go.Proofs.Try.prog (19 : Nat)
  [Value.agg
  #[Value.int IntKind.i64 i,
  Value.int IntKind.i64 i_24,
  Value.int IntKind.i64 i_25,
  Value.int IntKind.i64 i_26,
  Value.int IntKind.i64 i_27,
  Value.int IntKind.i64 i_28,
  Value.string s, Value.slice a l c],
  Value.agg
  #[Value.int IntKind.i64 i_18,
  Value.int IntKind.i64 i_19,
  Value.int IntKind.i64 i_20,
  Value.int IntKind.i64 i_21,
  Value.int IntKind.i64 i_22,
  Value.int IntKind.i64 i_23,
  Value.string s_1,
  Value.slice a_3 l_1 c_1]]
  w' fun (e : Ending) (w' : World) ↦
  ∃ (b : Bool),
  e = Ending.returned (Value.bool b) ∧
  R (Ending.returned (Value.bool b)) w')
  (R (Ending.returned (Value.bool false)) w'))
  (R (Ending.returned (Value.bool false)) w'))
theorem folioReads.eq (la : Option Addr) (ln : Nat) (lc : Nat) (w : World) (R : Ending → World → Prop) : bodyV Go.Proofs.Try.prog folioReads.an Go.Proofs.Try.f4 [.slice la ln lc] w R = folioReads.vc la ln lc w R := by kernel_rfl
theorem folioReads.ok (la : Option Addr) (ln : Nat) (lc : Nat) (w : World) (R : Ending → World → Prop) (h : folioReads.vc la ln lc w R) : Calls Go.Proofs.Try.prog 4 #[.slice la ln lc] w R :=
  calls_of_bodyV noNum (an := folioReads.an) (args := [.slice la ln lc]) Go.Proofs.Try.func4 (by kernel_rfl) ((folioReads.eq la ln lc w R).mpr h)

/-- incunable/incunablelaw16.FolioHeads -/
def folioHeads.an : An := { wraps := [], loops := [], joins := [] }
def folioHeads.vc (s : ByteArray) (w : World) (R : Ending → World → Prop) : Prop :=
  CallV Go.Proofs.Try.prog (21 : Nat) [Value.string s] w fun (e : Ending) (w' : World) ↦
  ∃ (i : Int),
  ∃ (i_1 : Int),
  ∃ (i_2 : Int),
  ∃ (b : Bool),
  e = Ending.returned (Value.tuple #[Value.int IntKind.i64 i, Value.int IntKind.i64 i_1, Value.int IntKind.i64 i_2, Value.bool b]) ∧
  CallV Go.Proofs.Try.prog (22 : Nat) [Value.string s] w' fun (e : Ending) (w' : World) ↦
  ∃ (i_3 : Int),
  ∃ (i_4 : Int),
  ∃ (i_5 : Int),
  ∃ (b_1 : Bool),
  e = Ending.returned (Value.tuple #[Value.int IntKind.i64 i_3, Value.int IntKind.i64 i_4, Value.int IntKind.i64 i_5, Value.bool b_1]) ∧
  CallV Go.Proofs.Try.prog (10 : Nat) [] w' fun (e : Ending) (w' : World) ↦
  ∃ (b_2 : Bool),
  e = Ending.returned (Value.bool b_2) ∧
  br b_2
  (br (decide (i = i_3))
  (br (decide (i_1 = i_4)) (br (decide (i_2 = i_5)) (R (Ending.returned (Value.bool (b == b_1))) w') (R (Ending.returned (Value.bool false)) w'))
  (R (Ending.returned (Value.bool false)) w'))
  (R (Ending.returned (Value.bool false)) w'))
  (R (Ending.returned (Value.bool false)) w')
theorem folioHeads.eq (s : ByteArray) (w : World) (R : Ending → World → Prop) : bodyV Go.Proofs.Try.prog folioHeads.an Go.Proofs.Try.f5 [.string s] w R = folioHeads.vc s w R := by kernel_rfl
theorem folioHeads.ok (s : ByteArray) (w : World) (R : Ending → World → Prop) (h : folioHeads.vc s w R) : Calls Go.Proofs.Try.prog 5 #[.string s] w R :=
  calls_of_bodyV noNum (an := folioHeads.an) (args := [.string s]) Go.Proofs.Try.func5 (by kernel_rfl) ((folioHeads.eq s w R).mpr h)

/-- incunable/incunablelaw16.FolioBack -/
def folioBack.an : An := { wraps := [], loops := [(5, [(29, .inl .i64)])], joins := [] }
def folioBack.vc (r_Id : Int) (r_Parent : Int) (r_Kind : Int) (r_Name : Int) (r_From : Int) (r_To : Int) (r_Text : ByteArray) (r_Attrsa : Option Addr) (r_Attrsn : Nat) (r_Attrsc : Nat) (w : World) (R : Ending → World → Prop) : Prop :=
  ∀ (b : Nat) (w1 : World),
  New w
  (Obj.cells
  #[Value.int IntKind.i64 r_Id, Value.int IntKind.i64 r_Parent, Value.int IntKind.i64 r_Kind, Value.int IntKind.i64 r_Name, Value.int IntKind.i64 r_From, Value.int IntKind.i64 r_To,
  Value.string r_Text, Value.slice r_Attrsa r_Attrsn r_Attrsc]
  (24 : Nat))
  b w1 →
  ∃ (i : Int),
  ∃ (i_1 : Int),
  ∃ (i_2 : Int),
  ∃ (i_3 : Int),
  ∃ (i_4 : Int),
  ∃ (i_5 : Int),
  ∃ (s : ByteArray),
  ∃ (a : Option Addr),
  ∃ (l : Nat),
  ∃ (c : Nat),
  Ld Go.Proofs.Try.prog (24 : Nat) w1 (Addr.mk b (0 : Nat) none)
  (Value.agg
  #[Value.int IntKind.i64 i, Value.int IntKind.i64 i_1, Value.int IntKind.i64 i_2, Value.int IntKind.i64 i_3, Value.int IntKind.i64 i_4, Value.int IntKind.i64 i_5,
  Value.string s, Value.slice a l c]) ∧
  CallV Go.Proofs.Try.prog (12 : Nat)
  [Value.agg
  #[Value.int IntKind.i64 i, Value.int IntKind.i64 i_1, Value.int IntKind.i64 i_2, Value.int IntKind.i64 i_3, Value.int IntKind.i64 i_4, Value.int IntKind.i64 i_5,
  Value.string s, Value.slice a l c]]
  w1 fun (e : Ending) (w' : World) ↦
  ∃ (i : Int),
  ∃ (i_6 : Int),
  ∃ (i_7 : Int),
  ∃ (i_8 : Int),
  ∃ (i_9 : Int),
  ∃ (i_10 : Int),
  ∃ (s : ByteArray),
  ∃ (a : Option Addr),
  ∃ (l : Nat),
  ∃ (c : Nat),
  e =
  Ending.returned
  (Value.agg
  #[Value.int IntKind.i64 i, Value.int IntKind.i64 i_6, Value.int IntKind.i64 i_7, Value.int IntKind.i64 i_8, Value.int IntKind.i64 i_9,
  Value.int IntKind.i64 i_10, Value.string s, Value.slice a l c]) ∧
  CallV Go.Proofs.Try.prog (11 : Nat)
  [Value.agg
  #[Value.int IntKind.i64 i, Value.int IntKind.i64 i_6, Value.int IntKind.i64 i_7, Value.int IntKind.i64 i_8, Value.int IntKind.i64 i_9,
  Value.int IntKind.i64 i_10, Value.string s, Value.slice a l c]]
  w' fun (e : Ending) (w' : World) ↦
  ∃ (a : Option Addr),
  ∃ (l : Nat),
  ∃ (c : Nat),
  ∃ (i : Int),
  e = Ending.returned (Value.tuple #[Value.slice a l c, Value.int IntKind.i64 i]) ∧
  br (!decide (i = (0 : Int)))
  (CallV Go.Proofs.Try.prog (10 : Nat) [] w' fun (e : Ending) (w' : World) ↦
  ∃ (b : Bool),
  e = Ending.returned (Value.bool b) ∧
  br b (R (Ending.returned (Value.bool (decide ((↑l : Int) = (0 : Int))))) w') (R (Ending.returned (Value.bool false)) w'))
  (LoopP
  (fun (s : Int) (w' : World) (next : Int → World → Prop) ↦
  br (decide (s < (↑l : Int)))
  (onP a fun (a : Addr) ↦
  ((0 : Int) ≤ s ∧ s < (↑l : Int)) ∧
  ∃ (s_1 : ByteArray),
  Ld Go.Proofs.Try.prog (9 : Nat) w' (Addr.add a (Int.toNat s * (1 : Nat))) (Value.string s_1) ∧
  CallV Go.Proofs.Try.prog (21 : Nat) [Value.string s_1] w' fun (e : Ending) (w' : World) ↦
  ∃ (i : Int),
  ∃ (i_11 : Int),
  ∃ (i_12 : Int),
  ∃ (b_1 : Bool),
  e =
  Ending.returned
  (Value.tuple
  #[Value.int IntKind.i64 i, Value.int IntKind.i64 i_11, Value.int IntKind.i64 i_12, Value.bool b_1]) ∧
  br (!b_1) (R (Ending.returned (Value.bool false)) w')
  (∃ (i_13 : Int),
  Ld Go.Proofs.Try.prog (3 : Nat) w' (Addr.mk b (0 : Nat) none) (Value.int IntKind.i64 i_13) ∧
  br (!decide (i = i_13)) (R (Ending.returned (Value.bool false)) w')
  (br (!decide (i_11 = s)) (R (Ending.returned (Value.bool false)) w')
  (br (!decide (i_12 = (↑l : Int))) (R (Ending.returned (Value.bool false)) w')
  (br (decide ((906 : Int) < (↑(ByteArray.size s_1) : Int)))
  (R (Ending.returned (Value.bool false)) w')
  (inR IntKind.i64 (s + (1 : Int)) ∧ next (s + (1 : Int)) w'))))))
  (CallV Go.Proofs.Try.prog (17 : Nat) [Value.slice a l c] w' fun (e : Ending) (w' : World) ↦
  ∃ (i : Int),
  ∃ (i_11 : Int),
  ∃ (i_12 : Int),
  ∃ (i_13 : Int),
  ∃ (i_14 : Int),
  ∃ (i_15 : Int),
  ∃ (s : ByteArray),
  ∃ (a : Option Addr),
  ∃ (l_1 : Nat),
  ∃ (c : Nat),
  ∃ (i_16 : Int),
  e =
  Ending.returned
  (Value.tuple
  #[Value.agg
  #[Value.int IntKind.i64 i, Value.int IntKind.i64 i_11, Value.int IntKind.i64 i_12,
  Value.int IntKind.i64 i_13, Value.int IntKind.i64 i_14, Value.int IntKind.i64 i_15,
  Value.string s, Value.slice a l_1 c],
  Value.int IntKind.i64 i_16]) ∧
  ∀ (b_1 : Nat) (w1 : World),
  New w'
  (Obj.cells
  #[Value.int IntKind.i64 (0 : Int), Value.int IntKind.i64 (0 : Int),
  Value.int IntKind.i64 (0 : Int), Value.int IntKind.i64 (0 : Int),
  Value.int IntKind.i64 (0 : Int), Value.int IntKind.i64 (0 : Int),
  Value.string (ByteArray.mk #[]), Value.slice none (0 : Nat) (0 : Nat)]
  (34 : Nat))
  b_1 w1 →
  ∃ (w1_1 : World),
  St Go.Proofs.Try.prog (34 : Nat) w1 (Addr.mk b_1 (0 : Nat) none)
  (Value.agg
  #[Value.int IntKind.i64 i, Value.int IntKind.i64 i_11, Value.int IntKind.i64 i_12,
  Value.int IntKind.i64 i_13, Value.int IntKind.i64 i_14, Value.int IntKind.i64 i_15,
  Value.string s, Value.slice a l_1 c])
  w1_1 ∧
  CallV Go.Proofs.Try.prog (10 : Nat) [] (World.drew w1_1) fun (e : Ending) (w' : World) ↦
  ∃ (b_2 : Bool),
  e = Ending.returned (Value.bool b_2) ∧
  br b_2
  (br (decide ((↑l : Int) ≤ (34 : Int)))
  (br (decide (i_16 = (0 : Int)))
  (∃ (i : Int),
  ∃ (i_17 : Int),
  ∃ (i_18 : Int),
  ∃ (i_19 : Int),
  ∃ (i_20 : Int),
  ∃ (i_21 : Int),
  ∃ (s : ByteArray),
  ∃ (a : Option Addr),
  ∃ (l : Nat),
  ∃ (c : Nat),
  Ld Go.Proofs.Try.prog (34 : Nat) w' (Addr.mk b_1 (0 : Nat) none)
  (Value.agg
  #[Value.int IntKind.i64 i, Value.int IntKind.i64 i_17,
  Value.int IntKind.i64 i_18, Value.int IntKind.i64 i_19,
  Value.int IntKind.i64 i_20, Value.int IntKind.i64 i_21,
  Value.string s, Value.slice a l c]) ∧
  ∃ (i_22 : Int),
  ∃ (i_23 : Int),
  ∃ (i_24 : Int),
  ∃ (i_25 : Int),
  ∃ (i_26 : Int),
  ∃ (i_27 : Int),
  ∃ (s_1 : ByteArray),
  ∃ (a_2 : Option Addr),
  ∃ (l_2 : Nat),
  ∃ (c_1 : Nat),
  Ld Go.Proofs.Try.prog (24 : Nat) w'
  (Addr.mk b (0 : Nat) none)
  (Value.agg
  #[Value.int IntKind.i64 i_22,
  Value.int IntKind.i64 i_23,
  Value.int IntKind.i64 i_24,
  Value.int IntKind.i64 i_25,
  Value.int IntKind.i64 i_26,
  Value.int IntKind.i64 i_27,
  Value.string s_1,
  Value.slice a_2 l_2 c_1]) ∧
  CallV Go.Proofs.Try.prog (20 : Nat)
  [Value.agg
  #[Value.int IntKind.i64 i,
  Value.int IntKind.i64 i_17,
  Value.int IntKind.i64 i_18,
  Value.int IntKind.i64 i_19,
  Value.int IntKind.i64 i_20,
  Value.int IntKind.i64 i_21,
  Value.string s,
  Value.slice a l c]]
  w' fun (e : Ending) (w' : World) ↦
  ∃ (i : Int),
  ∃ (i_28 : Int),
  ∃ (i_29 : Int),
  ∃ (i_30 : Int),
  ∃ (i_31 : Int),
  ∃ (i_32 : Int),
  ∃ (s : ByteArray),
  ∃ (a : Option Addr),
  ∃ (l : Nat),
  ∃ (c : Nat),
  e =
  Ending.returned
  (Value.agg
  #[Value.int
  IntKind.i64
  i,
  Value.int
  IntKind.i64
  i_28,
  Value.int
  IntKind.i64
  i_29,
  Value.int
  IntKind.i64
  i_30,
  Value.int
  IntKind.i64
  i_31,
  Value.int
  IntKind.i64
  i_32,
  Value.string
  s,
  Value.slice
  a l
  c]) ∧
  Ld
  Go.Proofs.Try.prog
  (24 : Nat)
  w'
  (Addr.mk b
  (0 : Nat)
  none)
  (Value.agg
  #[Value.int
  IntKind.i64
  i_22,
  Value.int
  IntKind.i64
  i_23,
  Value.int
  IntKind.i64
  i_24,
  Value.int
  IntKind.i64
  i_25,
  Value.int
  IntKind.i64
  i_26,
  Value.int
  IntKind.i64
  i_27,
  Value.string
  s_1,
  Value.slice
  a_2
  l_2
  c_1]) ∧
  CallV
  Go.Proofs.Try.prog
  (19 : Nat)
  [Value.agg
  #[Value.int
  IntKind.i64
  i,
  Value.int
  IntKind.i64
  i_28,
  Value.int
  IntKind.i64
  i_29,
  Value.int
  IntKind.i64
  i_30,
  Value.int
  IntKind.i64
  i_31,
  Value.int
  IntKind.i64
  i_32,
  Value.string
  s,
  Value.slice
  a l
  c],
  Value.agg
  #[Value.int
  IntKind.i64
  i_22,
  Value.int
  IntKind.i64
  i_23,
  Value.int
  IntKind.i64
  i_24,
  Value.int
  IntKind.i64
  i_25,
  Value.int
  IntKind.i64
  i_26,
  Value.int
  IntKind.i64
  i_27,
  Value.string
  s_1,
  Value.slice
  a_2
  l_2
  c_1]]
  w'
  fun
  (e :
  Ending)
  (w' :
  World) ↦
  ∃ (b :
  Bool),
  e =
  Ending.returned
  (Value.bool
  b) ∧
  R
  (Ending.returned
  (Value.bool
  b))
  w')
  (R (Ending.returned (Value.bool false)) w'))
  (R (Ending.returned (Value.bool false)) w'))
  (R (Ending.returned (Value.bool false)) w')))
  (0 : Int) w')
theorem folioBack.eq (r_Id : Int) (r_Parent : Int) (r_Kind : Int) (r_Name : Int) (r_From : Int) (r_To : Int) (r_Text : ByteArray) (r_Attrsa : Option Addr) (r_Attrsn : Nat) (r_Attrsc : Nat) (w : World) (R : Ending → World → Prop) : bodyV Go.Proofs.Try.prog folioBack.an Go.Proofs.Try.f6 [.agg #[.int .i64 r_Id, .int .i64 r_Parent, .int .i64 r_Kind, .int .i64 r_Name, .int .i64 r_From, .int .i64 r_To, .string r_Text, .slice r_Attrsa r_Attrsn r_Attrsc]] w R = folioBack.vc r_Id r_Parent r_Kind r_Name r_From r_To r_Text r_Attrsa r_Attrsn r_Attrsc w R := by kernel_rfl
theorem folioBack.ok (r_Id : Int) (r_Parent : Int) (r_Kind : Int) (r_Name : Int) (r_From : Int) (r_To : Int) (r_Text : ByteArray) (r_Attrsa : Option Addr) (r_Attrsn : Nat) (r_Attrsc : Nat) (w : World) (R : Ending → World → Prop) (h : folioBack.vc r_Id r_Parent r_Kind r_Name r_From r_To r_Text r_Attrsa r_Attrsn r_Attrsc w R) : Calls Go.Proofs.Try.prog 6 #[.agg #[.int .i64 r_Id, .int .i64 r_Parent, .int .i64 r_Kind, .int .i64 r_Name, .int .i64 r_From, .int .i64 r_To, .string r_Text, .slice r_Attrsa r_Attrsn r_Attrsc]] w R :=
  calls_of_bodyV noNum (an := folioBack.an) (args := [.agg #[.int .i64 r_Id, .int .i64 r_Parent, .int .i64 r_Kind, .int .i64 r_Name, .int .i64 r_From, .int .i64 r_To, .string r_Text, .slice r_Attrsa r_Attrsn r_Attrsc]]) Go.Proofs.Try.func6 (by kernel_rfl) ((folioBack.eq r_Id r_Parent r_Kind r_Name r_From r_To r_Text r_Attrsa r_Attrsn r_Attrsc w R).mpr h)

/-- incunable/incunablelaw16.FolioAgain -/
def folioAgain.an : An := { wraps := [], loops := [], joins := [] }
def folioAgain.vc (la : Option Addr) (ln : Nat) (lc : Nat) (w : World) (R : Ending → World → Prop) : Prop :=
  CallV Go.Proofs.Try.prog (17 : Nat) [Value.slice la ln lc] w fun (e : Ending) (w' : World) ↦
  ∃ (i : Int),
  ∃ (i_1 : Int),
  ∃ (i_2 : Int),
  ∃ (i_3 : Int),
  ∃ (i_4 : Int),
  ∃ (i_5 : Int),
  ∃ (s : ByteArray),
  ∃ (a : Option Addr),
  ∃ (l : Nat),
  ∃ (c : Nat),
  ∃ (i_6 : Int),
  e =
  Ending.returned
  (Value.tuple
  #[Value.agg
  #[Value.int IntKind.i64 i, Value.int IntKind.i64 i_1, Value.int IntKind.i64 i_2, Value.int IntKind.i64 i_3, Value.int IntKind.i64 i_4, Value.int IntKind.i64 i_5,
  Value.string s, Value.slice a l c],
  Value.int IntKind.i64 i_6]) ∧
  ∀ (b : Nat) (w1 : World),
  New w'
  (Obj.cells
  #[Value.int IntKind.i64 (0 : Int), Value.int IntKind.i64 (0 : Int), Value.int IntKind.i64 (0 : Int), Value.int IntKind.i64 (0 : Int), Value.int IntKind.i64 (0 : Int),
  Value.int IntKind.i64 (0 : Int), Value.string (ByteArray.mk #[]), Value.slice none (0 : Nat) (0 : Nat)]
  (34 : Nat))
  b w1 →
  ∃ (w1_1 : World),
  St Go.Proofs.Try.prog (34 : Nat) w1 (Addr.mk b (0 : Nat) none)
  (Value.agg
  #[Value.int IntKind.i64 i, Value.int IntKind.i64 i_1, Value.int IntKind.i64 i_2, Value.int IntKind.i64 i_3, Value.int IntKind.i64 i_4, Value.int IntKind.i64 i_5,
  Value.string s, Value.slice a l c])
  w1_1 ∧
  br (!decide (i_6 = (0 : Int)))
  (CallV Go.Proofs.Try.prog (10 : Nat) [] w1_1 fun (e : Ending) (w' : World) ↦
  ∃ (b_1 : Bool),
  e = Ending.returned (Value.bool b_1) ∧
  br b_1
  (∃ (i : Int),
  ∃ (i_7 : Int),
  ∃ (i_8 : Int),
  ∃ (i_9 : Int),
  ∃ (i_10 : Int),
  ∃ (i_11 : Int),
  ∃ (s : ByteArray),
  ∃ (a : Option Addr),
  ∃ (l : Nat),
  ∃ (c : Nat),
  Ld Go.Proofs.Try.prog (34 : Nat) w' (Addr.mk b (0 : Nat) none)
  (Value.agg
  #[Value.int IntKind.i64 i, Value.int IntKind.i64 i_7, Value.int IntKind.i64 i_8, Value.int IntKind.i64 i_9,
  Value.int IntKind.i64 i_10, Value.int IntKind.i64 i_11, Value.string s, Value.slice a l c]) ∧
  CallV Go.Proofs.Try.prog (20 : Nat)
  [Value.agg
  #[Value.int IntKind.i64 i, Value.int IntKind.i64 i_7, Value.int IntKind.i64 i_8, Value.int IntKind.i64 i_9,
  Value.int IntKind.i64 i_10, Value.int IntKind.i64 i_11, Value.string s, Value.slice a l c]]
  w' fun (e : Ending) (w' : World) ↦
  ∃ (i : Int),
  ∃ (i_12 : Int),
  ∃ (i_13 : Int),
  ∃ (i_14 : Int),
  ∃ (i_15 : Int),
  ∃ (i_16 : Int),
  ∃ (s : ByteArray),
  ∃ (a : Option Addr),
  ∃ (l : Nat),
  ∃ (c : Nat),
  e =
  Ending.returned
  (Value.agg
  #[Value.int IntKind.i64 i, Value.int IntKind.i64 i_12, Value.int IntKind.i64 i_13,
  Value.int IntKind.i64 i_14, Value.int IntKind.i64 i_15, Value.int IntKind.i64 i_16, Value.string s,
  Value.slice a l c]) ∧
  CallV Go.Proofs.Try.prog (19 : Nat)
  [Value.agg
  #[Value.int IntKind.i64 i, Value.int IntKind.i64 i_12, Value.int IntKind.i64 i_13,
  Value.int IntKind.i64 i_14, Value.int IntKind.i64 i_15, Value.int IntKind.i64 i_16, Value.string s,
  Value.slice a l c],
  Value.agg
  #[Value.int IntKind.i64 (0 : Int), Value.int IntKind.i64 (0 : Int), Value.int IntKind.i64 (0 : Int),
  Value.int IntKind.i64 (0 : Int), Value.int IntKind.i64 (0 : Int), Value.int IntKind.i64 (0 : Int),
  Value.string (ByteArray.mk #[]), Value.slice none (0 : Nat) (0 : Nat)]]
  w' fun (e : Ending) (w' : World) ↦
  ∃ (b : Bool), e = Ending.returned (Value.bool b) ∧ R (Ending.returned (Value.bool b)) w')
  (R (Ending.returned (Value.bool false)) w'))
  (∃ (i : Int),
  ∃ (i_7 : Int),
  ∃ (i_8 : Int),
  ∃ (i_9 : Int),
  ∃ (i_10 : Int),
  ∃ (i_11 : Int),
  ∃ (s : ByteArray),
  ∃ (a : Option Addr),
  ∃ (l : Nat),
  ∃ (c : Nat),
  Ld Go.Proofs.Try.prog (34 : Nat) w1_1 (Addr.mk b (0 : Nat) none)
  (Value.agg
  #[Value.int IntKind.i64 i, Value.int IntKind.i64 i_7, Value.int IntKind.i64 i_8, Value.int IntKind.i64 i_9, Value.int IntKind.i64 i_10,
  Value.int IntKind.i64 i_11, Value.string s, Value.slice a l c]) ∧
  CallV Go.Proofs.Try.prog (11 : Nat)
  [Value.agg
  #[Value.int IntKind.i64 i, Value.int IntKind.i64 i_7, Value.int IntKind.i64 i_8, Value.int IntKind.i64 i_9, Value.int IntKind.i64 i_10,
  Value.int IntKind.i64 i_11, Value.string s, Value.slice a l c]]
  w1_1 fun (e : Ending) (w' : World) ↦
  ∃ (a : Option Addr),
  ∃ (l : Nat),
  ∃ (c : Nat),
  ∃ (i : Int),
  e = Ending.returned (Value.tuple #[Value.slice a l c, Value.int IntKind.i64 i]) ∧
  CallV Go.Proofs.Try.prog (10 : Nat) [] w' fun (e : Ending) (w' : World) ↦
  ∃ (b : Bool),
  e = Ending.returned (Value.bool b) ∧
  br b
  (br (decide (i = (0 : Int)))
  (CallV Go.Proofs.Try.prog (16 : Nat) [Value.slice la ln lc, Value.slice a l c] w' fun (e : Ending) (w' : World) ↦
  ∃ (b : Bool), e = Ending.returned (Value.bool b) ∧ R (Ending.returned (Value.bool b)) w')
  (R (Ending.returned (Value.bool false)) w'))
  (R (Ending.returned (Value.bool false)) w'))
theorem folioAgain.eq (la : Option Addr) (ln : Nat) (lc : Nat) (w : World) (R : Ending → World → Prop) : bodyV Go.Proofs.Try.prog folioAgain.an Go.Proofs.Try.f7 [.slice la ln lc] w R = folioAgain.vc la ln lc w R := by kernel_rfl
theorem folioAgain.ok (la : Option Addr) (ln : Nat) (lc : Nat) (w : World) (R : Ending → World → Prop) (h : folioAgain.vc la ln lc w R) : Calls Go.Proofs.Try.prog 7 #[.slice la ln lc] w R :=
  calls_of_bodyV noNum (an := folioAgain.an) (args := [.slice la ln lc]) Go.Proofs.Try.func7 (by kernel_rfl) ((folioAgain.eq la ln lc w R).mpr h)

/-- incunable/incunablelaw16.FolioTurned -/
def folioTurned.an : An := { wraps := [], loops := [], joins := [(6, [(10, .inr 3)])] }
def folioTurned.vc (r_Id : Int) (r_Parent : Int) (r_Kind : Int) (r_Name : Int) (r_From : Int) (r_To : Int) (r_Text : ByteArray) (r_Attrsa : Option Addr) (r_Attrsn : Nat) (r_Attrsc : Nat) (i : Int) (k : Int) (w : World) (R : Ending → World → Prop) : Prop :=
  ∀ (b : Nat) (w1 : World),
  New w
  (Obj.cells
  #[Value.int IntKind.i64 r_Id, Value.int IntKind.i64 r_Parent, Value.int IntKind.i64 r_Kind, Value.int IntKind.i64 r_Name, Value.int IntKind.i64 r_From, Value.int IntKind.i64 r_To,
  Value.string r_Text, Value.slice r_Attrsa r_Attrsn r_Attrsc]
  (24 : Nat))
  b w1 →
  ∃ (i_1 : Int),
  ∃ (i_2 : Int),
  ∃ (i_3 : Int),
  ∃ (i_4 : Int),
  ∃ (i_5 : Int),
  ∃ (i_6 : Int),
  ∃ (s : ByteArray),
  ∃ (a : Option Addr),
  ∃ (l : Nat),
  ∃ (c : Nat),
  Ld Go.Proofs.Try.prog (24 : Nat) w1 (Addr.mk b (0 : Nat) none)
  (Value.agg
  #[Value.int IntKind.i64 i_1, Value.int IntKind.i64 i_2, Value.int IntKind.i64 i_3, Value.int IntKind.i64 i_4, Value.int IntKind.i64 i_5, Value.int IntKind.i64 i_6,
  Value.string s, Value.slice a l c]) ∧
  CallV Go.Proofs.Try.prog (12 : Nat)
  [Value.agg
  #[Value.int IntKind.i64 i_1, Value.int IntKind.i64 i_2, Value.int IntKind.i64 i_3, Value.int IntKind.i64 i_4, Value.int IntKind.i64 i_5, Value.int IntKind.i64 i_6,
  Value.string s, Value.slice a l c]]
  w1 fun (e : Ending) (w' : World) ↦
  ∃ (i_7 : Int),
  ∃ (i_8 : Int),
  ∃ (i_9 : Int),
  ∃ (i_10 : Int),
  ∃ (i_11 : Int),
  ∃ (i_12 : Int),
  ∃ (s : ByteArray),
  ∃ (a : Option Addr),
  ∃ (l : Nat),
  ∃ (c : Nat),
  e =
  Ending.returned
  (Value.agg
  #[Value.int IntKind.i64 i_7, Value.int IntKind.i64 i_8, Value.int IntKind.i64 i_9, Value.int IntKind.i64 i_10, Value.int IntKind.i64 i_11,
  Value.int IntKind.i64 i_12, Value.string s, Value.slice a l c]) ∧
  CallV Go.Proofs.Try.prog (11 : Nat)
  [Value.agg
  #[Value.int IntKind.i64 i_7, Value.int IntKind.i64 i_8, Value.int IntKind.i64 i_9, Value.int IntKind.i64 i_10, Value.int IntKind.i64 i_11,
  Value.int IntKind.i64 i_12, Value.string s, Value.slice a l c]]
  w' fun (e : Ending) (w' : World) ↦
  ∃ (a : Option Addr),
  ∃ (l : Nat),
  ∃ (c : Nat),
  ∃ (i_13 : Int),
  e = Ending.returned (Value.tuple #[Value.slice a l c, Value.int IntKind.i64 i_13]) ∧
  br (!decide (i_13 = (0 : Int)))
  (CallV Go.Proofs.Try.prog (10 : Nat) [] w' fun (e : Ending) (w' : World) ↦
  ∃ (b : Bool), e = Ending.returned (Value.bool b) ∧ R (Ending.returned (Value.bool b)) w')
  (br (decide (i < (0 : Int)))
  (CallV Go.Proofs.Try.prog (10 : Nat) [] w' fun (e : Ending) (w' : World) ↦
  ∃ (b : Bool), e = Ending.returned (Value.bool b) ∧ R (Ending.returned (Value.bool b)) w')
  (br (decide (k < (0 : Int)))
  (CallV Go.Proofs.Try.prog (10 : Nat) [] w' fun (e : Ending) (w' : World) ↦
  ∃ (b : Bool), e = Ending.returned (Value.bool b) ∧ R (Ending.returned (Value.bool b)) w')
  (br (decide ((↑l : Int) ≤ i))
  (CallV Go.Proofs.Try.prog (10 : Nat) [] w' fun (e : Ending) (w' : World) ↦
  ∃ (b : Bool), e = Ending.returned (Value.bool b) ∧ R (Ending.returned (Value.bool b)) w')
  (br (decide ((↑l : Int) ≤ k))
  (CallV Go.Proofs.Try.prog (10 : Nat) [] w' fun (e : Ending) (w' : World) ↦
  ∃ (b : Bool), e = Ending.returned (Value.bool b) ∧ R (Ending.returned (Value.bool b)) w')
  (((0 : Int) ≤ i ∧ i ≤ (↑c : Int)) ∧
  inR IntKind.i64 (i + (1 : Int)) ∧
  ((0 : Int) ≤ i + (1 : Int) ∧ i + (1 : Int) ≤ (↑l : Int)) ∧
  ∀ (b : Nat) (w1 : World),
  New (World.drew w') (Obj.cells #[] (9 : Nat)) b w1 →
  ∃ (a_2 : Option Addr),
  ∃ (n : Nat),
  ∃ (m : Nat),
  ∃ (w1_1 : World),
  App Go.Proofs.Try.prog #[(26 : Nat), (26 : Nat)] (26 : Nat) w1
  (Value.slice (some (Addr.mk b (0 : Nat) none)) (0 : Nat) (0 : Nat)) (Value.slice a (Int.toNat i) c)
  (Value.slice a_2 n m) w1_1 ∧
  ∃ (a_3 : Option Addr),
  ∃ (n_1 : Nat),
  ∃ (m_1 : Nat),
  ∃ (w1 : World),
  App Go.Proofs.Try.prog #[(26 : Nat), (26 : Nat)] (26 : Nat) w1_1 (Value.slice a_2 n m)
  (Value.slice (slA a c (Int.toNat (i + (1 : Int))) (1 : Nat)) (l - Int.toNat (i + (1 : Int)))
  (c - Int.toNat (i + (1 : Int))))
  (Value.slice a_3 n_1 m_1) w1 ∧
  JoinP
  (fun (s : Option Addr × Nat × Nat) (w' : World) ↦
  ∀ (b : Nat) (w1 : World),
  New w' (Obj.cells #[] (9 : Nat)) b w1 →
  ∃ (a_5 : Option Addr),
  ∃ (n : Nat),
  ∃ (m : Nat),
  ∃ (w1_2 : World),
  App Go.Proofs.Try.prog #[(26 : Nat), (26 : Nat)] (26 : Nat) w1
  (Value.slice (some (Addr.mk b (0 : Nat) none)) (0 : Nat) (0 : Nat))
  (Value.slice a l c) (Value.slice a_5 n m) w1_2 ∧
  onP a_5 fun (a : Addr) ↦
  ((0 : Int) ≤ k ∧ k < (↑n : Int)) ∧
  ∃ (s_1 : ByteArray),
  Ld Go.Proofs.Try.prog (9 : Nat) (World.drew w1_2)
  (Addr.add a (Int.toNat k * (1 : Nat))) (Value.string s_1) ∧
  onP a_5 fun (a : Addr) ↦
  ((0 : Int) ≤ i ∧ i < (↑n : Int)) ∧
  ∃ (s_2 : ByteArray),
  Ld Go.Proofs.Try.prog (9 : Nat) (World.drew w1_2)
  (Addr.add a (Int.toNat i * (1 : Nat))) (Value.string s_2) ∧
  onP a_5 fun (a : Addr) ↦
  ((0 : Int) ≤ i ∧ i < (↑n : Int)) ∧
  ∃ (w1 : World),
  St Go.Proofs.Try.prog (9 : Nat) (World.drew w1_2)
  (Addr.add a (Int.toNat i * (1 : Nat)))
  (Value.string s_1) w1 ∧
  onP a_5 fun (a : Addr) ↦
  ((0 : Int) ≤ k ∧ k < (↑n : Int)) ∧
  ∃ (w1_3 : World),
  St Go.Proofs.Try.prog (9 : Nat) w1
  (Addr.add a (Int.toNat k * (1 : Nat)))
  (Value.string s_2) w1_3 ∧
  CallV Go.Proofs.Try.prog (17 : Nat)
  [Value.slice a_3 n_1 m_1] w1_3
  fun (e : Ending) (w' : World) ↦
  ∃ (i_14 : Int),
  ∃ (i_15 : Int),
  ∃ (i_16 : Int),
  ∃ (i_17 : Int),
  ∃ (i_18 : Int),
  ∃ (i_19 : Int),
  ∃ (s_3 : ByteArray),
  ∃ (a : Option Addr),
  ∃ (l : Nat),
  ∃ (c : Nat),
  ∃ (i_20 : Int),
  e =
  Ending.returned
  (Value.tuple
  #[Value.agg
  #[Value.int
  IntKind.i64
  i_14,
  Value.int
  IntKind.i64
  i_15,
  Value.int
  IntKind.i64
  i_16,
  Value.int
  IntKind.i64
  i_17,
  Value.int
  IntKind.i64
  i_18,
  Value.int
  IntKind.i64
  i_19,
  Value.string
  s_3,
  Value.slice
  a l c],
  Value.int
  IntKind.i64
  i_20]) ∧
  ∀ (b : Nat)
  (w1 : World),
  New w'
  (Obj.cells
  #[Value.int
  IntKind.i64
  (0 : Int),
  Value.int
  IntKind.i64
  (0 : Int),
  Value.int
  IntKind.i64
  (0 : Int),
  Value.int
  IntKind.i64
  (0 : Int),
  Value.int
  IntKind.i64
  (0 : Int),
  Value.int
  IntKind.i64
  (0 : Int),
  Value.string
  (ByteArray.mk
  #[]),
  Value.slice
  none
  (0 : Nat)
  (0 : Nat)]
  (34 : Nat))
  b w1 →
  ∃ (w1_4 : World),
  St
  Go.Proofs.Try.prog
  (34 : Nat)
  w1
  (Addr.mk b
  (0 : Nat)
  none)
  (Value.agg
  #[Value.int
  IntKind.i64
  i_14,
  Value.int
  IntKind.i64
  i_15,
  Value.int
  IntKind.i64
  i_16,
  Value.int
  IntKind.i64
  i_17,
  Value.int
  IntKind.i64
  i_18,
  Value.int
  IntKind.i64
  i_19,
  Value.string
  s_3,
  Value.slice
  a l
  c])
  w1_4 ∧
  CallV
  Go.Proofs.Try.prog
  (17 : Nat)
  [Value.slice
  (Prod.fst
  s)
  (Prod.fst
  (Prod.snd
  s))
  (Prod.snd
  (Prod.snd
  s))]
  w1_4
  fun
  (e :
  Ending)
  (w' :
  World) ↦
  ∃ (i_21 :
  Int),
  ∃ (i_22 :
  Int),
  ∃ (i_23
  :
  Int),
  ∃
  (i_24
  :
  Int),
  ∃
  (i_25
  :
  Int),
  ∃
  (i_26
  :
  Int),
  ∃
  (s
  :
  ByteArray),
  ∃
  (a
  :
  Option
  Addr),
  ∃
  (l
  :
  Nat),
  ∃
  (c
  :
  Nat),
  ∃
  (i_27
  :
  Int),
  e =
  Ending.returned
  (Value.tuple
  #[Value.agg
  #[Value.int
  IntKind.i64
  i_21,
  Value.int
  IntKind.i64
  i_22,
  Value.int
  IntKind.i64
  i_23,
  Value.int
  IntKind.i64
  i_24,
  Value.int
  IntKind.i64
  i_25,
  Value.int
  IntKind.i64
  i_26,
  Value.string
  s,
  Value.slice
  a
  l
  c],
  Value.int
  IntKind.i64
  i_27]) ∧
  ∀
  (b :
  Nat)
  (w1 :
  World),
  New
  w'
  (Obj.cells
  #[Value.int
  IntKind.i64
  (0 :
  Int),
  Value.int
  IntKind.i64
  (0 :
  Int),
  Value.int
  IntKind.i64
  (0 :
  Int),
  Value.int
  IntKind.i64
  (0 :
  Int),
  Value.int
  IntKind.i64
  (0 :
  Int),
  Value.int
  IntKind.i64
  (0 :
  Int),
  Value.string
  (ByteArray.mk
  #[]),
  Value.slice
  none
  (0 :
  Nat)
  (0 :
  Nat)]
  (34 :
  Nat))
  b
  w1 →
  ∃
  (w1_5
  :
  World),
  St
  Go.Proofs.Try.prog
  (34 :
  Nat)
  w1
  (Addr.mk
  b
  (0 :
  Nat)
  none)
  (Value.agg
  #[Value.int
  IntKind.i64
  i_21,
  Value.int
  IntKind.i64
  i_22,
  Value.int
  IntKind.i64
  i_23,
  Value.int
  IntKind.i64
  i_24,
  Value.int
  IntKind.i64
  i_25,
  Value.int
  IntKind.i64
  i_26,
  Value.string
  s,
  Value.slice
  a
  l
  c])
  w1_5 ∧
  CallV
  Go.Proofs.Try.prog
  (17 :
  Nat)
  [Value.slice
  a_5
  n
  m]
  w1_5
  fun
  (e :
  Ending)
  (w' :
  World) ↦
  ∃
  (i_28
  :
  Int),
  ∃
  (i_29
  :
  Int),
  ∃
  (i_30
  :
  Int),
  ∃
  (i_31
  :
  Int),
  ∃
  (i_32
  :
  Int),
  ∃
  (i_33
  :
  Int),
  ∃
  (s
  :
  ByteArray),
  ∃
  (a
  :
  Option
  Addr),
  ∃
  (l
  :
  Nat),
  ∃
  (c
  :
  Nat),
  ∃
  (i_34
  :
  Int),
  e =
  Ending.returned
  (Value.tuple
  #[Value.agg
  #[Value.int
  IntKind.i64
  i_28,
  Value.int
  IntKind.i64
  i_29,
  Value.int
  IntKind.i64
  i_30,
  Value.int
  IntKind.i64
  i_31,
  Value.int
  IntKind.i64
  i_32,
  Value.int
  IntKind.i64
  i_33,
  Value.string
  s,
  Value.slice
  a
  l
  c],
  Value.int
  IntKind.i64
  i_34]) ∧
  ∀
  (b :
  Nat)
  (w1 :
  World),
  New
  w'
  (Obj.cells
  #[Value.int
  IntKind.i64
  (0 :
  Int),
  Value.int
  IntKind.i64
  (0 :
  Int),
  Value.int
  IntKind.i64
  (0 :
  Int),
  Value.int
  IntKind.i64
  (0 :
  Int),
  Value.int
  IntKind.i64
  (0 :
  Int),
  Value.int
  IntKind.i64
  (0 :
  Int),
  Value.string
  (ByteArray.mk
  #[]),
  Value.slice
  none
  (0 :
  Nat)
  (0 :
  Nat)]
  (34 :
  Nat))
  b
  w1 →
  ∃
  (w1_6
  :
  World),
  St
  Go.Proofs.Try.prog
  (34 :
  Nat)
  w1
  (Addr.mk
  b
  (0 :
  Nat)
  none)
  (Value.agg
  #[Value.int
  IntKind.i64
  i_28,
  Value.int
  IntKind.i64
  i_29,
  Value.int
  IntKind.i64
  i_30,
  Value.int
  IntKind.i64
  i_31,
  Value.int
  IntKind.i64
  i_32,
  Value.int
  IntKind.i64
  i_33,
  Value.string
  s,
  Value.slice
  a
  l
  c])
  w1_6 ∧
  CallV
  Go.Proofs.Try.prog
  (10 :
  Nat)
  []
  w1_6
  fun
  (e :
  Ending)
  (w' :
  World) ↦
  ∃
  (b
  :
  Bool),
  e =
  Ending.returned
  (Value.bool
  b) ∧
  br
  b
  (br
  (decide
  (i_20 =
  (160 :
  Int)))
  (br
  (decide
  (i_27 =
  (160 :
  Int)))
  (R
  (Ending.returned
  (Value.bool
  (decide
  (i_34 =
  (160 :
  Int)) ==
  !decide
  (i =
  k))))
  w')
  (R
  (Ending.returned
  (Value.bool
  false))
  w'))
  (R
  (Ending.returned
  (Value.bool
  false))
  w'))
  (R
  (Ending.returned
  (Value.bool
  false))
  w'))
  fun (J : Option Addr × Nat × Nat → World → Prop) ↦
  (onP a fun (a_4 : Addr) ↦
  ((0 : Int) ≤ k ∧ k < (↑l : Int)) ∧
  ∃ (s : ByteArray),
  Ld Go.Proofs.Try.prog (9 : Nat) (World.drew w1) (Addr.add a_4 (Int.toNat k * (1 : Nat)))
  (Value.string s) ∧
  ∀ (b : Nat) (w1_2 : World),
  New (World.drew w1) (Obj.cells #[] (9 : Nat)) b w1_2 →
  Ld Go.Proofs.Try.prog (9 : Nat) w1_2 (Addr.add a_4 (Int.toNat k * (1 : Nat)))
  (Value.string s) ∧
  ∃ (a_6 : Option Addr),
  ∃ (n : Nat),
  ∃ (m : Nat),
  ∃ (w1 : World),
  App Go.Proofs.Try.prog #[(26 : Nat), (26 : Nat)] (26 : Nat) w1_2
  (Value.slice (some (Addr.mk b (0 : Nat) none)) (0 : Nat) (0 : Nat))
  (Value.slice a l c) (Value.slice a_6 n m) w1 ∧
  Ld Go.Proofs.Try.prog (9 : Nat) w1
  (Addr.add a_4 (Int.toNat k * (1 : Nat))) (Value.string s) ∧
  ∀ (b : Nat) (w1_3 : World),
  New w1 (Obj.cells #[Value.string s] (9 : Nat)) b w1_3 →
  ∃ (a : Option Addr),
  ∃ (n_2 : Nat),
  ∃ (m_2 : Nat),
  ∃ (w1 : World),
  App Go.Proofs.Try.prog #[(26 : Nat), (26 : Nat)] (26 : Nat)
  w1_3 (Value.slice a_6 n m)
  (Value.slice (some (Addr.mk b (0 : Nat) none))
  (1 : Nat) (1 : Nat))
  (Value.slice a n_2 m_2) w1 ∧
  J (a, n_2, m_2) w1) ∧
  (onP a fun (a_4 : Addr) ↦
  ((0 : Int) ≤ k ∧ k < (↑l : Int)) ∧
  ∃ (s : ByteArray),
  Ld Go.Proofs.Try.prog (9 : Nat) (World.drew w1) (Addr.add a_4 (Int.toNat k * (1 : Nat)))
  (Value.string s) ∧
  ∀ (b : Nat) (w1_2 : World),
  New (World.drew w1) (Obj.cells #[] (9 : Nat)) b w1_2 →
  Ld Go.Proofs.Try.prog (9 : Nat) w1_2 (Addr.add a_4 (Int.toNat k * (1 : Nat)))
  (Value.string s) ∧
  ∀ (b_1 : Nat) (w1 : World),
  New w1_2 (Obj.cells #[Value.string s] (9 : Nat)) b_1 w1 →
  ∃ (a_7 : Option Addr),
  ∃ (n : Nat),
  ∃ (m : Nat),
  ∃ (w1_3 : World),
  App Go.Proofs.Try.prog #[(26 : Nat), (26 : Nat)] (26 : Nat) w1
  (Value.slice (some (Addr.mk b (0 : Nat) none)) (0 : Nat)
  (0 : Nat))
  (Value.slice a l c) (Value.slice a_7 n m) w1_3 ∧
  ∃ (a : Option Addr),
  ∃ (n_2 : Nat),
  ∃ (m_2 : Nat),
  ∃ (w1 : World),
  App Go.Proofs.Try.prog #[(26 : Nat), (26 : Nat)] (26 : Nat)
  w1_3 (Value.slice a_7 n m)
  (Value.slice (some (Addr.mk b_1 (0 : Nat) none))
  (1 : Nat) (1 : Nat))
  (Value.slice a n_2 m_2) w1 ∧
  J (a, n_2, m_2) w1) ∧
  onP a fun (a_4 : Addr) ↦
  ((0 : Int) ≤ k ∧ k < (↑l : Int)) ∧
  ∃ (s : ByteArray),
  Ld Go.Proofs.Try.prog (9 : Nat) (World.drew w1) (Addr.add a_4 (Int.toNat k * (1 : Nat)))
  (Value.string s) ∧
  ∀ (b : Nat) (w1_2 : World),
  New (World.drew w1) (Obj.cells #[Value.string s] (9 : Nat)) b w1_2 →
  ∀ (b_1 : Nat) (w1 : World),
  New w1_2 (Obj.cells #[] (9 : Nat)) b_1 w1 →
  ∃ (a_7 : Option Addr),
  ∃ (n : Nat),
  ∃ (m : Nat),
  ∃ (w1_3 : World),
  App Go.Proofs.Try.prog #[(26 : Nat), (26 : Nat)] (26 : Nat) w1
  (Value.slice (some (Addr.mk b_1 (0 : Nat) none)) (0 : Nat)
  (0 : Nat))
  (Value.slice a l c) (Value.slice a_7 n m) w1_3 ∧
  ∃ (a : Option Addr),
  ∃ (n_2 : Nat),
  ∃ (m_2 : Nat),
  ∃ (w1 : World),
  App Go.Proofs.Try.prog #[(26 : Nat), (26 : Nat)] (26 : Nat)
  w1_3 (Value.slice a_7 n m)
  (Value.slice (some (Addr.mk b (0 : Nat) none))
  (1 : Nat) (1 : Nat))
  (Value.slice a n_2 m_2) w1 ∧
  J (a, n_2, m_2) w1)))))
theorem folioTurned.eq (r_Id : Int) (r_Parent : Int) (r_Kind : Int) (r_Name : Int) (r_From : Int) (r_To : Int) (r_Text : ByteArray) (r_Attrsa : Option Addr) (r_Attrsn : Nat) (r_Attrsc : Nat) (i : Int) (k : Int) (w : World) (R : Ending → World → Prop) : bodyV Go.Proofs.Try.prog folioTurned.an Go.Proofs.Try.f8 [.agg #[.int .i64 r_Id, .int .i64 r_Parent, .int .i64 r_Kind, .int .i64 r_Name, .int .i64 r_From, .int .i64 r_To, .string r_Text, .slice r_Attrsa r_Attrsn r_Attrsc], .int .i64 i, .int .i64 k] w R = folioTurned.vc r_Id r_Parent r_Kind r_Name r_From r_To r_Text r_Attrsa r_Attrsn r_Attrsc i k w R := by kernel_rfl
theorem folioTurned.ok (r_Id : Int) (r_Parent : Int) (r_Kind : Int) (r_Name : Int) (r_From : Int) (r_To : Int) (r_Text : ByteArray) (r_Attrsa : Option Addr) (r_Attrsn : Nat) (r_Attrsc : Nat) (i : Int) (k : Int) (w : World) (R : Ending → World → Prop) (h : folioTurned.vc r_Id r_Parent r_Kind r_Name r_From r_To r_Text r_Attrsa r_Attrsn r_Attrsc i k w R) : Calls Go.Proofs.Try.prog 8 #[.agg #[.int .i64 r_Id, .int .i64 r_Parent, .int .i64 r_Kind, .int .i64 r_Name, .int .i64 r_From, .int .i64 r_To, .string r_Text, .slice r_Attrsa r_Attrsn r_Attrsc], .int .i64 i, .int .i64 k] w R :=
  calls_of_bodyV noNum (an := folioTurned.an) (args := [.agg #[.int .i64 r_Id, .int .i64 r_Parent, .int .i64 r_Kind, .int .i64 r_Name, .int .i64 r_From, .int .i64 r_To, .string r_Text, .slice r_Attrsa r_Attrsn r_Attrsc], .int .i64 i, .int .i64 k]) Go.Proofs.Try.func8 (by kernel_rfl) ((folioTurned.eq r_Id r_Parent r_Kind r_Name r_From r_To r_Text r_Attrsa r_Attrsn r_Attrsc i k w R).mpr h)

/-- incunable/incunablelaw16.FolioSizes -/
def folioSizes.an : An := { wraps := [], loops := [(6, [(5, .inl .i64), (27, .inl .i64)]), (12, [(8, .inl .i64), (40, .inl .i64)])], joins := [] }
def folioSizes.vc (r_Id : Int) (r_Parent : Int) (r_Kind : Int) (r_Name : Int) (r_From : Int) (r_To : Int) (r_Text : ByteArray) (r_Attrsa : Option Addr) (r_Attrsn : Nat) (r_Attrsc : Nat) (w : World) (R : Ending → World → Prop) : Prop :=
  ∀ (b : Nat) (w1 : World),
  New w
  (Obj.cells
  #[Value.int IntKind.i64 r_Id, Value.int IntKind.i64 r_Parent, Value.int IntKind.i64 r_Kind, Value.int IntKind.i64 r_Name, Value.int IntKind.i64 r_From, Value.int IntKind.i64 r_To,
  Value.string r_Text, Value.slice r_Attrsa r_Attrsn r_Attrsc]
  (24 : Nat))
  b w1 →
  ∃ (i : Int),
  ∃ (i_1 : Int),
  ∃ (i_2 : Int),
  ∃ (i_3 : Int),
  ∃ (i_4 : Int),
  ∃ (i_5 : Int),
  ∃ (s : ByteArray),
  ∃ (a : Option Addr),
  ∃ (l : Nat),
  ∃ (c : Nat),
  Ld Go.Proofs.Try.prog (24 : Nat) w1 (Addr.mk b (0 : Nat) none)
  (Value.agg
  #[Value.int IntKind.i64 i, Value.int IntKind.i64 i_1, Value.int IntKind.i64 i_2, Value.int IntKind.i64 i_3, Value.int IntKind.i64 i_4, Value.int IntKind.i64 i_5,
  Value.string s, Value.slice a l c]) ∧
  CallV Go.Proofs.Try.prog (12 : Nat)
  [Value.agg
  #[Value.int IntKind.i64 i, Value.int IntKind.i64 i_1, Value.int IntKind.i64 i_2, Value.int IntKind.i64 i_3, Value.int IntKind.i64 i_4, Value.int IntKind.i64 i_5,
  Value.string s, Value.slice a l c]]
  w1 fun (e : Ending) (w' : World) ↦
  ∃ (i : Int),
  ∃ (i_6 : Int),
  ∃ (i_7 : Int),
  ∃ (i_8 : Int),
  ∃ (i_9 : Int),
  ∃ (i_10 : Int),
  ∃ (s : ByteArray),
  ∃ (a : Option Addr),
  ∃ (l : Nat),
  ∃ (c : Nat),
  e =
  Ending.returned
  (Value.agg
  #[Value.int IntKind.i64 i, Value.int IntKind.i64 i_6, Value.int IntKind.i64 i_7, Value.int IntKind.i64 i_8, Value.int IntKind.i64 i_9,
  Value.int IntKind.i64 i_10, Value.string s, Value.slice a l c]) ∧
  CallV Go.Proofs.Try.prog (11 : Nat)
  [Value.agg
  #[Value.int IntKind.i64 i, Value.int IntKind.i64 i_6, Value.int IntKind.i64 i_7, Value.int IntKind.i64 i_8, Value.int IntKind.i64 i_9,
  Value.int IntKind.i64 i_10, Value.string s, Value.slice a l c]]
  w' fun (e : Ending) (w' : World) ↦
  ∃ (a : Option Addr),
  ∃ (l : Nat),
  ∃ (c : Nat),
  ∃ (i : Int),
  e = Ending.returned (Value.tuple #[Value.slice a l c, Value.int IntKind.i64 i]) ∧
  br (!decide (i = (0 : Int)))
  (CallV Go.Proofs.Try.prog (10 : Nat) [] w' fun (e : Ending) (w' : World) ↦
  ∃ (b : Bool), e = Ending.returned (Value.bool b) ∧ R (Ending.returned (Value.bool b)) w')
  (∃ (s : ByteArray),
  Ld Go.Proofs.Try.prog (9 : Nat) w' (Addr.mk b (6 : Nat) none) (Value.string s) ∧
  inR IntKind.i64 ((30 : Int) + (↑(ByteArray.size s) : Int)) ∧
  ∃ (a_1 : Option Addr),
  ∃ (l_1 : Nat),
  ∃ (c : Nat),
  Ld Go.Proofs.Try.prog (22 : Nat) w' (Addr.mk b (7 : Nat) none) (Value.slice a_1 l_1 c) ∧
  LoopP
  (fun (s : Int × Int) (w' : World) (next : Int × Int → World → Prop) ↦
  br (decide (Prod.snd s < (↑l_1 : Int)))
  (onP a_1 fun (a : Addr) ↦
  ((0 : Int) ≤ Prod.snd s ∧ Prod.snd s < (↑l_1 : Int)) ∧
  ∃ (i : Int),
  ∃ (s_1 : ByteArray),
  Ld Go.Proofs.Try.prog (52 : Nat) w' (Addr.add a (Int.toNat (Prod.snd s) * (2 : Nat)))
  (Value.agg #[Value.int IntKind.i64 i, Value.string s_1]) ∧
  ∀ (b : Nat) (w1 : World),
  New w' (Obj.cells #[Value.int IntKind.i64 (0 : Int), Value.string (ByteArray.mk #[])] (52 : Nat)) b w1 →
  ∃ (w1_1 : World),
  St Go.Proofs.Try.prog (52 : Nat) w1 (Addr.mk b (0 : Nat) none)
  (Value.agg #[Value.int IntKind.i64 i, Value.string s_1]) w1_1 ∧
  ∃ (s_2 : ByteArray),
  Ld Go.Proofs.Try.prog (9 : Nat) w1_1 (Addr.mk b (1 : Nat) none) (Value.string s_2) ∧
  inR IntKind.i64 ((4 : Int) + (↑(ByteArray.size s_2) : Int)) ∧
  inR IntKind.i64 (Prod.fst s + ((4 : Int) + (↑(ByteArray.size s_2) : Int))) ∧
  inR IntKind.i64 (Prod.snd s + (1 : Int)) ∧
  next (Prod.fst s + ((4 : Int) + (↑(ByteArray.size s_2) : Int)), Prod.snd s + (1 : Int))
  w1_1)
  (LoopP
  (fun (s_1 : Int × Int) (w' : World) (next : Int × Int → World → Prop) ↦
  br (decide (Prod.snd s_1 < (↑l : Int)))
  (onP a fun (a : Addr) ↦
  ((0 : Int) ≤ Prod.snd s_1 ∧ Prod.snd s_1 < (↑l : Int)) ∧
  ∃ (s : ByteArray),
  Ld Go.Proofs.Try.prog (9 : Nat) w' (Addr.add a (Int.toNat (Prod.snd s_1) * (1 : Nat))) (Value.string s) ∧
  inR IntKind.i64 ((↑(ByteArray.size s) : Int) - (6 : Int)) ∧
  inR IntKind.i64 (Prod.fst s_1 + ((↑(ByteArray.size s) : Int) - (6 : Int))) ∧
  inR IntKind.i64 ((↑l : Int) - (1 : Int)) ∧
  br (decide (Prod.snd s_1 < (↑l : Int) - (1 : Int)))
  (br (!decide ((↑(ByteArray.size s) : Int) = (906 : Int)))
  (R (Ending.returned (Value.bool false)) w')
  (inR IntKind.i64 (Prod.snd s_1 + (1 : Int)) ∧
  next (Prod.fst s_1 + ((↑(ByteArray.size s) : Int) - (6 : Int)), Prod.snd s_1 + (1 : Int))
  w'))
  (inR IntKind.i64 (Prod.snd s_1 + (1 : Int)) ∧
  next (Prod.fst s_1 + ((↑(ByteArray.size s) : Int) - (6 : Int)), Prod.snd s_1 + (1 : Int))
  w'))
  (CallV Go.Proofs.Try.prog (10 : Nat) [] w' fun (e : Ending) (w' : World) ↦
  ∃ (b : Bool),
  e = Ending.returned (Value.bool b) ∧
  br b (R (Ending.returned (Value.bool (decide (Prod.fst s_1 = Prod.fst s)))) w')
  (R (Ending.returned (Value.bool false)) w')))
  ((0 : Int), (0 : Int)) w'))
  ((30 : Int) + (↑(ByteArray.size s) : Int), (0 : Int)) w')
theorem folioSizes.eq (r_Id : Int) (r_Parent : Int) (r_Kind : Int) (r_Name : Int) (r_From : Int) (r_To : Int) (r_Text : ByteArray) (r_Attrsa : Option Addr) (r_Attrsn : Nat) (r_Attrsc : Nat) (w : World) (R : Ending → World → Prop) : bodyV Go.Proofs.Try.prog folioSizes.an Go.Proofs.Try.f9 [.agg #[.int .i64 r_Id, .int .i64 r_Parent, .int .i64 r_Kind, .int .i64 r_Name, .int .i64 r_From, .int .i64 r_To, .string r_Text, .slice r_Attrsa r_Attrsn r_Attrsc]] w R = folioSizes.vc r_Id r_Parent r_Kind r_Name r_From r_To r_Text r_Attrsa r_Attrsn r_Attrsc w R := by kernel_rfl
theorem folioSizes.ok (r_Id : Int) (r_Parent : Int) (r_Kind : Int) (r_Name : Int) (r_From : Int) (r_To : Int) (r_Text : ByteArray) (r_Attrsa : Option Addr) (r_Attrsn : Nat) (r_Attrsc : Nat) (w : World) (R : Ending → World → Prop) (h : folioSizes.vc r_Id r_Parent r_Kind r_Name r_From r_To r_Text r_Attrsa r_Attrsn r_Attrsc w R) : Calls Go.Proofs.Try.prog 9 #[.agg #[.int .i64 r_Id, .int .i64 r_Parent, .int .i64 r_Kind, .int .i64 r_Name, .int .i64 r_From, .int .i64 r_To, .string r_Text, .slice r_Attrsa r_Attrsn r_Attrsc]] w R :=
  calls_of_bodyV noNum (an := folioSizes.an) (args := [.agg #[.int .i64 r_Id, .int .i64 r_Parent, .int .i64 r_Kind, .int .i64 r_Name, .int .i64 r_From, .int .i64 r_To, .string r_Text, .slice r_Attrsa r_Attrsn r_Attrsc]]) Go.Proofs.Try.func9 (by kernel_rfl) ((folioSizes.eq r_Id r_Parent r_Kind r_Name r_From r_To r_Text r_Attrsa r_Attrsn r_Attrsc w R).mpr h)


end Go.Proofs.Ytcgaobfbgfefhaa
