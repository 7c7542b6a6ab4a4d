/- Of each function the statement that the calculus reckons, printed by a program, and that it is that statement. -/
import Derived.Test.YtnmlkecmokhhhaaFnsA
import Derived.Test.YtnmlkecmokhhhaaChecked
set_option linter.unusedVariables false
set_option maxRecDepth 100000
namespace Go.Proofs.Ytnmlkecmokhhhaa
open Go Go.Vc

/-- slices.Clone[[]incunable/vault.sector,incunable/vault.sector] -/
def cloneS.an : An := { wraps := [], loops := [], joins := [], ranges := [] }
def cloneS.vc (sa : Option Addr) (sn : Nat) (sc : Nat) (w : World) (R : Ending → World → Prop) : Prop :=
  ∃ (b : Bool),
  Eqv Go.Proofs.Try.prog BinOp.eql (69 : Nat) (Operand.tmp (3 : Nat)) (Operand.const (Value.slice none (0 : Nat) (0 : Nat))) w (Value.slice sa sn sc) (Value.slice none (0 : Nat) (0 : Nat)) b ∧
  br b (R (Ending.returned (Value.slice none (0 : Nat) (0 : Nat))) w)
  (∃ (e : TypeId),
  ∃ (l : List Value),
  BuildS Go.Proofs.Try.prog (69 : Nat) (0 : Nat) [] e l ∧
  ∀ (b : Nat) (w1 : World),
  New w (Obj.cells (List.toArray l) e) b w1 →
  ∃ (a : Option Addr),
  ∃ (n : Nat),
  ∃ (m : Nat),
  ∃ (w1_1 : World),
  App Go.Proofs.Try.prog #[(69 : Nat), (69 : Nat)] (69 : Nat) w1 (Value.slice (some (Addr.mk b (0 : Nat) none)) (0 : Nat) (0 : Nat)) (Value.slice sa sn sc) (Value.slice a n m)
  w1_1 ∧
  R (Ending.returned (Value.slice a n m)) w1_1)
theorem cloneS.eq (sa : Option Addr) (sn : Nat) (sc : Nat) (w : World) (R : Ending → World → Prop) : bodyV Go.Proofs.Try.prog cloneS.an Go.Proofs.Try.f40 [.slice sa sn sc] w R = cloneS.vc sa sn sc w R := by kernel_rfl
theorem cloneS.ok (sa : Option Addr) (sn : Nat) (sc : Nat) (w : World) (R : Ending → World → Prop) (h : cloneS.vc sa sn sc w R) : Calls Go.Proofs.Try.prog 40 #[.slice sa sn sc] w R :=
  calls_of_bodyV noNum (an := cloneS.an) (args := [.slice sa sn sc]) Go.Proofs.Try.func40 (by kernel_rfl) ((cloneS.eq sa sn sc w R).mpr h)

/-- (*incunable/vault.Disk).Crash$1 -/
def crashC.an : An := { wraps := [], loops := [], joins := [], ranges := [] }
def crashC.vc (free0 : Option Addr) (w : World) (R : Ending → World → Prop) : Prop :=
  ∃ (a : Option Addr),
  ∃ (l : Nat),
  ∃ (c : Nat),
  (onP free0 fun (a_1 : Addr) ↦ Ld Go.Proofs.Try.prog (27 : Nat) w a_1 (Value.slice a l c)) ∧
  br (decide ((↑l : Int) = (0 : Int))) (R (Ending.returned (Value.int IntKind.i64 (0 : Int))) w)
  (∃ (a : Option Addr),
  ∃ (l : Nat),
  ∃ (c : Nat),
  (onP free0 fun (a_1 : Addr) ↦ Ld Go.Proofs.Try.prog (27 : Nat) w a_1 (Value.slice a l c)) ∧
  onP a fun (a : Addr) ↦
  ((0 : Int) ≤ (0 : Int) ∧ (0 : Int) < (↑l : Int)) ∧
  ∃ (i : Int),
  Ld Go.Proofs.Try.prog (3 : Nat) w a (Value.int IntKind.i64 i) ∧
  ∃ (a : Option Addr),
  ∃ (l : Nat),
  ∃ (c : Nat),
  (onP free0 fun (a_1 : Addr) ↦ Ld Go.Proofs.Try.prog (27 : Nat) w a_1 (Value.slice a l c)) ∧
  ((0 : Int) ≤ (1 : Int) ∧ (1 : Int) ≤ (↑l : Int)) ∧
  onP free0 fun (a_1 : Addr) ↦
  ∃ (w1 : World),
  St Go.Proofs.Try.prog (27 : Nat) w a_1 (Value.slice (slA a c (Int.toNat (1 : Int)) (1 : Nat)) (l - Int.toNat (1 : Int)) (c - Int.toNat (1 : Int))) w1 ∧
  R (Ending.returned (Value.int IntKind.i64 i)) w1)
theorem crashC.eq (free0 : Option Addr) (w : World) (R : Ending → World → Prop) : bodyV Go.Proofs.Try.prog crashC.an Go.Proofs.Try.f42 [(.pointer free0)] w R = crashC.vc free0 w R := by kernel_rfl
theorem crashC.ok (free0 : Option Addr) (w : World) (R : Ending → World → Prop) (h : crashC.vc free0 w R) : Calls Go.Proofs.Try.prog 42 #[(.pointer free0)] w R :=
  calls_of_bodyV noNum (an := crashC.an) (args := [(.pointer free0)]) Go.Proofs.Try.func42 (by kernel_rfl) ((crashC.eq free0 w R).mpr h)

/-- (*incunable/vault.file).found -/
def found.an : An := { wraps := [], loops := [(3, [(5, .inr 3), (21, .inl .i64)]), (7, [(5, .inr 3)])], joins := [], ranges := [] }
def found.vc (f : Option Addr) (next : Value) (w : World) (R : Ending → World → Prop) : Prop :=
  onP f fun (a : Addr) ↦
  ∃ (a_1 : Option Addr),
  ∃ (l : Nat),
  ∃ (c : Nat),
  Ld Go.Proofs.Try.prog (69 : Nat) w (Addr.add a (1 : Nat)) (Value.slice a_1 l c) ∧
  CallV Go.Proofs.Try.prog (40 : Nat) [Value.slice a_1 l c] w fun (e : Ending) (w' : World) ↦
  ∃ (a : Option Addr),
  ∃ (l : Nat),
  ∃ (c : Nat),
  e = Ending.returned (Value.slice a l c) ∧
  onP f fun (a_2 : Addr) ↦
  ∃ (m : Option Nat),
  Ld Go.Proofs.Try.prog (70 : Nat) w' (Addr.add a_2 (2 : Nat)) (Value.map m) ∧
  CallV Go.Proofs.Try.prog (56 : Nat) [Value.map m] w' fun (e : Ending) (w' : World) ↦
  ∃ (v : Value),
  e = Ending.returned v ∧
  CallV Go.Proofs.Try.prog (55 : Nat) [v] w' fun (e : Ending) (w' : World) ↦
  ∃ (a_3 : Option Addr),
  ∃ (l_1 : Nat),
  ∃ (c_1 : Nat),
  e = Ending.returned (Value.slice a_3 l_1 c_1) ∧
  LoopP
  (fun (s : (Option Addr × Nat × Nat) × Int) (w' : World) (next_1 : (Option Addr × Nat × Nat) × Int → World → Prop) ↦
  br (decide (Prod.snd s < (↑l_1 : Int)))
  (onP a_3 fun (a : Addr) ↦
  ((0 : Int) ≤ Prod.snd s ∧ Prod.snd s < (↑l_1 : Int)) ∧
  ∃ (i : Int),
  Ld Go.Proofs.Try.prog (3 : Nat) w' (Addr.add a (Int.toNat (Prod.snd s) * (1 : Nat))) (Value.int IntKind.i64 i) ∧
  CallX Go.Proofs.Try.prog next [] w' fun (e : Ending) (w' : World) ↦
  ∃ (i_1 : Int),
  e = Ending.returned (Value.int IntKind.i64 i_1) ∧
  br (decide (min (max i_1 (0 : Int)) (512 : Int) = (0 : Int)))
  (inR IntKind.i64 (Prod.snd s + (1 : Int)) ∧
  next_1 ((Prod.fst (Prod.fst s), Prod.fst (Prod.snd (Prod.fst s)), Prod.snd (Prod.snd (Prod.fst s))), Prod.snd s + (1 : Int)) w')
  (LoopP
  (fun (s_1 : Option Addr × Nat × Nat) (w' : World) (next : Option Addr × Nat × Nat → World → Prop) ↦
  br (decide ((↑(Prod.fst (Prod.snd s_1)) : Int) ≤ i))
  (∃ (e : TypeId),
  ∃ (l : List Value),
  BuildS Go.Proofs.Try.prog (69 : Nat) (1 : Nat) [((0 : Nat), Value.agg (List.toArray (bigL Go.Proofs.Try.prog (81 : Nat) [])))] e l ∧
  ∀ (b : Nat) (w1 : World),
  New w' (Obj.cells (List.toArray l) e) b w1 →
  ∃ (a : Option Addr),
  ∃ (n : Nat),
  ∃ (m : Nat),
  ∃ (w1_1 : World),
  App Go.Proofs.Try.prog #[(69 : Nat), (69 : Nat)] (69 : Nat) w1
  (Value.slice (Prod.fst s_1) (Prod.fst (Prod.snd s_1)) (Prod.snd (Prod.snd s_1)))
  (Value.slice (some (Addr.mk b (0 : Nat) none)) (1 : Nat) (1 : Nat)) (Value.slice a n m) w1_1 ∧
  next (a, n, m) w1_1)
  (onP (Prod.fst s_1) fun (a : Addr) ↦
  ((0 : Int) ≤ i ∧ i < (↑(Prod.fst (Prod.snd s_1)) : Int)) ∧
  ((0 : Int) ≤ min (max i_1 (0 : Int)) (512 : Int) ∧ min (max i_1 (0 : Int)) (512 : Int) ≤ (↑(512 : Nat) : Int)) ∧
  onP f fun (a_4 : Addr) ↦
  ∃ (a_5 : Option Addr),
  ∃ (l : Nat),
  ∃ (c : Nat),
  Ld Go.Proofs.Try.prog (69 : Nat) (World.drew w') a_4 (Value.slice a_5 l c) ∧
  onP a_5 fun (a_6 : Addr) ↦
  ((0 : Int) ≤ i ∧ i < (↑l : Int)) ∧
  ∃ (n : Int),
  ∃ (w1 : World),
  Cpy Go.Proofs.Try.prog #[(26 : Nat), (26 : Nat)] (3 : Nat) (World.drew w')
  (Value.slice (some (Addr.add a (Int.toNat i * (512 : Nat))))
  (Int.toNat (min (max i_1 (0 : Int)) (512 : Int))) (512 : Nat))
  (Value.slice (some (Addr.add a_6 (Int.toNat i * (512 : Nat)))) (512 : Nat) (512 : Nat))
  (Value.int IntKind.i64 n) w1 ∧
  inR IntKind.i64 (Prod.snd s + (1 : Int)) ∧
  next_1 ((Prod.fst s_1, Prod.fst (Prod.snd s_1), Prod.snd (Prod.snd s_1)), Prod.snd s + (1 : Int)) w1))
  (Prod.fst (Prod.fst s), Prod.fst (Prod.snd (Prod.fst s)), Prod.snd (Prod.snd (Prod.fst s))) w'))
  (CallV Go.Proofs.Try.prog (40 : Nat) [Value.slice (Prod.fst (Prod.fst s)) (Prod.fst (Prod.snd (Prod.fst s))) (Prod.snd (Prod.snd (Prod.fst s)))] w'
  fun (e : Ending) (w' : World) ↦
  ∃ (a : Option Addr),
  ∃ (l : Nat),
  ∃ (c : Nat),
  e = Ending.returned (Value.slice a l c) ∧
  ∀ (b : Nat) (w1 : World),
  New w' (Obj.map #[] (0 : Nat)) b w1 →
  ∀ (b_1 : Nat) (w1_1 : World),
  New w1
  (Obj.cells
  #[Value.slice a l c, Value.slice (Prod.fst (Prod.fst s)) (Prod.fst (Prod.snd (Prod.fst s))) (Prod.snd (Prod.snd (Prod.fst s))),
  Value.map (some b)]
  (72 : Nat))
  b_1 w1_1 →
  R (Ending.returned (Value.pointer (some (Addr.mk b_1 (0 : Nat) none)))) w1_1))
  ((a, l, c), (0 : Int)) w'
theorem found.eq (f : Option Addr) (next : Value) (w : World) (R : Ending → World → Prop) : bodyV Go.Proofs.Try.prog found.an Go.Proofs.Try.f43 [.pointer f, next] w R = found.vc f next w R := by kernel_rfl
theorem found.ok (f : Option Addr) (next : Value) (w : World) (R : Ending → World → Prop) (h : found.vc f next w R) : Calls Go.Proofs.Try.prog 43 #[.pointer f, next] w R :=
  calls_of_bodyV noNum (an := found.an) (args := [.pointer f, next]) Go.Proofs.Try.func43 (by kernel_rfl) ((found.eq f next w R).mpr h)

/-- (*incunable/vault.Disk).Rename$1 -/
def renameC.an : An := { wraps := [], loops := [], joins := [], ranges := [] }
def renameC.vc (names : Option Nat) (free0 : Option Addr) (free1 : Option Addr) (free2 : Option Addr) (w : World) (R : Ending → World → Prop) : Prop :=
  ∃ (s : ByteArray),
  (onP free0 fun (a : Addr) ↦ Ld Go.Proofs.Try.prog (9 : Nat) w a (Value.string s)) ∧
  ∃ (w1 : World),
  Del Go.Proofs.Try.prog #[(64 : Nat), (9 : Nat)] (0 : Nat) w (Value.map names) (Value.string s) w1 ∧
  ∃ (s : ByteArray),
  (onP free2 fun (a : Addr) ↦ Ld Go.Proofs.Try.prog (9 : Nat) w1 a (Value.string s)) ∧
  ∃ (i : Int),
  (onP free1 fun (a : Addr) ↦ Ld Go.Proofs.Try.prog (3 : Nat) w1 a (Value.int IntKind.i64 i)) ∧
  ∃ (w1_1 : World), MUp Go.Proofs.Try.prog (64 : Nat) w1 (Value.map names) (Value.string s) (Value.int IntKind.i64 i) w1_1 ∧ R (Ending.returned (Value.tuple #[])) w1_1
theorem renameC.eq (names : Option Nat) (free0 : Option Addr) (free1 : Option Addr) (free2 : Option Addr) (w : World) (R : Ending → World → Prop) : bodyV Go.Proofs.Try.prog renameC.an Go.Proofs.Try.f44 [.map names, (.pointer free0), (.pointer free1), (.pointer free2)] w R = renameC.vc names free0 free1 free2 w R := by kernel_rfl
theorem renameC.ok (names : Option Nat) (free0 : Option Addr) (free1 : Option Addr) (free2 : Option Addr) (w : World) (R : Ending → World → Prop) (h : renameC.vc names free0 free1 free2 w R) : Calls Go.Proofs.Try.prog 44 #[.map names, (.pointer free0), (.pointer free1), (.pointer free2)] w R :=
  calls_of_bodyV noNum (an := renameC.an) (args := [.map names, (.pointer free0), (.pointer free1), (.pointer free2)]) Go.Proofs.Try.func44 (by kernel_rfl) ((renameC.eq names free0 free1 free2 w R).mpr h)

/-- (*incunable/vault.Disk).Remove$1 -/
def removeC.an : An := { wraps := [], loops := [], joins := [], ranges := [] }
def removeC.vc (names : Option Nat) (free0 : Option Addr) (w : World) (R : Ending → World → Prop) : Prop :=
  ∃ (s : ByteArray),
  (onP free0 fun (a : Addr) ↦ Ld Go.Proofs.Try.prog (9 : Nat) w a (Value.string s)) ∧
  ∃ (w1 : World), Del Go.Proofs.Try.prog #[(64 : Nat), (9 : Nat)] (0 : Nat) w (Value.map names) (Value.string s) w1 ∧ R (Ending.returned (Value.tuple #[])) w1
theorem removeC.eq (names : Option Nat) (free0 : Option Addr) (w : World) (R : Ending → World → Prop) : bodyV Go.Proofs.Try.prog removeC.an Go.Proofs.Try.f45 [.map names, (.pointer free0)] w R = removeC.vc names free0 w R := by kernel_rfl
theorem removeC.ok (names : Option Nat) (free0 : Option Addr) (w : World) (R : Ending → World → Prop) (h : removeC.vc names free0 w R) : Calls Go.Proofs.Try.prog 45 #[.map names, (.pointer free0)] w R :=
  calls_of_bodyV noNum (an := removeC.an) (args := [.map names, (.pointer free0)]) Go.Proofs.Try.func45 (by kernel_rfl) ((removeC.eq names free0 w R).mpr h)

/-- incunable/incunableref09.Told -/
def rtold.an : An := { wraps := [], loops := [(4, [(4, .inr 3), (5, .inr 3), (6, .inl .i64)])], joins := [], ranges := [] }
def rtold.vc (d_Room : Int) (d_Filesa : Option Addr) (d_Filesn : Nat) (d_Filesc : Nat) (d_Namesa : Option Addr) (d_Namesn : Nat) (d_Namesc : Nat) (d_Firma : Option Addr) (d_Firmn : Nat) (d_Firmc : Nat) (d_Sincea : Option Addr) (d_Sincen : Nat) (d_Sincec : Nat) (d_Armed : Int) (d_Denied : Int) (d_Dead : Bool) (w : World) (R : Ending → World → Prop) : Prop :=
  ∀ (b : Nat) (w1 : World),
  New w
  (Obj.cells
  #[Value.int IntKind.i64 d_Room, Value.slice d_Filesa d_Filesn d_Filesc, Value.slice d_Namesa d_Namesn d_Namesc, Value.slice d_Firma d_Firmn d_Firmc, Value.slice d_Sincea d_Sincen d_Sincec,
  Value.int IntKind.i64 d_Armed, Value.int IntKind.i64 d_Denied, Value.bool d_Dead]
  (41 : Nat))
  b w1 →
  LoopP
  (fun (s : (Option Addr × Nat × Nat) × (Option Addr × Nat × Nat) × Int) (w' : World) (next : (Option Addr × Nat × Nat) × (Option Addr × Nat × Nat) × Int → World → Prop) ↦
  ∃ (a : Option Addr),
  ∃ (l : Nat),
  ∃ (c : Nat),
  Ld Go.Proofs.Try.prog (38 : Nat) w' (Addr.mk b (2 : Nat) none) (Value.slice a l c) ∧
  br (decide (Prod.snd (Prod.snd s) < (↑l : Int)))
  (∃ (a : Option Addr),
  ∃ (l : Nat),
  ∃ (c : Nat),
  Ld Go.Proofs.Try.prog (38 : Nat) w' (Addr.mk b (2 : Nat) none) (Value.slice a l c) ∧
  onP a fun (a : Addr) ↦
  ((0 : Int) ≤ Prod.snd (Prod.snd s) ∧ Prod.snd (Prod.snd s) < (↑l : Int)) ∧
  ∃ (s_1 : ByteArray),
  Ld Go.Proofs.Try.prog (9 : Nat) w' (Addr.add a (Int.toNat (Prod.snd (Prod.snd s)) * (2 : Nat))) (Value.string s_1) ∧
  ∀ (b_1 : Nat) (w1 : World),
  New w' (Obj.cells #[Value.string s_1] (9 : Nat)) b_1 w1 →
  ∃ (a : Option Addr),
  ∃ (n : Nat),
  ∃ (m : Nat),
  ∃ (w1_1 : World),
  App Go.Proofs.Try.prog #[(59 : Nat), (59 : Nat)] (59 : Nat) w1
  (Value.slice (Prod.fst (Prod.fst s)) (Prod.fst (Prod.snd (Prod.fst s))) (Prod.snd (Prod.snd (Prod.fst s))))
  (Value.slice (some (Addr.mk b_1 (0 : Nat) none)) (1 : Nat) (1 : Nat)) (Value.slice a n m) w1_1 ∧
  ∃ (a_1 : Option Addr),
  ∃ (l : Nat),
  ∃ (c : Nat),
  Ld Go.Proofs.Try.prog (37 : Nat) (World.drew w1_1) (Addr.mk b (1 : Nat) none) (Value.slice a_1 l c) ∧
  ∃ (a_2 : Option Addr),
  ∃ (l_1 : Nat),
  ∃ (c : Nat),
  Ld Go.Proofs.Try.prog (38 : Nat) (World.drew w1_1) (Addr.mk b (2 : Nat) none) (Value.slice a_2 l_1 c) ∧
  onP a_2 fun (a_3 : Addr) ↦
  ((0 : Int) ≤ Prod.snd (Prod.snd s) ∧ Prod.snd (Prod.snd s) < (↑l_1 : Int)) ∧
  ∃ (i : Int),
  Ld Go.Proofs.Try.prog (3 : Nat) (World.drew w1_1) (Addr.add (Addr.add a_3 (Int.toNat (Prod.snd (Prod.snd s)) * (2 : Nat))) (1 : Nat))
  (Value.int IntKind.i64 i) ∧
  onP a_1 fun (a_4 : Addr) ↦
  ((0 : Int) ≤ i ∧ i < (↑l : Int)) ∧
  ∃ (a_5 : Option Addr),
  ∃ (l : Nat),
  ∃ (c : Nat),
  Ld Go.Proofs.Try.prog (59 : Nat) (World.drew w1_1) (Addr.add a_4 (Int.toNat i * (3 : Nat))) (Value.slice a_5 l c) ∧
  ∀ (b : Nat) (w1 : World),
  New (World.drew w1_1) (Obj.cells #[Value.slice a_5 l c] (59 : Nat)) b w1 →
  ∃ (a_7 : Option Addr),
  ∃ (n_1 : Nat),
  ∃ (m_1 : Nat),
  ∃ (w1_2 : World),
  App Go.Proofs.Try.prog #[(87 : Nat), (87 : Nat)] (87 : Nat) w1
  (Value.slice (Prod.fst (Prod.fst (Prod.snd s))) (Prod.fst (Prod.snd (Prod.fst (Prod.snd s))))
  (Prod.snd (Prod.snd (Prod.fst (Prod.snd s)))))
  (Value.slice (some (Addr.mk b (0 : Nat) none)) (1 : Nat) (1 : Nat)) (Value.slice a_7 n_1 m_1) w1_2 ∧
  inR IntKind.i64 (Prod.snd (Prod.snd s) + (1 : Int)) ∧
  next ((a, n, m), (a_7, n_1, m_1), Prod.snd (Prod.snd s) + (1 : Int)) w1_2)
  (R
  (Ending.returned
  (Value.tuple
  #[Value.slice (Prod.fst (Prod.fst s)) (Prod.fst (Prod.snd (Prod.fst s))) (Prod.snd (Prod.snd (Prod.fst s))),
  Value.slice (Prod.fst (Prod.fst (Prod.snd s))) (Prod.fst (Prod.snd (Prod.fst (Prod.snd s)))) (Prod.snd (Prod.snd (Prod.fst (Prod.snd s))))]))
  w'))
  ((none, (0 : Nat), (0 : Nat)), (none, (0 : Nat), (0 : Nat)), (0 : Int)) w1
theorem rtold.eq (d_Room : Int) (d_Filesa : Option Addr) (d_Filesn : Nat) (d_Filesc : Nat) (d_Namesa : Option Addr) (d_Namesn : Nat) (d_Namesc : Nat) (d_Firma : Option Addr) (d_Firmn : Nat) (d_Firmc : Nat) (d_Sincea : Option Addr) (d_Sincen : Nat) (d_Sincec : Nat) (d_Armed : Int) (d_Denied : Int) (d_Dead : Bool) (w : World) (R : Ending → World → Prop) : bodyV Go.Proofs.Try.prog rtold.an Go.Proofs.Try.f46 [.agg #[.int .i64 d_Room, .slice d_Filesa d_Filesn d_Filesc, .slice d_Namesa d_Namesn d_Namesc, .slice d_Firma d_Firmn d_Firmc, .slice d_Sincea d_Sincen d_Sincec, .int .i64 d_Armed, .int .i64 d_Denied, .bool d_Dead]] w R = rtold.vc d_Room d_Filesa d_Filesn d_Filesc d_Namesa d_Namesn d_Namesc d_Firma d_Firmn d_Firmc d_Sincea d_Sincen d_Sincec d_Armed d_Denied d_Dead w R := by kernel_rfl
theorem rtold.ok (d_Room : Int) (d_Filesa : Option Addr) (d_Filesn : Nat) (d_Filesc : Nat) (d_Namesa : Option Addr) (d_Namesn : Nat) (d_Namesc : Nat) (d_Firma : Option Addr) (d_Firmn : Nat) (d_Firmc : Nat) (d_Sincea : Option Addr) (d_Sincen : Nat) (d_Sincec : Nat) (d_Armed : Int) (d_Denied : Int) (d_Dead : Bool) (w : World) (R : Ending → World → Prop) (h : rtold.vc d_Room d_Filesa d_Filesn d_Filesc d_Namesa d_Namesn d_Namesc d_Firma d_Firmn d_Firmc d_Sincea d_Sincen d_Sincec d_Armed d_Denied d_Dead w R) : Calls Go.Proofs.Try.prog 46 #[.agg #[.int .i64 d_Room, .slice d_Filesa d_Filesn d_Filesc, .slice d_Namesa d_Namesn d_Namesc, .slice d_Firma d_Firmn d_Firmc, .slice d_Sincea d_Sincen d_Sincec, .int .i64 d_Armed, .int .i64 d_Denied, .bool d_Dead]] w R :=
  calls_of_bodyV noNum (an := rtold.an) (args := [.agg #[.int .i64 d_Room, .slice d_Filesa d_Filesn d_Filesc, .slice d_Namesa d_Namesn d_Namesc, .slice d_Firma d_Firmn d_Firmc, .slice d_Sincea d_Sincen d_Sincec, .int .i64 d_Armed, .int .i64 d_Denied, .bool d_Dead]]) Go.Proofs.Try.func46 (by kernel_rfl) ((rtold.eq d_Room d_Filesa d_Filesn d_Filesc d_Namesa d_Namesn d_Namesc d_Firma d_Firmn d_Firmc d_Sincea d_Sincen d_Sincec d_Armed d_Denied d_Dead w R).mpr h)

/-- incunable/incunableref09.Used -/
def rused.an : An := { wraps := [], loops := [(3, [(3, .inl .i64), (4, .inl .i64)])], joins := [], ranges := [] }
def rused.vc (d_Room : Int) (d_Filesa : Option Addr) (d_Filesn : Nat) (d_Filesc : Nat) (d_Namesa : Option Addr) (d_Namesn : Nat) (d_Namesc : Nat) (d_Firma : Option Addr) (d_Firmn : Nat) (d_Firmc : Nat) (d_Sincea : Option Addr) (d_Sincen : Nat) (d_Sincec : Nat) (d_Armed : Int) (d_Denied : Int) (d_Dead : Bool) (w : World) (R : Ending → World → Prop) : Prop :=
  ∀ (b : Nat) (w1 : World),
  New w
  (Obj.cells
  #[Value.int IntKind.i64 d_Room, Value.slice d_Filesa d_Filesn d_Filesc, Value.slice d_Namesa d_Namesn d_Namesc, Value.slice d_Firma d_Firmn d_Firmc, Value.slice d_Sincea d_Sincen d_Sincec,
  Value.int IntKind.i64 d_Armed, Value.int IntKind.i64 d_Denied, Value.bool d_Dead]
  (41 : Nat))
  b w1 →
  LoopP
  (fun (s : Int × Int) (w' : World) (next : Int × Int → World → Prop) ↦
  ∃ (a : Option Addr),
  ∃ (l : Nat),
  ∃ (c : Nat),
  Ld Go.Proofs.Try.prog (38 : Nat) w' (Addr.mk b (2 : Nat) none) (Value.slice a l c) ∧
  br (decide (Prod.snd s < (↑l : Int)))
  (∃ (a : Option Addr),
  ∃ (l : Nat),
  ∃ (c : Nat),
  Ld Go.Proofs.Try.prog (37 : Nat) (World.drew w') (Addr.mk b (1 : Nat) none) (Value.slice a l c) ∧
  ∃ (a_1 : Option Addr),
  ∃ (l_1 : Nat),
  ∃ (c : Nat),
  Ld Go.Proofs.Try.prog (38 : Nat) (World.drew w') (Addr.mk b (2 : Nat) none) (Value.slice a_1 l_1 c) ∧
  onP a_1 fun (a_2 : Addr) ↦
  ((0 : Int) ≤ Prod.snd s ∧ Prod.snd s < (↑l_1 : Int)) ∧
  ∃ (i : Int),
  Ld Go.Proofs.Try.prog (3 : Nat) (World.drew w') (Addr.add (Addr.add a_2 (Int.toNat (Prod.snd s) * (2 : Nat))) (1 : Nat)) (Value.int IntKind.i64 i) ∧
  onP a fun (a : Addr) ↦
  ((0 : Int) ≤ i ∧ i < (↑l : Int)) ∧
  ∃ (a_3 : Option Addr),
  ∃ (l : Nat),
  ∃ (c : Nat),
  Ld Go.Proofs.Try.prog (59 : Nat) (World.drew w') (Addr.add a (Int.toNat i * (3 : Nat))) (Value.slice a_3 l c) ∧
  inR IntKind.i64 (Prod.fst s + (↑l : Int)) ∧
  inR IntKind.i64 (Prod.snd s + (1 : Int)) ∧ next (Prod.fst s + (↑l : Int), Prod.snd s + (1 : Int)) (World.drew w'))
  (R (Ending.returned (Value.int IntKind.i64 (Prod.fst s))) w'))
  ((0 : Int), (0 : Int)) w1
theorem rused.eq (d_Room : Int) (d_Filesa : Option Addr) (d_Filesn : Nat) (d_Filesc : Nat) (d_Namesa : Option Addr) (d_Namesn : Nat) (d_Namesc : Nat) (d_Firma : Option Addr) (d_Firmn : Nat) (d_Firmc : Nat) (d_Sincea : Option Addr) (d_Sincen : Nat) (d_Sincec : Nat) (d_Armed : Int) (d_Denied : Int) (d_Dead : Bool) (w : World) (R : Ending → World → Prop) : bodyV Go.Proofs.Try.prog rused.an Go.Proofs.Try.f47 [.agg #[.int .i64 d_Room, .slice d_Filesa d_Filesn d_Filesc, .slice d_Namesa d_Namesn d_Namesc, .slice d_Firma d_Firmn d_Firmc, .slice d_Sincea d_Sincen d_Sincec, .int .i64 d_Armed, .int .i64 d_Denied, .bool d_Dead]] w R = rused.vc d_Room d_Filesa d_Filesn d_Filesc d_Namesa d_Namesn d_Namesc d_Firma d_Firmn d_Firmc d_Sincea d_Sincen d_Sincec d_Armed d_Denied d_Dead w R := by kernel_rfl
theorem rused.ok (d_Room : Int) (d_Filesa : Option Addr) (d_Filesn : Nat) (d_Filesc : Nat) (d_Namesa : Option Addr) (d_Namesn : Nat) (d_Namesc : Nat) (d_Firma : Option Addr) (d_Firmn : Nat) (d_Firmc : Nat) (d_Sincea : Option Addr) (d_Sincen : Nat) (d_Sincec : Nat) (d_Armed : Int) (d_Denied : Int) (d_Dead : Bool) (w : World) (R : Ending → World → Prop) (h : rused.vc d_Room d_Filesa d_Filesn d_Filesc d_Namesa d_Namesn d_Namesc d_Firma d_Firmn d_Firmc d_Sincea d_Sincen d_Sincec d_Armed d_Denied d_Dead w R) : Calls Go.Proofs.Try.prog 47 #[.agg #[.int .i64 d_Room, .slice d_Filesa d_Filesn d_Filesc, .slice d_Namesa d_Namesn d_Namesc, .slice d_Firma d_Firmn d_Firmc, .slice d_Sincea d_Sincen d_Sincec, .int .i64 d_Armed, .int .i64 d_Denied, .bool d_Dead]] w R :=
  calls_of_bodyV noNum (an := rused.an) (args := [.agg #[.int .i64 d_Room, .slice d_Filesa d_Filesn d_Filesc, .slice d_Namesa d_Namesn d_Namesc, .slice d_Firma d_Firmn d_Firmc, .slice d_Sincea d_Sincen d_Sincec, .int .i64 d_Armed, .int .i64 d_Denied, .bool d_Dead]]) Go.Proofs.Try.func47 (by kernel_rfl) ((rused.eq d_Room d_Filesa d_Filesn d_Filesc d_Namesa d_Namesn d_Namesc d_Firma d_Firmn d_Firmc d_Sincea d_Sincen d_Sincec d_Armed d_Denied d_Dead w R).mpr h)

/-- incunable/incunableref09.found -/
def rfound.an : An := { wraps := [], loops := [(4, [(6, .inr 3), (8, .inl .i64)]), (10, [(6, .inr 3)])], joins := [(9, [(9, .inl .i64)])], ranges := [] }
def rfound.vc (f_Nowa : Option Addr) (f_Nown : Nat) (f_Nowc : Nat) (f_Firma : Option Addr) (f_Firmn : Nat) (f_Firmc : Nat) (f_Sincea : Option Addr) (f_Sincen : Nat) (f_Sincec : Nat) (picksa : Option Addr) (picksn : Nat) (picksc : Nat) (w : World) (R : Ending → World → Prop) : Prop :=
  ∀ (b : Nat) (w1 : World),
  New w (Obj.cells #[Value.slice f_Nowa f_Nown f_Nowc, Value.slice f_Firma f_Firmn f_Firmc, Value.slice f_Sincea f_Sincen f_Sincec] (92 : Nat)) b w1 →
  ∀ (b_1 : Nat) (w1_1 : World),
  New w1 (Obj.cells #[Value.slice none (0 : Nat) (0 : Nat), Value.slice none (0 : Nat) (0 : Nat), Value.slice none (0 : Nat) (0 : Nat)] (92 : Nat)) b_1 w1_1 →
  ∀ (b_2 : Nat) (w1 : World),
  New w1_1 (Obj.cells #[] (9 : Nat)) b_2 w1 →
  ∃ (a : Option Addr),
  ∃ (l : Nat),
  ∃ (c : Nat),
  Ld Go.Proofs.Try.prog (59 : Nat) w1 (Addr.mk b (1 : Nat) none) (Value.slice a l c) ∧
  ∃ (a_1 : Option Addr),
  ∃ (n : Nat),
  ∃ (m : Nat),
  ∃ (w1_2 : World),
  App Go.Proofs.Try.prog #[(59 : Nat), (59 : Nat)] (59 : Nat) w1 (Value.slice (some (Addr.mk b_2 (0 : Nat) none)) (0 : Nat) (0 : Nat)) (Value.slice a l c) (Value.slice a_1 n m)
  w1_2 ∧
  ∃ (a : Option Addr),
  ∃ (n_1 : Nat),
  ∃ (m_1 : Nat),
  ∃ (w1 : World),
  MkS Go.Proofs.Try.prog (26 : Nat) w1_2 (Value.int IntKind.i64 (512 : Int)) (Value.int IntKind.i64 (512 : Int)) (Value.slice a n_1 m_1) w1 ∧
  ∃ (s : ByteArray),
  B2S Go.Proofs.Try.prog (26 : Nat) (9 : Nat) w1 (Value.slice a n_1 m_1) (Value.string s) ∧
  LoopP
  (fun (s_1 : (Option Addr × Nat × Nat) × Int) (w' : World) (next : (Option Addr × Nat × Nat) × Int → World → Prop) ↦
  ∃ (a : Option Addr),
  ∃ (l : Nat),
  ∃ (c : Nat),
  Ld Go.Proofs.Try.prog (27 : Nat) w' (Addr.mk b (2 : Nat) none) (Value.slice a l c) ∧
  br (decide (Prod.snd s_1 < (↑l : Int)))
  (JoinP
  (fun (s_2 : Int) (w' : World) ↦
  ∃ (a : Option Addr),
  ∃ (l : Nat),
  ∃ (c : Nat),
  Ld Go.Proofs.Try.prog (27 : Nat) w' (Addr.mk b (2 : Nat) none) (Value.slice a l c) ∧
  onP a fun (a : Addr) ↦
  ((0 : Int) ≤ Prod.snd s_1 ∧ Prod.snd s_1 < (↑l : Int)) ∧
  ∃ (i : Int),
  Ld Go.Proofs.Try.prog (3 : Nat) w' (Addr.add a (Int.toNat (Prod.snd s_1) * (1 : Nat))) (Value.int IntKind.i64 i) ∧
  LoopP
  (fun (s_3 : Option Addr × Nat × Nat) (w' : World) (next_1 : Option Addr × Nat × Nat → World → Prop) ↦
  br (decide ((↑(Prod.fst (Prod.snd s_3)) : Int) ≤ i))
  (br (decide ((0 : Int) < s_2))
  (∀ (b : Nat) (w1 : World),
  New w' (Obj.cells #[Value.string s] (9 : Nat)) b w1 →
  ∃ (a : Option Addr),
  ∃ (n : Nat),
  ∃ (m : Nat),
  ∃ (w1_3 : World),
  App Go.Proofs.Try.prog #[(59 : Nat), (59 : Nat)] (59 : Nat) w1
  (Value.slice (Prod.fst s_3) (Prod.fst (Prod.snd s_3)) (Prod.snd (Prod.snd s_3)))
  (Value.slice (some (Addr.mk b (0 : Nat) none)) (1 : Nat) (1 : Nat)) (Value.slice a n m) w1_3 ∧
  next_1 (a, n, m) w1_3)
  (br (decide ((0 : Int) < s_2))
  (∃ (a : Option Addr),
  ∃ (l : Nat),
  ∃ (c : Nat),
  Ld Go.Proofs.Try.prog (59 : Nat) (World.drew w') (Addr.mk b (0 : Nat) none) (Value.slice a l c) ∧
  onP a fun (a : Addr) ↦
  ((0 : Int) ≤ i ∧ i < (↑l : Int)) ∧
  ∃ (s : ByteArray),
  Ld Go.Proofs.Try.prog (9 : Nat) (World.drew w') (Addr.add a (Int.toNat i * (1 : Nat)))
  (Value.string s) ∧
  ((0 : Int) ≤ s_2 ∧ s_2 ≤ (↑(ByteArray.size s) : Int)) ∧
  onP (Prod.fst s_3) fun (a : Addr) ↦
  ((0 : Int) ≤ i ∧ i < (↑(Prod.fst (Prod.snd s_3)) : Int)) ∧
  ∃ (s_4 : ByteArray),
  Ld Go.Proofs.Try.prog (9 : Nat) (World.drew w') (Addr.add a (Int.toNat i * (1 : Nat)))
  (Value.string s_4) ∧
  ((0 : Int) ≤ s_2 ∧ s_2 ≤ (↑(ByteArray.size s_4) : Int)) ∧
  (↑(ByteArray.size (ByteArray.extract s (0 : Nat) (Int.toNat s_2)) +
  ByteArray.size
  (ByteArray.extract s_4 (Int.toNat s_2) (ByteArray.size s_4))) :
  Int) ≤
  (9223372036854775807 : Int) ∧
  onP (Prod.fst s_3) fun (a : Addr) ↦
  ((0 : Int) ≤ i ∧ i < (↑(Prod.fst (Prod.snd s_3)) : Int)) ∧
  ∃ (w1 : World),
  St Go.Proofs.Try.prog (9 : Nat) (World.drew w')
  (Addr.add a (Int.toNat i * (1 : Nat)))
  (Value.string
  (ByteArray.extract s (0 : Nat) (Int.toNat s_2) ++
  ByteArray.extract s_4 (Int.toNat s_2) (ByteArray.size s_4)))
  w1 ∧
  inR IntKind.i64 (Prod.snd s_1 + (1 : Int)) ∧
  next
  ((Prod.fst s_3, Prod.fst (Prod.snd s_3), Prod.snd (Prod.snd s_3)),
  Prod.snd s_1 + (1 : Int))
  w1)
  (inR IntKind.i64 (Prod.snd s_1 + (1 : Int)) ∧
  next ((Prod.fst s_3, Prod.fst (Prod.snd s_3), Prod.snd (Prod.snd s_3)), Prod.snd s_1 + (1 : Int)) w')))
  (br (decide ((0 : Int) < s_2))
  (∃ (a : Option Addr),
  ∃ (l : Nat),
  ∃ (c : Nat),
  Ld Go.Proofs.Try.prog (59 : Nat) (World.drew w') (Addr.mk b (0 : Nat) none) (Value.slice a l c) ∧
  onP a fun (a : Addr) ↦
  ((0 : Int) ≤ i ∧ i < (↑l : Int)) ∧
  ∃ (s : ByteArray),
  Ld Go.Proofs.Try.prog (9 : Nat) (World.drew w') (Addr.add a (Int.toNat i * (1 : Nat)))
  (Value.string s) ∧
  ((0 : Int) ≤ s_2 ∧ s_2 ≤ (↑(ByteArray.size s) : Int)) ∧
  onP (Prod.fst s_3) fun (a : Addr) ↦
  ((0 : Int) ≤ i ∧ i < (↑(Prod.fst (Prod.snd s_3)) : Int)) ∧
  ∃ (s_4 : ByteArray),
  Ld Go.Proofs.Try.prog (9 : Nat) (World.drew w') (Addr.add a (Int.toNat i * (1 : Nat)))
  (Value.string s_4) ∧
  ((0 : Int) ≤ s_2 ∧ s_2 ≤ (↑(ByteArray.size s_4) : Int)) ∧
  (↑(ByteArray.size (ByteArray.extract s (0 : Nat) (Int.toNat s_2)) +
  ByteArray.size
  (ByteArray.extract s_4 (Int.toNat s_2) (ByteArray.size s_4))) :
  Int) ≤
  (9223372036854775807 : Int) ∧
  onP (Prod.fst s_3) fun (a : Addr) ↦
  ((0 : Int) ≤ i ∧ i < (↑(Prod.fst (Prod.snd s_3)) : Int)) ∧
  ∃ (w1 : World),
  St Go.Proofs.Try.prog (9 : Nat) (World.drew w')
  (Addr.add a (Int.toNat i * (1 : Nat)))
  (Value.string
  (ByteArray.extract s (0 : Nat) (Int.toNat s_2) ++
  ByteArray.extract s_4 (Int.toNat s_2) (ByteArray.size s_4)))
  w1 ∧
  inR IntKind.i64 (Prod.snd s_1 + (1 : Int)) ∧
  next
  ((Prod.fst s_3, Prod.fst (Prod.snd s_3), Prod.snd (Prod.snd s_3)),
  Prod.snd s_1 + (1 : Int))
  w1)
  (inR IntKind.i64 (Prod.snd s_1 + (1 : Int)) ∧
  next ((Prod.fst s_3, Prod.fst (Prod.snd s_3), Prod.snd (Prod.snd s_3)), Prod.snd s_1 + (1 : Int)) w')))
  (Prod.fst (Prod.fst s_1), Prod.fst (Prod.snd (Prod.fst s_1)), Prod.snd (Prod.snd (Prod.fst s_1))) w')
  fun (J : Int → World → Prop) ↦
  br (decide (Prod.snd s_1 < (↑picksn : Int)))
  (onP picksa fun (a : Addr) ↦
  ((0 : Int) ≤ Prod.snd s_1 ∧ Prod.snd s_1 < (↑picksn : Int)) ∧
  ∃ (i : Int),
  Ld Go.Proofs.Try.prog (3 : Nat) w' (Addr.add a (Int.toNat (Prod.snd s_1) * (1 : Nat))) (Value.int IntKind.i64 i) ∧
  J (min (max i (0 : Int)) (512 : Int)) w')
  (J (0 : Int) w'))
  (∃ (a : Option Addr),
  ∃ (l : Nat),
  ∃ (c : Nat),
  Ld Go.Proofs.Try.prog (27 : Nat) (World.drew w') (Addr.mk b (2 : Nat) none) (Value.slice a l c) ∧
  ∃ (w1 : World),
  St Go.Proofs.Try.prog (92 : Nat) (World.drew w') (Addr.mk b_1 (0 : Nat) none)
  (Value.agg
  #[Value.slice (Prod.fst (Prod.fst s_1)) (Prod.fst (Prod.snd (Prod.fst s_1))) (Prod.snd (Prod.snd (Prod.fst s_1))),
  Value.slice (Prod.fst (Prod.fst s_1)) (Prod.fst (Prod.snd (Prod.fst s_1))) (Prod.snd (Prod.snd (Prod.fst s_1))),
  Value.slice none (0 : Nat) (0 : Nat)])
  w1 ∧
  Ld Go.Proofs.Try.prog (27 : Nat) w1 (Addr.mk b (2 : Nat) none) (Value.slice a l c) ∧
  ∃ (a : Option Addr),
  ∃ (l_1 : Nat),
  ∃ (c : Nat),
  ∃ (a_2 : Option Addr),
  ∃ (l_2 : Nat),
  ∃ (c_1 : Nat),
  ∃ (a_3 : Option Addr),
  ∃ (l_3 : Nat),
  ∃ (c_2 : Nat),
  Ld Go.Proofs.Try.prog (92 : Nat) w1 (Addr.mk b_1 (0 : Nat) none)
  (Value.agg #[Value.slice a l_1 c, Value.slice a_2 l_2 c_1, Value.slice a_3 l_3 c_2]) ∧
  R
  (Ending.returned
  (Value.tuple
  #[Value.agg #[Value.slice a l_1 c, Value.slice a_2 l_2 c_1, Value.slice a_3 l_3 c_2],
  Value.int IntKind.i64 (↑l : Int)]))
  w1))
  ((a_1, n, m), (0 : Int)) w1
theorem rfound.eq (f_Nowa : Option Addr) (f_Nown : Nat) (f_Nowc : Nat) (f_Firma : Option Addr) (f_Firmn : Nat) (f_Firmc : Nat) (f_Sincea : Option Addr) (f_Sincen : Nat) (f_Sincec : Nat) (picksa : Option Addr) (picksn : Nat) (picksc : Nat) (w : World) (R : Ending → World → Prop) : bodyV Go.Proofs.Try.prog rfound.an Go.Proofs.Try.f48 [.agg #[.slice f_Nowa f_Nown f_Nowc, .slice f_Firma f_Firmn f_Firmc, .slice f_Sincea f_Sincen f_Sincec], .slice picksa picksn picksc] w R = rfound.vc f_Nowa f_Nown f_Nowc f_Firma f_Firmn f_Firmc f_Sincea f_Sincen f_Sincec picksa picksn picksc w R := by kernel_rfl
theorem rfound.ok (f_Nowa : Option Addr) (f_Nown : Nat) (f_Nowc : Nat) (f_Firma : Option Addr) (f_Firmn : Nat) (f_Firmc : Nat) (f_Sincea : Option Addr) (f_Sincen : Nat) (f_Sincec : Nat) (picksa : Option Addr) (picksn : Nat) (picksc : Nat) (w : World) (R : Ending → World → Prop) (h : rfound.vc f_Nowa f_Nown f_Nowc f_Firma f_Firmn f_Firmc f_Sincea f_Sincen f_Sincec picksa picksn picksc w R) : Calls Go.Proofs.Try.prog 48 #[.agg #[.slice f_Nowa f_Nown f_Nowc, .slice f_Firma f_Firmn f_Firmc, .slice f_Sincea f_Sincen f_Sincec], .slice picksa picksn picksc] w R :=
  calls_of_bodyV noNum (an := rfound.an) (args := [.agg #[.slice f_Nowa f_Nown f_Nowc, .slice f_Firma f_Firmn f_Firmc, .slice f_Sincea f_Sincen f_Sincec], .slice picksa picksn picksc]) Go.Proofs.Try.func48 (by kernel_rfl) ((rfound.eq f_Nowa f_Nown f_Nowc f_Firma f_Firmn f_Firmc f_Sincea f_Sincen f_Sincec picksa picksn picksc w R).mpr h)

/-- incunable/incunableref09.why -/
def rwhy.an : An := { wraps := [], loops := [], joins := [(4, [(16, .inr 0)]), (6, [(32, .inr 0)]), (9, [(56, .inr 0)]), (11, [(72, .inr 0)]), (13, [(86, .inr 0)]), (15, [(95, .inr 0)])], ranges := [] }
def rwhy.vc (d_Room : Int) (d_Filesa : Option Addr) (d_Filesn : Nat) (d_Filesc : Nat) (d_Namesa : Option Addr) (d_Namesn : Nat) (d_Namesc : Nat) (d_Firma : Option Addr) (d_Firmn : Nat) (d_Firmc : Nat) (d_Sincea : Option Addr) (d_Sincen : Nat) (d_Sincec : Nat) (d_Armed : Int) (d_Denied : Int) (d_Dead : Bool) (o_Kind : Int) (o_N : Int) (o_Name : ByteArray) (o_To : ByteArray) (o_Ba : Option Addr) (o_Bn : Nat) (o_Bc : Nat) (o_Picksa : Option Addr) (o_Picksn : Nat) (o_Picksc : Nat) (w : World) (R : Ending → World → Prop) : Prop :=
  ∀ (b : Nat) (w1 : World),
  New w
  (Obj.cells
  #[Value.int IntKind.i64 d_Room, Value.slice d_Filesa d_Filesn d_Filesc, Value.slice d_Namesa d_Namesn d_Namesc, Value.slice d_Firma d_Firmn d_Firmc, Value.slice d_Sincea d_Sincen d_Sincec,
  Value.int IntKind.i64 d_Armed, Value.int IntKind.i64 d_Denied, Value.bool d_Dead]
  (41 : Nat))
  b w1 →
  ∀ (b_1 : Nat) (w1_1 : World),
  New w1
  (Obj.cells #[Value.int IntKind.i64 o_Kind, Value.int IntKind.i64 o_N, Value.string o_Name, Value.string o_To, Value.slice o_Ba o_Bn o_Bc, Value.slice o_Picksa o_Picksn o_Picksc] (29 : Nat))
  b_1 w1_1 →
  ∃ (b_2 : Bool),
  Ld Go.Proofs.Try.prog (4 : Nat) w1_1 (Addr.mk b (7 : Nat) none) (Value.bool b_2) ∧
  br b_2 (R (Ending.returned (Value.int IntKind.i64 (93 : Int))) w1_1)
  (JoinP
  (fun (s : Bool) (w' : World) ↦
  br s (R (Ending.returned (Value.int IntKind.i64 (92 : Int))) w')
  (JoinP
  (fun (s : Bool) (w' : World) ↦
  br s (R (Ending.returned (Value.int IntKind.i64 (90 : Int))) w')
  (∃ (i : Int),
  ∃ (a : Option Addr),
  ∃ (l : Nat),
  ∃ (c : Nat),
  ∃ (a_1 : Option Addr),
  ∃ (l_1 : Nat),
  ∃ (c_1 : Nat),
  ∃ (a_2 : Option Addr),
  ∃ (l_2 : Nat),
  ∃ (c_2 : Nat),
  ∃ (a_3 : Option Addr),
  ∃ (l_3 : Nat),
  ∃ (c_3 : Nat),
  ∃ (i_1 : Int),
  ∃ (i_2 : Int),
  ∃ (b_3 : Bool),
  Ld Go.Proofs.Try.prog (41 : Nat) w' (Addr.mk b (0 : Nat) none)
  (Value.agg
  #[Value.int IntKind.i64 i, Value.slice a l c, Value.slice a_1 l_1 c_1, Value.slice a_2 l_2 c_2, Value.slice a_3 l_3 c_3,
  Value.int IntKind.i64 i_1, Value.int IntKind.i64 i_2, Value.bool b_3]) ∧
  ∃ (s : ByteArray),
  Ld Go.Proofs.Try.prog (9 : Nat) w' (Addr.mk b_1 (2 : Nat) none) (Value.string s) ∧
  CallV Go.Proofs.Try.prog (32 : Nat)
  [Value.agg
  #[Value.int IntKind.i64 i, Value.slice a l c, Value.slice a_1 l_1 c_1, Value.slice a_2 l_2 c_2, Value.slice a_3 l_3 c_3,
  Value.int IntKind.i64 i_1, Value.int IntKind.i64 i_2, Value.bool b_3],
  Value.string s]
  w' fun (e : Ending) (w' : World) ↦
  ∃ (i : Int),
  e = Ending.returned (Value.int IntKind.i64 i) ∧
  JoinP
  (fun (s : Bool) (w' : World) ↦
  br s (R (Ending.returned (Value.int IntKind.i64 (91 : Int))) w')
  (JoinP
  (fun (s : Bool) (w' : World) ↦
  br s (R (Ending.returned (Value.int IntKind.i64 (94 : Int))) w')
  (JoinP
  (fun (s : Bool) (w' : World) ↦
  br s (R (Ending.returned (Value.int IntKind.i64 (91 : Int))) w')
  (JoinP
  (fun (s : Bool) (w' : World) ↦
  br s (R (Ending.returned (Value.int IntKind.i64 (92 : Int))) w')
  (R (Ending.returned (Value.int IntKind.i64 (0 : Int))) w'))
  fun (J : Bool → World → Prop) ↦
  ∃ (i : Int),
  Ld Go.Proofs.Try.prog (3 : Nat) w' (Addr.mk b_1 (0 : Nat) none) (Value.int IntKind.i64 i) ∧
  br (decide (i = (4 : Int)))
  (∃ (s : ByteArray),
  Ld Go.Proofs.Try.prog (9 : Nat) w' (Addr.mk b_1 (3 : Nat) none) (Value.string s) ∧
  CallV Go.Proofs.Try.prog (60 : Nat) [Value.string s] w' fun (e : Ending) (w' : World) ↦
  ∃ (b : Bool), e = Ending.returned (Value.bool b) ∧ J (!b) w')
  (J false w')))
  fun (J : Bool → World → Prop) ↦
  ∃ (i_3 : Int),
  Ld Go.Proofs.Try.prog (3 : Nat) w' (Addr.mk b_1 (0 : Nat) none) (Value.int IntKind.i64 i_3) ∧
  br (decide (i_3 = (2 : Int)))
  (∃ (i_4 : Int),
  Ld Go.Proofs.Try.prog (3 : Nat) w' (Addr.mk b_1 (1 : Nat) none) (Value.int IntKind.i64 i_4) ∧
  br (decide (i_4 < (0 : Int))) (J true w')
  (∃ (i_5 : Int),
  Ld Go.Proofs.Try.prog (3 : Nat) w' (Addr.mk b_1 (1 : Nat) none) (Value.int IntKind.i64 i_5) ∧
  J (decide (i ≤ i_5)) w'))
  (J false w')))
  fun (J : Bool → World → Prop) ↦
  ∃ (i_3 : Int),
  Ld Go.Proofs.Try.prog (3 : Nat) (World.drew w') (Addr.mk b_1 (0 : Nat) none) (Value.int IntKind.i64 i_3) ∧
  br (decide (i_3 = (1 : Int)))
  (∃ (i_4 : Int),
  Ld Go.Proofs.Try.prog (3 : Nat) (World.drew w') (Addr.mk b_1 (1 : Nat) none) (Value.int IntKind.i64 i_4) ∧
  br (decide (i_4 = i))
  (∃ (i : Int),
  ∃ (a : Option Addr),
  ∃ (l : Nat),
  ∃ (c : Nat),
  ∃ (a_4 : Option Addr),
  ∃ (l_4 : Nat),
  ∃ (c_4 : Nat),
  ∃ (a_5 : Option Addr),
  ∃ (l_5 : Nat),
  ∃ (c_5 : Nat),
  ∃ (a_6 : Option Addr),
  ∃ (l_6 : Nat),
  ∃ (c_6 : Nat),
  ∃ (i_5 : Int),
  ∃ (i_6 : Int),
  ∃ (b_4 : Bool),
  Ld Go.Proofs.Try.prog (41 : Nat) (World.drew w') (Addr.mk b (0 : Nat) none)
  (Value.agg
  #[Value.int IntKind.i64 i, Value.slice a l c, Value.slice a_4 l_4 c_4,
  Value.slice a_5 l_5 c_5, Value.slice a_6 l_6 c_6,
  Value.int IntKind.i64 i_5, Value.int IntKind.i64 i_6,
  Value.bool b_4]) ∧
  ∃ (i_7 : Int),
  Ld Go.Proofs.Try.prog (3 : Nat) (World.drew w') (Addr.mk b (0 : Nat) none)
  (Value.int IntKind.i64 i_7) ∧
  CallV Go.Proofs.Try.prog (47 : Nat)
  [Value.agg
  #[Value.int IntKind.i64 i, Value.slice a l c,
  Value.slice a_4 l_4 c_4, Value.slice a_5 l_5 c_5,
  Value.slice a_6 l_6 c_6, Value.int IntKind.i64 i_5,
  Value.int IntKind.i64 i_6, Value.bool b_4]]
  (World.drew w') fun (e : Ending) (w' : World) ↦
  ∃ (i : Int),
  e = Ending.returned (Value.int IntKind.i64 i) ∧
  Ld Go.Proofs.Try.prog (3 : Nat) w' (Addr.mk b (0 : Nat) none)
  (Value.int IntKind.i64 i_7) ∧
  J (decide (i_7 ≤ i)) w')
  (J false (World.drew w')))
  (J false (World.drew w'))))
  fun (J : Bool → World → Prop) ↦
  ∃ (i_3 : Int),
  Ld Go.Proofs.Try.prog (3 : Nat) w' (Addr.mk b_1 (0 : Nat) none) (Value.int IntKind.i64 i_3) ∧
  br (decide (i_3 = (1 : Int)))
  (∃ (i_4 : Int),
  Ld Go.Proofs.Try.prog (3 : Nat) w' (Addr.mk b_1 (1 : Nat) none) (Value.int IntKind.i64 i_4) ∧
  br (decide (i_4 < (0 : Int))) (J true w')
  (∃ (i_5 : Int),
  Ld Go.Proofs.Try.prog (3 : Nat) w' (Addr.mk b_1 (1 : Nat) none) (Value.int IntKind.i64 i_5) ∧
  br (decide (i < i_5)) (J true w')
  (∃ (a : Option Addr),
  ∃ (l : Nat),
  ∃ (c : Nat),
  Ld Go.Proofs.Try.prog (26 : Nat) w' (Addr.mk b_1 (4 : Nat) none) (Value.slice a l c) ∧
  J (decide ((512 : Int) < (↑l : Int))) w')))
  (J false w')))
  fun (J : Bool → World → Prop) ↦
  ∃ (i : Int),
  Ld Go.Proofs.Try.prog (3 : Nat) w' (Addr.mk b_1 (0 : Nat) none) (Value.int IntKind.i64 i) ∧
  br (decide ((1 : Int) ≤ i))
  (∃ (i : Int),
  Ld Go.Proofs.Try.prog (3 : Nat) w' (Addr.mk b_1 (0 : Nat) none) (Value.int IntKind.i64 i) ∧
  br (decide (i ≤ (5 : Int)))
  (∃ (a : Option Addr),
  ∃ (l : Nat),
  ∃ (c : Nat),
  Ld Go.Proofs.Try.prog (38 : Nat) w' (Addr.mk b (2 : Nat) none) (Value.slice a l c) ∧
  ∃ (s : ByteArray),
  Ld Go.Proofs.Try.prog (9 : Nat) w' (Addr.mk b_1 (2 : Nat) none) (Value.string s) ∧
  CallV Go.Proofs.Try.prog (52 : Nat) [Value.slice a l c, Value.string s] w' fun (e : Ending) (w' : World) ↦
  ∃ (i : Int), e = Ending.returned (Value.int IntKind.i64 i) ∧ J (decide (i < (0 : Int))) w')
  (J false w'))
  (J false w')))
  fun (J : Bool → World → Prop) ↦
  ∃ (i : Int),
  Ld Go.Proofs.Try.prog (3 : Nat) w1_1 (Addr.mk b_1 (0 : Nat) none) (Value.int IntKind.i64 i) ∧
  br (decide (i = (0 : Int)))
  (∃ (s : ByteArray),
  Ld Go.Proofs.Try.prog (9 : Nat) w1_1 (Addr.mk b_1 (2 : Nat) none) (Value.string s) ∧
  CallV Go.Proofs.Try.prog (60 : Nat) [Value.string s] w1_1 fun (e : Ending) (w' : World) ↦ ∃ (b : Bool), e = Ending.returned (Value.bool b) ∧ J (!b) w')
  (J false w1_1))
theorem rwhy.eq (d_Room : Int) (d_Filesa : Option Addr) (d_Filesn : Nat) (d_Filesc : Nat) (d_Namesa : Option Addr) (d_Namesn : Nat) (d_Namesc : Nat) (d_Firma : Option Addr) (d_Firmn : Nat) (d_Firmc : Nat) (d_Sincea : Option Addr) (d_Sincen : Nat) (d_Sincec : Nat) (d_Armed : Int) (d_Denied : Int) (d_Dead : Bool) (o_Kind : Int) (o_N : Int) (o_Name : ByteArray) (o_To : ByteArray) (o_Ba : Option Addr) (o_Bn : Nat) (o_Bc : Nat) (o_Picksa : Option Addr) (o_Picksn : Nat) (o_Picksc : Nat) (w : World) (R : Ending → World → Prop) : bodyV Go.Proofs.Try.prog rwhy.an Go.Proofs.Try.f51 [.agg #[.int .i64 d_Room, .slice d_Filesa d_Filesn d_Filesc, .slice d_Namesa d_Namesn d_Namesc, .slice d_Firma d_Firmn d_Firmc, .slice d_Sincea d_Sincen d_Sincec, .int .i64 d_Armed, .int .i64 d_Denied, .bool d_Dead], .agg #[.int .i64 o_Kind, .int .i64 o_N, .string o_Name, .string o_To, .slice o_Ba o_Bn o_Bc, .slice o_Picksa o_Picksn o_Picksc]] w R = rwhy.vc d_Room d_Filesa d_Filesn d_Filesc d_Namesa d_Namesn d_Namesc d_Firma d_Firmn d_Firmc d_Sincea d_Sincen d_Sincec d_Armed d_Denied d_Dead o_Kind o_N o_Name o_To o_Ba o_Bn o_Bc o_Picksa o_Picksn o_Picksc w R := by kernel_rfl
theorem rwhy.ok (d_Room : Int) (d_Filesa : Option Addr) (d_Filesn : Nat) (d_Filesc : Nat) (d_Namesa : Option Addr) (d_Namesn : Nat) (d_Namesc : Nat) (d_Firma : Option Addr) (d_Firmn : Nat) (d_Firmc : Nat) (d_Sincea : Option Addr) (d_Sincen : Nat) (d_Sincec : Nat) (d_Armed : Int) (d_Denied : Int) (d_Dead : Bool) (o_Kind : Int) (o_N : Int) (o_Name : ByteArray) (o_To : ByteArray) (o_Ba : Option Addr) (o_Bn : Nat) (o_Bc : Nat) (o_Picksa : Option Addr) (o_Picksn : Nat) (o_Picksc : Nat) (w : World) (R : Ending → World → Prop) (h : rwhy.vc d_Room d_Filesa d_Filesn d_Filesc d_Namesa d_Namesn d_Namesc d_Firma d_Firmn d_Firmc d_Sincea d_Sincen d_Sincec d_Armed d_Denied d_Dead o_Kind o_N o_Name o_To o_Ba o_Bn o_Bc o_Picksa o_Picksn o_Picksc w R) : Calls Go.Proofs.Try.prog 51 #[.agg #[.int .i64 d_Room, .slice d_Filesa d_Filesn d_Filesc, .slice d_Namesa d_Namesn d_Namesc, .slice d_Firma d_Firmn d_Firmc, .slice d_Sincea d_Sincen d_Sincec, .int .i64 d_Armed, .int .i64 d_Denied, .bool d_Dead], .agg #[.int .i64 o_Kind, .int .i64 o_N, .string o_Name, .string o_To, .slice o_Ba o_Bn o_Bc, .slice o_Picksa o_Picksn o_Picksc]] w R :=
  calls_of_bodyV noNum (an := rwhy.an) (args := [.agg #[.int .i64 d_Room, .slice d_Filesa d_Filesn d_Filesc, .slice d_Namesa d_Namesn d_Namesc, .slice d_Firma d_Firmn d_Firmc, .slice d_Sincea d_Sincen d_Sincec, .int .i64 d_Armed, .int .i64 d_Denied, .bool d_Dead], .agg #[.int .i64 o_Kind, .int .i64 o_N, .string o_Name, .string o_To, .slice o_Ba o_Bn o_Bc, .slice o_Picksa o_Picksn o_Picksc]]) Go.Proofs.Try.func51 (by kernel_rfl) ((rwhy.eq d_Room d_Filesa d_Filesn d_Filesc d_Namesa d_Namesn d_Namesc d_Firma d_Firmn d_Firmc d_Sincea d_Sincen d_Sincec d_Armed d_Denied d_Dead o_Kind o_N o_Name o_To o_Ba o_Bn o_Bc o_Picksa o_Picksn o_Picksc w R).mpr h)

/-- incunable/incunableref09.find -/
def rfind.an : An := { wraps := [], loops := [(2, [(5, .inl .i64)])], joins := [], ranges := [] }
def rfind.vc (la : Option Addr) (ln : Nat) (lc : Nat) (name : ByteArray) (w : World) (R : Ending → World → Prop) : Prop :=
  LoopP
  (fun (s : Int) (w' : World) (next : Int → World → Prop) ↦
  br (decide (s < (↑ln : Int)))
  (onP la fun (a : Addr) ↦
  ((0 : Int) ≤ s ∧ s < (↑ln : Int)) ∧
  ∃ (s_1 : ByteArray),
  Ld Go.Proofs.Try.prog (9 : Nat) w' (Addr.add a (Int.toNat s * (2 : Nat))) (Value.string s_1) ∧
  br (decide (s_1 = name))
  (onP la fun (a : Addr) ↦
  ((0 : Int) ≤ s ∧ s < (↑ln : Int)) ∧
  ∃ (i : Int),
  Ld Go.Proofs.Try.prog (3 : Nat) w' (Addr.add (Addr.add a (Int.toNat s * (2 : Nat))) (1 : Nat)) (Value.int IntKind.i64 i) ∧ R (Ending.returned (Value.int IntKind.i64 i)) w')
  (inR IntKind.i64 (s + (1 : Int)) ∧ next (s + (1 : Int)) w'))
  (R (Ending.returned (Value.int IntKind.i64 (-1 : Int))) w'))
  (0 : Int) w
theorem rfind.eq (la : Option Addr) (ln : Nat) (lc : Nat) (name : ByteArray) (w : World) (R : Ending → World → Prop) : bodyV Go.Proofs.Try.prog rfind.an Go.Proofs.Try.f52 [.slice la ln lc, .string name] w R = rfind.vc la ln lc name w R := by kernel_rfl
theorem rfind.ok (la : Option Addr) (ln : Nat) (lc : Nat) (name : ByteArray) (w : World) (R : Ending → World → Prop) (h : rfind.vc la ln lc name w R) : Calls Go.Proofs.Try.prog 52 #[.slice la ln lc, .string name] w R :=
  calls_of_bodyV noNum (an := rfind.an) (args := [.slice la ln lc, .string name]) Go.Proofs.Try.func52 (by kernel_rfl) ((rfind.eq la ln lc name w R).mpr h)

/-- incunable/incunableref09.does -/
def rdoes.an : An := { wraps := [], loops := [], joins := [], ranges := [] }
def rdoes.vc (d_Room : Int) (d_Filesa : Option Addr) (d_Filesn : Nat) (d_Filesc : Nat) (d_Namesa : Option Addr) (d_Namesn : Nat) (d_Namesc : Nat) (d_Firma : Option Addr) (d_Firmn : Nat) (d_Firmc : Nat) (d_Sincea : Option Addr) (d_Sincen : Nat) (d_Sincec : Nat) (d_Armed : Int) (d_Denied : Int) (d_Dead : Bool) (o_Kind : Int) (o_N : Int) (o_Name : ByteArray) (o_To : ByteArray) (o_Ba : Option Addr) (o_Bn : Nat) (o_Bc : Nat) (o_Picksa : Option Addr) (o_Picksn : Nat) (o_Picksc : Nat) (w : World) (R : Ending → World → Prop) : Prop :=
  ∀ (b : Nat) (w1 : World),
  New w
  (Obj.cells
  #[Value.int IntKind.i64 d_Room, Value.slice d_Filesa d_Filesn d_Filesc, Value.slice d_Namesa d_Namesn d_Namesc, Value.slice d_Firma d_Firmn d_Firmc, Value.slice d_Sincea d_Sincen d_Sincec,
  Value.int IntKind.i64 d_Armed, Value.int IntKind.i64 d_Denied, Value.bool d_Dead]
  (41 : Nat))
  b w1 →
  ∀ (b_1 : Nat) (w1_1 : World),
  New w1
  (Obj.cells #[Value.int IntKind.i64 o_Kind, Value.int IntKind.i64 o_N, Value.string o_Name, Value.string o_To, Value.slice o_Ba o_Bn o_Bc, Value.slice o_Picksa o_Picksn o_Picksc] (29 : Nat))
  b_1 w1_1 →
  ∀ (b_2 : Nat) (w1 : World),
  New w1_1
  (Obj.cells
  #[Value.int IntKind.i64 (0 : Int), Value.slice none (0 : Nat) (0 : Nat), Value.slice none (0 : Nat) (0 : Nat), Value.slice none (0 : Nat) (0 : Nat),
  Value.slice none (0 : Nat) (0 : Nat), Value.int IntKind.i64 (0 : Int), Value.int IntKind.i64 (0 : Int), Value.bool false]
  (41 : Nat))
  b_2 w1 →
  ∃ (i : Int),
  Ld Go.Proofs.Try.prog (3 : Nat) w1 (Addr.mk b_1 (0 : Nat) none) (Value.int IntKind.i64 i) ∧
  br (decide (i = (0 : Int)))
  (∀ (b_3 : Nat) (w1_2 : World),
  New w1 (Obj.cells #[] (92 : Nat)) b_3 w1_2 →
  ∃ (a : Option Addr),
  ∃ (l : Nat),
  ∃ (c : Nat),
  Ld Go.Proofs.Try.prog (37 : Nat) w1_2 (Addr.mk b (1 : Nat) none) (Value.slice a l c) ∧
  ∃ (a_1 : Option Addr),
  ∃ (n : Nat),
  ∃ (m : Nat),
  ∃ (w1 : World),
  App Go.Proofs.Try.prog #[(37 : Nat), (37 : Nat)] (37 : Nat) w1_2 (Value.slice (some (Addr.mk b_3 (0 : Nat) none)) (0 : Nat) (0 : Nat)) (Value.slice a l c)
  (Value.slice a_1 n m) w1 ∧
  ∀ (b_4 : Nat) (w1_3 : World),
  New w1 (Obj.cells #[Value.slice none (0 : Nat) (0 : Nat), Value.slice none (0 : Nat) (0 : Nat), Value.slice none (0 : Nat) (0 : Nat)] (92 : Nat)) b_4 w1_3 →
  ∃ (a : Option Addr),
  ∃ (n_1 : Nat),
  ∃ (m_1 : Nat),
  ∃ (w1 : World),
  App Go.Proofs.Try.prog #[(37 : Nat), (37 : Nat)] (37 : Nat) w1_3 (Value.slice a_1 n m)
  (Value.slice (some (Addr.mk b_4 (0 : Nat) none)) (1 : Nat) (1 : Nat)) (Value.slice a n_1 m_1) w1 ∧
  ∃ (w1_4 : World),
  St Go.Proofs.Try.prog (37 : Nat) w1 (Addr.mk b (1 : Nat) none) (Value.slice a n_1 m_1) w1_4 ∧
  ∃ (i : Int),
  ∃ (a : Option Addr),
  ∃ (l : Nat),
  ∃ (c : Nat),
  ∃ (a_2 : Option Addr),
  ∃ (l_1 : Nat),
  ∃ (c_1 : Nat),
  ∃ (a_3 : Option Addr),
  ∃ (l_2 : Nat),
  ∃ (c_2 : Nat),
  ∃ (a_4 : Option Addr),
  ∃ (l_3 : Nat),
  ∃ (c_3 : Nat),
  ∃ (i_1 : Int),
  ∃ (i_2 : Int),
  ∃ (b_5 : Bool),
  Ld Go.Proofs.Try.prog (41 : Nat) (World.drew w1_4) (Addr.mk b (0 : Nat) none)
  (Value.agg
  #[Value.int IntKind.i64 i, Value.slice a l c, Value.slice a_2 l_1 c_1, Value.slice a_3 l_2 c_2,
  Value.slice a_4 l_3 c_3, Value.int IntKind.i64 i_1, Value.int IntKind.i64 i_2, Value.bool b_5]) ∧
  ∃ (a_5 : Option Addr),
  ∃ (l_4 : Nat),
  ∃ (c_4 : Nat),
  Ld Go.Proofs.Try.prog (38 : Nat) (World.drew w1_4) (Addr.mk b (2 : Nat) none) (Value.slice a_5 l_4 c_4) ∧
  ∃ (s : ByteArray),
  Ld Go.Proofs.Try.prog (9 : Nat) (World.drew w1_4) (Addr.mk b_1 (2 : Nat) none) (Value.string s) ∧
  ∃ (a_6 : Option Addr),
  ∃ (l_5 : Nat),
  ∃ (c_5 : Nat),
  Ld Go.Proofs.Try.prog (37 : Nat) (World.drew w1_4) (Addr.mk b (1 : Nat) none)
  (Value.slice a_6 l_5 c_5) ∧
  inR IntKind.i64 ((↑l_5 : Int) - (1 : Int)) ∧
  CallV Go.Proofs.Try.prog (62 : Nat)
  [Value.slice a_5 l_4 c_4,
  Value.agg #[Value.string s, Value.int IntKind.i64 ((↑l_5 : Int) - (1 : Int))]]
  (World.drew w1_4) fun (e : Ending) (w' : World) ↦
  ∃ (a_7 : Option Addr),
  ∃ (l_6 : Nat),
  ∃ (c_6 : Nat),
  e = Ending.returned (Value.slice a_7 l_6 c_6) ∧
  Ld Go.Proofs.Try.prog (41 : Nat) w' (Addr.mk b (0 : Nat) none)
  (Value.agg
  #[Value.int IntKind.i64 i, Value.slice a l c, Value.slice a_2 l_1 c_1,
  Value.slice a_3 l_2 c_2, Value.slice a_4 l_3 c_3,
  Value.int IntKind.i64 i_1, Value.int IntKind.i64 i_2,
  Value.bool b_5]) ∧
  CallV Go.Proofs.Try.prog (61 : Nat)
  [Value.agg
  #[Value.int IntKind.i64 i, Value.slice a l c,
  Value.slice a_2 l_1 c_1, Value.slice a_3 l_2 c_2,
  Value.slice a_4 l_3 c_3, Value.int IntKind.i64 i_1,
  Value.int IntKind.i64 i_2, Value.bool b_5],
  Value.slice a_7 l_6 c_6]
  w' fun (e : Ending) (w' : World) ↦
  ∃ (i : Int),
  ∃ (a : Option Addr),
  ∃ (l : Nat),
  ∃ (c : Nat),
  ∃ (a_8 : Option Addr),
  ∃ (l_7 : Nat),
  ∃ (c_7 : Nat),
  ∃ (a_9 : Option Addr),
  ∃ (l_8 : Nat),
  ∃ (c_8 : Nat),
  ∃ (a_10 : Option Addr),
  ∃ (l_9 : Nat),
  ∃ (c_9 : Nat),
  ∃ (i_3 : Int),
  ∃ (i_4 : Int),
  ∃ (b : Bool),
  e =
  Ending.returned
  (Value.agg
  #[Value.int IntKind.i64 i,
  Value.slice a l c,
  Value.slice a_8 l_7 c_7,
  Value.slice a_9 l_8 c_8,
  Value.slice a_10 l_9 c_9,
  Value.int IntKind.i64 i_3,
  Value.int IntKind.i64 i_4,
  Value.bool b]) ∧
  ∃ (w1 : World),
  St Go.Proofs.Try.prog (41 : Nat) w'
  (Addr.mk b_2 (0 : Nat) none)
  (Value.agg
  #[Value.int IntKind.i64 i,
  Value.slice a l c,
  Value.slice a_8 l_7 c_7,
  Value.slice a_9 l_8 c_8,
  Value.slice a_10 l_9 c_9,
  Value.int IntKind.i64 i_3,
  Value.int IntKind.i64 i_4,
  Value.bool b])
  w1 ∧
  ∃ (i : Int),
  ∃ (a : Option Addr),
  ∃ (l : Nat),
  ∃ (c : Nat),
  ∃ (a_11 : Option Addr),
  ∃ (l_10 : Nat),
  ∃ (c_10 : Nat),
  ∃ (a_12 :
  Option Addr),
  ∃ (l_11 : Nat),
  ∃ (c_11 : Nat),
  ∃ (a_13 :
  Option
  Addr),
  ∃ (l_12 :
  Nat),
  ∃ (c_12 :
  Nat),
  ∃ (i_5 :
  Int),
  ∃ (i_6
  :
  Int),
  ∃ (b
  :
  Bool),
  Ld
  Go.Proofs.Try.prog
  (41 :
  Nat)
  w1
  (Addr.mk
  b_2
  (0 :
  Nat)
  none)
  (Value.agg
  #[Value.int
  IntKind.i64
  i,
  Value.slice
  a
  l
  c,
  Value.slice
  a_11
  l_10
  c_10,
  Value.slice
  a_12
  l_11
  c_11,
  Value.slice
  a_13
  l_12
  c_12,
  Value.int
  IntKind.i64
  i_5,
  Value.int
  IntKind.i64
  i_6,
  Value.bool
  b]) ∧
  R
  (Ending.returned
  (Value.agg
  #[Value.int
  IntKind.i64
  i,
  Value.slice
  a
  l
  c,
  Value.slice
  a_11
  l_10
  c_10,
  Value.slice
  a_12
  l_11
  c_11,
  Value.slice
  a_13
  l_12
  c_12,
  Value.int
  IntKind.i64
  i_5,
  Value.int
  IntKind.i64
  i_6,
  Value.bool
  b]))
  w1)
  (br (decide (i = (1 : Int)))
  (∃ (i : Int),
  ∃ (a : Option Addr),
  ∃ (l : Nat),
  ∃ (c : Nat),
  ∃ (a_1 : Option Addr),
  ∃ (l_1 : Nat),
  ∃ (c_1 : Nat),
  ∃ (a_2 : Option Addr),
  ∃ (l_2 : Nat),
  ∃ (c_2 : Nat),
  ∃ (a_3 : Option Addr),
  ∃ (l_3 : Nat),
  ∃ (c_3 : Nat),
  ∃ (i_1 : Int),
  ∃ (i_2 : Int),
  ∃ (b_3 : Bool),
  Ld Go.Proofs.Try.prog (41 : Nat) w1 (Addr.mk b (0 : Nat) none)
  (Value.agg
  #[Value.int IntKind.i64 i, Value.slice a l c, Value.slice a_1 l_1 c_1, Value.slice a_2 l_2 c_2, Value.slice a_3 l_3 c_3,
  Value.int IntKind.i64 i_1, Value.int IntKind.i64 i_2, Value.bool b_3]) ∧
  ∃ (i_3 : Int),
  ∃ (i_4 : Int),
  ∃ (s : ByteArray),
  ∃ (s_1 : ByteArray),
  ∃ (a_4 : Option Addr),
  ∃ (l_4 : Nat),
  ∃ (c_4 : Nat),
  ∃ (a_5 : Option Addr),
  ∃ (l_5 : Nat),
  ∃ (c_5 : Nat),
  Ld Go.Proofs.Try.prog (29 : Nat) w1 (Addr.mk b_1 (0 : Nat) none)
  (Value.agg
  #[Value.int IntKind.i64 i_3, Value.int IntKind.i64 i_4, Value.string s, Value.string s_1, Value.slice a_4 l_4 c_4,
  Value.slice a_5 l_5 c_5]) ∧
  CallV Go.Proofs.Try.prog (63 : Nat)
  [Value.agg
  #[Value.int IntKind.i64 i, Value.slice a l c, Value.slice a_1 l_1 c_1, Value.slice a_2 l_2 c_2,
  Value.slice a_3 l_3 c_3, Value.int IntKind.i64 i_1, Value.int IntKind.i64 i_2, Value.bool b_3],
  Value.agg
  #[Value.int IntKind.i64 i_3, Value.int IntKind.i64 i_4, Value.string s, Value.string s_1, Value.slice a_4 l_4 c_4,
  Value.slice a_5 l_5 c_5]]
  w1 fun (e : Ending) (w' : World) ↦
  ∃ (i : Int),
  ∃ (a : Option Addr),
  ∃ (l : Nat),
  ∃ (c : Nat),
  ∃ (a_6 : Option Addr),
  ∃ (l_6 : Nat),
  ∃ (c_6 : Nat),
  ∃ (a_7 : Option Addr),
  ∃ (l_7 : Nat),
  ∃ (c_7 : Nat),
  ∃ (a_8 : Option Addr),
  ∃ (l_8 : Nat),
  ∃ (c_8 : Nat),
  ∃ (i_5 : Int),
  ∃ (i_6 : Int),
  ∃ (b : Bool),
  e =
  Ending.returned
  (Value.agg
  #[Value.int IntKind.i64 i, Value.slice a l c, Value.slice a_6 l_6 c_6,
  Value.slice a_7 l_7 c_7, Value.slice a_8 l_8 c_8, Value.int IntKind.i64 i_5,
  Value.int IntKind.i64 i_6, Value.bool b]) ∧
  ∃ (w1 : World),
  St Go.Proofs.Try.prog (41 : Nat) w' (Addr.mk b_2 (0 : Nat) none)
  (Value.agg
  #[Value.int IntKind.i64 i, Value.slice a l c, Value.slice a_6 l_6 c_6,
  Value.slice a_7 l_7 c_7, Value.slice a_8 l_8 c_8, Value.int IntKind.i64 i_5,
  Value.int IntKind.i64 i_6, Value.bool b])
  w1 ∧
  ∃ (i : Int),
  ∃ (a : Option Addr),
  ∃ (l : Nat),
  ∃ (c : Nat),
  ∃ (a_9 : Option Addr),
  ∃ (l_9 : Nat),
  ∃ (c_9 : Nat),
  ∃ (a_10 : Option Addr),
  ∃ (l_10 : Nat),
  ∃ (c_10 : Nat),
  ∃ (a_11 : Option Addr),
  ∃ (l_11 : Nat),
  ∃ (c_11 : Nat),
  ∃ (i_7 : Int),
  ∃ (i_8 : Int),
  ∃ (b : Bool),
  Ld Go.Proofs.Try.prog (41 : Nat) w1
  (Addr.mk b_2 (0 : Nat) none)
  (Value.agg
  #[Value.int IntKind.i64 i, Value.slice a l c,
  Value.slice a_9 l_9 c_9,
  Value.slice a_10 l_10 c_10,
  Value.slice a_11 l_11 c_11,
  Value.int IntKind.i64 i_7,
  Value.int IntKind.i64 i_8, Value.bool b]) ∧
  R
  (Ending.returned
  (Value.agg
  #[Value.int IntKind.i64 i,
  Value.slice a l c,
  Value.slice a_9 l_9 c_9,
  Value.slice a_10 l_10 c_10,
  Value.slice a_11 l_11 c_11,
  Value.int IntKind.i64 i_7,
  Value.int IntKind.i64 i_8, Value.bool b]))
  w1)
  (br (decide (i = (3 : Int)))
  (∃ (a : Option Addr),
  ∃ (l : Nat),
  ∃ (c : Nat),
  Ld Go.Proofs.Try.prog (38 : Nat) w1 (Addr.mk b (2 : Nat) none) (Value.slice a l c) ∧
  ∃ (s : ByteArray),
  Ld Go.Proofs.Try.prog (9 : Nat) w1 (Addr.mk b_1 (2 : Nat) none) (Value.string s) ∧
  CallV Go.Proofs.Try.prog (52 : Nat) [Value.slice a l c, Value.string s] w1 fun (e : Ending) (w' : World) ↦
  ∃ (i : Int),
  e = Ending.returned (Value.int IntKind.i64 i) ∧
  ∀ (b_3 : Nat) (w1 : World),
  New w' (Obj.cells #[] (92 : Nat)) b_3 w1 →
  ∃ (a : Option Addr),
  ∃ (l : Nat),
  ∃ (c : Nat),
  Ld Go.Proofs.Try.prog (37 : Nat) w1 (Addr.mk b (1 : Nat) none) (Value.slice a l c) ∧
  ∃ (a_1 : Option Addr),
  ∃ (n : Nat),
  ∃ (m : Nat),
  ∃ (w1_2 : World),
  App Go.Proofs.Try.prog #[(37 : Nat), (37 : Nat)] (37 : Nat) w1 (Value.slice (some (Addr.mk b_3 (0 : Nat) none)) (0 : Nat) (0 : Nat))
  (Value.slice a l c) (Value.slice a_1 n m) w1_2 ∧
  onP a_1 fun (a : Addr) ↦
  ((0 : Int) ≤ i ∧ i < (↑n : Int)) ∧
  ∃ (a_2 : Option Addr),
  ∃ (l : Nat),
  ∃ (c : Nat),
  Ld Go.Proofs.Try.prog (59 : Nat) (World.drew w1_2) (Addr.add a (Int.toNat i * (3 : Nat))) (Value.slice a_2 l c) ∧
  onP a_1 fun (a : Addr) ↦
  ((0 : Int) ≤ i ∧ i < (↑n : Int)) ∧
  ∃ (a_3 : Option Addr),
  ∃ (l_1 : Nat),
  ∃ (c_1 : Nat),
  Ld Go.Proofs.Try.prog (59 : Nat) (World.drew w1_2) (Addr.add a (Int.toNat i * (3 : Nat))) (Value.slice a_3 l_1 c_1) ∧
  onP a_1 fun (a : Addr) ↦
  ((0 : Int) ≤ i ∧ i < (↑n : Int)) ∧
  ∃ (w1 : World),
  St Go.Proofs.Try.prog (92 : Nat) (World.drew w1_2) (Addr.add a (Int.toNat i * (3 : Nat)))
  (Value.agg #[Value.slice a_2 l c, Value.slice a_3 l_1 c_1, Value.slice none (0 : Nat) (0 : Nat)]) w1 ∧
  ∃ (w1_3 : World),
  St Go.Proofs.Try.prog (37 : Nat) w1 (Addr.mk b (1 : Nat) none) (Value.slice a_1 n m) w1_3 ∧
  ∃ (i : Int),
  ∃ (a : Option Addr),
  ∃ (l : Nat),
  ∃ (c : Nat),
  ∃ (a_4 : Option Addr),
  ∃ (l_2 : Nat),
  ∃ (c_2 : Nat),
  ∃ (a_5 : Option Addr),
  ∃ (l_3 : Nat),
  ∃ (c_3 : Nat),
  ∃ (a_6 : Option Addr),
  ∃ (l_4 : Nat),
  ∃ (c_4 : Nat),
  ∃ (i_1 : Int),
  ∃ (i_2 : Int),
  ∃ (b_4 : Bool),
  Ld Go.Proofs.Try.prog (41 : Nat) w1_3 (Addr.mk b (0 : Nat) none)
  (Value.agg
  #[Value.int IntKind.i64 i, Value.slice a l c,
  Value.slice a_4 l_2 c_2, Value.slice a_5 l_3 c_3,
  Value.slice a_6 l_4 c_4, Value.int IntKind.i64 i_1,
  Value.int IntKind.i64 i_2, Value.bool b_4]) ∧
  ∃ (w1 : World),
  St Go.Proofs.Try.prog (41 : Nat) w1_3 (Addr.mk b_2 (0 : Nat) none)
  (Value.agg
  #[Value.int IntKind.i64 i, Value.slice a l c,
  Value.slice a_4 l_2 c_2, Value.slice a_5 l_3 c_3,
  Value.slice a_6 l_4 c_4, Value.int IntKind.i64 i_1,
  Value.int IntKind.i64 i_2, Value.bool b_4])
  w1 ∧
  ∃ (i : Int),
  ∃ (a : Option Addr),
  ∃ (l : Nat),
  ∃ (c : Nat),
  ∃ (a_7 : Option Addr),
  ∃ (l_5 : Nat),
  ∃ (c_5 : Nat),
  ∃ (a_8 : Option Addr),
  ∃ (l_6 : Nat),
  ∃ (c_6 : Nat),
  ∃ (a_9 : Option Addr),
  ∃ (l_7 : Nat),
  ∃ (c_7 : Nat),
  ∃ (i_3 : Int),
  ∃ (i_4 : Int),
  ∃ (b : Bool),
  Ld Go.Proofs.Try.prog (41 : Nat) w1
  (Addr.mk b_2 (0 : Nat) none)
  (Value.agg
  #[Value.int IntKind.i64 i,
  Value.slice a l c,
  Value.slice a_7 l_5 c_5,
  Value.slice a_8 l_6 c_6,
  Value.slice a_9 l_7 c_7,
  Value.int IntKind.i64
  i_3,
  Value.int IntKind.i64
  i_4,
  Value.bool b]) ∧
  R
  (Ending.returned
  (Value.agg
  #[Value.int IntKind.i64
  i,
  Value.slice a l c,
  Value.slice a_7 l_5
  c_5,
  Value.slice a_8 l_6
  c_6,
  Value.slice a_9 l_7
  c_7,
  Value.int IntKind.i64
  i_3,
  Value.int IntKind.i64
  i_4,
  Value.bool b]))
  w1)
  (br (decide (i = (4 : Int)))
  (∃ (a : Option Addr),
  ∃ (l : Nat),
  ∃ (c : Nat),
  Ld Go.Proofs.Try.prog (38 : Nat) w1 (Addr.mk b (2 : Nat) none) (Value.slice a l c) ∧
  ∃ (s : ByteArray),
  Ld Go.Proofs.Try.prog (9 : Nat) w1 (Addr.mk b_1 (2 : Nat) none) (Value.string s) ∧
  CallV Go.Proofs.Try.prog (52 : Nat) [Value.slice a l c, Value.string s] w1 fun (e : Ending) (w' : World) ↦
  ∃ (i : Int),
  e = Ending.returned (Value.int IntKind.i64 i) ∧
  ∃ (i_1 : Int),
  ∃ (a : Option Addr),
  ∃ (l : Nat),
  ∃ (c : Nat),
  ∃ (a_1 : Option Addr),
  ∃ (l_1 : Nat),
  ∃ (c_1 : Nat),
  ∃ (a_2 : Option Addr),
  ∃ (l_2 : Nat),
  ∃ (c_2 : Nat),
  ∃ (a_3 : Option Addr),
  ∃ (l_3 : Nat),
  ∃ (c_3 : Nat),
  ∃ (i_2 : Int),
  ∃ (i_3 : Int),
  ∃ (b_3 : Bool),
  Ld Go.Proofs.Try.prog (41 : Nat) (World.drew w') (Addr.mk b (0 : Nat) none)
  (Value.agg
  #[Value.int IntKind.i64 i_1, Value.slice a l c, Value.slice a_1 l_1 c_1, Value.slice a_2 l_2 c_2,
  Value.slice a_3 l_3 c_3, Value.int IntKind.i64 i_2, Value.int IntKind.i64 i_3, Value.bool b_3]) ∧
  ∃ (a_4 : Option Addr),
  ∃ (l_4 : Nat),
  ∃ (c_4 : Nat),
  Ld Go.Proofs.Try.prog (38 : Nat) (World.drew w') (Addr.mk b (2 : Nat) none) (Value.slice a_4 l_4 c_4) ∧
  ∃ (s : ByteArray),
  Ld Go.Proofs.Try.prog (9 : Nat) (World.drew w') (Addr.mk b_1 (2 : Nat) none) (Value.string s) ∧
  ∃ (s_1 : ByteArray),
  Ld Go.Proofs.Try.prog (9 : Nat) (World.drew w') (Addr.mk b_1 (3 : Nat) none) (Value.string s_1) ∧
  CallV Go.Proofs.Try.prog (64 : Nat) [Value.slice a_4 l_4 c_4, Value.string s] (World.drew w')
  fun (e : Ending) (w' : World) ↦
  ∃ (a_5 : Option Addr),
  ∃ (l_5 : Nat),
  ∃ (c_5 : Nat),
  e = Ending.returned (Value.slice a_5 l_5 c_5) ∧
  Ld Go.Proofs.Try.prog (9 : Nat) w' (Addr.mk b_1 (3 : Nat) none) (Value.string s_1) ∧
  Ld Go.Proofs.Try.prog (41 : Nat) w' (Addr.mk b (0 : Nat) none)
  (Value.agg
  #[Value.int IntKind.i64 i_1, Value.slice a l c, Value.slice a_1 l_1 c_1,
  Value.slice a_2 l_2 c_2, Value.slice a_3 l_3 c_3, Value.int IntKind.i64 i_2,
  Value.int IntKind.i64 i_3, Value.bool b_3]) ∧
  CallV Go.Proofs.Try.prog (62 : Nat)
  [Value.slice a_5 l_5 c_5, Value.agg #[Value.string s_1, Value.int IntKind.i64 i]] w'
  fun (e : Ending) (w' : World) ↦
  ∃ (a_6 : Option Addr),
  ∃ (l_6 : Nat),
  ∃ (c_6 : Nat),
  e = Ending.returned (Value.slice a_6 l_6 c_6) ∧
  Ld Go.Proofs.Try.prog (41 : Nat) w' (Addr.mk b (0 : Nat) none)
  (Value.agg
  #[Value.int IntKind.i64 i_1, Value.slice a l c, Value.slice a_1 l_1 c_1,
  Value.slice a_2 l_2 c_2, Value.slice a_3 l_3 c_3, Value.int IntKind.i64 i_2,
  Value.int IntKind.i64 i_3, Value.bool b_3]) ∧
  CallV Go.Proofs.Try.prog (61 : Nat)
  [Value.agg
  #[Value.int IntKind.i64 i_1, Value.slice a l c, Value.slice a_1 l_1 c_1,
  Value.slice a_2 l_2 c_2, Value.slice a_3 l_3 c_3,
  Value.int IntKind.i64 i_2, Value.int IntKind.i64 i_3, Value.bool b_3],
  Value.slice a_6 l_6 c_6]
  w' fun (e : Ending) (w' : World) ↦
  ∃ (i : Int),
  ∃ (a : Option Addr),
  ∃ (l : Nat),
  ∃ (c : Nat),
  ∃ (a_7 : Option Addr),
  ∃ (l_7 : Nat),
  ∃ (c_7 : Nat),
  ∃ (a_8 : Option Addr),
  ∃ (l_8 : Nat),
  ∃ (c_8 : Nat),
  ∃ (a_9 : Option Addr),
  ∃ (l_9 : Nat),
  ∃ (c_9 : Nat),
  ∃ (i_4 : Int),
  ∃ (i_5 : Int),
  ∃ (b : Bool),
  e =
  Ending.returned
  (Value.agg
  #[Value.int IntKind.i64 i,
  Value.slice a l c,
  Value.slice a_7 l_7 c_7,
  Value.slice a_8 l_8 c_8,
  Value.slice a_9 l_9 c_9,
  Value.int IntKind.i64 i_4,
  Value.int IntKind.i64 i_5,
  Value.bool b]) ∧
  ∃ (w1 : World),
  St Go.Proofs.Try.prog (41 : Nat) w'
  (Addr.mk b_2 (0 : Nat) none)
  (Value.agg
  #[Value.int IntKind.i64 i,
  Value.slice a l c,
  Value.slice a_7 l_7 c_7,
  Value.slice a_8 l_8 c_8,
  Value.slice a_9 l_9 c_9,
  Value.int IntKind.i64 i_4,
  Value.int IntKind.i64 i_5,
  Value.bool b])
  w1 ∧
  ∃ (i : Int),
  ∃ (a : Option Addr),
  ∃ (l : Nat),
  ∃ (c : Nat),
  ∃ (a_10 : Option Addr),
  ∃ (l_10 : Nat),
  ∃ (c_10 : Nat),
  ∃ (a_11 : Option Addr),
  ∃ (l_11 : Nat),
  ∃ (c_11 : Nat),
  ∃ (a_12 :
  Option Addr),
  ∃ (l_12 : Nat),
  ∃ (c_12 : Nat),
  ∃ (i_6 : Int),
  ∃ (i_7 : Int),
  ∃ (b :
  Bool),
  Ld
  Go.Proofs.Try.prog
  (41 :
  Nat)
  w1
  (Addr.mk
  b_2
  (0 :
  Nat)
  none)
  (Value.agg
  #[Value.int
  IntKind.i64
  i,
  Value.slice
  a
  l
  c,
  Value.slice
  a_10
  l_10
  c_10,
  Value.slice
  a_11
  l_11
  c_11,
  Value.slice
  a_12
  l_12
  c_12,
  Value.int
  IntKind.i64
  i_6,
  Value.int
  IntKind.i64
  i_7,
  Value.bool
  b]) ∧
  R
  (Ending.returned
  (Value.agg
  #[Value.int
  IntKind.i64
  i,
  Value.slice
  a
  l
  c,
  Value.slice
  a_10
  l_10
  c_10,
  Value.slice
  a_11
  l_11
  c_11,
  Value.slice
  a_12
  l_12
  c_12,
  Value.int
  IntKind.i64
  i_6,
  Value.int
  IntKind.i64
  i_7,
  Value.bool
  b]))
  w1)
  (br (decide (i = (5 : Int)))
  (∃ (i : Int),
  ∃ (a : Option Addr),
  ∃ (l : Nat),
  ∃ (c : Nat),
  ∃ (a_1 : Option Addr),
  ∃ (l_1 : Nat),
  ∃ (c_1 : Nat),
  ∃ (a_2 : Option Addr),
  ∃ (l_2 : Nat),
  ∃ (c_2 : Nat),
  ∃ (a_3 : Option Addr),
  ∃ (l_3 : Nat),
  ∃ (c_3 : Nat),
  ∃ (i_1 : Int),
  ∃ (i_2 : Int),
  ∃ (b_3 : Bool),
  Ld Go.Proofs.Try.prog (41 : Nat) (World.drew w1) (Addr.mk b (0 : Nat) none)
  (Value.agg
  #[Value.int IntKind.i64 i, Value.slice a l c, Value.slice a_1 l_1 c_1, Value.slice a_2 l_2 c_2, Value.slice a_3 l_3 c_3,
  Value.int IntKind.i64 i_1, Value.int IntKind.i64 i_2, Value.bool b_3]) ∧
  ∃ (a_4 : Option Addr),
  ∃ (l_4 : Nat),
  ∃ (c_4 : Nat),
  Ld Go.Proofs.Try.prog (38 : Nat) (World.drew w1) (Addr.mk b (2 : Nat) none) (Value.slice a_4 l_4 c_4) ∧
  ∃ (s : ByteArray),
  Ld Go.Proofs.Try.prog (9 : Nat) (World.drew w1) (Addr.mk b_1 (2 : Nat) none) (Value.string s) ∧
  CallV Go.Proofs.Try.prog (64 : Nat) [Value.slice a_4 l_4 c_4, Value.string s] (World.drew w1) fun (e : Ending) (w' : World) ↦
  ∃ (a_5 : Option Addr),
  ∃ (l_5 : Nat),
  ∃ (c_5 : Nat),
  e = Ending.returned (Value.slice a_5 l_5 c_5) ∧
  Ld Go.Proofs.Try.prog (41 : Nat) w' (Addr.mk b (0 : Nat) none)
  (Value.agg
  #[Value.int IntKind.i64 i, Value.slice a l c, Value.slice a_1 l_1 c_1, Value.slice a_2 l_2 c_2,
  Value.slice a_3 l_3 c_3, Value.int IntKind.i64 i_1, Value.int IntKind.i64 i_2, Value.bool b_3]) ∧
  CallV Go.Proofs.Try.prog (61 : Nat)
  [Value.agg
  #[Value.int IntKind.i64 i, Value.slice a l c, Value.slice a_1 l_1 c_1, Value.slice a_2 l_2 c_2,
  Value.slice a_3 l_3 c_3, Value.int IntKind.i64 i_1, Value.int IntKind.i64 i_2, Value.bool b_3],
  Value.slice a_5 l_5 c_5]
  w' fun (e : Ending) (w' : World) ↦
  ∃ (i : Int),
  ∃ (a : Option Addr),
  ∃ (l : Nat),
  ∃ (c : Nat),
  ∃ (a_6 : Option Addr),
  ∃ (l_6 : Nat),
  ∃ (c_6 : Nat),
  ∃ (a_7 : Option Addr),
  ∃ (l_7 : Nat),
  ∃ (c_7 : Nat),
  ∃ (a_8 : Option Addr),
  ∃ (l_8 : Nat),
  ∃ (c_8 : Nat),
  ∃ (i_3 : Int),
  ∃ (i_4 : Int),
  ∃ (b : Bool),
  e =
  Ending.returned
  (Value.agg
  #[Value.int IntKind.i64 i, Value.slice a l c, Value.slice a_6 l_6 c_6,
  Value.slice a_7 l_7 c_7, Value.slice a_8 l_8 c_8,
  Value.int IntKind.i64 i_3, Value.int IntKind.i64 i_4, Value.bool b]) ∧
  ∃ (w1 : World),
  St Go.Proofs.Try.prog (41 : Nat) w' (Addr.mk b_2 (0 : Nat) none)
  (Value.agg
  #[Value.int IntKind.i64 i, Value.slice a l c, Value.slice a_6 l_6 c_6,
  Value.slice a_7 l_7 c_7, Value.slice a_8 l_8 c_8,
  Value.int IntKind.i64 i_3, Value.int IntKind.i64 i_4, Value.bool b])
  w1 ∧
  ∃ (i : Int),
  ∃ (a : Option Addr),
  ∃ (l : Nat),
  ∃ (c : Nat),
  ∃ (a_9 : Option Addr),
  ∃ (l_9 : Nat),
  ∃ (c_9 : Nat),
  ∃ (a_10 : Option Addr),
  ∃ (l_10 : Nat),
  ∃ (c_10 : Nat),
  ∃ (a_11 : Option Addr),
  ∃ (l_11 : Nat),
  ∃ (c_11 : Nat),
  ∃ (i_5 : Int),
  ∃ (i_6 : Int),
  ∃ (b : Bool),
  Ld Go.Proofs.Try.prog (41 : Nat) w1
  (Addr.mk b_2 (0 : Nat) none)
  (Value.agg
  #[Value.int IntKind.i64 i,
  Value.slice a l c,
  Value.slice a_9 l_9 c_9,
  Value.slice a_10 l_10 c_10,
  Value.slice a_11 l_11 c_11,
  Value.int IntKind.i64 i_5,
  Value.int IntKind.i64 i_6,
  Value.bool b]) ∧
  R
  (Ending.returned
  (Value.agg
  #[Value.int IntKind.i64 i,
  Value.slice a l c,
  Value.slice a_9 l_9 c_9,
  Value.slice a_10 l_10 c_10,
  Value.slice a_11 l_11 c_11,
  Value.int IntKind.i64 i_5,
  Value.int IntKind.i64 i_6,
  Value.bool b]))
  w1)
  (br (decide (i = (6 : Int)))
  (∃ (a : Option Addr),
  ∃ (l : Nat),
  ∃ (c : Nat),
  Ld Go.Proofs.Try.prog (38 : Nat) w1 (Addr.mk b (2 : Nat) none) (Value.slice a l c) ∧
  ∃ (w1_2 : World),
  St Go.Proofs.Try.prog (38 : Nat) w1 (Addr.mk b (3 : Nat) none) (Value.slice a l c) w1_2 ∧
  ∃ (w1 : World),
  St Go.Proofs.Try.prog (39 : Nat) w1_2 (Addr.mk b (4 : Nat) none) (Value.slice none (0 : Nat) (0 : Nat)) w1 ∧
  ∃ (i : Int),
  ∃ (a : Option Addr),
  ∃ (l : Nat),
  ∃ (c : Nat),
  ∃ (a_1 : Option Addr),
  ∃ (l_1 : Nat),
  ∃ (c_1 : Nat),
  ∃ (a_2 : Option Addr),
  ∃ (l_2 : Nat),
  ∃ (c_2 : Nat),
  ∃ (a_3 : Option Addr),
  ∃ (l_3 : Nat),
  ∃ (c_3 : Nat),
  ∃ (i_1 : Int),
  ∃ (i_2 : Int),
  ∃ (b_3 : Bool),
  Ld Go.Proofs.Try.prog (41 : Nat) w1 (Addr.mk b (0 : Nat) none)
  (Value.agg
  #[Value.int IntKind.i64 i, Value.slice a l c, Value.slice a_1 l_1 c_1, Value.slice a_2 l_2 c_2,
  Value.slice a_3 l_3 c_3, Value.int IntKind.i64 i_1, Value.int IntKind.i64 i_2, Value.bool b_3]) ∧
  ∃ (w1_3 : World),
  St Go.Proofs.Try.prog (41 : Nat) w1 (Addr.mk b_2 (0 : Nat) none)
  (Value.agg
  #[Value.int IntKind.i64 i, Value.slice a l c, Value.slice a_1 l_1 c_1, Value.slice a_2 l_2 c_2,
  Value.slice a_3 l_3 c_3, Value.int IntKind.i64 i_1, Value.int IntKind.i64 i_2, Value.bool b_3])
  w1_3 ∧
  ∃ (i : Int),
  ∃ (a : Option Addr),
  ∃ (l : Nat),
  ∃ (c : Nat),
  ∃ (a_4 : Option Addr),
  ∃ (l_4 : Nat),
  ∃ (c_4 : Nat),
  ∃ (a_5 : Option Addr),
  ∃ (l_5 : Nat),
  ∃ (c_5 : Nat),
  ∃ (a_6 : Option Addr),
  ∃ (l_6 : Nat),
  ∃ (c_6 : Nat),
  ∃ (i_3 : Int),
  ∃ (i_4 : Int),
  ∃ (b : Bool),
  Ld Go.Proofs.Try.prog (41 : Nat) w1_3 (Addr.mk b_2 (0 : Nat) none)
  (Value.agg
  #[Value.int IntKind.i64 i, Value.slice a l c, Value.slice a_4 l_4 c_4,
  Value.slice a_5 l_5 c_5, Value.slice a_6 l_6 c_6, Value.int IntKind.i64 i_3,
  Value.int IntKind.i64 i_4, Value.bool b]) ∧
  R
  (Ending.returned
  (Value.agg
  #[Value.int IntKind.i64 i, Value.slice a l c, Value.slice a_4 l_4 c_4,
  Value.slice a_5 l_5 c_5, Value.slice a_6 l_6 c_6, Value.int IntKind.i64 i_3,
  Value.int IntKind.i64 i_4, Value.bool b]))
  w1_3)
  (∃ (i : Int),
  ∃ (a : Option Addr),
  ∃ (l : Nat),
  ∃ (c : Nat),
  ∃ (a_1 : Option Addr),
  ∃ (l_1 : Nat),
  ∃ (c_1 : Nat),
  ∃ (a_2 : Option Addr),
  ∃ (l_2 : Nat),
  ∃ (c_2 : Nat),
  ∃ (a_3 : Option Addr),
  ∃ (l_3 : Nat),
  ∃ (c_3 : Nat),
  ∃ (i_1 : Int),
  ∃ (i_2 : Int),
  ∃ (b_3 : Bool),
  Ld Go.Proofs.Try.prog (41 : Nat) w1 (Addr.mk b (0 : Nat) none)
  (Value.agg
  #[Value.int IntKind.i64 i, Value.slice a l c, Value.slice a_1 l_1 c_1, Value.slice a_2 l_2 c_2, Value.slice a_3 l_3 c_3,
  Value.int IntKind.i64 i_1, Value.int IntKind.i64 i_2, Value.bool b_3]) ∧
  ∃ (w1_2 : World),
  St Go.Proofs.Try.prog (41 : Nat) w1 (Addr.mk b_2 (0 : Nat) none)
  (Value.agg
  #[Value.int IntKind.i64 i, Value.slice a l c, Value.slice a_1 l_1 c_1, Value.slice a_2 l_2 c_2, Value.slice a_3 l_3 c_3,
  Value.int IntKind.i64 i_1, Value.int IntKind.i64 i_2, Value.bool b_3])
  w1_2 ∧
  ∃ (i : Int),
  ∃ (a : Option Addr),
  ∃ (l : Nat),
  ∃ (c : Nat),
  ∃ (a_4 : Option Addr),
  ∃ (l_4 : Nat),
  ∃ (c_4 : Nat),
  ∃ (a_5 : Option Addr),
  ∃ (l_5 : Nat),
  ∃ (c_5 : Nat),
  ∃ (a_6 : Option Addr),
  ∃ (l_6 : Nat),
  ∃ (c_6 : Nat),
  ∃ (i_3 : Int),
  ∃ (i_4 : Int),
  ∃ (b : Bool),
  Ld Go.Proofs.Try.prog (41 : Nat) w1_2 (Addr.mk b_2 (0 : Nat) none)
  (Value.agg
  #[Value.int IntKind.i64 i, Value.slice a l c, Value.slice a_4 l_4 c_4, Value.slice a_5 l_5 c_5,
  Value.slice a_6 l_6 c_6, Value.int IntKind.i64 i_3, Value.int IntKind.i64 i_4,
  Value.bool b]) ∧
  R
  (Ending.returned
  (Value.agg
  #[Value.int IntKind.i64 i, Value.slice a l c, Value.slice a_4 l_4 c_4,
  Value.slice a_5 l_5 c_5, Value.slice a_6 l_6 c_6, Value.int IntKind.i64 i_3,
  Value.int IntKind.i64 i_4, Value.bool b]))
  w1_2))))))
theorem rdoes.eq (d_Room : Int) (d_Filesa : Option Addr) (d_Filesn : Nat) (d_Filesc : Nat) (d_Namesa : Option Addr) (d_Namesn : Nat) (d_Namesc : Nat) (d_Firma : Option Addr) (d_Firmn : Nat) (d_Firmc : Nat) (d_Sincea : Option Addr) (d_Sincen : Nat) (d_Sincec : Nat) (d_Armed : Int) (d_Denied : Int) (d_Dead : Bool) (o_Kind : Int) (o_N : Int) (o_Name : ByteArray) (o_To : ByteArray) (o_Ba : Option Addr) (o_Bn : Nat) (o_Bc : Nat) (o_Picksa : Option Addr) (o_Picksn : Nat) (o_Picksc : Nat) (w : World) (R : Ending → World → Prop) : bodyV Go.Proofs.Try.prog rdoes.an Go.Proofs.Try.f53 [.agg #[.int .i64 d_Room, .slice d_Filesa d_Filesn d_Filesc, .slice d_Namesa d_Namesn d_Namesc, .slice d_Firma d_Firmn d_Firmc, .slice d_Sincea d_Sincen d_Sincec, .int .i64 d_Armed, .int .i64 d_Denied, .bool d_Dead], .agg #[.int .i64 o_Kind, .int .i64 o_N, .string o_Name, .string o_To, .slice o_Ba o_Bn o_Bc, .slice o_Picksa o_Picksn o_Picksc]] w R = rdoes.vc d_Room d_Filesa d_Filesn d_Filesc d_Namesa d_Namesn d_Namesc d_Firma d_Firmn d_Firmc d_Sincea d_Sincen d_Sincec d_Armed d_Denied d_Dead o_Kind o_N o_Name o_To o_Ba o_Bn o_Bc o_Picksa o_Picksn o_Picksc w R := by kernel_rfl
theorem rdoes.ok (d_Room : Int) (d_Filesa : Option Addr) (d_Filesn : Nat) (d_Filesc : Nat) (d_Namesa : Option Addr) (d_Namesn : Nat) (d_Namesc : Nat) (d_Firma : Option Addr) (d_Firmn : Nat) (d_Firmc : Nat) (d_Sincea : Option Addr) (d_Sincen : Nat) (d_Sincec : Nat) (d_Armed : Int) (d_Denied : Int) (d_Dead : Bool) (o_Kind : Int) (o_N : Int) (o_Name : ByteArray) (o_To : ByteArray) (o_Ba : Option Addr) (o_Bn : Nat) (o_Bc : Nat) (o_Picksa : Option Addr) (o_Picksn : Nat) (o_Picksc : Nat) (w : World) (R : Ending → World → Prop) (h : rdoes.vc d_Room d_Filesa d_Filesn d_Filesc d_Namesa d_Namesn d_Namesc d_Firma d_Firmn d_Firmc d_Sincea d_Sincen d_Sincec d_Armed d_Denied d_Dead o_Kind o_N o_Name o_To o_Ba o_Bn o_Bc o_Picksa o_Picksn o_Picksc w R) : Calls Go.Proofs.Try.prog 53 #[.agg #[.int .i64 d_Room, .slice d_Filesa d_Filesn d_Filesc, .slice d_Namesa d_Namesn d_Namesc, .slice d_Firma d_Firmn d_Firmc, .slice d_Sincea d_Sincen d_Sincec, .int .i64 d_Armed, .int .i64 d_Denied, .bool d_Dead], .agg #[.int .i64 o_Kind, .int .i64 o_N, .string o_Name, .string o_To, .slice o_Ba o_Bn o_Bc, .slice o_Picksa o_Picksn o_Picksc]] w R :=
  calls_of_bodyV noNum (an := rdoes.an) (args := [.agg #[.int .i64 d_Room, .slice d_Filesa d_Filesn d_Filesc, .slice d_Namesa d_Namesn d_Namesc, .slice d_Firma d_Firmn d_Firmc, .slice d_Sincea d_Sincen d_Sincec, .int .i64 d_Armed, .int .i64 d_Denied, .bool d_Dead], .agg #[.int .i64 o_Kind, .int .i64 o_N, .string o_Name, .string o_To, .slice o_Ba o_Bn o_Bc, .slice o_Picksa o_Picksn o_Picksc]]) Go.Proofs.Try.func53 (by kernel_rfl) ((rdoes.eq d_Room d_Filesa d_Filesn d_Filesc d_Namesa d_Namesn d_Namesc d_Firma d_Firmn d_Firmc d_Sincea d_Sincen d_Sincec d_Armed d_Denied d_Dead o_Kind o_N o_Name o_To o_Ba o_Bn o_Bc o_Picksa o_Picksn o_Picksc w R).mpr h)

/-- incunable/incunableref09.right -/
def rright.an : An := { wraps := [], loops := [], joins := [], ranges := [] }
def rright.vc (s : ByteArray) (w : World) (R : Ending → World → Prop) : Prop :=
  br (decide ((1 : Int) ≤ (↑(ByteArray.size s) : Int))) (R (Ending.returned (Value.bool (decide ((↑(ByteArray.size s) : Int) ≤ (60 : Int))))) w) (R (Ending.returned (Value.bool false)) w)
theorem rright.eq (s : ByteArray) (w : World) (R : Ending → World → Prop) : bodyV Go.Proofs.Try.prog rright.an Go.Proofs.Try.f60 [.string s] w R = rright.vc s w R := by kernel_rfl
theorem rright.ok (s : ByteArray) (w : World) (R : Ending → World → Prop) (h : rright.vc s w R) : Calls Go.Proofs.Try.prog 60 #[.string s] w R :=
  calls_of_bodyV noNum (an := rright.an) (args := [.string s]) Go.Proofs.Try.func60 (by kernel_rfl) ((rright.eq s w R).mpr h)

/-- incunable/incunableref09.named -/
def rnamed.an : An := { wraps := [], loops := [], joins := [], ranges := [] }
def rnamed.vc (d_Room : Int) (d_Filesa : Option Addr) (d_Filesn : Nat) (d_Filesc : Nat) (d_Namesa : Option Addr) (d_Namesn : Nat) (d_Namesc : Nat) (d_Firma : Option Addr) (d_Firmn : Nat) (d_Firmc : Nat) (d_Sincea : Option Addr) (d_Sincen : Nat) (d_Sincec : Nat) (d_Armed : Int) (d_Denied : Int) (d_Dead : Bool) (la : Option Addr) (ln : Nat) (lc : Nat) (w : World) (R : Ending → World → Prop) : Prop :=
  ∀ (b : Nat) (w1 : World),
  New w
  (Obj.cells
  #[Value.int IntKind.i64 d_Room, Value.slice d_Filesa d_Filesn d_Filesc, Value.slice d_Namesa d_Namesn d_Namesc, Value.slice d_Firma d_Firmn d_Firmc, Value.slice d_Sincea d_Sincen d_Sincec,
  Value.int IntKind.i64 d_Armed, Value.int IntKind.i64 d_Denied, Value.bool d_Dead]
  (41 : Nat))
  b w1 →
  ∀ (b_1 : Nat) (w1_1 : World),
  New w1
  (Obj.cells
  #[Value.int IntKind.i64 (0 : Int), Value.slice none (0 : Nat) (0 : Nat), Value.slice none (0 : Nat) (0 : Nat), Value.slice none (0 : Nat) (0 : Nat), Value.slice none (0 : Nat) (0 : Nat),
  Value.int IntKind.i64 (0 : Int), Value.int IntKind.i64 (0 : Int), Value.bool false]
  (41 : Nat))
  b_1 w1_1 →
  ∃ (w1 : World),
  St Go.Proofs.Try.prog (38 : Nat) w1_1 (Addr.mk b (2 : Nat) none) (Value.slice la ln lc) w1 ∧
  ∀ (b_2 : Nat) (w1_2 : World),
  New w1 (Obj.cells #[] (38 : Nat)) b_2 w1_2 →
  ∃ (a : Option Addr),
  ∃ (l : Nat),
  ∃ (c : Nat),
  Ld Go.Proofs.Try.prog (39 : Nat) w1_2 (Addr.mk b (4 : Nat) none) (Value.slice a l c) ∧
  ∃ (a_1 : Option Addr),
  ∃ (n : Nat),
  ∃ (m : Nat),
  ∃ (w1 : World),
  App Go.Proofs.Try.prog #[(39 : Nat), (39 : Nat)] (39 : Nat) w1_2 (Value.slice (some (Addr.mk b_2 (0 : Nat) none)) (0 : Nat) (0 : Nat)) (Value.slice a l c)
  (Value.slice a_1 n m) w1 ∧
  ∀ (b_3 : Nat) (w1_3 : World),
  New w1 (Obj.cells #[Value.slice la ln lc] (38 : Nat)) b_3 w1_3 →
  ∃ (a : Option Addr),
  ∃ (n_1 : Nat),
  ∃ (m_1 : Nat),
  ∃ (w1 : World),
  App Go.Proofs.Try.prog #[(39 : Nat), (39 : Nat)] (39 : Nat) w1_3 (Value.slice a_1 n m) (Value.slice (some (Addr.mk b_3 (0 : Nat) none)) (1 : Nat) (1 : Nat))
  (Value.slice a n_1 m_1) w1 ∧
  ∃ (w1_4 : World),
  St Go.Proofs.Try.prog (39 : Nat) w1 (Addr.mk b (4 : Nat) none) (Value.slice a n_1 m_1) w1_4 ∧
  ∃ (i : Int),
  ∃ (a : Option Addr),
  ∃ (l : Nat),
  ∃ (c : Nat),
  ∃ (a_2 : Option Addr),
  ∃ (l_1 : Nat),
  ∃ (c_1 : Nat),
  ∃ (a_3 : Option Addr),
  ∃ (l_2 : Nat),
  ∃ (c_2 : Nat),
  ∃ (a_4 : Option Addr),
  ∃ (l_3 : Nat),
  ∃ (c_3 : Nat),
  ∃ (i_1 : Int),
  ∃ (i_2 : Int),
  ∃ (b_4 : Bool),
  Ld Go.Proofs.Try.prog (41 : Nat) w1_4 (Addr.mk b (0 : Nat) none)
  (Value.agg
  #[Value.int IntKind.i64 i, Value.slice a l c, Value.slice a_2 l_1 c_1, Value.slice a_3 l_2 c_2,
  Value.slice a_4 l_3 c_3, Value.int IntKind.i64 i_1, Value.int IntKind.i64 i_2, Value.bool b_4]) ∧
  ∃ (w1 : World),
  St Go.Proofs.Try.prog (41 : Nat) w1_4 (Addr.mk b_1 (0 : Nat) none)
  (Value.agg
  #[Value.int IntKind.i64 i, Value.slice a l c, Value.slice a_2 l_1 c_1, Value.slice a_3 l_2 c_2,
  Value.slice a_4 l_3 c_3, Value.int IntKind.i64 i_1, Value.int IntKind.i64 i_2, Value.bool b_4])
  w1 ∧
  ∃ (i : Int),
  ∃ (a : Option Addr),
  ∃ (l : Nat),
  ∃ (c : Nat),
  ∃ (a_5 : Option Addr),
  ∃ (l_4 : Nat),
  ∃ (c_4 : Nat),
  ∃ (a_6 : Option Addr),
  ∃ (l_5 : Nat),
  ∃ (c_5 : Nat),
  ∃ (a_7 : Option Addr),
  ∃ (l_6 : Nat),
  ∃ (c_6 : Nat),
  ∃ (i_3 : Int),
  ∃ (i_4 : Int),
  ∃ (b : Bool),
  Ld Go.Proofs.Try.prog (41 : Nat) w1 (Addr.mk b_1 (0 : Nat) none)
  (Value.agg
  #[Value.int IntKind.i64 i, Value.slice a l c, Value.slice a_5 l_4 c_4,
  Value.slice a_6 l_5 c_5, Value.slice a_7 l_6 c_6,
  Value.int IntKind.i64 i_3, Value.int IntKind.i64 i_4, Value.bool b]) ∧
  R
  (Ending.returned
  (Value.agg
  #[Value.int IntKind.i64 i, Value.slice a l c, Value.slice a_5 l_4 c_4,
  Value.slice a_6 l_5 c_5, Value.slice a_7 l_6 c_6,
  Value.int IntKind.i64 i_3, Value.int IntKind.i64 i_4,
  Value.bool b]))
  w1
theorem rnamed.eq (d_Room : Int) (d_Filesa : Option Addr) (d_Filesn : Nat) (d_Filesc : Nat) (d_Namesa : Option Addr) (d_Namesn : Nat) (d_Namesc : Nat) (d_Firma : Option Addr) (d_Firmn : Nat) (d_Firmc : Nat) (d_Sincea : Option Addr) (d_Sincen : Nat) (d_Sincec : Nat) (d_Armed : Int) (d_Denied : Int) (d_Dead : Bool) (la : Option Addr) (ln : Nat) (lc : Nat) (w : World) (R : Ending → World → Prop) : bodyV Go.Proofs.Try.prog rnamed.an Go.Proofs.Try.f61 [.agg #[.int .i64 d_Room, .slice d_Filesa d_Filesn d_Filesc, .slice d_Namesa d_Namesn d_Namesc, .slice d_Firma d_Firmn d_Firmc, .slice d_Sincea d_Sincen d_Sincec, .int .i64 d_Armed, .int .i64 d_Denied, .bool d_Dead], .slice la ln lc] w R = rnamed.vc d_Room d_Filesa d_Filesn d_Filesc d_Namesa d_Namesn d_Namesc d_Firma d_Firmn d_Firmc d_Sincea d_Sincen d_Sincec d_Armed d_Denied d_Dead la ln lc w R := by kernel_rfl
theorem rnamed.ok (d_Room : Int) (d_Filesa : Option Addr) (d_Filesn : Nat) (d_Filesc : Nat) (d_Namesa : Option Addr) (d_Namesn : Nat) (d_Namesc : Nat) (d_Firma : Option Addr) (d_Firmn : Nat) (d_Firmc : Nat) (d_Sincea : Option Addr) (d_Sincen : Nat) (d_Sincec : Nat) (d_Armed : Int) (d_Denied : Int) (d_Dead : Bool) (la : Option Addr) (ln : Nat) (lc : Nat) (w : World) (R : Ending → World → Prop) (h : rnamed.vc d_Room d_Filesa d_Filesn d_Filesc d_Namesa d_Namesn d_Namesc d_Firma d_Firmn d_Firmc d_Sincea d_Sincen d_Sincec d_Armed d_Denied d_Dead la ln lc w R) : Calls Go.Proofs.Try.prog 61 #[.agg #[.int .i64 d_Room, .slice d_Filesa d_Filesn d_Filesc, .slice d_Namesa d_Namesn d_Namesc, .slice d_Firma d_Firmn d_Firmc, .slice d_Sincea d_Sincen d_Sincec, .int .i64 d_Armed, .int .i64 d_Denied, .bool d_Dead], .slice la ln lc] w R :=
  calls_of_bodyV noNum (an := rnamed.an) (args := [.agg #[.int .i64 d_Room, .slice d_Filesa d_Filesn d_Filesc, .slice d_Namesa d_Namesn d_Namesc, .slice d_Firma d_Firmn d_Firmc, .slice d_Sincea d_Sincen d_Sincec, .int .i64 d_Armed, .int .i64 d_Denied, .bool d_Dead], .slice la ln lc]) Go.Proofs.Try.func61 (by kernel_rfl) ((rnamed.eq d_Room d_Filesa d_Filesn d_Filesc d_Namesa d_Namesn d_Namesc d_Firma d_Firmn d_Firmc d_Sincea d_Sincen d_Sincec d_Armed d_Denied d_Dead la ln lc w R).mpr h)

/-- incunable/incunableref09.with -/
def rwith.an : An := { wraps := [], loops := [(5, [(5, .inr 3), (6, .inr 0), (7, .inl .i64)])], joins := [(8, [(29, .inr 0)])], ranges := [] }
def rwith.vc (la : Option Addr) (ln : Nat) (lc : Nat) (n_Name : ByteArray) (n_File : Int) (w : World) (R : Ending → World → Prop) : Prop :=
  ∀ (b : Nat) (w1 : World),
  New w (Obj.cells #[Value.string n_Name, Value.int IntKind.i64 n_File] (108 : Nat)) b w1 →
  ∃ (s : ByteArray),
  Ld Go.Proofs.Try.prog (9 : Nat) w1 (Addr.mk b (0 : Nat) none) (Value.string s) ∧
  CallV Go.Proofs.Try.prog (64 : Nat) [Value.slice la ln lc, Value.string s] w1 fun (e : Ending) (w' : World) ↦
  ∃ (a : Option Addr),
  ∃ (l : Nat),
  ∃ (c : Nat),
  e = Ending.returned (Value.slice a l c) ∧
  LoopP
  (fun (s : (Option Addr × Nat × Nat) × Bool × Int) (w' : World) (next : (Option Addr × Nat × Nat) × Bool × Int → World → Prop) ↦
  br (decide (Prod.snd (Prod.snd s) < (↑l : Int)))
  (JoinP
  (fun (s_1 : Bool) (w' : World) ↦
  br s_1
  (∃ (s_2 : ByteArray),
  ∃ (i : Int),
  Ld Go.Proofs.Try.prog (108 : Nat) w' (Addr.mk b (0 : Nat) none) (Value.agg #[Value.string s_2, Value.int IntKind.i64 i]) ∧
  ∀ (b : Nat) (w1 : World),
  New w' (Obj.cells #[Value.string s_2, Value.int IntKind.i64 i] (108 : Nat)) b w1 →
  ∃ (a_2 : Option Addr),
  ∃ (n : Nat),
  ∃ (m : Nat),
  ∃ (w1_1 : World),
  App Go.Proofs.Try.prog #[(38 : Nat), (38 : Nat)] (38 : Nat) w1
  (Value.slice (Prod.fst (Prod.fst s)) (Prod.fst (Prod.snd (Prod.fst s))) (Prod.snd (Prod.snd (Prod.fst s))))
  (Value.slice (some (Addr.mk b (0 : Nat) none)) (1 : Nat) (1 : Nat)) (Value.slice a_2 n m) w1_1 ∧
  onP a fun (a : Addr) ↦
  ((0 : Int) ≤ Prod.snd (Prod.snd s) ∧ Prod.snd (Prod.snd s) < (↑l : Int)) ∧
  ∃ (s_3 : ByteArray),
  ∃ (i : Int),
  Ld Go.Proofs.Try.prog (108 : Nat) w1_1 (Addr.add a (Int.toNat (Prod.snd (Prod.snd s)) * (2 : Nat)))
  (Value.agg #[Value.string s_3, Value.int IntKind.i64 i]) ∧
  ∀ (b : Nat) (w1 : World),
  New w1_1 (Obj.cells #[Value.string s_3, Value.int IntKind.i64 i] (108 : Nat)) b w1 →
  ∃ (a : Option Addr),
  ∃ (n_1 : Nat),
  ∃ (m_1 : Nat),
  ∃ (w1_2 : World),
  App Go.Proofs.Try.prog #[(38 : Nat), (38 : Nat)] (38 : Nat) w1 (Value.slice a_2 n m)
  (Value.slice (some (Addr.mk b (0 : Nat) none)) (1 : Nat) (1 : Nat)) (Value.slice a n_1 m_1) w1_2 ∧
  inR IntKind.i64 (Prod.snd (Prod.snd s) + (1 : Int)) ∧ next ((a, n_1, m_1), true, Prod.snd (Prod.snd s) + (1 : Int)) w1_2)
  (onP a fun (a : Addr) ↦
  ((0 : Int) ≤ Prod.snd (Prod.snd s) ∧ Prod.snd (Prod.snd s) < (↑l : Int)) ∧
  ∃ (s_2 : ByteArray),
  ∃ (i : Int),
  Ld Go.Proofs.Try.prog (108 : Nat) w' (Addr.add a (Int.toNat (Prod.snd (Prod.snd s)) * (2 : Nat))) (Value.agg #[Value.string s_2, Value.int IntKind.i64 i]) ∧
  ∀ (b : Nat) (w1 : World),
  New w' (Obj.cells #[Value.string s_2, Value.int IntKind.i64 i] (108 : Nat)) b w1 →
  ∃ (a : Option Addr),
  ∃ (n : Nat),
  ∃ (m : Nat),
  ∃ (w1_1 : World),
  App Go.Proofs.Try.prog #[(38 : Nat), (38 : Nat)] (38 : Nat) w1
  (Value.slice (Prod.fst (Prod.fst s)) (Prod.fst (Prod.snd (Prod.fst s))) (Prod.snd (Prod.snd (Prod.fst s))))
  (Value.slice (some (Addr.mk b (0 : Nat) none)) (1 : Nat) (1 : Nat)) (Value.slice a n m) w1_1 ∧
  inR IntKind.i64 (Prod.snd (Prod.snd s) + (1 : Int)) ∧ next ((a, n, m), Prod.fst (Prod.snd s), Prod.snd (Prod.snd s) + (1 : Int)) w1_1))
  fun (J : Bool → World → Prop) ↦
  br (!Prod.fst (Prod.snd s))
  (onP a fun (a : Addr) ↦
  ((0 : Int) ≤ Prod.snd (Prod.snd s) ∧ Prod.snd (Prod.snd s) < (↑l : Int)) ∧
  ∃ (s_1 : ByteArray),
  Ld Go.Proofs.Try.prog (9 : Nat) (World.drew w') (Addr.add a (Int.toNat (Prod.snd (Prod.snd s)) * (2 : Nat))) (Value.string s_1) ∧
  ∃ (s : ByteArray),
  Ld Go.Proofs.Try.prog (9 : Nat) (World.drew w') (Addr.mk b (0 : Nat) none) (Value.string s) ∧
  J (!(Op.bytesLess (Array.toList (ByteArray.data s_1)) (Array.toList (ByteArray.data s)) || decide (s_1 = s))) (World.drew w'))
  (J false (World.drew w')))
  (br (!Prod.fst (Prod.snd s))
  (∃ (s_1 : ByteArray),
  ∃ (i : Int),
  Ld Go.Proofs.Try.prog (108 : Nat) w' (Addr.mk b (0 : Nat) none) (Value.agg #[Value.string s_1, Value.int IntKind.i64 i]) ∧
  ∀ (b : Nat) (w1 : World),
  New w' (Obj.cells #[Value.string s_1, Value.int IntKind.i64 i] (108 : Nat)) b w1 →
  ∃ (a : Option Addr),
  ∃ (n : Nat),
  ∃ (m : Nat),
  ∃ (w1_1 : World),
  App Go.Proofs.Try.prog #[(38 : Nat), (38 : Nat)] (38 : Nat) w1
  (Value.slice (Prod.fst (Prod.fst s)) (Prod.fst (Prod.snd (Prod.fst s))) (Prod.snd (Prod.snd (Prod.fst s))))
  (Value.slice (some (Addr.mk b (0 : Nat) none)) (1 : Nat) (1 : Nat)) (Value.slice a n m) w1_1 ∧
  R (Ending.returned (Value.slice a n m)) w1_1)
  (R (Ending.returned (Value.slice (Prod.fst (Prod.fst s)) (Prod.fst (Prod.snd (Prod.fst s))) (Prod.snd (Prod.snd (Prod.fst s))))) w')))
  ((none, (0 : Nat), (0 : Nat)), false, (0 : Int)) w'
theorem rwith.eq (la : Option Addr) (ln : Nat) (lc : Nat) (n_Name : ByteArray) (n_File : Int) (w : World) (R : Ending → World → Prop) : bodyV Go.Proofs.Try.prog rwith.an Go.Proofs.Try.f62 [.slice la ln lc, .agg #[.string n_Name, .int .i64 n_File]] w R = rwith.vc la ln lc n_Name n_File w R := by kernel_rfl
theorem rwith.ok (la : Option Addr) (ln : Nat) (lc : Nat) (n_Name : ByteArray) (n_File : Int) (w : World) (R : Ending → World → Prop) (h : rwith.vc la ln lc n_Name n_File w R) : Calls Go.Proofs.Try.prog 62 #[.slice la ln lc, .agg #[.string n_Name, .int .i64 n_File]] w R :=
  calls_of_bodyV noNum (an := rwith.an) (args := [.slice la ln lc, .agg #[.string n_Name, .int .i64 n_File]]) Go.Proofs.Try.func62 (by kernel_rfl) ((rwith.eq la ln lc n_Name n_File w R).mpr h)

/-- incunable/incunableref09.written -/
def rwritten.an : An := { wraps := [], loops := [], joins := [(8, [(8, .inr 3)])], ranges := [] }
def rwritten.vc (d_Room : Int) (d_Filesa : Option Addr) (d_Filesn : Nat) (d_Filesc : Nat) (d_Namesa : Option Addr) (d_Namesn : Nat) (d_Namesc : Nat) (d_Firma : Option Addr) (d_Firmn : Nat) (d_Firmc : Nat) (d_Sincea : Option Addr) (d_Sincen : Nat) (d_Sincec : Nat) (d_Armed : Int) (d_Denied : Int) (d_Dead : Bool) (o_Kind : Int) (o_N : Int) (o_Name : ByteArray) (o_To : ByteArray) (o_Ba : Option Addr) (o_Bn : Nat) (o_Bc : Nat) (o_Picksa : Option Addr) (o_Picksn : Nat) (o_Picksc : Nat) (w : World) (R : Ending → World → Prop) : Prop :=
  ∀ (b : Nat) (w1 : World),
  New w
  (Obj.cells
  #[Value.int IntKind.i64 d_Room, Value.slice d_Filesa d_Filesn d_Filesc, Value.slice d_Namesa d_Namesn d_Namesc, Value.slice d_Firma d_Firmn d_Firmc, Value.slice d_Sincea d_Sincen d_Sincec,
  Value.int IntKind.i64 d_Armed, Value.int IntKind.i64 d_Denied, Value.bool d_Dead]
  (41 : Nat))
  b w1 →
  ∀ (b_1 : Nat) (w1_1 : World),
  New w1
  (Obj.cells #[Value.int IntKind.i64 o_Kind, Value.int IntKind.i64 o_N, Value.string o_Name, Value.string o_To, Value.slice o_Ba o_Bn o_Bc, Value.slice o_Picksa o_Picksn o_Picksc] (29 : Nat))
  b_1 w1_1 →
  ∀ (b_2 : Nat) (w1 : World),
  New w1_1
  (Obj.cells
  #[Value.int IntKind.i64 (0 : Int), Value.slice none (0 : Nat) (0 : Nat), Value.slice none (0 : Nat) (0 : Nat), Value.slice none (0 : Nat) (0 : Nat),
  Value.slice none (0 : Nat) (0 : Nat), Value.int IntKind.i64 (0 : Int), Value.int IntKind.i64 (0 : Int), Value.bool false]
  (41 : Nat))
  b_2 w1 →
  ∃ (a : Option Addr),
  ∃ (l : Nat),
  ∃ (c : Nat),
  Ld Go.Proofs.Try.prog (38 : Nat) w1 (Addr.mk b (2 : Nat) none) (Value.slice a l c) ∧
  ∃ (s : ByteArray),
  Ld Go.Proofs.Try.prog (9 : Nat) w1 (Addr.mk b_1 (2 : Nat) none) (Value.string s) ∧
  CallV Go.Proofs.Try.prog (52 : Nat) [Value.slice a l c, Value.string s] w1 fun (e : Ending) (w' : World) ↦
  ∃ (i : Int),
  e = Ending.returned (Value.int IntKind.i64 i) ∧
  ∃ (a : Option Addr),
  ∃ (n : Nat),
  ∃ (m : Nat),
  ∃ (w1 : World),
  MkS Go.Proofs.Try.prog (26 : Nat) w' (Value.int IntKind.i64 (512 : Int)) (Value.int IntKind.i64 (512 : Int)) (Value.slice a n m) w1 ∧
  ∃ (a_1 : Option Addr),
  ∃ (l : Nat),
  ∃ (c : Nat),
  Ld Go.Proofs.Try.prog (26 : Nat) w1 (Addr.mk b_1 (4 : Nat) none) (Value.slice a_1 l c) ∧
  ∃ (n_1 : Int),
  ∃ (w1_2 : World),
  Cpy Go.Proofs.Try.prog #[(26 : Nat), (26 : Nat)] (3 : Nat) w1 (Value.slice a n m) (Value.slice a_1 l c) (Value.int IntKind.i64 n_1) w1_2 ∧
  ∃ (a_2 : Option Addr),
  ∃ (l : Nat),
  ∃ (c : Nat),
  Ld Go.Proofs.Try.prog (37 : Nat) w1_2 (Addr.mk b (1 : Nat) none) (Value.slice a_2 l c) ∧
  onP a_2 fun (a_3 : Addr) ↦
  ((0 : Int) ≤ i ∧ i < (↑l : Int)) ∧
  ∃ (a_4 : Option Addr),
  ∃ (l : Nat),
  ∃ (c : Nat),
  ∃ (a_5 : Option Addr),
  ∃ (l_1 : Nat),
  ∃ (c_1 : Nat),
  ∃ (a_6 : Option Addr),
  ∃ (l_2 : Nat),
  ∃ (c_2 : Nat),
  Ld Go.Proofs.Try.prog (92 : Nat) w1_2 (Addr.add a_3 (Int.toNat i * (3 : Nat)))
  (Value.agg #[Value.slice a_4 l c, Value.slice a_5 l_1 c_1, Value.slice a_6 l_2 c_2]) ∧
  ∀ (b_3 : Nat) (w1 : World),
  New w1_2
  (Obj.cells
  #[Value.slice none (0 : Nat) (0 : Nat), Value.slice none (0 : Nat) (0 : Nat),
  Value.slice none (0 : Nat) (0 : Nat)]
  (92 : Nat))
  b_3 w1 →
  ∃ (w1_3 : World),
  St Go.Proofs.Try.prog (92 : Nat) w1 (Addr.mk b_3 (0 : Nat) none)
  (Value.agg #[Value.slice a_4 l c, Value.slice a_5 l_1 c_1, Value.slice a_6 l_2 c_2]) w1_3 ∧
  ∀ (b_4 : Nat) (w1 : World),
  New w1_3 (Obj.cells #[] (9 : Nat)) b_4 w1 →
  ∃ (a_9 : Option Addr),
  ∃ (l : Nat),
  ∃ (c : Nat),
  Ld Go.Proofs.Try.prog (59 : Nat) w1 (Addr.mk b_3 (0 : Nat) none) (Value.slice a_9 l c) ∧
  ∃ (a_10 : Option Addr),
  ∃ (n_2 : Nat),
  ∃ (m_1 : Nat),
  ∃ (w1_4 : World),
  App Go.Proofs.Try.prog #[(59 : Nat), (59 : Nat)] (59 : Nat) w1
  (Value.slice (some (Addr.mk b_4 (0 : Nat) none)) (0 : Nat) (0 : Nat))
  (Value.slice a_9 l c) (Value.slice a_10 n_2 m_1) w1_4 ∧
  JoinP
  (fun (s : Option Addr × Nat × Nat) (w' : World) ↦
  ∃ (i_1 : Int),
  Ld Go.Proofs.Try.prog (3 : Nat) w' (Addr.mk b_1 (1 : Nat) none)
  (Value.int IntKind.i64 i_1) ∧
  ∃ (s_1 : ByteArray),
  B2S Go.Proofs.Try.prog (26 : Nat) (9 : Nat) w' (Value.slice a n m)
  (Value.string s_1) ∧
  onP (Prod.fst s) fun (a : Addr) ↦
  ((0 : Int) ≤ i_1 ∧ i_1 < (↑(Prod.fst (Prod.snd s)) : Int)) ∧
  ∃ (w1 : World),
  St Go.Proofs.Try.prog (9 : Nat) w'
  (Addr.add a (Int.toNat i_1 * (1 : Nat))) (Value.string s_1)
  w1 ∧
  ∀ (b_5 : Nat) (w1_5 : World),
  New w1 (Obj.cells #[] (92 : Nat)) b_5 w1_5 →
  ∃ (a : Option Addr),
  ∃ (l : Nat),
  ∃ (c : Nat),
  Ld Go.Proofs.Try.prog (37 : Nat) w1_5
  (Addr.mk b (1 : Nat) none) (Value.slice a l c) ∧
  ∃ (a_11 : Option Addr),
  ∃ (n : Nat),
  ∃ (m : Nat),
  ∃ (w1 : World),
  App Go.Proofs.Try.prog
  #[(37 : Nat), (37 : Nat)] (37 : Nat)
  w1_5
  (Value.slice
  (some (Addr.mk b_5 (0 : Nat) none))
  (0 : Nat) (0 : Nat))
  (Value.slice a l c)
  (Value.slice a_11 n m) w1 ∧
  ∃ (a : Option Addr),
  ∃ (l : Nat),
  ∃ (c : Nat),
  Ld Go.Proofs.Try.prog (59 : Nat)
  (World.drew w1)
  (Addr.mk b_3 (1 : Nat) none)
  (Value.slice a l c) ∧
  ∃ (a_12 : Option Addr),
  ∃ (l_3 : Nat),
  ∃ (c_3 : Nat),
  Ld Go.Proofs.Try.prog
  (27 : Nat)
  (World.drew w1)
  (Addr.mk b_3 (2 : Nat)
  none)
  (Value.slice a_12 l_3
  c_3) ∧
  ∃ (i_2 : Int),
  Ld Go.Proofs.Try.prog
  (3 : Nat)
  (World.drew w1)
  (Addr.mk b_1
  (1 : Nat) none)
  (Value.int
  IntKind.i64 i_2) ∧
  CallV Go.Proofs.Try.prog
  (71 : Nat)
  [Value.slice a_12
  l_3 c_3,
  Value.int
  IntKind.i64 i_2]
  (World.drew w1)
  fun (e : Ending)
  (w' : World) ↦
  ∃ (a_13 :
  Option Addr),
  ∃ (l_4 : Nat),
  ∃ (c_4 : Nat),
  e =
  Ending.returned
  (Value.slice
  a_13
  l_4
  c_4) ∧
  Ld
  Go.Proofs.Try.prog
  (59 :
  Nat)
  w'
  (Addr.mk
  b_3
  (1 :
  Nat)
  none)
  (Value.slice
  a l
  c) ∧
  onP a_11
  fun
  (a_14 :
  Addr) ↦
  ((0 :
  Int) ≤
  i ∧
  i <
  (↑n :
  Int)) ∧
  ∃ (w1
  :
  World),
  St
  Go.Proofs.Try.prog
  (92 :
  Nat)
  w'
  (Addr.add
  a_14
  (Int.toNat
  i *
  (3 :
  Nat)))
  (Value.agg
  #[Value.slice
  (Prod.fst
  s)
  (Prod.fst
  (Prod.snd
  s))
  (Prod.snd
  (Prod.snd
  s)),
  Value.slice
  a
  l
  c,
  Value.slice
  a_13
  l_4
  c_4])
  w1 ∧
  ∃
  (w1_6
  :
  World),
  St
  Go.Proofs.Try.prog
  (37 :
  Nat)
  w1
  (Addr.mk
  b
  (1 :
  Nat)
  none)
  (Value.slice
  a_11
  n
  m)
  w1_6 ∧
  ∃
  (i
  :
  Int),
  ∃
  (a
  :
  Option
  Addr),
  ∃
  (l
  :
  Nat),
  ∃
  (c
  :
  Nat),
  ∃
  (a_15
  :
  Option
  Addr),
  ∃
  (l_5
  :
  Nat),
  ∃
  (c_5
  :
  Nat),
  ∃
  (a_16
  :
  Option
  Addr),
  ∃
  (l_6
  :
  Nat),
  ∃
  (c_6
  :
  Nat),
  ∃
  (a_17
  :
  Option
  Addr),
  ∃
  (l_7
  :
  Nat),
  ∃
  (c_7
  :
  Nat),
  ∃
  (i_3
  :
  Int),
  ∃
  (i_4
  :
  Int),
  ∃
  (b_6
  :
  Bool),
  Ld
  Go.Proofs.Try.prog
  (41 :
  Nat)
  w1_6
  (Addr.mk
  b
  (0 :
  Nat)
  none)
  (Value.agg
  #[Value.int
  IntKind.i64
  i,
  Value.slice
  a
  l
  c,
  Value.slice
  a_15
  l_5
  c_5,
  Value.slice
  a_16
  l_6
  c_6,
  Value.slice
  a_17
  l_7
  c_7,
  Value.int
  IntKind.i64
  i_3,
  Value.int
  IntKind.i64
  i_4,
  Value.bool
  b_6]) ∧
  ∃
  (w1
  :
  World),
  St
  Go.Proofs.Try.prog
  (41 :
  Nat)
  w1_6
  (Addr.mk
  b_2
  (0 :
  Nat)
  none)
  (Value.agg
  #[Value.int
  IntKind.i64
  i,
  Value.slice
  a
  l
  c,
  Value.slice
  a_15
  l_5
  c_5,
  Value.slice
  a_16
  l_6
  c_6,
  Value.slice
  a_17
  l_7
  c_7,
  Value.int
  IntKind.i64
  i_3,
  Value.int
  IntKind.i64
  i_4,
  Value.bool
  b_6])
  w1 ∧
  ∃
  (i
  :
  Int),
  ∃
  (a
  :
  Option
  Addr),
  ∃
  (l
  :
  Nat),
  ∃
  (c
  :
  Nat),
  ∃
  (a_18
  :
  Option
  Addr),
  ∃
  (l_8
  :
  Nat),
  ∃
  (c_8
  :
  Nat),
  ∃
  (a_19
  :
  Option
  Addr),
  ∃
  (l_9
  :
  Nat),
  ∃
  (c_9
  :
  Nat),
  ∃
  (a_20
  :
  Option
  Addr),
  ∃
  (l_10
  :
  Nat),
  ∃
  (c_10
  :
  Nat),
  ∃
  (i_5
  :
  Int),
  ∃
  (i_6
  :
  Int),
  ∃
  (b
  :
  Bool),
  Ld
  Go.Proofs.Try.prog
  (41 :
  Nat)
  w1
  (Addr.mk
  b_2
  (0 :
  Nat)
  none)
  (Value.agg
  #[Value.int
  IntKind.i64
  i,
  Value.slice
  a
  l
  c,
  Value.slice
  a_18
  l_8
  c_8,
  Value.slice
  a_19
  l_9
  c_9,
  Value.slice
  a_20
  l_10
  c_10,
  Value.int
  IntKind.i64
  i_5,
  Value.int
  IntKind.i64
  i_6,
  Value.bool
  b]) ∧
  R
  (Ending.returned
  (Value.agg
  #[Value.int
  IntKind.i64
  i,
  Value.slice
  a
  l
  c,
  Value.slice
  a_18
  l_8
  c_8,
  Value.slice
  a_19
  l_9
  c_9,
  Value.slice
  a_20
  l_10
  c_10,
  Value.int
  IntKind.i64
  i_5,
  Value.int
  IntKind.i64
  i_6,
  Value.bool
  b]))
  w1)
  fun (J : Option Addr × Nat × Nat → World → Prop) ↦
  ∃ (i : Int),
  Ld Go.Proofs.Try.prog (3 : Nat) w1_4 (Addr.mk b_1 (1 : Nat) none)
  (Value.int IntKind.i64 i) ∧
  br (decide (i = (↑n_2 : Int)))
  (∀ (b : Nat) (w1 : World),
  New w1_4 (Obj.cells #[Value.string (ByteArray.mk #[])] (9 : Nat)) b w1 →
  ∃ (a : Option Addr),
  ∃ (n : Nat),
  ∃ (m : Nat),
  ∃ (w1_5 : World),
  App Go.Proofs.Try.prog #[(59 : Nat), (59 : Nat)] (59 : Nat) w1
  (Value.slice a_10 n_2 m_1)
  (Value.slice (some (Addr.mk b (0 : Nat) none)) (1 : Nat)
  (1 : Nat))
  (Value.slice a n m) w1_5 ∧
  J (a, n, m) w1_5)
  (J (a_10, n_2, m_1) w1_4)
theorem rwritten.eq (d_Room : Int) (d_Filesa : Option Addr) (d_Filesn : Nat) (d_Filesc : Nat) (d_Namesa : Option Addr) (d_Namesn : Nat) (d_Namesc : Nat) (d_Firma : Option Addr) (d_Firmn : Nat) (d_Firmc : Nat) (d_Sincea : Option Addr) (d_Sincen : Nat) (d_Sincec : Nat) (d_Armed : Int) (d_Denied : Int) (d_Dead : Bool) (o_Kind : Int) (o_N : Int) (o_Name : ByteArray) (o_To : ByteArray) (o_Ba : Option Addr) (o_Bn : Nat) (o_Bc : Nat) (o_Picksa : Option Addr) (o_Picksn : Nat) (o_Picksc : Nat) (w : World) (R : Ending → World → Prop) : bodyV Go.Proofs.Try.prog rwritten.an Go.Proofs.Try.f63 [.agg #[.int .i64 d_Room, .slice d_Filesa d_Filesn d_Filesc, .slice d_Namesa d_Namesn d_Namesc, .slice d_Firma d_Firmn d_Firmc, .slice d_Sincea d_Sincen d_Sincec, .int .i64 d_Armed, .int .i64 d_Denied, .bool d_Dead], .agg #[.int .i64 o_Kind, .int .i64 o_N, .string o_Name, .string o_To, .slice o_Ba o_Bn o_Bc, .slice o_Picksa o_Picksn o_Picksc]] w R = rwritten.vc d_Room d_Filesa d_Filesn d_Filesc d_Namesa d_Namesn d_Namesc d_Firma d_Firmn d_Firmc d_Sincea d_Sincen d_Sincec d_Armed d_Denied d_Dead o_Kind o_N o_Name o_To o_Ba o_Bn o_Bc o_Picksa o_Picksn o_Picksc w R := by kernel_rfl
theorem rwritten.ok (d_Room : Int) (d_Filesa : Option Addr) (d_Filesn : Nat) (d_Filesc : Nat) (d_Namesa : Option Addr) (d_Namesn : Nat) (d_Namesc : Nat) (d_Firma : Option Addr) (d_Firmn : Nat) (d_Firmc : Nat) (d_Sincea : Option Addr) (d_Sincen : Nat) (d_Sincec : Nat) (d_Armed : Int) (d_Denied : Int) (d_Dead : Bool) (o_Kind : Int) (o_N : Int) (o_Name : ByteArray) (o_To : ByteArray) (o_Ba : Option Addr) (o_Bn : Nat) (o_Bc : Nat) (o_Picksa : Option Addr) (o_Picksn : Nat) (o_Picksc : Nat) (w : World) (R : Ending → World → Prop) (h : rwritten.vc d_Room d_Filesa d_Filesn d_Filesc d_Namesa d_Namesn d_Namesc d_Firma d_Firmn d_Firmc d_Sincea d_Sincen d_Sincec d_Armed d_Denied d_Dead o_Kind o_N o_Name o_To o_Ba o_Bn o_Bc o_Picksa o_Picksn o_Picksc w R) : Calls Go.Proofs.Try.prog 63 #[.agg #[.int .i64 d_Room, .slice d_Filesa d_Filesn d_Filesc, .slice d_Namesa d_Namesn d_Namesc, .slice d_Firma d_Firmn d_Firmc, .slice d_Sincea d_Sincen d_Sincec, .int .i64 d_Armed, .int .i64 d_Denied, .bool d_Dead], .agg #[.int .i64 o_Kind, .int .i64 o_N, .string o_Name, .string o_To, .slice o_Ba o_Bn o_Bc, .slice o_Picksa o_Picksn o_Picksc]] w R :=
  calls_of_bodyV noNum (an := rwritten.an) (args := [.agg #[.int .i64 d_Room, .slice d_Filesa d_Filesn d_Filesc, .slice d_Namesa d_Namesn d_Namesc, .slice d_Firma d_Firmn d_Firmc, .slice d_Sincea d_Sincen d_Sincec, .int .i64 d_Armed, .int .i64 d_Denied, .bool d_Dead], .agg #[.int .i64 o_Kind, .int .i64 o_N, .string o_Name, .string o_To, .slice o_Ba o_Bn o_Bc, .slice o_Picksa o_Picksn o_Picksc]]) Go.Proofs.Try.func63 (by kernel_rfl) ((rwritten.eq d_Room d_Filesa d_Filesn d_Filesc d_Namesa d_Namesn d_Namesc d_Firma d_Firmn d_Firmc d_Sincea d_Sincen d_Sincec d_Armed d_Denied d_Dead o_Kind o_N o_Name o_To o_Ba o_Bn o_Bc o_Picksa o_Picksn o_Picksc w R).mpr h)

/-- incunable/incunableref09.without -/
def rwithout.an : An := { wraps := [], loops := [(3, [(5, .inr 3), (6, .inl .i64)])], joins := [], ranges := [] }
def rwithout.vc (la : Option Addr) (ln : Nat) (lc : Nat) (name : ByteArray) (w : World) (R : Ending → World → Prop) : Prop :=
  LoopP
  (fun (s : (Option Addr × Nat × Nat) × Int) (w' : World) (next : (Option Addr × Nat × Nat) × Int → World → Prop) ↦
  br (decide (Prod.snd s < (↑ln : Int)))
  (onP la fun (a : Addr) ↦
  ((0 : Int) ≤ Prod.snd s ∧ Prod.snd s < (↑ln : Int)) ∧
  ∃ (s_1 : ByteArray),
  Ld Go.Proofs.Try.prog (9 : Nat) w' (Addr.add a (Int.toNat (Prod.snd s) * (2 : Nat))) (Value.string s_1) ∧
  br (!decide (s_1 = name))
  (onP la fun (a : Addr) ↦
  ((0 : Int) ≤ Prod.snd s ∧ Prod.snd s < (↑ln : Int)) ∧
  ∃ (s_2 : ByteArray),
  ∃ (i : Int),
  Ld Go.Proofs.Try.prog (108 : Nat) w' (Addr.add a (Int.toNat (Prod.snd s) * (2 : Nat))) (Value.agg #[Value.string s_2, Value.int IntKind.i64 i]) ∧
  ∀ (b : Nat) (w1 : World),
  New w' (Obj.cells #[Value.string s_2, Value.int IntKind.i64 i] (108 : Nat)) b w1 →
  ∃ (a : Option Addr),
  ∃ (n : Nat),
  ∃ (m : Nat),
  ∃ (w1_1 : World),
  App Go.Proofs.Try.prog #[(38 : Nat), (38 : Nat)] (38 : Nat) w1
  (Value.slice (Prod.fst (Prod.fst s)) (Prod.fst (Prod.snd (Prod.fst s))) (Prod.snd (Prod.snd (Prod.fst s))))
  (Value.slice (some (Addr.mk b (0 : Nat) none)) (1 : Nat) (1 : Nat)) (Value.slice a n m) w1_1 ∧
  inR IntKind.i64 (Prod.snd s + (1 : Int)) ∧ next ((a, n, m), Prod.snd s + (1 : Int)) w1_1)
  (inR IntKind.i64 (Prod.snd s + (1 : Int)) ∧ next ((Prod.fst (Prod.fst s), Prod.fst (Prod.snd (Prod.fst s)), Prod.snd (Prod.snd (Prod.fst s))), Prod.snd s + (1 : Int)) w'))
  (R (Ending.returned (Value.slice (Prod.fst (Prod.fst s)) (Prod.fst (Prod.snd (Prod.fst s))) (Prod.snd (Prod.snd (Prod.fst s))))) w'))
  ((none, (0 : Nat), (0 : Nat)), (0 : Int)) w
theorem rwithout.eq (la : Option Addr) (ln : Nat) (lc : Nat) (name : ByteArray) (w : World) (R : Ending → World → Prop) : bodyV Go.Proofs.Try.prog rwithout.an Go.Proofs.Try.f64 [.slice la ln lc, .string name] w R = rwithout.vc la ln lc name w R := by kernel_rfl
theorem rwithout.ok (la : Option Addr) (ln : Nat) (lc : Nat) (name : ByteArray) (w : World) (R : Ending → World → Prop) (h : rwithout.vc la ln lc name w R) : Calls Go.Proofs.Try.prog 64 #[.slice la ln lc, .string name] w R :=
  calls_of_bodyV noNum (an := rwithout.an) (args := [.slice la ln lc, .string name]) Go.Proofs.Try.func64 (by kernel_rfl) ((rwithout.eq la ln lc name w R).mpr h)

/-- incunable/incunableref09.add -/
def radd.an : An := { wraps := [], loops := [(4, [(5, .inr 3), (6, .inr 0), (7, .inl .i64)])], joins := [(9, [(5, .inr 3), (6, .inr 0)])], ranges := [] }
def radd.vc (la : Option Addr) (ln : Nat) (lc : Nat) (n : Int) (w : World) (R : Ending → World → Prop) : Prop :=
  LoopP
  (fun (s : (Option Addr × Nat × Nat) × Bool × Int) (w' : World) (next : (Option Addr × Nat × Nat) × Bool × Int → World → Prop) ↦
  br (decide (Prod.snd (Prod.snd s) < (↑ln : Int)))
  (JoinP
  (fun (s_1 : (Option Addr × Nat × Nat) × Bool) (w' : World) ↦
  onP la fun (a : Addr) ↦
  ((0 : Int) ≤ Prod.snd (Prod.snd s) ∧ Prod.snd (Prod.snd s) < (↑ln : Int)) ∧
  ∃ (i : Int),
  Ld Go.Proofs.Try.prog (3 : Nat) w' (Addr.add a (Int.toNat (Prod.snd (Prod.snd s)) * (1 : Nat))) (Value.int IntKind.i64 i) ∧
  br (!decide (i = n))
  (onP la fun (a : Addr) ↦
  ((0 : Int) ≤ Prod.snd (Prod.snd s) ∧ Prod.snd (Prod.snd s) < (↑ln : Int)) ∧
  ∃ (i : Int),
  Ld Go.Proofs.Try.prog (3 : Nat) w' (Addr.add a (Int.toNat (Prod.snd (Prod.snd s)) * (1 : Nat))) (Value.int IntKind.i64 i) ∧
  ∀ (b : Nat) (w1 : World),
  New w' (Obj.cells #[Value.int IntKind.i64 i] (3 : Nat)) b w1 →
  ∃ (a : Option Addr),
  ∃ (n : Nat),
  ∃ (m : Nat),
  ∃ (w1_1 : World),
  App Go.Proofs.Try.prog #[(27 : Nat), (27 : Nat)] (27 : Nat) w1
  (Value.slice (Prod.fst (Prod.fst s_1)) (Prod.fst (Prod.snd (Prod.fst s_1))) (Prod.snd (Prod.snd (Prod.fst s_1))))
  (Value.slice (some (Addr.mk b (0 : Nat) none)) (1 : Nat) (1 : Nat)) (Value.slice a n m) w1_1 ∧
  inR IntKind.i64 (Prod.snd (Prod.snd s) + (1 : Int)) ∧ next ((a, n, m), Prod.snd s_1, Prod.snd (Prod.snd s) + (1 : Int)) w1_1)
  (inR IntKind.i64 (Prod.snd (Prod.snd s) + (1 : Int)) ∧
  next ((Prod.fst (Prod.fst s_1), Prod.fst (Prod.snd (Prod.fst s_1)), Prod.snd (Prod.snd (Prod.fst s_1))), Prod.snd s_1, Prod.snd (Prod.snd s) + (1 : Int)) w'))
  fun (J : (Option Addr × Nat × Nat) × Bool → World → Prop) ↦
  br (!Prod.fst (Prod.snd s))
  (onP la fun (a : Addr) ↦
  ((0 : Int) ≤ Prod.snd (Prod.snd s) ∧ Prod.snd (Prod.snd s) < (↑ln : Int)) ∧
  ∃ (i : Int),
  Ld Go.Proofs.Try.prog (3 : Nat) w' (Addr.add a (Int.toNat (Prod.snd (Prod.snd s)) * (1 : Nat))) (Value.int IntKind.i64 i) ∧
  br (decide (n ≤ i))
  (∀ (b : Nat) (w1 : World),
  New w' (Obj.cells #[Value.int IntKind.i64 n] (3 : Nat)) b w1 →
  ∃ (a : Option Addr),
  ∃ (n : Nat),
  ∃ (m : Nat),
  ∃ (w1_1 : World),
  App Go.Proofs.Try.prog #[(27 : Nat), (27 : Nat)] (27 : Nat) w1 (Value.slice (Prod.fst (Prod.fst s)) (Prod.fst (Prod.snd (Prod.fst s))) (Prod.snd (Prod.snd (Prod.fst s))))
  (Value.slice (some (Addr.mk b (0 : Nat) none)) (1 : Nat) (1 : Nat)) (Value.slice a n m) w1_1 ∧
  J ((a, n, m), true) w1_1)
  (J ((Prod.fst (Prod.fst s), Prod.fst (Prod.snd (Prod.fst s)), Prod.snd (Prod.snd (Prod.fst s))), Prod.fst (Prod.snd s)) w'))
  (J ((Prod.fst (Prod.fst s), Prod.fst (Prod.snd (Prod.fst s)), Prod.snd (Prod.snd (Prod.fst s))), Prod.fst (Prod.snd s)) w'))
  (br (!Prod.fst (Prod.snd s))
  (∀ (b : Nat) (w1 : World),
  New w' (Obj.cells #[Value.int IntKind.i64 n] (3 : Nat)) b w1 →
  ∃ (a : Option Addr),
  ∃ (n : Nat),
  ∃ (m : Nat),
  ∃ (w1_1 : World),
  App Go.Proofs.Try.prog #[(27 : Nat), (27 : Nat)] (27 : Nat) w1 (Value.slice (Prod.fst (Prod.fst s)) (Prod.fst (Prod.snd (Prod.fst s))) (Prod.snd (Prod.snd (Prod.fst s))))
  (Value.slice (some (Addr.mk b (0 : Nat) none)) (1 : Nat) (1 : Nat)) (Value.slice a n m) w1_1 ∧
  R (Ending.returned (Value.slice a n m)) w1_1)
  (R (Ending.returned (Value.slice (Prod.fst (Prod.fst s)) (Prod.fst (Prod.snd (Prod.fst s))) (Prod.snd (Prod.snd (Prod.fst s))))) w')))
  ((none, (0 : Nat), (0 : Nat)), false, (0 : Int)) w
theorem radd.eq (la : Option Addr) (ln : Nat) (lc : Nat) (n : Int) (w : World) (R : Ending → World → Prop) : bodyV Go.Proofs.Try.prog radd.an Go.Proofs.Try.f71 [.slice la ln lc, .int .i64 n] w R = radd.vc la ln lc n w R := by kernel_rfl
theorem radd.ok (la : Option Addr) (ln : Nat) (lc : Nat) (n : Int) (w : World) (R : Ending → World → Prop) (h : radd.vc la ln lc n w R) : Calls Go.Proofs.Try.prog 71 #[.slice la ln lc, .int .i64 n] w R :=
  calls_of_bodyV noNum (an := radd.an) (args := [.slice la ln lc, .int .i64 n]) Go.Proofs.Try.func71 (by kernel_rfl) ((radd.eq la ln lc n w R).mpr h)

/-- incunable/incunablelaw09.VaultRoom -/
def vaultRoom.an : An := { wraps := [], loops := [(5, [(5, .inr 2), (26, .inl .i64)])], joins := [], ranges := [] }
def vaultRoom.vc (room : Int) (scripta : Option Addr) (scriptn : Nat) (scriptc : Nat) (w : World) (R : Ending → World → Prop) : Prop :=
  CallV Go.Proofs.Try.prog (10 : Nat) [Value.int IntKind.i64 room] w fun (e : Ending) (w' : World) ↦
  ∃ (p : Option Addr),
  e = Ending.returned (Value.pointer p) ∧
  ∃ (b : Bool),
  Eqv Go.Proofs.Try.prog BinOp.eql (23 : Nat) (Operand.tmp (12 : Nat)) (Operand.const (Value.pointer none)) w' (Value.pointer p) (Value.pointer none) b ∧
  br b
  (∃ (b : Bool),
  Eqv Go.Proofs.Try.prog BinOp.neq (23 : Nat) (Operand.tmp (19 : Nat)) (Operand.const (Value.pointer none)) w' (Value.pointer p) (Value.pointer none) b ∧
  br b (CallV Go.Proofs.Try.prog (11 : Nat) [] w' fun (e : Ending) (w' : World) ↦ ∃ (b : Bool), e = Ending.returned (Value.bool b) ∧ R (Ending.returned (Value.bool b)) w')
  (R (Ending.returned (Value.bool false)) w'))
  (br (decide ((300 : Int) < (↑scriptn : Int)))
  (∃ (b : Bool),
  Eqv Go.Proofs.Try.prog BinOp.neq (23 : Nat) (Operand.tmp (19 : Nat)) (Operand.const (Value.pointer none)) w' (Value.pointer p) (Value.pointer none) b ∧
  br b (CallV Go.Proofs.Try.prog (11 : Nat) [] w' fun (e : Ending) (w' : World) ↦ ∃ (b : Bool), e = Ending.returned (Value.bool b) ∧ R (Ending.returned (Value.bool b)) w')
  (R (Ending.returned (Value.bool false)) w'))
  (LoopP
  (fun (s : Option Addr × Int) (w' : World) (next : Option Addr × Int → World → Prop) ↦
  br (decide (Prod.snd s < (↑scriptn : Int)))
  (onP scripta fun (a : Addr) ↦
  ((0 : Int) ≤ Prod.snd s ∧ Prod.snd s < (↑scriptn : Int)) ∧
  ∃ (i : Int),
  ∃ (i_1 : Int),
  ∃ (s_1 : ByteArray),
  ∃ (s_2 : ByteArray),
  ∃ (a_1 : Option Addr),
  ∃ (l : Nat),
  ∃ (c : Nat),
  ∃ (a_2 : Option Addr),
  ∃ (l_1 : Nat),
  ∃ (c_1 : Nat),
  Ld Go.Proofs.Try.prog (29 : Nat) w' (Addr.add a (Int.toNat (Prod.snd s) * (6 : Nat)))
  (Value.agg #[Value.int IntKind.i64 i, Value.int IntKind.i64 i_1, Value.string s_1, Value.string s_2, Value.slice a_1 l c, Value.slice a_2 l_1 c_1]) ∧
  ∀ (b : Nat) (w1 : World),
  New w'
  (Obj.cells
  #[Value.int IntKind.i64 (0 : Int), Value.int IntKind.i64 (0 : Int), Value.string (ByteArray.mk #[]), Value.string (ByteArray.mk #[]),
  Value.slice none (0 : Nat) (0 : Nat), Value.slice none (0 : Nat) (0 : Nat)]
  (29 : Nat))
  b w1 →
  ∃ (w1_1 : World),
  St Go.Proofs.Try.prog (29 : Nat) w1 (Addr.mk b (0 : Nat) none)
  (Value.agg
  #[Value.int IntKind.i64 i, Value.int IntKind.i64 i_1, Value.string s_1, Value.string s_2, Value.slice a_1 l c, Value.slice a_2 l_1 c_1])
  w1_1 ∧
  ∃ (i : Int),
  ∃ (i_2 : Int),
  ∃ (s_3 : ByteArray),
  ∃ (s_4 : ByteArray),
  ∃ (a : Option Addr),
  ∃ (l : Nat),
  ∃ (c : Nat),
  ∃ (a_3 : Option Addr),
  ∃ (l_2 : Nat),
  ∃ (c_2 : Nat),
  Ld Go.Proofs.Try.prog (29 : Nat) w1_1 (Addr.mk b (0 : Nat) none)
  (Value.agg
  #[Value.int IntKind.i64 i, Value.int IntKind.i64 i_2, Value.string s_3, Value.string s_4, Value.slice a l c,
  Value.slice a_3 l_2 c_2]) ∧
  CallV Go.Proofs.Try.prog (12 : Nat)
  [Value.pointer (Prod.fst s),
  Value.agg
  #[Value.int IntKind.i64 i, Value.int IntKind.i64 i_2, Value.string s_3, Value.string s_4, Value.slice a l c,
  Value.slice a_3 l_2 c_2]]
  w1_1 fun (e : Ending) (w' : World) ↦
  ∃ (p : Option Addr),
  ∃ (s_5 : ByteArray),
  ∃ (i : Int),
  e = Ending.returned (Value.tuple #[Value.pointer p, Value.agg #[Value.string s_5, Value.int IntKind.i64 i]]) ∧
  ∀ (b_1 : Nat) (w1 : World),
  New w' (Obj.cells #[Value.string (ByteArray.mk #[]), Value.int IntKind.i64 (0 : Int)] (32 : Nat)) b_1 w1 →
  ∃ (w1_2 : World),
  St Go.Proofs.Try.prog (32 : Nat) w1 (Addr.mk b_1 (0 : Nat) none)
  (Value.agg #[Value.string s_5, Value.int IntKind.i64 i]) w1_2 ∧
  ∃ (b_2 : Bool),
  Eqv Go.Proofs.Try.prog BinOp.eql (23 : Nat) (Operand.tmp (37 : Nat)) (Operand.const (Value.pointer none))
  w1_2 (Value.pointer p) (Value.pointer none) b_2 ∧
  br b_2 (R (Ending.returned (Value.bool false)) w1_2)
  (CallV Go.Proofs.Try.prog (13 : Nat) [Value.pointer p] w1_2 fun (e : Ending) (w' : World) ↦
  ∃ (i : Int),
  e = Ending.returned (Value.int IntKind.i64 i) ∧
  br (decide (max room (0 : Int) < i))
  (∃ (i : Int),
  Ld Go.Proofs.Try.prog (3 : Nat) w' (Addr.mk b (0 : Nat) none) (Value.int IntKind.i64 i) ∧
  br (!decide (i = (9 : Int))) (R (Ending.returned (Value.bool false)) w')
  (∃ (i : Int),
  Ld Go.Proofs.Try.prog (3 : Nat) w' (Addr.mk b (0 : Nat) none)
  (Value.int IntKind.i64 i) ∧
  br (decide (i = (9 : Int)))
  (CallV Go.Proofs.Try.prog (11 : Nat) [] w' fun (e : Ending) (w' : World) ↦
  ∃ (b : Bool),
  e = Ending.returned (Value.bool b) ∧ R (Ending.returned (Value.bool b)) w')
  (inR IntKind.i64 (Prod.snd s + (1 : Int)) ∧
  next (p, Prod.snd s + (1 : Int)) w')))
  (∃ (i : Int),
  Ld Go.Proofs.Try.prog (3 : Nat) w' (Addr.mk b (0 : Nat) none) (Value.int IntKind.i64 i) ∧
  br (decide (i = (9 : Int)))
  (CallV Go.Proofs.Try.prog (11 : Nat) [] w' fun (e : Ending) (w' : World) ↦
  ∃ (b : Bool),
  e = Ending.returned (Value.bool b) ∧ R (Ending.returned (Value.bool b)) w')
  (inR IntKind.i64 (Prod.snd s + (1 : Int)) ∧ next (p, Prod.snd s + (1 : Int)) w'))))
  (CallV Go.Proofs.Try.prog (11 : Nat) [] w' fun (e : Ending) (w' : World) ↦ ∃ (b : Bool), e = Ending.returned (Value.bool b) ∧ R (Ending.returned (Value.bool b)) w'))
  (p, (0 : Int)) w'))
theorem vaultRoom.eq (room : Int) (scripta : Option Addr) (scriptn : Nat) (scriptc : Nat) (w : World) (R : Ending → World → Prop) : bodyV Go.Proofs.Try.prog vaultRoom.an Go.Proofs.Try.f3 [.int .i64 room, .slice scripta scriptn scriptc] w R = vaultRoom.vc room scripta scriptn scriptc w R := by kernel_rfl
theorem vaultRoom.ok (room : Int) (scripta : Option Addr) (scriptn : Nat) (scriptc : Nat) (w : World) (R : Ending → World → Prop) (h : vaultRoom.vc room scripta scriptn scriptc w R) : Calls Go.Proofs.Try.prog 3 #[.int .i64 room, .slice scripta scriptn scriptc] w R :=
  calls_of_bodyV noNum (an := vaultRoom.an) (args := [.int .i64 room, .slice scripta scriptn scriptc]) Go.Proofs.Try.func3 (by kernel_rfl) ((vaultRoom.eq room scripta scriptn scriptc w R).mpr h)

/-- incunable/incunablelaw09.VaultLasts -/
def vaultLasts.an : An := { wraps := [], loops := [(16, [(77, .inl .i64)])], joins := [], ranges := [] }
def vaultLasts.vc (scripta : Option Addr) (scriptn : Nat) (scriptc : Nat) (morea : Option Addr) (moren : Nat) (morec : Nat) (picksa : Option Addr) (picksn : Nat) (picksc : Nat) (w : World) (R : Ending → World → Prop) : Prop :=
  br (decide ((100 : Int) < (↑scriptn : Int)))
  (CallV Go.Proofs.Try.prog (11 : Nat) [] w fun (e : Ending) (w' : World) ↦ ∃ (b : Bool), e = Ending.returned (Value.bool b) ∧ R (Ending.returned (Value.bool b)) w')
  (br (decide ((100 : Int) < (↑moren : Int)))
  (CallV Go.Proofs.Try.prog (11 : Nat) [] w fun (e : Ending) (w' : World) ↦ ∃ (b : Bool), e = Ending.returned (Value.bool b) ∧ R (Ending.returned (Value.bool b)) w')
  (br (decide ((300 : Int) < (↑picksn : Int)))
  (CallV Go.Proofs.Try.prog (11 : Nat) [] w fun (e : Ending) (w' : World) ↦ ∃ (b : Bool), e = Ending.returned (Value.bool b) ∧ R (Ending.returned (Value.bool b)) w')
  (CallV Go.Proofs.Try.prog (14 : Nat) [Value.int IntKind.i64 (40 : Int), Value.slice scripta scriptn scriptc] w fun (e : Ending) (w' : World) ↦
  ∃ (p : Option Addr),
  ∃ (i : Int),
  ∃ (a : Option Addr),
  ∃ (l : Nat),
  ∃ (c : Nat),
  ∃ (a_1 : Option Addr),
  ∃ (l_1 : Nat),
  ∃ (c_1 : Nat),
  ∃ (a_2 : Option Addr),
  ∃ (l_2 : Nat),
  ∃ (c_2 : Nat),
  ∃ (a_3 : Option Addr),
  ∃ (l_3 : Nat),
  ∃ (c_3 : Nat),
  ∃ (i_1 : Int),
  ∃ (i_2 : Int),
  ∃ (b : Bool),
  ∃ (b_1 : Bool),
  e =
  Ending.returned
  (Value.tuple
  #[Value.pointer p,
  Value.agg
  #[Value.int IntKind.i64 i, Value.slice a l c, Value.slice a_1 l_1 c_1, Value.slice a_2 l_2 c_2, Value.slice a_3 l_3 c_3,
  Value.int IntKind.i64 i_1, Value.int IntKind.i64 i_2, Value.bool b],
  Value.bool b_1]) ∧
  ∀ (b_2 : Nat) (w1 : World),
  New w'
  (Obj.cells
  #[Value.int IntKind.i64 (0 : Int), Value.slice none (0 : Nat) (0 : Nat), Value.slice none (0 : Nat) (0 : Nat),
  Value.slice none (0 : Nat) (0 : Nat), Value.slice none (0 : Nat) (0 : Nat), Value.int IntKind.i64 (0 : Int), Value.int IntKind.i64 (0 : Int),
  Value.bool false]
  (41 : Nat))
  b_2 w1 →
  ∃ (w1_1 : World),
  St Go.Proofs.Try.prog (41 : Nat) w1 (Addr.mk b_2 (0 : Nat) none)
  (Value.agg
  #[Value.int IntKind.i64 i, Value.slice a l c, Value.slice a_1 l_1 c_1, Value.slice a_2 l_2 c_2, Value.slice a_3 l_3 c_3,
  Value.int IntKind.i64 i_1, Value.int IntKind.i64 i_2, Value.bool b])
  w1_1 ∧
  br (!b_1)
  (br b_1
  (CallV Go.Proofs.Try.prog (11 : Nat) [] w1_1 fun (e : Ending) (w' : World) ↦
  ∃ (b : Bool), e = Ending.returned (Value.bool b) ∧ R (Ending.returned (Value.bool b)) w')
  (R (Ending.returned (Value.bool false)) w1_1))
  (∃ (b : Bool),
  Ld Go.Proofs.Try.prog (4 : Nat) w1_1 (Addr.mk b_2 (7 : Nat) none) (Value.bool b) ∧
  br b
  (br b_1
  (CallV Go.Proofs.Try.prog (11 : Nat) [] w1_1 fun (e : Ending) (w' : World) ↦
  ∃ (b : Bool), e = Ending.returned (Value.bool b) ∧ R (Ending.returned (Value.bool b)) w')
  (R (Ending.returned (Value.bool false)) w1_1))
  (CallV Go.Proofs.Try.prog (15 : Nat) [Value.pointer p, Value.int IntKind.i64 (0 : Int)] w1_1 fun (e : Ending) (w' : World) ↦
  e = Ending.returned (Value.tuple #[]) ∧
  CallV Go.Proofs.Try.prog (16 : Nat) [Value.pointer p, Value.int IntKind.i64 (0 : Int)] w' fun (e : Ending) (w' : World) ↦
  e = Ending.returned (Value.tuple #[]) ∧
  CallV Go.Proofs.Try.prog (17 : Nat)
  [Value.pointer p, Value.string (ByteArray.mk #[(109 : UInt8), (105 : UInt8), (110 : UInt8), (101 : UInt8)])] w'
  fun (e : Ending) (w' : World) ↦
  ∃ (i : Int),
  e = Ending.returned (Value.int IntKind.i64 i) ∧
  br (!decide (i = (0 : Int))) (R (Ending.returned (Value.bool false)) w')
  (∀ (b : Nat) (w1 : World),
  New w'
  (Obj.cells
  #[Value.int IntKind.u8 (107 : Int), Value.int IntKind.u8 (101 : Int), Value.int IntKind.u8 (112 : Int),
  Value.int IntKind.u8 (116 : Int)]
  (5 : Nat))
  b w1 →
  ∃ (a : Option Addr),
  ∃ (l : Nat),
  ∃ (c : Nat),
  ∃ (w1_2 : World),
  S2B Go.Proofs.Try.prog (26 : Nat) (26 : Nat) w1
  (Value.slice (some (Addr.mk b (0 : Nat) none)) (4 : Nat) (4 : Nat)) (Value.slice a l c) w1_2 ∧
  CallV Go.Proofs.Try.prog (18 : Nat)
  [Value.pointer p,
  Value.string (ByteArray.mk #[(109 : UInt8), (105 : UInt8), (110 : UInt8), (101 : UInt8)]),
  Value.int IntKind.i64 (0 : Int), Value.slice a l c]
  w1_2 fun (e : Ending) (w' : World) ↦
  ∃ (i : Int),
  e = Ending.returned (Value.int IntKind.i64 i) ∧
  br (!decide (i = (0 : Int)))
  (CallV Go.Proofs.Try.prog (11 : Nat) [] w' fun (e : Ending) (w' : World) ↦
  ∃ (b : Bool),
  e = Ending.returned (Value.bool b) ∧
  br b (R (Ending.returned (Value.bool (decide (i = (94 : Int))))) w')
  (R (Ending.returned (Value.bool false)) w'))
  (CallV Go.Proofs.Try.prog (19 : Nat)
  [Value.pointer p,
  Value.string (ByteArray.mk #[(109 : UInt8), (105 : UInt8), (110 : UInt8), (101 : UInt8)])]
  w' fun (e : Ending) (w' : World) ↦
  ∃ (i : Int),
  e = Ending.returned (Value.int IntKind.i64 i) ∧
  br (!decide (i = (0 : Int))) (R (Ending.returned (Value.bool false)) w')
  (CallV Go.Proofs.Try.prog (20 : Nat) [Value.pointer p] w' fun (e : Ending) (w' : World) ↦
  ∃ (i : Int),
  e = Ending.returned (Value.int IntKind.i64 i) ∧
  br (!decide (i = (0 : Int))) (R (Ending.returned (Value.bool false)) w')
  (LoopP
  (fun (s : Int) (w' : World) (next : Int → World → Prop) ↦
  br (decide (s < (↑moren : Int)))
  (onP morea fun (a : Addr) ↦
  ((0 : Int) ≤ s ∧ s < (↑moren : Int)) ∧
  ∃ (i : Int),
  ∃ (i_3 : Int),
  ∃ (s_1 : ByteArray),
  ∃ (s_2 : ByteArray),
  ∃ (a_5 : Option Addr),
  ∃ (l : Nat),
  ∃ (c : Nat),
  ∃ (a_6 : Option Addr),
  ∃ (l_4 : Nat),
  ∃ (c_4 : Nat),
  Ld Go.Proofs.Try.prog (29 : Nat) w'
  (Addr.add a (Int.toNat s * (6 : Nat)))
  (Value.agg
  #[Value.int IntKind.i64 i,
  Value.int IntKind.i64 i_3, Value.string s_1,
  Value.string s_2, Value.slice a_5 l c,
  Value.slice a_6 l_4 c_4]) ∧
  ∀ (b : Nat) (w1 : World),
  New w'
  (Obj.cells
  #[Value.int IntKind.i64 (0 : Int),
  Value.int IntKind.i64 (0 : Int),
  Value.string (ByteArray.mk #[]),
  Value.string (ByteArray.mk #[]),
  Value.slice none (0 : Nat) (0 : Nat),
  Value.slice none (0 : Nat) (0 : Nat)]
  (29 : Nat))
  b w1 →
  ∃ (w1_3 : World),
  St Go.Proofs.Try.prog (29 : Nat) w1
  (Addr.mk b (0 : Nat) none)
  (Value.agg
  #[Value.int IntKind.i64 i,
  Value.int IntKind.i64 i_3,
  Value.string s_1, Value.string s_2,
  Value.slice a_5 l c,
  Value.slice a_6 l_4 c_4])
  w1_3 ∧
  ∃ (i : Int),
  Ld Go.Proofs.Try.prog (3 : Nat) w1_3
  (Addr.mk b (0 : Nat) none)
  (Value.int IntKind.i64 i) ∧
  br (decide (i < (9 : Int)))
  (∃ (i : Int),
  Ld Go.Proofs.Try.prog (3 : Nat) w1_3
  (Addr.mk b (0 : Nat) none)
  (Value.int IntKind.i64 i) ∧
  br (decide ((0 : Int) ≤ i))
  (∃ (s_3 : ByteArray),
  Ld Go.Proofs.Try.prog (9 : Nat)
  w1_3
  (Addr.mk b (2 : Nat) none)
  (Value.string s_3) ∧
  br
  (!decide
  (s_3 =
  ByteArray.mk
  #[(109 : UInt8),
  (105 : UInt8),
  (110 : UInt8),
  (101 : UInt8)]))
  (∃ (s_4 : ByteArray),
  Ld Go.Proofs.Try.prog
  (9 : Nat) w1_3
  (Addr.mk b (3 : Nat)
  none)
  (Value.string s_4) ∧
  br
  (!decide
  (s_4 =
  ByteArray.mk
  #[(109 :
  UInt8),
  (105 :
  UInt8),
  (110 :
  UInt8),
  (101 :
  UInt8)]))
  (∃ (i : Int),
  ∃ (i_4 : Int),
  ∃ (s_5 :
  ByteArray),
  ∃ (s_6 :
  ByteArray),
  ∃ (a :
  Option
  Addr),
  ∃ (l :
  Nat),
  ∃ (c :
  Nat),
  ∃ (a_7
  :
  Option
  Addr),
  ∃
  (l_5
  :
  Nat),
  ∃
  (c_5
  :
  Nat),
  Ld
  Go.Proofs.Try.prog
  (29 :
  Nat)
  w1_3
  (Addr.mk
  b
  (0 :
  Nat)
  none)
  (Value.agg
  #[Value.int
  IntKind.i64
  i,
  Value.int
  IntKind.i64
  i_4,
  Value.string
  s_5,
  Value.string
  s_6,
  Value.slice
  a
  l
  c,
  Value.slice
  a_7
  l_5
  c_5]) ∧
  CallV
  Go.Proofs.Try.prog
  (12 :
  Nat)
  [Value.pointer
  p,
  Value.agg
  #[Value.int
  IntKind.i64
  i,
  Value.int
  IntKind.i64
  i_4,
  Value.string
  s_5,
  Value.string
  s_6,
  Value.slice
  a
  l
  c,
  Value.slice
  a_7
  l_5
  c_5]]
  w1_3
  fun
  (e :
  Ending)
  (w' :
  World) ↦
  ∃
  (p
  :
  Option
  Addr),
  ∃
  (s_7
  :
  ByteArray),
  ∃
  (i
  :
  Int),
  e =
  Ending.returned
  (Value.tuple
  #[Value.pointer
  p,
  Value.agg
  #[Value.string
  s_7,
  Value.int
  IntKind.i64
  i]]) ∧
  inR
  IntKind.i64
  (s +
  (1 :
  Int)) ∧
  next
  (s +
  (1 :
  Int))
  w')
  (inR IntKind.i64
  (s +
  (1 : Int)) ∧
  next
  (s + (1 : Int))
  w1_3))
  (inR IntKind.i64
  (s + (1 : Int)) ∧
  next (s + (1 : Int))
  w1_3))
  (inR IntKind.i64
  (s + (1 : Int)) ∧
  next (s + (1 : Int)) w1_3))
  (inR IntKind.i64 (s + (1 : Int)) ∧
  next (s + (1 : Int)) w1_3))
  (CallV Go.Proofs.Try.prog (21 : Nat)
  [Value.pointer p, Value.int IntKind.i64 (↑moren : Int),
  Value.slice picksa picksn picksc]
  w' fun (e : Ending) (w' : World) ↦
  ∃ (p_1 : Option Addr),
  e = Ending.returned (Value.pointer p_1) ∧
  CallV Go.Proofs.Try.prog (21 : Nat)
  [Value.pointer p, Value.int IntKind.i64 (0 : Int),
  Value.slice picksa picksn picksc]
  w' fun (e : Ending) (w' : World) ↦
  ∃ (p : Option Addr),
  e = Ending.returned (Value.pointer p) ∧
  ∃ (b : Bool),
  Eqv Go.Proofs.Try.prog BinOp.eql (23 : Nat)
  (Operand.tmp (111 : Nat))
  (Operand.const (Value.pointer none)) w' (Value.pointer p_1)
  (Value.pointer none) b ∧
  br b (R (Ending.returned (Value.bool false)) w')
  (∃ (b : Bool),
  Eqv Go.Proofs.Try.prog BinOp.eql (23 : Nat)
  (Operand.tmp (114 : Nat))
  (Operand.const (Value.pointer none)) w'
  (Value.pointer p) (Value.pointer none) b ∧
  br b (R (Ending.returned (Value.bool false)) w')
  (CallV Go.Proofs.Try.prog (22 : Nat)
  [Value.pointer p_1,
  Value.string
  (ByteArray.mk
  #[(109 : UInt8), (105 : UInt8), (110 : UInt8),
  (101 : UInt8)]),
  Value.int IntKind.i64 (0 : Int)]
  w' fun (e : Ending) (w' : World) ↦
  ∃ (a : Option Addr),
  ∃ (l : Nat),
  ∃ (c : Nat),
  ∃ (i : Int),
  e =
  Ending.returned
  (Value.tuple
  #[Value.slice a l c,
  Value.int IntKind.i64 i]) ∧
  CallV Go.Proofs.Try.prog (22 : Nat)
  [Value.pointer p,
  Value.string
  (ByteArray.mk
  #[(109 : UInt8), (105 : UInt8),
  (110 : UInt8), (101 : UInt8)]),
  Value.int IntKind.i64 (0 : Int)]
  w' fun (e : Ending) (w' : World) ↦
  ∃ (a_5 : Option Addr),
  ∃ (l : Nat),
  ∃ (c_4 : Nat),
  ∃ (i_3 : Int),
  e =
  Ending.returned
  (Value.tuple
  #[Value.slice a_5 l c_4,
  Value.int IntKind.i64
  i_3]) ∧
  CallV Go.Proofs.Try.prog
  (11 : Nat) [] w'
  fun (e : Ending)
  (w' : World) ↦
  ∃ (b : Bool),
  e =
  Ending.returned
  (Value.bool b) ∧
  br b
  (br
  (decide
  (i = (0 : Int)))
  (br
  (decide
  (i_3 =
  (0 : Int)))
  (((0 : Int) ≤
  (5 : Int) ∧
  (5 : Int) ≤
  (↑c :
  Int)) ∧
  ∃ (s :
  ByteArray),
  B2S
  Go.Proofs.Try.prog
  (26 : Nat)
  (9 : Nat)
  w'
  (Value.slice
  a
  (5 :
  Nat)
  c)
  (Value.string
  s) ∧
  br
  (decide
  (s =
  ByteArray.mk
  #[(107 :
  UInt8),
  (101 :
  UInt8),
  (112 :
  UInt8),
  (116 :
  UInt8),
  (0 :
  UInt8)]))
  (((0 :
  Int) ≤
  (5 :
  Int) ∧
  (5 :
  Int) ≤
  (↑c_4 :
  Int)) ∧
  ∃ (s :
  ByteArray),
  B2S
  Go.Proofs.Try.prog
  (26 :
  Nat)
  (9 :
  Nat)
  w'
  (Value.slice
  a_5
  (5 :
  Nat)
  c_4)
  (Value.string
  s) ∧
  R
  (Ending.returned
  (Value.bool
  (decide
  (s =
  ByteArray.mk
  #[(107 :
  UInt8),
  (101 :
  UInt8),
  (112 :
  UInt8),
  (116 :
  UInt8),
  (0 :
  UInt8)]))))
  w')
  (R
  (Ending.returned
  (Value.bool
  false))
  w'))
  (R
  (Ending.returned
  (Value.bool
  false))
  w'))
  (R
  (Ending.returned
  (Value.bool
  false))
  w'))
  (R
  (Ending.returned
  (Value.bool
  false))
  w')))))
  (0 : Int) w')))))))))
theorem vaultLasts.eq (scripta : Option Addr) (scriptn : Nat) (scriptc : Nat) (morea : Option Addr) (moren : Nat) (morec : Nat) (picksa : Option Addr) (picksn : Nat) (picksc : Nat) (w : World) (R : Ending → World → Prop) : bodyV Go.Proofs.Try.prog vaultLasts.an Go.Proofs.Try.f4 [.slice scripta scriptn scriptc, .slice morea moren morec, .slice picksa picksn picksc] w R = vaultLasts.vc scripta scriptn scriptc morea moren morec picksa picksn picksc w R := by kernel_rfl
theorem vaultLasts.ok (scripta : Option Addr) (scriptn : Nat) (scriptc : Nat) (morea : Option Addr) (moren : Nat) (morec : Nat) (picksa : Option Addr) (picksn : Nat) (picksc : Nat) (w : World) (R : Ending → World → Prop) (h : vaultLasts.vc scripta scriptn scriptc morea moren morec picksa picksn picksc w R) : Calls Go.Proofs.Try.prog 4 #[.slice scripta scriptn scriptc, .slice morea moren morec, .slice picksa picksn picksc] w R :=
  calls_of_bodyV noNum (an := vaultLasts.an) (args := [.slice scripta scriptn scriptc, .slice morea moren morec, .slice picksa picksn picksc]) Go.Proofs.Try.func4 (by kernel_rfl) ((vaultLasts.eq scripta scriptn scriptc morea moren morec picksa picksn picksc w R).mpr h)

/-- incunable/incunablelaw09.VaultReads -/
def vaultReads.an : An := { wraps := [], loops := [(13, [(63, .inl .i64)])], joins := [], ranges := [] }
def vaultReads.vc (scripta : Option Addr) (scriptn : Nat) (scriptc : Nat) (morea : Option Addr) (moren : Nat) (morec : Nat) (ba : Option Addr) (bn : Nat) (bc : Nat) (w : World) (R : Ending → World → Prop) : Prop :=
  br (decide ((100 : Int) < (↑scriptn : Int)))
  (CallV Go.Proofs.Try.prog (11 : Nat) [] w fun (e : Ending) (w' : World) ↦ ∃ (b : Bool), e = Ending.returned (Value.bool b) ∧ R (Ending.returned (Value.bool b)) w')
  (br (decide ((100 : Int) < (↑moren : Int)))
  (CallV Go.Proofs.Try.prog (11 : Nat) [] w fun (e : Ending) (w' : World) ↦ ∃ (b : Bool), e = Ending.returned (Value.bool b) ∧ R (Ending.returned (Value.bool b)) w')
  (CallV Go.Proofs.Try.prog (14 : Nat) [Value.int IntKind.i64 (40 : Int), Value.slice scripta scriptn scriptc] w fun (e : Ending) (w' : World) ↦
  ∃ (p : Option Addr),
  ∃ (i : Int),
  ∃ (a : Option Addr),
  ∃ (l : Nat),
  ∃ (c : Nat),
  ∃ (a_1 : Option Addr),
  ∃ (l_1 : Nat),
  ∃ (c_1 : Nat),
  ∃ (a_2 : Option Addr),
  ∃ (l_2 : Nat),
  ∃ (c_2 : Nat),
  ∃ (a_3 : Option Addr),
  ∃ (l_3 : Nat),
  ∃ (c_3 : Nat),
  ∃ (i_1 : Int),
  ∃ (i_2 : Int),
  ∃ (b : Bool),
  ∃ (b_1 : Bool),
  e =
  Ending.returned
  (Value.tuple
  #[Value.pointer p,
  Value.agg
  #[Value.int IntKind.i64 i, Value.slice a l c, Value.slice a_1 l_1 c_1, Value.slice a_2 l_2 c_2, Value.slice a_3 l_3 c_3,
  Value.int IntKind.i64 i_1, Value.int IntKind.i64 i_2, Value.bool b],
  Value.bool b_1]) ∧
  ∀ (b_2 : Nat) (w1 : World),
  New w'
  (Obj.cells
  #[Value.int IntKind.i64 (0 : Int), Value.slice none (0 : Nat) (0 : Nat), Value.slice none (0 : Nat) (0 : Nat), Value.slice none (0 : Nat) (0 : Nat),
  Value.slice none (0 : Nat) (0 : Nat), Value.int IntKind.i64 (0 : Int), Value.int IntKind.i64 (0 : Int), Value.bool false]
  (41 : Nat))
  b_2 w1 →
  ∃ (w1_1 : World),
  St Go.Proofs.Try.prog (41 : Nat) w1 (Addr.mk b_2 (0 : Nat) none)
  (Value.agg
  #[Value.int IntKind.i64 i, Value.slice a l c, Value.slice a_1 l_1 c_1, Value.slice a_2 l_2 c_2, Value.slice a_3 l_3 c_3,
  Value.int IntKind.i64 i_1, Value.int IntKind.i64 i_2, Value.bool b])
  w1_1 ∧
  br (!b_1)
  (br b_1
  (CallV Go.Proofs.Try.prog (11 : Nat) [] w1_1 fun (e : Ending) (w' : World) ↦
  ∃ (b : Bool), e = Ending.returned (Value.bool b) ∧ R (Ending.returned (Value.bool b)) w')
  (R (Ending.returned (Value.bool false)) w1_1))
  (∃ (b : Bool),
  Ld Go.Proofs.Try.prog (4 : Nat) w1_1 (Addr.mk b_2 (7 : Nat) none) (Value.bool b) ∧
  br b
  (br b_1
  (CallV Go.Proofs.Try.prog (11 : Nat) [] w1_1 fun (e : Ending) (w' : World) ↦
  ∃ (b : Bool), e = Ending.returned (Value.bool b) ∧ R (Ending.returned (Value.bool b)) w')
  (R (Ending.returned (Value.bool false)) w1_1))
  (br (decide ((512 : Int) < (↑bn : Int)))
  (br b_1
  (CallV Go.Proofs.Try.prog (11 : Nat) [] w1_1 fun (e : Ending) (w' : World) ↦
  ∃ (b : Bool), e = Ending.returned (Value.bool b) ∧ R (Ending.returned (Value.bool b)) w')
  (R (Ending.returned (Value.bool false)) w1_1))
  (CallV Go.Proofs.Try.prog (15 : Nat) [Value.pointer p, Value.int IntKind.i64 (0 : Int)] w1_1 fun (e : Ending) (w' : World) ↦
  e = Ending.returned (Value.tuple #[]) ∧
  CallV Go.Proofs.Try.prog (16 : Nat) [Value.pointer p, Value.int IntKind.i64 (0 : Int)] w' fun (e : Ending) (w' : World) ↦
  e = Ending.returned (Value.tuple #[]) ∧
  CallV Go.Proofs.Try.prog (17 : Nat)
  [Value.pointer p, Value.string (ByteArray.mk #[(109 : UInt8), (105 : UInt8), (110 : UInt8), (101 : UInt8)])] w'
  fun (e : Ending) (w' : World) ↦
  ∃ (i : Int),
  e = Ending.returned (Value.int IntKind.i64 i) ∧
  br (!decide (i = (0 : Int))) (R (Ending.returned (Value.bool false)) w')
  (CallV Go.Proofs.Try.prog (18 : Nat)
  [Value.pointer p, Value.string (ByteArray.mk #[(109 : UInt8), (105 : UInt8), (110 : UInt8), (101 : UInt8)]),
  Value.int IntKind.i64 (0 : Int), Value.slice ba bn bc]
  w' fun (e : Ending) (w' : World) ↦
  ∃ (i : Int),
  e = Ending.returned (Value.int IntKind.i64 i) ∧
  br (!decide (i = (0 : Int)))
  (CallV Go.Proofs.Try.prog (11 : Nat) [] w' fun (e : Ending) (w' : World) ↦
  ∃ (b : Bool),
  e = Ending.returned (Value.bool b) ∧
  br b
  (CallV Go.Proofs.Try.prog (13 : Nat) [Value.pointer p] w' fun (e : Ending) (w' : World) ↦
  ∃ (i : Int),
  e = Ending.returned (Value.int IntKind.i64 i) ∧
  R (Ending.returned (Value.bool (decide ((40 : Int) ≤ i)))) w')
  (R (Ending.returned (Value.bool false)) w'))
  (LoopP
  (fun (s : Int) (w' : World) (next : Int → World → Prop) ↦
  br (decide (s < (↑moren : Int)))
  (onP morea fun (a : Addr) ↦
  ((0 : Int) ≤ s ∧ s < (↑moren : Int)) ∧
  ∃ (i : Int),
  ∃ (i_3 : Int),
  ∃ (s_1 : ByteArray),
  ∃ (s_2 : ByteArray),
  ∃ (a_5 : Option Addr),
  ∃ (l : Nat),
  ∃ (c : Nat),
  ∃ (a_6 : Option Addr),
  ∃ (l_4 : Nat),
  ∃ (c_4 : Nat),
  Ld Go.Proofs.Try.prog (29 : Nat) w' (Addr.add a (Int.toNat s * (6 : Nat)))
  (Value.agg
  #[Value.int IntKind.i64 i, Value.int IntKind.i64 i_3, Value.string s_1,
  Value.string s_2, Value.slice a_5 l c, Value.slice a_6 l_4 c_4]) ∧
  ∀ (b : Nat) (w1 : World),
  New w'
  (Obj.cells
  #[Value.int IntKind.i64 (0 : Int), Value.int IntKind.i64 (0 : Int),
  Value.string (ByteArray.mk #[]), Value.string (ByteArray.mk #[]),
  Value.slice none (0 : Nat) (0 : Nat),
  Value.slice none (0 : Nat) (0 : Nat)]
  (29 : Nat))
  b w1 →
  ∃ (w1_2 : World),
  St Go.Proofs.Try.prog (29 : Nat) w1 (Addr.mk b (0 : Nat) none)
  (Value.agg
  #[Value.int IntKind.i64 i, Value.int IntKind.i64 i_3,
  Value.string s_1, Value.string s_2, Value.slice a_5 l c,
  Value.slice a_6 l_4 c_4])
  w1_2 ∧
  ∃ (i : Int),
  Ld Go.Proofs.Try.prog (3 : Nat) w1_2 (Addr.mk b (0 : Nat) none)
  (Value.int IntKind.i64 i) ∧
  br (decide ((0 : Int) ≤ i))
  (∃ (i : Int),
  Ld Go.Proofs.Try.prog (3 : Nat) w1_2 (Addr.mk b (0 : Nat) none)
  (Value.int IntKind.i64 i) ∧
  br (decide (i < (7 : Int)))
  (∃ (s_3 : ByteArray),
  Ld Go.Proofs.Try.prog (9 : Nat) w1_2 (Addr.mk b (2 : Nat) none)
  (Value.string s_3) ∧
  br
  (!decide
  (s_3 =
  ByteArray.mk
  #[(109 : UInt8), (105 : UInt8), (110 : UInt8),
  (101 : UInt8)]))
  (∃ (s_4 : ByteArray),
  Ld Go.Proofs.Try.prog (9 : Nat) w1_2
  (Addr.mk b (3 : Nat) none) (Value.string s_4) ∧
  br
  (!decide
  (s_4 =
  ByteArray.mk
  #[(109 : UInt8), (105 : UInt8),
  (110 : UInt8), (101 : UInt8)]))
  (∃ (i : Int),
  ∃ (i_4 : Int),
  ∃ (s_5 : ByteArray),
  ∃ (s_6 : ByteArray),
  ∃ (a : Option Addr),
  ∃ (l : Nat),
  ∃ (c : Nat),
  ∃ (a_7 : Option Addr),
  ∃ (l_5 : Nat),
  ∃ (c_5 : Nat),
  Ld Go.Proofs.Try.prog (29 : Nat)
  w1_2
  (Addr.mk b (0 : Nat) none)
  (Value.agg
  #[Value.int IntKind.i64
  i,
  Value.int IntKind.i64
  i_4,
  Value.string s_5,
  Value.string s_6,
  Value.slice a l c,
  Value.slice a_7 l_5
  c_5]) ∧
  CallV Go.Proofs.Try.prog
  (12 : Nat)
  [Value.pointer p,
  Value.agg
  #[Value.int
  IntKind.i64 i,
  Value.int
  IntKind.i64 i_4,
  Value.string s_5,
  Value.string s_6,
  Value.slice a l c,
  Value.slice a_7 l_5
  c_5]]
  w1_2
  fun (e : Ending)
  (w' : World) ↦
  ∃ (p : Option Addr),
  ∃ (s_7 : ByteArray),
  ∃ (i : Int),
  e =
  Ending.returned
  (Value.tuple
  #[Value.pointer
  p,
  Value.agg
  #[Value.string
  s_7,
  Value.int
  IntKind.i64
  i]]) ∧
  inR IntKind.i64
  (s +
  (1 : Int)) ∧
  next
  (s +
  (1 : Int))
  w')
  (inR IntKind.i64 (s + (1 : Int)) ∧
  next (s + (1 : Int)) w1_2))
  (inR IntKind.i64 (s + (1 : Int)) ∧
  next (s + (1 : Int)) w1_2))
  (inR IntKind.i64 (s + (1 : Int)) ∧ next (s + (1 : Int)) w1_2))
  (inR IntKind.i64 (s + (1 : Int)) ∧ next (s + (1 : Int)) w1_2))
  (CallV Go.Proofs.Try.prog (22 : Nat)
  [Value.pointer p,
  Value.string (ByteArray.mk #[(109 : UInt8), (105 : UInt8), (110 : UInt8), (101 : UInt8)]),
  Value.int IntKind.i64 (0 : Int)]
  w' fun (e : Ending) (w' : World) ↦
  ∃ (a : Option Addr),
  ∃ (l : Nat),
  ∃ (c : Nat),
  ∃ (i : Int),
  e = Ending.returned (Value.tuple #[Value.slice a l c, Value.int IntKind.i64 i]) ∧
  CallV Go.Proofs.Try.prog (11 : Nat) [] (World.drew w') fun (e : Ending) (w' : World) ↦
  ∃ (b : Bool),
  e = Ending.returned (Value.bool b) ∧
  br b
  (br (decide (i = (0 : Int)))
  (br (decide ((↑l : Int) = (512 : Int)))
  (∃ (s : ByteArray),
  B2S Go.Proofs.Try.prog (26 : Nat) (9 : Nat) w' (Value.slice a l c) (Value.string s) ∧
  ∃ (s_1 : ByteArray),
  B2S Go.Proofs.Try.prog (26 : Nat) (9 : Nat) w' (Value.slice ba bn bc)
  (Value.string s_1) ∧
  inR IntKind.i64 ((512 : Int) - (↑bn : Int)) ∧
  ∃ (a_5 : Option Addr),
  ∃ (n : Nat),
  ∃ (m : Nat),
  ∃ (w1 : World),
  MkS Go.Proofs.Try.prog (26 : Nat) w'
  (Value.int IntKind.i64 ((512 : Int) - (↑bn : Int)))
  (Value.int IntKind.i64 ((512 : Int) - (↑bn : Int)))
  (Value.slice a_5 n m) w1 ∧
  B2S Go.Proofs.Try.prog (26 : Nat) (9 : Nat) w1
  (Value.slice ba bn bc) (Value.string s_1) ∧
  B2S Go.Proofs.Try.prog (26 : Nat) (9 : Nat) w1
  (Value.slice a l c) (Value.string s) ∧
  ∃ (s_2 : ByteArray),
  B2S Go.Proofs.Try.prog (26 : Nat) (9 : Nat) w1
  (Value.slice a_5 n m) (Value.string s_2) ∧
  (↑(ByteArray.size s_1 + ByteArray.size s_2) : Int) ≤
  (9223372036854775807 : Int) ∧
  R
  (Ending.returned
  (Value.bool (decide (s = s_1 ++ s_2))))
  w1)
  (R (Ending.returned (Value.bool false)) w'))
  (R (Ending.returned (Value.bool false)) w'))
  (R (Ending.returned (Value.bool false)) w')))
  (0 : Int) w')))))))
theorem vaultReads.eq (scripta : Option Addr) (scriptn : Nat) (scriptc : Nat) (morea : Option Addr) (moren : Nat) (morec : Nat) (ba : Option Addr) (bn : Nat) (bc : Nat) (w : World) (R : Ending → World → Prop) : bodyV Go.Proofs.Try.prog vaultReads.an Go.Proofs.Try.f5 [.slice scripta scriptn scriptc, .slice morea moren morec, .slice ba bn bc] w R = vaultReads.vc scripta scriptn scriptc morea moren morec ba bn bc w R := by kernel_rfl
theorem vaultReads.ok (scripta : Option Addr) (scriptn : Nat) (scriptc : Nat) (morea : Option Addr) (moren : Nat) (morec : Nat) (ba : Option Addr) (bn : Nat) (bc : Nat) (w : World) (R : Ending → World → Prop) (h : vaultReads.vc scripta scriptn scriptc morea moren morec ba bn bc w R) : Calls Go.Proofs.Try.prog 5 #[.slice scripta scriptn scriptc, .slice morea moren morec, .slice ba bn bc] w R :=
  calls_of_bodyV noNum (an := vaultReads.an) (args := [.slice scripta scriptn scriptc, .slice morea moren morec, .slice ba bn bc]) Go.Proofs.Try.func5 (by kernel_rfl) ((vaultReads.eq scripta scriptn scriptc morea moren morec ba bn bc w R).mpr h)

/-- incunable/incunablelaw09.VaultNames -/
def vaultNames.an : An := { wraps := [], loops := [], joins := [], ranges := [] }
def vaultNames.vc (scripta : Option Addr) (scriptn : Nat) (scriptc : Nat) (to_ : ByteArray) (w : World) (R : Ending → World → Prop) : Prop :=
  br (decide ((100 : Int) < (↑scriptn : Int)))
  (CallV Go.Proofs.Try.prog (11 : Nat) [] w fun (e : Ending) (w' : World) ↦ ∃ (b : Bool), e = Ending.returned (Value.bool b) ∧ R (Ending.returned (Value.bool b)) w')
  (CallV Go.Proofs.Try.prog (14 : Nat) [Value.int IntKind.i64 (60 : Int), Value.slice scripta scriptn scriptc] w fun (e : Ending) (w' : World) ↦
  ∃ (p : Option Addr),
  ∃ (i : Int),
  ∃ (a : Option Addr),
  ∃ (l : Nat),
  ∃ (c : Nat),
  ∃ (a_1 : Option Addr),
  ∃ (l_1 : Nat),
  ∃ (c_1 : Nat),
  ∃ (a_2 : Option Addr),
  ∃ (l_2 : Nat),
  ∃ (c_2 : Nat),
  ∃ (a_3 : Option Addr),
  ∃ (l_3 : Nat),
  ∃ (c_3 : Nat),
  ∃ (i_1 : Int),
  ∃ (i_2 : Int),
  ∃ (b : Bool),
  ∃ (b_1 : Bool),
  e =
  Ending.returned
  (Value.tuple
  #[Value.pointer p,
  Value.agg
  #[Value.int IntKind.i64 i, Value.slice a l c, Value.slice a_1 l_1 c_1, Value.slice a_2 l_2 c_2, Value.slice a_3 l_3 c_3, Value.int IntKind.i64 i_1,
  Value.int IntKind.i64 i_2, Value.bool b],
  Value.bool b_1]) ∧
  ∀ (b_2 : Nat) (w1 : World),
  New w'
  (Obj.cells
  #[Value.int IntKind.i64 (0 : Int), Value.slice none (0 : Nat) (0 : Nat), Value.slice none (0 : Nat) (0 : Nat), Value.slice none (0 : Nat) (0 : Nat),
  Value.slice none (0 : Nat) (0 : Nat), Value.int IntKind.i64 (0 : Int), Value.int IntKind.i64 (0 : Int), Value.bool false]
  (41 : Nat))
  b_2 w1 →
  ∃ (w1_1 : World),
  St Go.Proofs.Try.prog (41 : Nat) w1 (Addr.mk b_2 (0 : Nat) none)
  (Value.agg
  #[Value.int IntKind.i64 i, Value.slice a l c, Value.slice a_1 l_1 c_1, Value.slice a_2 l_2 c_2, Value.slice a_3 l_3 c_3,
  Value.int IntKind.i64 i_1, Value.int IntKind.i64 i_2, Value.bool b])
  w1_1 ∧
  br (!b_1)
  (br b_1
  (CallV Go.Proofs.Try.prog (11 : Nat) [] w1_1 fun (e : Ending) (w' : World) ↦
  ∃ (b : Bool), e = Ending.returned (Value.bool b) ∧ R (Ending.returned (Value.bool b)) w')
  (R (Ending.returned (Value.bool false)) w1_1))
  (∃ (b : Bool),
  Ld Go.Proofs.Try.prog (4 : Nat) w1_1 (Addr.mk b_2 (7 : Nat) none) (Value.bool b) ∧
  br b
  (br b_1
  (CallV Go.Proofs.Try.prog (11 : Nat) [] w1_1 fun (e : Ending) (w' : World) ↦
  ∃ (b : Bool), e = Ending.returned (Value.bool b) ∧ R (Ending.returned (Value.bool b)) w')
  (R (Ending.returned (Value.bool false)) w1_1))
  (br (decide (to_ = ByteArray.mk #[(109 : UInt8), (105 : UInt8), (110 : UInt8), (101 : UInt8)]))
  (br b_1
  (CallV Go.Proofs.Try.prog (11 : Nat) [] w1_1 fun (e : Ending) (w' : World) ↦
  ∃ (b : Bool), e = Ending.returned (Value.bool b) ∧ R (Ending.returned (Value.bool b)) w')
  (R (Ending.returned (Value.bool false)) w1_1))
  (br (decide ((↑(ByteArray.size to_) : Int) < (1 : Int)))
  (br b_1
  (CallV Go.Proofs.Try.prog (11 : Nat) [] w1_1 fun (e : Ending) (w' : World) ↦
  ∃ (b : Bool), e = Ending.returned (Value.bool b) ∧ R (Ending.returned (Value.bool b)) w')
  (R (Ending.returned (Value.bool false)) w1_1))
  (br (decide ((60 : Int) < (↑(ByteArray.size to_) : Int)))
  (br b_1
  (CallV Go.Proofs.Try.prog (11 : Nat) [] w1_1 fun (e : Ending) (w' : World) ↦
  ∃ (b : Bool), e = Ending.returned (Value.bool b) ∧ R (Ending.returned (Value.bool b)) w')
  (R (Ending.returned (Value.bool false)) w1_1))
  (CallV Go.Proofs.Try.prog (15 : Nat) [Value.pointer p, Value.int IntKind.i64 (0 : Int)] w1_1 fun (e : Ending) (w' : World) ↦
  e = Ending.returned (Value.tuple #[]) ∧
  CallV Go.Proofs.Try.prog (16 : Nat) [Value.pointer p, Value.int IntKind.i64 (0 : Int)] w' fun (e : Ending) (w' : World) ↦
  e = Ending.returned (Value.tuple #[]) ∧
  CallV Go.Proofs.Try.prog (17 : Nat)
  [Value.pointer p, Value.string (ByteArray.mk #[(109 : UInt8), (105 : UInt8), (110 : UInt8), (101 : UInt8)])] w'
  fun (e : Ending) (w' : World) ↦
  ∃ (i : Int),
  e = Ending.returned (Value.int IntKind.i64 i) ∧
  ∀ (b : Nat) (w1 : World),
  New w'
  (Obj.cells
  #[Value.int IntKind.u8 (107 : Int), Value.int IntKind.u8 (101 : Int), Value.int IntKind.u8 (112 : Int),
  Value.int IntKind.u8 (116 : Int)]
  (5 : Nat))
  b w1 →
  ∃ (a : Option Addr),
  ∃ (l : Nat),
  ∃ (c : Nat),
  ∃ (w1_2 : World),
  S2B Go.Proofs.Try.prog (26 : Nat) (26 : Nat) w1
  (Value.slice (some (Addr.mk b (0 : Nat) none)) (4 : Nat) (4 : Nat)) (Value.slice a l c) w1_2 ∧
  CallV Go.Proofs.Try.prog (18 : Nat)
  [Value.pointer p,
  Value.string (ByteArray.mk #[(109 : UInt8), (105 : UInt8), (110 : UInt8), (101 : UInt8)]),
  Value.int IntKind.i64 (0 : Int), Value.slice a l c]
  w1_2 fun (e : Ending) (w' : World) ↦
  ∃ (i : Int),
  e = Ending.returned (Value.int IntKind.i64 i) ∧
  CallV Go.Proofs.Try.prog (23 : Nat)
  [Value.pointer p,
  Value.string (ByteArray.mk #[(109 : UInt8), (105 : UInt8), (110 : UInt8), (101 : UInt8)])]
  w' fun (e : Ending) (w' : World) ↦
  ∃ (i : Int),
  e = Ending.returned (Value.int IntKind.i64 i) ∧
  CallV Go.Proofs.Try.prog (24 : Nat)
  [Value.pointer p,
  Value.string (ByteArray.mk #[(109 : UInt8), (105 : UInt8), (110 : UInt8), (101 : UInt8)]),
  Value.string to_]
  w' fun (e : Ending) (w' : World) ↦
  ∃ (i_3 : Int),
  e = Ending.returned (Value.int IntKind.i64 i_3) ∧
  br (!decide (i_3 = (0 : Int))) (R (Ending.returned (Value.bool false)) w')
  (CallV Go.Proofs.Try.prog (23 : Nat)
  [Value.pointer p,
  Value.string
  (ByteArray.mk #[(109 : UInt8), (105 : UInt8), (110 : UInt8), (101 : UInt8)])]
  w' fun (e : Ending) (w' : World) ↦
  ∃ (i_4 : Int),
  e = Ending.returned (Value.int IntKind.i64 i_4) ∧
  br (!decide (i_4 = (-1 : Int))) (R (Ending.returned (Value.bool false)) w')
  (CallV Go.Proofs.Try.prog (23 : Nat) [Value.pointer p, Value.string to_] w'
  fun (e : Ending) (w' : World) ↦
  ∃ (i_5 : Int),
  e = Ending.returned (Value.int IntKind.i64 i_5) ∧
  br (!decide (i_5 = i)) (R (Ending.returned (Value.bool false)) w')
  (br (decide ((0 : Int) < i))
  (CallV Go.Proofs.Try.prog (22 : Nat)
  [Value.pointer p, Value.string to_, Value.int IntKind.i64 (0 : Int)]
  w' fun (e : Ending) (w' : World) ↦
  ∃ (a : Option Addr),
  ∃ (l : Nat),
  ∃ (c : Nat),
  ∃ (i : Int),
  e =
  Ending.returned
  (Value.tuple
  #[Value.slice a l c, Value.int IntKind.i64 i]) ∧
  br (!decide (i = (0 : Int)))
  (R (Ending.returned (Value.bool false)) w')
  (((0 : Int) ≤ (4 : Int) ∧ (4 : Int) ≤ (↑c : Int)) ∧
  ∃ (s : ByteArray),
  B2S Go.Proofs.Try.prog (26 : Nat) (9 : Nat) w'
  (Value.slice a (4 : Nat) c) (Value.string s) ∧
  br
  (!decide
  (s =
  ByteArray.mk
  #[(107 : UInt8), (101 : UInt8),
  (112 : UInt8), (116 : UInt8)]))
  (R (Ending.returned (Value.bool false)) w')
  (CallV Go.Proofs.Try.prog (11 : Nat) [] w'
  fun (e : Ending) (w' : World) ↦
  ∃ (b : Bool),
  e = Ending.returned (Value.bool b) ∧
  br b
  (CallV Go.Proofs.Try.prog (25 : Nat)
  [Value.pointer p, Value.string to_] w'
  fun (e : Ending) (w' : World) ↦
  ∃ (i : Int),
  e =
  Ending.returned
  (Value.int IntKind.i64 i) ∧
  br (decide (i = (0 : Int)))
  (CallV Go.Proofs.Try.prog
  (23 : Nat)
  [Value.pointer p,
  Value.string to_]
  w'
  fun (e : Ending)
  (w' : World) ↦
  ∃ (i : Int),
  e =
  Ending.returned
  (Value.int IntKind.i64
  i) ∧
  br
  (decide
  (i = (-1 : Int)))
  (CallV Go.Proofs.Try.prog
  (25 : Nat)
  [Value.pointer p,
  Value.string to_]
  w'
  fun (e : Ending)
  (w' : World) ↦
  ∃ (i : Int),
  e =
  Ending.returned
  (Value.int
  IntKind.i64
  i) ∧
  R
  (Ending.returned
  (Value.bool
  (decide
  (i =
  (90 :
  Int)))))
  w')
  (R
  (Ending.returned
  (Value.bool false))
  w'))
  (R
  (Ending.returned
  (Value.bool false))
  w'))
  (R (Ending.returned (Value.bool false))
  w'))))
  (CallV Go.Proofs.Try.prog (11 : Nat) [] w'
  fun (e : Ending) (w' : World) ↦
  ∃ (b : Bool),
  e = Ending.returned (Value.bool b) ∧
  br b
  (CallV Go.Proofs.Try.prog (25 : Nat)
  [Value.pointer p, Value.string to_] w'
  fun (e : Ending) (w' : World) ↦
  ∃ (i : Int),
  e = Ending.returned (Value.int IntKind.i64 i) ∧
  br (decide (i = (0 : Int)))
  (CallV Go.Proofs.Try.prog (23 : Nat)
  [Value.pointer p, Value.string to_] w'
  fun (e : Ending) (w' : World) ↦
  ∃ (i : Int),
  e = Ending.returned (Value.int IntKind.i64 i) ∧
  br (decide (i = (-1 : Int)))
  (CallV Go.Proofs.Try.prog (25 : Nat)
  [Value.pointer p, Value.string to_] w'
  fun (e : Ending) (w' : World) ↦
  ∃ (i : Int),
  e =
  Ending.returned
  (Value.int IntKind.i64 i) ∧
  R
  (Ending.returned
  (Value.bool
  (decide (i = (90 : Int)))))
  w')
  (R (Ending.returned (Value.bool false)) w'))
  (R (Ending.returned (Value.bool false)) w'))
  (R (Ending.returned (Value.bool false)) w')))))))))))
theorem vaultNames.eq (scripta : Option Addr) (scriptn : Nat) (scriptc : Nat) (to_ : ByteArray) (w : World) (R : Ending → World → Prop) : bodyV Go.Proofs.Try.prog vaultNames.an Go.Proofs.Try.f6 [.slice scripta scriptn scriptc, .string to_] w R = vaultNames.vc scripta scriptn scriptc to_ w R := by kernel_rfl
theorem vaultNames.ok (scripta : Option Addr) (scriptn : Nat) (scriptc : Nat) (to_ : ByteArray) (w : World) (R : Ending → World → Prop) (h : vaultNames.vc scripta scriptn scriptc to_ w R) : Calls Go.Proofs.Try.prog 6 #[.slice scripta scriptn scriptc, .string to_] w R :=
  calls_of_bodyV noNum (an := vaultNames.an) (args := [.slice scripta scriptn scriptc, .string to_]) Go.Proofs.Try.func6 (by kernel_rfl) ((vaultNames.eq scripta scriptn scriptc to_ w R).mpr h)

/-- incunable/incunablelaw09.VaultFinds -/
def vaultFinds.an : An := { wraps := [], loops := [], joins := [], ranges := [] }
def vaultFinds.vc (scripta : Option Addr) (scriptn : Nat) (scriptc : Nat) (names : Int) (picksa : Option Addr) (picksn : Nat) (picksc : Nat) (w : World) (R : Ending → World → Prop) : Prop :=
  br (decide ((150 : Int) < (↑scriptn : Int)))
  (CallV Go.Proofs.Try.prog (11 : Nat) [] w fun (e : Ending) (w' : World) ↦ ∃ (b : Bool), e = Ending.returned (Value.bool b) ∧ R (Ending.returned (Value.bool b)) w')
  (br (decide ((500 : Int) < (↑picksn : Int)))
  (CallV Go.Proofs.Try.prog (11 : Nat) [] w fun (e : Ending) (w' : World) ↦ ∃ (b : Bool), e = Ending.returned (Value.bool b) ∧ R (Ending.returned (Value.bool b)) w')
  (CallV Go.Proofs.Try.prog (14 : Nat) [Value.int IntKind.i64 (40 : Int), Value.slice scripta scriptn scriptc] w fun (e : Ending) (w' : World) ↦
  ∃ (p : Option Addr),
  ∃ (i : Int),
  ∃ (a : Option Addr),
  ∃ (l : Nat),
  ∃ (c : Nat),
  ∃ (a_1 : Option Addr),
  ∃ (l_1 : Nat),
  ∃ (c_1 : Nat),
  ∃ (a_2 : Option Addr),
  ∃ (l_2 : Nat),
  ∃ (c_2 : Nat),
  ∃ (a_3 : Option Addr),
  ∃ (l_3 : Nat),
  ∃ (c_3 : Nat),
  ∃ (i_1 : Int),
  ∃ (i_2 : Int),
  ∃ (b : Bool),
  ∃ (b_1 : Bool),
  e =
  Ending.returned
  (Value.tuple
  #[Value.pointer p,
  Value.agg
  #[Value.int IntKind.i64 i, Value.slice a l c, Value.slice a_1 l_1 c_1, Value.slice a_2 l_2 c_2, Value.slice a_3 l_3 c_3,
  Value.int IntKind.i64 i_1, Value.int IntKind.i64 i_2, Value.bool b],
  Value.bool b_1]) ∧
  ∀ (b_2 : Nat) (w1 : World),
  New w'
  (Obj.cells
  #[Value.int IntKind.i64 (0 : Int), Value.slice none (0 : Nat) (0 : Nat), Value.slice none (0 : Nat) (0 : Nat), Value.slice none (0 : Nat) (0 : Nat),
  Value.slice none (0 : Nat) (0 : Nat), Value.int IntKind.i64 (0 : Int), Value.int IntKind.i64 (0 : Int), Value.bool false]
  (41 : Nat))
  b_2 w1 →
  ∃ (w1_1 : World),
  St Go.Proofs.Try.prog (41 : Nat) w1 (Addr.mk b_2 (0 : Nat) none)
  (Value.agg
  #[Value.int IntKind.i64 i, Value.slice a l c, Value.slice a_1 l_1 c_1, Value.slice a_2 l_2 c_2, Value.slice a_3 l_3 c_3,
  Value.int IntKind.i64 i_1, Value.int IntKind.i64 i_2, Value.bool b])
  w1_1 ∧
  br (!b_1) (R (Ending.returned (Value.bool false)) w1_1)
  (CallV Go.Proofs.Try.prog (21 : Nat) [Value.pointer p, Value.int IntKind.i64 names, Value.slice picksa picksn picksc] w1_1
  fun (e : Ending) (w' : World) ↦
  ∃ (p_1 : Option Addr),
  e = Ending.returned (Value.pointer p_1) ∧
  CallV Go.Proofs.Try.prog (11 : Nat) [] w' fun (e : Ending) (w' : World) ↦
  ∃ (b : Bool),
  e = Ending.returned (Value.bool b) ∧
  br b
  (∃ (b : Bool),
  Eqv Go.Proofs.Try.prog BinOp.neq (23 : Nat) (Operand.tmp (34 : Nat)) (Operand.const (Value.pointer none)) w' (Value.pointer p_1)
  (Value.pointer none) b ∧
  br b
  (∃ (i : Int),
  ∃ (a : Option Addr),
  ∃ (l : Nat),
  ∃ (c : Nat),
  ∃ (a_5 : Option Addr),
  ∃ (l_4 : Nat),
  ∃ (c_4 : Nat),
  ∃ (a_6 : Option Addr),
  ∃ (l_5 : Nat),
  ∃ (c_5 : Nat),
  ∃ (a_7 : Option Addr),
  ∃ (l_6 : Nat),
  ∃ (c_6 : Nat),
  ∃ (i_3 : Int),
  ∃ (i_4 : Int),
  ∃ (b : Bool),
  Ld Go.Proofs.Try.prog (41 : Nat) w' (Addr.mk b_2 (0 : Nat) none)
  (Value.agg
  #[Value.int IntKind.i64 i, Value.slice a l c, Value.slice a_5 l_4 c_4,
  Value.slice a_6 l_5 c_5, Value.slice a_7 l_6 c_6, Value.int IntKind.i64 i_3,
  Value.int IntKind.i64 i_4, Value.bool b]) ∧
  CallV Go.Proofs.Try.prog (27 : Nat)
  [Value.agg
  #[Value.int IntKind.i64 i, Value.slice a l c, Value.slice a_5 l_4 c_4,
  Value.slice a_6 l_5 c_5, Value.slice a_7 l_6 c_6, Value.int IntKind.i64 i_3,
  Value.int IntKind.i64 i_4, Value.bool b],
  Value.int IntKind.i64 names, Value.slice picksa picksn picksc]
  w' fun (e : Ending) (w' : World) ↦
  ∃ (i : Int),
  ∃ (a : Option Addr),
  ∃ (l : Nat),
  ∃ (c : Nat),
  ∃ (a_8 : Option Addr),
  ∃ (l_7 : Nat),
  ∃ (c_7 : Nat),
  ∃ (a_9 : Option Addr),
  ∃ (l_8 : Nat),
  ∃ (c_8 : Nat),
  ∃ (a_10 : Option Addr),
  ∃ (l_9 : Nat),
  ∃ (c_9 : Nat),
  ∃ (i_5 : Int),
  ∃ (i_6 : Int),
  ∃ (b : Bool),
  e =
  Ending.returned
  (Value.agg
  #[Value.int IntKind.i64 i, Value.slice a l c,
  Value.slice a_8 l_7 c_7,
  Value.slice a_9 l_8 c_8,
  Value.slice a_10 l_9 c_9,
  Value.int IntKind.i64 i_5,
  Value.int IntKind.i64 i_6, Value.bool b]) ∧
  CallV Go.Proofs.Try.prog (26 : Nat)
  [Value.pointer p_1,
  Value.agg
  #[Value.int IntKind.i64 i, Value.slice a l c,
  Value.slice a_8 l_7 c_7,
  Value.slice a_9 l_8 c_8,
  Value.slice a_10 l_9 c_9,
  Value.int IntKind.i64 i_5,
  Value.int IntKind.i64 i_6, Value.bool b]]
  w' fun (e : Ending) (w' : World) ↦
  ∃ (b : Bool),
  e = Ending.returned (Value.bool b) ∧
  br b
  (∃ (i : Int),
  ∃ (a : Option Addr),
  ∃ (l : Nat),
  ∃ (c : Nat),
  ∃ (a_11 : Option Addr),
  ∃ (l_10 : Nat),
  ∃ (c_10 : Nat),
  ∃ (a_12 : Option Addr),
  ∃ (l_11 : Nat),
  ∃ (c_11 : Nat),
  ∃ (a_13 : Option Addr),
  ∃ (l_12 : Nat),
  ∃ (c_12 : Nat),
  ∃ (i_7 : Int),
  ∃ (i_8 : Int),
  ∃ (b : Bool),
  Ld
  Go.Proofs.Try.prog
  (41 : Nat)
  w'
  (Addr.mk b_2
  (0 : Nat)
  none)
  (Value.agg
  #[Value.int
  IntKind.i64
  i,
  Value.slice
  a l c,
  Value.slice
  a_11
  l_10
  c_10,
  Value.slice
  a_12
  l_11
  c_11,
  Value.slice
  a_13
  l_12
  c_12,
  Value.int
  IntKind.i64
  i_7,
  Value.int
  IntKind.i64
  i_8,
  Value.bool
  b]) ∧
  CallV
  Go.Proofs.Try.prog
  (26 : Nat)
  [Value.pointer
  p,
  Value.agg
  #[Value.int
  IntKind.i64
  i,
  Value.slice
  a l
  c,
  Value.slice
  a_11
  l_10
  c_10,
  Value.slice
  a_12
  l_11
  c_11,
  Value.slice
  a_13
  l_12
  c_12,
  Value.int
  IntKind.i64
  i_7,
  Value.int
  IntKind.i64
  i_8,
  Value.bool
  b]]
  w'
  fun
  (e :
  Ending)
  (w' :
  World) ↦
  ∃ (b :
  Bool),
  e =
  Ending.returned
  (Value.bool
  b) ∧
  R
  (Ending.returned
  (Value.bool
  b))
  w')
  (R (Ending.returned (Value.bool false)) w'))
  (R (Ending.returned (Value.bool false)) w'))
  (R (Ending.returned (Value.bool false)) w'))))
theorem vaultFinds.eq (scripta : Option Addr) (scriptn : Nat) (scriptc : Nat) (names : Int) (picksa : Option Addr) (picksn : Nat) (picksc : Nat) (w : World) (R : Ending → World → Prop) : bodyV Go.Proofs.Try.prog vaultFinds.an Go.Proofs.Try.f7 [.slice scripta scriptn scriptc, .int .i64 names, .slice picksa picksn picksc] w R = vaultFinds.vc scripta scriptn scriptc names picksa picksn picksc w R := by kernel_rfl
theorem vaultFinds.ok (scripta : Option Addr) (scriptn : Nat) (scriptc : Nat) (names : Int) (picksa : Option Addr) (picksn : Nat) (picksc : Nat) (w : World) (R : Ending → World → Prop) (h : vaultFinds.vc scripta scriptn scriptc names picksa picksn picksc w R) : Calls Go.Proofs.Try.prog 7 #[.slice scripta scriptn scriptc, .int .i64 names, .slice picksa picksn picksc] w R :=
  calls_of_bodyV noNum (an := vaultFinds.an) (args := [.slice scripta scriptn scriptc, .int .i64 names, .slice picksa picksn picksc]) Go.Proofs.Try.func7 (by kernel_rfl) ((vaultFinds.eq scripta scriptn scriptc names picksa picksn picksc w R).mpr h)

/-- incunable/incunablelaw09.VaultSynced -/
def vaultSynced.an : An := { wraps := [], loops := [(9, [(40, .inl .i64)])], joins := [], ranges := [] }
def vaultSynced.vc (scripta : Option Addr) (scriptn : Nat) (scriptc : Nat) (names : Int) (picksa : Option Addr) (picksn : Nat) (picksc : Nat) (w : World) (R : Ending → World → Prop) : Prop :=
  br (decide ((150 : Int) < (↑scriptn : Int)))
  (CallV Go.Proofs.Try.prog (11 : Nat) [] w fun (e : Ending) (w' : World) ↦ ∃ (b : Bool), e = Ending.returned (Value.bool b) ∧ R (Ending.returned (Value.bool b)) w')
  (CallV Go.Proofs.Try.prog (14 : Nat) [Value.int IntKind.i64 (40 : Int), Value.slice scripta scriptn scriptc] w fun (e : Ending) (w' : World) ↦
  ∃ (p : Option Addr),
  ∃ (i : Int),
  ∃ (a : Option Addr),
  ∃ (l : Nat),
  ∃ (c : Nat),
  ∃ (a_1 : Option Addr),
  ∃ (l_1 : Nat),
  ∃ (c_1 : Nat),
  ∃ (a_2 : Option Addr),
  ∃ (l_2 : Nat),
  ∃ (c_2 : Nat),
  ∃ (a_3 : Option Addr),
  ∃ (l_3 : Nat),
  ∃ (c_3 : Nat),
  ∃ (i_1 : Int),
  ∃ (i_2 : Int),
  ∃ (b : Bool),
  ∃ (b_1 : Bool),
  e =
  Ending.returned
  (Value.tuple
  #[Value.pointer p,
  Value.agg
  #[Value.int IntKind.i64 i, Value.slice a l c, Value.slice a_1 l_1 c_1, Value.slice a_2 l_2 c_2, Value.slice a_3 l_3 c_3, Value.int IntKind.i64 i_1,
  Value.int IntKind.i64 i_2, Value.bool b],
  Value.bool b_1]) ∧
  ∀ (b_2 : Nat) (w1 : World),
  New w'
  (Obj.cells
  #[Value.int IntKind.i64 (0 : Int), Value.slice none (0 : Nat) (0 : Nat), Value.slice none (0 : Nat) (0 : Nat), Value.slice none (0 : Nat) (0 : Nat),
  Value.slice none (0 : Nat) (0 : Nat), Value.int IntKind.i64 (0 : Int), Value.int IntKind.i64 (0 : Int), Value.bool false]
  (41 : Nat))
  b_2 w1 →
  ∃ (w1_1 : World),
  St Go.Proofs.Try.prog (41 : Nat) w1 (Addr.mk b_2 (0 : Nat) none)
  (Value.agg
  #[Value.int IntKind.i64 i, Value.slice a l c, Value.slice a_1 l_1 c_1, Value.slice a_2 l_2 c_2, Value.slice a_3 l_3 c_3,
  Value.int IntKind.i64 i_1, Value.int IntKind.i64 i_2, Value.bool b])
  w1_1 ∧
  br (!b_1)
  (br b_1
  (CallV Go.Proofs.Try.prog (11 : Nat) [] w1_1 fun (e : Ending) (w' : World) ↦
  ∃ (b : Bool), e = Ending.returned (Value.bool b) ∧ R (Ending.returned (Value.bool b)) w')
  (R (Ending.returned (Value.bool false)) w1_1))
  (∃ (b : Bool),
  Ld Go.Proofs.Try.prog (4 : Nat) w1_1 (Addr.mk b_2 (7 : Nat) none) (Value.bool b) ∧
  br b
  (br b_1
  (CallV Go.Proofs.Try.prog (11 : Nat) [] w1_1 fun (e : Ending) (w' : World) ↦
  ∃ (b : Bool), e = Ending.returned (Value.bool b) ∧ R (Ending.returned (Value.bool b)) w')
  (R (Ending.returned (Value.bool false)) w1_1))
  (CallV Go.Proofs.Try.prog (15 : Nat) [Value.pointer p, Value.int IntKind.i64 (0 : Int)] w1_1 fun (e : Ending) (w' : World) ↦
  e = Ending.returned (Value.tuple #[]) ∧
  CallV Go.Proofs.Try.prog (16 : Nat) [Value.pointer p, Value.int IntKind.i64 (0 : Int)] w' fun (e : Ending) (w' : World) ↦
  e = Ending.returned (Value.tuple #[]) ∧
  CallV Go.Proofs.Try.prog (28 : Nat) [Value.pointer p] w' fun (e : Ending) (w' : World) ↦
  ∃ (a : Option Addr),
  ∃ (l : Nat),
  ∃ (c : Nat),
  e = Ending.returned (Value.slice a l c) ∧
  LoopP
  (fun (s : Int) (w' : World) (next : Int → World → Prop) ↦
  br (decide (s < (↑l : Int)))
  (onP a fun (a : Addr) ↦
  ((0 : Int) ≤ s ∧ s < (↑l : Int)) ∧
  ∃ (s_1 : ByteArray),
  Ld Go.Proofs.Try.prog (9 : Nat) w' (Addr.add a (Int.toNat s * (1 : Nat))) (Value.string s_1) ∧
  CallV Go.Proofs.Try.prog (19 : Nat) [Value.pointer p, Value.string s_1] w' fun (e : Ending) (w' : World) ↦
  ∃ (i : Int),
  e = Ending.returned (Value.int IntKind.i64 i) ∧
  br (!decide (i = (0 : Int))) (R (Ending.returned (Value.bool false)) w')
  (inR IntKind.i64 (s + (1 : Int)) ∧ next (s + (1 : Int)) w'))
  (CallV Go.Proofs.Try.prog (20 : Nat) [Value.pointer p] w' fun (e : Ending) (w' : World) ↦
  ∃ (i : Int),
  e = Ending.returned (Value.int IntKind.i64 i) ∧
  br (!decide (i = (0 : Int))) (R (Ending.returned (Value.bool false)) w')
  (CallV Go.Proofs.Try.prog (21 : Nat)
  [Value.pointer p, Value.int IntKind.i64 names, Value.slice picksa picksn picksc] w'
  fun (e : Ending) (w' : World) ↦
  ∃ (p : Option Addr),
  e = Ending.returned (Value.pointer p) ∧
  CallV Go.Proofs.Try.prog (11 : Nat) [] w' fun (e : Ending) (w' : World) ↦
  ∃ (b : Bool),
  e = Ending.returned (Value.bool b) ∧
  br b
  (∃ (b : Bool),
  Eqv Go.Proofs.Try.prog BinOp.neq (23 : Nat) (Operand.tmp (58 : Nat))
  (Operand.const (Value.pointer none)) w' (Value.pointer p) (Value.pointer none) b ∧
  br b
  (∃ (i : Int),
  ∃ (a : Option Addr),
  ∃ (l : Nat),
  ∃ (c : Nat),
  ∃ (a_5 : Option Addr),
  ∃ (l_4 : Nat),
  ∃ (c_4 : Nat),
  ∃ (a_6 : Option Addr),
  ∃ (l_5 : Nat),
  ∃ (c_5 : Nat),
  ∃ (a_7 : Option Addr),
  ∃ (l_6 : Nat),
  ∃ (c_6 : Nat),
  ∃ (i_3 : Int),
  ∃ (i_4 : Int),
  ∃ (b : Bool),
  Ld Go.Proofs.Try.prog (41 : Nat) w'
  (Addr.mk b_2 (0 : Nat) none)
  (Value.agg
  #[Value.int IntKind.i64 i, Value.slice a l c,
  Value.slice a_5 l_4 c_4, Value.slice a_6 l_5 c_5,
  Value.slice a_7 l_6 c_6,
  Value.int IntKind.i64 i_3,
  Value.int IntKind.i64 i_4, Value.bool b]) ∧
  CallV Go.Proofs.Try.prog (26 : Nat)
  [Value.pointer p,
  Value.agg
  #[Value.int IntKind.i64 i, Value.slice a l c,
  Value.slice a_5 l_4 c_4,
  Value.slice a_6 l_5 c_5,
  Value.slice a_7 l_6 c_6,
  Value.int IntKind.i64 i_3,
  Value.int IntKind.i64 i_4, Value.bool b]]
  w' fun (e : Ending) (w' : World) ↦
  ∃ (b : Bool),
  e = Ending.returned (Value.bool b) ∧
  R (Ending.returned (Value.bool b)) w')
  (R (Ending.returned (Value.bool false)) w'))
  (R (Ending.returned (Value.bool false)) w'))))
  (0 : Int) w')))
theorem vaultSynced.eq (scripta : Option Addr) (scriptn : Nat) (scriptc : Nat) (names : Int) (picksa : Option Addr) (picksn : Nat) (picksc : Nat) (w : World) (R : Ending → World → Prop) : bodyV Go.Proofs.Try.prog vaultSynced.an Go.Proofs.Try.f8 [.slice scripta scriptn scriptc, .int .i64 names, .slice picksa picksn picksc] w R = vaultSynced.vc scripta scriptn scriptc names picksa picksn picksc w R := by kernel_rfl
theorem vaultSynced.ok (scripta : Option Addr) (scriptn : Nat) (scriptc : Nat) (names : Int) (picksa : Option Addr) (picksn : Nat) (picksc : Nat) (w : World) (R : Ending → World → Prop) (h : vaultSynced.vc scripta scriptn scriptc names picksa picksn picksc w R) : Calls Go.Proofs.Try.prog 8 #[.slice scripta scriptn scriptc, .int .i64 names, .slice picksa picksn picksc] w R :=
  calls_of_bodyV noNum (an := vaultSynced.an) (args := [.slice scripta scriptn scriptc, .int .i64 names, .slice picksa picksn picksc]) Go.Proofs.Try.func8 (by kernel_rfl) ((vaultSynced.eq scripta scriptn scriptc names picksa picksn picksc w R).mpr h)

/-- incunable/incunablelaw09.VaultApart -/
def vaultApart.an : An := { wraps := [], loops := [(11, [(46, .inl .i64)]), (20, [(75, .inl .i64)]), (28, [(101, .inl .i64)])], joins := [], ranges := [] }
def vaultApart.vc (scripta : Option Addr) (scriptn : Nat) (scriptc : Nat) (morea : Option Addr) (moren : Nat) (morec : Nat) (w : World) (R : Ending → World → Prop) : Prop :=
  br (decide ((100 : Int) < (↑scriptn : Int)))
  (CallV Go.Proofs.Try.prog (11 : Nat) [] w fun (e : Ending) (w' : World) ↦ ∃ (b : Bool), e = Ending.returned (Value.bool b) ∧ R (Ending.returned (Value.bool b)) w')
  (br (decide ((100 : Int) < (↑moren : Int)))
  (CallV Go.Proofs.Try.prog (11 : Nat) [] w fun (e : Ending) (w' : World) ↦ ∃ (b : Bool), e = Ending.returned (Value.bool b) ∧ R (Ending.returned (Value.bool b)) w')
  (CallV Go.Proofs.Try.prog (14 : Nat) [Value.int IntKind.i64 (40 : Int), Value.slice scripta scriptn scriptc] w fun (e : Ending) (w' : World) ↦
  ∃ (p : Option Addr),
  ∃ (i : Int),
  ∃ (a : Option Addr),
  ∃ (l : Nat),
  ∃ (c : Nat),
  ∃ (a_1 : Option Addr),
  ∃ (l_1 : Nat),
  ∃ (c_1 : Nat),
  ∃ (a_2 : Option Addr),
  ∃ (l_2 : Nat),
  ∃ (c_2 : Nat),
  ∃ (a_3 : Option Addr),
  ∃ (l_3 : Nat),
  ∃ (c_3 : Nat),
  ∃ (i_1 : Int),
  ∃ (i_2 : Int),
  ∃ (b : Bool),
  ∃ (b_1 : Bool),
  e =
  Ending.returned
  (Value.tuple
  #[Value.pointer p,
  Value.agg
  #[Value.int IntKind.i64 i, Value.slice a l c, Value.slice a_1 l_1 c_1, Value.slice a_2 l_2 c_2, Value.slice a_3 l_3 c_3,
  Value.int IntKind.i64 i_1, Value.int IntKind.i64 i_2, Value.bool b],
  Value.bool b_1]) ∧
  ∀ (b_2 : Nat) (w1 : World),
  New w'
  (Obj.cells
  #[Value.int IntKind.i64 (0 : Int), Value.slice none (0 : Nat) (0 : Nat), Value.slice none (0 : Nat) (0 : Nat), Value.slice none (0 : Nat) (0 : Nat),
  Value.slice none (0 : Nat) (0 : Nat), Value.int IntKind.i64 (0 : Int), Value.int IntKind.i64 (0 : Int), Value.bool false]
  (41 : Nat))
  b_2 w1 →
  ∃ (w1_1 : World),
  St Go.Proofs.Try.prog (41 : Nat) w1 (Addr.mk b_2 (0 : Nat) none)
  (Value.agg
  #[Value.int IntKind.i64 i, Value.slice a l c, Value.slice a_1 l_1 c_1, Value.slice a_2 l_2 c_2, Value.slice a_3 l_3 c_3,
  Value.int IntKind.i64 i_1, Value.int IntKind.i64 i_2, Value.bool b])
  w1_1 ∧
  br (!b_1) (R (Ending.returned (Value.bool false)) w1_1)
  (CallV Go.Proofs.Try.prog (21 : Nat) [Value.pointer p, Value.int IntKind.i64 (1000 : Int), Value.slice none (0 : Nat) (0 : Nat)] w1_1
  fun (e : Ending) (w' : World) ↦
  ∃ (p_1 : Option Addr),
  e = Ending.returned (Value.pointer p_1) ∧
  ∃ (i : Int),
  ∃ (a : Option Addr),
  ∃ (l : Nat),
  ∃ (c : Nat),
  ∃ (a_5 : Option Addr),
  ∃ (l_4 : Nat),
  ∃ (c_4 : Nat),
  ∃ (a_6 : Option Addr),
  ∃ (l_5 : Nat),
  ∃ (c_5 : Nat),
  ∃ (a_7 : Option Addr),
  ∃ (l_6 : Nat),
  ∃ (c_6 : Nat),
  ∃ (i_3 : Int),
  ∃ (i_4 : Int),
  ∃ (b : Bool),
  Ld Go.Proofs.Try.prog (41 : Nat) w' (Addr.mk b_2 (0 : Nat) none)
  (Value.agg
  #[Value.int IntKind.i64 i, Value.slice a l c, Value.slice a_5 l_4 c_4, Value.slice a_6 l_5 c_5,
  Value.slice a_7 l_6 c_6, Value.int IntKind.i64 i_3, Value.int IntKind.i64 i_4, Value.bool b]) ∧
  CallV Go.Proofs.Try.prog (27 : Nat)
  [Value.agg
  #[Value.int IntKind.i64 i, Value.slice a l c, Value.slice a_5 l_4 c_4, Value.slice a_6 l_5 c_5,
  Value.slice a_7 l_6 c_6, Value.int IntKind.i64 i_3, Value.int IntKind.i64 i_4, Value.bool b],
  Value.int IntKind.i64 (1000 : Int), Value.slice none (0 : Nat) (0 : Nat)]
  w' fun (e : Ending) (w' : World) ↦
  ∃ (i : Int),
  ∃ (a : Option Addr),
  ∃ (l : Nat),
  ∃ (c : Nat),
  ∃ (a_8 : Option Addr),
  ∃ (l_7 : Nat),
  ∃ (c_7 : Nat),
  ∃ (a_9 : Option Addr),
  ∃ (l_8 : Nat),
  ∃ (c_8 : Nat),
  ∃ (a_10 : Option Addr),
  ∃ (l_9 : Nat),
  ∃ (c_9 : Nat),
  ∃ (i_5 : Int),
  ∃ (i_6 : Int),
  ∃ (b : Bool),
  e =
  Ending.returned
  (Value.agg
  #[Value.int IntKind.i64 i, Value.slice a l c,
  Value.slice a_8 l_7 c_7, Value.slice a_9 l_8 c_8,
  Value.slice a_10 l_9 c_9, Value.int IntKind.i64 i_5,
  Value.int IntKind.i64 i_6, Value.bool b]) ∧
  ∀ (b_3 : Nat) (w1 : World),
  New w'
  (Obj.cells
  #[Value.int IntKind.i64 (0 : Int),
  Value.slice none (0 : Nat) (0 : Nat),
  Value.slice none (0 : Nat) (0 : Nat),
  Value.slice none (0 : Nat) (0 : Nat),
  Value.slice none (0 : Nat) (0 : Nat),
  Value.int IntKind.i64 (0 : Int),
  Value.int IntKind.i64 (0 : Int), Value.bool false]
  (41 : Nat))
  b_3 w1 →
  ∃ (w1_2 : World),
  St Go.Proofs.Try.prog (41 : Nat) w1 (Addr.mk b_3 (0 : Nat) none)
  (Value.agg
  #[Value.int IntKind.i64 i, Value.slice a l c,
  Value.slice a_8 l_7 c_7, Value.slice a_9 l_8 c_8,
  Value.slice a_10 l_9 c_9, Value.int IntKind.i64 i_5,
  Value.int IntKind.i64 i_6, Value.bool b])
  w1_2 ∧
  ∃ (b : Bool),
  Eqv Go.Proofs.Try.prog BinOp.eql (23 : Nat)
  (Operand.tmp (42 : Nat))
  (Operand.const (Value.pointer none)) w1_2
  (Value.pointer p_1) (Value.pointer none) b ∧
  br b (R (Ending.returned (Value.bool false)) w1_2)
  (LoopP
  (fun (s : Int) (w' : World)
  (next : Int → World → Prop) ↦
  br (decide (s < (↑moren : Int)))
  (onP morea fun (a : Addr) ↦
  ((0 : Int) ≤ s ∧ s < (↑moren : Int)) ∧
  ∃ (i : Int),
  ∃ (i_7 : Int),
  ∃ (s_1 : ByteArray),
  ∃ (s_2 : ByteArray),
  ∃ (a_12 : Option Addr),
  ∃ (l : Nat),
  ∃ (c : Nat),
  ∃ (a_13 : Option Addr),
  ∃ (l_10 : Nat),
  ∃ (c_10 : Nat),
  Ld Go.Proofs.Try.prog
  (29 : Nat) w'
  (Addr.add a
  (Int.toNat s *
  (6 : Nat)))
  (Value.agg
  #[Value.int
  IntKind.i64 i,
  Value.int
  IntKind.i64 i_7,
  Value.string s_1,
  Value.string s_2,
  Value.slice a_12 l
  c,
  Value.slice a_13
  l_10 c_10]) ∧
  ∀ (b : Nat)
  (w1 : World),
  New w'
  (Obj.cells
  #[Value.int
  IntKind.i64
  (0 : Int),
  Value.int
  IntKind.i64
  (0 : Int),
  Value.string
  (ByteArray.mk
  #[]),
  Value.string
  (ByteArray.mk
  #[]),
  Value.slice
  none
  (0 : Nat)
  (0 : Nat),
  Value.slice
  none
  (0 : Nat)
  (0 : Nat)]
  (29 : Nat))
  b w1 →
  ∃ (w1_3 : World),
  St Go.Proofs.Try.prog
  (29 : Nat) w1
  (Addr.mk b
  (0 : Nat)
  none)
  (Value.agg
  #[Value.int
  IntKind.i64
  i,
  Value.int
  IntKind.i64
  i_7,
  Value.string
  s_1,
  Value.string
  s_2,
  Value.slice
  a_12 l
  c,
  Value.slice
  a_13
  l_10
  c_10])
  w1_3 ∧
  ∃ (i : Int),
  Ld
  Go.Proofs.Try.prog
  (3 : Nat)
  w1_3
  (Addr.mk b
  (0 :
  Nat)
  none)
  (Value.int
  IntKind.i64
  i) ∧
  br
  (decide
  (i =
  (9 :
  Int)))
  (inR
  IntKind.i64
  (s +
  (1 :
  Int)) ∧
  next
  (s +
  (1 :
  Int))
  w1_3)
  (∃ (i :
  Int),
  ∃ (i_8 :
  Int),
  ∃ (s_3
  :
  ByteArray),
  ∃
  (s_4
  :
  ByteArray),
  ∃
  (a
  :
  Option
  Addr),
  ∃
  (l
  :
  Nat),
  ∃
  (c
  :
  Nat),
  ∃
  (a_14
  :
  Option
  Addr),
  ∃
  (l_11
  :
  Nat),
  ∃
  (c_11
  :
  Nat),
  Ld
  Go.Proofs.Try.prog
  (29 :
  Nat)
  w1_3
  (Addr.mk
  b
  (0 :
  Nat)
  none)
  (Value.agg
  #[Value.int
  IntKind.i64
  i,
  Value.int
  IntKind.i64
  i_8,
  Value.string
  s_3,
  Value.string
  s_4,
  Value.slice
  a
  l
  c,
  Value.slice
  a_14
  l_11
  c_11]) ∧
  ∀
  (b_4 :
  Nat)
  (w1 :
  World),
  New
  w1_3
  (Obj.cells
  #[Value.int
  IntKind.i64
  (0 :
  Int),
  Value.int
  IntKind.i64
  (0 :
  Int),
  Value.string
  (ByteArray.mk
  #[]),
  Value.string
  (ByteArray.mk
  #[]),
  Value.slice
  none
  (0 :
  Nat)
  (0 :
  Nat),
  Value.slice
  none
  (0 :
  Nat)
  (0 :
  Nat)]
  (29 :
  Nat))
  b_4
  w1 →
  ∃
  (w1_4
  :
  World),
  St
  Go.Proofs.Try.prog
  (29 :
  Nat)
  w1
  (Addr.mk
  b_4
  (0 :
  Nat)
  none)
  (Value.agg
  #[Value.int
  IntKind.i64
  i,
  Value.int
  IntKind.i64
  i_8,
  Value.string
  s_3,
  Value.string
  s_4,
  Value.slice
  a
  l
  c,
  Value.slice
  a_14
  l_11
  c_11])
  w1_4 ∧
  ∀
  (b_5 :
  Nat)
  (w1 :
  World),
  New
  w1_4
  (Obj.cells
  #[]
  (5 :
  Nat))
  b_5
  w1 →
  ∃
  (a
  :
  Option
  Addr),
  ∃
  (l
  :
  Nat),
  ∃
  (c
  :
  Nat),
  Ld
  Go.Proofs.Try.prog
  (26 :
  Nat)
  w1
  (Addr.mk
  b
  (4 :
  Nat)
  none)
  (Value.slice
  a
  l
  c) ∧
  ∃
  (a_16
  :
  Option
  Addr),
  ∃
  (n
  :
  Nat),
  ∃
  (m
  :
  Nat),
  ∃
  (w1_5
  :
  World),
  App
  Go.Proofs.Try.prog
  #[(26 :
  Nat),
  (26 :
  Nat)]
  (26 :
  Nat)
  w1
  (Value.slice
  (some
  (Addr.mk
  b_5
  (0 :
  Nat)
  none))
  (0 :
  Nat)
  (0 :
  Nat))
  (Value.slice
  a
  l
  c)
  (Value.slice
  a_16
  n
  m)
  w1_5 ∧
  ∃
  (w1
  :
  World),
  St
  Go.Proofs.Try.prog
  (26 :
  Nat)
  w1_5
  (Addr.mk
  b_4
  (4 :
  Nat)
  none)
  (Value.slice
  a_16
  n
  m)
  w1 ∧
  ∃
  (i
  :
  Int),
  ∃
  (a
  :
  Option
  Addr),
  ∃
  (l
  :
  Nat),
  ∃
  (c
  :
  Nat),
  ∃
  (a_17
  :
  Option
  Addr),
  ∃
  (l_12
  :
  Nat),
  ∃
  (c_12
  :
  Nat),
  ∃
  (a_18
  :
  Option
  Addr),
  ∃
  (l_13
  :
  Nat),
  ∃
  (c_13
  :
  Nat),
  ∃
  (a_19
  :
  Option
  Addr),
  ∃
  (l_14
  :
  Nat),
  ∃
  (c_14
  :
  Nat),
  ∃
  (i_9
  :
  Int),
  ∃
  (i_10
  :
  Int),
  ∃
  (b_6
  :
  Bool),
  Ld
  Go.Proofs.Try.prog
  (41 :
  Nat)
  w1
  (Addr.mk
  b_3
  (0 :
  Nat)
  none)
  (Value.agg
  #[Value.int
  IntKind.i64
  i,
  Value.slice
  a
  l
  c,
  Value.slice
  a_17
  l_12
  c_12,
  Value.slice
  a_18
  l_13
  c_13,
  Value.slice
  a_19
  l_14
  c_14,
  Value.int
  IntKind.i64
  i_9,
  Value.int
  IntKind.i64
  i_10,
  Value.bool
  b_6]) ∧
  ∃
  (i_11
  :
  Int),
  ∃
  (i_12
  :
  Int),
  ∃
  (s_5
  :
  ByteArray),
  ∃
  (s_6
  :
  ByteArray),
  ∃
  (a_20
  :
  Option
  Addr),
  ∃
  (l_15
  :
  Nat),
  ∃
  (c_15
  :
  Nat),
  ∃
  (a_21
  :
  Option
  Addr),
  ∃
  (l_16
  :
  Nat),
  ∃
  (c_16
  :
  Nat),
  Ld
  Go.Proofs.Try.prog
  (29 :
  Nat)
  w1
  (Addr.mk
  b
  (0 :
  Nat)
  none)
  (Value.agg
  #[Value.int
  IntKind.i64
  i_11,
  Value.int
  IntKind.i64
  i_12,
  Value.string
  s_5,
  Value.string
  s_6,
  Value.slice
  a_20
  l_15
  c_15,
  Value.slice
  a_21
  l_16
  c_16]) ∧
  CallV
  Go.Proofs.Try.prog
  (29 :
  Nat)
  [Value.agg
  #[Value.int
  IntKind.i64
  i,
  Value.slice
  a
  l
  c,
  Value.slice
  a_17
  l_12
  c_12,
  Value.slice
  a_18
  l_13
  c_13,
  Value.slice
  a_19
  l_14
  c_14,
  Value.int
  IntKind.i64
  i_9,
  Value.int
  IntKind.i64
  i_10,
  Value.bool
  b_6],
  Value.agg
  #[Value.int
  IntKind.i64
  i_11,
  Value.int
  IntKind.i64
  i_12,
  Value.string
  s_5,
  Value.string
  s_6,
  Value.slice
  a_20
  l_15
  c_15,
  Value.slice
  a_21
  l_16
  c_16]]
  w1
  fun
  (e :
  Ending)
  (w' :
  World) ↦
  ∃
  (i
  :
  Int),
  ∃
  (a
  :
  Option
  Addr),
  ∃
  (l
  :
  Nat),
  ∃
  (c
  :
  Nat),
  ∃
  (a_22
  :
  Option
  Addr),
  ∃
  (l_17
  :
  Nat),
  ∃
  (c_17
  :
  Nat),
  ∃
  (a_23
  :
  Option
  Addr),
  ∃
  (l_18
  :
  Nat),
  ∃
  (c_18
  :
  Nat),
  ∃
  (a_24
  :
  Option
  Addr),
  ∃
  (l_19
  :
  Nat),
  ∃
  (c_19
  :
  Nat),
  ∃
  (i_13
  :
  Int),
  ∃
  (i_14
  :
  Int),
  ∃
  (b_7
  :
  Bool),
  ∃
  (s_7
  :
  ByteArray),
  ∃
  (i_15
  :
  Int),
  e =
  Ending.returned
  (Value.tuple
  #[Value.agg
  #[Value.int
  IntKind.i64
  i,
  Value.slice
  a
  l
  c,
  Value.slice
  a_22
  l_17
  c_17,
  Value.slice
  a_23
  l_18
  c_18,
  Value.slice
  a_24
  l_19
  c_19,
  Value.int
  IntKind.i64
  i_13,
  Value.int
  IntKind.i64
  i_14,
  Value.bool
  b_7],
  Value.agg
  #[Value.string
  s_7,
  Value.int
  IntKind.i64
  i_15]]) ∧
  ∀
  (b_8 :
  Nat)
  (w1 :
  World),
  New
  w'
  (Obj.cells
  #[Value.int
  IntKind.i64
  (0 :
  Int),
  Value.slice
  none
  (0 :
  Nat)
  (0 :
  Nat),
  Value.slice
  none
  (0 :
  Nat)
  (0 :
  Nat),
  Value.slice
  none
  (0 :
  Nat)
  (0 :
  Nat),
  Value.slice
  none
  (0 :
  Nat)
  (0 :
  Nat),
  Value.int
  IntKind.i64
  (0 :
  Int),
  Value.int
  IntKind.i64
  (0 :
  Int),
  Value.bool
  false]
  (41 :
  Nat))
  b_8
  w1 →
  ∀
  (b_9 :
  Nat)
  (w1_6 :
  World),
  New
  w1
  (Obj.cells
  #[Value.string
  (ByteArray.mk
  #[]),
  Value.int
  IntKind.i64
  (0 :
  Int)]
  (32 :
  Nat))
  b_9
  w1_6 →
  ∃
  (w1
  :
  World),
  St
  Go.Proofs.Try.prog
  (41 :
  Nat)
  w1_6
  (Addr.mk
  b_8
  (0 :
  Nat)
  none)
  (Value.agg
  #[Value.int
  IntKind.i64
  i,
  Value.slice
  a
  l
  c,
  Value.slice
  a_22
  l_17
  c_17,
  Value.slice
  a_23
  l_18
  c_18,
  Value.slice
  a_24
  l_19
  c_19,
  Value.int
  IntKind.i64
  i_13,
  Value.int
  IntKind.i64
  i_14,
  Value.bool
  b_7])
  w1 ∧
  ∃
  (w1_7
  :
  World),
  St
  Go.Proofs.Try.prog
  (32 :
  Nat)
  w1
  (Addr.mk
  b_9
  (0 :
  Nat)
  none)
  (Value.agg
  #[Value.string
  s_7,
  Value.int
  IntKind.i64
  i_15])
  w1_7 ∧
  ∃
  (i
  :
  Int),
  ∃
  (a
  :
  Option
  Addr),
  ∃
  (l
  :
  Nat),
  ∃
  (c
  :
  Nat),
  ∃
  (a_27
  :
  Option
  Addr),
  ∃
  (l_20
  :
  Nat),
  ∃
  (c_20
  :
  Nat),
  ∃
  (a_28
  :
  Option
  Addr),
  ∃
  (l_21
  :
  Nat),
  ∃
  (c_21
  :
  Nat),
  ∃
  (a_29
  :
  Option
  Addr),
  ∃
  (l_22
  :
  Nat),
  ∃
  (c_22
  :
  Nat),
  ∃
  (i_16
  :
  Int),
  ∃
  (i_17
  :
  Int),
  ∃
  (b_10
  :
  Bool),
  Ld
  Go.Proofs.Try.prog
  (41 :
  Nat)
  w1_7
  (Addr.mk
  b_8
  (0 :
  Nat)
  none)
  (Value.agg
  #[Value.int
  IntKind.i64
  i,
  Value.slice
  a
  l
  c,
  Value.slice
  a_27
  l_20
  c_20,
  Value.slice
  a_28
  l_21
  c_21,
  Value.slice
  a_29
  l_22
  c_22,
  Value.int
  IntKind.i64
  i_16,
  Value.int
  IntKind.i64
  i_17,
  Value.bool
  b_10]) ∧
  ∃
  (w1
  :
  World),
  St
  Go.Proofs.Try.prog
  (41 :
  Nat)
  w1_7
  (Addr.mk
  b_3
  (0 :
  Nat)
  none)
  (Value.agg
  #[Value.int
  IntKind.i64
  i,
  Value.slice
  a
  l
  c,
  Value.slice
  a_27
  l_20
  c_20,
  Value.slice
  a_28
  l_21
  c_21,
  Value.slice
  a_29
  l_22
  c_22,
  Value.int
  IntKind.i64
  i_16,
  Value.int
  IntKind.i64
  i_17,
  Value.bool
  b_10])
  w1 ∧
  ∃
  (i
  :
  Int),
  ∃
  (i_18
  :
  Int),
  ∃
  (s_8
  :
  ByteArray),
  ∃
  (s_9
  :
  ByteArray),
  ∃
  (a
  :
  Option
  Addr),
  ∃
  (l
  :
  Nat),
  ∃
  (c
  :
  Nat),
  ∃
  (a_30
  :
  Option
  Addr),
  ∃
  (l_23
  :
  Nat),
  ∃
  (c_23
  :
  Nat),
  Ld
  Go.Proofs.Try.prog
  (29 :
  Nat)
  w1
  (Addr.mk
  b_4
  (0 :
  Nat)
  none)
  (Value.agg
  #[Value.int
  IntKind.i64
  i,
  Value.int
  IntKind.i64
  i_18,
  Value.string
  s_8,
  Value.string
  s_9,
  Value.slice
  a
  l
  c,
  Value.slice
  a_30
  l_23
  c_23]) ∧
  CallV
  Go.Proofs.Try.prog
  (12 :
  Nat)
  [Value.pointer
  p_1,
  Value.agg
  #[Value.int
  IntKind.i64
  i,
  Value.int
  IntKind.i64
  i_18,
  Value.string
  s_8,
  Value.string
  s_9,
  Value.slice
  a
  l
  c,
  Value.slice
  a_30
  l_23
  c_23]]
  w1
  fun
  (e :
  Ending)
  (w' :
  World) ↦
  ∃
  (p
  :
  Option
  Addr),
  ∃
  (s_10
  :
  ByteArray),
  ∃
  (i
  :
  Int),
  e =
  Ending.returned
  (Value.tuple
  #[Value.pointer
  p,
  Value.agg
  #[Value.string
  s_10,
  Value.int
  IntKind.i64
  i]]) ∧
  ∀
  (b_11 :
  Nat)
  (w1 :
  World),
  New
  w'
  (Obj.cells
  #[Value.string
  (ByteArray.mk
  #[]),
  Value.int
  IntKind.i64
  (0 :
  Int)]
  (32 :
  Nat))
  b_11
  w1 →
  ∃
  (w1_8
  :
  World),
  St
  Go.Proofs.Try.prog
  (32 :
  Nat)
  w1
  (Addr.mk
  b_11
  (0 :
  Nat)
  none)
  (Value.agg
  #[Value.string
  s_10,
  Value.int
  IntKind.i64
  i])
  w1_8 ∧
  ∃
  (a
  :
  Option
  Addr),
  ∃
  (l
  :
  Nat),
  ∃
  (c
  :
  Nat),
  Ld
  Go.Proofs.Try.prog
  (26 :
  Nat)
  w1_8
  (Addr.mk
  b_4
  (4 :
  Nat)
  none)
  (Value.slice
  a
  l
  c) ∧
  LoopP
  (fun
  (s_11 :
  Int)
  (w' :
  World)
  (next_1 :
  Int →
  World →
  Prop) ↦
  br
  (decide
  (s_11 <
  (↑l :
  Int)))
  (∃
  (a
  :
  Option
  Addr),
  ∃
  (l
  :
  Nat),
  ∃
  (c
  :
  Nat),
  Ld
  Go.Proofs.Try.prog
  (26 :
  Nat)
  (World.drew
  w')
  (Addr.mk
  b_4
  (4 :
  Nat)
  none)
  (Value.slice
  a
  l
  c) ∧
  ∃
  (a_31
  :
  Option
  Addr),
  ∃
  (l_24
  :
  Nat),
  ∃
  (c
  :
  Nat),
  Ld
  Go.Proofs.Try.prog
  (26 :
  Nat)
  (World.drew
  w')
  (Addr.mk
  b_4
  (4 :
  Nat)
  none)
  (Value.slice
  a_31
  l_24
  c) ∧
  onP
  a_31
  fun
  (a_32 :
  Addr) ↦
  ((0 :
  Int) ≤
  s_11 ∧
  s_11 <
  (↑l_24 :
  Int)) ∧
  ∃
  (i
  :
  Int),
  Ld
  Go.Proofs.Try.prog
  (5 :
  Nat)
  (World.drew
  w')
  (Addr.add
  a_32
  (Int.toNat
  s_11 *
  (1 :
  Nat)))
  (Value.int
  IntKind.u8
  i) ∧
  onP
  a
  fun
  (a :
  Addr) ↦
  ((0 :
  Int) ≤
  s_11 ∧
  s_11 <
  (↑l :
  Int)) ∧
  ∃
  (w1
  :
  World),
  St
  Go.Proofs.Try.prog
  (5 :
  Nat)
  (World.drew
  w')
  (Addr.add
  a
  (Int.toNat
  s_11 *
  (1 :
  Nat)))
  (Value.int
  IntKind.u8
  (Vc.bits
  BinOp.xor
  IntKind.u8
  (if
  IntKind.signed
  IntKind.u8 =
  true then
  (-1 :
  Int)
  else
  IntKind.max
  IntKind.u8)
  i))
  w1 ∧
  inR
  IntKind.i64
  (s_11 +
  (1 :
  Int)) ∧
  next_1
  (s_11 +
  (1 :
  Int))
  w1)
  (∃
  (s_12
  :
  ByteArray),
  ∃
  (i
  :
  Int),
  Ld
  Go.Proofs.Try.prog
  (32 :
  Nat)
  w'
  (Addr.mk
  b_11
  (0 :
  Nat)
  none)
  (Value.agg
  #[Value.string
  s_12,
  Value.int
  IntKind.i64
  i]) ∧
  ∃
  (s_13
  :
  ByteArray),
  ∃
  (i_19
  :
  Int),
  Ld
  Go.Proofs.Try.prog
  (32 :
  Nat)
  w'
  (Addr.mk
  b_9
  (0 :
  Nat)
  none)
  (Value.agg
  #[Value.string
  s_13,
  Value.int
  IntKind.i64
  i_19]) ∧
  ∃
  (b_12
  :
  Bool),
  Eqv
  Go.Proofs.Try.prog
  BinOp.neq
  (32 :
  Nat)
  (Operand.tmp
  (89 :
  Nat))
  (Operand.tmp
  (90 :
  Nat))
  w'
  (Value.agg
  #[Value.string
  s_12,
  Value.int
  IntKind.i64
  i])
  (Value.agg
  #[Value.string
  s_13,
  Value.int
  IntKind.i64
  i_19])
  b_12 ∧
  br
  b_12
  (R
  (Ending.returned
  (Value.bool
  false))
  w')
  (∃
  (s_14
  :
  ByteArray),
  Ld
  Go.Proofs.Try.prog
  (9 :
  Nat)
  w'
  (Addr.mk
  b
  (2 :
  Nat)
  none)
  (Value.string
  s_14) ∧
  CallV
  Go.Proofs.Try.prog
  (22 :
  Nat)
  [Value.pointer
  p_1,
  Value.string
  s_14,
  Value.int
  IntKind.i64
  (0 :
  Int)]
  w'
  fun
  (e :
  Ending)
  (w' :
  World) ↦
  ∃
  (a
  :
  Option
  Addr),
  ∃
  (l
  :
  Nat),
  ∃
  (c
  :
  Nat),
  ∃
  (i
  :
  Int),
  e =
  Ending.returned
  (Value.tuple
  #[Value.slice
  a
  l
  c,
  Value.int
  IntKind.i64
  i]) ∧
  LoopP
  (fun
  (s_15 :
  Int)
  (w' :
  World)
  (next_2 :
  Int →
  World →
  Prop) ↦
  br
  (decide
  (s_15 <
  (↑l :
  Int)))
  (onP
  a
  fun
  (a_31 :
  Addr) ↦
  ((0 :
  Int) ≤
  s_15 ∧
  s_15 <
  (↑l :
  Int)) ∧
  ∃
  (i
  :
  Int),
  Ld
  Go.Proofs.Try.prog
  (5 :
  Nat)
  w'
  (Addr.add
  a_31
  (Int.toNat
  s_15 *
  (1 :
  Nat)))
  (Value.int
  IntKind.u8
  i) ∧
  onP
  a
  fun
  (a :
  Addr) ↦
  ((0 :
  Int) ≤
  s_15 ∧
  s_15 <
  (↑l :
  Int)) ∧
  ∃
  (w1
  :
  World),
  St
  Go.Proofs.Try.prog
  (5 :
  Nat)
  w'
  (Addr.add
  a
  (Int.toNat
  s_15 *
  (1 :
  Nat)))
  (Value.int
  IntKind.u8
  (Vc.bits
  BinOp.xor
  IntKind.u8
  (if
  IntKind.signed
  IntKind.u8 =
  true then
  (-1 :
  Int)
  else
  IntKind.max
  IntKind.u8)
  i))
  w1 ∧
  inR
  IntKind.i64
  (s_15 +
  (1 :
  Int)) ∧
  next_2
  (s_15 +
  (1 :
  Int))
  w1)
  (inR
  IntKind.i64
  (s +
  (1 :
  Int)) ∧
  next
  (s +
  (1 :
  Int))
  w'))
  (0 :
  Int)
  w')))
  (0 :
  Int)
  w1_8))
  (CallV Go.Proofs.Try.prog (11 : Nat) [] w'
  fun (e : Ending) (w' : World) ↦
  ∃ (b : Bool),
  e = Ending.returned (Value.bool b) ∧
  br b
  (∃ (i : Int),
  ∃ (a : Option Addr),
  ∃ (l : Nat),
  ∃ (c : Nat),
  ∃ (a_12 : Option Addr),
  ∃ (l_10 : Nat),
  ∃ (c_10 : Nat),
  ∃ (a_13 : Option Addr),
  ∃ (l_11 : Nat),
  ∃ (c_11 : Nat),
  ∃ (a_14 :
  Option Addr),
  ∃ (l_12 : Nat),
  ∃ (c_12 : Nat),
  ∃ (i_7 : Int),
  ∃ (i_8 : Int),
  ∃ (b :
  Bool),
  Ld
  Go.Proofs.Try.prog
  (41 :
  Nat)
  w'
  (Addr.mk
  b_3
  (0 :
  Nat)
  none)
  (Value.agg
  #[Value.int
  IntKind.i64
  i,
  Value.slice
  a
  l
  c,
  Value.slice
  a_12
  l_10
  c_10,
  Value.slice
  a_13
  l_11
  c_11,
  Value.slice
  a_14
  l_12
  c_12,
  Value.int
  IntKind.i64
  i_7,
  Value.int
  IntKind.i64
  i_8,
  Value.bool
  b]) ∧
  CallV
  Go.Proofs.Try.prog
  (26 :
  Nat)
  [Value.pointer
  p_1,
  Value.agg
  #[Value.int
  IntKind.i64
  i,
  Value.slice
  a
  l
  c,
  Value.slice
  a_12
  l_10
  c_10,
  Value.slice
  a_13
  l_11
  c_11,
  Value.slice
  a_14
  l_12
  c_12,
  Value.int
  IntKind.i64
  i_7,
  Value.int
  IntKind.i64
  i_8,
  Value.bool
  b]]
  w'
  fun
  (e :
  Ending)
  (w' :
  World) ↦
  ∃ (b :
  Bool),
  e =
  Ending.returned
  (Value.bool
  b) ∧
  br
  b
  (∃
  (i
  :
  Int),
  ∃
  (a
  :
  Option
  Addr),
  ∃
  (l
  :
  Nat),
  ∃
  (c
  :
  Nat),
  ∃
  (a_15
  :
  Option
  Addr),
  ∃
  (l_13
  :
  Nat),
  ∃
  (c_13
  :
  Nat),
  ∃
  (a_16
  :
  Option
  Addr),
  ∃
  (l_14
  :
  Nat),
  ∃
  (c_14
  :
  Nat),
  ∃
  (a_17
  :
  Option
  Addr),
  ∃
  (l_15
  :
  Nat),
  ∃
  (c_15
  :
  Nat),
  ∃
  (i_9
  :
  Int),
  ∃
  (i_10
  :
  Int),
  ∃
  (b
  :
  Bool),
  Ld
  Go.Proofs.Try.prog
  (41 :
  Nat)
  w'
  (Addr.mk
  b_2
  (0 :
  Nat)
  none)
  (Value.agg
  #[Value.int
  IntKind.i64
  i,
  Value.slice
  a
  l
  c,
  Value.slice
  a_15
  l_13
  c_13,
  Value.slice
  a_16
  l_14
  c_14,
  Value.slice
  a_17
  l_15
  c_15,
  Value.int
  IntKind.i64
  i_9,
  Value.int
  IntKind.i64
  i_10,
  Value.bool
  b]) ∧
  CallV
  Go.Proofs.Try.prog
  (26 :
  Nat)
  [Value.pointer
  p,
  Value.agg
  #[Value.int
  IntKind.i64
  i,
  Value.slice
  a
  l
  c,
  Value.slice
  a_15
  l_13
  c_13,
  Value.slice
  a_16
  l_14
  c_14,
  Value.slice
  a_17
  l_15
  c_15,
  Value.int
  IntKind.i64
  i_9,
  Value.int
  IntKind.i64
  i_10,
  Value.bool
  b]]
  w'
  fun
  (e :
  Ending)
  (w' :
  World) ↦
  ∃
  (b
  :
  Bool),
  e =
  Ending.returned
  (Value.bool
  b) ∧
  R
  (Ending.returned
  (Value.bool
  b))
  w')
  (R
  (Ending.returned
  (Value.bool
  false))
  w'))
  (R (Ending.returned (Value.bool false))
  w')))
  (0 : Int) w1_2))))
theorem vaultApart.eq (scripta : Option Addr) (scriptn : Nat) (scriptc : Nat) (morea : Option Addr) (moren : Nat) (morec : Nat) (w : World) (R : Ending → World → Prop) : bodyV Go.Proofs.Try.prog vaultApart.an Go.Proofs.Try.f9 [.slice scripta scriptn scriptc, .slice morea moren morec] w R = vaultApart.vc scripta scriptn scriptc morea moren morec w R := by kernel_rfl
theorem vaultApart.ok (scripta : Option Addr) (scriptn : Nat) (scriptc : Nat) (morea : Option Addr) (moren : Nat) (morec : Nat) (w : World) (R : Ending → World → Prop) (h : vaultApart.vc scripta scriptn scriptc morea moren morec w R) : Calls Go.Proofs.Try.prog 9 #[.slice scripta scriptn scriptc, .slice morea moren morec] w R :=
  calls_of_bodyV noNum (an := vaultApart.an) (args := [.slice scripta scriptn scriptc, .slice morea moren morec]) Go.Proofs.Try.func9 (by kernel_rfl) ((vaultApart.eq scripta scriptn scriptc morea moren morec w R).mpr h)


end Go.Proofs.Ytnmlkecmokhhhaa
