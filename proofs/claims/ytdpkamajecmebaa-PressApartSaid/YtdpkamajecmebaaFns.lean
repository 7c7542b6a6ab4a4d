/- Of each function the statement that the calculus reckons, printed by a program, and that it is that statement. -/
import Derived.Test.YtdpkamajecmebaaFnsA
import Derived.Test.YtdpkamajecmebaaChecked
set_option linter.unusedVariables false
set_option maxRecDepth 100000
namespace Go.Proofs.Ytdpkamajecmebaa
open Go Go.Vc

/-- incunable/incunableref09.right -/
def rright.an : An := { wraps := [], loops := [], joins := [], ranges := [] }
def rright.vc (s : ByteArray) (w : World) (R : Ending → World → Prop) : Prop :=
  br (decide ((1 : Int) ≤ (↑(ByteArray.size s) : Int))) (R (Ending.returned (Value.bool (decide ((↑(ByteArray.size s) : Int) ≤ (60 : Int))))) w) (R (Ending.returned (Value.bool false)) w)
theorem rright.eq (s : ByteArray) (w : World) (R : Ending → World → Prop) : bodyV Go.Proofs.Try.prog rright.an Go.Proofs.Try.f67 [.string s] w R = rright.vc s w R := by kernel_rfl
theorem rright.ok (s : ByteArray) (w : World) (R : Ending → World → Prop) (h : rright.vc s w R) : Calls Go.Proofs.Try.prog 67 #[.string s] w R :=
  calls_of_bodyV noNum (an := rright.an) (args := [.string s]) Go.Proofs.Try.func67 (by kernel_rfl) ((rright.eq s w R).mpr h)

/-- incunable/incunableref09.named -/
def rnamed.an : An := { wraps := [], loops := [], joins := [], ranges := [] }
def rnamed.vc (d_Room : Int) (d_Filesa : Option Addr) (d_Filesn : Nat) (d_Filesc : Nat) (d_Namesa : Option Addr) (d_Namesn : Nat) (d_Namesc : Nat) (d_Firma : Option Addr) (d_Firmn : Nat) (d_Firmc : Nat) (d_Sincea : Option Addr) (d_Sincen : Nat) (d_Sincec : Nat) (d_Armed : Int) (d_Denied : Int) (d_Dead : Bool) (la : Option Addr) (ln : Nat) (lc : Nat) (w : World) (R : Ending → World → Prop) : Prop :=
  ∀ (b : Nat) (w1 : World),
  New w
  (Obj.cells
  #[Value.int IntKind.i64 d_Room, Value.slice d_Filesa d_Filesn d_Filesc, Value.slice d_Namesa d_Namesn d_Namesc, Value.slice d_Firma d_Firmn d_Firmc, Value.slice d_Sincea d_Sincen d_Sincec,
  Value.int IntKind.i64 d_Armed, Value.int IntKind.i64 d_Denied, Value.bool d_Dead]
  (44 : Nat))
  b w1 →
  ∀ (b_1 : Nat) (w1_1 : World),
  New w1
  (Obj.cells
  #[Value.int IntKind.i64 (0 : Int), Value.slice none (0 : Nat) (0 : Nat), Value.slice none (0 : Nat) (0 : Nat), Value.slice none (0 : Nat) (0 : Nat), Value.slice none (0 : Nat) (0 : Nat),
  Value.int IntKind.i64 (0 : Int), Value.int IntKind.i64 (0 : Int), Value.bool false]
  (44 : Nat))
  b_1 w1_1 →
  ∃ (w1 : World),
  St Go.Proofs.Try.prog (41 : Nat) w1_1 (Addr.mk b (2 : Nat) none) (Value.slice la ln lc) w1 ∧
  ∀ (b_2 : Nat) (w1_2 : World),
  New w1 (Obj.cells #[] (41 : Nat)) b_2 w1_2 →
  ∃ (a : Option Addr),
  ∃ (l : Nat),
  ∃ (c : Nat),
  Ld Go.Proofs.Try.prog (42 : Nat) w1_2 (Addr.mk b (4 : Nat) none) (Value.slice a l c) ∧
  ∃ (a_1 : Option Addr),
  ∃ (n : Nat),
  ∃ (m : Nat),
  ∃ (w1 : World),
  App Go.Proofs.Try.prog #[(42 : Nat), (42 : Nat)] (42 : Nat) w1_2 (Value.slice (some (Addr.mk b_2 (0 : Nat) none)) (0 : Nat) (0 : Nat)) (Value.slice a l c)
  (Value.slice a_1 n m) w1 ∧
  ∀ (b_3 : Nat) (w1_3 : World),
  New w1 (Obj.cells #[Value.slice la ln lc] (41 : Nat)) b_3 w1_3 →
  ∃ (a : Option Addr),
  ∃ (n_1 : Nat),
  ∃ (m_1 : Nat),
  ∃ (w1 : World),
  App Go.Proofs.Try.prog #[(42 : Nat), (42 : Nat)] (42 : Nat) w1_3 (Value.slice a_1 n m) (Value.slice (some (Addr.mk b_3 (0 : Nat) none)) (1 : Nat) (1 : Nat))
  (Value.slice a n_1 m_1) w1 ∧
  ∃ (w1_4 : World),
  St Go.Proofs.Try.prog (42 : Nat) w1 (Addr.mk b (4 : Nat) none) (Value.slice a n_1 m_1) w1_4 ∧
  ∃ (i : Int),
  ∃ (a : Option Addr),
  ∃ (l : Nat),
  ∃ (c : Nat),
  ∃ (a_2 : Option Addr),
  ∃ (l_1 : Nat),
  ∃ (c_1 : Nat),
  ∃ (a_3 : Option Addr),
  ∃ (l_2 : Nat),
  ∃ (c_2 : Nat),
  ∃ (a_4 : Option Addr),
  ∃ (l_3 : Nat),
  ∃ (c_3 : Nat),
  ∃ (i_1 : Int),
  ∃ (i_2 : Int),
  ∃ (b_4 : Bool),
  Ld Go.Proofs.Try.prog (44 : Nat) w1_4 (Addr.mk b (0 : Nat) none)
  (Value.agg
  #[Value.int IntKind.i64 i, Value.slice a l c, Value.slice a_2 l_1 c_1, Value.slice a_3 l_2 c_2,
  Value.slice a_4 l_3 c_3, Value.int IntKind.i64 i_1, Value.int IntKind.i64 i_2, Value.bool b_4]) ∧
  ∃ (w1 : World),
  St Go.Proofs.Try.prog (44 : Nat) w1_4 (Addr.mk b_1 (0 : Nat) none)
  (Value.agg
  #[Value.int IntKind.i64 i, Value.slice a l c, Value.slice a_2 l_1 c_1, Value.slice a_3 l_2 c_2,
  Value.slice a_4 l_3 c_3, Value.int IntKind.i64 i_1, Value.int IntKind.i64 i_2, Value.bool b_4])
  w1 ∧
  ∃ (i : Int),
  ∃ (a : Option Addr),
  ∃ (l : Nat),
  ∃ (c : Nat),
  ∃ (a_5 : Option Addr),
  ∃ (l_4 : Nat),
  ∃ (c_4 : Nat),
  ∃ (a_6 : Option Addr),
  ∃ (l_5 : Nat),
  ∃ (c_5 : Nat),
  ∃ (a_7 : Option Addr),
  ∃ (l_6 : Nat),
  ∃ (c_6 : Nat),
  ∃ (i_3 : Int),
  ∃ (i_4 : Int),
  ∃ (b : Bool),
  Ld Go.Proofs.Try.prog (44 : Nat) w1 (Addr.mk b_1 (0 : Nat) none)
  (Value.agg
  #[Value.int IntKind.i64 i, Value.slice a l c, Value.slice a_5 l_4 c_4,
  Value.slice a_6 l_5 c_5, Value.slice a_7 l_6 c_6,
  Value.int IntKind.i64 i_3, Value.int IntKind.i64 i_4, Value.bool b]) ∧
  R
  (Ending.returned
  (Value.agg
  #[Value.int IntKind.i64 i, Value.slice a l c, Value.slice a_5 l_4 c_4,
  Value.slice a_6 l_5 c_5, Value.slice a_7 l_6 c_6,
  Value.int IntKind.i64 i_3, Value.int IntKind.i64 i_4,
  Value.bool b]))
  w1
theorem rnamed.eq (d_Room : Int) (d_Filesa : Option Addr) (d_Filesn : Nat) (d_Filesc : Nat) (d_Namesa : Option Addr) (d_Namesn : Nat) (d_Namesc : Nat) (d_Firma : Option Addr) (d_Firmn : Nat) (d_Firmc : Nat) (d_Sincea : Option Addr) (d_Sincen : Nat) (d_Sincec : Nat) (d_Armed : Int) (d_Denied : Int) (d_Dead : Bool) (la : Option Addr) (ln : Nat) (lc : Nat) (w : World) (R : Ending → World → Prop) : bodyV Go.Proofs.Try.prog rnamed.an Go.Proofs.Try.f70 [.agg #[.int .i64 d_Room, .slice d_Filesa d_Filesn d_Filesc, .slice d_Namesa d_Namesn d_Namesc, .slice d_Firma d_Firmn d_Firmc, .slice d_Sincea d_Sincen d_Sincec, .int .i64 d_Armed, .int .i64 d_Denied, .bool d_Dead], .slice la ln lc] w R = rnamed.vc d_Room d_Filesa d_Filesn d_Filesc d_Namesa d_Namesn d_Namesc d_Firma d_Firmn d_Firmc d_Sincea d_Sincen d_Sincec d_Armed d_Denied d_Dead la ln lc w R := by kernel_rfl
theorem rnamed.ok (d_Room : Int) (d_Filesa : Option Addr) (d_Filesn : Nat) (d_Filesc : Nat) (d_Namesa : Option Addr) (d_Namesn : Nat) (d_Namesc : Nat) (d_Firma : Option Addr) (d_Firmn : Nat) (d_Firmc : Nat) (d_Sincea : Option Addr) (d_Sincen : Nat) (d_Sincec : Nat) (d_Armed : Int) (d_Denied : Int) (d_Dead : Bool) (la : Option Addr) (ln : Nat) (lc : Nat) (w : World) (R : Ending → World → Prop) (h : rnamed.vc d_Room d_Filesa d_Filesn d_Filesc d_Namesa d_Namesn d_Namesc d_Firma d_Firmn d_Firmc d_Sincea d_Sincen d_Sincec d_Armed d_Denied d_Dead la ln lc w R) : Calls Go.Proofs.Try.prog 70 #[.agg #[.int .i64 d_Room, .slice d_Filesa d_Filesn d_Filesc, .slice d_Namesa d_Namesn d_Namesc, .slice d_Firma d_Firmn d_Firmc, .slice d_Sincea d_Sincen d_Sincec, .int .i64 d_Armed, .int .i64 d_Denied, .bool d_Dead], .slice la ln lc] w R :=
  calls_of_bodyV noNum (an := rnamed.an) (args := [.agg #[.int .i64 d_Room, .slice d_Filesa d_Filesn d_Filesc, .slice d_Namesa d_Namesn d_Namesc, .slice d_Firma d_Firmn d_Firmc, .slice d_Sincea d_Sincen d_Sincec, .int .i64 d_Armed, .int .i64 d_Denied, .bool d_Dead], .slice la ln lc]) Go.Proofs.Try.func70 (by kernel_rfl) ((rnamed.eq d_Room d_Filesa d_Filesn d_Filesc d_Namesa d_Namesn d_Namesc d_Firma d_Firmn d_Firmc d_Sincea d_Sincen d_Sincec d_Armed d_Denied d_Dead la ln lc w R).mpr h)

/-- incunable/incunableref09.with -/
def rwith.an : An := { wraps := [], loops := [(5, [(5, .inr 3), (6, .inr 0), (7, .inl .i64)])], joins := [(8, [(29, .inr 0)])], ranges := [] }
def rwith.vc (la : Option Addr) (ln : Nat) (lc : Nat) (n_Name : ByteArray) (n_File : Int) (w : World) (R : Ending → World → Prop) : Prop :=
  ∀ (b : Nat) (w1 : World),
  New w (Obj.cells #[Value.string n_Name, Value.int IntKind.i64 n_File] (130 : Nat)) b w1 →
  ∃ (s : ByteArray),
  Ld Go.Proofs.Try.prog (9 : Nat) w1 (Addr.mk b (0 : Nat) none) (Value.string s) ∧
  CallV Go.Proofs.Try.prog (73 : Nat) [Value.slice la ln lc, Value.string s] w1 fun (e : Ending) (w' : World) ↦
  ∃ (a : Option Addr),
  ∃ (l : Nat),
  ∃ (c : Nat),
  e = Ending.returned (Value.slice a l c) ∧
  LoopP
  (fun (s : (Option Addr × Nat × Nat) × Bool × Int) (w' : World) (next : (Option Addr × Nat × Nat) × Bool × Int → World → Prop) ↦
  br (decide (Prod.snd (Prod.snd s) < (↑l : Int)))
  (JoinP
  (fun (s_1 : Bool) (w' : World) ↦
  br s_1
  (∃ (s_2 : ByteArray),
  ∃ (i : Int),
  Ld Go.Proofs.Try.prog (130 : Nat) w' (Addr.mk b (0 : Nat) none) (Value.agg #[Value.string s_2, Value.int IntKind.i64 i]) ∧
  ∀ (b : Nat) (w1 : World),
  New w' (Obj.cells #[Value.string s_2, Value.int IntKind.i64 i] (130 : Nat)) b w1 →
  ∃ (a_2 : Option Addr),
  ∃ (n : Nat),
  ∃ (m : Nat),
  ∃ (w1_1 : World),
  App Go.Proofs.Try.prog #[(41 : Nat), (41 : Nat)] (41 : Nat) w1
  (Value.slice (Prod.fst (Prod.fst s)) (Prod.fst (Prod.snd (Prod.fst s))) (Prod.snd (Prod.snd (Prod.fst s))))
  (Value.slice (some (Addr.mk b (0 : Nat) none)) (1 : Nat) (1 : Nat)) (Value.slice a_2 n m) w1_1 ∧
  onP a fun (a : Addr) ↦
  ((0 : Int) ≤ Prod.snd (Prod.snd s) ∧ Prod.snd (Prod.snd s) < (↑l : Int)) ∧
  ∃ (s_3 : ByteArray),
  ∃ (i : Int),
  Ld Go.Proofs.Try.prog (130 : Nat) w1_1 (Addr.add a (Int.toNat (Prod.snd (Prod.snd s)) * (2 : Nat)))
  (Value.agg #[Value.string s_3, Value.int IntKind.i64 i]) ∧
  ∀ (b : Nat) (w1 : World),
  New w1_1 (Obj.cells #[Value.string s_3, Value.int IntKind.i64 i] (130 : Nat)) b w1 →
  ∃ (a : Option Addr),
  ∃ (n_1 : Nat),
  ∃ (m_1 : Nat),
  ∃ (w1_2 : World),
  App Go.Proofs.Try.prog #[(41 : Nat), (41 : Nat)] (41 : Nat) w1 (Value.slice a_2 n m)
  (Value.slice (some (Addr.mk b (0 : Nat) none)) (1 : Nat) (1 : Nat)) (Value.slice a n_1 m_1) w1_2 ∧
  inR IntKind.i64 (Prod.snd (Prod.snd s) + (1 : Int)) ∧ next ((a, n_1, m_1), true, Prod.snd (Prod.snd s) + (1 : Int)) w1_2)
  (onP a fun (a : Addr) ↦
  ((0 : Int) ≤ Prod.snd (Prod.snd s) ∧ Prod.snd (Prod.snd s) < (↑l : Int)) ∧
  ∃ (s_2 : ByteArray),
  ∃ (i : Int),
  Ld Go.Proofs.Try.prog (130 : Nat) w' (Addr.add a (Int.toNat (Prod.snd (Prod.snd s)) * (2 : Nat))) (Value.agg #[Value.string s_2, Value.int IntKind.i64 i]) ∧
  ∀ (b : Nat) (w1 : World),
  New w' (Obj.cells #[Value.string s_2, Value.int IntKind.i64 i] (130 : Nat)) b w1 →
  ∃ (a : Option Addr),
  ∃ (n : Nat),
  ∃ (m : Nat),
  ∃ (w1_1 : World),
  App Go.Proofs.Try.prog #[(41 : Nat), (41 : Nat)] (41 : Nat) w1
  (Value.slice (Prod.fst (Prod.fst s)) (Prod.fst (Prod.snd (Prod.fst s))) (Prod.snd (Prod.snd (Prod.fst s))))
  (Value.slice (some (Addr.mk b (0 : Nat) none)) (1 : Nat) (1 : Nat)) (Value.slice a n m) w1_1 ∧
  inR IntKind.i64 (Prod.snd (Prod.snd s) + (1 : Int)) ∧ next ((a, n, m), Prod.fst (Prod.snd s), Prod.snd (Prod.snd s) + (1 : Int)) w1_1))
  fun (J : Bool → World → Prop) ↦
  br (!Prod.fst (Prod.snd s))
  (onP a fun (a : Addr) ↦
  ((0 : Int) ≤ Prod.snd (Prod.snd s) ∧ Prod.snd (Prod.snd s) < (↑l : Int)) ∧
  ∃ (s_1 : ByteArray),
  Ld Go.Proofs.Try.prog (9 : Nat) (World.drew w') (Addr.add a (Int.toNat (Prod.snd (Prod.snd s)) * (2 : Nat))) (Value.string s_1) ∧
  ∃ (s : ByteArray),
  Ld Go.Proofs.Try.prog (9 : Nat) (World.drew w') (Addr.mk b (0 : Nat) none) (Value.string s) ∧
  J (!(Op.bytesLess (Array.toList (ByteArray.data s_1)) (Array.toList (ByteArray.data s)) || decide (s_1 = s))) (World.drew w'))
  (J false (World.drew w')))
  (br (!Prod.fst (Prod.snd s))
  (∃ (s_1 : ByteArray),
  ∃ (i : Int),
  Ld Go.Proofs.Try.prog (130 : Nat) w' (Addr.mk b (0 : Nat) none) (Value.agg #[Value.string s_1, Value.int IntKind.i64 i]) ∧
  ∀ (b : Nat) (w1 : World),
  New w' (Obj.cells #[Value.string s_1, Value.int IntKind.i64 i] (130 : Nat)) b w1 →
  ∃ (a : Option Addr),
  ∃ (n : Nat),
  ∃ (m : Nat),
  ∃ (w1_1 : World),
  App Go.Proofs.Try.prog #[(41 : Nat), (41 : Nat)] (41 : Nat) w1
  (Value.slice (Prod.fst (Prod.fst s)) (Prod.fst (Prod.snd (Prod.fst s))) (Prod.snd (Prod.snd (Prod.fst s))))
  (Value.slice (some (Addr.mk b (0 : Nat) none)) (1 : Nat) (1 : Nat)) (Value.slice a n m) w1_1 ∧
  R (Ending.returned (Value.slice a n m)) w1_1)
  (R (Ending.returned (Value.slice (Prod.fst (Prod.fst s)) (Prod.fst (Prod.snd (Prod.fst s))) (Prod.snd (Prod.snd (Prod.fst s))))) w')))
  ((none, (0 : Nat), (0 : Nat)), false, (0 : Int)) w'
theorem rwith.eq (la : Option Addr) (ln : Nat) (lc : Nat) (n_Name : ByteArray) (n_File : Int) (w : World) (R : Ending → World → Prop) : bodyV Go.Proofs.Try.prog rwith.an Go.Proofs.Try.f71 [.slice la ln lc, .agg #[.string n_Name, .int .i64 n_File]] w R = rwith.vc la ln lc n_Name n_File w R := by kernel_rfl
theorem rwith.ok (la : Option Addr) (ln : Nat) (lc : Nat) (n_Name : ByteArray) (n_File : Int) (w : World) (R : Ending → World → Prop) (h : rwith.vc la ln lc n_Name n_File w R) : Calls Go.Proofs.Try.prog 71 #[.slice la ln lc, .agg #[.string n_Name, .int .i64 n_File]] w R :=
  calls_of_bodyV noNum (an := rwith.an) (args := [.slice la ln lc, .agg #[.string n_Name, .int .i64 n_File]]) Go.Proofs.Try.func71 (by kernel_rfl) ((rwith.eq la ln lc n_Name n_File w R).mpr h)

/-- incunable/incunableref09.written -/
def rwritten.an : An := { wraps := [], loops := [], joins := [(8, [(8, .inr 3)])], ranges := [] }
def rwritten.vc (d_Room : Int) (d_Filesa : Option Addr) (d_Filesn : Nat) (d_Filesc : Nat) (d_Namesa : Option Addr) (d_Namesn : Nat) (d_Namesc : Nat) (d_Firma : Option Addr) (d_Firmn : Nat) (d_Firmc : Nat) (d_Sincea : Option Addr) (d_Sincen : Nat) (d_Sincec : Nat) (d_Armed : Int) (d_Denied : Int) (d_Dead : Bool) (o_Kind : Int) (o_N : Int) (o_Name : ByteArray) (o_To : ByteArray) (o_Ba : Option Addr) (o_Bn : Nat) (o_Bc : Nat) (o_Picksa : Option Addr) (o_Picksn : Nat) (o_Picksc : Nat) (w : World) (R : Ending → World → Prop) : Prop :=
  ∀ (b : Nat) (w1 : World),
  New w
  (Obj.cells
  #[Value.int IntKind.i64 d_Room, Value.slice d_Filesa d_Filesn d_Filesc, Value.slice d_Namesa d_Namesn d_Namesc, Value.slice d_Firma d_Firmn d_Firmc, Value.slice d_Sincea d_Sincen d_Sincec,
  Value.int IntKind.i64 d_Armed, Value.int IntKind.i64 d_Denied, Value.bool d_Dead]
  (44 : Nat))
  b w1 →
  ∀ (b_1 : Nat) (w1_1 : World),
  New w1
  (Obj.cells #[Value.int IntKind.i64 o_Kind, Value.int IntKind.i64 o_N, Value.string o_Name, Value.string o_To, Value.slice o_Ba o_Bn o_Bc, Value.slice o_Picksa o_Picksn o_Picksc] (49 : Nat))
  b_1 w1_1 →
  ∀ (b_2 : Nat) (w1 : World),
  New w1_1
  (Obj.cells
  #[Value.int IntKind.i64 (0 : Int), Value.slice none (0 : Nat) (0 : Nat), Value.slice none (0 : Nat) (0 : Nat), Value.slice none (0 : Nat) (0 : Nat),
  Value.slice none (0 : Nat) (0 : Nat), Value.int IntKind.i64 (0 : Int), Value.int IntKind.i64 (0 : Int), Value.bool false]
  (44 : Nat))
  b_2 w1 →
  ∃ (a : Option Addr),
  ∃ (l : Nat),
  ∃ (c : Nat),
  Ld Go.Proofs.Try.prog (41 : Nat) w1 (Addr.mk b (2 : Nat) none) (Value.slice a l c) ∧
  ∃ (s : ByteArray),
  Ld Go.Proofs.Try.prog (9 : Nat) w1 (Addr.mk b_1 (2 : Nat) none) (Value.string s) ∧
  CallV Go.Proofs.Try.prog (50 : Nat) [Value.slice a l c, Value.string s] w1 fun (e : Ending) (w' : World) ↦
  ∃ (i : Int),
  e = Ending.returned (Value.int IntKind.i64 i) ∧
  ∃ (a : Option Addr),
  ∃ (n : Nat),
  ∃ (m : Nat),
  ∃ (w1 : World),
  MkS Go.Proofs.Try.prog (46 : Nat) w' (Value.int IntKind.i64 (512 : Int)) (Value.int IntKind.i64 (512 : Int)) (Value.slice a n m) w1 ∧
  ∃ (a_1 : Option Addr),
  ∃ (l : Nat),
  ∃ (c : Nat),
  Ld Go.Proofs.Try.prog (46 : Nat) w1 (Addr.mk b_1 (4 : Nat) none) (Value.slice a_1 l c) ∧
  ∃ (n_1 : Int),
  ∃ (w1_2 : World),
  Cpy Go.Proofs.Try.prog #[(46 : Nat), (46 : Nat)] (3 : Nat) w1 (Value.slice a n m) (Value.slice a_1 l c) (Value.int IntKind.i64 n_1) w1_2 ∧
  ∃ (a_2 : Option Addr),
  ∃ (l : Nat),
  ∃ (c : Nat),
  Ld Go.Proofs.Try.prog (40 : Nat) w1_2 (Addr.mk b (1 : Nat) none) (Value.slice a_2 l c) ∧
  onP a_2 fun (a_3 : Addr) ↦
  ((0 : Int) ≤ i ∧ i < (↑l : Int)) ∧
  ∃ (a_4 : Option Addr),
  ∃ (l : Nat),
  ∃ (c : Nat),
  ∃ (a_5 : Option Addr),
  ∃ (l_1 : Nat),
  ∃ (c_1 : Nat),
  ∃ (a_6 : Option Addr),
  ∃ (l_2 : Nat),
  ∃ (c_2 : Nat),
  Ld Go.Proofs.Try.prog (106 : Nat) w1_2 (Addr.add a_3 (Int.toNat i * (3 : Nat)))
  (Value.agg #[Value.slice a_4 l c, Value.slice a_5 l_1 c_1, Value.slice a_6 l_2 c_2]) ∧
  ∀ (b_3 : Nat) (w1 : World),
  New w1_2
  (Obj.cells
  #[Value.slice none (0 : Nat) (0 : Nat), Value.slice none (0 : Nat) (0 : Nat),
  Value.slice none (0 : Nat) (0 : Nat)]
  (106 : Nat))
  b_3 w1 →
  ∃ (w1_3 : World),
  St Go.Proofs.Try.prog (106 : Nat) w1 (Addr.mk b_3 (0 : Nat) none)
  (Value.agg #[Value.slice a_4 l c, Value.slice a_5 l_1 c_1, Value.slice a_6 l_2 c_2]) w1_3 ∧
  ∀ (b_4 : Nat) (w1 : World),
  New w1_3 (Obj.cells #[] (9 : Nat)) b_4 w1 →
  ∃ (a_9 : Option Addr),
  ∃ (l : Nat),
  ∃ (c : Nat),
  Ld Go.Proofs.Try.prog (33 : Nat) w1 (Addr.mk b_3 (0 : Nat) none) (Value.slice a_9 l c) ∧
  ∃ (a_10 : Option Addr),
  ∃ (n_2 : Nat),
  ∃ (m_1 : Nat),
  ∃ (w1_4 : World),
  App Go.Proofs.Try.prog #[(33 : Nat), (33 : Nat)] (33 : Nat) w1
  (Value.slice (some (Addr.mk b_4 (0 : Nat) none)) (0 : Nat) (0 : Nat))
  (Value.slice a_9 l c) (Value.slice a_10 n_2 m_1) w1_4 ∧
  JoinP
  (fun (s : Option Addr × Nat × Nat) (w' : World) ↦
  ∃ (i_1 : Int),
  Ld Go.Proofs.Try.prog (3 : Nat) w' (Addr.mk b_1 (1 : Nat) none)
  (Value.int IntKind.i64 i_1) ∧
  ∃ (s_1 : ByteArray),
  B2S Go.Proofs.Try.prog (46 : Nat) (9 : Nat) w' (Value.slice a n m)
  (Value.string s_1) ∧
  onP (Prod.fst s) fun (a : Addr) ↦
  ((0 : Int) ≤ i_1 ∧ i_1 < (↑(Prod.fst (Prod.snd s)) : Int)) ∧
  ∃ (w1 : World),
  St Go.Proofs.Try.prog (9 : Nat) w'
  (Addr.add a (Int.toNat i_1 * (1 : Nat))) (Value.string s_1)
  w1 ∧
  ∀ (b_5 : Nat) (w1_5 : World),
  New w1 (Obj.cells #[] (106 : Nat)) b_5 w1_5 →
  ∃ (a : Option Addr),
  ∃ (l : Nat),
  ∃ (c : Nat),
  Ld Go.Proofs.Try.prog (40 : Nat) w1_5
  (Addr.mk b (1 : Nat) none) (Value.slice a l c) ∧
  ∃ (a_11 : Option Addr),
  ∃ (n : Nat),
  ∃ (m : Nat),
  ∃ (w1 : World),
  App Go.Proofs.Try.prog
  #[(40 : Nat), (40 : Nat)] (40 : Nat)
  w1_5
  (Value.slice
  (some (Addr.mk b_5 (0 : Nat) none))
  (0 : Nat) (0 : Nat))
  (Value.slice a l c)
  (Value.slice a_11 n m) w1 ∧
  ∃ (a : Option Addr),
  ∃ (l : Nat),
  ∃ (c : Nat),
  Ld Go.Proofs.Try.prog (33 : Nat)
  (World.drew w1)
  (Addr.mk b_3 (1 : Nat) none)
  (Value.slice a l c) ∧
  ∃ (a_12 : Option Addr),
  ∃ (l_3 : Nat),
  ∃ (c_3 : Nat),
  Ld Go.Proofs.Try.prog
  (47 : Nat)
  (World.drew w1)
  (Addr.mk b_3 (2 : Nat)
  none)
  (Value.slice a_12 l_3
  c_3) ∧
  ∃ (i_2 : Int),
  Ld Go.Proofs.Try.prog
  (3 : Nat)
  (World.drew w1)
  (Addr.mk b_1
  (1 : Nat) none)
  (Value.int
  IntKind.i64 i_2) ∧
  CallV Go.Proofs.Try.prog
  (82 : Nat)
  [Value.slice a_12
  l_3 c_3,
  Value.int
  IntKind.i64 i_2]
  (World.drew w1)
  fun (e : Ending)
  (w' : World) ↦
  ∃ (a_13 :
  Option Addr),
  ∃ (l_4 : Nat),
  ∃ (c_4 : Nat),
  e =
  Ending.returned
  (Value.slice
  a_13
  l_4
  c_4) ∧
  Ld
  Go.Proofs.Try.prog
  (33 :
  Nat)
  w'
  (Addr.mk
  b_3
  (1 :
  Nat)
  none)
  (Value.slice
  a l
  c) ∧
  onP a_11
  fun
  (a_14 :
  Addr) ↦
  ((0 :
  Int) ≤
  i ∧
  i <
  (↑n :
  Int)) ∧
  ∃ (w1
  :
  World),
  St
  Go.Proofs.Try.prog
  (106 :
  Nat)
  w'
  (Addr.add
  a_14
  (Int.toNat
  i *
  (3 :
  Nat)))
  (Value.agg
  #[Value.slice
  (Prod.fst
  s)
  (Prod.fst
  (Prod.snd
  s))
  (Prod.snd
  (Prod.snd
  s)),
  Value.slice
  a
  l
  c,
  Value.slice
  a_13
  l_4
  c_4])
  w1 ∧
  ∃
  (w1_6
  :
  World),
  St
  Go.Proofs.Try.prog
  (40 :
  Nat)
  w1
  (Addr.mk
  b
  (1 :
  Nat)
  none)
  (Value.slice
  a_11
  n
  m)
  w1_6 ∧
  ∃
  (i
  :
  Int),
  ∃
  (a
  :
  Option
  Addr),
  ∃
  (l
  :
  Nat),
  ∃
  (c
  :
  Nat),
  ∃
  (a_15
  :
  Option
  Addr),
  ∃
  (l_5
  :
  Nat),
  ∃
  (c_5
  :
  Nat),
  ∃
  (a_16
  :
  Option
  Addr),
  ∃
  (l_6
  :
  Nat),
  ∃
  (c_6
  :
  Nat),
  ∃
  (a_17
  :
  Option
  Addr),
  ∃
  (l_7
  :
  Nat),
  ∃
  (c_7
  :
  Nat),
  ∃
  (i_3
  :
  Int),
  ∃
  (i_4
  :
  Int),
  ∃
  (b_6
  :
  Bool),
  Ld
  Go.Proofs.Try.prog
  (44 :
  Nat)
  w1_6
  (Addr.mk
  b
  (0 :
  Nat)
  none)
  (Value.agg
  #[Value.int
  IntKind.i64
  i,
  Value.slice
  a
  l
  c,
  Value.slice
  a_15
  l_5
  c_5,
  Value.slice
  a_16
  l_6
  c_6,
  Value.slice
  a_17
  l_7
  c_7,
  Value.int
  IntKind.i64
  i_3,
  Value.int
  IntKind.i64
  i_4,
  Value.bool
  b_6]) ∧
  ∃
  (w1
  :
  World),
  St
  Go.Proofs.Try.prog
  (44 :
  Nat)
  w1_6
  (Addr.mk
  b_2
  (0 :
  Nat)
  none)
  (Value.agg
  #[Value.int
  IntKind.i64
  i,
  Value.slice
  a
  l
  c,
  Value.slice
  a_15
  l_5
  c_5,
  Value.slice
  a_16
  l_6
  c_6,
  Value.slice
  a_17
  l_7
  c_7,
  Value.int
  IntKind.i64
  i_3,
  Value.int
  IntKind.i64
  i_4,
  Value.bool
  b_6])
  w1 ∧
  ∃
  (i
  :
  Int),
  ∃
  (a
  :
  Option
  Addr),
  ∃
  (l
  :
  Nat),
  ∃
  (c
  :
  Nat),
  ∃
  (a_18
  :
  Option
  Addr),
  ∃
  (l_8
  :
  Nat),
  ∃
  (c_8
  :
  Nat),
  ∃
  (a_19
  :
  Option
  Addr),
  ∃
  (l_9
  :
  Nat),
  ∃
  (c_9
  :
  Nat),
  ∃
  (a_20
  :
  Option
  Addr),
  ∃
  (l_10
  :
  Nat),
  ∃
  (c_10
  :
  Nat),
  ∃
  (i_5
  :
  Int),
  ∃
  (i_6
  :
  Int),
  ∃
  (b
  :
  Bool),
  Ld
  Go.Proofs.Try.prog
  (44 :
  Nat)
  w1
  (Addr.mk
  b_2
  (0 :
  Nat)
  none)
  (Value.agg
  #[Value.int
  IntKind.i64
  i,
  Value.slice
  a
  l
  c,
  Value.slice
  a_18
  l_8
  c_8,
  Value.slice
  a_19
  l_9
  c_9,
  Value.slice
  a_20
  l_10
  c_10,
  Value.int
  IntKind.i64
  i_5,
  Value.int
  IntKind.i64
  i_6,
  Value.bool
  b]) ∧
  R
  (Ending.returned
  (Value.agg
  #[Value.int
  IntKind.i64
  i,
  Value.slice
  a
  l
  c,
  Value.slice
  a_18
  l_8
  c_8,
  Value.slice
  a_19
  l_9
  c_9,
  Value.slice
  a_20
  l_10
  c_10,
  Value.int
  IntKind.i64
  i_5,
  Value.int
  IntKind.i64
  i_6,
  Value.bool
  b]))
  w1)
  fun (J : Option Addr × Nat × Nat → World → Prop) ↦
  ∃ (i : Int),
  Ld Go.Proofs.Try.prog (3 : Nat) w1_4 (Addr.mk b_1 (1 : Nat) none)
  (Value.int IntKind.i64 i) ∧
  br (decide (i = (↑n_2 : Int)))
  (∀ (b : Nat) (w1 : World),
  New w1_4 (Obj.cells #[Value.string (ByteArray.mk #[])] (9 : Nat)) b w1 →
  ∃ (a : Option Addr),
  ∃ (n : Nat),
  ∃ (m : Nat),
  ∃ (w1_5 : World),
  App Go.Proofs.Try.prog #[(33 : Nat), (33 : Nat)] (33 : Nat) w1
  (Value.slice a_10 n_2 m_1)
  (Value.slice (some (Addr.mk b (0 : Nat) none)) (1 : Nat)
  (1 : Nat))
  (Value.slice a n m) w1_5 ∧
  J (a, n, m) w1_5)
  (J (a_10, n_2, m_1) w1_4)
theorem rwritten.eq (d_Room : Int) (d_Filesa : Option Addr) (d_Filesn : Nat) (d_Filesc : Nat) (d_Namesa : Option Addr) (d_Namesn : Nat) (d_Namesc : Nat) (d_Firma : Option Addr) (d_Firmn : Nat) (d_Firmc : Nat) (d_Sincea : Option Addr) (d_Sincen : Nat) (d_Sincec : Nat) (d_Armed : Int) (d_Denied : Int) (d_Dead : Bool) (o_Kind : Int) (o_N : Int) (o_Name : ByteArray) (o_To : ByteArray) (o_Ba : Option Addr) (o_Bn : Nat) (o_Bc : Nat) (o_Picksa : Option Addr) (o_Picksn : Nat) (o_Picksc : Nat) (w : World) (R : Ending → World → Prop) : bodyV Go.Proofs.Try.prog rwritten.an Go.Proofs.Try.f72 [.agg #[.int .i64 d_Room, .slice d_Filesa d_Filesn d_Filesc, .slice d_Namesa d_Namesn d_Namesc, .slice d_Firma d_Firmn d_Firmc, .slice d_Sincea d_Sincen d_Sincec, .int .i64 d_Armed, .int .i64 d_Denied, .bool d_Dead], .agg #[.int .i64 o_Kind, .int .i64 o_N, .string o_Name, .string o_To, .slice o_Ba o_Bn o_Bc, .slice o_Picksa o_Picksn o_Picksc]] w R = rwritten.vc d_Room d_Filesa d_Filesn d_Filesc d_Namesa d_Namesn d_Namesc d_Firma d_Firmn d_Firmc d_Sincea d_Sincen d_Sincec d_Armed d_Denied d_Dead o_Kind o_N o_Name o_To o_Ba o_Bn o_Bc o_Picksa o_Picksn o_Picksc w R := by kernel_rfl
theorem rwritten.ok (d_Room : Int) (d_Filesa : Option Addr) (d_Filesn : Nat) (d_Filesc : Nat) (d_Namesa : Option Addr) (d_Namesn : Nat) (d_Namesc : Nat) (d_Firma : Option Addr) (d_Firmn : Nat) (d_Firmc : Nat) (d_Sincea : Option Addr) (d_Sincen : Nat) (d_Sincec : Nat) (d_Armed : Int) (d_Denied : Int) (d_Dead : Bool) (o_Kind : Int) (o_N : Int) (o_Name : ByteArray) (o_To : ByteArray) (o_Ba : Option Addr) (o_Bn : Nat) (o_Bc : Nat) (o_Picksa : Option Addr) (o_Picksn : Nat) (o_Picksc : Nat) (w : World) (R : Ending → World → Prop) (h : rwritten.vc d_Room d_Filesa d_Filesn d_Filesc d_Namesa d_Namesn d_Namesc d_Firma d_Firmn d_Firmc d_Sincea d_Sincen d_Sincec d_Armed d_Denied d_Dead o_Kind o_N o_Name o_To o_Ba o_Bn o_Bc o_Picksa o_Picksn o_Picksc w R) : Calls Go.Proofs.Try.prog 72 #[.agg #[.int .i64 d_Room, .slice d_Filesa d_Filesn d_Filesc, .slice d_Namesa d_Namesn d_Namesc, .slice d_Firma d_Firmn d_Firmc, .slice d_Sincea d_Sincen d_Sincec, .int .i64 d_Armed, .int .i64 d_Denied, .bool d_Dead], .agg #[.int .i64 o_Kind, .int .i64 o_N, .string o_Name, .string o_To, .slice o_Ba o_Bn o_Bc, .slice o_Picksa o_Picksn o_Picksc]] w R :=
  calls_of_bodyV noNum (an := rwritten.an) (args := [.agg #[.int .i64 d_Room, .slice d_Filesa d_Filesn d_Filesc, .slice d_Namesa d_Namesn d_Namesc, .slice d_Firma d_Firmn d_Firmc, .slice d_Sincea d_Sincen d_Sincec, .int .i64 d_Armed, .int .i64 d_Denied, .bool d_Dead], .agg #[.int .i64 o_Kind, .int .i64 o_N, .string o_Name, .string o_To, .slice o_Ba o_Bn o_Bc, .slice o_Picksa o_Picksn o_Picksc]]) Go.Proofs.Try.func72 (by kernel_rfl) ((rwritten.eq d_Room d_Filesa d_Filesn d_Filesc d_Namesa d_Namesn d_Namesc d_Firma d_Firmn d_Firmc d_Sincea d_Sincen d_Sincec d_Armed d_Denied d_Dead o_Kind o_N o_Name o_To o_Ba o_Bn o_Bc o_Picksa o_Picksn o_Picksc w R).mpr h)

/-- incunable/incunableref09.without -/
def rwithout.an : An := { wraps := [], loops := [(3, [(5, .inr 3), (6, .inl .i64)])], joins := [], ranges := [] }
def rwithout.vc (la : Option Addr) (ln : Nat) (lc : Nat) (name : ByteArray) (w : World) (R : Ending → World → Prop) : Prop :=
  LoopP
  (fun (s : (Option Addr × Nat × Nat) × Int) (w' : World) (next : (Option Addr × Nat × Nat) × Int → World → Prop) ↦
  br (decide (Prod.snd s < (↑ln : Int)))
  (onP la fun (a : Addr) ↦
  ((0 : Int) ≤ Prod.snd s ∧ Prod.snd s < (↑ln : Int)) ∧
  ∃ (s_1 : ByteArray),
  Ld Go.Proofs.Try.prog (9 : Nat) w' (Addr.add a (Int.toNat (Prod.snd s) * (2 : Nat))) (Value.string s_1) ∧
  br (!decide (s_1 = name))
  (onP la fun (a : Addr) ↦
  ((0 : Int) ≤ Prod.snd s ∧ Prod.snd s < (↑ln : Int)) ∧
  ∃ (s_2 : ByteArray),
  ∃ (i : Int),
  Ld Go.Proofs.Try.prog (130 : Nat) w' (Addr.add a (Int.toNat (Prod.snd s) * (2 : Nat))) (Value.agg #[Value.string s_2, Value.int IntKind.i64 i]) ∧
  ∀ (b : Nat) (w1 : World),
  New w' (Obj.cells #[Value.string s_2, Value.int IntKind.i64 i] (130 : Nat)) b w1 →
  ∃ (a : Option Addr),
  ∃ (n : Nat),
  ∃ (m : Nat),
  ∃ (w1_1 : World),
  App Go.Proofs.Try.prog #[(41 : Nat), (41 : Nat)] (41 : Nat) w1
  (Value.slice (Prod.fst (Prod.fst s)) (Prod.fst (Prod.snd (Prod.fst s))) (Prod.snd (Prod.snd (Prod.fst s))))
  (Value.slice (some (Addr.mk b (0 : Nat) none)) (1 : Nat) (1 : Nat)) (Value.slice a n m) w1_1 ∧
  inR IntKind.i64 (Prod.snd s + (1 : Int)) ∧ next ((a, n, m), Prod.snd s + (1 : Int)) w1_1)
  (inR IntKind.i64 (Prod.snd s + (1 : Int)) ∧ next ((Prod.fst (Prod.fst s), Prod.fst (Prod.snd (Prod.fst s)), Prod.snd (Prod.snd (Prod.fst s))), Prod.snd s + (1 : Int)) w'))
  (R (Ending.returned (Value.slice (Prod.fst (Prod.fst s)) (Prod.fst (Prod.snd (Prod.fst s))) (Prod.snd (Prod.snd (Prod.fst s))))) w'))
  ((none, (0 : Nat), (0 : Nat)), (0 : Int)) w
theorem rwithout.eq (la : Option Addr) (ln : Nat) (lc : Nat) (name : ByteArray) (w : World) (R : Ending → World → Prop) : bodyV Go.Proofs.Try.prog rwithout.an Go.Proofs.Try.f73 [.slice la ln lc, .string name] w R = rwithout.vc la ln lc name w R := by kernel_rfl
theorem rwithout.ok (la : Option Addr) (ln : Nat) (lc : Nat) (name : ByteArray) (w : World) (R : Ending → World → Prop) (h : rwithout.vc la ln lc name w R) : Calls Go.Proofs.Try.prog 73 #[.slice la ln lc, .string name] w R :=
  calls_of_bodyV noNum (an := rwithout.an) (args := [.slice la ln lc, .string name]) Go.Proofs.Try.func73 (by kernel_rfl) ((rwithout.eq la ln lc name w R).mpr h)

/-- incunable/incunableref09.add -/
def radd.an : An := { wraps := [], loops := [(4, [(5, .inr 3), (6, .inr 0), (7, .inl .i64)])], joins := [(9, [(5, .inr 3), (6, .inr 0)])], ranges := [] }
def radd.vc (la : Option Addr) (ln : Nat) (lc : Nat) (n : Int) (w : World) (R : Ending → World → Prop) : Prop :=
  LoopP
  (fun (s : (Option Addr × Nat × Nat) × Bool × Int) (w' : World) (next : (Option Addr × Nat × Nat) × Bool × Int → World → Prop) ↦
  br (decide (Prod.snd (Prod.snd s) < (↑ln : Int)))
  (JoinP
  (fun (s_1 : (Option Addr × Nat × Nat) × Bool) (w' : World) ↦
  onP la fun (a : Addr) ↦
  ((0 : Int) ≤ Prod.snd (Prod.snd s) ∧ Prod.snd (Prod.snd s) < (↑ln : Int)) ∧
  ∃ (i : Int),
  Ld Go.Proofs.Try.prog (3 : Nat) w' (Addr.add a (Int.toNat (Prod.snd (Prod.snd s)) * (1 : Nat))) (Value.int IntKind.i64 i) ∧
  br (!decide (i = n))
  (onP la fun (a : Addr) ↦
  ((0 : Int) ≤ Prod.snd (Prod.snd s) ∧ Prod.snd (Prod.snd s) < (↑ln : Int)) ∧
  ∃ (i : Int),
  Ld Go.Proofs.Try.prog (3 : Nat) w' (Addr.add a (Int.toNat (Prod.snd (Prod.snd s)) * (1 : Nat))) (Value.int IntKind.i64 i) ∧
  ∀ (b : Nat) (w1 : World),
  New w' (Obj.cells #[Value.int IntKind.i64 i] (3 : Nat)) b w1 →
  ∃ (a : Option Addr),
  ∃ (n : Nat),
  ∃ (m : Nat),
  ∃ (w1_1 : World),
  App Go.Proofs.Try.prog #[(47 : Nat), (47 : Nat)] (47 : Nat) w1
  (Value.slice (Prod.fst (Prod.fst s_1)) (Prod.fst (Prod.snd (Prod.fst s_1))) (Prod.snd (Prod.snd (Prod.fst s_1))))
  (Value.slice (some (Addr.mk b (0 : Nat) none)) (1 : Nat) (1 : Nat)) (Value.slice a n m) w1_1 ∧
  inR IntKind.i64 (Prod.snd (Prod.snd s) + (1 : Int)) ∧ next ((a, n, m), Prod.snd s_1, Prod.snd (Prod.snd s) + (1 : Int)) w1_1)
  (inR IntKind.i64 (Prod.snd (Prod.snd s) + (1 : Int)) ∧
  next ((Prod.fst (Prod.fst s_1), Prod.fst (Prod.snd (Prod.fst s_1)), Prod.snd (Prod.snd (Prod.fst s_1))), Prod.snd s_1, Prod.snd (Prod.snd s) + (1 : Int)) w'))
  fun (J : (Option Addr × Nat × Nat) × Bool → World → Prop) ↦
  br (!Prod.fst (Prod.snd s))
  (onP la fun (a : Addr) ↦
  ((0 : Int) ≤ Prod.snd (Prod.snd s) ∧ Prod.snd (Prod.snd s) < (↑ln : Int)) ∧
  ∃ (i : Int),
  Ld Go.Proofs.Try.prog (3 : Nat) w' (Addr.add a (Int.toNat (Prod.snd (Prod.snd s)) * (1 : Nat))) (Value.int IntKind.i64 i) ∧
  br (decide (n ≤ i))
  (∀ (b : Nat) (w1 : World),
  New w' (Obj.cells #[Value.int IntKind.i64 n] (3 : Nat)) b w1 →
  ∃ (a : Option Addr),
  ∃ (n : Nat),
  ∃ (m : Nat),
  ∃ (w1_1 : World),
  App Go.Proofs.Try.prog #[(47 : Nat), (47 : Nat)] (47 : Nat) w1 (Value.slice (Prod.fst (Prod.fst s)) (Prod.fst (Prod.snd (Prod.fst s))) (Prod.snd (Prod.snd (Prod.fst s))))
  (Value.slice (some (Addr.mk b (0 : Nat) none)) (1 : Nat) (1 : Nat)) (Value.slice a n m) w1_1 ∧
  J ((a, n, m), true) w1_1)
  (J ((Prod.fst (Prod.fst s), Prod.fst (Prod.snd (Prod.fst s)), Prod.snd (Prod.snd (Prod.fst s))), Prod.fst (Prod.snd s)) w'))
  (J ((Prod.fst (Prod.fst s), Prod.fst (Prod.snd (Prod.fst s)), Prod.snd (Prod.snd (Prod.fst s))), Prod.fst (Prod.snd s)) w'))
  (br (!Prod.fst (Prod.snd s))
  (∀ (b : Nat) (w1 : World),
  New w' (Obj.cells #[Value.int IntKind.i64 n] (3 : Nat)) b w1 →
  ∃ (a : Option Addr),
  ∃ (n : Nat),
  ∃ (m : Nat),
  ∃ (w1_1 : World),
  App Go.Proofs.Try.prog #[(47 : Nat), (47 : Nat)] (47 : Nat) w1 (Value.slice (Prod.fst (Prod.fst s)) (Prod.fst (Prod.snd (Prod.fst s))) (Prod.snd (Prod.snd (Prod.fst s))))
  (Value.slice (some (Addr.mk b (0 : Nat) none)) (1 : Nat) (1 : Nat)) (Value.slice a n m) w1_1 ∧
  R (Ending.returned (Value.slice a n m)) w1_1)
  (R (Ending.returned (Value.slice (Prod.fst (Prod.fst s)) (Prod.fst (Prod.snd (Prod.fst s))) (Prod.snd (Prod.snd (Prod.fst s))))) w')))
  ((none, (0 : Nat), (0 : Nat)), false, (0 : Int)) w
theorem radd.eq (la : Option Addr) (ln : Nat) (lc : Nat) (n : Int) (w : World) (R : Ending → World → Prop) : bodyV Go.Proofs.Try.prog radd.an Go.Proofs.Try.f82 [.slice la ln lc, .int .i64 n] w R = radd.vc la ln lc n w R := by kernel_rfl
theorem radd.ok (la : Option Addr) (ln : Nat) (lc : Nat) (n : Int) (w : World) (R : Ending → World → Prop) (h : radd.vc la ln lc n w R) : Calls Go.Proofs.Try.prog 82 #[.slice la ln lc, .int .i64 n] w R :=
  calls_of_bodyV noNum (an := radd.an) (args := [.slice la ln lc, .int .i64 n]) Go.Proofs.Try.func82 (by kernel_rfl) ((radd.eq la ln lc n w R).mpr h)

/-- strings.CutPrefix -/
def cutPrefix.an : An := { wraps := [], loops := [], joins := [], ranges := [] }
def cutPrefix.vc (s : ByteArray) (prefix_ : ByteArray) (w : World) (R : Ending → World → Prop) : Prop :=
  CallV Go.Proofs.Try.prog (64 : Nat) [Value.string s, Value.string prefix_] w fun (e : Ending) (w' : World) ↦
  ∃ (s : ByteArray), ∃ (b : Bool), e = Ending.returned (Value.tuple #[Value.string s, Value.bool b]) ∧ R (Ending.returned (Value.tuple #[Value.string s, Value.bool b])) w'
theorem cutPrefix.eq (s : ByteArray) (prefix_ : ByteArray) (w : World) (R : Ending → World → Prop) : bodyV Go.Proofs.Try.prog cutPrefix.an Go.Proofs.Try.f35 [.string s, .string prefix_] w R = cutPrefix.vc s prefix_ w R := by kernel_rfl
theorem cutPrefix.ok (s : ByteArray) (prefix_ : ByteArray) (w : World) (R : Ending → World → Prop) (h : cutPrefix.vc s prefix_ w R) : Calls Go.Proofs.Try.prog 35 #[.string s, .string prefix_] w R :=
  calls_of_bodyV noNum (an := cutPrefix.an) (args := [.string s, .string prefix_]) Go.Proofs.Try.func35 (by kernel_rfl) ((cutPrefix.eq s prefix_ w R).mpr h)

/-- internal/stringslite.CutPrefix -/
def slCut.an : An := { wraps := [], loops := [], joins := [], ranges := [] }
def slCut.vc (s : ByteArray) (prefix_ : ByteArray) (w : World) (R : Ending → World → Prop) : Prop :=
  CallV Go.Proofs.Try.prog (80 : Nat) [Value.string s, Value.string prefix_] w fun (e : Ending) (w' : World) ↦
  ∃ (b : Bool),
  e = Ending.returned (Value.bool b) ∧
  br (!b) (R (Ending.returned (Value.tuple #[Value.string s, Value.bool false])) w')
  (((0 : Int) ≤ (↑(ByteArray.size prefix_) : Int) ∧ (↑(ByteArray.size prefix_) : Int) ≤ (↑(ByteArray.size s) : Int)) ∧
  R (Ending.returned (Value.tuple #[Value.string (ByteArray.extract s (Int.toNat (↑(ByteArray.size prefix_) : Int)) (ByteArray.size s)), Value.bool true])) w')
theorem slCut.eq (s : ByteArray) (prefix_ : ByteArray) (w : World) (R : Ending → World → Prop) : bodyV Go.Proofs.Try.prog slCut.an Go.Proofs.Try.f64 [.string s, .string prefix_] w R = slCut.vc s prefix_ w R := by kernel_rfl
theorem slCut.ok (s : ByteArray) (prefix_ : ByteArray) (w : World) (R : Ending → World → Prop) (h : slCut.vc s prefix_ w R) : Calls Go.Proofs.Try.prog 64 #[.string s, .string prefix_] w R :=
  calls_of_bodyV noNum (an := slCut.an) (args := [.string s, .string prefix_]) Go.Proofs.Try.func64 (by kernel_rfl) ((slCut.eq s prefix_ w R).mpr h)

/-- internal/stringslite.HasPrefix -/
def hasPrefix.an : An := { wraps := [], loops := [], joins := [], ranges := [] }
def hasPrefix.vc (s : ByteArray) (prefix_ : ByteArray) (w : World) (R : Ending → World → Prop) : Prop :=
  br (decide ((↑(ByteArray.size prefix_) : Int) ≤ (↑(ByteArray.size s) : Int)))
  (((0 : Int) ≤ (↑(ByteArray.size prefix_) : Int) ∧ (↑(ByteArray.size prefix_) : Int) ≤ (↑(ByteArray.size s) : Int)) ∧
  R (Ending.returned (Value.bool (decide (ByteArray.extract s (0 : Nat) (Int.toNat (↑(ByteArray.size prefix_) : Int)) = prefix_)))) w)
  (R (Ending.returned (Value.bool false)) w)
theorem hasPrefix.eq (s : ByteArray) (prefix_ : ByteArray) (w : World) (R : Ending → World → Prop) : bodyV Go.Proofs.Try.prog hasPrefix.an Go.Proofs.Try.f80 [.string s, .string prefix_] w R = hasPrefix.vc s prefix_ w R := by kernel_rfl
theorem hasPrefix.ok (s : ByteArray) (prefix_ : ByteArray) (w : World) (R : Ending → World → Prop) (h : hasPrefix.vc s prefix_ w R) : Calls Go.Proofs.Try.prog 80 #[.string s, .string prefix_] w R :=
  calls_of_bodyV noNum (an := hasPrefix.an) (args := [.string s, .string prefix_]) Go.Proofs.Try.func80 (by kernel_rfl) ((hasPrefix.eq s prefix_ w R).mpr h)

/-- (*strings.Builder).Len -/
def sbLen.an : An := { wraps := [], loops := [], joins := [], ranges := [] }
def sbLen.vc (b : Option Addr) (w : World) (R : Ending → World → Prop) : Prop :=
  onP b fun (a : Addr) ↦
  ∃ (a_1 : Option Addr), ∃ (l : Nat), ∃ (c : Nat), Ld Go.Proofs.Try.prog (46 : Nat) w (Addr.add a (1 : Nat)) (Value.slice a_1 l c) ∧ R (Ending.returned (Value.int IntKind.i64 (↑l : Int))) w
theorem sbLen.eq (b : Option Addr) (w : World) (R : Ending → World → Prop) : bodyV Go.Proofs.Try.prog sbLen.an Go.Proofs.Try.f39 [.pointer b] w R = sbLen.vc b w R := by kernel_rfl
theorem sbLen.ok (b : Option Addr) (w : World) (R : Ending → World → Prop) (h : sbLen.vc b w R) : Calls Go.Proofs.Try.prog 39 #[.pointer b] w R :=
  calls_of_bodyV noNum (an := sbLen.an) (args := [.pointer b]) Go.Proofs.Try.func39 (by kernel_rfl) ((sbLen.eq b w R).mpr h)

/-- (*strings.Builder).Write -/
def sbWrite.an : An := { wraps := [], loops := [], joins := [], ranges := [] }
def sbWrite.vc (b : Option Addr) (pa : Option Addr) (pn : Nat) (pc : Nat) (w : World) (R : Ending → World → Prop) : Prop :=
  CallV Go.Proofs.Try.prog (65 : Nat) [Value.pointer b] w fun (e : Ending) (w' : World) ↦
  e = Ending.returned (Value.tuple #[]) ∧
  onP b fun (a : Addr) ↦
  ∃ (a_1 : Option Addr),
  ∃ (l : Nat),
  ∃ (c : Nat),
  Ld Go.Proofs.Try.prog (46 : Nat) w' (Addr.add a (1 : Nat)) (Value.slice a_1 l c) ∧
  ∃ (a : Option Addr),
  ∃ (n : Nat),
  ∃ (m : Nat),
  ∃ (w1 : World),
  App Go.Proofs.Try.prog #[(46 : Nat), (46 : Nat)] (46 : Nat) w' (Value.slice a_1 l c) (Value.slice pa pn pc) (Value.slice a n m) w1 ∧
  onP b fun (a_2 : Addr) ↦
  ∃ (w1_1 : World),
  St Go.Proofs.Try.prog (46 : Nat) w1 (Addr.add a_2 (1 : Nat)) (Value.slice a n m) w1_1 ∧
  R (Ending.returned (Value.tuple #[Value.int IntKind.i64 (↑pn : Int), Value.nilIface])) w1_1
theorem sbWrite.eq (b : Option Addr) (pa : Option Addr) (pn : Nat) (pc : Nat) (w : World) (R : Ending → World → Prop) : bodyV Go.Proofs.Try.prog sbWrite.an Go.Proofs.Try.f40 [.pointer b, .slice pa pn pc] w R = sbWrite.vc b pa pn pc w R := by kernel_rfl
theorem sbWrite.ok (b : Option Addr) (pa : Option Addr) (pn : Nat) (pc : Nat) (w : World) (R : Ending → World → Prop) (h : sbWrite.vc b pa pn pc w R) : Calls Go.Proofs.Try.prog 40 #[.pointer b, .slice pa pn pc] w R :=
  calls_of_bodyV noNum (an := sbWrite.an) (args := [.pointer b, .slice pa pn pc]) Go.Proofs.Try.func40 (by kernel_rfl) ((sbWrite.eq b pa pn pc w R).mpr h)

/-- (*strings.Builder).String -/
def sbString.an : An := { wraps := [], loops := [], joins := [], ranges := [] }
def sbString.vc (b : Option Addr) (w : World) (R : Ending → World → Prop) : Prop :=
  onP b fun (a : Addr) ↦
  ∃ (a_1 : Option Addr),
  ∃ (l : Nat),
  ∃ (c : Nat),
  Ld Go.Proofs.Try.prog (46 : Nat) (World.drew w) (Addr.add a (1 : Nat)) (Value.slice a_1 l c) ∧
  onP b fun (a : Addr) ↦ ∃ (a_2 : Option Addr), ∃ (l : Nat), ∃ (c : Nat), Ld Go.Proofs.Try.prog (46 : Nat) (World.drew w) (Addr.add a (1 : Nat)) (Value.slice a_2 l c) ∧ False
theorem sbString.eq (b : Option Addr) (w : World) (R : Ending → World → Prop) : bodyV Go.Proofs.Try.prog sbString.an Go.Proofs.Try.f41 [.pointer b] w R = sbString.vc b w R := by kernel_rfl
theorem sbString.ok (b : Option Addr) (w : World) (R : Ending → World → Prop) (h : sbString.vc b w R) : Calls Go.Proofs.Try.prog 41 #[.pointer b] w R :=
  calls_of_bodyV noNum (an := sbString.an) (args := [.pointer b]) Go.Proofs.Try.func41 (by kernel_rfl) ((sbString.eq b w R).mpr h)

/-- (*strings.Builder).copyCheck -/
def sbCheck.an : An := { wraps := [], loops := [], joins := [], ranges := [] }
def sbCheck.vc (b : Option Addr) (w : World) (R : Ending → World → Prop) : Prop :=
  onP b fun (a : Addr) ↦
  ∃ (p : Option Addr),
  Ld Go.Proofs.Try.prog (85 : Nat) w a (Value.pointer p) ∧
  ∃ (b_1 : Bool),
  Eqv Go.Proofs.Try.prog BinOp.eql (85 : Nat) (Operand.tmp (5 : Nat)) (Operand.const (Value.pointer none)) w (Value.pointer p) (Value.pointer none) b_1 ∧
  br b_1 False
  (onP b fun (a : Addr) ↦
  ∃ (p : Option Addr),
  Ld Go.Proofs.Try.prog (85 : Nat) w a (Value.pointer p) ∧
  ∃ (b_2 : Bool),
  Eqv Go.Proofs.Try.prog BinOp.neq (85 : Nat) (Operand.tmp (17 : Nat)) (Operand.tmp (18 : Nat)) w (Value.pointer p) (Value.pointer b) b_2 ∧
  br b_2 False (R (Ending.returned (Value.tuple #[])) w))
theorem sbCheck.eq (b : Option Addr) (w : World) (R : Ending → World → Prop) : bodyV Go.Proofs.Try.prog sbCheck.an Go.Proofs.Try.f65 [.pointer b] w R = sbCheck.vc b w R := by kernel_rfl
theorem sbCheck.ok (b : Option Addr) (w : World) (R : Ending → World → Prop) (h : sbCheck.vc b w R) : Calls Go.Proofs.Try.prog 65 #[.pointer b] w R :=
  calls_of_bodyV noNum (an := sbCheck.an) (args := [.pointer b]) Go.Proofs.Try.func65 (by kernel_rfl) ((sbCheck.eq b w R).mpr h)

/-- incunable/press.File -/
def file.an : An := { wraps := [], loops := [], joins := [], ranges := [] }
def file.vc (name : ByteArray) (w : World) (R : Ending → World → Prop) : Prop :=
  br (decide (name = ByteArray.mk #[])) (R (Ending.returned (Value.tuple #[Value.string (ByteArray.mk #[]), Value.bool false])) w)
  (br (decide ((50 : Int) < (↑(ByteArray.size name) : Int))) (R (Ending.returned (Value.tuple #[Value.string (ByteArray.mk #[]), Value.bool false])) w)
  ((↑(ByteArray.size (ByteArray.mk #[(120 : UInt8), (45 : UInt8)]) + ByteArray.size name) : Int) ≤ (9223372036854775807 : Int) ∧
  R (Ending.returned (Value.tuple #[Value.string (ByteArray.mk #[(120 : UInt8), (45 : UInt8)] ++ name), Value.bool true])) w))
theorem file.eq (name : ByteArray) (w : World) (R : Ending → World → Prop) : bodyV Go.Proofs.Try.prog file.an Go.Proofs.Try.f22 [.string name] w R = file.vc name w R := by kernel_rfl
theorem file.ok (name : ByteArray) (w : World) (R : Ending → World → Prop) (h : file.vc name w R) : Calls Go.Proofs.Try.prog 22 #[.string name] w R :=
  calls_of_bodyV noNum (an := file.an) (args := [.string name]) Go.Proofs.Try.func22 (by kernel_rfl) ((file.eq name w R).mpr h)

/-- incunable/press.sectors -/
def sectors.an : An := { wraps := [], loops := [], joins := [], ranges := [] }
def sectors.vc (text : ByteArray) (w : World) (R : Ending → World → Prop) : Prop :=
  ∃ (a : Option Addr),
  ∃ (l : Nat),
  ∃ (c : Nat),
  ∃ (w1 : World),
  S2B Go.Proofs.Try.prog (9 : Nat) (46 : Nat) w (Value.string text) (Value.slice a l c) w1 ∧
  ∀ (b : Nat) (w1_1 : World),
  New w1 (Obj.cells #[Value.slice none (0 : Nat) (0 : Nat)] (46 : Nat)) b w1_1 →
  ∃ (w1 : World),
  St Go.Proofs.Try.prog (46 : Nat) w1_1 (Addr.mk b (0 : Nat) none) (Value.slice a l c) w1 ∧
  R (Ending.returned (Value.func (Fn.func (60 : Nat)) #[] #[Value.pointer (some (Addr.mk b (0 : Nat) none))])) w1
theorem sectors.eq (text : ByteArray) (w : World) (R : Ending → World → Prop) : bodyV Go.Proofs.Try.prog sectors.an Go.Proofs.Try.f31 [.string text] w R = sectors.vc text w R := by kernel_rfl
theorem sectors.ok (text : ByteArray) (w : World) (R : Ending → World → Prop) (h : sectors.vc text w R) : Calls Go.Proofs.Try.prog 31 #[.string text] w R :=
  calls_of_bodyV noNum (an := sectors.an) (args := [.string text]) Go.Proofs.Try.func31 (by kernel_rfl) ((sectors.eq text w R).mpr h)

/-- incunable/press.sectors$1 -/
def sectorsC.an : An := { wraps := [], loops := [(2, [(7, .inl .i64)]), (8, [(5, .inl .i64)])], joins := [], ranges := [] }
def sectorsC.vc (yield : Value) (free0 : Option Addr) (w : World) (R : Ending → World → Prop) : Prop :=
  ∀ (b : Nat) (w1 : World),
  New w
  (Obj.cells
  #[Value.int IntKind.u8 (0 : Int), Value.int IntKind.u8 (0 : Int), Value.int IntKind.u8 (0 : Int), Value.int IntKind.u8 (0 : Int), Value.int IntKind.u8 (0 : Int),
  Value.int IntKind.u8 (0 : Int), Value.int IntKind.u8 (0 : Int), Value.int IntKind.u8 (0 : Int)]
  (121 : Nat))
  b w1 →
  LoopP
  (fun (s : Int) (w' : World) (next : Int → World → Prop) ↦
  br (decide (s < (8 : Int)))
  (∃ (a : Option Addr),
  ∃ (l : Nat),
  ∃ (c : Nat),
  (onP free0 fun (a_1 : Addr) ↦ Ld Go.Proofs.Try.prog (46 : Nat) w' a_1 (Value.slice a l c)) ∧
  inR IntKind.i64 ((7 : Int) - s) ∧
  inR IntKind.i64 ((8 : Int) * ((7 : Int) - s)) ∧
  (0 : Int) ≤ (8 : Int) * ((7 : Int) - s) ∧
  ((0 : Int) ≤ s ∧ s < (↑(8 : Nat) : Int)) ∧
  ∃ (w1 : World),
  St Go.Proofs.Try.prog (5 : Nat) w' (Addr.add (Addr.mk b (0 : Nat) none) (Int.toNat s * (1 : Nat)))
  (Value.int IntKind.u8 (IntKind.wrap IntKind.u8 (Int.fdiv (↑l : Int) ((2 : Int) ^ min (Int.toNat ((8 : Int) * ((7 : Int) - s))) (IntKind.bits IntKind.i64))))) w1 ∧
  inR IntKind.i64 (s + (1 : Int)) ∧ next (s + (1 : Int)) w1)
  (CallX Go.Proofs.Try.prog yield [Value.int IntKind.i64 (0 : Int), Value.slice (some (Addr.mk b (0 : Nat) none)) (8 : Nat) (8 : Nat)] w' fun (e : Ending) (w' : World) ↦
  ∃ (b : Bool),
  e = Ending.returned (Value.bool b) ∧
  br (!b) (R (Ending.returned (Value.tuple #[])) w')
  (LoopP
  (fun (s : Int) (w' : World) (next : Int → World → Prop) ↦
  ∃ (a : Option Addr),
  ∃ (l : Nat),
  ∃ (c : Nat),
  (onP free0 fun (a_1 : Addr) ↦ Ld Go.Proofs.Try.prog (46 : Nat) w' a_1 (Value.slice a l c)) ∧
  br (decide (s < (↑l : Int)))
  (inR IntKind.i64 (s + (512 : Int)) ∧
  ∃ (a : Option Addr),
  ∃ (l : Nat),
  ∃ (c : Nat),
  (onP free0 fun (a_1 : Addr) ↦ Ld Go.Proofs.Try.prog (46 : Nat) w' a_1 (Value.slice a l c)) ∧
  (512 : Int) ≠ (0 : Int) ∧
  inR IntKind.i64 (Int.tdiv s (512 : Int)) ∧
  inR IntKind.i64 ((1 : Int) + Int.tdiv s (512 : Int)) ∧
  ∃ (a : Option Addr),
  ∃ (l_1 : Nat),
  ∃ (c : Nat),
  (onP free0 fun (a_1 : Addr) ↦ Ld Go.Proofs.Try.prog (46 : Nat) w' a_1 (Value.slice a l_1 c)) ∧
  ((0 : Int) ≤ s ∧
  s ≤ min (s + (512 : Int)) (↑l : Int) ∧
  min (s + (512 : Int)) (↑l : Int) ≤ min (s + (512 : Int)) (↑l : Int) ∧ min (s + (512 : Int)) (↑l : Int) ≤ (↑c : Int)) ∧
  CallX Go.Proofs.Try.prog yield
  [Value.int IntKind.i64 ((1 : Int) + Int.tdiv s (512 : Int)),
  Value.slice (slA a (Int.toNat (min (s + (512 : Int)) (↑l : Int))) (Int.toNat s) (1 : Nat))
  (Int.toNat (min (s + (512 : Int)) (↑l : Int)) - Int.toNat s) (Int.toNat (min (s + (512 : Int)) (↑l : Int)) - Int.toNat s)]
  w' fun (e : Ending) (w' : World) ↦
  ∃ (b : Bool),
  e = Ending.returned (Value.bool b) ∧
  br (!b) (R (Ending.returned (Value.tuple #[])) w') (inR IntKind.i64 (s + (512 : Int)) ∧ next (s + (512 : Int)) w'))
  (R (Ending.returned (Value.tuple #[])) w'))
  (0 : Int) w')))
  (0 : Int) w1
theorem sectorsC.eq (yield : Value) (free0 : Option Addr) (w : World) (R : Ending → World → Prop) : bodyV Go.Proofs.Try.prog sectorsC.an Go.Proofs.Try.f60 [yield, (.pointer free0)] w R = sectorsC.vc yield free0 w R := by kernel_rfl
theorem sectorsC.ok (yield : Value) (free0 : Option Addr) (w : World) (R : Ending → World → Prop) (h : sectorsC.vc yield free0 w R) : Calls Go.Proofs.Try.prog 60 #[yield, (.pointer free0)] w R :=
  calls_of_bodyV noNum (an := sectorsC.an) (args := [yield, (.pointer free0)]) Go.Proofs.Try.func60 (by kernel_rfl) ((sectorsC.eq yield free0 w R).mpr h)

/-- incunable/press.Export -/
def export.an : An := { wraps := [], loops := [], joins := [], ranges := [(12, [(32, .inl .i64), (33, .inr 3)])] }
def export.vc (d : Option Addr) (name : ByteArray) (text : ByteArray) (w : World) (R : Ending → World → Prop) : Prop :=
  ∀ (b : Nat) (w1 : World),
  New w (Obj.cells #[Value.pointer d] (23 : Nat)) b w1 →
  ∀ (b_1 : Nat) (w1_1 : World),
  New w1 (Obj.cells #[Value.int IntKind.i64 (0 : Int)] (31 : Nat)) b_1 w1_1 →
  CallV Go.Proofs.Try.prog (22 : Nat) [Value.string name] w1_1 fun (e : Ending) (w' : World) ↦
  ∃ (s : ByteArray),
  ∃ (b_2 : Bool),
  e = Ending.returned (Value.tuple #[Value.string s, Value.bool b_2]) ∧
  br (!b_2)
  (∃ (w1 : World),
  St Go.Proofs.Try.prog (31 : Nat) w' (Addr.mk b_1 (0 : Nat) none) (Value.int IntKind.i64 (92 : Int)) w1 ∧
  ∃ (i : Int), Ld Go.Proofs.Try.prog (31 : Nat) w1 (Addr.mk b_1 (0 : Nat) none) (Value.int IntKind.i64 i) ∧ R (Ending.returned (Value.int IntKind.i64 i)) w1)
  (br (decide ((1048576 : Int) < (↑(ByteArray.size text) : Int)))
  (∃ (w1 : World),
  St Go.Proofs.Try.prog (31 : Nat) w' (Addr.mk b_1 (0 : Nat) none) (Value.int IntKind.i64 (91 : Int)) w1 ∧
  ∃ (i : Int), Ld Go.Proofs.Try.prog (31 : Nat) w1 (Addr.mk b_1 (0 : Nat) none) (Value.int IntKind.i64 i) ∧ R (Ending.returned (Value.int IntKind.i64 i)) w1)
  (∃ (p : Option Addr),
  Ld Go.Proofs.Try.prog (23 : Nat) w' (Addr.mk b (0 : Nat) none) (Value.pointer p) ∧
  CallV Go.Proofs.Try.prog (18 : Nat) [Value.pointer p, Value.string (ByteArray.mk #[(120 : UInt8), (46 : UInt8), (112 : UInt8), (97 : UInt8), (114 : UInt8), (116 : UInt8)])] w'
  fun (e : Ending) (w' : World) ↦
  ∃ (i : Int),
  e = Ending.returned (Value.int IntKind.i64 i) ∧
  br (!decide (i = (0 : Int)))
  (∃ (w1 : World),
  St Go.Proofs.Try.prog (31 : Nat) w' (Addr.mk b_1 (0 : Nat) none) (Value.int IntKind.i64 i) w1 ∧
  ∃ (i : Int), Ld Go.Proofs.Try.prog (31 : Nat) w1 (Addr.mk b_1 (0 : Nat) none) (Value.int IntKind.i64 i) ∧ R (Ending.returned (Value.int IntKind.i64 i)) w1)
  (CallV Go.Proofs.Try.prog (31 : Nat) [Value.string text] w' fun (e : Ending) (w' : World) ↦
  ∃ (v : Value),
  e = Ending.returned v ∧
  ∃ (gf : FuncId),
  ∃ (fi : Array Value),
  ∃ (ca : Array Value),
  v = Value.func (Fn.func gf) fi ca ∧
  HasBody Go.Proofs.Try.prog gf ∧
  RangeP Go.Proofs.Try.prog gf (Array.toList fi) (Array.toList ca)
  (fun (s : Int × Option Addr × Nat × Nat) ↦
  [Value.int IntKind.i64 (Prod.fst s), Value.slice (Prod.fst (Prod.snd s)) (Prod.fst (Prod.snd (Prod.snd s))) (Prod.snd (Prod.snd (Prod.snd s)))])
  (fun (s : Int × Option Addr × Nat × Nat) (w' : World) (begin : World → (World → Prop) → Prop) (kn kr : World → Prop) (kx : Nat → World → Prop) ↦
  begin w' fun (w2 : World) ↦
  ∃ (p : Option Addr),
  Ld Go.Proofs.Try.prog (23 : Nat) w2 (Addr.mk b (0 : Nat) none) (Value.pointer p) ∧
  CallV Go.Proofs.Try.prog (19 : Nat)
  [Value.pointer p, Value.string (ByteArray.mk #[(120 : UInt8), (46 : UInt8), (112 : UInt8), (97 : UInt8), (114 : UInt8), (116 : UInt8)]),
  Value.int IntKind.i64 (Prod.fst s),
  Value.slice (Prod.fst (Prod.snd s)) (Prod.fst (Prod.snd (Prod.snd s))) (Prod.snd (Prod.snd (Prod.snd s)))]
  w2 fun (e : Ending) (w' : World) ↦
  ∃ (i : Int),
  e = Ending.returned (Value.int IntKind.i64 i) ∧
  br (!decide (i = (0 : Int)))
  (∃ (w1 : World), St Go.Proofs.Try.prog (31 : Nat) w' (Addr.mk b_1 (0 : Nat) none) (Value.int IntKind.i64 i) w1 ∧ kr w1) (kn w'))
  w'
  (fun (D : Nat) (w' : World) ↦
  ∃ (p : Option Addr),
  Ld Go.Proofs.Try.prog (23 : Nat) w' (Addr.mk b (0 : Nat) none) (Value.pointer p) ∧
  CallV Go.Proofs.Try.prog (32 : Nat)
  [Value.pointer p, Value.string (ByteArray.mk #[(120 : UInt8), (46 : UInt8), (112 : UInt8), (97 : UInt8), (114 : UInt8), (116 : UInt8)])] w'
  fun (e : Ending) (w' : World) ↦
  ∃ (i : Int),
  e = Ending.returned (Value.int IntKind.i64 i) ∧
  br (decide (i = (0 : Int)))
  (∃ (p : Option Addr),
  Ld Go.Proofs.Try.prog (23 : Nat) w' (Addr.mk b (0 : Nat) none) (Value.pointer p) ∧
  CallV Go.Proofs.Try.prog (33 : Nat)
  [Value.pointer p,
  Value.string (ByteArray.mk #[(120 : UInt8), (46 : UInt8), (112 : UInt8), (97 : UInt8), (114 : UInt8), (116 : UInt8)]),
  Value.string s]
  w' fun (e : Ending) (w' : World) ↦
  ∃ (i : Int),
  e = Ending.returned (Value.int IntKind.i64 i) ∧
  br (decide (i = (0 : Int)))
  (∃ (p : Option Addr),
  Ld Go.Proofs.Try.prog (23 : Nat) w' (Addr.mk b (0 : Nat) none) (Value.pointer p) ∧
  CallV Go.Proofs.Try.prog (34 : Nat) [Value.pointer p] w' fun (e : Ending) (w' : World) ↦
  ∃ (i : Int),
  e = Ending.returned (Value.int IntKind.i64 i) ∧
  ∃ (w1 : World),
  St Go.Proofs.Try.prog (31 : Nat) w' (Addr.mk b_1 (0 : Nat) none) (Value.int IntKind.i64 i) w1 ∧
  ∃ (w1_2 : World),
  ShutD w1 D w1_2 ∧
  ∃ (i : Int),
  Ld Go.Proofs.Try.prog (31 : Nat) w1_2 (Addr.mk b_1 (0 : Nat) none) (Value.int IntKind.i64 i) ∧
  R (Ending.returned (Value.int IntKind.i64 i)) w1_2)
  (∃ (w1 : World),
  St Go.Proofs.Try.prog (31 : Nat) w' (Addr.mk b_1 (0 : Nat) none) (Value.int IntKind.i64 i) w1 ∧
  ∃ (w1_2 : World),
  ShutD w1 D w1_2 ∧
  ∃ (i : Int),
  Ld Go.Proofs.Try.prog (31 : Nat) w1_2 (Addr.mk b_1 (0 : Nat) none) (Value.int IntKind.i64 i) ∧
  R (Ending.returned (Value.int IntKind.i64 i)) w1_2))
  (br (decide (i = (0 : Int)))
  (∃ (p : Option Addr),
  Ld Go.Proofs.Try.prog (23 : Nat) w' (Addr.mk b (0 : Nat) none) (Value.pointer p) ∧
  CallV Go.Proofs.Try.prog (34 : Nat) [Value.pointer p] w' fun (e : Ending) (w' : World) ↦
  ∃ (i : Int),
  e = Ending.returned (Value.int IntKind.i64 i) ∧
  ∃ (w1 : World),
  St Go.Proofs.Try.prog (31 : Nat) w' (Addr.mk b_1 (0 : Nat) none) (Value.int IntKind.i64 i) w1 ∧
  ∃ (w1_2 : World),
  ShutD w1 D w1_2 ∧
  ∃ (i : Int),
  Ld Go.Proofs.Try.prog (31 : Nat) w1_2 (Addr.mk b_1 (0 : Nat) none) (Value.int IntKind.i64 i) ∧
  R (Ending.returned (Value.int IntKind.i64 i)) w1_2)
  (∃ (w1 : World),
  St Go.Proofs.Try.prog (31 : Nat) w' (Addr.mk b_1 (0 : Nat) none) (Value.int IntKind.i64 i) w1 ∧
  ∃ (w1_2 : World),
  ShutD w1 D w1_2 ∧
  ∃ (i : Int),
  Ld Go.Proofs.Try.prog (31 : Nat) w1_2 (Addr.mk b_1 (0 : Nat) none) (Value.int IntKind.i64 i) ∧
  R (Ending.returned (Value.int IntKind.i64 i)) w1_2)))
  (fun (D : Nat) (w' : World) ↦
  ∃ (w1 : World),
  ShutD w' D w1 ∧
  ∃ (i : Int),
  Ld Go.Proofs.Try.prog (31 : Nat) w1 (Addr.mk b_1 (0 : Nat) none) (Value.int IntKind.i64 i) ∧ R (Ending.returned (Value.int IntKind.i64 i)) w1)
  fun (id D : Nat) (w' : World) ↦ False)))
theorem export.eq (d : Option Addr) (name : ByteArray) (text : ByteArray) (w : World) (R : Ending → World → Prop) : bodyV Go.Proofs.Try.prog export.an Go.Proofs.Try.f13 [.pointer d, .string name, .string text] w R = export.vc d name text w R := by kernel_rfl
theorem export.ok (d : Option Addr) (name : ByteArray) (text : ByteArray) (w : World) (R : Ending → World → Prop) (h : export.vc d name text w R) : Calls Go.Proofs.Try.prog 13 #[.pointer d, .string name, .string text] w R :=
  calls_of_bodyV noNum (an := export.an) (args := [.pointer d, .string name, .string text]) Go.Proofs.Try.func13 (by kernel_rfl) ((export.eq d name text w R).mpr h)

/-- incunable/press.Names -/
def pnames.an : An := { wraps := [], loops := [(3, [(3, .inr 3), (13, .inl .i64)])], joins := [], ranges := [] }
def pnames.vc (d : Option Addr) (w : World) (R : Ending → World → Prop) : Prop :=
  CallV Go.Proofs.Try.prog (23 : Nat) [Value.pointer d] w fun (e : Ending) (w' : World) ↦
  ∃ (a : Option Addr),
  ∃ (l : Nat),
  ∃ (c : Nat),
  e = Ending.returned (Value.slice a l c) ∧
  LoopP
  (fun (s : (Option Addr × Nat × Nat) × Int) (w' : World) (next : (Option Addr × Nat × Nat) × Int → World → Prop) ↦
  br (decide (Prod.snd s < (↑l : Int)))
  (onP a fun (a : Addr) ↦
  ((0 : Int) ≤ Prod.snd s ∧ Prod.snd s < (↑l : Int)) ∧
  ∃ (s_1 : ByteArray),
  Ld Go.Proofs.Try.prog (9 : Nat) w' (Addr.add a (Int.toNat (Prod.snd s) * (1 : Nat))) (Value.string s_1) ∧
  CallV Go.Proofs.Try.prog (35 : Nat) [Value.string s_1, Value.string (ByteArray.mk #[(120 : UInt8), (45 : UInt8)])] w' fun (e : Ending) (w' : World) ↦
  ∃ (s_2 : ByteArray),
  ∃ (b : Bool),
  e = Ending.returned (Value.tuple #[Value.string s_2, Value.bool b]) ∧
  CallV Go.Proofs.Try.prog (22 : Nat) [Value.string s_2] w' fun (e : Ending) (w' : World) ↦
  ∃ (s_3 : ByteArray),
  ∃ (b_1 : Bool),
  e = Ending.returned (Value.tuple #[Value.string s_3, Value.bool b_1]) ∧
  br b
  (br b_1
  (∀ (b : Nat) (w1 : World),
  New w' (Obj.cells #[Value.string s_2] (9 : Nat)) b w1 →
  ∃ (a : Option Addr),
  ∃ (n : Nat),
  ∃ (m : Nat),
  ∃ (w1_1 : World),
  App Go.Proofs.Try.prog #[(33 : Nat), (33 : Nat)] (33 : Nat) w1
  (Value.slice (Prod.fst (Prod.fst s)) (Prod.fst (Prod.snd (Prod.fst s))) (Prod.snd (Prod.snd (Prod.fst s))))
  (Value.slice (some (Addr.mk b (0 : Nat) none)) (1 : Nat) (1 : Nat)) (Value.slice a n m) w1_1 ∧
  inR IntKind.i64 (Prod.snd s + (1 : Int)) ∧ next ((a, n, m), Prod.snd s + (1 : Int)) w1_1)
  (inR IntKind.i64 (Prod.snd s + (1 : Int)) ∧
  next ((Prod.fst (Prod.fst s), Prod.fst (Prod.snd (Prod.fst s)), Prod.snd (Prod.snd (Prod.fst s))), Prod.snd s + (1 : Int)) w'))
  (inR IntKind.i64 (Prod.snd s + (1 : Int)) ∧
  next ((Prod.fst (Prod.fst s), Prod.fst (Prod.snd (Prod.fst s)), Prod.snd (Prod.snd (Prod.fst s))), Prod.snd s + (1 : Int)) w'))
  (R (Ending.returned (Value.slice (Prod.fst (Prod.fst s)) (Prod.fst (Prod.snd (Prod.fst s))) (Prod.snd (Prod.snd (Prod.fst s))))) w'))
  ((none, (0 : Nat), (0 : Nat)), (0 : Int)) w'
theorem pnames.eq (d : Option Addr) (w : World) (R : Ending → World → Prop) : bodyV Go.Proofs.Try.prog pnames.an Go.Proofs.Try.f14 [.pointer d] w R = pnames.vc d w R := by kernel_rfl
theorem pnames.ok (d : Option Addr) (w : World) (R : Ending → World → Prop) (h : pnames.vc d w R) : Calls Go.Proofs.Try.prog 14 #[.pointer d] w R :=
  calls_of_bodyV noNum (an := pnames.an) (args := [.pointer d]) Go.Proofs.Try.func14 (by kernel_rfl) ((pnames.eq d w R).mpr h)

/-- incunable/press.Import -/
def import_.an : An := { wraps := [], loops := [(12, [(12, .inl .i64)])], joins := [], ranges := [] }
def import_.vc (d : Option Addr) (name : ByteArray) (w : World) (R : Ending → World → Prop) : Prop :=
  CallV Go.Proofs.Try.prog (22 : Nat) [Value.string name] w fun (e : Ending) (w' : World) ↦
  ∃ (s : ByteArray),
  ∃ (b : Bool),
  e = Ending.returned (Value.tuple #[Value.string s, Value.bool b]) ∧
  br (!b) (R (Ending.returned (Value.tuple #[Value.string (ByteArray.mk #[]), Value.int IntKind.i64 (92 : Int)])) w')
  (CallV Go.Proofs.Try.prog (36 : Nat) [Value.pointer d, Value.string s, Value.int IntKind.i64 (0 : Int)] w' fun (e : Ending) (w' : World) ↦
  ∃ (a : Option Addr),
  ∃ (l : Nat),
  ∃ (c : Nat),
  ∃ (i : Int),
  e = Ending.returned (Value.tuple #[Value.slice a l c, Value.int IntKind.i64 i]) ∧
  br (!decide (i = (0 : Int))) (R (Ending.returned (Value.tuple #[Value.string (ByteArray.mk #[]), Value.int IntKind.i64 i])) w')
  (CallV Go.Proofs.Try.prog (37 : Nat) [Value.slice a l c] w' fun (e : Ending) (w' : World) ↦
  ∃ (i : Int),
  e = Ending.returned (Value.int IntKind.i64 i) ∧
  br (decide ((1048576 : Int) < i)) (R (Ending.returned (Value.tuple #[Value.string (ByteArray.mk #[]), Value.int IntKind.i64 (91 : Int)])) w')
  (CallV Go.Proofs.Try.prog (38 : Nat) [Value.pointer d, Value.string s] w' fun (e : Ending) (w' : World) ↦
  ∃ (i_1 : Int),
  e = Ending.returned (Value.int IntKind.i64 i_1) ∧
  inR IntKind.i64 (i_1 - (1 : Int)) ∧
  inR IntKind.i64 ((i_1 - (1 : Int)) * (512 : Int)) ∧
  br (decide ((i_1 - (1 : Int)) * (512 : Int) < i)) (R (Ending.returned (Value.tuple #[Value.string (ByteArray.mk #[]), Value.int IntKind.i64 (91 : Int)])) w')
  (∀ (b : Nat) (w1 : World),
  New w' (Obj.cells #[Value.pointer none, Value.slice none (0 : Nat) (0 : Nat)] (87 : Nat)) b w1 →
  LoopP
  (fun (s_1 : Int) (w' : World) (next : Int → World → Prop) ↦
  CallV Go.Proofs.Try.prog (39 : Nat) [Value.pointer (some (Addr.mk b (0 : Nat) none))] w' fun (e : Ending) (w' : World) ↦
  ∃ (i_2 : Int),
  e = Ending.returned (Value.int IntKind.i64 i_2) ∧
  br (decide (i_2 < i))
  (CallV Go.Proofs.Try.prog (36 : Nat) [Value.pointer d, Value.string s, Value.int IntKind.i64 s_1] w' fun (e : Ending) (w' : World) ↦
  ∃ (a : Option Addr),
  ∃ (l : Nat),
  ∃ (c : Nat),
  ∃ (i_3 : Int),
  e = Ending.returned (Value.tuple #[Value.slice a l c, Value.int IntKind.i64 i_3]) ∧
  br (!decide (i_3 = (0 : Int)))
  (R (Ending.returned (Value.tuple #[Value.string (ByteArray.mk #[]), Value.int IntKind.i64 i_3])) w')
  (CallV Go.Proofs.Try.prog (39 : Nat) [Value.pointer (some (Addr.mk b (0 : Nat) none))] w' fun (e : Ending) (w' : World) ↦
  ∃ (i_4 : Int),
  e = Ending.returned (Value.int IntKind.i64 i_4) ∧
  inR IntKind.i64 (i - i_4) ∧
  ((0 : Int) ≤ min (↑l : Int) (i - i_4) ∧ min (↑l : Int) (i - i_4) ≤ (↑c : Int)) ∧
  CallV Go.Proofs.Try.prog (40 : Nat)
  [Value.pointer (some (Addr.mk b (0 : Nat) none)), Value.slice a (Int.toNat (min (↑l : Int) (i - i_4))) c] w'
  fun (e : Ending) (w' : World) ↦
  ∃ (i : Int),
  ∃ (v : Value),
  e = Ending.returned (Value.tuple #[Value.int IntKind.i64 i, v]) ∧
  inR IntKind.i64 (s_1 + (1 : Int)) ∧ next (s_1 + (1 : Int)) w'))
  (CallV Go.Proofs.Try.prog (41 : Nat) [Value.pointer (some (Addr.mk b (0 : Nat) none))] w' fun (e : Ending) (w' : World) ↦
  ∃ (s : ByteArray),
  e = Ending.returned (Value.string s) ∧ R (Ending.returned (Value.tuple #[Value.string s, Value.int IntKind.i64 (0 : Int)])) w'))
  (1 : Int) w1))))
theorem import_.eq (d : Option Addr) (name : ByteArray) (w : World) (R : Ending → World → Prop) : bodyV Go.Proofs.Try.prog import_.an Go.Proofs.Try.f16 [.pointer d, .string name] w R = import_.vc d name w R := by kernel_rfl
theorem import_.ok (d : Option Addr) (name : ByteArray) (w : World) (R : Ending → World → Prop) (h : import_.vc d name w R) : Calls Go.Proofs.Try.prog 16 #[.pointer d, .string name] w R :=
  calls_of_bodyV noNum (an := import_.an) (args := [.pointer d, .string name]) Go.Proofs.Try.func16 (by kernel_rfl) ((import_.eq d name w R).mpr h)

/-- incunable/press.many -/
def many.an : An := { wraps := [], loops := [(3, [(3, .inl .i64), (9, .inl .i64)])], joins := [], ranges := [] }
def many.vc (ba : Option Addr) (bn : Nat) (bc : Nat) (w : World) (R : Ending → World → Prop) : Prop :=
  ((0 : Int) ≤ (8 : Int) ∧ (8 : Int) ≤ (↑bc : Int)) ∧
  LoopP
  (fun (s : Int × Int) (w' : World) (next : Int × Int → World → Prop) ↦
  br (decide (Prod.snd s < (↑(Int.toNat (8 : Int)) : Int)))
  (onP ba fun (a : Addr) ↦
  ((0 : Int) ≤ Prod.snd s ∧ Prod.snd s < (↑(Int.toNat (8 : Int)) : Int)) ∧
  ∃ (i : Int),
  Ld Go.Proofs.Try.prog (5 : Nat) w' (Addr.add a (Int.toNat (Prod.snd s) * (1 : Nat))) (Value.int IntKind.u8 i) ∧
  br (decide ((1048576 : Int) < Prod.fst s)) (R (Ending.returned (Value.int IntKind.i64 (Prod.fst s))) w')
  ((0 : Int) ≤ (8 : Int) ∧
  inR IntKind.i64 (Prod.fst s * (2 : Int) ^ min (Int.toNat (8 : Int)) (IntKind.bits IntKind.i64)) ∧
  inR IntKind.i64 (Prod.snd s + (1 : Int)) ∧
  next (Vc.bits BinOp.or IntKind.i64 (Prod.fst s * (2 : Int) ^ min (Int.toNat (8 : Int)) (IntKind.bits IntKind.i64)) (IntKind.wrap IntKind.i64 i), Prod.snd s + (1 : Int)) w'))
  (R (Ending.returned (Value.int IntKind.i64 (Prod.fst s))) w'))
  ((0 : Int), (0 : Int)) w
theorem many.eq (ba : Option Addr) (bn : Nat) (bc : Nat) (w : World) (R : Ending → World → Prop) : bodyV Go.Proofs.Try.prog many.an Go.Proofs.Try.f37 [.slice ba bn bc] w R = many.vc ba bn bc w R := by kernel_rfl
theorem many.ok (ba : Option Addr) (bn : Nat) (bc : Nat) (w : World) (R : Ending → World → Prop) (h : many.vc ba bn bc w R) : Calls Go.Proofs.Try.prog 37 #[.slice ba bn bc] w R :=
  calls_of_bodyV noNum (an := many.an) (args := [.slice ba bn bc]) Go.Proofs.Try.func37 (by kernel_rfl) ((many.eq ba bn bc w R).mpr h)

/-- incunable/incunableref20.Right -/
def pright.an : An := { wraps := [], loops := [], joins := [], ranges := [] }
def pright.vc (name : ByteArray) (w : World) (R : Ending → World → Prop) : Prop :=
  br (decide ((1 : Int) ≤ (↑(ByteArray.size name) : Int))) (R (Ending.returned (Value.bool (decide ((↑(ByteArray.size name) : Int) ≤ (50 : Int))))) w) (R (Ending.returned (Value.bool false)) w)
theorem pright.eq (name : ByteArray) (w : World) (R : Ending → World → Prop) : bodyV Go.Proofs.Try.prog pright.an Go.Proofs.Try.f11 [.string name] w R = pright.vc name w R := by kernel_rfl
theorem pright.ok (name : ByteArray) (w : World) (R : Ending → World → Prop) (h : pright.vc name w R) : Calls Go.Proofs.Try.prog 11 #[.string name] w R :=
  calls_of_bodyV noNum (an := pright.an) (args := [.string name]) Go.Proofs.Try.func11 (by kernel_rfl) ((pright.eq name w R).mpr h)

/-- incunable/incunableref20.With -/
def pwith.an : An := { wraps := [], loops := [(3, [(5, .inr 3), (6, .inl .i64)])], joins := [], ranges := [] }
def pwith.vc (la : Option Addr) (ln : Nat) (lc : Nat) (t_Name : ByteArray) (t_S : ByteArray) (w : World) (R : Ending → World → Prop) : Prop :=
  ∀ (b : Nat) (w1 : World),
  New w (Obj.cells #[Value.string t_Name, Value.string t_S] (28 : Nat)) b w1 →
  LoopP
  (fun (s : (Option Addr × Nat × Nat) × Int) (w' : World) (next : (Option Addr × Nat × Nat) × Int → World → Prop) ↦
  br (decide (Prod.snd s < (↑ln : Int)))
  (onP la fun (a : Addr) ↦
  ((0 : Int) ≤ Prod.snd s ∧ Prod.snd s < (↑ln : Int)) ∧
  ∃ (s_1 : ByteArray),
  Ld Go.Proofs.Try.prog (9 : Nat) (World.drew w') (Addr.add a (Int.toNat (Prod.snd s) * (2 : Nat))) (Value.string s_1) ∧
  ∃ (s_2 : ByteArray),
  Ld Go.Proofs.Try.prog (9 : Nat) (World.drew w') (Addr.mk b (0 : Nat) none) (Value.string s_2) ∧
  br (!decide (s_1 = s_2))
  (onP la fun (a : Addr) ↦
  ((0 : Int) ≤ Prod.snd s ∧ Prod.snd s < (↑ln : Int)) ∧
  ∃ (s_3 : ByteArray),
  ∃ (s_4 : ByteArray),
  Ld Go.Proofs.Try.prog (28 : Nat) (World.drew w') (Addr.add a (Int.toNat (Prod.snd s) * (2 : Nat))) (Value.agg #[Value.string s_3, Value.string s_4]) ∧
  ∀ (b : Nat) (w1 : World),
  New (World.drew w') (Obj.cells #[Value.string s_3, Value.string s_4] (28 : Nat)) b w1 →
  ∃ (a : Option Addr),
  ∃ (n : Nat),
  ∃ (m : Nat),
  ∃ (w1_1 : World),
  App Go.Proofs.Try.prog #[(22 : Nat), (22 : Nat)] (22 : Nat) w1
  (Value.slice (Prod.fst (Prod.fst s)) (Prod.fst (Prod.snd (Prod.fst s))) (Prod.snd (Prod.snd (Prod.fst s))))
  (Value.slice (some (Addr.mk b (0 : Nat) none)) (1 : Nat) (1 : Nat)) (Value.slice a n m) w1_1 ∧
  inR IntKind.i64 (Prod.snd s + (1 : Int)) ∧ next ((a, n, m), Prod.snd s + (1 : Int)) w1_1)
  (inR IntKind.i64 (Prod.snd s + (1 : Int)) ∧
  next ((Prod.fst (Prod.fst s), Prod.fst (Prod.snd (Prod.fst s)), Prod.snd (Prod.snd (Prod.fst s))), Prod.snd s + (1 : Int)) (World.drew w')))
  (∃ (s_1 : ByteArray),
  ∃ (s_2 : ByteArray),
  Ld Go.Proofs.Try.prog (28 : Nat) w' (Addr.mk b (0 : Nat) none) (Value.agg #[Value.string s_1, Value.string s_2]) ∧
  ∀ (b : Nat) (w1 : World),
  New w' (Obj.cells #[Value.string s_1, Value.string s_2] (28 : Nat)) b w1 →
  ∃ (a : Option Addr),
  ∃ (n : Nat),
  ∃ (m : Nat),
  ∃ (w1_1 : World),
  App Go.Proofs.Try.prog #[(22 : Nat), (22 : Nat)] (22 : Nat) w1 (Value.slice (Prod.fst (Prod.fst s)) (Prod.fst (Prod.snd (Prod.fst s))) (Prod.snd (Prod.snd (Prod.fst s))))
  (Value.slice (some (Addr.mk b (0 : Nat) none)) (1 : Nat) (1 : Nat)) (Value.slice a n m) w1_1 ∧
  R (Ending.returned (Value.slice a n m)) w1_1))
  ((none, (0 : Nat), (0 : Nat)), (0 : Int)) w1
theorem pwith.eq (la : Option Addr) (ln : Nat) (lc : Nat) (t_Name : ByteArray) (t_S : ByteArray) (w : World) (R : Ending → World → Prop) : bodyV Go.Proofs.Try.prog pwith.an Go.Proofs.Try.f12 [.slice la ln lc, .agg #[.string t_Name, .string t_S]] w R = pwith.vc la ln lc t_Name t_S w R := by kernel_rfl
theorem pwith.ok (la : Option Addr) (ln : Nat) (lc : Nat) (t_Name : ByteArray) (t_S : ByteArray) (w : World) (R : Ending → World → Prop) (h : pwith.vc la ln lc t_Name t_S w R) : Calls Go.Proofs.Try.prog 12 #[.slice la ln lc, .agg #[.string t_Name, .string t_S]] w R :=
  calls_of_bodyV noNum (an := pwith.an) (args := [.slice la ln lc, .agg #[.string t_Name, .string t_S]]) Go.Proofs.Try.func12 (by kernel_rfl) ((pwith.eq la ln lc t_Name t_S w R).mpr h)

/-- incunable/incunableref20.Find -/
def pfind.an : An := { wraps := [], loops := [(2, [(6, .inl .i64)])], joins := [], ranges := [] }
def pfind.vc (la : Option Addr) (ln : Nat) (lc : Nat) (name : ByteArray) (w : World) (R : Ending → World → Prop) : Prop :=
  LoopP
  (fun (s : Int) (w' : World) (next : Int → World → Prop) ↦
  br (decide (s < (↑ln : Int)))
  (onP la fun (a : Addr) ↦
  ((0 : Int) ≤ s ∧ s < (↑ln : Int)) ∧
  ∃ (s_1 : ByteArray),
  Ld Go.Proofs.Try.prog (9 : Nat) w' (Addr.add a (Int.toNat s * (2 : Nat))) (Value.string s_1) ∧
  br (decide (s_1 = name))
  (onP la fun (a : Addr) ↦
  ((0 : Int) ≤ s ∧ s < (↑ln : Int)) ∧
  ∃ (s_2 : ByteArray),
  Ld Go.Proofs.Try.prog (9 : Nat) w' (Addr.add (Addr.add a (Int.toNat s * (2 : Nat))) (1 : Nat)) (Value.string s_2) ∧
  R (Ending.returned (Value.tuple #[Value.string s_2, Value.bool true])) w')
  (inR IntKind.i64 (s + (1 : Int)) ∧ next (s + (1 : Int)) w'))
  (R (Ending.returned (Value.tuple #[Value.string (ByteArray.mk #[]), Value.bool false])) w'))
  (0 : Int) w
theorem pfind.eq (la : Option Addr) (ln : Nat) (lc : Nat) (name : ByteArray) (w : World) (R : Ending → World → Prop) : bodyV Go.Proofs.Try.prog pfind.an Go.Proofs.Try.f15 [.slice la ln lc, .string name] w R = pfind.vc la ln lc name w R := by kernel_rfl
theorem pfind.ok (la : Option Addr) (ln : Nat) (lc : Nat) (name : ByteArray) (w : World) (R : Ending → World → Prop) (h : pfind.vc la ln lc name w R) : Calls Go.Proofs.Try.prog 15 #[.slice la ln lc, .string name] w R :=
  calls_of_bodyV noNum (an := pfind.an) (args := [.slice la ln lc, .string name]) Go.Proofs.Try.func15 (by kernel_rfl) ((pfind.eq la ln lc name w R).mpr h)

/-- incunable/incunableref20.Import -/
def rimport.an : An := { wraps := [], loops := [(8, [(8, .inl .i64), (9, .inl .i64)]), (15, [(10, .inr 1), (11, .inl .i64)])], joins := [], ranges := [] }
def rimport.vc (d_Room : Int) (d_Filesa : Option Addr) (d_Filesn : Nat) (d_Filesc : Nat) (d_Namesa : Option Addr) (d_Namesn : Nat) (d_Namesc : Nat) (d_Firma : Option Addr) (d_Firmn : Nat) (d_Firmc : Nat) (d_Sincea : Option Addr) (d_Sincen : Nat) (d_Sincec : Nat) (d_Armed : Int) (d_Denied : Int) (d_Dead : Bool) (name : ByteArray) (w : World) (R : Ending → World → Prop) : Prop :=
  ∀ (b : Nat) (w1 : World),
  New w
  (Obj.cells
  #[Value.int IntKind.i64 d_Room, Value.slice d_Filesa d_Filesn d_Filesc, Value.slice d_Namesa d_Namesn d_Namesc, Value.slice d_Firma d_Firmn d_Firmc, Value.slice d_Sincea d_Sincen d_Sincec,
  Value.int IntKind.i64 d_Armed, Value.int IntKind.i64 d_Denied, Value.bool d_Dead]
  (44 : Nat))
  b w1 →
  CallV Go.Proofs.Try.prog (11 : Nat) [Value.string name] w1 fun (e : Ending) (w' : World) ↦
  ∃ (b_1 : Bool),
  e = Ending.returned (Value.bool b_1) ∧
  br (!b_1) (R (Ending.returned (Value.tuple #[Value.string (ByteArray.mk #[]), Value.int IntKind.i64 (92 : Int)])) w')
  (∃ (i : Int),
  ∃ (a : Option Addr),
  ∃ (l : Nat),
  ∃ (c : Nat),
  ∃ (a_1 : Option Addr),
  ∃ (l_1 : Nat),
  ∃ (c_1 : Nat),
  ∃ (a_2 : Option Addr),
  ∃ (l_2 : Nat),
  ∃ (c_2 : Nat),
  ∃ (a_3 : Option Addr),
  ∃ (l_3 : Nat),
  ∃ (c_3 : Nat),
  ∃ (i_1 : Int),
  ∃ (i_2 : Int),
  ∃ (b_2 : Bool),
  Ld Go.Proofs.Try.prog (44 : Nat) w' (Addr.mk b (0 : Nat) none)
  (Value.agg
  #[Value.int IntKind.i64 i, Value.slice a l c, Value.slice a_1 l_1 c_1, Value.slice a_2 l_2 c_2, Value.slice a_3 l_3 c_3, Value.int IntKind.i64 i_1,
  Value.int IntKind.i64 i_2, Value.bool b_2]) ∧
  (↑(ByteArray.size (ByteArray.mk #[(120 : UInt8), (45 : UInt8)]) + ByteArray.size name) : Int) ≤ (9223372036854775807 : Int) ∧
  CallV Go.Proofs.Try.prog (20 : Nat)
  [Value.agg
  #[Value.int IntKind.i64 i, Value.slice a l c, Value.slice a_1 l_1 c_1, Value.slice a_2 l_2 c_2, Value.slice a_3 l_3 c_3,
  Value.int IntKind.i64 i_1, Value.int IntKind.i64 i_2, Value.bool b_2],
  Value.agg
  #[Value.int IntKind.i64 (2 : Int), Value.int IntKind.i64 (0 : Int), Value.string (ByteArray.mk #[(120 : UInt8), (45 : UInt8)] ++ name),
  Value.string (ByteArray.mk #[]), Value.slice none (0 : Nat) (0 : Nat), Value.slice none (0 : Nat) (0 : Nat)]]
  w' fun (e : Ending) (w' : World) ↦
  ∃ (i : Int),
  ∃ (a : Option Addr),
  ∃ (l : Nat),
  ∃ (c : Nat),
  ∃ (a_4 : Option Addr),
  ∃ (l_4 : Nat),
  ∃ (c_4 : Nat),
  ∃ (a_5 : Option Addr),
  ∃ (l_5 : Nat),
  ∃ (c_5 : Nat),
  ∃ (a_6 : Option Addr),
  ∃ (l_6 : Nat),
  ∃ (c_6 : Nat),
  ∃ (i_3 : Int),
  ∃ (i_4 : Int),
  ∃ (b_3 : Bool),
  ∃ (s : ByteArray),
  ∃ (i_5 : Int),
  e =
  Ending.returned
  (Value.tuple
  #[Value.agg
  #[Value.int IntKind.i64 i, Value.slice a l c, Value.slice a_4 l_4 c_4, Value.slice a_5 l_5 c_5,
  Value.slice a_6 l_6 c_6, Value.int IntKind.i64 i_3, Value.int IntKind.i64 i_4, Value.bool b_3],
  Value.agg #[Value.string s, Value.int IntKind.i64 i_5]]) ∧
  ∀ (b_4 : Nat) (w1 : World),
  New w'
  (Obj.cells
  #[Value.int IntKind.i64 (0 : Int), Value.slice none (0 : Nat) (0 : Nat),
  Value.slice none (0 : Nat) (0 : Nat), Value.slice none (0 : Nat) (0 : Nat),
  Value.slice none (0 : Nat) (0 : Nat), Value.int IntKind.i64 (0 : Int),
  Value.int IntKind.i64 (0 : Int), Value.bool false]
  (44 : Nat))
  b_4 w1 →
  ∀ (b_5 : Nat) (w1_1 : World),
  New w1 (Obj.cells #[Value.string (ByteArray.mk #[]), Value.int IntKind.i64 (0 : Int)] (53 : Nat)) b_5
  w1_1 →
  ∃ (w1 : World),
  St Go.Proofs.Try.prog (44 : Nat) w1_1 (Addr.mk b_4 (0 : Nat) none)
  (Value.agg
  #[Value.int IntKind.i64 i, Value.slice a l c, Value.slice a_4 l_4 c_4, Value.slice a_5 l_5 c_5,
  Value.slice a_6 l_6 c_6, Value.int IntKind.i64 i_3, Value.int IntKind.i64 i_4,
  Value.bool b_3])
  w1 ∧
  ∃ (w1_2 : World),
  St Go.Proofs.Try.prog (53 : Nat) w1 (Addr.mk b_5 (0 : Nat) none)
  (Value.agg #[Value.string s, Value.int IntKind.i64 i_5]) w1_2 ∧
  ∃ (i : Int),
  Ld Go.Proofs.Try.prog (31 : Nat) w1_2 (Addr.mk b_5 (1 : Nat) none) (Value.int IntKind.i64 i) ∧
  br (!decide (i = (0 : Int)))
  (∃ (i : Int),
  Ld Go.Proofs.Try.prog (31 : Nat) (World.drew w1_2) (Addr.mk b_5 (1 : Nat) none)
  (Value.int IntKind.i64 i) ∧
  R
  (Ending.returned
  (Value.tuple #[Value.string (ByteArray.mk #[]), Value.int IntKind.i64 i]))
  (World.drew w1_2))
  (LoopP
  (fun (s : Int × Int) (w' : World) (next : Int × Int → World → Prop) ↦
  br (decide (Prod.snd s < (8 : Int)))
  (inR IntKind.i64 (Prod.fst s * (256 : Int)) ∧
  ∃ (s_1 : ByteArray),
  Ld Go.Proofs.Try.prog (9 : Nat) w' (Addr.mk b_5 (0 : Nat) none)
  (Value.string s_1) ∧
  ((0 : Int) ≤ Prod.snd s ∧ Prod.snd s < (↑(ByteArray.size s_1) : Int)) ∧
  inR IntKind.i64
  (Prod.fst s * (256 : Int) +
  IntKind.wrap IntKind.i64 (sb s_1 (Prod.snd s))) ∧
  br
  (decide
  ((1048576 : Int) <
  Prod.fst s * (256 : Int) +
  IntKind.wrap IntKind.i64 (sb s_1 (Prod.snd s))))
  (R
  (Ending.returned
  (Value.tuple
  #[Value.string (ByteArray.mk #[]),
  Value.int IntKind.i64 (91 : Int)]))
  w')
  (inR IntKind.i64 (Prod.snd s + (1 : Int)) ∧
  next
  (Prod.fst s * (256 : Int) +
  IntKind.wrap IntKind.i64 (sb s_1 (Prod.snd s)),
  Prod.snd s + (1 : Int))
  w'))
  (LoopP
  (fun (s_1 : ByteArray × Int) (w' : World)
  (next : ByteArray × Int → World → Prop) ↦
  br (decide ((↑(ByteArray.size (Prod.fst s_1)) : Int) < Prod.fst s))
  (∃ (i : Int),
  ∃ (a : Option Addr),
  ∃ (l : Nat),
  ∃ (c : Nat),
  ∃ (a_9 : Option Addr),
  ∃ (l_7 : Nat),
  ∃ (c_7 : Nat),
  ∃ (a_10 : Option Addr),
  ∃ (l_8 : Nat),
  ∃ (c_8 : Nat),
  ∃ (a_11 : Option Addr),
  ∃ (l_9 : Nat),
  ∃ (c_9 : Nat),
  ∃ (i_6 : Int),
  ∃ (i_7 : Int),
  ∃ (b_6 : Bool),
  Ld Go.Proofs.Try.prog (44 : Nat) w'
  (Addr.mk b (0 : Nat) none)
  (Value.agg
  #[Value.int IntKind.i64 i,
  Value.slice a l c,
  Value.slice a_9 l_7 c_7,
  Value.slice a_10 l_8 c_8,
  Value.slice a_11 l_9 c_9,
  Value.int IntKind.i64 i_6,
  Value.int IntKind.i64 i_7,
  Value.bool b_6]) ∧
  (↑(ByteArray.size
  (ByteArray.mk
  #[(120 : UInt8),
  (45 : UInt8)]) +
  ByteArray.size name) :
  Int) ≤
  (9223372036854775807 : Int) ∧
  CallV Go.Proofs.Try.prog (20 : Nat)
  [Value.agg
  #[Value.int IntKind.i64 i,
  Value.slice a l c,
  Value.slice a_9 l_7 c_7,
  Value.slice a_10 l_8 c_8,
  Value.slice a_11 l_9 c_9,
  Value.int IntKind.i64 i_6,
  Value.int IntKind.i64 i_7,
  Value.bool b_6],
  Value.agg
  #[Value.int IntKind.i64 (2 : Int),
  Value.int IntKind.i64
  (Prod.snd s_1),
  Value.string
  (ByteArray.mk
  #[(120 : UInt8),
  (45 : UInt8)] ++
  name),
  Value.string (ByteArray.mk #[]),
  Value.slice none (0 : Nat)
  (0 : Nat),
  Value.slice none (0 : Nat)
  (0 : Nat)]]
  w' fun (e : Ending) (w' : World) ↦
  ∃ (i : Int),
  ∃ (a : Option Addr),
  ∃ (l : Nat),
  ∃ (c : Nat),
  ∃ (a_12 : Option Addr),
  ∃ (l_10 : Nat),
  ∃ (c_10 : Nat),
  ∃ (a_13 : Option Addr),
  ∃ (l_11 : Nat),
  ∃ (c_11 : Nat),
  ∃ (a_14 :
  Option Addr),
  ∃ (l_12 : Nat),
  ∃ (c_12 : Nat),
  ∃ (i_8 : Int),
  ∃ (i_9 :
  Int),
  ∃ (b :
  Bool),
  ∃ (s :
  ByteArray),
  ∃
  (i_10
  :
  Int),
  e =
  Ending.returned
  (Value.tuple
  #[Value.agg
  #[Value.int
  IntKind.i64
  i,
  Value.slice
  a
  l
  c,
  Value.slice
  a_12
  l_10
  c_10,
  Value.slice
  a_13
  l_11
  c_11,
  Value.slice
  a_14
  l_12
  c_12,
  Value.int
  IntKind.i64
  i_8,
  Value.int
  IntKind.i64
  i_9,
  Value.bool
  b],
  Value.agg
  #[Value.string
  s,
  Value.int
  IntKind.i64
  i_10]]) ∧
  ∀
  (b_7 :
  Nat)
  (w1 :
  World),
  New
  w'
  (Obj.cells
  #[Value.int
  IntKind.i64
  (0 :
  Int),
  Value.slice
  none
  (0 :
  Nat)
  (0 :
  Nat),
  Value.slice
  none
  (0 :
  Nat)
  (0 :
  Nat),
  Value.slice
  none
  (0 :
  Nat)
  (0 :
  Nat),
  Value.slice
  none
  (0 :
  Nat)
  (0 :
  Nat),
  Value.int
  IntKind.i64
  (0 :
  Int),
  Value.int
  IntKind.i64
  (0 :
  Int),
  Value.bool
  false]
  (44 :
  Nat))
  b_7
  w1 →
  ∀
  (b_8 :
  Nat)
  (w1_3 :
  World),
  New
  w1
  (Obj.cells
  #[Value.string
  (ByteArray.mk
  #[]),
  Value.int
  IntKind.i64
  (0 :
  Int)]
  (53 :
  Nat))
  b_8
  w1_3 →
  ∃
  (w1
  :
  World),
  St
  Go.Proofs.Try.prog
  (44 :
  Nat)
  w1_3
  (Addr.mk
  b_7
  (0 :
  Nat)
  none)
  (Value.agg
  #[Value.int
  IntKind.i64
  i,
  Value.slice
  a
  l
  c,
  Value.slice
  a_12
  l_10
  c_10,
  Value.slice
  a_13
  l_11
  c_11,
  Value.slice
  a_14
  l_12
  c_12,
  Value.int
  IntKind.i64
  i_8,
  Value.int
  IntKind.i64
  i_9,
  Value.bool
  b])
  w1 ∧
  ∃
  (w1_4
  :
  World),
  St
  Go.Proofs.Try.prog
  (53 :
  Nat)
  w1
  (Addr.mk
  b_8
  (0 :
  Nat)
  none)
  (Value.agg
  #[Value.string
  s,
  Value.int
  IntKind.i64
  i_10])
  w1_4 ∧
  ∃
  (i
  :
  Int),
  Ld
  Go.Proofs.Try.prog
  (31 :
  Nat)
  w1_4
  (Addr.mk
  b_8
  (1 :
  Nat)
  none)
  (Value.int
  IntKind.i64
  i) ∧
  br
  (!decide
  (i =
  (0 :
  Int)))
  (∃
  (i
  :
  Int),
  Ld
  Go.Proofs.Try.prog
  (31 :
  Nat)
  (World.drew
  w1_4)
  (Addr.mk
  b_8
  (1 :
  Nat)
  none)
  (Value.int
  IntKind.i64
  i) ∧
  R
  (Ending.returned
  (Value.tuple
  #[Value.string
  (ByteArray.mk
  #[]),
  Value.int
  IntKind.i64
  i]))
  (World.drew
  w1_4))
  (∃
  (s
  :
  ByteArray),
  Ld
  Go.Proofs.Try.prog
  (9 :
  Nat)
  w1_4
  (Addr.mk
  b_8
  (0 :
  Nat)
  none)
  (Value.string
  s) ∧
  (↑(ByteArray.size
  (Prod.fst
  s_1) +
  ByteArray.size
  s) :
  Int) ≤
  (9223372036854775807 :
  Int) ∧
  inR
  IntKind.i64
  (Prod.snd
  s_1 +
  (1 :
  Int)) ∧
  next
  (Prod.fst
  s_1 ++
  s,
  Prod.snd
  s_1 +
  (1 :
  Int))
  w1_4))
  (((0 : Int) ≤ Prod.fst s ∧
  Prod.fst s ≤ (↑(ByteArray.size (Prod.fst s_1)) : Int)) ∧
  R
  (Ending.returned
  (Value.tuple
  #[Value.string
  (ByteArray.extract (Prod.fst s_1) (0 : Nat)
  (Int.toNat (Prod.fst s))),
  Value.int IntKind.i64 (0 : Int)]))
  w'))
  (ByteArray.mk #[], (1 : Int)) w'))
  ((0 : Int), (0 : Int)) w1_2))
theorem rimport.eq (d_Room : Int) (d_Filesa : Option Addr) (d_Filesn : Nat) (d_Filesc : Nat) (d_Namesa : Option Addr) (d_Namesn : Nat) (d_Namesc : Nat) (d_Firma : Option Addr) (d_Firmn : Nat) (d_Firmc : Nat) (d_Sincea : Option Addr) (d_Sincen : Nat) (d_Sincec : Nat) (d_Armed : Int) (d_Denied : Int) (d_Dead : Bool) (name : ByteArray) (w : World) (R : Ending → World → Prop) : bodyV Go.Proofs.Try.prog rimport.an Go.Proofs.Try.f21 [.agg #[.int .i64 d_Room, .slice d_Filesa d_Filesn d_Filesc, .slice d_Namesa d_Namesn d_Namesc, .slice d_Firma d_Firmn d_Firmc, .slice d_Sincea d_Sincen d_Sincec, .int .i64 d_Armed, .int .i64 d_Denied, .bool d_Dead], .string name] w R = rimport.vc d_Room d_Filesa d_Filesn d_Filesc d_Namesa d_Namesn d_Namesc d_Firma d_Firmn d_Firmc d_Sincea d_Sincen d_Sincec d_Armed d_Denied d_Dead name w R := by kernel_rfl
theorem rimport.ok (d_Room : Int) (d_Filesa : Option Addr) (d_Filesn : Nat) (d_Filesc : Nat) (d_Namesa : Option Addr) (d_Namesn : Nat) (d_Namesc : Nat) (d_Firma : Option Addr) (d_Firmn : Nat) (d_Firmc : Nat) (d_Sincea : Option Addr) (d_Sincen : Nat) (d_Sincec : Nat) (d_Armed : Int) (d_Denied : Int) (d_Dead : Bool) (name : ByteArray) (w : World) (R : Ending → World → Prop) (h : rimport.vc d_Room d_Filesa d_Filesn d_Filesc d_Namesa d_Namesn d_Namesc d_Firma d_Firmn d_Firmc d_Sincea d_Sincen d_Sincec d_Armed d_Denied d_Dead name w R) : Calls Go.Proofs.Try.prog 21 #[.agg #[.int .i64 d_Room, .slice d_Filesa d_Filesn d_Filesc, .slice d_Namesa d_Namesn d_Namesc, .slice d_Firma d_Firmn d_Firmc, .slice d_Sincea d_Sincen d_Sincec, .int .i64 d_Armed, .int .i64 d_Denied, .bool d_Dead], .string name] w R :=
  calls_of_bodyV noNum (an := rimport.an) (args := [.agg #[.int .i64 d_Room, .slice d_Filesa d_Filesn d_Filesc, .slice d_Namesa d_Namesn d_Namesc, .slice d_Firma d_Firmn d_Firmc, .slice d_Sincea d_Sincen d_Sincec, .int .i64 d_Armed, .int .i64 d_Denied, .bool d_Dead], .string name]) Go.Proofs.Try.func21 (by kernel_rfl) ((rimport.eq d_Room d_Filesa d_Filesn d_Filesc d_Namesa d_Namesn d_Namesc d_Firma d_Firmn d_Firmc d_Sincea d_Sincen d_Sincec d_Armed d_Denied d_Dead name w R).mpr h)

/-- incunable/incunablelaw20.few -/
def few.an : An := { wraps := [0,1,2,3,4,5,6,7,8,9,10,11,12], loops := [(3, [(3, .inl .i64), (8, .inl .i64)])], joins := [], ranges := [] }
def few.vc (la : Option Addr) (ln : Nat) (lc : Nat) (w : World) (R : Ending → World → Prop) : Prop :=
  LoopP
  (fun (s : Int × Int) (w' : World) (next : Int × Int → World → Prop) ↦
  br (decide (Prod.snd s < (↑ln : Int)))
  (onP la fun (a : Addr) ↦
  ((0 : Int) ≤ Prod.snd s ∧ Prod.snd s < (↑ln : Int)) ∧
  ∃ (s_1 : ByteArray),
  ∃ (s_2 : ByteArray),
  Ld Go.Proofs.Try.prog (28 : Nat) w' (Addr.add a (Int.toNat (Prod.snd s) * (2 : Nat))) (Value.agg #[Value.string s_1, Value.string s_2]) ∧
  ∀ (b : Nat) (w1 : World),
  New w' (Obj.cells #[Value.string (ByteArray.mk #[]), Value.string (ByteArray.mk #[])] (28 : Nat)) b w1 →
  ∃ (w1_1 : World),
  St Go.Proofs.Try.prog (28 : Nat) w1 (Addr.mk b (0 : Nat) none) (Value.agg #[Value.string s_1, Value.string s_2]) w1_1 ∧
  ∃ (s_3 : ByteArray),
  Ld Go.Proofs.Try.prog (9 : Nat) w1_1 (Addr.mk b (1 : Nat) none) (Value.string s_3) ∧
  next (IntKind.wrap IntKind.i64 (Prod.fst s + (↑(ByteArray.size s_3) : Int)), IntKind.wrap IntKind.i64 (Prod.snd s + (1 : Int))) w1_1)
  (br (decide ((↑ln : Int) ≤ (30 : Int))) (R (Ending.returned (Value.bool (decide (Prod.fst s ≤ (30000 : Int))))) w') (R (Ending.returned (Value.bool false)) w')))
  ((0 : Int), (0 : Int)) w
theorem few.eq (la : Option Addr) (ln : Nat) (lc : Nat) (w : World) (R : Ending → World → Prop) : bodyV Go.Proofs.Try.prog few.an Go.Proofs.Try.f9 [.slice la ln lc] w R = few.vc la ln lc w R := by kernel_rfl
theorem few.ok (la : Option Addr) (ln : Nat) (lc : Nat) (w : World) (R : Ending → World → Prop) (h : few.vc la ln lc w R) : Calls Go.Proofs.Try.prog 9 #[.slice la ln lc] w R :=
  calls_of_bodyV noNum (an := few.an) (args := [.slice la ln lc]) Go.Proofs.Try.func9 (by kernel_rfl) ((few.eq la ln lc w R).mpr h)

/-- incunable/incunablelaw20.alive -/
def alive.an : An := { wraps := [], loops := [], joins := [], ranges := [] }
def alive.vc  (w : World) (R : Ending → World → Prop) : Prop :=
  CallV Go.Proofs.Try.prog (8 : Nat) [Value.int IntKind.i64 (20 : Int)] w fun (e : Ending) (w' : World) ↦
  ∃ (p : Option Addr),
  e = Ending.returned (Value.pointer p) ∧
  ∃ (b : Bool),
  Eqv Go.Proofs.Try.prog BinOp.eql (23 : Nat) (Operand.tmp (9 : Nat)) (Operand.const (Value.pointer none)) w' (Value.pointer p) (Value.pointer none) b ∧
  br b (R (Ending.returned (Value.bool false)) w')
  (CallV Go.Proofs.Try.prog (13 : Nat) [Value.pointer p, Value.string (ByteArray.mk #[(97 : UInt8)]), Value.string (ByteArray.mk #[(120 : UInt8)])] w' fun (e : Ending) (w' : World) ↦
  ∃ (i : Int),
  e = Ending.returned (Value.int IntKind.i64 i) ∧
  CallV Go.Proofs.Try.prog (16 : Nat) [Value.pointer p, Value.string (ByteArray.mk #[(97 : UInt8)])] w' fun (e : Ending) (w' : World) ↦
  ∃ (s : ByteArray),
  ∃ (i_1 : Int),
  e = Ending.returned (Value.tuple #[Value.string s, Value.int IntKind.i64 i_1]) ∧
  CallV Go.Proofs.Try.prog (16 : Nat) [Value.pointer p, Value.string (ByteArray.mk #[(98 : UInt8)])] w' fun (e : Ending) (w' : World) ↦
  ∃ (s_1 : ByteArray),
  ∃ (i_2 : Int),
  e = Ending.returned (Value.tuple #[Value.string s_1, Value.int IntKind.i64 i_2]) ∧
  CallV Go.Proofs.Try.prog (14 : Nat) [Value.pointer p] w' fun (e : Ending) (w' : World) ↦
  ∃ (a : Option Addr),
  ∃ (l : Nat),
  ∃ (c : Nat),
  e = Ending.returned (Value.slice a l c) ∧
  br (decide (i = (0 : Int)))
  (br (decide (i_1 = (0 : Int)))
  (br (decide (s = ByteArray.mk #[(120 : UInt8)]))
  (br (decide (i_2 = (90 : Int)))
  (br (decide ((↑l : Int) = (1 : Int)))
  (onP a fun (a : Addr) ↦
  ((0 : Int) ≤ (0 : Int) ∧ (0 : Int) < (↑l : Int)) ∧
  ∃ (s : ByteArray),
  Ld Go.Proofs.Try.prog (9 : Nat) w' a (Value.string s) ∧ R (Ending.returned (Value.bool (decide (s = ByteArray.mk #[(97 : UInt8)])))) w')
  (R (Ending.returned (Value.bool false)) w'))
  (R (Ending.returned (Value.bool false)) w'))
  (R (Ending.returned (Value.bool false)) w'))
  (R (Ending.returned (Value.bool false)) w'))
  (R (Ending.returned (Value.bool false)) w'))
theorem alive.eq  (w : World) (R : Ending → World → Prop) : bodyV Go.Proofs.Try.prog alive.an Go.Proofs.Try.f10 [] w R = alive.vc  w R := by kernel_rfl
theorem alive.ok  (w : World) (R : Ending → World → Prop) (h : alive.vc  w R) : Calls Go.Proofs.Try.prog 10 #[] w R :=
  calls_of_bodyV noNum (an := alive.an) (args := []) Go.Proofs.Try.func10 (by kernel_rfl) ((alive.eq  w R).mpr h)

/-- incunable/incunablelaw20.same -/
def same.an : An := { wraps := [], loops := [(6, [(33, .inl .i64)]), (11, [(9, .inl .i64)])], joins := [], ranges := [] }
def same.vc (d : Option Addr) (r_Room : Int) (r_Filesa : Option Addr) (r_Filesn : Nat) (r_Filesc : Nat) (r_Namesa : Option Addr) (r_Namesn : Nat) (r_Namesc : Nat) (r_Firma : Option Addr) (r_Firmn : Nat) (r_Firmc : Nat) (r_Sincea : Option Addr) (r_Sincen : Nat) (r_Sincec : Nat) (r_Armed : Int) (r_Denied : Int) (r_Dead : Bool) (w : World) (R : Ending → World → Prop) : Prop :=
  ∀ (b : Nat) (w1 : World),
  New w
  (Obj.cells
  #[Value.int IntKind.i64 r_Room, Value.slice r_Filesa r_Filesn r_Filesc, Value.slice r_Namesa r_Namesn r_Namesc, Value.slice r_Firma r_Firmn r_Firmc, Value.slice r_Sincea r_Sincen r_Sincec,
  Value.int IntKind.i64 r_Armed, Value.int IntKind.i64 r_Denied, Value.bool r_Dead]
  (44 : Nat))
  b w1 →
  ∃ (i : Int),
  ∃ (a : Option Addr),
  ∃ (l : Nat),
  ∃ (c : Nat),
  ∃ (a_1 : Option Addr),
  ∃ (l_1 : Nat),
  ∃ (c_1 : Nat),
  ∃ (a_2 : Option Addr),
  ∃ (l_2 : Nat),
  ∃ (c_2 : Nat),
  ∃ (a_3 : Option Addr),
  ∃ (l_3 : Nat),
  ∃ (c_3 : Nat),
  ∃ (i_1 : Int),
  ∃ (i_2 : Int),
  ∃ (b_1 : Bool),
  Ld Go.Proofs.Try.prog (44 : Nat) w1 (Addr.mk b (0 : Nat) none)
  (Value.agg
  #[Value.int IntKind.i64 i, Value.slice a l c, Value.slice a_1 l_1 c_1, Value.slice a_2 l_2 c_2, Value.slice a_3 l_3 c_3, Value.int IntKind.i64 i_1,
  Value.int IntKind.i64 i_2, Value.bool b_1]) ∧
  CallV Go.Proofs.Try.prog (55 : Nat)
  [Value.agg
  #[Value.int IntKind.i64 i, Value.slice a l c, Value.slice a_1 l_1 c_1, Value.slice a_2 l_2 c_2, Value.slice a_3 l_3 c_3, Value.int IntKind.i64 i_1,
  Value.int IntKind.i64 i_2, Value.bool b_1]]
  w1 fun (e : Ending) (w' : World) ↦
  ∃ (a : Option Addr),
  ∃ (l : Nat),
  ∃ (c : Nat),
  ∃ (a_4 : Option Addr),
  ∃ (l_4 : Nat),
  ∃ (c_4 : Nat),
  e = Ending.returned (Value.tuple #[Value.slice a l c, Value.slice a_4 l_4 c_4]) ∧
  CallV Go.Proofs.Try.prog (23 : Nat) [Value.pointer d] w' fun (e : Ending) (w' : World) ↦
  ∃ (a_5 : Option Addr),
  ∃ (l_5 : Nat),
  ∃ (c : Nat),
  e = Ending.returned (Value.slice a_5 l_5 c) ∧
  br (!decide ((↑l_5 : Int) = (↑l : Int))) (R (Ending.returned (Value.bool false)) (World.drew w'))
  (∃ (b_2 : Bool),
  Ld Go.Proofs.Try.prog (4 : Nat) (World.drew w') (Addr.mk b (7 : Nat) none) (Value.bool b_2) ∧
  CallV Go.Proofs.Try.prog (56 : Nat) [Value.pointer d] (World.drew w') fun (e : Ending) (w' : World) ↦
  ∃ (b_3 : Bool),
  e = Ending.returned (Value.bool b_3) ∧
  Ld Go.Proofs.Try.prog (4 : Nat) w' (Addr.mk b (7 : Nat) none) (Value.bool b_2) ∧
  br (!b_3 == b_2) (R (Ending.returned (Value.bool false)) w')
  (LoopP
  (fun (s : Int) (w' : World) (next : Int → World → Prop) ↦
  br (decide (s < (↑l_5 : Int)))
  (onP a_5 fun (a_6 : Addr) ↦
  ((0 : Int) ≤ s ∧ s < (↑l_5 : Int)) ∧
  ∃ (s_1 : ByteArray),
  Ld Go.Proofs.Try.prog (9 : Nat) (World.drew w') (Addr.add a_6 (Int.toNat s * (1 : Nat))) (Value.string s_1) ∧
  onP a fun (a : Addr) ↦
  ((0 : Int) ≤ s ∧ s < (↑l : Int)) ∧
  ∃ (s_2 : ByteArray),
  Ld Go.Proofs.Try.prog (9 : Nat) (World.drew w') (Addr.add a (Int.toNat s * (1 : Nat)))
  (Value.string s_2) ∧
  br (!decide (s_1 = s_2)) (R (Ending.returned (Value.bool false)) (World.drew w'))
  (onP a_5 fun (a : Addr) ↦
  ((0 : Int) ≤ s ∧ s < (↑l_5 : Int)) ∧
  ∃ (s_3 : ByteArray),
  Ld Go.Proofs.Try.prog (9 : Nat) (World.drew w') (Addr.add a (Int.toNat s * (1 : Nat)))
  (Value.string s_3) ∧
  onP a_4 fun (a : Addr) ↦
  ((0 : Int) ≤ s ∧ s < (↑l_4 : Int)) ∧
  ∃ (a_7 : Option Addr),
  ∃ (l : Nat),
  ∃ (c : Nat),
  Ld Go.Proofs.Try.prog (33 : Nat) (World.drew w')
  (Addr.add a (Int.toNat s * (1 : Nat))) (Value.slice a_7 l c) ∧
  CallV Go.Proofs.Try.prog (38 : Nat) [Value.pointer d, Value.string s_3]
  (World.drew w') fun (e : Ending) (w' : World) ↦
  ∃ (i : Int),
  e = Ending.returned (Value.int IntKind.i64 i) ∧
  Ld Go.Proofs.Try.prog (33 : Nat) w'
  (Addr.add a (Int.toNat s * (1 : Nat))) (Value.slice a_7 l c) ∧
  br (!decide (i = (↑l : Int)))
  (R (Ending.returned (Value.bool false)) w')
  (LoopP
  (fun (s_4 : Int) (w' : World) (next_1 : Int → World → Prop) ↦
  onP a_4 fun (a : Addr) ↦
  ((0 : Int) ≤ s ∧ s < (↑l_4 : Int)) ∧
  ∃ (a_8 : Option Addr),
  ∃ (l : Nat),
  ∃ (c : Nat),
  Ld Go.Proofs.Try.prog (33 : Nat) w'
  (Addr.add a (Int.toNat s * (1 : Nat)))
  (Value.slice a_8 l c) ∧
  br (decide (s_4 < (↑l : Int)))
  (∃ (b_4 : Bool),
  Ld Go.Proofs.Try.prog (4 : Nat) w'
  (Addr.mk b (7 : Nat) none)
  (Value.bool b_4) ∧
  br (!b_4)
  (onP a_5 fun (a : Addr) ↦
  ((0 : Int) ≤ s ∧ s < (↑l_5 : Int)) ∧
  ∃ (s_5 : ByteArray),
  Ld Go.Proofs.Try.prog (9 : Nat) w'
  (Addr.add a
  (Int.toNat s * (1 : Nat)))
  (Value.string s_5) ∧
  CallV Go.Proofs.Try.prog (36 : Nat)
  [Value.pointer d,
  Value.string s_5,
  Value.int IntKind.i64 s_4]
  w'
  fun (e : Ending) (w' : World) ↦
  ∃ (a : Option Addr),
  ∃ (l : Nat),
  ∃ (c : Nat),
  ∃ (i : Int),
  e =
  Ending.returned
  (Value.tuple
  #[Value.slice a
  l c,
  Value.int
  IntKind.i64
  i]) ∧
  br
  (!decide
  (i = (0 : Int)))
  (R
  (Ending.returned
  (Value.bool
  false))
  (World.drew w'))
  (∃ (s_6 :
  ByteArray),
  B2S
  Go.Proofs.Try.prog
  (46 : Nat)
  (9 : Nat)
  (World.drew
  w')
  (Value.slice a
  l c)
  (Value.string
  s_6) ∧
  onP a_4
  fun
  (a : Addr) ↦
  ((0 : Int) ≤
  s ∧
  s <
  (↑l_4 :
  Int)) ∧
  ∃ (a_9 :
  Option
  Addr),
  ∃ (l :
  Nat),
  ∃ (c :
  Nat),
  Ld
  Go.Proofs.Try.prog
  (33 :
  Nat)
  (World.drew
  w')
  (Addr.add
  a
  (Int.toNat
  s *
  (1 :
  Nat)))
  (Value.slice
  a_9
  l
  c) ∧
  onP
  a_9
  fun
  (a :
  Addr) ↦
  ((0 :
  Int) ≤
  s_4 ∧
  s_4 <
  (↑l :
  Int)) ∧
  ∃
  (s
  :
  ByteArray),
  Ld
  Go.Proofs.Try.prog
  (9 :
  Nat)
  (World.drew
  w')
  (Addr.add
  a
  (Int.toNat
  s_4 *
  (1 :
  Nat)))
  (Value.string
  s) ∧
  br
  (!decide
  (s_6 =
  s))
  (R
  (Ending.returned
  (Value.bool
  false))
  (World.drew
  w'))
  (inR
  IntKind.i64
  (s_4 +
  (1 :
  Int)) ∧
  next_1
  (s_4 +
  (1 :
  Int))
  (World.drew
  w'))))
  (inR IntKind.i64 (s + (1 : Int)) ∧
  next (s + (1 : Int)) w'))
  (inR IntKind.i64 (s + (1 : Int)) ∧
  next (s + (1 : Int)) w'))
  (0 : Int) w')))
  (R (Ending.returned (Value.bool true)) w'))
  (0 : Int) w'))
theorem same.eq (d : Option Addr) (r_Room : Int) (r_Filesa : Option Addr) (r_Filesn : Nat) (r_Filesc : Nat) (r_Namesa : Option Addr) (r_Namesn : Nat) (r_Namesc : Nat) (r_Firma : Option Addr) (r_Firmn : Nat) (r_Firmc : Nat) (r_Sincea : Option Addr) (r_Sincen : Nat) (r_Sincec : Nat) (r_Armed : Int) (r_Denied : Int) (r_Dead : Bool) (w : World) (R : Ending → World → Prop) : bodyV Go.Proofs.Try.prog same.an Go.Proofs.Try.f26 [.pointer d, .agg #[.int .i64 r_Room, .slice r_Filesa r_Filesn r_Filesc, .slice r_Namesa r_Namesn r_Namesc, .slice r_Firma r_Firmn r_Firmc, .slice r_Sincea r_Sincen r_Sincec, .int .i64 r_Armed, .int .i64 r_Denied, .bool r_Dead]] w R = same.vc d r_Room r_Filesa r_Filesn r_Filesc r_Namesa r_Namesn r_Namesc r_Firma r_Firmn r_Firmc r_Sincea r_Sincen r_Sincec r_Armed r_Denied r_Dead w R := by kernel_rfl
theorem same.ok (d : Option Addr) (r_Room : Int) (r_Filesa : Option Addr) (r_Filesn : Nat) (r_Filesc : Nat) (r_Namesa : Option Addr) (r_Namesn : Nat) (r_Namesc : Nat) (r_Firma : Option Addr) (r_Firmn : Nat) (r_Firmc : Nat) (r_Sincea : Option Addr) (r_Sincen : Nat) (r_Sincec : Nat) (r_Armed : Int) (r_Denied : Int) (r_Dead : Bool) (w : World) (R : Ending → World → Prop) (h : same.vc d r_Room r_Filesa r_Filesn r_Filesc r_Namesa r_Namesn r_Namesc r_Firma r_Firmn r_Firmc r_Sincea r_Sincen r_Sincec r_Armed r_Denied r_Dead w R) : Calls Go.Proofs.Try.prog 26 #[.pointer d, .agg #[.int .i64 r_Room, .slice r_Filesa r_Filesn r_Filesc, .slice r_Namesa r_Namesn r_Namesc, .slice r_Firma r_Firmn r_Firmc, .slice r_Sincea r_Sincen r_Sincec, .int .i64 r_Armed, .int .i64 r_Denied, .bool r_Dead]] w R :=
  calls_of_bodyV noNum (an := same.an) (args := [.pointer d, .agg #[.int .i64 r_Room, .slice r_Filesa r_Filesn r_Filesc, .slice r_Namesa r_Namesn r_Namesc, .slice r_Firma r_Firmn r_Firmc, .slice r_Sincea r_Sincen r_Sincec, .int .i64 r_Armed, .int .i64 r_Denied, .bool r_Dead]]) Go.Proofs.Try.func26 (by kernel_rfl) ((same.eq d r_Room r_Filesa r_Filesn r_Filesc r_Namesa r_Namesn r_Namesc r_Firma r_Firmn r_Firmc r_Sincea r_Sincen r_Sincec r_Armed r_Denied r_Dead w R).mpr h)

/-- incunable/incunablelaw20.kept -/
def kept.an : An := { wraps := [], loops := [(2, [(19, .inl .i64)])], joins := [], ranges := [] }
def kept.vc (d : Option Addr) (alla : Option Addr) (alln : Nat) (allc : Nat) (cut_Name : ByteArray) (cut_S : ByteArray) (e : Int) (w : World) (R : Ending → World → Prop) : Prop :=
  ∀ (b : Nat) (w1 : World),
  New w (Obj.cells #[Value.string cut_Name, Value.string cut_S] (28 : Nat)) b w1 →
  LoopP
  (fun (s : Int) (w' : World) (next : Int → World → Prop) ↦
  br (decide (s < (↑alln : Int)))
  (onP alla fun (a : Addr) ↦
  ((0 : Int) ≤ s ∧ s < (↑alln : Int)) ∧
  ∃ (s_1 : ByteArray),
  ∃ (s_2 : ByteArray),
  Ld Go.Proofs.Try.prog (28 : Nat) w' (Addr.add a (Int.toNat s * (2 : Nat))) (Value.agg #[Value.string s_1, Value.string s_2]) ∧
  ∀ (b_1 : Nat) (w1 : World),
  New w' (Obj.cells #[Value.string (ByteArray.mk #[]), Value.string (ByteArray.mk #[])] (28 : Nat)) b_1 w1 →
  ∃ (w1_1 : World),
  St Go.Proofs.Try.prog (28 : Nat) w1 (Addr.mk b_1 (0 : Nat) none) (Value.agg #[Value.string s_1, Value.string s_2]) w1_1 ∧
  ∃ (s_3 : ByteArray),
  Ld Go.Proofs.Try.prog (9 : Nat) w1_1 (Addr.mk b_1 (0 : Nat) none) (Value.string s_3) ∧
  CallV Go.Proofs.Try.prog (16 : Nat) [Value.pointer d, Value.string s_3] w1_1 fun (e_1 : Ending) (w' : World) ↦
  ∃ (s_4 : ByteArray),
  ∃ (i : Int),
  e_1 = Ending.returned (Value.tuple #[Value.string s_4, Value.int IntKind.i64 i]) ∧
  br (!decide (i = (0 : Int))) (R (Ending.returned (Value.bool false)) w')
  (∃ (s_5 : ByteArray),
  Ld Go.Proofs.Try.prog (9 : Nat) w' (Addr.mk b_1 (1 : Nat) none) (Value.string s_5) ∧
  br (!decide (s_4 = s_5))
  (br (decide (e = (0 : Int))) (R (Ending.returned (Value.bool false)) w')
  (∃ (s_6 : ByteArray),
  Ld Go.Proofs.Try.prog (9 : Nat) w' (Addr.mk b_1 (0 : Nat) none) (Value.string s_6) ∧
  ∃ (s_7 : ByteArray),
  Ld Go.Proofs.Try.prog (9 : Nat) w' (Addr.mk b (0 : Nat) none) (Value.string s_7) ∧
  br (!decide (s_6 = s_7)) (R (Ending.returned (Value.bool false)) w')
  (∃ (s_8 : ByteArray),
  Ld Go.Proofs.Try.prog (9 : Nat) w' (Addr.mk b (1 : Nat) none) (Value.string s_8) ∧
  br (!decide (s_4 = s_8)) (R (Ending.returned (Value.bool false)) w') (inR IntKind.i64 (s + (1 : Int)) ∧ next (s + (1 : Int)) w'))))
  (inR IntKind.i64 (s + (1 : Int)) ∧ next (s + (1 : Int)) w')))
  (∃ (s : ByteArray),
  Ld Go.Proofs.Try.prog (9 : Nat) w' (Addr.mk b (0 : Nat) none) (Value.string s) ∧
  CallV Go.Proofs.Try.prog (15 : Nat) [Value.slice alla alln allc, Value.string s] w' fun (e : Ending) (w' : World) ↦
  ∃ (s : ByteArray),
  ∃ (b_1 : Bool),
  e = Ending.returned (Value.tuple #[Value.string s, Value.bool b_1]) ∧
  ∃ (s : ByteArray),
  Ld Go.Proofs.Try.prog (9 : Nat) w' (Addr.mk b (0 : Nat) none) (Value.string s) ∧
  CallV Go.Proofs.Try.prog (16 : Nat) [Value.pointer d, Value.string s] w' fun (e : Ending) (w' : World) ↦
  ∃ (s : ByteArray),
  ∃ (i : Int),
  e = Ending.returned (Value.tuple #[Value.string s, Value.int IntKind.i64 i]) ∧
  br b_1 (R (Ending.returned (Value.bool true)) w')
  (br (decide (i = (90 : Int))) (R (Ending.returned (Value.bool true)) w')
  (br (decide (i = (92 : Int))) (R (Ending.returned (Value.bool true)) w')
  (br (decide (i = (0 : Int)))
  (∃ (s_1 : ByteArray), Ld Go.Proofs.Try.prog (9 : Nat) w' (Addr.mk b (1 : Nat) none) (Value.string s_1) ∧ R (Ending.returned (Value.bool (decide (s = s_1)))) w')
  (R (Ending.returned (Value.bool false)) w'))))))
  (0 : Int) w1
theorem kept.eq (d : Option Addr) (alla : Option Addr) (alln : Nat) (allc : Nat) (cut_Name : ByteArray) (cut_S : ByteArray) (e : Int) (w : World) (R : Ending → World → Prop) : bodyV Go.Proofs.Try.prog kept.an Go.Proofs.Try.f30 [.pointer d, .slice alla alln allc, .agg #[.string cut_Name, .string cut_S], .int .i64 e] w R = kept.vc d alla alln allc cut_Name cut_S e w R := by kernel_rfl
theorem kept.ok (d : Option Addr) (alla : Option Addr) (alln : Nat) (allc : Nat) (cut_Name : ByteArray) (cut_S : ByteArray) (e : Int) (w : World) (R : Ending → World → Prop) (h : kept.vc d alla alln allc cut_Name cut_S e w R) : Calls Go.Proofs.Try.prog 30 #[.pointer d, .slice alla alln allc, .agg #[.string cut_Name, .string cut_S], .int .i64 e] w R :=
  calls_of_bodyV noNum (an := kept.an) (args := [.pointer d, .slice alla alln allc, .agg #[.string cut_Name, .string cut_S], .int .i64 e]) Go.Proofs.Try.func30 (by kernel_rfl) ((kept.eq d alla alln allc cut_Name cut_S e w R).mpr h)

/-- incunable/incunablelaw20.PressBack -/
def pressBack.an : An := { wraps := [], loops := [(6, [(4, .inr 3), (30, .inl .i64)]), (18, [(8, .inr 1), (61, .inl .i64)])], joins := [], ranges := [] }
def pressBack.vc (la : Option Addr) (ln : Nat) (lc : Nat) (w : World) (R : Ending → World → Prop) : Prop :=
  CallV Go.Proofs.Try.prog (8 : Nat) [Value.int IntKind.i64 (2000 : Int)] w fun (e : Ending) (w' : World) ↦
  ∃ (p : Option Addr),
  e = Ending.returned (Value.pointer p) ∧
  ∃ (b : Bool),
  Eqv Go.Proofs.Try.prog BinOp.eql (23 : Nat) (Operand.tmp (16 : Nat)) (Operand.const (Value.pointer none)) w' (Value.pointer p) (Value.pointer none) b ∧
  br b
  (∃ (b : Bool),
  Eqv Go.Proofs.Try.prog BinOp.neq (23 : Nat) (Operand.tmp (23 : Nat)) (Operand.const (Value.pointer none)) w' (Value.pointer p) (Value.pointer none) b ∧
  br b (CallV Go.Proofs.Try.prog (10 : Nat) [] w' fun (e : Ending) (w' : World) ↦ ∃ (b : Bool), e = Ending.returned (Value.bool b) ∧ R (Ending.returned (Value.bool b)) w')
  (R (Ending.returned (Value.bool false)) w'))
  (CallV Go.Proofs.Try.prog (9 : Nat) [Value.slice la ln lc] w' fun (e : Ending) (w' : World) ↦
  ∃ (b : Bool),
  e = Ending.returned (Value.bool b) ∧
  br (!b)
  (∃ (b : Bool),
  Eqv Go.Proofs.Try.prog BinOp.neq (23 : Nat) (Operand.tmp (23 : Nat)) (Operand.const (Value.pointer none)) w' (Value.pointer p) (Value.pointer none) b ∧
  br b (CallV Go.Proofs.Try.prog (10 : Nat) [] w' fun (e : Ending) (w' : World) ↦ ∃ (b : Bool), e = Ending.returned (Value.bool b) ∧ R (Ending.returned (Value.bool b)) w')
  (R (Ending.returned (Value.bool false)) w'))
  (LoopP
  (fun (s : (Option Addr × Nat × Nat) × Int) (w' : World) (next : (Option Addr × Nat × Nat) × Int → World → Prop) ↦
  br (decide (Prod.snd s < (↑ln : Int)))
  (onP la fun (a : Addr) ↦
  ((0 : Int) ≤ Prod.snd s ∧ Prod.snd s < (↑ln : Int)) ∧
  ∃ (s_1 : ByteArray),
  ∃ (s_2 : ByteArray),
  Ld Go.Proofs.Try.prog (28 : Nat) w' (Addr.add a (Int.toNat (Prod.snd s) * (2 : Nat))) (Value.agg #[Value.string s_1, Value.string s_2]) ∧
  ∀ (b : Nat) (w1 : World),
  New w' (Obj.cells #[Value.string (ByteArray.mk #[]), Value.string (ByteArray.mk #[])] (28 : Nat)) b w1 →
  ∃ (w1_1 : World),
  St Go.Proofs.Try.prog (28 : Nat) w1 (Addr.mk b (0 : Nat) none) (Value.agg #[Value.string s_1, Value.string s_2]) w1_1 ∧
  ∃ (s_3 : ByteArray),
  Ld Go.Proofs.Try.prog (9 : Nat) w1_1 (Addr.mk b (0 : Nat) none) (Value.string s_3) ∧
  CallV Go.Proofs.Try.prog (11 : Nat) [Value.string s_3] w1_1 fun (e : Ending) (w' : World) ↦
  ∃ (b_1 : Bool),
  e = Ending.returned (Value.bool b_1) ∧
  br b_1
  (∃ (s_4 : ByteArray),
  ∃ (s_5 : ByteArray),
  Ld Go.Proofs.Try.prog (28 : Nat) w' (Addr.mk b (0 : Nat) none) (Value.agg #[Value.string s_4, Value.string s_5]) ∧
  CallV Go.Proofs.Try.prog (12 : Nat)
  [Value.slice (Prod.fst (Prod.fst s)) (Prod.fst (Prod.snd (Prod.fst s))) (Prod.snd (Prod.snd (Prod.fst s))),
  Value.agg #[Value.string s_4, Value.string s_5]]
  w' fun (e : Ending) (w' : World) ↦
  ∃ (a : Option Addr),
  ∃ (l : Nat),
  ∃ (c : Nat),
  e = Ending.returned (Value.slice a l c) ∧
  ∃ (s_6 : ByteArray),
  Ld Go.Proofs.Try.prog (9 : Nat) (World.drew w') (Addr.mk b (0 : Nat) none) (Value.string s_6) ∧
  ∃ (s_7 : ByteArray),
  Ld Go.Proofs.Try.prog (9 : Nat) (World.drew w') (Addr.mk b (1 : Nat) none) (Value.string s_7) ∧
  ∃ (s_8 : ByteArray),
  Ld Go.Proofs.Try.prog (9 : Nat) (World.drew w') (Addr.mk b (0 : Nat) none) (Value.string s_8) ∧
  CallV Go.Proofs.Try.prog (13 : Nat) [Value.pointer p, Value.string s_6, Value.string s_7] (World.drew w')
  fun (e : Ending) (w' : World) ↦
  ∃ (i : Int),
  e = Ending.returned (Value.int IntKind.i64 i) ∧
  Ld Go.Proofs.Try.prog (9 : Nat) w' (Addr.mk b (0 : Nat) none) (Value.string s_8) ∧
  CallV Go.Proofs.Try.prog (11 : Nat) [Value.string s_8] w' fun (e : Ending) (w' : World) ↦
  ∃ (b : Bool),
  e = Ending.returned (Value.bool b) ∧
  br (!decide (i = (0 : Int)) == b) (R (Ending.returned (Value.bool false)) w')
  (inR IntKind.i64 (Prod.snd s + (1 : Int)) ∧ next ((a, l, c), Prod.snd s + (1 : Int)) w'))
  (∃ (s_4 : ByteArray),
  Ld Go.Proofs.Try.prog (9 : Nat) (World.drew w') (Addr.mk b (0 : Nat) none) (Value.string s_4) ∧
  ∃ (s_5 : ByteArray),
  Ld Go.Proofs.Try.prog (9 : Nat) (World.drew w') (Addr.mk b (1 : Nat) none) (Value.string s_5) ∧
  ∃ (s_6 : ByteArray),
  Ld Go.Proofs.Try.prog (9 : Nat) (World.drew w') (Addr.mk b (0 : Nat) none) (Value.string s_6) ∧
  CallV Go.Proofs.Try.prog (13 : Nat) [Value.pointer p, Value.string s_4, Value.string s_5] (World.drew w')
  fun (e : Ending) (w' : World) ↦
  ∃ (i : Int),
  e = Ending.returned (Value.int IntKind.i64 i) ∧
  Ld Go.Proofs.Try.prog (9 : Nat) w' (Addr.mk b (0 : Nat) none) (Value.string s_6) ∧
  CallV Go.Proofs.Try.prog (11 : Nat) [Value.string s_6] w' fun (e : Ending) (w' : World) ↦
  ∃ (b : Bool),
  e = Ending.returned (Value.bool b) ∧
  br (!decide (i = (0 : Int)) == b) (R (Ending.returned (Value.bool false)) w')
  (inR IntKind.i64 (Prod.snd s + (1 : Int)) ∧
  next
  ((Prod.fst (Prod.fst s), Prod.fst (Prod.snd (Prod.fst s)), Prod.snd (Prod.snd (Prod.fst s))),
  Prod.snd s + (1 : Int))
  w')))
  (CallV Go.Proofs.Try.prog (14 : Nat) [Value.pointer p] w' fun (e : Ending) (w' : World) ↦
  ∃ (a : Option Addr),
  ∃ (l : Nat),
  ∃ (c : Nat),
  e = Ending.returned (Value.slice a l c) ∧
  br (!decide ((↑l : Int) = (↑(Prod.fst (Prod.snd (Prod.fst s))) : Int))) (R (Ending.returned (Value.bool false)) w')
  (LoopP
  (fun (s_1 : ByteArray × Int) (w' : World) (next : ByteArray × Int → World → Prop) ↦
  br (decide (Prod.snd s_1 < (↑l : Int)))
  (onP a fun (a : Addr) ↦
  ((0 : Int) ≤ Prod.snd s_1 ∧ Prod.snd s_1 < (↑l : Int)) ∧
  ∃ (s_2 : ByteArray),
  Ld Go.Proofs.Try.prog (9 : Nat) w' (Addr.add a (Int.toNat (Prod.snd s_1) * (1 : Nat))) (Value.string s_2) ∧
  CallV Go.Proofs.Try.prog (15 : Nat)
  [Value.slice (Prod.fst (Prod.fst s)) (Prod.fst (Prod.snd (Prod.fst s))) (Prod.snd (Prod.snd (Prod.fst s))), Value.string s_2] w'
  fun (e : Ending) (w' : World) ↦
  ∃ (s : ByteArray),
  ∃ (b : Bool),
  e = Ending.returned (Value.tuple #[Value.string s, Value.bool b]) ∧
  CallV Go.Proofs.Try.prog (16 : Nat) [Value.pointer p, Value.string s_2] w' fun (e : Ending) (w' : World) ↦
  ∃ (s_3 : ByteArray),
  ∃ (i : Int),
  e = Ending.returned (Value.tuple #[Value.string s_3, Value.int IntKind.i64 i]) ∧
  br (!b) (R (Ending.returned (Value.bool false)) w')
  (br (!decide (i = (0 : Int))) (R (Ending.returned (Value.bool false)) w')
  (br (!decide (s_3 = s)) (R (Ending.returned (Value.bool false)) w')
  (br
  (Op.bytesLess (Array.toList (ByteArray.data s_2)) (Array.toList (ByteArray.data (Prod.fst s_1))) ||
  decide (s_2 = Prod.fst s_1))
  (R (Ending.returned (Value.bool false)) w')
  (inR IntKind.i64 (Prod.snd s_1 + (1 : Int)) ∧ next (s_2, Prod.snd s_1 + (1 : Int)) w')))))
  (CallV Go.Proofs.Try.prog (10 : Nat) [] w' fun (e : Ending) (w' : World) ↦
  ∃ (b : Bool), e = Ending.returned (Value.bool b) ∧ R (Ending.returned (Value.bool b)) w'))
  (ByteArray.mk #[], (0 : Int)) w')))
  ((none, (0 : Nat), (0 : Nat)), (0 : Int)) w'))
theorem pressBack.eq (la : Option Addr) (ln : Nat) (lc : Nat) (w : World) (R : Ending → World → Prop) : bodyV Go.Proofs.Try.prog pressBack.an Go.Proofs.Try.f3 [.slice la ln lc] w R = pressBack.vc la ln lc w R := by kernel_rfl
theorem pressBack.ok (la : Option Addr) (ln : Nat) (lc : Nat) (w : World) (R : Ending → World → Prop) (h : pressBack.vc la ln lc w R) : Calls Go.Proofs.Try.prog 3 #[.slice la ln lc] w R :=
  calls_of_bodyV noNum (an := pressBack.an) (args := [.slice la ln lc]) Go.Proofs.Try.func3 (by kernel_rfl) ((pressBack.eq la ln lc w R).mpr h)

/-- incunable/incunablelaw20.PressRaw -/
def pressRaw.an : An := { wraps := [], loops := [(5, [(31, .inl .i64)])], joins := [], ranges := [] }
def pressRaw.vc (name : ByteArray) (scripta : Option Addr) (scriptn : Nat) (scriptc : Nat) (w : World) (R : Ending → World → Prop) : Prop :=
  CallV Go.Proofs.Try.prog (8 : Nat) [Value.int IntKind.i64 (60 : Int)] w fun (e : Ending) (w' : World) ↦
  ∃ (p : Option Addr),
  e = Ending.returned (Value.pointer p) ∧
  CallV Go.Proofs.Try.prog (17 : Nat) [Value.int IntKind.i64 (60 : Int)] w' fun (e : Ending) (w' : World) ↦
  ∃ (i : Int),
  ∃ (a : Option Addr),
  ∃ (l : Nat),
  ∃ (c : Nat),
  ∃ (a_1 : Option Addr),
  ∃ (l_1 : Nat),
  ∃ (c_1 : Nat),
  ∃ (a_2 : Option Addr),
  ∃ (l_2 : Nat),
  ∃ (c_2 : Nat),
  ∃ (a_3 : Option Addr),
  ∃ (l_3 : Nat),
  ∃ (c_3 : Nat),
  ∃ (i_1 : Int),
  ∃ (i_2 : Int),
  ∃ (b : Bool),
  e =
  Ending.returned
  (Value.agg
  #[Value.int IntKind.i64 i, Value.slice a l c, Value.slice a_1 l_1 c_1, Value.slice a_2 l_2 c_2, Value.slice a_3 l_3 c_3, Value.int IntKind.i64 i_1,
  Value.int IntKind.i64 i_2, Value.bool b]) ∧
  ∀ (b_1 : Nat) (w1 : World),
  New w'
  (Obj.cells
  #[Value.int IntKind.i64 (0 : Int), Value.slice none (0 : Nat) (0 : Nat), Value.slice none (0 : Nat) (0 : Nat), Value.slice none (0 : Nat) (0 : Nat),
  Value.slice none (0 : Nat) (0 : Nat), Value.int IntKind.i64 (0 : Int), Value.int IntKind.i64 (0 : Int), Value.bool false]
  (44 : Nat))
  b_1 w1 →
  ∃ (w1_1 : World),
  St Go.Proofs.Try.prog (44 : Nat) w1 (Addr.mk b_1 (0 : Nat) none)
  (Value.agg
  #[Value.int IntKind.i64 i, Value.slice a l c, Value.slice a_1 l_1 c_1, Value.slice a_2 l_2 c_2, Value.slice a_3 l_3 c_3,
  Value.int IntKind.i64 i_1, Value.int IntKind.i64 i_2, Value.bool b])
  w1_1 ∧
  ∃ (b : Bool),
  Eqv Go.Proofs.Try.prog BinOp.eql (23 : Nat) (Operand.tmp (17 : Nat)) (Operand.const (Value.pointer none)) w1_1 (Value.pointer p) (Value.pointer none)
  b ∧
  br b
  (∃ (b : Bool),
  Eqv Go.Proofs.Try.prog BinOp.neq (23 : Nat) (Operand.tmp (24 : Nat)) (Operand.const (Value.pointer none)) w1_1 (Value.pointer p)
  (Value.pointer none) b ∧
  br b
  (CallV Go.Proofs.Try.prog (10 : Nat) [] w1_1 fun (e : Ending) (w' : World) ↦
  ∃ (b : Bool), e = Ending.returned (Value.bool b) ∧ R (Ending.returned (Value.bool b)) w')
  (R (Ending.returned (Value.bool false)) w1_1))
  (br (decide ((80 : Int) < (↑scriptn : Int)))
  (∃ (b : Bool),
  Eqv Go.Proofs.Try.prog BinOp.neq (23 : Nat) (Operand.tmp (24 : Nat)) (Operand.const (Value.pointer none)) w1_1 (Value.pointer p)
  (Value.pointer none) b ∧
  br b
  (CallV Go.Proofs.Try.prog (10 : Nat) [] w1_1 fun (e : Ending) (w' : World) ↦
  ∃ (b : Bool), e = Ending.returned (Value.bool b) ∧ R (Ending.returned (Value.bool b)) w')
  (R (Ending.returned (Value.bool false)) w1_1))
  (LoopP
  (fun (s : Int) (w' : World) (next : Int → World → Prop) ↦
  br (decide (s < (↑scriptn : Int)))
  (onP scripta fun (a : Addr) ↦
  ((0 : Int) ≤ s ∧ s < (↑scriptn : Int)) ∧
  ∃ (i : Int),
  ∃ (i_3 : Int),
  ∃ (s_1 : ByteArray),
  ∃ (s_2 : ByteArray),
  ∃ (a_5 : Option Addr),
  ∃ (l : Nat),
  ∃ (c : Nat),
  ∃ (a_6 : Option Addr),
  ∃ (l_4 : Nat),
  ∃ (c_4 : Nat),
  Ld Go.Proofs.Try.prog (49 : Nat) w' (Addr.add a (Int.toNat s * (6 : Nat)))
  (Value.agg
  #[Value.int IntKind.i64 i, Value.int IntKind.i64 i_3, Value.string s_1, Value.string s_2,
  Value.slice a_5 l c, Value.slice a_6 l_4 c_4]) ∧
  ∀ (b : Nat) (w1 : World),
  New w'
  (Obj.cells
  #[Value.int IntKind.i64 (0 : Int), Value.int IntKind.i64 (0 : Int), Value.string (ByteArray.mk #[]),
  Value.string (ByteArray.mk #[]), Value.slice none (0 : Nat) (0 : Nat),
  Value.slice none (0 : Nat) (0 : Nat)]
  (49 : Nat))
  b w1 →
  ∃ (w1_2 : World),
  St Go.Proofs.Try.prog (49 : Nat) w1 (Addr.mk b (0 : Nat) none)
  (Value.agg
  #[Value.int IntKind.i64 i, Value.int IntKind.i64 i_3, Value.string s_1, Value.string s_2,
  Value.slice a_5 l c, Value.slice a_6 l_4 c_4])
  w1_2 ∧
  (↑(ByteArray.size (ByteArray.mk #[(120 : UInt8), (45 : UInt8)]) + ByteArray.size name) : Int) ≤
  (9223372036854775807 : Int) ∧
  ∃ (w1 : World),
  St Go.Proofs.Try.prog (9 : Nat) w1_2 (Addr.mk b (2 : Nat) none)
  (Value.string (ByteArray.mk #[(120 : UInt8), (45 : UInt8)] ++ name)) w1 ∧
  ∃ (i : Int),
  Ld Go.Proofs.Try.prog (3 : Nat) w1 (Addr.mk b (0 : Nat) none) (Value.int IntKind.i64 i) ∧
  br (decide (i = (0 : Int)))
  (∃ (s_3 : ByteArray),
  Ld Go.Proofs.Try.prog (9 : Nat) w1 (Addr.mk b (2 : Nat) none) (Value.string s_3) ∧
  CallV Go.Proofs.Try.prog (18 : Nat) [Value.pointer p, Value.string s_3] w1
  fun (e : Ending) (w' : World) ↦
  ∃ (i : Int),
  e = Ending.returned (Value.int IntKind.i64 i) ∧
  ∃ (i : Int),
  ∃ (a : Option Addr),
  ∃ (l : Nat),
  ∃ (c : Nat),
  ∃ (a_7 : Option Addr),
  ∃ (l_5 : Nat),
  ∃ (c_5 : Nat),
  ∃ (a_8 : Option Addr),
  ∃ (l_6 : Nat),
  ∃ (c_6 : Nat),
  ∃ (a_9 : Option Addr),
  ∃ (l_7 : Nat),
  ∃ (c_7 : Nat),
  ∃ (i_4 : Int),
  ∃ (i_5 : Int),
  ∃ (b_2 : Bool),
  Ld Go.Proofs.Try.prog (44 : Nat) w'
  (Addr.mk b_1 (0 : Nat) none)
  (Value.agg
  #[Value.int IntKind.i64 i,
  Value.slice a l c,
  Value.slice a_7 l_5 c_5,
  Value.slice a_8 l_6 c_6,
  Value.slice a_9 l_7 c_7,
  Value.int IntKind.i64 i_4,
  Value.int IntKind.i64 i_5,
  Value.bool b_2]) ∧
  ∃ (i_6 : Int),
  ∃ (i_7 : Int),
  ∃ (s_4 : ByteArray),
  ∃ (s_5 : ByteArray),
  ∃ (a_10 : Option Addr),
  ∃ (l_8 : Nat),
  ∃ (c_8 : Nat),
  ∃ (a_11 : Option Addr),
  ∃ (l_9 : Nat),
  ∃ (c_9 : Nat),
  Ld Go.Proofs.Try.prog
  (49 : Nat) w'
  (Addr.mk b (0 : Nat)
  none)
  (Value.agg
  #[Value.int
  IntKind.i64 i_6,
  Value.int
  IntKind.i64 i_7,
  Value.string s_4,
  Value.string s_5,
  Value.slice a_10
  l_8 c_8,
  Value.slice a_11
  l_9 c_9]) ∧
  CallV Go.Proofs.Try.prog
  (20 : Nat)
  [Value.agg
  #[Value.int
  IntKind.i64 i,
  Value.slice a l
  c,
  Value.slice a_7
  l_5 c_5,
  Value.slice a_8
  l_6 c_6,
  Value.slice a_9
  l_7 c_7,
  Value.int
  IntKind.i64
  i_4,
  Value.int
  IntKind.i64
  i_5,
  Value.bool b_2],
  Value.agg
  #[Value.int
  IntKind.i64
  i_6,
  Value.int
  IntKind.i64
  i_7,
  Value.string
  s_4,
  Value.string
  s_5,
  Value.slice a_10
  l_8 c_8,
  Value.slice a_11
  l_9 c_9]]
  w'
  fun (e : Ending)
  (w' : World) ↦
  ∃ (i : Int),
  ∃ (a : Option Addr),
  ∃ (l : Nat),
  ∃ (c : Nat),
  ∃ (a_12 :
  Option
  Addr),
  ∃ (l_10 :
  Nat),
  ∃ (c_10 :
  Nat),
  ∃ (a_13
  :
  Option
  Addr),
  ∃
  (l_11
  :
  Nat),
  ∃
  (c_11
  :
  Nat),
  ∃
  (a_14
  :
  Option
  Addr),
  ∃
  (l_12
  :
  Nat),
  ∃
  (c_12
  :
  Nat),
  ∃
  (i_8
  :
  Int),
  ∃
  (i_9
  :
  Int),
  ∃
  (b
  :
  Bool),
  ∃
  (s_6
  :
  ByteArray),
  ∃
  (i_10
  :
  Int),
  e =
  Ending.returned
  (Value.tuple
  #[Value.agg
  #[Value.int
  IntKind.i64
  i,
  Value.slice
  a
  l
  c,
  Value.slice
  a_12
  l_10
  c_10,
  Value.slice
  a_13
  l_11
  c_11,
  Value.slice
  a_14
  l_12
  c_12,
  Value.int
  IntKind.i64
  i_8,
  Value.int
  IntKind.i64
  i_9,
  Value.bool
  b],
  Value.agg
  #[Value.string
  s_6,
  Value.int
  IntKind.i64
  i_10]]) ∧
  ∃
  (w1
  :
  World),
  St
  Go.Proofs.Try.prog
  (44 :
  Nat)
  w'
  (Addr.mk
  b_1
  (0 :
  Nat)
  none)
  (Value.agg
  #[Value.int
  IntKind.i64
  i,
  Value.slice
  a
  l
  c,
  Value.slice
  a_12
  l_10
  c_10,
  Value.slice
  a_13
  l_11
  c_11,
  Value.slice
  a_14
  l_12
  c_12,
  Value.int
  IntKind.i64
  i_8,
  Value.int
  IntKind.i64
  i_9,
  Value.bool
  b])
  w1 ∧
  inR
  IntKind.i64
  (s +
  (1 :
  Int)) ∧
  next
  (s +
  (1 :
  Int))
  w1)
  (br (decide (i = (1 : Int)))
  (∃ (s_3 : ByteArray),
  Ld Go.Proofs.Try.prog (9 : Nat) w1 (Addr.mk b (2 : Nat) none) (Value.string s_3) ∧
  ∃ (i : Int),
  Ld Go.Proofs.Try.prog (3 : Nat) w1 (Addr.mk b (1 : Nat) none)
  (Value.int IntKind.i64 i) ∧
  ∃ (a : Option Addr),
  ∃ (l : Nat),
  ∃ (c : Nat),
  Ld Go.Proofs.Try.prog (46 : Nat) w1 (Addr.mk b (4 : Nat) none)
  (Value.slice a l c) ∧
  CallV Go.Proofs.Try.prog (19 : Nat)
  [Value.pointer p, Value.string s_3, Value.int IntKind.i64 i,
  Value.slice a l c]
  w1 fun (e : Ending) (w' : World) ↦
  ∃ (i : Int),
  e = Ending.returned (Value.int IntKind.i64 i) ∧
  ∃ (i : Int),
  ∃ (a : Option Addr),
  ∃ (l : Nat),
  ∃ (c : Nat),
  ∃ (a_7 : Option Addr),
  ∃ (l_5 : Nat),
  ∃ (c_5 : Nat),
  ∃ (a_8 : Option Addr),
  ∃ (l_6 : Nat),
  ∃ (c_6 : Nat),
  ∃ (a_9 : Option Addr),
  ∃ (l_7 : Nat),
  ∃ (c_7 : Nat),
  ∃ (i_4 : Int),
  ∃ (i_5 : Int),
  ∃ (b_2 : Bool),
  Ld Go.Proofs.Try.prog (44 : Nat) w'
  (Addr.mk b_1 (0 : Nat) none)
  (Value.agg
  #[Value.int IntKind.i64 i,
  Value.slice a l c,
  Value.slice a_7 l_5 c_5,
  Value.slice a_8 l_6 c_6,
  Value.slice a_9 l_7 c_7,
  Value.int IntKind.i64 i_4,
  Value.int IntKind.i64 i_5,
  Value.bool b_2]) ∧
  ∃ (i_6 : Int),
  ∃ (i_7 : Int),
  ∃ (s_4 : ByteArray),
  ∃ (s_5 : ByteArray),
  ∃ (a_10 : Option Addr),
  ∃ (l_8 : Nat),
  ∃ (c_8 : Nat),
  ∃ (a_11 :
  Option Addr),
  ∃ (l_9 : Nat),
  ∃ (c_9 : Nat),
  Ld
  Go.Proofs.Try.prog
  (49 :
  Nat)
  w'
  (Addr.mk
  b
  (0 :
  Nat)
  none)
  (Value.agg
  #[Value.int
  IntKind.i64
  i_6,
  Value.int
  IntKind.i64
  i_7,
  Value.string
  s_4,
  Value.string
  s_5,
  Value.slice
  a_10
  l_8
  c_8,
  Value.slice
  a_11
  l_9
  c_9]) ∧
  CallV
  Go.Proofs.Try.prog
  (20 :
  Nat)
  [Value.agg
  #[Value.int
  IntKind.i64
  i,
  Value.slice
  a
  l
  c,
  Value.slice
  a_7
  l_5
  c_5,
  Value.slice
  a_8
  l_6
  c_6,
  Value.slice
  a_9
  l_7
  c_7,
  Value.int
  IntKind.i64
  i_4,
  Value.int
  IntKind.i64
  i_5,
  Value.bool
  b_2],
  Value.agg
  #[Value.int
  IntKind.i64
  i_6,
  Value.int
  IntKind.i64
  i_7,
  Value.string
  s_4,
  Value.string
  s_5,
  Value.slice
  a_10
  l_8
  c_8,
  Value.slice
  a_11
  l_9
  c_9]]
  w'
  fun
  (e :
  Ending)
  (w' :
  World) ↦
  ∃ (i :
  Int),
  ∃ (a :
  Option
  Addr),
  ∃ (l
  :
  Nat),
  ∃
  (c
  :
  Nat),
  ∃
  (a_12
  :
  Option
  Addr),
  ∃
  (l_10
  :
  Nat),
  ∃
  (c_10
  :
  Nat),
  ∃
  (a_13
  :
  Option
  Addr),
  ∃
  (l_11
  :
  Nat),
  ∃
  (c_11
  :
  Nat),
  ∃
  (a_14
  :
  Option
  Addr),
  ∃
  (l_12
  :
  Nat),
  ∃
  (c_12
  :
  Nat),
  ∃
  (i_8
  :
  Int),
  ∃
  (i_9
  :
  Int),
  ∃
  (b
  :
  Bool),
  ∃
  (s_6
  :
  ByteArray),
  ∃
  (i_10
  :
  Int),
  e =
  Ending.returned
  (Value.tuple
  #[Value.agg
  #[Value.int
  IntKind.i64
  i,
  Value.slice
  a
  l
  c,
  Value.slice
  a_12
  l_10
  c_10,
  Value.slice
  a_13
  l_11
  c_11,
  Value.slice
  a_14
  l_12
  c_12,
  Value.int
  IntKind.i64
  i_8,
  Value.int
  IntKind.i64
  i_9,
  Value.bool
  b],
  Value.agg
  #[Value.string
  s_6,
  Value.int
  IntKind.i64
  i_10]]) ∧
  ∃
  (w1
  :
  World),
  St
  Go.Proofs.Try.prog
  (44 :
  Nat)
  w'
  (Addr.mk
  b_1
  (0 :
  Nat)
  none)
  (Value.agg
  #[Value.int
  IntKind.i64
  i,
  Value.slice
  a
  l
  c,
  Value.slice
  a_12
  l_10
  c_10,
  Value.slice
  a_13
  l_11
  c_11,
  Value.slice
  a_14
  l_12
  c_12,
  Value.int
  IntKind.i64
  i_8,
  Value.int
  IntKind.i64
  i_9,
  Value.bool
  b])
  w1 ∧
  inR
  IntKind.i64
  (s +
  (1 :
  Int)) ∧
  next
  (s +
  (1 :
  Int))
  w1)
  (inR IntKind.i64 (s + (1 : Int)) ∧ next (s + (1 : Int)) w1)))
  (CallV Go.Proofs.Try.prog (16 : Nat) [Value.pointer p, Value.string name] w' fun (e : Ending) (w' : World) ↦
  ∃ (s : ByteArray),
  ∃ (i : Int),
  e = Ending.returned (Value.tuple #[Value.string s, Value.int IntKind.i64 i]) ∧
  ∃ (i_3 : Int),
  ∃ (a : Option Addr),
  ∃ (l : Nat),
  ∃ (c : Nat),
  ∃ (a_5 : Option Addr),
  ∃ (l_4 : Nat),
  ∃ (c_4 : Nat),
  ∃ (a_6 : Option Addr),
  ∃ (l_5 : Nat),
  ∃ (c_5 : Nat),
  ∃ (a_7 : Option Addr),
  ∃ (l_6 : Nat),
  ∃ (c_6 : Nat),
  ∃ (i_4 : Int),
  ∃ (i_5 : Int),
  ∃ (b : Bool),
  Ld Go.Proofs.Try.prog (44 : Nat) w' (Addr.mk b_1 (0 : Nat) none)
  (Value.agg
  #[Value.int IntKind.i64 i_3, Value.slice a l c, Value.slice a_5 l_4 c_4,
  Value.slice a_6 l_5 c_5, Value.slice a_7 l_6 c_6, Value.int IntKind.i64 i_4,
  Value.int IntKind.i64 i_5, Value.bool b]) ∧
  CallV Go.Proofs.Try.prog (21 : Nat)
  [Value.agg
  #[Value.int IntKind.i64 i_3, Value.slice a l c, Value.slice a_5 l_4 c_4,
  Value.slice a_6 l_5 c_5, Value.slice a_7 l_6 c_6, Value.int IntKind.i64 i_4,
  Value.int IntKind.i64 i_5, Value.bool b],
  Value.string name]
  w' fun (e : Ending) (w' : World) ↦
  ∃ (s_1 : ByteArray),
  ∃ (i_6 : Int),
  e = Ending.returned (Value.tuple #[Value.string s_1, Value.int IntKind.i64 i_6]) ∧
  CallV Go.Proofs.Try.prog (22 : Nat) [Value.string name] w'
  fun (e : Ending) (w' : World) ↦
  ∃ (s_2 : ByteArray),
  ∃ (b : Bool),
  e = Ending.returned (Value.tuple #[Value.string s_2, Value.bool b]) ∧
  CallV Go.Proofs.Try.prog (10 : Nat) [] w' fun (e : Ending) (w' : World) ↦
  ∃ (b_2 : Bool),
  e = Ending.returned (Value.bool b_2) ∧
  br b_2
  (br (decide (s = s_1))
  (br (decide (i = i_6))
  (CallV Go.Proofs.Try.prog (11 : Nat) [Value.string name] w'
  fun (e : Ending) (w' : World) ↦
  ∃ (b_3 : Bool),
  e = Ending.returned (Value.bool b_3) ∧
  br (b == b_3)
  (br (!b) (R (Ending.returned (Value.bool true)) w')
  ((↑(ByteArray.size
  (ByteArray.mk
  #[(120 : UInt8), (45 : UInt8)]) +
  ByteArray.size name) :
  Int) ≤
  (9223372036854775807 : Int) ∧
  R
  (Ending.returned
  (Value.bool
  (decide
  (s_2 =
  ByteArray.mk
  #[(120 : UInt8), (45 : UInt8)] ++
  name))))
  w'))
  (R (Ending.returned (Value.bool false)) w'))
  (R (Ending.returned (Value.bool false)) w'))
  (R (Ending.returned (Value.bool false)) w'))
  (R (Ending.returned (Value.bool false)) w')))
  (0 : Int) w1_1))
theorem pressRaw.eq (name : ByteArray) (scripta : Option Addr) (scriptn : Nat) (scriptc : Nat) (w : World) (R : Ending → World → Prop) : bodyV Go.Proofs.Try.prog pressRaw.an Go.Proofs.Try.f4 [.string name, .slice scripta scriptn scriptc] w R = pressRaw.vc name scripta scriptn scriptc w R := by kernel_rfl
theorem pressRaw.ok (name : ByteArray) (scripta : Option Addr) (scriptn : Nat) (scriptc : Nat) (w : World) (R : Ending → World → Prop) (h : pressRaw.vc name scripta scriptn scriptc w R) : Calls Go.Proofs.Try.prog 4 #[.string name, .slice scripta scriptn scriptc] w R :=
  calls_of_bodyV noNum (an := pressRaw.an) (args := [.string name, .slice scripta scriptn scriptc]) Go.Proofs.Try.func4 (by kernel_rfl) ((pressRaw.eq name scripta scriptn scriptc w R).mpr h)

/-- incunable/incunablelaw20.PressLong -/
def pressLong.an : An := { wraps := [], loops := [], joins := [], ranges := [] }
def pressLong.vc (name : ByteArray) (more : Int) (w : World) (R : Ending → World → Prop) : Prop :=
  CallV Go.Proofs.Try.prog (8 : Nat) [Value.int IntKind.i64 (100 : Int)] w fun (e : Ending) (w' : World) ↦
  ∃ (p : Option Addr),
  e = Ending.returned (Value.pointer p) ∧
  ∃ (b : Bool),
  Eqv Go.Proofs.Try.prog BinOp.eql (23 : Nat) (Operand.tmp (8 : Nat)) (Operand.const (Value.pointer none)) w' (Value.pointer p) (Value.pointer none) b ∧
  br b
  (∃ (b : Bool),
  Eqv Go.Proofs.Try.prog BinOp.neq (23 : Nat) (Operand.tmp (23 : Nat)) (Operand.const (Value.pointer none)) w' (Value.pointer p) (Value.pointer none) b ∧
  br b (CallV Go.Proofs.Try.prog (10 : Nat) [] w' fun (e : Ending) (w' : World) ↦ ∃ (b : Bool), e = Ending.returned (Value.bool b) ∧ R (Ending.returned (Value.bool b)) w')
  (R (Ending.returned (Value.bool false)) w'))
  (br (decide (more < (1 : Int)))
  (∃ (b : Bool),
  Eqv Go.Proofs.Try.prog BinOp.neq (23 : Nat) (Operand.tmp (23 : Nat)) (Operand.const (Value.pointer none)) w' (Value.pointer p) (Value.pointer none) b ∧
  br b (CallV Go.Proofs.Try.prog (10 : Nat) [] w' fun (e : Ending) (w' : World) ↦ ∃ (b : Bool), e = Ending.returned (Value.bool b) ∧ R (Ending.returned (Value.bool b)) w')
  (R (Ending.returned (Value.bool false)) w'))
  (br (decide ((1000 : Int) < more))
  (∃ (b : Bool),
  Eqv Go.Proofs.Try.prog BinOp.neq (23 : Nat) (Operand.tmp (23 : Nat)) (Operand.const (Value.pointer none)) w' (Value.pointer p) (Value.pointer none) b ∧
  br b (CallV Go.Proofs.Try.prog (10 : Nat) [] w' fun (e : Ending) (w' : World) ↦ ∃ (b : Bool), e = Ending.returned (Value.bool b) ∧ R (Ending.returned (Value.bool b)) w')
  (R (Ending.returned (Value.bool false)) w'))
  (CallV Go.Proofs.Try.prog (11 : Nat) [Value.string name] w' fun (e : Ending) (w' : World) ↦
  ∃ (b : Bool),
  e = Ending.returned (Value.bool b) ∧
  br (!b)
  (∃ (b : Bool),
  Eqv Go.Proofs.Try.prog BinOp.neq (23 : Nat) (Operand.tmp (23 : Nat)) (Operand.const (Value.pointer none)) w' (Value.pointer p) (Value.pointer none) b ∧
  br b (CallV Go.Proofs.Try.prog (10 : Nat) [] w' fun (e : Ending) (w' : World) ↦ ∃ (b : Bool), e = Ending.returned (Value.bool b) ∧ R (Ending.returned (Value.bool b)) w')
  (R (Ending.returned (Value.bool false)) w'))
  (inR IntKind.i64 ((1048576 : Int) + more) ∧
  ∃ (a : Option Addr),
  ∃ (n : Nat),
  ∃ (m : Nat),
  ∃ (w1 : World),
  MkS Go.Proofs.Try.prog (46 : Nat) w' (Value.int IntKind.i64 ((1048576 : Int) + more)) (Value.int IntKind.i64 ((1048576 : Int) + more)) (Value.slice a n m) w1 ∧
  ∃ (s : ByteArray),
  B2S Go.Proofs.Try.prog (46 : Nat) (9 : Nat) w1 (Value.slice a n m) (Value.string s) ∧
  CallV Go.Proofs.Try.prog (13 : Nat) [Value.pointer p, Value.string name, Value.string s] w1 fun (e : Ending) (w' : World) ↦
  ∃ (i : Int),
  e = Ending.returned (Value.int IntKind.i64 i) ∧
  CallV Go.Proofs.Try.prog (10 : Nat) [] w' fun (e : Ending) (w' : World) ↦
  ∃ (b : Bool),
  e = Ending.returned (Value.bool b) ∧
  br b
  (br (decide (i = (91 : Int)))
  (CallV Go.Proofs.Try.prog (23 : Nat) [Value.pointer p] w' fun (e : Ending) (w' : World) ↦
  ∃ (a : Option Addr),
  ∃ (l : Nat), ∃ (c : Nat), e = Ending.returned (Value.slice a l c) ∧ R (Ending.returned (Value.bool (decide ((↑l : Int) = (0 : Int))))) w')
  (R (Ending.returned (Value.bool false)) w'))
  (R (Ending.returned (Value.bool false)) w')))))
theorem pressLong.eq (name : ByteArray) (more : Int) (w : World) (R : Ending → World → Prop) : bodyV Go.Proofs.Try.prog pressLong.an Go.Proofs.Try.f5 [.string name, .int .i64 more] w R = pressLong.vc name more w R := by kernel_rfl
theorem pressLong.ok (name : ByteArray) (more : Int) (w : World) (R : Ending → World → Prop) (h : pressLong.vc name more w R) : Calls Go.Proofs.Try.prog 5 #[.string name, .int .i64 more] w R :=
  calls_of_bodyV noNum (an := pressLong.an) (args := [.string name, .int .i64 more]) Go.Proofs.Try.func5 (by kernel_rfl) ((pressLong.eq name more w R).mpr h)

/-- incunable/incunablelaw20.PressApart -/
def pressApart.an : An := { wraps := [], loops := [(5, [(34, .inl .i64)])], joins := [(3, [(26, .inr 0)]), (19, [(109, .inr 0)]), (21, [(119, .inr 0)])], ranges := [] }
def pressApart.vc (scripta : Option Addr) (scriptn : Nat) (scriptc : Nat) (t_Name : ByteArray) (t_S : ByteArray) (w : World) (R : Ending → World → Prop) : Prop :=
  ∀ (b : Nat) (w1 : World),
  New w (Obj.cells #[Value.string t_Name, Value.string t_S] (28 : Nat)) b w1 →
  CallV Go.Proofs.Try.prog (8 : Nat) [Value.int IntKind.i64 (3000 : Int)] w1 fun (e : Ending) (w' : World) ↦
  ∃ (p : Option Addr),
  e = Ending.returned (Value.pointer p) ∧
  CallV Go.Proofs.Try.prog (17 : Nat) [Value.int IntKind.i64 (3000 : Int)] w' fun (e : Ending) (w' : World) ↦
  ∃ (i : Int),
  ∃ (a : Option Addr),
  ∃ (l : Nat),
  ∃ (c : Nat),
  ∃ (a_1 : Option Addr),
  ∃ (l_1 : Nat),
  ∃ (c_1 : Nat),
  ∃ (a_2 : Option Addr),
  ∃ (l_2 : Nat),
  ∃ (c_2 : Nat),
  ∃ (a_3 : Option Addr),
  ∃ (l_3 : Nat),
  ∃ (c_3 : Nat),
  ∃ (i_1 : Int),
  ∃ (i_2 : Int),
  ∃ (b_1 : Bool),
  e =
  Ending.returned
  (Value.agg
  #[Value.int IntKind.i64 i, Value.slice a l c, Value.slice a_1 l_1 c_1, Value.slice a_2 l_2 c_2, Value.slice a_3 l_3 c_3, Value.int IntKind.i64 i_1,
  Value.int IntKind.i64 i_2, Value.bool b_1]) ∧
  ∀ (b_2 : Nat) (w1 : World),
  New w'
  (Obj.cells
  #[Value.int IntKind.i64 (0 : Int), Value.slice none (0 : Nat) (0 : Nat), Value.slice none (0 : Nat) (0 : Nat),
  Value.slice none (0 : Nat) (0 : Nat), Value.slice none (0 : Nat) (0 : Nat), Value.int IntKind.i64 (0 : Int), Value.int IntKind.i64 (0 : Int),
  Value.bool false]
  (44 : Nat))
  b_2 w1 →
  ∃ (w1_1 : World),
  St Go.Proofs.Try.prog (44 : Nat) w1 (Addr.mk b_2 (0 : Nat) none)
  (Value.agg
  #[Value.int IntKind.i64 i, Value.slice a l c, Value.slice a_1 l_1 c_1, Value.slice a_2 l_2 c_2, Value.slice a_3 l_3 c_3,
  Value.int IntKind.i64 i_1, Value.int IntKind.i64 i_2, Value.bool b_1])
  w1_1 ∧
  JoinP
  (fun (s : Bool) (w' : World) ↦
  br s
  (∃ (b : Bool),
  Eqv Go.Proofs.Try.prog BinOp.neq (23 : Nat) (Operand.tmp (27 : Nat)) (Operand.const (Value.pointer none)) w' (Value.pointer p)
  (Value.pointer none) b ∧
  br b
  (CallV Go.Proofs.Try.prog (10 : Nat) [] w' fun (e : Ending) (w' : World) ↦
  ∃ (b : Bool), e = Ending.returned (Value.bool b) ∧ R (Ending.returned (Value.bool b)) w')
  (R (Ending.returned (Value.bool false)) w'))
  (LoopP
  (fun (s : Int) (w' : World) (next : Int → World → Prop) ↦
  br (decide (s < (↑scriptn : Int)))
  (onP scripta fun (a : Addr) ↦
  ((0 : Int) ≤ s ∧ s < (↑scriptn : Int)) ∧
  ∃ (i : Int),
  ∃ (i_3 : Int),
  ∃ (s_1 : ByteArray),
  ∃ (s_2 : ByteArray),
  ∃ (a_5 : Option Addr),
  ∃ (l : Nat),
  ∃ (c : Nat),
  ∃ (a_6 : Option Addr),
  ∃ (l_4 : Nat),
  ∃ (c_4 : Nat),
  Ld Go.Proofs.Try.prog (49 : Nat) w' (Addr.add a (Int.toNat s * (6 : Nat)))
  (Value.agg
  #[Value.int IntKind.i64 i, Value.int IntKind.i64 i_3, Value.string s_1, Value.string s_2,
  Value.slice a_5 l c, Value.slice a_6 l_4 c_4]) ∧
  ∀ (b_3 : Nat) (w1 : World),
  New w'
  (Obj.cells
  #[Value.int IntKind.i64 (0 : Int), Value.int IntKind.i64 (0 : Int), Value.string (ByteArray.mk #[]),
  Value.string (ByteArray.mk #[]), Value.slice none (0 : Nat) (0 : Nat),
  Value.slice none (0 : Nat) (0 : Nat)]
  (49 : Nat))
  b_3 w1 →
  ∃ (w1_2 : World),
  St Go.Proofs.Try.prog (49 : Nat) w1 (Addr.mk b_3 (0 : Nat) none)
  (Value.agg
  #[Value.int IntKind.i64 i, Value.int IntKind.i64 i_3, Value.string s_1, Value.string s_2,
  Value.slice a_5 l c, Value.slice a_6 l_4 c_4])
  w1_2 ∧
  ∃ (i : Int),
  Ld Go.Proofs.Try.prog (3 : Nat) w1_2 (Addr.mk b_3 (0 : Nat) none) (Value.int IntKind.i64 i) ∧
  br (!decide (i = (0 : Int)))
  (∃ (i : Int),
  Ld Go.Proofs.Try.prog (3 : Nat) w1_2 (Addr.mk b_3 (0 : Nat) none) (Value.int IntKind.i64 i) ∧
  br (!decide (i = (1 : Int))) (inR IntKind.i64 (s + (1 : Int)) ∧ next (s + (1 : Int)) w1_2)
  (∃ (s_3 : ByteArray),
  Ld Go.Proofs.Try.prog (9 : Nat) w1_2 (Addr.mk b_3 (2 : Nat) none) (Value.string s_3) ∧
  br
  (decide
  (s_3 =
  ByteArray.mk
  #[(120 : UInt8), (46 : UInt8), (112 : UInt8), (97 : UInt8), (114 : UInt8),
  (116 : UInt8)]))
  (inR IntKind.i64 (s + (1 : Int)) ∧ next (s + (1 : Int)) w1_2)
  (∃ (s_4 : ByteArray),
  Ld Go.Proofs.Try.prog (9 : Nat) w1_2 (Addr.mk b_3 (2 : Nat) none)
  (Value.string s_4) ∧
  ∃ (s_5 : ByteArray),
  Ld Go.Proofs.Try.prog (9 : Nat) w1_2 (Addr.mk b (0 : Nat) none)
  (Value.string s_5) ∧
  (↑(ByteArray.size (ByteArray.mk #[(120 : UInt8), (45 : UInt8)]) +
  ByteArray.size s_5) :
  Int) ≤
  (9223372036854775807 : Int) ∧
  br (decide (s_4 = ByteArray.mk #[(120 : UInt8), (45 : UInt8)] ++ s_5))
  (inR IntKind.i64 (s + (1 : Int)) ∧ next (s + (1 : Int)) w1_2)
  (∃ (i : Int),
  Ld Go.Proofs.Try.prog (3 : Nat) w1_2 (Addr.mk b_3 (0 : Nat) none)
  (Value.int IntKind.i64 i) ∧
  br (decide (i = (0 : Int)))
  (∃ (s_6 : ByteArray),
  Ld Go.Proofs.Try.prog (9 : Nat) w1_2 (Addr.mk b_3 (2 : Nat) none)
  (Value.string s_6) ∧
  CallV Go.Proofs.Try.prog (18 : Nat)
  [Value.pointer p, Value.string s_6] w1_2
  fun (e : Ending) (w' : World) ↦
  ∃ (i : Int),
  e = Ending.returned (Value.int IntKind.i64 i) ∧
  ∃ (i : Int),
  ∃ (a : Option Addr),
  ∃ (l : Nat),
  ∃ (c : Nat),
  ∃ (a_7 : Option Addr),
  ∃ (l_5 : Nat),
  ∃ (c_5 : Nat),
  ∃ (a_8 : Option Addr),
  ∃ (l_6 : Nat),
  ∃ (c_6 : Nat),
  ∃ (a_9 : Option Addr),
  ∃ (l_7 : Nat),
  ∃ (c_7 : Nat),
  ∃ (i_4 : Int),
  ∃ (i_5 : Int),
  ∃ (b : Bool),
  Ld Go.Proofs.Try.prog
  (44 : Nat) w'
  (Addr.mk b_2
  (0 : Nat) none)
  (Value.agg
  #[Value.int
  IntKind.i64
  i,
  Value.slice a
  l c,
  Value.slice
  a_7 l_5 c_5,
  Value.slice
  a_8 l_6 c_6,
  Value.slice
  a_9 l_7 c_7,
  Value.int
  IntKind.i64
  i_4,
  Value.int
  IntKind.i64
  i_5,
  Value.bool
  b]) ∧
  ∃ (i_6 : Int),
  ∃ (i_7 : Int),
  ∃ (s_7 :
  ByteArray),
  ∃ (s_8 :
  ByteArray),
  ∃ (a_10 :
  Option
  Addr),
  ∃ (l_8 :
  Nat),
  ∃ (c_8 :
  Nat),
  ∃
  (a_11
  :
  Option
  Addr),
  ∃
  (l_9
  :
  Nat),
  ∃
  (c_9
  :
  Nat),
  Ld
  Go.Proofs.Try.prog
  (49 :
  Nat)
  w'
  (Addr.mk
  b_3
  (0 :
  Nat)
  none)
  (Value.agg
  #[Value.int
  IntKind.i64
  i_6,
  Value.int
  IntKind.i64
  i_7,
  Value.string
  s_7,
  Value.string
  s_8,
  Value.slice
  a_10
  l_8
  c_8,
  Value.slice
  a_11
  l_9
  c_9]) ∧
  CallV
  Go.Proofs.Try.prog
  (20 :
  Nat)
  [Value.agg
  #[Value.int
  IntKind.i64
  i,
  Value.slice
  a
  l
  c,
  Value.slice
  a_7
  l_5
  c_5,
  Value.slice
  a_8
  l_6
  c_6,
  Value.slice
  a_9
  l_7
  c_7,
  Value.int
  IntKind.i64
  i_4,
  Value.int
  IntKind.i64
  i_5,
  Value.bool
  b],
  Value.agg
  #[Value.int
  IntKind.i64
  i_6,
  Value.int
  IntKind.i64
  i_7,
  Value.string
  s_7,
  Value.string
  s_8,
  Value.slice
  a_10
  l_8
  c_8,
  Value.slice
  a_11
  l_9
  c_9]]
  w'
  fun
  (e :
  Ending)
  (w' :
  World) ↦
  ∃
  (i
  :
  Int),
  ∃
  (a
  :
  Option
  Addr),
  ∃
  (l
  :
  Nat),
  ∃
  (c
  :
  Nat),
  ∃
  (a_12
  :
  Option
  Addr),
  ∃
  (l_10
  :
  Nat),
  ∃
  (c_10
  :
  Nat),
  ∃
  (a_13
  :
  Option
  Addr),
  ∃
  (l_11
  :
  Nat),
  ∃
  (c_11
  :
  Nat),
  ∃
  (a_14
  :
  Option
  Addr),
  ∃
  (l_12
  :
  Nat),
  ∃
  (c_12
  :
  Nat),
  ∃
  (i_8
  :
  Int),
  ∃
  (i_9
  :
  Int),
  ∃
  (b
  :
  Bool),
  ∃
  (s_9
  :
  ByteArray),
  ∃
  (i_10
  :
  Int),
  e =
  Ending.returned
  (Value.tuple
  #[Value.agg
  #[Value.int
  IntKind.i64
  i,
  Value.slice
  a
  l
  c,
  Value.slice
  a_12
  l_10
  c_10,
  Value.slice
  a_13
  l_11
  c_11,
  Value.slice
  a_14
  l_12
  c_12,
  Value.int
  IntKind.i64
  i_8,
  Value.int
  IntKind.i64
  i_9,
  Value.bool
  b],
  Value.agg
  #[Value.string
  s_9,
  Value.int
  IntKind.i64
  i_10]]) ∧
  ∃
  (w1
  :
  World),
  St
  Go.Proofs.Try.prog
  (44 :
  Nat)
  w'
  (Addr.mk
  b_2
  (0 :
  Nat)
  none)
  (Value.agg
  #[Value.int
  IntKind.i64
  i,
  Value.slice
  a
  l
  c,
  Value.slice
  a_12
  l_10
  c_10,
  Value.slice
  a_13
  l_11
  c_11,
  Value.slice
  a_14
  l_12
  c_12,
  Value.int
  IntKind.i64
  i_8,
  Value.int
  IntKind.i64
  i_9,
  Value.bool
  b])
  w1 ∧
  inR
  IntKind.i64
  (s +
  (1 :
  Int)) ∧
  next
  (s +
  (1 :
  Int))
  w1)
  (∃ (s_6 : ByteArray),
  Ld Go.Proofs.Try.prog (9 : Nat) w1_2 (Addr.mk b_3 (2 : Nat) none)
  (Value.string s_6) ∧
  ∃ (i : Int),
  Ld Go.Proofs.Try.prog (3 : Nat) w1_2
  (Addr.mk b_3 (1 : Nat) none)
  (Value.int IntKind.i64 i) ∧
  ∃ (a : Option Addr),
  ∃ (l : Nat),
  ∃ (c : Nat),
  Ld Go.Proofs.Try.prog (46 : Nat) w1_2
  (Addr.mk b_3 (4 : Nat) none)
  (Value.slice a l c) ∧
  CallV Go.Proofs.Try.prog (19 : Nat)
  [Value.pointer p, Value.string s_6,
  Value.int IntKind.i64 i, Value.slice a l c]
  w1_2 fun (e : Ending) (w' : World) ↦
  ∃ (i : Int),
  e =
  Ending.returned
  (Value.int IntKind.i64 i) ∧
  ∃ (i : Int),
  ∃ (a : Option Addr),
  ∃ (l : Nat),
  ∃ (c : Nat),
  ∃ (a_7 : Option Addr),
  ∃ (l_5 : Nat),
  ∃ (c_5 : Nat),
  ∃ (a_8 : Option Addr),
  ∃ (l_6 : Nat),
  ∃ (c_6 : Nat),
  ∃ (a_9 : Option Addr),
  ∃ (l_7 : Nat),
  ∃ (c_7 : Nat),
  ∃ (i_4 : Int),
  ∃ (i_5 : Int),
  ∃ (b :
  Bool),
  Ld
  Go.Proofs.Try.prog
  (44 :
  Nat)
  w'
  (Addr.mk
  b_2
  (0 :
  Nat)
  none)
  (Value.agg
  #[Value.int
  IntKind.i64
  i,
  Value.slice
  a
  l
  c,
  Value.slice
  a_7
  l_5
  c_5,
  Value.slice
  a_8
  l_6
  c_6,
  Value.slice
  a_9
  l_7
  c_7,
  Value.int
  IntKind.i64
  i_4,
  Value.int
  IntKind.i64
  i_5,
  Value.bool
  b]) ∧
  ∃ (i_6 :
  Int),
  ∃ (i_7
  :
  Int),
  ∃
  (s_7
  :
  ByteArray),
  ∃
  (s_8
  :
  ByteArray),
  ∃
  (a_10
  :
  Option
  Addr),
  ∃
  (l_8
  :
  Nat),
  ∃
  (c_8
  :
  Nat),
  ∃
  (a_11
  :
  Option
  Addr),
  ∃
  (l_9
  :
  Nat),
  ∃
  (c_9
  :
  Nat),
  Ld
  Go.Proofs.Try.prog
  (49 :
  Nat)
  w'
  (Addr.mk
  b_3
  (0 :
  Nat)
  none)
  (Value.agg
  #[Value.int
  IntKind.i64
  i_6,
  Value.int
  IntKind.i64
  i_7,
  Value.string
  s_7,
  Value.string
  s_8,
  Value.slice
  a_10
  l_8
  c_8,
  Value.slice
  a_11
  l_9
  c_9]) ∧
  CallV
  Go.Proofs.Try.prog
  (20 :
  Nat)
  [Value.agg
  #[Value.int
  IntKind.i64
  i,
  Value.slice
  a
  l
  c,
  Value.slice
  a_7
  l_5
  c_5,
  Value.slice
  a_8
  l_6
  c_6,
  Value.slice
  a_9
  l_7
  c_7,
  Value.int
  IntKind.i64
  i_4,
  Value.int
  IntKind.i64
  i_5,
  Value.bool
  b],
  Value.agg
  #[Value.int
  IntKind.i64
  i_6,
  Value.int
  IntKind.i64
  i_7,
  Value.string
  s_7,
  Value.string
  s_8,
  Value.slice
  a_10
  l_8
  c_8,
  Value.slice
  a_11
  l_9
  c_9]]
  w'
  fun
  (e :
  Ending)
  (w' :
  World) ↦
  ∃
  (i
  :
  Int),
  ∃
  (a
  :
  Option
  Addr),
  ∃
  (l
  :
  Nat),
  ∃
  (c
  :
  Nat),
  ∃
  (a_12
  :
  Option
  Addr),
  ∃
  (l_10
  :
  Nat),
  ∃
  (c_10
  :
  Nat),
  ∃
  (a_13
  :
  Option
  Addr),
  ∃
  (l_11
  :
  Nat),
  ∃
  (c_11
  :
  Nat),
  ∃
  (a_14
  :
  Option
  Addr),
  ∃
  (l_12
  :
  Nat),
  ∃
  (c_12
  :
  Nat),
  ∃
  (i_8
  :
  Int),
  ∃
  (i_9
  :
  Int),
  ∃
  (b
  :
  Bool),
  ∃
  (s_9
  :
  ByteArray),
  ∃
  (i_10
  :
  Int),
  e =
  Ending.returned
  (Value.tuple
  #[Value.agg
  #[Value.int
  IntKind.i64
  i,
  Value.slice
  a
  l
  c,
  Value.slice
  a_12
  l_10
  c_10,
  Value.slice
  a_13
  l_11
  c_11,
  Value.slice
  a_14
  l_12
  c_12,
  Value.int
  IntKind.i64
  i_8,
  Value.int
  IntKind.i64
  i_9,
  Value.bool
  b],
  Value.agg
  #[Value.string
  s_9,
  Value.int
  IntKind.i64
  i_10]]) ∧
  ∃
  (w1
  :
  World),
  St
  Go.Proofs.Try.prog
  (44 :
  Nat)
  w'
  (Addr.mk
  b_2
  (0 :
  Nat)
  none)
  (Value.agg
  #[Value.int
  IntKind.i64
  i,
  Value.slice
  a
  l
  c,
  Value.slice
  a_12
  l_10
  c_10,
  Value.slice
  a_13
  l_11
  c_11,
  Value.slice
  a_14
  l_12
  c_12,
  Value.int
  IntKind.i64
  i_8,
  Value.int
  IntKind.i64
  i_9,
  Value.bool
  b])
  w1 ∧
  inR
  IntKind.i64
  (s +
  (1 :
  Int)) ∧
  next
  (s +
  (1 :
  Int))
  w1)))))
  (∃ (s_3 : ByteArray),
  Ld Go.Proofs.Try.prog (9 : Nat) w1_2 (Addr.mk b_3 (2 : Nat) none) (Value.string s_3) ∧
  br
  (decide
  (s_3 =
  ByteArray.mk
  #[(120 : UInt8), (46 : UInt8), (112 : UInt8), (97 : UInt8), (114 : UInt8),
  (116 : UInt8)]))
  (inR IntKind.i64 (s + (1 : Int)) ∧ next (s + (1 : Int)) w1_2)
  (∃ (s_4 : ByteArray),
  Ld Go.Proofs.Try.prog (9 : Nat) w1_2 (Addr.mk b_3 (2 : Nat) none) (Value.string s_4) ∧
  ∃ (s_5 : ByteArray),
  Ld Go.Proofs.Try.prog (9 : Nat) w1_2 (Addr.mk b (0 : Nat) none) (Value.string s_5) ∧
  (↑(ByteArray.size (ByteArray.mk #[(120 : UInt8), (45 : UInt8)]) +
  ByteArray.size s_5) :
  Int) ≤
  (9223372036854775807 : Int) ∧
  br (decide (s_4 = ByteArray.mk #[(120 : UInt8), (45 : UInt8)] ++ s_5))
  (inR IntKind.i64 (s + (1 : Int)) ∧ next (s + (1 : Int)) w1_2)
  (∃ (i : Int),
  Ld Go.Proofs.Try.prog (3 : Nat) w1_2 (Addr.mk b_3 (0 : Nat) none)
  (Value.int IntKind.i64 i) ∧
  br (decide (i = (0 : Int)))
  (∃ (s_6 : ByteArray),
  Ld Go.Proofs.Try.prog (9 : Nat) w1_2 (Addr.mk b_3 (2 : Nat) none)
  (Value.string s_6) ∧
  CallV Go.Proofs.Try.prog (18 : Nat)
  [Value.pointer p, Value.string s_6] w1_2
  fun (e : Ending) (w' : World) ↦
  ∃ (i : Int),
  e = Ending.returned (Value.int IntKind.i64 i) ∧
  ∃ (i : Int),
  ∃ (a : Option Addr),
  ∃ (l : Nat),
  ∃ (c : Nat),
  ∃ (a_7 : Option Addr),
  ∃ (l_5 : Nat),
  ∃ (c_5 : Nat),
  ∃ (a_8 : Option Addr),
  ∃ (l_6 : Nat),
  ∃ (c_6 : Nat),
  ∃ (a_9 : Option Addr),
  ∃ (l_7 : Nat),
  ∃ (c_7 : Nat),
  ∃ (i_4 : Int),
  ∃ (i_5 : Int),
  ∃ (b : Bool),
  Ld Go.Proofs.Try.prog
  (44 : Nat) w'
  (Addr.mk b_2 (0 : Nat)
  none)
  (Value.agg
  #[Value.int
  IntKind.i64 i,
  Value.slice a l c,
  Value.slice a_7 l_5
  c_5,
  Value.slice a_8 l_6
  c_6,
  Value.slice a_9 l_7
  c_7,
  Value.int
  IntKind.i64 i_4,
  Value.int
  IntKind.i64 i_5,
  Value.bool b]) ∧
  ∃ (i_6 : Int),
  ∃ (i_7 : Int),
  ∃ (s_7 : ByteArray),
  ∃ (s_8 : ByteArray),
  ∃ (a_10 :
  Option Addr),
  ∃ (l_8 : Nat),
  ∃ (c_8 : Nat),
  ∃ (a_11 :
  Option
  Addr),
  ∃ (l_9 :
  Nat),
  ∃ (c_9 :
  Nat),
  Ld
  Go.Proofs.Try.prog
  (49 :
  Nat)
  w'
  (Addr.mk
  b_3
  (0 :
  Nat)
  none)
  (Value.agg
  #[Value.int
  IntKind.i64
  i_6,
  Value.int
  IntKind.i64
  i_7,
  Value.string
  s_7,
  Value.string
  s_8,
  Value.slice
  a_10
  l_8
  c_8,
  Value.slice
  a_11
  l_9
  c_9]) ∧
  CallV
  Go.Proofs.Try.prog
  (20 :
  Nat)
  [Value.agg
  #[Value.int
  IntKind.i64
  i,
  Value.slice
  a
  l
  c,
  Value.slice
  a_7
  l_5
  c_5,
  Value.slice
  a_8
  l_6
  c_6,
  Value.slice
  a_9
  l_7
  c_7,
  Value.int
  IntKind.i64
  i_4,
  Value.int
  IntKind.i64
  i_5,
  Value.bool
  b],
  Value.agg
  #[Value.int
  IntKind.i64
  i_6,
  Value.int
  IntKind.i64
  i_7,
  Value.string
  s_7,
  Value.string
  s_8,
  Value.slice
  a_10
  l_8
  c_8,
  Value.slice
  a_11
  l_9
  c_9]]
  w'
  fun
  (e :
  Ending)
  (w' :
  World) ↦
  ∃
  (i
  :
  Int),
  ∃
  (a
  :
  Option
  Addr),
  ∃
  (l
  :
  Nat),
  ∃
  (c
  :
  Nat),
  ∃
  (a_12
  :
  Option
  Addr),
  ∃
  (l_10
  :
  Nat),
  ∃
  (c_10
  :
  Nat),
  ∃
  (a_13
  :
  Option
  Addr),
  ∃
  (l_11
  :
  Nat),
  ∃
  (c_11
  :
  Nat),
  ∃
  (a_14
  :
  Option
  Addr),
  ∃
  (l_12
  :
  Nat),
  ∃
  (c_12
  :
  Nat),
  ∃
  (i_8
  :
  Int),
  ∃
  (i_9
  :
  Int),
  ∃
  (b
  :
  Bool),
  ∃
  (s_9
  :
  ByteArray),
  ∃
  (i_10
  :
  Int),
  e =
  Ending.returned
  (Value.tuple
  #[Value.agg
  #[Value.int
  IntKind.i64
  i,
  Value.slice
  a
  l
  c,
  Value.slice
  a_12
  l_10
  c_10,
  Value.slice
  a_13
  l_11
  c_11,
  Value.slice
  a_14
  l_12
  c_12,
  Value.int
  IntKind.i64
  i_8,
  Value.int
  IntKind.i64
  i_9,
  Value.bool
  b],
  Value.agg
  #[Value.string
  s_9,
  Value.int
  IntKind.i64
  i_10]]) ∧
  ∃
  (w1
  :
  World),
  St
  Go.Proofs.Try.prog
  (44 :
  Nat)
  w'
  (Addr.mk
  b_2
  (0 :
  Nat)
  none)
  (Value.agg
  #[Value.int
  IntKind.i64
  i,
  Value.slice
  a
  l
  c,
  Value.slice
  a_12
  l_10
  c_10,
  Value.slice
  a_13
  l_11
  c_11,
  Value.slice
  a_14
  l_12
  c_12,
  Value.int
  IntKind.i64
  i_8,
  Value.int
  IntKind.i64
  i_9,
  Value.bool
  b])
  w1 ∧
  inR
  IntKind.i64
  (s +
  (1 :
  Int)) ∧
  next
  (s +
  (1 :
  Int))
  w1)
  (∃ (s_6 : ByteArray),
  Ld Go.Proofs.Try.prog (9 : Nat) w1_2 (Addr.mk b_3 (2 : Nat) none)
  (Value.string s_6) ∧
  ∃ (i : Int),
  Ld Go.Proofs.Try.prog (3 : Nat) w1_2 (Addr.mk b_3 (1 : Nat) none)
  (Value.int IntKind.i64 i) ∧
  ∃ (a : Option Addr),
  ∃ (l : Nat),
  ∃ (c : Nat),
  Ld Go.Proofs.Try.prog (46 : Nat) w1_2
  (Addr.mk b_3 (4 : Nat) none) (Value.slice a l c) ∧
  CallV Go.Proofs.Try.prog (19 : Nat)
  [Value.pointer p, Value.string s_6,
  Value.int IntKind.i64 i, Value.slice a l c]
  w1_2 fun (e : Ending) (w' : World) ↦
  ∃ (i : Int),
  e = Ending.returned (Value.int IntKind.i64 i) ∧
  ∃ (i : Int),
  ∃ (a : Option Addr),
  ∃ (l : Nat),
  ∃ (c : Nat),
  ∃ (a_7 : Option Addr),
  ∃ (l_5 : Nat),
  ∃ (c_5 : Nat),
  ∃ (a_8 : Option Addr),
  ∃ (l_6 : Nat),
  ∃ (c_6 : Nat),
  ∃ (a_9 : Option Addr),
  ∃ (l_7 : Nat),
  ∃ (c_7 : Nat),
  ∃ (i_4 : Int),
  ∃ (i_5 : Int),
  ∃ (b : Bool),
  Ld
  Go.Proofs.Try.prog
  (44 : Nat)
  w'
  (Addr.mk b_2
  (0 : Nat)
  none)
  (Value.agg
  #[Value.int
  IntKind.i64
  i,
  Value.slice
  a l c,
  Value.slice
  a_7
  l_5
  c_5,
  Value.slice
  a_8
  l_6
  c_6,
  Value.slice
  a_9
  l_7
  c_7,
  Value.int
  IntKind.i64
  i_4,
  Value.int
  IntKind.i64
  i_5,
  Value.bool
  b]) ∧
  ∃ (i_6 : Int),
  ∃ (i_7 :
  Int),
  ∃ (s_7 :
  ByteArray),
  ∃ (s_8 :
  ByteArray),
  ∃
  (a_10
  :
  Option
  Addr),
  ∃
  (l_8
  :
  Nat),
  ∃
  (c_8
  :
  Nat),
  ∃
  (a_11
  :
  Option
  Addr),
  ∃
  (l_9
  :
  Nat),
  ∃
  (c_9
  :
  Nat),
  Ld
  Go.Proofs.Try.prog
  (49 :
  Nat)
  w'
  (Addr.mk
  b_3
  (0 :
  Nat)
  none)
  (Value.agg
  #[Value.int
  IntKind.i64
  i_6,
  Value.int
  IntKind.i64
  i_7,
  Value.string
  s_7,
  Value.string
  s_8,
  Value.slice
  a_10
  l_8
  c_8,
  Value.slice
  a_11
  l_9
  c_9]) ∧
  CallV
  Go.Proofs.Try.prog
  (20 :
  Nat)
  [Value.agg
  #[Value.int
  IntKind.i64
  i,
  Value.slice
  a
  l
  c,
  Value.slice
  a_7
  l_5
  c_5,
  Value.slice
  a_8
  l_6
  c_6,
  Value.slice
  a_9
  l_7
  c_7,
  Value.int
  IntKind.i64
  i_4,
  Value.int
  IntKind.i64
  i_5,
  Value.bool
  b],
  Value.agg
  #[Value.int
  IntKind.i64
  i_6,
  Value.int
  IntKind.i64
  i_7,
  Value.string
  s_7,
  Value.string
  s_8,
  Value.slice
  a_10
  l_8
  c_8,
  Value.slice
  a_11
  l_9
  c_9]]
  w'
  fun
  (e :
  Ending)
  (w' :
  World) ↦
  ∃
  (i
  :
  Int),
  ∃
  (a
  :
  Option
  Addr),
  ∃
  (l
  :
  Nat),
  ∃
  (c
  :
  Nat),
  ∃
  (a_12
  :
  Option
  Addr),
  ∃
  (l_10
  :
  Nat),
  ∃
  (c_10
  :
  Nat),
  ∃
  (a_13
  :
  Option
  Addr),
  ∃
  (l_11
  :
  Nat),
  ∃
  (c_11
  :
  Nat),
  ∃
  (a_14
  :
  Option
  Addr),
  ∃
  (l_12
  :
  Nat),
  ∃
  (c_12
  :
  Nat),
  ∃
  (i_8
  :
  Int),
  ∃
  (i_9
  :
  Int),
  ∃
  (b
  :
  Bool),
  ∃
  (s_9
  :
  ByteArray),
  ∃
  (i_10
  :
  Int),
  e =
  Ending.returned
  (Value.tuple
  #[Value.agg
  #[Value.int
  IntKind.i64
  i,
  Value.slice
  a
  l
  c,
  Value.slice
  a_12
  l_10
  c_10,
  Value.slice
  a_13
  l_11
  c_11,
  Value.slice
  a_14
  l_12
  c_12,
  Value.int
  IntKind.i64
  i_8,
  Value.int
  IntKind.i64
  i_9,
  Value.bool
  b],
  Value.agg
  #[Value.string
  s_9,
  Value.int
  IntKind.i64
  i_10]]) ∧
  ∃
  (w1
  :
  World),
  St
  Go.Proofs.Try.prog
  (44 :
  Nat)
  w'
  (Addr.mk
  b_2
  (0 :
  Nat)
  none)
  (Value.agg
  #[Value.int
  IntKind.i64
  i,
  Value.slice
  a
  l
  c,
  Value.slice
  a_12
  l_10
  c_10,
  Value.slice
  a_13
  l_11
  c_11,
  Value.slice
  a_14
  l_12
  c_12,
  Value.int
  IntKind.i64
  i_8,
  Value.int
  IntKind.i64
  i_9,
  Value.bool
  b])
  w1 ∧
  inR
  IntKind.i64
  (s +
  (1 :
  Int)) ∧
  next
  (s +
  (1 :
  Int))
  w1)))))
  (∃ (s : ByteArray),
  Ld Go.Proofs.Try.prog (9 : Nat) w' (Addr.mk b (0 : Nat) none) (Value.string s) ∧
  ∃ (s_1 : ByteArray),
  Ld Go.Proofs.Try.prog (9 : Nat) w' (Addr.mk b (1 : Nat) none) (Value.string s_1) ∧
  CallV Go.Proofs.Try.prog (13 : Nat) [Value.pointer p, Value.string s, Value.string s_1] w' fun (e : Ending) (w' : World) ↦
  ∃ (i : Int),
  e = Ending.returned (Value.int IntKind.i64 i) ∧
  ∃ (s : ByteArray),
  Ld Go.Proofs.Try.prog (9 : Nat) w' (Addr.mk b (0 : Nat) none) (Value.string s) ∧
  CallV Go.Proofs.Try.prog (11 : Nat) [Value.string s] w' fun (e : Ending) (w' : World) ↦
  ∃ (b_3 : Bool),
  e = Ending.returned (Value.bool b_3) ∧
  br (!decide (i = (0 : Int)) == b_3) (R (Ending.returned (Value.bool false)) w')
  (CallV Go.Proofs.Try.prog (24 : Nat) [Value.pointer p] w' fun (e : Ending) (w' : World) ↦
  ∃ (i_3 : Int),
  e = Ending.returned (Value.int IntKind.i64 i_3) ∧
  ∃ (s : ByteArray),
  Ld Go.Proofs.Try.prog (9 : Nat) w' (Addr.mk b (0 : Nat) none) (Value.string s) ∧
  ∃ (s_2 : ByteArray),
  Ld Go.Proofs.Try.prog (9 : Nat) w' (Addr.mk b (1 : Nat) none) (Value.string s_2) ∧
  CallV Go.Proofs.Try.prog (13 : Nat) [Value.pointer p, Value.string s, Value.string s_2] w'
  fun (e : Ending) (w' : World) ↦
  ∃ (i_4 : Int),
  e = Ending.returned (Value.int IntKind.i64 i_4) ∧
  JoinP
  (fun (s : Bool) (w' : World) ↦
  br s (R (Ending.returned (Value.bool false)) w')
  (JoinP
  (fun (s : Bool) (w' : World) ↦
  br s (R (Ending.returned (Value.bool false)) w')
  (CallV Go.Proofs.Try.prog (10 : Nat) [] w' fun (e : Ending) (w' : World) ↦
  ∃ (b : Bool),
  e = Ending.returned (Value.bool b) ∧
  br b
  (∃ (i : Int),
  ∃ (a : Option Addr),
  ∃ (l : Nat),
  ∃ (c : Nat),
  ∃ (a_5 : Option Addr),
  ∃ (l_4 : Nat),
  ∃ (c_4 : Nat),
  ∃ (a_6 : Option Addr),
  ∃ (l_5 : Nat),
  ∃ (c_5 : Nat),
  ∃ (a_7 : Option Addr),
  ∃ (l_6 : Nat),
  ∃ (c_6 : Nat),
  ∃ (i_5 : Int),
  ∃ (i_6 : Int),
  ∃ (b : Bool),
  Ld Go.Proofs.Try.prog (44 : Nat) w'
  (Addr.mk b_2 (0 : Nat) none)
  (Value.agg
  #[Value.int IntKind.i64 i,
  Value.slice a l c,
  Value.slice a_5 l_4 c_4,
  Value.slice a_6 l_5 c_5,
  Value.slice a_7 l_6 c_6,
  Value.int IntKind.i64 i_5,
  Value.int IntKind.i64 i_6,
  Value.bool b]) ∧
  CallV Go.Proofs.Try.prog (26 : Nat)
  [Value.pointer p,
  Value.agg
  #[Value.int IntKind.i64 i,
  Value.slice a l c,
  Value.slice a_5 l_4 c_4,
  Value.slice a_6 l_5 c_5,
  Value.slice a_7 l_6 c_6,
  Value.int IntKind.i64 i_5,
  Value.int IntKind.i64 i_6,
  Value.bool b]]
  w'
  fun (e : Ending) (w' : World) ↦
  ∃ (b : Bool),
  e =
  Ending.returned
  (Value.bool b) ∧
  R
  (Ending.returned
  (Value.bool b))
  w')
  (R (Ending.returned (Value.bool false)) w')))
  fun (J : Bool → World → Prop) ↦
  br (decide (i = (0 : Int)))
  (∃ (s : ByteArray),
  Ld Go.Proofs.Try.prog (9 : Nat) w' (Addr.mk b (0 : Nat) none)
  (Value.string s) ∧
  (↑(ByteArray.size (ByteArray.mk #[(120 : UInt8), (45 : UInt8)]) +
  ByteArray.size s) :
  Int) ≤
  (9223372036854775807 : Int) ∧
  CallV Go.Proofs.Try.prog (25 : Nat)
  [Value.pointer p,
  Value.string (ByteArray.mk #[(120 : UInt8), (45 : UInt8)] ++ s)]
  w' fun (e : Ending) (w' : World) ↦
  ∃ (i : Int),
  e = Ending.returned (Value.int IntKind.i64 i) ∧
  J (!decide (i = (0 : Int))) w')
  (J false w')))
  fun (J : Bool → World → Prop) ↦
  br (!decide (i_4 = i)) (J true w')
  (CallV Go.Proofs.Try.prog (24 : Nat) [Value.pointer p] w'
  fun (e : Ending) (w' : World) ↦
  ∃ (i : Int),
  e = Ending.returned (Value.int IntKind.i64 i) ∧ J (!decide (i = i_3)) w'))))
  (0 : Int) w'))
  fun (J : Bool → World → Prop) ↦
  ∃ (b_3 : Bool),
  Eqv Go.Proofs.Try.prog BinOp.eql (23 : Nat) (Operand.tmp (14 : Nat)) (Operand.const (Value.pointer none)) w1_1 (Value.pointer p)
  (Value.pointer none) b_3 ∧
  br b_3 (J true w1_1)
  (br (decide ((100 : Int) < (↑scriptn : Int))) (J true w1_1)
  (∃ (s : ByteArray),
  Ld Go.Proofs.Try.prog (9 : Nat) w1_1 (Addr.mk b (1 : Nat) none) (Value.string s) ∧
  J (decide ((20000 : Int) < (↑(ByteArray.size s) : Int))) w1_1))
theorem pressApart.eq (scripta : Option Addr) (scriptn : Nat) (scriptc : Nat) (t_Name : ByteArray) (t_S : ByteArray) (w : World) (R : Ending → World → Prop) : bodyV Go.Proofs.Try.prog pressApart.an Go.Proofs.Try.f6 [.slice scripta scriptn scriptc, .agg #[.string t_Name, .string t_S]] w R = pressApart.vc scripta scriptn scriptc t_Name t_S w R := by kernel_rfl
theorem pressApart.ok (scripta : Option Addr) (scriptn : Nat) (scriptc : Nat) (t_Name : ByteArray) (t_S : ByteArray) (w : World) (R : Ending → World → Prop) (h : pressApart.vc scripta scriptn scriptc t_Name t_S w R) : Calls Go.Proofs.Try.prog 6 #[.slice scripta scriptn scriptc, .agg #[.string t_Name, .string t_S]] w R :=
  calls_of_bodyV noNum (an := pressApart.an) (args := [.slice scripta scriptn scriptc, .agg #[.string t_Name, .string t_S]]) Go.Proofs.Try.func6 (by kernel_rfl) ((pressApart.eq scripta scriptn scriptc t_Name t_S w R).mpr h)

/-- incunable/incunablelaw20.PressCrash -/
def pressCrash.an : An := { wraps := [], loops := [(6, [(5, .inr 2), (6, .inr 3), (34, .inl .i64)])], joins := [(3, [(26, .inr 0)])], ranges := [] }
def pressCrash.vc (la : Option Addr) (ln : Nat) (lc : Nat) (troublesa : Option Addr) (troublesn : Nat) (troublesc : Nat) (w : World) (R : Ending → World → Prop) : Prop :=
  CallV Go.Proofs.Try.prog (8 : Nat) [Value.int IntKind.i64 (2000 : Int)] w fun (e : Ending) (w' : World) ↦
  ∃ (p : Option Addr),
  e = Ending.returned (Value.pointer p) ∧
  JoinP
  (fun (s : Bool) (w' : World) ↦
  br s
  (∃ (b : Bool),
  Eqv Go.Proofs.Try.prog BinOp.neq (23 : Nat) (Operand.tmp (27 : Nat)) (Operand.const (Value.pointer none)) w' (Value.pointer p) (Value.pointer none) b ∧
  br b (CallV Go.Proofs.Try.prog (10 : Nat) [] w' fun (e : Ending) (w' : World) ↦ ∃ (b : Bool), e = Ending.returned (Value.bool b) ∧ R (Ending.returned (Value.bool b)) w')
  (R (Ending.returned (Value.bool false)) w'))
  (LoopP
  (fun (s : Option Addr × (Option Addr × Nat × Nat) × Int) (w' : World) (next : Option Addr × (Option Addr × Nat × Nat) × Int → World → Prop) ↦
  br (decide (Prod.snd (Prod.snd s) < (↑ln : Int)))
  (onP la fun (a : Addr) ↦
  ((0 : Int) ≤ Prod.snd (Prod.snd s) ∧ Prod.snd (Prod.snd s) < (↑ln : Int)) ∧
  ∃ (s_1 : ByteArray),
  ∃ (s_2 : ByteArray),
  Ld Go.Proofs.Try.prog (28 : Nat) w' (Addr.add a (Int.toNat (Prod.snd (Prod.snd s)) * (2 : Nat))) (Value.agg #[Value.string s_1, Value.string s_2]) ∧
  ∀ (b : Nat) (w1 : World),
  New w' (Obj.cells #[Value.string (ByteArray.mk #[]), Value.string (ByteArray.mk #[])] (28 : Nat)) b w1 →
  ∃ (w1_1 : World),
  St Go.Proofs.Try.prog (28 : Nat) w1 (Addr.mk b (0 : Nat) none) (Value.agg #[Value.string s_1, Value.string s_2]) w1_1 ∧
  ∀ (b_1 : Nat) (w1 : World),
  New w1_1
  (Obj.cells #[Value.int IntKind.i64 (0 : Int), Value.int IntKind.i64 (0 : Int), Value.int IntKind.i64 (0 : Int), Value.slice none (0 : Nat) (0 : Nat)]
  (66 : Nat))
  b_1 w1 →
  ∃ (w1_2 : World),
  St Go.Proofs.Try.prog (66 : Nat) w1 (Addr.mk b_1 (0 : Nat) none)
  (Value.agg #[Value.int IntKind.i64 (0 : Int), Value.int IntKind.i64 (0 : Int), Value.int IntKind.i64 (0 : Int), Value.slice none (0 : Nat) (0 : Nat)])
  w1_2 ∧
  br (decide (Prod.snd (Prod.snd s) < (↑troublesn : Int)))
  (onP troublesa fun (a : Addr) ↦
  ((0 : Int) ≤ Prod.snd (Prod.snd s) ∧ Prod.snd (Prod.snd s) < (↑troublesn : Int)) ∧
  ∃ (i : Int),
  ∃ (i_1 : Int),
  ∃ (i_2 : Int),
  ∃ (a_1 : Option Addr),
  ∃ (l : Nat),
  ∃ (c : Nat),
  Ld Go.Proofs.Try.prog (66 : Nat) w1_2 (Addr.add a (Int.toNat (Prod.snd (Prod.snd s)) * (4 : Nat)))
  (Value.agg #[Value.int IntKind.i64 i, Value.int IntKind.i64 i_1, Value.int IntKind.i64 i_2, Value.slice a_1 l c]) ∧
  ∃ (w1 : World),
  St Go.Proofs.Try.prog (66 : Nat) w1_2 (Addr.mk b_1 (0 : Nat) none)
  (Value.agg #[Value.int IntKind.i64 i, Value.int IntKind.i64 i_1, Value.int IntKind.i64 i_2, Value.slice a_1 l c]) w1 ∧
  ∃ (i : Int),
  Ld Go.Proofs.Try.prog (3 : Nat) w1 (Addr.mk b_1 (0 : Nat) none) (Value.int IntKind.i64 i) ∧
  CallV Go.Proofs.Try.prog (27 : Nat) [Value.pointer (Prod.fst s), Value.int IntKind.i64 i] w1 fun (e : Ending) (w' : World) ↦
  e = Ending.returned (Value.tuple #[]) ∧
  ∃ (i : Int),
  Ld Go.Proofs.Try.prog (3 : Nat) w' (Addr.mk b_1 (1 : Nat) none) (Value.int IntKind.i64 i) ∧
  CallV Go.Proofs.Try.prog (28 : Nat) [Value.pointer (Prod.fst s), Value.int IntKind.i64 i] w'
  fun (e : Ending) (w' : World) ↦
  e = Ending.returned (Value.tuple #[]) ∧
  ∃ (s_3 : ByteArray),
  Ld Go.Proofs.Try.prog (9 : Nat) w' (Addr.mk b (0 : Nat) none) (Value.string s_3) ∧
  ∃ (s_4 : ByteArray),
  Ld Go.Proofs.Try.prog (9 : Nat) w' (Addr.mk b (1 : Nat) none) (Value.string s_4) ∧
  CallV Go.Proofs.Try.prog (13 : Nat) [Value.pointer (Prod.fst s), Value.string s_3, Value.string s_4] w'
  fun (e : Ending) (w' : World) ↦
  ∃ (i : Int),
  e = Ending.returned (Value.int IntKind.i64 i) ∧
  CallV Go.Proofs.Try.prog (27 : Nat) [Value.pointer (Prod.fst s), Value.int IntKind.i64 (0 : Int)] w'
  fun (e : Ending) (w' : World) ↦
  e = Ending.returned (Value.tuple #[]) ∧
  CallV Go.Proofs.Try.prog (28 : Nat) [Value.pointer (Prod.fst s), Value.int IntKind.i64 (0 : Int)] w'
  fun (e : Ending) (w' : World) ↦
  e = Ending.returned (Value.tuple #[]) ∧
  br (decide (i = (0 : Int)))
  (∃ (s_5 : ByteArray),
  ∃ (s_6 : ByteArray),
  Ld Go.Proofs.Try.prog (28 : Nat) w' (Addr.mk b (0 : Nat) none)
  (Value.agg #[Value.string s_5, Value.string s_6]) ∧
  CallV Go.Proofs.Try.prog (12 : Nat)
  [Value.slice (Prod.fst (Prod.fst (Prod.snd s)))
  (Prod.fst (Prod.snd (Prod.fst (Prod.snd s))))
  (Prod.snd (Prod.snd (Prod.fst (Prod.snd s)))),
  Value.agg #[Value.string s_5, Value.string s_6]]
  w' fun (e : Ending) (w' : World) ↦
  ∃ (a : Option Addr),
  ∃ (l : Nat),
  ∃ (c : Nat),
  e = Ending.returned (Value.slice a l c) ∧
  ∃ (i_3 : Int),
  Ld Go.Proofs.Try.prog (3 : Nat) w' (Addr.mk b_1 (2 : Nat) none)
  (Value.int IntKind.i64 i_3) ∧
  ∃ (a_2 : Option Addr),
  ∃ (l_1 : Nat),
  ∃ (c_1 : Nat),
  Ld Go.Proofs.Try.prog (47 : Nat) w' (Addr.mk b_1 (3 : Nat) none)
  (Value.slice a_2 l_1 c_1) ∧
  CallV Go.Proofs.Try.prog (29 : Nat)
  [Value.pointer (Prod.fst s), Value.int IntKind.i64 i_3,
  Value.slice a_2 l_1 c_1]
  w' fun (e : Ending) (w' : World) ↦
  ∃ (p : Option Addr),
  e = Ending.returned (Value.pointer p) ∧
  ∃ (b_2 : Bool),
  Eqv Go.Proofs.Try.prog BinOp.eql (23 : Nat)
  (Operand.tmp (77 : Nat))
  (Operand.const (Value.pointer none)) w'
  (Value.pointer p) (Value.pointer none) b_2 ∧
  br b_2 (R (Ending.returned (Value.bool false)) w')
  (∃ (s_7 : ByteArray),
  ∃ (s_8 : ByteArray),
  Ld Go.Proofs.Try.prog (28 : Nat) w'
  (Addr.mk b (0 : Nat) none)
  (Value.agg
  #[Value.string s_7, Value.string s_8]) ∧
  CallV Go.Proofs.Try.prog (30 : Nat)
  [Value.pointer p, Value.slice a l c,
  Value.agg
  #[Value.string s_7, Value.string s_8],
  Value.int IntKind.i64 i]
  w' fun (e : Ending) (w' : World) ↦
  ∃ (b_3 : Bool),
  e = Ending.returned (Value.bool b_3) ∧
  br (!b_3)
  (R
  (Ending.returned (Value.bool false))
  w')
  (br (decide (i = (93 : Int)))
  (∃ (s_9 : ByteArray),
  Ld Go.Proofs.Try.prog (9 : Nat) w'
  (Addr.mk b (0 : Nat) none)
  (Value.string s_9) ∧
  CallV Go.Proofs.Try.prog (16 : Nat)
  [Value.pointer p,
  Value.string s_9]
  w'
  fun (e : Ending)
  (w' : World) ↦
  ∃ (s_10 : ByteArray),
  ∃ (i : Int),
  e =
  Ending.returned
  (Value.tuple
  #[Value.string
  s_10,
  Value.int
  IntKind.i64
  i]) ∧
  br
  (decide
  (i = (0 : Int)))
  (∃ (s_11 : ByteArray),
  Ld Go.Proofs.Try.prog
  (9 : Nat) w'
  (Addr.mk b
  (0 : Nat)
  none)
  (Value.string
  s_11) ∧
  CallV
  Go.Proofs.Try.prog
  (12 : Nat)
  [Value.slice a l
  c,
  Value.agg
  #[Value.string
  s_11,
  Value.string
  s_10]]
  w'
  fun (e : Ending)
  (w' : World) ↦
  ∃ (a :
  Option Addr),
  ∃ (l : Nat),
  ∃ (c : Nat),
  e =
  Ending.returned
  (Value.slice
  a
  l
  c) ∧
  inR
  IntKind.i64
  (Prod.snd
  (Prod.snd
  s) +
  (1 :
  Int)) ∧
  next
  (p,
  (a,
  l,
  c),
  Prod.snd
  (Prod.snd
  s) +
  (1 :
  Int))
  w')
  (inR IntKind.i64
  (Prod.snd
  (Prod.snd s) +
  (1 : Int)) ∧
  next
  (p, (a, l, c),
  Prod.snd
  (Prod.snd
  s) +
  (1 : Int))
  w'))
  (br (decide (i = (95 : Int)))
  (∃ (s_9 : ByteArray),
  Ld Go.Proofs.Try.prog (9 : Nat) w'
  (Addr.mk b (0 : Nat) none)
  (Value.string s_9) ∧
  CallV Go.Proofs.Try.prog
  (16 : Nat)
  [Value.pointer p,
  Value.string s_9]
  w'
  fun (e : Ending)
  (w' : World) ↦
  ∃ (s_10 : ByteArray),
  ∃ (i : Int),
  e =
  Ending.returned
  (Value.tuple
  #[Value.string
  s_10,
  Value.int
  IntKind.i64
  i]) ∧
  br
  (decide
  (i = (0 : Int)))
  (∃ (s_11 :
  ByteArray),
  Ld Go.Proofs.Try.prog
  (9 : Nat) w'
  (Addr.mk b
  (0 : Nat)
  none)
  (Value.string
  s_11) ∧
  CallV
  Go.Proofs.Try.prog
  (12 : Nat)
  [Value.slice a
  l c,
  Value.agg
  #[Value.string
  s_11,
  Value.string
  s_10]]
  w'
  fun
  (e : Ending)
  (w' :
  World) ↦
  ∃ (a :
  Option
  Addr),
  ∃ (l : Nat),
  ∃ (c :
  Nat),
  e =
  Ending.returned
  (Value.slice
  a
  l
  c) ∧
  inR
  IntKind.i64
  (Prod.snd
  (Prod.snd
  s) +
  (1 :
  Int)) ∧
  next
  (p,
  (a,
  l,
  c),
  Prod.snd
  (Prod.snd
  s) +
  (1 :
  Int))
  w')
  (inR IntKind.i64
  (Prod.snd
  (Prod.snd
  s) +
  (1 : Int)) ∧
  next
  (p, (a, l, c),
  Prod.snd
  (Prod.snd
  s) +
  (1 : Int))
  w'))
  (inR IntKind.i64
  (Prod.snd (Prod.snd s) +
  (1 : Int)) ∧
  next
  (Prod.fst s, (a, l, c),
  Prod.snd (Prod.snd s) +
  (1 : Int))
  w')))))
  (∃ (i_3 : Int),
  Ld Go.Proofs.Try.prog (3 : Nat) w' (Addr.mk b_1 (2 : Nat) none) (Value.int IntKind.i64 i_3) ∧
  ∃ (a : Option Addr),
  ∃ (l : Nat),
  ∃ (c : Nat),
  Ld Go.Proofs.Try.prog (47 : Nat) w' (Addr.mk b_1 (3 : Nat) none)
  (Value.slice a l c) ∧
  CallV Go.Proofs.Try.prog (29 : Nat)
  [Value.pointer (Prod.fst s), Value.int IntKind.i64 i_3, Value.slice a l c] w'
  fun (e : Ending) (w' : World) ↦
  ∃ (p : Option Addr),
  e = Ending.returned (Value.pointer p) ∧
  ∃ (b_2 : Bool),
  Eqv Go.Proofs.Try.prog BinOp.eql (23 : Nat) (Operand.tmp (77 : Nat))
  (Operand.const (Value.pointer none)) w' (Value.pointer p)
  (Value.pointer none) b_2 ∧
  br b_2 (R (Ending.returned (Value.bool false)) w')
  (∃ (s_5 : ByteArray),
  ∃ (s_6 : ByteArray),
  Ld Go.Proofs.Try.prog (28 : Nat) w' (Addr.mk b (0 : Nat) none)
  (Value.agg #[Value.string s_5, Value.string s_6]) ∧
  CallV Go.Proofs.Try.prog (30 : Nat)
  [Value.pointer p,
  Value.slice (Prod.fst (Prod.fst (Prod.snd s)))
  (Prod.fst (Prod.snd (Prod.fst (Prod.snd s))))
  (Prod.snd (Prod.snd (Prod.fst (Prod.snd s)))),
  Value.agg #[Value.string s_5, Value.string s_6],
  Value.int IntKind.i64 i]
  w' fun (e : Ending) (w' : World) ↦
  ∃ (b_3 : Bool),
  e = Ending.returned (Value.bool b_3) ∧
  br (!b_3) (R (Ending.returned (Value.bool false)) w')
  (br (decide (i = (93 : Int)))
  (∃ (s_7 : ByteArray),
  Ld Go.Proofs.Try.prog (9 : Nat) w'
  (Addr.mk b (0 : Nat) none)
  (Value.string s_7) ∧
  CallV Go.Proofs.Try.prog (16 : Nat)
  [Value.pointer p, Value.string s_7] w'
  fun (e : Ending) (w' : World) ↦
  ∃ (s_8 : ByteArray),
  ∃ (i : Int),
  e =
  Ending.returned
  (Value.tuple
  #[Value.string s_8,
  Value.int IntKind.i64 i]) ∧
  br (decide (i = (0 : Int)))
  (∃ (s_9 : ByteArray),
  Ld Go.Proofs.Try.prog (9 : Nat) w'
  (Addr.mk b (0 : Nat) none)
  (Value.string s_9) ∧
  CallV Go.Proofs.Try.prog (12 : Nat)
  [Value.slice
  (Prod.fst
  (Prod.fst (Prod.snd s)))
  (Prod.fst
  (Prod.snd
  (Prod.fst
  (Prod.snd s))))
  (Prod.snd
  (Prod.snd
  (Prod.fst
  (Prod.snd s)))),
  Value.agg
  #[Value.string s_9,
  Value.string s_8]]
  w'
  fun (e : Ending) (w' : World) ↦
  ∃ (a : Option Addr),
  ∃ (l : Nat),
  ∃ (c : Nat),
  e =
  Ending.returned
  (Value.slice a l
  c) ∧
  inR IntKind.i64
  (Prod.snd
  (Prod.snd s) +
  (1 : Int)) ∧
  next
  (p, (a, l, c),
  Prod.snd
  (Prod.snd s) +
  (1 : Int))
  w')
  (inR IntKind.i64
  (Prod.snd (Prod.snd s) +
  (1 : Int)) ∧
  next
  (p,
  (Prod.fst
  (Prod.fst (Prod.snd s)),
  Prod.fst
  (Prod.snd
  (Prod.fst (Prod.snd s))),
  Prod.snd
  (Prod.snd
  (Prod.fst (Prod.snd s)))),
  Prod.snd (Prod.snd s) +
  (1 : Int))
  w'))
  (br (decide (i = (95 : Int)))
  (∃ (s_7 : ByteArray),
  Ld Go.Proofs.Try.prog (9 : Nat) w'
  (Addr.mk b (0 : Nat) none)
  (Value.string s_7) ∧
  CallV Go.Proofs.Try.prog (16 : Nat)
  [Value.pointer p, Value.string s_7] w'
  fun (e : Ending) (w' : World) ↦
  ∃ (s_8 : ByteArray),
  ∃ (i : Int),
  e =
  Ending.returned
  (Value.tuple
  #[Value.string s_8,
  Value.int IntKind.i64 i]) ∧
  br (decide (i = (0 : Int)))
  (∃ (s_9 : ByteArray),
  Ld Go.Proofs.Try.prog (9 : Nat) w'
  (Addr.mk b (0 : Nat) none)
  (Value.string s_9) ∧
  CallV Go.Proofs.Try.prog (12 : Nat)
  [Value.slice
  (Prod.fst
  (Prod.fst (Prod.snd s)))
  (Prod.fst
  (Prod.snd
  (Prod.fst
  (Prod.snd s))))
  (Prod.snd
  (Prod.snd
  (Prod.fst
  (Prod.snd s)))),
  Value.agg
  #[Value.string s_9,
  Value.string s_8]]
  w'
  fun (e : Ending)
  (w' : World) ↦
  ∃ (a : Option Addr),
  ∃ (l : Nat),
  ∃ (c : Nat),
  e =
  Ending.returned
  (Value.slice a l
  c) ∧
  inR IntKind.i64
  (Prod.snd
  (Prod.snd s) +
  (1 : Int)) ∧
  next
  (p, (a, l, c),
  Prod.snd
  (Prod.snd
  s) +
  (1 : Int))
  w')
  (inR IntKind.i64
  (Prod.snd (Prod.snd s) +
  (1 : Int)) ∧
  next
  (p,
  (Prod.fst
  (Prod.fst (Prod.snd s)),
  Prod.fst
  (Prod.snd
  (Prod.fst
  (Prod.snd s))),
  Prod.snd
  (Prod.snd
  (Prod.fst
  (Prod.snd s)))),
  Prod.snd (Prod.snd s) +
  (1 : Int))
  w'))
  (inR IntKind.i64
  (Prod.snd (Prod.snd s) + (1 : Int)) ∧
  next
  (Prod.fst s,
  (Prod.fst (Prod.fst (Prod.snd s)),
  Prod.fst
  (Prod.snd (Prod.fst (Prod.snd s))),
  Prod.snd
  (Prod.snd (Prod.fst (Prod.snd s)))),
  Prod.snd (Prod.snd s) + (1 : Int))
  w'))))))
  (∃ (i : Int),
  Ld Go.Proofs.Try.prog (3 : Nat) w1_2 (Addr.mk b_1 (0 : Nat) none) (Value.int IntKind.i64 i) ∧
  CallV Go.Proofs.Try.prog (27 : Nat) [Value.pointer (Prod.fst s), Value.int IntKind.i64 i] w1_2 fun (e : Ending) (w' : World) ↦
  e = Ending.returned (Value.tuple #[]) ∧
  ∃ (i : Int),
  Ld Go.Proofs.Try.prog (3 : Nat) w' (Addr.mk b_1 (1 : Nat) none) (Value.int IntKind.i64 i) ∧
  CallV Go.Proofs.Try.prog (28 : Nat) [Value.pointer (Prod.fst s), Value.int IntKind.i64 i] w' fun (e : Ending) (w' : World) ↦
  e = Ending.returned (Value.tuple #[]) ∧
  ∃ (s_3 : ByteArray),
  Ld Go.Proofs.Try.prog (9 : Nat) w' (Addr.mk b (0 : Nat) none) (Value.string s_3) ∧
  ∃ (s_4 : ByteArray),
  Ld Go.Proofs.Try.prog (9 : Nat) w' (Addr.mk b (1 : Nat) none) (Value.string s_4) ∧
  CallV Go.Proofs.Try.prog (13 : Nat) [Value.pointer (Prod.fst s), Value.string s_3, Value.string s_4] w'
  fun (e : Ending) (w' : World) ↦
  ∃ (i : Int),
  e = Ending.returned (Value.int IntKind.i64 i) ∧
  CallV Go.Proofs.Try.prog (27 : Nat) [Value.pointer (Prod.fst s), Value.int IntKind.i64 (0 : Int)] w'
  fun (e : Ending) (w' : World) ↦
  e = Ending.returned (Value.tuple #[]) ∧
  CallV Go.Proofs.Try.prog (28 : Nat) [Value.pointer (Prod.fst s), Value.int IntKind.i64 (0 : Int)] w'
  fun (e : Ending) (w' : World) ↦
  e = Ending.returned (Value.tuple #[]) ∧
  br (decide (i = (0 : Int)))
  (∃ (s_5 : ByteArray),
  ∃ (s_6 : ByteArray),
  Ld Go.Proofs.Try.prog (28 : Nat) w' (Addr.mk b (0 : Nat) none)
  (Value.agg #[Value.string s_5, Value.string s_6]) ∧
  CallV Go.Proofs.Try.prog (12 : Nat)
  [Value.slice (Prod.fst (Prod.fst (Prod.snd s))) (Prod.fst (Prod.snd (Prod.fst (Prod.snd s))))
  (Prod.snd (Prod.snd (Prod.fst (Prod.snd s)))),
  Value.agg #[Value.string s_5, Value.string s_6]]
  w' fun (e : Ending) (w' : World) ↦
  ∃ (a : Option Addr),
  ∃ (l : Nat),
  ∃ (c : Nat),
  e = Ending.returned (Value.slice a l c) ∧
  ∃ (i_1 : Int),
  Ld Go.Proofs.Try.prog (3 : Nat) w' (Addr.mk b_1 (2 : Nat) none) (Value.int IntKind.i64 i_1) ∧
  ∃ (a_1 : Option Addr),
  ∃ (l_1 : Nat),
  ∃ (c_1 : Nat),
  Ld Go.Proofs.Try.prog (47 : Nat) w' (Addr.mk b_1 (3 : Nat) none)
  (Value.slice a_1 l_1 c_1) ∧
  CallV Go.Proofs.Try.prog (29 : Nat)
  [Value.pointer (Prod.fst s), Value.int IntKind.i64 i_1, Value.slice a_1 l_1 c_1] w'
  fun (e : Ending) (w' : World) ↦
  ∃ (p : Option Addr),
  e = Ending.returned (Value.pointer p) ∧
  ∃ (b_2 : Bool),
  Eqv Go.Proofs.Try.prog BinOp.eql (23 : Nat) (Operand.tmp (77 : Nat))
  (Operand.const (Value.pointer none)) w' (Value.pointer p)
  (Value.pointer none) b_2 ∧
  br b_2 (R (Ending.returned (Value.bool false)) w')
  (∃ (s_7 : ByteArray),
  ∃ (s_8 : ByteArray),
  Ld Go.Proofs.Try.prog (28 : Nat) w' (Addr.mk b (0 : Nat) none)
  (Value.agg #[Value.string s_7, Value.string s_8]) ∧
  CallV Go.Proofs.Try.prog (30 : Nat)
  [Value.pointer p, Value.slice a l c,
  Value.agg #[Value.string s_7, Value.string s_8],
  Value.int IntKind.i64 i]
  w' fun (e : Ending) (w' : World) ↦
  ∃ (b_3 : Bool),
  e = Ending.returned (Value.bool b_3) ∧
  br (!b_3) (R (Ending.returned (Value.bool false)) w')
  (br (decide (i = (93 : Int)))
  (∃ (s_9 : ByteArray),
  Ld Go.Proofs.Try.prog (9 : Nat) w'
  (Addr.mk b (0 : Nat) none) (Value.string s_9) ∧
  CallV Go.Proofs.Try.prog (16 : Nat)
  [Value.pointer p, Value.string s_9] w'
  fun (e : Ending) (w' : World) ↦
  ∃ (s_10 : ByteArray),
  ∃ (i : Int),
  e =
  Ending.returned
  (Value.tuple
  #[Value.string s_10,
  Value.int IntKind.i64 i]) ∧
  br (decide (i = (0 : Int)))
  (∃ (s_11 : ByteArray),
  Ld Go.Proofs.Try.prog (9 : Nat) w'
  (Addr.mk b (0 : Nat) none)
  (Value.string s_11) ∧
  CallV Go.Proofs.Try.prog (12 : Nat)
  [Value.slice a l c,
  Value.agg
  #[Value.string s_11,
  Value.string s_10]]
  w' fun (e : Ending) (w' : World) ↦
  ∃ (a : Option Addr),
  ∃ (l : Nat),
  ∃ (c : Nat),
  e =
  Ending.returned
  (Value.slice a l c) ∧
  inR IntKind.i64
  (Prod.snd (Prod.snd s) +
  (1 : Int)) ∧
  next
  (p, (a, l, c),
  Prod.snd (Prod.snd s) +
  (1 : Int))
  w')
  (inR IntKind.i64
  (Prod.snd (Prod.snd s) + (1 : Int)) ∧
  next
  (p, (a, l, c),
  Prod.snd (Prod.snd s) + (1 : Int))
  w'))
  (br (decide (i = (95 : Int)))
  (∃ (s_9 : ByteArray),
  Ld Go.Proofs.Try.prog (9 : Nat) w'
  (Addr.mk b (0 : Nat) none) (Value.string s_9) ∧
  CallV Go.Proofs.Try.prog (16 : Nat)
  [Value.pointer p, Value.string s_9] w'
  fun (e : Ending) (w' : World) ↦
  ∃ (s_10 : ByteArray),
  ∃ (i : Int),
  e =
  Ending.returned
  (Value.tuple
  #[Value.string s_10,
  Value.int IntKind.i64 i]) ∧
  br (decide (i = (0 : Int)))
  (∃ (s_11 : ByteArray),
  Ld Go.Proofs.Try.prog (9 : Nat) w'
  (Addr.mk b (0 : Nat) none)
  (Value.string s_11) ∧
  CallV Go.Proofs.Try.prog (12 : Nat)
  [Value.slice a l c,
  Value.agg
  #[Value.string s_11,
  Value.string s_10]]
  w' fun (e : Ending) (w' : World) ↦
  ∃ (a : Option Addr),
  ∃ (l : Nat),
  ∃ (c : Nat),
  e =
  Ending.returned
  (Value.slice a l c) ∧
  inR IntKind.i64
  (Prod.snd (Prod.snd s) +
  (1 : Int)) ∧
  next
  (p, (a, l, c),
  Prod.snd
  (Prod.snd s) +
  (1 : Int))
  w')
  (inR IntKind.i64
  (Prod.snd (Prod.snd s) + (1 : Int)) ∧
  next
  (p, (a, l, c),
  Prod.snd (Prod.snd s) + (1 : Int))
  w'))
  (inR IntKind.i64 (Prod.snd (Prod.snd s) + (1 : Int)) ∧
  next
  (Prod.fst s, (a, l, c),
  Prod.snd (Prod.snd s) + (1 : Int))
  w')))))
  (∃ (i_1 : Int),
  Ld Go.Proofs.Try.prog (3 : Nat) w' (Addr.mk b_1 (2 : Nat) none) (Value.int IntKind.i64 i_1) ∧
  ∃ (a : Option Addr),
  ∃ (l : Nat),
  ∃ (c : Nat),
  Ld Go.Proofs.Try.prog (47 : Nat) w' (Addr.mk b_1 (3 : Nat) none) (Value.slice a l c) ∧
  CallV Go.Proofs.Try.prog (29 : Nat)
  [Value.pointer (Prod.fst s), Value.int IntKind.i64 i_1, Value.slice a l c] w'
  fun (e : Ending) (w' : World) ↦
  ∃ (p : Option Addr),
  e = Ending.returned (Value.pointer p) ∧
  ∃ (b_2 : Bool),
  Eqv Go.Proofs.Try.prog BinOp.eql (23 : Nat) (Operand.tmp (77 : Nat))
  (Operand.const (Value.pointer none)) w' (Value.pointer p) (Value.pointer none) b_2 ∧
  br b_2 (R (Ending.returned (Value.bool false)) w')
  (∃ (s_5 : ByteArray),
  ∃ (s_6 : ByteArray),
  Ld Go.Proofs.Try.prog (28 : Nat) w' (Addr.mk b (0 : Nat) none)
  (Value.agg #[Value.string s_5, Value.string s_6]) ∧
  CallV Go.Proofs.Try.prog (30 : Nat)
  [Value.pointer p,
  Value.slice (Prod.fst (Prod.fst (Prod.snd s)))
  (Prod.fst (Prod.snd (Prod.fst (Prod.snd s))))
  (Prod.snd (Prod.snd (Prod.fst (Prod.snd s)))),
  Value.agg #[Value.string s_5, Value.string s_6], Value.int IntKind.i64 i]
  w' fun (e : Ending) (w' : World) ↦
  ∃ (b_3 : Bool),
  e = Ending.returned (Value.bool b_3) ∧
  br (!b_3) (R (Ending.returned (Value.bool false)) w')
  (br (decide (i = (93 : Int)))
  (∃ (s_7 : ByteArray),
  Ld Go.Proofs.Try.prog (9 : Nat) w' (Addr.mk b (0 : Nat) none)
  (Value.string s_7) ∧
  CallV Go.Proofs.Try.prog (16 : Nat) [Value.pointer p, Value.string s_7]
  w' fun (e : Ending) (w' : World) ↦
  ∃ (s_8 : ByteArray),
  ∃ (i : Int),
  e =
  Ending.returned
  (Value.tuple
  #[Value.string s_8, Value.int IntKind.i64 i]) ∧
  br (decide (i = (0 : Int)))
  (∃ (s_9 : ByteArray),
  Ld Go.Proofs.Try.prog (9 : Nat) w' (Addr.mk b (0 : Nat) none)
  (Value.string s_9) ∧
  CallV Go.Proofs.Try.prog (12 : Nat)
  [Value.slice (Prod.fst (Prod.fst (Prod.snd s)))
  (Prod.fst (Prod.snd (Prod.fst (Prod.snd s))))
  (Prod.snd (Prod.snd (Prod.fst (Prod.snd s)))),
  Value.agg #[Value.string s_9, Value.string s_8]]
  w' fun (e : Ending) (w' : World) ↦
  ∃ (a : Option Addr),
  ∃ (l : Nat),
  ∃ (c : Nat),
  e = Ending.returned (Value.slice a l c) ∧
  inR IntKind.i64
  (Prod.snd (Prod.snd s) + (1 : Int)) ∧
  next
  (p, (a, l, c),
  Prod.snd (Prod.snd s) + (1 : Int))
  w')
  (inR IntKind.i64 (Prod.snd (Prod.snd s) + (1 : Int)) ∧
  next
  (p,
  (Prod.fst (Prod.fst (Prod.snd s)),
  Prod.fst (Prod.snd (Prod.fst (Prod.snd s))),
  Prod.snd (Prod.snd (Prod.fst (Prod.snd s)))),
  Prod.snd (Prod.snd s) + (1 : Int))
  w'))
  (br (decide (i = (95 : Int)))
  (∃ (s_7 : ByteArray),
  Ld Go.Proofs.Try.prog (9 : Nat) w' (Addr.mk b (0 : Nat) none)
  (Value.string s_7) ∧
  CallV Go.Proofs.Try.prog (16 : Nat) [Value.pointer p, Value.string s_7]
  w' fun (e : Ending) (w' : World) ↦
  ∃ (s_8 : ByteArray),
  ∃ (i : Int),
  e =
  Ending.returned
  (Value.tuple
  #[Value.string s_8, Value.int IntKind.i64 i]) ∧
  br (decide (i = (0 : Int)))
  (∃ (s_9 : ByteArray),
  Ld Go.Proofs.Try.prog (9 : Nat) w'
  (Addr.mk b (0 : Nat) none) (Value.string s_9) ∧
  CallV Go.Proofs.Try.prog (12 : Nat)
  [Value.slice (Prod.fst (Prod.fst (Prod.snd s)))
  (Prod.fst (Prod.snd (Prod.fst (Prod.snd s))))
  (Prod.snd (Prod.snd (Prod.fst (Prod.snd s)))),
  Value.agg #[Value.string s_9, Value.string s_8]]
  w' fun (e : Ending) (w' : World) ↦
  ∃ (a : Option Addr),
  ∃ (l : Nat),
  ∃ (c : Nat),
  e = Ending.returned (Value.slice a l c) ∧
  inR IntKind.i64
  (Prod.snd (Prod.snd s) + (1 : Int)) ∧
  next
  (p, (a, l, c),
  Prod.snd (Prod.snd s) + (1 : Int))
  w')
  (inR IntKind.i64 (Prod.snd (Prod.snd s) + (1 : Int)) ∧
  next
  (p,
  (Prod.fst (Prod.fst (Prod.snd s)),
  Prod.fst (Prod.snd (Prod.fst (Prod.snd s))),
  Prod.snd (Prod.snd (Prod.fst (Prod.snd s)))),
  Prod.snd (Prod.snd s) + (1 : Int))
  w'))
  (inR IntKind.i64 (Prod.snd (Prod.snd s) + (1 : Int)) ∧
  next
  (Prod.fst s,
  (Prod.fst (Prod.fst (Prod.snd s)),
  Prod.fst (Prod.snd (Prod.fst (Prod.snd s))),
  Prod.snd (Prod.snd (Prod.fst (Prod.snd s)))),
  Prod.snd (Prod.snd s) + (1 : Int))
  w')))))))
  (CallV Go.Proofs.Try.prog (10 : Nat) [] w' fun (e : Ending) (w' : World) ↦ ∃ (b : Bool), e = Ending.returned (Value.bool b) ∧ R (Ending.returned (Value.bool b)) w'))
  (p, (none, (0 : Nat), (0 : Nat)), (0 : Int)) w'))
  fun (J : Bool → World → Prop) ↦
  ∃ (b : Bool),
  Eqv Go.Proofs.Try.prog BinOp.eql (23 : Nat) (Operand.tmp (15 : Nat)) (Operand.const (Value.pointer none)) w' (Value.pointer p) (Value.pointer none) b ∧
  br b (J true w')
  (CallV Go.Proofs.Try.prog (9 : Nat) [Value.slice la ln lc] w' fun (e : Ending) (w' : World) ↦
  ∃ (b : Bool), e = Ending.returned (Value.bool b) ∧ br (!b) (J true w') (J (decide ((50 : Int) < (↑troublesn : Int))) w'))
theorem pressCrash.eq (la : Option Addr) (ln : Nat) (lc : Nat) (troublesa : Option Addr) (troublesn : Nat) (troublesc : Nat) (w : World) (R : Ending → World → Prop) : bodyV Go.Proofs.Try.prog pressCrash.an Go.Proofs.Try.f7 [.slice la ln lc, .slice troublesa troublesn troublesc] w R = pressCrash.vc la ln lc troublesa troublesn troublesc w R := by kernel_rfl
theorem pressCrash.ok (la : Option Addr) (ln : Nat) (lc : Nat) (troublesa : Option Addr) (troublesn : Nat) (troublesc : Nat) (w : World) (R : Ending → World → Prop) (h : pressCrash.vc la ln lc troublesa troublesn troublesc w R) : Calls Go.Proofs.Try.prog 7 #[.slice la ln lc, .slice troublesa troublesn troublesc] w R :=
  calls_of_bodyV noNum (an := pressCrash.an) (args := [.slice la ln lc, .slice troublesa troublesn troublesc]) Go.Proofs.Try.func7 (by kernel_rfl) ((pressCrash.eq la ln lc troublesa troublesn troublesc w R).mpr h)

end Go.Proofs.Ytdpkamajecmebaa
