/- Part 2 of 6 of the proof of nodetabSpans_holds: for every input, from every world that may be reached. -/
import Derived.Test.YtljenkbpnioipaaGreatPsp1
set_option linter.unusedVariables false
set_option linter.unusedSimpArgs false
set_option maxRecDepth 100000
set_option maxHeartbeats 4000000
open List(all_eq_true append_assoc cons_append drop_append drop_drop drop_eq_nil_of_le drop_take eq_nil_of_length_eq_zero ext_getElem? foldl_cons foldl_nil headD_cons length_append length_cons length_nil length_take map_append map_cons mem_append mem_append_left mem_append_right mem_cons mem_map mem_of_getElem? mem_singleton nil_append nodup_append nodup_cons not_mem_nil pairwise_append pairwise_cons perm_middle range_succ size_toArray)
namespace Go.Proofs.YtljenkbpnioipaaGreat
open Go Go.Vc
section
variable(w:World)(R:Ending->World->Prop){u:World}{U:Ending->World->Prop}(p0 p1 p2:Option Addr)(n0 n1 n2 n3:Nat)(i0 i1 i2 i3 i4 i5 i6 i7 i8 i9 i10 i11:Int)(s0 s1 s2 s3:ByteArray)(b0 b1:Bool)(m0:Option Nat)(v0:Value)
def gSetText.vc:Prop:=onP p0 fun b=>G12 w b fun h=>∃e g,Lk P 117 true w (.map h) (I i0) (A10 e g)/\br (!g) (R (E (I 60)) w) (onP e fun b=>G1 w (b.add 2) fun a=>B1 (a=2) (R (E (I 68)) w) (C3 151 [.string s0] w fun a c=>B1 (a=0) (C3 151 [.string s0] c fun a c=>R (E (I a)) c) (onP e fun b=>Z1 c (b.add 5) s0 fun i=>R (E (I 0)) i)))
theorem gSetText.ok(Z0:gSetText.vc u U p0 i0 s0):Calls P 96 #[Q p0,I i0,.string s0] u U:=cok {} Tryz.func96 Z0
def xAll.vc:Prop:=onP p0 fun c=>G17 w c fun h e o=>AP (St:=(Option Addr×Nat×Nat)×Int) (fun a f p=>B0 (a.2<(↑e:Int)) (onP h fun c=>D1 a.2 e/\∃l i,Ld P 167 f (c.add (a.2.toNat*2)) (.agg #[.string l,I i])/\N15 f (.mk #[]) 0 fun p0 d=>U13 d p0 0 l i fun g=>L7 g p0 0 fun m=>N12 g m fun p0 d=>∃c k j n,App P #[106,106] 106 d (S a.1.1 a.1.2.1 a.1.2.2) (S (some (.mk p0 0 none)) 1 1) (S c k j) n/\inR .i64 (a.2+1)/\p ((c,k,j),a.2+1) n) (R (E (S a.1.1 a.1.2.1 a.1.2.2)) f)) ((none,0,0),0) w
theorem xAll.ok(Z0:xAll.vc u U p0):Calls P 97 #[Q p0] u U:=cok ⟨[],[(3,[(3,.inr 3),(11,.inl .i64)])],[],[]⟩ Tryz.func97 Z0
def xDrop.vc:Prop:=BL P 157 [Q p0,I i0] w fun B g=>∃i c,B=E (.agg #[.string i,I c])/\N15 g (.mk #[]) 0 fun k d=>U13 d k 0 i c fun j=>L4 j k 1 fun c=>B0 (c=0) (R (E (.bool false)) j) (onP p0 fun a=>G17 j a fun n b e=>inR .i64 (i0-1)/\onP n fun a=>(0<=i0-1/\i0-1<(↑b:Int))/\G1 j (Addr.add (a.add (Int.toNat (i0-1)*2)) 1) fun c=>inR .i64 (c-1)/\onP n fun a=>(0<=i0-1/\i0-1<(↑b:Int))/\Z2 j (Addr.add (a.add (Int.toNat (i0-1)*2)) 1) (c-1) fun d=>L4 d k 1 fun c=>B0 (1<c) (R (E (.bool true)) d) (onP p0 fun a=>G18 d.drew (a.add 1) fun s=>L7 d.drew k 0 fun i=>∃o,Del P #[147,9] 0 d.drew (.map s) (.string i) o/\onP p0 fun a=>G17 o a fun p b e=>inR .i64 (i0-1)/\onP p fun a=>(0<=i0-1/\i0-1<(↑b:Int))/\∃d,St P 167 o (a.add (Int.toNat (i0-1)*2)) (.agg #[.string (.mk #[]),I 0]) d/\AP (St:=PUnit) (fun i g C=>onP p0 fun a=>G17 g.drew a fun t b e=>B0 (0<(↑b:Int)) (onP p0 fun a=>G17 g.drew a fun q b e=>onP p0 fun a=>G17 g.drew a fun v l e=>inR .i64 ((↑l:Int)-1)/\onP q fun a=>(0<=(↑l:Int)-1/\(↑l:Int)-1<(↑b:Int))/\G1 g.drew (Addr.add (a.add (Int.toNat ((↑l:Int)-1)*2)) 1) fun c=>B0 (c=0) (onP p0 fun a=>G17 g.drew.drew a fun r b e=>onP p0 fun a=>G17 g.drew.drew a fun x b z=>inR .i64 ((↑b:Int)-1)/\onP p0 fun a=>G17 g.drew.drew a fun y m A=>inR .i64 ((↑m:Int)-1)/\(0<=(↑b:Int)-1/\(↑b:Int)-1<=(↑m:Int)-1/\(↑m:Int)-1<=(↑e:Int))/\onP p0 fun a=>Z4 g.drew.drew a r (Int.toNat ((↑b:Int)-1)) (Int.toNat ((↑m:Int)-1)) fun d=>C () d) (R (E (.bool true)) g.drew)) (R (E (.bool true)) g.drew)) () d))
theorem xDrop.ok(Z0:xDrop.vc u U p0 i0):Calls P 99 #[Q p0,I i0] u U:=cok ⟨[],[(9,[])],[],[]⟩ Tryz.func99 Z0
def xFind.vc:Prop:=onP p0 fun d=>G18 w (d.add 1) fun c=>∃b p0,Lk P 147 true w (.map c) (.string s0) (A1 b p0)/\R (E (A1 b p0)) w
theorem xFind.ok(Z0:xFind.vc u U p0 s0):Calls P 100 #[Q p0,.string s0] u U:=cok {} Tryz.func100 Z0
def xAdd.vc:Prop:=onP p0 fun a=>G18 w (a.add 1) fun f=>∃b o,Lk P 147 true w (.map f) (.string s0) (A1 b o)/\C2 127 [.string s0] w fun p c=>br (!p) (R (E (A7 0 63)) c) (br o (onP p0 fun a=>G17 c a fun h d i=>inR .i64 (b-1)/\onP h fun a=>(0<=b-1/\b-1<(↑d:Int))/\G1 c (Addr.add (a.add (Int.toNat (b-1)*2)) 1) fun m=>inR .i64 (m+1)/\onP h fun a=>(0<=b-1/\b-1<(↑d:Int))/\Z2 c (Addr.add (a.add (Int.toNat (b-1)*2)) 1) (m+1) fun e=>R (E (A7 b 0)) e) (onP p0 fun a=>G18 c (a.add 1) fun f=>∃b,LenM P #[147] 3 c (.map f) (I b)/\B0 (4000<=b) (R (E (A7 0 150)) c) (C3 158 [Q p0] c fun b c=>Am (St:=PUnit) (fun t c=>onP p0 fun a=>G17 c a fun h d i=>inR .i64 (b-1)/\onP h fun a=>(0<=b-1/\b-1<(↑d:Int))/\∃e,St P 167 c (a.add (Int.toNat (b-1)*2)) (.agg #[.string s0,I 1]) e/\onP p0 fun a=>G18 e (a.add 1) fun f=>∃j,MUp P 147 e (.map f) (.string s0) (I b) j/\R (E (A7 b 0)) j) fun J=>onP p0 fun a=>G17 c a fun h d i=>B0 ((↑d:Int)<b) (onP p0 fun a=>G17 c a fun n d i=>N15 c (.mk #[]) 0 fun q e=>∃a r f j,App P #[148,148] 148 e (S n d i) (S (some (.mk q 0 none)) 1 1) (S a r f) j/\onP p0 fun s=>Z4 j s a r f fun e=>J () e) (J () c))))
theorem xAdd.ok(Z0:xAdd.vc u U p0 s0):Calls P 101 #[Q p0,.string s0] u U:=cok ⟨[],[],[(12,[])],[]⟩ Tryz.func101 Z0
def nSpanned.vc:Prop:=∀h g,New w (.map #[] 0) h g->AP (St:=Int) (fun b a k=>B0 (b<(↑n0:Int)) (onP p0 fun d=>D1 b n0/\G24 a (d.add (b.toNat*2)) fun c m=>N17 a 0 false fun f g=>∃r,St P 248 g (.mk f 0 none) (A20 c m) r/\∃c s,Ld P 248 r (.mk f 0 none) (A20 c s)/\C3 161 [.map m0,A20 c s] r fun c a=>B0 (0<=c) (L4 a f 0 fun c=>L4 a f 0 fun n=>∃t v,Lk P 80 false a (.map m0) (I n) (A4 t v)/\∃g,MUp P 80 a (.map (some h)) (I c) (A4 t v) g/\inR .i64 (b+1)/\k (b+1) g) (inR .i64 (b+1)/\k (b+1) a)) (AP (St:=Int×Int×Int) (fun b a k=>B0 (b.2.2<=(↑n0:Int)) (Am (St:=Int×Int) (fun l a=>inR .i64 (b.2.2+1)/\k (l.1,l.2,b.2.2+1) a) fun J=>Am (fun l a=>B0 (l<0) (J (b.1,b.2.1) a) (inR .i64 (b.2.2-b.2.1)/\C19 162 [I b.1,I l,I (b.2.2-b.2.1)] a fun d o x m a=>br (!m) (R (E (.tuple #[.map none,.bool false])) a) (AP (St:=Int) (fun e a k=>B0 (e<(↑o:Int)) (onP d fun d=>D1 e o/\G1 a (d.add (e.toNat*1)) fun c=>inR .i64 (b.2.1+e)/\onP p0 fun d=>(0<=b.2.1+e/\b.2.1+e<(↑n0:Int))/\G24 a (d.add (Int.toNat (b.2.1+e)*2)) fun n f=>C1 163 [.map (some h),A20 n f,I c] a fun a=>inR .i64 (e+1)/\k (e+1) a) (inR .i64 (b.2.2+1)/\J (l,b.2.2+1) a)) 0 a))) fun(J:Int->World->Prop)=>B0 (b.2.2<(↑n0:Int)) (onP p0 fun d=>D1 b.2.2 n0/\G24 a (d.add (b.2.2.toNat*2)) fun c h=>C3 161 [.map m0,A20 c h] a fun c a=>J c a) (J 4611686018427387904 a)) (R (E (.tuple #[.map (some h),.bool true])) a)) (0,0,0) a)) 0 g
theorem nSpanned.ok(Z0:nSpanned.vc u U p0 n0 m0):Calls P 104 #[S p0 n0 n1,.map m0] u U:=cok ⟨[],[(3,[(20,.inl .i64)]),(10,[(9,.inl .i64),(10,.inl .i64),(11,.inl .i64)]),(20,[(67,.inl .i64)])],[(11,[(9,.inl .i64),(10,.inl .i64)]),(15,[(12,.inl .i64)])],[]⟩ Tryz.func104 Z0
def nBounds.vc:Prop:=∀g a,New w (.cells #[S none 0 0] 185) g a->∀i B,New a (.cells #[S none 0 0] 185) i B->AP (St:=Int) (fun e h K=>B0 (e<(↑n0:Int)) (onP p0 fun d=>D1 e n0/\G16 h (d.add (e.toNat*5)) fun f t z A p c b=>N11 h 0 0 (.mk #[]) (.mk #[]) none 0 0 fun l a=>U8 a l 0 f t z A p c b fun n=>L4 n l 0 fun f=>C1 164 [I f,Q (some (.mk i 0 none)),Q (some (.mk g 0 none))] n fun h=>∃d c b,Ld P 185 h.drew (.mk g 0 none) (S d c b)/\onP p1 fun F=>D1 e n2/\G1 h.drew (F.add (e.toNat*1)) fun f=>N17 h.drew f false fun s a=>Ld P 185 a (.mk g 0 none) (S d c b)/\∃q k j C,App P #[185,185] 185 a (S d c b) (S (some (.mk s 0 none)) 1 1) (S q k j) C/\∃a,St P 185 C (.mk g 0 none) (S q k j) a/\∃d c b,Ld P 185 a.drew (.mk i 0 none) (S d c b)/\onP p1 fun G=>D1 e n2/\G1 a.drew (G.add (e.toNat*1)) fun f=>N17 a.drew f true fun g o=>Ld P 185 o (.mk i 0 none) (S d c b)/\∃r k j a,App P #[185,185] 185 o (S d c b) (S (some (.mk g 0 none)) 1 1) (S r k j) a/\∃D,St P 185 a (.mk i 0 none) (S r k j) D/\inR .i64 (e+1)/\K (e+1) D) (C1 164 [I 0,Q (some (.mk i 0 none)),Q (some (.mk g 0 none))] h fun h=>∃d c b,Ld P 185 h (.mk g 0 none) (S d c b)/\R (E (S d c b)) h)) 0 B
theorem nBounds.ok(Z0:nBounds.vc u U p0 p1 n0 n2):Calls P 105 #[S p0 n0 n1,S p1 n2 n3] u U:=cok ⟨[],[(4,[(13,.inl .i64)])],[],[]⟩ Tryz.func105 Z0
def sLabel.vc:Prop:=C10 62 [S p0 n0 n1] w fun c p d=>B1 (p=0) (R (E (A13 none 0 0 p)) d) (∃b n m a,MkS P 187 d (I (↑n0:Int)) (I (↑n0:Int)) (S b n m) a/\∀h A,New a (.cells #[S none 0 0] 187) h A->∃a,St P 187 A (.mk h 0 none) (S b n m) a/\N10 a none 0 0 fun j B=>N9 B 0 fun i a=>U6 a i 0 0 fun C=>AP (St:=Int) (fun g d G=>B0 (g<(↑n0:Int)) (onP p0 fun b=>D1 g n0/\G16 d (b.add (g.toNat*5)) fun c v y z s e f=>N11 d 0 0 (.mk #[]) (.mk #[]) none 0 0 fun o a=>U8 a o 0 c v y z s e f fun q=>L4 q o 0 fun c=>C1 165 [I c,Q (some (.mk j 0 none)),Q (some (.mk i 0 none)),Q (some (.mk h 0 none))] q fun d=>L4 d i 0 fun c=>inR .i64 (c+1099511627776)/\U6 d i 0 (c+1099511627776) fun a=>∃b e f,Ld P 187 a (.mk h 0 none) (S b e f)/\L4 a i 0 fun c=>onP b fun b=>D1 g e/\Z2 a (b.add (g.toNat*2)) c fun r=>L9 r j 0 fun b e f=>N9 r g fun h a=>∃t n m D,App P #[59,59] 59 a (S b e f) (S (some (.mk h 0 none)) 1 1) (S t n m) D/\U5 D j 0 t n m fun a=>inR .i64 (g+1)/\G (g+1) a) (C1 165 [I 0,Q (some (.mk j 0 none)),Q (some (.mk i 0 none)),Q (some (.mk h 0 none))] d fun d=>∃b e f,Ld P 187 d (.mk h 0 none) (S b e f)/\R (E (A13 b e f 0)) d)) 0 C)
theorem sLabel.ok(Z0:sLabel.vc u U p0 n0 n1):Calls P 106 #[S p0 n0 n1] u U:=cok ⟨[],[(9,[(26,.inl .i64)])],[],[]⟩ Tryz.func106 Z0
def nDrop.vc:Prop:=onP p0 fun b=>G20 w b fun d=>onP d fun b=>G11 w (b.add 4) fun c=>∃a n,Lk P 83 false w (.map c) (.string s0) (A4 a n)/\N14 w 0 0 fun g e=>U10 e g 0 a n fun f=>onP p0 fun b=>G20 f.drew b fun d=>onP d fun b=>G6 f.drew (b.add 3) fun m q r=>L4 f.drew g 0 fun a=>onP m fun b=>D1 a q/\G7 f.drew (b.add (a.toNat*1)) fun d=>L4 f.drew g 1 fun a=>C3 167 [Q d,I a] f.drew fun a j=>onP p0 fun b=>G21 j.drew (b.add 1) fun c=>L12 j.drew g 0 fun a h=>∃i,Lk P 110 false j.drew (.map c) (A4 a h) (I i)/\inR .i64 (i+1)/\∃t o e,MEn P 110 j.drew (.map c) (A4 a h) (.tuple #[t,I o]) e/\Lk P 110 false e (.map c) (A4 a h) (I i)/\∃k,ESt P 110 e (.map c) (I o) (I (i+1)) k/\onP p0 fun b=>G20 k b fun d=>onP d fun b=>G11 k (b.add 4) fun c=>∃e,Del P #[83,9] 0 k (.map c) (.string s0) e/\R (E (.tuple #[])) e
theorem nDrop.ok(Z0:nDrop.vc u U p0 s0):Calls P 108 #[Q p0,.string s0] u U:=cok {} Tryz.func108 Z0
def put.vc:Prop:=B0 (i0<0) (R (E (I 110)) w) (B0 (120<=i0) (R (E (I 110)) w) (C3 169 [Q p0] w fun a b=>C10 86 [Q p0,I i0] b fun k i b=>Am (fun o b=>B0 (o<(↑(s0.size):Int)) (R (E (I 111)) b) (C1 170 [Q p0,I i0] b fun b=>AP (St:=PUnit) (fun p b n=>onP p0 fun c=>G1 b (c.add 4096) fun a=>B0 (a<=i0) (onP p0 fun c=>G1 b (c.add 4096) fun a=>C1 171 [Q p0,I a,I 0,I 0] b fun b=>onP p0 fun c=>G1 b (c.add 4096) fun a=>inR .i64 (a+1)/\onP p0 fun c=>Z2 b (c.add 4096) (a+1) fun g=>n () g) (onP p0 fun c=>G1 b (c.add 4096) fun a=>C1 172 [Q p0,I 8,I a] b fun b=>onP p0 fun c=>G1 b (c.add 4097) fun a=>inR .i64 (a-(↑(s0.size):Int))/\onP p0 fun c=>Z2 b (c.add 4097) (a-(↑(s0.size):Int)) fun g=>onP p0 fun c=>onP p0 fun l=>G1 g.drew (l.add 4097) fun a=>(0<=a/\a<=(↑(4096:Nat):Int))/\∃m j,Cpy P #[159,9] 3 g.drew (S (slA (some c) 4096 (a.toNat) 1) (4096-a.toNat) (4096-a.toNat)) (.string s0) (I m) j/\onP p0 fun c=>G1 j (c.add 4097) fun a=>C1 171 [Q p0,I i0,I a,I (↑(s0.size):Int)] j fun b=>R (E (I 0)) b)) () b)) fun(J:Int->World->Prop)=>B0 (0<k) (inR .i64 (a+i)/\J (a+i) b) (J a b)))
theorem put.ok(Z0:put.vc u U p0 i0 s0):Calls P 110 #[Q p0,I i0,.string s0] u U:=cok ⟨[],[(10,[])],[(7,[(7,.inl .i64)])],[]⟩ Tryz.func110 Z0
def nPut.vc:Prop:=AP (St:=Int) (fun f a B=>B0 (4096<=f) (R (E (I 94)) a) (Am (St:=PUnit) (fun F a=>onP p0 fun b=>G20 a b fun c=>onP c fun b=>G6 a (b.add 3) fun l g h=>onP l fun b=>D1 f g/\G7 a (b.add (f.toNat*1)) fun c=>C10 173 [Q c,.string s1] a fun k v a=>B0 (v=0) (onP p0 fun b=>G20 a b fun c=>onP c fun b=>G11 a (b.add 4) fun e=>∃d,MUp P 83 a (.map e) (.string s0) (A4 f k) d/\onP p0 fun b=>G21 d.drew (b.add 1) fun e=>∃n,Lk P 110 false d.drew (.map e) (A4 f k) (I n)/\inR .i64 (n+1)/\∃D x i,MEn P 110 d.drew (.map e) (A4 f k) (.tuple #[D,I x]) i/\Lk P 110 false i (.map e) (A4 f k) (I n)/\∃d,ESt P 110 i (.map e) (I x) (I (n+1)) d/\R (E (I 0)) d) (inR .i64 (f+1)/\B (f+1) a)) fun J=>onP p0 fun b=>G20 a b fun c=>onP c fun b=>G6 a (b.add 3) fun l g h=>B0 (f=(↑g:Int)) (onP p0 fun b=>G20 a.drew b fun c=>onP p0 fun p=>G20 a.drew p fun o=>onP o fun q=>G6 a.drew (q.add 3) fun m g h=>C4 123 [] a.drew fun z a=>Ld P 84 a (q.add 3) (S m g h)/\Ld P 23 a p (Q o)/\Ld P 23 a b (Q c)/\N8 a z fun t d=>Ld P 84 d (q.add 3) (S m g h)/\Ld P 23 d p (Q o)/\Ld P 23 d b (Q c)/\∃s y e i,App P #[84,84] 84 d (S m g h) (S (some (.mk t 0 none)) 1 1) (S s y e) i/\Ld P 23 i b (Q c)/\onP c fun b=>∃d,St P 84 i (b.add 3) (S s y e) d/\J () d) (J () a))) 0 w
theorem nPut.ok(Z0:nPut.vc u U p0 s0 s1):Calls P 111 #[Q p0,.string s0,.string s1] u U:=cok ⟨[],[(3,[(7,.inl .i64)])],[(7,[])],[]⟩ Tryz.func111 Z0
def nRecords1.vc:Prop:=∃b,(onP p0 fun a=>Ld P 114 w.drew a (.map b))/\C18 113 [.string s0] w.drew fun e f=>(onP p0 fun a=>Ld P 114 f a (.map b))/\∃g,MUp P 114 f (.map b) (.string e) (A14 s0) g/\R (E (.tuple #[])) g
theorem nRecords1.ok(Z0:nRecords1.vc u U p0 s0):Calls P 112 #[.string s0,Q p0] u U:=cok {} Tryz.func112 Z0
def nAbout.vc:Prop:=B0 (s0=.mk #[]) (R (E (.string (.mk #[]))) w) (((0:Int)<=(0:Int)/\(0:Int)<(↑(s0.size):Int))/\B0 (sb s0 (0:Int)=(119:Int)) (((0:Int)<=min (↑(s0.size):Int) (3:Int)/\min (↑(s0.size):Int) (3:Int)<=(↑(s0.size):Int))/\R (E (.string (ByteArray.extract s0 0 (Int.toNat (min (↑(s0.size):Int) (3:Int)))))) w) (((0:Int)<=(0:Int)/\(0:Int)<(↑(s0.size):Int))/\B0 (sb s0 (0:Int)=(110:Int)) (((0:Int)<=min (↑(s0.size):Int) (6:Int)/\min (↑(s0.size):Int) (6:Int)<=(↑(s0.size):Int))/\R (E (.string (ByteArray.extract s0 0 (Int.toNat (min (↑(s0.size):Int) (6:Int)))))) w) (((0:Int)<=(1:Int)/\(1:Int)<=(↑(s0.size):Int))/\R (E (.string (ByteArray.extract s0 0 (Int.toNat (1:Int))))) w)))
theorem nAbout.ok(Z0:nAbout.vc u U s0):Calls P 113 #[.string s0] u U:=cok {} Tryz.func113 Z0
def nNumber.vc:Prop:=∃c e g d,MkS P 159 w (I i1) (I i1) (S c e g) d/\AP (St:=Int) (fun a f i=>B0 (a<(↑e:Int)) (inR .i64 (i1-1)/\inR .i64 (i1-1-a)/\inR .i64 (8*(i1-1-a))/\0<=8*(i1-1-a)/\onP c fun c=>D1 a e/\∃d,St P 5 f (c.add (a.toNat*1)) (.int .u8 (IntKind.wrap .u8 (Int.fdiv i0 (2^min (Int.toNat (8*(i1-1-a))) (IntKind.bits .i64))))) d/\inR .i64 (a+1)/\i (a+1) d) (∃a,B2S P 159 9 f (S c e g) (.string a)/\R (E (.string a)) f)) 0 d
theorem nNumber.ok(Z0:nNumber.vc u U i0 i1):Calls P 114 #[I i0,I i1] u U:=cok ⟨[],[(3,[(11,.inl .i64)])],[],[]⟩ Tryz.func114 Z0
def fEncode.vc:Prop:=N16 w i0 i1 i2 i3 i4 i5 s0 p0 n0 n1 fun f c=>L14 c f 0 fun h p r s t v a d b g=>C2 174 [A15 h p r s t v a d b g] c fun n e=>br (!n) (R (E (A13 none 0 0 160)) e) (L14 e f 0 fun h x y z A q a d b g=>C7 175 [A15 h x y z A q a d b g] e fun d b g e=>inR .i64 ((↑b:Int)+(900:Int))/\inR .i64 ((↑b:Int)+(900:Int)-(1:Int))/\(900:Int)≠(0:Int)/\inR .i64 (Int.tdiv ((↑b:Int)+(900:Int)-(1:Int)) (900:Int))/\AP (St:=(Option Addr×Nat×Nat)×Int) (fun a e F=>B0 (a.2<Int.tdiv ((↑b:Int)+(900:Int)-(1:Int)) (900:Int)) (L4 e f 0 fun h=>∀f c,New e (.cells #[I h,I 4,I a.2,I 1,I (Int.tdiv ((↑b:Int)+(900:Int)-(1:Int)) (900:Int)),I 1] 258) f c->C7 176 [S none 0 0,S (some (.mk f 0 none)) 3 3] c fun l B o e=>inR .i64 (a.2*(900:Int))/\inR .i64 (a.2+(1:Int))/\inR .i64 ((a.2+(1:Int))*(900:Int))/\((0:Int)<=a.2*(900:Int)/\a.2*(900:Int)<=min (↑b:Int) ((a.2+(1:Int))*(900:Int))/\min (↑b:Int) ((a.2+(1:Int))*(900:Int))<=(↑g:Int))/\∃m k j c,App P #[159,159] 159 e (S l B o) (S (slA d g (Int.toNat (a.2*(900:Int))) 1) (Int.toNat (min (↑b:Int) ((a.2+(1:Int))*(900:Int)))-Int.toNat (a.2*(900:Int))) (g-Int.toNat (a.2*(900:Int)))) (S m k j) c/\∃C,B2S P 159 9 c (S m k j) (.string C)/\N12 c C fun f D=>∃d k j c,App P #[106,106] 106 D (S a.1.1 a.1.2.1 a.1.2.2) (S (some (.mk f 0 none)) 1 1) (S d k j) c/\inR .i64 (a.2+(1:Int))/\F ((d,k,j),a.2+(1:Int)) c) (R (E (A13 a.1.1 a.1.2.1 a.1.2.2 0)) e)) ((none,0,0),(0:Int)) e)
theorem fEncode.ok(Z0:fEncode.vc u U p0 n0 n1 i0 i1 i2 i3 i4 i5 s0):Calls P 115 #[A15 i0 i1 i2 i3 i4 i5 s0 p0 n0 n1] u U:=cok ⟨[],[(7,[(6,.inr 3),(20,.inl .i64)])],[],[]⟩ Tryz.func115 Z0
def nRecord.vc:Prop:=N5 w i0 i1 i2 i3 s0 s1 p1 n0 n1 fun b a=>N16 a 0 0 0 0 0 0 (.mk #[]) none 0 0 fun p i=>L4 i.drew b 0 fun e=>L4 i.drew b 1 fun r=>L4 i.drew b 2 fun s=>L7 i.drew b 5 fun d=>onP p0 fun c=>G9 i.drew (c.add 1) fun j=>L4 i.drew b 0 fun n=>∃t v,Lk P 80 false i.drew (.map j) (I n) (A4 t v)/\N16 i.drew 0 0 0 0 0 0 (.mk #[]) none 0 0 fun k a=>Lk P 80 false a (.map j) (I n) (A4 t v)/\Ld P 3 a (.mk b 0 none) (I n)/\Ld P 80 a (c.add 1) (.map j)/\Ld P 9 a (.mk b 5 none) (.string d)/\Ld P 3 a (.mk b 2 none) (I s)/\Ld P 3 a (.mk b 1 none) (I r)/\Ld P 3 a (.mk b 0 none) (I e)/\U11 a k 0 e r s 0 t v d none 0 0 fun l=>Am (St:=PUnit) (fun d f=>L11 f b 6 fun c g h=>AP (St:=Int) (fun d f Y=>B0 (d<(↑g:Int)) (onP c fun c=>D1 d g/\G3 f (c.add (d.toNat*2)) fun N O=>N13 f (.mk #[]) (.mk #[]) fun b a=>U9 a b 0 N O fun o=>onP p0 fun c=>G10 o.drew (c.add 2) fun m=>L7 o.drew b 0 fun T=>C17 100 [Q m,.string T] o.drew fun e X f=>L16 f k 7 fun c g h=>L7 f b 1 fun V=>N18 f e V fun b a=>∃y M j W,App P #[202,202] 202 a (S c g h) (S (some (.mk b 0 none)) 1 1) (S y M j) W/\∃a,St P 202 W (.mk k 7 none) (S y M j) a/\inR .i64 (d+1)/\Y (d+1) a) (L14 f k 0 fun e G H K L z d c g h=>U11 f p 0 e G H K L z d c g h fun a=>L14 a p 0 fun e A B C D F d c g h=>R (E (A15 e A B C D F d c g h)) a)) 0 f) fun J=>L4 l b 2 fun e=>B0 (e=1) (onP p0 fun c=>G10 l.drew (c.add 2) fun m=>L7 l.drew b 4 fun d=>C17 100 [Q m,.string d] l.drew fun e b f=>U6 f k 3 e fun a=>J () a) (J () l)
theorem nRecord.ok(Z0:nRecord.vc u U p0 p1 n0 n1 i0 i1 i2 i3 s0 s1):Calls P 116 #[Q p0,A3 i0 i1 i2 i3 s0 s1 p1 n0 n1] u U:=cok ⟨[],[(5,[(43,.inl .i64)])],[(4,[])],[]⟩ Tryz.func116 Z0
def nGet.vc:Prop:=N14 w i0 i1 fun c b=>L4 b.drew c 0 fun a=>onP p0 fun d=>G6 b.drew (d.add 3) fun k e f=>B0 ((↑e:Int)<=a) (R (E (A12 (.mk #[]) false)) b.drew) (onP p0 fun d=>G6 b.drew.drew (d.add 3) fun g e f=>L4 b.drew.drew c 0 fun a=>onP g fun d=>D1 a e/\G7 b.drew.drew (d.add (a.toNat*1)) fun h=>L4 b.drew.drew c 1 fun a=>C15 48 [Q h,I a] b.drew.drew fun i c o=>R (E (A12 i c)) o)
theorem nGet.ok(Z0:nGet.vc u U p0 i0 i1):Calls P 117 #[Q p0,A4 i0 i1] u U:=cok {} Tryz.func117 Z0
def nChanges1.vc:Prop:=N7 w i0 i1 s0 b0 fun e h=>N7 h i2 i3 s1 b1 fun f c=>L4 c e 0 fun a=>L4 c f 0 fun b=>inR .i64 (a-b)/\inR .i64 ((a-b)*120)/\L4 c e 1 fun d=>inR .i64 ((a-b)*120+d)/\L4 c f 1 fun g=>inR .i64 ((a-b)*120+d-g)/\R (E (I ((a-b)*120+d-g))) c
theorem nChanges1.ok(Z0:nChanges1.vc u U i0 i1 i2 i3 s0 s1 b0 b1):Calls P 119 #[A5 i0 i1 s0 b0,A5 i2 i3 s1 b1] u U:=cok {} Tryz.func119 Z0
def pPlace.vc:Prop:=onP p0 fun e=>D1 i0 n0/\G16 w (e.add (i0.toNat*5)) fun a m f p k o l=>N11 w 0 0 (.mk #[]) (.mk #[]) none 0 0 fun d q=>U8 q d 0 a m f p k o l fun g=>Am (fun f c=>br f (R (E (I 69)) c) (Am (fun f c=>br f (R (E (I 69)) c) (L4 c d 0 fun a=>B0 (40<=a) (R (E (I 42)) c) (B0 (1000<=i0) (R (E (I 43)) c) (R (E (I 0)) c)))) fun(J:Bool->World->Prop)=>B0 (0<i0) (L4 c.drew d 0 fun a=>B0 (a<1) (J true c.drew) (L4 c.drew d 0 fun a=>inR .i64 (i0-1)/\onP p0 fun e=>(0<=i0-1/\i0-1<(↑n0:Int))/\G1 c.drew (e.add (Int.toNat (i0-1)*5)) fun j=>inR .i64 (j+1)/\B0 (j+1<a) (J true c.drew) (L4 c.drew d 0 fun a=>inR .i64 (i0-1)/\onP p0 fun e=>(0<=i0-1/\i0-1<(↑n0:Int))/\G1 c.drew (e.add (Int.toNat (i0-1)*5)) fun n=>B0 (n<a) (inR .i64 (i0-1)/\onP p0 fun e=>(0<=i0-1/\i0-1<(↑n0:Int))/\G1 c.drew (Addr.add (e.add (Int.toNat (i0-1)*5)) 1) fun a=>J (decide (a=2)) c.drew) (J false c.drew)))) (J false c.drew))) fun(J:Bool->World->Prop)=>B0 (i0=0) (L4 g d 0 fun a=>B1 (a=0) (J true g) (L4 g d 1 fun a=>J (!decide (a=1)) g)) (J false g)
theorem pPlace.ok(Z0:pPlace.vc u U p0 n0 i0):Calls P 120 #[S p0 n0 n1,I i0] u U:=cok ⟨[],[],[(3,[(10,.inr 0)]),(5,[(23,.inr 0)])],[]⟩ Tryz.func120 Z0
def pParts.vc:Prop:=N11 w i0 i1 s0 s1 p0 n0 n1 fun d e=>Am (fun a b=>br a (L7 b d 3 fun a=>C3 179 [.string a] b fun c b=>R (E (I c)) b) (L4 b d 1 fun c=>B1 (c=1) (R (E (I 68)) b) (L7 b d 3 fun a=>B1 (a=.mk #[]) (R (E (I 68)) b) (L13 b d 0 fun c l a m f g h=>C3 180 [A16 c l a m f g h] b fun c b=>L11 b d 4 fun f g h=>AP (St:=Int×Int) (fun a b o=>B0 (a.2<(↑g:Int)) (Am (fun j b=>inR .i64 (a.2+1)/\o (j,a.2+1) b) fun(J:Int->World->Prop)=>onP f fun f=>D1 a.2 g/\G3 b (f.add (a.2.toNat*2)) fun j n=>N13 b (.mk #[]) (.mk #[]) fun d e=>U9 e d 0 j n fun k=>B0 (a.1=0) (L7 k d 1 fun a=>C3 179 [.string a] k fun c b=>J c b) (J a.1 k)) (R (E (I a.1)) b)) (c,0) b)))) fun(J:Bool->World->Prop)=>L4 e d 1 fun c=>B0 (c=2) (L7 e d 2 fun a=>B0 (a=.mk #[]) (L11 e d 4 fun f g h=>J (decide ((↑g:Int)=0)) e) (J false e)) (J false e)
theorem pParts.ok(Z0:pParts.vc u U p0 n0 n1 i0 i1 s0 s1):Calls P 121 #[A16 i0 i1 s0 s1 p0 n0 n1] u U:=cok ⟨[],[(7,[(3,.inl .i64),(38,.inl .i64)])],[(2,[(6,.inr 0)]),(11,[(3,.inl .i64)])],[]⟩ Tryz.func121 Z0
def snew.vc:Prop:=∀a b,New w (.cells (List.toArray (bigL P 162 [(2,I 4096)])) 162) a b->R (E (Q (some (.mk a 0 none)))) b
theorem snew.ok(Z0:snew.vc u U):Calls P 123 #[] u U:=cok {} Tryz.func123 Z0
def nValue.vc:Prop:=∃b c g f,S2B P 9 159 w (.string s0) (S b c g) f/\AP (St:=Int×Int) (fun s0 d h=>B0 (s0.2<(↑c:Int)) (onP b fun b=>((0:Int)<=s0.2/\s0.2<(↑c:Int))/\G25 d (b.add (s0.2.toNat*1)) fun e=>(0:Int)<=(8:Int)/\inR .i64 (s0.1*(2:Int)^min (Int.toNat (8:Int)) (IntKind.bits .i64))/\inR .i64 (s0.2+(1:Int))/\h (Vc.bits .or .i64 (s0.1*(2:Int)^min (Int.toNat (8:Int)) (IntKind.bits .i64)) (IntKind.wrap .i64 e),s0.2+(1:Int)) d) (R (E (I s0.1)) d)) ((0:Int),(0:Int)) f
theorem nValue.ok(Z0:nValue.vc u U s0):Calls P 124 #[.string s0] u U:=cok ⟨[],[(3,[(3,.inl .i64),(9,.inl .i64)])],[],[]⟩ Tryz.func124 Z0
def nWord.vc:Prop:=B0 ((↑(s0.size):Int)<(4:Int)) (R (E (.bool false)) w) (((0:Int)<=(1:Int)/\(1:Int)<=(3:Int)/\(3:Int)<=(↑(s0.size):Int))/\C3 124 [.string (ByteArray.extract s0 (Int.toNat (1:Int)) (Int.toNat (3:Int)))] w fun c b=>B0 (c<(1:Int)) (R (E (.bool false)) b) (B0 ((4000:Int)<c) (R (E (.bool false)) b) (AP (St:=PUnit) (fun r b q=>onP p0 fun a=>∃n d f,Ld P 106 b (a.add 2) (S n d f)/\B0 ((↑d:Int)<c) (onP p0 fun a=>∃h d f,Ld P 106 b (a.add 2) (S h d f)/\N12 b (.mk #[]) fun j e=>∃a l k m,App P #[106,106] 106 e (S h d f) (S (some (.mk j 0 none)) 1 1) (S a l k) m/\onP p0 fun o=>∃e,St P 106 m (o.add 2) (S a l k) e/\q () e) (onP p0 fun a=>∃h d f,Ld P 106 b.drew (a.add 2) (S h d f)/\inR .i64 (c-(1:Int))/\((0:Int)<=(3:Int)/\(3:Int)<=(↑(s0.size):Int))/\onP h fun a=>((0:Int)<=c-(1:Int)/\c-(1:Int)<(↑d:Int))/\Z1 b.drew (a.add (Int.toNat (c-(1:Int))*1)) (ByteArray.extract s0 (Int.toNat (3:Int)) (s0.size)) fun e=>R (E (.bool true)) e)) () b)))
theorem nWord.ok(Z0:nWord.vc u U p0 s0):Calls P 125 #[Q p0,.string s0] u U:=cok ⟨[],[(6,[])],[],[]⟩ Tryz.func125 Z0
def fHead.vc:Prop:=B0 ((↑(s0.size):Int)<6) (R (E (A17 0 0 0 false)) w) (B0 (906<(↑(s0.size):Int)) (R (E (A17 0 0 0 false)) w) (∃h j i k,S2B P 9 159 w (.string s0) (S h j i) k/\∀c l,New k (.cells #[S h j i,.bool false] 266) c l->C3 183 [Q (some (.mk c 0 none)),I 4] l fun d a=>C3 183 [Q (some (.mk c 0 none)),I 1] a fun e a=>C3 183 [Q (some (.mk c 0 none)),I 1] a fun f a=>B0 (d<1) (R (E (A17 0 0 0 false)) a) (B0 (2147483647<d) (R (E (A17 0 0 0 false)) a) (B0 (f<=e) (R (E (A17 0 0 0 false)) a) (R (E (A17 d e f true)) a)))))
theorem fHead.ok(Z0:fHead.vc u U s0):Calls P 126 #[.string s0] u U:=cok {} Tryz.func126 Z0
def yName.vc:Prop:=B1 (s0=.mk #[]) (B0 ((↑(s0.size):Int)<=60) (∀b d,New w (.cells #[Value.func (.func 185) #[] #[]] 269) b d->C3 184 [.string s0,S (some (.mk b 0 none)) 1 1] d fun c f=>R (E (.bool (decide (0<c)))) f) (R (E (.bool false)) w)) (R (E (.bool false)) w)
theorem yName.ok(Z0:yName.vc u U s0):Calls P 127 #[.string s0] u U:=cok {} Tryz.func127 Z0
def fDecode.vc:Prop:=N16 w 0 0 0 0 0 0 (.mk #[]) none 0 0 fun i c=>C19 192 [S p0 n0 n1] c fun e h f C a=>br (!C) (U11 a i 0 0 0 0 0 0 0 (.mk #[]) none 0 0 fun c=>L14 c i 0 fun b q r s t v d e h f=>R (E (A18 b q r s t v d e h f 160)) c) (∀j c,New a (.cells #[S e h f,.bool false] 266) j c->C3 183 [Q (some (.mk j 0 none)),I 4] c fun b a=>C3 183 [Q (some (.mk j 0 none)),I 4] a fun q a=>N16 a 0 0 0 0 0 0 (.mk #[]) none 0 0 fun k c=>U11 c k 0 b q 0 0 0 0 (.mk #[]) none 0 0 fun X=>C3 183 [Q (some (.mk j 0 none)),I 8] X fun b a=>C3 183 [Q (some (.mk j 0 none)),I 8] a fun r a=>U3 a k 4 b r fun c=>C3 183 [Q (some (.mk j 0 none)),I 1] c fun b a=>C3 183 [Q (some (.mk j 0 none)),I 2] a fun s a=>U6 a k 2 b fun c=>U6 c k 3 s fun Y=>C3 183 [Q (some (.mk j 0 none)),I 2] Y fun b a=>C18 193 [Q (some (.mk j 0 none)),I b] a fun d a=>U14 a k 6 d fun c=>C3 183 [Q (some (.mk j 0 none)),I 1] c fun b a=>AP (St:=Int) (fun d a A=>B0 (d<b) (C3 183 [Q (some (.mk j 0 none)),I 2] a fun b a=>N18 a 0 (.mk #[]) fun i c=>U15 c i 0 b (.mk #[]) fun Z=>C3 183 [Q (some (.mk j 0 none)),I 2] Z fun b a=>C18 193 [Q (some (.mk j 0 none)),I b] a fun x a=>U14 a i 1 x fun c=>L16 c k 7 fun e h f=>∃b y,Ld P 260 c (.mk i 0 none) (.agg #[I b,.string y])/\N18 c b y fun i aa=>∃B W V c,App P #[202,202] 202 aa (S e h f) (S (some (.mk i 0 none)) 1 1) (S B W V) c/\∃ab,St P 202 c (.mk k 7 none) (S B W V) ab/\inR .i64 (d+1)/\A (d+1) ab) (L14 a k 0 fun b t v L M N d e h f=>BL P 115 [A15 b t v L M N d e h f] a fun g a=>∃e h f b,g=E (A13 e h f b)/\Am (fun d a=>br d (U11 a i 0 0 0 0 0 0 0 (.mk #[]) none 0 0 fun c=>L14 c i 0 fun b p l m n o d e h f=>R (E (A18 b p l m n o d e h f 160)) c) (AP (St:=Int) (fun d a A=>B0 (d<(↑n0:Int)) (onP e fun e=>D1 d h/\G2 a.drew (e.add (d.toNat*1)) fun x=>onP p0 fun e=>D1 d n0/\G2 a.drew (e.add (d.toNat*1)) fun y=>B1 (x=y) (U11 a.drew i 0 0 0 0 0 0 0 (.mk #[]) none 0 0 fun c=>L14 c i 0 fun b p l m n o d e h f=>R (E (A18 b p l m n o d e h f 160)) c) (inR .i64 (d+1)/\A (d+1) a.drew)) (L14 a k 0 fun b p l m n o d e h f=>U11 a i 0 b p l m n o d e h f fun c=>L14 c i 0 fun b D F G H K d e h f=>R (E (A18 b D F G H K d e h f 0)) c)) 0 a)) fun(J:Bool->World->Prop)=>L5 a j 1 fun i=>br i (J true a) (∃e O f,Ld P 159 a (.mk j 0 none) (S e O f)/\B0 (0<(↑O:Int)) (J true a) (B1 (b=0) (J true a) (J (!decide ((↑h:Int)=(↑n0:Int))) a))))) 0 a)
theorem fDecode.ok(Z0:fDecode.vc u U p0 n0 n1):Calls P 131 #[S p0 n0 n1] u U:=cok ⟨[],[(11,[(53,.inl .i64)]),(20,[(101,.inl .i64)])],[(18,[(97,.inr 0)])],[]⟩ Tryz.func131 Z0
def nNodes1.vc:Prop:=N16 w i0 i1 i2 i3 i4 i5 s0 p0 n0 n1 fun b f=>N16 f i6 i7 i8 i9 i10 i11 s1 p1 n2 n3 fun c a=>L4 a b 4 fun d=>L4 a c 4 fun e=>B0 (d<e) (R (E (I (-1:Int))) a) (R (E (I 1)) a)
theorem nNodes1.ok(Z0:nNodes1.vc u U p0 p1 n0 n1 n2 n3 i0 i1 i2 i3 i4 i5 i6 i7 i8 i9 i10 i11 s0 s1):Calls P 133 #[A15 i0 i1 i2 i3 i4 i5 s0 p0 n0 n1,A15 i6 i7 i8 i9 i10 i11 s1 p1 n2 n3] u U:=cok {} Tryz.func133 Z0
def sLevels.vc:Prop:=AP (St:=(Option Addr×Nat×Nat)×(Option Addr×Nat×Nat)×Int) (fun a b v=>B0 (a.2.2<(↑n0:Int)) (onP p0 fun h=>D1 a.2.2 n0/\G19 b (h.add (a.2.2.toNat*2)) fun c y=>N3 b 0 0 fun d e=>U3 e d 0 c y fun B=>Am (St:=Option Addr×Nat×Nat) (fun f b=>Am (fun C b=>br C (R (E (A21 none 0 0 false)) b) (Am (fun D b=>br D (R (E (A21 none 0 0 false)) b) (B0 (0<(↑f.2.1:Int)) (L3 b.drew d 0 fun c g=>inR .i64 ((↑f.2.1:Int)-1)/\onP f.1 fun h=>(0<=(↑f.2.1:Int)-1/\(↑f.2.1:Int)-1<(↑f.2.1:Int))/\G19 b.drew (h.add (Int.toNat ((↑f.2.1:Int)-1)*2)) fun j o=>C2 197 [A4 c g,A4 j o] b.drew fun i b=>br (!i) (R (E (A21 none 0 0 false)) b) (N9 b (↑f.2.1:Int) fun m e=>∃h r p k,App P #[59,59] 59 e (S a.1.1 a.1.2.1 a.1.2.2) (S (some (.mk m 0 none)) 1 1) (S h r p) k/\L3 k d 0 fun c z=>N3 k c z fun d e=>∃l s q t,App P #[187,187] 187 e (S f.1 f.2.1 f.2.2) (S (some (.mk d 0 none)) 1 1) (S l s q) t/\inR .i64 (a.2.2+1)/\v ((h,r,p),(l,s,q),a.2.2+1) t)) (N9 b.drew (↑f.2.1:Int) fun i e=>∃h r p k,App P #[59,59] 59 e (S a.1.1 a.1.2.1 a.1.2.2) (S (some (.mk i 0 none)) 1 1) (S h r p) k/\L3 k d 0 fun c g=>N3 k c g fun d e=>∃l s q t,App P #[187,187] 187 e (S f.1 f.2.1 f.2.2) (S (some (.mk d 0 none)) 1 1) (S l s q) t/\inR .i64 (a.2.2+1)/\v ((h,r,p),(l,s,q),a.2.2+1) t))) fun(J:Bool->World->Prop)=>B0 (0<a.2.2) (L4 b.drew d 0 fun c=>inR .i64 (a.2.2-1)/\onP p0 fun h=>(0<=a.2.2-1/\a.2.2-1<(↑n0:Int))/\G1 b.drew (h.add (Int.toNat (a.2.2-1)*2)) fun g=>J (decide (c<=g)) b.drew) (J false b.drew))) fun(J:Bool->World->Prop)=>L4 b d 0 fun c=>L4 b d 1 fun g=>∀i e,New b (.cells #[I c,I g] 3) i e->C2 196 [S (some (.mk i 0 none)) 2 2] e fun m b=>br (!m) (J true b) (L4 b d 0 fun c=>L4 b d 1 fun j=>J (decide (j<=c)) b)) fun J=>AP (St:=Option Addr×Nat×Nat) (fun a b v=>B0 (0<(↑a.2.1:Int)) (inR .i64 ((↑a.2.1:Int)-1)/\onP a.1 fun h=>(0<=(↑a.2.1:Int)-1/\(↑a.2.1:Int)-1<(↑a.2.1:Int))/\G19 b.drew (h.add (Int.toNat ((↑a.2.1:Int)-1)*2)) fun c g=>L3 b.drew d 0 fun j o=>C2 195 [A4 c g,A4 j o] b.drew fun d b=>br d (inR .i64 ((↑a.2.1:Int)-1)/\inR .i64 ((↑a.2.1:Int)-1)/\(0<=(↑a.2.1:Int)-1/\(↑a.2.1:Int)-1<=(↑a.2.1:Int)-1/\(↑a.2.1:Int)-1<=(↑a.2.2:Int))/\v (a.1,Int.toNat ((↑a.2.1:Int)-1),Int.toNat ((↑a.2.1:Int)-1)) b) (J (a.1,a.2.1,a.2.2) b)) (J (a.1,a.2.1,a.2.2) b.drew)) (a.2.1.1,a.2.1.2.1,a.2.1.2.2) B) (R (E (A21 a.1.1 a.1.2.1 a.1.2.2 true)) b)) ((none,0,0),(none,0,0),0) w
theorem sLevels.ok(Z0:sLevels.vc u U p0 n0):Calls P 134 #[S p0 n0 n1] u U:=cok ⟨[],[(4,[(4,.inr 3),(5,.inr 3),(10,.inl .i64)]),(6,[(5,.inr 3)])],[(8,[(5,.inr 3)]),(9,[(36,.inr 0)]),(11,[(51,.inr 0)])],[]⟩ Tryz.func134 Z0
def nItem.vc:Prop:=N16 w i0 i1 i2 i3 i4 i5 s0 p1 n0 n1 fun e b=>N11 b 0 0 (.mk #[]) (.mk #[]) none 0 0 fun s r=>L4 r e 2 fun c=>L7 r e 6 fun f=>N11 r 0 0 (.mk #[]) (.mk #[]) none 0 0 fun j b=>U8 b j 0 i6 c (.mk #[]) f none 0 0 fun k=>Am (fun f d=>L16 d e 7 fun a g h=>AP (St:=Bool×Int) (fun f d F=>B0 (f.2<(↑g:Int)) (onP a fun a=>D1 f.2 g/\∃c m,Ld P 260 d (a.add (f.2.toNat*2)) (.agg #[I c,.string m])/\N18 d 0 (.mk #[]) fun e b=>U15 b e 0 c m fun p=>onP p0 fun a=>G20 p.drew a fun i=>onP i fun a=>G10 p.drew (a.add 2) fun i=>L4 p.drew e 0 fun c=>C15 198 [Q i,I c] p.drew fun n v d=>Am (fun q d=>L11 d j 4 fun a g h=>L7 d e 1 fun o=>N13 d n o fun e b=>∃t A z B,App P #[69,69] 69 b (S a g h) (S (some (.mk e 0 none)) 1 1) (S t A z) B/\U7 B j 4 t A z fun b=>inR .i64 (f.2+1)/\F (q,f.2+1) b) fun(J:Bool->World->Prop)=>br f.1 (J v d) (J false d)) (L11 d j 4 fun a g h=>C1 199 [S a g h,Value.func (.func 200) #[] #[]] d fun d=>L13 d j 0 fun c x m n a g h=>U8 d s 0 c x m n a g h fun b=>L13 b s 0 fun c y q o a g h=>R (E (.tuple #[(A16 c y q o a g h),.bool f.1])) b)) (f,0) d) fun(J:Bool->World->Prop)=>L4 k e 2 fun c=>B0 (c=1) (onP p0 fun a=>G20 k.drew a fun i=>onP i fun a=>G10 k.drew (a.add 2) fun i=>L4 k.drew e 3 fun c=>C15 198 [Q i,I c] k.drew fun f e d=>U14 d j 2 f fun b=>J e b) (J true k)
theorem nItem.ok(Z0:nItem.vc u U p0 p1 n0 n1 i0 i1 i2 i3 i4 i5 i6 s0):Calls P 135 #[Q p0,A15 i0 i1 i2 i3 i4 i5 s0 p1 n0 n1,I i6] u U:=cok ⟨[],[(6,[(9,.inr 0),(40,.inl .i64)])],[(5,[(9,.inr 0)]),(10,[(9,.inr 0)])],[]⟩ Tryz.func135 Z0
def gRestore.vc:Prop:=B1 ((↑n2:Int)=(↑n0:Int)) (R (E (A8 none 1)) w) (B0 (i0<1) (R (E (A8 none 1)) w) (B0 (2147483647<i0) (R (E (A8 none 1)) w) (C4 37 [] w fun f a=>onP f fun l=>Z2 a (l.add 2) i0 fun g=>∀h q,New g (.map #[] 0) h q->AP (St:=Int) (fun d a s=>B0 (d<(↑n2:Int)) (onP p1 fun l=>D1 d n2/\G1 a (l.add (d.toNat*1)) fun b=>B0 (b<1) (R (E (A8 none 1)) a) (B0 (i0<=b) (R (E (A8 none 1)) a) (∃c,Lk P 281 false a (.map (some h)) (I b) (I c)/\B0 (0<c) (R (E (A8 none 1)) a) (∃m,Lk P 281 false a (.map (some h)) (I b) (I m)/\inR .i64 (m+1)/\∃g,MUp P 281 a (.map (some h)) (I b) (I (m+1)) g/\inR .i64 (d+1)/\s (d+1) g)))) (B0 ((↑n0:Int)=0) (R (E (A8 f 0)) a) (C10 62 [S p0 n0 n1] a fun b c a=>B1 (c=0) (R (E (A8 none c)) a) (C3 63 [Q f,I 0,I 0,S p0 n0 n1,S p1 n2 n3] a fun b a=>R (E (A8 f 0)) a)))) 0 q)))
theorem gRestore.ok(Z0:gRestore.vc u U p0 p1 n0 n1 n2 n3 i0):Calls P 136 #[S p0 n0 n1,S p1 n2 n3,I i0] u U:=cok ⟨[],[(7,[(35,.inl .i64)])],[],[]⟩ Tryz.func136 Z0
def gBelow1.vc:Prop:=∀h b,New w (.cells #[Value.func (.yield n0) #[] #[]] 104) h b->∃f,(onP p0 fun c=>Ld P 49 b.drew c (Q f))/\onP f fun c=>G12 b.drew c fun x=>∃e,(onP p1 fun c=>Ld P 3 b.drew c (I e))/\∃f n,Lk P 117 true b.drew (.map x) (I e) (A10 f n)/\br (!n) (∃y,HY [] b.drew y/\R (E (.tuple #[])) y) (∃g,Ld P 104 b.drew (.mk h 0 none) g/\∃e,(onP p1 fun c=>Ld P 3 b.drew c (I e))/\∃v,(onP p2 fun c=>Ld P 3 b.drew c (I v))/\Ee P g [I e,I v] b.drew fun i a=>∃o,i=E (.bool o)/\br (!o) (∃b,HY [] a b/\R (E (.tuple #[])) b) (onP f fun c=>G13 a (c.add 7) fun m n0 B=>AP (St:=Int×List Nat) (fun d a G=>B0 (d.1<(↑n0:Int)) (onP m fun c=>D1 d.1 n0/\G1 a (c.add (d.1.toNat*1)) fun e=>∃f,(onP p0 fun c=>Ld P 49 a c (Q f))/\∃l,(onP p2 fun c=>Ld P 3 a c (I l))/\inR .i64 (l+1)/\BL P 69 [Q f,I e,I (l+1)] a fun i a=>∃g,i=E g/\∃(k:FuncId),∃(q:Array Value),∃(p:Array Value),g=Value.func (.func k) q p/\GV P k/\E5 P k (Array.toList q) (Array.toList p) (fun(d:Int×Int)=>[I d.1,I d.2]) (fun(d:Int×Int)(a:World)(A:World->(World->Prop)->Prop)(C F:World->Prop)(K:Nat->World->Prop)=>A a fun z=>∃g,Ld P 104 z (.mk h 0 none) g/\Ee P g [I d.1,I d.2] z fun i a=>∃h,i=E (.bool h)/\br (!h) (F a) (C a)) a (fun D a=>inR .i64 (d.1+1)/\G (d.1+1,D::d.2) a) (fun D a=>∃b,HY (D::d.2) a b/\R (E (.tuple #[])) b) fun(H D:Nat)(a:World)=>False) (∃b,HY d.2 a b/\R (E (.tuple #[])) b)) (0,[]) a))
theorem gBelow1.ok(Z0:gBelow1.vc u U p0 p1 p2 n0):Calls P 137 #[.func (.yield n0) #[] #[],Q p0,Q p1,Q p2] u U:=cok ⟨[],[(4,[(34,.inl .i64)])],[],[(9,[(43,.inl .i64),(44,.inl .i64)])]⟩ Tryz.func137 Z0
def rpOne.vc:Prop:=onP p0 fun d=>D1 i0 n0/\G16 w (d.add (i0.toNat*5)) fun a r h s q g f=>N11 w 0 0 (.mk #[]) (.mk #[]) none 0 0 fun e t=>U8 t e 0 a r h s q g f fun b=>B0 (i0=0) (L4 b e 0 fun a=>B1 (a=0) (R (E (I 69)) b) (L4 b e 1 fun a=>B1 (a=1) (R (E (I 69)) b) (B0 (0<i0) (L4 b.drew e 0 fun a=>B0 (a<1) (R (E (I 69)) b.drew) (L4 b.drew e 0 fun a=>inR .i64 (a-1)/\inR .i64 (i0-1)/\onP p0 fun d=>(0<=i0-1/\i0-1<(↑n0:Int))/\G1 b.drew (d.add (Int.toNat (i0-1)*5)) fun k=>B0 (k<a-1) (R (E (I 69)) b.drew) (L4 b.drew e 0 fun a=>inR .i64 (a-1)/\inR .i64 (i0-1)/\onP p0 fun d=>(0<=i0-1/\i0-1<(↑n0:Int))/\G1 b.drew (d.add (Int.toNat (i0-1)*5)) fun p=>B0 (a-1=p) (inR .i64 (i0-1)/\onP p0 fun d=>(0<=i0-1/\i0-1<(↑n0:Int))/\G1 b.drew (Addr.add (d.add (Int.toNat (i0-1)*5)) 1) fun a=>B0 (a=2) (R (E (I 69)) b.drew) (L4 b.drew e 0 fun a=>B0 (40<=a) (R (E (I 42)) b.drew) (B0 (1000<=i0) (R (E (I 43)) b.drew) (L13 b.drew e 0 fun a l h i d g f=>C3 202 [A16 a l h i d g f] b.drew fun a m=>R (E (I a)) m)))) (L4 b.drew e 0 fun a=>B0 (40<=a) (R (E (I 42)) b.drew) (B0 (1000<=i0) (R (E (I 43)) b.drew) (L13 b.drew e 0 fun a l h i d g f=>C3 202 [A16 a l h i d g f] b.drew fun a m=>R (E (I a)) m)))))) (L4 b.drew e 0 fun a=>B0 (40<=a) (R (E (I 42)) b.drew) (B0 (1000<=i0) (R (E (I 43)) b.drew) (L13 b.drew e 0 fun a k h i d g f=>C3 202 [A16 a k h i d g f] b.drew fun a m=>R (E (I a)) m)))))) (B0 (0<i0) (L4 b.drew e 0 fun a=>B0 (a<1) (R (E (I 69)) b.drew) (L4 b.drew e 0 fun a=>inR .i64 (a-1)/\inR .i64 (i0-1)/\onP p0 fun d=>(0<=i0-1/\i0-1<(↑n0:Int))/\G1 b.drew (d.add (Int.toNat (i0-1)*5)) fun k=>B0 (k<a-1) (R (E (I 69)) b.drew) (L4 b.drew e 0 fun a=>inR .i64 (a-1)/\inR .i64 (i0-1)/\onP p0 fun d=>(0<=i0-1/\i0-1<(↑n0:Int))/\G1 b.drew (d.add (Int.toNat (i0-1)*5)) fun p=>B0 (a-1=p) (inR .i64 (i0-1)/\onP p0 fun d=>(0<=i0-1/\i0-1<(↑n0:Int))/\G1 b.drew (Addr.add (d.add (Int.toNat (i0-1)*5)) 1) fun a=>B0 (a=2) (R (E (I 69)) b.drew) (L4 b.drew e 0 fun a=>B0 (40<=a) (R (E (I 42)) b.drew) (B0 (1000<=i0) (R (E (I 43)) b.drew) (L13 b.drew e 0 fun a l h i d g f=>C3 202 [A16 a l h i d g f] b.drew fun a m=>R (E (I a)) m)))) (L4 b.drew e 0 fun a=>B0 (40<=a) (R (E (I 42)) b.drew) (B0 (1000<=i0) (R (E (I 43)) b.drew) (L13 b.drew e 0 fun a l h i d g f=>C3 202 [A16 a l h i d g f] b.drew fun a m=>R (E (I a)) m)))))) (L4 b.drew e 0 fun a=>B0 (40<=a) (R (E (I 42)) b.drew) (B0 (1000<=i0) (R (E (I 43)) b.drew) (L13 b.drew e 0 fun a k h i d g f=>C3 202 [A16 a k h i d g f] b.drew fun a m=>R (E (I a)) m))))
theorem rpOne.ok(Z0:rpOne.vc u U p0 n0 i0):Calls P 138 #[S p0 n0 n1,I i0] u U:=cok {} Tryz.func138 Z0
end
section
variable(w:World)(R:Ending->World->Prop){u:World}{U:Ending->World->Prop}(p0 p1 p2:Option Addr)(n0 n1 n2 n3:Nat)(i0 i1 i2 i3 i4 i5 i6 i7 i8 i9 i10 i11:Int)(s0 s1 s2 s3:ByteArray)(b0 b1:Bool)(m0:Option Nat)(v0:Value)
def two.vc:Prop:=onP p0 fun b=>((0:Int)<=i0/\i0<(↑(4096:Nat):Int))/\G25 w.drew (b.add (i0.toNat*1)) fun c=>(0:Int)<=(8:Int)/\inR .i64 (IntKind.wrap .i64 c*(2:Int)^min (Int.toNat (8:Int)) (IntKind.bits .i64))/\inR .i64 (i0+(1:Int))/\onP p0 fun b=>((0:Int)<=i0+(1:Int)/\i0+(1:Int)<(↑(4096:Nat):Int))/\G25 w.drew (b.add (Int.toNat (i0+(1:Int))*1)) fun d=>R (E (I (Vc.bits .or .i64 (IntKind.wrap .i64 c*(2:Int)^min (Int.toNat (8:Int)) (IntKind.bits .i64)) (IntKind.wrap .i64 d)))) w.drew
theorem two.ok(Z0:two.vc u U p0 i0):Calls P 146 #[Q p0,I i0] u U:=cok {} Tryz.func146 Z0
def gElement.vc:Prop:=onP p0 fun a=>G12 w a fun e=>∃b c,Lk P 117 true w (.map e) (I i0) (A10 b c)/\br (!c) (R (E (A8 none 60)) w) (onP b fun a=>G1 w (a.add 2) fun d=>B1 (d=1) (R (E (A8 none 68)) w) (R (E (A8 b 0)) w))
theorem gElement.ok(Z0:gElement.vc u U p0 i0):Calls P 147 #[Q p0,I i0] u U:=cok {} Tryz.func147 Z0
def gForest.vc:Prop:=B0 ((↑n0:Int)=0) (R (E (A7 0 40)) w) (AP (St:=Int×Int) (fun b c v=>B0 (b.2<(↑n0:Int)) (onP p0 fun d=>D1 b.2 n0/\G16 c (d.add (b.2.toNat*5)) fun a t x y s i g=>N11 c 0 0 (.mk #[]) (.mk #[]) none 0 0 fun e f=>U8 f e 0 a t x y s i g fun o=>Am (St:=Int×Bool) (fun r c=>L4 c e 0 fun a=>B0 (a<0) (R (E (A7 0 69)) c) (L4 c e 0 fun a=>B0 (r.1<a) (R (E (A7 0 69)) c) (br r.2 (L4 c e 0 fun a=>B0 (a=r.1) (R (E (A7 0 69)) c) (U6 c e 0 1 fun f=>L13 f e 0 fun a h m n d i g=>∀e p,New f (.cells #[I 0,I 1,.string (ByteArray.mk #[(120:UInt8)]),.string (.mk #[]),S none 0 0,I a,I h,.string m,.string n,S d i g] 123) e p->C10 62 [S (some (.mk e 0 none)) 2 2] p fun a j c=>B1 (j=0) (R (E (A7 0 j)) c) (onP p0 fun d=>D1 b.2 n0/\G1 c (d.add (b.2.toNat*5)) fun a=>inR .i64 (b.2+1)/\v (max b.1 a,b.2+1) c))) (U6 c e 0 1 fun f=>L13 f e 0 fun a h m n d i g=>∀e p,New f (.cells #[I 0,I 1,.string (ByteArray.mk #[(120:UInt8)]),.string (.mk #[]),S none 0 0,I a,I h,.string m,.string n,S d i g] 123) e p->C10 62 [S (some (.mk e 0 none)) 2 2] p fun a j c=>B1 (j=0) (R (E (A7 0 j)) c) (onP p0 fun d=>D1 b.2 n0/\G1 c (d.add (b.2.toNat*5)) fun a=>inR .i64 (b.2+1)/\v (max b.1 a,b.2+1) c))))) fun J=>B0 (0<b.2) (inR .i64 (b.2-1)/\onP p0 fun d=>(0<=b.2-1/\b.2-1<(↑n0:Int))/\G1 o.drew (d.add (Int.toNat (b.2-1)*5)) fun a=>inR .i64 (a+1)/\inR .i64 (b.2-1)/\onP p0 fun d=>(0<=b.2-1/\b.2-1<(↑n0:Int))/\G1 o.drew (Addr.add (d.add (Int.toNat (b.2-1)*5)) 1) fun h=>J (a+1,decide (h=2)) o.drew) (J (0,false) o)) (R (E (A7 b.1 0)) c)) (0,0) w)
theorem gForest.ok(Z0:gForest.vc u U p0 n0):Calls P 148 #[S p0 n0 n1] u U:=cok ⟨[],[(5,[(4,.inl .i64),(16,.inl .i64)])],[(10,[(7,.inl .i64),(8,.inr 0)])],[]⟩ Tryz.func148 Z0
def gLevel.vc:Prop:=AP (St:=Int×Int) (fun f a i=>onP p0 fun b=>G12 a b fun d=>∃e,Lk P 117 false a (.map d) (I f.1) (Q e)/\onP e fun b=>G1 a (b.add 1) fun c=>B1 (c=0) (onP p0 fun b=>G12 a b fun d=>∃e,Lk P 117 false a (.map d) (I f.1) (Q e)/\onP e fun b=>G1 a (b.add 1) fun c=>inR .i64 (f.2+1)/\i (c,f.2+1) a) (R (E (I f.2)) a)) (i0,0) w
theorem gLevel.ok(Z0:gLevel.vc u U p0 i0):Calls P 149 #[Q p0,I i0] u U:=cok ⟨[],[(2,[(1,.inl .i64),(5,.inl .i64)])],[],[]⟩ Tryz.func149 Z0
def gCut.vc:Prop:=onP p0 fun a=>G12 w.drew a fun k=>onP p0 fun a=>G12 w.drew a fun l=>∃e,Lk P 117 false w.drew (.map l) (I i0) (Q e)/\onP e fun a=>G1 w.drew (a.add 1) fun d=>∃e,Lk P 117 false w.drew (.map k) (I d) (Q e)/\onP e fun a=>G13 w.drew (a.add 7) fun h c b=>C3 215 [S h c b,I i0] w.drew fun d f=>onP e fun a=>G13 f (a.add 7) fun i c b=>inR .i64 (d+1)/\C7 216 [S i c b,I d,I (d+1)] f fun a c b f=>onP e fun o=>Z3 f (o.add 7) a c b fun n=>R (E (.tuple #[])) n
theorem gCut.ok(Z0:gCut.vc u U p0 i0):Calls P 150 #[Q p0,I i0] u U:=cok {} Tryz.func150 Z0
def gText.vc:Prop:=C3 217 [.string s0] w fun b a=>B0 (b<0) (R (E (I 64)) a) (B0 (1500<(↑(s0.size):Int)) (R (E (I 67)) a) (R (E (I 0)) a))
theorem gText.ok(Z0:gText.vc u U s0):Calls P 151 #[.string s0] u U:=cok {} Tryz.func151 Z0
def gFind.vc:Prop:=onP p0 fun f=>G14 w (f.add 6) fun a e c=>C17 218 [S a e c,.string s0,Value.func (.func 219) #[] #[]] w fun d b j=>R (E (A1 d b)) j
theorem gFind.ok(Z0:gFind.vc u U p0 s0):Calls P 152 #[Q p0,.string s0] u U:=cok {} Tryz.func152 Z0
def xAt.vc:Prop:=N15 w (.mk #[]) 0 fun d e=>B0 (i0<1) (U13 e d 0 (.mk #[]) 0 fun c=>∃b a,Ld P 167 c (.mk d 0 none) (.agg #[.string b,I a])/\R (E (.agg #[.string b,I a])) c) (onP p0 fun g=>G17 e g fun l h i=>B0 ((↑h:Int)<i0) (U13 e d 0 (.mk #[]) 0 fun c=>∃b a,Ld P 167 c (.mk d 0 none) (.agg #[.string b,I a])/\R (E (.agg #[.string b,I a])) c) (onP p0 fun g=>G17 e g fun j h i=>inR .i64 (i0-1)/\onP j fun g=>(0<=i0-1/\i0-1<(↑h:Int))/\∃b a,Ld P 167 e (g.add (Int.toNat (i0-1)*2)) (.agg #[.string b,I a])/\U13 e d 0 b a fun c=>∃b a,Ld P 167 c (.mk d 0 none) (.agg #[.string b,I a])/\R (E (.agg #[.string b,I a])) c))
theorem xAt.ok(Z0:xAt.vc u U p0 i0):Calls P 157 #[Q p0,I i0] u U:=cok {} Tryz.func157 Z0
def xFree.vc:Prop:=AP (St:=Int) (fun a b j=>onP p0 fun c=>G17 b c fun i d e=>B0 (a<=(↑d:Int)) (onP p0 fun c=>G17 b c fun f d e=>inR .i64 (a-1)/\onP f fun c=>(0<=a-1/\a-1<(↑d:Int))/\G1 b (Addr.add (c.add (Int.toNat (a-1)*2)) 1) fun h=>B0 (h=0) (R (E (I a)) b) (inR .i64 (a+1)/\j (a+1) b)) (R (E (I a)) b)) 1 w
theorem xFree.ok(Z0:xFree.vc u U p0):Calls P 158 #[Q p0] u U:=cok ⟨[],[(2,[(3,.inl .i64)])],[],[]⟩ Tryz.func158 Z0
def nAt.vc:Prop:=N17 w i0 b0 fun d a=>L4 a d 0 fun b=>∃g h e,Lk P 80 true a (.map m0) (I b) (A9 g h e)/\N3 a 0 0 fun c i=>U3 i c 0 g h fun a=>br (!e) (R (E (I (-1:Int))) a) (L5 a d 1 fun f=>br f (L4 a c 1 fun b=>R (E (I b)) a) (L4 a c 0 fun b=>R (E (I b)) a))
theorem nAt.ok(Z0:nAt.vc u U i0 b0 m0):Calls P 161 #[.map m0,A20 i0 b0] u U:=cok {} Tryz.func161 Z0
def sBetween.vc:Prop:=Am (fun a b=>br a (R (E (A21 none 0 0 false)) b) (AP (St:=(Option Addr×Nat×Nat)×Int) (fun a b m=>B0 (a.2<=i2) (inR .i64 (i1-i0)/\inR .i64 (i2+1)/\C3 224 [I i0,I (i1-i0),I a.2,I (i2+1)] b fun j b=>N9 b j fun d g=>∃i i2 k l,App P #[59,59] 59 g (S a.1.1 a.1.2.1 a.1.2.2) (S (some (.mk d 0 none)) 1 1) (S i i2 k) l/\inR .i64 (a.2+1)/\m ((i,i2,k),a.2+1) l) (R (E (A21 a.1.1 a.1.2.1 a.1.2.2 true)) b)) ((none,0,0),1) b)) fun(J:Bool->World->Prop)=>∀d g,New w (.cells #[I i0,I i1] 3) d g->C2 196 [S (some (.mk d 0 none)) 2 2] g fun d b=>br (!d) (J true b) (B0 (i2<0) (J true b) (B0 (4096<i2) (J true b) (inR .i64 (i1-i0)/\J (decide (i1-i0<=i2)) b)))
theorem sBetween.ok(Z0:sBetween.vc u U i0 i1 i2):Calls P 162 #[I i0,I i1,I i2] u U:=cok ⟨[],[(5,[(8,.inr 3),(9,.inl .i64)])],[(2,[(29,.inr 0)])],[]⟩ Tryz.func162 Z0
def nLay.vc:Prop:=N17 w i0 b0 fun e a=>L4 a e 0 fun c=>∃j k,Lk P 80 false a (.map m0) (I c) (A4 j k)/\N3 a 0 0 fun d m=>U3 m d 0 j k fun a=>L5 a e 1 fun i=>br i (U6 a d 1 i1 fun b=>L4 b e 0 fun c=>L3 b d 0 fun f g=>∃a,MUp P 80 b (.map m0) (I c) (A4 f g) a/\R (E (.tuple #[])) a) (U6 a d 0 i1 fun b=>L4 b e 0 fun c=>L3 b d 0 fun f g=>∃a,MUp P 80 b (.map m0) (I c) (A4 f g) a/\R (E (.tuple #[])) a)
theorem nLay.ok(Z0:nLay.vc u U i0 i1 b0 m0):Calls P 163 #[.map m0,A20 i0 b0,I i1] u U:=cok {} Tryz.func163 Z0
def nBounds1.vc:Prop:=AP (St:=PUnit) (fun D e C=>∃a b c,(onP p0 fun f=>Ld P 185 e f (S a b c))/\B0 (i0<(↑b:Int)) (∃a b c,(onP p1 fun f=>Ld P 185 e.drew f (S a b c))/\∃f o y,(onP p0 fun a=>Ld P 185 e.drew a (S f o y))/\∃t h z,(onP p0 fun a=>Ld P 185 e.drew a (S t h z))/\inR .i64 ((↑h:Int)-1)/\onP f fun v=>(0<=(↑h:Int)-1/\(↑h:Int)-1<(↑o:Int))/\G24 e.drew (v.add (Int.toNat ((↑h:Int)-1)*2)) fun n l=>N17 e.drew n l fun m d=>(onP p1 fun i=>Ld P 185 d i (S a b c))/\∃i q p r,App P #[185,185] 185 d (S a b c) (S (some (.mk m 0 none)) 1 1) (S i q p) r/\onP p1 fun a=>∃d,St P 185 r a (S i q p) d/\∃a b c,(onP p0 fun j=>Ld P 185 d j (S a b c))/\∃j b A,(onP p0 fun a=>Ld P 185 d a (S j b A))/\inR .i64 ((↑b:Int)-1)/\(0<=(↑b:Int)-1/\(↑b:Int)-1<=(↑c:Int))/\onP p0 fun x=>∃s,St P 185 d x (S a (Int.toNat ((↑b:Int)-1)) c) s/\C () s) (R (E (.tuple #[])) e)) () w
theorem nBounds1.ok(Z0:nBounds1.vc u U p0 p1 i0):Calls P 164 #[I i0,Q p0,Q p1] u U:=cok ⟨[],[(0,[])],[],[]⟩ Tryz.func164 Z0
def sLabel1.vc:Prop:=AP (St:=PUnit) (fun A k z=>∃a b c,(onP p0 fun g=>Ld P 59 k g (S a b c))/\B0 (i0<(↑b:Int)) (∃e,(onP p1 fun a=>Ld P 3 k a (I e))/\inR .i64 (e+1099511627776)/\onP p1 fun a=>Z2 k a (e+1099511627776) fun d=>∃a b c,(onP p2 fun g=>Ld P 187 d.drew g (S a b c))/\∃g o c,(onP p0 fun a=>Ld P 59 d.drew a (S g o c))/\∃p h c,(onP p0 fun a=>Ld P 59 d.drew a (S p h c))/\inR .i64 ((↑h:Int)-1)/\onP g fun q=>(0<=(↑h:Int)-1/\(↑h:Int)-1<(↑o:Int))/\G1 d.drew (q.add (Int.toNat ((↑h:Int)-1)*1)) fun e=>∃n,(onP p1 fun a=>Ld P 3 d.drew a (I n))/\onP a fun a=>D1 e b/\Z2 d.drew (Addr.add (a.add (e.toNat*2)) 1) n fun j=>∃a b c,(onP p0 fun l=>Ld P 59 j l (S a b c))/\∃l b t,(onP p0 fun a=>Ld P 59 j a (S l b t))/\inR .i64 ((↑b:Int)-1)/\∃r i v,(onP p0 fun a=>Ld P 59 j a (S r i v))/\inR .i64 ((↑i:Int)-1)/\(0<=(↑b:Int)-1/\(↑b:Int)-1<=(↑i:Int)-1/\(↑i:Int)-1<=(↑c:Int))/\onP p0 fun s=>Z3 j s a (Int.toNat ((↑b:Int)-1)) (Int.toNat ((↑i:Int)-1)) fun d=>z () d) (R (E (.tuple #[])) k)) () w
theorem sLabel1.ok(Z0:sLabel1.vc u U p0 p1 p2 i0):Calls P 165 #[I i0,Q p0,Q p1,Q p2] u U:=cok ⟨[],[(0,[])],[],[]⟩ Tryz.func165 Z0
def delete.vc:Prop:=C10 86 [Q p0,I i0] w fun c f a=>B0 (c=0) (R (E (I 110)) a) (C1 170 [Q p0,I i0] a fun a=>R (E (I 0)) a)
theorem delete.ok(Z0:delete.vc u U p0 i0):Calls P 167 #[Q p0,I i0] u U:=cok {} Tryz.func167 Z0
def room.vc:Prop:=N8 w p0 fun f a=>N9 a 0 fun e l=>U6 l e 0 3600 fun a=>L17 a f 0 fun p0=>∃(g:FuncId),∃(k:Array Value),∃(j:Array Value),Value.func (.func 85) #[Q p0] #[]=Value.func (.func g) k j/\GV P g/\E5 P g (Array.toList k) (Array.toList j) (fun i=>[I i]) (fun(i:Int)(b:World)(n:World->(World->Prop)->Prop)(p r:World->Prop)(s:Nat->World->Prop)=>n b fun m=>L17 m f 0 fun p0=>C10 86 [Q p0,I i] m fun c h b=>L4 b e 0 fun c=>inR .i64 (c-h)/\U6 b e 0 (c-h) fun a=>p a) a (fun D b=>L4 b e 0 fun c=>∃a,FZ b D a/\R (E (I c)) a) (fun D b=>False) fun(q D:Nat)(b:World)=>False
theorem room.ok(Z0:room.vc u U p0):Calls P 169 #[Q p0] u U:=cok ⟨[],[],[],[(4,[(9,.inl .i64)])]⟩ Tryz.func169 Z0
def drop.vc:Prop:=N8 w p0 fun e d=>L17 d e 0 fun p0=>C10 86 [Q p0,I i0] d fun b A c=>N9 c 0 fun n d=>N9 d 0 fun k G=>U6 G n 0 b fun d=>U6 d k 0 A fun g=>L4 g n 0 fun b=>B0 (b=0) (R (E (.tuple #[])) g) (L17 g.drew e 0 fun p0=>onP p0 fun f=>L17 g.drew e 0 fun p0=>onP p0 fun K=>G1 g.drew (K.add 4097) fun b=>L4 g.drew k 0 fun l=>inR .i64 (b+l)/\L4 g.drew n 0 fun p=>L4 g.drew k 0 fun q=>inR .i64 (p+q)/\(0<=b+l/\b+l<=p+q/\p+q<=(↑(4096:Nat):Int))/\L17 g.drew e 0 fun p0=>onP p0 fun L=>L17 g.drew e 0 fun p0=>onP p0 fun M=>G1 g.drew (M.add 4097) fun o=>L4 g.drew n 0 fun t=>(0<=o/\o<=t/\t<=(↑(4096:Nat):Int))/\∃V d,Cpy P #[159,159] 3 g.drew (S (slA (some f) 4096 (Int.toNat (b+l)) 1) (Int.toNat (p+q)-Int.toNat (b+l)) (4096-Int.toNat (b+l))) (S (slA (some L) 4096 (o.toNat) 1) (t.toNat-o.toNat) (4096-o.toNat)) (I V) d/\L17 d e 0 fun p0=>∃(v:FuncId),∃(z:Array Value),∃(y:Array Value),Value.func (.func 85) #[Q p0] #[]=Value.func (.func v) z y/\GV P v/\E5 P v (Array.toList z) (Array.toList y) (fun s=>[I s]) (fun(s:Int)(c:World)(T:World->(World->Prop)->Prop)(B Y:World->Prop)(Z:Nat->World->Prop)=>T c fun H=>L17 H e 0 fun p0=>C10 86 [Q p0,I s] H fun b i c=>L4 c n 0 fun j=>B0 (b<=j) (L17 c e 0 fun p0=>L4 c k 0 fun m=>inR .i64 (b+m)/\C1 171 [Q p0,I s,I (b+m),I i] c fun c=>B c) (B c)) d (fun D c=>L17 c.drew e 0 fun p0=>onP p0 fun f=>L17 c.drew e 0 fun p0=>onP p0 fun N=>G1 c.drew (N.add 4097) fun b=>L17 c.drew e 0 fun p0=>onP p0 fun O=>G1 c.drew (O.add 4097) fun i=>L4 c.drew k 0 fun j=>inR .i64 (i+j)/\(0<=b/\b<=i+j/\i+j<=(↑(4096:Nat):Int))/\∃d,Clr P #[159] 0 c.drew (S (slA (some f) 4096 (b.toNat) 1) (Int.toNat (i+j)-b.toNat) (4096-b.toNat)) d/\L17 d.drew e 0 fun p0=>onP p0 fun f=>G1 d.drew (f.add 4097) fun b=>L4 d.drew k 0 fun m=>inR .i64 (b+m)/\onP p0 fun f=>Z2 d.drew (f.add 4097) (b+m) fun x=>L17 x e 0 fun p0=>C1 171 [Q p0,I i0,I 0,I 0] x fun c=>AP (St:=PUnit) (fun s c W=>L17 c.drew e 0 fun p0=>onP p0 fun f=>G1 c.drew (f.add 4096) fun b=>B0 (0<b) (L17 c.drew e 0 fun p0=>L17 c.drew e 0 fun r=>onP r fun f=>G1 c.drew (f.add 4096) fun b=>inR .i64 (b-1)/\inR .i64 (4*(b-1))/\inR .i64 (10+4*(b-1))/\C3 146 [Q p0,I (10+4*(b-1))] c.drew fun b c=>B0 (b=0) (L17 c e 0 fun p0=>onP p0 fun f=>G1 c (f.add 4096) fun b=>inR .i64 (b-1)/\onP p0 fun f=>Z2 c (f.add 4096) (b-1) fun d=>W () d) (L17 c.drew e 0 fun p0=>L17 c.drew e 0 fun C=>onP C fun f=>G1 c.drew (f.add 4096) fun b=>C1 172 [Q p0,I 8,I b] c.drew fun c=>∃d,FZ c D d/\R (E (.tuple #[])) d)) (L17 c.drew.drew e 0 fun p0=>L17 c.drew.drew e 0 fun r=>onP r fun f=>G1 c.drew.drew (f.add 4096) fun b=>C1 172 [Q p0,I 8,I b] c.drew.drew fun c=>∃d,FZ c D d/\R (E (.tuple #[])) d)) () c) (fun D c=>False) fun(X D:Nat)(c:World)=>False)
theorem drop.ok(Z0:drop.vc u U p0 i0):Calls P 170 #[Q p0,I i0] u U:=cok ⟨[],[(12,[])],[],[(6,[(42,.inl .i64)])]⟩ Tryz.func170 Z0
def set.vc:Prop:=inR .i64 (4*i0)/\inR .i64 (10+4*i0)/\C1 172 [Q p0,I (10+4*i0),I i1] w fun c=>inR .i64 (4*i0)/\inR .i64 (10+4*i0)/\inR .i64 (10+4*i0+2)/\C1 172 [Q p0,I (10+4*i0+2),I i2] c fun c=>R (E (.tuple #[])) c
theorem set.ok(Z0:set.vc u U p0 i0 i1 i2):Calls P 171 #[Q p0,I i0,I i1,I i2] u U:=cok {} Tryz.func171 Z0
def lay.vc:Prop:=inR .i64 (i0+(1:Int))/\(0:Int)<=(8:Int)/\onP p0 fun f=>((0:Int)<=i0/\i0<(↑(4096:Nat):Int))/\onP p0 fun g=>∃d,St P 5 w.drew (f.add (i0.toNat*1)) (.int .u8 (IntKind.wrap .u8 (Int.fdiv i1 ((2:Int)^min (Int.toNat (8:Int)) (IntKind.bits .i64))))) d/\((0:Int)<=i0+(1:Int)/\i0+(1:Int)<(↑(4096:Nat):Int))/\∃e,St P 5 d (g.add (Int.toNat (i0+(1:Int))*1)) (.int .u8 (IntKind.wrap .u8 i1)) e/\R (E (.tuple #[])) e
theorem lay.ok(Z0:lay.vc u U p0 i0 i1):Calls P 172 #[Q p0,I i0,I i1] u U:=cok {} Tryz.func172 Z0
def kInsert.vc:Prop:=N9 w 0 fun d b=>U6 b d 0 0 fun l=>∃(g:FuncId),∃(i:Array Value),∃(h:Array Value),Value.func (.func 85) #[Q p0] #[]=Value.func (.func g) i h/\GV P g/\E5 P g (Array.toList i) (Array.toList h) (fun s0=>[I s0]) (fun(s0:Int)(c:World)(m:World->(World->Prop)->Prop)(j p:World->Prop)(q:Nat->World->Prop)=>m c fun f=>L4 f d 0 fun a=>B0 (s0=a) (L4 f d 0 fun a=>inR .i64 (a+1)/\U6 f d 0 (a+1) fun b=>j b) (j f)) l (fun D c=>L4 c d 0 fun a=>B0 (120<=a) (∃b,FZ c D b/\R (E (A7 0 111)) b) (L4 c d 0 fun a=>C3 110 [Q p0,I a,.string s0] c fun a c=>B1 (a=0) (∃b,FZ c D b/\R (E (A7 0 a)) b) (L4 c d 0 fun a=>∃b,FZ c D b/\R (E (A7 a 0)) b))) (fun D c=>False) fun(o D:Nat)(c:World)=>False
theorem kInsert.ok(Z0:kInsert.vc u U p0 s0):Calls P 173 #[Q p0,.string s0] u U:=cok ⟨[],[],[],[(4,[(11,.inl .i64)])]⟩ Tryz.func173 Z0
def fRight.vc:Prop:=N16 w i0 i1 i2 i3 i4 i5 s0 p0 n0 n1 fun c b=>L3 b c 4 fun a i=>N3 b 0 0 fun d p=>U3 p d 0 a i fun b=>L4 b c 0 fun a=>B0 (a<1) (R (E (.bool false)) b) (L4 b c 0 fun a=>B0 (2147483647<a) (R (E (.bool false)) b) (L4 b c 1 fun a=>B0 (a<0) (R (E (.bool false)) b) (L4 b c 1 fun a=>B0 (2147483647<a) (R (E (.bool false)) b) (L4 b d 0 fun a=>B0 (a<0) (R (E (.bool false)) b) (L4 b d 0 fun a=>L4 b d 1 fun j=>B0 (j<=a) (R (E (.bool false)) b) (L4 b d 1 fun a=>B0 (4611686018427387904<a) (R (E (.bool false)) b) (L4 b c 2 fun a=>B0 (a=1) (L14 b c 0 fun a k l m n o f g e h=>C2 225 [A15 a k l m n o f g e h] b fun c D=>R (E (.bool c)) D) (B0 (a=2) (L4 b c 3 fun a=>B0 (a=0) (L16 b c 7 fun g e h=>B0 ((↑e:Int)=0) (L7 b c 6 fun f=>R (E (.bool (decide ((↑(f.size):Int)<=1500)))) b) (R (E (.bool false)) b)) (R (E (.bool false)) b)) (R (E (.bool false)) b)))))))))
theorem fRight.ok(Z0:fRight.vc u U p0 n0 n1 i0 i1 i2 i3 i4 i5 s0):Calls P 174 #[A15 i0 i1 i2 i3 i4 i5 s0 p0 n0 n1] u U:=cok {} Tryz.func174 Z0
def fWhole.vc:Prop:=N16 w i0 i1 i2 i3 i4 i5 s0 p0 n0 n1 fun b a=>L4 a b 0 fun i=>L4 a b 1 fun v=>L4 a b 4 fun x=>G1 a (Addr.add (.mk b 4 none) 1) fun y=>L4 a b 2 fun z=>L4 a b 3 fun A=>L7 a b 6 fun c=>∀t D,New a (.cells #[I i,I 4,I v,I 4,I x,I 8,I y,I 8,I z,I 1,I A,I 2,I (↑(c.size):Int),I 2] 258) t D->C7 176 [S none 0 0,S (some (.mk t 0 none)) 7 7] D fun e f g d=>Am (St:=Option Addr×Nat×Nat) (fun c d=>L16 d b 7 fun e f g=>AP (St:=(Option Addr×Nat×Nat)×Int) (fun c d F=>B0 (c.2<(↑f:Int)) (onP e fun e=>D1 c.2 f/\∃i B,Ld P 260 d (e.add (c.2.toNat*2)) (.agg #[I i,.string B])/\N18 d 0 (.mk #[]) fun b a=>U15 a b 0 i B fun h=>L4 h.drew b 0 fun i=>L7 h.drew b 1 fun C=>L7 h.drew b 1 fun q=>∀o a,New h.drew (.cells #[I i,I 2,I (↑(C.size):Int),I 2] 258) o a->Ld P 9 a (.mk b 1 none) (.string q)/\C7 176 [S c.1.1 c.1.2.1 c.1.2.2,S (some (.mk o 0 none)) 2 2] a fun e f g d=>Ld P 9 d (.mk b 1 none) (.string q)/\∃l k j a,App P #[159,9] 159 d (S e f g) (.string q) (S l k j) a/\inR .i64 (c.2+1)/\F ((l,k,j),c.2+1) a) (R (E (S c.1.1 c.1.2.1 c.1.2.2)) d)) ((c.1,c.2.1,c.2.2),0) d) fun J=>(L7 d.drew b 6 fun c=>L16 d.drew b 7 fun l n p=>∃r k j a,App P #[159,9] 159 d.drew (S e f g) (.string c) (S r k j) a/\Ld P 202 a (.mk b 7 none) (S l n p)/\∀b h,New a (.cells #[I (↑n:Int),I 1] 258) b h->C7 176 [S r k j,S (some (.mk b 0 none)) 1 1] h fun e f g d=>J (e,f,g) d)/\L7 d.drew b 6 fun c=>L16 d.drew b 7 fun l n p=>∀o a,New d.drew (.cells #[I (↑n:Int),I 1] 258) o a->Ld P 9 a (.mk b 6 none) (.string c)/\∃s k j h,App P #[159,9] 159 a (S e f g) (.string c) (S s k j) h/\C7 176 [S s k j,S (some (.mk o 0 none)) 1 1] h fun e f g d=>J (e,f,g) d
theorem fWhole.ok(Z0:fWhole.vc u U p0 n0 n1 i0 i1 i2 i3 i4 i5 s0):Calls P 175 #[A15 i0 i1 i2 i3 i4 i5 s0 p0 n0 n1] u U:=cok ⟨[],[(4,[(3,.inr 3),(45,.inl .i64)])],[(3,[(3,.inr 3)])],[]⟩ Tryz.func175 Z0
def fLay.vc:Prop:=AP (St:=(Option Addr×Nat×Nat)×Int) (fun a e r=>B0 (a.2<(↑n2:Int)) (onP p1 fun g=>D1 a.2 n2/\∃c i,Ld P 258 e (g.add (a.2.toNat*2)) (A4 c i)/\∀d f,New e (.cells #[I 0,I 0] 258) d f->∃h,St P 258 f (.mk d 0 none) (A4 c i) h/\L4 h d 1 fun c=>inR .i64 (c-1)/\AP (St:=(Option Addr×Nat×Nat)×Int) (fun b e s=>B0 (0<=b.2) (L4 e d 0 fun c=>inR .i64 (8*b.2)/\0<=8*b.2/\N19 e (IntKind.wrap .u8 (Int.fdiv c (2^min (Int.toNat (8*b.2)) (IntKind.bits .i64)))) fun d f=>∃g l k m,App P #[159,159] 159 f (S b.1.1 b.1.2.1 b.1.2.2) (S (some (.mk d 0 none)) 1 1) (S g l k) m/\inR .i64 (b.2-1)/\s ((g,l,k),b.2-1) m) (inR .i64 (a.2+1)/\r ((b.1.1,b.1.2.1,b.1.2.2),a.2+1) e)) ((a.1.1,a.1.2.1,a.1.2.2),c-1) h) (R (E (S a.1.1 a.1.2.1 a.1.2.2)) e)) ((p0,n0,n1),0) w
theorem fLay.ok(Z0:fLay.vc u U p0 p1 n0 n1 n2):Calls P 176 #[S p0 n0 n1,S p1 n2 n3] u U:=cok ⟨[],[(2,[(0,.inr 3),(10,.inl .i64)]),(5,[(0,.inr 3),(7,.inl .i64)])],[],[]⟩ Tryz.func176 Z0
def pChars.vc:Prop:=C3 217 [.string s0] w fun b a=>B0 (b<0) (R (E (I 64)) a) (B0 (1500<(↑(s0.size):Int)) (R (E (I 67)) a) (R (E (I 0)) a))
theorem pChars.ok(Z0:pChars.vc u U s0):Calls P 179 #[.string s0] u U:=cok {} Tryz.func179 Z0
def pNames.vc:Prop:=N11 w i0 i1 s0 s1 p0 n0 n1 fun c f=>L7 f c 2 fun b=>C2 127 [.string b] f fun k a=>br (!k) (R (E (I 63)) a) (L11 a c 4 fun d e g=>AP (St:=ByteArray×Int) (fun b a q=>B0 (b.2<(↑e:Int)) (onP d fun d=>D1 b.2 e/\G3 a (d.add (b.2.toNat*2)) fun m n=>N13 a (.mk #[]) (.mk #[]) fun c f=>U9 f c 0 m n fun j=>L7 j c 0 fun o=>C2 127 [.string o] j fun l a=>br (!l) (R (E (I 63)) a) (L7 a c 0 fun i=>br (Op.bytesLess (Array.toList (ByteArray.data i)) (Array.toList (ByteArray.data b.1))||decide (i=b.1)) (R (E (I 63)) a) (L7 a c 0 fun p=>inR .i64 (b.2+1)/\q (p,b.2+1) a))) (L11 a c 4 fun d e g=>B0 (20<(↑e:Int)) (R (E (I 67)) a) (R (E (I 0)) a))) (.mk #[],0) a)
theorem pNames.ok(Z0:pNames.vc u U p0 n0 n1 i0 i1 s0 s1):Calls P 180 #[A16 i0 i1 s0 s1 p0 n0 n1] u U:=cok ⟨[],[(5,[(3,.inr 1),(13,.inl .i64)])],[],[]⟩ Tryz.func180 Z0
def fNumber.vc:Prop:=C18 193 [Q p0,I i0] w fun a b=>∃c d g f,S2B P 9 159 b (.string a) (S c d g) f/\AP (St:=Int×Int) (fun a b j=>B0 (a.2<(↑d:Int)) (onP c fun c=>((0:Int)<=a.2/\a.2<(↑d:Int))/\G25 b (c.add (a.2.toNat*1)) fun e=>(0:Int)<=(8:Int)/\inR .i64 (a.2+(1:Int))/\j (Vc.bits .or .i64 (IntKind.wrap .i64 (a.1*(2:Int)^min (Int.toNat (8:Int)) (IntKind.bits .i64))) (IntKind.wrap .i64 e),a.2+(1:Int)) b) (R (E (I a.1)) b)) ((0:Int),(0:Int)) f
theorem fNumber.ok(Z0:fNumber.vc u U p0 i0):Calls P 183 #[Q p0,I i0] u U:=cok ⟨[5],[(3,[(5,.inl .i64),(13,.inl .i64)])],[],[]⟩ Tryz.func183 Z0
def yEach.vc:Prop:=AP (St:=ByteArray×Int) (fun s0 a l=>B1 (s0.1=.mk #[]) (BL P 237 [.string s0.1] a fun e a=>∃g d,e=E (A23 g d)/\B0 (d=0) (R (E (I (-1:Int))) a) (AP (St:=Int) (fun c a m=>B0 (c<(↑n0:Int)) (onP p0 fun j=>D1 c n0/\∃i,Ld P 269 a (j.add (c.toNat*1)) i/\Ee P i [.int .i32 g,.bool (decide (s0.2=0))] a fun e a=>∃f,e=E (.bool f)/\br (!f) (R (E (I (-1:Int))) a) (inR .i64 (c+1)/\m (c+1) a)) (inR .i64 (s0.2+1)/\(0<=d/\d<=(↑(ByteArray.size s0.1):Int))/\l (ByteArray.extract s0.1 (d.toNat) (ByteArray.size s0.1),s0.2+1) a)) 0 a)) (R (E (I s0.2)) a)) (s0,0) w
theorem yEach.ok(Z0:yEach.vc u U p0 n0 s0):Calls P 184 #[.string s0,S p0 n0 n1] u U:=cok ⟨[],[(2,[(0,.inr 1),(5,.inl .i64)]),(7,[(21,.inl .i64)])],[],[]⟩ Tryz.func184 Z0
def yName1.vc:Prop:=C2 186 [.int .i32 i0] w fun a b=>br a (br (!b0) (R (E (.bool true)) b) (C2 187 [.int .i32 i0] b fun a b=>R (E (.bool a)) b)) (R (E (.bool false)) b)
theorem yName1.ok(Z0:yName1.vc u U i0 b0):Calls P 185 #[.int .i32 i0,.bool b0] u U:=cok {} Tryz.func185 Z0
def yPart.vc:Prop:=AP (St:=Int) (fun c b k=>B0 (c<5) ((0<=c/\c<(↑(5:Nat):Int))/\∃d h,Prt P 315 [.int .i32 45,.int .i32 46,.int .i32 48,.int .i32 57,.int .i32 183,.int .i32 183,.int .i32 768,.int .i32 879,.int .i32 8255,.int .i32 8256] (c.toNat*2) (A24 d h)/\∀a j,New b (.cells #[.int .i32 0,.int .i32 0] 315) a j->∃f,St P 315 j (.mk a 0 none) (A24 d h) f/\∃d i,Ld P 315 f (.mk a 0 none) (A24 d i)/\C2 238 [A24 d i,.int .i32 i0] f fun a b=>br a (R (E (.bool true)) b) (inR .i64 (c+1)/\k (c+1) b)) (C2 187 [.int .i32 i0] b fun a b=>R (E (.bool a)) b)) 0 w
theorem yPart.ok(Z0:yPart.vc u U i0):Calls P 186 #[.int .i32 i0] u U:=cok ⟨[],[(2,[(11,.inl .i64)])],[],[]⟩ Tryz.func186 Z0
def yStart.vc:Prop:=BL P 239 [] w fun e a=>∃(g:List Value),e=E (.agg (List.toArray g))/\AP (St:=Int) (fun c a l=>B0 (c<15) ((0<=c/\c<(↑(15:Nat):Int))/\∃d h,Prt P 315 g (c.toNat*2) (A24 d h)/\∀b j,New a (.cells #[.int .i32 0,.int .i32 0] 315) b j->∃f,St P 315 j (.mk b 0 none) (A24 d h) f/\∃d i,Ld P 315 f (.mk b 0 none) (A24 d i)/\C2 238 [A24 d i,.int .i32 i0] f fun b a=>br b (R (E (.bool true)) a) (inR .i64 (c+1)/\l (c+1) a)) (R (E (.bool false)) a)) 0 a
theorem yStart.ok(Z0:yStart.vc u U i0):Calls P 187 #[.int .i32 i0] u U:=cok ⟨[],[(2,[(6,.inl .i64)])],[],[]⟩ Tryz.func187 Z0
def fJoined.vc:Prop:=AP (St:=(Option Addr×Nat×Nat)×Int) (fun a b t=>B0 (a.2<(↑n0:Int)) (onP p0 fun c=>((0:Int)<=a.2/\a.2<(↑n0:Int))/\G2 b (c.add (a.2.toNat*1)) fun d=>BL P 126 [.string d] b fun f b=>∃h i j g,f=E (A17 h i j g)/\onP p0 fun c=>((0:Int)<=(0:Int)/\(0:Int)<(↑n0:Int))/\G2 b c fun o=>BL P 126 [.string o] b fun f b=>∃k r s q,f=E (A17 k r s q)/\br (!g) (R (E (A21 none 0 0 false)) b) (B1 (h=k) (R (E (A21 none 0 0 false)) b) (B1 (i=a.2) (R (E (A21 none 0 0 false)) b) (B1 (j=(↑n0:Int)) (R (E (A21 none 0 0 false)) b) (((0:Int)<=(6:Int)/\(6:Int)<=(↑(d.size):Int))/\∃c n m p,App P #[159,9] 159 b (S a.1.1 a.1.2.1 a.1.2.2) (.string (ByteArray.extract d (Int.toNat (6:Int)) (d.size))) (S c n m) p/\inR .i64 (a.2+(1:Int))/\t ((c,n,m),a.2+(1:Int)) p))))) (R (E (A21 a.1.1 a.1.2.1 a.1.2.2 (decide ((0:Int)<(↑a.1.2.1:Int))))) b)) ((none,0,0),(0:Int)) w
theorem fJoined.ok(Z0:fJoined.vc u U p0 n0):Calls P 192 #[S p0 n0 n1] u U:=cok ⟨[],[(3,[(4,.inr 3),(17,.inl .i64)])],[],[]⟩ Tryz.func192 Z0
def fText.vc:Prop:=onP p0 fun a=>∃k d b,Ld P 159 w a (S k d b)/\B0 ((↑d:Int)<i0) (onP p0 fun a=>∃f,St P 159 w a (S none 0 0) f/\onP p0 fun a=>∃j,St P 4 f (a.add 1) (.bool true) j/\R (E (.string (.mk #[]))) j) (onP p0 fun a=>∃g d b,Ld P 159 w a (S g d b)/\(0<=i0/\i0<=(↑b:Int))/\∃i,B2S P 159 9 w (S g (i0.toNat) b) (.string i)/\onP p0 fun a=>∃h d b,Ld P 159 w a (S h d b)/\(0<=i0/\i0<=(↑d:Int))/\onP p0 fun a=>∃f,St P 159 w a (S (slA h b (i0.toNat) 1) (d-i0.toNat) (b-i0.toNat)) f/\R (E (.string i)) f)
theorem fText.ok(Z0:fText.vc u U p0 i0):Calls P 193 #[Q p0,I i0] u U:=cok {} Tryz.func193 Z0
def sAhead.vc:Prop:=N3 w i0 i1 fun b f=>N3 f i2 i3 fun c a=>L4 a b 1 fun d=>L4 a c 0 fun e=>R (E (.bool (decide (d<e)))) a
theorem sAhead.ok(Z0:sAhead.vc u U i0 i1 i2 i3):Calls P 195 #[A4 i0 i1,A4 i2 i3] u U:=cok {} Tryz.func195 Z0
def sInside.vc:Prop:=AP (St:=Int) (fun a b g=>B0 (a<(↑n0:Int)) (onP p0 fun e=>D1 a n0/\G1 b (e.add (a.toNat*1)) fun c=>B0 (c<0) (R (E (.bool false)) b) (B0 (4611686018427387904<c) (R (E (.bool false)) b) (inR .i64 (a+1)/\g (a+1) b))) (R (E (.bool true)) b)) 0 w
theorem sInside.ok(Z0:sInside.vc u U p0 n0):Calls P 196 #[S p0 n0 n1] u U:=cok ⟨[],[(2,[(7,.inl .i64)])],[],[]⟩ Tryz.func196 Z0
def sIn.vc:Prop:=N3 w i0 i1 fun c g=>N3 g i2 i3 fun d a=>L4 a d 0 fun b=>L4 a c 0 fun e=>B0 (b<e) (L4 a c 1 fun b=>L4 a d 1 fun f=>R (E (.bool (decide (b<f)))) a) (R (E (.bool false)) a)
theorem sIn.ok(Z0:sIn.vc u U i0 i1 i2 i3):Calls P 197 #[A4 i0 i1,A4 i2 i3] u U:=cok {} Tryz.func197 Z0
def xName.vc:Prop:=BL P 157 [Q p0,I i0] w fun f h=>∃c b,f=E (.agg #[.string c,I b])/\N15 h (.mk #[]) 0 fun p0 e=>U13 e p0 0 c b fun d=>L7 d.drew p0 0 fun c=>L4 d.drew p0 1 fun b=>R (E (A12 c (decide (0<b)))) d.drew
theorem xName.ok(Z0:xName.vc u U p0 i0):Calls P 198 #[Q p0,I i0] u U:=cok {} Tryz.func198 Z0
def nItem1.vc:Prop:=N13 w s0 s1 fun b g=>N13 g s2 s3 fun c a=>L7 a b 0 fun e=>L7 a c 0 fun f=>C3 201 [.string e,.string f] a fun d m=>R (E (I d)) m
theorem nItem1.ok(Z0:nItem1.vc u U s0 s1 s2 s3):Calls P 200 #[A19 s0 s1,A19 s2 s3] u U:=cok {} Tryz.func200 Z0
def rpParts.vc:Prop:=N11 w i0 i1 s0 s1 p0 n0 n1 fun e g=>L4 g e 1 fun h=>B0 (h=2) (L7 g e 2 fun a=>B1 (a=.mk #[]) (R (E (I 68)) g) (L11 g e 4 fun c d f=>B0 (0<(↑d:Int)) (R (E (I 68)) g) (L7 g e 3 fun a=>C3 260 [.string a] g fun h b=>R (E (I h)) b))) (L4 g e 1 fun h=>B1 (h=1) (R (E (I 68)) g) (L7 g e 3 fun a=>B1 (a=.mk #[]) (R (E (I 68)) g) (L7 g e 2 fun a=>C2 210 [.string a] g fun n b=>br (!n) (R (E (I 63)) b) (AP (St:=Int) (fun a b k=>L11 b e 4 fun c d f=>B0 (a<(↑d:Int)) (L11 b.drew e 4 fun c d f=>onP c fun c=>D1 a d/\G2 b.drew (c.add (a.toNat*2)) fun j=>C2 210 [.string j] b.drew fun o b=>br (!o) (R (E (I 63)) b) (B0 (0<a) (L11 b e 4 fun c d f=>onP c fun c=>D1 a d/\G2 b (c.add (a.toNat*2)) fun l=>L11 b e 4 fun c d f=>inR .i64 (a-1)/\onP c fun c=>(0<=a-1/\a-1<(↑d:Int))/\G2 b (c.add (Int.toNat (a-1)*2)) fun m=>br (Op.bytesLess (Array.toList (ByteArray.data l)) (Array.toList (ByteArray.data m))||decide (l=m)) (R (E (I 63)) b) (inR .i64 (a+1)/\k (a+1) b)) (inR .i64 (a+1)/\k (a+1) b))) (L11 b e 4 fun c d f=>B0 (20<(↑d:Int)) (R (E (I 67)) b) (AP (St:=Int) (fun a b k=>L11 b e 4 fun c d f=>B0 (a<(↑d:Int)) (L11 b e 4 fun c d f=>onP c fun c=>D1 a d/\G2 b (Addr.add (c.add (a.toNat*2)) 1) fun j=>C3 260 [.string j] b fun h b=>B1 (h=0) (R (E (I h)) b) (inR .i64 (a+1)/\k (a+1) b)) (R (E (I 0)) b)) 0 b))) 0 b))))
theorem rpParts.ok(Z0:rpParts.vc u U p0 n0 n1 i0 i1 s0 s1):Calls P 202 #[A16 i0 i1 s0 s1 p0 n0 n1] u U:=cok ⟨[],[(10,[(3,.inl .i64)]),(17,[(4,.inl .i64)])],[],[]⟩ Tryz.func202 Z0
def ryName.vc:Prop:=C19 261 [.string s0] w fun d g i c a=>br (!c) (R (E (.bool false)) a) (B0 ((↑(s0.size):Int)<1) (R (E (.bool false)) a) (B0 (60<(↑(s0.size):Int)) (R (E (.bool false)) a) (onP d fun h=>D1 0 g/\∃f,Ld P 21 a h (.int .i32 f)/\C2 262 [.int .i32 f] a fun c a=>br (!c) (R (E (.bool false)) a) (AP (St:=Int) (fun s0 a j=>B0 (s0<(↑g:Int)) (onP d fun d=>D1 s0 g/\∃f,Ld P 21 a (d.add (s0.toNat*1)) (.int .i32 f)/\C2 263 [.int .i32 f] a fun c a=>br (!c) (R (E (.bool false)) a) (inR .i64 (s0+1)/\j (s0+1) a)) (R (E (.bool true)) a)) 0 a))))
theorem ryName.ok(Z0:ryName.vc u U s0):Calls P 210 #[.string s0] u U:=cok ⟨[],[(5,[(5,.inl .i64)])],[],[]⟩ Tryz.func210 Z0
def yCount.vc:Prop:=C3 184 [.string s0,S none 0 0] w fun a d=>R (E (I a)) d
theorem yCount.ok(Z0:yCount.vc u U s0):Calls P 217 #[.string s0] u U:=cok {} Tryz.func217 Z0
def gFind1.vc:Prop:=N13 w s0 s1 fun c b=>L7 b c 0 fun a=>br (Op.bytesLess (Array.toList (ByteArray.data a)) (Array.toList (ByteArray.data s2))) (R (E (I (-1:Int))) b) (L7 b c 0 fun a=>br (!(Op.bytesLess (Array.toList (ByteArray.data a)) (Array.toList (ByteArray.data s2))||decide (a=s2))) (R (E (I 1)) b) (R (E (I 0)) b))
theorem gFind1.ok(Z0:gFind1.vc u U s0 s1 s2):Calls P 219 #[A19 s0 s1,.string s2] u U:=cok {} Tryz.func219 Z0
def sPart.vc:Prop:=i3≠0/\inR .i64 (Int.tdiv i1 i3)/\inR .i64 (Int.tdiv i1 i3*i2)/\inR .i64 (i0+Int.tdiv i1 i3*i2)/\i3≠0/\inR .i64 (Int.tmod i1 i3*i2)/\i3≠0/\inR .i64 (Int.tdiv (Int.tmod i1 i3*i2) i3)/\inR .i64 (i0+Int.tdiv i1 i3*i2+Int.tdiv (Int.tmod i1 i3*i2) i3)/\R (E (I (i0+Int.tdiv i1 i3*i2+Int.tdiv (Int.tmod i1 i3*i2) i3))) w.drew
theorem sPart.ok(Z0:sPart.vc u U i0 i1 i2 i3):Calls P 224 #[I i0,I i1,I i2,I i3] u U:=cok {} Tryz.func224 Z0
def fElement.vc:Prop:=N16 w i0 i1 i2 i3 i4 i5 s0 p0 n0 n1 fun c e=>∀i m,New e (.map #[] 0) i m->L16 m c 7 fun f g j=>AP (St:=Int) (fun d a r=>B0 (d<(↑g:Int)) (onP f fun f=>D1 d g/\∃b p,Ld P 260 a (f.add (d.toNat*2)) (.agg #[I b,.string p])/\N18 a 0 (.mk #[]) fun c e=>U15 e c 0 b p fun n=>L4 n c 0 fun b=>C2 266 [I b] n fun h a=>br (!h) (R (E (.bool false)) a) (L4 a c 0 fun b=>∃o,Lk P 281 false a (.map (some i)) (I b) (I o)/\B0 (0<o) (R (E (.bool false)) a) (L7 a c 1 fun q=>B0 (1500<(↑(q.size):Int)) (R (E (.bool false)) a) (L4 a c 0 fun b=>∃l,Lk P 281 false a (.map (some i)) (I b) (I l)/\inR .i64 (l+1)/\∃e,MUp P 281 a (.map (some i)) (I b) (I (l+1)) e/\inR .i64 (d+1)/\r (d+1) e)))) (L4 a c 3 fun b=>C2 266 [I b] a fun h a=>br h (L7 a c 6 fun d=>B0 (d=.mk #[]) (L16 a c 7 fun f g j=>R (E (.bool (decide ((↑g:Int)<=20)))) a) (R (E (.bool false)) a)) (R (E (.bool false)) a))) 0 m
theorem fElement.ok(Z0:fElement.vc u U p0 n0 n1 i0 i1 i2 i3 i4 i5 s0):Calls P 225 #[A15 i0 i1 i2 i3 i4 i5 s0 p0 n0 n1] u U:=cok ⟨[],[(3,[(10,.inl .i64)])],[],[]⟩ Tryz.func225 Z0
def yNext.vc:Prop:=B0 (s0=.mk #[]) (R (E (A23 0 0)) w) (((0:Int)<=(0:Int)/\(0:Int)<(↑(s0.size):Int))/\BL P 273 [.int .u8 (sb s0 (0:Int))] w fun f b=>∃a i,f=E (A25 a i)/\B0 (a=(0:Int)) (R (E (A23 (-1:Int) 0)) b) (B0 ((↑(s0.size):Int)<a) (R (E (A23 (-1:Int) 0)) b) (((0:Int)<=(1:Int)/\(1:Int)<=a/\a<=(↑(s0.size):Int))/\∃e g l k,S2B P 9 159 b (.string (ByteArray.extract s0 (Int.toNat (1:Int)) (a.toNat))) (S e g l) k/\AP (St:=Int×Int) (fun c b m=>B0 (c.2<(↑g:Int)) (onP e fun e=>((0:Int)<=c.2/\c.2<(↑g:Int))/\G25 b (e.add (c.2.toNat*1)) fun a=>B1 (Vc.bits .and .u8 a (192:Int)=(128:Int)) (R (E (A23 (-1:Int) 0)) b) ((0:Int)<=(6:Int)/\inR .i32 (c.1*(2:Int)^min (Int.toNat (6:Int)) (IntKind.bits .i32))/\inR .i64 (c.2+(1:Int))/\m (Vc.bits .or .i32 (c.1*(2:Int)^min (Int.toNat (6:Int)) (IntKind.bits .i32)) (IntKind.wrap .i32 (Vc.bits .and .u8 a (63:Int))),c.2+(1:Int)) b)) (C15 274 [.int .i32 c.1] b fun j h b=>br (!h) (R (E (A23 (-1:Int) 0)) b) (((0:Int)<=a/\a<=(↑(s0.size):Int))/\B1 (j=ByteArray.extract s0 0 (a.toNat)) (R (E (A23 (-1:Int) 0)) b) (R (E (A23 c.1 a)) b)))) (i,(0:Int)) k)))
theorem yNext.ok(Z0:yNext.vc u U s0):Calls P 237 #[.string s0] u U:=cok ⟨[],[(7,[(5,.inl .i32),(31,.inl .i64)])],[],[]⟩ Tryz.func237 Z0
def yHas.vc:Prop:=∀c b,New w (.cells #[.int .i32 i0,.int .i32 i1] 315) c b->∃a,Ld P 21 b (.mk c 0 none) (.int .i32 a)/\B0 (a<=i2) (∃a,Ld P 21 b (.mk c 1 none) (.int .i32 a)/\R (E (.bool (decide (i2<=a)))) b) (R (E (.bool false)) b)
theorem yHas.ok(Z0:yHas.vc u U i0 i1 i2):Calls P 238 #[A24 i0 i1,.int .i32 i2] u U:=cok {} Tryz.func238 Z0
def yStarts.vc:Prop:=∀a d,New w (.cells #[.int .i32 0,.int .i32 0,.int .i32 0,.int .i32 0,.int .i32 0,.int .i32 0,.int .i32 0,.int .i32 0,.int .i32 0,.int .i32 0,.int .i32 0,.int .i32 0,.int .i32 0,.int .i32 0,.int .i32 0,.int .i32 0,.int .i32 0,.int .i32 0,.int .i32 0,.int .i32 0,.int .i32 0,.int .i32 0,.int .i32 0,.int .i32 0,.int .i32 0,.int .i32 0,.int .i32 0,.int .i32 0,.int .i32 0,.int .i32 0] 317) a d->∃b,St P 317 d (.mk a 0 none) (.agg #[.int .i32 65,.int .i32 90,.int .i32 95,.int .i32 95,.int .i32 97,.int .i32 122,.int .i32 192,.int .i32 214,.int .i32 216,.int .i32 246,.int .i32 248,.int .i32 767,.int .i32 880,.int .i32 893,.int .i32 895,.int .i32 8191,.int .i32 8204,.int .i32 8205,.int .i32 8304,.int .i32 8591,.int .i32 11264,.int .i32 12271,.int .i32 12289,.int .i32 55295,.int .i32 63744,.int .i32 64975,.int .i32 65008,.int .i32 65533,.int .i32 65536,.int .i32 983039]) b/\∃(c:List Value),Ld P 317 b (.mk a 0 none) (.agg (List.toArray c))/\R (E (.agg (List.toArray c))) b
theorem yStarts.ok(Z0:yStarts.vc u U):Calls P 239 #[] u U:=cok {} Tryz.func239 Z0
def rpChars.vc:Prop:=C3 264 [.string s0] w fun b a=>B0 (b<0) (R (E (I 64)) a) (B0 (1500<(↑(s0.size):Int)) (R (E (I 67)) a) (R (E (I 0)) a))
theorem rpChars.ok(Z0:rpChars.vc u U s0):Calls P 260 #[.string s0] u U:=cok {} Tryz.func260 Z0
def ryAll.vc:Prop:=AP (St:=ByteArray×Option Addr×Nat×Nat) (fun s0 c l=>B1 (s0.1=.mk #[]) (BL P 299 [.string s0.1] c fun k c=>∃f b,k=E (A23 f b)/\B0 (b=0) (R (E (A21 none 0 0 false)) c) (∀e i,New c (.cells #[.int .i32 f] 21) e i->∃d h g j,App P #[332,332] 332 i (S s0.2.1 s0.2.2.1 s0.2.2.2) (S (some (.mk e 0 none)) 1 1) (S d h g) j/\(0<=b/\b<=(↑(ByteArray.size s0.1):Int))/\l (ByteArray.extract s0.1 (b.toNat) (ByteArray.size s0.1),d,h,g) j)) (R (E (A21 s0.2.1 s0.2.2.1 s0.2.2.2 true)) c)) (s0,none,0,0) w
theorem ryAll.ok(Z0:ryAll.vc u U s0):Calls P 261 #[.string s0] u U:=cok ⟨[],[(2,[(0,.inr 1),(4,.inr 3)])],[],[]⟩ Tryz.func261 Z0
def ryStart.vc:Prop:=Am (fun c b=>br c (R (E (.bool true)) b) (Am (fun c b=>br c (R (E (.bool true)) b) (Am (fun c b=>br c (R (E (.bool true)) b) (B0 (63744<=i0) (B0 (i0<=64975) (R (E (.bool true)) b) (B0 (65008<=i0) (B0 (i0<=65533) (R (E (.bool true)) b) (B0 (65536<=i0) (R (E (.bool (decide (i0<=983039)))) b) (R (E (.bool false)) b))) (B0 (65536<=i0) (R (E (.bool (decide (i0<=983039)))) b) (R (E (.bool false)) b)))) (B0 (65008<=i0) (B0 (i0<=65533) (R (E (.bool true)) b) (B0 (65536<=i0) (R (E (.bool (decide (i0<=983039)))) b) (R (E (.bool false)) b))) (B0 (65536<=i0) (R (E (.bool (decide (i0<=983039)))) b) (R (E (.bool false)) b))))) fun(J:Bool->World->Prop)=>B0 (8304<=i0) (B0 (i0<=8591) (J true b) (B0 (11264<=i0) (B0 (i0<=12271) (J true b) (B0 (12289<=i0) (J (decide (i0<=55295)) b) (J false b))) (B0 (12289<=i0) (J (decide (i0<=55295)) b) (J false b)))) (B0 (11264<=i0) (B0 (i0<=12271) (J true b) (B0 (12289<=i0) (J (decide (i0<=55295)) b) (J false b))) (B0 (12289<=i0) (J (decide (i0<=55295)) b) (J false b))))) fun(J:Bool->World->Prop)=>B0 (248<=i0) (B0 (i0<=767) (J true b) (B0 (880<=i0) (B0 (i0<=893) (J true b) (B0 (895<=i0) (B0 (i0<=8191) (J true b) (B0 (i0=8204) (J true b) (J (decide (i0=8205)) b))) (B0 (i0=8204) (J true b) (J (decide (i0=8205)) b)))) (B0 (895<=i0) (B0 (i0<=8191) (J true b) (B0 (i0=8204) (J true b) (J (decide (i0=8205)) b))) (B0 (i0=8204) (J true b) (J (decide (i0=8205)) b))))) (B0 (880<=i0) (B0 (i0<=893) (J true b) (B0 (895<=i0) (B0 (i0<=8191) (J true b) (B0 (i0=8204) (J true b) (J (decide (i0=8205)) b))) (B0 (i0=8204) (J true b) (J (decide (i0=8205)) b)))) (B0 (895<=i0) (B0 (i0<=8191) (J true b) (B0 (i0=8204) (J true b) (J (decide (i0=8205)) b))) (B0 (i0=8204) (J true b) (J (decide (i0=8205)) b)))))) fun(J:Bool->World->Prop)=>B0 (65<=i0) (B0 (i0<=90) (J true w) (B0 (i0=95) (J true w) (B0 (97<=i0) (B0 (i0<=122) (J true w) (B0 (192<=i0) (B0 (i0<=214) (J true w) (B0 (216<=i0) (J (decide (i0<=246)) w) (J false w))) (B0 (216<=i0) (J (decide (i0<=246)) w) (J false w)))) (B0 (192<=i0) (B0 (i0<=214) (J true w) (B0 (216<=i0) (J (decide (i0<=246)) w) (J false w))) (B0 (216<=i0) (J (decide (i0<=246)) w) (J false w)))))) (B0 (i0=95) (J true w) (B0 (97<=i0) (B0 (i0<=122) (J true w) (B0 (192<=i0) (B0 (i0<=214) (J true w) (B0 (216<=i0) (J (decide (i0<=246)) w) (J false w))) (B0 (216<=i0) (J (decide (i0<=246)) w) (J false w)))) (B0 (192<=i0) (B0 (i0<=214) (J true w) (B0 (216<=i0) (J (decide (i0<=246)) w) (J false w))) (B0 (216<=i0) (J (decide (i0<=246)) w) (J false w)))))
theorem ryStart.ok(Z0:ryStart.vc u U i0):Calls P 262 #[.int .i32 i0] u U:=cok ⟨[],[],[(2,[(36,.inr 0)]),(4,[(66,.inr 0)]),(6,[(88,.inr 0)])],[]⟩ Tryz.func262 Z0
def ryPart.vc:Prop:=C2 262 [.int .i32 i0] w fun c b=>br c (R (E (.bool true)) b) (B0 (i0=45) (R (E (.bool true)) b) (B0 (i0=46) (R (E (.bool true)) b) (B0 (48<=i0) (B0 (i0<=57) (R (E (.bool true)) b) (B0 (i0=183) (R (E (.bool true)) b) (B0 (768<=i0) (B0 (i0<=879) (R (E (.bool true)) b) (B0 (i0=8255) (R (E (.bool true)) b) (R (E (.bool (decide (i0=8256)))) b))) (B0 (i0=8255) (R (E (.bool true)) b) (R (E (.bool (decide (i0=8256)))) b))))) (B0 (i0=183) (R (E (.bool true)) b) (B0 (768<=i0) (B0 (i0<=879) (R (E (.bool true)) b) (B0 (i0=8255) (R (E (.bool true)) b) (R (E (.bool (decide (i0=8256)))) b))) (B0 (i0=8255) (R (E (.bool true)) b) (R (E (.bool (decide (i0=8256)))) b)))))))
theorem ryPart.ok(Z0:ryPart.vc u U i0):Calls P 263 #[.int .i32 i0] u U:=cok {} Tryz.func263 Z0
def ryCount.vc:Prop:=C19 261 [.string s0] w fun d b e a c=>br (!a) (R (E (I (-1:Int))) c) (R (E (I (↑b:Int))) c)
theorem ryCount.ok(Z0:ryCount.vc u U s0):Calls P 264 #[.string s0] u U:=cok {} Tryz.func264 Z0
def fNamed.vc:Prop:=B0 (1<=i0) (R (E (.bool (decide (i0<=4000)))) w) (R (E (.bool false)) w)
theorem fNamed.ok(Z0:fNamed.vc u U i0):Calls P 266 #[I i0] u U:=cok {} Tryz.func266 Z0
def yHead.vc:Prop:=B0 (i0<128) (R (E (A25 1 (IntKind.wrap .i32 i0))) w) (B0 (i0<192) (R (E (A25 0 0)) w) (B0 (i0<224) (R (E (A25 2 (IntKind.wrap .i32 (Vc.bits .and .u8 i0 31)))) w) (B0 (i0<240) (R (E (A25 3 (IntKind.wrap .i32 (Vc.bits .and .u8 i0 15)))) w) (B0 (i0<248) (R (E (A25 4 (IntKind.wrap .i32 (Vc.bits .and .u8 i0 7)))) w) (R (E (A25 0 0)) w)))))
theorem yHead.ok(Z0:yHead.vc u U i0):Calls P 273 #[.int .u8 i0] u U:=cok {} Tryz.func273 Z0
def yPut.vc:Prop:=C2 302 [.int .i32 i0] w fun e a=>br (!e) (R (E (A12 (.mk #[]) false)) a) (B0 (i0<128) (C18 303 [.int .i32 i0,.int .u8 0,I 1] a fun b a=>R (E (A12 b true)) a) (B0 (i0<2048) (C18 303 [.int .i32 i0,.int .u8 192,I 2] a fun b a=>R (E (A12 b true)) a) (B0 (i0<65536) (C18 303 [.int .i32 i0,.int .u8 224,I 3] a fun b a=>R (E (A12 b true)) a) (C18 303 [.int .i32 i0,.int .u8 240,I 4] a fun b a=>R (E (A12 b true)) a))))
theorem yPut.ok(Z0:yPut.vc u U i0):Calls P 274 #[.int .i32 i0] u U:=cok {} Tryz.func274 Z0
def ryNext.vc:Prop:=B0 (s0=.mk #[]) (R (E (A23 0 0)) w) (((0:Int)<=(0:Int)/\(0:Int)<(↑(s0.size):Int))/\Am (St:=Int×Int) (fun e b=>Am (St:=Int×Int) (fun f b=>Am (St:=Int×Int) (fun d b=>B0 ((↑(s0.size):Int)<d.1) (R (E (A23 (-1:Int) 0)) b) (AP (St:=Int×Int) (fun c b j=>B0 (c.2<d.1) (inR .i32 (c.1*(64:Int))/\((0:Int)<=c.2/\c.2<(↑(s0.size):Int))/\inR .i32 (c.1*(64:Int)+IntKind.wrap .i32 (sb s0 c.2))/\inR .i32 (c.1*(64:Int)+IntKind.wrap .i32 (sb s0 c.2)-(128:Int))/\inR .i64 (c.2+(1:Int))/\j (c.1*(64:Int)+IntKind.wrap .i32 (sb s0 c.2)-(128:Int),c.2+(1:Int)) b) (C15 313 [.int .i32 c.1] b fun h g b=>br (!g) (R (E (A23 (-1:Int) 0)) b) (((0:Int)<=d.1/\d.1<=(↑(s0.size):Int))/\B1 (h=ByteArray.extract s0 0 (d.1.toNat)) (R (E (A23 (-1:Int) 0)) b) (R (E (A23 c.1 d.1)) b)))) (d.2,(1:Int)) b)) fun J=>Am (fun s0 b=>br s0 (inR .i32 (f.2-(240:Int))/\J ((4:Int),f.2-(240:Int)) b) (J (f.1,f.2) b)) fun(J:Bool->World->Prop)=>((0:Int)<=(0:Int)/\(0:Int)<(↑(s0.size):Int))/\B0 ((240:Int)<=sb s0 (0:Int)) (((0:Int)<=(0:Int)/\(0:Int)<(↑(s0.size):Int))/\J (decide (sb s0 (0:Int)<(248:Int))) b) (J false b)) fun J=>Am (fun s0 b=>br s0 (inR .i32 (e.2-(224:Int))/\J ((3:Int),e.2-(224:Int)) b) (J (e.1,e.2) b)) fun(J:Bool->World->Prop)=>((0:Int)<=(0:Int)/\(0:Int)<(↑(s0.size):Int))/\B0 ((224:Int)<=sb s0 (0:Int)) (((0:Int)<=(0:Int)/\(0:Int)<(↑(s0.size):Int))/\J (decide (sb s0 (0:Int)<(240:Int))) b) (J false b)) fun J=>Am (fun e b=>br e (inR .i32 (IntKind.wrap .i32 (sb s0 (0:Int))-(192:Int))/\J ((2:Int),IntKind.wrap .i32 (sb s0 (0:Int))-(192:Int)) b) (J ((1:Int),IntKind.wrap .i32 (sb s0 (0:Int))) b)) fun(J:Bool->World->Prop)=>((0:Int)<=(0:Int)/\(0:Int)<(↑(s0.size):Int))/\B0 ((192:Int)<=sb s0 (0:Int)) (((0:Int)<=(0:Int)/\(0:Int)<(↑(s0.size):Int))/\J (decide (sb s0 (0:Int)<(224:Int))) w) (J false w))
theorem ryNext.ok(Z0:ryNext.vc u U s0):Calls P 299 #[.string s0] u U:=cok ⟨[],[(17,[(5,.inl .i32),(6,.inl .i64)])],[(8,[(4,.inl .i64),(5,.inl .i32)]),(6,[(21,.inr 0)]),(11,[(4,.inl .i64),(5,.inl .i32)]),(9,[(31,.inr 0)]),(14,[(4,.inl .i64),(5,.inl .i32)]),(12,[(41,.inr 0)])],[]⟩ Tryz.func299 Z0
def yChar.vc:Prop:=B0 (i0<32) (B0 (i0=9) (R (E (.bool true)) w) (B0 (i0=10) (R (E (.bool true)) w) (R (E (.bool (decide (i0=13)))) w))) (B0 (i0<55296) (R (E (.bool true)) w) (B0 (i0<57344) (R (E (.bool false)) w) (B0 (i0<65534) (R (E (.bool true)) w) (B0 (65536<=i0) (R (E (.bool (decide (i0<=1114111)))) w) (R (E (.bool false)) w)))))
theorem yChar.ok(Z0:yChar.vc u U i0):Calls P 302 #[.int .i32 i0] u U:=cok {} Tryz.func302 Z0
def yLaid.vc:Prop:=inR .i64 (i2-1)/\inR .i64 (6*(i2-1))/\0<=6*(i2-1)/\N19 w (Vc.bits .or .u8 i1 (IntKind.wrap .u8 (Int.fdiv i0 (2^min (Int.toNat (6*(i2-1))) (IntKind.bits .i32))))) fun c d=>inR .i64 (i2-2)/\AP (St:=(Option Addr×Nat×Nat)×Int) (fun a e m=>B0 (0<=a.2) (inR .i64 (6*a.2)/\0<=6*a.2/\N19 e (Vc.bits .or .u8 128 (Vc.bits .and .u8 (IntKind.wrap .u8 (Int.fdiv i0 (2^min (Int.toNat (6*a.2)) (IntKind.bits .i32)))) 63)) fun c d=>∃f i h k,App P #[159,159] 159 d (S a.1.1 a.1.2.1 a.1.2.2) (S (some (.mk c 0 none)) 1 1) (S f i h) k/\inR .i64 (a.2-1)/\m ((f,i,h),a.2-1) k) (∃j,B2S P 159 9 e (S a.1.1 a.1.2.1 a.1.2.2) (.string j)/\R (E (.string j)) e)) ((some (.mk c 0 none),1,1),i2-2) d
theorem yLaid.ok(Z0:yLaid.vc u U i0 i1 i2):Calls P 303 #[.int .i32 i0,.int .u8 i1,I i2] u U:=cok ⟨[],[(3,[(7,.inr 3),(8,.inl .i64)])],[],[]⟩ Tryz.func303 Z0
def ryPut.vc:Prop:=C2 316 [.int .i32 i0] w fun d b=>br (!d) (R (E (A12 (.mk #[]) false)) b) (B0 (i0<(128:Int)) (N19 b (IntKind.wrap .u8 i0) fun d c=>∃f,B2S P 159 9 c (S (some (.mk d 0 none)) 1 1) (.string f)/\R (E (A12 f true)) c) (B0 (i0<(2048:Int)) ((64:Int)≠(0:Int)/\inR .i32 (Int.tdiv i0 (64:Int))/\inR .i32 ((192:Int)+Int.tdiv i0 (64:Int))/\C21 317 [.int .i32 i0,.int .i32 1] b fun g b=>∀d c,New b (.cells #[.int .u8 (IntKind.wrap .u8 ((192:Int)+Int.tdiv i0 (64:Int))),.int .u8 g] 5) d c->∃f,B2S P 159 9 c (S (some (.mk d 0 none)) 2 2) (.string f)/\R (E (A12 f true)) c) (B0 (i0<(65536:Int)) ((4096:Int)≠(0:Int)/\inR .i32 (Int.tdiv i0 (4096:Int))/\inR .i32 ((224:Int)+Int.tdiv i0 (4096:Int))/\C21 317 [.int .i32 i0,.int .i32 64] b fun g b=>C21 317 [.int .i32 i0,.int .i32 1] b fun h b=>∀d c,New b (.cells #[.int .u8 (IntKind.wrap .u8 ((224:Int)+Int.tdiv i0 (4096:Int))),.int .u8 g,.int .u8 h] 5) d c->∃f,B2S P 159 9 c (S (some (.mk d 0 none)) 3 3) (.string f)/\R (E (A12 f true)) c) ((262144:Int)≠(0:Int)/\inR .i32 (Int.tdiv i0 (262144:Int))/\inR .i32 ((240:Int)+Int.tdiv i0 (262144:Int))/\C21 317 [.int .i32 i0,.int .i32 4096] b fun g b=>C21 317 [.int .i32 i0,.int .i32 64] b fun h b=>C21 317 [.int .i32 i0,.int .i32 1] b fun i b=>∀d c,New b (.cells #[.int .u8 (IntKind.wrap .u8 ((240:Int)+Int.tdiv i0 (262144:Int))),.int .u8 g,.int .u8 h,.int .u8 i] 5) d c->∃f,B2S P 159 9 c (S (some (.mk d 0 none)) 4 4) (.string f)/\R (E (A12 f true)) c))))
theorem ryPut.ok(Z0:ryPut.vc u U i0):Calls P 313 #[.int .i32 i0] u U:=cok {} Tryz.func313 Z0
def ryChar.vc:Prop:=B0 (i0=9) (R (E (.bool true)) w) (B0 (i0=10) (R (E (.bool true)) w) (B0 (i0=13) (R (E (.bool true)) w) (B0 (32<=i0) (B0 (i0<=55295) (R (E (.bool true)) w) (B0 (57344<=i0) (B0 (i0<=65533) (R (E (.bool true)) w) (B0 (65536<=i0) (R (E (.bool (decide (i0<=1114111)))) w) (R (E (.bool false)) w))) (B0 (65536<=i0) (R (E (.bool (decide (i0<=1114111)))) w) (R (E (.bool false)) w)))) (B0 (57344<=i0) (B0 (i0<=65533) (R (E (.bool true)) w) (B0 (65536<=i0) (R (E (.bool (decide (i0<=1114111)))) w) (R (E (.bool false)) w))) (B0 (65536<=i0) (R (E (.bool (decide (i0<=1114111)))) w) (R (E (.bool false)) w))))))
theorem ryChar.ok(Z0:ryChar.vc u U i0):Calls P 316 #[.int .i32 i0] u U:=cok {} Tryz.func316 Z0
def rySix.vc:Prop:=i1≠(0:Int)/\inR .i32 (Int.tdiv i0 i1)/\(64:Int)≠(0:Int)/\inR .i32 ((128:Int)+Int.tmod (Int.tdiv i0 i1) (64:Int))/\R (E (.int .u8 (IntKind.wrap .u8 ((128:Int)+Int.tmod (Int.tdiv i0 i1) (64:Int))))) w
theorem rySix.ok(Z0:rySix.vc u U i0 i1):Calls P 317 #[.int .i32 i0,.int .i32 i1] u U:=cok {} Tryz.func317 Z0
end
end Go.Proofs.YtljenkbpnioipaaGreat
namespace Go.Vc
open Go
theorem F6{b:Bool}{x y:Prop}(h1:b=true->x)(a:b=false->y):br b x y:=by
 cases b with
 |true=>exact h1 rfl
 |false=>exact a rfl
theorem AB{p:Prop}[Decidable p]{x y:Prop}(h1:p->x)(a:¬p->y):br (decide p) x y:=
 F6 (fun h=>h1 (of_decide_eq_true h)) (fun h=>a (of_decide_eq_false h))
theorem Gp{b:Bool}{x y:Prop}(h1:b=false->x)(a:b=true->y):br (!b) x y:=by
 cases b with
 |true=>exact a rfl
 |false=>exact h1 rfl
theorem AV{p:Prop}[Decidable p]{x y:Prop}(h1:¬p->x)(a:p->y):br (!decide p) x y:=
 Gp (fun h=>h1 (of_decide_eq_false h)) (fun h=>a (of_decide_eq_true h))
theorem CU{x y:Prop}(h:x):br true x y:=h
theorem BA{x y:Prop}(h:y):br false x y:=h
theorem AA{p:Option Addr}{a:Addr}{k:Addr->Prop}(h:p=some a)(b:k a):onP p k:=by subst h;exact b
theorem AP.mk{St:Type}{a:St->World->(St->World->Prop)->Prop}{s:St}{w:World}(I:Nat->St->World->Prop)(n:Nat)(e:I n s w)
  (h:∀n s w next,I n s w->(∀m b w',m<n->I m b w'->next b w')->a s w next):AP a s w:=
 ⟨⟨I,⟨n,e⟩,fun n s w f=>h n s w _ f fun m b w' c d=>⟨m,c,d⟩⟩⟩
theorem Am.mk{St:Type}{R:St->World->Prop}{X:(St->World->Prop)->Prop}(J:St->World->Prop)(b:∀s w,J s w->R s w)(c:∀a:St->World->Prop,(∀s w,J s w->a s w)->X a):Am R X:=
 ⟨c R b⟩
theorem AC{P:Program}{f:FuncId}{args:List Value}{w:World}{R a:Ending->World->Prop}(h:Calls P f args.toArray w R)(b:∀e w',R e w'->a e w'):BL P f args w a:=
 ⟨Calls.mono h b⟩
theorem DD{z:Int}:inR .i64 z↔ -9223372036854775808<=z/\z<=9223372036854775807:=by
 simp[inR,IntKind.min,IntKind.max,IntKind.signed,IntKind.bits]
theorem iR{z:Int}(h:-9223372036854775808<=z/\z<=9223372036854775807:=by omega):inR .i64 z:=DD.2 h
theorem Hu{z:Int}(h: -9223372036854775808<=z/\z<=9223372036854775807):IntKind.i64.wrap z=z:=LM (DD.2 h)
def Chg(S:List Nat)(w w':World):Prop:=
 w'.os=w.os/\w'.tape=w.tape/\w'.output=w.output/\w.heap.size<=w'.heap.size/\∀k,k<w.heap.size->k∉S->w'.heap[k]? =w.heap[k]?
theorem Chg.refl(S:List Nat)(w:World):Chg S w w:=⟨rfl,rfl,rfl,Nat.le_refl _,fun _ _ _=>rfl⟩
theorem Chg.size{S:List Nat}{w w':World}(h:Chg S w w'):w.heap.size<=w'.heap.size:=h.2.2.2.1
theorem Chg.trans{S T U:List Nat}{a b c:World}(h:Chg S a b)(d:Chg T b c)(i:∀k∈S,k∈U)(j:∀k∈T,k∈U\/a.heap.size<=k):Chg U a c:=by
 refine⟨d.1.trans h.1,d.2.1.trans h.2.1,d.2.2.1.trans h.2.2.1,Nat.le_trans h.size d.size,fun k e f=>?_⟩;have l:=h.2.2.2.2 k e (fun m=>f (i k m))
 have n:=d.2.2.2.2 k (Nat.lt_of_lt_of_le e h.size) (fun o=>by
  rcases j k o with g|g
  ·exact f g
  ·omega)
 exact n.trans l
theorem Chg.more{S T:List Nat}{a b:World}(h:Chg S a b)(c:∀k∈S,k∈T):Chg T a b:=⟨h.1,h.2.1,h.2.2.1,h.size,fun k d e=>h.2.2.2.2 k d fun f=>e (c k f)⟩
theorem Chg.block{S:List Nat}{w w':World}(h:Chg S w w'){k:Nat}{o:Obj}(a:w.heap[k]? =some o)(b:k∉S):w'.heap[k]? =some o:=by
 rw[h.2.2.2.2 k (Array.getElem?_eq_some_iff.1 a).1 b];exact a
theorem Chg.cell{S:List Nat}{w w':World}(h:Chg S w w'){a:Addr}{v:Value}(c:w.cell? a=some v)(d:a.block∉S):w'.cell? a=some v:=by
 have b:=World.block_lt_of_cell? w a c;rw[World.cell?_of_block (h.2.2.2.2 _ b d)];exact c
theorem alloc_old(w:World)(o:Obj)(k:Nat)(h:k<w.heap.size):(w.alloc o).heap[k]? =w.heap[k]? :=by
 show(w.heap.push o)[k]? =_;rw[Array.getElem?_push,if_neg (by omega)]
theorem FO(w:World)(o:Obj):(w.alloc o).heap[w.heap.size]? =some o:=by
 show(w.heap.push o)[w.heap.size]? =_;simp
theorem New.chg{w w1:World}{o:Obj}{b:Nat}(h:New w o b w1):Chg [] w w1:=by
 obtain⟨rfl,rfl⟩:=h;exact⟨rfl,rfl,rfl,by simp,fun k a _=>alloc_old w o k a⟩
theorem New.blk{w w1:World}{o:Obj}{b:Nat}(h:New w o b w1):w1.heap[b]? =some o:=by
 obtain⟨rfl,rfl⟩:=h;exact FO w o
def Blk(w:World)(b:Nat)(cs:List Value)(T:TypeId):Prop:=w.heap[b]? =some (.cells cs.toArray T (0,0))
theorem New.cells{w w1:World}{cs:List Value}{T:TypeId}{b:Nat}(h:New w (.cells cs.toArray T) b w1):Blk w1 b cs T:=h.blk
theorem Blk.chg{w w':World}{b:Nat}{cs:List Value}{T:TypeId}{S:List Nat}(h:Blk w b cs T)(hc:Chg S w w')(a:b∉S):Blk w' b cs T:=hc.block h a
theorem Blk.lt{w:World}{b:Nat}{cs:List Value}{T:TypeId}(h:Blk w b cs T):b<w.heap.size:=(Array.getElem?_eq_some_iff.1 h).1
theorem Blk.cell{w:World}{b:Nat}{cs:List Value}{T:TypeId}(h:Blk w b cs T){o:Nat}{v:Value}(hv:cs[o]? =some v):w.cell? ⟨b,o,none⟩=some v:=by
 have a:w.heap[b]? =some (.cells cs.toArray T (0,0)):=h;simp[World.cell?,a,hv]
def aggB(P:Program)(t:TypeId):Option Bool:=match P.underlying t with
 |some (.struct _)|some (.array _ _)=>some true
 |some _=>some false
 |none=>none
theorem Ho{P:Program}{t:TypeId}{b:Bool}(h:aggB P t=some b)(w:World):(isAgg t).run P w=.ok b w:=by
 unfold aggB at h
 cases hu:P.underlying t with
 |none=>rw[hu]at h;cases h
 |some d=>
  rw[hu]at h;simp only[isAgg,Sem.run_bind,Ad hu,Result.andThen_ok];cases d<;>cases h<;>rfl
theorem OJ{P:Program}{t:TypeId}{w:World}{a:Addr}{v:Value}(b:aggB P t=some false)(h:w.cell? a=some v):Ld P t w a v:=by
 simp only[Ld,loadVar,Sem.run_bind,Ho b,Result.andThen_ok,Bool.false_eq_true,if_false,run_load,h]
theorem XQ{P:Program}{t:TypeId}{w:World}{a:Addr}{vs:List Value}(b:aggB P t=some true)(c:Dt P t=some vs.length)(h:∀j v,vs[j]? =some v->w.cell? (a.add j)=some v):Ld P t w a (.agg vs.toArray):=by
 simp only[Ld,loadVar,Sem.run_bind,Ho b,Result.andThen_ok,if_true,Bl c,Sem.run_map,Sem.run_bind,run_loadCells_list w a vs h,Sem.run_pure]
theorem Blk.ld{P:Program}{t:TypeId}{w:World}{b:Nat}{cs:List Value}{T:TypeId}(h:Blk w b cs T){o:Nat}{v:Value}(a:aggB P t=some false)(hv:cs[o]? =some v):Ld P t w ⟨b,o,none⟩ v:=
 OJ a (h.cell hv)
theorem add_lit(b o j:Nat):(⟨b,o,none⟩:Addr).add j=⟨b,o+j,none⟩:=by
 unfold Addr.add;split<;>simp_all
theorem Blk.ldA{P:Program}{t:TypeId}{w:World}{b:Nat}{cs:List Value}{T:TypeId}(h:Blk w b cs T){o:Nat}{vs:List Value}(c:aggB P t=some true)(d:Dt P t=some vs.length)
  (hv:(cs.drop o).take vs.length=vs):Ld P t w ⟨b,o,none⟩ (.agg vs.toArray):=by
 refine XQ c d fun j v a=>?_;rw[add_lit];refine h.cell ?_;rw[<- hv]at a;rw[List.getElem?_take]at a;split at a
 ·simpa using a
 ·cases a
def setB(w:World)(b:Nat)(o:Obj):World:= {w with heap:=w.heap.setIfInBounds b o}
theorem DV(w:World)(b:Nat)(o:Obj):Chg [b] w (setB w b o):=
 ⟨rfl,rfl,rfl,by simp[setB],fun k c a=>by
  simp only[setB,Array.getElem?_setIfInBounds]
  rw[if_neg (by simpa using Ne.symm (by simpa using a))]⟩
theorem DT{w:World}{b:Nat}{o:Obj}(h:b<w.heap.size):(setB w b o).heap[b]? =some o:=by
 simp[setB,h]
theorem G5{w:World}{b:Nat}{cs:List Value}{T:TypeId}{fz:Nat×Nat}(h:w.heap[b]? =some (.cells cs.toArray T fz))(o:Nat)(v:Value):
  w.setCell ⟨b,o,none⟩ v=setB w b (.cells (cs.set o v).toArray T fz):=by
 simp only[World.setCell,setB];congr 1;apply Array.ext_getElem?;intro k;rw[Array.getElem?_modify,Array.getElem?_setIfInBounds];split
 ·rename_i a;subst a
  rw[if_pos (Array.getElem?_eq_some_iff.1 h).1,h];simp
 ·rfl
theorem JQ(w:World)(b:Nat)(o o':Obj):setB (setB w b o) b o'=setB w b o':=by
 simp only[setB];congr 1;apply Array.ext_getElem?;intro k;simp only[Array.getElem?_setIfInBounds];split
 ·simp
 ·rfl
theorem CP{P:Program}{b:Nat}{T:TypeId}{fz:Nat×Nat}:∀(vs:List Value)(w:World)(cs:List Value)(a:Addr)(o i:Nat),a.add i=⟨b,o,none⟩->(∀j,a.add (i+j)=⟨b,o+j,none⟩)->
  w.heap[b]? =some (.cells cs.toArray T fz)->o+vs.length<=cs.length->(∀k,o<=k->k<o+vs.length->(decide (fz.1<=k)&&decide (k<fz.2))=false)->(∀u∈vs,u.oneCell'=true)->
  (storeCells a vs i).run P w=.ok () (if vs=[]then w else setB w b (.cells (over vs o cs).toArray T fz))
 | [],w,cs,a,o,i,ha,haj,hb,hl,hf,h1=>by simp[storeCells]
 |v::r,w,cs,a,o,i,ha,haj,hb,hl,hf,h1=>by
  simp only[length_cons]at hl hf;simp only[storeCells,Sem.run_bind]
  have d:o<cs.length:=by omega
  have c:w.cell? ⟨b,o,none⟩=some cs[o]:=by simp[World.cell?,hb,d]
  have e:w.frozen? ⟨b,o,none⟩=false:=by
   have:=hf o (Nat.le_refl _) (by omega);obtain⟨p,q⟩:=fz;simpa [World.frozen?,hb]using this
  have f:(store (a.add i) v).run P w=.ok () (w.setCell ⟨b,o,none⟩ v):=by
   rw[ha,run_store P w _ v _ (h1 v (List.mem_cons_self ..))];simp[c,e]
  rw[f];simp only[Result.andThen_ok]
  have g:(w.setCell ⟨b,o,none⟩ v).heap[b]? =some (.cells (cs.set o v).toArray T fz):=by
   rw[G5 hb];exact DT (Array.getElem?_eq_some_iff.1 hb).1
  rw[CP r _ (cs.set o v) a (o+1) (i+1) (haj 1) (fun j=>by rw[show i+1+j=i+(1+j) by omega,haj,show o+(1+j)=o+1+j by omega]) g (by simp;omega) (fun k h l=>hf k (by omega) (by omega)) (fun u m=>h1 u (List.mem_cons_of_mem _ m))];rw[G5 hb,if_neg (List.cons_ne_nil _ _),Dp v r o cs d];split
  ·rename_i n;subst n;simp[CX]
  ·rw[JQ]
theorem Blk.st{P:Program}{t:TypeId}{w:World}{b:Nat}{cs:List Value}{T:TypeId}(h:Blk w b cs T){o:Nat}{v:Value}(c:Dt P t=some v.cells.size)(hv:v.cells.toList.all (·.oneCell')=true)(d:o+v.cells.size<=cs.length):
  ∃w1,St P t w ⟨b,o,none⟩ v w1/\Blk w1 b (over v.cells.toList o cs) T/\Chg [b] w w1:=by
 have a:=CP (P:=P) (b:=b) (T:=T) (fz:=(0,0)) v.cells.toList w cs ⟨b,o,none⟩ o 0 rfl (fun j=>by simp[add_lit]) h (by simpa using d) (fun k _ _=>by simp) (fun u f=>all_eq_true.1 hv u f)
 have e:(storeVar t ⟨b,o,none⟩ v).run P w=(storeCells ⟨b,o,none⟩ v.cells.toList).run P w:=by
  simp only[storeVar,Sem.run_bind,Bl c,Result.andThen_ok];rw[if_neg (by simp)]
 refine⟨_,e.trans a,?_,?_⟩
 ·split
  ·rename_i g;rw[g,CX];exact h
  ·exact DT h.lt
 ·split
  ·exact Chg.refl _ _
  ·exact DV _ _ _
def Thaw(fz:Nat×Nat)(n:Nat):Prop:=∀k,k<n->(decide (fz.1<=k)&&decide (k<fz.2))=false
theorem Thaw.zero(n:Nat):Thaw (0,0) n:=fun k _=>by simp
theorem Thaw.behind(n m:Nat):Thaw (n,m) n:=fun k a=>by
 have:¬n<=k:=by omega
 simp[this]
def Own(w:World)(base:Nat)(e:TypeId)(sz:Nat)(a:Option Addr)(n c:Nat)(xs:List Value):Prop:=
 xs.length=n*sz/\((a=none/\n=0/\c=0)\/∃g cur fz,a=some ⟨g,0,none⟩/\base<=g/\w.heap[g]? =some (.cells cur e fz)/\Thaw fz cur.size/\n<=c/\c<=maxLen/\c*sz<=cur.size/\cur.toList.take (n*sz)=xs)
def blks(a:Option Addr):List Nat:=match a with
 |some a=>[a.block]
 |none=>[]
theorem Own.nil(w:World)(a:Nat)(e:TypeId)(b:Nat):Own w a e b none 0 0 []:=⟨by simp,.inl ⟨rfl,rfl,rfl⟩⟩
theorem Own.le{w:World}{b:Nat}{e:TypeId}{d:Nat}{a:Option Addr}{n c:Nat}{xs:List Value}(h:Own w b e d a n c xs):n<=c/\c<=maxLen:=by
 rcases h.2 with⟨_,rfl,rfl⟩|⟨g,f,_,_,_,_,_,i,j,_⟩
 ·exact⟨Nat.le_refl _,by simp[maxLen]⟩
 ·exact⟨i,j⟩
theorem Own.mem{w:World}{b:Nat}{e:TypeId}{i:Nat}{a:Option Addr}{n c:Nat}{xs:List Value}(h:Own w b e i a n c xs):∀k∈blks a,b<=k/\k<w.heap.size:=by
 intro k d
 rcases h.2 with⟨rfl,_⟩|⟨g,j,o,rfl,l,m,f⟩
 ·simp[blks]at d
 ·simp[blks]at d;subst d
  exact⟨l,(Array.getElem?_eq_some_iff.1 m).1⟩
theorem Own.front{w:World}{b:Nat}{e:TypeId}{d:Nat}{a:Option Addr}{n c F:Nat}{xs:List Value}(h:Own w b e d a n c xs)(i:F<=n):Own w b e d a F F (xs.take (F*d)):=by
 have j:F*d<=n*d:=Nat.mul_le_mul_right _ i;refine⟨by rw[length_take,h.1];omega,?_⟩
 rcases h.2 with⟨rfl,rfl,rfl⟩|⟨g,f,k,rfl,l,m,o,r,s,p,q⟩
 ·exact .inl ⟨rfl,by omega,by omega⟩
 ·exact .inr ⟨g,f,k,rfl,l,m,o,Nat.le_refl _,by omega,Nat.le_trans (Nat.mul_le_mul_right _ (by omega:F<=c)) p,by rw[<- q,List.take_take,Nat.min_eq_left j]⟩
def Cells(w:World)(a:Option Addr)(vs:List Value):Prop:=∀j v,vs[j]? =some v->∃ad,a=some ad/\w.cell? (ad.add j)=some v
theorem Own.cells{w:World}{b:Nat}{e:TypeId}{f:Nat}{a:Option Addr}{n c:Nat}{xs:List Value}(h:Own w b e f a n c xs):Cells w a xs:=by
 intro j v d
 rcases h.2 with⟨rfl,rfl,rfl⟩|⟨g,i,m,rfl,o,k,p,q,r,s,l⟩
 ·have:xs=[]:=eq_nil_of_length_eq_zero (by simpa using h.1)
  subst this;simp at d
 ·refine⟨_,rfl,?_⟩
  rw[add_lit];rw[<- l,List.getElem?_take]at d;split at d
  ·simp[World.cell?,k];simpa using d
  ·cases d
theorem Cells.chg{w w':World}{a:Option Addr}{vs:List Value}{S:List Nat}(h:Cells w a vs)(hc:Chg S w w')(d:∀k∈blks a,k∉S):Cells w' a vs:=by
 intro j v e;obtain⟨c,rfl,b⟩:=h j v e
 exact⟨c,rfl,hc.cell b (by
  have:(c.add j).block=c.block:=by unfold Addr.add;split<;>rfl
  rw[this];exact d _ (by simp[blks]))⟩
theorem Blk.cells{w:World}{b:Nat}{cs:List Value}{T:TypeId}(h:Blk w b cs T):Cells w (some ⟨b,0,none⟩) cs:=
 fun j v a=>⟨_,rfl,by rw[add_lit];simpa using h.cell a⟩
structure Elt(P:Program)(t e:TypeId)(sz by_:Nat):Prop where
 und:P.underlying t=some (.slice e)
 row:∃i z,P.info? e=some i/\i.zero=some z/\i.size=sz/\i.bytes=by_/\z.cells.size=sz
def eltB(P:Program)(t e:TypeId)(sz by_:Nat):Bool:=
 match P.underlying t with
 |some (.slice e')=>Nat.beq e' e&&(match P.info? e with
  |some i=>match i.zero with
   |some z=>Nat.beq i.size sz&&Nat.beq i.bytes by_&&Nat.beq z.cells.size sz
   |none=>false
  |none=>false)
 |_=>false
theorem CW{P:Program}{t e:TypeId}{c b:Nat}(h:eltB P t e c b=true):Elt P t e c b:=by
 unfold eltB at h;split at h
 ·rename_i k d
  simp only[Bool.and_eq_true]at h;obtain⟨f,a⟩:=h;have:=Nat.eq_of_beq_eq_true f;subst this;refine⟨d,?_⟩;split at a
  ·rename_i i g
   split at a
   ·rename_i z j
    simp only[Bool.and_eq_true]at a;exact⟨i,z,g,j,Nat.eq_of_beq_eq_true a.1.1,Nat.eq_of_beq_eq_true a.1.2,Nat.eq_of_beq_eq_true a.2⟩
   ·cases a
  ·cases a
 ·cases h
theorem IM:∀(l:List Value)(o:Nat)(cs:List Value),o+l.length<=cs.length->∀k,(over l o cs)[k]? =if o<=k/\k<o+l.length then l[k-o]? else cs[k]?
 | [],o,cs,h,k=>by
  rw[CX,if_neg];simp only[length_nil];omega
 |y::r,o,cs,h,k=>by
  simp only[length_cons]at h⊢;rw[Dp y r o cs (by omega),IM r (o+1) _ (by simp;omega) k];by_cases b:o=k
  ·subst b
   rw[if_neg (by omega),if_pos (by omega)];rw[List.getElem?_set_self (by omega)];simp
  ·by_cases a:o+1<=k/\k<o+1+r.length
   ·rw[if_pos a,if_pos (by omega),show k-o=(k-(o+1))+1 by omega]
    simp
   ·rw[if_neg a,if_neg (by omega),List.getElem?_set]
    rw[if_neg b]
theorem Vw(l:List Value)(o:Nat)(cs:List Value)(h:o+l.length<=cs.length):(over l o cs).take (o+l.length)=cs.take o++l:=by
 apply ext_getElem?;intro k;rw[List.getElem?_take,IM l o cs h,List.getElem?_append,List.getElem?_take,length_take,show min o cs.length=o by omega];by_cases a:k<o
 ·rw[if_pos (by omega),if_neg (by omega),if_pos a,if_pos a]
 ·by_cases b:k<o+l.length
  ·rw[if_pos b,if_pos (by omega),if_neg a]
  ·rw[if_neg b,if_neg a,List.getElem?_eq_none (by omega)]
theorem I4{b:Nat}{T:TypeId}{fz:Nat×Nat}:∀(vs:List Value)(w:World)(cs:List Value)(o:Nat),w.heap[b]? =some (.cells cs.toArray T fz)->o+vs.length<=cs.length->
  (w.setCells b o vs).heap[b]? =some (.cells (over vs o cs).toArray T fz)/\Chg [b] w (w.setCells b o vs)
 | [],w,cs,o,h,hl=>by simp[World.setCells,CX,h,Chg.refl]
 |v::r,w,cs,o,h,hl=>by
  simp only[length_cons]at hl;simp only[World.setCells];have a:=(Array.getElem?_eq_some_iff.1 h).1
  have d:(w.setCell ⟨b,o,none⟩ v).heap[b]? =some (.cells (cs.set o v).toArray T fz):=by
   rw[G5 h];exact DT a
  obtain⟨e,f⟩:=I4 r _ (cs.set o v) (o+1) d (by simp;omega);rw[Dp v r o cs (by omega)];refine⟨e,?_⟩
  have g:Chg [b] w (w.setCell ⟨b,o,none⟩ v):=by rw[G5 h];exact DV _ _ _
  exact g.trans f (fun k c=>c) (fun k c=>.inl c)
theorem XT{P:Program}{t tx e ty:TypeId}{D F:Nat}(T:Elt P t e D F)(ae:0<D){w:World}{h:Nat}{a:Option Addr}{n c:Nat}{xs:List Value}(l:Own w h e D a n c xs){x:Value}{m:Nat}{b:List Value}
  (r:Src P D tx x m b w) (G:n+m<=maxLen) (L:(n+m)*F<=140737488355328) (y:h<=w.heap.size):
  ∃a' c' w1,App P #[t,tx] ty w (.slice a n c) x (.slice a' (n+m) c') w1/\Own w1 h e D a' (n+m) c' (xs++b)/\Chg (blks a) w w1/\∀k∈blks a',k∈blks a\/w.heap.size<=k:=by
 obtain⟨M,i,z,N,hz,rfl,rfl,O⟩:=T
 have K:n+m<=9223372036854775807:=by simp only[maxLen]at G;omega
 have f:(xs++b).length=(n+m)*i.size:=by rw[length_append,l.1,r.newsLen,Nat.add_mul]
 have s:∀(u:(Builtin.firstCells i.size n (.slice a n c)).run P w.drew=.ok xs.toArray w.drew),c<n+m->
   ∃a' c' w1,App P #[t,tx] ty w (.slice a n c) x (.slice a' (n+m) c') w1/\Own w1 h e i.size a' (n+m) c' (xs++b)/\Chg (blks a) w w1/\∀k∈blks a',k∈blks a\/w.heap.size<=k:=by
  intro u C;have R:=run_append_grow_src (P:=P) w t tx ty e i z M N hz a n c xs u x m b r C (by omega) (growslice_fits C L);have U:=grownCap_ge w (n+m) c e;have A:grownCap w (n+m) c e<=maxLen:=grownCap_le_maxLen w (n+m) c e G;refine⟨_,_,_,R,⟨f,.inr ⟨w.heap.size,_,_,rfl,y,FO w.drew _,Thaw.zero _,U,A,?_,?_⟩⟩,?_,?_⟩
  ·refine Nat.le_of_eq (Eq.symm ?_)
   simp only[Array.size_append,size_toArray,size_zeroCells,O,f,<- Nat.add_mul];congr 1;omega
  ·rw[<- f,Array.toList_append]
   exact List.take_left' rfl
  ·exact⟨rfl,rfl,rfl,by simp,fun k q _=>alloc_old w.drew _ k q⟩
  ·intro k q;simp[blks]at q;subst q;exact .inr (Nat.le_refl _)
 rcases l.2 with⟨rfl,rfl,rfl⟩|⟨g,d,X,rfl,Y,C,hf,af,A,H,B⟩
 ·have Z:xs=[]:=eq_nil_of_length_eq_zero (by simpa using l.1)
  subst Z;by_cases hm:m=0
  ·subst hm
   have hn:b=[]:=eq_nil_of_length_eq_zero (by simpa using r.newsLen);subst hn;refine⟨none,0,w,?_,Own.nil w h e i.size,Chg.refl _ _,by simp[blks]⟩;have hl:=r.len w;have aa:=r.cells
   rcases r.kind with⟨e',q⟩|q<;>simp[App,Builtin.append_,Ad M,Ad q,sizeOf,typeInfo,N,hl,aa]
  ·exact s (run_firstCells_none _ _ _ _ _) (by omega)
 ·by_cases o:n+m<=c
  ·have ac:n*i.size+b.length<=d.size:=by rw[r.newsLen,<- Nat.add_mul];exact Nat.le_trans (Nat.mul_le_mul_right _ o) H
   have p:∀j,j<b.length->(w.cell? ⟨g,0+n*i.size+j,none⟩).isSome=true:=by
    intro j hj
    have:0+n*i.size+j<d.size:=by omega
    simp[World.cell?,C];omega
   have R:=run_append_room_src (P:=P) w t tx ty e i M N g 0 n c x m b r o p (fun j hj=>by
    have:=hf (0+n*i.size+j) (by omega);obtain⟨f1,f2⟩:=X
    simpa [World.frozen?,C]using this)
   have J:w.heap[g]? =some (.cells d.toList.toArray e X):=by simpa using C
   obtain⟨h3,h4⟩:=I4 b w d.toList (0+n*i.size) J (by simp;omega);refine⟨_,_,_,R,⟨f,.inr ⟨g,_,X,rfl,Y,h3,?_,o,A,?_,?_⟩⟩,h4,fun k q=>.inl q⟩
   ·intro k q
    refine hf k ?_;rw[size_toArray,Cc _ _ _ (by rw[show d.toList.length=d.size from Array.length_toList];omega),Array.length_toList]at q;exact q
   ·rw[size_toArray,Cc _ _ _ (by rw[show d.toList.length=d.size from Array.length_toList];omega),Array.length_toList];exact H
   ·rw[<- f]
    have:=Vw b (0+n*i.size) d.toList (by rw[show d.toList.length=d.size from Array.length_toList];omega);rw[show(xs++b).length=0+n*i.size+b.length by rw[f,Nat.add_mul,r.newsLen];omega];simp only[List.toList_toArray];rw[this,Nat.zero_add,B]
  ·refine s ?_ (by omega)
   refine run_firstCells_some _ _ _ _ _ _ xs l.1 fun j v hj=>?_;obtain⟨ad,ab,p⟩:=l.cells j v hj;cases ab;simpa using p
structure KeyT(K:Type)[DecidableEq K]where
 kd:TypeDesc
 enc:K->Value
 same:∀a b,Instr.sameNow kd (enc a) (enc b)=some (decide (a=b))
 bits:∀a,Instr.sameBits 10000 (enc a) (enc a)=true
 plain:∀P t empty w,P.underlying t=some kd->∀a,(Instr.checkKey empty (9999+1) t (enc a)).run P w=.ok () w
theorem Vo{P:Program}{t:TypeId}{D:TypeDesc}(h:P.underlying t=some D)(b:(∃k,D=.int k)\/D=.string)(a:Bool)(d:Nat)(w:World)(v:Value):(Instr.checkKey a (d+1) t v).run P w=.ok () w:=by
 rcases b with⟨k,rfl⟩|rfl<;>simp only[Instr.checkKey,Sem.run_bind,Ad h,Result.andThen_ok,Sem.run_pure]
def DF(k:IntKind):KeyT Int where
 kd:=.int k
 enc:=.int k
 same:=fun a b=>by simp only[Instr.sameNow,if_true];rfl
 bits:=fun a=>by simp[Instr.sameBits]
 plain:=fun P t empty w h a=>Vo h (.inl ⟨k,rfl⟩) empty 9999 w _
theorem VZ(a b:ByteArray):(a==b)=decide (a=b):=by
 obtain⟨a⟩:=a;obtain⟨b⟩:=b;rw[Bool.eq_iff_iff,decide_eq_true_iff,ByteArray.mk.injEq];show(a==b)=true↔a=b;exact beq_iff_eq
def GI:KeyT ByteArray where
 kd:=.string
 enc:=.string
 same:=fun a b=>by simp only[Instr.sameNow,VZ]
 bits:=fun a=>by simp[Instr.sameBits,VZ]
 plain:=fun P t empty w h a=>Vo h (.inr rfl) empty 9999 w _
section
variable{K:Type}[DecidableEq K](kt:KeyT K)
def aget(l:List (K×Value))(k:K):Option Value:=match l with
 | []=>none
 |(x,v)::r=>if k=x then some v else aget r k
def aput(l:List (K×Value))(k:K)(v:Value):List (K×Value):=match l with
 | []=>[(k,v)]
 |(x,u)::r=>if k=x then(x,v)::r else(x,u)::aput r k v
def adel(l:List (K×Value))(k:K):List (K×Value):=match l with
 | []=>[]
 |(x,u)::r=>if k=x then r else(x,u)::adel r k
def Reads(es:List MapEntry)(al:List (K×Value)):Prop:=es.map (fun e=>(e.key,e.val))=al.map fun p=>(kt.enc p.1,p.2)
def MapAt(w:World)(b:Nat)(al:List (K×Value)):Prop:=
 ∃es clock,w.heap[b]? =some (.map es clock)/\Reads kt es.toList al/\(es.toList.map (·.born)).Nodup/\∀e∈es.toList,e.born<clock
variable{kt}
theorem MapAt.chg{w w':World}{b:Nat}{al:List (K×Value)}{S:List Nat}(h:MapAt kt w b al)(hc:Chg S w w')(c:b∉S):MapAt kt w' b al:=by
 obtain⟨d,a,e,f⟩:=h;exact⟨d,a,hc.block e c,f⟩
theorem MapAt.lt{w:World}{b:Nat}{al:List (K×Value)}(h:MapAt kt w b al):b<w.heap.size:=by
 obtain⟨d,a,c,e⟩:=h;exact(Array.getElem?_eq_some_iff.1 c).1
theorem MapAt.new{w w1:World}{b:Nat}(h:New w (.map #[] 0) b w1):MapAt kt w1 b []:=⟨#[],0,h.blk,rfl,by simp,by simp⟩
theorem O3:∀{a:List MapEntry}{al:List (K×Value)}(i:Nat)(k:K),Reads kt a al->
  (aget al k=none/\Instr.findNow kt.kd (kt.enc k) a i=some none)\/
  ∃j v e,aget al k=some v/\Instr.findNow kt.kd (kt.enc k) a i=some (some (i+j,v))/\a[j]? =some e/\e.key=kt.enc k/\e.val=v/\
   (∀b,Reads kt (a.modify j fun e=> {e with key:=kt.enc k,val:=b}) (aput al k b))/\Reads kt (a.eraseIdx j) (adel al k)
 | [],al,i,k,h=>by
  have:al=[]:=by cases al with
   |nil=>rfl
   |cons p r=>simp[Reads]at h
  subst this;exact .inl ⟨rfl,rfl⟩
 |e::a,al,i,k,h=>by
  cases al with
  |nil=>simp[Reads]at h
  |cons p al=>
   obtain⟨x,u⟩:=p;simp only[Reads,map_cons,List.cons.injEq,Prod.mk.injEq]at h;obtain⟨⟨c,f⟩,h⟩:=h;simp only[Instr.findNow,c,kt.same,aget,aput,adel];by_cases d:k=x
   ·subst d
    right;refine⟨0,u,e,by simp,by simp[f],by simp,c,f,fun b=>?_,?_⟩
    ·simp only[if_true,Reads,List.modify_zero_cons,map_cons,c]
     rw[h]
    ·simp only[if_true,List.eraseIdx_cons_zero,Reads];exact h
   ·simp only[d,decide_false,if_false]
    rcases O3 (i+1) k h with⟨g,l⟩|⟨j,v,n,g,l,o,q,s,t,m⟩
    ·exact .inl ⟨g,l⟩
    ·right
     refine⟨j+1,v,n,g,by rw[l];congr 3;omega,by simpa using o,q,s,fun b=>?_,?_⟩
     ·have:=t b
      simp only[Reads,List.modify_succ_cons,map_cons,c,f]at this⊢;rw[this]
     ·simp only[Reads,List.eraseIdx_cons_succ,map_cons,c,f]at m⊢
      rw[m]
theorem reads_push{b:List MapEntry}{al:List (K×Value)}(h:Reads kt b al){k:K}(hn:aget al k=none)(v:Value)(c:Nat):Reads kt (b++[{key:=kt.enc k,val:=v,born:=c}]) (aput al k v):=by
 have:∀(al:List (K×Value)),aget al k=none->aput al k v=al++[(k,v)]:=by
  intro al
  induction al with
  |nil=>intro _;rfl
  |cons p r d=>
   obtain⟨x,u⟩:=p;intro hn;simp only[aget]at hn;split at hn
   ·cases hn
   ·rename_i a
    simp only[aput,if_neg a,d hn,cons_append]
 rw[this al hn];simp only[Reads,map_append,map_cons,List.map_nil]at h⊢;rw[h]
theorem run_findKey{P:Program}{w:World}{t:TypeId}{a:List MapEntry}{al:List (K×Value)}{k:K}{r:Option (Nat×Value)}(b:P.underlying t=some kt.kd)(h:Instr.findNow kt.kd (kt.enc k) a 0=some r):
  (Instr.findKey t (kt.enc k) a).run P w=.ok r w:=by
 simp only[Instr.findKey,Sem.run_bind,Ad b,Result.andThen_ok,h,Sem.run_pure]
theorem run_getObj_map{P:Program}{w:World}{b:Nat}{a:Array MapEntry}{c:Nat}(h:w.heap[b]? =some (.map a c)):(getObj b).run P w=.ok (.map a c) w:=by
 simp only[getObj,Sem.run,h]
theorem run_setObj_map{P:Program}{w:World}{b:Nat}{a:Array MapEntry}{c:Nat}(h:w.heap[b]? =some (.map a c))(o:Obj):(setObj b o).run P w=.ok () (setB w b o):=by
 simp only[setObj,Sem.run,h];rfl
structure MapT(P:Program)(kt:KeyT K)(t kT eT:TypeId)(z:Value):Prop where
 und:P.underlying t=some (.map kT eT)
 key:P.underlying kT=some kt.kd
 zero:zeroOf P eT=some z
theorem Le{P:Program}{t c l:TypeId}{z:Value}(T:MapT P kt t c l z){w:World}{b:Nat}{al:List (K×Value)}(h:MapAt kt w b al)(k:K):
  Lk P t false w (.map (some b)) (kt.enc k) ((aget al k).getD z)/\Lk P t true w (.map (some b)) (kt.enc k) (.tuple #[(aget al k).getD z,.bool (aget al k).isSome]):=by
 obtain⟨n,d,i,m,o⟩:=h;have a:∀e,(Instr.checkKey e 10000 c (kt.enc k)).run P w=.ok () w:=fun e=>kt.plain P c e w T.key k
 rcases O3 0 k m with⟨f,g⟩|⟨j,v,e,f,g,-⟩
 ·simp only[Lk,Instr.lookup,Sem.run_bind,Ad T.und,Result.andThen_ok,run_getObj_map i,Sem.run_pure,a,run_findKey T.key g (al:=al),Sem.run_map,Gf T.zero,f]
  constructor<;>rfl
 ·simp only[Lk,Instr.lookup,Sem.run_bind,Ad T.und,Result.andThen_ok,run_getObj_map i,Sem.run_pure,a,run_findKey T.key g (al:=al),f]
  constructor<;>rfl
theorem Iy{a:List MapEntry}{j:Nat}{k v:Value}:(a.modify j fun e=> {e with key:=k,val:=v}).map (·.born)=a.map (·.born):=by
 apply ext_getElem?;intro i;simp only[List.getElem?_map,List.getElem?_modify]
 cases a[i]? with
 |none=>rfl
 |some e=>simp only[Option.map_some,Functor.map];split<;>rfl
theorem Zd{P:Program}{t p D:TypeId}{z:Value}(T:MapT P kt t p D z){w:World}{b:Nat}{al:List (K×Value)}(h:MapAt kt w b al)(k:K)(v:Value):
  ∃w1,MUp P t w (.map (some b)) (kt.enc k) v w1/\MapAt kt w1 b (aput al k v)/\Chg [b] w w1:=by
 obtain⟨n,d,i,x,y,q⟩:=h;have l:∀e,(Instr.checkKey e 10000 p (kt.enc k)).run P w=.ok () w:=fun e=>kt.plain P p e w T.key k;have m:=(Array.getElem?_eq_some_iff.1 i).1
 rcases O3 0 k x with⟨A,o⟩|⟨j,u,e,A,o,F,G,O,H,-⟩
 ·refine⟨setB w b (.map (n.push {key:=kt.enc k,val:=v,born:=d}) (d+1)),?_,⟨_,_,DT m,?_,?_,?_⟩,DV _ _ _⟩
  ·simp only[MUp,Instr.mapUpdate,Sem.run_bind,Ad T.und,Result.andThen_ok,run_getObj_map i,l,run_findKey T.key o (al:=al),run_setObj_map i]
  ·rw[Array.toList_push];exact reads_push x A v d
  ·rw[Array.toList_push,map_append,nodup_append]
   refine⟨y,by simp,?_⟩;intro a J c B;simp at B;subst B;obtain⟨e,f,rfl⟩:=mem_map.1 J;exact Nat.ne_of_lt (q e f)
  ·intro e f
   rw[Array.toList_push]at f;rcases mem_append.1 f with f|f
   ·exact Nat.lt_succ_of_lt (q e f)
   ·simp at f;subst f;exact Nat.lt_succ_self _
 ·have L:n[j]? =some e:=by simpa using F
  refine⟨setB w b (.map (n.modify j fun e=> {e with key:=kt.enc k,val:=v}) d),?_,⟨_,_,DT m,?_,?_,?_⟩,DV _ _ _⟩
  ·rw[Nat.zero_add]at o
   have g:(Instr.keyThatStays (kt.enc k) (kt.enc k)).run P w=.ok (kt.enc k) w:=by
    simp[Instr.keyThatStays,kt.bits]
   simp only[MUp,Instr.mapUpdate,Sem.run_bind,Ad T.und,Result.andThen_ok,run_getObj_map i,l,run_findKey T.key o (al:=al),L,Option.map_some,Option.getD_some,G,g,run_setObj_map i]
  ·rw[Array.toList_modify];exact H v
  ·rw[Array.toList_modify,Iy];exact y
  ·intro C r
   have:C.born∈(n.modify j fun e=> {e with key:=kt.enc k,val:=v}).toList.map (·.born):=mem_map.2 ⟨C,r,rfl⟩;rw[Array.toList_modify,Iy]at this;obtain⟨M,s,N⟩:=mem_map.1 this;rw[<- N];exact q M s
theorem Np(a:Array MapEntry)(j:Nat):(a.eraseIdxIfInBounds j).toList=a.toList.eraseIdx j:=by
 rw[Array.eraseIdxIfInBounds];split
 ·simp
 ·rw[List.eraseIdx_of_length_le (by simpa using(by omega:a.size<=j))]
theorem Zy{P:Program}{s:Array TypeId}{ty t o F:TypeId}{z:Value}(T:MapT P kt t o F z)(d:s[0]? =some t){w:World}{b:Nat}{al:List (K×Value)}(h:MapAt kt w b al)(k:K):
  ∃w1,Del P s ty w (.map (some b)) (kt.enc k) w1/\MapAt kt w1 b (adel al k)/\Chg [b] w w1:=by
 obtain⟨y,a,f,A,B,C⟩:=h;have g:∀e,(Instr.checkKey e 10000 o (kt.enc k)).run P w=.ok () w:=fun e=>kt.plain P o e w T.key k;have i:=(Array.getElem?_eq_some_iff.1 f).1
 rcases O3 0 k A with⟨D,m⟩|⟨j,u,e,D,m,L,M,N,-,G⟩
 ·have c:∀(al:List (K×Value)),aget al k=none->adel al k=al:=by
   intro al
   induction al with
   |nil=>intro _;rfl
   |cons p r H=>
    obtain⟨x,u⟩:=p;intro n;simp only[aget]at n;split at n
    ·cases n
    ·rename_i q
     simp only[adel,if_neg q,H n]
  refine⟨setB w b (.map y a),?_,⟨_,_,DT i,by rw[c al D];exact A,B,C⟩,DV _ _ _⟩;simp only[Del,Builtin.delete_,d,List.getElem?_toArray,List.getElem?_cons_zero,List.getElem?_cons_succ,Sem.run_bind,Ad T.und,Result.andThen_ok,run_getObj_map f,g,run_findKey T.key m (al:=al),run_setObj_map f,Sem.run_pure]
 ·refine⟨setB w b (.map (y.eraseIdxIfInBounds j) a),?_,⟨_,_,DT i,?_,?_,?_⟩,DV _ _ _⟩
  ·rw[Nat.zero_add]at m
   simp only[Del,Builtin.delete_,d,List.getElem?_toArray,List.getElem?_cons_zero,List.getElem?_cons_succ,Sem.run_bind,Ad T.und,Result.andThen_ok,run_getObj_map f,g,run_findKey T.key m (al:=al),run_setObj_map f,Sem.run_pure]
  ·rw[Np];exact G
  ·rw[Np];exact B.sublist ((List.eraseIdx_sublist ..).map _)
  ·intro J l
   rw[Np]at l;exact C J ((List.eraseIdx_sublist ..).subset l)
end
inductive Asn where
 |blk (b:Nat) (cs:List Value) (T:TypeId)
 |own (e:TypeId) (sz:Nat) (a:Option Addr) (n c:Nat) (xs:List Value)
 |imap (b:Nat) (k:IntKind) (al:List (Int×Value))
 |smap (b:Nat) (al:List (ByteArray×Value))
 |any (foot:List Nat) (p:World->Prop)
def Asn.foot:Asn->List Nat
 |.blk b _ _=>[b]
 |.own _ _ a _ _ _=>blks a
 |.imap b _ _=>[b]
 |.smap b _=>[b]
 |.any f _=>f
def Asn.ok:Asn->World->Prop
 |.blk b cs T,w=>Blk w b cs T
 |.own e sz a n c xs,w=>Own w 0 e sz a n c xs
 |.imap b k al,w=>MapAt (DF k) w b al
 |.smap b al,w=>MapAt GI w b al
 |.any f p,w=>(∀k∈f,k<w.heap.size)/\∀w',(∀k∈f,w'.heap[k]? =w.heap[k]?)->p w'
theorem Asn.WQ{a:Asn}{w:World}(h:a.ok w):∀k∈a.foot,k<w.heap.size:=by
 intro k d
 cases a with
 |blk b cs T=>simp only[Asn.foot,mem_singleton]at d;subst d;exact Blk.lt h
 |own e sz a n c xs=>exact(Own.mem (show Own w 0 e sz a n c xs from h) k d).2
 |imap b i g=>simp only[Asn.foot,mem_singleton]at d;subst d;exact MapAt.lt h
 |smap b g=>simp only[Asn.foot,mem_singleton]at d;subst d;exact MapAt.lt h
 |any f p=>exact h.1 k d
theorem lt_of_eq{w w':World}{k:Nat}(h:k<w.heap.size)(e:w'.heap[k]? =w.heap[k]?):k<w'.heap.size:=by
 rw[Array.getElem?_eq_getElem h]at e;exact(Array.getElem?_eq_some_iff.1 e).1
theorem Asn.X9{a:Asn}{w w':World}(h:a.ok w)(e:∀k∈a.foot,w'.heap[k]? =w.heap[k]?):a.ok w':=by
 cases a with
 |blk b cs T=>exact(e b (by simp[Asn.foot])).trans h
 |own N sz a n c xs=>
  refine⟨h.1,?_⟩;rcases h.2 with C|⟨g,r,D,rfl,F,H,i⟩
  ·exact .inl C
  ·exact .inr ⟨g,r,D,rfl,F,(e g (by simp[Asn.foot,blks])).trans H,i⟩
 |imap b O J=>
  obtain⟨s,d,A,j⟩:=h;exact⟨s,d,(e b (by simp[Asn.foot])).trans A,j⟩
 |smap b J=>
  obtain⟨s,d,A,j⟩:=h;exact⟨s,d,(e b (by simp[Asn.foot])).trans A,j⟩
 |any f p=>exact⟨fun k l=>lt_of_eq (h.1 k l) (e k l),fun K j=>h.2 K fun k l=>(j k l).trans (e k l)⟩
structure Hp(B:List Nat)(w0 w:World)(L:List Asn):Prop where
 chg:Chg B w0 w
 ok:∀a∈L,a.ok w
 own:∀a∈L,∀k∈a.foot,k∈B\/w0.heap.size<=k
 sep:L.Pairwise fun a b=>∀k∈a.foot,k∉b.foot
theorem Hp.start(w:World):Hp [] w w []:=⟨Chg.refl _ _,by simp,by simp,.nil⟩
theorem Hp.JA{w:World}{a:Asn}(h:a.ok w):Hp a.foot w w [a]:=⟨Chg.refl _ _,by simpa using h,by simp;intro k d;exact .inl d,by simp⟩
section
variable{B S:List Nat}{w0 w w':World}{L L1 L2 M:List Asn}{a a' x y z u v p q:Asn}
theorem Hp.use(H:Hp B w0 w (L1++L2))(j:Hp S w w' M)(D:∀k∈S,∃a∈L1,k∈a.foot):Hp B w0 w' (M++L2):=by
 have F:∀k∈S,k∈B\/w0.heap.size<=k:=fun k g=>by
  obtain⟨a,A,C⟩:=D k g;exact H.own a (mem_append_left _ A) k C
 have i:=pairwise_append.1 H.sep
 have l:∀b∈L2,∀k∈b.foot,k∉S:=fun b f k g K=>by
  obtain⟨a,A,C⟩:=D k K;exact i.2.2 a A b f k C g
 refine⟨H.chg.trans j.chg (fun k g=>g) F,?_,?_,?_⟩
 ·intro b f
  rcases mem_append.1 f with f|f
  ·exact j.ok b f
  ·have r:=H.ok b (mem_append_right _ f)
   exact Asn.X9 r fun k g=>j.chg.2.2.2.2 k (Asn.WQ r k g) (l b f k g)
 ·intro b f k g
  rcases mem_append.1 f with f|f
  ·rcases j.own b f k g with h|h
   ·exact F k h
   ·exact .inr (Nat.le_trans H.chg.size h)
  ·exact H.own b (mem_append_right _ f) k g
 ·refine pairwise_append.2 ⟨j.sep,i.2.1,fun b f d J k g s=>?_⟩
  rcases j.own b f k g with h|h
  ·exact l d J k s h
  ·have:=Asn.WQ (H.ok d (mem_append_right _ J)) k s
   omega
theorem Hp.ext(H:Hp B w0 w L)(d:Hp [] w w' M):Hp B w0 w' (M++L):=Hp.use (L1:=[]) H d (by simp)
theorem Hp.ext0(H:Hp B w0 w L)(d:Hp [] w w' []):Hp B w0 w' L:=Hp.use (L1:=[]) H d (by simp)
theorem Hp.ext1(H:Hp B w0 w L)(d:Hp [] w w' [x]):Hp B w0 w' (x::L):=Hp.use (L1:=[]) H d (by simp)
theorem Hp.use1(H:Hp B w0 w (a::L))(d:Hp a.foot w w' M):Hp B w0 w' (M++L):=Hp.use (L1:=[a]) H d (by simp)
theorem Hp.Ba(H:Hp B w0 w (a::L))(d:Hp a.foot w w' [x]):Hp B w0 w' (x::L):=Hp.use (L1:=[a]) H d (by simp)
theorem Hp.chg0(H:Hp B w0 w L)(h:Chg [] w w'):Hp B w0 w' L:=H.ext0 ⟨h,by simp,by simp,.nil⟩
theorem Hp.set(H:Hp B w0 w (a::L))(h:Chg a.foot w w')(d:a'.ok w')(f:∀k∈a'.foot,k∈a.foot\/w.heap.size<=k):Hp B w0 w' (a'::L):=
 H.Ba ⟨h,by simpa using d,by simpa using f,by simp⟩
theorem Hp.add(H:Hp B w0 w L)(h:Chg [] w w')(d:a'.ok w')(f:∀k∈a'.foot,w.heap.size<=k):Hp B w0 w' (a'::L):=
 H.ext1 ⟨h,by simpa using d,by simp;intro k g;exact f k g,by simp⟩
theorem Hp.perm(H:Hp B w0 w L)(h:L.Perm M):Hp B w0 w M:=
 ⟨H.chg,fun a d=>H.ok a (h.mem_iff.2 d),fun a d=>H.own a (h.mem_iff.2 d),(h.pairwise_iff (fun g k i f=>g k f i)).1 H.sep⟩
theorem Hp.drop(H:Hp B w0 w (a::L)):Hp B w0 w L:=⟨H.chg,fun b d=>H.ok b (.tail _ d),fun b d=>H.own b (.tail _ d),(pairwise_cons.1 H.sep).2⟩
theorem Hp.drop1(H:Hp B w0 w (x::a::L)):Hp B w0 w (x::L):=(H.perm (.swap a x L)).drop
theorem Hp.done(H:Hp B w0 w L):Hp B w0 w []:=⟨H.chg,by simp,by simp,.nil⟩
theorem Hp.MV(H:Hp B w0 w (x::L)):Hp B w0 w [x]:=⟨H.chg,fun b d=>H.ok b (by simp at d;simp[d]),fun b d=>H.own b (by simp at d;simp[d]),by simp⟩
theorem Hp.Ae(H:Hp B w0 w (x::a::L)):Hp B w0 w (a::x::L):=H.perm (.swap a x L)
theorem Hp.BD(H:Hp B w0 w (x::y::a::L)):Hp B w0 w (a::x::y::L):=H.perm (((List.Perm.swap a y L).cons x).trans (.swap a x _))
theorem GM(L1:List Asn)(a:Asn)(L:List Asn):(L1++a::L).Perm (a::(L1++L)):=perm_middle
theorem Hp.D8(H:Hp B w0 w (x::y::z::a::L)):Hp B w0 w (a::x::y::z::L):=H.perm (GM [x,y,z] a L)
theorem Hp.Ib(H:Hp B w0 w (x::y::z::u::a::L)):Hp B w0 w (a::x::y::z::u::L):=H.perm (GM [x,y,z,u] a L)
theorem Hp.dN(H:Hp B w0 w (x::y::z::u::v::a::L)):Hp B w0 w (a::x::y::z::u::v::L):=H.perm (GM [x,y,z,u,v] a L)
theorem Hp.pull6(H:Hp B w0 w (x::y::z::u::v::p::a::L)):Hp B w0 w (a::x::y::z::u::v::p::L):=H.perm (GM [x,y,z,u,v,p] a L)
theorem Hp.del1(H:Hp B w0 w (x::a::L)):Hp B w0 w (x::L):=(H.Ae).drop
theorem Hp.del2(H:Hp B w0 w (x::y::a::L)):Hp B w0 w (x::y::L):=(H.BD).drop
end
structure Eqw(w w':World):Prop where
 heap:w'.heap=w.heap
 os:w'.os=w.os
 tape:w'.tape=w.tape
 output:w'.output=w.output
theorem EQ4{w w':World}(a:w'.heap=w.heap:=by exact rfl)(b:w'.os=w.os:=by exact rfl)(c:w'.tape=w.tape:=by exact rfl)(d:w'.output=w.output:=by exact rfl):Eqw w w':=⟨a,b,c,d⟩
theorem Eqw.chg{w w':World}(e:Eqw w w'):Chg [] w w':=⟨e.os,e.tape,e.output,by rw[e.heap];exact Nat.le_refl _,fun k _ _=>by rw[e.heap]⟩
theorem Hp.go{B:List Nat}{w0 w w':World}{L:List Asn}(H:Hp B w0 w L)(e:Eqw w w'):Hp B w0 w' L:=H.chg0 e.chg
theorem Hp.drew{B:List Nat}{w0 w:World}{L:List Asn}(H:Hp B w0 w L):Hp B w0 w.drew L:=H.go ⟨rfl,rfl,rfl,rfl⟩
structure Scl(P:Program)(t:TypeId):Prop where
 agg:aggB P t=some false
 size:Dt P t=some 1
structure Agg(P:Program)(t:TypeId)(n:Nat):Prop where
 agg:aggB P t=some true
 size:Dt P t=some n
def sclB(P:Program)(t:TypeId):Bool:=match aggB P t,Dt P t with
 |some false,some 1=>true
 |_,_=>false
def sagB(P:Program)(t n:Nat):Bool:=match aggB P t,Dt P t with
 |some true,some m=>Nat.beq m n
 |_,_=>false
theorem BK{P:Program}{t:TypeId}(h:sclB P t=true):Scl P t:=by
 unfold sclB at h;split at h
 ·exact⟨by assumption,by assumption⟩
 ·cases h
theorem Ci{P:Program}{t n:Nat}(h:sagB P t n=true):Agg P t n:=by
 unfold sagB at h;split at h
 ·rename_i d f
  have:=Nat.eq_of_beq_eq_true h;subst this;exact⟨d,f⟩
 ·cases h
section
variable{P:Program}{B:List Nat}{w0 w w':World}{L:List Asn}{b o n:Nat}{cs:List Value}{T t:TypeId}
theorem Hp.new(H:Hp B w0 w L)(e:Eqw w w'){w1:World}(h:New w' (.cells cs.toArray T) b w1):Hp B w0 w1 (.blk b cs T::L):=
 (H.go e).add h.chg h.cells (by simp[Asn.foot];exact h.num▸Nat.le_refl _)
theorem Hp.newI(H:Hp B w0 w L)(e:Eqw w w'){w1:World}(k:IntKind)(h:New w' (.map #[] 0) b w1):Hp B w0 w1 (.imap b k []::L):=
 (H.go e).add h.chg (MapAt.new h) (by simp[Asn.foot];exact h.num▸Nat.le_refl _)
theorem Hp.newS(H:Hp B w0 w L)(e:Eqw w w'){w1:World}(h:New w' (.map #[] 0) b w1):Hp B w0 w1 (.smap b []::L):=
 (H.go e).add h.chg (MapAt.new h) (by simp[Asn.foot];exact h.num▸Nat.le_refl _)
theorem Hp.blk(H:Hp B w0 w L)(m:Asn.blk b cs T∈L):Blk w b cs T:=H.ok _ m
theorem Hp.ownA{e:TypeId}{sz:Nat}{a:Option Addr}{n c:Nat}{xs:List Value}(H:Hp B w0 w L)(m:Asn.own e sz a n c xs∈L):Own w 0 e sz a n c xs:=H.ok _ m
theorem Hp.ld(H:Hp B w0 w L)(e:Eqw w w')(S:Scl P t)(m:Asn.blk b cs T∈L){v:Value}(hv:cs[o]? =some v):Ld P t w' ⟨b,o,none⟩ v:=
 Blk.ld ((H.go e).blk m) S.agg hv
theorem Hp.ldA(H:Hp B w0 w L)(e:Eqw w w')(S:Agg P t n)(m:Asn.blk b cs T∈L){vs:List Value}(hv:(cs.drop o).take n=vs)(d:vs.length=n):Ld P t w' ⟨b,o,none⟩ (.agg vs.toArray):=by
 subst d;exact Blk.ldA ((H.go e).blk m) S.agg S.size hv
theorem Hp.st(H:Hp B w0 w (.blk b cs T::L))(e:Eqw w w')(S:Scl P t){v:Value}{G:World->Prop}(hv:v.cells= #[v])(h1:v.oneCell'=true)(ho:o<cs.length){cs':List Value}(hc:cs.set o v=cs')
  (k:∀w1,Hp B w0 w1 (.blk b cs' T::L)->G w1):∃w1,St P t w' ⟨b,o,none⟩ v w1/\G w1:=by
 obtain⟨w1,h1,d,f⟩:=Blk.st (P:=P) (t:=t) ((H.go e).blk (.head _)) (o:=o) (v:=v) (by rw[hv];exact S.size) (by rw[hv];simpa using h1) (by rw[hv];exact ho);refine⟨w1,h1,k w1 ((H.go e).set f ?_ (fun k g=>.inl g))⟩;rw[hv]at d;rw[<- hc]
 have h:over #[v].toList o cs=cs.set o v:=by
  rw[show #[v].toList=[v]from rfl,Dp v [] o cs ho,CX]
 rw[h]at d;exact d
theorem Hp.stA(H:Hp B w0 w (.blk b cs T::L))(e:Eqw w w')(S:Agg P t n){vs:List Value}{G:World->Prop}(hn:vs.length=n)(h1:vs.all (·.oneCell')=true)(ho:o+n<=cs.length){cs':List Value}(hc:over vs o cs=cs')
  (k:∀w1,Hp B w0 w1 (.blk b cs' T::L)->G w1):∃w1,St P t w' ⟨b,o,none⟩ (.agg vs.toArray) w1/\G w1:=by
 subst hn;obtain⟨w1,h1,d,f⟩:=Blk.st (P:=P) (t:=t) ((H.go e).blk (.head _)) (o:=o) (v:=.agg vs.toArray) (by simpa [Value.cells]using S.size) (by simpa [Value.cells]using h1) (by simpa [Value.cells]using ho);refine⟨w1,h1,k w1 ((H.go e).set f ?_ (fun k g=>.inl g))⟩;rw[<- hc];exact d
variable{tx ty e:TypeId}{sz by_:Nat}{a:Option Addr}{c m:Nat}{xs news:List Value}{x:Value}{G:Option Addr->Nat->Nat->World->Prop}
theorem Hp.app(T:Elt P t e sz by_)(f:0<sz)(H:Hp B w0 w (.own e sz a n c xs::L))(i:Eqw w w')(l:Src P sz tx x m news w')(g:n+m<=maxLen)(h:(n+m)*by_<=140737488355328)
  (k:∀a' c' w1,Hp B w0 w1 (.own e sz a' (n+m) c' (xs++news)::L)->G a' (n+m) c' w1):
  ∃a' j c' w1,App P #[t,tx] ty w' (.slice a n c) x (.slice a' j c') w1/\G a' j c' w1:=by
 have d:Own w' 0 e sz a n c xs:=(H.go i).ok _ (.head _);obtain⟨a',c',w1,r,s,A,C⟩:=XT (P:=P) (ty:=ty) T f d l g h (Nat.zero_le _);exact⟨a',_,c',w1,r,k a' c' w1 ((H.go i).set A s C)⟩
end
theorem Blk.src{P:Program}{w:World}{b:Nat}{cs:List Value}{T tx e':TypeId}{sz n c:Nat}(d:P.underlying tx=some (.slice e'))(h:Blk w b cs T)(f:cs.length=n*sz)(h1:cs.all (·.oneCell')=true):Src P sz tx (.slice (some ⟨b,0,none⟩) n c) n cs w:=
 Src.ofSlice w d ⟨b,0,none⟩ n c cs f (fun j u g=>by rw[add_lit];exact h.cell (by simpa using g)) (fun u i=>all_eq_true.1 h1 u i)
theorem Cells.src{P:Program}{w:World}{a:Option Addr}{cs:List Value}{tx e':TypeId}{sz n c:Nat}(d:P.underlying tx=some (.slice e'))(h:Cells w a cs)(f:cs.length=n*sz)(h1:∀u∈cs,u.oneCell'=true)(g:a=none->n=0):Src P sz tx (.slice a n c) n cs w:=by
 cases a with
 |none=>
  have:=g rfl;subst this;have:cs=[]:=eq_nil_of_length_eq_zero (by simpa using f);subst this;exact Src.ofNil w d c
 |some i=>exact Src.ofSlice w d i n c cs f (fun j u k=>by obtain⟨l,r,s⟩:=h j u k;cases r;exact s) h1
section
variable{P:Program}{B:List Nat}{w0 w w':World}{L:List Asn}
theorem Hp.s2b{src d e:TypeId}{s:ByteArray}(H:Hp B w0 w L)(h:Eqw w w')(i:P.underlying src=some .string)(j:P.underlying d=some (.slice e))(l:P.underlying e=some (.int .u8))(r:s.size<=maxLen)
  {G:Option Addr->Nat->Nat->World->Prop} (k:∀a c w1,Hp B w0 w1 (.own e 1 a s.size c (byteCells s)::L)->G a s.size c w1):
  ∃a n c w1,S2B P src d w' (.string s) (.slice a n c) w1/\G a n c w1:=by
 refine⟨_,_,_,_,run_bytes_of_string w' src d e s i j l,k _ _ _ ((H.go h).add ?_ ?_ ?_)⟩
 ·exact⟨rfl,rfl,rfl,by simp,fun k f _=>alloc_old w'.drew _ k f⟩
 ·refine⟨by rw[byteCells_length,Nat.mul_one],.inr ⟨_,_,_,rfl,Nat.zero_le _,FO w'.drew _,Thaw.behind _ _,grownCap_ge _ _ _ _,grownCap_le_maxLen _ _ _ _ r,?_,?_⟩⟩
  ·have:=grownCap_ge w' s.size 0 e
   simp only[bytesRow,Array.size_append,Array.size_map,Array.size_replicate,Nat.mul_one];have g:s.data.size=s.size:=rfl;omega
  ·have g:(byteCells s).length=s.size:=byteCells_length s
   rw[Nat.mul_one,bytesRow,Array.toList_append,Array.toList_map,<- g];exact List.take_left' rfl
 ·intro k f;simp[Asn.foot,blks]at f;subst f;exact Nat.le_refl _
theorem b2s{src f e:TypeId}{a:Option Addr}{n c:Nat}{s:ByteArray}(k:P.underlying src=some (.slice e))(l:P.underlying e=some (.int .u8))(A:P.underlying f=some .string)(hc:Cells w a (byteCells s))(hn:n=s.size):
  B2S P src f w (.slice a n c) (.string s):=by
 subst hn
 cases a with
 |none=>
  have:byteCells s=[]:=by
   cases h:byteCells s with
   |nil=>rfl
   |cons v r=>obtain⟨C,g,_⟩:=hc 0 v (by rw[h];rfl);cases g
  have D:s=ByteArray.empty:=by
   have i:s.data.toList=[]:=by simpa [byteCells]using this
   obtain⟨d⟩:=s
   have:d= #[]:=by apply Array.ext';simpa using i
   subst this;rfl
  subst D;exact run_convert_bytes_nil w src e k l _ _ f A
 |some C=>
  have:=run_convert_bytes_back w src f e C c s.data.toList k l A (fun j F=>by
   have i:(byteCells s)[j]? =some (.int .u8 (s.data.toList[j].toNat:Int)):=by
    simp[byteCells,List.getElem?_map,List.getElem?_eq_getElem F]
   obtain⟨H,g,J⟩:=hc j _ i
   cases g;exact J)
  rw[show(s.data.toList.toArray)=s.data by simp]at this;simpa [B2S,Array.length_toList]using this
theorem Hp.mkS{t e:TypeId}{sz by_:Nat}{j kc:IntKind}{n:Int}(T:Elt P t e sz by_)(H:Hp B w0 w L)(D:Eqw w w')(F:0<=n)(r:n.toNat<=maxLen)(g:(by_:Int)*n<=281474976710656){z:Value}(s:zeroOf P e=some z)
  {G:Option Addr->Nat->Nat->World->Prop} (k:∀a w1,Hp B w0 w1 (.own e sz a n.toNat n.toNat (madeCells z.cells (n.toNat*sz)).toList::L)->G a n.toNat n.toNat w1):
  ∃a l c w1,MkS P t w' (.int j n) (.int kc n) (.slice a l c) w1/\G a l c w1:=by
 obtain⟨J,i,A,C,d,rfl,rfl,K⟩:=T
 have h:A=z:=by
  simp only[zeroOf,C,d,Option.some.injEq]at s;exact s
 subst h;refine⟨_,_,_,_,run_make w' t e i A J C d j kc n n F (Int.le_refl _) g (by simp only[maxLen]at r;omega),k _ _ ((H.go D).add ?_ ?_ ?_)⟩
 ·exact⟨rfl,rfl,rfl,by simp,fun k f _=>alloc_old w' _ k f⟩
 ·refine⟨by rw[Array.length_toList,size_madeCells],.inr ⟨_,_,_,rfl,Nat.zero_le _,FO w' _,Thaw.zero _,Nat.le_refl _,r,Nat.le_of_eq (size_madeCells _ _).symm,?_⟩⟩
  rw[List.take_of_length_le];rw[Array.length_toList,size_madeCells];exact Nat.le_refl _
 ·intro k f;simp[Asn.foot,blks]at f;subst f;exact Nat.le_refl _
end
section
variable{P:Program}{B:List Nat}{w0 w w':World}{L:List Asn}{t kT eT:TypeId}{z v:Value}{b:Nat}
theorem Hp.lkI{k:IntKind}{al:List (Int×Value)}(T:MapT P (DF k) t kT eT z)(H:Hp B w0 w L)(e:Eqw w w')(m:Asn.imap b k al∈L){x:Int}(hv:(aget al x).getD z=v):Lk P t false w' (.map (some b)) (.int k x) v:=by
 subst hv;exact(Le T ((H.go e).ok _ m) x).1
theorem Hp.NC{k:IntKind}{al:List (Int×Value)}(T:MapT P (DF k) t kT eT z)(H:Hp B w0 w L)(e:Eqw w w')(m:Asn.imap b k al∈L){x:Int}{o:Bool}(hv:(aget al x).getD z=v)(ho:(aget al x).isSome=o):Lk P t true w' (.map (some b)) (.int k x) (.tuple #[v,.bool o]):=by
 subst hv;subst ho;exact(Le T ((H.go e).ok _ m) x).2
theorem Hp.lkS{al:List (ByteArray×Value)}(T:MapT P GI t kT eT z)(H:Hp B w0 w L)(e:Eqw w w')(m:Asn.smap b al∈L){x:ByteArray}(hv:(aget al x).getD z=v):Lk P t false w' (.map (some b)) (.string x) v:=by
 subst hv;exact(Le T ((H.go e).ok _ m) x).1
theorem Hp.Wl{al:List (ByteArray×Value)}(T:MapT P GI t kT eT z)(H:Hp B w0 w L)(e:Eqw w w')(m:Asn.smap b al∈L){x:ByteArray}{o:Bool}(hv:(aget al x).getD z=v)(ho:(aget al x).isSome=o):Lk P t true w' (.map (some b)) (.string x) (.tuple #[v,.bool o]):=by
 subst hv;subst ho;exact(Le T ((H.go e).ok _ m) x).2
theorem Hp.mupI{k:IntKind}{al:List (Int×Value)}(T:MapT P (DF k) t kT eT z)(H:Hp B w0 w (.imap b k al::L))(e:Eqw w w'){x:Int}{G:World->Prop}
  (d:∀w1,Hp B w0 w1 (.imap b k (aput al x v)::L)->G w1):∃w1,MUp P t w' (.map (some b)) (.int k x) v w1/\G w1:=by
 obtain⟨w1,f,g,h⟩:=Zd T ((H.go e).ok _ (.head _)) x v;exact⟨w1,f,d w1 ((H.go e).set h g fun k i=>.inl i)⟩
theorem Hp.mupS{al:List (ByteArray×Value)}(T:MapT P GI t kT eT z)(H:Hp B w0 w (.smap b al::L))(e:Eqw w w'){x:ByteArray}{G:World->Prop}
  (d:∀w1,Hp B w0 w1 (.smap b (aput al x v)::L)->G w1):∃w1,MUp P t w' (.map (some b)) (.string x) v w1/\G w1:=by
 obtain⟨w1,f,g,h⟩:=Zd T ((H.go e).ok _ (.head _)) x v;exact⟨w1,f,d w1 ((H.go e).set h g fun k i=>.inl i)⟩
end
theorem Hp.front{B:List Nat}{w0 w:World}{L:List Asn}{e:TypeId}{sz:Nat}{a:Option Addr}{n c F:Nat}{xs:List Value}(H:Hp B w0 w (.own e sz a n c xs::L))(d:F<=n):Hp B w0 w (.own e sz a F F (xs.take (F*sz))::L):=
 H.set (Chg.refl _ _) (Own.front (H.ok _ (.head _)) d) (fun k f=>.inl f)
theorem Own.nil'(e:TypeId)(sz:Nat)(w:World):(Asn.own e sz none 0 0 []).ok w:=Own.nil w 0 e sz
theorem Hp.nilS{B:List Nat}{w0 w:World}{L:List Asn}(H:Hp B w0 w L)(e:TypeId)(sz:Nat):Hp B w0 w (.own e sz none 0 0 []::L):=
 H.add (Chg.refl _ _) (Own.nil' e sz w) (by simp[Asn.foot,blks])
theorem Hp.lo{P:Program}{B:List Nat}{w0 w w':World}{L:List Asn}{b o:Nat}{cs:List Value}{T t:TypeId}(H:Hp B w0 w L)(S:Scl P t){v:Value}(e:Eqw w w':=by exact ⟨rfl,rfl,rfl,rfl⟩)(m:Asn.blk b cs T∈L:=by repeat first|exact .head _|refine .tail _ ?_)(hv:cs[o]? =some v:=by exact rfl):Ld P t w' ⟨b,o,none⟩ v:=Hp.ld H e S m hv
theorem Hp.loA{P:Program}{B:List Nat}{w0 w w':World}{L:List Asn}{b o n:Nat}{cs:List Value}{T t:TypeId}(H:Hp B w0 w L)(S:Agg P t n){vs:List Value}(e:Eqw w w':=by exact ⟨rfl,rfl,rfl,rfl⟩)(m:Asn.blk b cs T∈L:=by repeat first|exact .head _|refine .tail _ ?_)(hv:(cs.drop o).take n=vs:=by exact rfl)(d:vs.length=n:=by exact rfl):Ld P t w' ⟨b,o,none⟩ (.agg vs.toArray):=Hp.ldA H e S m hv d
theorem Hp.nw{B:List Nat}{w0 w w':World}{L:List Asn}{b:Nat}{cs:List Value}{T:TypeId}(H:Hp B w0 w L){w1:World}(h:New w' (.cells cs.toArray T) b w1)(e:Eqw w w':=by exact ⟨rfl,rfl,rfl,rfl⟩):Hp B w0 w1 (.blk b cs T::L):=Hp.new H e h
theorem Hp.sA{P:Program}{B:List Nat}{w0 w w':World}{L:List Asn}{b o n:Nat}{cs:List Value}{T t:TypeId}(H:Hp B w0 w (.blk b cs T::L))(S:Agg P t n){vs:List Value}{G:World->Prop}{cs':List Value}(k:∀w1,Hp B w0 w1 (.blk b cs' T::L)->G w1)(e:Eqw w w':=by exact ⟨rfl,rfl,rfl,rfl⟩)(hn:vs.length=n:=by exact rfl)(h1:vs.all (·.oneCell')=true:=by exact rfl)(ho:o+n<=cs.length:=by simp)(hc:over vs o cs=cs':=by exact rfl):∃w1,St P t w' ⟨b,o,none⟩ (.agg vs.toArray) w1/\G w1:=Hp.stA H e S hn h1 ho hc k
theorem Hp.s1{P:Program}{B:List Nat}{w0 w w':World}{L:List Asn}{b o:Nat}{cs:List Value}{T t:TypeId}(H:Hp B w0 w (.blk b cs T::L))(S:Scl P t){v:Value}{G:World->Prop}{cs':List Value}(k:∀w1,Hp B w0 w1 (.blk b cs' T::L)->G w1)(e:Eqw w w':=by exact ⟨rfl,rfl,rfl,rfl⟩)(hv:v.cells=#[v]:=by exact rfl)(h1:v.oneCell'=true:=by exact rfl)(ho:o<cs.length:=by simp)(hc:cs.set o v=cs':=by exact rfl):∃w1,St P t w' ⟨b,o,none⟩ v w1/\G w1:=Hp.st H e S hv h1 ho hc k
def bt(n:Int)(k:Nat):UInt8:=UInt8.ofNat ((n/2^(8*k))%256).toNat
def be(n:Int):Nat->List UInt8
 |0=>[]
 |k+1=>bt n k::be n k
theorem AX(n:Int)(k:Nat):(be n k).length=k:=by
 induction k with
 |zero=>rfl
 |succ k a=>simp[be,a]
def Aa(l:List UInt8):List Value:=l.map fun b=>Value.int .u8 (b.toNat:Int)
def sv(l:List UInt8):Value:=.string ⟨l.toArray⟩
theorem CS(a b:List UInt8):Aa (a++b)=Aa a++Aa b:=by simp[Aa]
theorem Ah(a:List UInt8):(Aa a).length=a.length:=by simp[Aa]
theorem CQ(l:List UInt8):byteCells ⟨l.toArray⟩=Aa l:=by simp[byteCells,Aa]
theorem Gz(s:ByteArray):byteCells s=Aa s.data.toList:=rfl
theorem FM(x:Int):IntKind.u8.wrap x=x%256:=by
 simp[IntKind.wrap,IntKind.signed,IntKind.bits]
theorem Si(n:Int)(k:Nat):((bt n k).toNat:Int)=(n/2^(8*k))%256:=by
 have a:0<=(n/2^(8*k))%256:=Int.emod_nonneg _ (by omega);have b:(n/2^(8*k))%256<256:=Int.emod_lt_of_pos _ (by omega);rw[bt]
 have:(UInt8.ofNat ((n/2^(8*k))%256).toNat).toNat=((n/2^(8*k))%256).toNat:=by
  rw[UInt8.toNat_ofNat'];exact Nat.mod_eq_of_lt (by omega)
 rw[this];omega
theorem Oo(i:Int)(m:Nat)(h:m<8)(j:Int)(a:j=m):IntKind.u8.wrap (Int.fdiv i ((2:Int)^min (Int.toNat ((8:Int)*j)) (IntKind.bits IntKind.i64)))=((bt i m).toNat:Int):=by
 subst a;rw[FM,Si]
 have b:Int.toNat ((8:Int)*(m:Int))=8*m:=by omega
 have c:min (8*m) (IntKind.bits IntKind.i64)=8*m:=by simp only[IntKind.bits];omega
 rw[b,c,Int.fdiv_eq_ediv_of_nonneg _ (Int.le_of_lt (Int.pow_pos (by omega)))]
theorem add_add(a:Addr)(i j:Nat):(a.add i).add j=a.add (i+j):=by
 obtain⟨b,o,s⟩:=a;by_cases c:i=0<;>by_cases d:j=0<;>simp[Addr.add,c,d,Nat.add_assoc]
theorem Cells.slA{w:World}{a:Option Addr}{xs:List Value}(h:Cells w a xs){c i:Nat}(hc:xs.length<=c):Cells w (slA a c i 1) (xs.drop i):=by
 intro j v d;rw[List.getElem?_drop]at d;obtain⟨f,rfl,b⟩:=h _ v d;have e:=(List.getElem?_eq_some_iff.1 d).1;unfold Go.Vc.slA;rw[if_neg (by omega)];exact⟨_,rfl,by rw[add_add,Nat.mul_one];exact b⟩
theorem Cells.take{w:World}{a:Option Addr}{xs:List Value}(h:Cells w a xs)(i:Nat):Cells w a (xs.take i):=by
 intro j v b;rw[List.getElem?_take]at b;split at b
 ·exact h j v b
 ·cases b
theorem Nb(l:List UInt8):∀u∈Aa l,u.oneCell'=true:=by
 intro u a;obtain⟨_,_,rfl⟩:=mem_map.1 a;rfl
theorem Qs(l:List UInt8)(n:Nat):Aa (l.drop n)=(Aa l).drop n:=by simp[Aa,List.map_drop]
theorem Qv(l:List UInt8)(n:Nat):Aa (l.take n)=(Aa l).take n:=by simp[Aa,List.map_take]
theorem Own.pos{w:World}{e:TypeId}{b:Nat}{a:Option Addr}{n c:Nat}{xs:List Value}(h:Own w 0 e b a n c xs)(hn:n≠0):a≠none:=by
 rcases h.2 with⟨_,d,_⟩|⟨g,f,i,rfl,_⟩
 ·exact absurd d hn
 ·simp
theorem Tc(l:List Value)(o:Nat)(cs:List Value)(h:o+l.length<=cs.length):(over l o cs).length=cs.length:=Cc _ _ _ h
theorem Oy(l:List Value)(o:Nat)(cs:List Value)(n:Nat)(h:o+l.length<=n)(hn:n<=cs.length):(over l o cs).take n=over l o (cs.take n):=by
 apply ext_getElem?;intro k
 have d:o+l.length<=(cs.take n).length:=by rw[length_take];omega
 rw[List.getElem?_take,IM l o cs (by omega),IM l o (cs.take n) d,List.getElem?_take];by_cases b:k<n
 ·rw[if_pos b,if_pos b]
 ·rw[if_neg b,if_neg b,if_neg (by omega)]
theorem Own.st{P:Program}{t:TypeId}{w:World}{e:TypeId}{sz:Nat}{a:Option Addr}{n c:Nat}{xs:List Value}(h:Own w 0 e sz a n c xs){y:Addr}(z:a=some y){o:Nat}{v:Value}(D:Dt P t=some v.cells.size)(hv:v.cells.toList.all (·.oneCell')=true)(O:o+v.cells.size<=xs.length):
  ∃w1,St P t w (y.add o) v w1/\Own w1 0 e sz a n c (over v.cells.toList o xs)/\Chg (blks a) w w1:=by
 have f:=h.1
 rcases h.2 with⟨rfl,_⟩|⟨g,d,r,rfl,F,A,C,i,s,x,G⟩
 ·cases z
 cases z;have H:n*sz<=c*sz:=Nat.mul_le_mul_right _ i
 have m:w.heap[g]? =some (.cells d.toList.toArray e r):=by simpa using A
 have p:d.toList.length=d.size:=Array.length_toList;have J:v.cells.toList.length=v.cells.size:=Array.length_toList;have q:=CP (P:=P) (b:=g) (T:=e) (fz:=r) v.cells.toList w d.toList ⟨g,o,none⟩ o 0 rfl (fun j=>by simp[add_lit]) m (by omega) (fun k R U=>C k (by omega)) (fun u K=>all_eq_true.1 hv u K)
 have M:(storeVar t ((⟨g,0,none⟩:Addr).add o) v).run P w=(storeCells ⟨g,o,none⟩ v.cells.toList).run P w:=by
  rw[add_lit,Nat.zero_add];simp only[storeVar,Sem.run_bind,Bl D,Result.andThen_ok];rw[if_neg (by simp)]
 refine⟨_,M.trans q,?_,?_⟩
 ·split
  ·rename_i N;rw[N,CX];exact h
  ·refine⟨by rw[Tc _ _ _ (by omega)];exact f,.inr ⟨g,_,r,rfl,F,DT (Array.getElem?_eq_some_iff.1 A).1,?_,i,s,?_,?_⟩⟩
   ·rw[size_toArray,Tc _ _ _ (by omega),p];exact C
   ·rw[size_toArray,Tc _ _ _ (by omega),p];exact x
   ·simp only[List.toList_toArray]
    rw[Oy _ _ _ _ (by omega) (by omega),G]
 ·split
  ·exact Chg.refl _ _
  ·exact DV _ _ _
theorem Cells.ldA{P:Program}{w:World}{a:Option Addr}{xs:List Value}(h:Cells w a xs){t:TypeId}{n:Nat}(T:Agg P t n){d:Addr}(f:a=some d){o:Nat}{vs:List Value}(hv:(xs.drop o).take n=vs)(g:vs.length=n):Ld P t w (d.add o) (.agg vs.toArray):=by
 subst g f;refine XQ T.agg T.size fun j v b=>?_;rw[add_add]
 obtain⟨i,k,m⟩:=h (o+j) v (by
  rw[<- hv,List.getElem?_take]at b;split at b
  ·simpa using b
  ·cases b)
 cases k;exact m
theorem Cells.ld{P:Program}{w:World}{a:Option Addr}{xs:List Value}(h:Cells w a xs){t:TypeId}(T:Scl P t){b:Addr}(d:a=some b){o:Nat}{v:Value}(hv:xs[o]? =some v):Ld P t w (b.add o) v:=by
 subst d;obtain⟨f,g,i⟩:=h o v hv;cases g;exact OJ T.agg i
theorem Cells.some{w:World}{a:Option Addr}{xs:List Value}(h:Cells w a xs)(d:xs≠[]):∃b,a=some b:=by
 cases xs with
 |nil=>exact absurd rfl d
 |cons v r=>obtain⟨b,e,_⟩:=h 0 v rfl;exact⟨b,e⟩
section
variable{P:Program}{B:List Nat}{w0 w w':World}{L:List Asn}{e t:TypeId}{sz:Nat}{a:Option Addr}{n c o:Nat}{xs:List Value}{v:Value}
theorem Hp.stO(H:Hp B w0 w (.own e sz a n c xs::L))(b:Eqw w w'){d:Addr}(g:a=some d)(h:Dt P t=some v.cells.size)(hv:v.cells.toList.all (·.oneCell')=true)(i:o+v.cells.size<=xs.length){xs':List Value}(j:over v.cells.toList o xs=xs'){G:World->Prop}
  (k:∀w1,Hp B w0 w1 (.own e sz a n c xs'::L)->G w1):∃w1,St P t w' (d.add o) v w1/\G w1:=by
 obtain⟨w1,m,f,p⟩:=Own.st (P:=P) (t:=t) ((H.go b).ok _ (.head _)) g h hv i;rw[j]at f;exact⟨w1,m,k w1 ((H.go b).set p f fun k q=>.inl q)⟩
end
theorem over1(v:Value)(o:Nat)(xs:List Value)(h:o<xs.length):over [v] o xs=xs.set o v:=by
 rw[Dp v [] o xs h,CX]
section
variable{P:Program}{B:List Nat}{w0 w w':World}{L:List Asn}{e t:TypeId}{sz:Nat}{a:Option Addr}{n c o:Nat}{xs:List Value}{v:Value}
theorem Hp.stO1(H:Hp B w0 w (.own e sz a n c xs::L))(f:Eqw w w')(T:Scl P t){b:Addr}(g:a=some b)(hv:v.cells= #[v])(h1:v.oneCell'=true)(d:o<xs.length){G:World->Prop}
  (k:∀w1,Hp B w0 w1 (.own e sz a n c (xs.set o v)::L)->G w1):∃w1,St P t w' (b.add o) v w1/\G w1:=
 Hp.stO H f g (by rw[hv];exact T.size) (by rw[hv];simpa using h1) (by rw[hv];exact d) (by rw[hv];exact over1 v o xs d) k
end
def objA(l:Nat)(o:Obj):Asn:=.any [l] fun w=>w.heap[l]? =some o
theorem RS{l:Nat}{o:Obj}{w:World}(h:w.heap[l]? =some o):(objA l o).ok w:=
 ⟨fun k b=>by rw[mem_singleton]at b;subst b;exact(Array.getElem?_eq_some_iff.1 h).1,fun w' d=>(d l (by simp)).trans h⟩
section
variable{P:Program}{B:List Nat}{w0 w w' w1:World}{L:List Asn}{l:Nat}{o o':Obj}
theorem Hp.obj(H:Hp B w0 w L)(m:objA l o∈L):w.heap[l]? =some o:=(H.ok _ m).2 w fun _ _=>rfl
theorem Hp.newO(H:Hp B w0 w L)(e:Eqw w w')(h:New w' o l w1):Hp B w0 w1 (objA l o::L):=
 (H.go e).add h.chg (RS h.blk) (by intro k b;simp[objA,Asn.foot]at b;subst b;exact h.num▸Nat.le_refl _)
theorem Hp.putO(H:Hp B w0 w (objA l o::L)):Hp B w0 (w.putObj l o') (objA l o'::L):=by
 have b:l<w.heap.size:=(Array.getElem?_eq_some_iff.1 (H.obj (.head _))).1;exact H.set (DV w l o') (RS (World.putObj_heap_same b)) (fun k d=>.inl d)
theorem Hp.shut(H:Hp B w0 w (objA l (.deferred (some []))::L)){G:World->Prop}(k:∀w1,Hp B w0 w1 L->G w1):∃w1,FZ w l w1/\G w1:=
 ⟨_,⟨H.obj (.head _),rfl⟩,k _ (H.putO (o':=.deferred none)).drop⟩
end
theorem aG{P:Program}{b:Value}{args:List Value}{w:World}{R d:Ending->World->Prop}(h:Ee P b args w R)(f:∀e w',R e w'->d e w'):Ee P b args w d:=Ue f h
def EH(es:Array MapEntry)(seen:Array Nat):List MapEntry:=es.toList.filter fun e=> !seen.contains e.born
theorem QO(es:Array MapEntry):EH es #[]=es.toList:=by
 simp[EH]
theorem VN:∀{l:List MapEntry}{e:MapEntry},e∈l->(l.map (·.born)).Nodup->l.Perm (e::l.filter fun x=> !decide (x.born=e.born))
 |x::r,e,h,hn=>by
  simp only[map_cons,nodup_cons]at hn;rw[List.filter_cons];by_cases d:x.born=e.born
  ·have f:x=e:=by
    rcases mem_cons.1 h with rfl|h
    ·rfl
    ·exact absurd (d▸mem_map.2 ⟨e,h,rfl⟩) hn.1
   subst f;simp only[decide_true,Bool.not_true,Bool.false_eq_true,if_false];refine List.Perm.cons _ ?_;rw[List.filter_eq_self.2];intro y g;have:y.born≠x.born:=fun e=>hn.1 (e▸mem_map.2 ⟨y,g,rfl⟩);simp[this]
  ·have i:e∈r:=by
    rcases mem_cons.1 h with rfl|h
    ·exact absurd rfl d
    ·exact h
   simp only[d,decide_false,Bool.not_false,if_true];exact((VN i hn.2).cons x).trans (.swap _ _ _)
theorem leftL_push{es:Array MapEntry}{seen:Array Nat}{e:MapEntry}(hn:(es.toList.map (·.born)).Nodup)(f:e∈EH es seen):(EH es seen).Perm (e::EH es (seen.push e.born)):=by
 have d:((EH es seen).map (·.born)).Nodup:=hn.sublist ((List.filter_sublist ..).map _);refine(VN f d).trans ?_;refine List.Perm.cons _ (List.Perm.of_eq ?_);simp only[EH,List.filter_filter];congr 1;funext x;simp only[Array.contains_push,Bool.not_or];rw[Bool.and_comm];congr 1
theorem Qk(es:Array MapEntry)(seen:Array Nat):(leftOf es seen).toList=EH es seen:=by simp[leftOf,EH]
section
variable{P:Program}{B:List Nat}{w0 w w':World}{L:List Asn}{t kT eT:TypeId}{b it clock:Nat}{es:Array MapEntry}{seen:Array Nat}{ty:TypeId}
theorem Hp.rng(H:Hp B w0 w L)(f:Eqw w w')(g:P.underlying t=some (.map kT eT))(h:w.heap[b]? =some (.map es clock)){G:Option Addr->World->Prop}
  (k:∀it w1,Hp B w0 w1 (objA it (.mapIter (some b) clock #[] clock)::L)->G (some ⟨it,0,none⟩) w1):∃(p:Option Addr)(w1:World),Rng P t w' (.map (some b)) (.pointer p) w1/\G p w1:=by
 have d:w'.heap[b]? =some (.map es clock):=by rw[f.heap];exact h
 refine⟨some ⟨w'.heap.size,0,none⟩,w'.alloc (.mapIter (some b) clock #[] clock),?_,k _ _ (H.newO f ⟨rfl,rfl⟩)⟩;simp only[Rng,Instr.range,Sem.run_bind,Ad g,Result.andThen_ok,run_getObj_map d,Sem.run_pure];rfl
theorem Hp.nxt(H:Hp B w0 w (objA it (.mapIter (some b) clock seen clock)::L))(eq:Eqw w w')(hb:w.heap[b]? =some (.map es clock))(hold:∀e∈es.toList,e.born<clock)(hn:(es.toList.map (·.born)).Nodup)
  {G0:World->Prop} {G1:Value->Value->World->Prop}
  (k0:EH es seen=[]->G0 w')
  (k1:∀(e:MapEntry)(w1:World),e∈es.toList->(EH es seen).Perm (e::EH es (seen.push e.born))->Hp B w0 w1 (objA it (.mapIter (some b) clock (seen.push e.born) clock)::L)->
   (Instr.entry (.pointer (some ⟨it,0,none⟩))).run P w1=.ok (.tuple #[e.key,e.val]) w1->G1 e.key e.val w1):
  (∃w1,Nxt P false ty w' (.pointer (some ⟨it,0,none⟩)) (.tuple #[.bool false]) w1/\G0 w1)\/(∃(k v:Value)(w1:World),Nxt P false ty w' (.pointer (some ⟨it,0,none⟩)) (.tuple #[.bool true,k,v]) w1/\G1 k v w1):=by
 have H1:=H.go eq;have hi:w'.heap[it]? =some (.mapIter (some b) clock seen clock):=H1.obj (.head _)
 have hb':w'.heap[b]? =some (.map es clock):=by rw[eq.heap];exact hb
 rcases run_next_at (P:=P) w' ty it b clock clock seen es clock hi hb' hold (Nat.le_refl _)with⟨h1,h2⟩|⟨e,he,w1,hw,h2⟩
 ·refine .inl ⟨w',h2,k0 ?_⟩
  rw[<- Qk];exact eq_nil_of_length_eq_zero (by simpa using h1)
 ·rw[Qk]at he
  have hmem:e∈es.toList:=(List.mem_filter.1 he).1
  have e1:Eqw w' w1:=by rcases hw with rfl|rfl<;>exact⟨rfl,rfl,rfl,rfl⟩
  have H2:=H1.go e1
  have hne:it≠b:=by
   rintro rfl;rw[hb']at hi;cases hi
  have H3:Hp B w0 (setB w1 it (.mapIter (some b) clock (seen.push e.born) clock)) (objA it (.mapIter (some b) clock (seen.push e.born) clock)::L):=H2.putO (o':=.mapIter (some b) clock (seen.push e.born) clock);have hset:ChangeMaps.setBlock w1 it (.mapIter (some b) clock (seen.push e.born) clock)=setB w1 it (.mapIter (some b) clock (seen.push e.born) clock):=rfl;rw[hset]at h2;refine .inr ⟨_,_,_,h2,k1 e _ hmem (leftL_push hn he) H3 ?_⟩;refine run_entry_at (P:=P) _ it b clock seen es clock e (H3.obj (.head _)) ?_ hmem hn
  have:(setB w1 it (.mapIter (some b) clock (seen.push e.born) clock)).heap[b]? =w1.heap[b]? :=by
   have hc:=DV w1 it (.mapIter (some b) clock (seen.push e.born) clock)
   have hlt:b<w1.heap.size:=by rw[e1.heap];exact(Array.getElem?_eq_some_iff.1 hb').1
   exact hc.2.2.2.2 b hlt (by simpa using fun h=>hne h.symm)
  rw[this,e1.heap];exact hb'
end
section
variable{P:Program}{B:List Nat}{w0 w w':World}{L:List Asn}{e t:TypeId}{sz n c o m:Nat}{a:Option Addr}{xs:List Value}{v:Value}
theorem Hp.ldO(H:Hp B w0 w L)(h:Eqw w w')(S:Scl P t)(i:Asn.own e sz a n c xs∈L)(ho:xs[o]? =some v):∃d,a=some d/\Ld P t w' (d.add o) v:=by
 have f:=((H.go h).ownA i).cells;obtain⟨d,g,_⟩:=f o v ho;exact⟨d,g,f.ld S g ho⟩
theorem Hp.ldOA(H:Hp B w0 w L)(i:Eqw w w')(S:Agg P t m)(l:0<m)(j:Asn.own e sz a n c xs∈L){vs:List Value}(ho:(xs.drop o).take m=vs)(f:vs.length=m):∃d,a=some d/\Ld P t w' (d.add o) (.agg vs.toArray):=by
 have g:=((H.go i).ownA j).cells
 have k:xs≠[]:=by
  rintro rfl;rw[List.drop_nil,List.take_nil]at ho;subst ho;simp at f;omega
 obtain⟨d,h⟩:=g.some k;exact⟨d,h,g.ldA S h ho f⟩
end
end Go.Vc
namespace Go.Proofs.YtljenkbpnioipaaGreat
open Go Go.Vc Go.Proofs Go.RowKit Go.Maps Go.Sort Go.Shelf
def sfCR:Ren:= {f:=fun|6=>118|15=>178|14=>177|28=>234|29=>235|20=>226|21=>227|22=>228|23=>229|24=>230|25=>231|26=>232|27=>233|46=>267|47=>268|48=>269|49=>270|50=>271|57=>301|n=>n,t:=fun|22=>39|24=>55|25=>208|3=>3|39=>244|0=>0|53=>308|55=>310|4=>4|46=>302|45=>301|50=>175|5=>5|9=>9|66=>335|70=>339|76=>359|77=>157|n=>n,g:=fun n=>n}
theorem sfCL : SlLaysF0.n6 Tryz.prog sfCR := { mixed := by kernel_rfl, f6 := ⟨"slices.SortFunc[[]incunable/nodetab.Change,incunable/nodetab.Change]", of_decide_eq_true (by kernel_rfl), Tryz.func118.trans (congrArg some (by kernel_rfl))⟩, f14 := ⟨"slices.pdqsortCmpFunc[incunable/nodetab.Change]", of_decide_eq_true (by kernel_rfl), Tryz.func177.trans (congrArg some (by kernel_rfl))⟩, f20 := ⟨"slices.insertionSortCmpFunc[incunable/nodetab.Change]", of_decide_eq_true (by kernel_rfl), Tryz.func226.trans (congrArg some (by kernel_rfl))⟩, f21 := ⟨"slices.heapSortCmpFunc[incunable/nodetab.Change]", of_decide_eq_true (by kernel_rfl), Tryz.func227.trans (congrArg some (by kernel_rfl))⟩, f22 := ⟨"slices.breakPatternsCmpFunc[incunable/nodetab.Change]", of_decide_eq_true (by kernel_rfl), Tryz.func228.trans (congrArg some (by kernel_rfl))⟩, f23 := ⟨"slices.choosePivotCmpFunc[incunable/nodetab.Change]", of_decide_eq_true (by kernel_rfl), Tryz.func229.trans (congrArg some (by kernel_rfl))⟩, f24 := ⟨"slices.reverseRangeCmpFunc[incunable/nodetab.Change]", of_decide_eq_true (by kernel_rfl), Tryz.func230.trans (congrArg some (by kernel_rfl))⟩, f25 := ⟨"slices.partialInsertionSortCmpFunc[incunable/nodetab.Change]", of_decide_eq_true (by kernel_rfl), Tryz.func231.trans (congrArg some (by kernel_rfl))⟩, f26 := ⟨"slices.partitionEqualCmpFunc[incunable/nodetab.Change]", of_decide_eq_true (by kernel_rfl), Tryz.func232.trans (congrArg some (by kernel_rfl))⟩, f27 := ⟨"slices.partitionCmpFunc[incunable/nodetab.Change]", of_decide_eq_true (by kernel_rfl), Tryz.func233.trans (congrArg some (by kernel_rfl))⟩, f46 := ⟨"slices.siftDownCmpFunc[incunable/nodetab.Change]", of_decide_eq_true (by kernel_rfl), Tryz.func267.trans (congrArg some (by kernel_rfl))⟩, f49 := ⟨"slices.medianAdjacentCmpFunc[incunable/nodetab.Change]", of_decide_eq_true (by kernel_rfl), Tryz.func270.trans (congrArg some (by kernel_rfl))⟩, f50 := ⟨"slices.medianCmpFunc[incunable/nodetab.Change]", of_decide_eq_true (by kernel_rfl), Tryz.func271.trans (congrArg some (by kernel_rfl))⟩, f57 := ⟨"slices.order2CmpFunc[incunable/nodetab.Change]", of_decide_eq_true (by kernel_rfl), Tryz.func301.trans (congrArg some (by kernel_rfl))⟩, f15 := Tryz.func178.trans (congrArg some (by kernel_rfl)), f28 := Tryz.func234.trans (congrArg some (by kernel_rfl)), f29 := Tryz.func235.trans (congrArg some (by kernel_rfl)), f47 := Tryz.func268.trans (congrArg some (by kernel_rfl)), f48 := Tryz.func269.trans (congrArg some (by kernel_rfl)), t0 := Tryz.underlying0, a0 := Tryz.isAgg0, z0 := Tryz.sizeOf0, v0 := Tryz.zeroValue0, t3 := Tryz.underlying3, a3 := Tryz.isAgg3, z3 := Tryz.sizeOf3, v3 := Tryz.zeroValue3, t4 := Tryz.underlying4, a4 := Tryz.isAgg4, z4 := Tryz.sizeOf4, v4 := Tryz.zeroValue4, t5 := Tryz.underlying5, a5 := Tryz.isAgg5, z5 := Tryz.sizeOf5, v5 := Tryz.zeroValue5, t9 := Tryz.underlying9, a9 := Tryz.isAgg9, z9 := Tryz.sizeOf9, v9 := Tryz.zeroValue9, t22 := Tryz.underlying39, a22 := Tryz.isAgg39, z22 := Tryz.sizeOf39, v22 := Tryz.zeroValue39, t25 := Tryz.underlying208, a25 := Tryz.isAgg208, z25 := Tryz.sizeOf208, v25 := Tryz.zeroValue208, t39 := Tryz.underlying244, a39 := Tryz.isAgg244, z39 := Tryz.sizeOf244, v39 := Tryz.zeroValue244, t45 := Tryz.underlying301, a45 := Tryz.isAgg301, z45 := Tryz.sizeOf301, v45 := Tryz.zeroValue301, t46 := Tryz.underlying302, a46 := Tryz.isAgg302, z46 := Tryz.sizeOf302, v46 := Tryz.zeroValue302, t50 := Tryz.underlying175, a50 := Tryz.isAgg175, z50 := Tryz.sizeOf175, v50 := Tryz.zeroValue175, t53 := Tryz.underlying308, a53 := Tryz.isAgg308, z53 := Tryz.sizeOf308, v53 := Tryz.zeroValue308, t55 := Tryz.underlying310, a55 := Tryz.isAgg310, z55 := Tryz.sizeOf310, v55 := Tryz.zeroValue310, t66 := Tryz.underlying335, a66 := Tryz.isAgg335, z66 := Tryz.sizeOf335, v66 := Tryz.zeroValue335, t70 := Tryz.underlying339, a70 := Tryz.isAgg339, z70 := Tryz.sizeOf339, v70 := Tryz.zeroValue339, t76 := Tryz.underlying359, a76 := Tryz.isAgg359, z76 := Tryz.sizeOf359, v76 := Tryz.zeroValue359, t77 := Tryz.underlying157, a77 := Tryz.isAgg157, z77 := Tryz.sizeOf157, v77 := Tryz.zeroValue157 }
def sfRR:Ren:= {f:=fun|6=>132|15=>178|14=>194|28=>234|29=>235|20=>250|21=>251|22=>252|23=>253|24=>254|25=>255|26=>256|27=>257|46=>287|47=>268|48=>269|49=>288|50=>289|57=>309|n=>n,t:=fun|22=>126|24=>204|25=>223|3=>3|39=>244|0=>0|53=>308|55=>310|4=>4|46=>302|45=>301|50=>175|5=>5|9=>9|66=>335|70=>339|76=>359|77=>157|n=>n,g:=fun n=>n}
theorem sfRL : SlLaysF0.n6 Tryz.prog sfRR := { mixed := by kernel_rfl, f6 := ⟨"slices.SortFunc[[]incunable/folio.Record,incunable/folio.Record]", of_decide_eq_true (by kernel_rfl), Tryz.func132.trans (congrArg some (by kernel_rfl))⟩, f14 := ⟨"slices.pdqsortCmpFunc[incunable/folio.Record]", of_decide_eq_true (by kernel_rfl), Tryz.func194.trans (congrArg some (by kernel_rfl))⟩, f20 := ⟨"slices.insertionSortCmpFunc[incunable/folio.Record]", of_decide_eq_true (by kernel_rfl), Tryz.func250.trans (congrArg some (by kernel_rfl))⟩, f21 := ⟨"slices.heapSortCmpFunc[incunable/folio.Record]", of_decide_eq_true (by kernel_rfl), Tryz.func251.trans (congrArg some (by kernel_rfl))⟩, f22 := ⟨"slices.breakPatternsCmpFunc[incunable/folio.Record]", of_decide_eq_true (by kernel_rfl), Tryz.func252.trans (congrArg some (by kernel_rfl))⟩, f23 := ⟨"slices.choosePivotCmpFunc[incunable/folio.Record]", of_decide_eq_true (by kernel_rfl), Tryz.func253.trans (congrArg some (by kernel_rfl))⟩, f24 := ⟨"slices.reverseRangeCmpFunc[incunable/folio.Record]", of_decide_eq_true (by kernel_rfl), Tryz.func254.trans (congrArg some (by kernel_rfl))⟩, f25 := ⟨"slices.partialInsertionSortCmpFunc[incunable/folio.Record]", of_decide_eq_true (by kernel_rfl), Tryz.func255.trans (congrArg some (by kernel_rfl))⟩, f26 := ⟨"slices.partitionEqualCmpFunc[incunable/folio.Record]", of_decide_eq_true (by kernel_rfl), Tryz.func256.trans (congrArg some (by kernel_rfl))⟩, f27 := ⟨"slices.partitionCmpFunc[incunable/folio.Record]", of_decide_eq_true (by kernel_rfl), Tryz.func257.trans (congrArg some (by kernel_rfl))⟩, f46 := ⟨"slices.siftDownCmpFunc[incunable/folio.Record]", of_decide_eq_true (by kernel_rfl), Tryz.func287.trans (congrArg some (by kernel_rfl))⟩, f49 := ⟨"slices.medianAdjacentCmpFunc[incunable/folio.Record]", of_decide_eq_true (by kernel_rfl), Tryz.func288.trans (congrArg some (by kernel_rfl))⟩, f50 := ⟨"slices.medianCmpFunc[incunable/folio.Record]", of_decide_eq_true (by kernel_rfl), Tryz.func289.trans (congrArg some (by kernel_rfl))⟩, f57 := ⟨"slices.order2CmpFunc[incunable/folio.Record]", of_decide_eq_true (by kernel_rfl), Tryz.func309.trans (congrArg some (by kernel_rfl))⟩, f15 := Tryz.func178.trans (congrArg some (by kernel_rfl)), f28 := Tryz.func234.trans (congrArg some (by kernel_rfl)), f29 := Tryz.func235.trans (congrArg some (by kernel_rfl)), f47 := Tryz.func268.trans (congrArg some (by kernel_rfl)), f48 := Tryz.func269.trans (congrArg some (by kernel_rfl)), t0 := Tryz.underlying0, a0 := Tryz.isAgg0, z0 := Tryz.sizeOf0, v0 := Tryz.zeroValue0, t3 := Tryz.underlying3, a3 := Tryz.isAgg3, z3 := Tryz.sizeOf3, v3 := Tryz.zeroValue3, t4 := Tryz.underlying4, a4 := Tryz.isAgg4, z4 := Tryz.sizeOf4, v4 := Tryz.zeroValue4, t5 := Tryz.underlying5, a5 := Tryz.isAgg5, z5 := Tryz.sizeOf5, v5 := Tryz.zeroValue5, t9 := Tryz.underlying9, a9 := Tryz.isAgg9, z9 := Tryz.sizeOf9, v9 := Tryz.zeroValue9, t22 := Tryz.underlying126, a22 := Tryz.isAgg126, z22 := Tryz.sizeOf126, v22 := Tryz.zeroValue126, t25 := Tryz.underlying223, a25 := Tryz.isAgg223, z25 := Tryz.sizeOf223, v25 := Tryz.zeroValue223, t39 := Tryz.underlying244, a39 := Tryz.isAgg244, z39 := Tryz.sizeOf244, v39 := Tryz.zeroValue244, t45 := Tryz.underlying301, a45 := Tryz.isAgg301, z45 := Tryz.sizeOf301, v45 := Tryz.zeroValue301, t46 := Tryz.underlying302, a46 := Tryz.isAgg302, z46 := Tryz.sizeOf302, v46 := Tryz.zeroValue302, t50 := Tryz.underlying175, a50 := Tryz.isAgg175, z50 := Tryz.sizeOf175, v50 := Tryz.zeroValue175, t53 := Tryz.underlying308, a53 := Tryz.isAgg308, z53 := Tryz.sizeOf308, v53 := Tryz.zeroValue308, t55 := Tryz.underlying310, a55 := Tryz.isAgg310, z55 := Tryz.sizeOf310, v55 := Tryz.zeroValue310, t66 := Tryz.underlying335, a66 := Tryz.isAgg335, z66 := Tryz.sizeOf335, v66 := Tryz.zeroValue335, t70 := Tryz.underlying339, a70 := Tryz.isAgg339, z70 := Tryz.sizeOf339, v70 := Tryz.zeroValue339, t76 := Tryz.underlying359, a76 := Tryz.isAgg359, z76 := Tryz.sizeOf359, v76 := Tryz.zeroValue359, t77 := Tryz.underlying157, a77 := Tryz.isAgg157, z77 := Tryz.sizeOf157, v77 := Tryz.zeroValue157 }
def sfAR:Ren:= {f:=fun|6=>199|15=>178|14=>258|28=>234|29=>235|20=>290|21=>291|22=>292|23=>293|24=>294|25=>295|26=>296|27=>297|46=>310|47=>268|48=>269|49=>311|50=>312|57=>315|n=>n,t:=fun|22=>69|24=>142|25=>280|3=>3|39=>244|0=>0|53=>308|55=>310|4=>4|46=>302|45=>301|50=>175|5=>5|9=>9|66=>335|70=>339|76=>359|77=>157|n=>n,g:=fun n=>n}
theorem sfAL : SlLaysF0.n6 Tryz.prog sfAR := { mixed := by kernel_rfl, f6 := ⟨"slices.SortFunc[[]incunable/api.Attr,incunable/api.Attr]", of_decide_eq_true (by kernel_rfl), Tryz.func199.trans (congrArg some (by kernel_rfl))⟩, f14 := ⟨"slices.pdqsortCmpFunc[incunable/api.Attr]", of_decide_eq_true (by kernel_rfl), Tryz.func258.trans (congrArg some (by kernel_rfl))⟩, f20 := ⟨"slices.insertionSortCmpFunc[incunable/api.Attr]", of_decide_eq_true (by kernel_rfl), Tryz.func290.trans (congrArg some (by kernel_rfl))⟩, f21 := ⟨"slices.heapSortCmpFunc[incunable/api.Attr]", of_decide_eq_true (by kernel_rfl), Tryz.func291.trans (congrArg some (by kernel_rfl))⟩, f22 := ⟨"slices.breakPatternsCmpFunc[incunable/api.Attr]", of_decide_eq_true (by kernel_rfl), Tryz.func292.trans (congrArg some (by kernel_rfl))⟩, f23 := ⟨"slices.choosePivotCmpFunc[incunable/api.Attr]", of_decide_eq_true (by kernel_rfl), Tryz.func293.trans (congrArg some (by kernel_rfl))⟩, f24 := ⟨"slices.reverseRangeCmpFunc[incunable/api.Attr]", of_decide_eq_true (by kernel_rfl), Tryz.func294.trans (congrArg some (by kernel_rfl))⟩, f25 := ⟨"slices.partialInsertionSortCmpFunc[incunable/api.Attr]", of_decide_eq_true (by kernel_rfl), Tryz.func295.trans (congrArg some (by kernel_rfl))⟩, f26 := ⟨"slices.partitionEqualCmpFunc[incunable/api.Attr]", of_decide_eq_true (by kernel_rfl), Tryz.func296.trans (congrArg some (by kernel_rfl))⟩, f27 := ⟨"slices.partitionCmpFunc[incunable/api.Attr]", of_decide_eq_true (by kernel_rfl), Tryz.func297.trans (congrArg some (by kernel_rfl))⟩, f46 := ⟨"slices.siftDownCmpFunc[incunable/api.Attr]", of_decide_eq_true (by kernel_rfl), Tryz.func310.trans (congrArg some (by kernel_rfl))⟩, f49 := ⟨"slices.medianAdjacentCmpFunc[incunable/api.Attr]", of_decide_eq_true (by kernel_rfl), Tryz.func311.trans (congrArg some (by kernel_rfl))⟩, f50 := ⟨"slices.medianCmpFunc[incunable/api.Attr]", of_decide_eq_true (by kernel_rfl), Tryz.func312.trans (congrArg some (by kernel_rfl))⟩, f57 := ⟨"slices.order2CmpFunc[incunable/api.Attr]", of_decide_eq_true (by kernel_rfl), Tryz.func315.trans (congrArg some (by kernel_rfl))⟩, f15 := Tryz.func178.trans (congrArg some (by kernel_rfl)), f28 := Tryz.func234.trans (congrArg some (by kernel_rfl)), f29 := Tryz.func235.trans (congrArg some (by kernel_rfl)), f47 := Tryz.func268.trans (congrArg some (by kernel_rfl)), f48 := Tryz.func269.trans (congrArg some (by kernel_rfl)), t0 := Tryz.underlying0, a0 := Tryz.isAgg0, z0 := Tryz.sizeOf0, v0 := Tryz.zeroValue0, t3 := Tryz.underlying3, a3 := Tryz.isAgg3, z3 := Tryz.sizeOf3, v3 := Tryz.zeroValue3, t4 := Tryz.underlying4, a4 := Tryz.isAgg4, z4 := Tryz.sizeOf4, v4 := Tryz.zeroValue4, t5 := Tryz.underlying5, a5 := Tryz.isAgg5, z5 := Tryz.sizeOf5, v5 := Tryz.zeroValue5, t9 := Tryz.underlying9, a9 := Tryz.isAgg9, z9 := Tryz.sizeOf9, v9 := Tryz.zeroValue9, t22 := Tryz.underlying69, a22 := Tryz.isAgg69, z22 := Tryz.sizeOf69, v22 := Tryz.zeroValue69, t25 := Tryz.underlying280, a25 := Tryz.isAgg280, z25 := Tryz.sizeOf280, v25 := Tryz.zeroValue280, t39 := Tryz.underlying244, a39 := Tryz.isAgg244, z39 := Tryz.sizeOf244, v39 := Tryz.zeroValue244, t45 := Tryz.underlying301, a45 := Tryz.isAgg301, z45 := Tryz.sizeOf301, v45 := Tryz.zeroValue301, t46 := Tryz.underlying302, a46 := Tryz.isAgg302, z46 := Tryz.sizeOf302, v46 := Tryz.zeroValue302, t50 := Tryz.underlying175, a50 := Tryz.isAgg175, z50 := Tryz.sizeOf175, v50 := Tryz.zeroValue175, t53 := Tryz.underlying308, a53 := Tryz.isAgg308, z53 := Tryz.sizeOf308, v53 := Tryz.zeroValue308, t55 := Tryz.underlying310, a55 := Tryz.isAgg310, z55 := Tryz.sizeOf310, v55 := Tryz.zeroValue310, t66 := Tryz.underlying335, a66 := Tryz.isAgg335, z66 := Tryz.sizeOf335, v66 := Tryz.zeroValue335, t70 := Tryz.underlying339, a70 := Tryz.isAgg339, z70 := Tryz.sizeOf339, v70 := Tryz.zeroValue339, t76 := Tryz.underlying359, a76 := Tryz.isAgg359, z76 := Tryz.sizeOf359, v76 := Tryz.zeroValue359, t77 := Tryz.underlying157, a77 := Tryz.isAgg157, z77 := Tryz.sizeOf157, v77 := Tryz.zeroValue157 }
def di:Ren:= {f:=fun|7=>103|10=>160|n=>n,t:=fun|23=>147|26=>9|3=>3|28=>181|0=>0|27=>180|33=>213|4=>4|n=>n,g:=fun n=>n}
theorem dB : SlLaysZ.n7 Tryz.prog di := { mixed := by kernel_rfl, f7 := ⟨"maps.Keys[map[string]int,string,int]", of_decide_eq_true (by kernel_rfl), Tryz.func103.trans (congrArg some (by kernel_rfl))⟩, f10 := ⟨"maps.Keys[map[string]int,string,int]$1", of_decide_eq_true (by kernel_rfl), Tryz.func160.trans (congrArg some (by kernel_rfl))⟩, t0 := Tryz.underlying0, a0 := Tryz.isAgg0, z0 := Tryz.sizeOf0, v0 := Tryz.zeroValue0, t4 := Tryz.underlying4, a4 := Tryz.isAgg4, z4 := Tryz.sizeOf4, v4 := Tryz.zeroValue4, t23 := Tryz.underlying147, a23 := Tryz.isAgg147, z23 := Tryz.sizeOf147, v23 := Tryz.zeroValue147, t26 := Tryz.underlying9, a26 := Tryz.isAgg9, z26 := Tryz.sizeOf9, v26 := Tryz.zeroValue9, t27 := Tryz.underlying180, a27 := Tryz.isAgg180, z27 := Tryz.sizeOf180, v27 := Tryz.zeroValue180, t28 := Tryz.underlying181, a28 := Tryz.isAgg181, z28 := Tryz.sizeOf181, v28 := Tryz.zeroValue181, t33 := Tryz.underlying213, a33 := Tryz.isAgg213, z33 := Tryz.sizeOf213, v33 := Tryz.zeroValue213 }
def ZB:Ren:= {f:=fun|6=>102|8=>159|9=>130|11=>223|13=>178|12=>191|23=>234|24=>235|14=>242|15=>243|16=>244|17=>245|18=>246|19=>247|20=>155|21=>248|22=>249|25=>284|26=>268|27=>269|28=>285|29=>286|30=>222|31=>308|n=>n,t:=fun|26=>9|28=>181|24=>106|0=>0|3=>3|37=>244|48=>308|50=>310|4=>4|40=>302|39=>301|45=>175|5=>5|9=>9|51=>335|55=>339|57=>359|58=>157|33=>213|n=>n,g:=fun n=>n}
theorem TV : SlLaysZ.n6 Tryz.prog ZB := { mixed := by kernel_rfl, f6 := ⟨"slices.Sorted[string]", of_decide_eq_true (by kernel_rfl), Tryz.func102.trans (congrArg some (by kernel_rfl))⟩, f8 := ⟨"slices.Collect[string]", of_decide_eq_true (by kernel_rfl), Tryz.func159.trans (congrArg some (by kernel_rfl))⟩, f11 := ⟨"slices.AppendSeq[[]string,string]", of_decide_eq_true (by kernel_rfl), Tryz.func223.trans (congrArg some (by kernel_rfl))⟩, i26 := by kernel_rfl, t0 := Tryz.underlying0, a0 := Tryz.isAgg0, z0 := Tryz.sizeOf0, v0 := Tryz.zeroValue0, t24 := Tryz.underlying106, a24 := Tryz.isAgg106, z24 := Tryz.sizeOf106, v24 := Tryz.zeroValue106, t26 := Tryz.underlying9, a26 := Tryz.isAgg9, z26 := Tryz.sizeOf9, v26 := Tryz.zeroValue9, t28 := Tryz.underlying181, a28 := Tryz.isAgg181, z28 := Tryz.sizeOf181, v28 := Tryz.zeroValue181 }
def sortSR:Ren:= {f:=fun|6=>130|8=>178|9=>191|19=>234|20=>235|21=>242|22=>243|23=>244|24=>245|25=>246|26=>247|27=>155|28=>248|29=>249|36=>284|31=>268|32=>269|37=>285|38=>286|39=>222|41=>308|n=>n,t:=fun|27=>106|29=>9|3=>3|32=>244|26=>106|0=>0|44=>308|46=>310|4=>4|36=>302|35=>301|41=>175|5=>5|9=>9|53=>335|57=>339|63=>359|64=>157|n=>n,g:=fun n=>n}
theorem XN : SlLaysM.n6 Tryz.prog sortSR := { mixed := by kernel_rfl, f6 := ⟨"slices.Sort[[]string,string]", of_decide_eq_true (by kernel_rfl), Tryz.func130.trans (congrArg some (by kernel_rfl))⟩, f9 := ⟨"slices.pdqsortOrdered[string]", of_decide_eq_true (by kernel_rfl), Tryz.func191.trans (congrArg some (by kernel_rfl))⟩, f21 := ⟨"slices.insertionSortOrdered[string]", of_decide_eq_true (by kernel_rfl), Tryz.func242.trans (congrArg some (by kernel_rfl))⟩, f22 := ⟨"slices.heapSortOrdered[string]", of_decide_eq_true (by kernel_rfl), Tryz.func243.trans (congrArg some (by kernel_rfl))⟩, f23 := ⟨"slices.breakPatternsOrdered[string]", of_decide_eq_true (by kernel_rfl), Tryz.func244.trans (congrArg some (by kernel_rfl))⟩, f24 := ⟨"slices.choosePivotOrdered[string]", of_decide_eq_true (by kernel_rfl), Tryz.func245.trans (congrArg some (by kernel_rfl))⟩, f25 := ⟨"slices.reverseRangeOrdered[string]", of_decide_eq_true (by kernel_rfl), Tryz.func246.trans (congrArg some (by kernel_rfl))⟩, f26 := ⟨"slices.partialInsertionSortOrdered[string]", of_decide_eq_true (by kernel_rfl), Tryz.func247.trans (congrArg some (by kernel_rfl))⟩, f27 := ⟨"cmp.Less[string]", of_decide_eq_true (by kernel_rfl), Tryz.func155.trans (congrArg some (by kernel_rfl))⟩, f28 := ⟨"slices.partitionEqualOrdered[string]", of_decide_eq_true (by kernel_rfl), Tryz.func248.trans (congrArg some (by kernel_rfl))⟩, f29 := ⟨"slices.partitionOrdered[string]", of_decide_eq_true (by kernel_rfl), Tryz.func249.trans (congrArg some (by kernel_rfl))⟩, f36 := ⟨"slices.siftDownOrdered[string]", of_decide_eq_true (by kernel_rfl), Tryz.func284.trans (congrArg some (by kernel_rfl))⟩, f37 := ⟨"slices.medianAdjacentOrdered[string]", of_decide_eq_true (by kernel_rfl), Tryz.func285.trans (congrArg some (by kernel_rfl))⟩, f38 := ⟨"slices.medianOrdered[string]", of_decide_eq_true (by kernel_rfl), Tryz.func286.trans (congrArg some (by kernel_rfl))⟩, f39 := ⟨"cmp.isNaN[string]", of_decide_eq_true (by kernel_rfl), Tryz.func222.trans (congrArg some (by kernel_rfl))⟩, f41 := ⟨"slices.order2Ordered[string]", of_decide_eq_true (by kernel_rfl), Tryz.func308.trans (congrArg some (by kernel_rfl))⟩, f8 := Tryz.func178.trans (congrArg some (by kernel_rfl)), f19 := Tryz.func234.trans (congrArg some (by kernel_rfl)), f20 := Tryz.func235.trans (congrArg some (by kernel_rfl)), f31 := Tryz.func268.trans (congrArg some (by kernel_rfl)), f32 := Tryz.func269.trans (congrArg some (by kernel_rfl)), t0 := Tryz.underlying0, a0 := Tryz.isAgg0, z0 := Tryz.sizeOf0, v0 := Tryz.zeroValue0, t3 := Tryz.underlying3, a3 := Tryz.isAgg3, z3 := Tryz.sizeOf3, v3 := Tryz.zeroValue3, t4 := Tryz.underlying4, a4 := Tryz.isAgg4, z4 := Tryz.sizeOf4, v4 := Tryz.zeroValue4, t5 := Tryz.underlying5, a5 := Tryz.isAgg5, z5 := Tryz.sizeOf5, v5 := Tryz.zeroValue5, t9 := Tryz.underlying9, a9 := Tryz.isAgg9, z9 := Tryz.sizeOf9, v9 := Tryz.zeroValue9, t26 := Tryz.underlying106, a26 := Tryz.isAgg106, z26 := Tryz.sizeOf106, v26 := Tryz.zeroValue106, t27 := Tryz.underlying106, a27 := Tryz.isAgg106, z27 := Tryz.sizeOf106, v27 := Tryz.zeroValue106, t29 := Tryz.underlying9, a29 := Tryz.isAgg9, z29 := Tryz.sizeOf9, v29 := Tryz.zeroValue9, t32 := Tryz.underlying244, a32 := Tryz.isAgg244, z32 := Tryz.sizeOf244, v32 := Tryz.zeroValue244, t35 := Tryz.underlying301, a35 := Tryz.isAgg301, z35 := Tryz.sizeOf301, v35 := Tryz.zeroValue301, t36 := Tryz.underlying302, a36 := Tryz.isAgg302, z36 := Tryz.sizeOf302, v36 := Tryz.zeroValue302, t41 := Tryz.underlying175, a41 := Tryz.isAgg175, z41 := Tryz.sizeOf175, v41 := Tryz.zeroValue175, t44 := Tryz.underlying308, a44 := Tryz.isAgg308, z44 := Tryz.sizeOf308, v44 := Tryz.zeroValue308, t46 := Tryz.underlying310, a46 := Tryz.isAgg310, z46 := Tryz.sizeOf310, v46 := Tryz.zeroValue310, t53 := Tryz.underlying335, a53 := Tryz.isAgg335, z53 := Tryz.sizeOf335, v53 := Tryz.zeroValue335, t57 := Tryz.underlying339, a57 := Tryz.isAgg339, z57 := Tryz.sizeOf339, v57 := Tryz.zeroValue339, t63 := Tryz.underlying359, a63 := Tryz.isAgg359, z63 := Tryz.sizeOf359, v63 := Tryz.zeroValue359, t64 := Tryz.underlying157, a64 := Tryz.isAgg157, z64 := Tryz.sizeOf157, v64 := Tryz.zeroValue157 }
def X7:Ren:= {f:=fun|6=>128|8=>188|9=>189|11=>240|13=>178|12=>241|23=>234|24=>235|14=>275|15=>276|16=>277|17=>278|18=>279|19=>280|20=>281|21=>282|22=>283|25=>304|26=>268|27=>269|28=>305|29=>306|30=>307|31=>314|n=>n,t:=fun|26=>3|28=>217|24=>59|0=>0|3=>3|37=>244|48=>308|50=>310|4=>4|40=>302|39=>301|45=>175|5=>5|9=>9|51=>335|55=>339|57=>359|58=>157|33=>143|n=>n,g:=fun n=>n}
theorem sortedIL : SlLaysZI.n6 Tryz.prog X7 := { mixed := by kernel_rfl, f6 := ⟨"slices.Sorted[int]", of_decide_eq_true (by kernel_rfl), Tryz.func128.trans (congrArg some (by kernel_rfl))⟩, f8 := ⟨"slices.Collect[int]", of_decide_eq_true (by kernel_rfl), Tryz.func188.trans (congrArg some (by kernel_rfl))⟩, f11 := ⟨"slices.AppendSeq[[]int,int]", of_decide_eq_true (by kernel_rfl), Tryz.func240.trans (congrArg some (by kernel_rfl))⟩, i26 := by kernel_rfl, t0 := Tryz.underlying0, a0 := Tryz.isAgg0, z0 := Tryz.sizeOf0, v0 := Tryz.zeroValue0, t24 := Tryz.underlying59, a24 := Tryz.isAgg59, z24 := Tryz.sizeOf59, v24 := Tryz.zeroValue59, t26 := Tryz.underlying3, a26 := Tryz.isAgg3, z26 := Tryz.sizeOf3, v26 := Tryz.zeroValue3, t28 := Tryz.underlying217, a28 := Tryz.isAgg217, z28 := Tryz.sizeOf217, v28 := Tryz.zeroValue217 }
def sortIR:Ren:= {f:=fun|5=>189|8=>178|7=>241|19=>234|20=>235|10=>275|11=>276|12=>277|13=>278|14=>279|15=>280|16=>281|17=>282|18=>283|30=>304|31=>268|32=>269|33=>305|34=>306|35=>307|40=>314|n=>n,t:=fun|23=>59|25=>3|3=>3|32=>244|22=>59|0=>0|44=>308|46=>310|4=>4|36=>302|35=>301|41=>175|5=>5|9=>9|53=>335|57=>339|63=>359|64=>157|n=>n,g:=fun n=>n}
theorem eF : SlLaysM.n5 Tryz.prog sortIR := { mixed := by kernel_rfl, f5 := ⟨"slices.Sort[[]int,int]", of_decide_eq_true (by kernel_rfl), Tryz.func189.trans (congrArg some (by kernel_rfl))⟩, f7 := ⟨"slices.pdqsortOrdered[int]", of_decide_eq_true (by kernel_rfl), Tryz.func241.trans (congrArg some (by kernel_rfl))⟩, f10 := ⟨"slices.insertionSortOrdered[int]", of_decide_eq_true (by kernel_rfl), Tryz.func275.trans (congrArg some (by kernel_rfl))⟩, f11 := ⟨"slices.heapSortOrdered[int]", of_decide_eq_true (by kernel_rfl), Tryz.func276.trans (congrArg some (by kernel_rfl))⟩, f12 := ⟨"slices.breakPatternsOrdered[int]", of_decide_eq_true (by kernel_rfl), Tryz.func277.trans (congrArg some (by kernel_rfl))⟩, f13 := ⟨"slices.choosePivotOrdered[int]", of_decide_eq_true (by kernel_rfl), Tryz.func278.trans (congrArg some (by kernel_rfl))⟩, f14 := ⟨"slices.reverseRangeOrdered[int]", of_decide_eq_true (by kernel_rfl), Tryz.func279.trans (congrArg some (by kernel_rfl))⟩, f15 := ⟨"slices.partialInsertionSortOrdered[int]", of_decide_eq_true (by kernel_rfl), Tryz.func280.trans (congrArg some (by kernel_rfl))⟩, f16 := ⟨"cmp.Less[int]", of_decide_eq_true (by kernel_rfl), Tryz.func281.trans (congrArg some (by kernel_rfl))⟩, f17 := ⟨"slices.partitionEqualOrdered[int]", of_decide_eq_true (by kernel_rfl), Tryz.func282.trans (congrArg some (by kernel_rfl))⟩, f18 := ⟨"slices.partitionOrdered[int]", of_decide_eq_true (by kernel_rfl), Tryz.func283.trans (congrArg some (by kernel_rfl))⟩, f30 := ⟨"slices.siftDownOrdered[int]", of_decide_eq_true (by kernel_rfl), Tryz.func304.trans (congrArg some (by kernel_rfl))⟩, f33 := ⟨"slices.medianAdjacentOrdered[int]", of_decide_eq_true (by kernel_rfl), Tryz.func305.trans (congrArg some (by kernel_rfl))⟩, f34 := ⟨"slices.medianOrdered[int]", of_decide_eq_true (by kernel_rfl), Tryz.func306.trans (congrArg some (by kernel_rfl))⟩, f35 := ⟨"cmp.isNaN[int]", of_decide_eq_true (by kernel_rfl), Tryz.func307.trans (congrArg some (by kernel_rfl))⟩, f40 := ⟨"slices.order2Ordered[int]", of_decide_eq_true (by kernel_rfl), Tryz.func314.trans (congrArg some (by kernel_rfl))⟩, f8 := Tryz.func178.trans (congrArg some (by kernel_rfl)), f19 := Tryz.func234.trans (congrArg some (by kernel_rfl)), f20 := Tryz.func235.trans (congrArg some (by kernel_rfl)), f31 := Tryz.func268.trans (congrArg some (by kernel_rfl)), f32 := Tryz.func269.trans (congrArg some (by kernel_rfl)), t0 := Tryz.underlying0, a0 := Tryz.isAgg0, z0 := Tryz.sizeOf0, v0 := Tryz.zeroValue0, t3 := Tryz.underlying3, a3 := Tryz.isAgg3, z3 := Tryz.sizeOf3, v3 := Tryz.zeroValue3, t4 := Tryz.underlying4, a4 := Tryz.isAgg4, z4 := Tryz.sizeOf4, v4 := Tryz.zeroValue4, t5 := Tryz.underlying5, a5 := Tryz.isAgg5, z5 := Tryz.sizeOf5, v5 := Tryz.zeroValue5, t9 := Tryz.underlying9, a9 := Tryz.isAgg9, z9 := Tryz.sizeOf9, v9 := Tryz.zeroValue9, t22 := Tryz.underlying59, a22 := Tryz.isAgg59, z22 := Tryz.sizeOf59, v22 := Tryz.zeroValue59, t23 := Tryz.underlying59, a23 := Tryz.isAgg59, z23 := Tryz.sizeOf59, v23 := Tryz.zeroValue59, t25 := Tryz.underlying3, a25 := Tryz.isAgg3, z25 := Tryz.sizeOf3, v25 := Tryz.zeroValue3, t32 := Tryz.underlying244, a32 := Tryz.isAgg244, z32 := Tryz.sizeOf244, v32 := Tryz.zeroValue244, t35 := Tryz.underlying301, a35 := Tryz.isAgg301, z35 := Tryz.sizeOf301, v35 := Tryz.zeroValue301, t36 := Tryz.underlying302, a36 := Tryz.isAgg302, z36 := Tryz.sizeOf302, v36 := Tryz.zeroValue302, t41 := Tryz.underlying175, a41 := Tryz.isAgg175, z41 := Tryz.sizeOf175, v41 := Tryz.zeroValue175, t44 := Tryz.underlying308, a44 := Tryz.isAgg308, z44 := Tryz.sizeOf308, v44 := Tryz.zeroValue308, t46 := Tryz.underlying310, a46 := Tryz.isAgg310, z46 := Tryz.sizeOf310, v46 := Tryz.zeroValue310, t53 := Tryz.underlying335, a53 := Tryz.isAgg335, z53 := Tryz.sizeOf335, v53 := Tryz.zeroValue335, t57 := Tryz.underlying339, a57 := Tryz.isAgg339, z57 := Tryz.sizeOf339, v57 := Tryz.zeroValue339, t63 := Tryz.underlying359, a63 := Tryz.isAgg359, z63 := Tryz.sizeOf359, v63 := Tryz.zeroValue359, t64 := Tryz.underlying157, a64 := Tryz.isAgg157, z64 := Tryz.sizeOf157, v64 := Tryz.zeroValue157 }
def bT:Ren:= {f:=fun|7=>107|10=>166|n=>n,t:=fun|23=>83|26=>9|3=>101|28=>181|0=>0|27=>180|33=>213|4=>4|n=>n,g:=fun n=>n}
theorem bK : SlLaysZ.n7 Tryz.prog bT := { mixed := by kernel_rfl, f7 := ⟨"maps.Keys[map[string]incunable/nodetab.place,string,incunable/nodetab.place]", of_decide_eq_true (by kernel_rfl), Tryz.func107.trans (congrArg some (by kernel_rfl))⟩, f10 := ⟨"maps.Keys[map[string]incunable/nodetab.place,string,incunable/nodetab.place]$1", of_decide_eq_true (by kernel_rfl), Tryz.func166.trans (congrArg some (by kernel_rfl))⟩, t0 := Tryz.underlying0, a0 := Tryz.isAgg0, z0 := Tryz.sizeOf0, v0 := Tryz.zeroValue0, t4 := Tryz.underlying4, a4 := Tryz.isAgg4, z4 := Tryz.sizeOf4, v4 := Tryz.zeroValue4, t23 := Tryz.underlying83, a23 := Tryz.isAgg83, z23 := Tryz.sizeOf83, v23 := Tryz.zeroValue83, t26 := Tryz.underlying9, a26 := Tryz.isAgg9, z26 := Tryz.sizeOf9, v26 := Tryz.zeroValue9, t27 := Tryz.underlying180, a27 := Tryz.isAgg180, z27 := Tryz.sizeOf180, v27 := Tryz.zeroValue180, t28 := Tryz.underlying181, a28 := Tryz.isAgg181, z28 := Tryz.sizeOf181, v28 := Tryz.zeroValue181, t33 := Tryz.underlying213, a33 := Tryz.isAgg213, z33 := Tryz.sizeOf213, v33 := Tryz.zeroValue213 }
def bW:Ren:= {f:=fun|7=>109|10=>168|n=>n,t:=fun|23=>114|26=>9|3=>192|28=>181|0=>0|27=>180|33=>213|4=>4|n=>n,g:=fun n=>n}
theorem dw : SlLaysZ.n7 Tryz.prog bW := { mixed := by kernel_rfl, f7 := ⟨"maps.Keys[map[string]incunable/nodetab.row,string,incunable/nodetab.row]", of_decide_eq_true (by kernel_rfl), Tryz.func109.trans (congrArg some (by kernel_rfl))⟩, f10 := ⟨"maps.Keys[map[string]incunable/nodetab.row,string,incunable/nodetab.row]$1", of_decide_eq_true (by kernel_rfl), Tryz.func168.trans (congrArg some (by kernel_rfl))⟩, t0 := Tryz.underlying0, a0 := Tryz.isAgg0, z0 := Tryz.sizeOf0, v0 := Tryz.zeroValue0, t4 := Tryz.underlying4, a4 := Tryz.isAgg4, z4 := Tryz.sizeOf4, v4 := Tryz.zeroValue4, t23 := Tryz.underlying114, a23 := Tryz.isAgg114, z23 := Tryz.sizeOf114, v23 := Tryz.zeroValue114, t26 := Tryz.underlying9, a26 := Tryz.isAgg9, z26 := Tryz.sizeOf9, v26 := Tryz.zeroValue9, t27 := Tryz.underlying180, a27 := Tryz.isAgg180, z27 := Tryz.sizeOf180, v27 := Tryz.zeroValue180, t28 := Tryz.underlying181, a28 := Tryz.isAgg181, z28 := Tryz.sizeOf181, v28 := Tryz.zeroValue181, t33 := Tryz.underlying213, a33 := Tryz.isAgg213, z33 := Tryz.sizeOf213, v33 := Tryz.zeroValue213 }
def dS:Ren:= {f:=fun|7=>129|10=>190|n=>n,t:=fun|23=>125|26=>3|3=>106|28=>217|0=>0|27=>156|33=>143|4=>4|n=>n,g:=fun n=>n}
theorem dE : SlLaysZI.n7 Tryz.prog dS := { mixed := by kernel_rfl, f7 := ⟨"maps.Keys[map[int][]string,int,[]string]", of_decide_eq_true (by kernel_rfl), Tryz.func129.trans (congrArg some (by kernel_rfl))⟩, f10 := ⟨"maps.Keys[map[int][]string,int,[]string]$1", of_decide_eq_true (by kernel_rfl), Tryz.func190.trans (congrArg some (by kernel_rfl))⟩, t0 := Tryz.underlying0, a0 := Tryz.isAgg0, z0 := Tryz.sizeOf0, v0 := Tryz.zeroValue0, t4 := Tryz.underlying4, a4 := Tryz.isAgg4, z4 := Tryz.sizeOf4, v4 := Tryz.zeroValue4, t23 := Tryz.underlying125, a23 := Tryz.isAgg125, z23 := Tryz.sizeOf125, v23 := Tryz.zeroValue125, t26 := Tryz.underlying3, a26 := Tryz.isAgg3, z26 := Tryz.sizeOf3, v26 := Tryz.zeroValue3, t27 := Tryz.underlying156, a27 := Tryz.isAgg156, z27 := Tryz.sizeOf156, v27 := Tryz.zeroValue156, t28 := Tryz.underlying217, a28 := Tryz.isAgg217, z28 := Tryz.sizeOf217, v28 := Tryz.zeroValue217, t33 := Tryz.underlying143, a33 := Tryz.isAgg143, z33 := Tryz.sizeOf143, v33 := Tryz.zeroValue143 }
end Go.Proofs.YtljenkbpnioipaaGreat
namespace Go.Vc
open Go
def valN(l:List UInt8):Nat:=l.foldl (fun n x=>n*256+x.toNat) 0
theorem DX(x:Int):IntKind.i64.wrap x=if x%18446744073709551616≥9223372036854775808 then x%18446744073709551616-18446744073709551616 else x%18446744073709551616:=by
 simp[IntKind.wrap,IntKind.signed,IntKind.bits]
theorem La{x y:Int}(h:x%18446744073709551616=y%18446744073709551616):IntKind.i64.wrap x=IntKind.i64.wrap y:=by
 rw[DX,DX,h]
theorem FC(x:Int):IntKind.i64.wrap x%18446744073709551616=x%18446744073709551616:=by
 rw[DX];split<;>omega
theorem IR{x y:Int}(h:x%18446744073709551616=y%18446744073709551616):BitVec.ofInt 64 x=BitVec.ofInt 64 y:=by
 apply BitVec.eq_of_toNat_eq;rw[BitVec.toNat_ofInt,BitVec.toNat_ofInt]
 have:(((2^64:Nat):Int))=18446744073709551616:=by decide
 rw[this,h]
theorem XB(v y:Nat)(f:y<256):Vc.bits .or .i64 (IntKind.i64.wrap (IntKind.i64.wrap (v:Int)*2^min (Int.toNat 8) (IntKind.bits .i64))) (IntKind.i64.wrap (y:Int))=IntKind.i64.wrap ((v*256+y:Nat):Int):=by
 have a:(2:Int)^min (Int.toNat 8) (IntKind.bits .i64)=256:=by decide
 rw[a];show IntKind.i64.wrap ((BitVec.ofInt 64 (IntKind.i64.wrap (IntKind.i64.wrap (v:Int)*256))|||BitVec.ofInt 64 (IntKind.i64.wrap (y:Int))).toNat:Int)=_
 have b:BitVec.ofInt 64 (IntKind.i64.wrap (IntKind.i64.wrap (v:Int)*256))=BitVec.ofInt 64 (((v%2^56)*256:Nat):Int):=by
  apply IR;rw[FC];have:=FC (v:Int);omega
 have c:BitVec.ofInt 64 (IntKind.i64.wrap (y:Int))=BitVec.ofInt 64 (y:Int):=IR (FC _);rw[b,c];apply La;rw[BitVec.toNat_or,BitVec.toNat_ofInt,BitVec.toNat_ofInt]
 have d:((((v%2^56)*256:Nat):Int)%((2^64:Nat):Int)).toNat=(v%2^56)<<<8:=by
  rw[Nat.shiftLeft_eq];omega
 have e:((y:Int)%((2^64:Nat):Int)).toNat=y:=by omega
 rw[d,e,<- Nat.shiftLeft_add_eq_or_of_lt (by omega),Nat.shiftLeft_eq];omega
theorem PY(l:List UInt8)(x:UInt8):valN (l++[x])=valN l*256+x.toNat:=by simp[valN,List.foldl_append]
theorem Og(l:List UInt8):valN l<256^l.length:=by
 have:∀(l:List UInt8)(a:Nat),l.foldl (fun n x=>n*256+x.toNat) a<(a+1)*256^l.length:=by
  intro l
  induction l with
  |nil=>intro a;simp
  |cons x r b=>
   intro a;have c:=b (a*256+x.toNat);have d:=x.toNat_lt;rw[foldl_cons,length_cons,Nat.pow_succ];have e:(a*256+x.toNat+1)*256^r.length<=((a+1)*256)*256^r.length:=Nat.mul_le_mul_right _ (by omega)
   have f:(a+1)*(256^r.length*256)=((a+1)*256)*256^r.length:=by rw[Nat.mul_comm (256^r.length) 256,Nat.mul_assoc]
   omega
 simpa [valN]using this l 0
theorem XK(n:Int)(d:0<=n):∀k,valN (be n k)=n.toNat%256^k:=by
 have b:∀k (a:Nat),(be n k).foldl (fun n x=>n*256+x.toNat) a=a*256^k+n.toNat%256^k:=by
  intro k
  induction k with
  |zero=>intro a;simp[be,Nat.mod_one]
  |succ k e=>
   intro a
   have f:(bt n k).toNat=n.toNat/256^k%256:=by
    have c:=Si n k
    have g:(2:Int)^(8*k)=((256^k:Nat):Int):=by
     rw[Int.pow_mul];simp
    rw[g]at c
    have h:n/((256^k:Nat):Int)=((n.toNat/256^k:Nat):Int):=by
     rw[Int.natCast_ediv,Int.toNat_of_nonneg d]
    rw[h]at c;omega
   rw[be,foldl_cons,e,f,Nat.pow_succ];have i:n.toNat%(256^k*256)=n.toNat%256^k+256^k*(n.toNat/256^k%256):=Nat.mod_mul;rw[i,Nat.add_mul,Nat.mul_assoc,Nat.mul_comm 256 (256^k),Nat.mul_comm (n.toNat/256^k%256)];omega
 intro k;simpa [valN]using b k 0
theorem IY{n:Int}{k:Nat}(a:0<=n)(h1:n<256^k):(valN (be n k):Int)=n:=by
 rw[XK n a,Nat.mod_eq_of_lt]
 ·omega
 ·have:((256^k:Nat):Int)=256^k:=by simp
  omega
theorem take_left{α:Type}(a b:List α)(n:Nat)(h:a.length=n):(a++b).take n=a:=by subst h;simp
theorem drop_left{α:Type}(a b:List α)(n:Nat)(h:a.length=n):(a++b).drop n=b:=by subst h;simp
theorem XM(l:List UInt8)(i j:Nat):(ByteArray.mk l.toArray).extract i j=⟨((l.take j).drop i).toArray⟩:=by
 apply ByteArray.ext;apply Array.ext';rw[ByteArray.data_extract,Array.toList_extract,List.extract_eq_take_drop];simp only[drop_take]
theorem sb_get(l:List UInt8)(i:Nat)(h:i<l.length):sb ⟨l.toArray⟩ (i:Int)=(l[i].toNat:Int):=by
 simp[sb,List.getElem?_eq_getElem h]
theorem valN_take_succ(l:List UInt8)(k:Nat)(h:k<l.length):valN (l.take (k+1))=valN (l.take k)*256+l[k].toNat:=by
 rw[List.take_succ_eq_append_getElem h,PY]
theorem wrapByte(x:UInt8):IntKind.i64.wrap (x.toNat:Int)=(x.toNat:Int):=Hu (by have:=x.toNat_lt;omega)
theorem mk_append(x y:List UInt8):(ByteArray.mk x.toArray)++(ByteArray.mk y.toArray)=⟨(x++y).toArray⟩:=by
 apply ByteArray.ext;rw[ByteArray.data_append];simp
theorem GX(x:List UInt8):(ByteArray.mk x.toArray).size=x.length:=by simp[ByteArray.size]
theorem aO(s:ByteArray):s=⟨s.data.toList.toArray⟩:=by simp
theorem YP(v y:Nat)(hv:v<36028797018963968)(a:y<256):Vc.bits .or .i64 ((v:Int)*2^min (Int.toNat 8) (IntKind.bits .i64)) (IntKind.i64.wrap (y:Int))=((v*256+y:Nat):Int):=by
 have h:=XB v y a
 have b:(2:Int)^min (Int.toNat 8) (IntKind.bits .i64)=256:=by decide
 rw[b]at h⊢;rw[Hu (z:=(v:Int)) (by omega),Hu (z:=(v:Int)*256) (by omega),Hu (z:=((v*256+y:Nat):Int)) (by omega)]at h;exact h
section
variable{P:Program}{w:World}{b:Nat}{cs:List Value}{T e:TypeId}{o n c m:Nat}
theorem Y5(h:Blk w b cs T)(vs:List Value)(one:∀u∈vs,u.oneCell'=true)(l:o+vs.length<=cs.length):∃w1,(storeCells ⟨b,o,none⟩ vs).run P w=.ok () w1/\Blk w1 b (over vs o cs) T/\Chg [b] w w1:=by
 have p:=CP (P:=P) (b:=b) (T:=T) (fz:=(0,0)) vs w cs ⟨b,o,none⟩ o 0 rfl (fun j=>by simp[add_lit]) h l (fun k _ _=>by simp) one;refine⟨_,p,?_,?_⟩
 ·split
  ·rename_i q;rw[q,CX];exact h
  ·exact DT h.lt
 ·split
  ·exact Chg.refl _ _
  ·exact DV _ _ _
theorem Blk.cpy{dT tx ty:TypeId}{x:Value}{l:List Value}(h:Blk w b cs T)(t:P.underlying dT=some (.slice e))(u:Dt P e=some 1)(q:Src P 1 tx x m l w)(r:m<=n)(s:o+m<=cs.length):
  ∃w1,Cpy P #[dT,tx] ty w (.slice (some ⟨b,o,none⟩) n c) x (.int .i64 (m:Int)) w1/\Blk w1 b (over l o cs) T/\Chg [b] w w1:=by
 have G:=q.newsLen;obtain⟨w1,z,A,C⟩:=Y5 (P:=P) (o:=o) h l q.one (by omega);refine⟨w1,?_,A,C⟩;have p:Nat.min m n=m:=Nat.min_eq_left r;have D:(sizeOf e).run P w=.ok 1 w:=Bl u w;have F:=q.cells;simp only[Cpy,Builtin.copy_];simp[Ad t,q.len w,p,D,F,z,goInt]
theorem Blk.clr{dT ty:TypeId}{z:Value}(h:Blk w b cs T)(t:P.underlying dT=some (.slice e))(C:zeroOf P e=some z)(r:z.cells= #[z])(p:z.oneCell'=true)(q:o+n<=cs.length):
  ∃w1,Clr P #[dT] ty w (.slice (some ⟨b,o,none⟩) n c) w1/\Blk w1 b (over (List.replicate n z) o cs) T/\Chg [b] w w1:=by
 cases n with
 |zero=>
  refine⟨w,?_,by rw[List.replicate_zero,CX];exact h,Chg.refl _ _⟩;simp only[Clr,Builtin.clear_];simp[Ad t]
 |succ n=>
  obtain⟨w1,D,F,G⟩:=Y5 (P:=P) (o:=o) h (List.replicate (n+1) z) (fun u H=>by rw[List.eq_of_mem_replicate H];exact p) (by simpa using q);refine⟨w1,?_,F,G⟩;have s:(zeroValue e).run P w=.ok z w:=Gf C w
  have l:(Builtin.zeroCells z.cells (n+1)).toList=List.replicate (n+1) z:=by
   rw[r];apply ext_getElem?;intro k;simp only[Builtin.zeroCells,size_toArray,length_cons,length_nil,Array.toList_map,Array.toList_range,List.getElem?_map,List.getElem?_replicate];by_cases A:k<n+1
   ·rw[if_pos A,List.getElem?_range (by omega)]
    simp[Nat.mod_one]
   ·rw[if_neg A,List.getElem?_eq_none (by rw[List.length_range];omega)];rfl
  simp only[Clr,Builtin.clear_];simp[Ad t,s,l,D]
end
section
variable{P:Program}{B:List Nat}{w0 w w':World}{L:List Asn}{b:Nat}{cs:List Value}{T e:TypeId}{o n c m:Nat}
theorem Hp.cpy{dT tx ty:TypeId}{x:Value}{l:List Value}(H:Hp B w0 w (.blk b cs T::L))(r:Eqw w w')(s:P.underlying dT=some (.slice e))(t:Dt P e=some 1)(u:Src P 1 tx x m l w')(q:m<=n)(p:o+m<=cs.length){G:Int->World->Prop}
  (k:∀w1,Hp B w0 w1 (.blk b (over l o cs) T::L)->G (m:Int) w1):∃(i:Int)(w1:World),Cpy P #[dT,tx] ty w' (.slice (some ⟨b,o,none⟩) n c) x (.int .i64 i) w1/\G i w1:=by
 obtain⟨w1,z,A,C⟩:=Blk.cpy (P:=P) (o:=o) (n:=n) (c:=c) (ty:=ty) ((H.go r).blk (.head _)) s t u q p;exact⟨_,w1,z,k w1 ((H.go r).set C A fun k D=>.inl D)⟩
theorem Hp.clr{dT ty:TypeId}{z:Value}(H:Hp B w0 w (.blk b cs T::L))(r:Eqw w w')(s:P.underlying dT=some (.slice e))(t:zeroOf P e=some z)(q:z.cells= #[z])(l:z.oneCell'=true)(p:o+n<=cs.length){G:World->Prop}
  (k:∀w1,Hp B w0 w1 (.blk b (over (List.replicate n z) o cs) T::L)->G w1):∃(w1:World),Clr P #[dT] ty w' (.slice (some ⟨b,o,none⟩) n c) w1/\G w1:=by
 obtain⟨w1,u,A,C⟩:=Blk.clr (P:=P) (o:=o) (n:=n) (c:=c) (ty:=ty) ((H.go r).blk (.head _)) s t q l p;exact⟨w1,u,k w1 ((H.go r).set C A fun k D=>.inl D)⟩
end
section
variable{x:Asn}{L L1 L':List Asn}{a b c d e f g h i j k:Asn}
theorem JL(h:L.Perm (x::L1))(l:L1.Perm L'):L.Perm (x::L'):=h.trans (l.cons x)
theorem O7:(a::L).Perm (a::L):=.refl _
theorem OL:(a::b::L).Perm (b::a::L):=GM [a] b L
theorem OQ:(a::b::c::L).Perm (c::a::b::L):=GM [a,b] c L
end
theorem Fb(v a x c:List Value)(h:v.length=x.length):over v a.length (a++(x++c))=a++(v++c):=by
 apply ext_getElem?;intro k;rw[IM _ _ _ (by simp[h])];by_cases l:k<a.length
 ·rw[if_neg (by omega),List.getElem?_append_left l,List.getElem?_append_left l]
 ·by_cases p:k<a.length+v.length
  ·rw[if_pos (by omega),List.getElem?_append_right (by omega),List.getElem?_append_left (by omega)]
  ·rw[if_neg (by omega),List.getElem?_append_right (by omega),List.getElem?_append_right (by omega),List.getElem?_append_right (by omega),List.getElem?_append_right (by omega),h]
theorem Um{P:Program}{t:TypeId}{p:Option Addr}{x y:Operand}{w:World}(h:P.underlying t=some (.pointer (P.pointee t))):Eqv P .eql t x y w (.pointer p) (.pointer none) p.isNone:=by
 have:=run_eql_pointer_nil (P:=P) (w:=w) t p h;simp only[Eqv,Sem.run_bind,eqGuard];simp[this]
theorem SN{P:Program}{t:TypeId}{p:Option Addr}{x y:Operand}{w:World}(h:P.underlying t=some (.pointer (P.pointee t))):Eqv P .neq t x y w (.pointer p) (.pointer none) (!p.isNone):=by
 have:=run_neq_pointer_nil (P:=P) (w:=w) t p h;simp only[Eqv,Sem.run_bind,eqGuard];simp[this]
section
variable{B:List Nat}{w0 w w':World}{L:List Asn}{x y x' y':Asn}
end
theorem Hp.BP{B:List Nat}{w0 w:World}{L R:List Asn}(H:Hp B w0 w (L++R)):Hp B w0 w L:=
 ⟨H.chg,fun b l=>H.ok b (mem_append_left _ l),fun b l=>H.own b (mem_append_left _ l),(pairwise_append.1 H.sep).1⟩
def Ef{K:Type}(al:List (K×Value)):Prop:=(al.map (·.1)).Nodup
section
variable{K:Type}[DecidableEq K]
theorem Ei:∀{al:List (K×Value)},Ef al->∀{k:K}{v:Value},aget al k=some v↔(k,v)∈al
 | [],h,k,v=>by simp[aget]
 |(x,u)::r,h,k,v=>by
  simp only[Ef,map_cons,nodup_cons]at h;simp only[aget,mem_cons,Prod.mk.injEq];by_cases e:k=x
  ·subst e
   rw[if_pos rfl];refine⟨fun a=>.inl ⟨rfl,(Option.some.inj a).symm⟩,fun a=>?_⟩
   rcases a with⟨_,rfl⟩|a
   ·rfl
   ·exact absurd (mem_map.2 ⟨_,a,rfl⟩) h.1
  ·rw[if_neg e,Ei (al:=r) h.2]
   exact⟨.inr,fun a=>a.elim (fun b=>absurd b.1 e) id⟩
theorem JE:∀{al:List (K×Value)}{k:K},aget al k=none↔k∉al.map (·.1)
 | [],k=>by simp[aget]
 |(x,u)::r,k=>by
  simp only[aget,map_cons,mem_cons,not_or];by_cases e:k=x
  ·rw[if_pos e];simp[e]
  ·rw[if_neg e,JE (al:=r)];simp[e]
def acut(al:List (K×Value))(k:K):List (K×Value):=al.filter fun p=> !decide (p.1=k)
theorem acut_none:∀{al:List (K×Value)}{k:K},k∉al.map (·.1)->acut al k=al:=by
 intro al k h;refine List.filter_eq_self.2 fun p a=>?_;have:p.1≠k:=fun e=>h (mem_map.2 ⟨p,a,e⟩);simp[this]
theorem UN:∀{al:List (K×Value)},Ef al->∀(k:K),adel al k=acut al k
 | [],h,k=>rfl
 |(x,u)::r,h,k=>by
  simp only[Ef,map_cons,nodup_cons]at h;simp only[adel,acut,List.filter_cons];by_cases e:k=x
  ·subst e
   rw[if_pos rfl];simp only[decide_true,Bool.not_true,Bool.false_eq_true,if_false];exact(acut_none h.1).symm
  ·have a:x≠k:=fun h=>e h.symm
   rw[if_neg e];simp only[a,decide_false,Bool.not_false,if_true,UN (al:=r) h.2 k,acut]
end
structure Std(w:World)(L:List Asn):Prop where
 ok:∀a∈L,a.ok w
 sep:L.Pairwise fun a b=>∀k∈a.foot,k∉b.foot
def feet(L:List Asn):List Nat:=L.flatMap Asn.foot
theorem Dl{L:List Asn}{k:Nat}:k∈feet L↔∃a∈L,k∈a.foot:=by simp[feet]
section
variable{B:List Nat}{w0 w w':World}{L L1 L2 M R:List Asn}
theorem Hp.CE(h:Std w L):Hp (feet L) w w L:=⟨Chg.refl _ _,h.ok,fun a b k c=>.inl (Dl.2 ⟨a,b,c⟩),h.sep⟩
theorem Hp.std(H:Hp B w0 w L):Std w L:=⟨H.ok,H.sep⟩
theorem Hp.std1(H:Hp B w0 w (L1++L2)):Std w L1:=H.BP.std
theorem Hp.useL(H:Hp B w0 w (L1++L2))(a:Hp (feet L1) w w' M):Hp B w0 w' (M++L2):=Hp.use H a fun k b=>Dl.1 b
theorem Hp.Xm(H:Hp B w0 w L)(a:Hp (feet L) w w' M):Hp B w0 w' M:=by
 have h:Hp B w0 w (L++[]):=by rw[List.append_nil];exact H
 have:=h.useL a
 rwa [List.append_nil]at this
end
def pkA(F:List Nat)(Q:List Asn->Prop):Asn:=.any F fun w=>∃L,Q L/\Std w L/\∀k∈feet L,k∈F
section
variable{B F:List Nat}{w0 w w':World}{L M R:List Asn}{Q Q':List Asn->Prop}
theorem Std.of(h:Std w L)(e:∀k∈feet L,w'.heap[k]? =w.heap[k]?):Std w' L:=
 ⟨fun a b=>Asn.X9 (h.ok a b) fun k c=>e k (Dl.2 ⟨a,b,c⟩),h.sep⟩
theorem pk_ok(c:Q L)(st:Std w L):(pkA (feet L) Q).ok w:=by
 refine⟨fun k b=>?_,fun w' d=>⟨L,c,st.of d,fun k b=>b⟩⟩;obtain⟨a,e,b⟩:=Dl.1 b;exact Asn.WQ (st.ok a e) k b
theorem EP(h:(pkA F Q).ok w):∃L,Q L/\Std w L/\∀k∈feet L,k∈F:=h.2 w fun _ _=>rfl
theorem Hp.pack(H:Hp B w0 w (M++L))(g:Q M):Hp B w0 w (pkA (feet M) Q::L):=by
 have f:=pairwise_append.1 H.sep;refine⟨H.chg,fun a d=>?_,fun a d k c=>?_,pairwise_cons.2 ⟨fun b h k c=>?_,f.2.1⟩⟩
 ·rcases mem_cons.1 d with rfl|d
  ·exact pk_ok g H.std1
  ·exact H.ok a (mem_append_right _ d)
 ·rcases mem_cons.1 d with rfl|d
  ·obtain⟨x,e,c⟩:=Dl.1 (show k∈feet M from c)
   exact H.own x (mem_append_left _ e) k c
  ·exact H.own a (mem_append_right _ d) k c
 ·obtain⟨x,e,c⟩:=Dl.1 (show k∈feet M from c)
  exact f.2.2 x e b h k c
theorem Hp.DJ(H:Hp B w0 w (M++L))(a:Q M):∃F,Hp B w0 w (pkA F Q::L):=⟨_,H.pack a⟩
theorem Hp.unpack(H:Hp B w0 w (pkA F Q::L)):∃M,Q M/\Hp B w0 w (M++L)/\∀k∈feet M,k∈F:=by
 obtain⟨M,g,st,e⟩:=EP (H.ok _ (.head _));have f:=pairwise_cons.1 H.sep;refine⟨M,g,⟨H.chg,fun a c=>?_,fun a c k d=>?_,pairwise_append.2 ⟨st.sep,f.2,fun a c b h k d=>f.1 b h k (e k (Dl.2 ⟨a,c,d⟩))⟩⟩,e⟩
 ·rcases mem_append.1 c with c|c
  ·exact st.ok a c
  ·exact H.ok a (.tail _ c)
 ·rcases mem_append.1 c with c|c
  ·exact H.own _ (.head _) k (e k (Dl.2 ⟨a,c,d⟩))
  ·exact H.own a (.tail _ c) k d
theorem Be(h:(pkA F Q).ok w):Hp F w w [pkA F Q]:=Hp.JA (a:=pkA F Q) h
end
theorem addr0(a:Addr):a.add 0=a:=by unfold Addr.add;split<;>simp_all
theorem AL{L M:List Asn}(h:∀(f:List Asn->Nat)(g:Asn->Nat),f []=0->(∀x l,f (x::l)=g x+f l)->(∀a b,f (a++b)=f a+f b)->(∀a b,List.Perm a b->f a=f b)->f L=f M):L.Perm M:=by
 classical
 rw[List.perm_iff_count];intro z;refine h (fun l=>l.count z) (fun x=>if x==z then 1 else 0) rfl (fun x l=>?_) (fun a b=>List.count_append) (fun a b c=>c.count_eq z);show List.count z (x::l)=_;rw[List.count_cons,Nat.add_comm]
section
variable{K:Type}[DecidableEq K]{kt:KeyT K}
theorem Un{a:Array MapEntry}{j:Nat}{e:MapEntry}(hn:(a.toList.map (·.born)).Nodup)(f:a[j]? =some e):a.findIdx? (fun x=>(x.born:Int)==(e.born:Int))=some j:=by
 rw[Array.findIdx?_eq_some_iff_getElem];obtain⟨c,d⟩:=Array.getElem?_eq_some_iff.1 f;refine⟨c,by simp[d],fun i g=>?_⟩
 have k:a[i].born≠e.born:=by
  intro h
  have l:(a.toList.map (·.born))[i]'(by simp;omega)=(a.toList.map (·.born))[j]'(by simp;omega):=by simp[h,d]
  have m:=List.pairwise_iff_getElem.1 hn i j (by simp;omega) (by simp;omega) g;exact m l
 simp;omega
theorem Wi{P:Program}(k:IntKind)(i:Int)(w:World):(asInt (.int k i)).run P w=.ok i w:=rfl
end
section
variable{P:Program}{B:List Nat}{w0 w w':World}{L:List Asn}{t kT eT:TypeId}{z v:Value}{b:Nat}
theorem Hp.eY{cs:List Value}{T:TypeId}(H:Hp B w0 w (.blk b cs T::L))(c n:Nat)(a:cs.length=n*c)(hn:n<=maxLen):Hp B w0 w (.own T c (some ⟨b,0,none⟩) n n cs::L):=
 H.set (Chg.refl _ _) ⟨a,.inr ⟨b,cs.toArray,(0,0),rfl,Nat.zero_le _,H.blk (.head _),Thaw.zero _,Nat.le_refl _,hn,by simpa using Nat.le_of_eq a.symm,by simp[<- a]⟩⟩ (fun k d=>.inl d)
end
theorem Rj{P:Program}{t e:TypeId}{a:Option Addr}{n c d c':Nat}{x y:Operand}{w:World}(h:P.underlying t=some (.slice e)):Eqv P .eql t x y w (.slice a n c) (.slice none d c') a.isNone:=by
 have:=Go.Lib.run_eql_slice_nil (P:=P) w t e a n c d c' h;simp only[Eqv,Sem.run_bind,eqGuard];simp[this]
end Go.Vc
namespace Go.Nod
structure NX where
 kind:Int
 name:ByteArray
 text:ByteArray
 attrs:List (ByteArray×ByteArray)
structure Rw where
 id:Int
 level:Int
 x:NX
inductive Fo where
 |nil
 |cons (id:Int) (x:NX) (kids sibs:Fo)
def flat:Fo->Int->List Rw
 |.nil,_=>[]
 |.cons i x k s,l=>⟨i,l,x⟩::(flat k (l+1)++flat s l)
def ids:Fo->List Int
 |.nil=>[]
 |.cons i _ k s=>i::(ids k++ids s)
def tops:Fo->List Int
 |.nil=>[]
 |.cons i _ _ s=>i::tops s
def AZ:Fo->Int->Int->Option (Int×NX×Fo)
 |.nil,_,_=>none
 |.cons j x k s,p,i=>if j=i then some (p,x,k)else match AZ k j i with
  |some r=>some r
  |none=>AZ s p i
theorem BH:∀(F:Fo)(l:Int),(flat F l).map (·.id)=ids F
 |.nil,_=>rfl
 |.cons i x k s,l=>by rw[flat,ids,map_cons,map_append,BH k,BH s]
theorem CO:∀(F:Fo)(l:Int),∀r∈flat F l,l<=r.level
 |.nil,_,r,h=>by cases h
 |.cons i x k s,l,r,h=>by
  rw[flat]at h;rcases mem_cons.1 h with rfl|h
  ·exact Int.le_refl _
  ·rcases mem_append.1 h with h|h
   ·have:=CO k (l+1) r h
    omega
   ·exact CO s l r h
theorem FP:∀(F:Fo)(l:Int)(r:Rw),(flat F l).head? =some r->r.level=l
 |.nil,_,r,h=>by cases h
 |.cons i x k s,l,r,h=>by
  rw[flat,List.head?_cons]at h;cases h;rfl
theorem Au:∀(F:Fo)(p i:Int),AZ F p i≠none↔i∈ids F
 |.nil,p,i=>by simp[AZ,ids]
 |.cons j x k s,p,i=>by
  rw[AZ,ids];by_cases h:j=i
  ·simp[h]
  ·rw[if_neg h,mem_cons,mem_append]
   have a:=Au k j i;have c:=Au s p i
   cases hl:AZ k j i with
   |some r=>
    rw[hl]at a;simp only[ne_eq,reduceCtorEq,not_false_eq_true,true_iff]at a⊢;exact .inr (.inl a)
   |none=>
    rw[hl]at a;have a:i∉ids k:=fun d=>(a.2 d) rfl;dsimp only;rw[c];constructor
    ·exact fun h=>.inr (.inr h)
    ·rintro(b|b|b)
     ·exact absurd b.symm h
     ·exact absurd b a
     ·exact b
def under(i:Int)(f:Fo->Fo):Fo->Fo
 |.nil=>.nil
 |.cons j x k s=>if j=i then .cons j x (f k) s else .cons j x (under i f k) (under i f s)
def cutF(i:Int):Fo->Fo
 |.nil=>.nil
 |.cons j x k s=>if j=i then s else .cons j x (cutF i k) (cutF i s)
def D9(i:Int)(f:NX->NX):Fo->Fo
 |.nil=>.nil
 |.cons j x k s=>if j=i then .cons j (f x) k s else .cons j x (D9 i f k) (D9 i f s)
theorem Gi{i:Int}{f:Fo->Fo}:∀(F:Fo),i∉ids F->under i f F=F
 |.nil,_=>rfl
 |.cons j x k s,h=>by
  rw[ids,mem_cons,mem_append]at h;rw[under,if_neg (fun e=>h (.inl e.symm)),Gi k (fun e=>h (.inr (.inl e))),Gi s (fun e=>h (.inr (.inr e)))]
theorem Fa{i:Int}:∀(F:Fo),i∉ids F->cutF i F=F
 |.nil,_=>rfl
 |.cons j x k s,h=>by
  rw[ids,mem_cons,mem_append]at h;rw[cutF,if_neg (fun e=>h (.inl e.symm)),Fa k (fun e=>h (.inr (.inl e))),Fa s (fun e=>h (.inr (.inr e)))]
theorem Ir{i:Int}{f:NX->NX}:∀(F:Fo),i∉ids F->D9 i f F=F
 |.nil,_=>rfl
 |.cons j x k s,h=>by
  rw[ids,mem_cons,mem_append]at h;rw[D9,if_neg (fun e=>h (.inl e.symm)),Ir k (fun e=>h (.inr (.inl e))),Ir s (fun e=>h (.inr (.inr e)))]
structure Mid(F:Fo)(p i l:Int)(q:Int)(x:NX)(k:Fo)(A B:List Rw)(v:Int):Prop where
 fl:flat F l=A++(⟨i,v,x⟩::(flat k (v+1)++B))
 un:∀f,flat (under i f F) l=A++(⟨i,v,x⟩::(flat (f k) (v+1)++B))
 cu:flat (cutF i F) l=A++B
 tu:∀f,flat (D9 i f F) l=A++(⟨i,v,f x⟩::(flat k (v+1)++B))
 le:l<=v
 next:∀r,B.head? =some r->r.level<=v
 up:q=p/\v=l\/l<v/\∃A1 y A2,A=A1++⟨q,v-1,y⟩::A2/\∀z∈A2,v<=z.level
theorem Bo:∀(F:Fo)(p i l:Int){q:Int}{x:NX}{k:Fo},(ids F).Nodup->AZ F p i=some (q,x,k)->∃(A B:List Rw)(v:Int),Mid F p i l q x k A B v
 |.nil,p,i,l,q,x,k,_,h=>by cases h
 |.cons j y kk s,p,i,l,q,x,k,hn,h=>by
  rw[ids,nodup_cons,nodup_append]at hn;obtain⟨M,g,m,n⟩:=hn;rw[AZ]at h;split at h
  ·rename_i e
   cases h;subst e;exact⟨[],flat s l,l,rfl,fun f=>by rw[under,if_pos rfl];rfl,by rw[cutF,if_pos rfl];rfl,fun f=>by rw[D9,if_pos rfl];rfl,Int.le_refl _,fun r a=>Int.le_of_eq (FP s l r a),.inl ⟨rfl,rfl⟩⟩
  ·rename_i e
   split at h
   ·rename_i r a
    cases h;have N:i∈ids kk:=(Au kk j i).1 (by rw[a];simp);have o:i∉ids s:=fun h=>n i N i h rfl;obtain⟨A,B,v,d,u,w,C,K,D,c⟩:=Bo kk j i (l+1) g a;refine⟨⟨j,l,y⟩::A,B++flat s l,v,by rw[flat,d];simp,fun f=>by rw[under,if_neg e,Gi s o,flat,u];simp,by rw[cutF,if_neg e,Fa s o,flat,w];simp,fun f=>by rw[D9,if_neg e,Ir s o,flat,C];simp,by omega,fun r a=>?_,.inr ⟨by omega,?_⟩⟩
    ·cases B with
     |nil=>
      have:=FP s l r a;omega
     |cons b t=>exact D r a
    ·rcases c with⟨rfl,rfl⟩|⟨L,A1,z,G,rfl,H⟩
     ·refine⟨[],y,A,by rw[show l+1-1=l by omega];rfl,fun z O=>CO kk (l+1) z ?_⟩
      rw[d];exact mem_append_left _ O
     ·exact⟨⟨j,l,y⟩::A1,z,G,rfl,H⟩
   ·rename_i a
    have J:i∉ids kk:=fun R=>(Au kk j i).2 R a;obtain⟨A,B,v,d,u,w,C,K,D,c⟩:=Bo s p i l m h;refine⟨⟨j,l,y⟩::(flat kk (l+1)++A),B,v,by rw[flat,d];simp,fun f=>by rw[under,if_neg e,Gi kk J,flat,u];simp,by rw[cutF,if_neg e,Fa kk J,flat,w];simp,fun f=>by rw[D9,if_neg e,Ir kk J,flat,C];simp,K,D,?_⟩;rcases c with c|⟨L,A1,z,G,rfl,H⟩
    ·exact .inl c
    ·exact .inr ⟨L,⟨j,l,y⟩::(flat kk (l+1)++A1),z,G,by simp,H⟩
def Fp(l:List Rw)(i:Int):Option Nat:=l.findIdx? fun r=>decide (r.id=i)
def endF(v:Int):Nat->List Rw->Nat
 |n,[]=>n
 |n,r::t=>if r.level<=v then n else endF v (n+1) t
def endR(l:List Rw)(k:Nat):Nat:=match l[k]? with
 |some r=>endF r.level (k+1) (l.drop (k+1))
 |none=>k+1
theorem Yp{v:Int}:∀(X:List Rw)(n:Nat)(B:List Rw),(∀r∈X,v<r.level)->(∀r,B.head? =some r->r.level<=v)->endF v n (X++B)=n+X.length
 | [],n,[],_,_=>rfl
 | [],n,b::t,_,h=>by
  rw[nil_append,endF,if_pos (h b rfl)];rfl
 |x::X,n,B,hX,hB=>by
  have c:=hX x (.head _);rw[cons_append,endF,if_neg (by omega),Yp X (n+1) B (fun r a=>hX r (.tail _ a)) hB,length_cons];omega
theorem ZF{A:List Rw}{r:Rw}{B:List Rw}(h:∀x∈A,x.id≠r.id):Fp (A++r::B) r.id=some A.length:=by
 rw[Fp,List.findIdx?_append]
 have a:A.findIdx? (fun x=>decide (x.id=r.id))=none:=by
  rw[List.findIdx?_eq_none_iff];intro x b;simpa using h x b
 rw[a,List.findIdx?_cons];simp
theorem end_mid{A:List Rw}{r:Rw}{k:Fo}{B:List Rw}(a:∀x,B.head? =some x->x.level<=r.level):endR (A++r::(flat k (r.level+1)++B)) A.length=A.length+1+(flat k (r.level+1)).length:=by
 have b:(A++r::(flat k (r.level+1)++B))[A.length]? =some r:=by rw[List.getElem?_append_right (Nat.le_refl _),Nat.sub_self];rfl
 have c:(A++r::(flat k (r.level+1)++B)).drop (A.length+1)=flat k (r.level+1)++B:=by
  rw[drop_append,drop_eq_nil_of_le (by omega),nil_append,Nat.add_sub_cancel_left];rfl
 rw[endR,b];dsimp only;rw[c];exact Yp _ _ _ (fun x d=>by have:=CO k _ x d;omega) a
def Dx(v:Int)(o:Int):List Rw->Int
 | []=>o
 |r::t=>Dx v (if r.level=v-1 then r.id else o) t
def BG(l:List Rw)(k:Nat):Int:=match l[k]? with
 |some r=>Dx r.level 0 (l.take k)
 |none=>0
theorem Jp{v:Int}:∀(A:List Rw)(o:Int),(∀z∈A,v<=z.level)->Dx v o A=o
 | [],o,_=>rfl
 |r::t,o,h=>by
  have:=h r (.head _);rw[Dx,if_neg (by omega)];exact Jp t o fun z a=>h z (.tail _ a)
theorem KU{v:Int}:∀(A B:List Rw)(o:Int),Dx v o (A++B)=Dx v (Dx v o A) B
 | [],B,o=>rfl
 |r::t,B,o=>by rw[cons_append,Dx,Dx,KU t B]
theorem parent_mid{A1 a B:List Rw}{q v:Int}{y:NX}{r:Rw}(b:r.level=v)(h:∀z∈a,v<=z.level):BG ((A1++⟨q,v-1,y⟩::a)++r::B) (A1++(⟨q,v-1,y⟩:Rw)::a).length=q:=by
 have c:((A1++(⟨q,v-1,y⟩:Rw)::a)++r::B)[(A1++(⟨q,v-1,y⟩:Rw)::a).length]? =some r:=by rw[List.getElem?_append_right (Nat.le_refl _),Nat.sub_self];rfl
 rw[BG,c];dsimp only;rw[List.take_left,b,KU,Dx,if_pos rfl,Jp a q h]
def kidF(v:Int):Nat->List Rw->List Nat
 |_,[]=>[]
 |n,r::t=>if r.level=v+1 then n::kidF v (n+1) t else kidF v (n+1) t
theorem QK{v:Int}:∀(X Y:List Rw)(n:Nat),kidF v n (X++Y)=kidF v n X++kidF v (n+X.length) Y
 | [],Y,n=>rfl
 |r::t,Y,n=>by
  have a:=QK (v:=v) t Y (n+1)
  have e:n+(r::t).length=n+1+t.length:=by rw[length_cons];omega
  rw[cons_append,kidF,kidF,a,e];split
  ·rfl
  ·rfl
theorem Ws{v:Int}:∀(X:List Rw)(n:Nat),(∀r∈X,v+1<r.level)->kidF v n X=[]
 | [],n,_=>rfl
 |r::t,n,h=>by
  have:=h r (.head _);rw[kidF,if_neg (by omega)];exact Ws t (n+1) fun z a=>h z (.tail _ a)
def begins:Fo->Nat->List Nat
 |.nil,_=>[]
 |.cons _ _ k s,n=>n::begins s (n+1+(ids k).length)
theorem BM(F:Fo)(l:Int):(flat F l).length=(ids F).length:=by rw[<- BH F l,List.length_map]
theorem Vy:∀(F:Fo)(v:Int)(n:Nat),kidF v n (flat F (v+1))=begins F n
 |.nil,_,_=>rfl
 |.cons i x k s,v,n=>by
  rw[flat,kidF,if_pos rfl,QK,Ws _ _ (fun r a=>by have:=CO k _ r a;omega),nil_append,BM,Vy s v,begins]
theorem TB:∀(F:Fo)(n:Nat),(begins F n).length=(tops F).length
 |.nil,_=>rfl
 |.cons i x k s,n=>by rw[begins,tops,length_cons,length_cons,TB s]
def app:Fo->Fo->Fo
 |.nil,G=>G
 |.cons i x k s,G=>.cons i x k (app s G)
theorem TL:∀(F G:Fo)(l:Int),flat (app F G) l=flat F l++flat G l
 |.nil,G,l=>rfl
 |.cons i x k s,G,l=>by rw[app,flat,flat,TL s G l];simp
theorem IV:∀(F G:Fo),tops (app F G)=tops F++tops G
 |.nil,G=>rfl
 |.cons i x k s,G=>by rw[app,tops,tops,IV s G];rfl
def putAt:Nat->Fo->Fo->Fo
 |0,N,F=>app N F
 |n+1,N,.nil=>N
 |n+1,N,.cons i x k s=>.cons i x k (putAt n N s)
theorem YH:∀(n:Nat)(N F:Fo),n<=(tops F).length->tops (putAt n N F)=(tops F).take n++tops N++(tops F).drop n
 |0,N,F,_=>by rw[putAt,IV];simp
 |n+1,N,.nil,h=>by simp[tops]at h
 |n+1,N,.cons i x k s,h=>by
  rw[putAt,tops,tops,YH n N s (by rw[tops,length_cons]at h;omega)];simp
def Jd(F:Fo)(n:Nat):Nat:=(begins F 0).getD n (ids F).length
theorem QC:∀(F:Fo)(m n:Nat),begins F (m+n)=(begins F n).map (· +m)
 |.nil,_,_=>rfl
 |.cons i x k s,m,n=>by
  rw[begins,begins,map_cons,show m+n+1+(ids k).length=m+(n+1+(ids k).length) by omega,QC s m,Nat.add_comm m n]
theorem Rn:∀(n:Nat)(N F:Fo)(l:Int),n<=(tops F).length->flat (putAt n N F) l=(flat F l).take (Jd F n)++flat N l++(flat F l).drop (Jd F n)
 |0,N,F,l,_=>by
  have e:Jd F 0=0:=by
   cases F with
   |nil=>rfl
   |cons i x k s=>rfl
  rw[putAt,TL,e];simp
 |n+1,N,.nil,l,h=>by simp[tops]at h
 |n+1,N,.cons i x k s,l,h=>by
  have a:n<=(tops s).length:=by rw[tops,length_cons]at h;omega
  have e:Jd (.cons i x k s) (n+1)=1+(ids k).length+Jd s n:=by
   rw[Jd,Jd,begins,List.getD_cons_succ,show 0+1+(ids k).length=(1+(ids k).length)+0 by omega,QC s,ids,length_cons,length_append];simp only[List.getD_eq_getElem?_getD,List.getElem?_map]
   cases(begins s 0)[n]? with
   |none=>simp only[Option.map_none,Option.getD_none];omega
   |some b=>simp only[Option.map_some,Option.getD_some];omega
  have c:(⟨i,l,x⟩::flat k (l+1):List Rw).length=1+(ids k).length:=by rw[length_cons,BM];omega
  have d:flat (.cons i x k s) l=(⟨i,l,x⟩::flat k (l+1))++flat s l:=rfl;have f:flat (putAt (n+1) N (.cons i x k s)) l=(⟨i,l,x⟩::flat k (l+1))++flat (putAt n N s) l:=rfl;rw[f,Rn n N s l a,e,d,<- c];generalize(⟨i,l,x⟩::flat k (l+1):List Rw)=X;rw[List.take_append,drop_append,List.take_of_length_le (l:=X) (Nat.le_add_right _ _),drop_eq_nil_of_le (show X.length<=_ from Nat.le_add_right _ _),Nat.add_sub_cancel_left];simp
def Steps:Int->List Rw->Prop
 |_,[]=>True
 |u,r::t=>r.level<=u+1/\Steps r.level t
theorem Ot:∀(X Y:List Rw)(u:Int),Steps u (X++Y)->Steps u X
 | [],Y,u,_=>trivial
 |r::t,Y,u,h=>⟨h.1,Ot t Y _ h.2⟩
theorem Ut:∀(X:List Rw)(r:Rw)(Y:List Rw)(u:Int),Steps u (X++r::Y)->Steps r.level Y
 | [],r,Y,u,h=>h.2
 |x::t,r,Y,u,h=>Ut t r Y _ h.2
theorem Io:∀(n:Nat)(L:List Rw)(b:Int),L.length<=n->(∀r∈L,b<=r.level)->Steps (b-1) L->∃F,flat F b=L
 |n,[],b,_,_,_=>⟨.nil,rfl⟩
 |n+1,r::t,b,hn,hb,hs=>by
  rw[length_cons]at hn;have C:=hb r (.head _);have D:r.level<=b-1+1:=hs.1
  have c:r.level=b:=by omega
  obtain⟨X,f⟩:∃X,X=t.takeWhile fun x=>decide (b<x.level):=⟨_,rfl⟩;obtain⟨Y,g⟩:∃Y,Y=t.dropWhile fun x=>decide (b<x.level):=⟨_,rfl⟩
  have j:t=X++Y:=by rw[f,g,List.takeWhile_append_dropWhile]
  have d:∀x∈X,b+1<=x.level:=fun x m=>by
   rw[f]at m;have:=all_eq_true.1 (List.all_takeWhile (l:=t) (p:=fun x=>decide (b<x.level))) x m;have:=of_decide_eq_true this;omega
  have a:Steps b t:=by have:=hs.2;rwa [c]at this
  rw[j]at a hn hb;rw[length_append]at hn;obtain⟨K,s⟩:=Io n X (b+1) (by omega) d (by rw[show b+1-1=b by omega];exact Ot X Y b a)
  have e:Steps (b-1) Y:=by
   cases hYc:Y with
   |nil=>trivial
   |cons y Z=>
    have u:y.level<=b:=by
     have:¬(decide (b<y.level)=true):=by
      have o:=List.head?_dropWhile_not (p:=fun x:Rw=>decide (b<x.level)) t;rw[<- g,hYc]at o;simpa using o
     exact Int.not_lt.1 fun h=>this (decide_eq_true h)
    rw[hYc]at a;exact⟨by omega,Ut X y Z b a⟩
  obtain⟨S,w⟩:=Io n Y b (by omega) (fun y z=>hb y (.tail _ (mem_append_right _ z))) e;refine⟨.cons r.id r.x K S,?_⟩;rw[flat,s,w,j];obtain⟨G,H,J⟩:=r;dsimp only at c⊢;rw[c]
def LD(l:List Rw)(less:Int):List Rw:=l.map fun r=> {r with level:=r.level-less}
def MX(l:List Rw)(k:Nat):List Nat:=match l[k]? with
 |some r=>kidF r.level (k+1) ((l.take (endR l k)).drop (k+1))
 |none=>[]
def TZ(l:List Rw)(k n:Nat):Nat:=(MX l k).getD n (endR l k)
def VG(l:List Rw)(n:Nat)(m:List Rw):List Rw:=l.take n++m++l.drop n
theorem F9:∀(F:Fo)(l d:Int),LD (flat F l) d=flat F (l-d)
 |.nil,_,_=>rfl
 |.cons i x k s,l,d=>by
  have a:=F9 k (l+1) d;have b:=F9 s l d;rw[LD]at a b⊢;rw[flat,flat,map_cons,map_append,a,b,show l+1-d=l-d+1 by omega]
section
variable{F:Fo}{p i l q:Int}{x:NX}{k:Fo}{A B:List Rw}{v:Int}
theorem Mid.endN(h:Mid F p i l q x k A B v):endR (flat F l) A.length=A.length+1+(ids k).length:=by
 rw[h.fl,end_mid (r:=⟨i,v,x⟩) h.next,BM]
theorem Mid.find(h:Mid F p i l q x k A B v)(hn:(ids F).Nodup):Fp (flat F l) i=some A.length:=by
 have a:=BH F l;rw[h.fl]at a⊢;refine ZF (r:=⟨i,v,x⟩) fun z b e=>?_;rw[<- a,map_append,nodup_append]at hn;exact hn.2.2 z.id (mem_map.2 ⟨z,b,rfl⟩) i (by rw[map_cons];exact .head _) e
theorem Mid.here(h:Mid F p i l q x k A B v):(flat F l)[A.length]? =some ⟨i,v,x⟩:=by
 rw[h.fl,List.getElem?_append_right (Nat.le_refl _),Nat.sub_self];rfl
theorem Mid.kids(h:Mid F p i l q x k A B v):MX (flat F l) A.length=begins k (A.length+1):=by
 have a:=h.endN;rw[MX,h.here];dsimp only;rw[a,h.fl]
 have e:((A++(⟨i,v,x⟩:Rw)::(flat k (v+1)++B)).take (A.length+1+(ids k).length)).drop (A.length+1)=flat k (v+1):=by
  rw[drop_take,drop_append,drop_eq_nil_of_le (by omega),nil_append,Nat.add_sub_cancel_left,Nat.add_sub_cancel_left];show(flat k (v+1)++B).take (ids k).length=_;rw[<- BM k (v+1),List.take_left]
 rw[e,Vy]
theorem Mid.spot(h:Mid F p i l q x k A B v)(n:Nat):TZ (flat F l) A.length n=A.length+1+Jd k n:=by
 rw[TZ,h.kids,h.endN,Jd,show A.length+1=(A.length+1)+0 by omega,QC];simp only[List.getD_eq_getElem?_getD,List.getElem?_map,Nat.add_zero]
 cases(begins k 0)[n]? with
 |none=>rfl
 |some b=>simp only[Option.map_some,Option.getD_some];omega
theorem spotN_le(k:Fo)(n:Nat):Jd k n<=(ids k).length:=by
 have c:∀(k:Fo)(m:Nat),∀b∈begins k m,b<=m+(ids k).length:=by
  intro k
  induction k with
  |nil=>intro m b a;cases a
  |cons i x e s _ d=>
   intro m b a;rw[begins]at a;rw[ids,length_cons,length_append];rcases mem_cons.1 a with rfl|a
   ·omega
   ·have:=d _ b a
    omega
 rw[Jd,List.getD_eq_getElem?_getD]
 cases h:(begins k 0)[n]? with
 |none=>exact Nat.le_refl _
 |some b=>
  have:=c k 0 b (mem_of_getElem? h);simp only[Option.getD_some];omega
theorem Mid.laid(h:Mid F p i l q x k A B v){n:Nat}(hn:n<=(tops k).length)(N:Fo):VG (flat F l) (TZ (flat F l) A.length n) (flat N (v+1))=flat (under i (putAt n N) F) l:=by
 have a:=spotN_le k n;rw[h.un,Rn n N k (v+1) hn,h.spot,VG,h.fl];obtain⟨X,b⟩:∃X,X=A++[(⟨i,v,x⟩:Rw)]:=⟨_,rfl⟩
 have c:A.length+1+Jd k n=X.length+Jd k n:=by rw[b,length_append];rfl
 have e:∀Y,A++(⟨i,v,x⟩:Rw)::Y=X++Y:=fun Y=>by rw[b];simp
 rw[c,e,e];rw[List.take_append,drop_append,List.take_of_length_le (l:=X) (Nat.le_add_right _ _),drop_eq_nil_of_le (show X.length<=_ from Nat.le_add_right _ _),Nat.add_sub_cancel_left,List.take_append_of_le_length (by rw[BM];exact a),List.drop_append_of_le_length (by rw[BM];exact a)];simp
end
def CY(l:List Rw)(k:Nat):List Rw:=l.take k++l.drop (endR l k)
def segR(l:List Rw)(k:Nat):List Rw:=(l.take (endR l k)).drop k
section
variable{F:Fo}{p i l q:Int}{x:NX}{k:Fo}{A B:List Rw}{v:Int}
theorem Mid.cutE(h:Mid F p i l q x k A B v):CY (flat F l) A.length=flat (cutF i F) l:=by
 have a:=h.endN;rw[CY,a,h.cu,h.fl,List.take_left]
 have e:A++(⟨i,v,x⟩:Rw)::(flat k (v+1)++B)=(A++(⟨i,v,x⟩::flat k (v+1)))++B:=by simp
 have b:A.length+1+(ids k).length=(A++((⟨i,v,x⟩:Rw)::flat k (v+1))).length:=by rw[length_append,length_cons,BM];omega
 rw[b,e,List.drop_left]
theorem Mid.seg(h:Mid F p i l q x k A B v):segR (flat F l) A.length=flat (.cons i x k .nil) v:=by
 have a:=h.endN
 have e:A++(⟨i,v,x⟩:Rw)::(flat k (v+1)++B)=(A++(⟨i,v,x⟩::flat k (v+1)))++B:=by simp
 have b:A.length+1+(ids k).length=(A++((⟨i,v,x⟩:Rw)::flat k (v+1))).length:=by rw[length_append,length_cons,BM];omega
 rw[segR,a,h.fl,b,e,List.take_left,List.drop_left,flat];simp[flat]
theorem Mid.ids(h:Mid F p i l q x k A B v):Nod.ids F=A.map (·.id)++(i::(Nod.ids k++B.map (·.id))):=by
 rw[<- BH F l,h.fl,map_append,map_cons,map_append,BH]
theorem Mid.XO(h:Mid F p i l q x k A B v):Nod.ids (cutF i F)=A.map (·.id)++B.map (·.id):=by
 rw[<- BH (cutF i F) l,h.cu,map_append]
theorem Mid.cutNodup(h:Mid F p i l q x k A B v)(hn:(Nod.ids F).Nodup):(Nod.ids (cutF i F)).Nodup:=by
 rw[h.ids]at hn;rw[h.XO];refine hn.sublist (List.Sublist.append_left ?_ _);exact(List.sublist_append_right _ _).trans (List.sublist_cons_self _ _)
theorem Mid.Ui(h:Mid F p i l q x k A B v)(hn:(Nod.ids F).Nodup)(j:Int):j∈Nod.ids (cutF i F)↔j∈Nod.ids F/\j≠i/\j∉Nod.ids k:=by
 have c:=h.ids;rw[h.XO,c];rw[c]at hn;simp only[mem_append,mem_cons];rw[nodup_append,nodup_cons,nodup_append]at hn;obtain⟨_,⟨f,_,_,g⟩,d⟩:=hn;constructor
 ·rintro(a|a)
  ·exact⟨.inl a,fun e=>d j a i (.head _) e,fun b=>d j a j (.tail _ (mem_append_left _ b)) rfl⟩
  ·exact⟨.inr (.inr (.inr a)),fun e=>f (by rw[<- e];exact mem_append_right _ a),fun b=>g j b j a rfl⟩
 ·rintro⟨a|a|a|a,m,n⟩
  ·exact .inl a
  ·exact absurd a m
  ·exact absurd a n
  ·exact .inr a
theorem Mid.ZH(h:Mid F p i l q x k A B v)(hn:(Nod.ids F).Nodup){j y z:Int}{g f:NX}{C D:Fo}{G H A3 J:List Rw}{m v3:Int}(K:Mid F p j l y g C G H m)(M:Mid (cutF i F) p j l z f D A3 J v3):v3=m/\f=g:=by
 have N:(⟨j,m,g⟩:Rw)∈flat F l:=by rw[K.fl];exact mem_append_right _ (.head _)
 have O:(⟨j,v3,f⟩:Rw)∈flat F l:=by
  have:(⟨j,v3,f⟩:Rw)∈flat (cutF i F) l:=by rw[M.fl];exact mem_append_right _ (.head _)
  rw[h.cu]at this;rw[h.fl];rcases mem_append.1 this with h|h
  ·exact mem_append_left _ h
  ·exact mem_append_right _ (.tail _ (mem_append_right _ h))
 have n:∀(L:List Rw),(L.map (·.id)).Nodup->∀a∈L,∀b∈L,a.id=b.id->a=b:=by
  intro L
  induction L with
  |nil=>intro _ a o;cases o
  |cons r t R=>
   intro hn a o b u e;rw[map_cons,nodup_cons]at hn;rcases mem_cons.1 o with w|d
   ·rcases mem_cons.1 u with s|c
    ·rw[w,s]
    ·exact(hn.1 (mem_map.2 ⟨b,c,by rw[<- e,w]⟩)).elim
   ·rcases mem_cons.1 u with s|c
    ·exact(hn.1 (mem_map.2 ⟨a,d,by rw[e,s]⟩)).elim
    ·exact R hn.2 a d b c e
 have:=n _ (by rw[BH];exact hn) _ O _ N rfl
 injection this with _ e1 e2
 exact⟨e1,e2⟩
theorem Mid.move(h:Mid F p i l q x k A B v)(hn:(Nod.ids F).Nodup){j d e:Int}{f g:NX}{m a:Fo}{o r A3 s:List Rw}{b v3:Int}(t:Mid F p j l d f m o r b)(c:Mid (cutF i F) p j l e g a A3 s v3){n:Nat}(u:n<=(tops a).length):
  VG (CY (flat F l) A.length) (TZ (CY (flat F l) A.length) A3.length n) (LD (segR (flat F l) A.length) (v-b-1))=flat (under j (putAt n (.cons i x k .nil)) (cutF i F)) l:=by
 obtain⟨rfl,rfl⟩:=h.ZH hn t c;rw[h.cutE,h.seg,F9,show v-(v-v3-1)=v3+1 by omega];exact c.laid u _
end
structure En where
 id:Int
 par:Int
 x:NX
 kids:List Int
def ents:Fo->Int->List En
 |.nil,_=>[]
 |.cons i x k s,p=>⟨i,p,x,tops k⟩::(ents k i++ents s p)
theorem Bz:∀(F:Fo)(p:Int),(ents F p).map (·.id)=ids F
 |.nil,_=>rfl
 |.cons i x k s,p=>by rw[ents,ids,map_cons,map_append,Bz k,Bz s]
theorem UZ:∀(F G:Fo)(p:Int),ents (app F G) p=ents F p++ents G p
 |.nil,G,p=>rfl
 |.cons i x k s,G,p=>by rw[app,ents,ents,UZ s G p];simp
theorem OZ:∀(n:Nat)(N F:Fo)(p:Int),n<=(tops F).length->(ents (putAt n N F) p).Perm (ents N p++ents F p)
 |0,N,F,p,_=>by rw[putAt,UZ]
 |n+1,N,.nil,p,h=>by simp[tops]at h
 |n+1,N,.cons i x k s,p,h=>by
  have a:=OZ n N s p (by rw[tops,length_cons]at h;omega);rw[putAt,ents,ents];refine(((a.append_left (ents k i)).cons _).trans ?_)
  have b:(⟨i,p,x,tops k⟩::(ents k i++(ents N p++ents s p)):List En)=((⟨i,p,x,tops k⟩::ents k i)++ents N p)++ents s p:=by simp
  have c:(ents N p++⟨i,p,x,tops k⟩::(ents k i++ents s p):List En)=(ents N p++(⟨i,p,x,tops k⟩::ents k i))++ents s p:=by simp
  rw[b,c];exact List.perm_append_comm.append_right _
theorem Ru:∀(F:Fo),∀i∈tops F,i∈ids F
 |.cons j x k s,i,h=>by
  rw[tops]at h;rw[ids];rcases mem_cons.1 h with rfl|h
  ·exact .head _
  ·exact .tail _ (mem_append_right _ (Ru s i h))
theorem NS(i:Int)(f:Fo->Fo):∀(F:Fo),tops (under i f F)=tops F
 |.nil=>rfl
 |.cons j x k s=>by
  rw[under];split
  ·rfl
  ·rw[tops,tops,NS i f s]
theorem P8(i:Int)(f:NX->NX):∀(F:Fo),tops (D9 i f F)=tops F
 |.nil=>rfl
 |.cons j x k s=>by
  rw[D9];split
  ·rfl
  ·rw[tops,tops,P8 i f s]
theorem Kz{α:Type}(a e:α)(X Y Z:List α):(a::((e::(X++Y))++Z)).Perm (e::(X++(a::(Y++Z)))):=by
 have h:(a::(e::(X++(Y++Z)))).Perm (e::(X++(a::(Y++Z)))):=(List.Perm.swap e a _).trans ((perm_middle (l₁:=X)).symm.cons e)
 have b:a::((e::(X++Y))++Z)=a::(e::(X++(Y++Z))):=by simp
 rw[b];exact h
theorem GG{α:Type}(a e:α)(W X Y:List α):(a::(W++(e::(X++Y)))).Perm (e::(X++(a::(W++Y)))):=by
 have b:(a::(W++(e::(X++Y)))).Perm (e::(a::(W++(X++Y)))):=by
  have:(a::W++e::(X++Y)).Perm (e::(a::W++(X++Y))):=perm_middle;simpa using this
 refine b.trans (List.Perm.cons e ?_);have c:a::(W++(X++Y))=(a::W)++(X++Y):=rfl;have d:X++(a::(W++Y))=X++((a::W)++Y):=rfl;rw[c,d,<- append_assoc,<- append_assoc];exact List.perm_append_comm.append_right _
theorem Dw:∀(F:Fo)(p i:Int){q:Int}{x:NX}{k:Fo},(ids F).Nodup->AZ F p i=some (q,x,k)->
  ∃R:List En,(ents F p).Perm (⟨i,q,x,tops k⟩::(ents k i++R))/\(∀f,(ents (under i f F) p).Perm (⟨i,q,x,tops (f k)⟩::(ents (f k) i++R)))/\∀f,(ents (D9 i f F) p).Perm (⟨i,q,f x,tops k⟩::(ents k i++R))
 |.nil,p,i,q,x,k,_,h=>by cases h
 |.cons j y kk s,p,i,q,x,k,hn,h=>by
  rw[ids,nodup_cons,nodup_append]at hn;obtain⟨t,b,c,d⟩:=hn;rw[AZ]at h;split at h
  ·rename_i e
   cases h;subst e;exact⟨ents s p,.refl _,fun f=>by rw[under,if_pos rfl];exact .refl _,fun f=>by rw[D9,if_pos rfl];exact .refl _⟩
  ·rename_i e
   split at h
   ·rename_i r a
    cases h;have u:i∈ids kk:=(Au kk j i).1 (by rw[a];simp);have n:i∉ids s:=fun h=>d i u i h rfl;obtain⟨R,g,l,m⟩:=Dw kk j i b a;refine⟨⟨j,p,y,tops kk⟩::(R++ents s p),?_,fun f=>?_,fun f=>?_⟩
    ·rw[ents]
     exact((g.append_right _).cons _).trans (Kz _ _ _ _ _)
    ·rw[under,if_neg e,Gi s n,ents,NS]
     exact(((l f).append_right _).cons _).trans (Kz _ _ _ _ _)
    ·rw[D9,if_neg e,Ir s n,ents,P8]
     exact(((m f).append_right _).cons _).trans (Kz _ _ _ _ _)
   ·rename_i a
    have o:i∉ids kk:=fun w=>(Au kk j i).2 w a;obtain⟨R,g,l,m⟩:=Dw s p i c h;refine⟨⟨j,p,y,tops kk⟩::(ents kk j++R),?_,fun f=>?_,fun f=>?_⟩
    ·rw[ents]
     exact((g.append_left _).cons _).trans (GG _ _ _ _ _)
    ·rw[under,if_neg e,Gi kk o,ents]
     exact(((l f).append_left _).cons _).trans (GG _ _ _ _ _)
    ·rw[D9,if_neg e,Ir kk o,ents]
     exact(((m f).append_left _).cons _).trans (GG _ _ _ _ _)
theorem Ku(i:Int):∀(F:Fo),tops (cutF i F)=(tops F).erase i
 |.nil=>rfl
 |.cons j x k s=>by
  rw[cutF,tops];split
  ·rename_i e
   rw[e,List.erase_cons_head]
  ·rename_i e
   rw[tops,List.erase_cons_tail (by simpa using e),Ku i s]
theorem Oq:∀(F:Fo)(p i:Int){q:Int}{x:NX}{k:Fo},(ids F).Nodup->AZ F p i=some (q,x,k)->
  (i∈tops F/\q=p/\(ents F p).Perm (⟨i,p,x,tops k⟩::(ents k i++ents (cutF i F) p)))\/
  (i∉tops F/\∃(r:En)(R:List En),r.id=q/\i∈r.kids/\(ents F p).Perm (⟨i,q,x,tops k⟩::(ents k i++r::R))/\(ents (cutF i F) p).Perm ({r with kids:=r.kids.erase i}::R))
 |.nil,p,i,q,x,k,_,h=>by cases h
 |.cons j y a s,p,i,q,x,k,hn,h=>by
  rw[ids,nodup_cons,nodup_append]at hn;obtain⟨C,g,l,m⟩:=hn;rw[AZ]at h;split at h
  ·rename_i e
   cases h;subst e;exact .inl ⟨.head _,rfl,by rw[ents,cutF,if_pos rfl]⟩
  ·rename_i e
   have A:i≠j:=fun h=>e h.symm;split at h
   ·rename_i G f
    cases h;have D:i∈ids a:=(Au a j i).1 (by rw[f];simp);have n:i∉ids s:=fun h=>m i D i h rfl
    have o:i∉tops (.cons j y a s):=fun b=>by
     rw[tops]at b;rcases mem_cons.1 b with h|h
     ·exact A h
     ·exact n (Ru s i h)
    right;refine⟨o,?_⟩
    rcases Oq a j i g f with⟨c,rfl,t⟩|⟨c,r,R,u,b,w,z⟩
    ·refine⟨⟨q,p,y,tops a⟩,ents (cutF i a) q++ents s p,rfl,c,?_,?_⟩
     ·rw[ents]
      exact((t.append_right _).cons _).trans (Kz _ _ _ _ _)
     ·rw[cutF,if_neg e,Fa s n,ents,Ku]
    ·refine⟨r,⟨j,p,y,tops a⟩::(R++ents s p),u,b,?_,?_⟩
     ·rw[ents]
      refine((w.append_right _).cons _).trans ((Kz _ _ _ _ _).trans (List.Perm.cons _ (List.Perm.append_left _ ?_)));rw[cons_append];exact .swap _ _ _
     ·rw[cutF,if_neg e,Fa s n,ents,Ku,List.erase_of_not_mem c]
      refine((z.append_right _).cons _).trans ?_;rw[cons_append];exact .swap _ _ _
   ·rename_i f
    have B:i∉ids a:=fun b=>(Au a j i).2 b f
    rcases Oq s p i l h with⟨c,rfl,t⟩|⟨c,r,R,u,b,w,z⟩
    ·refine .inl ⟨.tail _ c,rfl,?_⟩
     rw[cutF,if_neg e,Fa a B,ents,ents];exact((t.append_left _).cons _).trans (GG _ _ _ _ _)
    ·refine .inr ⟨fun d=>?_,r,⟨j,p,y,tops a⟩::(ents a j++R),u,b,?_,?_⟩
     ·rw[tops]at d
      rcases mem_cons.1 d with h|h
      ·exact A h
      ·exact c h
     ·rw[ents]
      refine((w.append_left _).cons _).trans ((GG _ _ _ _ _).trans (List.Perm.cons _ (List.Perm.append_left _ ?_)));have:=GG (⟨j,p,y,tops a⟩:En) r (ents a j) [] R;simpa using this
     ·rw[cutF,if_neg e,Fa a B,ents]
      refine((z.append_left _).cons _).trans ?_;have:=GG (⟨j,p,y,tops a⟩:En) ({r with kids:=r.kids.erase i}:En) (ents a j) [] R;simpa using this
theorem ids_put(n:Nat)(N F:Fo)(h:n<=(tops F).length):(ids (putAt n N F)).Perm (ids N++ids F):=by
 have:=(OZ n N F 0 h).map (·.id)
 rwa [map_append,Bz,Bz,Bz]at this
theorem V3{F:Fo}{p i q:Int}{x:NX}{k:Fo}(hn:(ids F).Nodup)(h:AZ F p i=some (q,x,k)){n:Nat}(f:n<=(tops k).length)(N:Fo):(ids (under i (putAt n N) F)).Perm (ids N++ids F):=by
 obtain⟨R,g,j,_⟩:=Dw F p i hn h;have a:=g.map (·.id);have b:=(j (putAt n N)).map (·.id);rw[map_cons,map_append,Bz,Bz]at a b;refine b.trans ?_;have c:=ids_put n N k f;have d:(i::(ids (putAt n N k)++R.map (·.id))).Perm (i::((ids N++ids k)++R.map (·.id))):=(c.append_right _).cons _;refine d.trans ?_
 have e:(i::((ids N++ids k)++R.map (·.id))).Perm (ids N++(i::(ids k++R.map (·.id)))):=by
  rw[append_assoc];exact List.perm_middle.symm
 exact e.trans (a.symm.append_left _)
theorem ids_turn{F:Fo}{p i q:Int}{x:NX}{k:Fo}(hn:(ids F).Nodup)(h:AZ F p i=some (q,x,k))(f:NX->NX):(ids (D9 i f F)).Perm (ids F):=by
 obtain⟨R,c,_,d⟩:=Dw F p i hn h;have a:=c.map (·.id);have b:=(d f).map (·.id);rw[map_cons,map_append,Bz,Bz]at a b;exact b.trans a.symm
theorem under_nodup{F:Fo}{p i q:Int}{x:NX}{k:Fo}(hn:(ids F).Nodup)(h:AZ F p i=some (q,x,k)){n:Nat}(c:n<=(tops k).length){N:Fo}(d:(ids N).Nodup)(f:∀j∈ids N,j∉ids F):(ids (under i (putAt n N) F)).Nodup:=
 (V3 hn h c N).nodup_iff.2 (nodup_append.2 ⟨d,hn,fun a g b l e=>f a g (e▸l)⟩)
theorem Mid.level{F:Fo}{p i l q:Int}{x:NX}{k:Fo}{A B:List Rw}{v:Int}(h:Mid F p i l q x k A B v):(⟨i,v,x⟩:Rw)∈flat F l:=by
 rw[h.fl];exact mem_append_right _ (.head _)
def Bj(c:Int):Prop:=c=9\/c=10\/c=13\/(32<=c/\c<=55295)\/(57344<=c/\c<=65533)\/(65536<=c/\c<=1114111)
instance (c:Int):Decidable (Bj c):=by unfold Bj;infer_instance
def Dc(c:Int):Prop:=(65<=c/\c<=90)\/(95<=c/\c<=95)\/(97<=c/\c<=122)\/(0xc0<=c/\c<=0xd6)\/(0xd8<=c/\c<=0xf6)\/(0xf8<=c/\c<=0x2ff)\/(0x370<=c/\c<=0x37d)\/(0x37f<=c/\c<=0x1fff)\/(0x200c<=c/\c<=0x200d)\/(0x2070<=c/\c<=0x218f)\/(0x2c00<=c/\c<=0x2fef)\/(0x3001<=c/\c<=0xd7ff)\/(0xf900<=c/\c<=0xfdcf)\/(0xfdf0<=c/\c<=0xfffd)\/(0x10000<=c/\c<=0xeffff)
instance (c:Int):Decidable (Dc c):=by unfold Dc;infer_instance
def GZ(c:Int):Prop:=(45<=c/\c<=46)\/(48<=c/\c<=57)\/(0xb7<=c/\c<=0xb7)\/(0x300<=c/\c<=0x36f)\/(0x203f<=c/\c<=0x2040)\/Dc c
instance (c:Int):Decidable (GZ c):=by unfold GZ;infer_instance
def u8(n:Int):UInt8:=UInt8.ofNat n.toNat
theorem Gn{n:Int}(h:0<=n)(a:n<256):((u8 n).toNat:Int)=n:=by
 rw[u8,UInt8.toNat_ofNat'];omega
def encP(c:Int):List UInt8:=
 if c<128 then [u8 c]else if c<2048 then [u8 (192+c/64),u8 (128+c%64)]
 else if c<65536 then [u8 (224+c/4096),u8 (128+c/64%64),u8 (128+c%64)]
 else [u8 (240+c/262144),u8 (128+c/4096%64),u8 (128+c/64%64),u8 (128+c%64)]
def Ce(x:Nat):Nat×Int:=
 if x<128 then(1,x)else if x<192 then(0,0)else if x<224 then(2,x%32)else if x<240 then(3,x%16)else if x<248 then(4,x%8)else(0,0)
def Ep(c:Int)(l:List UInt8):Int:=l.foldl (fun c x=>c*64+(x.toNat:Int)%64) c
structure Shape(c:Int)(b:UInt8)(r:List UInt8)(c0:Int):Prop where
 enc:encP c=b::r
 head:Ce b.toNat=(r.length+1,c0)
 tail:∀x∈r,128<=x.toNat/\x.toNat<192
 fold:Ep c0 r=c
 len:r.length<=3
theorem V5{c:Int}(h:Bj c):∃b r j,Shape c b r j:=by
 have m:0<=c/\c<=1114111:=by unfold Bj at h;omega
 have a:∀n:Int,((u8 (128+n%64)).toNat:Int)=128+n%64:=fun n=>Gn (by omega) (by omega);by_cases f:c<128
 ·refine⟨u8 c,[],c,by rw[encP,if_pos f],?_,by simp,rfl,by simp⟩
  have e:=Gn (n:=c) (by omega) (by omega);rw[Ce,if_pos (by omega),e];rfl
 by_cases g:c<2048
 ·have e:=Gn (n:=192+c/64) (by omega) (by omega)
  refine⟨_,_,c/64,by rw[encP,if_neg f,if_pos g],?_,?_,?_,by simp⟩
  ·rw[Ce,if_neg (by omega),if_neg (by omega),if_pos (by omega)]
   simp only[length_cons,length_nil,Prod.mk.injEq,true_and];omega
  ·intro x d
   simp only[mem_cons,not_mem_nil,or_false]at d;subst d;have:=a c;omega
  ·simp only[Ep,foldl_cons,foldl_nil,a]
   omega
 by_cases i:c<65536
 ·have e:=Gn (n:=224+c/4096) (by omega) (by omega)
  refine⟨_,_,c/4096,by rw[encP,if_neg f,if_neg g,if_pos i],?_,?_,?_,by simp⟩
  ·rw[Ce,if_neg (by omega),if_neg (by omega),if_neg (by omega),if_pos (by omega)]
   simp only[length_cons,length_nil,Prod.mk.injEq,true_and];omega
  ·intro x d
   simp only[mem_cons,not_mem_nil,or_false]at d;have k:=a c;have l:=a (c/64);rcases d with rfl|rfl<;>omega
  ·simp only[Ep,foldl_cons,foldl_nil,a]
   omega
 ·have e:=Gn (n:=240+c/262144) (by omega) (by omega)
  refine⟨_,_,c/262144,by rw[encP,if_neg f,if_neg g,if_neg i],?_,?_,?_,by simp⟩
  ·rw[Ce,if_neg (by omega),if_neg (by omega),if_neg (by omega),if_neg (by omega),if_pos (by omega)]
   simp only[length_cons,length_nil,Prod.mk.injEq,true_and];omega
  ·intro x d
   simp only[mem_cons,not_mem_nil,or_false]at d;have k:=a c;have l:=a (c/64);have o:=a (c/4096);rcases d with rfl|rfl|rfl<;>omega
  ·simp only[Ep,foldl_cons,foldl_nil,a]
   omega
def Dec(l:List UInt8)(c:Int):Prop:=Bj c/\encP c<+:l
theorem Jl{c:Int}(h:Bj c):1<=(encP c).length/\(encP c).length<=4:=by
 obtain⟨b,r,d,a⟩:=V5 h;rw[a.enc,length_cons];have:=a.len;omega
theorem Dec.shape{l:List UInt8}{c:Int}(h:Dec l c):∃b r a t,Shape c b r a/\l=b::(r++t)/\(encP c).length=r.length+1:=by
 obtain⟨b,r,a,d⟩:=V5 h.1;obtain⟨t,e⟩:=h.2;rw[d.enc]at e;exact⟨b,r,a,t,d,by rw[<- e];rfl,by rw[d.enc];rfl⟩
def KD(l:List UInt8):Int:=Ep (Ce (l.headD 0).toNat).2 ((l.take (Ce (l.headD 0).toNat).1).drop 1)
theorem Dec.next{l:List UInt8}{c:Int}(h:Dec l c):(Ce (l.headD 0).toNat).1=(encP c).length/\(encP c).length<=l.length/\KD l=c/\∀x∈(l.take (Ce (l.headD 0).toNat).1).drop 1,128<=x.toNat/\x.toNat<192:=by
 obtain⟨b,r,f,t,a,rfl,d⟩:=h.shape
 have e:((b::(r++t)).take (r.length+1)).drop 1=r:=by simp
 refine⟨by rw[headD_cons,a.head,d],by rw[d,length_cons,length_append];omega,?_,?_⟩
 ·rw[KD,headD_cons,a.head]
  dsimp only;rw[e,a.fold]
 ·rw[headD_cons,a.head]
  dsimp only;rw[e];exact a.tail
theorem Dec.one{l:List UInt8}{c d:Int}(h:Dec l c)(a:Dec l d):c=d:=by
 rw[<- h.next.2.2.1,<- a.next.2.2.1]
def Gl(l:List UInt8)(cs:List Int):Prop:=(∀c∈cs,Bj c)/\cs.flatMap encP=l
theorem Gl.nil{cs:List Int}(h:Gl [] cs):cs=[]:=by
 cases cs with
 |nil=>rfl
 |cons c r=>
  have b:=Jl (h.1 c (.head _));have a:=congrArg List.length h.2;simp only[List.flatMap_cons,length_append,length_nil]at a;omega
theorem Gl.cons{l:List UInt8}{cs:List Int}(h:Gl l cs)(b:l≠[]):∃c r,cs=c::r/\Dec l c/\Gl (l.drop (encP c).length) r:=by
 cases cs with
 |nil=>exact(b h.2.symm).elim
 |cons c r=>
  have a:=h.2;rw[List.flatMap_cons]at a;refine⟨c,r,rfl,⟨h.1 c (.head _),⟨_,a⟩⟩,fun d e=>h.1 d (.tail _ e),?_⟩;rw[<- a,List.drop_left]
theorem Gl.one:∀{cs ds:List Int}{l:List UInt8},Gl l cs->Gl l ds->cs=ds
 | [],ds,l,h,h'=>by
  have:l=[]:=h.2.symm;subst this;exact h'.nil.symm
 |c::r,ds,l,h,h'=>by
  have d:l≠[]:=fun e=>by subst e;exact absurd h.nil (by simp)
  obtain⟨i,j,e,f,g⟩:=h.cons d;cases e;obtain⟨k,m,rfl,a,b⟩:=h'.cons d;have:=f.one a;subst this;rw[g.one b]
def VT(s:ByteArray):Prop:=∃cs,Gl s.data.toList cs
def Cb(s:ByteArray):Prop:=1<=s.size/\s.size<=60/\∃cs,Gl s.data.toList cs/\(∀c∈cs,GZ c)/\∀c,cs.head? =some c->Dc c
noncomputable section
open Classical
structure It where
 level:Int
 x:NX
abbrev At:=ByteArray×ByteArray
def ltB(a b:ByteArray):Prop:=a.data.toList<b.data.toList
theorem EQ(a:ByteArray):¬ltB a a:=List.lt_irrefl _
theorem FU{a b c:ByteArray}(h:ltB a b)(d:ltB b c):ltB a c:=List.lt_trans h d
theorem VP{a b:ByteArray}(h:ltB a b)(c:ltB b a):False:=EQ a (FU h c)
theorem eqB{a b:ByteArray}(h:a.data.toList=b.data.toList):a=b:=by
 obtain⟨a⟩:=a;obtain⟨b⟩:=b;exact congrArg ByteArray.mk (Array.ext' h)
theorem OI(a b:ByteArray):ltB a b\/a=b\/ltB b a:=by
 by_cases h:a.data.toList<b.data.toList
 ·exact .inl h
 ·rcases List.le_iff_lt_or_eq.1 (List.not_lt.1 h)with h|h
  ·exact .inr (.inr h)
  ·exact .inr (.inl (eqB h).symm)
def Rs(l:List At):Prop:=l.Pairwise fun a b=>ltB a.1 b.1
def BJ(s:ByteArray):Int:=if¬VT s then 64 else if 1500<s.size then 67 else 0
def Mc(l:List At):Prop:=(∀a∈l,Cb a.1)/\Rs l
def valsE:List At->Int
 | []=>0
 |a::r=>if BJ a.2=0 then valsE r else BJ a.2
def Bh(x:NX):Int:=if¬Cb x.name then 63 else if¬Mc x.attrs then 63 else if 20<x.attrs.length then 67 else 0
def Ap(x:NX):Int:=
 if x.kind=2 then(if x.name=⟨#[]⟩/\x.attrs=[]then BJ x.text else 68)
 else if x.kind=1/\x.text=⟨#[]⟩then(if Bh x=0 then valsE x.attrs else Bh x)else 68
def BV(l:List It)(k:Nat)(x:It):Int:=
 if k=0/\(x.level≠0\/x.x.kind≠1)then 69
 else if 0<k/\(x.level<1\/∃y,l[k-1]? =some y/\(y.level+1<x.level\/(y.level<x.level/\y.x.kind=2)))then 69
 else if 40<=x.level then 42 else if 1000<=k then 43 else 0
def oneE(l:List It)(k:Nat)(x:It):Int:=if BV l k x=0 then Ap x.x else BV l k x
def EF(l:List It):Nat->List It->Nat×Int
 |_,[]=>(0,0)
 |k,x::r=>if oneE l k x=0 then EF l (k+1) r else(k,oneE l k x)
def DC(l:List It):Nat×Int:=if l=[]then(0,40)else EF l 0 l
theorem MH(l:List It):∀(r:List It)(k:Nat),(EF l k r).2=0↔∀(i:Nat)(x:It),r[i]? =some x->oneE l (k+i) x=0
 | [],k=>by simp[EF]
 |x::r,k=>by
  rw[EF];split
  ·rename_i h
   rw[MH l r (k+1)];constructor
   ·intro a i y b
    cases i with
    |zero=>cases b;exact h
    |succ i=>rw[show k+(i+1)=k+1+i by omega];exact a i y b
   ·intro a i y b
    rw[show k+1+i=k+(i+1) by omega];exact a (i+1) y b
  ·rename_i h
   constructor
   ·intro a;exact(h a).elim
   ·intro a;exact(h (a 0 x rfl)).elim
theorem Tv{x:NX}(h:Ap x=0):x.kind=1\/x.kind=2:=by
 rw[Ap]at h;split at h
 ·exact .inr (by assumption)
 ·split at h
  ·exact .inl (by rename_i a;exact a.1)
  ·cases h
def FOk:Fo->Prop
 |.nil=>True
 |.cons _ x k s=>Ap x=0/\(x.kind≠1->k=.nil)/\FOk k/\FOk s
def Nxt1(p r:Rw):Prop:=r.level<=p.level+1/\(p.x.kind≠1->r.level<=p.level)
def Adj:List Rw->Prop
 | []=>True
 | [_]=>True
 |p::r::t=>Nxt1 p r/\Adj (r::t)
theorem YV{p:Rw}{t:List Rw}(h:Adj (p::t)):Adj t:=by
 cases t with
 |nil=>trivial
 |cons r t=>exact h.2
theorem Ur:∀(X Y:List Rw),Adj (X++Y)->Adj X/\Adj Y
 | [],Y,h=>⟨trivial,h⟩
 | [x],Y,h=>⟨trivial,YV h⟩
 |x::y::X,Y,h=>by
  obtain⟨a,b⟩:=Ur (y::X) Y h.2;exact⟨⟨h.1,a⟩,b⟩
theorem YY:∀(X Y:List Rw),Adj X->Adj Y->(∀p r,X.getLast? =some p->Y.head? =some r->Nxt1 p r)->Adj (X++Y)
 | [],Y,_,h,_=>h
 | [x],[],_,_,_=>trivial
 | [x],y::Y,_,h,hj=>⟨hj x y rfl rfl,h⟩
 |x::y::X,Y,h,h',hj=>⟨h.1,YY (y::X) Y h.2 h' fun p r a b=>hj p r (by rw[<- a];exact List.getLast?_cons_cons) b⟩
theorem Pq:∀(L:List Rw)(u:Int),Adj L->(∀r,L.head? =some r->r.level<=u+1)->Steps u L
 | [],u,_,_=>trivial
 | [r],u,_,h=>⟨h r rfl,trivial⟩
 |p::r::t,u,h,h'=>⟨h' p rfl,Pq (r::t) p.level h.2 fun b a=>by cases a;exact h.1.1⟩
theorem KO:∀(F:Fo)(l:Int),FOk F->Adj (flat F l)
 |.nil,l,_=>trivial
 |.cons i x k s,l,h=>by
  obtain⟨n,c,d,f⟩:=h;rw[flat,<- cons_append];refine YY _ _ ?_ (KO s l f) fun p r g b=>?_
  ·cases hk:flat k (l+1)with
   |nil=>trivial
   |cons r t=>
    have b:=FP k (l+1) r (by rw[hk];rfl);refine⟨⟨?_,fun j=>?_⟩,?_⟩
    ·show r.level<=l+1;omega
    ·have:=c j
     subst this;cases hk
    ·rw[<- hk];exact KO k (l+1) d
  ·have e:=FP s l r b
   have m:l<=p.level:=by
    have a:=List.mem_of_getLast? g;rcases mem_cons.1 a with rfl|a
    ·exact Int.le_refl _
    ·have:=CO k (l+1) p a;omega
   exact⟨by omega,fun _=>by omega⟩
theorem Oi:∀(F:Fo)(l:Int),Adj (flat F l)->(∀r∈flat F l,Ap r.x=0)->FOk F
 |.nil,l,_,_=>trivial
 |.cons i x k s,l,h,hp=>by
  rw[flat]at h hp;obtain⟨a,c⟩:=Ur (_::flat k (l+1)) (flat s l) (by rw[cons_append];exact h);refine⟨hp _ (.head _),fun d=>?_,Oi k (l+1) (YV a) fun r b=>hp r (.tail _ (mem_append_left _ b)),Oi s l c fun r b=>hp r (.tail _ (mem_append_right _ b))⟩
  cases k with
  |nil=>rfl
  |cons j y f g=>
   rw[flat]at a;have e:=a.1.2 d;dsimp only at e;omega
theorem IW:∀(F:Fo)(l:Int),FOk F->∀r∈flat F l,Ap r.x=0
 |.nil,l,_,r,a=>by cases a
 |.cons i x k s,l,h,r,a=>by
  rw[flat]at a;rcases mem_cons.1 a with rfl|a
  ·exact h.1
  ·rcases mem_append.1 a with a|a
   ·exact IW k _ h.2.2.1 r a
   ·exact IW s _ h.2.2.2 r a
end
noncomputable section
open Classical
structure Tr where
 L:List Rw
 next:Int
structure OpP where
 kind:Int
 id:Int
 to:Int
 at_:Int
 name:ByteArray
 text:ByteArray
 l:List It
def Ar(n more:Int):List It->List Rw
 | []=>[]
 |x::r=>⟨n,x.level+more,x.x⟩::Ar (n+1) more r
theorem MG(more:Int):∀(l:List It)(n:Int),(Ar n more l).length=l.length
 | [],_=>rfl
 |x::r,n=>by rw[Ar,length_cons,length_cons,MG more r]
theorem EX(more:Int):∀(l:List It)(n:Int)(k:Nat),(Ar n more l)[k]? =(l[k]?).map fun x=>⟨n+k,x.level+more,x.x⟩
 | [],n,k=>by simp[Ar]
 |x::r,n,0=>by simp[Ar]
 |x::r,n,k+1=>by
  rw[Ar,List.getElem?_cons_succ,List.getElem?_cons_succ,EX more r (n+1) k];rw[show n+1+(k:Int)=n+((k+1:Nat):Int) by omega]
def atR(L:List Rw)(i:Int):Option (Nat×Rw):=match Fp L i with
 |some k=>(L[k]?).map fun r=>(k,r)
 |none=>none
def Ic:Option It->Int
 |none=>0
 |some y=>if y.x.kind=2 then y.level else y.level+1
def Ea:Option It->List It->Int
 |_,[]=>0
 |p,x::r=>if x.level<0\/Ic p<x.level then 69 else if Ap x.x=0 then Ea (some x) r else Ap x.x
def EI(l:List It):Int:=if l=[]then 40 else Ea none l
def KQ(d:Int):List It->Int
 | []=>d
 |x::r=>KQ (max d x.level) r
def deepest(l:List It):Int:=KQ 0 l
def Tr.load(T:Tr)(l:List It):Tr×Int×Int:=
 if(DC l).2≠0 then(T,0,(DC l).2)else if 2147483647<T.next+l.length then(T,0,66)
 else(⟨Ar T.next 0 l,T.next+l.length⟩,T.next,0)
def Tr.insert(T:Tr)(id at_:Int)(l:List It):Tr×Int×Int:=match atR T.L id with
 |none=>(T,0,60)
 |some (k,r)=>
  if r.x.kind≠1 then(T,0,68)else if at_<0\/((MX T.L k).length:Int)<at_ then(T,0,69)
  else if EI l≠0 then(T,0,EI l)else if 40<=r.level+1+deepest l then(T,0,65)
  else if 1000<T.L.length+l.length\/2147483647<T.next+l.length then(T,0,66)
  else(⟨VG T.L (TZ T.L k at_.toNat) (Ar T.next (r.level+1) l),T.next+l.length⟩,T.next,0)
def Tr.delete(T:Tr)(id:Int):Tr×Int:=match atR T.L id with
 |none=>(T,60)
 |some (k,_)=>if k=0 then(T,62)else(⟨CY T.L k,T.next⟩,0)
def Tr.move(T:Tr)(id to at_:Int):Tr×Int:=match atR T.L id,atR T.L to with
 |some (k,r),some (p,q)=>
  if k=0 then(T,62)else if q.x.kind≠1 then(T,68)else if k<=p/\p<endR T.L k then(T,61)
  else match Fp (CY T.L k) to with
   |none=>(T,60)
   |some p'=>
    if at_<0\/((MX (CY T.L k) p').length:Int)<at_ then(T,69)
    else if∃x∈LD (segR T.L k) (r.level-q.level-1),40<=x.level then(T,65)
    else(⟨VG (CY T.L k) (TZ (CY T.L k) p' at_.toNat) (LD (segR T.L k) (r.level-q.level-1)),T.next⟩,0)
 |_,_=>(T,60)
def EL:List At->At->List At
 | [],a=>[a]
 |x::r,a=>if ltB x.1 a.1 then x::EL r a else a::(x::r).filter fun y=> !decide (y.1=a.1)
def Ik(l:List At)(n:ByteArray):List At:=l.filter fun y=> !decide (y.1=n)
def setR(L:List Rw)(k:Nat)(r:Rw)(x:NX):List Rw:=L.set k {r with x:=x}
def Tr.Du(T:Tr)(id:Int)(a:At):Tr×Int:=match atR T.L id with
 |none=>(T,60)
 |some (k,r)=>
  if r.x.kind≠1 then(T,68)else if¬Cb a.1 then(T,63)else if BJ a.2≠0 then(T,BJ a.2)
  else if 20<(EL r.x.attrs a).length then(T,67)else(⟨setR T.L k r {r.x with attrs:=EL r.x.attrs a},T.next⟩,0)
def Tr.Ed(T:Tr)(id:Int)(n:ByteArray):Tr×Int:=match atR T.L id with
 |none=>(T,60)
 |some (k,r)=>
  if r.x.kind≠1 then(T,68)else if(Ik r.x.attrs n).length=r.x.attrs.length then(T,63)
  else(⟨setR T.L k r {r.x with attrs:=Ik r.x.attrs n},T.next⟩,0)
def Tr.Eu(T:Tr)(id:Int)(s:ByteArray):Tr×Int:=match atR T.L id with
 |none=>(T,60)
 |some (k,r)=>
  if r.x.kind≠2 then(T,68)else if BJ s≠0 then(T,BJ s)else(⟨setR T.L k r {r.x with text:=s},T.next⟩,0)
def Tr.edit(T:Tr)(o:OpP):Tr×Int×Int:=
 if o.kind=0 then T.load o.l else if o.kind=1 then T.insert o.id o.at_ o.l
 else if o.kind=2 then((T.delete o.id).1,0,(T.delete o.id).2)
 else if o.kind=3 then((T.move o.id o.to o.at_).1,0,(T.move o.id o.to o.at_).2)
 else if o.kind=4 then((T.Du o.id (o.name,o.text)).1,0,(T.Du o.id (o.name,o.text)).2)
 else if o.kind=5 then((T.Ed o.id o.name).1,0,(T.Ed o.id o.name).2)
 else if o.kind=6 then((T.Eu o.id o.text).1,0,(T.Eu o.id o.text).2)
 else(T,0,1)
structure BN(F:Fo)(T:Tr):Prop where
 fl:flat F 0=T.L
 ok:FOk F
 nodup:(ids F).Nodup
 one:F=.nil\/∃i x k,F=.cons i x k .nil/\x.kind=1
 deep:∀r∈T.L,r.level<40
 len:T.L.length<=1000
 pos:∀i∈ids F,1<=i/\i<T.next
 next:1<=T.next/\T.next<=2147483647
theorem good_new:BN .nil ⟨[],1⟩:=⟨rfl,trivial,.nil,.inl rfl,by simp,by simp,by simp[ids],by decide⟩
theorem WG(more:Int):∀(l:List It)(n:Int),(Ar n more l).map (·.id)=(List.range l.length).map fun(k:Nat)=>n+(k:Int)
 |l,n=>by
  apply ext_getElem?;intro k;rw[List.getElem?_map,EX,List.getElem?_map,Option.map_map];by_cases h:k<l.length
  ·rw[List.getElem?_eq_getElem h,List.getElem?_range h];rfl
  ·rw[List.getElem?_eq_none (by omega),List.getElem?_eq_none (by rw[List.length_range];omega)];rfl
theorem named_nodup(more:Int)(l:List It)(n:Int):((Ar n more l).map (·.id)).Nodup:=by
 rw[WG];refine List.pairwise_map.2 (List.nodup_range.imp fun h e=>h ?_);omega
theorem named_range{more:Int}{l:List It}{n i:Int}(h:i∈(Ar n more l).map (·.id)):n<=i/\i<n+l.length:=by
 rw[WG]at h;obtain⟨k,a,rfl⟩:=mem_map.1 h;have:=List.mem_range.1 a;omega
theorem Ri{l:List It}(h:(DC l).2=0){n:Int}(hn:1<=n)(Y:n+l.length<=2147483647):∃F,BN F ⟨Ar n 0 l,n+l.length⟩/\F≠.nil:=by
 have Z:l≠[]:=fun e=>by rw[DC,if_pos e]at h;cases h
 rw[DC,if_neg Z,MH]at h
 have K:∀(k:Nat)(x:It),l[k]? =some x->BV l k x=0/\Ap x.x=0:=fun k x b=>by
  have:=h k x b;rw[Nat.zero_add,oneE]at this;split at this
  ·exact⟨by assumption,this⟩
  ·exact absurd this (by assumption)
 have a:∀(k:Nat)(r:Rw),(Ar n 0 l)[k]? =some r->∃x,l[k]? =some x/\r=⟨n+k,x.level,x.x⟩:=fun k r d=>by
  rw[EX]at d;obtain⟨x,b,rfl⟩:=Option.map_eq_some_iff.1 d;exact⟨x,b,by rw[Int.add_zero]⟩
 have f:∀(k:Nat)(x:It),l[k]? =some x->x.level<40/\k<1000/\(k=0->x.level=0/\x.x.kind=1)/\∀y,0<k->l[k-1]? =some y->1<=x.level/\x.level<=y.level+1/\(y.x.kind=2->x.level<=y.level):=by
  intro k x b;have u:=(K k x b).1;rw[BV]at u;split at u
  ·cases u
  rename_i ha;split at u
  ·cases u
  rename_i M;split at u
  ·cases u
  split at u
  ·cases u
  refine⟨by omega,by omega,fun e=>?_,fun y N D=>?_⟩
  ·by_cases e1:x.level=0
   ·exact⟨e1,Classical.byContradiction fun e2=>ha ⟨e,.inr e2⟩⟩
   ·exact(ha ⟨e,.inl e1⟩).elim
  ·refine⟨Int.not_lt.1 fun e=>M ⟨N,.inl e⟩,Int.not_lt.1 fun e=>M ⟨N,.inr ⟨y,D,.inl e⟩⟩,fun w=>Int.not_lt.1 fun e=>M ⟨N,.inr ⟨y,D,.inr ⟨e,w⟩⟩⟩⟩
 have O:∀(m:Nat)(L:List Rw),(∀k r,L[k]? =some r->(Ar n 0 l)[m+k]? =some r)->Adj L:=by
  intro m L
  induction L generalizing m with
  |nil=>intro _;trivial
  |cons p t ih=>
   cases t with
   |nil=>intro _;trivial
   |cons r t=>
    intro R;refine⟨?_,ih (m+1) fun k r' T=>by rw[show m+1+k=m+(k+1) by omega];exact R (k+1) r' T⟩;obtain⟨y,D,rfl⟩:=a _ _ (R 0 p rfl);obtain⟨x,b,rfl⟩:=a _ _ (R 1 r rfl);obtain⟨_,_,_,h4⟩:=f _ _ b;obtain⟨h5,h6,h7⟩:=h4 y (by omega) (by rw[show m+1-1=m+0 by omega];exact D);refine⟨h6,fun w=>h7 ?_⟩;rcases Tv (K _ _ D).2 with e|e
    ·exact(w e).elim
    ·exact e
 have A:=O 0 _ fun k r d=>by rw[Nat.zero_add];exact d
 obtain⟨c,g,rfl⟩:=List.exists_cons_of_ne_nil Z;have U:=f 0 c rfl;obtain⟨e0,ek⟩:=U.2.2.1 rfl
 have G:∀r∈Ar n 0 (c::g),0<=r.level:=fun r d=>by
  obtain⟨k,w⟩:=List.getElem?_of_mem d;obtain⟨x,b,rfl⟩:=a k r w;rcases Nat.eq_zero_or_pos k with rfl|X
  ·cases b;show 0<=c.level;omega
  ·have C:=(List.getElem?_eq_some_iff.1 b).1
   have:=((f k x b).2.2.2 _ X (List.getElem?_eq_getElem (by omega))).1;show 0<=x.level;omega
 obtain⟨F,o⟩:=Io _ (Ar n 0 (c::g)) 0 (Nat.le_refl _) G (Pq _ _ A fun r d=>by
  obtain⟨x,b,rfl⟩:=a 0 r (by rw[List.head?_eq_getElem?]at d;exact d)
  cases b;show c.level<=_;omega)
 have B:ids F=(Ar n 0 (c::g)).map (·.id):=by rw[<- o,BH]
 have H:F≠.nil:=fun e=>by rw[e,flat,Ar]at o;cases o
 refine⟨F,⟨o,Oi F 0 (by rw[o];exact A) fun r d=>?_,by rw[B];exact named_nodup _ _ _,.inr ?_,fun r d=>?_,?_,fun i hi=>?_,?_⟩,H⟩
 ·rw[o]at d
  obtain⟨k,w⟩:=List.getElem?_of_mem d;obtain⟨x,b,rfl⟩:=a k r w;exact(K k x b).2
 ·cases F with
  |nil=>exact(H rfl).elim
  |cons i x k s=>
   have hs:s=.nil:=by
    cases s with
    |nil=>rfl
    |cons j y kk ss=>
     exfalso;rw[flat]at o;have Y:(⟨j,0,y⟩:Rw)∈flat k (0+1)++flat (.cons j y kk ss) 0:=mem_append_right _ (by rw[flat];exact .head _);obtain⟨q,hq⟩:=List.getElem?_of_mem Y
     have:(Ar n 0 (c::g))[q+1]? =some ⟨j,0,y⟩:=by rw[<- o,List.getElem?_cons_succ];exact hq
     obtain⟨z,J,e⟩:=a _ _ this;have C:=(List.getElem?_eq_some_iff.1 J).1;have h9:=((f _ z J).2.2.2 _ (by omega) (List.getElem?_eq_getElem (by omega))).1
     injection e with _ e2 _
     omega
   subst hs;refine⟨i,x,k,rfl,?_⟩;rw[flat]at o
   have:(Ar n 0 (c::g))[0]? =some ⟨i,0,x⟩:=by rw[<- o];rfl
   obtain⟨z,J,e⟩:=a _ _ this;cases J
   injection e with _ _ e3
   rw[e3];exact ek
 ·obtain⟨k,w⟩:=List.getElem?_of_mem (show r∈Ar n 0 (c::g)from d)
  obtain⟨x,b,rfl⟩:=a k r w;exact(f k x b).1
 ·show(Ar n 0 (c::g)).length<=1000
  rw[MG]
  have C:(c::g).length-1<(c::g).length:=by rw[length_cons];omega
  have:=(f _ _ (List.getElem?_eq_getElem C)).2.1;omega
 ·rw[B]at hi
  have:=named_range hi;show 1<=i/\i<n+((c::g).length:Int);omega
 ·show 1<=n+((c::g).length:Int)/\n+((c::g).length:Int)<=2147483647
  omega
end
noncomputable section
open Classical
theorem BN.at_{F:Fo}{T:Tr}(G:BN F T)(i:Int):(AZ F 0 i=none/\atR T.L i=none/\Fp T.L i=none)\/
  ∃q x k A B v,AZ F 0 i=some (q,x,k)/\Mid F 0 i 0 q x k A B v/\Fp T.L i=some A.length/\atR T.L i=some (A.length,⟨i,v,x⟩):=by
 cases h:AZ F 0 i with
 |none=>
  have c:Fp T.L i=none:=by
   rw[Fp,List.findIdx?_eq_none_iff];intro r d;rw[<- G.fl]at d
   have a:r.id∈ids F:=by rw[<- BH F 0];exact mem_map.2 ⟨r,d,rfl⟩
   have:r.id≠i:=fun e=>(Au F 0 i).2 (e▸a) h;simpa using this
  exact .inl ⟨rfl,by rw[atR,c],c⟩
 |some z=>
  obtain⟨q,x,k⟩:=z;obtain⟨A,B,v,a⟩:=Bo F 0 i 0 G.nodup h;have b:=a.find G.nodup;rw[G.fl]at b;have f:=a.here;rw[G.fl]at f;exact .inr ⟨q,x,k,A,B,v,rfl,a,b,by rw[atR,b];dsimp only;rw[f];rfl⟩
theorem Kv:∀(F:Fo)(p i:Int){q:Int}{x:NX}{k:Fo},FOk F->AZ F p i=some (q,x,k)->Ap x=0/\(x.kind≠1->k=.nil)/\FOk k
 |.nil,p,i,q,x,k,_,h=>by cases h
 |.cons j y kk s,p,i,q,x,k,hf,h=>by
  rw[AZ]at h;split at h
  ·cases h
   exact⟨hf.1,hf.2.1,hf.2.2.1⟩
  ·split at h
   ·rename_i r a
    cases h;exact Kv kk j i hf.2.2.1 a
   ·exact Kv s p i hf.2.2.2 h
theorem XX(i:Int):∀(F:Fo),FOk F->FOk (cutF i F)
 |.nil,_=>trivial
 |.cons j y k s,h=>by
  rw[cutF];split
  ·exact h.2.2.2
  ·exact⟨h.1,fun e=>by rw[h.2.1 e];rfl,XX i k h.2.2.1,XX i s h.2.2.2⟩
theorem bC:∀(F G:Fo),FOk F->FOk G->FOk (app F G)
 |.nil,G,_,h=>h
 |.cons i x k s,G,h,h'=>⟨h.1,h.2.1,h.2.2.1,bC s G h.2.2.2 h'⟩
theorem Zu:∀(n:Nat)(N F:Fo),FOk N->FOk F->FOk (putAt n N F)
 |0,N,F,h,h'=>bC N F h h'
 |n+1,N,.nil,h,_=>h
 |n+1,N,.cons i x k s,h,h'=>⟨h'.1,h'.2.1,h'.2.2.1,Zu n N s h h'.2.2.2⟩
theorem P6{f:Fo->Fo}(i:Int):∀(F:Fo)(p:Int){q:Int}{x:NX}{k:Fo},(ids F).Nodup->FOk F->AZ F p i=some (q,x,k)->x.kind=1->FOk (f k)->FOk (under i f F)
 |.nil,p,q,x,k,_,_,h,_,_=>by cases h
 |.cons j y kk s,p,q,x,k,hn,hf,h,hx,hk=>by
  rw[ids,nodup_cons,nodup_append]at hn;rw[AZ]at h;rw[under];split at h
  ·rename_i e
   cases h;rw[if_pos e];exact⟨hf.1,fun e=>(e hx).elim,hk,hf.2.2.2⟩
  ·rename_i e
   rw[if_neg e];split at h
   ·rename_i r a
    cases h;have b:i∈ids kk:=(Au kk j i).1 (by rw[a];simp);rw[Gi s fun h=>hn.2.2.2 i b i h rfl];exact⟨hf.1,fun e=>(by rw[hf.2.1 e]at a;cases a),P6 i kk j hn.2.1 hf.2.2.1 a hx hk,hf.2.2.2⟩
   ·rename_i a
    rw[Gi kk fun c=>(Au kk j i).2 c a];exact⟨hf.1,hf.2.1,hf.2.2.1,P6 i s p hn.2.2.1 hf.2.2.2 h hx hk⟩
theorem Su{f:NX->NX}(i:Int):∀(F:Fo)(p:Int){q:Int}{x:NX}{k:Fo},(ids F).Nodup->FOk F->AZ F p i=some (q,x,k)->(f x).kind=x.kind->Ap (f x)=0->FOk (D9 i f F)
 |.nil,p,q,x,k,_,_,h,_,_=>by cases h
 |.cons j y kk s,p,q,x,k,hn,hf,h,hx,hk=>by
  rw[ids,nodup_cons,nodup_append]at hn;rw[AZ]at h;rw[D9];split at h
  ·rename_i e
   cases h;rw[if_pos e];exact⟨hk,fun e=>hf.2.1 (by rw[<- hx];exact e),hf.2.2.1,hf.2.2.2⟩
  ·rename_i e
   rw[if_neg e];split at h
   ·rename_i r a
    cases h;have b:i∈ids kk:=(Au kk j i).1 (by rw[a];simp);rw[Ir s fun h=>hn.2.2.2 i b i h rfl];exact⟨hf.1,fun e=>(by rw[hf.2.1 e]at a;cases a),Su i kk j hn.2.1 hf.2.2.1 a hx hk,hf.2.2.2⟩
   ·rename_i a
    rw[Ir kk fun c=>(Au kk j i).2 c a];exact⟨hf.1,hf.2.1,hf.2.2.1,Su i s p hn.2.2.1 hf.2.2.2 h hx hk⟩
theorem UG:∀(l:List It)(p:Option It),Ea p l=0->∀(b n:Int),(∀r∈Ar n b l,b<=r.level/\Ap r.x=0)/\Adj (Ar n b l)/\(∀r,(Ar n b l).head? =some r->r.level<=Ic p+b)
 | [],p,_,b,n=>⟨by simp[Ar],trivial,by simp[Ar]⟩
 |x::r,p,h,b,n=>by
  rw[Ea]at h;split at h
  ·cases h
  rename_i f;split at h
  ·rename_i c
   obtain⟨j,m,o⟩:=UG r (some x) h b (n+1);rw[Ar];have t:0<=x.level/\x.level<=Ic p:=⟨Int.not_lt.1 fun e=>f (.inl e),Int.not_lt.1 fun e=>f (.inr e)⟩;refine⟨fun z a=>?_,?_,fun z a=>?_⟩
   ·rcases mem_cons.1 a with rfl|a
    ·exact⟨by show b<=x.level+b;omega,c⟩
    ·exact j z a
   ·cases r with
    |nil=>trivial
    |cons y r=>
     refine⟨?_,m⟩;have:=o _ rfl
     have g:Ic (some x)=if x.x.kind=2 then x.level else x.level+1:=rfl
     refine⟨?_,fun s=>?_⟩
     ·show y.level+b<=x.level+b+1
      dsimp only at this;rw[g]at this;split at this<;>omega
     ·show y.level+b<=x.level+b
      have d:x.x.kind=2:=(Tv c).resolve_left s;dsimp only at this;rw[g,if_pos d]at this;omega
   ·cases a
    show x.level+b<=_;omega
  ·rename_i c;exact(c h).elim
theorem UK:∀(l:List It)(d:Int),d<=KQ d l/\∀x∈l,x.level<=KQ d l
 | [],d=>⟨Int.le_refl _,by simp⟩
 |x::r,d=>by
  obtain⟨c,b⟩:=UK r (max d x.level);rw[KQ];refine⟨by omega,fun y a=>?_⟩;rcases mem_cons.1 a with rfl|a
  ·omega
  ·exact b y a
theorem forest_good{l:List It}(h:EI l=0)(b n:Int):∃N,flat N b=Ar n b l/\FOk N/\N≠.nil/\∀r∈flat N b,r.level<=b+deepest l:=by
 have d:l≠[]:=fun e=>by rw[EI,if_pos e]at h;cases h
 rw[EI,if_neg d]at h;obtain⟨f,g,m⟩:=UG l none h b n
 obtain⟨N,c⟩:=Io _ (Ar n b l) b (Nat.le_refl _) (fun r a=>(f r a).1) (Pq _ _ g fun r a=>by
  have:=m r a;have e:Ic none=0:=rfl
  omega)
 refine⟨N,c,Oi N b (by rw[c];exact g) (by rw[c];exact fun r a=>(f r a).2),fun e=>?_,fun r a=>?_⟩
 ·have:=congrArg List.length c
  rw[e,flat,MG]at this;exact d (eq_nil_of_length_eq_zero this.symm)
 ·rw[c]at a
  obtain⟨k,j⟩:=List.getElem?_of_mem a;rw[EX]at j;obtain⟨x,o,rfl⟩:=Option.map_eq_some_iff.1 j;have:=(UK l 0).2 x (mem_of_getElem? o);show x.level+b<=b+deepest l;rw[deepest];omega
section
variable{F:Fo}{T:Tr}{i q v:Int}{x:NX}{k:Fo}{A B:List Rw}
theorem BR(G:BN F T):(ids F).length=T.L.length:=by rw[<- G.fl,BM]
theorem one_of{F F':Fo}(h:F=.nil\/∃i x k,F=.cons i x k .nil/\x.kind=1)(f:Fo->Fo)(i:Int):under i f F=.nil\/∃j x k,under i f F=.cons j x k .nil/\x.kind=1:=by
 rcases h with rfl|⟨j,y,b,rfl,a⟩
 ·exact .inl rfl
 ·rw[under]
  split
  ·exact .inr ⟨_,_,_,rfl,a⟩
  ·exact .inr ⟨_,_,_,rfl,a⟩
theorem BN.put(G:BN F T)(h:AZ F 0 i=some (q,x,k))(m:Mid F 0 i 0 q x k A B v)(f:x.kind=1){n:Nat}(hn:n<=(tops k).length){N:Fo}(g:FOk N)(e:(ids N).Nodup)(l:∀j∈ids N,j∉ids F)
  (o:∀r∈flat N (v+1),r.level<40) (u:(ids N).length+T.L.length<=1000) {next:Int} (p:∀j∈ids N,1<=j/\j<next) (w:T.next<=next/\next<=2147483647):
  BN (under i (putAt n N) F) ⟨flat (under i (putAt n N) F) 0,next⟩:=by
 have s:=Kv F 0 i G.ok h;have c:=V3 G.nodup h hn N;have t:=G.next;refine⟨rfl,P6 i F 0 G.nodup G.ok h f (Zu n N k g s.2.2),under_nodup G.nodup h hn e l,one_of (F':=F) G.one _ _,fun r a=>?_,?_,fun j d=>?_,?_⟩
 ·have a:r∈flat (under i (putAt n N) F) 0:=a
  have b:∀r∈A++((⟨i,v,x⟩:Rw)::(flat k (v+1)++B)),r.level<40:=fun r a=>G.deep r (by rw[<- G.fl,m.fl];exact a);rw[m.un,Rn n N k (v+1) hn]at a;rcases mem_append.1 a with a|a
  ·exact b r (mem_append_left _ a)
  ·rcases mem_cons.1 a with rfl|a
   ·exact b _ (mem_append_right _ (.head _))
   ·rcases mem_append.1 a with a|a
    ·rcases mem_append.1 a with a|a
     ·rcases mem_append.1 a with a|a
      ·exact b r (mem_append_right _ (.tail _ (mem_append_left _ (List.mem_of_mem_take a))))
      ·exact o r a
     ·exact b r (mem_append_right _ (.tail _ (mem_append_left _ (List.mem_of_mem_drop a))))
    ·exact b r (mem_append_right _ (.tail _ (mem_append_right _ a)))
 ·show(flat _ 0).length<=1000
  have:=c.length_eq;rw[BM,this,length_append,BR G];omega
 ·have d:=c.mem_iff.1 d
  rcases mem_append.1 d with d|d
  ·exact p j d
  ·have:=G.pos j d
   show 1<=j/\j<next
   omega
 ·show 1<=next/\next<=2147483647
  omega
theorem BN.top0(G:BN F T)(m:Mid F 0 i 0 q x k A B v)(h:AZ F 0 i=some (q,x,k)):A.length=0↔i∈tops F:=by
 rcases G.one with e|⟨j,y,g,e,_⟩
 ·rw[e]at h;cases h
 ·have b:=m.find G.nodup
  rw[e]at b⊢;rw[flat,Fp,List.findIdx?_cons]at b;rw[tops,tops,mem_singleton];split at b
  ·rename_i a
   have a:j=i:=of_decide_eq_true a;have:=Option.some.inj b;exact⟨fun _=>a.symm,fun _=>this.symm⟩
  ·rename_i a
   have a:¬j=i:=fun e=>a (decide_eq_true e);refine⟨fun d=>?_,fun f=>(a f.symm).elim⟩;rw[d]at b;obtain⟨c,_,l⟩:=Option.map_eq_some_iff.1 b;omega
theorem BN.cut(G:BN F T)(h:AZ F 0 i=some (q,x,k))(m:Mid F 0 i 0 q x k A B v)(b:i∉tops F):BN (cutF i F) ⟨flat (cutF i F) 0,T.next⟩:=by
 refine⟨rfl,XX i F G.ok,m.cutNodup G.nodup,?_,fun r a=>?_,?_,fun j d=>?_,G.next⟩
 ·rcases G.one with e|⟨j,y,g,e,f⟩
  ·rw[e]at h;cases h
  ·rw[e]at b⊢
   rw[tops,tops,mem_singleton]at b;rw[cutF,if_neg (fun e=>b e.symm),cutF];exact .inr ⟨_,_,_,rfl,f⟩
 ·have a:r∈flat (cutF i F) 0:=a
  refine G.deep r ?_;rw[m.cu]at a;rw[<- G.fl,m.fl];rcases mem_append.1 a with h|h
  ·exact mem_append_left _ h
  ·exact mem_append_right _ (.tail _ (mem_append_right _ h))
 ·show(flat (cutF i F) 0).length<=1000
  have c:=G.len;rw[<- G.fl,m.fl]at c;rw[m.cu];simp only[length_append,length_cons]at c⊢;omega
 ·exact G.pos j ((m.Ui G.nodup j).1 d).1
theorem BN.turn(G:BN F T)(h:AZ F 0 i=some (q,x,k))(m:Mid F 0 i 0 q x k A B v){f:NX->NX}(d:(f x).kind=x.kind)(l:Ap (f x)=0):BN (D9 i f F) ⟨flat (D9 i f F) 0,T.next⟩:=by
 have a:=ids_turn G.nodup h f;refine⟨rfl,Su i F 0 G.nodup G.ok h d l,a.nodup_iff.2 G.nodup,?_,fun r b=>?_,?_,fun j n=>G.pos j (a.mem_iff.1 n),G.next⟩
 ·rcases G.one with e|⟨j,y,p,e,g⟩
  ·rw[e]at h;cases h
  ·rw[e]at h⊢
   rw[D9];split
   ·rename_i o
    rw[AZ,if_pos o]at h;cases h;exact .inr ⟨_,_,_,rfl,by rw[d];exact g⟩
   ·exact .inr ⟨_,_,_,rfl,g⟩
 ·have b:r∈flat (D9 i f F) 0:=b
  have c:∀r∈A++((⟨i,v,x⟩:Rw)::(flat k (v+1)++B)),r.level<40:=fun r b=>G.deep r (by rw[<- G.fl,m.fl];exact b);rw[m.tu]at b;rcases mem_append.1 b with b|b
  ·exact c r (mem_append_left _ b)
  ·rcases mem_cons.1 b with rfl|b
   ·have:=c _ (mem_append_right _ (.head _))
    exact this
   ·exact c r (mem_append_right _ (.tail _ b))
 ·show(flat (D9 i f F) 0).length<=1000
  rw[BM,a.length_eq,BR G];exact G.len
theorem Mid.setR(m:Mid F 0 i 0 q x k A B v)(f:NX->NX):Nod.setR (flat F 0) A.length ⟨i,v,x⟩ (f x)=flat (D9 i f F) 0:=by
 rw[Nod.setR,m.fl,m.tu,List.set_append_right _ _ (Nat.le_refl _),Nat.sub_self,List.set_cons_zero]
end
end
end Go.Nod
namespace Go.Vc
open Go
noncomputable section
def dec(p:Prop):Bool:= @decide p (Classical.propDecidable p)
theorem EJ{p:Prop}:dec p=true↔p:=by unfold dec;exact @decide_eq_true_iff p (Classical.propDecidable p)
theorem KC{p q:Prop}[Decidable p](h:p↔q):decide p=dec q:=by
 rw[Bool.eq_iff_iff,EJ,decide_eq_true_iff];exact h
theorem CZ{q:Prop}(h:q):true=dec q:=(EJ.2 h).symm
theorem Bf{q:Prop}(h:¬q):false=dec q:=by
 cases e:dec q with
 |false=>rfl
 |true=>exact(h (EJ.1 e)).elim
theorem not_dec_of{p q:Prop}[Decidable p](h:¬p↔q):(!decide p)=dec q:=by
 rw[Bool.eq_iff_iff,EJ,Bool.not_eq_true',decide_eq_false_iff_not];exact h
theorem br_d{p:Prop}{x y:Prop}(h1:p->x)(a:¬p->y):br (dec p) x y:=
 F6 (fun h=>h1 (EJ.1 h)) (fun h=>a fun b=>by rw[EJ.2 b]at h;cases h)
theorem F5{p:Prop}{x y:Prop}(h1:¬p->x)(a:p->y):br (!dec p) x y:=
 Gp (fun h=>h1 fun b=>by rw[EJ.2 b]at h;cases h) (fun h=>a (EJ.1 h))
end
theorem Zk{P:Program}{e n a:Nat}{cs vs:List Value}(A:Agg P e n)(h:(cs.drop a).take n=vs):Prt P e cs a (.agg vs.toArray):=by
 intro w;simp only[part,Sem.run_bind,Ho A.agg,Result.andThen_ok,if_true,Bl A.size,Sem.run_pure];congr 2;apply Array.toList_inj.1;rw[<- h];simp[Array.toList_extract,drop_take]
theorem Gu{z:Int}:inR .i32 z↔ -2147483648<=z/\z<=2147483647:=by
 simp[inR,IntKind.min,IntKind.max,IntKind.signed,IntKind.bits]
end Go.Vc
namespace Go.Proofs.YtljenkbpnioipaaGreat
open Go Go.Vc Go.Nod
theorem yI32:Scl Tryz.prog 21:=BK (by kernel_rfl)
theorem yInt:Scl Tryz.prog 3:=BK (by kernel_rfl)
theorem yU8:Scl Tryz.prog 5:=BK (by kernel_rfl)
theorem yStr:Scl Tryz.prog 9:=BK (by kernel_rfl)
theorem yFn:Scl Tryz.prog 269:=BK (by kernel_rfl)
theorem We:Agg Tryz.prog 315 2:=Ci (by kernel_rfl)
theorem eG:Agg Tryz.prog 317 30:=Ci (by kernel_rfl)
theorem fH:Elt Tryz.prog 159 5 1 1:=CW (by kernel_rfl)
theorem X5:Tryz.prog.underlying 9=some .string:=by kernel_rfl
theorem VQ:Tryz.prog.underlying 159=some (.slice 5):=by kernel_rfl
theorem Yx:Tryz.prog.underlying 5=some (.int .u8):=by kernel_rfl
theorem Vx(a b c:Int)(w:World):Calls Tryz.prog 238 #[.agg #[.int .i32 a,.int .i32 b],.int .i32 c] w fun e w'=>e=.returned (.bool (dec (a<=c/\c<=b)))/\Hp [] w w' []:=by
 apply yHas.ok;unfold yHas.vc;intro p g f;have H:=(Hp.start w).nw f;refine⟨_,H.lo yI32,AB (fun h=>⟨_,H.lo yI32,?_,H.drop⟩) (fun h=>⟨?_,H.drop⟩)⟩
 ·rw[KC (q:=a<=c/\c<=b) ⟨fun d=>⟨h,d⟩,fun d=>d.2⟩]
 ·rw[Bf (q:=a<=c/\c<=b) fun d=>h d.1]
def spC(l:List (Int×Int)):List Value:=l.flatMap fun p=>[.int .i32 p.1,.int .i32 p.2]
theorem ZR:∀(l:List (Int×Int))(k:Nat)(p:Int×Int),l[k]? =some p->((spC l).drop (k*2)).take 2=[.int .i32 p.1,.int .i32 p.2]
 |q::r,0,p,h=>by cases h;rfl
 |q::r,k+1,p,h=>by
  rw[show(k+1)*2=k*2+2 by omega,<- drop_drop];rw[show(spC (q::r)).drop (k*2)=(spC (q::r)).drop (k*2)from rfl,drop_drop,Nat.add_comm,<- drop_drop];exact ZR r k p h
def CE:List (Int×Int):=[(65,90),(95,95),(97,122),(192,214),(216,246),(248,767),(880,893),(895,8191),(8204,8205),(8304,8591),(11264,12271),(12289,55295),(63744,64975),(65008,65533),(65536,983039)]
def TT:List (Int×Int):=[(45,46),(48,57),(183,183),(768,879),(8255,8256)]
def inL(l:List (Int×Int))(c:Int):Prop:=∃p∈l,p.1<=c/\c<=p.2
theorem VJ{c:Int}:inL CE c↔Dc c:=by simp[inL,CE,Dc]
theorem UM{c:Int}:inL TT c\/Dc c↔GZ c:=by
 simp only[inL,TT,GZ,mem_cons,not_mem_nil,or_false,exists_eq_or_imp,exists_eq_left];constructor
 ·rintro((h|h|h|h|h)|h)
  ·exact .inl h
  ·exact .inr (.inl h)
  ·exact .inr (.inr (.inl h))
  ·exact .inr (.inr (.inr (.inl h)))
  ·exact .inr (.inr (.inr (.inr (.inl h))))
  ·exact .inr (.inr (.inr (.inr (.inr h))))
 ·rintro(h|h|h|h|h|h)
  ·exact .inl (.inl h)
  ·exact .inl (.inr (.inl h))
  ·exact .inl (.inr (.inr (.inl h)))
  ·exact .inl (.inr (.inr (.inr (.inl h))))
  ·exact .inl (.inr (.inr (.inr (.inr h))))
  ·exact .inr h
theorem yStarts_spec(w:World):Calls Tryz.prog 239 #[] w fun e w'=>e=.returned (.agg (spC CE).toArray)/\Hp [] w w' []:=by
 apply yStarts.ok;unfold yStarts.vc;intro p b a;have H:=(Hp.start w).new (cs:=List.replicate 30 (.int .i32 0)) EQ4 a;refine Hp.sA H eG (cs':=spC CE) fun c H=>?_;exact⟨spC CE,H.loA eG,rfl,H.drop⟩
theorem QT(c:Int)(w:World):Calls Tryz.prog 187 #[.int .i32 c] w fun e w'=>e=.returned (.bool (dec (Dc c)))/\Hp [] w w' []:=by
 apply yStart.ok;unfold yStart.vc;refine AC (yStarts_spec w) ?_;rintro _ x ⟨rfl,H⟩;refine⟨spC CE,rfl,?_⟩;refine AP.mk (fun m s w'=>∃k:Nat,m=15-k/\k<=15/\s=(k:Int)/\Hp [] w w' []/\∀(j:Nat)(p:Int×Int),j<k->CE[j]? =some p->¬(p.1<=c/\c<=p.2)) 15 ⟨0,rfl,by omega,rfl,H,fun j p i=>by omega⟩ ?_
 rintro m s y next ⟨k,rfl,z,rfl,H,d⟩ a
 refine AB (fun h=>?_) (fun h=>?_)
 ·have l:k<CE.length:=by show k<15;omega
  obtain⟨p,f⟩:∃p,CE[k]? =some p:=⟨_,List.getElem?_eq_getElem l⟩;refine⟨⟨by omega,by omega⟩,p.1,p.2,Zk We (vs:=[.int .i32 p.1,.int .i32 p.2]) (by rw[Int.toNat_natCast];exact ZR CE k p f),?_⟩;intro b A o;replace H:=H.nw o;refine Hp.sA H We (cs':=[.int .i32 p.1,.int .i32 p.2]) fun B H=>?_;refine⟨p.1,p.2,H.ldA (vs:=[.int .i32 p.1,.int .i32 p.2]) EQ4 We (.head _) rfl rfl,AC (Vx _ _ _ _) ?_⟩;rintro _ C ⟨rfl,r⟩;replace H:=H.ext0 r;refine⟨_,rfl,br_d (fun g=>⟨?_,H.drop⟩) (fun g=>⟨iR,a _ _ _ ?_ ⟨k+1,rfl,by omega,by omega,H.drop,fun j q i n=>?_⟩⟩)⟩
  ·rw[CZ (VJ.1 ⟨p,mem_of_getElem? f,g⟩)]
  ·omega
  ·by_cases e:j=k
   ·subst e;rw[f]at n;cases n;exact g
   ·exact d j q (by omega) n
 ·refine⟨?_,H⟩
  rw[Bf fun g=>?_];obtain⟨p,f,t⟩:=VJ.2 g;obtain⟨j,i⟩:=List.getElem?_of_mem f;have u:=(List.getElem?_eq_some_iff.1 i).1;have:CE.length=15:=rfl;exact d j p (by omega) i t
theorem yPart_spec(c:Int)(w:World):Calls Tryz.prog 186 #[.int .i32 c] w fun e w'=>e=.returned (.bool (dec (GZ c)))/\Hp [] w w' []:=by
 apply yPart.ok;unfold yPart.vc;refine AP.mk (fun m s w'=>∃k:Nat,m=5-k/\k<=5/\s=(k:Int)/\Hp [] w w' []/\∀(j:Nat)(p:Int×Int),j<k->TT[j]? =some p->¬(p.1<=c/\c<=p.2)) 5 ⟨0,rfl,by omega,rfl,Hp.start w,fun j p g=>by omega⟩ ?_
 rintro m s r next ⟨k,rfl,z,rfl,H,d⟩ a
 refine AB (fun h=>?_) (fun h=>?_)
 ·have i:k<TT.length:=by show k<5;omega
  obtain⟨p,f⟩:∃p,TT[k]? =some p:=⟨_,List.getElem?_eq_getElem i⟩;refine⟨⟨by omega,by omega⟩,p.1,p.2,Zk We (vs:=[.int .i32 p.1,.int .i32 p.2]) (by rw[Int.toNat_natCast];exact ZR TT k p f),?_⟩;intro b t u;replace H:=H.nw u;refine Hp.sA H We (cs':=[.int .i32 p.1,.int .i32 p.2]) fun A H=>?_;refine⟨p.1,p.2,H.ldA (vs:=[.int .i32 p.1,.int .i32 p.2]) EQ4 We (.head _) rfl rfl,AC (Vx _ _ _ _) ?_⟩;rintro _ B ⟨rfl,l⟩;replace H:=H.ext0 l;refine⟨_,rfl,br_d (fun n=>⟨?_,H.drop⟩) (fun n=>⟨iR,a _ _ _ ?_ ⟨k+1,rfl,by omega,by omega,H.drop,fun j q g o=>?_⟩⟩)⟩
  ·rw[CZ (UM.1 (.inl ⟨p,mem_of_getElem? f,n⟩))]
  ·omega
  ·by_cases e:j=k
   ·subst e;rw[f]at o;cases o;exact n
   ·exact d j q (by omega) o
 ·refine AC (QT c r) ?_
  rintro _ t ⟨rfl,l⟩;refine⟨_,rfl,?_,H.ext0 l⟩;rw[Ending.returned.injEq,Value.bool.injEq,Bool.eq_iff_iff,EJ,EJ];refine⟨fun h=>UM.1 (.inr h),fun h=>(UM.2 h).resolve_left ?_⟩;rintro⟨p,f,x⟩;obtain⟨j,g⟩:=List.getElem?_of_mem f;have y:=(List.getElem?_eq_some_iff.1 g).1;have:TT.length=5:=rfl;exact d j p (by omega) g x
theorem yChar_spec(c:Int)(w:World):Calls Tryz.prog 302 #[.int .i32 c] w fun e w'=>e=.returned (.bool (dec (Bj c)))/\Hp [] w w' []:=by
 apply yChar.ok;unfold yChar.vc;have t:Bj c->Ending.returned (.bool true)=.returned (.bool (dec (Bj c)))/\Hp [] w w []:=fun h=>⟨by rw[<- CZ h],Hp.start w⟩;have f:¬Bj c->Ending.returned (.bool false)=.returned (.bool (dec (Bj c)))/\Hp [] w w []:=fun h=>⟨by rw[<- Bf h],Hp.start w⟩;have d:∀{p:Prop} [Decidable p],(p↔Bj c)->Ending.returned (.bool (decide p))=.returned (.bool (dec (Bj c)))/\Hp [] w w []:=fun h=>⟨by rw[KC h],Hp.start w⟩;unfold Bj at*;refine AB (fun h=>AB (fun a=>t (by omega)) (fun a=>AB (fun b=>t (by omega)) (fun b=>d (by omega)))) (fun h=>?_);refine AB (fun a=>t (by omega)) (fun a=>AB (fun b=>f (by omega)) (fun b=>AB (fun g=>t (by omega)) (fun g=>AB (fun i=>d (by omega)) (fun i=>f (by omega)))))
theorem FH{z:Int}(h: -2147483648<=z/\z<=2147483647):IntKind.i32.wrap z=z:=LM (Gu.2 h)
theorem cont_byte:∀y:Fin 256,Vc.bits .or .u8 128 (Vc.bits .and .u8 (y.val:Int) 63)=128+(y.val:Int)%64:=by decide+kernel
theorem and_63:∀y:Fin 256,Vc.bits .and .u8 (y.val:Int) 63=(y.val:Int)%64:=by decide+kernel
theorem and_31:∀y:Fin 256,Vc.bits .and .u8 (y.val:Int) 31=(y.val:Int)%32:=by decide+kernel
theorem and_15:∀y:Fin 256,Vc.bits .and .u8 (y.val:Int) 15=(y.val:Int)%16:=by decide+kernel
theorem and_7:∀y:Fin 256,Vc.bits .and .u8 (y.val:Int) 7=(y.val:Int)%8:=by decide+kernel
theorem and_192:∀y:Fin 256,(Vc.bits .and .u8 (y.val:Int) 192=128)↔(128<=y.val/\y.val<192):=by decide+kernel
theorem or_0:∀y:Fin 128,Vc.bits .or .u8 0 (y.val:Int)=(y.val:Int):=by decide+kernel
theorem or_192:∀y:Fin 32,Vc.bits .or .u8 192 (y.val:Int)=192+(y.val:Int):=by decide+kernel
theorem or_224:∀y:Fin 16,Vc.bits .or .u8 224 (y.val:Int)=224+(y.val:Int):=by decide+kernel
theorem or_240:∀y:Fin 8,Vc.bits .or .u8 240 (y.val:Int)=240+(y.val:Int):=by decide+kernel
theorem Na{n:Nat}{z:Int}(h:0<=z)(a:z<n):∃y:Fin n,z=(y.val:Int):=⟨⟨z.toNat,by omega⟩,by dsimp only;omega⟩
theorem or_six(c y:Nat)(hc:c<33554432)(d:y<64):Vc.bits .or .i32 ((c:Int)*64) (y:Int)=((c*64+y:Nat):Int):=by
 show IntKind.i32.wrap ((BitVec.ofInt 32 ((c:Int)*64)|||BitVec.ofInt 32 (y:Int)).toNat:Int)=_;rw[BitVec.toNat_or,BitVec.toNat_ofInt,BitVec.toNat_ofInt]
 have a:(((c:Int)*64)%((2^32:Nat):Int)).toNat=c<<<6:=by rw[Nat.shiftLeft_eq];omega
 have b:((y:Int)%((2^32:Nat):Int)).toNat=y:=by omega
 rw[a,b,<- Nat.shiftLeft_add_eq_or_of_lt (by omega),Nat.shiftLeft_eq];exact FH (by omega)
def sixB(c:Int)(k:Nat):UInt8:=u8 (128+c/64^k%64)
theorem Oj(c:Int)(k:Nat)(h:k<=5){j:Int}(a:j=k):Int.fdiv c ((2:Int)^min (Int.toNat (6*j)) (IntKind.bits IntKind.i32))=c/64^k:=by
 subst a
 have b:Int.toNat ((6:Int)*(k:Int))=6*k:=by omega
 have d:min (6*k) (IntKind.bits IntKind.i32)=6*k:=by simp only[IntKind.bits];omega
 rw[b,d,Int.fdiv_eq_ediv_of_nonneg _ (Int.le_of_lt (Int.pow_pos (by omega))),Int.pow_mul];rfl
theorem six_byte(c:Int)(k:Nat)(h:k<=5){j:Int}(a:j=k):Vc.bits .or .u8 128 (Vc.bits .and .u8 (IntKind.u8.wrap (Int.fdiv c ((2:Int)^min (Int.toNat (6*j)) (IntKind.bits IntKind.i32)))) 63)=((sixB c k).toNat:Int):=by
 rw[Oj c k h a,FM];obtain⟨y,b⟩:=Na (n:=256) (z:=c/64^k%256) (by omega) (by omega);rw[b,cont_byte,sixB,Gn (by omega) (by omega)];omega
theorem yLaid_spec(c d:Int)(many:Nat)(f:UInt8)(u:1<=many)(o:many<=4)(w:World)
  (p:Vc.bits .or .u8 d (IntKind.u8.wrap (Int.fdiv c ((2:Int)^min (Int.toNat (6*((many:Int)-1))) (IntKind.bits IntKind.i32))))=(f.toNat:Int)):
  Calls Tryz.prog 303 #[.int .i32 c,.int .u8 d,.int .i64 (many:Int)] w fun e w'=>e=.returned (sv (f::(List.range (many-1)).map fun j=>sixB c (many-2-j)))/\Hp [] w w' []:=by
 apply yLaid.ok;unfold yLaid.vc;refine⟨iR,iR,by omega,fun b x i=>?_⟩;rw[p]at i;have H:=((Hp.start w).nw i).eY 1 1 rfl (by simp[maxLen]);refine⟨iR,?_⟩
 refine AP.mk (fun m s w'=>∃(k:Nat)(a:Option Addr)(l:Nat),m=many-1-k/\k<=many-1/\s=((a,k+1,l),(many:Int)-2-(k:Int))/\
  Hp [] w w' [.own 5 1 a (k+1) l (Aa (f::(List.range k).map fun j=>sixB c (many-2-j)))]) (many-1) ⟨0,_,_,by omega,by omega,by simp,H⟩ ?_
 clear H
 rintro m s y next ⟨k,a,l,rfl,z,rfl,H⟩ g
 dsimp only;refine AB (fun h=>?_) (fun h=>?_)
 ·refine⟨iR,by omega,fun A B i=>?_⟩
  rw[six_byte c (many-2-k) (by omega) (by omega)]at i;replace H:=H.nw i;have q:=H.Ae;refine Hp.app fH (by omega) q EQ4 (Blk.src (P:=Tryz.prog) VQ (H.blk (.head _)) rfl rfl) (by simp only[maxLen];omega) (by omega) ?_;intro r t C H;refine⟨iR,g (many-1-(k+1)) _ _ (by omega) ⟨k+1,r,t,rfl,by omega,?_,?_⟩⟩
  ·have:(many:Int)-2-(k:Int)-1=(many:Int)-2-((k+1:Nat):Int):=by omega
   rw[this]
  ·rw[range_succ,map_append]
   have e:Aa (f::((List.range k).map (fun j=>sixB c (many-2-j))++[k].map fun j=>sixB c (many-2-j)))=Aa (f::(List.range k).map fun j=>sixB c (many-2-j))++[.int .u8 ((sixB c (many-2-k)).toNat:Int)]:=by
    rw[<- cons_append,CS];rfl
   rw[e];exact H.del1
 ·have n:k=many-1:=by omega
  subst n;refine⟨⟨(f::(List.range (many-1)).map fun j=>sixB c (many-2-j)).toArray⟩,b2s VQ Yx X5 ?_ ?_,rfl,H.drop⟩
  ·rw[CQ];exact(H.ownA (.head _)).cells
  ·rw[GX];simp
theorem yPut_spec(c:Int)(w:World):Calls Tryz.prog 274 #[.int .i32 c] w fun e w'=>((Bj c/\e=.returned (.tuple #[sv (encP c),.bool true]))\/(¬Bj c/\e=.returned (.tuple #[sv [],.bool false])))/\Hp [] w w' []:=by
 apply yPut.ok;unfold yPut.vc;refine AC (yChar_spec c w) ?_;rintro _ m ⟨rfl,H⟩;refine⟨_,rfl,F5 (fun h=>⟨.inr ⟨h,rfl⟩,H⟩) (fun h=>?_)⟩
 have t:0<=c/\c<=1114111:=by unfold Bj at h;omega
 have d:∀(f:UInt8)(a:Nat)(b:Int),1<=a->a<=4->encP c=(f::(List.range (a-1)).map fun j=>sixB c (a-2-j))->
   Vc.bits .or .u8 b (IntKind.u8.wrap (Int.fdiv c ((2:Int)^min (Int.toNat (6*((a:Int)-1))) (IntKind.bits IntKind.i32))))=(f.toNat:Int)->
   BL Tryz.prog 303 [.int .i32 c,.int .u8 b,.int .i64 (a:Int)] m fun e w'=>∃s,e=.returned (.string s)/\(((Bj c/\Ending.returned (.tuple #[.string s,.bool true])=.returned (.tuple #[sv (encP c),.bool true]))\/(¬Bj c/\Ending.returned (.tuple #[.string s,.bool true])=.returned (.tuple #[sv [],.bool false])))/\Hp [] w w' []):=by
  intro f a b g o p q;refine AC (yLaid_spec c b a f g o m q) ?_;rintro _ u ⟨rfl,r⟩;exact⟨_,rfl,.inl ⟨h,by rw[p];rfl⟩,H.ext0 r⟩
 refine AB (fun g=>?_) (fun g=>AB (fun k=>?_) (fun k=>AB (fun l=>?_) (fun l=>?_)))
 ·refine d (u8 c) 1 0 (by omega) (by omega) (by rw[encP,if_pos g];rfl) ?_
  rw[Oj (j:=((1:Nat):Int)-1) c 0 (by omega) (by omega),FM];obtain⟨y,i⟩:=Na (n:=128) (z:=c) (by omega) (by omega)
  have e:c/64^0%256=(y.val:Int):=by rw[Int.pow_zero];omega
  rw[e,or_0,Gn (by omega) (by omega),i]
 ·refine d (u8 (192+c/64)) 2 192 (by omega) (by omega) (by rw[encP,if_neg g,if_pos k];simp[range_succ,sixB]) ?_
  rw[Oj (j:=((2:Nat):Int)-1) c 1 (by omega) (by omega),FM];obtain⟨y,i⟩:=Na (n:=32) (z:=c/64) (by omega) (by omega)
  have e:c/64^1%256=(y.val:Int):=by rw[Int.pow_succ,Int.pow_zero];omega
  rw[e,or_192,Gn (by omega) (by omega),i]
 ·refine d (u8 (224+c/4096)) 3 224 (by omega) (by omega) (by rw[encP,if_neg g,if_neg k,if_pos l];simp[range_succ,sixB]) ?_
  rw[Oj (j:=((3:Nat):Int)-1) c 2 (by omega) (by omega),FM];obtain⟨y,i⟩:=Na (n:=16) (z:=c/4096) (by omega) (by omega)
  have e:c/64^2%256=(y.val:Int):=by rw[show(64:Int)^2=4096 by decide];omega
  rw[e,or_224,Gn (by omega) (by omega),i]
 ·refine d (u8 (240+c/262144)) 4 240 (by omega) (by omega) (by rw[encP,if_neg g,if_neg k,if_neg l];simp[range_succ,sixB]) ?_
  rw[Oj (j:=((4:Nat):Int)-1) c 3 (by omega) (by omega),FM];obtain⟨y,i⟩:=Na (n:=8) (z:=c/262144) (by omega) (by omega)
  have e:c/64^3%256=(y.val:Int):=by rw[show(64:Int)^3=262144 by decide];omega
  rw[e,or_240,Gn (by omega) (by omega),i]
theorem yHead_spec(x:UInt8)(w:World):Calls Tryz.prog 273 #[.int .u8 (x.toNat:Int)] w fun e w'=>e=.returned (.tuple #[.int .i64 ((Ce x.toNat).1:Int),.int .i32 (Ce x.toNat).2])/\Hp [] w w' []:=by
 apply yHead.ok;unfold yHead.vc;have l:=x.toNat_lt;obtain⟨y,d⟩:=Na (n:=256) (z:=(x.toNat:Int)) (by omega) (by omega)
 have c:∀{a b:Int},Ce x.toNat=(a.toNat,b)->0<=a->Ending.returned (.tuple #[.int .i64 a,.int .i32 b])=.returned (.tuple #[.int .i64 ((Ce x.toNat).1:Int),.int .i32 (Ce x.toNat).2])/\Hp [] w w []:=fun h f=>by
  rw[h,Int.toNat_of_nonneg f];exact⟨rfl,Hp.start w⟩
 refine AB (fun h=>?_) (fun h=>AB (fun g=>?_) (fun g=>AB (fun i=>?_) (fun i=>AB (fun j=>?_) (fun j=>AB (fun k=>?_) (fun k=>?_)))))
 ·refine c ?_ (by omega)
  rw[Ce,if_pos (by omega),FH (by omega)];rfl
 ·refine c ?_ (by omega)
  rw[Ce,if_neg (by omega),if_pos (by omega)];rfl
 ·refine c ?_ (by omega)
  rw[Ce,if_neg (by omega),if_neg (by omega),if_pos (by omega),d,and_31,FH (by omega)];rfl
 ·refine c ?_ (by omega)
  rw[Ce,if_neg (by omega),if_neg (by omega),if_neg (by omega),if_pos (by omega),d,and_15,FH (by omega)];rfl
 ·refine c ?_ (by omega)
  rw[Ce,if_neg (by omega),if_neg (by omega),if_neg (by omega),if_neg (by omega),if_pos (by omega),d,and_7,FH (by omega)];rfl
 ·refine c ?_ (by omega)
  rw[Ce,if_neg (by omega),if_neg (by omega),if_neg (by omega),if_neg (by omega),if_neg (by omega)];rfl
theorem NU(c:Int)(l:List UInt8)(x:UInt8):Ep c (l++[x])=Ep c l*64+(x.toNat:Int)%64:=by simp[Ep]
theorem headN_le(x:Nat):(Ce x).1<=4/\0<=(Ce x).2/\((Ce x).1≠1->(Ce x).2<32):=by
 unfold Ce
 repeat' split
 all_goals exact⟨by dsimp only;omega,by dsimp only;omega,by dsimp only;omega⟩
theorem XV{c:Int}(h:Dec [] c):False:=by
 have:=Jl h.1;have a:=h.2.length_le;rw[length_nil]at a;omega
def au(l:List UInt8)(e:Ending):Prop:=
 (∃c,Dec l c/\e=.returned (.tuple #[.int .i32 c,.int .i64 ((encP c).length:Int)]))\/((∀c,¬Dec l c)/\∃z,e=.returned (.tuple #[.int .i32 z,.int .i64 0]))
theorem BF(s:ByteArray):s.data.toList.length=s.size:=by rw[Array.length_toList];rfl
theorem Em{s:ByteArray}:s=⟨#[]⟩↔s.data.toList=[]:=by
 constructor
 ·rintro rfl;rfl
 ·intro h;exact eqB h
theorem Jh(s:ByteArray)(i j:Nat):(s.extract i j).data.toList=(s.data.toList.take j).drop i:=by
 have:=XM s.data.toList i j;rw[<- aO]at this;rw[this]
theorem yNext_spec(s:ByteArray)(hs:s.size<=maxLen)(w:World):Calls Tryz.prog 237 #[.string s] w fun e w'=>au s.data.toList e/\Hp [] w w' []:=by
 apply yNext.ok;unfold yNext.vc
 obtain⟨l,p⟩:∃l,l=s.data.toList:=⟨_,rfl⟩
 have M:l.length=s.size:=by rw[p];exact BF s
 simp only[maxLen]at hs
 rw[<- p]
 have f:∀(z:Int)(w':World),(∀c,¬Dec l c)->Hp [] w w' []->au l (.returned (.tuple #[.int .i32 z,.int .i64 0]))/\Hp [] w w' []:=fun z w' h H=>⟨.inr ⟨h,z,rfl⟩,H⟩
 refine AB (fun h=>?_) (fun h=>?_)
 ·refine f 0 w (fun c d=>?_) (Hp.start w)
  rw[p,Em.1 h]at d;exact XV d
 have N:l≠[]:=fun e=>h (Em.2 (by rw[<- p];exact e))
 obtain⟨x,t,O⟩:=List.exists_cons_of_ne_nil N
 have R:sb s 0=(x.toNat:Int):=by
  have:s.data.toList[(0:Int).toNat]? =some x:=by rw[<- p,O];rfl
  rw[sb,this];rfl
 have ah:0<s.size:=by rw[<- M,O];simp
 have F:l.headD 0=x:=by rw[O];rfl
 refine⟨⟨by omega,by omega⟩,?_⟩
 rw[R]
 refine AC (yHead_spec x w) ?_
 rintro _ w1 ⟨rfl,H⟩
 obtain⟨ak,U,X⟩:=headN_le x.toNat
 have g:∀c,Dec l c->(Ce x.toNat).1=(encP c).length/\(encP c).length<=l.length/\KD l=c/\∀y∈(l.take (Ce x.toNat).1).drop 1,128<=y.toNat/\y.toNat<192:=fun c d=>by
  have:=d.next
  rwa [F]at this
 generalize hn:(Ce x.toNat).1=n at*
 generalize Y:(Ce x.toNat).2=c0 at*
 refine⟨_,_,rfl,AB (fun h1=>?_) (fun h1=>AB (fun h2=>?_) (fun h2=>?_))⟩
 ·refine f _ _ (fun c d=>?_) H
  have:=(g c d).1
  have:=Jl d.1
  omega
 ·refine f _ _ (fun c d=>?_) H
  have:=g c d
  omega
 refine⟨⟨by omega,by omega,by omega⟩,?_⟩
 have e1:Int.toNat 1=1:=rfl
 have e2:Int.toNat (n:Int)=n:=Int.toNat_natCast n
 rw[e1,e2]
 obtain⟨T,L⟩:∃T,T=(l.take n).drop 1:=⟨_,rfl⟩
 have Z:T.length=n-1:=by rw[L,List.length_drop,length_take];omega
 have G:(s.extract 1 n).data.toList=T:=by rw[Jh,L,p]
 have q:(s.extract 1 n).size=n-1:=by rw[<- BF,G,Z]
 refine Hp.s2b H EQ4 X5 VQ Yx (by rw[q];simp only[maxLen];omega) ?_
 intro a cc w2 H
 rw[Gz,G,q]at H
 rw[q]
 refine AP.mk (fun m st w'=>∃k:Nat,m=n-1-k/\k<=n-1/\st=(Ep c0 (T.take k),(k:Int))/\(∀y∈T.take k,128<=y.toNat/\y.toNat<192)/\(0<=Ep c0 (T.take k)/\(n≠1->Ep c0 (T.take k)<32*64^k))/\Hp [] w w' [.own 5 1 a (n-1) cc (Aa T)]) (n-1)
  ⟨0,by omega,by omega,rfl,by simp,⟨U,fun h=>by have:=X h;rw[Int.pow_zero];exact this⟩,H⟩ ?_
 clear H
 rintro m st w3 next ⟨k,rfl,hk,rfl,r,⟨aa,ab⟩,H⟩ u
 dsimp only
 refine AB (fun h3=>?_) (fun h3=>?_)
 ·have A:k<T.length:=by omega
  obtain⟨ad,ha,ac⟩:=H.ldO (w':=w3) (o:=k) (v:=.int .u8 (T[k].toNat:Int)) EQ4 yU8 (.head _) (by simp[Aa,A])
  refine AA ha ⟨⟨by omega,h3⟩,(T[k].toNat:Int),by rw[Int.toNat_natCast,Nat.mul_one];exact ac,?_⟩
  have al:=T[k].toNat_lt
  obtain⟨y,hy⟩:=Na (n:=256) (z:=(T[k].toNat:Int)) (by omega) (by omega)
  have i:=and_192 y
  have J:=and_63 y
  rw[<- hy]at i J
  have j:T.take (k+1)=T.take k++[T[k]]:=List.take_succ_eq_append_getElem A
  refine AV (fun h4=>?_) (fun h4=>?_)
  ·refine f _ _ (fun c d=>h4 (i.2 ?_)) H.drop
   have:=(g c d).2.2.2 T[k] (by rw[<- L];exact List.getElem_mem A)
   omega
  ·have am:=i.1 h4
   have ae:n≠1:=by omega
   have hb:=ab ae
   have an:k<=2:=by omega
   have ao:Ep c0 (T.take k)<131072:=by
    have ap:(64:Int)^k<=4096:=by
     have h:k=0\/k=1\/k=2:=by omega
     rcases h with e|e|e<;>rw[e]<;>decide
    omega
   have e6:(2:Int)^min (Int.toNat 6) (IntKind.bits .i32)=64:=by decide
   rw[e6]
   refine⟨by omega,Gu.2 (by omega),DD.2 (by omega),?_⟩
   have B:=or_six (Ep c0 (T.take k)).toNat (T[k].toNat%64) (by omega) (by omega)
   have e7:Vc.bits .or .i32 (Ep c0 (T.take k)*64) (IntKind.i32.wrap (Vc.bits .and .u8 (T[k].toNat:Int) 63))=Ep c0 (T.take (k+1)):=by
    rw[J,FH (by omega),j,NU]
    have e8:((Ep c0 (T.take k)).toNat:Int)=Ep c0 (T.take k):=Int.toNat_of_nonneg aa
    rw[e8]at B
    have e9:((T[k].toNat%64:Nat):Int)=(T[k].toNat:Int)%64:=by omega
    rw[e9]at B
    rw[B];omega
   rw[e7]
   refine u (n-1-(k+1)) _ _ (by omega) ⟨k+1,rfl,by omega,by rw[show(k:Int)+1=((k+1:Nat):Int) by omega],?_,⟨?_,fun _=>?_⟩,H⟩
   ·intro z C
    rw[j]at C
    rcases mem_append.1 C with C|C
    ·exact r z C
    ·rw[mem_singleton.1 C];omega
   ·rw[j,NU];omega
   ·rw[j,NU,Int.pow_succ]
    have:32*(64^k*64)=(32*(64:Int)^k)*64:=by rw[Int.mul_assoc]
    omega
 ·have af:k=T.length:=by omega
  rw[af,List.take_length]
  have hf:Ep c0 T=KD l:=by rw[KD,F,hn,Y,L]
  rw[hf]
  refine AC (yPut_spec (KD l) w3) ?_
  rintro e w4 ⟨⟨hp,rfl⟩|⟨hp,rfl⟩,H'⟩
  ·replace H:=H.ext0 H'
   refine⟨_,_,rfl,BA (x:=_) ⟨⟨by omega,by omega⟩,?_⟩⟩
   have K:(s.extract 0 n).data.toList=l.take n:=by rw[Jh,List.drop_zero,p]
   refine AV (fun h5=>?_) (fun h5=>?_)
   ·refine f _ _ (fun c d=>h5 ?_) H.drop
    obtain⟨g1,g2,g3,_⟩:=g c d
    refine eqB ?_
    rw[K,g3]
    obtain⟨t2,ag⟩:=d.2
    rw[g1,<- ag,List.take_left]
   ·have D:=congrArg (fun b:ByteArray=>b.data.toList) h5
    dsimp only at D
    rw[K]at D
    have D:encP (KD l)=l.take n:=by simpa using D
    have h7:(encP (KD l)).length=n:=by rw[D,length_take];omega
    refine⟨.inl ⟨KD l,⟨hp,by rw[D];exact List.take_prefix _ _⟩,?_⟩,H.drop⟩
    rw[h7]
  ·replace H:=H.ext0 H'
   refine⟨_,_,rfl,CU (f _ _ (fun c d=>hp ?_) H.drop)⟩
   rw[(g c d).2.2.1];exact d.1
end Go.Proofs.YtljenkbpnioipaaGreat
