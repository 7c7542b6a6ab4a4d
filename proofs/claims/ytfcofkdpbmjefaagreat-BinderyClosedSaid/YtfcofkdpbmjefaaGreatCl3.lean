/- Part 3: The evaluator's operations that ask no memory. The evaluator's operations that ask no memory: each is as the calculus says. The evaluator's operations that ask no memory: each is as the calculus says. The evaluator's operations that ask no memory: each is as the calculus says. The evaluator's heap and the world: what holds between them; readings. The evaluator's heap turned: an object that is written, that is new, that is forgotten. The evaluator's operations that turn memory's cells. The evaluator's operations that turn memory, one by one (but for maps). The evaluator's stores, new slices, ap -/
import Derived.Test.YtfcofkdpbmjefaaGreatCl2
set_option linter.unusedVariables false
set_option linter.unusedSimpArgs false
set_option maxRecDepth 100000
namespace Go.Ev
open Go Go.Vc
theorem addr_add (b off n : Nat) : Addr.add ⟨b, off, none⟩ n = ⟨b, off + n, none⟩ := by
  unfold Addr.add
  split
  · rename_i h; subst h; rfl
  · rfl
section
variable {η : Eta} {fr : F} {vf : Fr}
def OR (o : ON) (i : Option Int) : Prop := (o = .no ∧ i = none) ∨ ∃ x : Nat, o = .n x ∧ i = some (x : Int)
theorem optE_ok (hf : FrR η fr vf) {o : Option Operand} {K : ON → Ans} (h : (optE o fr K).ok) : ∃ x i, optE o fr K = K x ∧ OR x i ∧ ∀ k : Option Int → Prop, k i → opI vf o k := by
  cases o with
  | none => exact ⟨.no, none, rfl, .inl ⟨rfl, rfl⟩, fun k hk => hk⟩
  | some o =>
    have e : optE (some o) fr K = evE fr o fun v => onInt v fun _ i => Int.rec (motive := fun _ => Ans) (fun a => K (.n a)) (fun _ => .no 74) i := rfl
    rw [e] at h ⊢
    obtain ⟨v, a, e1, e2, e3⟩ := evE_ok hf h
    rw [e1] at h ⊢
    obtain ⟨k, i, rfl, e4⟩ := onInt_ok h
    rw [e4] at h ⊢
    cases i with
    | negSucc i => exact False.elim h
    | ofNat i =>
      simp only [R] at e3
      refine ⟨.n i, some (i : Int), rfl, .inr ⟨i, rfl, rfl⟩, fun k' hk => ?_⟩
      subst e3
      simp only [opI, e2]
      exact hk
theorem boundsE_ok {n c : Nat} {lo hi mx : ON} {K : Nat → Nat → Nat → Ans} (h : (boundsE n c lo hi mx K).ok) :
    boundsE n c lo hi mx K = K (oget lo 0) (oget hi n) (oget mx c) ∧ oget lo 0 ≤ oget hi n ∧ oget hi n ≤ oget mx c ∧ oget mx c ≤ c ∧ (isO mx = true → isO hi = true) := by
  unfold boundsE at h ⊢
  obtain ⟨e1, e2⟩ := bA_ok h
  rw [e2, fN_eq, fN_eq, fN_eq]
  rw [bnd_eq, bnd_eq, bnd_eq, Bool.and_eq_true, Bool.and_eq_true, Bool.and_eq_true] at e1
  refine ⟨rfl, ble_t e1.2.1, ble_t e1.2.2.1, ble_t e1.2.2.2, fun hm => ?_⟩
  have := e1.1
  rw [hm] at this
  exact this
theorem slA_some (b off m l sz : Nat) : slA (some ⟨b, off, none⟩) m l sz = some ⟨b, (Bool.rec (off + l * sz) off (Nat.beq m l) : Nat), none⟩ := by
  unfold slA
  cases h : Nat.beq m l with
  | true => rw [if_pos (beq_t h)]
  | false =>
    rw [if_neg (beq_f h), Option.map_some, addr_add]
theorem slE_ok {k off n c c' sz b u : Nat} {lo hi mx : ON} {il ih im : Option Int} {K : VV → Ans} (hk : η k = some (b, u)) (hl : OR lo il) (hh : OR hi ih) (hm : OR mx im) (hc : c = c' ∨ (isO mx = true ∧ c ≤ c'))
    (h : (slE k off n c sz lo hi mx K).ok) : ∃ v a, slE k off n c sz lo hi mx K = K v ∧ R η v a ∧ slcV (some ⟨b, off, none⟩) n c' sz il ih im (· = a) := by
  unfold slE at h ⊢
  obtain ⟨e1, h1, h2, h3, h4⟩ := boundsE_ok h
  rw [e1, fN_eq, fN_eq, fN_eq]
  refine ⟨_, _, rfl, by simp only [R]; exact ⟨b, u, hk, rfl⟩, ?_⟩
  have ge : ∀ (o : ON) (i : Option Int) (d : Nat), OR o i → (o = .no ∧ i = none ∧ oget o d = d) ∨ ∃ x : Nat, o = .n x ∧ i = some (x : Int) ∧ oget o d = x := by
    rintro o i d (⟨rfl, rfl⟩ | ⟨x, rfl, rfl⟩)
    · exact .inl ⟨rfl, rfl, rfl⟩
    · exact .inr ⟨x, rfl, rfl, rfl⟩
  have sa := slA_some b off
  rcases ge mx im c hm with ⟨rfl, rfl, hm'⟩ | ⟨m, rfl, rfl, hm'⟩ <;> rcases ge hi ih n hh with ⟨rfl, rfl, hh'⟩ | ⟨hv, rfl, rfl, hh'⟩ <;> rcases ge lo il 0 hl with ⟨rfl, rfl, hl'⟩ | ⟨l, rfl, rfl, hl'⟩ <;> simp only [hm', hh', hl'] at h1 h2 h3 ⊢
  all_goals try (have := h4 rfl; cases this)
  all_goals
    simp only [slcV]
  · obtain rfl : c = c' := hc.resolve_right fun h => by cases h.1
    have : (Bool.rec (Nat.add off (Nat.mul 0 sz)) off (Nat.beq c 0) : Nat) = off := by
      cases Nat.beq c 0
      · show off + 0 * sz = off; simp
      · rfl
    rw [this]; rfl
  · obtain rfl : c = c' := hc.resolve_right fun h => by cases h.1
    refine ⟨by omega, ?_⟩
    simp only [Int.toNat_natCast, sa]; rfl
  · obtain rfl : c = c' := hc.resolve_right fun h => by cases h.1
    refine ⟨by omega, ?_⟩
    have : (Bool.rec (Nat.add off (Nat.mul 0 sz)) off (Nat.beq c 0) : Nat) = off := by
      cases Nat.beq c 0
      · show off + 0 * sz = off; simp
      · rfl
    rw [this]
    simp only [Int.toNat_natCast]; rfl
  · obtain rfl : c = c' := hc.resolve_right fun h => by cases h.1
    refine ⟨by omega, ?_⟩
    simp only [Int.toNat_natCast, sa]; rfl
  · have hc' : c ≤ c' := by rcases hc with h | h <;> omega
    refine ⟨by omega, ?_⟩
    have : (Bool.rec (Nat.add off (Nat.mul 0 sz)) off (Nat.beq m 0) : Nat) = off := by
      cases Nat.beq m 0
      · show off + 0 * sz = off; simp
      · rfl
    rw [this]
    simp only [Int.toNat_natCast]; rfl
  · have hc' : c ≤ c' := by rcases hc with h | h <;> omega
    refine ⟨by omega, ?_⟩
    simp only [Int.toNat_natCast, sa]; rfl
theorem sgE_ok {k off lo0 n sz b u : Nat} {lo hi mx : ON} {il ih im : Option Int} {K : VV → Ans} (hk : η k = some (b, u)) (hu : lo0 + n ≤ u) (hl : OR lo il) (hh : OR hi ih) (hm : OR mx im)
    (h : (sgE k off lo0 n sz lo hi mx K).ok) : ∃ v a, sgE k off lo0 n sz lo hi mx K = K v ∧ R η v a ∧ slcV (some ⟨b, off, none⟩) n (u - lo0) sz il ih im (· = a) := by
  rcases hm with ⟨rfl, rfl⟩ | ⟨m, rfl, rfl⟩
  · have e : sgE k off lo0 n sz lo hi .no K = bA (bnd (Bool.rec (Nat.beq (oget lo 0) 0) true (Nat.blt (oget lo 0) n)) (bnd (Nat.ble (oget lo 0) (oget hi n)) (Nat.ble (oget hi n) n))) (fN (Nat.add off (Nat.mul (oget lo 0) sz)) fun off1 => fN (Nat.add lo0 (oget lo 0)) fun lo1 => fN (Nat.sub (oget hi n) (oget lo 0)) fun n1 => K (.sg k off1 lo1 n1)) (.no 76) := rfl
    rw [e] at h ⊢
    obtain ⟨e1, e2⟩ := bA_ok h
    rw [e2, fN_eq, fN_eq, fN_eq]
    rw [bnd_eq, bnd_eq, Bool.and_eq_true, Bool.and_eq_true] at e1
    have h1 := ble_t e1.2.1
    have h2 := ble_t e1.2.2
    have h3 : oget lo 0 < n ∨ oget lo 0 = 0 := by
      have := e1.1
      cases hb : Nat.blt (oget lo 0) n with
      | true => exact .inl (blt_t hb)
      | false => rw [hb] at this; exact .inr (beq_t this)
    refine ⟨_, _, rfl, by
      simp only [R]
      refine ⟨b, u, hk, ?_, rfl⟩
      show lo0 + oget lo 0 + (oget hi n - oget lo 0) ≤ u
      omega, ?_⟩
    have ea : ∀ l : Nat, l < n ∨ l = 0 → slA (some ⟨b, off, none⟩) (u - lo0) l sz = some ⟨b, off + l * sz, none⟩ := by
      intro l hl
      unfold slA
      split
      · have : l = 0 := by omega
        subst this; simp
      · rw [Option.map_some, addr_add]
    rcases hh with ⟨rfl, rfl⟩ | ⟨hv, rfl, rfl⟩ <;> rcases hl with ⟨rfl, rfl⟩ | ⟨l, rfl, rfl⟩ <;> simp only [oget] at h1 h2 h3 ⊢ <;> simp only [slcV]
    · show Value.slice _ n (u - lo0) = Value.slice (some ⟨b, off + 0 * sz, none⟩) (n - 0) (u - (lo0 + 0))
      simp
    · refine ⟨by omega, ?_⟩
      simp only [Int.toNat_natCast, ea l h3]
      show Value.slice _ _ (u - lo0 - l) = Value.slice (some ⟨b, off + l * sz, none⟩) (n - l) (u - (lo0 + l))
      rw [Nat.sub_sub]
    · refine ⟨by omega, ?_⟩
      simp only [Int.toNat_natCast]
      show Value.slice _ hv (u - lo0) = Value.slice (some ⟨b, off + 0 * sz, none⟩) (hv - 0) (u - (lo0 + 0))
      simp
    · refine ⟨by omega, ?_⟩
      simp only [Int.toNat_natCast, ea l h3]
      show Value.slice _ _ (u - lo0 - l) = Value.slice (some ⟨b, off + l * sz, none⟩) (hv - l) (u - (lo0 + l))
      rw [Nat.sub_sub]
  · exact slE_ok hk hl hh (.inr ⟨m, rfl, rfl⟩) (.inr ⟨rfl, by omega⟩) h
theorem slxE_ok {P : Program} {t : TypeId} {x : VV} {a : Value} {lo hi mx : ON} {il ih im : Option Int} {K : VV → Ans} (hx : R η x a) (hl : OR lo il) (hh : OR hi ih) (hm : OR mx im)
    (h : (slxE (tiE P t) x lo hi mx K).ok) : ∃ v b, slxE (tiE P t) x lo hi mx K = K v ∧ R η v b ∧ slxV P t a il ih im (· = b) := by
  cases ht : tiE P t with
  | no | st | mp _ _ | int _ | ptr _ | oth => rw [ht] at h; exact False.elim h
  | str =>
    have hu := tiE_str ht
    rw [ht] at h
    have e : slxE .str x lo hi mx K = onStr x fun n x => bA (isO mx) (.no 253) (boundsE n n lo hi .no fun l h _ => fN (Nat.sub h l) fun m => fN (low (Nat.shiftRight x (Nat.mul 8 l)) m) fun y => K (.str m y)) := rfl
    rw [e] at h ⊢
    obtain ⟨n, y, rfl, e1⟩ := onStr_ok h
    rw [e1] at h ⊢
    obtain ⟨e2, e3⟩ := bA_no h
    rw [e3] at h ⊢
    obtain ⟨e4, h1, h2, h3, -⟩ := boundsE_ok h
    rw [e4, fN_eq, fN_eq]
    simp only [R] at hx
    subst hx
    have ex : ∀ l h : Nat, l ≤ h → h ≤ n → strOf (h - l) (low (Nat.shiftRight y (Nat.mul 8 l)) (h - l)) = (strOf n y).extract l h := by
      intro l h hlh hhn
      refine ba_ext (List.ext_getElem? fun i => ?_)
      have e2 : (strOf n y).data.toList.length = n := by rw [strOf_list]; simp
      have e1 : ((strOf n y).extract l h).data.toList = ((strOf n y).data.toList.take h).drop l := by
        rw [ByteArray.data_extract, Array.toList_extract, List.drop_take]
      rw [e1, strOf_get, List.getElem?_drop, List.getElem?_take, strOf_get]
      by_cases hi : i < h - l
      · rw [if_pos hi, if_pos (by omega), if_pos (by omega), byte_low _ _ _ hi, byte_shift]
      · rw [if_neg hi, if_neg (by omega)]
    have mn : mx = .no ∧ im = none := by
      rcases hm with hm | ⟨m, rfl, rfl⟩
      · exact hm
      · cases e2
    obtain ⟨rfl, rfl⟩ := mn
    have h1' : oget lo 0 ≤ oget hi n := h1
    have h2' : oget hi n ≤ n := h2
    have hex := ex _ _ h1' h2'
    refine ⟨_, .string ((strOf n y).extract (oget lo 0) (oget hi n)), rfl, by simp only [R]; rw [← hex]; rfl, ?_⟩
    unfold slxV
    rw [hu]
    rcases hh with ⟨rfl, rfl⟩ | ⟨hv, rfl, rfl⟩ <;> rcases hl with ⟨rfl, rfl⟩ | ⟨l, rfl, rfl⟩ <;> simp only [oget, strOf_size, Int.toNat_natCast] at h1' h2' ⊢
    · exact ⟨by omega, trivial⟩
    · exact ⟨by omega, trivial⟩
    · exact ⟨by omega, trivial⟩
  | sl e sz =>
    obtain ⟨hu, hs⟩ := tiE_sl ht
    rw [ht] at h
    cases x with
    | sl k off n c =>
      simp only [R] at hx
      obtain ⟨b, u, hk, rfl⟩ := hx
      obtain ⟨v, a, e1, e2, e3⟩ := slE_ok hk hl hh hm (.inl rfl) (h : (slE k off n c sz lo hi mx K).ok)
      exact ⟨v, a, e1, e2, by unfold slxV; simp only [hu, hs]; exact e3⟩
    | sg k off l n =>
      simp only [R] at hx
      obtain ⟨b, u, hk, hlu, rfl⟩ := hx
      obtain ⟨v, a, e1, e2, e3⟩ := sgE_ok hk hlu hl hh hm (h : (sgE k off l n sz lo hi mx K).ok)
      exact ⟨v, a, e1, e2, by unfold slxV; simp only [hu, hs]; exact e3⟩
    | nils =>
      simp only [R] at hx
      subst hx
      have h : (boundsE 0 0 lo hi mx fun _ _ _ => K .nils).ok := h
      obtain ⟨e4, h1, h2, h3, h4⟩ := boundsE_ok h
      refine ⟨.nils, .slice none 0 0, e4, by simp only [R], ?_⟩
      unfold slxV
      simp only [hu, hs]
      rcases hm with ⟨rfl, rfl⟩ | ⟨m, rfl, rfl⟩ <;> rcases hh with ⟨rfl, rfl⟩ | ⟨hv, rfl, rfl⟩ <;> rcases hl with ⟨rfl, rfl⟩ | ⟨l, rfl, rfl⟩ <;> simp only [oget] at h1 h2 h3 <;> simp only [slcV, slA, Int.toNat_natCast]
      · exact ⟨by omega, by simp⟩
      · have : hv = 0 := by omega
        exact ⟨by omega, by simp [this]⟩
      · have : hv = 0 := by omega
        exact ⟨by omega, by simp [this]⟩
      · have := h4 rfl; cases this
      · have := h4 rfl; cases this
      · have : hv = 0 := by omega
        have : m = 0 := by omega
        exact ⟨by omega, by simp [*]⟩
      · have : hv = 0 := by omega
        have : m = 0 := by omega
        exact ⟨by omega, by simp [*]⟩
    | _ => exact False.elim h
  | arr n e sz =>
    obtain ⟨hu, hs⟩ := tiE_arr ht
    rw [ht] at h
    have e : slxE (.arr n e sz) x lo hi mx K = onPtr x fun k off => slE k off n n sz lo hi mx K := rfl
    rw [e] at h ⊢
    obtain ⟨k, off, rfl, e1⟩ := onPtr_ok h
    rw [e1] at h ⊢
    simp only [R] at hx
    obtain ⟨b, u, hk, rfl⟩ := hx
    obtain ⟨v, a, e1, e2, e3⟩ := slE_ok hk hl hh hm (.inl rfl) h
    exact ⟨v, a, e1, e2, by unfold slxV; simp only [hu, hs]; exact e3⟩
theorem ixE_ok {i : Int} {n : Nat} {K : Nat → Ans} (h : (ixE i n K).ok) : ∃ a : Nat, i = a ∧ a < n ∧ ixE i n K = K a := by
  cases i with
  | negSucc i => exact False.elim h
  | ofNat a =>
    obtain ⟨e1, e2⟩ := bA_ok (b := Nat.blt a n) h
    exact ⟨a, rfl, blt_t e1, e2⟩
theorem addE_ok {k off i sz b u : Nat} {K : VV → Ans} (hk : η k = some (b, u)) : ∃ v, addE k off i sz K = K v ∧ R η v (.pointer (some (Addr.add ⟨b, off, none⟩ (i * sz)))) := by
  refine ⟨.ptr k (off + i * sz), by unfold addE; rw [fN_eq]; rfl, ?_⟩
  simp only [R]
  exact ⟨b, u, hk, by rw [addr_add]⟩
end
end Go.Ev
namespace Go.Ev
open Go Go.Vc
section
variable {η : Eta} {fr : F} {vf : Fr}
theorem unE_ok {op : UnOp} {x : VV} {a : Value} {K : VV → Ans} (hx : R η x a) (h : (unE op x K).ok) : ∃ v b, unE op x K = K v ∧ R η v b ∧ unV none op a (· = b) := by
  cases op
  case neg =>
    have e : unE .neg x K = onInt x fun k n => subE k 0 n K := rfl
    rw [e] at h ⊢
    obtain ⟨k, n, rfl, e1⟩ := onInt_ok h
    simp only [R] at hx
    subst hx
    exact ⟨_, .int k (k.wrap (0 - n)), e1.trans (subE_eq ..), by simp only [R], by simp only [unV, arith]⟩
  case not =>
    have e : unE .not x K = onBool x fun b => Bool.rec (K (.bool true)) (K (.bool false)) b := rfl
    rw [e] at h ⊢
    obtain ⟨b, rfl, e1⟩ := onBool_ok h
    simp only [R] at hx
    subst hx
    refine ⟨.bool (!b), .bool (!b), ?_, by simp only [R], by simp only [unV]⟩
    rw [e1]; cases b <;> rfl
  all_goals exact False.elim h
theorem eqOp_ok {op : BinOp} {b : Bool} {K : VV → Ans} (h : (eqOp op b K).ok) : (op = .eql ∧ eqOp op b K = K (.bool b)) ∨ (op = .neq ∧ eqOp op b K = K (.bool (!b))) := by
  cases op
  case eql => exact .inl ⟨rfl, cmpE_eq b K⟩
  case neq => exact .inr ⟨rfl, by rw [← bnot_eq]; exact cmpE_eq _ K⟩
  all_goals exact False.elim h
def EkS (P : Program) (t : TypeId) : Nat → Prop
  | 1 => ∃ e, P.underlying t = some (.pointer e)
  | 2 => ∃ e, P.underlying t = some (.slice e)
  | 3 => ∃ k e, P.underlying t = some (.map k e)
  | 4 => ∃ a b c, P.underlying t = some (.func a b c)
  | 6 => P.underlying t = some .bool
  | _ => True
theorem ekE_ok (P : Program) (t : TypeId) : EkS P t (ekE P t) := by
  unfold ekE
  split
  · exact ⟨_, by assumption⟩
  · exact ⟨_, by assumption⟩
  · exact ⟨_, _, by assumption⟩
  · exact ⟨_, _, _, by assumption⟩
  · assumption
  · trivial
def nilEq (d : TypeDesc) (a b : Value) : Option Bool := match d, a, b with
  | .pointer _, .pointer none, .pointer b => some b.isNone
  | .pointer _, .pointer (some _), .pointer none => some false
  | .slice _, .slice none _ _, .slice b _ _ => some b.isNone
  | .slice _, .slice (some _) _ _, .slice none _ _ => some false
  | .map _ _, .map none, .map b => some b.isNone
  | .map _ _, .map (some _), .map none => some false
  | .func _ _ _, .nilFunc, .nilFunc => some true
  | .func _ _ _, .nilFunc, .func _ _ _ => some false
  | .func _ _ _, .func _ _ _, .nilFunc => some false
  | _, _, _ => none
theorem nilEq_ok {P : Program} {t : TypeId} {D : TypeDesc} {a b : Value} (d : Nat) (w : World) (hu : P.underlying t = some D) {r : Bool} (hr : nilEq D a b = some r) : (Op.equalIn (d + 1) t a b).run P w = .ok r w := by
  simp only [Op.equalIn, Sem.run_bind, run_und hu, Result.andThen_ok]
  unfold nilEq at hr
  split at hr <;> first
    | (cases hr; rfl)
    | cases hr
theorem eqN_ok {P : Program} {t : TypeId} {x y : VV} {a b : Value} {K : Bool → Ans} (hx : R η x a) (hy : R η y b) (h : (eqN x (ekE P t) y K).ok) :
    ∃ r, eqN x (ekE P t) y K = K r ∧ ((∃ p q : Bool, a = .bool p ∧ b = .bool q ∧ r = (p == q) ∧ P.underlying t = some .bool) ∨
      ((∀ p, a ≠ .bool p) ∧ (∀ k p, a ≠ .int k p) ∧ (∀ p, a ≠ .string p) ∧ (∀ l, a ≠ .agg l) ∧ a ≠ .nilIface ∧ (∀ k s, a ≠ .float k s) ∧ (∀ k s q, a ≠ .complex k s q) ∧ (∃ d, P.underlying t = some d ∧ (∀ k, d ≠ .int k) ∧ d ≠ .string ∧ d ≠ .bool) ∧ ∀ w : World, (Op.equal t a b).run P w = .ok r w)) := by
  have ek := ekE_ok P t
  have eq0 : ∀ {d : TypeDesc} (w : World), P.underlying t = some d → ∀ {r : Bool}, nilEq d a b = some r → (Op.equal t a b).run P w = .ok r w := fun w hu _ hr => nilEq_ok 9999 w hu hr
  cases x with
  | bool p =>
    have e : eqN (.bool p) (ekE P t) y K = bA (Nat.beq (ekE P t) 6) (onBool y fun b => onB (Bool.rec (bnot b) b p) K) (.no 240) := rfl
    rw [e] at h ⊢
    obtain ⟨e1, e2⟩ := bA_ok h
    rw [e2] at h ⊢
    rw [beq_t e1] at ek
    obtain ⟨q, rfl, e3⟩ := onBool_ok h
    simp only [R] at hx hy
    refine ⟨p == q, ?_, .inl ⟨p, q, hx, hy, rfl, ek⟩⟩
    rw [e3, onB_eq]
    cases p <;> cases q <;> rfl
  | ptr k off =>
    have e : eqN (.ptr k off) (ekE P t) y K = bA (Nat.beq (ekE P t) 1) (eqN (.ptr k off) 1 y K) (.no 241) := by
      unfold eqN; simp only [Nat.beq]; rfl
    rw [e] at h ⊢
    obtain ⟨e1, e2⟩ := bA_ok h
    rw [e2] at h ⊢
    rw [beq_t e1] at ek
    obtain ⟨el, hu⟩ := ek
    cases y <;> try exact False.elim h
    simp only [R] at hx hy
    obtain ⟨bb, c, hk, rfl⟩ := hx
    subst hy
    exact ⟨false, rfl, .inr ⟨fun _ h => (by cases h), fun _ _ h => (by cases h), fun _ h => (by cases h), fun _ h => (by cases h), fun h => (by cases h), fun _ _ h => (by cases h), fun _ _ _ h => (by cases h), ⟨_, hu, fun _ h => (by cases h), fun h => (by cases h), fun h => (by cases h)⟩, fun w => eq0 w hu rfl⟩⟩
  | nilp =>
    have e : eqN .nilp (ekE P t) y K = bA (Nat.beq (ekE P t) 1) (eqN .nilp 1 y K) (.no 242) := by
      unfold eqN; simp only [Nat.beq]; rfl
    rw [e] at h ⊢
    obtain ⟨e1, e2⟩ := bA_ok h
    rw [e2] at h ⊢
    rw [beq_t e1] at ek
    obtain ⟨el, hu⟩ := ek
    cases y <;> try exact False.elim h
    · simp only [R] at hx hy
      obtain ⟨bb, c, hk, rfl⟩ := hy
      subst hx
      exact ⟨false, rfl, .inr ⟨fun _ h => (by cases h), fun _ _ h => (by cases h), fun _ h => (by cases h), fun _ h => (by cases h), fun h => (by cases h), fun _ _ h => (by cases h), fun _ _ _ h => (by cases h), ⟨_, hu, fun _ h => (by cases h), fun h => (by cases h), fun h => (by cases h)⟩, fun w => eq0 w hu rfl⟩⟩
    · simp only [R] at hx hy
      subst hx hy
      exact ⟨true, rfl, .inr ⟨fun _ h => (by cases h), fun _ _ h => (by cases h), fun _ h => (by cases h), fun _ h => (by cases h), fun h => (by cases h), fun _ _ h => (by cases h), fun _ _ _ h => (by cases h), ⟨_, hu, fun _ h => (by cases h), fun h => (by cases h), fun h => (by cases h)⟩, fun w => eq0 w hu rfl⟩⟩
  | sl k off n c =>
    have e : eqN (.sl k off n c) (ekE P t) y K = bA (Nat.beq (ekE P t) 2) (eqN (.sl k off n c) 2 y K) (.no 243) := by
      unfold eqN; simp only [Nat.beq]; rfl
    rw [e] at h ⊢
    obtain ⟨e1, e2⟩ := bA_ok h
    rw [e2] at h ⊢
    rw [beq_t e1] at ek
    obtain ⟨el, hu⟩ := ek
    cases y <;> try exact False.elim h
    simp only [R] at hx hy
    obtain ⟨bb, c, hk, rfl⟩ := hx
    subst hy
    exact ⟨false, rfl, .inr ⟨fun _ h => (by cases h), fun _ _ h => (by cases h), fun _ h => (by cases h), fun _ h => (by cases h), fun h => (by cases h), fun _ _ h => (by cases h), fun _ _ _ h => (by cases h), ⟨_, hu, fun _ h => (by cases h), fun h => (by cases h), fun h => (by cases h)⟩, fun w => eq0 w hu rfl⟩⟩
  | sg k off l n =>
    have e : eqN (.sg k off l n) (ekE P t) y K = bA (Nat.beq (ekE P t) 2) (eqN (.sg k off l n) 2 y K) (.no 244) := by
      unfold eqN; simp only [Nat.beq]; rfl
    rw [e] at h ⊢
    obtain ⟨e1, e2⟩ := bA_ok h
    rw [e2] at h ⊢
    rw [beq_t e1] at ek
    obtain ⟨el, hu⟩ := ek
    cases y <;> try exact False.elim h
    simp only [R] at hx hy
    obtain ⟨bb, c, hk, _, rfl⟩ := hx
    subst hy
    exact ⟨false, rfl, .inr ⟨fun _ h => (by cases h), fun _ _ h => (by cases h), fun _ h => (by cases h), fun _ h => (by cases h), fun h => (by cases h), fun _ _ h => (by cases h), fun _ _ _ h => (by cases h), ⟨_, hu, fun _ h => (by cases h), fun h => (by cases h), fun h => (by cases h)⟩, fun w => eq0 w hu rfl⟩⟩
  | nils =>
    have e : eqN .nils (ekE P t) y K = bA (Nat.beq (ekE P t) 2) (eqN .nils 2 y K) (.no 245) := by
      unfold eqN; simp only [Nat.beq]; rfl
    rw [e] at h ⊢
    obtain ⟨e1, e2⟩ := bA_ok h
    rw [e2] at h ⊢
    rw [beq_t e1] at ek
    obtain ⟨el, hu⟩ := ek
    cases y <;> try exact False.elim h
    simp only [R] at hx hy
    subst hx hy
    exact ⟨true, rfl, .inr ⟨fun _ h => (by cases h), fun _ _ h => (by cases h), fun _ h => (by cases h), fun _ h => (by cases h), fun h => (by cases h), fun _ _ h => (by cases h), fun _ _ _ h => (by cases h), ⟨_, hu, fun _ h => (by cases h), fun h => (by cases h), fun h => (by cases h)⟩, fun w => eq0 w hu rfl⟩⟩
  | map k =>
    have e : eqN (.map k) (ekE P t) y K = bA (Nat.beq (ekE P t) 3) (eqN (.map k) 3 y K) (.no 246) := by
      unfold eqN; simp only [Nat.beq]; rfl
    rw [e] at h ⊢
    obtain ⟨e1, e2⟩ := bA_ok h
    rw [e2] at h ⊢
    rw [beq_t e1] at ek
    obtain ⟨kl, el, hu⟩ := ek
    cases y <;> try exact False.elim h
    simp only [R] at hx hy
    obtain ⟨bb, c, hk, rfl⟩ := hx
    subst hy
    exact ⟨false, rfl, .inr ⟨fun _ h => (by cases h), fun _ _ h => (by cases h), fun _ h => (by cases h), fun _ h => (by cases h), fun h => (by cases h), fun _ _ h => (by cases h), fun _ _ _ h => (by cases h), ⟨_, hu, fun _ h => (by cases h), fun h => (by cases h), fun h => (by cases h)⟩, fun w => eq0 w hu rfl⟩⟩
  | nilm =>
    have e : eqN .nilm (ekE P t) y K = bA (Nat.beq (ekE P t) 3) (eqN .nilm 3 y K) (.no 247) := by
      unfold eqN; simp only [Nat.beq]; rfl
    rw [e] at h ⊢
    obtain ⟨e1, e2⟩ := bA_ok h
    rw [e2] at h ⊢
    rw [beq_t e1] at ek
    obtain ⟨kl, el, hu⟩ := ek
    cases y <;> try exact False.elim h
    simp only [R] at hx hy
    subst hx hy
    exact ⟨true, rfl, .inr ⟨fun _ h => (by cases h), fun _ _ h => (by cases h), fun _ h => (by cases h), fun _ h => (by cases h), fun h => (by cases h), fun _ _ h => (by cases h), fun _ _ _ h => (by cases h), ⟨_, hu, fun _ h => (by cases h), fun h => (by cases h), fun h => (by cases h)⟩, fun w => eq0 w hu rfl⟩⟩
  | fn f fi ca =>
    have e : eqN (.fn f fi ca) (ekE P t) y K = bA (Nat.beq (ekE P t) 4) (eqN (.fn f fi ca) 4 y K) (.no 248) := by
      unfold eqN; simp only [Nat.beq]; rfl
    rw [e] at h ⊢
    obtain ⟨e1, e2⟩ := bA_ok h
    rw [e2] at h ⊢
    rw [beq_t e1] at ek
    obtain ⟨_, _, _, hu⟩ := ek
    cases y <;> try exact False.elim h
    simp only [R] at hx hy
    obtain ⟨_, _, _, _, rfl⟩ := hx
    subst hy
    exact ⟨false, rfl, .inr ⟨fun _ h => (by cases h), fun _ _ h => (by cases h), fun _ h => (by cases h), fun _ h => (by cases h), fun h => (by cases h), fun _ _ h => (by cases h), fun _ _ _ h => (by cases h), ⟨_, hu, fun _ h => (by cases h), fun h => (by cases h), fun h => (by cases h)⟩, fun w => eq0 w hu rfl⟩⟩
  | nilf =>
    have e : eqN .nilf (ekE P t) y K = bA (Nat.beq (ekE P t) 4) (eqN .nilf 4 y K) (.no 249) := by
      unfold eqN; simp only [Nat.beq]; rfl
    rw [e] at h ⊢
    obtain ⟨e1, e2⟩ := bA_ok h
    rw [e2] at h ⊢
    rw [beq_t e1] at ek
    obtain ⟨_, _, _, hu⟩ := ek
    cases y <;> try exact False.elim h
    simp only [R] at hx hy
    subst hx hy
    exact ⟨true, rfl, .inr ⟨fun _ h => (by cases h), fun _ _ h => (by cases h), fun _ h => (by cases h), fun _ h => (by cases h), fun h => (by cases h), fun _ _ h => (by cases h), fun _ _ _ h => (by cases h), ⟨_, hu, fun _ h => (by cases h), fun h => (by cases h), fun h => (by cases h)⟩, fun w => eq0 w hu rfl⟩⟩
  | _ => exact False.elim h
end
end Go.Ev
namespace Go.Ev
open Go Go.Vc
section
variable {η : Eta} {fr : F} {vf : Fr}
theorem bin_bool {P : Program} {op : BinOp} {t : TypeId} {a b r : Value} (ho : op = .eql ∨ op = .neq) (h : binV none P op t a b (· = r)) : ∃ q, r = .bool q := by
  rcases ho with rfl | rfl
  · cases a <;> cases b <;> simp only [binV] at h <;> first
      | exact h.elim
      | (split at h <;> first | exact ⟨_, h.symm⟩ | exact h.elim)
      | exact ⟨_, h.symm⟩
  · cases a <;> cases b <;> simp only [binV] at h <;> first
      | exact h.elim
      | (split at h <;> first | exact ⟨_, h.symm⟩ | exact h.elim)
      | exact ⟨_, h.symm⟩
theorem isSh_ne {op : BinOp} (h : op = .eql ∨ op = .neq) : isSh op = false := by rcases h with rfl | rfl <;> rfl
def EqvAll (op : BinOp) (t : TypeId) (a b : Value) (q : Bool) : Prop := (op = .eql ∨ op = .neq) ∧ ∀ (x y : Operand) (w : World), Eqv PP op t x y w a b q
theorem binE_ok {op : BinOp} {t : TypeId} {x y : VV} {a b : Value} {K : VV → Ans} (hx : R η x a) (hy : R η y b) (h : (binE op t x y K).ok) :
    ∃ v r, binE op t x y K = K v ∧ R η v r ∧ (binV none PP op t a b (· = r) ∨ ∃ q, r = .bool q ∧ EqvAll op t a b q ∧ ∀ x y yt, cls PP (.binOp op t x y yt) = 1) := by
  have gen : ∀ (h : (eqN x (ekE PP t) y fun b => eqOp op b K).ok), ∃ v r, (eqN x (ekE PP t) y fun b => eqOp op b K) = K v ∧ R η v r ∧ (binV none PP op t a b (· = r) ∨ ∃ q, r = .bool q ∧ EqvAll op t a b q ∧ ∀ x y yt, cls PP (.binOp op t x y yt) = 1) := by
    intro h
    obtain ⟨r, e1, hr⟩ := eqN_ok (P := PP) hx hy h
    rw [e1] at h ⊢
    rcases hr with ⟨p, q, rfl, rfl, rfl, hu⟩ | ⟨n1, n2, n3, n4, n5, n6, n7, ⟨d, hu, m1, m2, m3⟩, heq⟩
    · rcases eqOp_ok h with ⟨rfl, e2⟩ | ⟨rfl, e2⟩
      · exact ⟨_, .bool (p == q), e2, by simp only [R], .inl (by simp only [binV, hu])⟩
      · exact ⟨_, .bool (!(p == q)), e2, by simp only [R], .inl (by simp only [binV, hu])⟩
    · have hg : ∀ (op : BinOp) (xo yo : Operand) (w : World), (eqGuard op t xo yo a b).run PP w = .ok () w := by
        intro op xo yo w
        cases op <;> simp only [eqGuard, Bool.not_true, Bool.not_false, Bool.false_eq_true, if_true, if_false] <;> first
          | rfl
          | (split <;> first
              | exact absurd rfl n5
              | exact absurd rfl (n4 _)
              | rfl)
      have hcl : op = .eql ∨ op = .neq → ∀ x y yt, cls PP (.binOp op t x y yt) = 1 := by
        intro hop xo yo yt
        rcases hop with rfl | rfl <;> simp only [cls, hu] <;> cases d <;> first
          | exact absurd rfl (m1 _)
          | exact absurd rfl m2
          | exact absurd rfl m3
          | rfl
      have hb : ∀ (w : World), (binOp .eql t a b).run PP w = .ok (.bool r) w ∧ (binOp .neq t a b).run PP w = .ok (.bool (!r)) w := by
        intro w
        constructor <;> unfold binOp <;> split <;> first
          | contradiction
          | exact absurd rfl (n2 _ _)
          | exact absurd rfl (n3 _)
          | exact absurd rfl (n6 _ _)
          | exact absurd rfl (n7 _ _ _)
          | (simp only [Sem.run_bind, heq w, Result.andThen_ok, Sem.run_pure])
          | contradiction
      rcases eqOp_ok h with ⟨rfl, e2⟩ | ⟨rfl, e2⟩
      · exact ⟨_, .bool r, e2, by simp only [R], .inr ⟨r, rfl, ⟨.inl rfl, fun x y w => by simp only [Eqv, Sem.run_bind, hg, Result.andThen_ok, (hb w).1]⟩, hcl (.inl rfl)⟩⟩
      · exact ⟨_, .bool (!r), e2, by simp only [R], .inr ⟨!r, rfl, ⟨.inr rfl, fun x y w => by simp only [Eqv, Sem.run_bind, hg, Result.andThen_ok, (hb w).2]⟩, hcl (.inr rfl)⟩⟩
  cases x with
  | int k n =>
    have e : binE op t (.int k n) y K = onInt y fun k' b => Bool.rec (bA (Nat.beq (kN k) (kN k')) (binI op k n b K) (.no 72)) (shE op k n b K) (isSh op) := rfl
    rw [e] at h ⊢
    obtain ⟨k', m, rfl, e1⟩ := onInt_ok h
    rw [e1] at h ⊢
    simp only [R] at hx hy
    subst hx hy
    cases hs : isSh op with
    | true =>
      rw [hs] at h
      obtain ⟨v, r, e2, e3, e4⟩ := shE_ok (k' := k') (t := t) (h : (shE op k n m K).ok)
      exact ⟨v, r, e2, e3 η, .inl e4⟩
    | false =>
      rw [hs] at h
      obtain ⟨e2, e3⟩ := bA_ok (h : (bA (Nat.beq (kN k) (kN k')) (binI op k n m K) (.no 72)).ok)
      obtain rfl := kN_inj (beq_t e2)
      have h : (bA (Nat.beq (kN k) (kN k)) (binI op k n m K) (.no 72)).ok := h
      rw [e3] at h
      obtain ⟨v, r, e4, e5, e6⟩ := binI_ok (t := t) hs h
      exact ⟨v, r, e3.trans e4, e5 η, .inl e6⟩
  | str n z =>
    have e : binE op t (.str n z) y K = onStr y fun m u => binS op n z m u K := rfl
    rw [e] at h ⊢
    obtain ⟨m, u, rfl, e1⟩ := onStr_ok h
    rw [e1] at h ⊢
    simp only [R] at hx hy
    subst hx hy
    obtain ⟨v, r, e4, e5, e6⟩ := binS_ok (t := t) h
    exact ⟨v, r, e4, e5 η, .inl e6⟩
  | bool _ | ptr _ _ | nilp | sl _ _ _ _ | sg _ _ _ _ | nils | map _ | nilm | fn _ _ _ | nilf => exact gen h
  | _ => exact False.elim h
end
end Go.Ev
namespace Go.Ev
open Go Go.Vc
theorem evs_one_inv {vf : Fr} {l : List Operand} {a : Value} (h : evs vf l = some [a]) : ∃ x, l = [x] ∧ ev vf x = some a := by
  match l, h with
  | x :: r, h =>
    obtain ⟨v, l', h1, h2, h3⟩ := evs_cons h
    cases h3
    match r, h2 with
    | [], _ => exact ⟨x, rfl, h1⟩
    | y :: q, h2 =>
      obtain ⟨_, _, _, _, h3⟩ := evs_cons h2
      cases h3
theorem evs_two_inv {vf : Fr} {l : List Operand} {a b : Value} (h : evs vf l = some [a, b]) : ∃ x y, l = [x, y] ∧ ev vf x = some a ∧ ev vf y = some b := by
  match l, h with
  | x :: r, h =>
    obtain ⟨v, l', h1, h2, h3⟩ := evs_cons h
    cases h3
    obtain ⟨y, rfl, h4⟩ := evs_one_inv h2
    exact ⟨x, y, rfl, h1, h4⟩
section
variable {η : Eta} {fr : F} {vf : Fr}
theorem args1_ok {c : CV} {l : List Value} {K : VV → Ans} (hc : RC η c l) (h : (args1 c K).ok) : ∃ v a, l = [a] ∧ R η v a ∧ args1 c K = K v := by
  cases c with
  | nl => exact False.elim h
  | cb n x r => exact False.elim h
  | cv v r =>
    obtain ⟨a, q, ha, hq, rfl⟩ := hc.cv_inv
    cases r with
    | nl => rw [hq.nl_inv]; exact ⟨v, a, rfl, ha, rfl⟩
    | _ => exact False.elim h
theorem args2_ok {c : CV} {l : List Value} {K : VV → VV → Ans} (hc : RC η c l) (h : (args2 c K).ok) : ∃ v u a b, l = [a, b] ∧ R η v a ∧ R η u b ∧ args2 c K = K v u := by
  cases c with
  | nl => exact False.elim h
  | cb n x r => exact False.elim h
  | cv v r =>
    obtain ⟨a, q, ha, hq, rfl⟩ := hc.cv_inv
    have h : (args1 r fun u => K v u).ok := h
    obtain ⟨u, b, rfl, hb, e⟩ := args1_ok hq h
    exact ⟨v, u, a, b, rfl, ha, hb, e⟩
theorem onT_ok {ts : Array TypeId} {K : TypeId → Ans} (h : (onT ts.toList K).ok) : ∃ t, ts[0]? = some t ∧ onT ts.toList K = K t := by
  cases hl : ts.toList with
  | nil => rw [hl] at h; exact False.elim h
  | cons t r =>
    refine ⟨t, ?_, rfl⟩
    have : ts.toList[0]? = some t := by rw [hl]; rfl
    simpa using this
theorem nthC_ok {K : VV → Ans} : ∀ {c : CV} {l : List Value} {i : Nat}, RC η c l → (nthC c i K).ok → ∃ v a, nthC c i K = K v ∧ l[i]? = some a ∧ R η v a
  | .nl, l, i, hc, h => False.elim h
  | .cb n x r, l, i, hc, h => False.elim h
  | .cv u r, l, i, hc, h => by
    obtain ⟨a, q, ha, hq, rfl⟩ := hc.cv_inv
    have e : nthC (.cv u r) i K = bA (Nat.beq i 0) (K u) (nthC r (Nat.sub i 1) K) := rfl
    rw [e] at h ⊢
    cases hb : Nat.beq i 0 with
    | true => obtain rfl := beq_t hb; exact ⟨u, a, rfl, rfl, ha⟩
    | false =>
      rw [hb] at h
      obtain ⟨v, b, e1, e2, e3⟩ := nthC_ok hq h
      have := beq_f hb
      obtain ⟨k, rfl⟩ : ∃ k, i = k + 1 := ⟨i - 1, by omega⟩
      exact ⟨v, b, e1, e2, e3⟩
theorem R.i64 {n : Nat} : R η (.int .i64 (.ofNat n)) (.int .i64 (n : Nat)) := by simp only [R]; rfl
theorem lenE_ok {t : TypeId} {ts : Array TypeId} {x : VV} {a : Value} {K : VV → Ans} (ht : ts[0]? = some t) (hx : R η x a) (h : (lenE (tiE PP t) PP x K).ok) : ∃ v b, lenE (tiE PP t) PP x K = K v ∧ R η v b ∧ lenV PP ts a (· = b) := by
  unfold lenV
  rw [ht]
  cases hti : tiE PP t with
  | no | st | mp _ _ | int _ | oth => rw [hti] at h; exact False.elim h
  | str =>
    rw [hti] at h
    have h : (onStr x fun n _ => K (.int .i64 (.ofNat n))).ok := h
    obtain ⟨n, y, rfl, e⟩ := onStr_ok h
    simp only [R] at hx
    subst hx
    exact ⟨_, _, e, .i64, by simp only [tiE_str hti, strOf_size]⟩
  | sl e n =>
    rw [hti] at h
    cases x <;> try exact False.elim h
    · simp only [R] at hx
      obtain ⟨b, u, hk, rfl⟩ := hx
      exact ⟨_, _, rfl, .i64, by simp only [(tiE_sl hti).1]⟩
    · simp only [R] at hx
      obtain ⟨b, u, hk, _, rfl⟩ := hx
      exact ⟨_, _, rfl, .i64, by simp only [(tiE_sl hti).1]⟩
    · simp only [R] at hx
      subst hx
      exact ⟨_, _, rfl, .i64, by simp only [(tiE_sl hti).1]⟩
  | arr n e m => exact ⟨_, _, rfl, .i64, by simp only [(tiE_arr hti).1]⟩
  | ptr e =>
    rw [hti] at h
    have e0 : lenE (.ptr e) PP x K = TI.rec (motive := fun _ => Ans) (.no 97) (.no 97) (fun _ _ => .no 97) (fun n _ _ => K (.int .i64 (.ofNat n))) (.no 97) (fun _ _ => .no 97) (fun _ => .no 97) (fun _ => .no 97) (.no 97) (tiE PP e) := rfl
    rw [e0] at h ⊢
    cases ht2 : tiE PP e with
    | arr n e' m => exact ⟨_, _, rfl, .i64, by simp only [tiE_ptr hti, (tiE_arr ht2).1]⟩
    | _ => rw [ht2] at h; exact False.elim h
theorem mmE_ok {mx : Bool} {x y : VV} {a b : Value} {K : VV → Ans} (hx : R η x a) (hy : R η y b) (h : (mmE mx x y K).ok) : ∃ k k' m n v r, a = .int k m ∧ b = .int k' n ∧ mmE mx x y K = K v ∧ R η v r ∧ r = .int k (if mx then max m n else min m n) := by
  unfold mmE at h ⊢
  obtain ⟨k, m, rfl, e1⟩ := onInt_ok h
  rw [e1] at h ⊢
  obtain ⟨k', n, rfl, e2⟩ := onInt_ok h
  rw [e2]
  simp only [R] at hx hy
  have hl := leI_iff m n
  refine ⟨k, k', m, n, .int k (if mx then max m n else min m n), _, hx, hy, ?_, by simp only [R], rfl⟩
  cases mx <;> cases h3 : leI m n
  · have : ¬ m ≤ n := fun hh => by rw [hl.2 hh] at h3; cases h3
    show K _ = K _
    congr 2; simp; omega
  · have := hl.1 h3
    show K _ = K _
    congr 2; simp; omega
  · have : ¬ m ≤ n := fun hh => by rw [hl.2 hh] at h3; cases h3
    show K _ = K _
    congr 2; simp; omega
  · have := hl.1 h3
    show K _ = K _
    congr 2; simp; omega
theorem nthP_ok {K : Nat → Nat → Ans} : ∀ {l : List (Nat × Nat)} {i : Nat}, (nthP l i K).ok → ∃ off sz, nthP l i K = K off sz ∧ l[i]? = some (off, sz)
  | [], i, h => False.elim h
  | p :: r, i, h => by
    have e : nthP (p :: r) i K = bA (Nat.beq i 0) (K p.1 p.2) (nthP r (Nat.sub i 1) K) := rfl
    rw [e] at h ⊢
    cases hb : Nat.beq i 0 with
    | true => obtain rfl := beq_t hb; exact ⟨p.1, p.2, rfl, rfl⟩
    | false =>
      rw [hb] at h
      obtain ⟨off, sz, e1, e2⟩ := nthP_ok h
      have := beq_f hb
      obtain ⟨k, rfl⟩ : ∃ k, i = k + 1 := ⟨i - 1, by omega⟩
      exact ⟨off, sz, e1, e2⟩
theorem bldE_ok {t : TypeId} {ps : PL} {l : List (Nat × Value)} {K : VV → Ans} (hp : RP η ps l) (h : (bldE PP t ps K).ok) : ∃ v q, bldE PP t ps K = K v ∧ R η v (.agg q.toArray) ∧ buildL PP t l = some q := by
  unfold bldE at h ⊢
  obtain ⟨z, zv, e1, e2, e3, eo⟩ := zeroE_ok (η := η) h
  rw [e1] at h ⊢
  unfold buildL
  rw [e2]
  cases ht : tiE PP t with
  | arr n e sz =>
    rw [ht] at h
    obtain ⟨hu, hs⟩ := tiE_arr ht
    obtain ⟨d, q, e4, e5, e6, e7⟩ := fillE_ok (η := η) (pl := fun i => some (i * sz, sz)) (fun i Kp h => by
      obtain ⟨_, e⟩ := bA_ok (b := Nat.blt i n) h
      exact ⟨_, _, e, rfl⟩) hp e3 eo (h : (fillE (fun i K => bA (Nat.blt i n) (K (Nat.mul i sz) sz) (.no 102)) ps z fun c => K (.agg c)).ok)
    exact ⟨_, q, e4, by simp only [R]; exact ⟨q, e6, e7, rfl⟩, by simp only [hu, hs]; exact e5⟩
  | st =>
    rw [ht] at h
    obtain ⟨fs, hu⟩ := tiE_st ht
    have h : (Option.rec (motive := fun _ => Ans) (.no 103) (fun pl => bldS pl ps z K) (szE PP t) : Ans).ok := h
    show ∃ v q, (Option.rec (motive := fun _ => Ans) (.no 103) (fun pl => bldS pl ps z K) (szE PP t) : Ans) = K v ∧ _
    have hz : szE PP t = sizesOf PP fs.toList := by unfold szE; rw [hu]
    rw [hz] at h ⊢
    cases hs : sizesOf PP fs.toList with
    | none => rw [hs] at h; exact False.elim h
    | some pl =>
      rw [hs] at h
      obtain ⟨d, q, e4, e5, e6, e7⟩ := fillE_ok (η := η) (pl := fun i => pl[i]?) (fun i Kp h => nthP_ok h) hp e3 eo (h : (fillE (fun i K => nthP pl i K) ps z fun c => K (.agg c)).ok)
      exact ⟨_, q, e4, by simp only [R]; exact ⟨q, e6, e7, rfl⟩, by simp only [hu, hs]; exact e5⟩
  | _ => rw [ht] at h; exact False.elim h
theorem evE_ev (hf : FrR η fr vf) {x : Operand} {v : VV} {a : Value} (h : ev vf x = some a) (ha : R η v a) : onV (ev vf x) (· = a) := by rw [h]; rfl
theorem pure_ok (hf : FrR η fr vf) {o : Oper} {e : Env} {ty : TypeId} {h : H} {n : Nat} {K : KV} {Ku : KU} (hc : cls PP o.op = 0) (hk : (opE o.op e ty fr h n K Ku).ok) :
    ∃ v a, opE o.op e ty fr h n K Ku = K v h n ∧ R η v a ∧ pureV none PP vf o (· = a) := by
  unfold pureV
  cases hop : o.op <;> rw [hop] at hk hc <;> try exact False.elim hk
  case move x | assign x =>
    obtain ⟨v, a, e1, e2, e3⟩ := evE_ok (K := fun v => K v h n) hf hk
    exact ⟨v, a, e1, e3, by simp only [e2]; rfl⟩
  case pick c x y =>
    obtain ⟨v, a, e1, e2, e3⟩ := evE_ok (K := fun v => onBool v fun t => bA t (evE fr x fun v => K v h n) (evE fr y fun v => K v h n)) hf hk
    have hk : (evE fr c fun v => onBool v fun t => bA t (evE fr x fun v => K v h n) (evE fr y fun v => K v h n)).ok := hk
    rw [e1] at hk
    obtain ⟨b, rfl, e4⟩ := onBool_ok hk
    rw [e4] at hk
    simp only [R] at e3
    subst e3
    cases b with
    | true =>
      obtain ⟨v, a, e5, e6, e7⟩ := evE_ok hf (hk : (evE fr x fun v => K v h n).ok)
      exact ⟨v, a, (e1.trans (e4.trans e5) : (evE fr c fun v => onBool v fun t => bA t (evE fr x fun v => K v h n) (evE fr y fun v => K v h n)) = _), e7, by simp only [e2, e6]; rfl⟩
    | false =>
      obtain ⟨v, a, e5, e6, e7⟩ := evE_ok hf (hk : (evE fr y fun v => K v h n).ok)
      exact ⟨v, a, (e1.trans (e4.trans e5) : (evE fr c fun v => onBool v fun t => bA t (evE fr x fun v => K v h n) (evE fr y fun v => K v h n)) = _), e7, by simp only [e2, e6]; rfl⟩
  case build t ps =>
    have e0 : opE (.build t ps) e ty fr h n K Ku = partsE ps.toList fr fun ps => bldE PP t ps fun v => K v h n := rfl
    rw [e0] at hk ⊢
    obtain ⟨c, l, e1, e2, e3⟩ := partsE_ok hf hk
    rw [e1] at hk ⊢
    obtain ⟨v, q, e4, e5, e6⟩ := bldE_ok e3 hk
    exact ⟨v, _, e4, e5, by simp only [e2, e6, forceB_one, bigL_of e6]⟩
  case nilCheck x =>
    have e0 : opE (.nilCheck x) e ty fr h n K Ku = evE fr x fun v => nilE v fun v => K v h n := rfl
    rw [e0] at hk ⊢
    obtain ⟨v, a, e1, e2, e3⟩ := evE_ok hf hk
    rw [e1] at hk ⊢
    cases v <;> try exact False.elim hk
    · have e3' := e3
      simp only [R] at e3'
      obtain ⟨b, c, hkk, rfl⟩ := e3'
      exact ⟨_, _, rfl, e3, by simp only [e2]; rfl⟩
    · have e3' := e3
      simp only [R] at e3'
      obtain ⟨b, c, _, _, rfl⟩ := e3'
      exact ⟨_, _, rfl, e3, by simp only [e2]⟩
    · have e3' := e3
      simp only [R] at e3'
      obtain ⟨b, _, rfl⟩ := e3'
      exact ⟨_, _, rfl, e3, by simp only [e2]⟩
  case binOp op t x y yt =>
    have e0 : opE (.binOp op t x y yt) e ty fr h n K Ku = evE fr x fun a => evE fr y fun b => bA (eqTy op t a) (binE op t a b fun v => K v h n) (.no 281) := rfl
    rw [e0] at hk ⊢
    obtain ⟨v, a, e1, e2, e3⟩ := evE_ok hf hk
    rw [e1] at hk ⊢
    obtain ⟨u, b, e4, e5, e6⟩ := evE_ok hf hk
    rw [e4] at hk ⊢
    obtain ⟨f1, f2⟩ := bA_ok hk
    rw [f2] at hk ⊢
    obtain ⟨z, r, e7, e8, e9⟩ := binE_ok e3 e6 hk
    refine ⟨z, r, e7, e8, ?_⟩
    simp only [e2, e5]
    rcases e9 with e9 | ⟨q, -, -, e9⟩
    · exact e9
    · rw [e9] at hc; cases hc
  case unOp op t x =>
    have e0 : opE (.unOp op t x) e ty fr h n K Ku = evE fr x fun a => unE op a fun v => K v h n := rfl
    rw [e0] at hk ⊢
    obtain ⟨v, a, e1, e2, e3⟩ := evE_ok hf hk
    rw [e1] at hk ⊢
    obtain ⟨z, r, e7, e8, e9⟩ := unE_ok e3 hk
    exact ⟨z, r, e7, e8, by simp only [e2]; exact e9⟩
  case convert s d x =>
    have e0 : opE (.convert s d x) e ty fr h n K Ku = evE fr x fun v => convX e (tiE PP s) (tiE PP d) d v h n K := rfl
    rw [e0] at hk ⊢
    obtain ⟨v, a, e1, e2, e3⟩ := evE_ok hf hk
    rw [e1] at hk ⊢
    cases hs : tiE PP s <;> rw [hs] at hk <;> try exact False.elim hk
    ·
      have us := tiE_str hs
      cases hd : tiE PP d <;> rw [hd] at hk <;> try exact False.elim hk
      · have ud := tiE_str hd
        have hk : (onStr v fun n' y => K (.str n' y) h n).ok := hk
        obtain ⟨n', y, rfl, e4⟩ := onStr_ok hk
        have e3' := e3
        simp only [R] at e3'
        subst e3'
        exact ⟨_, _, e4, e3, by simp only [us, ud, e2]⟩
      · have ud := (tiE_sl hd).1
        simp only [cls, us, ud] at hc
        cases hc
    · have us := (tiE_sl hs).1
      cases hd : tiE PP d <;> rw [hd] at hk <;> try exact False.elim hk
      have ud := tiE_str hd
      simp only [cls, us, ud] at hc
      cases hc
    · have us := tiE_int hs
      cases hd : tiE PP d <;> rw [hd] at hk <;> try exact False.elim hk
      · have ud := tiE_int hd
        rename_i k0 k1
        have hk : (onInt v fun _ i => wrapE k1 i fun v => K v h n).ok := hk
        obtain ⟨k', i, rfl, e4⟩ := onInt_ok hk
        simp only [R] at e3
        subst e3
        exact ⟨_, .int k1 (k1.wrap i), (e4.trans (wrapE_eq ..) : _), by simp only [R], by simp only [us, ud, e2]⟩
  case makeInterface t x =>
    have e0 : opE (.makeInterface t x) e ty fr h n K Ku = bA (ifOk PP t) (evE fr x fun v => K (.ifc t v) h n) (.no 255) := rfl
    rw [e0] at hk ⊢
    obtain ⟨g1, g2⟩ := bA_ok hk
    rw [g2] at hk ⊢
    obtain ⟨v, a, e1, e2, e3⟩ := evE_ok hf hk
    refine ⟨_, .iface t a, e1, by simp only [R]; exact ⟨a, e3, rfl⟩, ?_⟩
    unfold ifOk at g1
    cases hu : PP.underlying t with
    | none => rw [hu] at g1; cases g1
    | some d => cases d <;> first | (simp only [hu, e2]; rfl) | (rw [hu] at g1; cases g1)
  case makeFunc f a b =>
    have e0 : opE (.makeFunc f a b) e ty fr h n K Ku = evsE a.toList fr fun fi => evsE b.toList fr fun ca => mkfE f fi ca fun v => K v h n := rfl
    rw [e0] at hk ⊢
    obtain ⟨c, l, e1, e2, e3⟩ := evsE_ok hf hk
    rw [e1] at hk ⊢
    obtain ⟨c', l', e4, e5, e6⟩ := evsE_ok hf hk
    rw [e4] at hk ⊢
    cases f <;> try exact False.elim hk
    exact ⟨_, _, rfl, by simp only [R]; exact ⟨l, l', e3, e6, rfl⟩, by simp only [e2, e5]⟩
  case slice t x lo hi mx =>
    have e0 : opE (.slice t x lo hi mx) e ty fr h n K Ku = evE fr x fun v => optE lo fr fun lo => optE hi fr fun hi => optE mx fr fun mx => slxE (tiE PP t) v lo hi mx fun v => K v h n := rfl
    rw [e0] at hk ⊢
    obtain ⟨v, a, e1, e2, e3⟩ := evE_ok hf hk
    rw [e1] at hk ⊢
    obtain ⟨l, il, g1, g2, g3⟩ := optE_ok hf hk
    rw [g1] at hk ⊢
    obtain ⟨hh, ih, g4, g5, g6⟩ := optE_ok hf hk
    rw [g4] at hk ⊢
    obtain ⟨m, im, g7, g8, g9⟩ := optE_ok hf hk
    rw [g7] at hk ⊢
    obtain ⟨u, b, g10, g11, g12⟩ := slxE_ok e3 g2 g5 g8 hk
    exact ⟨u, b, g10, g11, by simp only [e2, onV, onO, sliceV]; exact g3 _ (g6 _ (g9 _ g12))⟩
  case fieldAddr t x f =>
    have e0 : opE (.fieldAddr t x f) e ty fr h n K Ku = evE fr x fun v => fieldAddrE (fiE PP t f) v fun v => K v h n := rfl
    rw [e0] at hk ⊢
    obtain ⟨v, a, e1, e2, e3⟩ := evE_ok hf hk
    rw [e1] at hk ⊢
    cases hfi : fiE PP t f with
    | no => rw [hfi] at hk; exact False.elim hk
    | f off ft =>
      rw [hfi] at hk
      obtain ⟨fs, fd, m, g1, g2, g3, rfl, rfl⟩ := fiE_ok hfi
      have hk : (onPtr v fun k off => fN (Nat.add off fd.offset) fun off => K (.ptr k off) h n).ok := hk
      obtain ⟨k, off, rfl, e4⟩ := onPtr_ok hk
      rw [fN_eq] at e4
      simp only [R] at e3
      obtain ⟨b, c, hkk, rfl⟩ := e3
      exact ⟨_, _, e4, by simp only [R]; exact ⟨b, c, hkk, rfl⟩, by simp only [g1, e2, g2, g3, onP, addr_add]; rfl⟩
  case field t x f =>
    have e0 : opE (.field t x f) e ty fr h n K Ku = evE fr x fun v => fieldE PP (fiE PP t f) v fun v => K v h n := rfl
    rw [e0] at hk ⊢
    obtain ⟨v, a, e1, e2, e3⟩ := evE_ok hf hk
    rw [e1] at hk ⊢
    cases hfi : fiE PP t f with
    | no => rw [hfi] at hk; exact False.elim hk
    | f off ft =>
      rw [hfi] at hk
      obtain ⟨fs, fd, m, g1, g2, g3, rfl, rfl⟩ := fiE_ok hfi
      have hk : (onAgg v fun c => partE (piE PP fd.type) c fd.offset fun v => K v h n).ok := hk
      obtain ⟨c, rfl, e4⟩ := onAgg_ok hk
      rw [e4] at hk
      simp only [R] at e3
      obtain ⟨l, hl, ho, rfl⟩ := e3
      obtain ⟨u, b, e5, e6, e7, -⟩ := partE_ok hl ho hk
      exact ⟨u, b, (e4.trans e5 : _), e6, by simp only [g1, e2, g2]; exact e7⟩
  case indexAddr t x i =>
    have e0 : opE (.indexAddr t x i) e ty fr h n K Ku = evE fr x fun v => evE fr i fun i => onInt i fun _ i => indexAddrE (tiE PP t) v i fun v => K v h n := rfl
    rw [e0] at hk ⊢
    obtain ⟨v, a, e1, e2, e3⟩ := evE_ok hf hk
    rw [e1] at hk ⊢
    obtain ⟨vi, ai, e4, e5, e6⟩ := evE_ok hf hk
    rw [e4] at hk ⊢
    obtain ⟨kd, ii, rfl, e7⟩ := onInt_ok hk
    rw [e7] at hk ⊢
    simp only [R] at e6
    subst e6
    cases ht : tiE PP t <;> rw [ht] at hk <;> try exact False.elim hk
    · rename_i el sz
      obtain ⟨hu, hs⟩ := tiE_sl ht
      cases v <;> try exact False.elim hk
      · rename_i k off m c
        have hk : (ixE ii m fun a => addE k off a sz fun v => K v h n).ok := hk
        obtain ⟨j, rfl, hlt, e8⟩ := ixE_ok hk
        simp only [R] at e3
        obtain ⟨b, u, hkk, rfl⟩ := e3
        obtain ⟨w, e9, e10⟩ := addE_ok (off := off) (i := j) (sz := sz) (K := fun v => K v h n) hkk
        exact ⟨w, _, (e8.trans e9 : _), e10, by simp only [hu, e2, e5, hs, onP]; exact ⟨⟨by omega, by omega⟩, by simp⟩⟩
      · rename_i k off lo m
        have hk : (ixE ii m fun a => addE k off a sz fun v => K v h n).ok := hk
        obtain ⟨j, rfl, hlt, e8⟩ := ixE_ok hk
        simp only [R] at e3
        obtain ⟨b, u, hkk, _, rfl⟩ := e3
        obtain ⟨w, e9, e10⟩ := addE_ok (off := off) (i := j) (sz := sz) (K := fun v => K v h n) hkk
        exact ⟨w, _, (e8.trans e9 : _), e10, by simp only [hu, e2, e5, hs, onP]; exact ⟨⟨by omega, by omega⟩, by simp⟩⟩
    · rename_i m el sz
      obtain ⟨hu, hs⟩ := tiE_arr ht
      have hk : (onPtr v fun k off => ixE ii m fun a => addE k off a sz fun v => K v h n).ok := hk
      obtain ⟨k, off, rfl, e7'⟩ := onPtr_ok hk
      rw [e7'] at hk
      obtain ⟨j, rfl, hlt, e8⟩ := ixE_ok hk
      simp only [R] at e3
      obtain ⟨b, u, hkk, rfl⟩ := e3
      obtain ⟨w, e9, e10⟩ := addE_ok (off := off) (i := j) (sz := sz) (K := fun v => K v h n) hkk
      exact ⟨w, _, (e7'.trans (e8.trans e9) : _), e10, by simp only [hu, e2, e5, hs, onP]; exact ⟨⟨by omega, by omega⟩, by simp⟩⟩
  case index t x i =>
    have e0 : opE (.index t x i) e ty fr h n K Ku = evE fr x fun v => evE fr i fun i => onInt i fun _ i => indexE PP (tiE PP t) v i fun v => K v h n := rfl
    rw [e0] at hk ⊢
    obtain ⟨v, a, e1, e2, e3⟩ := evE_ok hf hk
    rw [e1] at hk ⊢
    obtain ⟨vi, ai, e4, e5, e6⟩ := evE_ok hf hk
    rw [e4] at hk ⊢
    obtain ⟨kd, ii, rfl, e7⟩ := onInt_ok hk
    rw [e7] at hk ⊢
    simp only [R] at e6
    subst e6
    cases ht : tiE PP t <;> rw [ht] at hk <;> try exact False.elim hk
    · have hu := tiE_str ht
      have hk : (onStr v fun m y => ixE ii m fun a => fN (byteAt y a) fun b => K (.int .u8 (.ofNat b)) h n).ok := hk
      obtain ⟨m, y, rfl, e8⟩ := onStr_ok hk
      rw [e8] at hk
      obtain ⟨j, rfl, hlt, e9⟩ := ixE_ok hk
      rw [fN_eq] at e9
      simp only [R] at e3
      subst e3
      refine ⟨_, _, (e8.trans e9 : _), .u8, ?_⟩
      simp only [hu, e2, e5, strOf_size]
      refine ⟨by omega, ?_⟩
      simp only [sb, Int.toNat_natCast, strOf_get, if_pos hlt, Option.getD_some, u8_nat (byte_lt _ _)]
    · rename_i m el sz
      obtain ⟨hu, hs⟩ := tiE_arr ht
      have hk : (onAgg v fun c => ixE ii m fun a => partE (piE PP el) c (Nat.mul a sz) fun v => K v h n).ok := hk
      obtain ⟨c, rfl, e8⟩ := onAgg_ok hk
      rw [e8] at hk
      obtain ⟨j, rfl, hlt, e9⟩ := ixE_ok hk
      rw [e9] at hk
      simp only [R] at e3
      obtain ⟨l, hl, ho, rfl⟩ := e3
      obtain ⟨u, b, e10, e11, e12, -⟩ := partE_ok hl ho hk
      refine ⟨u, b, (e8.trans (e9.trans e10) : _), e11, ?_⟩
      simp only [hu, e2, e5, hs, exVw]
      refine ⟨by omega, b, fun w => ?_, rfl⟩
      obtain ⟨v', hv, -, hrun⟩ := part_one e12
      subst hv
      simpa using hrun w
  case extract x i =>
    have e0 : opE (.extract x i) e ty fr h n K Ku = evE fr x fun v => onTup v fun c => nthC c i fun v => K v h n := rfl
    rw [e0] at hk ⊢
    obtain ⟨v, a, e1, e2, e3⟩ := evE_ok hf hk
    rw [e1] at hk ⊢
    obtain ⟨c, rfl, e4⟩ := onTup_ok hk
    rw [e4] at hk ⊢
    simp only [R] at e3
    obtain ⟨l, hl, rfl⟩ := e3
    obtain ⟨u, b, e5, e6, e7⟩ := nthC_ok hl hk
    refine ⟨u, b, e5, e7, ?_⟩
    have : l.toArray[i]? = some b := by simpa using e6
    simp only [e2, this]
  case call c =>
    have e0 : opE (.call c) e ty fr h n K Ku = evsE c.args.toList fr fun args => Callee.rec (motive := fun _ => Call → CV → Env → TypeId → F → H → Nat → KV → KU → Ans) (fun f _ args e _ fr h n K _ => evE fr f fun v => e.call e.B v args K h n) (fun _ _ _ _ _ _ _ _ _ _ _ => .no 160) (fun b c args e ty _ h n K _ => biltE e ty (c.argTypes.toList) b args h n K) c.callee c args e ty fr h n K Ku := rfl
    rw [e0] at hk ⊢
    obtain ⟨args, vs, e1, e2, e3⟩ := evsE_ok hf hk
    rw [e1] at hk ⊢
    cases hcl : c.callee with
    | value f => simp only [cls, hcl] at hc; cases hc
    | invoke a b => simp only [cls, hcl] at hc; cases hc
    | builtin b =>
      rw [hcl] at hk
      have hk : (biltE e ty (c.argTypes.toList) b args h n K).ok := hk
      show ∃ v a, biltE e ty (c.argTypes.toList) b args h n K = K v h n ∧ _
      cases b <;> simp only [cls, hcl] at hc <;> try (cases hc; done)
      · exact False.elim hk
      ·
        have hk : (args1 args fun x => onT c.argTypes.toList fun t => lenX (tiE PP t) e x h fun v => K v h n).ok := hk
        obtain ⟨x, a, rfl, ha, e4⟩ := args1_ok e3 hk
        rw [e4] at hk
        obtain ⟨xo, hxo, hev⟩ := evs_one_inv e2
        obtain ⟨t, ht, e5⟩ := onT_ok hk
        rw [e5] at hk
        have fin : ∀ (hk : (lenE (tiE PP t) PP x fun v => K v h n).ok) (e6 : (lenX (tiE PP t) e x h fun v => K v h n) = lenE (tiE PP t) PP x fun v => K v h n),
            ∃ v b, biltE e ty (c.argTypes.toList) .len args h n K = K v h n ∧ R η v b ∧ lenV PP c.argTypes a (· = b) := by
          intro hk e6
          obtain ⟨v, b, e7, e8, e9⟩ := lenE_ok ht ha hk
          exact ⟨v, b, (e4.trans (e5.trans (e6.trans e7)) : _), e8, e9⟩
        cases hti : tiE PP t with
        | no | st | int _ | oth => rw [hti] at hk; exact False.elim hk
        | mp k' e' =>
          exfalso
          simp only [ht, tiE_mp hti] at hc
          cases hc
        | str | sl _ _ | arr _ _ _ | ptr _ =>
          rw [hti] at hk
          obtain ⟨v, b, g1, g2, g3⟩ := fin (by rw [hti]; exact hk) (by rw [hti]; rfl)
          exact ⟨v, b, g1, g2, by simp only [hcl, hxo, hev, onV, onO]; exact g3⟩
      · have hk : (args2 args fun x y => mmE true x y fun v => K v h n).ok := hk
        obtain ⟨x, y, a, b, rfl, ha, hb, e4⟩ := args2_ok e3 hk
        rw [e4] at hk
        obtain ⟨xo, yo, hxo, hx, hy⟩ := evs_two_inv e2
        obtain ⟨k, k', p, q, v, r, rfl, rfl, e5, e6, e7⟩ := mmE_ok ha hb hk
        refine ⟨v, r, (e4.trans e5 : _), e6, ?_⟩
        simp only [hcl, hxo, hx, hy, e7, if_true, if_false, Bool.false_eq_true]
      · have hk : (args2 args fun x y => mmE false x y fun v => K v h n).ok := hk
        obtain ⟨x, y, a, b, rfl, ha, hb, e4⟩ := args2_ok e3 hk
        rw [e4] at hk
        obtain ⟨xo, yo, hxo, hx, hy⟩ := evs_two_inv e2
        obtain ⟨k, k', p, q, v, r, rfl, rfl, e5, e6, e7⟩ := mmE_ok ha hb hk
        refine ⟨v, r, (e4.trans e5 : _), e6, ?_⟩
        simp only [hcl, hxo, hx, hy, e7, if_true, if_false, Bool.false_eq_true]
  all_goals
    simp [cls] at hc
end
end Go.Ev
namespace Go.Ev
open Go Go.Vc
def stOf : Nat → LoopState
  | 0 => .ready
  | 1 => .busy
  | _ => .done
def pendOf : Nat → Option Code
  | 0 => none
  | 1 => some .ret
  | n + 2 => some (.exit n)
def ESR (η : Eta) : ES → List (Value × Value × Nat) → Prop
  | .nl, l => l = []
  | .e k v j r, l => ∃ x y i c q, R η k x ∧ R η v y ∧ η j = some (i, c) ∧ ESR η r q ∧ l = (x, y, i) :: q
def Hom (s : Nat) : ES → Prop
  | .nl => True
  | .e k _ _ r => shp k = s ∧ Hom s r
def tri (e : MapEntry) : Value × Value × Nat := (e.key, e.val, e.born)
def SnR (η : Eta) : List Nat → List Nat → Prop
  | [], l => l = []
  | j :: r, l => ∃ i c q, η j = some (i, c) ∧ SnR η r q ∧ l = i :: q
def ObjAt (η : Eta) (w : World) (k : Nat) : VO → Prop
  | .no => True
  | .cells t c => ∃ b u l, η k = some (b, u) ∧ RC η c l ∧ (∀ x ∈ l, x.oneCell' = true) ∧ Blk w b l t
  | .own t m c => ∃ b u l sz, η k = some (b, u) ∧ RC η c l ∧ (∀ x ∈ l, x.oneCell' = true) ∧ sizeV PP t = some sz ∧ Own w 0 t sz (some ⟨b, 0, none⟩) m u l
  | .map ck es => ∃ b u ents l s, η k = some (b, u) ∧ w.heap[b]? = some (.map ents ck) ∧ ESR η es l ∧ l.Perm (ents.toList.map tri) ∧ Hom s es ∧ s ≠ 0 ∧ (l.map (·.1)).Nodup ∧ (ents.toList.map (·.born)).Nodup ∧ ∀ e ∈ ents.toList, e.born < ck
  | .iter b0 ck seen => ∃ b u B0 u0 sn, η k = some (b, u) ∧ η b0 = some (B0, u0) ∧ w.heap[b]? = some (.mapIter (some B0) ck sn ck) ∧ SnR η seen sn.toList.reverse
  | .itn => ∃ b u, η k = some (b, u) ∧ w.heap[b]? = some (.mapIter none 0 #[] 0)
  | .lp nt fr ps a bd st pend D => ∃ b u DB ud f0 tm vf, η k = some (b, u) ∧ η D = some (DB, ud) ∧ w.heap[b]? = some (.loop { state := stOf st, pending := pendOf pend, fn := f0, tmps := tm, params := ps.toArray, assign := a, body := bd, defers := DB }) ∧ FrR η fr vf ∧ Ref nt [] vf { tmps := tm, defers := [] } ∧ rfOk nt ps a bd = true
  | .dfd => ∃ b u, η k = some (b, u) ∧ w.heap[b]? = some (.deferred (some []))
structure Rel (η : Eta) (B : Base) (h : H) (n : Nat) (w : World) : Prop where
  fresh : ∀ k, n ≤ k → k < B.m → η k = none
  lo : B.lo ≤ n
  obj : ∀ k, ObjAt η w k (look B h k)
  inj : ∀ k k' b c c', look B h k ≠ .no → look B h k' ≠ .no → η k = some (b, c) → η k' = some (b, c') → k = k'
  kept : Chg [] η.w0 w
  young : ∀ k b c, look B h k ≠ .no → η k = some (b, c) → η.w0.heap.size ≤ b
theorem chg_old {w0 w w' : World} (h : Chg [] w0 w) {S : List Nat} (h' : Chg S w w') (hS : ∀ b ∈ S, w0.heap.size ≤ b) : Chg [] w0 w' :=
  ⟨h'.1.trans h.1, h'.2.1.trans h.2.1, h'.2.2.1.trans h.2.2.1, Nat.le_trans h.size h'.size, fun k hk _ => (h'.2.2.2.2 k (Nat.lt_of_lt_of_le hk h.size) fun hm => by have := hS k hm; omega).trans (h.2.2.2.2 k hk (by simp))⟩
section
variable {η η' : Eta}
theorem ESR.mono (he : Ext η η') : ∀ {es : ES} {l : List (Value × Value × Nat)}, ESR η es l → ESR η' es l
  | .nl, l, h => h
  | .e k v j r, l, h => by
    obtain ⟨x, y, i, c, q, h1, h2, h3, h4, h5⟩ := h
    exact ⟨x, y, i, c, q, h1.mono he, h2.mono he, he _ _ h3, ESR.mono he h4, h5⟩
theorem SnR.mono (he : Ext η η') : ∀ {s l : List Nat}, SnR η s l → SnR η' s l
  | [], l, h => h
  | j :: r, l, h => by
    obtain ⟨i, c, q, h1, h2, h3⟩ := h
    exact ⟨i, c, q, he _ _ h1, SnR.mono he h2, h3⟩
theorem ObjAt.mono (he : Ext η η') {w : World} {k : Nat} : ∀ {o : VO}, ObjAt η w k o → ObjAt η' w k o
  | .no, h => h
  | .cells t c, h => by
    obtain ⟨b, u, l, h1, h2, h3, h4⟩ := h
    exact ⟨b, u, l, he _ _ h1, h2.mono he, h3, h4⟩
  | .own t m c, h => by
    obtain ⟨b, u, l, sz, h1, h2, h3, h4, h5⟩ := h
    exact ⟨b, u, l, sz, he _ _ h1, h2.mono he, h3, h4, h5⟩
  | .map ck es, h => by
    obtain ⟨b, u, ents, l, s, h1, h2, h3, h4⟩ := h
    exact ⟨b, u, ents, l, s, he _ _ h1, h2, h3.mono he, h4⟩
  | .iter b0 ck seen, h => by
    obtain ⟨b, u, B0, u0, sn, h1, h2, h3, h4⟩ := h
    exact ⟨b, u, B0, u0, sn, he _ _ h1, he _ _ h2, h3, h4.mono he⟩
  | .itn, h => by
    obtain ⟨b, u, h1, h2⟩ := h
    exact ⟨b, u, he _ _ h1, h2⟩
  | .lp nt fr ps a bd st pend D, h => by
    obtain ⟨b, u, DB, ud, f0, tm, vf, h1, h2, h3, h4, h5⟩ := h
    exact ⟨b, u, DB, ud, f0, tm, vf, he _ _ h1, he _ _ h2, h3, h4.mono he, h5⟩
  | .dfd, h => by
    obtain ⟨b, u, h1, h2⟩ := h
    exact ⟨b, u, he _ _ h1, h2⟩
theorem ObjAt.at {w : World} {k : Nat} {o : VO} (h : ObjAt η w k o) (hn : o ≠ .no) : ∃ b u x, η k = some (b, u) ∧ w.heap[b]? = some x := by
  cases o with
  | no => exact absurd rfl hn
  | cells t c => obtain ⟨b, u, l, h1, h2, h3, h4⟩ := h; exact ⟨b, u, _, h1, h4⟩
  | own t m c =>
    obtain ⟨b, u, l, sz, h1, h2, h3, h4, h5⟩ := h
    rcases h5.2 with ⟨h6, _⟩ | ⟨g, cur, fz, h6, _, h7, _⟩
    · cases h6
    · cases h6; exact ⟨_, u, _, h1, h7⟩
  | map ck es => obtain ⟨b, u, ents, l, s, h1, h2, _⟩ := h; exact ⟨b, u, _, h1, h2⟩
  | iter b0 ck seen => obtain ⟨b, u, B0, u0, sn, h1, h2, h3, h4⟩ := h; exact ⟨b, u, _, h1, h3⟩
  | itn => obtain ⟨b, u, h1, h2⟩ := h; exact ⟨b, u, _, h1, h2⟩
  | lp nt fr ps a bd st pend D => obtain ⟨b, u, DB, ud, f0, tm, vf, h1, h2, h3, h4, h5⟩ := h; exact ⟨b, u, _, h1, h3⟩
  | dfd => obtain ⟨b, u, h1, h2⟩ := h; exact ⟨b, u, _, h1, h2⟩
theorem ObjAt.keep {w w' : World} {k : Nat} {o : VO} (h : ObjAt η w k o) {S : List Nat} (hc : Chg S w w') (hs : ∀ b u, η k = some (b, u) → b ∉ S) : ObjAt η w' k o := by
  cases o with
  | no => trivial
  | cells t c => obtain ⟨b, u, l, h1, h2, h3, h4⟩ := h; exact ⟨b, u, l, h1, h2, h3, h4.chg hc (hs _ _ h1)⟩
  | own t m c =>
    obtain ⟨b, u, l, sz, h1, h2, h3, h4, h5⟩ := h
    exact ⟨b, u, l, sz, h1, h2, h3, h4, h5.chg hc fun k hk => by simp [blks] at hk; subst hk; exact hs _ _ h1⟩
  | map ck es => obtain ⟨b, u, ents, l, s, h1, h2, h3⟩ := h; exact ⟨b, u, ents, l, s, h1, hc.block h2 (hs _ _ h1), h3⟩
  | iter b0 ck seen => obtain ⟨b, u, B0, u0, sn, h1, h2, h3, h4⟩ := h; exact ⟨b, u, B0, u0, sn, h1, h2, hc.block h3 (hs _ _ h1), h4⟩
  | itn => obtain ⟨b, u, h1, h2⟩ := h; exact ⟨b, u, h1, hc.block h2 (hs _ _ h1)⟩
  | lp nt fr ps a bd st pend D => obtain ⟨b, u, DB, ud, f0, tm, vf, h1, h2, h3, h4, h5⟩ := h; exact ⟨b, u, DB, ud, f0, tm, vf, h1, h2, hc.block h3 (hs _ _ h1), h4, h5⟩
  | dfd => obtain ⟨b, u, h1, h2⟩ := h; exact ⟨b, u, h1, hc.block h2 (hs _ _ h1)⟩
def CellsAt (w : World) (b : Nat) (l : List Value) : Prop := ∀ j v, l[j]? = some v → w.cell? ⟨b, j, none⟩ = some v
theorem onCells_ok {w : World} {k b u : Nat} {o : VO} {K : CV → Ans} (hk : η k = some (b, u)) (ho : ObjAt η w k o) (h : (onCells o K).ok) : ∃ c l, onCells o K = K c ∧ RC η c l ∧ (∀ x ∈ l, x.oneCell' = true) ∧ CellsAt w b l := by
  cases o with
  | cells t c =>
    obtain ⟨b', u', l, h1, h2, h3, h4⟩ := ho
    rw [hk] at h1; cases h1
    exact ⟨c, l, rfl, h2, h3, fun j v hj => h4.cell hj⟩
  | own t m c =>
    obtain ⟨b', u', l, sz, h1, h2, h3, h4, h5⟩ := ho
    rw [hk] at h1; cases h1
    refine ⟨c, l, rfl, h2, h3, fun j v hj => ?_⟩
    obtain ⟨ad, e, hc⟩ := h5.cells j v hj
    cases e
    rw [add_lit] at hc
    simpa using hc
  | _ => exact False.elim h
variable {B : Base} {h : H} {n : Nat} {w : World}
theorem aggB_sc {t : TypeId} (hp : PIs PP t .sc) : aggB PP t = some false := by
  obtain ⟨d, hu, h1, h2⟩ := hp
  unfold aggB
  rw [hu]
  cases d <;> first
    | exact absurd rfl (h1 _)
    | exact absurd rfl (h2 _ _)
    | rfl
theorem aggB_ag {t : TypeId} {m : Nat} (hp : PIs PP t (.ag m)) : aggB PP t = some true := by
  obtain ⟨-, ⟨fs, hu⟩ | ⟨_, _, hu⟩⟩ := hp <;> unfold aggB <;> rw [hu]
theorem cells_ld {t : TypeId} {b off : Nat} {l : List Value} {a : Value} (hc : CellsAt w b l) (h : PIs PP t .sc ∧ l[off]? = some a ∨ ∃ n, PIs PP t (.ag n) ∧ a = .agg ((l.drop off).take n).toArray ∧ off + n ≤ l.length) : Ld PP t w ⟨b, off, none⟩ a := by
  rcases h with ⟨hp, h⟩ | ⟨m, hp, rfl, hl⟩
  · exact ld_cell (aggB_sc hp) (hc _ _ h)
  · have e : ((l.drop off).take m).length = m := by rw [List.length_take, List.length_drop]; omega
    refine ld_agg (aggB_ag hp) (by rw [e]; exact hp.1) fun j v hj => ?_
    rw [add_lit]
    refine hc _ _ ?_
    rw [List.getElem?_take] at hj
    split at hj
    · rw [List.getElem?_drop] at hj; exact hj
    · cases hj
theorem loadE_ok (H0 : Rel η B h n w) {e : Env} (he : e.B = B) {t : TypeId} {p : VV} {pa : Value} {K : VV → Ans} (hp : R η p pa) (hk : (loadE e h (piE PP t) p K).ok) :
    ∃ v a ad, loadE e h (piE PP t) p K = K v ∧ R η v a ∧ pa = .pointer (some ad) ∧ Ld PP t w ad a := by
  subst he
  unfold loadE at hk ⊢
  obtain ⟨k, off, rfl, e1⟩ := onPtr_ok hk
  rw [e1] at hk ⊢
  simp only [R] at hp
  obtain ⟨b, u, hkk, rfl⟩ := hp
  obtain ⟨c, l, e2, h2, h3, h4⟩ := onCells_ok hkk (H0.obj k) hk
  rw [e2] at hk ⊢
  obtain ⟨v, a, e3, e4, -, e5⟩ := partE_ok h2 h3 hk
  exact ⟨v, a, _, e3, e4, rfl, cells_ld h4 e5⟩
theorem cut_ok {c : CV} {l : List Value} {off m : Nat} {K : CV → Ans} (hc : RC η c l) (h : (dropC c off fun c => takeC c m K).ok) : ∃ d, (dropC c off fun c => takeC c m K) = K d ∧ RC η d ((l.drop off).take m) ∧ off + m ≤ l.length := by
  obtain ⟨c1, e1, e2, e3⟩ := dropC_ok hc h
  rw [e1] at h ⊢
  obtain ⟨c2, e4, e5, e6⟩ := takeC_ok e2 h
  rw [List.length_drop] at e6
  exact ⟨c2, e4, e5, by omega⟩
theorem readS_ok (H0 : Rel η B h n w) {e : Env} (he : e.B = B) {sz : Nat} {tx : TypeId} (ht : (∃ e', PP.underlying tx = some (.slice e')) ∨ (PP.underlying tx = some .string ∧ sz = 1)) {x : VV} {a : Value} {K : CV → Nat → Ans}
    (hty : (∃ e', PP.underlying tx = some (.slice e')) ↔ ∀ n y, x ≠ .str n y) (hx : R η x a) (hk : (readS e h sz x K).ok) :
    ∃ c m l, readS e h sz x K = K c m ∧ RC η c l ∧ Src PP sz tx a m l w ∧ l.length = m * sz ∧ ((∀ n y, x ≠ .str n y) → ∃ ad c', a = .slice ad m c' ∧ Cells w ad l) := by
  subst he
  have hsl : (∀ n y, x ≠ .str n y) → ∃ e', PP.underlying tx = some (.slice e') := hty.2
  cases x with
  | nils =>
    obtain ⟨e', hu⟩ := hsl fun _ _ h => (by cases h)
    simp only [R] at hx
    subst hx
    exact ⟨.nl, 0, [], rfl, .nl, Src.ofNil _ hu 0, by simp, fun _ => ⟨none, 0, rfl, fun j v hj => by simp at hj⟩⟩
  | sl k off m c0 =>
    obtain ⟨e', hu⟩ := hsl fun _ _ h => (by cases h)
    simp only [R] at hx
    obtain ⟨b, u, hkk, rfl⟩ := hx
    have e0 : readS e h sz (.sl k off m c0) K = onCells (look e.B h k) fun c => dropC c off fun c => takeC c (Nat.mul m sz) fun c => K c m := rfl
    rw [e0] at hk ⊢
    obtain ⟨c, l, e2, h2, h3, h4⟩ := onCells_ok hkk (H0.obj k) hk
    rw [e2] at hk ⊢
    obtain ⟨d, e3, e4, e5⟩ := cut_ok (K := fun c => K c m) h2 hk
    have e5' : off + m * sz ≤ l.length := e5
    have hlen : ((l.drop off).take (m * sz)).length = m * sz := by rw [List.length_take, List.length_drop]; omega
    have hcl : ∀ j v, ((l.drop off).take (m * sz))[j]? = some v → w.cell? (Addr.add ⟨b, off, none⟩ j) = some v := by
      intro j v hj
      rw [add_lit]
      refine h4 _ _ ?_
      rw [List.getElem?_take] at hj
      split at hj
      · rw [List.getElem?_drop] at hj; exact hj
      · cases hj
    exact ⟨d, m, _, e3, e4, Src.ofSlice _ hu ⟨b, off, none⟩ m c0 _ hlen hcl (fun v hv => h3 v (List.mem_of_mem_drop (List.mem_of_mem_take hv))), hlen, fun _ => ⟨_, _, rfl, fun j v hj => ⟨_, rfl, hcl j v hj⟩⟩⟩
  | sg k off lo m =>
    obtain ⟨e', hu⟩ := hsl fun _ _ h => (by cases h)
    simp only [R] at hx
    obtain ⟨b, u, hkk, hlo, rfl⟩ := hx
    have e0 : readS e h sz (.sg k off lo m) K = onCells (look e.B h k) fun c => dropC c off fun c => takeC c (Nat.mul m sz) fun c => K c m := rfl
    rw [e0] at hk ⊢
    obtain ⟨c, l, e2, h2, h3, h4⟩ := onCells_ok hkk (H0.obj k) hk
    rw [e2] at hk ⊢
    obtain ⟨d, e3, e4, e5⟩ := cut_ok (K := fun c => K c m) h2 hk
    have e5' : off + m * sz ≤ l.length := e5
    have hlen : ((l.drop off).take (m * sz)).length = m * sz := by rw [List.length_take, List.length_drop]; omega
    have hcl : ∀ j v, ((l.drop off).take (m * sz))[j]? = some v → w.cell? (Addr.add ⟨b, off, none⟩ j) = some v := by
      intro j v hj
      rw [add_lit]
      refine h4 _ _ ?_
      rw [List.getElem?_take] at hj
      split at hj
      · rw [List.getElem?_drop] at hj; exact hj
      · cases hj
    exact ⟨d, m, _, e3, e4, Src.ofSlice _ hu ⟨b, off, none⟩ m _ _ hlen hcl (fun v hv => h3 v (List.mem_of_mem_drop (List.mem_of_mem_take hv))), hlen, fun _ => ⟨_, _, rfl, fun j v hj => ⟨_, rfl, hcl j v hj⟩⟩⟩
  | str m y =>
    rcases ht with ht | ⟨hu, rfl⟩
    · exact absurd rfl (hty.1 ht m y)
    · simp only [R] at hx
      subst hx
      have e0 : readS e h 1 (.str m y) K = bA (Nat.beq m 0) (K .nl 0) (K (.cb m y .nl) m) := rfl
      have hb : byteCells (strOf m y) = bytesL m y := by
        unfold byteCells bytesL
        rw [strOf_list, List.map_map]
        apply List.map_congr_left
        intro i _
        show Value.int .u8 ((UInt8.ofNat (byteAt y i)).toNat : Int) = _
        rw [u8_nat (byte_lt _ _)]
      have hs := Src.ofString (P := PP) w hu (strOf m y)
      rw [strOf_size, hb] at hs
      cases hz : Nat.beq m 0 with
      | true =>
        obtain rfl := beq_t hz
        exact ⟨.nl, 0, [], by rw [e0, hz]; rfl, .nl, hs, by simp, fun h => absurd rfl (h _ _)⟩
      | false => exact ⟨.cb m y .nl, m, _, by rw [e0, hz]; rfl, by simpa using RC.cb (η := η) (n := m) (x := y) .nl, hs, by rw [bytesL_len]; omega, fun h => absurd rfl (h _ _)⟩
  | _ => exact False.elim hk
end
end Go.Ev
namespace Go.Ev
open Go Go.Vc
theorem look_lt {B : Base} {h : H} {k : Nat} (hk : k < B.lo) : look B h k = B.hb k := by
  unfold look; rw [show Nat.blt k B.lo = true from Nat.ble_eq_true_of_le hk]
theorem look_ge {B : Base} {h : H} {k : Nat} (hk : B.lo ≤ k) : look B h k = getH k h := by
  unfold look
  cases hb : Nat.blt k B.lo with
  | false => rfl
  | true => have := blt_t hb; omega
structure Grow (η η' : Eta) (n n' m : Nat) : Prop where
  le : n ≤ n'
  same : ∀ k, k < n ∨ m ≤ k → η' k = η k
  w0 : η'.w0 = η.w0
theorem Grow.refl (η : Eta) (n m : Nat) : Grow η η n n m := ⟨Nat.le_refl _, fun _ _ => rfl, rfl⟩
theorem Grow.trans {a b c : Eta} {n n' n'' m : Nat} (h : Grow a b n n' m) (h' : Grow b c n' n'' m) : Grow a c n n'' m :=
  ⟨Nat.le_trans h.le h'.le, fun k hk => by rw [h'.same k (by have := h.le; omega), h.same k hk], h'.w0.trans h.w0⟩
section
variable {η η' : Eta} {B : Base} {h h' : H} {n n' : Nat} {w w' : World}
theorem Rel.ext (H0 : Rel η B h n w) (hg : Grow η η' n n' B.m) : Ext η η' := by
  intro k p hk
  by_cases h1 : n ≤ k ∧ k < B.m
  · rw [H0.fresh k h1.1 h1.2] at hk; cases hk
  · rw [hg.same k (by omega)]; exact hk
theorem Rel.upd (H0 : Rel η B h n w) {k : Nat} {o : VO} (hk : B.lo ≤ k) (hh : ∀ k', getH k' h' = if k' = k then o else getH k' h) (ho : ObjAt η w' k o) {S : List Nat} (hc : Chg S w w')
    (hS : ∀ k' b c, k' ≠ k → look B h k' ≠ .no → η k' = some (b, c) → b ∉ S) (hi : o ≠ .no → look B h k ≠ .no) (hS2 : ∀ b ∈ S, η.w0.heap.size ≤ b) : Rel η B h' n w' := by
  have hl : ∀ k', look B h' k' = if k' = k then o else look B h k' := by
    intro k'
    by_cases h1 : k' < B.lo
    · rw [look_lt h1, look_lt h1, if_neg (by omega)]
    · rw [look_ge (by omega), hh, look_ge (by omega)]
  have g : ∀ k', look B h' k' ≠ .no → look B h k' ≠ .no := by
    intro k' hn
    rw [hl] at hn
    by_cases e : k' = k
    · subst e; rw [if_pos rfl] at hn; exact hi hn
    · rw [if_neg e] at hn; exact hn
  refine ⟨H0.fresh, H0.lo, fun k' => ?_, fun k1 k2 b c c' g1 g2 e1 e2 => H0.inj k1 k2 b c c' (g _ g1) (g _ g2) e1 e2, chg_old H0.kept hc hS2, fun k b c g1 => H0.young k b c (g _ g1)⟩
  · rw [hl]
    by_cases e : k' = k
    · subst e; rw [if_pos rfl]; exact ho
    · rw [if_neg e]
      by_cases hn : look B h k' = .no
      · rw [hn]; trivial
      · exact (H0.obj k').keep hc fun b u hb => hS k' b u e hn hb
theorem Rel.put (H0 : Rel η B h n w) {k b u : Nat} {o : VO} (hk : B.lo ≤ k) (hb : η k = some (b, u)) (hn : look B h k ≠ .no) (hh : ∀ k', getH k' h' = if k' = k then o else getH k' h) (ho : ObjAt η w' k o) (hc : Chg [b] w w') : Rel η B h' n w' :=
  H0.upd hk hh ho hc (fun k' b' c hne hl he hmem => by
    simp at hmem
    subst hmem
    exact hne (H0.inj k' k b' c u hl hn he hb)) (fun _ => hn) fun b' hm => by
    rw [List.mem_singleton.1 hm]
    exact H0.young k b u hn hb
theorem Rel.drop (H0 : Rel η B h n w) {k : Nat} (hk : B.lo ≤ k) (hh : ∀ k', getH k' h' = if k' = k then .no else getH k' h) : Rel η B h' n w :=
  H0.upd (o := .no) hk hh trivial (Chg.refl [] w) (fun _ _ _ _ _ _ hm => by cases hm) (fun h => absurd rfl h) fun _ hm => by cases hm
theorem Rel.chg (H0 : Rel η B h n w) (hc : Chg [] w w') : Rel η B h n w' :=
  ⟨H0.fresh, H0.lo, fun k => (H0.obj k).keep hc (fun _ _ _ hm => (by cases hm)), H0.inj, chg_old H0.kept hc (fun _ hm => by cases hm), H0.young⟩
def addE' (η : Eta) (n : Nat) (p : Nat × Nat) : Eta := ⟨fun k => if k = n then some p else η k, η.w0⟩
theorem addE'_self (η : Eta) (n : Nat) (p : Nat × Nat) : addE' η n p n = some p := if_pos rfl
theorem addE'_grow (η : Eta) {n m : Nat} (p : Nat × Nat) (hm : n < m) : Grow η (addE' η n p) n (n + 1) m := ⟨Nat.le_succ n, fun k hk => if_neg (by omega), rfl⟩
theorem Rel.num (H0 : Rel η B h n w) (p : Nat × Nat) (hm : n < B.m) : Rel (addE' η n p) B h (n + 1) w := by
  have hg := addE'_grow η p hm
  have he := H0.ext hg
  have hne : ∀ k', look B h k' ≠ .no → k' ≠ n := by
    intro k' hl e
    subst e
    obtain ⟨b, u, x, hb, _⟩ := (H0.obj k').at hl
    rw [H0.fresh k' (Nat.le_refl _) hm] at hb; cases hb
  refine ⟨fun k h1 h2 => ?_, Nat.le_succ_of_le H0.lo, fun k => (H0.obj k).mono he, fun k k' b c c' g1 g2 e1 e2 => ?_, H0.kept, fun k b c g1 e1 => ?_⟩
  · show (if k = n then some p else η k) = none
    rw [if_neg (by omega)]; exact H0.fresh k (by omega) h2
  · have f1 : η k = some (b, c) := by
      have e1 : (if k = n then some p else η k) = some (b, c) := e1
      rwa [if_neg (hne k g1)] at e1
    have f2 : η k' = some (b, c') := by
      have e2 : (if k' = n then some p else η k') = some (b, c') := e2
      rwa [if_neg (hne k' g2)] at e2
    exact H0.inj k k' b c c' g1 g2 f1 f2
  · have e1 : (if k = n then some p else η k) = some (b, c) := e1
    rw [if_neg (hne k g1)] at e1
    exact H0.young k b c g1 e1
theorem Rel.num_no (H0 : Rel η B h n w) (hm : n < B.m) : look B h n = .no := by
  by_cases hl : look B h n = .no
  · exact hl
  · obtain ⟨b, u, x, hb, _⟩ := (H0.obj n).at hl
    rw [H0.fresh n (Nat.le_refl _) hm] at hb; cases hb
theorem Rel.new (H0 : Rel η B h n w) {b u : Nat} {o : VO} (hm : n < B.m) (hh : ∀ k', getH k' h' = if k' = n then o else getH k' h) (hc : Chg [] w w') (hb : w.heap.size ≤ b) (ho : ObjAt (addE' η n (b, u)) w' n o) :
    Rel (addE' η n (b, u)) B h' (n + 1) w' := by
  have H1 := (H0.num (b, u) hm).chg hc
  have hl : ∀ k', look B h' k' = if k' = n then o else look B h k' := by
    intro k'
    by_cases h1 : k' < B.lo
    · rw [look_lt h1, look_lt h1, if_neg (by have := H0.lo; omega)]
    · rw [look_ge (by omega), hh, look_ge (by omega)]
  have old : ∀ k b' c, k ≠ n → look B h k ≠ .no → addE' η n (b, u) k = some (b', c) → b' < w.heap.size := by
    intro k b' c hne hn he
    have he : (if k = n then some (b, u) else η k) = some (b', c) := he
    rw [if_neg hne] at he
    obtain ⟨b2, u2, x, h2, h3⟩ := (H0.obj k).at hn
    rw [he] at h2; cases h2
    exact (Array.getElem?_eq_some_iff.1 h3).1
  refine ⟨H1.fresh, H1.lo, fun k' => ?_, fun k1 k2 b' c c' g1 g2 e1 e2 => ?_, H1.kept, fun k1 b' c g1 e1 => ?_⟩
  · rw [hl]
    by_cases e : k' = n
    · subst e; rw [if_pos rfl]; exact ho
    · rw [if_neg e]; exact H1.obj k'
  · rw [hl] at g1 g2
    by_cases f1 : k1 = n <;> by_cases f2 : k2 = n
    · rw [f1, f2]
    · subst f1
      rw [if_neg f2] at g2
      have := old k2 b' c' f2 g2 e2
      rw [addE'_self] at e1; cases e1
      omega
    · subst f2
      rw [if_neg f1] at g1
      have := old k1 b' c f1 g1 e1
      rw [addE'_self] at e2; cases e2
      omega
    · rw [if_neg f1] at g1
      rw [if_neg f2] at g2
      exact H1.inj k1 k2 b' c c' g1 g2 e1 e2
  · rw [hl] at g1
    by_cases f1 : k1 = n
    · subst f1
      rw [addE'_self] at e1; cases e1
      have := H0.kept.size
      show η.w0.heap.size ≤ _
      omega
    · rw [if_neg f1] at g1
      exact H1.young k1 b' c g1 e1
theorem wr_ok {e : Env} {k : Nat} {o : VO} {K : H → Ans} (hk : (wr e k o h K).ok) : ∃ h', wr e k o h K = K h' ∧ e.B.lo ≤ k ∧ ∀ k', getH k' h' = if k' = k then o else getH k' h := by
  unfold wr at hk ⊢
  obtain ⟨e1, e2⟩ := bA_no hk
  rw [e2] at hk ⊢
  obtain ⟨h', e3, e4⟩ := setH_ok hk
  exact ⟨h', e3, blt_f e1, e4⟩
theorem newH_ok {e : Env} {o : VO} {K : Nat → H → Nat → Ans} (hk : (newH e o h n K).ok) : ∃ h', newH e o h n K = K n h' (n + 1) ∧ n < e.B.m ∧ ∀ k', getH k' h' = if k' = n then o else getH k' h := by
  unfold newH at hk ⊢
  obtain ⟨e1, e2⟩ := bA_ok hk
  rw [e2] at hk ⊢
  obtain ⟨h', e3, e4⟩ := setH_ok hk
  exact ⟨h', by rw [e3, fN_eq], blt_t e1, e4⟩
end
end Go.Ev
namespace Go.Ev
open Go Go.Vc
section
variable {η η' : Eta} {B : Base} {h h' : H} {n n' : Nat} {w w' : World} {e : Env}
theorem newO_ok (H0 : Rel η e.B h n w) {o : VO} {K : Nat → H → Nat → Ans} (hk : (newH e o h n K).ok) : ∃ h', newH e o h n K = K n h' (n + 1) ∧ n < e.B.m ∧
    ∀ (b u : Nat) (w1 : World), Chg [] w w1 → w.heap.size ≤ b → ObjAt (addE' η n (b, u)) w1 n o → Rel (addE' η n (b, u)) e.B h' (n + 1) w1 ∧ Grow η (addE' η n (b, u)) n (n + 1) e.B.m := by
  obtain ⟨h', e1, e2, e3⟩ := newH_ok hk
  exact ⟨h', e1, e2, fun b u w1 hc hb ho => ⟨H0.new e2 e3 hc hb ho, addE'_grow η _ e2⟩⟩
theorem newC_ok (H0 : Rel η e.B h n w) {t : Nat} {c : CV} {l : List Value} (hc : RC η c l) (ho : ∀ x ∈ l, x.oneCell' = true) {K : Nat → H → Nat → Ans} (hk : (newH e (.cells t c) h n K).ok) :
    ∃ h', newH e (.cells t c) h n K = K n h' (n + 1) ∧ ∀ (b : Nat) (w1 : World), New w (.cells l.toArray t) b w1 → ∃ η', Rel η' e.B h' (n + 1) w1 ∧ Grow η η' n (n + 1) e.B.m ∧ η' n = some (b, 0) := by
  obtain ⟨h', e1, e2, e3⟩ := newO_ok H0 hk
  refine ⟨h', e1, fun b w1 hn => ?_⟩
  obtain ⟨g1, g2⟩ := e3 b 0 w1 hn.chg (by rw [hn.num]; exact Nat.le_refl _) ⟨b, 0, l, addE'_self .., hc.mono (H0.ext (addE'_grow η _ e2)), ho, hn.cells⟩
  exact ⟨_, g1, g2, addE'_self ..⟩
structure EltY (e : Nat) (sz by_ : Nat) : Prop where
  row : ∃ i z, PP.info? e = some i ∧ i.zero = some z ∧ i.size = sz ∧ i.bytes = by_ ∧ z.cells.size = sz
theorem elY_ok {el sz : Nat} (hs : sizeV PP el = some sz) {K : Nat → Ans} (hk : (onN (elY PP el) K).ok) : ∃ by_, onN (elY PP el) K = K by_ ∧ EltY el sz by_ := by
  unfold elY at hk ⊢
  unfold sizeV at hs
  cases hi : PP.info? el with
  | none => rw [hi] at hs; cases hs
  | some i =>
    rw [hi] at hs
    cases hs
    simp only [hi] at hk ⊢
    cases hz : i.zero with
    | none => simp only [hz] at hk; exact False.elim hk
    | some z =>
      simp only [hz] at hk ⊢
      cases hb : Nat.beq z.cells.size i.size with
      | false => simp only [hb] at hk; exact False.elim hk
      | true => exact ⟨i.bytes, rfl, ⟨i, z, hi, hz, rfl, rfl, beq_t hb⟩⟩
theorem fits_ok {el sz tot : Nat} (hs : sizeV PP el = some sz) {K : Ans} (hk : (fits PP el tot K).ok) : fits PP el tot K = K ∧ ∃ by_, EltY el sz by_ ∧ tot ≤ 1099511627776 ∧ tot * by_ ≤ 140737488355328 := by
  unfold fits at hk ⊢
  obtain ⟨by_, e1, e2⟩ := elY_ok hs hk
  rw [e1] at hk ⊢
  obtain ⟨e3, e4⟩ := bA_ok hk
  rw [bnd_eq, Bool.and_eq_true] at e3
  exact ⟨e4, by_, e2, ble_t e3.1, ble_t e3.2⟩
theorem repL_made {z : Value} {s n : Nat} (hc1 : z.cells.size = s) : repL z.cells.toList n = (madeCells z.cells (n * s)).toList := by
  by_cases hc2 : s = 0
  · have hz : z.cells.toList = [] := List.eq_nil_of_length_eq_zero (by rw [Array.length_toList, hc1, hc2])
    have : ∀ n, repL z.cells.toList n = [] := by
      intro n
      induction n with
      | zero => rfl
      | succ n ih => simp [repL, hz] at ih ⊢; exact ih
    rw [this, hc2, Nat.mul_zero]
    simp [madeCells]
  · induction n with
    | zero => simp [repL, madeCells]
    | succ n ih =>
      have e1 : repL z.cells.toList (n + 1) = repL z.cells.toList n ++ z.cells.toList := by
        clear ih
        induction n with
        | zero => simp [repL]
        | succ n ih =>
          show z.cells.toList ++ repL z.cells.toList (n + 1) = (z.cells.toList ++ repL z.cells.toList n) ++ z.cells.toList
          rw [ih, List.append_assoc]
      rw [e1, ih]
      rw [show (n + 1) * s = n * s + s from Nat.succ_mul n s]
      apply List.ext_getElem?
      intro k
      simp only [madeCells, Array.toList_map, Array.toList_range, List.getElem?_append, List.length_map, List.length_range, List.getElem?_map]
      by_cases hk : k < n * s
      · rw [if_pos hk, List.getElem?_range hk, List.getElem?_range (by omega)]
      · rw [if_neg hk]
        by_cases hk2 : k < n * s + s
        · rw [List.getElem?_range hk2]
          have hm : k % z.cells.size = k - n * s := by
            rw [hc1, Nat.mod_eq_sub_mul_div]
            have : k / s = n := by
              apply Nat.div_eq_of_lt_le
              · omega
              · rw [Nat.succ_mul]; omega
            rw [this, Nat.mul_comm]
          have hlt : k - n * s < z.cells.size := by omega
          simp only [Option.map_some, hm]
          rw [getElem!_pos z.cells _ hlt]
          simp [hlt]
        · rw [List.getElem?_eq_none (by simp; omega), List.getElem?_eq_none (by simp; omega)]
          rfl
theorem zeroCells_made (z : Array Value) (n : Nat) : Builtin.zeroCells z n = madeCells z (n * z.size) := rfl
theorem rep_ones {l : List Value} (h : ∀ x ∈ l, x.oneCell' = true) : ∀ n, ∀ x ∈ repL l n, x.oneCell' = true
  | 0, x, hx => by cases hx
  | n + 1, x, hx => by
    rcases List.mem_append.1 hx with hx | hx
    · exact h x hx
    · exact rep_ones h n x hx
theorem storeO {k b u : Nat} {o : VO} (hk : η k = some (b, u)) (ho : ObjAt η w k o) {f : CV → (CV → Ans) → Ans} {K : H → Ans}
    (hu : (updC e k h f K).ok) (hg : look e.B h k = o) {vs : List Value} {off : Nat} (hv : ∀ x ∈ vs, x.oneCell' = true)
    (hf : ∀ (c : CV) (l : List Value) (K : CV → Ans), RC η c l → (f c K).ok → ∃ d, f c K = K d ∧ RC η d (over vs off l) ∧ (vs = [] ∨ off + vs.length ≤ l.length)) :
    ∃ o' h', updC e k h f K = K h' ∧ e.B.lo ≤ k ∧ (∀ k', getH k' h' = if k' = k then o' else getH k' h) ∧ o ≠ .no ∧
      ∃ w1, (storeCells ⟨b, off, none⟩ vs).run PP w = .ok () w1 ∧ ObjAt η w1 k o' ∧ Chg [b] w w1 := by
  unfold updC at hu ⊢
  rw [hg] at hu ⊢
  cases o with
  | cells t c =>
    have hu : (f c fun c => wr e k (.cells t c) h K).ok := hu
    obtain ⟨b', u', l, h1, h2, h3, h4⟩ := ho
    rw [hk] at h1; cases h1
    obtain ⟨d, e1, e2, e3⟩ := hf c l _ h2 hu
    rw [e1] at hu
    obtain ⟨h', e4, e5, e6⟩ := wr_ok hu
    refine ⟨.cells t d, h', (e1.trans e4 : _), e5, e6, (fun h => by cases h), ?_⟩
    rcases e3 with rfl | e3
    · rw [over_nil] at e2
      exact ⟨w, rfl, ⟨b, u, l, hk, e2, h3, h4⟩, Chg.refl _ _⟩
    · have hrun := run_storeCells_blk (P := PP) (fz := (0, 0)) vs w l ⟨b, off, none⟩ off 0 rfl (fun j => by simp [add_lit]) h4 e3 (fun k _ _ => by simp) hv
      refine ⟨_, hrun, ⟨b, u, over vs off l, hk, e2, over_one_all hv h3, ?_⟩, ?_⟩
      · split
        · rename_i hn; rw [hn, over_nil]; exact h4
        · exact setB_at h4.lt
      · split
        · exact Chg.refl _ _
        · exact setB_chg _ _ _
  | own t m c =>
    have hu : (f c fun c => wr e k (.own t m c) h K).ok := hu
    obtain ⟨b', u', l, sz, h1, h2, h3, h4, h5⟩ := ho
    rw [hk] at h1; cases h1
    obtain ⟨d, e1, e2, e3⟩ := hf c l _ h2 hu
    rw [e1] at hu
    obtain ⟨h', e4, e5, e6⟩ := wr_ok hu
    refine ⟨.own t m d, h', (e1.trans e4 : _), e5, e6, (fun h => by cases h), ?_⟩
    rcases e3 with rfl | e3
    · rw [over_nil] at e2
      exact ⟨w, rfl, ⟨b, u, l, sz, hk, e2, h3, h4, h5⟩, Chg.refl _ _⟩
    · obtain ⟨hl, h6⟩ := h5
      rcases h6 with ⟨h6, _⟩ | ⟨g, cur, fz, h6, g1, g2, g3, g4, g5, g6, g7⟩
      · cases h6
      cases h6
      have hcur : w.heap[b]? = some (.cells cur.toList.toArray t fz) := by simpa using g2
      have hlen : l.length ≤ cur.toList.length := by rw [← g7, List.length_take]; omega
      have hrun := run_storeCells_blk (P := PP) (fz := fz) vs w cur.toList ⟨b, off, none⟩ off 0 rfl (fun j => by simp [add_lit]) hcur (by omega) (fun k _ hk => g3 k (by
        rw [← Array.length_toList]; omega)) hv
      have hlt : b < w.heap.size := (Array.getElem?_eq_some_iff.1 g2).1
      have hol : (over vs off cur.toList).length = cur.toList.length := over_length _ _ _ (by omega)
      have htake : (over vs off cur.toList).take (m * sz) = over vs off l := by
        apply List.ext_getElem?
        intro i
        rw [List.getElem?_take, over_get _ _ _ (by omega), over_get _ _ _ e3]
        have hll : l.length = m * sz := hl
        by_cases hi : i < m * sz
        · rw [if_pos hi]
          split
          · rfl
          · rw [← g7, List.getElem?_take, if_pos hi]
        · rw [if_neg hi, if_neg (by omega), List.getElem?_eq_none (by omega)]
      refine ⟨_, hrun, ⟨b, u, over vs off l, sz, hk, e2, over_one_all hv h3, h4, by rw [over_length _ _ _ e3]; exact hl, ?_⟩, ?_⟩
      · split
        · rename_i hn
          subst hn
          rw [over_nil]
          exact .inr ⟨b, cur, fz, rfl, g1, g2, g3, g4, g5, g6, g7⟩
        · refine .inr ⟨b, _, fz, rfl, g1, setB_at hlt, ?_, g4, g5, ?_, ?_⟩
          · rw [List.size_toArray, hol, Array.length_toList]; exact g3
          · rw [List.size_toArray, hol, Array.length_toList]; exact g6
          · simpa using htake
      · split
        · exact Chg.refl _ _
        · exact setB_chg _ _ _
  | _ => exact False.elim hu
theorem updC_ok (H0 : Rel η e.B h n w) {k b u : Nat} (hk : η k = some (b, u)) {f : CV → (CV → Ans) → Ans} {K : H → Ans}
    (hu : (updC e k h f K).ok) {vs : List Value} {off : Nat} (hv : ∀ x ∈ vs, x.oneCell' = true)
    (hf : ∀ (c : CV) (l : List Value) (K : CV → Ans), RC η c l → (f c K).ok → ∃ d, f c K = K d ∧ RC η d (over vs off l) ∧ (vs = [] ∨ off + vs.length ≤ l.length)) :
    ∃ h', updC e k h f K = K h' ∧ ∃ w1, (storeCells ⟨b, off, none⟩ vs).run PP w = .ok () w1 ∧ Rel η e.B h' n w1 := by
  obtain ⟨o', h', e1, e2, e3, e4, w1, e5, e6, e7⟩ := storeO hk (H0.obj k) hu rfl hv hf
  exact ⟨h', e1, w1, e5, H0.put e2 hk e4 e3 e6 e7⟩
end
end Go.Ev
namespace Go.Ev
open Go Go.Vc
def Aft (η : Eta) (B : Base) (n : Nat) (x : Ans) (K : KV) (Ku : KU) (rv : Option Value) (w' : World) : Prop :=
  ∃ η' h' n', Rel η' B h' n' w' ∧ Grow η η' n n' B.m ∧ match rv with
    | some a => ∃ v, x = K v h' n' ∧ R η' v a
    | none => x = Ku h' n'
section
variable {η η' : Eta} {B : Base} {h h' : H} {n n' : Nat} {w w' : World} {e : Env} {fr : F} {vf : Fr} {ops : List Oper} {o : Oper} {ty : TypeId} {K : KV} {Ku : KU} {x : Ans}
theorem Aft.new {b u : Nat} {a : Value} {v : VV} (hx : x = K v h' (n + 1)) (hr : Rel η' B h' (n + 1) w') (hg : Grow η η' n (n + 1) B.m) (hv : R η' v a) : Aft η B n x K Ku (some a) w' := ⟨η', h', n + 1, hr, hg, v, hx, hv⟩
theorem eff_alloc (H0 : Rel η e.B h n w) {t : TypeId} (hop : o.op = .alloc t) (hx : x = opE o.op e ty fr h n K Ku) (hk : x.ok) : effV none PP ops vf o w (Aft η e.B n x K Ku) := by
  subst hx
  rw [hop] at hk ⊢
  unfold effV
  rw [hop]
  have e0 : opE (.alloc t) e ty fr h n K Ku = onZ PP t fun z => newH e (.cells t z) h n fun k h n => K (.ptr k 0) h n := rfl
  rw [e0] at hk ⊢
  obtain ⟨c, z, e1, e2, e3, e4⟩ := zeroE_ok (η := η) hk
  rw [e1] at hk ⊢
  obtain ⟨h', e5, e6⟩ := newC_ok H0 e3 e4 hk
  show onO (zeroOf PP t) _
  rw [e2]
  simp only [onO, forceB_one, zl_of e2]
  intro b w1 hn
  obtain ⟨η', g1, g2, g3⟩ := e6 b w1 hn
  exact ⟨η', h', n + 1, g1, g2, .ptr n 0, e5, by simp only [R]; exact ⟨b, 0, g3, rfl⟩⟩
theorem eff_box (hf : FrR η fr vf) (H0 : Rel η e.B h n w) {t : TypeId} {y : Operand} (hop : o.op = .box t y) (hx : x = opE o.op e ty fr h n K Ku) (hk : x.ok) : effV none PP ops vf o w (Aft η e.B n x K Ku) := by
  subst hx
  rw [hop] at hk ⊢
  unfold effV
  rw [hop]
  have e0 : opE (.box t y) e ty fr h n K Ku = evE fr y fun v => cellsE v fun c => newH e (.cells t c) h n fun k h n => K (.ptr k 0) h n := rfl
  rw [e0] at hk ⊢
  obtain ⟨v, a, e1, e2, e3⟩ := evE_ok hf hk
  rw [e1] at hk ⊢
  obtain ⟨c, e4, e5, e6⟩ := cellsE_ok e3 hk
  rw [e4] at hk ⊢
  obtain ⟨h', e7, e8⟩ := newC_ok H0 e5 e6 hk
  show onO (ev vf y) _
  rw [e2]
  simp only [onO, forceB_one]
  intro b w1 hn
  obtain ⟨η', g1, g2, g3⟩ := e8 b w1 hn
  exact ⟨η', h', n + 1, g1, g2, .ptr n 0, e7, by simp only [R]; exact ⟨b, 0, g3, rfl⟩⟩
theorem eff_buildSlice (hf : FrR η fr vf) (H0 : Rel η e.B h n w) {t : TypeId} {len : Nat} {ps : Array (Nat × Operand)} (hop : o.op = .buildSlice t len ps) (hx : x = opE o.op e ty fr h n K Ku) (hk : x.ok) : effV none PP ops vf o w (Aft η e.B n x K Ku) := by
  subst hx
  rw [hop] at hk ⊢
  unfold effV
  rw [hop]
  have e0 : opE (.buildSlice t len ps) e ty fr h n K Ku = partsE ps.toList fr fun ps => bslE e t len ps h n K := rfl
  rw [e0] at hk ⊢
  obtain ⟨pl, l, e1, e2, e3⟩ := partsE_ok hf hk
  rw [e1] at hk ⊢
  cases ht : tiE PP t with
  | sl el sz =>
    obtain ⟨hu, hs⟩ := tiE_sl ht
    have e4 : bslE e t len pl h n K = onN (elY PP el) fun _ => bA (bnd (Nat.blt 0 sz) (Nat.ble (Nat.mul len sz) 16777216)) (onZ PP el fun z => repC z len fun z => fillE (fun i K => K (Nat.mul i sz) sz) pl z fun c => newH e (.cells el c) h n fun k h n => K (.sl k 0 len len) h n) (.no 259) := by
      unfold bslE; rw [ht]
    rw [e4] at hk ⊢
    obtain ⟨by_, e5, ⟨i, z, hi, hz, hsz, hby, hzs⟩⟩ := elY_ok hs hk
    rw [e5] at hk ⊢
    obtain ⟨e6, e7⟩ := bA_ok hk
    rw [e7] at hk ⊢
    rw [bnd_eq, Bool.and_eq_true] at e6
    have h1 := blt_t e6.1
    have h2 : len * sz ≤ 16777216 := ble_t e6.2
    obtain ⟨c, z', e8, e9, e10, e11⟩ := zeroE_ok (η := η) hk
    have hzz : z' = z := by
      simp only [zeroOf, hi, hz, Option.some.injEq] at e9; exact e9.symm
    subst hzz
    rw [e8] at hk ⊢
    obtain ⟨c2, e12, e13⟩ := repC_ok e10 hk
    rw [e12] at hk ⊢
    obtain ⟨d, q, e14, e15, e16, e17⟩ := fillE_ok (place := fun i K => K (Nat.mul i sz) sz) (pl := fun i => some (i * sz, sz)) (fun i Kp _ => ⟨_, _, rfl, rfl⟩) e3 e13 (rep_ones e11 len) hk
    rw [e14] at hk ⊢
    obtain ⟨h', e18, e19⟩ := newC_ok H0 e16 e17 hk
    show onO (partsOf vf ps.toList) _
    rw [e2]
    show onO (buildSL PP t len l) _
    have hb : buildSL PP t len l = some (el, q) := by
      unfold buildSL
      simp only [hu, hi, hz]
      rw [if_neg (by simp [hzs, hsz]; omega), hsz]
      simp only [e15]
    rw [hb]
    simp only [onO, forceB_one]
    intro b w1 hn
    obtain ⟨η', g1, g2, g3⟩ := e19 b w1 hn
    exact ⟨η', h', n + 1, g1, g2, .sl n 0 len len, e18, by simp only [R]; exact ⟨b, 0, g3, rfl⟩⟩
  | _ => unfold bslE at hk; rw [ht] at hk; exact False.elim hk
theorem st_of {t : TypeId} {a : Value} {ad : Addr} {w1 : World} (hs : sizeV PP t = some a.cells.size) (h : (storeCells ad a.cells.toList).run PP w = .ok () w1) : St PP t w ad a w1 := by
  show (storeVar t ad a).run PP w = _
  simp only [storeVar, Sem.run_bind, run_size hs, Result.andThen_ok]
  rw [if_neg (by simp)]
  exact h
theorem stC_ok {t : TypeId} {v : VV} {a : Value} (hv : R η v a) {c : CV} {l : List Value} {off : Nat} {K : CV → Ans} (hc : RC η c l) (hk : (stC (piE PP t) v c off K).ok) (hsc : piE PP t = .sc → sizeV PP t = some 1) :
    ∃ d, stC (piE PP t) v c off K = K d ∧ RC η d (over a.cells.toList off l) ∧ off + a.cells.size ≤ l.length ∧ sizeV PP t = some a.cells.size ∧ ∀ x ∈ a.cells.toList, x.oneCell' = true := by
  have hp := piE_ok PP t
  cases hpi : piE PP t with
  | no => rw [hpi] at hk; exact False.elim hk
  | sc =>
    rw [hpi] at hk
    have hk : (bA (isFlat v) (setC c off v K) (.no 273)).ok := hk
    obtain ⟨hfl, e0⟩ := bA_ok hk
    rw [e0] at hk
    obtain ⟨d, e1, e2, e3⟩ := setC_ok hv hc hk
    have ho := hv.one hfl
    have hcs : a.cells.toList = [a] := by cases a <;> first | rfl | cases ho
    have hsz : a.cells.size = 1 := by rw [← Array.length_toList, hcs]; rfl
    refine ⟨d, (e0.trans e1 : _), by rw [hcs, over_one e3]; exact e2, by omega, by rw [hsz]; exact hsc hpi, fun x hx => ?_⟩
    rw [hcs] at hx; rw [List.mem_singleton.1 hx]; exact ho
  | ag m =>
    rw [hpi] at hk hp
    have hk : (onAgg v fun new => lenC new 0 fun k => bA (bnd (Nat.beq k m) (Nat.blt 0 k)) (overC new off c K) (.no 153)).ok := hk
    obtain ⟨new, rfl, e1⟩ := onAgg_ok hk
    rw [e1] at hk
    simp only [R] at hv
    obtain ⟨ln, hl, ho, rfl⟩ := hv
    rw [lenC_eq hl] at hk e1
    obtain ⟨e2, e3⟩ := bA_ok hk
    rw [e3] at hk
    rw [bnd_eq, Bool.and_eq_true, Nat.zero_add] at e2
    have h1 := beq_t e2.1
    have h2 := blt_t e2.2
    obtain ⟨d, e4, e5, e6⟩ := overC_ok hl hc hk
    refine ⟨d, (e1.trans (e3.trans e4) : _), by simpa [Value.cells] using e5, ?_, ?_, by simpa [Value.cells] using ho⟩
    · rcases e6 with rfl | e6
      · simp at h2
      · simpa [Value.cells] using e6
    · rw [hp.1, ← h1]; simp [Value.cells]
end
end Go.Ev
namespace Go.Ev
open Go Go.Vc
section
variable {η η' : Eta} {B : Base} {h h' : H} {n n' : Nat} {w w' : World} {e : Env} {fr : F} {vf : Fr} {ops : List Oper} {o : Oper} {ty : TypeId} {K : KV} {Ku : KU} {x : Ans}
theorem scOk_ok {t : TypeId} (h : scOk (piE PP t) t = true) : piE PP t = .sc → sizeV PP t = some 1 := by
  intro hp
  rw [hp] at h
  have h : s1E PP t = true := h
  unfold s1E at h
  split at h
  · assumption
  · cases h
theorem eff_store (hf : FrR η fr vf) (H0 : Rel η e.B h n w) {t : TypeId} {y z : Operand} (hop : o.op = .store t y z) (hx : x = opE o.op e ty fr h n K Ku) (hk : x.ok) : effV none PP ops vf o w (Aft η e.B n x K Ku) := by
  subst hx
  rw [hop] at hk ⊢
  unfold effV
  rw [hop]
  have e0 : opE (.store t y z) e ty fr h n K Ku = evE fr y fun p => evE fr z fun v => storeE e t p v h fun h => Ku h n := rfl
  rw [e0] at hk ⊢
  obtain ⟨p, pa, e1, e2, e3⟩ := evE_ok hf hk
  rw [e1] at hk ⊢
  obtain ⟨v, a, e4, e5, e6⟩ := evE_ok hf hk
  rw [e4] at hk ⊢
  unfold storeE at hk ⊢
  obtain ⟨e7, e8⟩ := bA_ok hk
  rw [e8] at hk ⊢
  obtain ⟨k, off, rfl, e9⟩ := onPtr_ok hk
  rw [e9] at hk ⊢
  simp only [R] at e3
  obtain ⟨b, u, hkk, rfl⟩ := e3
  have hst : ∀ (c : CV) (l : List Value) (K : CV → Ans), RC η c l → (stC (piE PP t) v c off K).ok → ∃ d, stC (piE PP t) v c off K = K d ∧ RC η d (over a.cells.toList off l) ∧ (a.cells.toList = [] ∨ off + a.cells.toList.length ≤ l.length) := by
    intro c l K hc hk
    obtain ⟨d, g1, g2, g3, -, -⟩ := stC_ok e6 hc hk (scOk_ok e7)
    exact ⟨d, g1, g2, .inr (by simpa using g3)⟩
  have hone : sizeV PP t = some a.cells.size ∧ ∀ x ∈ a.cells.toList, x.oneCell' = true := by
    unfold updC at hk
    have ho := H0.obj k
    cases hl : look e.B h k with
    | cells t0 c =>
      rw [hl] at hk ho
      obtain ⟨_, _, l, _, g2, _⟩ := ho
      obtain ⟨d, -, -, -, g4, g5⟩ := stC_ok e6 g2 (hk : (stC (piE PP t) v c off fun c => wr e k (.cells t0 c) h fun h => Ku h n).ok) (scOk_ok e7)
      exact ⟨g4, g5⟩
    | own t0 m c =>
      rw [hl] at hk ho
      obtain ⟨_, _, l, _, _, g2, _⟩ := ho
      obtain ⟨d, -, -, -, g4, g5⟩ := stC_ok e6 g2 (hk : (stC (piE PP t) v c off fun c => wr e k (.own t0 m c) h fun h => Ku h n).ok) (scOk_ok e7)
      exact ⟨g4, g5⟩
    | _ => rw [hl] at hk; exact False.elim hk
  obtain ⟨h', e10, w1, e11, e12⟩ := updC_ok H0 hkk hk hone.2 hst
  rw [e10]
  simp only [onPt, e2, onP, onV, onO, e5]
  exact ⟨w1, st_of hone.1 e11, η, h', n, e12, Grow.refl _ _ _, rfl⟩
theorem apT_ok {t : TypeId} {K : Nat → Nat → Ans} (h : (apT (tiE PP t) K).ok) : ∃ el sz, tiE PP t = .sl el sz ∧ apT (tiE PP t) K = K el sz := by
  cases ht : tiE PP t with
  | sl el sz => exact ⟨el, sz, rfl, rfl⟩
  | _ => rw [ht] at h; exact False.elim h
theorem eff_makeSlice (hf : FrR η fr vf) (H0 : Rel η e.B h n w) {t : TypeId} {y z : Operand} (hop : o.op = .makeSlice t y z) (hx : x = opE o.op e ty fr h n K Ku) (hk : x.ok) : effV none PP ops vf o w (Aft η e.B n x K Ku) := by
  subst hx
  rw [hop] at hk ⊢
  unfold effV
  rw [hop]
  have e0 : opE (.makeSlice t y z) e ty fr h n K Ku = evE fr y fun l => evE fr z fun c => mkslE e t l c h n K := rfl
  rw [e0] at hk ⊢
  obtain ⟨p, pa, e1, e2, e3⟩ := evE_ok hf hk
  rw [e1] at hk ⊢
  obtain ⟨v, a, e4, e5, e6⟩ := evE_ok hf hk
  rw [e4] at hk ⊢
  unfold mkslE at hk ⊢
  obtain ⟨k1, l, rfl, e7⟩ := onInt_ok hk
  rw [e7] at hk ⊢
  obtain ⟨k2, c, rfl, e8⟩ := onInt_ok hk
  rw [e8] at hk ⊢
  simp only [R] at e3 e6
  subst e3 e6
  obtain ⟨el, sz, ht, e9⟩ := apT_ok hk
  rw [e9] at hk ⊢
  obtain ⟨hu, hs⟩ := tiE_sl ht
  cases l with
  | negSucc l => exact False.elim hk
  | ofNat l =>
  cases c with
  | negSucc c => exact False.elim hk
  | ofNat c =>
  have e10 : nnI (.ofNat l) (.ofNat c) (fun l c => bA (Nat.ble l c) (fits PP el c (onZ PP el fun z => repC z c fun z => newH e (.cells el z) h n fun k h n => K (.sl k 0 l c) h n)) (.no 129)) (.no 130) = bA (Nat.ble l c) (fits PP el c (onZ PP el fun z => repC z c fun z => newH e (.cells el z) h n fun k h n => K (.sl k 0 l c) h n)) (.no 129) := rfl
  rw [e10] at hk ⊢
  obtain ⟨e11, e15⟩ := bA_ok hk
  rw [e15] at hk ⊢
  have hle := ble_t e11
  obtain ⟨e12, by_, ⟨i, z, hi, hz, hsz, hby, hzs⟩, e13, e14⟩ := fits_ok hs hk
  rw [e12] at hk ⊢
  obtain ⟨cz, z', g8, g9, g10, g11⟩ := zeroE_ok (η := η) hk
  have hzz : z' = z := by
    simp only [zeroOf, hi, hz, Option.some.injEq] at g9; exact g9.symm
  subst hzz
  rw [g8] at hk ⊢
  obtain ⟨c2, g12, g13⟩ := repC_ok g10 hk
  rw [g12] at hk ⊢
  obtain ⟨h', g18, g19⟩ := newC_ok H0 g13 (rep_ones g11 c) hk
  obtain ⟨η', f1, f2, f3⟩ := g19 w.heap.size (w.alloc (.cells (repL z'.cells.toList c).toArray el)) ⟨rfl, rfl⟩
  simp only [onV, onO, e2, e5]
  refine ⟨some ⟨w.heap.size, 0, none⟩, l, c, w.alloc (.cells (repL z'.cells.toList c).toArray el), ?_, η', h', n + 1, f1, f2, .sl n 0 l c, g18, by simp only [R]; exact ⟨_, 0, f3, rfl⟩⟩
  have hr := run_make (P := PP) w t el i z' hu hi hz k1 k2 (l : Int) (c : Int) (by omega) (by omega) (by
    rw [hby]
    have : (by_ : Int) * (c : Int) = ((c * by_ : Nat) : Int) := by rw [Int.natCast_mul, Int.mul_comm]
    rw [this]; omega) (by omega)
  rw [Int.toNat_natCast, Int.toNat_natCast] at hr
  have e16 : madeCells z'.cells (c * i.size) = (repL z'.cells.toList c).toArray := by
    apply Array.toList_inj.1
    rw [hsz, ← repL_made hzs]
  rw [e16] at hr
  exact hr
theorem onU8T_ok {t : TypeId} {K : Ans} (h : (onU8T (tiE PP t) K).ok) : PP.underlying t = some (.int .u8) ∧ onU8T (tiE PP t) K = K := by
  cases ht : tiE PP t with
  | int k =>
    rw [ht] at h
    obtain ⟨e1, e2⟩ := bA_ok (b := isU8 k) (h : (bA (isU8 k) K (.no 262)).ok)
    obtain rfl := isU8_eq e1
    exact ⟨tiE_int ht, e2⟩
  | _ => rw [ht] at h; exact False.elim h
theorem byteCells_str (m y : Nat) : byteCells (strOf m y) = bytesL m y := by
  unfold byteCells bytesL
  rw [strOf_list, List.map_map]
  apply List.map_congr_left
  intro i _
  show Value.int .u8 ((UInt8.ofNat (byteAt y i)).toNat : Int) = _
  rw [u8_nat (byte_lt _ _)]
theorem eff_s2b (H0 : Rel η e.B h n w) {s d : TypeId} {v : VV} {a : Value} (hv : R η v a) (us : PP.underlying s = some .string) (hk : (s2bE e d v h n K).ok) :
    ∃ (ad : Option Addr) (l c : Nat) (w1 : World), S2B PP s d w a (.slice ad l c) w1 ∧ Aft η e.B n (s2bE e d v h n K) K Ku (some (.slice ad l c)) w1 := by
  unfold s2bE at hk ⊢
  obtain ⟨el, sz, hd, e0⟩ := apT_ok hk
  rw [e0] at hk ⊢
  obtain ⟨e01, e02⟩ := bA_ok hk
  rw [e02] at hk ⊢
  obtain rfl := beq_t e01
  obtain ⟨ud, hsz1⟩ := tiE_sl hd
  obtain ⟨ue, e1⟩ := onU8T_ok hk
  rw [e1] at hk ⊢
  obtain ⟨m, y, rfl, e2⟩ := onStr_ok hk
  rw [e2] at hk ⊢
  obtain ⟨e3, e4⟩ := bA_ok hk
  rw [e4] at hk ⊢
  have hle := ble_t e3
  simp only [R] at hv
  subst hv
  obtain ⟨h', e5, e6, e7⟩ := newO_ok H0 hk
  have hr := run_bytes_of_string (P := PP) w s d el (strOf m y) us ud ue
  rw [strOf_size] at hr
  obtain ⟨f1, f2⟩ := e7 w.heap.size (grownCap w m 0 el) (w.drew.alloc (.cells (bytesRow (strOf m y) (grownCap w m 0 el)) el ((bytesRow (strOf m y) (grownCap w m 0 el)).size, (bytesRow (strOf m y) (grownCap w m 0 el)).size + 1)))
    ⟨rfl, rfl, rfl, by simp, fun k hk _ => alloc_old w.drew _ k hk⟩ (Nat.le_refl _) ⟨w.heap.size, grownCap w m 0 el, bytesL m y, 1, addE'_self .., by simpa using RC.cb (n := m) (x := y) .nl, bytesL_one m y, hsz1, by
      refine ⟨by rw [bytesL_len]; omega, .inr ⟨_, _, _, rfl, Nat.zero_le _, alloc_new w.drew _, Thaw.behind _ _, grownCap_ge _ _ _ _, grownCap_le_maxLen _ _ _ _ (by simp only [maxLen]; omega), ?_, ?_⟩⟩
      · have := grownCap_ge w m 0 el
        simp only [bytesRow, Array.size_append, Array.size_map, Array.size_replicate, Nat.mul_one]
        have e2 : (strOf m y).data.size = m := strOf_size m y
        have e4 : (strOf m y).size = m := strOf_size m y
        omega
      · have e2 : (bytesL m y).length = m := bytesL_len m y
        rw [Nat.mul_one, bytesRow, Array.toList_append, Array.toList_map]
        have e3 : List.map (fun b : UInt8 => Value.int .u8 (b.toNat : Int)) (strOf m y).data.toList = bytesL m y := byteCells_str m y
        rw [e3]
        exact List.take_left' (bytesL_len m y)⟩
  refine ⟨_, _, _, _, hr, _, h', n + 1, f1, f2, .sg n 0 0 m, e5, ?_⟩
  simp only [R]
  exact ⟨_, _, addE'_self .., by have := grownCap_ge w m 0 el; omega, by simp⟩
theorem srcT_ok {t : TypeId} {sz : Nat} {y : VV} {K : Ans} (h : (srcT (tiE PP t) sz y K).ok) : srcT (tiE PP t) sz y K = K ∧ ((∃ e', PP.underlying t = some (.slice e')) ∨ (PP.underlying t = some .string ∧ sz = 1)) ∧ ((∃ e', PP.underlying t = some (.slice e')) ↔ ∀ n z, y ≠ .str n z) := by
  cases y <;> try exact False.elim h
  · cases ht : tiE PP t <;> rw [ht] at h <;> try exact False.elim h
    obtain ⟨e1, e2⟩ := bA_ok (b := Nat.beq sz 1) h
    have hu := tiE_str ht
    refine ⟨e2, .inr ⟨hu, beq_t e1⟩, ⟨fun ⟨e', h⟩ => ?_, fun h => absurd rfl (h _ _)⟩⟩
    rw [hu] at h; cases h
  all_goals
    cases ht : tiE PP t <;> rw [ht] at h <;> try exact False.elim h
    exact ⟨rfl, .inl ⟨_, (tiE_sl ht).1⟩, ⟨fun _ _ _ h => (by cases h), fun _ => ⟨_, (tiE_sl ht).1⟩⟩⟩
theorem b2sE_ok (H0 : Rel η e.B h n w) {s d : TypeId} {v : VV} {a : Value} {K : VV → Ans} (hv : R η v a) {el sz : Nat} (hs : tiE PP s = .sl el sz) (ud : PP.underlying d = some .string) (hk : (srcT (.sl el sz) 1 v (onU8T (tiE PP el) (b2sE e h v K))).ok) :
    ∃ u b, srcT (.sl el sz) 1 v (onU8T (tiE PP el) (b2sE e h v K)) = K u ∧ R η u b ∧ B2S PP s d w a b := by
  obtain ⟨us, hsz⟩ := tiE_sl hs
  rw [← hs] at hk ⊢
  obtain ⟨e0, h1, h2⟩ := srcT_ok hk
  rw [e0] at hk ⊢
  obtain ⟨ue, e1⟩ := onU8T_ok hk
  rw [e1] at hk ⊢
  unfold b2sE at hk ⊢
  obtain ⟨c, m, l, e2, e3, e4, e5, e6⟩ := readS_ok H0 rfl h1 h2 hv hk
  rw [e2] at hk ⊢
  obtain ⟨ad, c', rfl, hcl⟩ := e6 (h2.1 ⟨el, us⟩)
  have bs : ∃ y, l = bytesL m y ∧ (C.rec (motive := fun _ => Ans) (K (.str 0 0)) (fun n x r _ => C.rec (motive := fun _ => Ans) (K (.str n x)) (fun _ _ _ _ => .no 114) (fun _ _ _ => .no 114) r) (fun _ _ _ => .no 115) c : Ans) = K (.str m y) := by
    cases c with
    | nl =>
      have : l = [] := e3.nl_inv
      subst this
      have : m = 0 := by simpa using e5.symm
      subst this
      exact ⟨0, rfl, rfl⟩
    | cv v r => exact False.elim hk
    | cb m' y r =>
      cases r with
      | nl =>
        obtain ⟨q, hq, rfl⟩ := e3.cb_inv
        have : q = [] := hq.nl_inv
        subst this
        rw [List.append_nil, bytesL_len] at e5
        have : m' = m := by omega
        subst this
        exact ⟨y, by simp, rfl⟩
      | _ => exact False.elim hk
  obtain ⟨y, rfl, e7⟩ := bs
  refine ⟨.str m y, .string (strOf m y), e7, by simp only [R], ?_⟩
  exact b2s us ue ud (by rw [byteCells_str]; exact hcl) (strOf_size _ _).symm
end
end Go.Ev
namespace Go.Ev
open Go Go.Vc
section
variable {η η' : Eta} {B : Base} {h h' : H} {n n' : Nat} {w w' : World} {e : Env} {fr : F} {vf : Fr} {ops : List Oper} {o : Oper} {ty : TypeId} {K : KV} {Ku : KU} {x : Ans}
theorem Rel.new' (H0 : Rel η B h n w) {b u : Nat} {o : VO} (hm : n < B.m) (hh : ∀ k', getH k' h' = if k' = n then o else getH k' h) {S : List Nat} (hc : Chg S w w')
    (hS : ∀ k b' c, look B h k ≠ .no → η k = some (b', c) → b' ∉ S) (hb : ∀ k b' c, look B h k ≠ .no → η k = some (b', c) → b' ≠ b) (ho : ObjAt (addE' η n (b, u)) w' n o) (hy : ∀ b' ∈ S, η.w0.heap.size ≤ b') (hy2 : η.w0.heap.size ≤ b) :
    Rel (addE' η n (b, u)) B h' (n + 1) w' := by
  have H1 := H0.num (b, u) hm
  have hno := H0.num_no hm
  have hl : ∀ k', look B h' k' = if k' = n then o else look B h k' := by
    intro k'
    by_cases h1 : k' < B.lo
    · rw [look_lt h1, look_lt h1, if_neg (by have := H0.lo; omega)]
    · rw [look_ge (by omega), hh, look_ge (by omega)]
  have old : ∀ k b' c, k ≠ n → addE' η n (b, u) k = some (b', c) → η k = some (b', c) := by
    intro k b' c hne he
    have he : (if k = n then some (b, u) else η k) = some (b', c) := he
    rwa [if_neg hne] at he
  refine ⟨H1.fresh, H1.lo, fun k' => ?_, fun k1 k2 b' c c' g1 g2 e1 e2 => ?_, chg_old H0.kept hc hy, fun k1 b' c g1 e1 => ?_⟩
  · rw [hl]
    by_cases e : k' = n
    · subst e; rw [if_pos rfl]; exact ho
    · rw [if_neg e]
      by_cases hn : look B h k' = .no
      · rw [hn]; trivial
      · exact (H1.obj k').keep hc fun b' c he => hS k' b' c hn (old k' b' c e he)
  · rw [hl] at g1 g2
    by_cases f1 : k1 = n <;> by_cases f2 : k2 = n
    · rw [f1, f2]
    · subst f1
      rw [if_neg f2] at g2
      rw [addE'_self] at e1; cases e1
      exact absurd rfl (hb k2 _ c' g2 (old _ _ _ f2 e2))
    · subst f2
      rw [if_neg f1] at g1
      rw [addE'_self] at e2; cases e2
      exact absurd rfl (hb k1 _ c g1 (old _ _ _ f1 e1))
    · rw [if_neg f1] at g1
      rw [if_neg f2] at g2
      exact H0.inj k1 k2 b' c c' g1 g2 (old _ _ _ f1 e1) (old _ _ _ f2 e2)
  · rw [hl] at g1
    by_cases f1 : k1 = n
    · subst f1
      rw [addE'_self] at e1; cases e1
      exact hy2
    · rw [if_neg f1] at g1
      exact H0.young k1 b' c g1 (old _ _ _ f1 e1)
theorem Own.over {t sz b m u : Nat} {l vs : List Value} {off : Nat} (h5 : Own w 0 t sz (some ⟨b, 0, none⟩) m u l) (e3 : off + vs.length ≤ l.length)
    (hb : ∀ cur fz, w.heap[b]? = some (.cells cur t fz) → w'.heap[b]? = some (.cells (over vs off cur.toList).toArray t fz)) : Own w' 0 t sz (some ⟨b, 0, none⟩) m u (Vc.over vs off l) := by
  obtain ⟨hl, h6⟩ := h5
  rcases h6 with ⟨h6, _⟩ | ⟨g, cur, fz, h6, g1, g2, g3, g4, g5, g6, g7⟩
  · cases h6
  cases h6
  have hlen : l.length ≤ cur.toList.length := by rw [← g7, List.length_take]; omega
  have hol : (Vc.over vs off cur.toList).length = cur.toList.length := over_length _ _ _ (by omega)
  have htake : (Vc.over vs off cur.toList).take (m * sz) = Vc.over vs off l := by
    apply List.ext_getElem?
    intro i
    rw [List.getElem?_take, over_get _ _ _ (by omega), over_get _ _ _ e3]
    have hll : l.length = m * sz := hl
    by_cases hi : i < m * sz
    · rw [if_pos hi]
      split
      · rfl
      · rw [← g7, List.getElem?_take, if_pos hi]
    · rw [if_neg hi, if_neg (by omega), List.getElem?_eq_none (by omega)]
  refine ⟨by rw [over_length _ _ _ e3]; exact hl, .inr ⟨b, _, fz, rfl, g1, hb _ _ g2, ?_, g4, g5, ?_, by simpa using htake⟩⟩
  · rw [List.size_toArray, hol, Array.length_toList]; exact g3
  · rw [List.size_toArray, hol, Array.length_toList]; exact g6
theorem growE_ok (H0 : Rel η e.B h n w) {el sz tot : Nat} (hs : sizeV PP el = some sz) {c : CV} {l : List Value} (hc : RC η c l) (ho : ∀ x ∈ l, x.oneCell' = true) (hk : (growE e el tot c h n K).ok) :
    ∃ by_, EltY el sz by_ ∧ tot ≤ 1099511627776 ∧ tot * by_ ≤ 140737488355328 ∧
      ∀ (g u : Nat) (w1 : World), Chg [] w w1 → w.heap.size ≤ g → tot ≤ u → Own w1 0 el sz (some ⟨g, 0, none⟩) tot u l → Aft η e.B n (growE e el tot c h n K) K Ku (some (.slice (some ⟨g, 0, none⟩) tot u)) w1 := by
  unfold growE at hk ⊢
  obtain ⟨e1, by_, e2, e3, e4⟩ := fits_ok hs hk
  rw [e1] at hk ⊢
  obtain ⟨h', e5, e6, e7⟩ := newO_ok H0 hk
  refine ⟨by_, e2, e3, e4, fun g u w1 hch hg hu hown => ?_⟩
  obtain ⟨f1, f2⟩ := e7 g u w1 hch hg ⟨g, u, l, sz, addE'_self .., hc.mono (H0.ext (addE'_grow η _ e6)), ho, hs, hown⟩
  exact ⟨_, h', n + 1, f1, f2, .sg n 0 0 tot, e5, by simp only [R]; exact ⟨g, u, addE'_self .., by omega, by simp⟩⟩
theorem EltY.elt {t el sz by_ : Nat} (h : EltY el sz by_) (hu : PP.underlying t = some (.slice el)) : Elt PP t el sz by_ := ⟨hu, h.row⟩
theorem appE_ok (H0 : Rel η e.B h n w) {t tx el sz : Nat} (hu : PP.underlying t = some (.slice el)) (hs : sizeV PP el = some sz) (h0 : 0 < sz) {y : VV} {a b : Value} (hy : R η y a) {news : CV} {ln : List Value} {m : Nat} (hn : RC η news ln)
    (hsrc : Src PP sz tx b m ln w) (hk : (appE e el sz y news m h n K).ok) :
    ∃ (ad : Option Addr) (l c : Nat) (w1 : World), App PP #[t, tx] ty w a b (.slice ad l c) w1 ∧ Aft η e.B n (appE e el sz y news m h n K) K Ku (some (.slice ad l c)) w1 := by
  obtain ⟨i, hi, hisz⟩ : ∃ i, PP.info? el = some i ∧ i.size = sz := by
    unfold sizeV at hs
    cases hi : PP.info? el with
    | none => rw [hi] at hs; cases hs
    | some i => rw [hi] at hs; cases hs; exact ⟨i, rfl, rfl⟩
  have hln := hsrc.newsLen
  have grow : ∀ (base : Option Addr) (len c0 tot : Nat) (cc : CV) (olds : List Value), RC η cc (olds ++ ln) → (∀ x ∈ olds, x.oneCell' = true) → olds.length = len * sz → tot = len + m → c0 < tot →
      (Builtin.firstCells i.size len (.slice base len c0)).run PP w.drew = .ok olds.toArray w.drew → (growE e el tot cc h n K).ok →
      ∃ (ad : Option Addr) (l c : Nat) (w1 : World), App PP #[t, tx] ty w (.slice base len c0) b (.slice ad l c) w1 ∧ Aft η e.B n (growE e el tot cc h n K) K Ku (some (.slice ad l c)) w1 := by
    intro base len c0 tot cc olds hcc hold hlen htot hlt hfc hk
    obtain ⟨by_, ⟨i', z, hi', hz, hsz', hby, hzs⟩, e3, e4, e5⟩ := growE_ok (Ku := Ku) H0 hs hcc (fun x hx => (List.mem_append.1 hx).elim (hold x) (hsrc.one x)) hk
    rw [hi] at hi'; cases hi'
    subst htot
    subst hisz
    have hr := run_append_grow_src (P := PP) w t tx ty el i z hu hi hz base len c0 olds hfc b m ln hsrc hlt (by omega) (growslice_fits hlt (by rw [hby]; exact e4))
    have hge := grownCap_ge w (len + m) c0 el
    have hcm : grownCap w (len + m) c0 el ≤ maxLen := grownCap_le_maxLen w (len + m) c0 el (by simp only [maxLen]; omega)
    have hl2 : (olds ++ ln).length = (len + m) * i.size := by rw [List.length_append, hlen, hln, Nat.add_mul]
    refine ⟨_, _, _, _, hr, e5 _ _ _ ⟨rfl, rfl, rfl, by simp, fun k hk _ => alloc_old w.drew _ k hk⟩ (Nat.le_refl _) hge ⟨hl2, .inr ⟨w.heap.size, _, _, rfl, Nat.zero_le _, alloc_new w.drew _, Thaw.zero _, hge, hcm, ?_, ?_⟩⟩⟩
    · refine Nat.le_of_eq (Eq.symm ?_)
      simp only [Array.size_append, List.size_toArray, size_zeroCells, hzs, hl2, ← Nat.add_mul]
      congr 1; omega
    · rw [← hl2, Array.toList_append]
      exact List.take_left' rfl
  cases y with
  | nils =>
    have e0 : appE e el sz .nils news m h n K = bA (Nat.beq m 0) (K .nils h n) (growE e el m news h n K) := rfl
    rw [e0] at hk ⊢
    simp only [R] at hy
    subst hy
    cases hb : Nat.beq m 0 with
    | true =>
      obtain rfl := beq_t hb
      have hnn : ln = [] := List.eq_nil_of_length_eq_zero (by simpa using hln)
      subst hnn
      refine ⟨none, 0, 0, w, ?_, η, h, n, H0, Grow.refl _ _ _, .nils, rfl, by simp only [R]⟩
      have hl := hsrc.len w
      have hcl := hsrc.cells
      subst hisz
      rcases hsrc.kind with ⟨e', hk⟩ | hk <;> simp [App, Builtin.append_, run_und hu, run_und hk, sizeOf, typeInfo, hi, hl, hcl]
    | false =>
      rw [hb] at hk
      have := beq_f hb
      exact grow none 0 0 m news [] hn (fun _ h => by cases h) (by simp) (by omega) (by omega) (run_firstCells_none _ _ _ _ _) hk
  | sl k off len c0 =>
    have e0 : appE e el sz (.sl k off len c0) news m h n K = fN (Nat.add len m) fun tot => bA (Nat.ble tot c0) (updK e k h (fun c K => overC news (Nat.add off (Nat.mul len sz)) c K) fun h => K (.sl k off tot c0) h n) (onCells (look e.B h k) fun c => dropC c off fun c => takeC c (Nat.mul len sz) fun old => appC old news fun c => growE e el tot c h n K) := rfl
    rw [e0, fN_eq] at hk ⊢
    simp only [R] at hy
    obtain ⟨g, u, hkk, rfl⟩ := hy
    cases hb : Nat.ble (Nat.add len m) c0 with
    | true =>
      have hroom : len + m ≤ c0 := ble_t hb
      rw [hb] at hk
      have ho := H0.obj k
      unfold updK at hk ⊢
      cases hl : look e.B h k with
      | cells t0 c =>
        rw [hl] at hk ho
        obtain ⟨g', u', l, h1, h2, h3, h4⟩ := ho
        rw [hkk] at h1; cases h1
        obtain ⟨d, e1, e2, e3⟩ := overC_ok hn h2 (hk : (overC news (Nat.add off (Nat.mul len sz)) c fun c => wr e k (.cells t0 c) h fun h => K (.sl k off (Nat.add len m) c0) h n).ok)
        have hk : (overC news (Nat.add off (Nat.mul len sz)) c fun c => wr e k (.cells t0 c) h fun h => K (.sl k off (Nat.add len m) c0) h n).ok := hk
        rw [e1] at hk
        obtain ⟨h', e4, e5, e6⟩ := wr_ok hk
        have e3' : ln = [] ∨ off + len * sz + ln.length ≤ l.length := e3
        subst hisz
        have hr := run_append_room_src (P := PP) w t tx ty el i hu hi g off len c0 b m ln hsrc hroom (fun j hj => by
          rcases e3' with rfl | e3'
          · cases hj
          · have hlt : off + len * i.size + j < l.length := by omega
            rw [h4.cell (List.getElem?_eq_getElem hlt)]; rfl) (fun j hj => by
          have h4' : w.heap[g]? = some (.cells l.toArray t0 (0, 0)) := h4
          simp [World.frozen?, h4'])
        obtain ⟨w1, hw1, hblk, hch⟩ : ∃ w1, w1 = w.setCells g (off + len * i.size) ln ∧ Blk w1 g (Vc.over ln (off + len * i.size) l) t0 ∧ Chg [g] w w1 := by
          rcases e3' with rfl | e3'
          · exact ⟨_, rfl, by rw [over_nil]; exact h4, Chg.refl _ _⟩
          · obtain ⟨f1, f2⟩ := setCells_over ln w l (off + len * i.size) h4 e3'
            exact ⟨_, rfl, f1, f2⟩
        rw [← hw1] at hr
        refine ⟨_, _, _, w1, hr, η, h', n, ?_, Grow.refl _ _ _, .sl k off (len + m) c0, (e1.trans e4 : _), by simp only [R]; exact ⟨g, u, hkk, rfl⟩⟩
        exact H0.put e5 hkk (by rw [hl]; intro h; cases h) e6 ⟨g, u, _, hkk, e2, over_one_all hsrc.one h3, hblk⟩ hch
      | _ => rw [hl] at hk; exact False.elim hk
    | false =>
      rw [hb] at hk
      have hlt := ble_f hb
      have hlt' : c0 < len + m := hlt
      obtain ⟨c, l, e1, e2, e3, e4⟩ := onCells_ok hkk (H0.obj k) (hk : (onCells (look e.B h k) fun c => dropC c off fun c => takeC c (Nat.mul len sz) fun old => appC old news fun c => growE e el (Nat.add len m) c h n K).ok)
      have hk : (onCells (look e.B h k) fun c => dropC c off fun c => takeC c (Nat.mul len sz) fun old => appC old news fun c => growE e el (Nat.add len m) c h n K).ok := hk
      rw [e1] at hk
      obtain ⟨old, e5, e6, e7⟩ := cut_ok e2 hk
      rw [e5] at hk
      obtain ⟨cc, e8, e9⟩ := appC_ok hn e6 hk
      rw [e8] at hk
      have e7' : off + len * sz ≤ l.length := e7
      have hlen : ((l.drop off).take (len * sz)).length = len * sz := by rw [List.length_take, List.length_drop]; omega
      obtain ⟨ad, l', c', w1, f1, f2⟩ := grow (some ⟨g, off, none⟩) len c0 (len + m) cc _ e9 (fun v hv => e3 v (List.mem_of_mem_drop (List.mem_of_mem_take hv))) hlen rfl hlt' (by
        rw [hisz]
        refine run_firstCells_some _ _ _ _ _ _ _ hlen fun j v hj => ?_
        rw [add_lit]
        have hj : ((l.drop off).take (len * sz))[j]? = some v := hj
        rw [List.getElem?_take] at hj
        split at hj
        · rw [List.getElem?_drop] at hj; exact e4 _ _ hj
        · cases hj) hk
      refine ⟨ad, l', c', w1, f1, ?_⟩
      have e10 : (bA false (updK e k h (fun c K => overC news (Nat.add off (Nat.mul len sz)) c K) fun h => K (.sl k off (Nat.add len m) c0) h n) (onCells (look e.B h k) fun c => dropC c off fun c => takeC c (Nat.mul len sz) fun old => appC old news fun c => growE e el (Nat.add len m) c h n K)) = growE e el (len + m) cc h n K := (e1.trans (e5.trans e8) : _)
      rw [e10]; exact f2
  | sg k off lo len =>
    have e0 : appE e el sz (.sg k off lo len) news m h n K = bA (bnd (Nat.beq off 0) (Nat.beq lo 0)) (VO.rec (motive := fun _ => Ans) (.no 141) (fun _ _ => .no 142) (fun t u c => appO e el sz k off lo len news m t u c h n K) (fun _ _ => .no 144) (fun _ _ _ => .no 144) (.no 144) (fun _ _ _ _ _ _ _ _ => .no 144) (.no 144) (look e.B h k)) (.no 145) := rfl
    rw [e0] at hk ⊢
    obtain ⟨e1, e2⟩ := bA_ok hk
    rw [e2] at hk ⊢
    rw [bnd_eq, Bool.and_eq_true] at e1
    obtain rfl := beq_t e1.1
    obtain rfl := beq_t e1.2
    simp only [R] at hy
    obtain ⟨g, u, hkk, hle, rfl⟩ := hy
    have ho := H0.obj k
    cases hl : look e.B h k with
    | own t0 u0 c =>
      rw [hl] at hk ho
      have hk : (appO e el sz k 0 0 len news m t0 u0 c h n K).ok := hk
      show ∃ (ad : Option Addr) (l c' : Nat) (w1 : World), App PP #[t, tx] ty w _ b (.slice ad l c') w1 ∧ Aft η e.B n (appO e el sz k 0 0 len news m t0 u0 c h n K) K Ku (some (.slice ad l c')) w1
      unfold appO at hk ⊢
      obtain ⟨e3, e4⟩ := bA_ok hk
      rw [e4] at hk ⊢
      rw [bnd_eq, Bool.and_eq_true] at e3
      obtain rfl := beq_t e3.1
      have hlu := ble_t e3.2
      rw [fN_eq] at hk ⊢
      obtain ⟨g', u', l, sz', h1, h2, h3, h4, h5⟩ := ho
      rw [hkk] at h1; cases h1
      rw [hs] at h4; cases h4
      have hne : look e.B h k ≠ .no := by rw [hl]; intro h; cases h
      have hll : l.length = u0 * sz := h5.1
      cases hb : Nat.ble (Nat.add len m) u0 with
      | true =>
        have htot : len + m ≤ u0 := ble_t hb
        rw [hb] at hk
        obtain ⟨_, hown⟩ := id h5
        rcases hown with ⟨h6, _⟩ | ⟨g2, cur, fz, h6, g3, g4, g5, g6, g7, g8, g9⟩
        · cases h6
        cases h6
        have hcs : (len + m) * sz ≤ u0 * sz := Nat.mul_le_mul_right _ htot
        have hus : u0 * sz ≤ u * sz := Nat.mul_le_mul_right _ g6
        have hfit : len * sz + ln.length ≤ cur.size := by rw [hln, ← Nat.add_mul]; omega
        have hr := run_append_room_src (P := PP) w t tx ty t0 i hu hi g 0 len (u - 0) b m ln (by rw [hisz]; exact hsrc) (by omega) (fun j hj => by
          rw [hisz]
          have : 0 + len * sz + j < cur.size := by omega
          simp [World.cell?, g4]; omega) (fun j hj => by
          rw [hisz]
          have := g5 (0 + len * sz + j) (by omega)
          obtain ⟨f1, f2⟩ := fz
          simpa [World.frozen?, g4] using this)
        rw [hisz] at hr
        cases hm : Nat.beq m 0 with
        | true =>
          obtain rfl := beq_t hm
          have hnn : ln = [] := List.eq_nil_of_length_eq_zero (by simpa using hln)
          subst hnn
          exact ⟨_, _, _, _, hr, η, h, n, H0, Grow.refl _ _ _, .sg k 0 0 len, rfl, by simp only [R]; exact ⟨g, u, hkk, by omega, rfl⟩⟩
        | false =>
          rw [hm] at hk
          obtain ⟨d, f1, f2, f3⟩ := overC_ok hn h2 (hk : (overC news (Nat.mul len sz) c fun c => wr e k (.own t0 u0 c) h fun h => K (.sg k 0 0 (Nat.add len m)) h n).ok)
          have hk : (overC news (Nat.mul len sz) c fun c => wr e k (.own t0 u0 c) h fun h => K (.sg k 0 0 (Nat.add len m)) h n).ok := hk
          rw [f1] at hk
          obtain ⟨h', f4, f5, f6⟩ := wr_ok hk
          have hcur : w.heap[g]? = some (.cells cur.toList.toArray t0 fz) := by simpa using g4
          obtain ⟨f7, f8⟩ := setCells_over ln w cur.toList (0 + len * sz) hcur (by have e9 : cur.toList.length = cur.size := Array.length_toList; omega)
          have hfit2 : len * sz + ln.length ≤ l.length := by rw [hll, hln, ← Nat.add_mul]; exact hcs
          have hown' : Own (w.setCells g (0 + len * sz) ln) 0 t0 sz (some ⟨g, 0, none⟩) u0 u (Vc.over ln (len * sz) l) := Own.over h5 hfit2 fun cur' fz' hc' => by
            rw [g4] at hc'; cases hc'
            rw [Nat.zero_add] at f7
            rw [Nat.zero_add]; exact f7
          refine ⟨_, _, _, _, hr, η, h', n, H0.put f5 hkk hne f6 ⟨g, u, _, sz, hkk, f2, over_one_all hsrc.one h3, hs, hown'⟩ f8, Grow.refl _ _ _, .sg k 0 0 (len + m), (f1.trans f4 : _), by simp only [R]; exact ⟨g, u, hkk, by omega, rfl⟩⟩
      | false =>
        have hlt : u0 < len + m := ble_f hb
        rw [hb] at hk
        obtain ⟨f0, by_, f1, f2, f3⟩ := fits_ok hs (hk : (fits PP t0 (Nat.add len m) (takeC c (Nat.mul len sz) fun old => appC old news fun c => wr e k .no h fun h => newH e (.own t0 (Nat.add len m) c) h n fun k h n => K (.sg k 0 0 (Nat.add len m)) h n)).ok)
        have hk : (fits PP t0 (Nat.add len m) (takeC c (Nat.mul len sz) fun old => appC old news fun c => wr e k .no h fun h => newH e (.own t0 (Nat.add len m) c) h n fun k h n => K (.sg k 0 0 (Nat.add len m)) h n)).ok := hk
        rw [f0] at hk
        obtain ⟨old, f4, f5, f6⟩ := takeC_ok h2 hk
        rw [f4] at hk
        obtain ⟨cc, f7, f8⟩ := appC_ok hn f5 hk
        rw [f7] at hk
        obtain ⟨h1, f9, f10, f11⟩ := wr_ok hk
        rw [f9] at hk
        have H1 := H0.drop f10 f11
        obtain ⟨h2', f12, f13, f14⟩ := newH_ok hk
        have f2' : len + m ≤ 1099511627776 := f2
        have f3' : (len + m) * by_ ≤ 140737488355328 := f3
        have hmulle : len * sz ≤ u0 * sz := Nat.mul_le_mul_right _ hlu
        have hfront : Own w 0 t0 sz (some ⟨g, 0, none⟩) len u (l.take (len * sz)) := by
          obtain ⟨_, hown⟩ := h5
          rcases hown with ⟨h6, _⟩ | ⟨g2, cur, fz, h6, g3, g4, g5, g6, g7, g8, g9⟩
          · cases h6
          cases h6
          exact ⟨by rw [List.length_take, hll]; omega, .inr ⟨g, cur, fz, rfl, g3, g4, g5, by omega, g7, g8, by rw [← g9, List.take_take, Nat.min_eq_left hmulle]⟩⟩
        obtain ⟨a', c', w1, q1, q2, q3, q4⟩ := app_own (ty := ty) (f1.elt hu) h0 hfront hsrc (by simp only [maxLen]; omega) f3' (Nat.zero_le _)
        obtain ⟨gg, rfl⟩ : ∃ gg, a' = some ⟨gg, 0, none⟩ := by
          rcases q2.2 with ⟨h6, h7, _⟩ | ⟨g2, cur, fz, h6, _⟩
          · omega
          · exact ⟨g2, h6⟩
        have hgg : gg = g ∨ w.heap.size ≤ gg := by
          have := q4 gg (by simp [blks])
          simpa [blks] using this
        have live : ∀ k' b' c2, look e.B h1 k' ≠ .no → η k' = some (b', c2) → b' ≠ g ∧ b' < w.heap.size := by
          intro k' b' c2 hlk heta
          obtain ⟨b3, u3, ob, h3', h4'⟩ := (H1.obj k').at hlk
          rw [heta] at h3'; cases h3'
          refine ⟨fun e' => ?_, (Array.getElem?_eq_some_iff.1 h4').1⟩
          subst e'
          have hkne : k' ≠ k := by
            intro e'
            subst e'
            apply hlk
            rw [look_ge f10, f11, if_pos rfl]
          have hlk0 : look e.B h k' ≠ .no := by
            by_cases hlo : k' < e.B.lo
            · rw [look_lt hlo] at hlk ⊢; exact hlk
            · rw [look_ge (by omega)] at hlk ⊢
              rw [f11, if_neg hkne] at hlk; exact hlk
          exact hkne (H0.inj k' k _ _ _ hlk0 hne heta hkk)
        have hones : ∀ x ∈ l.take (len * sz) ++ ln, x.oneCell' = true := fun x hx => (List.mem_append.1 hx).elim (fun hx => h3 x (List.mem_of_mem_take hx)) (hsrc.one x)
        have H2 : Rel (addE' η n (gg, c')) e.B h2' (n + 1) w1 := H1.new' (b := gg) (u := c') f13 f14 q3 (fun k' b' c2 g1 g2 hmem => by
            simp [blks] at hmem
            exact (live k' b' c2 g1 g2).1 hmem) (fun k' b' c2 g1 g2 e' => by
            have := live k' b' c2 g1 g2
            rcases hgg with hgg | hgg
            · exact this.1 (e'.trans hgg)
            · omega) ⟨gg, c', _, sz, addE'_self .., f8.mono (H1.ext (addE'_grow η _ f13)), hones, hs, q2⟩ (fun b' hm => by
            simp [blks] at hm
            rw [hm]
            exact H0.young k _ _ hne hkk) (by
            rcases hgg with hgg | hgg
            · rw [hgg]; exact H0.young k _ _ hne hkk
            · have := H0.kept.size
              omega)
        have hcap := q2.le
        refine ⟨_, _, _, w1, q1, _, h2', n + 1, H2, addE'_grow η _ f13, .sg n 0 0 (len + m), (f0.trans (f4.trans (f7.trans (f9.trans f12))) : _), by simp only [R]; exact ⟨gg, c', addE'_self .., by omega, rfl⟩⟩
    | _ => rw [hl] at hk; exact False.elim hk
  | _ => exact False.elim hk
end
end Go.Ev
namespace Go.Ev
open Go Go.Vc
section
variable {η η' : Eta} {B : Base} {h h' : H} {n n' : Nat} {w w' : World} {e : Env} {fr : F} {vf : Fr} {ops : List Oper} {o : Oper} {ty : TypeId} {K : KV} {Ku : KU} {x : Ans}
theorem cpyE_ok (H0 : Rel η e.B h n w) {t tx el sz : Nat} (hu : PP.underlying t = some (.slice el)) (hs : sizeV PP el = some sz) {y : VV} {a b : Value} (hy : R η y a) {news : CV} {ln : List Value} {m : Nat} (hn : RC η news ln)
    (hsrc : Src PP sz tx b m ln w) (hk : (cpyE e sz y news m h n K).ok) :
    ∃ (i : Int) (w1 : World), Cpy PP #[t, tx] ty w a b (.int .i64 i) w1 ∧ Aft η e.B n (cpyE e sz y news m h n K) K Ku (some (.int .i64 i)) w1 := by
  have hl := hsrc.len w
  have hc := hsrc.cells
  have hz : (sizeOf el).run PP w = .ok sz w := run_size hs w
  have fin : ∀ (k off len g u c0 : Nat), η k = some (g, u) → m ≤ len → a = .slice (some ⟨g, off, none⟩) len c0 → (updC e k h (fun d K => overC news off d K) fun h => K (.int .i64 (.ofNat m)) h n).ok →
      ∃ (i : Int) (w1 : World), Cpy PP #[t, tx] ty w a b (.int .i64 i) w1 ∧ Aft η e.B n (updC e k h (fun d K => overC news off d K) fun h => K (.int .i64 (.ofNat m)) h n) K Ku (some (.int .i64 i)) w1 := by
    intro k off len g u c0 hkk hle ha hk
    obtain ⟨h', e1, w1, e2, e3⟩ := updC_ok H0 hkk hk hsrc.one (fun c l K hc hk => overC_ok hn hc hk)
    refine ⟨(m : Nat), w1, ?_, η, h', n, e3, Grow.refl _ _ _, .int .i64 (.ofNat m), e1, .i64⟩
    subst ha
    have hmin : Nat.min m len = m := Nat.min_eq_left hle
    simp only [Cpy, Builtin.copy_]
    simp [run_und hu, hl, hmin, hz, hc, e2, goInt]
  cases y with
  | nils =>
    obtain ⟨e1, e2⟩ := bA_ok (b := Nat.beq m 0) (hk : (bA (Nat.beq m 0) (K (.int .i64 (.ofNat 0)) h n) (.no 264)).ok)
    obtain rfl := beq_t e1
    simp only [R] at hy
    subst hy
    refine ⟨0, w, ?_, η, h, n, H0, Grow.refl _ _ _, .int .i64 (.ofNat 0), e2, .i64⟩
    simp only [Cpy, Builtin.copy_]
    simp [run_und hu, hl, hz, hc, goInt]
  | sl k off len c0 =>
    obtain ⟨e1, e2⟩ := bA_ok (b := Nat.ble m len) (hk : (bA (Nat.ble m len) (updC e k h (fun d K => overC news off d K) fun h => K (.int .i64 (.ofNat m)) h n) (.no 265)).ok)
    have hk : (bA (Nat.ble m len) (updC e k h (fun d K => overC news off d K) fun h => K (.int .i64 (.ofNat m)) h n) (.no 265)).ok := hk
    rw [e2] at hk
    simp only [R] at hy
    obtain ⟨g, u, hkk, rfl⟩ := hy
    obtain ⟨i, w1, f1, f2⟩ := fin k off len g u _ hkk (ble_t e1) rfl hk
    refine ⟨i, w1, f1, ?_⟩
    rw [show cpyE e sz (.sl k off len c0) news m h n K = _ from e2]; exact f2
  | sg k off lo len =>
    obtain ⟨e1, e2⟩ := bA_ok (b := Nat.ble m len) (hk : (bA (Nat.ble m len) (updC e k h (fun d K => overC news off d K) fun h => K (.int .i64 (.ofNat m)) h n) (.no 266)).ok)
    have hk : (bA (Nat.ble m len) (updC e k h (fun d K => overC news off d K) fun h => K (.int .i64 (.ofNat m)) h n) (.no 266)).ok := hk
    rw [e2] at hk
    simp only [R] at hy
    obtain ⟨g, u, hkk, _, rfl⟩ := hy
    obtain ⟨i, w1, f1, f2⟩ := fin k off len g u _ hkk (ble_t e1) rfl hk
    refine ⟨i, w1, f1, ?_⟩
    rw [show cpyE e sz (.sg k off lo len) news m h n K = _ from e2]; exact f2
  | _ => exact False.elim hk
theorem clrS_ok (H0 : Rel η e.B h n w) {ts : Array TypeId} {t el sz : Nat} (ht : ts[0]? = some t) (hu : PP.underlying t = some (.slice el)) (hs : sizeV PP el = some sz) {y : VV} {a : Value} (hy : R η y a) {K : H → Ans} (hk : (clrS e el y h K).ok) :
    ∃ w1 h', Clr PP ts ty w a w1 ∧ clrS e el y h K = K h' ∧ Rel η e.B h' n w1 := by
  have fin : ∀ (k off len g u c0 : Nat), η k = some (g, u) → a = .slice (some ⟨g, off, none⟩) len c0 → (onN (elY PP el) fun _ => onZ PP el fun z => repC z len fun z => updC e k h (fun c K => overC z off c K) K).ok →
      ∃ w1 h', Clr PP ts ty w a w1 ∧ (onN (elY PP el) fun _ => onZ PP el fun z => repC z len fun z => updC e k h (fun c K => overC z off c K) K) = K h' ∧ Rel η e.B h' n w1 := by
    intro k off len g u c0 hkk ha hk
    obtain ⟨by_, e1, ⟨i, z, hi, hz, hsz, hby, hzs⟩⟩ := elY_ok hs hk
    rw [e1] at hk ⊢
    obtain ⟨cz, z', g8, g9, g10, g11⟩ := zeroE_ok (η := η) hk
    have hzz : z' = z := by
      simp only [zeroOf, hi, hz, Option.some.injEq] at g9; exact g9.symm
    subst hzz
    rw [g8] at hk ⊢
    obtain ⟨c2, g12, g13⟩ := repC_ok g10 hk
    rw [g12] at hk ⊢
    obtain ⟨h', e3, w1, e4, e5⟩ := updC_ok H0 hkk hk (rep_ones g11 len) (fun c l K hc hk => overC_ok g13 hc hk)
    refine ⟨w1, h', ?_, e3, e5⟩
    subst ha
    have hzv : (zeroValue el).run PP w = .ok z' w := run_zero g9 w
    have e6 : (Builtin.zeroCells z'.cells len).toList = repL z'.cells.toList len := by
      rw [zeroCells_made, repL_made hzs, hzs]
    simp only [Clr, Builtin.clear_]
    cases len with
    | zero =>
      have e4' : w1 = w := by
        have : (storeCells ⟨g, off, none⟩ ([] : List Value)).run PP w = .ok () w1 := e4
        simp [storeCells] at this
        exact this.symm
      subst e4'
      simp [run_und hu, ht]
    | succ len => simp [run_und hu, ht, hzv, e6, e4]
  cases y with
  | nils =>
    simp only [R] at hy
    subst hy
    refine ⟨w, h, ?_, rfl, H0⟩
    simp only [Clr, Builtin.clear_]
    simp [run_und hu, ht]
  | sl k off len c0 =>
    simp only [R] at hy
    obtain ⟨g, u, hkk, rfl⟩ := hy
    exact fin k off len g u _ hkk rfl hk
  | sg k off lo len =>
    simp only [R] at hy
    obtain ⟨g, u, hkk, _, rfl⟩ := hy
    exact fin k off len g u _ hkk rfl hk
  | _ => exact False.elim hk
theorem asrE_ok {t xT : TypeId} {ok : Bool} {y : VV} {a : Value} {K : VV → Ans} (hy : R η y a) (hk : (asrE t ok y K).ok) : ∃ v b, asrE t ok y K = K v ∧ R η v b ∧ TAs PP xT t ok w a b := by
  unfold asrE at hk ⊢
  obtain ⟨t', v, rfl, e1⟩ := onIfc_ok hk
  rw [e1] at hk ⊢
  obtain ⟨e2, e3⟩ := bA_ok hk
  rw [bnd_eq, Bool.and_eq_true] at e2
  obtain rfl := beq_t e2.2
  rw [e3]
  simp only [R] at hy
  obtain ⟨b, hb, rfl⟩ := hy
  have hd := e2.1
  unfold ifOk at hd
  have hrun : (Instr.typeAssert (.iface t b) xT t ok).run PP w = .ok (if ok then .tuple #[b, .bool true] else b) w := by
    cases hu : PP.underlying t with
    | none => rw [hu] at hd; cases hd
    | some d =>
      simp only [Instr.typeAssert, Sem.run_bind, run_und hu, Result.andThen_ok]
      cases d <;> first
        | (rw [hu] at hd; cases hd; done)
        | simp
  cases ok with
  | false => exact ⟨v, b, rfl, hb, hrun⟩
  | true => exact ⟨_, .tuple #[b, .bool true], rfl, by simp only [R]; exact ⟨_, .cv hb (.cv (by simp only [R]) .nl), rfl⟩, hrun⟩
end
end Go.Ev
namespace Go.Ev
open Go Go.Vc
section
variable {η : Eta} {w : World}
def RS (s : Nat) (x : Value) : Prop := (∃ kd n, s = 1 + kN kd ∧ x = .int kd n) ∨ (s = 20 ∧ ∃ b, x = .string b) ∨ (s = 30 ∧ ∃ p, x = pairV p)
theorem isI64_ok {v : VV} {y z : Nat} (h : isI64 v y = z) (hz : z ≠ 0) : ∃ n, v = .int .i64 n ∧ y = z := by
  cases v <;> first
    | (exact absurd h.symm hz)
    | skip
  rename_i k n
  have h : (Bool.rec 0 y (Nat.beq (kN k) 3) : Nat) = z := h
  cases hb : Nat.beq (kN k) 3 with
  | false => rw [hb] at h; exact absurd h.symm hz
  | true =>
    rw [hb] at h
    have : k = .i64 := kN_inj (beq_t hb)
    subst this
    exact ⟨n, rfl, h⟩
theorem shp_ok {k : VV} {s : Nat} (h : shp k = s) (hs : s ≠ 0) : (∃ kd n, s = 1 + kN kd ∧ k = .int kd n) ∨ (s = 20 ∧ ∃ n x, k = .str n x) ∨ (s = 30 ∧ ∃ a b, k = .agg (.cv (.int .i64 a) (.cv (.int .i64 b) .nl))) := by
  cases k <;> first
    | (exact absurd h.symm hs)
    | skip
  · rename_i kd n
    exact .inl ⟨kd, n, h.symm, rfl⟩
  · rename_i n x
    exact .inr (.inl ⟨h.symm, n, x, rfl⟩)
  · rename_i c
    right; right
    cases c with
    | nl => exact absurd h.symm hs
    | cb _ _ _ => exact absurd h.symm hs
    | cv v r =>
      cases r with
      | nl => exact absurd h.symm hs
      | cb _ _ _ => exact absurd h.symm hs
      | cv u q =>
        cases q with
        | nl =>
          have h : isI64 v (isI64 u 30) = s := h
          obtain ⟨a, rfl, h2⟩ := isI64_ok h hs
          obtain ⟨b, rfl, h3⟩ := isI64_ok h2 hs
          exact ⟨h3.symm, a, b, rfl⟩
        | _ => exact absurd h.symm hs
theorem R.pair {a b : Int} {x : Value} (h : R η (.agg (.cv (.int .i64 a) (.cv (.int .i64 b) .nl))) x) : x = pairV (a, b) := by
  simp only [R, RC] at h
  obtain ⟨l, ⟨p, q, rfl, ⟨p', q', rfl, rfl, rfl⟩, rfl⟩, -, rfl⟩ := h
  rfl
theorem RS.of {k : VV} {x : Value} {s : Nat} (h : shp k = s) (hs : s ≠ 0) (hr : R η k x) : RS s x := by
  rcases shp_ok h hs with ⟨kd, n, h1, rfl⟩ | ⟨h1, n, y, rfl⟩ | ⟨h1, a, b, rfl⟩
  · simp only [R] at hr; exact .inl ⟨kd, n, h1, hr⟩
  · simp only [R] at hr; exact .inr (.inl ⟨h1, _, hr⟩)
  · exact .inr (.inr ⟨h1, _, hr.pair⟩)
theorem kN_lt (k : IntKind) : kN k < 8 := by cases k <;> decide
theorem keyB_iff {k k' : VV} {x x' : Value} {s : Nat} (h : shp k = s) (h' : shp k' = s) (hs : s ≠ 0) (hr : R η k x) (hr' : R η k' x') : keyB k k' = true ↔ x = x' := by
  rcases shp_ok h hs with ⟨kd, n, h1, rfl⟩ | ⟨h1, n, y, rfl⟩ | ⟨h1, a, b, rfl⟩ <;> rcases shp_ok h' hs with ⟨kd', n', h1', rfl⟩ | ⟨h1', n', y', rfl⟩ | ⟨h1', a', b', rfl⟩
  · simp only [R] at hr hr'
    subst hr hr'
    have : kd = kd' := kN_inj (by omega)
    subst this
    show eqI n n' = true ↔ _
    rw [eqI_eq]; simp
  · have := kN_lt kd; omega
  · have := kN_lt kd; omega
  · have := kN_lt kd'; omega
  · simp only [R] at hr hr'
    subst hr hr'
    show eqS n y n' y' = true ↔ _
    rw [eqS_iff]; simp
  · omega
  · have := kN_lt kd'; omega
  · omega
  · rw [hr.pair, hr'.pair]
    show bnd (eqI a a') (eqI b b') = true ↔ _
    rw [bnd_eq, eqI_eq, eqI_eq]
    simp [pairV]
theorem keyEq_ok {a b : VV} {K : Bool → Ans} (h : (keyEq a b K).ok) : shp a ≠ 0 ∧ shp a = shp b ∧ keyEq a b K = K (keyB a b) := by
  unfold keyEq at h ⊢
  obtain ⟨e1, e2⟩ := bA_no h
  rw [e2] at h ⊢
  obtain ⟨e3, e4⟩ := bA_ok h
  rw [e4, onB_eq]
  exact ⟨beq_f e1, beq_t e3, rfl⟩
theorem findES_ok {k : VV} {x : Value} (hk : R η k x) {Kn : Ans} {Ks : VV → Nat → Ans} : ∀ {es : ES} {l : List (Value × Value × Nat)}, ESR η es l → (findES es k Kn Ks).ok →
    (findES es k Kn Ks = Kn ∧ Hom (shp k) es ∧ (es = .nl ∨ shp k ≠ 0) ∧ x ∉ l.map (·.1)) ∨
    ∃ v j y i c, findES es k Kn Ks = Ks v j ∧ (x, y, i) ∈ l ∧ R η v y ∧ η j = some (i, c) ∧ shp k ≠ 0 ∧ ∃ a u r, es = .e a u r (match es with | .e _ _ _ q => q | .nl => .nl) ∧ shp a = shp k
  | .nl, l, hl, h => by
    have hl : l = [] := hl
    subst hl
    exact .inl ⟨rfl, trivial, .inl rfl, by simp⟩
  | .e a v j r, l, hl, h => by
    obtain ⟨xa, y, i, c, q, h1, h2, h3, h4, rfl⟩ := hl
    have e : findES (.e a v j r) k Kn Ks = keyEq k a fun b => bA b (Ks v j) (findES r k Kn Ks) := rfl
    rw [e] at h ⊢
    obtain ⟨e1, e2, e3⟩ := keyEq_ok h
    rw [e3] at h ⊢
    have hiff := keyB_iff rfl e2.symm e1 hk h1
    cases hb : keyB k a with
    | true =>
      have hxa := hiff.1 hb
      subst hxa
      exact .inr ⟨v, j, y, i, c, rfl, List.mem_cons_self .., h2, h3, e1, a, v, j, rfl, e2.symm⟩
    | false =>
      rw [hb] at h
      have hne : x ≠ xa := fun hx => by rw [hiff.2 hx] at hb; cases hb
      rcases findES_ok hk h4 h with ⟨g1, g2, g3, g4⟩ | ⟨v', j', y', i', c', g1, g2, g3, g4, g5, _⟩
      · refine .inl ⟨g1, ⟨e2.symm, g2⟩, .inr e1, ?_⟩
        simp only [List.map_cons, List.mem_cons, not_or]
        exact ⟨hne, g4⟩
      · exact .inr ⟨v', j', y', i', c', g1, List.mem_cons_of_mem _ g2, g3, g4, e1, a, v, j, rfl, e2.symm⟩
theorem Hom.all {s : Nat} : ∀ {es : ES} {l : List (Value × Value × Nat)}, Hom s es → s ≠ 0 → ESR η es l → ∀ p ∈ l, RS s p.1
  | .nl, l, _, _, hl, p, hp => by
    have hl : l = [] := hl
    subst hl; cases hp
  | .e a v j r, l, hh, hs, hl, p, hp => by
    obtain ⟨xa, y, i, c, q, h1, h2, h3, h4, rfl⟩ := hl
    rcases List.mem_cons.1 hp with rfl | hp
    · exact RS.of hh.1 hs h1
    · exact Hom.all hh.2 hs h4 p hp
structure KeyFit (t : TypeId) (s : Nat) (kT eT : TypeId) : Prop where
  und : PP.underlying t = some (.map kT eT)
  fit : (∃ kd q, s = 1 + kN kd ∧ PP.underlying kT = some (.int q)) ∨ (s = 20 ∧ PP.underlying kT = some .string) ∨ (s = 30 ∧ PairT PP kT)
theorem i64B_ok {t : TypeId} (h : i64B PP t = true) : PP.underlying t = some (.int .i64) := by
  unfold i64B at h
  split at h
  · assumption
  · cases h
theorem keyT_ok {t : TypeId} {k : VV} {K : Ans} (h : (keyT t k K).ok) : keyT t k K = K ∧ shp k ≠ 0 ∧ ∃ kT eT, KeyFit t (shp k) kT eT := by
  unfold keyT at h ⊢
  obtain ⟨e1, e2⟩ := bA_ok h
  rw [bnd_eq, Bool.and_eq_true] at e1
  have hs : shp k ≠ 0 := by have := blt_t e1.2; omega
  refine ⟨e2, hs, ?_⟩
  have e1 := beq_t e1.1
  have hc : kkE PP t ≠ 0 → ∃ kT eT, PP.underlying t = some (.map kT eT) ∧ ((kkE PP t = 1 ∧ ∃ q, PP.underlying kT = some (.int q)) ∨ (kkE PP t = 20 ∧ PP.underlying kT = some .string) ∨ (kkE PP t = 30 ∧ PairT PP kT)) := by
    intro hn
    unfold kkE at hn ⊢
    split at hn
    · rename_i kT eT hu
      rw [hu]
      refine ⟨kT, eT, rfl, ?_⟩
      split at hn
      · rename_i q hq
        rw [hq]
        exact .inl ⟨rfl, q, rfl⟩
      · rename_i hq
        rw [hq]
        exact .inr (.inl ⟨rfl, rfl⟩)
      · rename_i f g hq
        split at hn
        · rename_i hb
          rw [hq]
          simp only [hb]
          simp only [Bool.and_eq_true, bne_iff_ne, ne_eq, Bool.not_eq_true'] at hb
          obtain ⟨⟨⟨⟨⟨⟨⟨h1, h2⟩, h3⟩, h4⟩, h5⟩, h6⟩, h7⟩, h8⟩ := hb
          refine .inr (.inr ⟨trivial, pair_of ?_ ?_⟩)
          · unfold pairB
            rw [hq]
            simp [h1, h2, h3, h4, kdB, i64B_ok h5, i64B_ok h6]
          · unfold flatB
            rw [hq]
            simp [flatFs, h1, h2, h3, h4, kdB, i64B_ok h5, i64B_ok h6, h7, h8]
        · exact absurd rfl hn
      · exact absurd rfl hn
    · exact absurd rfl hn
  rcases shp_ok rfl hs with ⟨kd, n, h1, rfl⟩ | ⟨h1, n, y, rfl⟩ | ⟨h1, a, b, rfl⟩
  · have hlt := kN_lt kd
    have h2 : (Bool.rec (shp (.int kd n)) 1 (Nat.blt (shp (.int kd n)) 20) : Nat) = 1 := by
      have : Nat.blt (shp (.int kd n)) 20 = true := Nat.ble_eq_true_of_le (by rw [h1]; omega)
      rw [this]
    rw [h2] at e1
    obtain ⟨kT, eT, hu, h3⟩ := hc (by omega)
    refine ⟨kT, eT, hu, .inl ⟨kd, ?_⟩⟩
    rcases h3 with ⟨_, q, hq⟩ | ⟨h3, _⟩ | ⟨h3, _⟩
    · exact ⟨q, h1, hq⟩
    · omega
    · omega
  · have h2 : (20 : Nat) = kkE PP t := e1
    obtain ⟨kT, eT, hu, h3⟩ := hc (by omega)
    refine ⟨kT, eT, hu, .inr (.inl ⟨rfl, ?_⟩)⟩
    rcases h3 with ⟨h3, _⟩ | ⟨_, h3⟩ | ⟨h3, _⟩
    · omega
    · exact h3
    · omega
  · have h2 : (30 : Nat) = kkE PP t := e1
    obtain ⟨kT, eT, hu, h3⟩ := hc (by omega)
    refine ⟨kT, eT, hu, .inr (.inr ⟨rfl, ?_⟩)⟩
    rcases h3 with ⟨h3, _⟩ | ⟨h3, _⟩ | ⟨_, h3⟩
    · omega
    · omega
    · exact h3
def keyIdx (x : Value) : List MapEntry → Nat → Prop → (Nat → MapEntry → Prop) → Prop
  | [], _, Kn, _ => Kn
  | e :: r, i, Kn, Ks => (x = e.key ∧ Ks i e) ∨ (x ≠ e.key ∧ keyIdx x r (i + 1) Kn Ks)
theorem keyIdx_no {x : Value} : ∀ {es : List MapEntry} {i : Nat} {Kn : Prop} {Ks : Nat → MapEntry → Prop}, (∀ e ∈ es, x ≠ e.key) → Kn → keyIdx x es i Kn Ks
  | [], i, Kn, Ks, h, hk => hk
  | e :: r, i, Kn, Ks, h, hk => .inr ⟨h e (List.mem_cons_self ..), keyIdx_no (fun e he => h e (List.mem_cons_of_mem _ he)) hk⟩
structure Finds (kT : TypeId) (x : Value) (es : List MapEntry) : Prop where
  chk : ∀ em w, (Instr.checkKey em 10000 kT x).run PP w = .ok () w
  no : (∀ e ∈ es, x ≠ e.key) → ∀ w, (Instr.findKey kT x es).run PP w = .ok none w
  yes : ∀ (j : Nat) (e : MapEntry), es[j]? = some e → e.key = x → (∀ j' e', j' < j → es[j']? = some e' → e'.key ≠ x) → ∀ w, (Instr.findKey kT x es).run PP w = .ok (some (j, e.val)) w
  stay : ∀ w, (Instr.keyThatStays x x).run PP w = .ok x w
theorem findNow_gen {kd : TypeDesc} {x : Value} : ∀ {es : List MapEntry} {i : Nat}, (∀ e ∈ es, ∃ b, Instr.sameNow kd x e.key = some b ∧ (b = true ↔ x = e.key)) →
    ((∀ e ∈ es, x ≠ e.key) → Instr.findNow kd x es i = some none) ∧
    (∀ (j : Nat) (e : MapEntry), es[j]? = some e → e.key = x → (∀ j' e', j' < j → es[j']? = some e' → e'.key ≠ x) → Instr.findNow kd x es i = some (some (i + j, e.val)))
  | [], i, h => ⟨fun _ => rfl, fun j e he => by simp at he⟩
  | a :: r, i, h => by
    obtain ⟨b, h1, hb⟩ := h a (List.mem_cons_self ..)
    have ih := findNow_gen (i := i + 1) (fun e he => h e (List.mem_cons_of_mem _ he))
    have no : x ≠ a.key → b = false := fun hn => by
      cases b with
      | false => rfl
      | true => exact absurd (hb.1 rfl) hn
    constructor
    · intro hn
      have h2 := no (hn a (List.mem_cons_self ..))
      subst h2
      simp only [Instr.findNow, h1]
      exact ih.1 fun e he => hn e (List.mem_cons_of_mem _ he)
    · intro j e he hx hlt
      cases j with
      | zero =>
        simp at he
        subst he
        have h2 : b = true := hb.2 hx.symm
        subst h2
        simp only [Instr.findNow, h1]
        rfl
      | succ j =>
        have h2 := no fun hh => hlt 0 a (by omega) rfl hh.symm
        subst h2
        simp only [Instr.findNow, h1]
        rw [ih.2 j e (by simpa using he) hx fun j' e' hj he' => hlt (j' + 1) e' (by omega) (by simpa using he')]
        congr 3; omega
theorem findAsk_gen {kT : TypeId} {x : Value} (w : World) : ∀ {es : List MapEntry} {i : Nat}, (∀ e ∈ es, ∃ b, (Op.equal kT x e.key).run PP w = .ok b w ∧ (b = true ↔ x = e.key)) →
    ((∀ e ∈ es, x ≠ e.key) → (Instr.findAsking kT x es i).run PP w = .ok none w) ∧
    (∀ (j : Nat) (e : MapEntry), es[j]? = some e → e.key = x → (∀ j' e', j' < j → es[j']? = some e' → e'.key ≠ x) → (Instr.findAsking kT x es i).run PP w = .ok (some (i + j, e.val)) w)
  | [], i, h => ⟨fun _ => rfl, fun j e he => by simp at he⟩
  | a :: r, i, h => by
    obtain ⟨b, h1, hb⟩ := h a (List.mem_cons_self ..)
    have ih := findAsk_gen (i := i + 1) w (fun e he => h e (List.mem_cons_of_mem _ he))
    have no : x ≠ a.key → b = false := fun hn => by
      cases b with
      | false => rfl
      | true => exact absurd (hb.1 rfl) hn
    constructor
    · intro hn
      have h2 := no (hn a (List.mem_cons_self ..))
      subst h2
      simp only [Instr.findAsking, Sem.run_bind, h1, Result.andThen_ok, Bool.false_eq_true, if_false]
      exact ih.1 fun e he => hn e (List.mem_cons_of_mem _ he)
    · intro j e he hx hlt
      cases j with
      | zero =>
        simp at he
        subst he
        have h2 : b = true := hb.2 hx.symm
        subst h2
        simp only [Instr.findAsking, Sem.run_bind, h1, Result.andThen_ok, if_true, Sem.run_pure]
        rfl
      | succ j =>
        have h2 := no fun hh => hlt 0 a (by omega) rfl hh.symm
        subst h2
        simp only [Instr.findAsking, Sem.run_bind, h1, Result.andThen_ok, Bool.false_eq_true, if_false]
        rw [ih.2 j e (by simpa using he) hx fun j' e' hj he' => hlt (j' + 1) e' (by omega) (by simpa using he')]
        congr 3; omega
theorem dec_beq_int (a b : Int) : (a == b) = decide (a = b) := rfl
theorem finds_ok {t kT eT : TypeId} {s : Nat} (hf : KeyFit t s kT eT) {x : Value} (hx : RS s x) {es : List MapEntry} (hes : ∀ e ∈ es, RS s e.key) : Finds kT x es := by
  rcases hf.fit with ⟨kd, q, hs, hu⟩ | ⟨hs, hu⟩ | ⟨hs, T⟩
  ·
    have hk : ∀ y, RS s y → ∃ n, y = .int kd n := by
      rintro y (⟨kd', n, h1, rfl⟩ | ⟨h1, _⟩ | ⟨h1, _⟩)
      · have : kd' = kd := kN_inj (by omega)
        subst this; exact ⟨n, rfl⟩
      · have := kN_lt kd; omega
      · have := kN_lt kd; omega
    obtain ⟨n, rfl⟩ := hk x hx
    have hsame : ∀ e ∈ es, ∃ b, Instr.sameNow (.int q) (.int kd n) e.key = some b ∧ (b = true ↔ Value.int kd n = e.key) := by
      intro e he
      obtain ⟨m, hm⟩ := hk _ (hes e he)
      rw [hm]
      exact ⟨n == m, by simp [Instr.sameNow], by simp⟩
    have hg := findNow_gen (i := 0) hsame
    refine ⟨fun em w => plain_key hu (.inl ⟨q, rfl⟩) em 9999 w _, fun hn w => ?_, fun j e he hx hlt w => ?_, fun w => by simp [Instr.keyThatStays, Instr.sameBits]⟩
    · simp only [Instr.findKey, Sem.run_bind, run_und hu, Result.andThen_ok, hg.1 hn, Sem.run_pure]
    · simp only [Instr.findKey, Sem.run_bind, run_und hu, Result.andThen_ok, hg.2 j e he hx hlt, Sem.run_pure, Nat.zero_add]
  · have hk : ∀ y, RS s y → ∃ b, y = .string b := by
      rintro y (⟨kd', n, h1, rfl⟩ | ⟨h1, h2⟩ | ⟨h1, _⟩)
      · have := kN_lt kd'; omega
      · exact h2
      · omega
    obtain ⟨b, rfl⟩ := hk x hx
    have hsame : ∀ e ∈ es, ∃ b', Instr.sameNow .string (.string b) e.key = some b' ∧ (b' = true ↔ Value.string b = e.key) := by
      intro e he
      obtain ⟨m, hm⟩ := hk _ (hes e he)
      rw [hm]
      exact ⟨decide (b = m), by simp [Instr.sameNow, beq_bytes], by simp⟩
    have hg := findNow_gen (i := 0) hsame
    refine ⟨fun em w => plain_key hu (.inr rfl) em 9999 w _, fun hn w => ?_, fun j e he hx hlt w => ?_, fun w => by simp [Instr.keyThatStays, Instr.sameBits, beq_bytes]⟩
    · simp only [Instr.findKey, Sem.run_bind, run_und hu, Result.andThen_ok, hg.1 hn, Sem.run_pure]
    · simp only [Instr.findKey, Sem.run_bind, run_und hu, Result.andThen_ok, hg.2 j e he hx hlt, Sem.run_pure, Nat.zero_add]
  · have hk : ∀ y, RS s y → ∃ p, y = pairV p := by
      rintro y (⟨kd', n, h1, rfl⟩ | ⟨h1, h2⟩ | ⟨h1, h2⟩)
      · have := kN_lt kd'; omega
      · omega
      · exact h2
    obtain ⟨p, rfl⟩ := hk x hx
    have hpi : ∀ a b : Int × Int, pairV a = pairV b ↔ a = b := by
      intro a b
      constructor
      · intro h
        simp only [pairV, Value.agg.injEq] at h
        have := congrArg Array.toList h
        simp at this
        exact Prod.ext this.1 this.2
      · rintro rfl; rfl
    have heq : ∀ w, ∀ e ∈ es, ∃ b, (Op.equal kT (pairV p) e.key).run PP w = .ok b w ∧ (b = true ↔ pairV p = e.key) := by
      intro w e he
      obtain ⟨m, hm⟩ := hk _ (hes e he)
      rw [hm]
      exact ⟨decide (p = m), pair_equal T p m w, by rw [decide_eq_true_iff]; exact (hpi p m).symm⟩
    obtain ⟨⟨f, g, hu, _⟩, _⟩ := id T
    have hfk : ∀ w, (Instr.findKey kT (pairV p) es).run PP w = (match es with | [] => .ok none w | _ => (Instr.findAsking kT (pairV p) es 0).run PP w) := by
      intro w
      cases es with
      | nil => simp only [Instr.findKey, Sem.run_bind, run_und hu, Result.andThen_ok, Instr.findNow, Sem.run_pure]
      | cons a r =>
        obtain ⟨m, hm⟩ := hk _ (hes a (List.mem_cons_self ..))
        have : Instr.findNow (.struct #[f, g]) (pairV p) (a :: r) 0 = none := by
          simp only [Instr.findNow, hm, pairV, Instr.sameNow]
        simp only [Instr.findKey, Sem.run_bind, run_und hu, Result.andThen_ok, this]
    have hgen := fun w => findAsk_gen (i := 0) w (heq w)
    refine ⟨fun em w => pair_check T em p w, fun hn w => ?_, fun j e he hx hlt w => ?_, fun w => by simp [Instr.keyThatStays, pairV, Instr.sameBits]⟩
    · rw [hfk]
      cases es with
      | nil => rfl
      | cons a r => exact (hgen w).1 hn
    · rw [hfk]
      cases es with
      | nil => simp at he
      | cons a r =>
        have := (hgen w).2 j e he hx hlt
        rw [Nat.zero_add] at this
        exact this
end
end Go.Ev
namespace Go.Ev
open Go Go.Vc
section
variable {η η' : Eta} {B : Base} {h h' : H} {n n' : Nat} {w w' : World} {e : Env} {ty : TypeId} {K : KV} {Ku : KU}
theorem onMapO_ok {k : Nat} {o : VO} {K : Nat → ES → Ans} (h : (onMapO o K).ok) : ∃ ck es, o = .map ck es ∧ onMapO o K = K ck es := by
  cases o with
  | map ck es => exact ⟨ck, es, rfl, rfl⟩
  | _ => exact False.elim h
structure MapR (η : Eta) (es : ES) (ents : List MapEntry) (ck s : Nat) (l : List (Value × Value × Nat)) : Prop where
  esr : ESR η es l
  perm : l.Perm (ents.map tri)
  hom : Hom s es
  s0 : s ≠ 0
  keys : (l.map (·.1)).Nodup
  born : (ents.map (·.born)).Nodup
  clock : ∀ e ∈ ents, e.born < ck
theorem MapR.at {es : ES} {ck : Nat} {k b u : Nat} (hk : η k = some (b, u)) (ho : ObjAt η w k (.map ck es)) : ∃ ents s l, w.heap[b]? = some (.map ents ck) ∧ MapR η es ents.toList ck s l := by
  obtain ⟨b', u', ents, l, s, h1, h2, h3, h4, h5, h6, h7, h8, h9⟩ := ho
  rw [hk] at h1; cases h1
  exact ⟨ents, s, l, h2, h3, h4, h5, h6, h7, h8, h9⟩
theorem MapR.obj {es : ES} {ck s : Nat} {k b u : Nat} {ents : Array MapEntry} {l : List (Value × Value × Nat)} (hk : η k = some (b, u)) (hb : w.heap[b]? = some (.map ents ck)) (h : MapR η es ents.toList ck s l) : ObjAt η w k (.map ck es) :=
  ⟨b, u, ents, l, s, hk, hb, h.esr, h.perm, h.hom, h.s0, h.keys, h.born, h.clock⟩
section
variable {es : ES} {ents : List MapEntry} {ck s : Nat} {l : List (Value × Value × Nat)}
theorem MapR.rs (M : MapR η es ents ck s l) : ∀ e ∈ ents, RS s e.key := by
  intro e he
  have : tri e ∈ l := M.perm.mem_iff.2 (List.mem_map_of_mem he)
  exact M.hom.all M.s0 M.esr _ this
theorem MapR.entKeys (M : MapR η es ents ck s l) : (ents.map (·.key)).Nodup := by
  have h1 : (l.map (·.1)).Perm ((ents.map tri).map (·.1)) := M.perm.map _
  rw [List.map_map] at h1
  exact h1.nodup_iff.1 M.keys
theorem MapR.not (M : MapR η es ents ck s l) {x : Value} (hx : x ∉ l.map (·.1)) : ∀ e ∈ ents, x ≠ e.key := by
  intro e he hh
  refine hx (List.mem_map.2 ⟨tri e, M.perm.mem_iff.2 (List.mem_map_of_mem he), hh.symm⟩)
theorem MapR.place (M : MapR η es ents ck s l) {x y : Value} {i : Nat} (hx : (x, y, i) ∈ l) : ∃ (j : Nat) (e : MapEntry), ents[j]? = some e ∧ e.key = x ∧ e.val = y ∧ e.born = i ∧ ∀ (j' : Nat) (e' : MapEntry), j' < j → ents[j']? = some e' → e'.key ≠ x := by
  obtain ⟨e, he, htri⟩ := List.mem_map.1 (M.perm.mem_iff.1 hx)
  obtain ⟨j, hj⟩ := List.getElem?_of_mem he
  simp only [tri, Prod.mk.injEq] at htri
  refine ⟨j, e, hj, htri.1, htri.2.1, htri.2.2, fun j' e' hlt hj' hk => ?_⟩
  have hn := M.entKeys
  obtain ⟨hjl, hje⟩ := List.getElem?_eq_some_iff.1 hj
  obtain ⟨hjl', hje'⟩ := List.getElem?_eq_some_iff.1 hj'
  have := List.pairwise_iff_getElem.1 hn j' j (by simpa using hjl') (by simpa using hjl) hlt
  rw [List.getElem_map, List.getElem_map, hje, hje'] at this
  exact this (hk.trans htri.1.symm)
theorem MapR.find (M : MapR η es ents ck s l) {t kT eT : TypeId} {k : VV} {x : Value} (hf : KeyFit t (shp k) kT eT) (hs : shp k ≠ 0) (hk : R η k x) {Kn : Ans} {Ks : VV → Nat → Ans} (h : (findES es k Kn Ks).ok) :
    (∀ em w, (Instr.checkKey em 10000 kT x).run PP w = .ok () w) ∧ (∀ w, (Instr.keyThatStays x x).run PP w = .ok x w) ∧ Hom (shp k) es ∧
    ((findES es k Kn Ks = Kn ∧ x ∉ l.map (·.1) ∧ ∀ w, (Instr.findKey kT x ents).run PP w = .ok none w) ∨
    ∃ (v : VV) (j : Nat) (y : Value) (i c p : Nat) (en : MapEntry), findES es k Kn Ks = Ks v j ∧ (x, y, i) ∈ l ∧ R η v y ∧ η j = some (i, c) ∧ ents[p]? = some en ∧ en.key = x ∧ en.val = y ∧ en.born = i ∧ (∀ (p' : Nat) (e' : MapEntry), p' < p → ents[p']? = some e' → e'.key ≠ x) ∧ ∀ w, (Instr.findKey kT x ents).run PP w = .ok (some (p, y)) w) := by
  rcases findES_ok hk M.esr h with ⟨h1, h2, h3, h4⟩ | ⟨v, j, y, i, c, h1, h2, h3, h4, h5, a, u, r, h6, h7⟩
  · have hrs : ∀ e ∈ ents, RS (shp k) e.key := by
      intro e he
      have : tri e ∈ l := M.perm.mem_iff.2 (List.mem_map_of_mem he)
      exact h2.all hs M.esr _ this
    have F := finds_ok hf (RS.of rfl hs hk) hrs
    exact ⟨F.chk, F.stay, h2, .inl ⟨h1, h4, F.no (M.not h4)⟩⟩
  · have hss : s = shp k := by
      have := M.hom
      rw [h6] at this
      rw [← h7]; exact this.1.symm
    have hh := M.hom
    have hrs := M.rs
    rw [hss] at hh hrs
    have F := finds_ok hf (RS.of rfl hs hk) hrs
    obtain ⟨p, en, g1, g2, g3, g4, g5⟩ := M.place h2
    refine ⟨F.chk, F.stay, hh, .inr ⟨v, j, y, i, c, p, en, h1, h2, h3, h4, g1, g2, g3, g4, g5, fun w => ?_⟩⟩
    rw [F.yes p en g1 g2 g5 w, g3]
end
theorem elemZ_ok {t kT eT : TypeId} (hu : PP.underlying t = some (.map kT eT)) {K : VV → Ans} (h : (onS (elemZ PP t) K).ok) : ∃ v z, onS (elemZ PP t) K = K v ∧ R η v z ∧ zeroOf PP eT = some z := by
  obtain ⟨v, e1, e2⟩ := onS_ok h
  unfold elemZ at e1
  rw [hu] at e1
  have e1 : zeroV PP eT = .v v := e1
  unfold zeroV at e1
  split at e1
  · rename_i z hz
    exact ⟨v, z, e2, ofV_ok e1, hz⟩
  · cases e1
theorem lkT_ok {ok b : Bool} {v : VV} {a : Value} {K : VV → Ans} (hv : R η v a) : ∃ u, lkT ok b v K = K u ∧ R η u (if ok then .tuple #[a, .bool b] else a) := by
  cases ok with
  | false => exact ⟨v, rfl, hv⟩
  | true => exact ⟨_, rfl, by simp only [R, if_true]; exact ⟨_, .cv hv (.cv (by simp only [R]) .nl), rfl⟩⟩
theorem lookE_ok (H0 : Rel η e.B h n w) {t : TypeId} {ok : Bool} {m k : VV} {ma ka : Value} {K : VV → Ans} (hm : R η m ma) (hk : R η k ka) (h1 : (lookE e h t ok m k K).ok) :
    ∃ v a, lookE e h t ok m k K = K v ∧ R η v a ∧ Lk PP t ok w ma ka a := by
  cases m with
  | nilm =>
    have h1 : (keyT t k (onS (elemZ PP t) fun z => lkT ok false z K)).ok := h1
    obtain ⟨e1, hs, kT, eT, hf⟩ := keyT_ok h1
    rw [e1] at h1
    obtain ⟨z, zv, e2, e3, e4⟩ := elemZ_ok (η := η) hf.und h1
    rw [e2] at h1
    obtain ⟨u, e5, e6⟩ := lkT_ok (ok := ok) (b := false) (K := K) e3
    simp only [R] at hm
    subst hm
    have F := finds_ok hf (RS.of rfl hs hk) (es := []) (fun _ h => by cases h)
    refine ⟨u, _, (e1.trans (e2.trans e5) : _), e6, ?_⟩
    have hfk := F.no (fun _ h => by cases h) w
    simp only [Lk, Instr.lookup, Sem.run_bind, run_und hf.und, Result.andThen_ok, Sem.run_pure, F.chk, Sem.run_map, run_zero e4]
    rw [hfk]
    simp only [Result.andThen_ok, Sem.run_map, Sem.run_bind, Sem.run_pure, run_zero e4]
  | map b0 =>
    have h1 : (onMapO (look e.B h b0) fun _ es => keyT t k (findES es k (onS (elemZ PP t) fun z => lkT ok false z K) fun v _ => lkT ok true v K)).ok := h1
    obtain ⟨ck, es, ho, e1⟩ := onMapO_ok (k := b0) h1
    rw [e1] at h1
    obtain ⟨e2, hs, kT, eT, hf⟩ := keyT_ok h1
    rw [e2] at h1
    simp only [R] at hm
    obtain ⟨b, u0, hkk, rfl⟩ := hm
    have hobj := H0.obj b0
    rw [ho] at hobj
    obtain ⟨ents, s, l, hb, M⟩ := MapR.at hkk hobj
    obtain ⟨F1, F2, F3, F4⟩ := M.find hf hs hk h1
    rcases F4 with ⟨g1, g2, g3⟩ | ⟨v, j, y, i, c, p, en, g1, g2, g3, g4, g5, g6, g7, g8, g9, g10⟩
    · rw [g1] at h1
      obtain ⟨z, zv, e3, e4, e5⟩ := elemZ_ok (η := η) hf.und h1
      obtain ⟨u, e6, e7⟩ := lkT_ok (ok := ok) (b := false) (K := K) e4
      refine ⟨u, _, (e1.trans (e2.trans (g1.trans (e3.trans e6))) : _), e7, ?_⟩
      simp only [Lk, Instr.lookup, Sem.run_bind, run_und hf.und, Result.andThen_ok, Go.Vc.run_getObj_map hb, Sem.run_pure, F1, g3, Sem.run_map, run_zero e5]
    · obtain ⟨u, e6, e7⟩ := lkT_ok (ok := ok) (b := true) (K := K) g3
      refine ⟨u, _, (e1.trans (e2.trans (g1.trans e6)) : _), e7, ?_⟩
      simp only [Lk, Instr.lookup, Sem.run_bind, run_und hf.und, Result.andThen_ok, Go.Vc.run_getObj_map hb, Sem.run_pure, F1, g10]
  | _ => exact False.elim h1
theorem lenES_eq {K : Nat → Ans} : ∀ {es : ES} {l : List (Value × Value × Nat)} {s : Nat}, ESR η es l → lenES es s K = K (s + l.length)
  | .nl, l, s, hl => by
    have hl : l = [] := hl
    subst hl; rfl
  | .e k v j r, l, s, hl => by
    obtain ⟨x, y, i, c, q, h1, h2, h3, h4, rfl⟩ := hl
    have e : lenES (.e k v j r) s K = fN (Nat.add s 1) fun s => lenES r s K := rfl
    rw [e, fN_eq, lenES_eq h4, List.length_cons]
    show K (s + 1 + _) = _
    rw [Nat.add_assoc, Nat.add_comm 1]
theorem lenM_ok (H0 : Rel η e.B h n w) {t kT eT : TypeId} {ts : Array TypeId} (ht : ts[0]? = some t) (hu : PP.underlying t = some (.map kT eT)) {m : VV} {a : Value} (hm : R η m a) {K : VV → Ans} (hk : (lenM e h m K).ok) :
    ∃ v b, lenM e h m K = K v ∧ R η v b ∧ LenM PP ts ty w a b := by
  cases m with
  | nilm =>
    simp only [R] at hm
    subst hm
    refine ⟨_, .int .i64 ((0 : Nat) : Int), rfl, .i64, ?_⟩
    simp [LenM, Builtin.len_, Builtin.lenOf, run_und hu, goInt, ht]
  | map b0 =>
    have hk : (onMapO (look e.B h b0) fun _ es => lenES es 0 fun n => K (.int .i64 (.ofNat n))).ok := hk
    obtain ⟨ck, es, ho, e1⟩ := onMapO_ok (k := b0) hk
    simp only [R] at hm
    obtain ⟨b, u0, hkk, rfl⟩ := hm
    have hobj := H0.obj b0
    rw [ho] at hobj
    obtain ⟨ents, s, l, hb, M⟩ := MapR.at hkk hobj
    have e2 := lenES_eq (K := fun n => K (.int .i64 (.ofNat n))) (s := 0) M.esr
    have e3 : l.length = ents.size := by rw [M.perm.length_eq]; simp
    refine ⟨_, .int .i64 ((l.length : Nat) : Int), (e1.trans (e2.trans (by rw [Nat.zero_add])) : _), .i64, ?_⟩
    simp [LenM, Builtin.len_, Builtin.lenOf, Go.Vc.run_getObj_map hb, run_und hu, goInt, ht, e3]
  | _ => exact False.elim hk
end
end Go.Ev
namespace Go.Ev
open Go Go.Vc
section
variable {η η' : Eta} {B : Base} {h h' : H} {n n' : Nat} {w w' : World} {e : Env} {ty : TypeId}
theorem putES_ok {k v : VV} {x a : Value} (hk : R η k x) (hv : R η v a) : ∀ {es : ES} {l : List (Value × Value × Nat)} {K : ES → Ans}, ESR η es l → (putES es k v K).ok →
    ∃ es' l1 y i l2, putES es k v K = K es' ∧ l = l1 ++ (x, y, i) :: l2 ∧ ESR η es' (l1 ++ (x, a, i) :: l2) ∧ ∀ s, Hom s es → Hom s es'
  | .nl, l, K, hl, h => False.elim h
  | .e b u j r, l, K, hl, h => by
    obtain ⟨xb, y, i, c, q, h1, h2, h3, h4, rfl⟩ := hl
    have e0 : putES (.e b u j r) k v K = keyEq k b fun t => bA t (K (.e b v j r)) (putES r k v fun r => K (.e b u j r)) := rfl
    rw [e0] at h ⊢
    obtain ⟨e1, e2, e3⟩ := keyEq_ok h
    rw [e3] at h ⊢
    have hiff := keyB_iff rfl e2.symm e1 hk h1
    cases hb : keyB k b with
    | true =>
      have := hiff.1 hb
      subst this
      exact ⟨_, [], y, i, q, rfl, rfl, ⟨x, a, i, c, q, h1, hv, h3, h4, rfl⟩, fun s hs => hs⟩
    | false =>
      rw [hb] at h
      obtain ⟨es', l1, y', i', l2, g1, rfl, g3, g4⟩ := putES_ok hk hv h4 (h : (putES r k v fun r => K (.e b u j r)).ok)
      exact ⟨_, (xb, y, i) :: l1, y', i', l2, g1, rfl, ⟨xb, y, i, c, _, h1, h2, h3, g3, rfl⟩, fun s hs => ⟨hs.1, g4 s hs.2⟩⟩
theorem delES_ok {k : VV} {x : Value} (hk : R η k x) : ∀ {es : ES} {l : List (Value × Value × Nat)} {K : ES → Ans}, ESR η es l → (delES es k K).ok →
    ∃ es', delES es k K = K es' ∧ (∀ s, Hom s es → Hom s es') ∧ (es = .nl ∨ (shp k ≠ 0 ∧ ∀ s, Hom s es → s = shp k)) ∧
      ((x ∉ l.map (·.1) ∧ ESR η es' l) ∨ ∃ l1 y i l2, l = l1 ++ (x, y, i) :: l2 ∧ ESR η es' (l1 ++ l2))
  | .nl, l, K, hl, h => by
    have hl : l = [] := hl
    subst hl
    exact ⟨.nl, rfl, fun s hs => hs, .inl rfl, .inl ⟨by simp, rfl⟩⟩
  | .e b u j r, l, K, hl, h => by
    obtain ⟨xb, y, i, c, q, h1, h2, h3, h4, rfl⟩ := hl
    have e0 : delES (.e b u j r) k K = keyEq k b fun t => bA t (K r) (delES r k fun r => K (.e b u j r)) := rfl
    rw [e0] at h ⊢
    obtain ⟨e1, e2, e3⟩ := keyEq_ok h
    rw [e3] at h ⊢
    have hiff := keyB_iff rfl e2.symm e1 hk h1
    have hsh : ∀ s, Hom s (.e b u j r) → s = shp k := fun s hs => by rw [e2]; exact hs.1.symm
    cases hb : keyB k b with
    | true =>
      have := hiff.1 hb
      subst this
      exact ⟨_, rfl, fun s hs => hs.2, .inr ⟨e1, hsh⟩, .inr ⟨[], y, i, q, rfl, h4⟩⟩
    | false =>
      rw [hb] at h
      have hne : x ≠ xb := fun hx => by rw [hiff.2 hx] at hb; cases hb
      obtain ⟨es', g1, g2, _, g3⟩ := delES_ok hk h4 (h : (delES r k fun r => K (.e b u j r)).ok)
      refine ⟨_, g1, fun s hs => ⟨hs.1, g2 s hs.2⟩, .inr ⟨e1, hsh⟩, ?_⟩
      rcases g3 with ⟨g3, g4⟩ | ⟨l1, y', i', l2, rfl, g4⟩
      · refine .inl ⟨?_, ⟨xb, y, i, c, _, h1, h2, h3, g4, rfl⟩⟩
        simp only [List.map_cons, List.mem_cons, not_or]
        exact ⟨hne, g3⟩
      · exact .inr ⟨(xb, y, i) :: l1, y', i', l2, rfl, ⟨xb, y, i, c, _, h1, h2, h3, g4, rfl⟩⟩
theorem insES_ok {k v : VV} {x a : Value} {j i c : Nat} (hk : R η k x) (hv : R η v a) (hj : η j = some (i, c)) : ∀ {es : ES} {l : List (Value × Value × Nat)} {K : ES → Ans}, ESR η es l →
    ∃ es' l', insES es k v j K = K es' ∧ ESR η es' l' ∧ l'.Perm ((x, a, i) :: l) ∧ ∀ s, shp k = s → Hom s es → Hom s es'
  | .nl, l, K, hl => by
    have hl : l = [] := hl
    subst hl
    exact ⟨.e k v j .nl, [(x, a, i)], rfl, ⟨x, a, i, c, [], hk, hv, hj, rfl, rfl⟩, .refl _, fun s hs _ => ⟨hs, trivial⟩⟩
  | .e b u j' r, l, K, hl => by
    have hl0 := hl
    obtain ⟨xb, y, i', c', q, h1, h2, h3, h4, rfl⟩ := hl
    have e0 : insES (.e b u j' r) k v j K = bA (keyLt k b) (K (.e k v j (.e b u j' r))) (insES r k v j fun r => K (.e b u j' r)) := rfl
    rw [e0]
    cases hb : keyLt k b with
    | true => exact ⟨_, _, rfl, ⟨x, a, i, c, _, hk, hv, hj, hl0, rfl⟩, .refl _, fun s hs hh => ⟨hs, hh⟩⟩
    | false =>
      obtain ⟨es', l', g1, g2, g3, g4⟩ := insES_ok hk hv hj (K := fun r => K (.e b u j' r)) h4
      exact ⟨_, (xb, y, i') :: l', g1, ⟨xb, y, i', c', _, h1, h2, h3, g2, rfl⟩, (g3.cons _).trans (.swap _ _ _), fun s hs hh => ⟨hh.1, g4 s hs hh.2⟩⟩
theorem setJ_ok {v : VV} {a : Value} {j : Nat} (hv : R η v a) : ∀ {es : ES} {l : List (Value × Value × Nat)} {K : ES → Ans}, ESR η es l → (setJ es j v K).ok →
    ∃ es' l1 x y i c l2, setJ es j v K = K es' ∧ η j = some (i, c) ∧ l = l1 ++ (x, y, i) :: l2 ∧ ESR η es' (l1 ++ (x, a, i) :: l2) ∧ ∀ s, Hom s es → Hom s es'
  | .nl, l, K, hl, h => False.elim h
  | .e b u j' r, l, K, hl, h => by
    obtain ⟨xb, y, i, c, q, h1, h2, h3, h4, rfl⟩ := hl
    have e0 : setJ (.e b u j' r) j v K = bA (Nat.beq j j') (K (.e b v j' r)) (setJ r j v fun r => K (.e b u j' r)) := rfl
    rw [e0] at h ⊢
    cases hb : Nat.beq j j' with
    | true =>
      obtain rfl := beq_t hb
      exact ⟨_, [], xb, y, i, c, q, rfl, h3, rfl, ⟨xb, a, i, c, q, h1, hv, h3, h4, rfl⟩, fun s hs => hs⟩
    | false =>
      rw [hb] at h
      obtain ⟨es', l1, x', y', i', c', l2, g1, g2, rfl, g3, g4⟩ := setJ_ok hv h4 (h : (setJ r j v fun r => K (.e b u j' r)).ok)
      exact ⟨_, (xb, y, i) :: l1, x', y', i', c', l2, g1, g2, rfl, ⟨xb, y, i, c, _, h1, h2, h3, g3, rfl⟩, fun s hs => ⟨hs.1, g4 s hs.2⟩⟩
theorem findJ_ok {j : Nat} : ∀ {es : ES} {l : List (Value × Value × Nat)} {K : VV → VV → Ans}, ESR η es l → (findJ es j K).ok →
    ∃ k v x y i c, findJ es j K = K k v ∧ η j = some (i, c) ∧ (x, y, i) ∈ l ∧ R η k x ∧ R η v y
  | .nl, l, K, hl, h => False.elim h
  | .e b u j' r, l, K, hl, h => by
    obtain ⟨xb, y, i, c, q, h1, h2, h3, h4, rfl⟩ := hl
    have e0 : findJ (.e b u j' r) j K = bA (Nat.beq j j') (K b u) (findJ r j K) := rfl
    rw [e0] at h ⊢
    cases hb : Nat.beq j j' with
    | true =>
      obtain rfl := beq_t hb
      exact ⟨b, u, xb, y, i, c, rfl, h3, List.mem_cons_self .., h1, h2⟩
    | false =>
      rw [hb] at h
      obtain ⟨k, v, x', y', i', c', g1, g2, g3, g4⟩ := findJ_ok h4 h
      exact ⟨k, v, x', y', i', c', g1, g2, List.mem_cons_of_mem _ g3, g4⟩
theorem modify_split {ents : List MapEntry} {p : Nat} {en : MapEntry} (hp : ents[p]? = some en) (f : MapEntry → MapEntry) : ∃ e1 e2, ents = e1 ++ en :: e2 ∧ ents.modify p f = e1 ++ f en :: e2 ∧ ents.eraseIdx p = e1 ++ e2 := by
  induction ents generalizing p with
  | nil => simp at hp
  | cons a r ih =>
    cases p with
    | zero =>
      simp at hp
      subst hp
      exact ⟨[], r, rfl, rfl, rfl⟩
    | succ p =>
      obtain ⟨e1, e2, h1, h2, h3⟩ := ih (by simpa using hp)
      exact ⟨a :: e1, e2, by rw [h1]; rfl, by rw [List.modify_succ_cons, h2]; rfl, by rw [List.eraseIdx_cons_succ, h3]; rfl⟩
theorem perm_mid {α : Type} {a b : α} {l1 l2 m1 m2 : List α} (h : (l1 ++ a :: l2).Perm (m1 ++ a :: m2)) : (l1 ++ b :: l2).Perm (m1 ++ b :: m2) ∧ (l1 ++ l2).Perm (m1 ++ m2) := by
  have h1 := (List.perm_middle.symm.trans (h.trans List.perm_middle)).cons_inv
  exact ⟨List.perm_middle.trans ((h1.cons b).trans List.perm_middle.symm), h1⟩
theorem MapR.set {es es' : ES} {ents : List MapEntry} {ck s p i : Nat} {l1 l2 : List (Value × Value × Nat)} {x y a : Value} {en : MapEntry} (M : MapR η es ents ck s (l1 ++ (x, y, i) :: l2)) (he : ESR η es' (l1 ++ (x, a, i) :: l2)) (hh : Hom s es')
    (hp : ents[p]? = some en) (h1 : en.key = x) (h2 : en.val = y) (h3 : en.born = i) {f : MapEntry → MapEntry} (hf : f en = { key := x, val := a, born := i }) : MapR η es' (ents.modify p f) ck s (l1 ++ (x, a, i) :: l2) := by
  obtain ⟨e1, e2, g1, g2, -⟩ := modify_split hp f
  have htri : tri en = (x, y, i) := by simp [tri, h1, h2, h3]
  have hperm := M.perm
  rw [g1, List.map_append, List.map_cons, htri] at hperm
  have hb : (ents.modify p f).map (·.born) = ents.map (·.born) := by
    rw [g2, g1, List.map_append, List.map_append, List.map_cons, List.map_cons, hf, h3]
  refine ⟨he, ?_, hh, M.s0, ?_, by rw [hb]; exact M.born, fun e he => ?_⟩
  · rw [g2, List.map_append, List.map_cons, hf]
    exact (perm_mid hperm).1
  · have := M.keys
    simpa using this
  · have : e.born ∈ ents.map (·.born) := by rw [← hb]; exact List.mem_map_of_mem he
    obtain ⟨e', h4, h5⟩ := List.mem_map.1 this
    rw [← h5]; exact M.clock e' h4
theorem MapR.del {es es' : ES} {ents : List MapEntry} {ck s p i : Nat} {l1 l2 : List (Value × Value × Nat)} {x y : Value} {en : MapEntry} (M : MapR η es ents ck s (l1 ++ (x, y, i) :: l2)) (he : ESR η es' (l1 ++ l2)) (hh : Hom s es')
    (hp : ents[p]? = some en) (h1 : en.key = x) (h2 : en.val = y) (h3 : en.born = i) : MapR η es' (ents.eraseIdx p) ck s (l1 ++ l2) := by
  obtain ⟨e1, e2, g1, -, g2⟩ := modify_split hp id
  have htri : tri en = (x, y, i) := by simp [tri, h1, h2, h3]
  have hperm := M.perm
  rw [g1, List.map_append, List.map_cons, htri] at hperm
  have hsub : (ents.eraseIdx p).Sublist ents := List.eraseIdx_sublist ..
  refine ⟨he, ?_, hh, M.s0, ?_, M.born.sublist (hsub.map _), fun e he => M.clock e (hsub.subset he)⟩
  · rw [g2, List.map_append]
    exact (perm_mid (b := (x, y, i)) hperm).2
  · have := M.keys
    simp only [List.map_append, List.map_cons] at this ⊢
    exact this.sublist ((List.sublist_cons_self _ _).append_left _)
theorem MapR.ins {es es' : ES} {ents : List MapEntry} {ck s : Nat} {l l' : List (Value × Value × Nat)} {x a : Value} (M : MapR η es ents ck s l) {s' : Nat} (he : ESR η' es' l') (hl : l'.Perm ((x, a, ck) :: l)) (hh : Hom s' es') (hs : s' ≠ 0) (hx : x ∉ l.map (·.1)) :
    MapR η' es' (ents ++ [{ key := x, val := a, born := ck }]) (ck + 1) s' l' := by
  refine ⟨he, ?_, hh, hs, ?_, ?_, fun e he => ?_⟩
  · rw [List.map_append]
    refine hl.trans (((M.perm.cons _)).trans ?_)
    show ((x, a, ck) :: ents.map tri).Perm (ents.map tri ++ [(x, a, ck)])
    exact (List.perm_append_singleton _ _).symm
  · have := (hl.map (·.1)).nodup_iff.2 (by
      rw [List.map_cons, List.nodup_cons]
      exact ⟨hx, M.keys⟩)
    exact this
  · rw [List.map_append, List.nodup_append]
    refine ⟨M.born, by simp, fun b hb c hc => ?_⟩
    simp at hc; subst hc
    obtain ⟨e, he, rfl⟩ := List.mem_map.1 hb
    exact Nat.ne_of_lt (M.clock e he)
  · rcases List.mem_append.1 he with he | he
    · exact Nat.lt_succ_of_lt (M.clock e he)
    · simp at he; subst he; exact Nat.lt_succ_self _
end
end Go.Ev
namespace Go.Ev
open Go Go.Vc
theorem bnd_t {a b : Bool} (h : bnd a b = true) : a = true ∧ b = true := by
  rw [bnd_eq, Bool.and_eq_true] at h; exact h
mutual
theorem beqV_eq : ∀ {a b : VV}, beqV a b = true → a = b
  | .bool a, .bool b, h => by cases a <;> cases b <;> first | rfl | cases h
  | .int k a, .int k' b, h => by
    obtain ⟨h1, h2⟩ := bnd_t (a := Nat.beq (kN k) (kN k')) h
    rw [kN_inj (beq_t h1), of_decide_eq_true ((eqI_eq a b).symm.trans h2)]
  | .str n x, .str m y, h => by
    obtain ⟨h1, h2⟩ := bnd_t (a := Nat.beq n m) h
    rw [beq_t h1, beq_t h2]
  | .ptr k o, .ptr k' o', h => by
    obtain ⟨h1, h2⟩ := bnd_t (a := Nat.beq k k') h
    rw [beq_t h1, beq_t h2]
  | .nilp, .nilp, _ => rfl
  | .sl k o n c, .sl k' o' n' c', h => by
    obtain ⟨h1, h⟩ := bnd_t (a := Nat.beq k k') h
    obtain ⟨h2, h⟩ := bnd_t h
    obtain ⟨h3, h4⟩ := bnd_t h
    rw [beq_t h1, beq_t h2, beq_t h3, beq_t h4]
  | .sg k o n c, .sg k' o' n' c', h => by
    obtain ⟨h1, h⟩ := bnd_t (a := Nat.beq k k') h
    obtain ⟨h2, h⟩ := bnd_t h
    obtain ⟨h3, h4⟩ := bnd_t h
    rw [beq_t h1, beq_t h2, beq_t h3, beq_t h4]
  | .nils, .nils, _ => rfl
  | .map k, .map k', h => by rw [beq_t (b := k') h]
  | .nilm, .nilm, _ => rfl
  | .fn f a b, .fn f' a' b', h => by
    obtain ⟨h1, h⟩ := bnd_t (a := Nat.beq f f') h
    obtain ⟨h2, h3⟩ := bnd_t (a := beqV (.agg a) (.agg a')) (b := beqV (.agg b) (.agg b')) h
    rw [beq_t h1, beqCv_eq h2, beqCv_eq h3]
  | .yld k, .yld k', h => by rw [beq_t (b := k') h]
  | .nilf, .nilf, _ => rfl
  | .ifc t v, .ifc t' v', h => by
    obtain ⟨h1, h2⟩ := bnd_t (a := Nat.beq t t') (b := beqV v v') h
    rw [beq_t h1, beqV_eq h2]
  | .nili, .nili, _ => rfl
  | .agg c, .agg d, h => by rw [beqCv_eq h]
  | .tup c, .tup d, h => by rw [beqCv_eq (c := c) (d := d) h]
  | .gi k, .gi k', h => by rw [beq_t (b := k') h]
theorem beqCv_eq : ∀ {c d : CV}, beqV (.agg c) (.agg d) = true → c = d
  | .nl, .nl, _ => rfl
  | .cb n x r, .cb m y q, h => by
    obtain ⟨h1, h⟩ := bnd_t (a := Nat.beq n m) h
    obtain ⟨h2, h3⟩ := bnd_t (a := Nat.beq x y) (b := beqV (.agg r) (.agg q)) h
    rw [beq_t h1, beq_t h2, beqCv_eq h3]
  | .cv v r, .cv u q, h => by
    obtain ⟨h1, h2⟩ := bnd_t (a := beqV v u) (b := beqV (.agg r) (.agg q)) h
    rw [beqV_eq h1, beqCv_eq h2]
end
theorem beqC_eq : ∀ {c d : CV}, beqC c d = true → c = d
  | .nl, .nl, _ => rfl
  | .cb n x r, .cb m y q, h => by
    obtain ⟨h1, h⟩ := bnd_t (a := Nat.beq n m) h
    obtain ⟨h2, h3⟩ := bnd_t (a := Nat.beq x y) (b := beqC r q) h
    rw [beq_t h1, beq_t h2, beqC_eq h3]
  | .cv v r, .cv u q, h => by
    obtain ⟨h1, h2⟩ := bnd_t (a := beqV v u) (b := beqC r q) h
    rw [beqV_eq h1, beqC_eq h2]
theorem beqS_eq : ∀ {a b : S}, beqS a b = true → a = b
  | .no, .no, _ => rfl
  | .v x, .v y, h => by rw [beqV_eq (a := x) (b := y) h]
theorem beqES_eq : ∀ {a b : ES}, beqES a b = true → a = b
  | .nl, .nl, _ => rfl
  | .e k v j r, .e k' v' j' r', h => by
    obtain ⟨h1, h⟩ := bnd_t (a := beqV k k') h
    obtain ⟨h2, h⟩ := bnd_t (a := beqV v v') h
    obtain ⟨h3, h4⟩ := bnd_t (a := Nat.beq j j') (b := beqES r r') h
    rw [beqV_eq h1, beqV_eq h2, beq_t h3, beqES_eq h4]
theorem beqO_eq : ∀ {a b : VO}, beqO a b = true → a = b := by
  intro a b h
  cases a <;> cases b <;> first | exact False.elim (Bool.noConfusion h) | skip
  · rfl
  · rename_i t c t' c'
    obtain ⟨h1, h2⟩ := bnd_t (a := Nat.beq t t') (b := beqC c c') h
    rw [beq_t h1, beqC_eq h2]
  · rename_i t u c t' u' c'
    obtain ⟨h1, h⟩ := bnd_t (a := Nat.beq t t') h
    obtain ⟨h2, h3⟩ := bnd_t (a := Nat.beq u u') (b := beqC c c') h
    rw [beq_t h1, beq_t h2, beqC_eq h3]
  · rename_i t c t' c'
    obtain ⟨h1, h2⟩ := bnd_t (a := Nat.beq t t') (b := beqES c c') h
    rw [beq_t h1, beqES_eq h2]
  · rfl
theorem beqR_mk {a0 a1 a2 a3 a4 a5 a6 a7 a8 a9 a10 a11 a12 a13 a14 a15 b0 b1 b2 b3 b4 b5 b6 b7 b8 b9 b10 b11 b12 b13 b14 b15} : beqR (.mk a0 a1 a2 a3 a4 a5 a6 a7 a8 a9 a10 a11 a12 a13 a14 a15) (.mk b0 b1 b2 b3 b4 b5 b6 b7 b8 b9 b10 b11 b12 b13 b14 b15) = bnd (beqS a0 b0) (bnd (beqS a1 b1) (bnd (beqS a2 b2) (bnd (beqS a3 b3) (bnd (beqS a4 b4) (bnd (beqS a5 b5) (bnd (beqS a6 b6) (bnd (beqS a7 b7) (bnd (beqS a8 b8) (bnd (beqS a9 b9) (bnd (beqS a10 b10) (bnd (beqS a11 b11) (bnd (beqS a12 b12) (bnd (beqS a13 b13) (bnd (beqS a14 b14) (bnd (beqS a15 b15) (true)))))))))))))))) := rfl
theorem beqR_eq {a b : R16} (h : beqR a b = true) : a = b := by
  cases a with
  | e =>
    cases b with
    | e => rfl
    | mk b0 b1 b2 b3 b4 b5 b6 b7 b8 b9 b10 b11 b12 b13 b14 b15 => exact Bool.noConfusion (show false = true from h)
  | mk a0 a1 a2 a3 a4 a5 a6 a7 a8 a9 a10 a11 a12 a13 a14 a15 =>
    cases b with
    | e => exact Bool.noConfusion (show false = true from h)
    | mk b0 b1 b2 b3 b4 b5 b6 b7 b8 b9 b10 b11 b12 b13 b14 b15 =>
      rw [beqR_mk] at h
      simp only [bnd_eq, Bool.and_eq_true] at h
      obtain ⟨h0, h1, h2, h3, h4, h5, h6, h7, h8, h9, h10, h11, h12, h13, h14, h15, -⟩ := h
      rw [beqS_eq h0, beqS_eq h1, beqS_eq h2, beqS_eq h3, beqS_eq h4, beqS_eq h5, beqS_eq h6, beqS_eq h7, beqS_eq h8, beqS_eq h9, beqS_eq h10, beqS_eq h11, beqS_eq h12, beqS_eq h13, beqS_eq h14, beqS_eq h15]
theorem beqF_mk {a0 a1 a2 a3 a4 a5 a6 a7 a8 a9 a10 a11 a12 a13 a14 a15 b0 b1 b2 b3 b4 b5 b6 b7 b8 b9 b10 b11 b12 b13 b14 b15} : beqF (.mk a0 a1 a2 a3 a4 a5 a6 a7 a8 a9 a10 a11 a12 a13 a14 a15) (.mk b0 b1 b2 b3 b4 b5 b6 b7 b8 b9 b10 b11 b12 b13 b14 b15) = bnd (beqR a0 b0) (bnd (beqR a1 b1) (bnd (beqR a2 b2) (bnd (beqR a3 b3) (bnd (beqR a4 b4) (bnd (beqR a5 b5) (bnd (beqR a6 b6) (bnd (beqR a7 b7) (bnd (beqR a8 b8) (bnd (beqR a9 b9) (bnd (beqR a10 b10) (bnd (beqR a11 b11) (bnd (beqR a12 b12) (bnd (beqR a13 b13) (bnd (beqR a14 b14) (bnd (beqR a15 b15) (true)))))))))))))))) := rfl
theorem beqF_eq {a b : F} (h : beqF a b = true) : a = b := by
  cases a with
  | e =>
    cases b with
    | e => rfl
    | mk b0 b1 b2 b3 b4 b5 b6 b7 b8 b9 b10 b11 b12 b13 b14 b15 => exact Bool.noConfusion (show false = true from h)
  | mk a0 a1 a2 a3 a4 a5 a6 a7 a8 a9 a10 a11 a12 a13 a14 a15 =>
    cases b with
    | e => exact Bool.noConfusion (show false = true from h)
    | mk b0 b1 b2 b3 b4 b5 b6 b7 b8 b9 b10 b11 b12 b13 b14 b15 =>
      rw [beqF_mk] at h
      simp only [bnd_eq, Bool.and_eq_true] at h
      obtain ⟨h0, h1, h2, h3, h4, h5, h6, h7, h8, h9, h10, h11, h12, h13, h14, h15, -⟩ := h
      rw [beqR_eq h0, beqR_eq h1, beqR_eq h2, beqR_eq h3, beqR_eq h4, beqR_eq h5, beqR_eq h6, beqR_eq h7, beqR_eq h8, beqR_eq h9, beqR_eq h10, beqR_eq h11, beqR_eq h12, beqR_eq h13, beqR_eq h14, beqR_eq h15]
theorem beqH0_mk {a0 a1 a2 a3 a4 a5 a6 a7 a8 a9 a10 a11 a12 a13 a14 a15 b0 b1 b2 b3 b4 b5 b6 b7 b8 b9 b10 b11 b12 b13 b14 b15} : beqH0 (.mk a0 a1 a2 a3 a4 a5 a6 a7 a8 a9 a10 a11 a12 a13 a14 a15) (.mk b0 b1 b2 b3 b4 b5 b6 b7 b8 b9 b10 b11 b12 b13 b14 b15) = bnd (beqO a0 b0) (bnd (beqO a1 b1) (bnd (beqO a2 b2) (bnd (beqO a3 b3) (bnd (beqO a4 b4) (bnd (beqO a5 b5) (bnd (beqO a6 b6) (bnd (beqO a7 b7) (bnd (beqO a8 b8) (bnd (beqO a9 b9) (bnd (beqO a10 b10) (bnd (beqO a11 b11) (bnd (beqO a12 b12) (bnd (beqO a13 b13) (bnd (beqO a14 b14) (bnd (beqO a15 b15) (true)))))))))))))))) := rfl
theorem beqH0_eq {a b : H0} (h : beqH0 a b = true) : a = b := by
  cases a with
  | e =>
    cases b with
    | e => rfl
    | mk b0 b1 b2 b3 b4 b5 b6 b7 b8 b9 b10 b11 b12 b13 b14 b15 => exact Bool.noConfusion (show false = true from h)
  | mk a0 a1 a2 a3 a4 a5 a6 a7 a8 a9 a10 a11 a12 a13 a14 a15 =>
    cases b with
    | e => exact Bool.noConfusion (show false = true from h)
    | mk b0 b1 b2 b3 b4 b5 b6 b7 b8 b9 b10 b11 b12 b13 b14 b15 =>
      rw [beqH0_mk] at h
      simp only [bnd_eq, Bool.and_eq_true] at h
      obtain ⟨h0, h1, h2, h3, h4, h5, h6, h7, h8, h9, h10, h11, h12, h13, h14, h15, -⟩ := h
      rw [beqO_eq h0, beqO_eq h1, beqO_eq h2, beqO_eq h3, beqO_eq h4, beqO_eq h5, beqO_eq h6, beqO_eq h7, beqO_eq h8, beqO_eq h9, beqO_eq h10, beqO_eq h11, beqO_eq h12, beqO_eq h13, beqO_eq h14, beqO_eq h15]
theorem beqH1_mk {a0 a1 a2 a3 a4 a5 a6 a7 a8 a9 a10 a11 a12 a13 a14 a15 b0 b1 b2 b3 b4 b5 b6 b7 b8 b9 b10 b11 b12 b13 b14 b15} : beqH1 (.mk a0 a1 a2 a3 a4 a5 a6 a7 a8 a9 a10 a11 a12 a13 a14 a15) (.mk b0 b1 b2 b3 b4 b5 b6 b7 b8 b9 b10 b11 b12 b13 b14 b15) = bnd (beqH0 a0 b0) (bnd (beqH0 a1 b1) (bnd (beqH0 a2 b2) (bnd (beqH0 a3 b3) (bnd (beqH0 a4 b4) (bnd (beqH0 a5 b5) (bnd (beqH0 a6 b6) (bnd (beqH0 a7 b7) (bnd (beqH0 a8 b8) (bnd (beqH0 a9 b9) (bnd (beqH0 a10 b10) (bnd (beqH0 a11 b11) (bnd (beqH0 a12 b12) (bnd (beqH0 a13 b13) (bnd (beqH0 a14 b14) (bnd (beqH0 a15 b15) (true)))))))))))))))) := rfl
theorem beqH1_eq {a b : H1} (h : beqH1 a b = true) : a = b := by
  cases a with
  | e =>
    cases b with
    | e => rfl
    | mk b0 b1 b2 b3 b4 b5 b6 b7 b8 b9 b10 b11 b12 b13 b14 b15 => exact Bool.noConfusion (show false = true from h)
  | mk a0 a1 a2 a3 a4 a5 a6 a7 a8 a9 a10 a11 a12 a13 a14 a15 =>
    cases b with
    | e => exact Bool.noConfusion (show false = true from h)
    | mk b0 b1 b2 b3 b4 b5 b6 b7 b8 b9 b10 b11 b12 b13 b14 b15 =>
      rw [beqH1_mk] at h
      simp only [bnd_eq, Bool.and_eq_true] at h
      obtain ⟨h0, h1, h2, h3, h4, h5, h6, h7, h8, h9, h10, h11, h12, h13, h14, h15, -⟩ := h
      rw [beqH0_eq h0, beqH0_eq h1, beqH0_eq h2, beqH0_eq h3, beqH0_eq h4, beqH0_eq h5, beqH0_eq h6, beqH0_eq h7, beqH0_eq h8, beqH0_eq h9, beqH0_eq h10, beqH0_eq h11, beqH0_eq h12, beqH0_eq h13, beqH0_eq h14, beqH0_eq h15]
theorem beqH2_mk {a0 a1 a2 a3 a4 a5 a6 a7 a8 a9 a10 a11 a12 a13 a14 a15 b0 b1 b2 b3 b4 b5 b6 b7 b8 b9 b10 b11 b12 b13 b14 b15} : beqH2 (.mk a0 a1 a2 a3 a4 a5 a6 a7 a8 a9 a10 a11 a12 a13 a14 a15) (.mk b0 b1 b2 b3 b4 b5 b6 b7 b8 b9 b10 b11 b12 b13 b14 b15) = bnd (beqH1 a0 b0) (bnd (beqH1 a1 b1) (bnd (beqH1 a2 b2) (bnd (beqH1 a3 b3) (bnd (beqH1 a4 b4) (bnd (beqH1 a5 b5) (bnd (beqH1 a6 b6) (bnd (beqH1 a7 b7) (bnd (beqH1 a8 b8) (bnd (beqH1 a9 b9) (bnd (beqH1 a10 b10) (bnd (beqH1 a11 b11) (bnd (beqH1 a12 b12) (bnd (beqH1 a13 b13) (bnd (beqH1 a14 b14) (bnd (beqH1 a15 b15) (true)))))))))))))))) := rfl
theorem beqH2_eq {a b : H2} (h : beqH2 a b = true) : a = b := by
  cases a with
  | e =>
    cases b with
    | e => rfl
    | mk b0 b1 b2 b3 b4 b5 b6 b7 b8 b9 b10 b11 b12 b13 b14 b15 => exact Bool.noConfusion (show false = true from h)
  | mk a0 a1 a2 a3 a4 a5 a6 a7 a8 a9 a10 a11 a12 a13 a14 a15 =>
    cases b with
    | e => exact Bool.noConfusion (show false = true from h)
    | mk b0 b1 b2 b3 b4 b5 b6 b7 b8 b9 b10 b11 b12 b13 b14 b15 =>
      rw [beqH2_mk] at h
      simp only [bnd_eq, Bool.and_eq_true] at h
      obtain ⟨h0, h1, h2, h3, h4, h5, h6, h7, h8, h9, h10, h11, h12, h13, h14, h15, -⟩ := h
      rw [beqH1_eq h0, beqH1_eq h1, beqH1_eq h2, beqH1_eq h3, beqH1_eq h4, beqH1_eq h5, beqH1_eq h6, beqH1_eq h7, beqH1_eq h8, beqH1_eq h9, beqH1_eq h10, beqH1_eq h11, beqH1_eq h12, beqH1_eq h13, beqH1_eq h14, beqH1_eq h15]
theorem beqH_mk {a0 a1 a2 a3 a4 a5 a6 a7 a8 a9 a10 a11 a12 a13 a14 a15 b0 b1 b2 b3 b4 b5 b6 b7 b8 b9 b10 b11 b12 b13 b14 b15} : beqH (.mk a0 a1 a2 a3 a4 a5 a6 a7 a8 a9 a10 a11 a12 a13 a14 a15) (.mk b0 b1 b2 b3 b4 b5 b6 b7 b8 b9 b10 b11 b12 b13 b14 b15) = bnd (beqH2 a0 b0) (bnd (beqH2 a1 b1) (bnd (beqH2 a2 b2) (bnd (beqH2 a3 b3) (bnd (beqH2 a4 b4) (bnd (beqH2 a5 b5) (bnd (beqH2 a6 b6) (bnd (beqH2 a7 b7) (bnd (beqH2 a8 b8) (bnd (beqH2 a9 b9) (bnd (beqH2 a10 b10) (bnd (beqH2 a11 b11) (bnd (beqH2 a12 b12) (bnd (beqH2 a13 b13) (bnd (beqH2 a14 b14) (bnd (beqH2 a15 b15) (true)))))))))))))))) := rfl
theorem beqH_eq {a b : H} (h : beqH a b = true) : a = b := by
  cases a with
  | e =>
    cases b with
    | e => rfl
    | mk b0 b1 b2 b3 b4 b5 b6 b7 b8 b9 b10 b11 b12 b13 b14 b15 => exact Bool.noConfusion (show false = true from h)
  | mk a0 a1 a2 a3 a4 a5 a6 a7 a8 a9 a10 a11 a12 a13 a14 a15 =>
    cases b with
    | e => exact Bool.noConfusion (show false = true from h)
    | mk b0 b1 b2 b3 b4 b5 b6 b7 b8 b9 b10 b11 b12 b13 b14 b15 =>
      rw [beqH_mk] at h
      simp only [bnd_eq, Bool.and_eq_true] at h
      obtain ⟨h0, h1, h2, h3, h4, h5, h6, h7, h8, h9, h10, h11, h12, h13, h14, h15, -⟩ := h
      rw [beqH2_eq h0, beqH2_eq h1, beqH2_eq h2, beqH2_eq h3, beqH2_eq h4, beqH2_eq h5, beqH2_eq h6, beqH2_eq h7, beqH2_eq h8, beqH2_eq h9, beqH2_eq h10, beqH2_eq h11, beqH2_eq h12, beqH2_eq h13, beqH2_eq h14, beqH2_eq h15]
theorem beqOL_eq : ∀ {a b : OL}, beqOL a b = true → a = b
  | .nl, .nl, _ => rfl
  | .nl, .o _ _, h => Bool.noConfusion (show false = true from h)
  | .o _ _, .nl, h => Bool.noConfusion (show false = true from h)
  | .o x r, .o y q, h => by
    have e : beqOL (.o x r) (.o y q) = bnd (beqO x y) (beqOL r q) := rfl
    rw [e] at h
    obtain ⟨h1, h2⟩ := bnd_t h
    rw [beqO_eq h1, beqOL_eq h2]
theorem beqA_eq {a b : Ans} (h : beqA a b = true) : a = b := by
  cases a with
  | no c => exact Bool.noConfusion (show false = true from h)
  | yes => cases b <;> first | rfl | exact Bool.noConfusion (show false = true from h)
  | val v os =>
    cases b with
    | val v' os' =>
      have e : beqA (.val v os) (.val v' os') = bnd (beqV v v') (beqOL os os') := rfl
      rw [e] at h
      obtain ⟨h1, h2⟩ := bnd_t h
      rw [beqV_eq h1, beqOL_eq h2]
    | _ => exact Bool.noConfusion (show false = true from h)
  | reg f hp n =>
    cases b with
    | reg f' h' n' =>
      have e : beqA (.reg f hp n) (.reg f' h' n') = bnd (Nat.beq n n') (bnd (beqF f f') (beqH hp h')) := rfl
      rw [e] at h
      obtain ⟨h1, h⟩ := bnd_t h
      obtain ⟨h2, h3⟩ := bnd_t h
      rw [beq_t h1, beqF_eq h2, beqH_eq h3]
    | _ => exact Bool.noConfusion (show false = true from h)
theorem comb_ok {a b : Ans} (h : (comb a b).ok) : a = b ∧ comb a b = a := by
  cases a with
  | no c => exact False.elim h
  | yes =>
    have h : (bA (beqA .yes b) .yes (.no 155)).ok := h
    obtain ⟨h1, h2⟩ := bA_ok h
    exact ⟨beqA_eq h1, h2⟩
  | val v os =>
    cases hb : beqA (.val v os) b with
    | true =>
      refine ⟨beqA_eq hb, ?_⟩
      show bA (beqA (.val v os) b) _ _ = _
      rw [hb]; rfl
    | false =>
      have h : (bA (beqA (.val v os) b) (.val v os) (Ans.rec (motive := fun _ => Ans) (fun c => .no c) (.no 156) (fun _ _ => .no 157) (fun _ _ _ => .no 158) b)).ok := h
      rw [hb] at h
      cases b <;> exact False.elim h
  | reg f hp n =>
    have h : (bA (beqA (.reg f hp n) b) (.reg f hp n) (.no 159)).ok := h
    obtain ⟨h1, h2⟩ := bA_ok h
    exact ⟨beqA_eq h1, h2⟩
end Go.Ev
namespace Go.Ev
open Go Go.Vc
section
variable {η η' : Eta} {B : Base} {h h' : H} {n n' : Nat} {w w' : World} {e : Env} {ty : TypeId} {K : KV} {Ku : KU} {x : Ans}
theorem modify_same {l : List MapEntry} {p : Nat} {en : MapEntry} (hp : l[p]? = some en) {f : MapEntry → MapEntry} (hf : f en = en) : l.modify p f = l := by
  apply List.ext_getElem?
  intro i
  rw [List.getElem?_modify]
  by_cases hi : p = i
  · subst hi; rw [hp]; simp [hf]
  · cases hl : l[i]? <;> simp [hi]
theorem setB_same {w : World} {b : Nat} {o : Obj} (h : w.heap[b]? = some o) : Vc.setB w b o = w := by
  unfold Vc.setB
  have : w.heap.setIfInBounds b o = w.heap := by
    apply Array.ext_getElem?
    intro i
    rw [Array.getElem?_setIfInBounds]
    by_cases hi : b = i
    · subst hi
      rw [if_pos rfl, h]
      rw [if_pos (Array.getElem?_eq_some_iff.1 h).1]
    · rw [if_neg hi]
  rw [this]
theorem findIdx_born {es : Array MapEntry} {j : Nat} {e : MapEntry} (hn : (es.toList.map (·.born)).Nodup) (hj : es[j]? = some e) : es.findIdx? (fun x => (x.born : Int) == (e.born : Int)) = some j := by
  rw [Array.findIdx?_eq_some_iff_getElem]
  obtain ⟨hlt, he⟩ := Array.getElem?_eq_some_iff.1 hj
  refine ⟨hlt, by simp [he], fun i hi => ?_⟩
  have hne : es[i].born ≠ e.born := by
    intro h
    have h1 : (es.toList.map (·.born))[i]'(by simp; omega) = (es.toList.map (·.born))[j]'(by simp; omega) := by simp [h, he]
    have h2 := List.pairwise_iff_getElem.1 hn i j (by simp; omega) (by simp; omega) hi
    exact h2 h1
  simp; omega
theorem Rel.putM (H0 : Rel η B h n w) {k b u ck ck' s : Nat} {es es' : ES} {ents ents' : Array MapEntry} {l : List (Value × Value × Nat)} (hk : B.lo ≤ k) (hb : η k = some (b, u)) (hl : look B h k = .map ck es) (hw : w.heap[b]? = some (.map ents ck))
    (hh : ∀ k', getH k' h' = if k' = k then .map ck' es' else getH k' h) (M : MapR η es' ents'.toList ck' s l) : Rel η B h' n (Vc.setB w b (.map ents' ck')) :=
  H0.put hk hb (by rw [hl]; intro hn; cases hn) hh (M.obj hb (Vc.setB_at (Array.getElem?_eq_some_iff.1 hw).1)) (Vc.setB_chg _ _ _)
theorem ins_ok (H0 : Rel η e.B h n w) {b0 b u ck s : Nat} {es : ES} {ents : Array MapEntry} {l : List (Value × Value × Nat)} {k v : VV} {xk va : Value} (hb : η b0 = some (b, u)) (hl : look e.B h b0 = .map ck es) (hw : w.heap[b]? = some (.map ents ck))
    (M : MapR η es ents.toList ck s l) (hm : Hom (shp k) es) (hs : shp k ≠ 0) (hk : R η k xk) (hv : R η v va) (hn : xk ∉ l.map (·.1)) (hnm : n < e.B.m) {K : H → Ans}
    (hx : (insES es k v n fun es => wr e b0 (.map (ck + 1) es) h K).ok) :
    ∃ h', (insES es k v n fun es => wr e b0 (.map (ck + 1) es) h K) = K h' ∧ Rel (addE' η n (ck, 0)) e.B h' (n + 1) (Vc.setB w b (.map (ents.push { key := xk, val := va, born := ck }) (ck + 1))) := by
  have he := H0.ext (addE'_grow η (ck, 0) hnm)
  obtain ⟨es', l', g1, g2, g3, g4⟩ := insES_ok (hk.mono he) (hv.mono he) (addE'_self η n (ck, 0)) (K := fun es => wr e b0 (.map (ck + 1) es) h K) (M.esr.mono he)
  rw [g1] at hx ⊢
  obtain ⟨h', e1, e2, e3⟩ := wr_ok hx
  have M' := M.ins (s' := shp k) g2 g3 (g4 _ rfl hm) hs hn
  refine ⟨h', e1, (H0.num (ck, 0) hnm).putM e2 (he _ _ hb) hl hw e3 (ents' := ents.push { key := xk, val := va, born := ck }) (l := l') (s := shp k) ?_⟩
  rw [Array.toList_push]
  exact M'
theorem mupE_ok (H0 : Rel η e.B h n w) {t : TypeId} {m k v : VV} {ma ka va : Value} (hm : R η m ma) (hk : R η k ka) (hv : R η v va) (hx : x = mupE e t m k v h n Ku) (hok : x.ok) : ∃ w1, MUp PP t w ma ka va w1 ∧ Aft η e.B n x K Ku none w1 := by
  subst hx
  unfold mupE at hok ⊢
  obtain ⟨b0, rfl, e0⟩ := onMap_ok hok
  rw [e0] at hok ⊢
  obtain ⟨ck, es, ho, e1⟩ := onMapO_ok (k := b0) hok
  rw [e1] at hok ⊢
  obtain ⟨e2, hs, kT, eT, hf⟩ := keyT_ok hok
  rw [e2] at hok ⊢
  simp only [R] at hm
  obtain ⟨b, u0, hkk, rfl⟩ := hm
  have hobj := H0.obj b0
  rw [ho] at hobj
  obtain ⟨ents, s, l, hb, M⟩ := MapR.at hkk hobj
  obtain ⟨F1, F2, F3, F4⟩ := M.find hf hs hk hok
  rcases F4 with ⟨g1, g2, g3⟩ | ⟨v', j, y, i, c, p, en, g1, g2, g3, g4, g5, g6, g7, g8, g9, g10⟩
  · rw [g1] at hok ⊢
    rw [fN_eq] at hok ⊢
    obtain ⟨e3, e4⟩ := bA_ok hok
    rw [e4] at hok ⊢
    have hnm := blt_t e3
    obtain ⟨h', e5, e6⟩ := ins_ok H0 hkk ho hb M F3 hs hk hv g2 hnm hok
    refine ⟨_, ?_, _, h', n + 1, e6, addE'_grow η _ hnm, e5.trans (fN_eq _ _)⟩
    simp only [MUp, Instr.mapUpdate, Sem.run_bind, run_und hf.und, Result.andThen_ok, Go.Vc.run_getObj_map hb, F1, g3, Go.Vc.run_setObj_map hb]
  · rw [g1] at hok ⊢
    obtain ⟨es', l1, y', i', l2, e5, rfl, e6, e7⟩ := putES_ok hk hv M.esr hok
    rw [e5] at hok ⊢
    obtain ⟨h', e8, e9, e10⟩ := wr_ok hok
    rw [e8] at hok ⊢
    obtain ⟨p, en, f1, f2, f3, f4, f5⟩ := M.place (x := ka) (y := y') (i := i') (by simp)
    have M' := M.set e6 (e7 _ M.hom) f1 f2 f3 f4 (f := fun e => { e with key := ka, val := va }) (by simp [f4])
    refine ⟨Vc.setB w b (.map (ents.modify p fun e => { e with key := ka, val := va }) ck), ?_, η, h', n, H0.putM e9 hkk ho hb e10 (by rw [Array.toList_modify]; exact M'), Grow.refl _ _ _, rfl⟩
    have hfk : (Instr.findKey kT ka ents.toList).run PP w = .ok (some (p, y')) w := by
      have F := finds_ok hf (RS.of rfl hs hk) (es := ents.toList) (fun e he => by
        have : tri e ∈ l1 ++ (ka, y', i') :: l2 := M.perm.mem_iff.2 (List.mem_map_of_mem he)
        exact F3.all hs M.esr _ this)
      rw [F.yes p en f1 f2 f5 w, f3]
    have hj : ents[p]? = some en := by simpa using f1
    simp only [MUp, Instr.mapUpdate, Sem.run_bind, run_und hf.und, Result.andThen_ok, Go.Vc.run_getObj_map hb, F1, hfk, hj, Option.map_some, Option.getD_some, f2, F2, Go.Vc.run_setObj_map hb]
theorem menE_ok (H0 : Rel η e.B h n w) {t : TypeId} {m k : VV} {ma ka : Value} (hm : R η m ma) (hk : R η k ka) (hx : x = menE e t m k h n K) (hok : x.ok) : ∃ (v : Value) (i : Int) (w1 : World), MEn PP t w ma ka (.tuple #[v, .int .i64 i]) w1 ∧ Aft η e.B n x K Ku (some (.tuple #[v, .int .i64 i])) w1 := by
  subst hx
  unfold menE at hok ⊢
  obtain ⟨b0, rfl, e0⟩ := onMap_ok hok
  rw [e0] at hok ⊢
  obtain ⟨ck, es, ho, e1⟩ := onMapO_ok (k := b0) hok
  rw [e1] at hok ⊢
  obtain ⟨e2, hs, kT, eT, hf⟩ := keyT_ok hok
  rw [e2] at hok ⊢
  simp only [R] at hm
  obtain ⟨b, u0, hkk, rfl⟩ := hm
  have hobj := H0.obj b0
  rw [ho] at hobj
  obtain ⟨ents, s, l, hb, M⟩ := MapR.at hkk hobj
  obtain ⟨F1, F2, F3, F4⟩ := M.find hf hs hk hok
  rcases F4 with ⟨g1, g2, g3⟩ | ⟨v', j, y, i, c, p, en, g1, g2, g3, g4, g5, g6, g7, g8, g9, g10⟩
  · rw [g1] at hok ⊢
    obtain ⟨z, zv, z1, z2, z3⟩ := elemZ_ok (η := η) hf.und hok
    rw [z1] at hok ⊢
    rw [fN_eq] at hok ⊢
    obtain ⟨e3, e4⟩ := bA_ok hok
    rw [e4] at hok ⊢
    have hnm := blt_t e3
    have he := H0.ext (addE'_grow η (ck, 0) hnm)
    obtain ⟨h', e5, e6⟩ := ins_ok H0 hkk ho hb M F3 hs hk z2 g2 hnm hok
    refine ⟨zv, (ck : Nat), _, ?_, _, h', n + 1, e6, addE'_grow η _ hnm, _, e5.trans (fN_eq _ _), ?_⟩
    · simp only [MEn, Instr.mapEntry, Sem.run_bind, run_und hf.und, Result.andThen_ok, Go.Vc.run_getObj_map hb, F1, g3, Go.Vc.run_setObj_map hb, run_zero z3, Sem.run_pure]
      rfl
    · simp only [R]
      exact ⟨_, .cv (z2.mono he) (.cv (by simp only [R]; exact ⟨ck, 0, addE'_self η n (ck, 0), rfl⟩) .nl), rfl⟩
  · rw [g1] at hok ⊢
    have hj : ents[p]? = some en := by simpa using g5
    have hmod : ents.modify p (fun e => { e with key := ka }) = ents := by
      apply Array.toList_inj.1
      rw [Array.toList_modify]
      exact modify_same g5 (by rw [← g6])
    refine ⟨y, (i : Nat), w, ?_, η, h, n, H0, Grow.refl _ _ _, _, rfl, ?_⟩
    · simp only [MEn, Instr.mapEntry, Sem.run_bind, run_und hf.und, Result.andThen_ok, Go.Vc.run_getObj_map hb, F1, g10, hj, Option.map_some, Option.getD_some, g6, F2, hmod, Go.Vc.run_setObj_map hb, Sem.run_pure, g8]
      rw [setB_same hb]
      rfl
    · simp only [R]
      exact ⟨_, .cv g3 (.cv (by simp only [R]; exact ⟨i, c, g4, rfl⟩) .nl), rfl⟩
theorem estE_ok (H0 : Rel η e.B h n w) {t : TypeId} {m g v : VV} {ma ga va : Value} (hm : R η m ma) (hg : R η g ga) (hv : R η v va) (hx : x = estE e m g v h fun h => Ku h n) (hok : x.ok) : ∃ w1, ESt PP t w ma ga va w1 ∧ Aft η e.B n x K Ku none w1 := by
  subst hx
  unfold estE at hok ⊢
  obtain ⟨b0, rfl, e0⟩ := onMap_ok hok
  rw [e0] at hok ⊢
  obtain ⟨j, rfl, e00⟩ := onGi_ok hok
  rw [e00] at hok ⊢
  obtain ⟨ck, es, ho, e1⟩ := onMapO_ok (k := b0) hok
  rw [e1] at hok ⊢
  simp only [R] at hm hg
  obtain ⟨b, u0, hkk, rfl⟩ := hm
  obtain ⟨i0, c0, hj0, rfl⟩ := hg
  have hobj := H0.obj b0
  rw [ho] at hobj
  obtain ⟨ents, s, l, hb, M⟩ := MapR.at hkk hobj
  obtain ⟨es', l1, x', y, i, c, l2, e2, e3, rfl, e4, e5⟩ := setJ_ok hv M.esr hok
  rw [hj0] at e3; cases e3
  rw [e2] at hok ⊢
  obtain ⟨h', e6, e7, e8⟩ := wr_ok hok
  rw [e6] at hok ⊢
  obtain ⟨p, en, f1, f2, f3, f4, f5⟩ := M.place (x := x') (y := y) (i := i0) (by simp)
  have M' := M.set e4 (e5 _ M.hom) f1 f2 f3 f4 (f := fun e => { e with val := va }) (by simp [f4, f2])
  refine ⟨Vc.setB w b (.map (ents.modify p fun e => { e with val := va }) ck), ?_, η, h', n, H0.putM e7 hkk ho hb e8 (by rw [Array.toList_modify]; exact M'), Grow.refl _ _ _, rfl⟩
  have hj : ents[p]? = some en := by simpa using f1
  have hfi := findIdx_born M.born hj
  rw [f4] at hfi
  have hai : (asInt (.int .i64 (i0 : Int))).run PP w = .ok (i0 : Int) w := rfl
  simp only [ESt, Instr.entryStore, Sem.run_bind, Sem.run_pure, Result.andThen_ok, Go.Vc.run_getObj_map hb, hai]
  rw [show ents.findIdx? (fun e => (e.born : Int) == (i0 : Int)) = some p from hfi]
  simp only [Go.Vc.run_setObj_map hb]
theorem delM_ok (H0 : Rel η e.B h n w) {t : TypeId} {ts : Array TypeId} (hts : ts[0]? = some t) {m k : VV} {ma ka : Value} (hm : R η m ma) (hk : R η k ka) {K : H → Ans} (hok : (delM e t m k h K).ok) :
    ∃ h' w1, delM e t m k h K = K h' ∧ Del PP ts ty w ma ka w1 ∧ Rel η e.B h' n w1 := by
  cases m with
  | nilm =>
    have hok : (keyT t k (K h)).ok := hok
    obtain ⟨e2, hs, kT, eT, hf⟩ := keyT_ok hok
    simp only [R] at hm
    subst hm
    have F := finds_ok hf (RS.of rfl hs hk) (es := []) (fun _ h => by cases h)
    refine ⟨h, w, (e2 : _), ?_, H0⟩
    simp only [Del, Builtin.delete_, hts, List.getElem?_toArray, List.getElem?_cons_zero, List.getElem?_cons_succ, Sem.run_bind, run_und hf.und, Result.andThen_ok, F.chk, Sem.run_pure]
  | map b0 =>
    have hok : (onMapO (look e.B h b0) fun ck es => keyT t k (delES es k fun es => wr e b0 (.map ck es) h K)).ok := hok
    obtain ⟨ck, es, ho, e1⟩ := onMapO_ok (k := b0) hok
    rw [e1] at hok
    obtain ⟨e2, hs, kT, eT, hf⟩ := keyT_ok hok
    rw [e2] at hok
    simp only [R] at hm
    obtain ⟨b, u0, hkk, rfl⟩ := hm
    have hobj := H0.obj b0
    rw [ho] at hobj
    obtain ⟨ents, s, l, hb, M⟩ := MapR.at hkk hobj
    obtain ⟨es', e3, e4, e5, e6⟩ := delES_ok hk M.esr hok
    rw [e3] at hok
    obtain ⟨h', e7, e8, e9⟩ := wr_ok hok
    have hrs : ∀ e ∈ ents.toList, RS (shp k) e.key := by
      rcases e5 with rfl | ⟨_, e5⟩
      · have hl : l = [] := M.esr
        subst hl
        have := M.perm.length_eq
        intro e he
        have : ents.toList = [] := by
          cases hh : ents.toList with
          | nil => rfl
          | cons a r => rw [hh] at this; simp at this
        rw [this] at he; cases he
      · have := e5 _ M.hom
        subst this
        exact M.rs
    have F := finds_ok hf (RS.of rfl hs hk) hrs
    rcases e6 with ⟨g1, g2⟩ | ⟨l1, y, i, l2, rfl, g2⟩
    · refine ⟨h', Vc.setB w b (.map ents ck), (e1.trans (e2.trans (e3.trans e7)) : _), ?_, H0.putM e8 hkk ho hb e9 (l := l) (s := s) ⟨g2, M.perm, e4 _ M.hom, M.s0, M.keys, M.born, M.clock⟩⟩
      simp only [Del, Builtin.delete_, hts, List.getElem?_toArray, List.getElem?_cons_zero, List.getElem?_cons_succ, Sem.run_bind, run_und hf.und, Result.andThen_ok, Go.Vc.run_getObj_map hb, F.chk, F.no (M.not g1), Go.Vc.run_setObj_map hb, Sem.run_pure]
    · obtain ⟨p, en, f1, f2, f3, f4, f5⟩ := M.place (x := ka) (y := y) (i := i) (by simp)
      have M' := M.del g2 (e4 _ M.hom) f1 f2 f3 f4
      refine ⟨h', Vc.setB w b (.map (ents.eraseIdxIfInBounds p) ck), (e1.trans (e2.trans (e3.trans e7)) : _), ?_, H0.putM e8 hkk ho hb e9 (by rw [erase_list]; exact M')⟩
      have hfk : ∀ w, (Instr.findKey kT ka ents.toList).run PP w = .ok (some (p, en.val)) w := F.yes p en f1 f2 f5
      simp only [Del, Builtin.delete_, hts, List.getElem?_toArray, List.getElem?_cons_zero, List.getElem?_cons_succ, Sem.run_bind, run_und hf.und, Result.andThen_ok, Go.Vc.run_getObj_map hb, F.chk, hfk, Go.Vc.run_setObj_map hb, Sem.run_pure]
  | _ => exact False.elim hok
theorem clrM_ok (H0 : Rel η e.B h n w) {t kT eT : TypeId} {ts : Array TypeId} (hts : ts[0]? = some t) (hu : PP.underlying t = some (.map kT eT)) {m : VV} {ma : Value} (hm : R η m ma) {K : H → Ans} (hok : (clrM e m h K).ok) :
    ∃ h' w1, clrM e m h K = K h' ∧ Clr PP ts ty w ma w1 ∧ Rel η e.B h' n w1 := by
  cases m with
  | nilm =>
    simp only [R] at hm
    subst hm
    refine ⟨h, w, rfl, ?_, H0⟩
    simp only [Clr, Builtin.clear_, hts, List.getElem?_toArray, List.getElem?_cons_zero, Sem.run_bind, run_und hu, Result.andThen_ok, Sem.run_pure]
  | map b0 =>
    have hok : (onMapO (look e.B h b0) fun ck es => wr e b0 (.map ck .nl) h K).ok := hok
    obtain ⟨ck, es, ho, e1⟩ := onMapO_ok (k := b0) hok
    rw [e1] at hok
    obtain ⟨h', e7, e8, e9⟩ := wr_ok hok
    simp only [R] at hm
    obtain ⟨b, u0, hkk, rfl⟩ := hm
    have hobj := H0.obj b0
    rw [ho] at hobj
    obtain ⟨ents, s, l, hb, M⟩ := MapR.at hkk hobj
    refine ⟨h', Vc.setB w b (.map #[] ck), (e1.trans e7 : _), ?_, H0.putM e8 hkk ho hb e9 (l := []) (s := s) ⟨rfl, .refl _, trivial, M.s0, by simp, by simp, by simp⟩⟩
    simp only [Clr, Builtin.clear_, hts, List.getElem?_toArray, List.getElem?_cons_zero, Sem.run_bind, run_und hu, Result.andThen_ok, Go.Vc.run_getObj_map hb, Go.Vc.run_setObj_map hb, Sem.run_pure]
  | _ => exact False.elim hok
end
end Go.Ev
namespace Go.Ev
open Go Go.Vc
theorem run_getObjE {P : Program} {w : World} {b : Nat} {m : Option Nat} {s : Nat} {a : Array Nat} {l : Nat} (h : w.heap[b]? = some (.mapIter m s a l)) : (getObj b).run P w = .ok (.mapIter m s a l) w := by
  simp only [getObj, Sem.run, h]
section
variable {η η' : Eta} {B : Base} {h h' : H} {n n' : Nat} {w w' : World} {e : Env} {ty : TypeId} {K : KV} {Ku : KU} {x : Ans}
def InES (k v : VV) (j : Nat) : ES → Prop
  | .nl => False
  | .e k' v' j' r => (k = k' ∧ v = v' ∧ j = j') ∨ InES k v j r
theorem ESR.mem : ∀ {es : ES} {l : List (Value × Value × Nat)} {x y : Value} {i : Nat}, ESR η es l → (x, y, i) ∈ l → ∃ k v j c, InES k v j es ∧ R η k x ∧ R η v y ∧ η j = some (i, c)
  | .nl, l, x, y, i, h, hm => by
    have h : l = [] := h
    subst h; cases hm
  | .e k v j r, l, x, y, i, h, hm => by
    obtain ⟨x', y', i', c, q, h1, h2, h3, h4, rfl⟩ := h
    rcases List.mem_cons.1 hm with hm | hm
    · cases hm
      exact ⟨k, v, j, c, .inl ⟨rfl, rfl, rfl⟩, h1, h2, h3⟩
    · obtain ⟨a, b, c', d, g1, g2⟩ := ESR.mem h4 hm
      exact ⟨a, b, c', d, .inr g1, g2⟩
theorem ESR.mem' : ∀ {es : ES} {l : List (Value × Value × Nat)} {k v : VV} {j : Nat}, ESR η es l → InES k v j es → ∃ x y i c, (x, y, i) ∈ l ∧ R η k x ∧ R η v y ∧ η j = some (i, c)
  | .nl, l, k, v, j, h, hm => False.elim hm
  | .e k v j r, l, k', v', j', h, hm => by
    obtain ⟨x', y', i', c, q, h1, h2, h3, h4, rfl⟩ := h
    rcases hm with ⟨rfl, rfl, rfl⟩ | hm
    · exact ⟨_, _, _, c, List.mem_cons_self .., h1, h2, h3⟩
    · obtain ⟨a, b, c', d, g1, g2⟩ := ESR.mem' h4 hm
      exact ⟨a, b, c', d, List.mem_cons_of_mem _ g1, g2⟩
theorem ESR.stamp : ∀ {es : ES} {l : List (Value × Value × Nat)} {k v k' v' : VV} {j j' i c c' : Nat}, ESR η es l → (l.map (·.2.2)).Nodup → InES k v j es → InES k' v' j' es → η j = some (i, c) → η j' = some (i, c') → k = k' ∧ v = v' ∧ j = j'
  | .nl, _, _, _, _, _, _, _, _, _, _, _, _, hm, _, _, _ => False.elim hm
  | .e a b d r, l, k, v, k', v', j, j', i, c, c', h, hn, hm, hm', hj, hj' => by
    obtain ⟨x', y', i0, c0, q, h1, h2, h3, h4, rfl⟩ := h
    rw [List.map_cons, List.nodup_cons] at hn
    rcases hm with ⟨rfl, rfl, rfl⟩ | hm <;> rcases hm' with ⟨rfl, rfl, rfl⟩ | hm'
    · exact ⟨rfl, rfl, rfl⟩
    · rw [h3] at hj; cases hj
      obtain ⟨x2, y2, i2, c2, g1, -, -, g2⟩ := h4.mem' hm'
      rw [hj'] at g2; cases g2
      exact absurd (List.mem_map.2 ⟨_, g1, rfl⟩) hn.1
    · rw [h3] at hj'; cases hj'
      obtain ⟨x2, y2, i2, c2, g1, -, -, g2⟩ := h4.mem' hm
      rw [hj] at g2; cases g2
      exact absurd (List.mem_map.2 ⟨_, g1, rfl⟩) hn.1
    · exact ESR.stamp h4 hn.2 hm hm' hj hj'
theorem SnR.mem : ∀ {s l : List Nat} {j : Nat}, SnR η s l → j ∈ s → ∃ i c, η j = some (i, c) ∧ i ∈ l
  | j' :: r, l, j, h, hm => by
    obtain ⟨i, c, q, h1, h2, rfl⟩ := h
    rcases List.mem_cons.1 hm with rfl | hm
    · exact ⟨i, c, h1, List.mem_cons_self ..⟩
    · obtain ⟨i', c', g1, g2⟩ := SnR.mem h2 hm
      exact ⟨i', c', g1, List.mem_cons_of_mem _ g2⟩
theorem SnR.mem' : ∀ {s l : List Nat} {i : Nat}, SnR η s l → i ∈ l → ∃ j c, η j = some (i, c) ∧ j ∈ s
  | [], l, i, h, hm => by
    have h : l = [] := h
    subst h; cases hm
  | j' :: r, l, i, h, hm => by
    obtain ⟨i, c, q, h1, h2, rfl⟩ := h
    rcases List.mem_cons.1 hm with rfl | hm
    · exact ⟨j', c, h1, List.mem_cons_self ..⟩
    · obtain ⟨i', c', g1, g2⟩ := SnR.mem' h2 hm
      exact ⟨i', c', g1, List.mem_cons_of_mem _ g2⟩
theorem inL_iff {i : Nat} : ∀ {l : List Nat}, inL i l = true ↔ i ∈ l
  | [] => ⟨fun h => Bool.noConfusion h, fun h => by cases h⟩
  | a :: r => by
    have e : inL i (a :: r) = Bool.rec (inL i r) true (Nat.beq i a) := rfl
    rw [e]
    cases hb : Nat.beq i a with
    | true => exact ⟨fun _ => by rw [beq_t hb]; exact List.mem_cons_self .., fun _ => rfl⟩
    | false =>
      have hne : i ≠ a := Nat.ne_of_beq_eq_false hb
      refine ⟨fun h => List.mem_cons_of_mem _ (inL_iff.1 h), fun h => inL_iff.2 ?_⟩
      rcases List.mem_cons.1 h with h | h
      · exact absurd h hne
      · exact h
theorem inES_ok {i : Nat} : ∀ {es : ES}, inES i es = true → ∃ k v, InES k v i es
  | .nl, h => Bool.noConfusion h
  | .e k v j r, h => by
    have e : inES i (.e k v j r) = Bool.rec (inES i r) true (Nat.beq i j) := rfl
    rw [e] at h
    cases hb : Nat.beq i j with
    | true => exact ⟨k, v, .inl ⟨rfl, rfl, beq_t hb⟩⟩
    | false =>
      rw [hb] at h
      obtain ⟨k', v', g⟩ := inES_ok (es := r) h
      exact ⟨k', v', .inr g⟩
theorem seenIn_ok {es : ES} : ∀ {l : List Nat}, seenIn es l = true → ∀ j ∈ l, ∃ k v, InES k v j es
  | [], _, j, hj => by cases hj
  | a :: r, h, j, hj => by
    obtain ⟨h1, h2⟩ := bnd_t (a := inES a es) (b := seenIn es r) h
    rcases List.mem_cons.1 hj with rfl | hj
    · exact inES_ok h1
    · exact seenIn_ok h2 j hj
theorem leftE_mem {k v : VV} {j : Nat} {seen : List Nat} (hj : inL j seen = false) : ∀ {es : ES}, InES k v j es → InES k v j (leftE es seen)
  | .e k' v' j' r, h => by
    have e : leftE (.e k' v' j' r) seen = Bool.rec (.e k' v' j' (leftE r seen)) (leftE r seen) (inL j' seen) := rfl
    rw [e]
    rcases h with ⟨rfl, rfl, rfl⟩ | h
    · rw [hj]; exact .inl ⟨rfl, rfl, rfl⟩
    · cases inL j' seen with
      | false => exact .inr (leftE_mem hj h)
      | true => exact leftE_mem hj h
theorem leftE_nl {seen : List Nat} : ∀ {es : ES}, (∀ k v j, InES k v j es → inL j seen = true) → leftE es seen = .nl
  | .nl, _ => rfl
  | .e k' v' j' r, h => by
    have e : leftE (.e k' v' j' r) seen = Bool.rec (.e k' v' j' (leftE r seen)) (leftE r seen) (inL j' seen) := rfl
    rw [e, h k' v' j' (.inl ⟨rfl, rfl, rfl⟩)]
    exact leftE_nl fun k v j hh => h k v j (.inr hh)
theorem nextL_ok {K : VV → VV → Nat → Ans} {k v : VV} {j : Nat} : ∀ {es : ES}, InES k v j es → (nextL es K).ok → nextL es K = K k v j
  | .e k' v' j' .nl, h, _ => by
    rcases h with ⟨rfl, rfl, rfl⟩ | h
    · rfl
    · exact False.elim h
  | .e k' v' j' (.e a b c r), h, hk => by
    have e : nextL (.e k' v' j' (.e a b c r)) K = comb (K k' v' j') (nextL (.e a b c r) K) := rfl
    rw [e] at hk ⊢
    obtain ⟨h1, h2⟩ := comb_ok hk
    rw [h2] at hk ⊢
    rcases h with ⟨rfl, rfl, rfl⟩ | h
    · rfl
    · rw [h1] at hk ⊢
      exact nextL_ok h hk
theorem onMT_ok {t : TypeId} {K : Ans} (h : (onMT (tiE PP t) K).ok) : (∃ kT eT, PP.underlying t = some (.map kT eT)) ∧ onMT (tiE PP t) K = K := by
  cases ht : tiE PP t with
  | mp k e => exact ⟨⟨k, e, tiE_mp ht⟩, rfl⟩
  | _ => rw [ht] at h; exact False.elim h
theorem rngE_ok (H0 : Rel η e.B h n w) {t : TypeId} (hu : ∃ kT eT, PP.underlying t = some (.map kT eT)) {m : VV} {ma : Value} (hm : R η m ma) (hx : x = rngE e m h n K) (hok : x.ok) : ∃ (p : Option Addr) (w1 : World), Rng PP t w ma (.pointer p) w1 ∧ Aft η e.B n x K Ku (some (.pointer p)) w1 := by
  subst hx
  obtain ⟨kT, eT, hu⟩ := hu
  cases m with
  | nilm =>
    have hok : (newH e .itn h n fun k h n => K (.ptr k 0) h n).ok := hok
    obtain ⟨h', e1, e2, e3⟩ := newH_ok hok
    simp only [R] at hm
    subst hm
    have hnew : New w (.mapIter none 0 #[] 0) w.heap.size (w.alloc (.mapIter none 0 #[] 0)) := ⟨rfl, rfl⟩
    refine ⟨some ⟨w.heap.size, 0, none⟩, w.alloc (.mapIter none 0 #[] 0), ?_, addE' η n (w.heap.size, 0), h', n + 1, H0.new e2 e3 hnew.chg (Nat.le_refl _) ⟨_, 0, addE'_self _ _ _, hnew.blk⟩, addE'_grow η _ e2, .ptr n 0, (e1 : _), ?_⟩
    · simp only [Rng, Instr.range, Sem.run_bind, run_und hu, Result.andThen_ok, Sem.run_pure]
      rfl
    · simp only [R]; exact ⟨_, 0, addE'_self _ _ _, rfl⟩
  | map b0 =>
    have hok : (onMapO (look e.B h b0) fun ck es => newH e (.iter b0 ck []) h n fun k h n => K (.ptr k 0) h n).ok := hok
    obtain ⟨ck, es, ho, e0⟩ := onMapO_ok (k := b0) hok
    rw [e0] at hok
    obtain ⟨h', e1, e2, e3⟩ := newH_ok hok
    simp only [R] at hm
    obtain ⟨b, u0, hkk, rfl⟩ := hm
    have hobj := H0.obj b0
    rw [ho] at hobj
    obtain ⟨ents, s, l, hb, M⟩ := MapR.at hkk hobj
    have hnew : New w (.mapIter (some b) ck #[] ck) w.heap.size (w.alloc (.mapIter (some b) ck #[] ck)) := ⟨rfl, rfl⟩
    have hkk' : addE' η n (w.heap.size, 0) b0 = some (b, u0) := H0.ext (addE'_grow η (w.heap.size, 0) e2) _ _ hkk
    refine ⟨some ⟨w.heap.size, 0, none⟩, w.alloc (.mapIter (some b) ck #[] ck), ?_, addE' η n (w.heap.size, 0), h', n + 1, H0.new e2 e3 hnew.chg (Nat.le_refl _) ⟨_, 0, b, u0, #[], addE'_self _ _ _, hkk', hnew.blk, rfl⟩, addE'_grow η _ e2, .ptr n 0, (e0.trans e1 : _), ?_⟩
    · simp only [Rng, Instr.range, Sem.run_bind, run_und hu, Result.andThen_ok, Go.Vc.run_getObj_map hb, Sem.run_pure]
      rfl
    · simp only [R]; exact ⟨_, 0, addE'_self _ _ _, rfl⟩
  | _ => exact False.elim hok
theorem nextE_ok (H0 : Rel η e.B h n w) {it : VV} {ia : Value} (hi : R η it ia) (hx : x = nextE e it h n K) (hok : x.ok) :
    (∃ w1, Nxt PP false ty w ia (.tuple #[.bool false]) w1 ∧ Aft η e.B n x K Ku (some (.tuple #[.bool false])) w1) ∨
    (∃ (k v : Value) (w1 : World), Nxt PP false ty w ia (.tuple #[.bool true, k, v]) w1 ∧ Aft η e.B n x K Ku (some (.tuple #[.bool true, k, v])) w1) := by
  subst hx
  unfold nextE at hok ⊢
  obtain ⟨k, off, rfl, e0⟩ := onPtr_ok hok
  rw [e0] at hok ⊢
  obtain ⟨e1, e2⟩ := bA_ok hok
  rw [e2] at hok ⊢
  have e1 := beq_t e1
  subst e1
  simp only [R] at hi
  obtain ⟨b, u, hk, rfl⟩ := hi
  have hobj := H0.obj k
  have hf : R η (.tup (.cv (.bool false) .nl)) (.tuple #[.bool false]) := by
    simp only [R]; exact ⟨_, .cv (by simp only [R]) .nl, rfl⟩
  cases ho : look e.B h k with
  | itn =>
    rw [ho] at hok hobj
    obtain ⟨b', u', g1, g2⟩ := hobj
    rw [hk] at g1; cases g1
    have hok : (wr e k .no h fun h => K (.tup (.cv (.bool false) .nl)) h n).ok := hok
    obtain ⟨h', e3, e4, e5⟩ := wr_ok hok
    refine .inl ⟨w, ?_, η, h', n, H0.drop e4 e5, Grow.refl _ _ _, _, (e3 : _), hf⟩
    simp only [Nxt, Instr.next, Sem.run_bind, Result.andThen_ok, run_getObjE g2, Sem.run_pure]
  | iter b0 ck seen =>
    rw [ho] at hok hobj
    obtain ⟨b', u', B0, u0, sn, g1, g2, g3, g4⟩ := hobj
    rw [hk] at g1; cases g1
    have hok : (onMapO (look e.B h b0) fun ck' es => bA (bnd (Nat.beq ck ck') (seenIn es seen)) (ES.rec (motive := fun _ => Ans) (wr e k .no h fun h => K (.tup (.cv (.bool false) .nl)) h n) (fun kk vv j r _ => nextL (.e kk vv j r) fun kk vv j => wr e k (.iter b0 ck (j :: seen)) h fun h => K (.tup (.cv (.bool true) (.cv kk (.cv vv .nl)))) h n) (leftE es seen)) (.no 138)).ok := hok
    obtain ⟨ck', es, ho', e3⟩ := onMapO_ok (k := b0) hok
    rw [e3] at hok
    obtain ⟨e4, e5⟩ := bA_ok hok
    rw [e5] at hok
    obtain ⟨e6, e7⟩ := bnd_t e4
    have e6 := beq_t e6
    subst e6
    have hobj' := H0.obj b0
    rw [ho'] at hobj'
    obtain ⟨ents, s, l, hb, M⟩ := MapR.at g2 hobj'
    have hst : (l.map (·.2.2)).Nodup := by
      have h1 : (l.map (·.2.2)).Perm ((ents.toList.map tri).map (·.2.2)) := M.perm.map _
      rw [List.map_map] at h1
      exact h1.nodup_iff.2 M.born
    have hsn : ∀ {kk vv j i c}, InES kk vv j es → η j = some (i, c) → (inL j seen = true ↔ i ∈ sn.toList) := by
      intro kk vv j i c hin hj
      rw [inL_iff]
      constructor
      · intro hm
        obtain ⟨i', c', f1, f2⟩ := g4.mem hm
        rw [hj] at f1; cases f1
        exact List.mem_reverse.1 f2
      · intro hm
        obtain ⟨j', c', f1, f2⟩ := g4.mem' (List.mem_reverse.2 hm)
        obtain ⟨k2, v2, f3⟩ := seenIn_ok e7 j' f2
        have := (ESR.stamp M.esr hst hin f3 hj f1).2.2
        rw [this]; exact f2
    rcases run_next_at w ty b B0 ck ck sn ents ck g3 hb M.clock (Nat.le_refl _) with ⟨h1, h2⟩ | ⟨en, he, w1, hw, h2⟩
    · have hnl : leftE es seen = .nl := by
        refine leftE_nl fun kk vv j hin => ?_
        obtain ⟨x, y, i, c, f1, f2, f3, f4⟩ := M.esr.mem' hin
        refine (hsn hin f4).2 ?_
        have hl : leftL ents sn = [] := by
          rw [← leftOf_list]
          exact List.eq_nil_of_length_eq_zero (by simpa using h1)
        obtain ⟨en, he, htri⟩ := List.mem_map.1 (M.perm.mem_iff.1 f1)
        have := List.filter_eq_nil_iff.1 hl en he
        simp only [tri, Prod.mk.injEq] at htri
        rw [htri.2.2] at this
        simpa using this
      have hrec : ∀ {f : VV → VV → Nat → ES → Ans → Ans} {a : Ans} {es' : ES}, es' = .nl → ES.rec (motive := fun _ => Ans) a f es' = a := by
        rintro f a _ rfl; rfl
      rw [hrec hnl] at hok
      obtain ⟨h', e8, e9, e10⟩ := wr_ok hok
      exact .inl ⟨w, h2, η, h', n, H0.drop e9 e10, Grow.refl _ _ _, _, (e3.trans (e5.trans ((hrec hnl).trans e8)) : _), hf⟩
    · rw [leftOf_list] at he
      obtain ⟨he1, he2⟩ := List.mem_filter.1 he
      have hl : (en.key, en.val, en.born) ∈ l := M.perm.mem_iff.2 (List.mem_map.2 ⟨en, he1, rfl⟩)
      obtain ⟨kk, vv, j, c, f1, f2, f3, f4⟩ := M.esr.mem hl
      have hnot : inL j seen = false := by
        cases hb : inL j seen with
        | false => rfl
        | true =>
          have := (hsn f1 f4).1 hb
          simp at he2
          exact absurd (Array.mem_toList_iff.1 this) he2
      have hin := leftE_mem hnot f1
      have hrec : ∀ {a : Ans} {es' : ES}, InES kk vv j es' → ES.rec (motive := fun _ => Ans) a (fun kk vv j r _ => nextL (.e kk vv j r) fun kk vv j => wr e k (.iter b0 ck (j :: seen)) h fun h => K (.tup (.cv (.bool true) (.cv kk (.cv vv .nl)))) h n) es' = nextL es' fun kk vv j => wr e k (.iter b0 ck (j :: seen)) h fun h => K (.tup (.cv (.bool true) (.cv kk (.cv vv .nl)))) h n := by
        intro a es' hh
        cases es' with
        | nl => exact False.elim hh
        | e _ _ _ _ => rfl
      rw [hrec hin] at hok
      have e8 := nextL_ok hin hok
      rw [e8] at hok
      obtain ⟨h', e9, e10, e11⟩ := wr_ok hok
      have hch : Chg [] w w1 := by rcases hw with rfl | rfl <;> exact ⟨rfl, rfl, rfl, Nat.le_refl _, fun _ _ _ => rfl⟩
      have hheap : w1.heap = w.heap := by rcases hw with rfl | rfl <;> rfl
      have H1 := H0.chg hch
      have hset : ChangeMaps.setBlock w1 b (.mapIter (some B0) ck (sn.push en.born) ck) = Vc.setB w1 b (.mapIter (some B0) ck (sn.push en.born) ck) := rfl
      rw [hset] at h2
      refine .inr ⟨_, _, _, h2, η, h', n, H1.put e10 hk (by rw [ho]; intro hn; cases hn) e11 ⟨b, u, B0, u0, sn.push en.born, hk, g2, ?_, ?_⟩ (Vc.setB_chg _ _ _), Grow.refl _ _ _, _, (e3.trans (e5.trans ((hrec hin).trans (e8.trans e9))) : _), ?_⟩
      · exact Vc.setB_at (by rw [hheap]; exact (Array.getElem?_eq_some_iff.1 g3).1)
      · rw [Array.toList_push, List.reverse_append]
        exact ⟨en.born, c, _, f4, g4, rfl⟩
      · simp only [R]
        exact ⟨_, .cv (by simp only [R]) (.cv f2 (.cv f3 .nl)), rfl⟩
  | _ => rw [ho] at hok; exact False.elim hok
theorem entryE_ok (H0 : Rel η e.B h n w) {it : VV} {ia : Value} (hi : R η it ia) {K : VV → Ans} (hok : (entryE e it h K).ok) :
    ∃ (v : VV) (k u : Value), entryE e it h K = K v ∧ R η v (.tuple #[k, u]) ∧ Etr PP w ia (.tuple #[k, u]) w := by
  unfold entryE at hok ⊢
  obtain ⟨k, off, rfl, e0⟩ := onPtr_ok hok
  rw [e0] at hok ⊢
  obtain ⟨e1, e2⟩ := bA_ok hok
  rw [e2] at hok ⊢
  have e1 := beq_t e1
  subst e1
  simp only [R] at hi
  obtain ⟨b, u, hk, rfl⟩ := hi
  have hobj := H0.obj k
  cases ho : look e.B h k with
  | iter b0 ck seen =>
    rw [ho] at hok hobj
    obtain ⟨b', u', B0, u0, sn, g1, g2, g3, g4⟩ := hobj
    rw [hk] at g1; cases g1
    have hok : (onMapO (look e.B h b0) fun ck' es => bA (Nat.beq ck ck') (List.rec (motive := fun _ => Ans) (.no 139) (fun j _ _ => findJ es j fun k v => K (.tup (.cv k (.cv v .nl)))) seen) (.no 140)).ok := hok
    obtain ⟨ck', es, ho', e3⟩ := onMapO_ok (k := b0) hok
    rw [e3] at hok
    obtain ⟨e4, e5⟩ := bA_ok hok
    rw [e5] at hok
    have e6 := beq_t e4
    subst e6
    have hobj' := H0.obj b0
    rw [ho'] at hobj'
    obtain ⟨ents, s, l, hb, M⟩ := MapR.at g2 hobj'
    cases seen with
    | nil => exact False.elim hok
    | cons j r =>
      obtain ⟨i, c, q, f1, f2, f3⟩ := g4
      have hok : (findJ es j fun k v => K (.tup (.cv k (.cv v .nl)))).ok := hok
      obtain ⟨kk, vv, x, y, i', c', d1, d2, d3, d4, d5⟩ := findJ_ok M.esr hok
      rw [f1] at d2; cases d2
      obtain ⟨en, he, htri⟩ := List.mem_map.1 (M.perm.mem_iff.1 d3)
      simp only [tri, Prod.mk.injEq] at htri
      have hsn : sn = (q.reverse.toArray).push en.born := by
        apply Array.toList_inj.1
        rw [Array.toList_push]
        have : sn.toList.reverse.reverse = (i :: q).reverse := by rw [f3]
        rw [List.reverse_reverse, List.reverse_cons] at this
        rw [this, htri.2.2]
      refine ⟨_, x, y, (e3.trans (e5.trans d1) : _), ?_, ?_⟩
      · simp only [R]
        exact ⟨_, .cv d4 (.cv d5 .nl), rfl⟩
      · rw [hsn] at g3
        have := run_entry_at (P := PP) w b B0 ck q.reverse.toArray ents ck en g3 hb he M.born
        rw [htri.1, htri.2.1] at this
        exact this
  | _ => rw [ho] at hok; exact False.elim hok
end
end Go.Ev
namespace Go.Ev
open Go Go.Vc
section
variable {η η' : Eta} {B : Base} {h h' : H} {n n' : Nat} {w w' : World} {e : Env} {fr : F} {vf : Fr} {ops : List Oper} {o : Oper} {K : KV} {Ku : KU} {x : Ans}
theorem eqTy_no {op : BinOp} {t : TypeId} {v u : VV} {a b r : Value} {K : VV → Ans} (h : eqTy op t v = true) (hc : ∀ x y yt, cls PP (.binOp op t x y yt) = 1) (hv : R η v a) (hk : (binE op t v u K).ok) (hb : binV none PP op t a b (· = r)) : False := by
  have hop : op = .eql ∨ op = .neq := by
    have := hc (.tmp 0) (.tmp 0) 0
    cases op <;> first | exact .inl rfl | exact .inr rfl | (simp [cls] at this)
  have hcl : (∀ k, PP.underlying t ≠ some (.int k)) ∧ PP.underlying t ≠ some .string ∧ PP.underlying t ≠ some .bool := by
    have := hc (.tmp 0) (.tmp 0) 0
    rcases hop with rfl | rfl <;> simp only [cls] at this <;> split at this <;> first | (cases this; done) | skip
    all_goals
      rename_i h1 h2 h3
      exact ⟨h1, h2, h3⟩
  have hiq : iqT t = true → False := by
    intro hh
    unfold iqT at hh
    split at hh
    · rename_i k hu; exact hcl.1 k hu
    · rename_i hu; exact hcl.2.1 hu
    · cases hh
  cases v with
  | int k m => rcases hop with rfl | rfl <;> exact hiq h
  | str m z => rcases hop with rfl | rfl <;> exact hiq h
  | bool p =>
    simp only [R] at hv
    subst hv
    rcases hop with rfl | rfl <;> cases b <;> simp only [binV] at hb <;> split at hb <;> first | exact hcl.2.2 ‹_› | exact hb
  | gi _ | ifc _ _ | nili | agg _ | tup _ | yld _ => exact False.elim hk
  | ptr _ _ =>
    simp only [R] at hv
    obtain ⟨_, _, _, rfl⟩ := hv
    rcases hop with rfl | rfl <;> cases b <;> exact hb
  | nilp => simp only [R] at hv; subst hv; rcases hop with rfl | rfl <;> cases b <;> exact hb
  | nilm => simp only [R] at hv; subst hv; rcases hop with rfl | rfl <;> cases b <;> exact hb
  | nils => simp only [R] at hv; subst hv; rcases hop with rfl | rfl <;> cases b <;> exact hb
  | nilf => simp only [R] at hv; subst hv; rcases hop with rfl | rfl <;> cases b <;> exact hb
  | map _ =>
    simp only [R] at hv
    obtain ⟨_, _, _, rfl⟩ := hv
    rcases hop with rfl | rfl <;> cases b <;> exact hb
  | sl _ _ _ _ =>
    simp only [R] at hv
    obtain ⟨_, _, _, rfl⟩ := hv
    rcases hop with rfl | rfl <;> cases b <;> exact hb
  | sg _ _ _ _ =>
    simp only [R] at hv
    obtain ⟨_, _, _, _, rfl, _⟩ := hv
    rcases hop with rfl | rfl <;> cases b <;> exact hb
  | fn _ _ _ =>
    simp only [R] at hv
    obtain ⟨_, _, _, _, rfl⟩ := hv
    rcases hop with rfl | rfl <;> cases b <;> exact hb
theorem read_ok (hf : FrR η fr vf) (H0 : Rel η e.B h n w) (hc : cls PP o.op = 1) (hk : (opE o.op e o.type fr h n K Ku).ok) : ∃ v a, opE o.op e o.type fr h n K Ku = K v h n ∧ R η v a ∧ readV PP vf o w a := by
  unfold readV
  cases hop : o.op <;> rw [hop] at hk hc <;> try exact False.elim hk
  case load t y =>
    have e0 : opE (.load t y) e o.type fr h n K Ku = evE fr y fun p => loadE e h (piE PP t) p fun v => K v h n := rfl
    rw [e0] at hk ⊢
    obtain ⟨p, pa, e1, e2, e3⟩ := evE_ok hf hk
    rw [e1] at hk ⊢
    obtain ⟨v, a, ad, e4, e5, rfl, e6⟩ := loadE_ok H0 rfl e3 hk
    exact ⟨v, a, e4, e5, by simp only [e2]; exact e6⟩
  case lookup t m k ok =>
    have e0 : opE (.lookup t m k ok) e o.type fr h n K Ku = evE fr m fun m => evE fr k fun k => lookE e h t ok m k fun v => K v h n := rfl
    rw [e0] at hk ⊢
    obtain ⟨mv, ma, e1, e2, e3⟩ := evE_ok hf hk
    rw [e1] at hk ⊢
    obtain ⟨kv, ka, e4, e5, e6⟩ := evE_ok hf hk
    rw [e4] at hk ⊢
    obtain ⟨v, a, e7, e8, e9⟩ := lookE_ok H0 e3 e6 hk
    exact ⟨v, a, e7, e8, by simp only [e2, e5]; exact e9⟩
  case binOp op t y z yt =>
    have e0 : opE (.binOp op t y z yt) e o.type fr h n K Ku = evE fr y fun a => evE fr z fun b => bA (eqTy op t a) (binE op t a b fun v => K v h n) (.no 281) := rfl
    rw [e0] at hk ⊢
    obtain ⟨v, a, e1, e2, e3⟩ := evE_ok hf hk
    rw [e1] at hk ⊢
    obtain ⟨u, b, e4, e5, e6⟩ := evE_ok hf hk
    rw [e4] at hk ⊢
    obtain ⟨f1, f2⟩ := bA_ok hk
    rw [f2] at hk ⊢
    obtain ⟨q, r, e7, e8, e9⟩ := binE_ok e3 e6 hk
    have hc' : ∀ x y yt, cls PP (.binOp op t x y yt) = 1 := fun _ _ _ => hc
    rcases e9 with e9 | ⟨q, rfl, ⟨-, e9⟩, -⟩
    · exact (eqTy_no f1 hc' e3 hk e9).elim
    · exact ⟨_, _, e7, e8, by simp only [e2, e5]; exact e9 y z w⟩
  case convert s d y =>
    have e0 : opE (.convert s d y) e o.type fr h n K Ku = evE fr y fun v => convX e (tiE PP s) (tiE PP d) d v h n K := rfl
    rw [e0] at hk ⊢
    obtain ⟨v, a, e1, e2, e3⟩ := evE_ok hf hk
    rw [e1] at hk ⊢
    simp only [cls] at hc
    split at hc <;> try (cases hc; done)
    rename_i el us ud
    cases hs : tiE PP s with
    | sl el' sz =>
      cases hd : tiE PP d with
      | str =>
        rw [hs, hd] at hk
        obtain ⟨u, b, g1, g2, g3⟩ := b2sE_ok H0 e3 hs ud (hk : (srcT (.sl el' sz) 1 v (onU8T (tiE PP el') (b2sE e h v fun v => K v h n))).ok)
        exact ⟨u, b, (g1 : _), g2, by simp only [e2]; exact g3⟩
      | _ => rw [hs, hd] at hk; exact False.elim hk
    | str => rw [tiE_str hs] at us; cases us
    | int _ => rw [tiE_int hs] at us; cases us
    | _ => rw [hs] at hk; exact False.elim hk
  case typeAssert y xT t ok =>
    have e0 : opE (.typeAssert y xT t ok) e o.type fr h n K Ku = evE fr y fun v => asrE t ok v fun v => K v h n := rfl
    rw [e0] at hk ⊢
    obtain ⟨v, a, e1, e2, e3⟩ := evE_ok hf hk
    rw [e1] at hk ⊢
    obtain ⟨u, b, e4, e5, e6⟩ := asrE_ok (w := w) (xT := xT) e3 hk
    exact ⟨u, b, e4, e5, by simp only [e2]; exact e6⟩
  case call c =>
    have e0 : opE (.call c) e o.type fr h n K Ku = evsE c.args.toList fr fun args => Callee.rec (motive := fun _ => Call → CV → Env → TypeId → F → H → Nat → KV → KU → Ans) (fun f _ args e _ fr h n K _ => evE fr f fun v => e.call e.B v args K h n) (fun _ _ _ _ _ _ _ _ _ _ _ => .no 160) (fun b c args e ty _ h n K _ => biltE e ty (c.argTypes.toList) b args h n K) c.callee c args e o.type fr h n K Ku := rfl
    rw [e0] at hk ⊢
    obtain ⟨args, vs, e1, e2, e3⟩ := evsE_ok hf hk
    rw [e1] at hk ⊢
    cases hcl : c.callee with
    | value f => simp only [cls, hcl] at hc; cases hc
    | invoke a b => simp only [cls, hcl] at hc; cases hc
    | builtin b =>
      rw [hcl] at hk
      have hk : (biltE e o.type (c.argTypes.toList) b args h n K).ok := hk
      show ∃ v a, biltE e o.type (c.argTypes.toList) b args h n K = K v h n ∧ _
      cases b <;> simp only [cls, hcl] at hc <;> try (cases hc; done)
      have hk : (args1 args fun x => onT c.argTypes.toList fun t => lenX (tiE PP t) e x h fun v => K v h n).ok := hk
      obtain ⟨x, a, rfl, ha, e4⟩ := args1_ok e3 hk
      rw [e4] at hk
      obtain ⟨xo, hxo, hev⟩ := evs_one_inv e2
      obtain ⟨t, ht, e5⟩ := onT_ok hk
      rw [e5] at hk
      rw [ht] at hc
      split at hc <;> try (cases hc; done)
      rename_i t' htt
      cases htt
      split at hc <;> try (cases hc; done)
      rename_i kT eT hu
      cases hti : tiE PP t with
      | mp k' e' =>
        rw [hti] at hk
        obtain ⟨v, b, g1, g2, g3⟩ := lenM_ok (ty := o.type) H0 ht hu ha (hk : (lenM e h x fun v => K v h n).ok)
        refine ⟨v, b, (e4.trans (e5.trans (by rw [hti]; exact g1)) : _), g2, ?_⟩
        simp only [hcl, hxo, hev, onV, onO]
        exact g3
      | str => rw [tiE_str hti] at hu; cases hu
      | sl _ _ => rw [(tiE_sl hti).1] at hu; cases hu
      | arr _ _ _ => rw [(tiE_arr hti).1] at hu; cases hu
      | ptr _ => rw [tiE_ptr hti] at hu; cases hu
      | _ => rw [hti] at hk; exact False.elim hk
  all_goals
    simp [cls] at hc
end
end Go.Ev
namespace Go.Ev
open Go Go.Vc
def CallOK (call : Base → VV → CV → KV → H → Nat → Ans) : Prop := ∀ {η : Eta} {B : Base} {h : H} {n : Nat} {w : World} {f : VV} {fv : Value} {args : CV} {vs : List Value} {K : KV}, Rel η B h n w → R η f fv → RC η args vs → (call B f args K h n).ok →
  CallX PP fv vs w fun e w' => ∃ a, e = .returned a ∧ Aft η B n (call B f args K h n) K (fun _ _ => .no 0) (some a) w'
section
variable {η η' : Eta} {B : Base} {h h' : H} {n n' : Nat} {w w' : World} {e : Env} {fr : F} {vf : Fr} {ops : List Oper} {o : Oper} {K : KV} {Ku : KU} {x : Ans}
theorem ty2_ok {ts : Array TypeId} {K : TypeId → TypeId → Ans} (h : (ty2 ts.toList K).ok) : ∃ t u, ts = #[t, u] ∧ ty2 ts.toList K = K t u := by
  obtain ⟨l⟩ := ts
  match l, h with
  | [], h => exact False.elim h
  | [_], h => exact False.elim h
  | [t, u], h => exact ⟨t, u, rfl, rfl⟩
  | _ :: _ :: _ :: _, h => exact False.elim h
theorem eff_ok (hcall : CallOK e.call) (hf : FrR η fr vf) (H0 : Rel η e.B h n w) (hc : 2 ≤ cls PP o.op) (hk : (opE o.op e o.type fr h n K Ku).ok) : effV none PP ops vf o w (Aft η e.B n (opE o.op e o.type fr h n K Ku) K Ku) := by
  cases hop : o.op <;> rw [hop] at hk hc <;> try exact False.elim hk
  case alloc t => rw [← hop] at hk ⊢; exact eff_alloc H0 hop rfl hk
  case box t y => rw [← hop] at hk ⊢; exact eff_box hf H0 hop rfl hk
  case buildSlice t len ps => rw [← hop] at hk ⊢; exact eff_buildSlice hf H0 hop rfl hk
  case store t y z => rw [← hop] at hk ⊢; exact eff_store hf H0 hop rfl hk
  case makeSlice t y z => rw [← hop] at hk ⊢; exact eff_makeSlice hf H0 hop rfl hk
  case convert s d y =>
    unfold effV
    rw [hop]
    have e0 : opE (.convert s d y) e o.type fr h n K Ku = evE fr y fun v => convX e (tiE PP s) (tiE PP d) d v h n K := rfl
    rw [e0] at hk ⊢
    obtain ⟨v, a, e1, e2, e3⟩ := evE_ok hf hk
    rw [e1] at hk ⊢
    have noInt : ∀ k, tiE PP s = .int k → False := by
      intro k hs
      simp [cls, tiE_int hs] at hc
    have noStr : tiE PP s = .str → tiE PP d = .str → False := by
      intro hs hd
      simp [cls, tiE_str hs, tiE_str hd] at hc
    cases hs : tiE PP s with
    | str =>
      cases hd : tiE PP d with
      | sl el sz =>
        rw [hs, hd] at hk
        obtain ⟨ad, l, c, w1, g1, g2⟩ := eff_s2b (K := K) (Ku := Ku) H0 e3 (tiE_str hs) (hk : (s2bE e d v h n K).ok)
        show onV (ev vf y) _
        rw [e2]
        exact ⟨ad, l, c, w1, g1, g2⟩
      | str => exact (noStr hs hd).elim
      | _ => rw [hs, hd] at hk; exact False.elim hk
    | sl el sz =>
      cases hd : tiE PP d with
      | str => simp [cls, (tiE_sl hs).1, tiE_str hd] at hc
      | _ => rw [hs, hd] at hk; exact False.elim hk
    | int k => exact (noInt k hs).elim
    | _ => rw [hs] at hk; exact False.elim hk
  case makeMap t r =>
    unfold effV
    rw [hop]
    cases r with
    | some _ => exact False.elim hk
    | none =>
      have e0 : opE (.makeMap t none) e o.type fr h n K Ku = newH e (.map 0 .nl) h n fun k h n => K (.map k) h n := rfl
      rw [e0] at hk ⊢
      obtain ⟨h', e1, e2, e3⟩ := newH_ok hk
      rw [e1]
      intro b w1 hn
      have hb : b = w.heap.size := hn.1
      refine ⟨addE' η n (b, 0), h', n + 1, H0.new e2 e3 hn.chg (by rw [hb]; exact Nat.le_refl _) ⟨b, 0, #[], [], 1, addE'_self _ _ _, hn.blk, rfl, .refl _, trivial, by decide, by simp, by simp, by simp⟩, addE'_grow η _ e2, .map n, rfl, ?_⟩
      simp only [R]; exact ⟨b, 0, addE'_self _ _ _, rfl⟩
  case insert t m k y | mapUpdate t m k y =>
    unfold effV
    rw [hop]
    have e0 : opE (.mapUpdate t m k y) e o.type fr h n K Ku = evE fr m fun m => evE fr k fun k => evE fr y fun v => mupE e t m k v h n Ku := rfl
    show onV (ev vf m) fun m => onV (ev vf k) fun k => onV (ev vf y) fun v => ∃ w1, MUp PP t w m k v w1 ∧ Aft η e.B n (opE (.mapUpdate t _ _ _) e o.type fr h n K Ku) K Ku none w1
    have hk : (opE (.mapUpdate t m k y) e o.type fr h n K Ku).ok := hk
    rw [e0] at hk ⊢
    obtain ⟨mv, ma, e1, e2, e3⟩ := evE_ok hf hk
    rw [e1] at hk ⊢
    obtain ⟨kv, ka, e4, e5, e6⟩ := evE_ok hf hk
    rw [e4] at hk ⊢
    obtain ⟨v, a, e7, e8, e9⟩ := evE_ok hf hk
    rw [e7] at hk ⊢
    rw [e2, e5, e8]
    exact mupE_ok H0 e3 e6 e9 rfl hk
  case mapEntry t m k =>
    unfold effV
    rw [hop]
    have e0 : opE (.mapEntry t m k) e o.type fr h n K Ku = evE fr m fun m => evE fr k fun k => menE e t m k h n K := rfl
    rw [e0] at hk ⊢
    obtain ⟨mv, ma, e1, e2, e3⟩ := evE_ok hf hk
    rw [e1] at hk ⊢
    obtain ⟨kv, ka, e4, e5, e6⟩ := evE_ok hf hk
    rw [e4] at hk ⊢
    show onV (ev vf m) _
    rw [e2]
    show onV (ev vf k) _
    rw [e5]
    exact menE_ok H0 e3 e6 rfl hk
  case entryStore t m g y =>
    unfold effV
    rw [hop]
    have e0 : opE (.entryStore t m g y) e o.type fr h n K Ku = evE fr m fun m => evE fr g fun g => evE fr y fun v => estE e m g v h fun h => Ku h n := rfl
    rw [e0] at hk ⊢
    obtain ⟨mv, ma, e1, e2, e3⟩ := evE_ok hf hk
    rw [e1] at hk ⊢
    obtain ⟨kv, ka, e4, e5, e6⟩ := evE_ok hf hk
    rw [e4] at hk ⊢
    obtain ⟨v, a, e7, e8, e9⟩ := evE_ok hf hk
    rw [e7] at hk ⊢
    show onV (ev vf m) _
    rw [e2]
    show onV (ev vf g) _
    rw [e5]
    show onV (ev vf y) _
    rw [e8]
    exact estE_ok (K := K) H0 e3 e6 e9 rfl hk
  case range t y =>
    unfold effV
    rw [hop]
    have e0 : opE (.range t y) e o.type fr h n K Ku = onMT (tiE PP t) (evE fr y fun v => rngE e v h n K) := rfl
    rw [e0] at hk ⊢
    obtain ⟨hu, e1⟩ := onMT_ok hk
    rw [e1] at hk ⊢
    obtain ⟨v, a, e2, e3, e4⟩ := evE_ok hf hk
    rw [e2] at hk ⊢
    show onV (ev vf y) _
    rw [e3]
    exact rngE_ok H0 hu e4 rfl hk
  case next it s =>
    unfold effV
    rw [hop]
    have e0 : opE (.next it s) e o.type fr h n K Ku = bA (bnot s) (evE fr it fun v => nextE e v h n K) (.no 278) := rfl
    rw [e0] at hk ⊢
    obtain ⟨hs, e1⟩ := bA_ok hk
    rw [e1] at hk ⊢
    have hs : s = false := by cases s <;> first | rfl | cases hs
    subst hs
    obtain ⟨v, a, e2, e3, e4⟩ := evE_ok hf hk
    rw [e2] at hk ⊢
    show onV (ev vf it) _
    rw [e3]
    exact nextE_ok H0 e4 rfl hk
  case entry it =>
    unfold effV
    rw [hop]
    have e0 : opE (.entry it) e o.type fr h n K Ku = evE fr it fun v => entryE e v h fun v => K v h n := rfl
    rw [e0] at hk ⊢
    obtain ⟨v, a, e2, e3, e4⟩ := evE_ok hf hk
    rw [e2] at hk ⊢
    obtain ⟨u, p, q, g1, g2, g3⟩ := entryE_ok (n := n) H0 e4 hk
    have ex : ∀ {t : Option TypeId} {C : Value → Prop} (v : Value), C v → exO none PP t C := by
      intro t C v hv
      cases t <;> exact ⟨v, hv⟩
    show onV (ev vf it) _
    rw [e3]
    exact ex p (ex q ⟨w, g3, η, h, n, H0, Grow.refl _ _ _, u, g1, g2⟩)
  case call c =>
    unfold effV
    rw [hop]
    have e0 : opE (.call c) e o.type fr h n K Ku = evsE c.args.toList fr fun args => Callee.rec (motive := fun _ => Call → CV → Env → TypeId → F → H → Nat → KV → KU → Ans) (fun f _ args e _ fr h n K _ => evE fr f fun v => e.call e.B v args K h n) (fun _ _ _ _ _ _ _ _ _ _ _ => .no 160) (fun b c args e ty _ h n K _ => biltE e ty (c.argTypes.toList) b args h n K) c.callee c args e o.type fr h n K Ku := rfl
    rw [e0] at hk ⊢
    obtain ⟨args, vs, e1, e2, e3⟩ := evsE_ok hf hk
    rw [e1] at hk ⊢
    show onO (evs vf c.args.toList) _
    rw [e2]
    cases hcl : c.callee with
    | invoke a b => rw [hcl] at hk; exact False.elim hk
    | value f =>
      rw [hcl] at hk
      have hk : (evE fr f fun v => e.call e.B v args K h n).ok := hk
      obtain ⟨v, a, e4, e5, e6⟩ := evE_ok hf hk
      rw [e4] at hk
      simp only [onO, hcl]
      rw [e5]
      have := hcall H0 e6 e3 hk
      refine callX_mono ?_ this
      rintro en w' ⟨a, rfl, η', h', n', g1, g2, v', g3, g4⟩
      exact ⟨a, rfl, η', h', n', g1, g2, v', (e4.trans g3 : _), g4⟩
    | builtin b =>
      rw [hcl] at hk
      have hk : (biltE e o.type (c.argTypes.toList) b args h n K).ok := hk
      simp only [onO, hcl]
      show biE PP o.type c.argTypes w (Aft η e.B n (biltE e o.type (c.argTypes.toList) b args h n K) K Ku) b vs
      cases b <;> try exact False.elim hk
      case append =>
        have hk : (args2 args fun x y => ty2 c.argTypes.toList fun t tx => apT (tiE PP t) fun el sz => bA (Nat.blt 0 sz) (apXE e el sz x y (tiE PP tx) h n K) (.no 267)).ok := hk
        obtain ⟨x, y, a, b, rfl, ha, hb, e4⟩ := args2_ok e3 hk
        rw [e4] at hk
        obtain ⟨t, tx, ht, e5⟩ := ty2_ok hk
        rw [e5] at hk
        obtain ⟨el, sz, hti, e6⟩ := apT_ok hk
        rw [e6] at hk
        obtain ⟨e7, e8⟩ := bA_ok hk
        rw [e8] at hk
        obtain ⟨e9, g1, g2⟩ := srcT_ok (hk : (srcT (tiE PP tx) sz y _).ok)
        have hk : (srcT (tiE PP tx) sz y (readS e h sz y fun c m => appE e el sz x c m h n K)).ok := hk
        rw [e9] at hk
        obtain ⟨cc, m, l, d1, d2, d3, -, -⟩ := readS_ok H0 rfl g1 g2 hb hk
        rw [d1] at hk
        obtain ⟨ad, l', c', w1, f1, f2⟩ := appE_ok (ty := o.type) (tx := tx) (Ku := Ku) H0 (tiE_sl hti).1 (tiE_sl hti).2 (blt_t e7) ha d2 d3 hk
        refine ⟨ad, l', c', w1, by rw [ht]; exact f1, ?_⟩
        rw [show biltE e o.type (c.argTypes.toList) .append args h n K = _ from (e4.trans (e5.trans (e6.trans (e8.trans (e9.trans d1)))) : _)]
        exact f2
      case copy =>
        have hk : (args2 args fun d y => ty2 c.argTypes.toList fun t tx => apT (tiE PP t) fun _ sz => srcT (tiE PP tx) sz y (readS e h sz y fun c m => cpyE e sz d c m h n K)).ok := hk
        obtain ⟨x, y, a, b, rfl, ha, hb, e4⟩ := args2_ok e3 hk
        rw [e4] at hk
        obtain ⟨t, tx, ht, e5⟩ := ty2_ok hk
        rw [e5] at hk
        obtain ⟨el, sz, hti, e6⟩ := apT_ok hk
        rw [e6] at hk
        obtain ⟨e9, g1, g2⟩ := srcT_ok hk
        rw [e9] at hk
        obtain ⟨cc, m, l, d1, d2, d3, -, -⟩ := readS_ok H0 rfl g1 g2 hb hk
        rw [d1] at hk
        obtain ⟨i, w1, f1, f2⟩ := cpyE_ok (ty := o.type) (tx := tx) (Ku := Ku) H0 (tiE_sl hti).1 (tiE_sl hti).2 ha d2 d3 hk
        refine ⟨i, w1, by rw [ht]; exact f1, ?_⟩
        rw [show biltE e o.type (c.argTypes.toList) .copy args h n K = _ from (e4.trans (e5.trans (e6.trans (e9.trans d1))) : _)]
        exact f2
      case delete =>
        have hk : (args2 args fun m k => onT c.argTypes.toList fun t => delM e t m k h fun h => K (.tup .nl) h n).ok := hk
        obtain ⟨x, y, a, b, rfl, ha, hb, e4⟩ := args2_ok e3 hk
        rw [e4] at hk
        obtain ⟨t, ht, e5⟩ := onT_ok hk
        rw [e5] at hk
        obtain ⟨h', w1, f1, f2, f3⟩ := delM_ok (ty := o.type) H0 ht ha hb hk
        exact ⟨w1, f2, η, h', n, f3, Grow.refl _ _ _, _, (e4.trans (e5.trans f1) : _), by simp only [R]; exact ⟨[], .nl, rfl⟩⟩
      case clear =>
        have hk : (args1 args fun x => onT c.argTypes.toList fun t => clrX (tiE PP t) e x h fun h => K (.tup .nl) h n).ok := hk
        obtain ⟨x, a, rfl, ha, e4⟩ := args1_ok e3 hk
        rw [e4] at hk
        obtain ⟨t, ht, e5⟩ := onT_ok hk
        rw [e5] at hk
        cases hti : tiE PP t with
        | mp k' e' =>
          rw [hti] at hk
          obtain ⟨h', w1, f1, f2, f3⟩ := clrM_ok (ty := o.type) H0 ht (tiE_mp hti) ha (hk : (clrM e x h fun h => K (.tup .nl) h n).ok)
          exact ⟨w1, f2, η, h', n, f3, Grow.refl _ _ _, _, (e4.trans (e5.trans (by rw [hti]; exact f1)) : _), by simp only [R]; exact ⟨[], .nl, rfl⟩⟩
        | sl el sz =>
          rw [hti] at hk
          obtain ⟨w1, h', f2, f1, f3⟩ := clrS_ok (ty := o.type) H0 ht (tiE_sl hti).1 (tiE_sl hti).2 ha (hk : (clrS e el x h fun h => K (.tup .nl) h n).ok)
          exact ⟨w1, f2, η, h', n, f3, Grow.refl _ _ _, _, (e4.trans (e5.trans (by rw [hti]; exact f1)) : _), by simp only [R]; exact ⟨[], .nl, rfl⟩⟩
        | _ => rw [hti] at hk; exact False.elim hk
      all_goals
        exfalso
        simp only [cls, hcl] at hc
        first | omega | (split at hc <;> first | omega | (split at hc <;> omega))
  all_goals
    exfalso
    simp only [cls] at hc
    first | omega | (split at hc <;> first | omega | (split at hc <;> omega))
end
end Go.Ev
namespace Go.Ev
open Go Go.Vc
section
variable {η η' : Eta} {B : Base} {h h' : H} {n n' nt i j : Nat} {w w' : World} {e : Env} {fr fr' : F} {vf : Fr} {ops all : List Oper} {o : Oper} {bef : Nat → Nat → Bool} {ps : PS} {past : Past}
theorem FrR.put {t : Nat} {v : VV} {a : Value} (hf : FrR η fr vf) (hR : R η v a) (hs : ∀ t', gF t' fr' = if t' = t then .v v else gF t' fr) : FrR η fr' ((t, some a) :: vf) := by
  refine ⟨fun t' u hu => ?_⟩
  rw [hs] at hu
  by_cases ht : t' = t
  · subst ht
    rw [if_pos rfl] at hu
    cases hu
    exact ⟨a, fget_hit _ _ _, hR⟩
  · rw [if_neg ht] at hu
    rw [fget_miss _ _ _ _ ht]
    exact hf.val t' u hu
theorem putF_ok {d : Option Nat} {v : VV} {a : Value} {K : F → Ans} (hf : FrR η fr vf) (hR : R η v a) (h : (putF nt d v fr K).ok) : ∃ fr', putF nt d v fr K = K fr' ∧ FrR η fr' (Vc.put vf d (some a)) ∧ Fits nt d := by
  cases d with
  | none => exact ⟨fr, rfl, hf, fun x hx => by cases hx⟩
  | some d =>
    have h : (bA (Nat.blt d nt) (setF d fr v K) (.no 182)).ok := h
    obtain ⟨e1, e2⟩ := bA_ok h
    rw [e2] at h
    obtain ⟨fr', e3, e4, e5⟩ := setF_ok h
    exact ⟨fr', (e2.trans e3 : _), hf.put hR e5, fun x hx => by cases hx; exact blt_t e1⟩
def PastR (η : Eta) : PS → Past → Prop
  | .nl, l => l = []
  | .p i o fr v r, l => ∃ vf a q, FrR η fr vf ∧ R η v a ∧ cls PP o.op = 1 ∧ PastR η r q ∧ l = (i, fun w' => readV PP vf o w' a) :: q
theorem PastR.mono (he : Ext η η') : ∀ {ps : PS} {l : Past}, PastR η ps l → PastR η' ps l
  | .nl, l, h => h
  | .p i o fr v r, l, h => by
    obtain ⟨vf, a, q, h1, h2, h3, h4, h5⟩ := h
    exact ⟨vf, a, q, h1.mono he, h2.mono he, h3, h4.mono he, h5⟩
theorem again_ok (H0 : Rel η e.B h n w) {Kx : Ans} : ∀ {ps : PS} {past : Past}, PastR η ps past → (againE e h n j bef ps Kx).ok → againE e h n j bef ps Kx = Kx ∧ ∀ X : Prop, X → again bef j past w X
  | .nl, past, hp, hk => by
    have hp : past = [] := hp
    subst hp
    exact ⟨rfl, fun X hx => hx⟩
  | .p i o fr v r, past, hp, hk => by
    obtain ⟨vf, a, q, h1, h2, h3, h4, rfl⟩ := hp
    have e0 : againE e h n j bef (.p i o fr v r) Kx = bA (bef i j) (againE e h n j bef r Kx) (opE o.op e o.type fr h n (fun u _ _ => bA (beqV u v) (againE e h n j bef r Kx) (.no 186)) (fun _ _ => .no 187)) := rfl
    rw [e0] at hk ⊢
    cases hb : bef i j with
    | true =>
      rw [hb] at hk
      obtain ⟨e1, e2⟩ := again_ok H0 h4 (hk : (againE e h n j bef r Kx).ok)
      exact ⟨e1, fun X hx => by simp only [again, hb]; exact e2 X hx⟩
    | false =>
      rw [hb] at hk
      have hk : (opE o.op e o.type fr h n (fun u _ _ => bA (beqV u v) (againE e h n j bef r Kx) (.no 186)) (fun _ _ => .no 187)).ok := hk
      obtain ⟨u, b, e1, e2, e3⟩ := read_ok h1 H0 h3 hk
      rw [e1] at hk
      obtain ⟨e4, e5⟩ := bA_ok hk
      rw [e5] at hk
      obtain ⟨e6, e7⟩ := again_ok H0 h4 hk
      have hu := beqV_eq e4
      subst hu
      have hab := R.uni e2 h2
      subst hab
      exact ⟨(e1.trans (e5.trans e6) : _), fun X hx => by simp only [again, hb]; exact ⟨e3, e7 X hx⟩⟩
theorem again_all {X : Prop} : ∀ {past : Past}, (∀ p ∈ past, bef p.1 j = true) → X → again bef j past w X
  | [], _, hx => hx
  | (i, f) :: p, hp, hx => by
    have := hp (i, f) (List.mem_cons_self ..)
    simp only [again, this]
    exact again_all (fun q hq => hp q (List.mem_cons_of_mem _ hq)) hx
theorem again_imp {X Y : Prop} (hxy : X → Y) : ∀ {past : Past}, again bef j past w X → again bef j past w Y
  | [], hx => hxy hx
  | (i, f) :: p, hx => by
    simp only [again] at hx ⊢
    cases hb : bef i j with
    | true => rw [hb] at hx; exact again_imp hxy hx
    | false => rw [hb] at hx; exact ⟨hx.1, again_imp hxy hx.2⟩
theorem exec_ok (hcall : CallOK e.call) (hf : FrR η fr vf) (H0 : Rel η e.B h n w) {Kx : VV → KF} (hk : (execO o e nt fr h n Kx).ok) {Kv : Option Value → World → Past → Prop}
    (h0 : cls PP o.op = 0 → ∀ v a fr', execO o e nt fr h n Kx = Kx v fr' h n → R η v a → FrR η fr' (Vc.put vf o.dst (some a)) → Fits nt o.dst → Kv (some a) w past)
    (h1 : cls PP o.op = 1 → ∀ v a fr', execO o e nt fr h n Kx = Kx v fr' h n → R η v a → readV PP vf o w a → FrR η fr' (Vc.put vf o.dst (some a)) → Fits nt o.dst → Kv (some a) w ((i, fun w' => readV PP vf o w' a) :: past))
    (h2 : 2 ≤ cls PP o.op → ∀ rv w' η' h' n' v fr', execO o e nt fr h n Kx = Kx v fr' h' n' → Rel η' e.B h' n' w' → Grow η η' n n' e.B.m → FrR η' fr' (Vc.put vf o.dst rv) → Fits nt o.dst → again bef i past w' (Kv rv w' past)) :
    execV none PP bef ops i o vf w past Kv := by
  unfold execO at hk h0 h1 h2
  unfold execV
  split
  · rename_i hc
    obtain ⟨v, a, e1, e2, e3⟩ := pure_ok hf hc hk
    rw [e1] at hk h0
    obtain ⟨fr', e4, e5, e6⟩ := putF_ok hf e2 hk
    have := h0 hc v a fr' e4 e2 e5 e6
    obtain ⟨u, rfl, g2, -⟩ := pure_one (nt := 0) (ds := []) e3
    exact g2 _ (spl_iff.2 this)
  · rename_i hc
    obtain ⟨v, a, e1, e2, e3⟩ := read_ok hf H0 hc hk
    rw [e1] at hk h1
    obtain ⟨fr', e4, e5, e6⟩ := putF_ok hf e2 hk
    exact ⟨a, e3, spl_iff.2 (h1 hc v a fr' e4 e2 e3 e5 e6)⟩
  · rename_i hc0 hc1
    have hc : 2 ≤ cls PP o.op := by
      rcases hcc : cls PP o.op with _ | _ | m
      · exact absurd hcc hc0
      · exact absurd hcc hc1
      · omega
    refine eff_mono ?_ (eff_ok (ops := ops) hcall hf H0 hc hk)
    rintro rv w' ⟨η', h', n', g1, g2, g3⟩
    have he := H0.ext g2
    have hf' := hf.mono he
    cases rv with
    | some a =>
      obtain ⟨v, e1, e2⟩ := g3
      rw [e1] at hk h2
      obtain ⟨fr', e4, e5, e6⟩ := putF_ok hf' e2 hk
      have := h2 hc (some a) w' η' h' n' v fr' e4 g1 g2 e5 e6
      show again bef i past w' (spl (isGuard ops i) a fun v => Kv (some v) w' past)
      exact again_imp spl_iff.2 this
    | none =>
      have e1 : opE o.op e o.type fr h n (fun v h n => putF nt o.dst v fr fun fr => Kx v fr h n) (fun h n => Option.rec (motive := fun _ => Ans) (Kx (.tup .nl) fr h n) (fun _ => .no 183) o.dst) = Option.rec (motive := fun _ => Ans) (Kx (.tup .nl) fr h' n') (fun _ => .no 183) o.dst := g3
      rw [e1] at hk h2
      cases hd : o.dst with
      | some d => rw [hd] at hk; exact False.elim hk
      | none =>
        rw [hd] at h2
        exact h2 hc none w' η' h' n' (.tup .nl) fr rfl g1 g2 hf' (fun x hx => by cases hx)
theorem guardE_ok (hf : FrR η fr vf) {g : Nat × Bool} {Ky Kn : Ans} (hk : (guardE all g fr Ky Kn).ok) : ∃ s, slotOf all g.1 = some s ∧ ((∃ b, fget vf s = some (.bool b) ∧ ((b = g.2 ∧ guardE all g fr Ky Kn = Ky) ∨ (b ≠ g.2 ∧ guardE all g fr Ky Kn = Kn))) ∨ (∃ l, fget vf s = some (.tuple l) ∧ guardE all g fr Ky Kn = Kn)) := by
  unfold guardE at hk ⊢
  cases hs : slotOf all g.1 with
  | none => rw [hs] at hk; exact False.elim hk
  | some s =>
    rw [hs] at hk
    refine ⟨s, rfl, ?_⟩
    obtain ⟨v, e1, e2⟩ := getF_ok (t := s) hk
    obtain ⟨a, e3, e4⟩ := hf.val s v e1
    have hk2 := (congrArg Ans.ok e2).mp hk
    clear hk
    show (∃ b, _ ∧ ((_ ∧ getF s fr _ = _) ∨ (_ ∧ getF s fr _ = _))) ∨ ∃ l, _ ∧ getF s fr _ = _
    rw [e2]
    clear e2
    cases v with
    | bool b =>
      simp only [R] at e4
      subst e4
      refine .inl ⟨b, e3, ?_⟩
      obtain ⟨g1, g2⟩ := g
      cases b <;> cases g2
      · exact .inl ⟨rfl, rfl⟩
      · exact .inr ⟨(fun hh => Bool.noConfusion hh), rfl⟩
      · exact .inr ⟨(fun hh => Bool.noConfusion hh), rfl⟩
      · exact .inl ⟨rfl, rfl⟩
    | tup c =>
      simp only [R] at e4
      obtain ⟨l, _, rfl⟩ := e4
      exact .inr ⟨_, e3, rfl⟩
    | _ => exact False.elim hk2
end
end Go.Ev
namespace Go.Ev
open Go Go.Vc
def SOR (ops : List Oper) : SO → List Nat → Prop
  | .nl, σ => σ = []
  | .o i x r, σ => ∃ q, ops[i]? = some x ∧ SOR ops r q ∧ σ = i :: q
def RPost (η : Eta) (B : Base) (n : Nat) (x : Ans) (K : KF) (vf : Fr) (w : World) : Prop := ∃ η' fr' h' n', FrR η' fr' vf ∧ Rel η' B h' n' w ∧ Grow η η' n n' B.m ∧ x = K fr' h' n'
theorem FrR.feq {η : Eta} {fr : F} {vf vf' : Fr} (h : FrR η fr vf) (he : Feq vf vf') : FrR η fr vf' := ⟨fun t v ht => by
  obtain ⟨a, h1, h2⟩ := h.val t v ht
  exact ⟨a, by rw [← he t]; exact h1, h2⟩⟩
theorem RPost.feq {η : Eta} {B : Base} {n : Nat} {x : Ans} {K : KF} {vf vf' : Fr} {w : World} (he : Feq vf vf') (h : RPost η B n x K vf w) : RPost η B n x K vf' w := by
  obtain ⟨η', fr', h', n', h1, h2⟩ := h
  exact ⟨η', fr', h', n', h1.feq he, h2⟩
section
variable {η0 η η' : Eta} {B : Base} {h h' : H} {n0 n n' nt i j : Nat} {w w' : World} {e : Env} {fr fr' : F} {vf : Fr} {ops all : List Oper} {o : Oper} {bef : Nat → Nat → Bool} {ps : PS} {past : Past} {x : Ans} {K : KF}
theorem guard_ok (hf : FrR η fr vf) {KE : Ans} {Kn : F → Ans} (hx : x = Option.rec (motive := fun _ => Ans) KE (fun g => guardE all g fr KE (putF nt o.dst (.tup .nl) fr Kn)) o.guard) (hk : x.ok) {Kv : Option Value → World → Past → Prop}
    (hE : x = KE → execV none PP bef all i o vf w past Kv) (hN : ∀ fr', x = Kn fr' → FrR η fr' (Vc.put vf o.dst (some (.tuple #[]))) → Fits nt o.dst → Kv (some (.tuple #[])) w past) : stepD none PP bef all i o vf w past Kv := by
  unfold stepD
  cases hg : o.guard with
  | none =>
    rw [hg] at hx
    exact hE hx
  | some g =>
    rw [hg] at hx
    have hx : x = guardE all g fr KE (putF nt o.dst (.tup .nl) fr Kn) := hx
    have hk' := hk
    rw [hx] at hk'
    obtain ⟨s, h1, h2⟩ := guardE_ok hf hk'
    have hno : guardE all g fr KE (putF nt o.dst (.tup .nl) fr Kn) = putF nt o.dst (.tup .nl) fr Kn → Kv (some (.tuple #[])) w past := by
      intro hh
      rw [hh] at hk' hx
      obtain ⟨fr', e1, e2, e3⟩ := putF_ok (a := .tuple #[]) hf (by simp only [R]; exact ⟨[], .nl, rfl⟩) hk'
      exact hN fr' (hx.trans e1) e2 e3
    obtain ⟨j, want⟩ := g
    simp only [h1]
    rcases h2 with ⟨b, h2, ⟨h3, h4⟩ | ⟨h3, h4⟩⟩ | ⟨l, h2, h4⟩
    · simp only [h2]
      have := hE (hx.trans h4)
      cases b <;> cases want <;> first | exact this | exact Bool.noConfusion h3
    · simp only [h2]
      have := hno h4
      cases b <;> cases want <;> first | exact this | exact absurd rfl h3
    · simp only [h2]
      exact hno h4
def Agp (bef : Nat → Nat → Bool) (all : List Oper) (i j : Nat) : Prop := ∀ a b, all[i]? = some a → all[j]? = some b → cls PP a.op = 1 → 2 ≤ cls PP b.op → bef i j = true
def AgP (bef : Nat → Nat → Bool) (all : List Oper) (past : Past) (j : Nat) : Prop := ∀ b, all[j]? = some b → 2 ≤ cls PP b.op → ∀ p ∈ past, bef p.1 j = true
theorem runS_ok (hcall : CallOK e.call) : ∀ {q : SO} {σ : List Nat} {η : Eta} {fr : F} {vf : Fr} {h : H} {n : Nat} {w : World} {past : Past}, SOR all q σ → FrR η fr vf → Rel η e.B h n w → Grow η0 η n0 n e.B.m → x = runS all q e nt fr h n K → x.ok →
    σ.Pairwise (Agp bef all) → (∀ j ∈ σ, AgP bef all past j) → runV none PP nt bef all (RPost η0 e.B n0 x K) σ vf w past
  | .nl, σ, η, fr, vf, h, n, w, past, hq, hf, H0, hg, hx, hk, h1, h2 => by
    have hq : σ = [] := hq
    subst hq
    exact ⟨η, fr, h, n, hf, H0, hg, hx⟩
  | .o i o r, σ, η, fr, vf, h, n, w, past, hq, hf, H0, hg, hx, hk, h1, h2 => by
    obtain ⟨q, ho, hr, rfl⟩ := hq
    rw [runV_cons]
    refine ⟨o, ho, ?_⟩
    obtain ⟨h1a, h1b⟩ := List.pairwise_cons.1 h1
    have h2b : ∀ j ∈ q, AgP bef all past j := fun j hj => h2 j (List.mem_cons_of_mem _ hj)
    refine guard_ok (Kn := fun fr => runS all r e nt fr h n K) hf hx hk (fun hx => ?_) (fun fr' hx hf' hft => ⟨hft, runS_ok hcall hr hf' H0 hg hx hk h1b h2b⟩)
    have hk' := hk
    rw [hx] at hk'
    refine exec_ok hcall hf H0 hk' ?_ ?_ ?_
    · intro hc v a fr' e1 e2 e3 e4
      exact ⟨e4, runS_ok hcall hr e3 H0 hg (hx.trans e1) hk h1b h2b⟩
    · intro hc v a fr' e1 e2 e2' e3 e4
      refine ⟨e4, runS_ok hcall hr e3 H0 hg (hx.trans e1) hk h1b fun j hj b hb hcb p hp => ?_⟩
      rcases List.mem_cons.1 hp with rfl | hp
      · exact h1a j hj o b ho hb hc hcb
      · exact h2b j hj b hb hcb p hp
    · intro hc rv w' η' h' n' v fr' e1 e2 e3 e4 e5
      refine again_all (fun p hp => h2 i (List.mem_cons_self ..) o ho hc p hp) ⟨e5, ?_⟩
      exact runS_ok hcall hr e4 e2 (hg.trans e3) (hx.trans e1) hk h1b h2b
theorem stepA_ok (hcall : CallOK e.call) (hf : FrR η fr vf) (H0 : Rel η e.B h n w) (hp : PastR η ps past) {Kp : F → H → Nat → PS → Ans} (hx : x = stepA bef i o e nt fr h n ps Kp) (hk : x.ok) {Kv : Option Value → World → Past → Prop}
    (hK : ∀ rv w' past' η' h' n' fr' ps', x = Kp fr' h' n' ps' → Rel η' e.B h' n' w' → Grow η η' n n' e.B.m → FrR η' fr' (Vc.put vf o.dst rv) → Fits nt o.dst → PastR η' ps' past' → Kv rv w' past') : execV none PP bef all i o vf w past Kv := by
  unfold stepA at hx
  have hk' := hk
  rw [hx] at hk'
  refine exec_ok hcall hf H0 hk' ?_ ?_ ?_
  · intro hc v a fr' e1 e2 e3 e4
    have e1 := hx.trans e1
    have hcl : clN o.op = 0 := hc
    rw [hcl] at e1
    exact hK _ _ _ η h n fr' ps e1 H0 (Grow.refl _ _ _) e3 e4 hp
  · intro hc v a fr' e1 e2 e2' e3 e4
    have e1 := hx.trans e1
    have hcl : clN o.op = 1 := hc
    rw [hcl] at e1
    exact hK _ _ _ η h n fr' _ e1 H0 (Grow.refl _ _ _) e3 e4 ⟨vf, a, past, hf, e2, hc, hp, rfl⟩
  · intro hc rv w' η' h' n' v fr' e1 e2 e3 e4 e5
    have e1 := hx.trans e1
    have hb0 : Nat.beq (clN o.op) 0 = false := by
      cases hb : Nat.beq (clN o.op) 0 with
      | false => rfl
      | true => have : cls PP o.op = 0 := beq_t hb; omega
    have hb1 : Nat.beq (clN o.op) 1 = false := by
      cases hb : Nat.beq (clN o.op) 1 with
      | false => rfl
      | true => have : cls PP o.op = 1 := beq_t hb; omega
    rw [hb0, hb1] at e1
    have e1 : x = againE e h' n' i bef ps (Kp fr' h' n' ps) := e1
    have hk2 := hk
    rw [e1] at hk2
    have hp' := hp.mono (H0.ext e3)
    obtain ⟨e6, e7⟩ := again_ok e2 hp' hk2
    exact e7 _ (hK _ _ _ η' h' n' fr' ps (e1.trans e6) e2 e3 e4 e5 hp')
theorem runA_ok (hcall : CallOK e.call) : ∀ {q : SO} {σ : List Nat} {η : Eta} {fr : F} {vf : Fr} {h : H} {n : Nat} {w : World} {ps : PS} {past : Past}, SOR all q σ → FrR η fr vf → Rel η e.B h n w → Grow η0 η n0 n e.B.m → PastR η ps past →
    x = runA all bef q e nt fr h n ps K → x.ok → runV none PP nt bef all (RPost η0 e.B n0 x K) σ vf w past
  | .nl, σ, η, fr, vf, h, n, w, ps, past, hq, hf, H0, hg, hp, hx, hk => by
    have hq : σ = [] := hq
    subst hq
    exact ⟨η, fr, h, n, hf, H0, hg, hx⟩
  | .o i o r, σ, η, fr, vf, h, n, w, ps, past, hq, hf, H0, hg, hp, hx, hk => by
    obtain ⟨q, ho, hr, rfl⟩ := hq
    rw [runV_cons]
    refine ⟨o, ho, ?_⟩
    refine guard_ok (Kn := fun fr => runA all bef r e nt fr h n ps K) hf hx hk (fun hx => ?_) (fun fr' hx hf' hft => ⟨hft, runA_ok hcall hr hf' H0 hg hp hx hk⟩)
    exact stepA_ok hcall hf H0 hp hx hk fun rv w' past' η' h' n' fr' ps' e1 e2 e3 e4 e5 e6 => ⟨e5, runA_ok hcall hr e4 e2 (hg.trans e3) e6 e1 hk⟩
end
end Go.Ev
namespace Go.Ev
open Go Go.Vc
section
variable {η0 η η' : Eta} {B : Base} {h h' : H} {n0 n n' nt i j b0 m0 N : Nat} {w w' : World} {e : Env} {fr fr' : F} {vf : Fr} {ops all : List Oper} {o : Oper} {bef : Nat → Nat → Bool} {ps : PS} {past : Past} {x : Ans} {K : KF}
structure RelP (η : Eta) (B : Base) (b0 : Nat) (D : Nat → Prop) (h : H) (w : World) : Prop where
  fresh : ∀ k, b0 ≤ k → k < B.m → (∀ i, D i → ¬(b0 + 64 * i ≤ k ∧ k < b0 + 64 * i + 64)) → η k = none
  lo : B.lo ≤ b0
  obj : ∀ k, ObjAt η w k (look B h k)
  inj : ∀ k k' b c c', look B h k ≠ .no → look B h k' ≠ .no → η k = some (b, c) → η k' = some (b, c') → k = k'
  kept : Chg [] η.w0 w
  young : ∀ k b c, look B h k ≠ .no → η k = some (b, c) → η.w0.heap.size ≤ b
noncomputable def small (e : Env) (n : Nat) : Env := ⟨e.call, ⟨e.B.hb, e.B.lo, Nat.add n SPC⟩⟩
theorem small_m (e : Env) (n : Nat) : (small e n).B.m = n + 64 := rfl
theorem look_small (e : Env) (n : Nat) (h : H) (k : Nat) : look (small e n).B h k = look e.B h k := rfl
theorem RelP.rel {D : Nat → Prop} (H0 : RelP η e.B b0 D h w) (hi : ¬D i) (hm : b0 + 64 * i + 64 ≤ e.B.m) : Rel η (small e (b0 + 64 * i)).B h (b0 + 64 * i) w := by
  refine ⟨fun k h1 h2 => ?_, ?_, H0.obj, H0.inj, H0.kept, H0.young⟩
  · have h2 : k < b0 + 64 * i + 64 := h2
    refine H0.fresh k (by omega) (by omega) fun i' hi' hh => ?_
    by_cases hii : i' = i
    · subst hii; exact hi hi'
    · omega
  · have := H0.lo
    show e.B.lo ≤ _
    omega
theorem RelP.step {D : Nat → Prop} (H0 : RelP η e.B b0 D h w) (H1 : Rel η' (small e (b0 + 64 * i)).B h' n' w') (hg : Grow η η' (b0 + 64 * i) n' (small e (b0 + 64 * i)).B.m) : RelP η' e.B b0 (fun k => D k ∨ k = i) h' w' := by
  refine ⟨fun k h1 h2 h3 => ?_, H0.lo, H1.obj, H1.inj, H1.kept, H1.young⟩
  have := h3 i (.inr rfl)
  rw [hg.same k (by rw [small_m]; omega)]
  exact H0.fresh k h1 h2 fun i' hi' => h3 i' (.inl hi')
theorem runP_ok (hcall : CallOK e.call) (hm0 : m0 = b0 + 64 * N) (hm : m0 ≤ e.B.m) (h00 : ∀ k, b0 ≤ k → k < e.B.m → η0 k = none) : ∀ {q : SO} {σ : List Nat} {η : Eta} {fr : F} {vf : Fr} {h : H} {w : World} {ps : PS} {past : Past} {D : Nat → Prop},
    SOR all q σ → σ.Nodup → (∀ i ∈ σ, ¬D i ∧ i < N) → FrR η fr vf → RelP η e.B b0 D h w → (∀ k, k < b0 ∨ m0 ≤ k → η k = η0 k) → η.w0 = η0.w0 → PastR η ps past → x = runP all b0 m0 bef q e nt fr h ps K → x.ok →
    runV none PP nt bef all (RPost η0 e.B b0 x K) σ vf w past
  | .nl, σ, η, fr, vf, h, w, ps, past, D, hq, hn, hd, hf, H0, hg, hw0, hp, hx, hk => by
    have hq : σ = [] := hq
    subst hq
    refine ⟨η, fr, h, m0, hf, ⟨fun k h1 h2 => ?_, by have := H0.lo; omega, H0.obj, H0.inj, H0.kept, H0.young⟩, ⟨by omega, fun k hk => hg k (by omega), hw0⟩, hx⟩
    rw [hg k (.inr h1)]
    exact h00 k (by omega) h2
  | .o i o r, σ, η, fr, vf, h, w, ps, past, D, hq, hn, hd, hf, H0, hg, hw0, hp, hx, hk => by
    obtain ⟨q, ho, hr, rfl⟩ := hq
    rw [runV_cons]
    refine ⟨o, ho, ?_⟩
    obtain ⟨hn1, hn2⟩ := List.nodup_cons.1 hn
    obtain ⟨hi1, hi2⟩ := hd i (List.mem_cons_self ..)
    have hd2 : ∀ j ∈ q, ¬D j ∧ j < N := fun j hj => hd j (List.mem_cons_of_mem _ hj)
    have e0 : runP all b0 m0 bef (.o i o r) e nt fr h ps K = fN (Nat.add b0 (Nat.mul SPC i)) fun n => Option.rec (motive := fun _ => Ans) (stepA bef i o (small e n) nt fr h n ps fun fr h _ ps => runP all b0 m0 bef r e nt fr h ps K) (fun g => guardE all g fr (stepA bef i o (small e n) nt fr h n ps fun fr h _ ps => runP all b0 m0 bef r e nt fr h ps K) (putF nt o.dst (.tup .nl) fr fun fr => runP all b0 m0 bef r e nt fr h ps K)) o.guard := rfl
    rw [e0, fN_eq] at hx
    have hmi : b0 + 64 * i + 64 ≤ e.B.m := by omega
    have H1 := H0.rel hi1 hmi
    refine guard_ok (Kn := fun fr => runP all b0 m0 bef r e nt fr h ps K) hf hx hk (fun hx => ?_) (fun fr' hx hf' hft => ⟨hft, runP_ok hcall hm0 hm h00 hr hn2 hd2 hf' H0 hg hw0 hp hx hk⟩)
    refine stepA_ok (e := small e (b0 + 64 * i)) hcall hf H1 hp hx hk fun rv w' past' η' h' n' fr' ps' e1 e2 e3 e4 e5 e6 => ⟨e5, ?_⟩
    refine runP_ok hcall hm0 hm h00 hr hn2 (fun j hj => ⟨fun hh => ?_, (hd2 j hj).2⟩) e4 (H0.step e2 e3) (fun k hk => ?_) (e3.w0.trans hw0) e6 e1 hk
    · rcases hh with hh | rfl
      · exact (hd2 j hj).1 hh
      · exact hn1 hj
    · rw [e3.same k (by rw [small_m]; omega)]
      exact hg k hk
theorem soAt_ok : ∀ {σ : List Nat}, (∀ i ∈ σ, i < ops.length) → SOR ops (soAt ops σ) σ ∧ lenS (soAt ops σ) = σ.length
  | [], _ => ⟨rfl, rfl⟩
  | i :: r, hσ => by
    obtain ⟨h1, h2⟩ := soAt_ok (σ := r) fun j hj => hσ j (List.mem_cons_of_mem _ hj)
    have hi := hσ i (List.mem_cons_self ..)
    have e : soAt ops (i :: r) = .o i ops[i] (soAt ops r) := by simp [soAt, hi]
    rw [e]
    exact ⟨⟨r, by simp [hi], h1, rfl⟩, congrArg Nat.succ h2⟩
structure One (opsA : Array Oper) (eo : List Nat) (cl σ : List Nat) : Prop where
  hcl : cl = closure (chainOf eo) opsA.toList
  hσ : σ = orderOf PP opsA.toList cl (List.range opsA.toList.length) opsA.toList.length 0
  ok : drawOk PP opsA cl σ = true
theorem One.lists {opsA : Array Oper} {eo cl σ : List Nat} (H : One opsA eo cl σ) : (∀ i ∈ σ, i < opsA.toList.length) ∧ σ.Nodup ∧ σ.length = opsA.toList.length := by
  have hok := H.ok
  simp only [drawOk, Bool.and_eq_true, decide_eq_true_eq] at hok
  obtain ⟨⟨⟨hlen, hnd⟩, hall⟩, hpairs⟩ := hok
  exact ⟨fun k hk => of_decide_eq_true (List.all_eq_true.1 hall k hk), nodup_of hnd, hlen⟩
theorem One.oneV {opsA : Array Oper} {eo cl σ : List Nat} (H : One opsA eo cl σ) {Kv : Fr → World → Prop} (hr : runV none PP nt (before cl) opsA.toList Kv σ vf w []) : oneV none PP nt opsA Kv vf w eo := by
  obtain ⟨rfl, rfl, h⟩ := H
  simp only [Vc.oneV, h]
  exact hr
inductive SMR (opsA : Array Oper) : SM → List (List Nat) → Prop
  | nl : SMR opsA .nl []
  | s {eo cl σ : List Nat} {r : SM} {l : List (List Nat)} (h : One opsA eo cl σ) (hr : SMR opsA r l) : SMR opsA (.s true (before cl) (soAt opsA.toList σ) r) (eo :: l)
  | bad {l : List (List Nat)} : SMR opsA .bad l
theorem schedL_ok (opsA : Array Oper) : ∀ l, SMR opsA (schedL opsA l) l
  | [] => .nl
  | eo :: l => by
    have ih := schedL_ok opsA l
    show SMR opsA (sched1 opsA eo (schedL opsA l)) _
    simp only [sched1]
    split
    · rename_i h
      exact .s ⟨rfl, rfl, h⟩ ih
    · exact .bad
theorem many_ok {opsA : Array Oper} {a : Ans} : ∀ {s : SM} {l : List (List Nat)}, SMR opsA s l → a = many opsA.toList b0 m0 e nt fr h s → a.ok → ∀ eo ∈ l, ∃ cl σ, One opsA eo cl σ ∧ a = runP opsA.toList b0 m0 (before cl) (soAt opsA.toList σ) e nt fr h .nl fun fr h n => .reg fr h n
  | _, _, .nl, ha, hk, eo, he => by cases he
  | _, _, .bad, ha, hk, eo, he => by rw [ha] at hk; exact False.elim hk
  | _, _, .s (cl := cl) (σ := σ) (r := r) (l := l) h1 hr, ha, hk, eo, he => by
    cases hr with
    | nl =>
      simp at he
      subst he
      exact ⟨cl, σ, h1, ha⟩
    | bad => rw [ha] at hk; exact False.elim hk
    | s h2 hr2 =>
      rename_i eo2 cl2 σ2 r2 l2
      have hc : a = comb (runP opsA.toList b0 m0 (before cl) (soAt opsA.toList σ) e nt fr h .nl fun fr h n => .reg fr h n) (many opsA.toList b0 m0 e nt fr h (.s true (before cl2) (soAt opsA.toList σ2) r2)) := ha
      rw [hc] at hk
      obtain ⟨e1, e2⟩ := comb_ok hk
      rw [e2] at hk
      have ha1 := hc.trans e2
      rcases List.mem_cons.1 he with rfl | he
      · exact ⟨cl, σ, h1, ha1⟩
      · exact many_ok (.s h2 hr2) (ha1.trans e1) (by rw [ha1]; exact hk) eo he
theorem runV_mono' {K K' : Fr → World → Prop} (hk : ∀ f w, K f w → K' f w) : ∀ {σ : List Nat} {vf : Fr} {w : World} {p p' : Past}, (∀ e ∈ p', e ∈ p) → runV none PP nt bef all K σ vf w p → runV none PP nt bef all K' σ vf w p'
  | [], vf, w, p, p', _, h => hk _ _ h
  | i :: r, vf, w, p, p', hp, h => by
    rw [runV_cons] at h ⊢
    obtain ⟨o, ho, h⟩ := h
    exact ⟨o, ho, step_mono hp (fun v w' p p' hpp hh => ⟨hh.1, runV_mono' hk hpp hh.2⟩) h⟩
theorem drawAll_of {f : List Nat → Prop} : ∀ {l : List (List Nat)}, (∀ x ∈ l, f x) → drawAll f l
  | [], _ => trivial
  | [x], h => h x (List.mem_cons_self ..)
  | x :: y :: r, h => ⟨h x (List.mem_cons_self ..), drawAll_of fun z hz => h z (List.mem_cons_of_mem _ hz)⟩
theorem slow_ok (hcall : CallOK e.call) {opsA : Array Oper} (hf : FrR η fr vf) (H0 : Rel η e.B h n w) (hx : x = drawE opsA.toList (slow opsA) e nt fr h n K) (hk : x.ok) :
    drawBase opsA = true ∧ drawAll (oneV none PP nt opsA (RPost η e.B n x K) vf w) (extsOf (closure [] opsA.toList) (turners PP opsA.toList 0).length (turners PP opsA.toList 0)) := by
  unfold slow at hx
  split at hx
  · rename_i hb
    refine ⟨hb, ?_⟩
    generalize hl : extsOf (closure [] opsA.toList) (turners PP opsA.toList 0).length (turners PP opsA.toList 0) = l
    have hx : x = drawE opsA.toList (schedL opsA l) e nt fr h n K := by rw [← hl]; exact hx
    have hs := schedL_ok opsA l
    generalize schedL opsA l = s at hx hs
    cases hs with
    | nl => trivial
    | bad => rw [hx] at hk; exact False.elim hk
    | s h1 hr =>
      rename_i eo cl σ r l
      obtain ⟨a1, a2, a3⟩ := h1.lists
      obtain ⟨s1, s2⟩ := soAt_ok a1
      cases hr with
      | nl =>
        refine h1.oneV ?_
        exact runA_ok hcall s1 hf H0 (Grow.refl _ _ _) (ps := .nl) rfl (hx : x = runA opsA.toList (before cl) (soAt opsA.toList σ) e nt fr h n .nl K) hk
      | bad => rw [hx] at hk; exact False.elim hk
      | s h2 hr2 =>
        rename_i eo2 cl2 σ2 r2 l2
        have hx : x = fN (Nat.add n (Nat.mul SPC (lenS (soAt opsA.toList σ)))) fun m0 => bA (Nat.ble m0 e.B.m) (Ans.rec (motive := fun _ => Ans) (fun c => .no c) (.no 190) (fun _ _ => .no 191) (fun fr h n => K fr h n) (many opsA.toList n m0 e nt fr h (.s true (before cl) (soAt opsA.toList σ) (.s true (before cl2) (soAt opsA.toList σ2) r2)))) (.no 192) := hx
        rw [fN_eq, s2, a3] at hx
        have hk' := hk
        rw [hx] at hk'
        obtain ⟨e1, e2⟩ := bA_ok hk'
        rw [e2] at hx hk'
        have hm := ble_t e1
        generalize hM : many opsA.toList n (Nat.add n (Nat.mul SPC opsA.toList.length)) e nt fr h (.s true (before cl) (soAt opsA.toList σ) (.s true (before cl2) (soAt opsA.toList σ2) r2)) = a at hx hk'
        cases a with
        | no c => exact False.elim hk'
        | yes => exact False.elim hk'
        | val _ _ => exact False.elim hk'
        | reg fr1 hh1 n1 =>
          refine drawAll_of fun eo3 he => ?_
          obtain ⟨cl3, σ3, h3, h4⟩ := many_ok (.s h1 (.s h2 hr2)) hM.symm trivial eo3 he
          obtain ⟨c1, c2, c3⟩ := h3.lists
          obtain ⟨d1, d2⟩ := soAt_ok c1
          refine h3.oneV ?_
          have := runP_ok (x := .reg fr1 hh1 n1) (N := opsA.toList.length) (D := fun _ => False) hcall rfl hm H0.fresh d1 c2 (fun i hi => ⟨id, c1 i hi⟩) hf ⟨fun k h1 h2 _ => H0.fresh k h1 h2, H0.lo, H0.obj, H0.inj, H0.kept, H0.young⟩ (fun k _ => rfl) rfl (ps := .nl) (past := []) rfl h4 trivial
          refine runV_mono' ?_ (fun _ h => h) this
          rintro vf' w' ⟨η', fr', h', n', f1, f2, f3, f4⟩
          cases f4
          exact ⟨η', fr1, hh1, n1, f1, f2, f3, hx⟩
  · rw [hx] at hk; exact False.elim hk
end
end Go.Ev
namespace Go.Ev
open Go Go.Vc
theorem bit_eq (x i : Nat) : bit x i = Nat.testBit x i := by
  unfold bit
  rw [Nat.testBit]
  have e : Nat.shiftRight x i = x >>> i := rfl
  rw [e]
  cases hb : Nat.beq (Nat.mod (x >>> i) 2) 1 with
  | true =>
    have h : (x >>> i) % 2 = 1 := beq_t hb
    rw [Nat.and_comm, Nat.and_one_is_mod, h]; rfl
  | false =>
    have h : (x >>> i) % 2 ≠ 1 := Nat.ne_of_beq_eq_false hb
    have : (x >>> i) % 2 = 0 := by omega
    rw [Nat.and_comm, Nat.and_one_is_mod, this]; rfl
theorem row_bit (M i b : Nat) : Nat.testBit (rowOf M i) b = (decide (b < 128) && Nat.testBit M (128 * i + b)) := by
  unfold rowOf
  have e : Nat.mod (Nat.shiftRight M (Nat.mul WD i)) (Nat.pow 2 WD) = (M >>> (128 * i)) % 2 ^ 128 := rfl
  rw [e, Nat.testBit_mod_two_pow, Nat.testBit_shiftRight]
theorem row_put (M i j x b : Nat) : Nat.testBit (rowOf (Nat.lor M (Nat.shiftLeft (Nat.mod x (Nat.pow 2 WD)) (Nat.mul WD i))) j) b = (Nat.testBit (rowOf M j) b || (decide (j = i) && (decide (b < 128) && Nat.testBit x b))) := by
  rw [row_bit, row_bit]
  have e : Nat.lor M (Nat.shiftLeft (Nat.mod x (Nat.pow 2 WD)) (Nat.mul WD i)) = M ||| ((x % 2 ^ 128) <<< (128 * i)) := rfl
  rw [e, Nat.testBit_or, Nat.testBit_shiftLeft, Nat.testBit_mod_two_pow]
  by_cases hb : b < 128
  · by_cases hj : j = i
    · subst hj
      have h1 : 128 * j + b - 128 * j = b := by omega
      simp [hb, h1]
    · by_cases hlt : i < j
      · have h1 : ¬(128 * j + b - 128 * i < 128) := by omega
        simp [hb, hj, h1]
      · have h1 : ¬(128 * j + b ≥ 128 * i) := by omega
        simp [hb, hj, h1]
  · simp [hb]
theorem edRow_bit {M b : Nat} : ∀ {l : List Edge}, Nat.testBit (edRow l M) b = true → ∃ e ∈ l, Region.binds .any e = true ∧ (b = e.on ∨ Nat.testBit (rowOf M e.on) b = true)
  | [], h => by
    have : edRow [] M = 0 := rfl
    rw [this] at h; simp at h
  | e :: r, h => by
    have e0 : edRow (e :: r) M = Bool.rec (edRow r M) (Nat.lor (Nat.lor (Nat.pow 2 e.on) (rowOf M e.on)) (edRow r M)) (Region.binds .any e) := rfl
    rw [e0] at h
    cases hb : Region.binds .any e with
    | false =>
      rw [hb] at h
      obtain ⟨e', h1, h2⟩ := edRow_bit (l := r) h
      exact ⟨e', List.mem_cons_of_mem _ h1, h2⟩
    | true =>
      rw [hb] at h
      have h : Nat.testBit ((2 ^ e.on ||| rowOf M e.on) ||| edRow r M) b = true := h
      rw [Nat.testBit_or, Nat.testBit_or, Bool.or_eq_true, Bool.or_eq_true] at h
      rcases h with (h | h) | h
      · rw [Nat.testBit_two_pow] at h
        exact ⟨e, List.mem_cons_self .., hb, .inl (of_decide_eq_true h).symm⟩
      · exact ⟨e, List.mem_cons_self .., hb, .inr h⟩
      · obtain ⟨e', h1, h2⟩ := edRow_bit (l := r) h
        exact ⟨e', List.mem_cons_of_mem _ h1, h2⟩
def RowsOk (τ : List Nat) (M i : Nat) : Prop := ∀ j b, Nat.testBit (rowOf M j) b = true → j < i ∧ posIn b τ < posIn j τ
theorem rows_ok {m : Region.Mode} {opsA : Array Oper} {τ : List Nat} (hl : Lists m opsA τ) : ∀ {l : List Oper} {i M : Nat} {K : Nat → SM}, (∀ k o, l[k]? = some o → opsA[i + k]? = some o) → RowsOk τ M i → rows l i M K = .nl ∨ ∃ M', rows l i M K = K M' ∧ RowsOk τ M' (i + l.length)
  | [], i, M, K, _, hr => .inr ⟨M, rfl, hr⟩
  | o :: r, i, M, K, hops, hr => by
    have e0 : rows (o :: r) i M K = Bool.rec .nl (Nat.rec (motive := fun _ => SM) (rows r (Nat.add i 1) 0 K) (fun M _ => rows r (Nat.add i 1) (Nat.succ M) K) (Nat.lor M (Nat.shiftLeft (Nat.mod (edRow o.after.toList M) (Nat.pow 2 WD)) (Nat.mul WD i)))) (edOk o.after.toList i) := rfl
    have e1 : ∀ M', Nat.rec (motive := fun _ => SM) (rows r (Nat.add i 1) 0 K) (fun M _ => rows r (Nat.add i 1) (Nat.succ M) K) M' = rows r (i + 1) M' K := by
      intro M'; cases M' <;> rfl
    rw [e0]
    cases edOk o.after.toList i with
    | false => exact .inl rfl
    | true =>
      show (Nat.rec (motive := fun _ => SM) _ _ _) = _ ∨ ∃ M', (Nat.rec (motive := fun _ => SM) _ _ _) = _ ∧ _
      rw [e1]
      have ho := hops 0 o rfl
      have := rows_ok hl (l := r) (i := i + 1) (M := Nat.lor M (Nat.shiftLeft (Nat.mod (edRow o.after.toList M) (Nat.pow 2 WD)) (Nat.mul WD i))) (K := K) (fun k o' hk => by
        have := hops (k + 1) o' (by simpa using hk)
        rw [show i + 1 + k = i + (k + 1) by omega]; exact this) (fun j b hb => by
        rw [row_put, Bool.or_eq_true, Bool.and_eq_true, Bool.and_eq_true] at hb
        rcases hb with hb | ⟨hj, -, hb⟩
        · obtain ⟨h1, h2⟩ := hr j b hb
          exact ⟨by omega, h2⟩
        · have hj := of_decide_eq_true hj
          subst hj
          refine ⟨by omega, ?_⟩
          obtain ⟨e, h1, h2, h3⟩ := edRow_bit hb
          have hedge : e.on ∈ edgesIn m o := any_of_mode (by
            simp only [edgesIn, List.mem_map, List.mem_filter]
            exact ⟨e, ⟨h1, h2⟩, rfl⟩)
          have hpos := hl.edge j o (by simpa using ho) _ hedge
          rcases h3 with rfl | h3
          · exact hpos
          · exact Nat.lt_trans (hr _ _ h3).2 hpos)
      rw [show i + (o :: r).length = i + 1 + r.length by simp; omega]
      exact this
theorem rowsOk_zero (τ : List Nat) : RowsOk τ 0 0 := by
  intro j b hb
  rw [row_bit] at hb
  simp at hb
theorem rows_back {l : List Oper} : ∀ {i M : Nat} {K : Nat → SM}, (∀ M, K M ≠ .nl → True) → rows l i M K ≠ .nl → ∀ k o, l[k]? = some o → edOk o.after.toList (i + k) = true := by
  induction l with
  | nil => intro i M K _ _ k o hk; simp at hk
  | cons a r ih =>
    intro i M K hK hne k o hk
    have e0 : rows (a :: r) i M K = Bool.rec .nl (Nat.rec (motive := fun _ => SM) (rows r (Nat.add i 1) 0 K) (fun M _ => rows r (Nat.add i 1) (Nat.succ M) K) (Nat.lor M (Nat.shiftLeft (Nat.mod (edRow a.after.toList M) (Nat.pow 2 WD)) (Nat.mul WD i)))) (edOk a.after.toList i) := rfl
    have e1 : ∀ M', Nat.rec (motive := fun _ => SM) (rows r (Nat.add i 1) 0 K) (fun M _ => rows r (Nat.add i 1) (Nat.succ M) K) M' = rows r (i + 1) M' K := by
      intro M'; cases M' <;> rfl
    rw [e0] at hne
    cases hb : edOk a.after.toList i with
    | false => rw [hb] at hne; exact absurd rfl hne
    | true =>
      rw [hb] at hne
      have hne : Nat.rec (motive := fun _ => SM) (rows r (Nat.add i 1) 0 K) (fun M _ => rows r (Nat.add i 1) (Nat.succ M) K) (Nat.lor M (Nat.shiftLeft (Nat.mod (edRow a.after.toList M) (Nat.pow 2 WD)) (Nat.mul WD i))) ≠ .nl := hne
      rw [e1] at hne
      cases k with
      | zero =>
        simp at hk; subst hk
        exact hb
      | succ k =>
        have := ih hK hne k o (by simpa using hk)
        rw [show i + (k + 1) = i + 1 + k by omega]
        exact this
theorem edOk_ok {i : Nat} : ∀ {l : List Edge}, edOk l i = true → ∀ e ∈ l, Region.binds .text e = true → e.on < i
  | [], _, e, he, _ => by cases he
  | a :: r, h, e, he, hb => by
    have e0 : edOk (a :: r) i = bnd (Bool.rec (motive := fun _ => Bool) true (Nat.blt a.on i) (Region.binds .text a)) (edOk r i) := rfl
    rw [e0] at h
    obtain ⟨h1, h2⟩ := bnd_t h
    rcases List.mem_cons.1 he with rfl | he
    · rw [hb] at h1
      exact blt_t h1
    · exact edOk_ok h2 e he hb
theorem posIn_range' : ∀ {n s x : Nat}, s ≤ x → x < s + n → posIn x (List.range' s n) = x - s
  | 0, s, x, h1, h2 => by omega
  | n + 1, s, x, h1, h2 => by
    rw [List.range'_succ, posIn_cons]
    by_cases h : x = s
    · rw [if_pos h]; omega
    · rw [if_neg h, posIn_range' (s := s + 1) (by omega) (by omega)]; omega
theorem posIn_range {n x : Nat} (h : x < n) : posIn x (List.range n) = x := by
  rw [List.range_eq_range', posIn_range' (Nat.zero_le _) (by omega)]; omega
theorem posIn_mem {x : Nat} : ∀ {l : List Nat}, posIn x l < l.length → x ∈ l
  | [], h => by simp [posIn] at h
  | y :: r, h => by
    rw [posIn_cons] at h
    split at h
    · rename_i hx; subst hx; exact List.mem_cons_self ..
    · rw [List.length_cons] at h
      exact List.mem_cons_of_mem _ (posIn_mem (by omega))
theorem forward_text {m : Region.Mode} (hm : m = .text ∨ m = .any) {ops : List Oper} (h : ∀ (k : Nat) o, ops[k]? = some o → edOk o.after.toList k = true) : forward m ops (List.range ops.length) = true := by
  unfold forward
  rw [List.all_eq_true]
  intro i hi
  have hi := List.mem_range.1 hi
  have ho : ops[i]? = some ops[i] := by simp [hi]
  rw [ho]
  show List.all _ _ = true
  rw [List.all_eq_true]
  intro j hj
  have hj' : j ∈ edgesIn .text ops[i] := by
    rcases hm with rfl | rfl
    · exact hj
    · exact any_of_mode hj
  simp only [edgesIn, List.mem_map, List.mem_filter] at hj'
  obtain ⟨e, ⟨h1, h2⟩, rfl⟩ := hj'
  have := edOk_ok (h i _ ho) e h1 h2
  rw [posIn_range hi, posIn_range (by omega)]
  simp; omega
theorem lenO_eq : ∀ {l : List Oper}, lenO l = l.length
  | [] => rfl
  | o :: r => congrArg Nat.succ (lenO_eq (l := r))
theorem anyDep_ok {l : List Oper} (h : anyDep l = false) : ∀ o ∈ l, ∀ e ∈ o.after.toList, Region.binds .any e = true := by
  induction l with
  | nil => intro o ho; cases ho
  | cons a r ih =>
    have e0 : anyDep (a :: r) = Bool.rec true (anyDep r) (List.rec (motive := fun _ => Bool) true (fun e _ ih => bnd (Region.binds .any e) ih) a.after.toList) := rfl
    have key : ∀ (l : List Edge), (List.rec (motive := fun _ => Bool) true (fun e _ ih => bnd (Region.binds .any e) ih) l) = true → ∀ e ∈ l, Region.binds .any e = true := by
      intro l
      induction l with
      | nil => intro _ e he; cases he
      | cons b t ih =>
        intro h e he
        obtain ⟨h1, h2⟩ := bnd_t (a := Region.binds .any b) h
        rcases List.mem_cons.1 he with rfl | he
        · exact h1
        · exact ih h2 e he
    rw [e0] at h
    cases hb : (List.rec (motive := fun _ => Bool) true (fun e _ ih => bnd (Region.binds .any e) ih) a.after.toList : Bool) with
    | false => rw [hb] at h; cases h
    | true =>
      rw [hb] at h
      intro o ho
      rcases List.mem_cons.1 ho with rfl | ho
      · exact key _ hb
      · exact ih h o ho
theorem departs_no {opsA : Array Oper} (h : anyDep opsA.toList = false) : Region.departs opsA = false := by
  have := anyDep_ok h
  unfold Region.departs
  rw [Bool.eq_false_iff]
  intro hh
  rw [Array.any_eq_true'] at hh
  obtain ⟨o, ho, hh⟩ := hh
  rw [Array.any_eq_true'] at hh
  obtain ⟨e, he, hh⟩ := hh
  rw [this o (by simpa using ho) e (by simpa using he)] at hh
  cases hh
theorem gcM_bit : ∀ {l : List Edge} {b : Nat}, (∃ e ∈ l, Region.binds .gc e = true ∧ e.on = b) → Nat.testBit (gcM l) b = true
  | [], b, ⟨e, he, _⟩ => by cases he
  | a :: r, b, ⟨e, he, h1, h2⟩ => by
    have e0 : gcM (a :: r) = Bool.rec (gcM r) (Nat.lor (Nat.pow 2 a.on) (gcM r)) (Region.binds .gc a) := rfl
    rw [e0]
    have e1 : Nat.lor (Nat.pow 2 a.on) (gcM r) = 2 ^ a.on ||| gcM r := rfl
    rw [e1]
    rcases List.mem_cons.1 he with rfl | he
    · rw [h1]
      show Nat.testBit (2 ^ e.on ||| gcM r) b = true
      rw [Nat.testBit_or, Nat.testBit_two_pow, h2]; simp
    · have ih := gcM_bit (l := r) ⟨e, he, h1, h2⟩
      cases Region.binds .gc a with
      | true =>
        show Nat.testBit (2 ^ a.on ||| gcM r) b = true
        rw [Nat.testBit_or, ih]; simp
      | false => exact ih
theorem maskAt_ok : ∀ {l : List Oper} {i m : Nat}, maskAt l i = some m → ∃ o, l[i]? = some o ∧ m = gcM o.after.toList
  | [], i, m, h => by cases h
  | o :: r, 0, m, h => by cases h; exact ⟨o, rfl, rfl⟩
  | o :: r, i + 1, m, h => by
    obtain ⟨o', h1, h2⟩ := maskAt_ok (l := r) (i := i) h
    exact ⟨o', by simpa using h1, h2⟩
theorem subB_ok {m D b : Nat} (h : subB m D = true) (hb : Nat.testBit m b = true) : Nat.testBit D b = true := by
  have h : m ||| D = D := beq_t h
  rw [← h, Nat.testBit_or, hb]; rfl
theorem walk_ok {l : List Oper} {n : Nat} : ∀ {σ : List Nat} {D : Nat}, walkG l n σ D = true → (∀ i, i < n → Nat.testBit D i = true ∨ i ∈ σ) ∧ (∀ i ∈ σ, Nat.testBit D i = false ∧ i < l.length) ∧ ∀ i ∈ σ, ∀ o, l[i]? = some o → ∀ e ∈ edgesIn .gc o, Nat.testBit D e = true ∨ posIn e σ < posIn i σ
  | [], D, h => by
    have h : D = 2 ^ n - 1 := beq_t h
    refine ⟨fun i hi => .inl ?_, fun i hi => (by cases hi), fun i hi => (by cases hi)⟩
    rw [h, Nat.testBit_two_pow_sub_one]; simp [hi]
  | i :: r, D, h => by
    have e0 : walkG l n (i :: r) D = Option.rec (motive := fun _ => Bool) false (fun m => bnd (bnot (bit D i)) (bnd (subB m D) (walkG l n r (Nat.lor D (Nat.pow 2 i))))) (maskAt l i) := rfl
    rw [e0] at h
    cases hm : maskAt l i with
    | none => rw [hm] at h; cases h
    | some m =>
      rw [hm] at h
      obtain ⟨h1, h⟩ := bnd_t (a := bnot (bit D i)) h
      obtain ⟨h2, h3⟩ := bnd_t h
      rw [bit_eq] at h1
      have hD : Nat.testBit D i = false := by
        cases hb : Nat.testBit D i with
        | false => rfl
        | true => rw [hb] at h1; cases h1
      obtain ⟨o, ho, rfl⟩ := maskAt_ok hm
      obtain ⟨g1, g2, g3⟩ := walk_ok h3
      have hbit : ∀ j, Nat.testBit (Nat.lor D (Nat.pow 2 i)) j = (Nat.testBit D j || decide (i = j)) := by
        intro j
        show Nat.testBit (D ||| 2 ^ i) j = _
        rw [Nat.testBit_or, Nat.testBit_two_pow]
      have hil := (List.getElem?_eq_some_iff.1 ho).1
      refine ⟨fun j hj => ?_, fun j hj => ?_, fun j hj oj hoj e he => ?_⟩
      · rcases g1 j hj with g | g
        · rw [hbit, Bool.or_eq_true] at g
          rcases g with g | g
          · exact .inl g
          · rw [← of_decide_eq_true g]; exact .inr (List.mem_cons_self ..)
        · exact .inr (List.mem_cons_of_mem _ g)
      · rcases List.mem_cons.1 hj with rfl | hj
        · exact ⟨hD, hil⟩
        · obtain ⟨g4, g5⟩ := g2 j hj
          rw [hbit, Bool.or_eq_false_iff] at g4
          exact ⟨g4.1, g5⟩
      · rcases List.mem_cons.1 hj with rfl | hj
        · rw [ho] at hoj; cases hoj
          refine .inl (subB_ok h2 (gcM_bit ?_))
          simp only [edgesIn, List.mem_map, List.mem_filter] at he
          obtain ⟨ed, ⟨he1, he2⟩, rfl⟩ := he
          exact ⟨ed, he1, he2, rfl⟩
        · have hne : j ≠ i := by
            intro hji
            have := (g2 j hj).1
            rw [hbit, hji] at this
            simp at this
          rw [posIn_cons, posIn_cons, if_neg hne]
          rcases g3 j hj oj hoj e he with g | g
          · rw [hbit, Bool.or_eq_true] at g
            rcases g with g | g
            · exact .inl g
            · rw [if_pos (of_decide_eq_true g).symm]; exact .inr (by omega)
          · refine .inr ?_
            split <;> omega
theorem dep_ok {opsA : Array Oper} (h : depOk opsA.toList = true) (hd : Region.departs opsA = true) : ∃ σ, forward .gc opsA.toList σ = true := by
  unfold depOk at h
  cases ha : anyDep opsA.toList with
  | false => rw [departs_no ha] at hd; cases hd
  | true =>
    rw [ha] at h
    have h : walkG opsA.toList (lenO opsA.toList) (ordG opsA.toList (lenO opsA.toList) 0) 0 = true := h
    rw [lenO_eq] at h
    obtain ⟨g1, g2, g3⟩ := walk_ok h
    refine ⟨ordG opsA.toList opsA.toList.length 0, ?_⟩
    unfold forward
    rw [List.all_eq_true]
    intro i hi
    have hi := List.mem_range.1 hi
    have ho : opsA.toList[i]? = some opsA.toList[i] := by simp [hi]
    rw [ho]
    show List.all _ _ = true
    rw [List.all_eq_true]
    intro j hj
    have him := (g1 i hi).resolve_left (by simp)
    have hpos := (g3 i him _ ho j hj).resolve_left (by simp)
    have hjm := posIn_mem (Nat.lt_trans hpos (posIn_lt him))
    simp only [Bool.and_eq_true, decide_eq_true_eq]
    exact ⟨(g2 j hjm).2, hpos⟩
end Go.Ev
namespace Go.Ev
open Go Go.Vc
def AllP (p : Nat → Nat → Nat → Nat → Oper → Prop) : QL → Prop
  | .nl => True
  | .q i c w r o s => p i c w r o ∧ AllP p s
def HeadP (p : Nat → Nat → Nat → Nat → Oper → Prop) : QL → Prop
  | .nl => True
  | .q i c w r o _ => p i c w r o
section
variable {p : Nat → Nat → Nat → Nat → Oper → Prop} {M : Nat}
theorem pickQ_ok {done : Nat} : ∀ {l late : QL}, AllP p l → HeadP p late → HeadP p (pickQ M done l late)
  | .nl, late, _, h => h
  | .q i c w r o s, late, hl, h => by
    have e0 : pickQ M done (.q i c w r o s) late = Bool.rec (Bool.rec (pickQ M done s late) (Bool.rec (pickQ M done s (QL.rec (motive := fun _ => QL) (.q i c w r o .nl) (fun _ _ _ _ _ _ _ => late) late)) (.q i c w r o .nl) (Nat.ble c 1)) (Nat.beq (Nat.lor (rowOf M i) done) done)) (pickQ M done s late) (bit done i) := rfl
    rw [e0]
    have h1 := pickQ_ok (done := done) hl.2 h
    have h2 : HeadP p (pickQ M done s (QL.rec (motive := fun _ => QL) (.q i c w r o .nl) (fun _ _ _ _ _ _ _ => late) late)) := pickQ_ok hl.2 (by cases late with
      | nl => exact hl.1
      | q _ _ _ _ _ _ => exact h)
    cases bit done i with
    | true => exact h1
    | false =>
      cases Nat.beq (Nat.lor (rowOf M i) done) done with
      | false => exact h1
      | true =>
        cases Nat.ble c 1 with
        | false => exact h2
        | true => exact hl.1
theorem orderQ_ok {l : QL} (hl : AllP p l) : ∀ {fuel done : Nat}, AllP p (orderQ M l fuel done)
  | 0, done => trivial
  | fuel + 1, done => by
    have e0 : orderQ M l (fuel + 1) done = QL.rec (motive := fun _ => QL) .nl (fun i c w r o _ _ => .q i c w r o (orderQ M l fuel (Nat.lor done (Nat.pow 2 i)))) (pickQ M done l .nl) := rfl
    rw [e0]
    have h := pickQ_ok (M := M) (done := done) (late := .nl) hl trivial
    cases hp : pickQ M done l .nl with
    | nl => trivial
    | q i c w r o s =>
      rw [hp] at h
      exact ⟨h, orderQ_ok hl⟩
end
def QP (ops : List Oper) (i c w r : Nat) (o : Oper) : Prop := ops[i]? = some o ∧ c = cls PP o.op ∧ w = wbit o ∧ r = Nat.lor (bits (opTs o.op)) (gbit ops o)
theorem qls_ok {ops : List Oper} : ∀ {l : List Oper} {i : Nat}, (∀ k o, l[k]? = some o → ops[i + k]? = some o) → AllP (QP ops) (qls ops l i) ∧ lenQ (qls ops l i) = l.length
  | [], i, _ => ⟨trivial, rfl⟩
  | o :: r, i, h => by
    obtain ⟨h1, h2⟩ := qls_ok (ops := ops) (l := r) (i := i + 1) fun k o' hk => by
      have := h (k + 1) o' (by simpa using hk)
      rw [show i + 1 + k = i + (k + 1) by omega]; exact this
    have e0 : ∀ x, Nat.rec (motive := fun _ => QL) (.q i (cls PP o.op) (wbit o) 0 o (qls ops r (Nat.add i 1))) (fun x _ => .q i (cls PP o.op) (wbit o) (Nat.succ x) o (qls ops r (Nat.add i 1))) x = .q i (cls PP o.op) (wbit o) x o (qls ops r (i + 1)) := by
      intro x; cases x <;> rfl
    have e1 : qls ops (o :: r) i = .q i (cls PP o.op) (wbit o) (Nat.lor (bits (opTs o.op)) (gbit ops o)) o (qls ops r (i + 1)) := e0 _
    rw [e1]
    exact ⟨⟨⟨h 0 o rfl, rfl, rfl, rfl⟩, h1⟩, congrArg Nat.succ h2⟩
def idxQ : QL → List Nat
  | .nl => []
  | .q i _ _ _ _ s => i :: idxQ s
theorem idxQ_len : ∀ {q : QL}, (idxQ q).length = lenQ q
  | .nl => rfl
  | .q i c w r o s => congrArg Nat.succ (idxQ_len (q := s))
theorem soQ_ok {ops : List Oper} : ∀ {q : QL}, AllP (QP ops) q → SOR ops (soQ q) (idxQ q)
  | .nl, _ => rfl
  | .q i c w r o s, h => ⟨idxQ s, h.1.1, soQ_ok h.2, rfl⟩
theorem allQ_ok {f : Nat → Nat → Nat → Nat → Bool} {p : Nat → Nat → Nat → Nat → Oper → Prop} : ∀ {q : QL}, allQ f q = true → AllP p q → ∀ j ∈ idxQ q, ∃ c w r o, p j c w r o ∧ f j c w r = true
  | .nl, _, _, j, hj => by cases hj
  | .q i c w r o s, h, hp, j, hj => by
    obtain ⟨h1, h2⟩ := bnd_t (a := f i c w r) (b := allQ f s) h
    rcases List.mem_cons.1 hj with rfl | hj
    · exact ⟨c, w, r, o, hp.1, h1⟩
    · exact allQ_ok h2 hp.2 j hj
theorem bits_mem' : ∀ {l : List Nat} {t : Nat}, t ∈ l → Nat.testBit (bits l) t = true
  | a :: r, t, h => by
    show Nat.testBit (2 ^ a ||| bits r) t = true
    rw [Nat.testBit_or, Nat.testBit_two_pow]
    rcases List.mem_cons.1 h with rfl | h
    · simp
    · rw [bits_mem' h]; simp
theorem land_no {a b t : Nat} (h : Nat.beq (Nat.land a b) 0 = true) (h1 : Nat.testBit a t = true) (h2 : Nat.testBit b t = true) : False := by
  have h : a &&& b = 0 := beq_t h
  have := Nat.testBit_and a b t
  rw [h, h1, h2] at this
  simp at this
theorem wbit_bit {o : Oper} {d : Nat} (h : o.dst = some d) : Nat.testBit (wbit o) d = true := by
  unfold wbit
  rw [h]
  show Nat.testBit (2 ^ d) d = true
  rw [Nat.testBit_two_pow]; simp
theorem rbit_op {ops : List Oper} {o : Oper} {t : Nat} (h : t ∈ opTs o.op) : Nat.testBit (Nat.lor (bits (opTs o.op)) (gbit ops o)) t = true := by
  show Nat.testBit (_ ||| _) t = true
  rw [Nat.testBit_or, bits_mem' h]; rfl
theorem rbit_guard {ops : List Oper} {o : Oper} {k s : Nat} {want : Bool} (hg : o.guard = some (k, want)) (hs : slotOf ops k = some s) : Nat.testBit (Nat.lor (bits (opTs o.op)) (gbit ops o)) s = true := by
  show Nat.testBit (_ ||| _) s = true
  rw [Nat.testBit_or]
  have : Nat.testBit (gbit ops o) s = true := by
    unfold gbit
    rw [hg]
    show Nat.testBit (Option.rec (motive := fun _ => Nat) 0 (fun s => Nat.pow 2 s) (slotOf ops k)) s = true
    rw [hs]
    show Nat.testBit (2 ^ s) s = true
    rw [Nat.testBit_two_pow]; simp
  rw [this]; simp
noncomputable def clM (M : Nat) : List Nat := (List.range (M + 1)).map (rowOf M)
theorem befM_eq (M : Nat) : befM M = before (clM M) := by
  funext i j
  unfold befM before
  rw [bit_eq]
  congr 1
  unfold getN clM
  rw [List.getElem?_map]
  by_cases hj : j < M + 1
  · simp [hj]
  · have : (List.range (M + 1))[j]? = none := by simp; omega
    rw [this]
    show rowOf M j = 0
    apply Nat.eq_of_testBit_eq
    intro b
    rw [row_bit, Nat.zero_testBit]
    have : Nat.testBit M (128 * j + b) = false := by
      apply Nat.testBit_lt_two_pow
      calc M < 2 ^ M := Nat.lt_two_pow_self
        _ ≤ 2 ^ (128 * j + b) := Nat.pow_le_pow_right (by decide) (by omega)
    rw [this]; simp
theorem apart_ok {ops : List Oper} {i j : Nat} {a b : Oper} (ha : ops[i]? = some a) (hb : ops[j]? = some b)
    (h1 : Nat.beq (Nat.land (wbit a) (Nat.lor (wbit b) (Nat.lor (bits (opTs b.op)) (gbit ops b)))) 0 = true) (h2 : Nat.beq (Nat.land (Nat.lor (bits (opTs a.op)) (gbit ops a)) (wbit b)) 0 = true) : apartB ops i j = true := by
  have lorL : ∀ {x y t : Nat}, Nat.testBit x t = true → Nat.testBit (Nat.lor x y) t = true := fun h => by show Nat.testBit (_ ||| _) _ = true; rw [Nat.testBit_or, h]; rfl
  have lorR : ∀ {x y t : Nat}, Nat.testBit y t = true → Nat.testBit (Nat.lor x y) t = true := fun h => by show Nat.testBit (_ ||| _) _ = true; rw [Nat.testBit_or, h]; simp
  have ww : ∀ x, a.dst = some x → ∀ y, b.dst = some y → x ≠ y := fun x hx y hy he => by
    subst he
    exact land_no h1 (wbit_bit hx) (lorL (wbit_bit hy))
  have wr : ∀ x, a.dst = some x → ∀ t ∈ opTs b.op, t ≠ x := fun x hx t ht he => by
    subst he
    exact land_no h1 (wbit_bit hx) (lorR (rbit_op ht))
  have wg : ∀ x, a.dst = some x → ∀ k want s, b.guard = some (k, want) → slotOf ops k = some s → s ≠ x := fun x hx k want s hg hs he => by
    subst he
    exact land_no h1 (wbit_bit hx) (lorR (rbit_guard hg hs))
  have rw' : ∀ y, b.dst = some y → ∀ t ∈ opTs a.op, t ≠ y := fun y hy t ht he => by
    subst he
    exact land_no h2 (rbit_op ht) (wbit_bit hy)
  have gw : ∀ y, b.dst = some y → ∀ k want s, a.guard = some (k, want) → slotOf ops k = some s → s ≠ y := fun y hy k want s hg hs he => by
    subst he
    exact land_no h2 (rbit_guard hg hs) (wbit_bit hy)
  have hc : ∀ {o : Oper} {x : Nat}, (∀ t ∈ opTs o.op, t ≠ x) → (!(opTs o.op).contains x) = true := by
    intro o x h
    rw [Bool.not_eq_true']
    cases hb : (opTs o.op).contains x with
    | false => rfl
    | true => exact absurd rfl (h x (by simpa using hb))
  have hg : ∀ {o : Oper} {x : Nat}, (∀ k want s, o.guard = some (k, want) → slotOf ops k = some s → s ≠ x) → (match o.guard with
      | some (k, _) => match slotOf ops k with
        | some s => !(s == x)
        | none => true
      | none => true) = true := by
    intro o x h
    split
    · rename_i k want hgd
      split
      · rename_i s hs
        have := h k want s hgd hs
        simpa using this
      · rfl
    · rfl
  unfold apartB
  rw [ha, hb]
  dsimp only
  split
  · rename_i x y hx hy
    simp only [Bool.and_eq_true]
    exact ⟨⟨⟨⟨by simpa using ww x hx y hy, hc (rw' y hy)⟩, hc (wr x hx)⟩, hg (gw y hy)⟩, hg (wg x hx)⟩
  · rename_i x hx hy
    simp only [Bool.and_eq_true]
    exact ⟨hc (wr x hx), hg (wg x hx)⟩
  · rename_i y hx hy
    simp only [Bool.and_eq_true]
    exact ⟨hc (rw' y hy), hg (gw y hy)⟩
  · rfl
theorem okQ_ok {ops : List Oper} {M i c w r j c' w' r' : Nat} {a b : Oper} (ha : QP ops i c w r a) (hb : QP ops j c' w' r' b) (h : okQ M i c w r j c' w' r' = true) : turnOk PP ops (clM M) i j = true := by
  obtain ⟨a1, rfl, rfl, rfl⟩ := ha
  obtain ⟨b1, rfl, rfl, rfl⟩ := hb
  unfold turnOk
  rw [← befM_eq]
  unfold okQ at h
  cases hbit : bit (rowOf M j) i with
  | true =>
    have : befM M i j = true := hbit
    rw [this]; rfl
  | false =>
    rw [hbit] at h
    obtain ⟨h1, h⟩ := bnd_t h
    obtain ⟨h2, h⟩ := bnd_t h
    obtain ⟨h3, h4⟩ := bnd_t h
    have e1 : befM M j i = false := by
      show bit (rowOf M i) j = false
      cases hb : bit (rowOf M i) j with
      | false => rfl
      | true => rw [hb] at h1; cases h1
    rw [e1, apart_ok a1 b1 h2 h3, a1, b1]
    simp only [Bool.not_false, Bool.true_and, Bool.or_eq_true]
    refine .inr ?_
    split
    · rfl
    · rfl
    · rfl
    · rename_i n1 n2 n3
      have b0 : Nat.beq (cls PP a.op) 0 = false := by
        cases hb : Nat.beq (cls PP a.op) 0 with
        | false => rfl
        | true => exact absurd (beq_t hb) (by assumption)
      have b1 : Nat.beq (cls PP b.op) 0 = false := by
        cases hb : Nat.beq (cls PP b.op) 0 with
        | false => rfl
        | true => exact absurd (beq_t hb) (by assumption)
      rw [b0, b1] at h4
      exact absurd (beq_t (h4 : Nat.beq (cls PP a.op) 1 = true)) (by assumption)
theorem pairs_ok {ops : List Oper} {M : Nat} : ∀ {q : QL}, AllP (QP ops) q → pairsQ M q = true → (idxQ q).Nodup ∧ (idxQ q).Pairwise fun i j => turnOk PP ops (clM M) i j = true
  | .nl, _, _ => ⟨List.nodup_nil, .nil⟩
  | .q i c w r o s, hp, h => by
    obtain ⟨h1, h2⟩ := bnd_t (a := allQ (fun j c' w' r' => bnd (bnot (Nat.beq i j)) (okQ M i c w r j c' w' r')) s) (b := pairsQ M s) h
    obtain ⟨g1, g2⟩ := pairs_ok hp.2 h2
    have hall := allQ_ok h1 hp.2
    refine ⟨List.nodup_cons.2 ⟨fun hm => ?_, g1⟩, List.pairwise_cons.2 ⟨fun j hj => ?_, g2⟩⟩
    · obtain ⟨c', w', r', o', k1, k2⟩ := hall i hm
      obtain ⟨k3, k4⟩ := bnd_t k2
      have : Nat.beq i i = true := Nat.beq_refl i
      rw [this] at k3; cases k3
    · obtain ⟨c', w', r', o', k1, k2⟩ := hall j hj
      obtain ⟨k3, k4⟩ := bnd_t k2
      exact okQ_ok hp.1 k1 k4
theorem againQ_ok {ops : List Oper} {M : Nat} : ∀ {q : QL}, AllP (QP ops) q → againQ M q = false → (idxQ q).Pairwise (Agp (befM M) ops)
  | .nl, _, _ => .nil
  | .q i c w r o s, hp, h => by
    have e0 : againQ M (.q i c w r o s) = Bool.rec (againQ M s) (bnot (bnd (allQ (fun j c' _ _ => Bool.rec (bit (rowOf M j) i) true (Nat.ble c' 1)) s) (bnot (againQ M s)))) (Nat.beq c 1) := rfl
    rw [e0] at h
    obtain ⟨a1, a2, -, -⟩ := hp.1
    cases hc : Nat.beq c 1 with
    | false =>
      rw [hc] at h
      refine List.pairwise_cons.2 ⟨fun j hj a b ha hb hca hcb => ?_, againQ_ok hp.2 h⟩
      rw [a1] at ha; cases ha
      rw [a2, hca] at hc; cases hc
    | true =>
      rw [hc] at h
      have hb : (bnd (allQ (fun j c' _ _ => Bool.rec (bit (rowOf M j) i) true (Nat.ble c' 1)) s) (bnot (againQ M s))) = true := by
        cases hx : bnd (allQ (fun j c' _ _ => Bool.rec (bit (rowOf M j) i) true (Nat.ble c' 1)) s) (bnot (againQ M s)) with
        | true => rfl
        | false => rw [hx] at h; cases h
      obtain ⟨h1, h2⟩ := bnd_t hb
      have hs : againQ M s = false := by
        cases hx : againQ M s with
        | false => rfl
        | true => rw [hx] at h2; cases h2
      refine List.pairwise_cons.2 ⟨fun j hj a b ha hb hca hcb => ?_, againQ_ok hp.2 hs⟩
      obtain ⟨c', w', r', o', k1, k2⟩ := allQ_ok h1 hp.2 j hj
      obtain ⟨b1, b2, -, -⟩ := k1
      rw [b1] at hb; cases hb
      have : Nat.ble c' 1 = false := by
        cases hx : Nat.ble c' 1 with
        | false => rfl
        | true => have := ble_t hx; omega
      rw [this] at k2
      exact k2
end Go.Ev
namespace Go.Ev
open Go Go.Vc
section
variable {η η' : Eta} {h h' : H} {n n' nt fu : Nat} {w w' : World} {e : Env} {fr fr' : F} {vf : Fr} {x : Ans} {K : KF} {rd : Option Nat} {ds : List Deferred}
theorem fastO_s {M : Nat} {l q : QL} {ag : Bool} {bef : Nat → Nat → Bool} {so : SO} {r : SM} (h : fastO M l q .nl = .s ag bef so r) : ag = againQ M q ∧ bef = befM M ∧ so = soQ q ∧ r = .nl ∧ lenQ q = lenQ l ∧ pairsQ M q = true := by
  have e0 : fastO M l q .nl = Bool.rec .nl (.s (againQ M q) (befM M) (soQ q) .nl) (bnd (Nat.beq (lenQ q) (lenQ l)) (pairsQ M q)) := rfl
  rw [e0] at h
  cases hb : bnd (Nat.beq (lenQ q) (lenQ l)) (pairsQ M q) with
  | false => rw [hb] at h; cases h
  | true =>
    rw [hb] at h
    cases h
    obtain ⟨h1, h2⟩ := bnd_t hb
    exact ⟨rfl, rfl, rfl, rfl, beq_t h1, h2⟩
theorem sched_cases (opsA : Array Oper) : sched opsA = slow opsA ∨ ∃ ag bef so r, sched opsA = .s ag bef so r ∧ (rows opsA.toList 0 0 fun M => fastQ M (qls opsA.toList opsA.toList 0) .nl) = .s ag bef so r ∧ depOk opsA.toList = true := by
  have e0 : sched opsA = Bool.rec (slow opsA) (SM.rec (motive := fun _ => SM) (slow opsA) (slow opsA) (fun a b c d _ => .s a b c d) (rows opsA.toList 0 0 fun M => fastQ M (qls opsA.toList opsA.toList 0) .nl)) (bnd (Nat.ble (lenO opsA.toList) WD) (depOk opsA.toList)) := rfl
  rw [e0]
  cases hb : bnd (Nat.ble (lenO opsA.toList) WD) (depOk opsA.toList) with
  | false => exact .inl rfl
  | true =>
    obtain ⟨h1, h2⟩ := bnd_t hb
    cases hr : rows opsA.toList 0 0 fun M => fastQ M (qls opsA.toList opsA.toList 0) .nl with
    | nl => exact .inl rfl
    | bad => exact .inl rfl
    | s a b c d => exact .inr ⟨a, b, c, d, rfl, rfl, h2⟩
theorem draw_ok (hN : NoNum PP) (hcall : CallOK e.call) {opsA : Array Oper} (hf : FrR η fr vf) (H0 : Rel η e.B h n w) (hx : x = drawE opsA.toList (sched opsA) e nt fr h n K) (hk : x.ok)
    {Q : Exit → Act → World → Prop} (hQ : ∀ vf w a, RPost η e.B n x K vf w → Ref nt ds vf a → Q .normal a w) {a : Act} (hr : Ref nt ds vf a) (mixed : Bool) (t : Nat) :
    wpOpsIn (W rd) fu PP opsA Q (Region.schedule mixed opsA t) a w := by
  have hK : ∀ f f' w, Feq f f' → RPost η e.B n x K f w → RPost η e.B n x K f' w := fun f f' w hff hh => hh.feq hff
  rcases sched_cases opsA with hs | ⟨ag, bef, so, r, hs, hrows, hdep⟩
  · rw [hs] at hx
    obtain ⟨h1, h2⟩ := slow_ok hcall hf H0 hx hk
    exact draw_upon hN hK hQ h1 h2 hr mixed t
  · rw [hs] at hx
    have hback : ∀ (k : Nat) o, opsA.toList[k]? = some o → edOk o.after.toList k = true := by
      intro k o ho
      have := rows_back (l := opsA.toList) (i := 0) (M := 0) (fun _ _ => trivial) (by rw [hrows]; intro hh; cases hh) k o ho
      rwa [Nat.zero_add] at this
    have hlists : ∃ m, Lists m opsA (Region.schedule mixed opsA t) := by
      simp only [Region.schedule]
      split
      · exact ⟨_, lists_of (forward_text (.inr rfl) hback) t⟩
      · rename_i hc
        have hd : Region.departs opsA = true := by
          cases hd : Region.departs opsA with
          | true => rfl
          | false => rw [hd] at hc; simp at hc
        split
        · exact ⟨_, lists_of (forward_text (.inl rfl) hback) _⟩
        · obtain ⟨σ, hσ⟩ := dep_ok hdep hd
          exact ⟨_, lists_of hσ _⟩
    obtain ⟨m, hl⟩ := hlists
    generalize Region.schedule mixed opsA t = τ at hl ⊢
    rcases rows_ok hl (l := opsA.toList) (i := 0) (M := 0) (K := fun M => fastQ M (qls opsA.toList opsA.toList 0) .nl) (fun k o ho => by rw [Nat.zero_add]; simpa using ho) (rowsOk_zero τ) with hno | ⟨M, hM, hrow⟩
    · rw [hrows] at hno; cases hno
    · rw [hrows] at hM
      obtain ⟨q1, q2⟩ := qls_ok (ops := opsA.toList) (l := opsA.toList) (i := 0) fun k o ho => by rw [Nat.zero_add]; exact ho
      have hM : SM.s ag bef so r = fastO M (qls opsA.toList opsA.toList 0) (orderQ M (qls opsA.toList opsA.toList 0) (lenQ (qls opsA.toList opsA.toList 0)) 0) .nl := hM
      have q3 := orderQ_ok (M := M) q1 (fuel := lenQ (qls opsA.toList opsA.toList 0)) (done := 0)
      generalize orderQ M (qls opsA.toList opsA.toList 0) (lenQ (qls opsA.toList opsA.toList 0)) 0 = q at hM q3
      obtain ⟨rfl, rfl, rfl, rfl, g1, g2⟩ := fastO_s hM.symm
      obtain ⟨g3, g4⟩ := pairs_ok q3 g2
      have hso := soQ_ok q3
      have hlen : (idxQ q).length = opsA.size := by rw [idxQ_len, g1, q2]; simp
      have hin : ∀ i ∈ idxQ q, i < opsA.size := by
        have key : ∀ {q : QL}, AllP (QP opsA.toList) q → ∀ i ∈ idxQ q, i < opsA.size := by
          intro q
          induction q with
          | nl => intro _ i hi; cases hi
          | q i c w r o s ih =>
            intro hp j hj
            rcases List.mem_cons.1 hj with rfl | hj
            · have := (List.getElem?_eq_some_iff.1 hp.1.1).1
              simpa using this
            · exact ih hp.2 j hj
        exact key q3
      have hperm : (idxQ q).Perm τ := by
        refine (List.perm_ext_iff_of_nodup g3 hl.nodup).2 fun i => ?_
        rw [hl.mem]
        refine ⟨hin i, fun hi => Classical.byContradiction fun hn => ?_⟩
        have := (List.nodup_cons.2 ⟨hn, g3⟩).length_le_of_subset (l₂ := List.range opsA.size) fun k hk => List.mem_range.2 (by
          rcases List.mem_cons.1 hk with rfl | h
          · exact hi
          · exact hin k h)
        rw [List.length_cons, List.length_range] at this
        omega
      have hresp : τ.Pairwise fun x i => before (clM M) i x = false := by
        refine (pos_pw hl.nodup).imp_of_mem fun {a b} ha hb hlt => Bool.eq_false_iff.2 fun hh => ?_
        rw [← befM_eq] at hh
        have hh : Nat.testBit (rowOf M a) b = true := by rw [← bit_eq]; exact hh
        exact Nat.lt_asymm hlt (hrow a b hh).2
      have hrun : runV none PP nt (before (clM M)) opsA.toList (RPost η e.B n x K) (idxQ q) vf w [] := by
        rw [← befM_eq]
        cases hag : againQ M q with
        | false =>
          rw [hag] at hx
          exact runS_ok hcall hso hf H0 (Grow.refl _ _ _) hx hk (againQ_ok q3 hag) fun j hj b hb hc p hp => by cases hp
        | true =>
          rw [hag] at hx
          exact runA_ok hcall hso hf H0 (Grow.refl _ _ _) (ps := .nl) rfl hx hk
      exact draw_run hN hK hQ _ _ _ vf w [] a hperm hresp g4 hrun hr
theorem pw_all {R : Nat → Nat → Prop} : ∀ (l : List Nat), (∀ i j, R i j) → l.Pairwise R
  | [], _ => .nil
  | a :: r, h => List.pairwise_cons.2 ⟨fun _ _ => h _ _, pw_all r h⟩
theorem text_ok (hN : NoNum PP) (hcall : CallOK e.call) {opsA : Array Oper} (hf : FrR η fr vf) (H0 : Rel η e.B h n w) (hx : x = runS opsA.toList (soOf opsA.toList 0) e nt fr h n K) (hk : x.ok)
    {Q : Exit → Act → World → Prop} (hQ : ∀ vf w a, RPost η e.B n x K vf w → Ref nt ds vf a → Q .normal a w) {a : Act} (hr : Ref nt ds vf a) :
    wpOpsIn (W rd) fu PP opsA Q (List.range opsA.toList.length) a w := by
  have hso : ∀ (l : List Oper) (i : Nat), (∀ k o, l[k]? = some o → opsA.toList[i + k]? = some o) → SOR opsA.toList (soOf l i) (List.range' i l.length) := by
    intro l
    induction l with
    | nil => intro i _; exact rfl
    | cons o r ih =>
      intro i hh
      refine ⟨List.range' (i + 1) r.length, hh 0 o rfl, ih (i + 1) fun k o' hk => ?_, by rw [List.length_cons, List.range'_succ]⟩
      rw [show i + 1 + k = i + (k + 1) by omega]
      exact hh (k + 1) o' (by simpa using hk)
  have h1 := hso opsA.toList 0 fun k o hk => by rw [Nat.zero_add]; exact hk
  rw [← List.range_eq_range'] at h1
  refine run_upon (wr := none) (bef := fun _ _ => true) hN hQ _ vf w [] a ?_ hr
  refine runS_ok hcall h1 hf H0 (Grow.refl _ _ _) hx hk (pw_all _ ?_) fun j hj b hb hc p hp => by cases hp
  intro i j a b _ _ _ _; rfl
end
end Go.Ev
