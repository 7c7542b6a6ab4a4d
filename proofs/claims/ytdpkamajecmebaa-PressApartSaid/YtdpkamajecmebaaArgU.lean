/- Arguments, opened. -/
import Derived.Test.YtdpkamajecmebaaScU
import Derived.Test.YtdpkamajecmebaaJoin
import Derived.Test.YtdpkamajecmebaaRows
set_option linter.unusedVariables false
set_option linter.unusedSimpArgs false
set_option maxRecDepth 100000
namespace Go.Proofs.Ytdpkamajecmebaa
open Go Go.Vc Go.Vault Go.ChangeAt

theorem own_ : ownKnob Go.Proofs.Try.prog.godebug = none := by kernel_rfl
theorem laid_ : laidOutB Go.Proofs.Try.prog = true := by kernel_rfl
theorem und4 : Go.Proofs.Try.prog.underlying 4 = some .bool := by kernel_rfl
/-- an argument that is a slice -/
def ArgG (W : World) (n : Nat) (e : TypeId) (K : List Value → Prop) : Prop := ∃ (a : Option Addr) (cap : Nat) (els : List (List Value)), els.length ≤ cap ∧ cap ≤ maxLen ∧ els.length * Go.Proofs.Try.prog.bytesOf e ≤ reachBytes ∧ (a = none → els = []) ∧ (∀ x ∈ els, RdK Go.Proofs.Try.prog W n e (fun cs => x = cs)) ∧ Cells W a els.flatten ∧ K [.slice a els.length cap]
theorem rd_op (W : World) (K : List Value → Prop) : RdK Go.Proofs.Try.prog W 3 49 K = (∃ i, inR .i64 i ∧ ∃ j, inR .i64 j ∧ ∃ s : ByteArray, s.size ≤ reachBytes ∧ ∃ s2 : ByteArray, s2.size ≤ reachBytes ∧ ArgG W 1 5 fun x => ArgG W 1 3 fun y => K (.int .i64 i :: .int .i64 j :: .string s :: .string s2 :: (x ++ (y ++ [])))) := by kernel_rfl
theorem rd_int (W : World) (n : Nat) (K : List Value → Prop) : RdK Go.Proofs.Try.prog W (n + 1) 3 K = ∃ i, inR .i64 i ∧ K [.int .i64 i] := by kernel_rfl
theorem rd_u8 (W : World) (n : Nat) (K : List Value → Prop) : RdK Go.Proofs.Try.prog W (n + 1) 5 K = ∃ i, inR .u8 i ∧ K [.int .u8 i] := by kernel_rfl
theorem els_map {α : Type} {f : α → List Value} {Q : α → Prop} : ∀ (els : List (List Value)), (∀ x ∈ els, ∃ p, Q p ∧ x = f p) → ∃ l : List α, els = l.map f ∧ ∀ p ∈ l, Q p
  | [], _ => ⟨[], rfl, by simp⟩
  | x :: r, h => by
    obtain ⟨p, hq, rfl⟩ := h x (.head _)
    obtain ⟨l, rfl, hl⟩ := els_map r fun y hy => h y (.tail _ hy)
    exact ⟨p :: l, rfl, by simpa using ⟨hq, hl⟩⟩
theorem flat_ints : ∀ l : List Int, (l.map fun i : Int => [Value.int .i64 i]).flatten = ints l
  | [] => rfl
  | x :: r => by rw [List.map_cons, List.flatten_cons, flat_ints r]; rfl
theorem flat_bcells : ∀ l : List UInt8, (l.map fun b : UInt8 => [Value.int .u8 (b.toNat : Int)]).flatten = bcells l
  | [] => rfl
  | x :: r => by rw [List.map_cons, List.flatten_cons, flat_bcells r]; rfl
theorem argG_ints {W : World} {n : Nat} {K : List Value → Prop} (h : ArgG W (n + 1) 3 K) : ∃ (a : Option Addr) (c : Nat) (l : List Int), SC (blks a) W a l.length c 1 (ints l) ∧ K [.slice a l.length c] := by
  obtain ⟨a, cap, els, h1, _, _, h2, hels, hc, he⟩ := h
  obtain ⟨l, rfl, _⟩ := els_map (f := fun i : Int => [Value.int .i64 i]) (Q := fun _ => True) els fun x hx => by
    have := hels x hx
    rw [rd_int] at this
    obtain ⟨i, _, rfl⟩ := this
    exact ⟨i, trivial, rfl⟩
  rw [List.length_map] at he h1
  rw [flat_ints] at hc
  exact ⟨a, cap, l, ⟨hc, fun k hk => hk, by simp [ints], h1, fun ha => by have := h2 ha; simpa using this⟩, he⟩
theorem argG_bytes {W : World} {n : Nat} {K : List Value → Prop} (h : ArgG W (n + 1) 5 K) : ∃ (a : Option Addr) (c : Nat) (l : List UInt8), SC (blks a) W a l.length c 1 (bcells l) ∧ K [.slice a l.length c] := by
  obtain ⟨a, cap, els, h1, _, _, h2, hels, hc, he⟩ := h
  obtain ⟨l, rfl, _⟩ := els_map (f := fun b : UInt8 => [Value.int .u8 (b.toNat : Int)]) (Q := fun _ => True) els fun x hx => by
    have := hels x hx
    rw [rd_u8] at this
    obtain ⟨i, hi, rfl⟩ := this
    have hi := inR8.1 hi
    refine ⟨UInt8.ofNat i.toNat, trivial, ?_⟩
    have : (UInt8.ofNat i.toNat).toNat = i.toNat := by
      rw [UInt8.toNat_ofNat']
      exact Nat.mod_eq_of_lt (by omega)
    rw [this]
    have : ((i.toNat : Nat) : Int) = i := by omega
    rw [this]
  rw [List.length_map] at he h1
  rw [flat_bcells] at hc
  exact ⟨a, cap, l, ⟨hc, fun k hk => hk, by simp [bcells], h1, fun ha => by have := h2 ha; simpa using this⟩, he⟩
theorem argG_bytes2 {W : World} {n : Nat} {K : List Value → Prop} (h : ArgG W (n + 1) 5 K) : ∃ (a : Option Addr) (c : Nat) (l : List UInt8), SC (blks a) W a l.length c 1 (bcells l) ∧ l.length ≤ reachBytes ∧ K [.slice a l.length c] := by
  obtain ⟨a, cap, els, h1, h0, hr, h2, hels, hc, he⟩ := h
  have hr1 : els.length ≤ reachBytes := by
    have e1 : Go.Proofs.Try.prog.bytesOf 5 = 1 := by kernel_rfl
    rw [e1, Nat.mul_one] at hr; exact hr
  obtain ⟨a', c', l, hs, hk⟩ := argG_bytes (K := fun cs => cs = [.slice a els.length cap]) (n := n) ⟨a, cap, els, h1, h0, hr, h2, hels, hc, rfl⟩
  have := Value.slice.inj (List.cons.inj hk).1
  obtain ⟨ea, el, ec⟩ := this
  refine ⟨a', c', l, hs, by omega, ?_⟩
  rw [hk]; exact he
theorem argG_script2 {W : World} {K : List Value → Prop} (h : ArgG W 3 49 K) : ∃ (a : Option Addr) (c : Nat) (os : List (OW × Op)), Scr W a os ∧ (∀ p ∈ os, p.2.b.length ≤ reachBytes) ∧ K [.slice a os.length c] := by
  obtain ⟨a, cap, els, h1, _, _, h2, hels, hc, he⟩ := h
  obtain ⟨l, rfl, hl⟩ := els_map (f := opC) (Q := fun p => (OD (opF p) W p.1 p.2 ∧ p.2.n ≤ 9223372036854775807) ∧ p.2.b.length ≤ reachBytes) els fun x hx => by
    have := hels x hx
    rw [rd_op] at this
    obtain ⟨i, _, j, hj, s, _, s2, _, h⟩ := this
    obtain ⟨ba, bc, b, hb, hbr, h⟩ := argG_bytes2 h
    obtain ⟨pa, pc, ps, hp, rfl⟩ := argG_ints h
    exact ⟨(⟨ba, bc, pa, pc⟩, ⟨i, j, s, s2, b, ps⟩), ⟨⟨⟨hb.more fun k hk => List.mem_append_left _ hk, hp.more fun k hk => List.mem_append_right _ hk⟩, (inR64.1 hj).2⟩, hbr⟩, rfl⟩
  rw [List.length_map] at he
  exact ⟨a, cap, l, ⟨by rw [← List.flatMap_def] at hc; exact hc, fun p hp => (hl p hp).1.1, fun p hp => (hl p hp).1.2⟩, fun p hp => (hl p hp).2, he⟩
theorem argG_script {W : World} {K : List Value → Prop} (h : ArgG W 3 49 K) : ∃ (a : Option Addr) (c : Nat) (os : List (OW × Op)), Scr W a os ∧ K [.slice a os.length c] := by
  obtain ⟨a, c, os, h1, _, h2⟩ := argG_script2 h
  exact ⟨a, c, os, h1, h2⟩
end Go.Proofs.Ytdpkamajecmebaa
