/- Vault: arguments, opened. -/
import Derived.Test.YtnmlkecmokhhhaaUz
import Derived.Test.YtnmlkecmokhhhaaJoin
import Derived.Test.YtnmlkecmokhhhaaRows
set_option linter.unusedVariables false
set_option linter.unusedSimpArgs false
set_option maxRecDepth 100000
namespace Go.Proofs.Ytnmlkecmokhhhaa
open Go Go.Vc Go.Vault Go.ChangeAt

theorem own_ : ownKnob Go.Proofs.Try.prog.godebug = none := by kernel_rfl
theorem laid_ : laidOutB Go.Proofs.Try.prog = true := by kernel_rfl
theorem und4 : Go.Proofs.Try.prog.underlying 4 = some .bool := by kernel_rfl
/-- an argument that is a slice -/
def ArgG (W : World) (n : Nat) (e : TypeId) (K : List Value → Prop) : Prop := ∃ (a : Option Addr) (cap : Nat) (els : List (List Value)), els.length ≤ cap ∧ cap ≤ maxLen ∧ els.length * Go.Proofs.Try.prog.bytesOf e ≤ reachBytes ∧ (a = none → els = []) ∧ (∀ x ∈ els, RdK Go.Proofs.Try.prog W n e (fun cs => x = cs)) ∧ Cells W a els.flatten ∧ K [.slice a els.length cap]
theorem rd_op (W : World) (K : List Value → Prop) : RdK Go.Proofs.Try.prog W 3 29 K = (∃ i, inR .i64 i ∧ ∃ j, inR .i64 j ∧ ∃ s : ByteArray, s.size ≤ reachBytes ∧ ∃ s2 : ByteArray, s2.size ≤ reachBytes ∧ ArgG W 1 5 fun x => ArgG W 1 3 fun y => K (.int .i64 i :: .int .i64 j :: .string s :: .string s2 :: (x ++ (y ++ [])))) := by kernel_rfl
theorem rd_int (W : World) (n : Nat) (K : List Value → Prop) : RdK Go.Proofs.Try.prog W (n + 1) 3 K = ∃ i, inR .i64 i ∧ K [.int .i64 i] := by kernel_rfl
theorem rd_u8 (W : World) (n : Nat) (K : List Value → Prop) : RdK Go.Proofs.Try.prog W (n + 1) 5 K = ∃ i, inR .u8 i ∧ K [.int .u8 i] := by kernel_rfl
theorem els_map {α : Type} {f : α → List Value} {Q : α → Prop} : ∀ (els : List (List Value)), (∀ x ∈ els, ∃ p, Q p ∧ x = f p) → ∃ l : List α, els = l.map f ∧ ∀ p ∈ l, Q p
  | [], _ => ⟨[], rfl, by simp⟩
  | x :: r, h => by
    obtain ⟨p, hq, rfl⟩ := h x (.head _)
    obtain ⟨l, rfl, hl⟩ := els_map r fun y hy => h y (.tail _ hy)
    exact ⟨p :: l, rfl, by simpa using ⟨hq, hl⟩⟩
theorem flat_ints : ∀ l : List Int, (l.map fun i : Int => [Value.int .i64 i]).flatten = ints l
  | [] => rfl
  | x :: r => by rw [List.map_cons, List.flatten_cons, flat_ints r]; rfl
theorem flat_bcells : ∀ l : List UInt8, (l.map fun b : UInt8 => [Value.int .u8 (b.toNat : Int)]).flatten = bcells l
  | [] => rfl
  | x :: r => by rw [List.map_cons, List.flatten_cons, flat_bcells r]; rfl
theorem argG_ints {W : World} {n : Nat} {K : List Value → Prop} (h : ArgG W (n + 1) 3 K) : ∃ (a : Option Addr) (c : Nat) (l : List Int), SC (blks a) W a l.length c 1 (ints l) ∧ K [.slice a l.length c] := by
  obtain ⟨a, cap, els, h1, _, _, h2, hels, hc, he⟩ := h
  obtain ⟨l, rfl, _⟩ := els_map (f := fun i : Int => [Value.int .i64 i]) (Q := fun _ => True) els fun x hx => by
    have := hels x hx
    rw [rd_int] at this
    obtain ⟨i, _, rfl⟩ := this
    exact ⟨i, trivial, rfl⟩
  rw [List.length_map] at he h1
  rw [flat_ints] at hc
  exact ⟨a, cap, l, ⟨hc, fun k hk => hk, by simp [ints], h1, fun ha => by have := h2 ha; simpa using this⟩, he⟩
theorem argG_bytes {W : World} {n : Nat} {K : List Value → Prop} (h : ArgG W (n + 1) 5 K) : ∃ (a : Option Addr) (c : Nat) (l : List UInt8), SC (blks a) W a l.length c 1 (bcells l) ∧ K [.slice a l.length c] := by
  obtain ⟨a, cap, els, h1, _, _, h2, hels, hc, he⟩ := h
  obtain ⟨l, rfl, _⟩ := els_map (f := fun b : UInt8 => [Value.int .u8 (b.toNat : Int)]) (Q := fun _ => True) els fun x hx => by
    have := hels x hx
    rw [rd_u8] at this
    obtain ⟨i, hi, rfl⟩ := this
    have hi := inR8.1 hi
    refine ⟨UInt8.ofNat i.toNat, trivial, ?_⟩
    have : (UInt8.ofNat i.toNat).toNat = i.toNat := by
      rw [UInt8.toNat_ofNat']
      exact Nat.mod_eq_of_lt (by omega)
    rw [this]
    have : ((i.toNat : Nat) : Int) = i := by omega
    rw [this]
  rw [List.length_map] at he h1
  rw [flat_bcells] at hc
  exact ⟨a, cap, l, ⟨hc, fun k hk => hk, by simp [bcells], h1, fun ha => by have := h2 ha; simpa using this⟩, he⟩
theorem argG_bytes2 {W : World} {n : Nat} {K : List Value → Prop} (h : ArgG W (n + 1) 5 K) : ∃ (a : Option Addr) (c : Nat) (l : List UInt8), SC (blks a) W a l.length c 1 (bcells l) ∧ l.length ≤ reachBytes ∧ K [.slice a l.length c] := by
  obtain ⟨a, cap, els, h1, h0, hr, h2, hels, hc, he⟩ := h
  have hr1 : els.length ≤ reachBytes := by
    have e1 : Go.Proofs.Try.prog.bytesOf 5 = 1 := by kernel_rfl
    rw [e1, Nat.mul_one] at hr; exact hr
  obtain ⟨a', c', l, hs, hk⟩ := argG_bytes (K := fun cs => cs = [.slice a els.length cap]) (n := n) ⟨a, cap, els, h1, h0, hr, h2, hels, hc, rfl⟩
  have := Value.slice.inj (List.cons.inj hk).1
  obtain ⟨ea, el, ec⟩ := this
  refine ⟨a', c', l, hs, by omega, ?_⟩
  rw [hk]; exact he
theorem argG_script2 {W : World} {K : List Value → Prop} (h : ArgG W 3 29 K) : ∃ (a : Option Addr) (c : Nat) (os : List (OW × Op)), Scr W a os ∧ (∀ p ∈ os, p.2.b.length ≤ reachBytes) ∧ K [.slice a os.length c] := by
  obtain ⟨a, cap, els, h1, _, _, h2, hels, hc, he⟩ := h
  obtain ⟨l, rfl, hl⟩ := els_map (f := opC) (Q := fun p => (OD (opF p) W p.1 p.2 ∧ p.2.n ≤ 9223372036854775807) ∧ p.2.b.length ≤ reachBytes) els fun x hx => by
    have := hels x hx
    rw [rd_op] at this
    obtain ⟨i, _, j, hj, s, _, s2, _, h⟩ := this
    obtain ⟨ba, bc, b, hb, hbr, h⟩ := argG_bytes2 h
    obtain ⟨pa, pc, ps, hp, rfl⟩ := argG_ints h
    exact ⟨(⟨ba, bc, pa, pc⟩, ⟨i, j, s, s2, b, ps⟩), ⟨⟨⟨hb.more fun k hk => List.mem_append_left _ hk, hp.more fun k hk => List.mem_append_right _ hk⟩, (inR64.1 hj).2⟩, hbr⟩, rfl⟩
  rw [List.length_map] at he
  exact ⟨a, cap, l, ⟨by rw [← List.flatMap_def] at hc; exact hc, fun p hp => (hl p hp).1.1, fun p hp => (hl p hp).1.2⟩, fun p hp => (hl p hp).2, he⟩
theorem argG_script {W : World} {K : List Value → Prop} (h : ArgG W 3 29 K) : ∃ (a : Option Addr) (c : Nat) (os : List (OW × Op)), Scr W a os ∧ K [.slice a os.length c] := by
  obtain ⟨a, c, os, h1, _, h2⟩ := argG_script2 h
  exact ⟨a, c, os, h1, h2⟩
theorem rd_room (W : World) (K : List Value → Prop) : RdA Go.Proofs.Try.prog W 4 [3, 22] K = ∃ i, inR .i64 i ∧ ArgG W 3 29 (fun cs => K (.int .i64 i :: ofC (some false) cs :: [])) := by kernel_rfl
theorem rd_finds (W : World) (K : List Value → Prop) : RdA Go.Proofs.Try.prog W 4 [22, 3, 27] K = ArgG W 3 29 (fun cs => ∃ i, inR .i64 i ∧ ArgG W 3 3 (fun ds => K (ofC (some false) cs :: .int .i64 i :: ofC (some false) ds :: []))) := by kernel_rfl
theorem rd_names (W : World) (K : List Value → Prop) : RdA Go.Proofs.Try.prog W 4 [22, 9] K = ArgG W 3 29 (fun cs => ∃ s : ByteArray, s.size ≤ reachBytes ∧ K (ofC (some false) cs :: .string s :: [])) := by kernel_rfl
theorem rd_reads (W : World) (K : List Value → Prop) : RdA Go.Proofs.Try.prog W 4 [22, 22, 26] K = ArgG W 3 29 (fun cs => ArgG W 3 29 (fun ds => ArgG W 3 5 (fun es => K (ofC (some false) cs :: ofC (some false) ds :: ofC (some false) es :: [])))) := by kernel_rfl
theorem rd_lasts (W : World) (K : List Value → Prop) : RdA Go.Proofs.Try.prog W 4 [22, 22, 27] K = ArgG W 3 29 (fun cs => ArgG W 3 29 (fun ds => ArgG W 3 3 (fun es => K (ofC (some false) cs :: ofC (some false) ds :: ofC (some false) es :: [])))) := by kernel_rfl
theorem rd_apart (W : World) (K : List Value → Prop) : RdA Go.Proofs.Try.prog W 4 [22, 22] K = ArgG W 3 29 (fun cs => ArgG W 3 29 (fun ds => K (ofC (some false) cs :: ofC (some false) ds :: []))) := by kernel_rfl
theorem open_room {W : World} {args : Array Value} (h : RdA Go.Proofs.Try.prog W 4 [3, 22] (fun l => args.toList = l)) : ∃ (i : Int) (a : Option Addr) (c : Nat) (os : List (OW × Op)), args = #[.int .i64 i, .slice a os.length c] ∧ Scr W a os := by
  rw [rd_room] at h
  obtain ⟨i, _, h⟩ := h
  obtain ⟨a, c, os, h1, h⟩ := argG_script h
  exact ⟨i, a, c, os, by cases args; simp_all [ofC], h1⟩
theorem open_finds {W : World} {args : Array Value} (h : RdA Go.Proofs.Try.prog W 4 [22, 3, 27] (fun l => args.toList = l)) : ∃ (a : Option Addr) (c : Nat) (os : List (OW × Op)) (i : Int) (pa : Option Addr) (pc : Nat) (ps : List Int), args = #[.slice a os.length c, .int .i64 i, .slice pa ps.length pc] ∧ Scr W a os ∧ SC (blks pa) W pa ps.length pc 1 (ints ps) := by
  rw [rd_finds] at h
  obtain ⟨a, c, os, h1, i, _, h⟩ := argG_script h
  obtain ⟨pa, pc, ps, h2, h⟩ := argG_ints h
  exact ⟨a, c, os, i, pa, pc, ps, by cases args; simp_all [ofC], h1, h2⟩
theorem open_names {W : World} {args : Array Value} (h : RdA Go.Proofs.Try.prog W 4 [22, 9] (fun l => args.toList = l)) : ∃ (a : Option Addr) (c : Nat) (os : List (OW × Op)) (s : ByteArray), args = #[.slice a os.length c, .string s] ∧ Scr W a os := by
  rw [rd_names] at h
  obtain ⟨a, c, os, h1, s, _, h⟩ := argG_script h
  exact ⟨a, c, os, s, by cases args; simp_all [ofC], h1⟩
theorem open_reads {W : World} {args : Array Value} (h : RdA Go.Proofs.Try.prog W 4 [22, 22, 26] (fun l => args.toList = l)) : ∃ (a : Option Addr) (c : Nat) (os : List (OW × Op)) (a2 : Option Addr) (c2 : Nat) (os2 : List (OW × Op)) (ba : Option Addr) (bc : Nat) (b : List UInt8), args = #[.slice a os.length c, .slice a2 os2.length c2, .slice ba b.length bc] ∧ Scr W a os ∧ Scr W a2 os2 ∧ SC (blks ba) W ba b.length bc 1 (bcells b) := by
  rw [rd_reads] at h
  obtain ⟨a, c, os, h1, h⟩ := argG_script h
  obtain ⟨a2, c2, os2, h2, h⟩ := argG_script h
  obtain ⟨ba, bc, b, h3, h⟩ := argG_bytes h
  exact ⟨a, c, os, a2, c2, os2, ba, bc, b, by cases args; simp_all [ofC], h1, h2, h3⟩
theorem open_lasts {W : World} {args : Array Value} (h : RdA Go.Proofs.Try.prog W 4 [22, 22, 27] (fun l => args.toList = l)) : ∃ (a : Option Addr) (c : Nat) (os : List (OW × Op)) (a2 : Option Addr) (c2 : Nat) (os2 : List (OW × Op)) (pa : Option Addr) (pc : Nat) (ps : List Int), args = #[.slice a os.length c, .slice a2 os2.length c2, .slice pa ps.length pc] ∧ Scr W a os ∧ Scr W a2 os2 ∧ SC (blks pa) W pa ps.length pc 1 (ints ps) := by
  rw [rd_lasts] at h
  obtain ⟨a, c, os, h1, h⟩ := argG_script h
  obtain ⟨a2, c2, os2, h2, h⟩ := argG_script h
  obtain ⟨pa, pc, ps, h3, h⟩ := argG_ints h
  exact ⟨a, c, os, a2, c2, os2, pa, pc, ps, by cases args; simp_all [ofC], h1, h2, h3⟩
theorem open_apart {W : World} {args : Array Value} (h : RdA Go.Proofs.Try.prog W 4 [22, 22] (fun l => args.toList = l)) : ∃ (a : Option Addr) (c : Nat) (os : List (OW × Op)) (a2 : Option Addr) (c2 : Nat) (os2 : List (OW × Op)), args = #[.slice a os.length c, .slice a2 os2.length c2] ∧ Scr W a os ∧ Scr W a2 os2 ∧ ∀ p ∈ os2, p.2.b.length ≤ reachBytes := by
  rw [rd_apart] at h
  obtain ⟨a, c, os, h1, h⟩ := argG_script h
  obtain ⟨a2, c2, os2, h2, hb, h⟩ := argG_script2 h
  exact ⟨a, c, os, a2, c2, os2, by cases args; simp_all [ofC], h1, h2, hb⟩
theorem vaultRoom_holds : Rows.VaultRoomSaid :=
  OpenClaim.holds_of_wide 3 Try.f3 rfl rfl rfl rfl rfl rfl rfl ⟨rfl, rfl, rfl, rfl, rfl⟩ rfl rfl rfl rfl rfl (by kernel_rfl) Try.func3 (by kernel_rfl)
    (of_decide_eq_true (by kernel_rfl)) (by unfold Func.isWrapper; first | (rw [if_pos (by decide +kernel)]; kernel_rfl) | (rw [if_neg (by decide +kernel)]; exact ⟨rfl, rfl⟩))
    (fun os started H enc _ => law_lift (C := Try.checked) (s := Rows.vaultRoomSpec) 3 Try.f3 4 own_ started (by kernel_rfl) Try.func3 laid_ (by kernel_rfl) rfl (by kernel_rfl) und4
      (fun ds h => by
        match ds, h with
        | [d0, d1], _ => rfl)
      (ChangeSpec.witness6 (enc := enc) (C := Try.checked) false ⟨#[], #[.int .i64 0, .slice none 0 0], []⟩ 8 (by kernel_rfl) (by kernel_rfl) (by kernel_rfl) (by kernel_rfl))
      (fun W args hrd => by
        obtain ⟨i, sa, sc, so, rfl, sh⟩ := open_room hrd
        exact (vaultRoom_law i sa sc so W sh).mono fun e W' ⟨he, hh⟩ => ⟨he, hh.chg⟩))
theorem vaultLasts_holds : Rows.VaultLastsSaid :=
  OpenClaim.holds_of_wide 4 Try.f4 rfl rfl rfl rfl rfl rfl rfl ⟨rfl, rfl, rfl, rfl, rfl⟩ rfl rfl rfl rfl rfl (by kernel_rfl) Try.func4 (by kernel_rfl)
    (of_decide_eq_true (by kernel_rfl)) (by unfold Func.isWrapper; first | (rw [if_pos (by decide +kernel)]; kernel_rfl) | (rw [if_neg (by decide +kernel)]; exact ⟨rfl, rfl⟩))
    (fun os started H enc _ => law_lift (C := Try.checked) (s := Rows.vaultLastsSpec) 4 Try.f4 4 own_ started (by kernel_rfl) Try.func4 laid_ (by kernel_rfl) rfl (by kernel_rfl) und4
      (fun ds h => by
        match ds, h with
        | [d0, d1, d2], _ => rfl)
      (ChangeSpec.witness6 (enc := enc) (C := Try.checked) false ⟨#[], #[.slice none 0 0, .slice none 0 0, .slice none 0 0], []⟩ 8 (by kernel_rfl) (by kernel_rfl) (by kernel_rfl) (by kernel_rfl))
      (fun W args hrd => by
        obtain ⟨sa, sc, so, s2a, s2c, s2o, pa, pc, ps, rfl, sh, s2h, ph⟩ := open_lasts hrd
        exact (vaultLasts_law sa sc so s2a s2c s2o pa pc ps W sh s2h ph).mono fun e W' ⟨he, hh⟩ => ⟨he, hh.chg⟩))
theorem vaultReads_holds : Rows.VaultReadsSaid :=
  OpenClaim.holds_of_wide 5 Try.f5 rfl rfl rfl rfl rfl rfl rfl ⟨rfl, rfl, rfl, rfl, rfl⟩ rfl rfl rfl rfl rfl (by kernel_rfl) Try.func5 (by kernel_rfl)
    (of_decide_eq_true (by kernel_rfl)) (by unfold Func.isWrapper; first | (rw [if_pos (by decide +kernel)]; kernel_rfl) | (rw [if_neg (by decide +kernel)]; exact ⟨rfl, rfl⟩))
    (fun os started H enc _ => law_lift (C := Try.checked) (s := Rows.vaultReadsSpec) 5 Try.f5 4 own_ started (by kernel_rfl) Try.func5 laid_ (by kernel_rfl) rfl (by kernel_rfl) und4
      (fun ds h => by
        match ds, h with
        | [d0, d1, d2], _ => rfl)
      (ChangeSpec.witness6 (enc := enc) (C := Try.checked) false ⟨#[], #[.slice none 0 0, .slice none 0 0, .slice none 0 0], []⟩ 8 (by kernel_rfl) (by kernel_rfl) (by kernel_rfl) (by kernel_rfl))
      (fun W args hrd => by
        obtain ⟨sa, sc, so, s2a, s2c, s2o, pa, pc, ps, rfl, sh, s2h, ph⟩ := open_reads hrd
        exact (vaultReads_law sa sc so s2a s2c s2o pa pc ps W sh s2h ph).mono fun e W' ⟨he, hh⟩ => ⟨he, hh.chg⟩))
theorem vaultNames_holds : Rows.VaultNamesSaid :=
  OpenClaim.holds_of_wide 6 Try.f6 rfl rfl rfl rfl rfl rfl rfl ⟨rfl, rfl, rfl, rfl, rfl⟩ rfl rfl rfl rfl rfl (by kernel_rfl) Try.func6 (by kernel_rfl)
    (of_decide_eq_true (by kernel_rfl)) (by unfold Func.isWrapper; first | (rw [if_pos (by decide +kernel)]; kernel_rfl) | (rw [if_neg (by decide +kernel)]; exact ⟨rfl, rfl⟩))
    (fun os started H enc _ => law_lift (C := Try.checked) (s := Rows.vaultNamesSpec) 6 Try.f6 4 own_ started (by kernel_rfl) Try.func6 laid_ (by kernel_rfl) rfl (by kernel_rfl) und4
      (fun ds h => by
        match ds, h with
        | [d0, d1], _ => rfl)
      (ChangeSpec.witness6 (enc := enc) (C := Try.checked) false ⟨#[], #[.slice none 0 0, .string ⟨#[]⟩], []⟩ 8 (by kernel_rfl) (by kernel_rfl) (by kernel_rfl) (by kernel_rfl))
      (fun W args hrd => by
        obtain ⟨sa, sc, so, s, rfl, sh⟩ := open_names hrd
        exact (vaultNames_law sa sc so s W sh).mono fun e W' ⟨he, hh⟩ => ⟨he, hh.chg⟩))
theorem vaultFinds_holds : Rows.VaultFindsSaid :=
  OpenClaim.holds_of_wide 7 Try.f7 rfl rfl rfl rfl rfl rfl rfl ⟨rfl, rfl, rfl, rfl, rfl⟩ rfl rfl rfl rfl rfl (by kernel_rfl) Try.func7 (by kernel_rfl)
    (of_decide_eq_true (by kernel_rfl)) (by unfold Func.isWrapper; first | (rw [if_pos (by decide +kernel)]; kernel_rfl) | (rw [if_neg (by decide +kernel)]; exact ⟨rfl, rfl⟩))
    (fun os started H enc _ => law_lift (C := Try.checked) (s := Rows.vaultFindsSpec) 7 Try.f7 4 own_ started (by kernel_rfl) Try.func7 laid_ (by kernel_rfl) rfl (by kernel_rfl) und4
      (fun ds h => by
        match ds, h with
        | [d0, d1, d2], _ => rfl)
      (ChangeSpec.witness6 (enc := enc) (C := Try.checked) false ⟨#[], #[.slice none 0 0, .int .i64 0, .slice none 0 0], []⟩ 8 (by kernel_rfl) (by kernel_rfl) (by kernel_rfl) (by kernel_rfl))
      (fun W args hrd => by
        obtain ⟨sa, sc, so, i, pa, pc, ps, rfl, sh, ph⟩ := open_finds hrd
        exact (vaultFinds_law sa sc so i pa pc ps W sh ph).mono fun e W' ⟨he, hh⟩ => ⟨he, hh.chg⟩))
theorem vaultSynced_holds : Rows.VaultSyncedSaid :=
  OpenClaim.holds_of_wide 8 Try.f8 rfl rfl rfl rfl rfl rfl rfl ⟨rfl, rfl, rfl, rfl, rfl⟩ rfl rfl rfl rfl rfl (by kernel_rfl) Try.func8 (by kernel_rfl)
    (of_decide_eq_true (by kernel_rfl)) (by unfold Func.isWrapper; first | (rw [if_pos (by decide +kernel)]; kernel_rfl) | (rw [if_neg (by decide +kernel)]; exact ⟨rfl, rfl⟩))
    (fun os started H enc _ => law_lift (C := Try.checked) (s := Rows.vaultSyncedSpec) 8 Try.f8 4 own_ started (by kernel_rfl) Try.func8 laid_ (by kernel_rfl) rfl (by kernel_rfl) und4
      (fun ds h => by
        match ds, h with
        | [d0, d1, d2], _ => rfl)
      (ChangeSpec.witness6 (enc := enc) (C := Try.checked) false ⟨#[], #[.slice none 0 0, .int .i64 0, .slice none 0 0], []⟩ 8 (by kernel_rfl) (by kernel_rfl) (by kernel_rfl) (by kernel_rfl))
      (fun W args hrd => by
        obtain ⟨sa, sc, so, i, pa, pc, ps, rfl, sh, ph⟩ := open_finds hrd
        exact (vaultSynced_law sa sc so i pa pc ps W sh ph).mono fun e W' ⟨he, hh⟩ => ⟨he, hh.chg⟩))
end Go.Proofs.Ytnmlkecmokhhhaa
