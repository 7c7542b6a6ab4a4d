/- Vault: a call, by the program; it is the document's. -/
import Derived.Test.YtnmlkecmokhhhaaUp
set_option linter.unusedVariables false
set_option linter.unusedSimpArgs false
set_option maxRecDepth 100000
namespace Go.Proofs.Ytnmlkecmokhhhaa
open Go Go.Vc Go.Vault

def doP (d : Dk) (o : Op) : Dk × List UInt8 × Int :=
  if o.kind = 0 then ((d.create o.name).1, [], (d.create o.name).2) else
  if o.kind = 1 then ((d.write o.name o.n o.b).1, [], (d.write o.name o.n o.b).2) else
  if o.kind = 2 then (d, (d.read o.name o.n).1, (d.read o.name o.n).2) else
  if o.kind = 3 then ((d.sync o.name).1, [], (d.sync o.name).2) else
  if o.kind = 4 then ((d.rename o.name o.to).1, [], (d.rename o.name o.to).2) else
  if o.kind = 5 then ((d.remove o.name).1, [], (d.remove o.name).2) else
  if o.kind = 6 then (d.syncNames.1, [], d.syncNames.2) else
  if o.kind = 7 then (d.arm o.n, [], 0) else
  if o.kind = 8 then (d.deny o.n, [], 0) else
  if o.kind = 9 then (d.crash o.n o.picks, [], 0) else (d, [], 0)

/-! ### It is the document's -/
theorem dies_change (d : Dk) (c : Ch) : (d.change c).dies = d.dies.change c := by
  unfold Dk.dies Dk.change; split <;> rfl
theorem dies_put (d : Dk) (k : Nat) (f : Fl) : (d.put k f).dies = d.dies.put k f := by
  unfold Dk.dies Dk.put; split <;> rfl
theorem dies_files (d : Dk) (l : List Fl) : ({ d with files := l } : Dk).dies = { d.dies with files := l } := by
  unfold Dk.dies; split <;> rfl
theorem dies_both (d : Dk) (l : List Fl) (c : Ch) : (Dk.change { d with files := l } c).dies = Dk.change { d.dies with files := l } c := by
  have h1 : ∀ q : Dk, 0 < q.armed → q.dies = { q with armed := q.armed - 1, dead := decide (q.armed - 1 = 0) } := fun q h => if_pos h
  have h2 : ∀ q : Dk, ¬ 0 < q.armed → q.dies = q := fun q h => if_neg h
  by_cases h0 : 0 < d.armed
  · rw [h1 d h0, h1 (Dk.change { d with files := l } c) h0]; rfl
  · rw [h2 d h0, h2 (Dk.change { d with files := l } c) h0]
theorem dies_file (d : Dk) (k : Nat) : d.dies.file k = d.file k := by
  unfold Dk.dies; split <;> rfl
theorem dies_find (d : Dk) (n : ByteArray) : d.dies.find n = d.find n := by
  unfold Dk.dies; split <;> rfl
theorem dies_fs (d : Dk) : d.dies.files = d.files := by
  unfold Dk.dies; split <;> rfl
theorem dies_names (d : Dk) : d.dies.names = d.names := by
  unfold Dk.dies; split <;> rfl
theorem den_denies (d : Dk) (o : Op) (h : o.kind = 1 ∨ o.kind = 3) : Dk.den d o = d.denies := by
  unfold Dk.den
  by_cases h0 : 0 < d.denied
  · rw [if_pos ⟨h, h0⟩]
  · rw [if_neg (fun h2 => h0 h2.2)]
    have : d.denied = 0 := by omega
    obtain ⟨_, _, _, _, _, _, _⟩ := d
    simp only [Dk.denies] at this ⊢
    rw [this]
theorem den_same (d : Dk) (o : Op) (h : ¬(o.kind = 1 ∨ o.kind = 3)) : Dk.den d o = d := by
  unfold Dk.den
  rw [if_neg (fun h2 => h h2.1)]
theorem code_eq (d d' : Dk) (x y : Dk × List UInt8 × Int) (h : d.dead = true → x = (d', [], 93)) (h2 : d.dead = false → x = (d', [], 0)) (hd : d'.dead = d.dead) : x = (d', [], d'.code) := by
  cases hb : d.dead with
  | true => rw [h hb, Dk.code, hd, hb]; rfl
  | false => rw [h2 hb, Dk.code, hd, hb]; rfl
theorem doP_doR (d : Dk) (o : Op) : doP d o = doR d o := by
  by_cases k7 : o.kind = 7
  · simp [doP, doR, k7]
  by_cases k8 : o.kind = 8
  · simp [doP, doR, k8]
  by_cases k9 : o.kind = 9
  · simp [doP, doR, k9]
  by_cases kr : o.kind < 0 ∨ 9 < o.kind
  · have e : doR d o = (d, [], 0) := by simp only [doR, if_neg k7, if_neg k8, if_neg k9, if_pos kr]
    rw [e, doP, if_neg (by omega), if_neg (by omega), if_neg (by omega), if_neg (by omega), if_neg (by omega), if_neg (by omega), if_neg (by omega), if_neg k7, if_neg k8, if_neg k9]
  have e : doR d o = (if why d o ≠ 0 then (d, [], why d o) else
      if o.kind = 2 then (d, (d.file ((d.find o.name).getD 0)).now.getD o.n.toNat [], 0) else
      if o.kind = 4 ∧ o.name = o.to then (d, [], 0) else
      if (o.kind = 1 ∨ o.kind = 3) ∧ d.refused = true then (d.denies, [], 95) else
      if (Dk.den d o).dies.dead then ((if o.kind ≠ 3 ∧ o.kind ≠ 6 then doesD (Dk.den d o).dies o else (Dk.den d o).dies), [], 93) else
      (doesD (Dk.den d o).dies o, [], 0)) := by simp only [doR, if_neg k7, if_neg k8, if_neg k9, if_neg kr]
  rw [e]
  by_cases hd : d.dead = true
  · have hw : why d o = 93 := by simp [why, hd]
    rw [hw, if_pos (by omega)]
    have h06 : o.kind = 0 ∨ o.kind = 1 ∨ o.kind = 2 ∨ o.kind = 3 ∨ o.kind = 4 ∨ o.kind = 5 ∨ o.kind = 6 := by omega
    rcases h06 with h | h | h | h | h | h | h <;> simp [doP, h, Dk.create, Dk.write, Dk.read, Dk.sync, Dk.rename, Dk.remove, Dk.syncNames, hd]
  have hd : d.dead = false := by simpa using hd
  have h06 : o.kind = 0 ∨ o.kind = 1 ∨ o.kind = 2 ∨ o.kind = 3 ∨ o.kind = 4 ∨ o.kind = 5 ∨ o.kind = 6 := by omega
  rcases h06 with h | h | h | h | h | h | h
  · -- create
    have hp : doP d o = ((d.create o.name).1, [], (d.create o.name).2) := by simp only [doP, if_pos h]
    rw [hp]
    cases hr : Vault.right o.name with
    | false =>
      have hw : why d o = 92 := by simp [why, hd, h, hr]
      rw [hw, if_pos (by omega)]
      simp [Dk.create, hd, hr]
    | true =>
      have hw : why d o = 0 := by simp [why, hd, h, hr]
      rw [hw, if_neg (by omega), if_neg (by omega), if_neg (by omega), if_neg (by omega), den_same d o (by omega)]
      simp only [if_pos (show o.kind ≠ 3 ∧ o.kind ≠ 6 by omega)]
      have hD : doesD d.dies o = (Dk.change { d with files := d.files ++ [Fl.none] } (.create o.name d.files.length)).dies := by
        rw [doesD, if_pos h]
        rw [dies_both, dies_fs]
      rw [hD]
      have hdd : (Dk.change { d with files := d.files ++ [Fl.none] } (.create o.name d.files.length)).dies.dead = d.dies.dead := by rw [dies_both]; rfl
      have hc : d.create o.name = ((Dk.change { d with files := d.files ++ [Fl.none] } (.create o.name d.files.length)).dies, (Dk.change { d with files := d.files ++ [Fl.none] } (.create o.name d.files.length)).dies.code) := by simp [Dk.create, hd, hr]
      rw [hc]
      refine (code_eq d.dies _ _ (d, [], 0) (fun hb => ?_) (fun hb => ?_) hdd).symm
      · rw [if_pos hb]
      · rw [if_neg (by simp [hb])]
  · -- write
    have hp : doP d o = ((d.write o.name o.n o.b).1, [], (d.write o.name o.n o.b).2) := by simp only [doP]; rw [if_neg (by omega), if_pos h]
    rw [hp]
    cases hk : d.find o.name with
    | none =>
      have hw : why d o = 90 := by simp [why, hd, h, hk]
      rw [hw, if_pos (by omega)]
      simp [Dk.write, hd, hk]
    | some k =>
      have hsz : d.size o.name = d.len k := by simp only [Dk.size, hk]
      by_cases hpl : o.n < 0 ∨ d.len k < o.n ∨ 512 < o.b.length
      · have hw : why d o = 91 := by
          simp only [why, hd, hsz, Bool.false_eq_true, if_false]
          rw [if_neg (by omega), if_neg (by simp [hk]), if_pos ⟨h, hpl⟩]
        rw [hw, if_pos (by omega)]
        simp only [Dk.write, hd, hk, Bool.false_eq_true, if_false, if_pos hpl]
      by_cases hfu : o.n = d.len k ∧ d.room ≤ d.used
      · have hw : why d o = 94 := by
          simp only [why, hd, hsz, Bool.false_eq_true, if_false]
          rw [if_neg (by omega), if_neg (by simp [hk]), if_neg (fun h2 => hpl h2.2), if_pos ⟨h, hfu⟩]
        rw [hw, if_pos (by omega)]
        simp only [Dk.write, hd, hk, Bool.false_eq_true, if_false, if_neg hpl, if_pos hfu]
      have hw : why d o = 0 := by
        simp only [why, hd, hsz, Bool.false_eq_true, if_false]
        rw [if_neg (by omega), if_neg (by simp [hk]), if_neg (fun h2 => hpl h2.2), if_neg (fun h2 => hfu h2.2), if_neg (by omega), if_neg (by omega)]
      rw [hw, if_neg (by omega), if_neg (by omega), if_neg (by omega)]
      cases hr : d.refused with
      | true =>
        rw [if_pos ⟨.inl h, rfl⟩]
        simp only [Dk.write, hd, hk, Bool.false_eq_true, if_false, if_neg hpl, if_neg hfu, hr, if_true]
      | false =>
        rw [if_neg (by simp), den_denies d o (.inl h)]
        simp only [if_pos (show o.kind ≠ 3 ∧ o.kind ≠ 6 by omega)]
        have hD : doesD d.denies.dies o = (d.denies.put k ((d.file k).write o.n.toNat o.b)).dies := by
          rw [doesD, if_neg (by omega), if_pos h, dies_find]
          have : d.denies.find o.name = some k := hk
          rw [this, dies_put]
          show d.denies.dies.put k ((d.denies.dies.file k).write o.n.toNat o.b) = _
          rw [dies_file]; rfl
        rw [hD]
        have hdd : (d.denies.put k ((d.file k).write o.n.toNat o.b)).dies.dead = d.denies.dies.dead := by rw [dies_put]; rfl
        have hc : d.write o.name o.n o.b = ((d.denies.put k ((d.file k).write o.n.toNat o.b)).dies, (d.denies.put k ((d.file k).write o.n.toNat o.b)).dies.code) := by
          simp only [Dk.write, hd, hk, Bool.false_eq_true, if_false, if_neg hpl, if_neg hfu, hr]
        rw [hc]
        refine (code_eq d.denies.dies _ _ (d, [], 0) (fun hb => ?_) (fun hb => ?_) hdd).symm
        · rw [if_pos hb]
        · rw [if_neg (by simp [hb])]
  · -- read
    have hp : doP d o = (d, (d.read o.name o.n).1, (d.read o.name o.n).2) := by simp only [doP]; rw [if_neg (by omega), if_neg (by omega), if_pos h]
    rw [hp]
    cases hk : d.find o.name with
    | none =>
      have hw : why d o = 90 := by simp [why, hd, h, hk]
      rw [hw, if_pos (by omega)]
      simp [Dk.read, hd, hk]
    | some k =>
      have hsz : d.size o.name = d.len k := by simp only [Dk.size, hk]
      by_cases hpl : o.n < 0 ∨ d.len k ≤ o.n
      · have hw : why d o = 91 := by
          simp only [why, hd, hsz, Bool.false_eq_true, if_false]
          rw [if_neg (by omega), if_neg (by simp [hk]), if_neg (by omega), if_neg (by omega), if_pos ⟨h, hpl⟩]
        rw [hw, if_pos (by omega)]
        simp only [Dk.read, hd, hk, Bool.false_eq_true, if_false, if_pos hpl]
      have hw : why d o = 0 := by
        simp only [why, hd, hsz, Bool.false_eq_true, if_false]
        rw [if_neg (by omega), if_neg (by simp [hk]), if_neg (by omega), if_neg (by omega), if_neg (fun h2 => hpl h2.2), if_neg (by omega)]
      rw [hw, if_neg (by omega), if_pos h]
      simp only [Dk.read, hd, hk, Bool.false_eq_true, if_false, if_neg hpl, Option.getD_some]
  · -- sync
    have hp : doP d o = ((d.sync o.name).1, [], (d.sync o.name).2) := by simp only [doP]; rw [if_neg (by omega), if_neg (by omega), if_neg (by omega), if_pos h]
    rw [hp]
    cases hk : d.find o.name with
    | none =>
      have hw : why d o = 90 := by simp [why, hd, h, hk]
      rw [hw, if_pos (by omega)]
      simp [Dk.sync, hd, hk]
    | some k =>
      have hw : why d o = 0 := by
        simp only [why, hd, Bool.false_eq_true, if_false]
        rw [if_neg (by omega), if_neg (by simp [hk]), if_neg (by omega), if_neg (by omega), if_neg (by omega), if_neg (by omega)]
      rw [hw, if_neg (by omega), if_neg (by omega), if_neg (by omega)]
      cases hr : d.refused with
      | true =>
        rw [if_pos ⟨.inr h, rfl⟩]
        simp [Dk.sync, hd, hk, hr]
      | false =>
        rw [if_neg (by simp), den_denies d o (.inr h)]
        simp only [if_neg (show ¬(o.kind ≠ 3 ∧ o.kind ≠ 6) by omega)]
        have hD : doesD d.denies.dies o = d.denies.dies.put k (d.file k).sync := by
          rw [doesD, if_neg (by omega), if_neg (by omega), if_pos h, dies_find]
          have : d.denies.find o.name = some k := hk
          rw [this]
          show d.denies.dies.put k (d.denies.dies.file k).sync = _
          rw [dies_file]; rfl
        rw [hD]
        cases hb : d.denies.dies.dead with
        | true => simp [Dk.sync, hd, hk, hr, hb]
        | false => simp [Dk.sync, hd, hk, hr, hb]
  · -- rename
    have hp : doP d o = ((d.rename o.name o.to).1, [], (d.rename o.name o.to).2) := by simp only [doP]; rw [if_neg (by omega), if_neg (by omega), if_neg (by omega), if_neg (by omega), if_pos h]
    rw [hp]
    cases hk : d.find o.name with
    | none =>
      have hw : why d o = 90 := by simp [why, hd, h, hk]
      rw [hw, if_pos (by omega)]
      simp [Dk.rename, hd, hk]
    | some k =>
      cases hr : Vault.right o.to with
      | false =>
        have hw : why d o = 92 := by
          simp only [why, hd, Bool.false_eq_true, if_false]
          rw [if_neg (by omega), if_neg (by simp [hk]), if_neg (by omega), if_neg (by omega), if_neg (by omega), if_pos ⟨h, hr⟩]
        rw [hw, if_pos (by omega)]
        simp [Dk.rename, hd, hk, hr]
      | true =>
        have hw : why d o = 0 := by
          simp only [why, hd, Bool.false_eq_true, if_false]
          rw [if_neg (by omega), if_neg (by simp [hk]), if_neg (by omega), if_neg (by omega), if_neg (by omega), if_neg (by simp [hr])]
        rw [hw, if_neg (by omega), if_neg (by omega)]
        by_cases hs : o.name = o.to
        · rw [if_pos ⟨h, hs⟩]
          simp only [Dk.rename, hd, hk, hr, Bool.false_eq_true, if_false, Bool.not_true, if_pos hs]
        · rw [if_neg (fun h2 => hs h2.2), if_neg (by omega), den_same d o (by omega)]
          simp only [if_pos (show o.kind ≠ 3 ∧ o.kind ≠ 6 by omega)]
          have hD : doesD d.dies o = (d.change (.rename o.name o.to k)).dies := by
            rw [doesD, if_neg (by omega), if_neg (by omega), if_neg (by omega), if_pos h, dies_find, hk, dies_change]
          rw [hD]
          have hdd : (d.change (.rename o.name o.to k)).dies.dead = d.dies.dead := by rw [dies_change]; rfl
          have hc : d.rename o.name o.to = ((d.change (.rename o.name o.to k)).dies, (d.change (.rename o.name o.to k)).dies.code) := by
            simp only [Dk.rename, hd, hk, hr, Bool.false_eq_true, if_false, Bool.not_true, if_neg hs]
          rw [hc]
          refine (code_eq d.dies _ _ (d, [], 0) (fun hb => ?_) (fun hb => ?_) hdd).symm
          · rw [if_pos hb]
          · rw [if_neg (by simp [hb])]
  · -- remove
    have hp : doP d o = ((d.remove o.name).1, [], (d.remove o.name).2) := by simp only [doP]; rw [if_neg (by omega), if_neg (by omega), if_neg (by omega), if_neg (by omega), if_neg (by omega), if_pos h]
    rw [hp]
    cases hk : d.find o.name with
    | none =>
      have hw : why d o = 90 := by simp [why, hd, h, hk]
      rw [hw, if_pos (by omega)]
      simp [Dk.remove, hd, hk]
    | some k =>
      have hw : why d o = 0 := by
        simp only [why, hd, Bool.false_eq_true, if_false]
        rw [if_neg (by omega), if_neg (by simp [hk]), if_neg (by omega), if_neg (by omega), if_neg (by omega), if_neg (by omega)]
      rw [hw, if_neg (by omega), if_neg (by omega), if_neg (by omega), if_neg (by omega), den_same d o (by omega)]
      simp only [if_pos (show o.kind ≠ 3 ∧ o.kind ≠ 6 by omega)]
      have hD : doesD d.dies o = (d.change (.remove o.name)).dies := by
        rw [doesD, if_neg (by omega), if_neg (by omega), if_neg (by omega), if_neg (by omega), if_pos h, dies_change]
      rw [hD]
      have hdd : (d.change (.remove o.name)).dies.dead = d.dies.dead := by rw [dies_change]; rfl
      have hc : d.remove o.name = ((d.change (.remove o.name)).dies, (d.change (.remove o.name)).dies.code) := by simp [Dk.remove, hd, hk]
      rw [hc]
      refine (code_eq d.dies _ _ (d, [], 0) (fun hb => ?_) (fun hb => ?_) hdd).symm
      · rw [if_pos hb]
      · rw [if_neg (by simp [hb])]
  · -- sync names
    have hp : doP d o = (d.syncNames.1, [], d.syncNames.2) := by simp only [doP]; rw [if_neg (by omega), if_neg (by omega), if_neg (by omega), if_neg (by omega), if_neg (by omega), if_neg (by omega), if_pos h]
    rw [hp]
    have hw : why d o = 0 := by
      simp only [why, hd, Bool.false_eq_true, if_false]
      rw [if_neg (by omega), if_neg (by omega), if_neg (by omega), if_neg (by omega), if_neg (by omega), if_neg (by omega)]
    rw [hw, if_neg (by omega), if_neg (by omega), if_neg (by omega), if_neg (by omega), den_same d o (by omega)]
    simp only [if_neg (show ¬(o.kind ≠ 3 ∧ o.kind ≠ 6) by omega)]
    have hD : doesD d.dies o = { d.dies with firm := d.names, chs := [] } := by
      rw [doesD, if_neg (by omega), if_neg (by omega), if_neg (by omega), if_neg (by omega), if_neg (by omega), if_pos h, dies_names]
    rw [hD]
    cases hb : d.dies.dead with
    | true => simp [Dk.syncNames, hd, hb]
    | false => simp [Dk.syncNames, hd, hb]

/-! ### How great it grows -/
end Go.Proofs.Ytnmlkecmokhhhaa
namespace Go.Vault
open Go Go.Vc
structure Dk.Fit (d : Dk) (N : Nat) : Prop where
  files : d.files.length ≤ N
  now : ∀ f ∈ d.files, f.now.length ≤ N
  names : ∀ M, (ons d.firm (d.chs.take M)).length ≤ N
  chs : d.chs.length ≤ N
end Go.Vault
namespace Go.Proofs.Ytnmlkecmokhhhaa
open Go Go.Vc Go.Vault
theorem _root_.Go.Vault.Dk.Fit.few {d : Dk} {N : Nat} (h : d.Fit N) : d.Few N := ⟨h.files, h.now, by have := h.names 0; simpa [ons] using this, h.chs⟩
theorem _root_.Go.Vault.Dk.Fit.nl {d : Dk} {N : Nat} (h : d.Fit N) : d.names.length ≤ N := by
  have := h.names d.chs.length
  rwa [List.take_length] at this
theorem _root_.Go.Vault.Dk.Fit.mono {d : Dk} {N M : Nat} (h : d.Fit N) (hm : N ≤ M) : d.Fit M := ⟨by have := h.files; omega, fun f hf => by have := h.now f hf; omega, fun m => by have := h.names m; omega, by have := h.chs; omega⟩
theorem sum_le {l : List Nat} {N : Nat} (h : ∀ x ∈ l, x ≤ N) : l.sum ≤ l.length * N := by
  induction l with
  | nil => simp
  | cons x r ih =>
    have h1 := h x (.head _)
    have h2 := ih fun y hy => h y (.tail _ hy)
    simp only [List.sum_cons, List.length_cons, Nat.add_mul, Nat.one_mul]; omega
theorem Dk.len_le {d : Dk} {N : Nat} (h : ∀ f ∈ d.files, f.now.length ≤ N) (k : Nat) : d.len k ≤ N := by
  unfold Dk.len Dk.file
  rw [List.getD_eq_getElem?_getD]
  cases hk : d.files[k]? with
  | none => simp [Fl.none]
  | some f => exact h f (List.mem_of_getElem? hk)
theorem _root_.Go.Vault.Dk.Fit.used {d : Dk} {N : Nat} (h : d.Fit N) (hN : N ≤ 1000000) : (d.used : Int) ≤ 9223372036854775807 := by
  have h1 := sum_le (l := d.names.map fun p => d.len p.file) (N := N) fun x hx => by
    obtain ⟨p, _, rfl⟩ := List.mem_map.1 hx
    exact Dk.len_le h.now _
  rw [List.length_map] at h1
  have h2 := Nat.mul_le_mul h.nl (Nat.le_refl N)
  have h3 := Nat.mul_le_mul hN hN
  have : d.used ≤ 1000000 * 1000000 := Nat.le_trans h1 (Nat.le_trans h2 h3)
  omega
theorem since_len {f : Fl} (h : f.Ok) : f.since.length ≤ f.now.length := by
  have : ∀ (l : List Nat) (lo N : Nat), l.Pairwise (· < ·) → (∀ n ∈ l, lo ≤ n ∧ n < N) → lo ≤ N → l.length ≤ N - lo := by
    intro l
    induction l with
    | nil => intro lo N _ _ _; simp
    | cons x r ih =>
      intro lo N hs hb hlo
      have hp := List.pairwise_cons.1 hs
      have hx := hb x (.head _)
      have := ih (x + 1) N hp.2 (fun n hn => ⟨hp.1 n hn, (hb n (.tail _ hn)).2⟩) (by omega)
      simp only [List.length_cons]; omega
  have := this f.since 0 f.now.length h.since (fun n hn => ⟨Nat.zero_le _, h.below n hn⟩) (Nat.zero_le _)
  omega
theorem _root_.Go.Vault.Dk.Fit.since {d : Dk} {N : Nat} (h : d.Fit N) (hok : d.Ok) (hN : N ≤ 1000000) (k : Nat) : (sinceTot (d.files.take k) : Int) ≤ 4611686018427387904 := by
  have h1 := sum_le (l := (d.files.take k).map fun f => f.since.length) (N := N) fun x hx => by
    obtain ⟨f, hf, rfl⟩ := List.mem_map.1 hx
    have hf := List.mem_of_mem_take hf
    have := since_len (hok.files f hf)
    have := h.now f hf
    omega
  rw [List.length_map, List.length_take] at h1
  have h2 : min k d.files.length * N ≤ 1000000 * 1000000 := Nat.mul_le_mul (by have := h.files; omega) hN
  have h3 : sinceTot (d.files.take k) ≤ 1000000 * 1000000 := Nat.le_trans h1 h2
  omega
theorem Fit.change {d : Dk} {N : Nat} (h : d.Fit N) (c : Ch) : (d.change c).Fit (N + 1) := by
  refine ⟨by have := h.files; show d.files.length ≤ _; omega, fun f hf => by have := h.now f hf; omega, fun M => ?_, by have := h.chs; simp only [Dk.change, List.length_append, List.length_singleton]; omega⟩
  show (ons d.firm ((d.chs ++ [c]).take M)).length ≤ _
  by_cases hM : M ≤ d.chs.length
  · rw [List.take_append_of_le_length hM]; have := h.names M; omega
  · rw [List.take_of_length_le (by simp; omega)]
    have e : ons d.firm (d.chs ++ [c]) = c.on d.names := by simp [ons, Dk.names]
    rw [e]
    have := c.len d.names
    have := h.nl
    omega
theorem Fit.dies {d : Dk} {N : Nat} (h : d.Fit N) : d.dies.Fit N := by
  obtain ⟨a, b, e⟩ := dies_eq d
  rw [e]; exact ⟨h.files, h.now, h.names, h.chs⟩
theorem Fit.denies {d : Dk} {N : Nat} (h : d.Fit N) : d.denies.Fit N := ⟨h.files, h.now, h.names, h.chs⟩
theorem Fit.put {d : Dk} {N : Nat} (h : d.Fit N) {k : Nat} {f : Fl} (hf : f.now.length ≤ N + 1) : (d.put k f).Fit (N + 1) := by
  refine ⟨by have := h.files; simp only [Dk.put, List.length_set]; omega, fun g hg => ?_, fun M => by have := h.names M; show (ons d.firm (d.chs.take M)).length ≤ _; omega, by have := h.chs; show d.chs.length ≤ _; omega⟩
  rcases List.mem_or_eq_of_mem_set hg with hg | rfl
  · have := h.now g hg; omega
  · exact hf
theorem Fit.file {d : Dk} {N : Nat} (h : d.Fit N) (k : Nat) : (d.file k).now.length ≤ N := Dk.len_le h.now k
theorem Fit.crash {d : Dk} {N : Nat} (h : d.Fit N) (hok : d.Ok) (n : Int) (ps : List Int) : (d.crash n ps).Fit N := by
  refine ⟨by simp only [Dk.crash, foundF_len]; exact h.files, fun f hf => ?_, fun M => ?_, by simp [Dk.crash]⟩
  · obtain ⟨g, hg, qs, rfl⟩ := foundF_mem hf
    have := (found_ok (hok.files g hg) qs).2
    have := h.now g hg
    omega
  · show (ons (ons d.firm (d.chs.take _)) (([] : List Ch).take M)).length ≤ N
    rw [List.take_nil]
    exact h.names _
theorem Fit.sub {d : Dk} {N : Nat} (h : d.Fit N) (l : List Nm) (hl : l.length ≤ N) : ({ d with firm := l, chs := [] } : Dk).Fit N :=
  ⟨h.files, h.now, fun M => by show (ons l (([] : List Ch).take M)).length ≤ N; rw [List.take_nil]; exact hl, by simp⟩
theorem doP_fit {d : Dk} {N : Nat} (h : d.Fit N) (hok : d.Ok) (o : Op) : (doP d o).1.Fit (N + 1) := by
  have hm := h.mono (Nat.le_succ N)
  unfold doP
  split
  · unfold Dk.create
    split
    · exact hm
    · split
      · exact hm
      · refine Fit.dies ?_
        refine Dk.Fit.mono (N := N + 1) ?_ (by omega)
        have h1 := Fit.change h (.create o.name d.files.length)
        refine ⟨by simp only [Dk.change, List.length_append, List.length_singleton]; have := h.files; omega, fun f hf => ?_, h1.names, h1.chs⟩
        rcases List.mem_append.1 hf with hf | hf
        · have := h.now f hf; omega
        · rw [List.mem_singleton.1 hf]; simp [Fl.none]
  · split
    · unfold Dk.write
      split
      · exact hm
      · split
        · exact hm
        · split
          · exact hm
          · split
            · exact hm
            · split
              · exact Fit.denies hm
              · refine Fit.dies (Fit.put (Fit.denies h) ?_)
                rename_i k _ _ _ _
                have := Fit.file h k
                simp only [Fl.write]
                split
                · simp; omega
                · simp; omega
    · split
      · exact hm
      · split
        · unfold Dk.sync
          split
          · exact hm
          · split
            · exact hm
            · split
              · exact Fit.denies hm
              · dsimp only
                split
                · exact Fit.dies (Fit.denies hm)
                · rename_i k _ _ _
                  exact Fit.put (Fit.dies (Fit.denies h)) (by have := Fit.file h k; simp only [Fl.sync]; omega)
        · split
          · unfold Dk.rename
            split
            · exact hm
            · split
              · exact hm
              · split
                · exact hm
                · split
                  · exact hm
                  · exact Fit.dies (Fit.change h _)
          · split
            · unfold Dk.remove
              split
              · exact hm
              · split
                · exact hm
                · exact Fit.dies (Fit.change h _)
            · split
              · unfold Dk.syncNames
                split
                · exact hm
                · dsimp only
                  split
                  · exact Fit.dies hm
                  · exact Fit.sub (Fit.dies hm) _ (by have := h.nl; omega)
              · split
                · exact ⟨hm.files, hm.now, hm.names, hm.chs⟩
                · split
                  · exact ⟨hm.files, hm.now, hm.names, hm.chs⟩
                  · split
                    · exact Fit.crash hm hok _ _
                    · exact hm
theorem new_fit (room : Int) (N : Nat) : (Dk.new room).Fit N := ⟨by simp [Dk.new], by simp [Dk.new], fun M => by simp [Dk.new, ons], by simp [Dk.new]⟩

/-! ### A call -/
def doesPost (x : DW) (d : Dk) (w : World) (o : Op) (r : Dk × List UInt8 × Int) (e : Ending) (w' : World) : Prop :=
  ∃ x' : DW, (o.kind ≠ 9 → x'.b = x.b) ∧ e = .returned (.tuple #[.pointer (some ⟨x'.b, 0, none⟩), .agg #[sv r.2.1, .int .i64 r.2.2]]) ∧ x'.Ok r.1 ∧ Hp (feet (dkL x d)) w w' (dkL x' r.1)
set_option maxHeartbeats 4000000 in
theorem does_spec2 (x : DW) (d : Dk) (hok : x.Ok d) {N : Nat} (fit : d.Fit N) (hN : N ≤ 1000000) {G0 : List Nat} {ow : OW} {o : Op} (w : World) (ho : ∀ W, Chg (feet (dkL x d)) w W → OD G0 W ow o) (harm : o.kind = 7 → o.n ≤ 9223372036854775807) (hden : o.kind = 8 → o.n ≤ 9223372036854775807) (st : Std w (dkL x d)) :
    Calls Go.Proofs.Try.prog 12 #[.pointer (some ⟨x.b, 0, none⟩), ow.val o] w (doesPost x d w o (doP d o)) := by
  apply does.ok; unfold does.vc
  have few := fit.few
  have hu := fit.used hN
  have H := Hp.startL st
  unfold doesPost
  generalize hB : feet (dkL x d) = B at H ho ⊢
  intro bo w1 hn; replace H := H.new (by exact ⟨rfl, rfl, rfl, rfl⟩) hn; clear hn
  intro ba w2 hn; replace H := H.new (by exact ⟨rfl, rfl, rfl, rfl⟩) hn; clear hn
  have mo : Asn.blk bo [.int .i64 o.kind, .int .i64 o.n, .string o.name, .string o.to, .slice ow.ba o.b.length ow.bc, .slice ow.pa o.picks.length ow.pc] 29 ∈ Asn.blk ba [.string ⟨#[]⟩, .int .i64 0] 32 :: .blk bo [.int .i64 o.kind, .int .i64 o.n, .string o.name, .string o.to, .slice ow.ba o.b.length ow.bc, .slice ow.pa o.picks.length ow.pc] 29 :: dkL x d := .tail _ (.head _)
  ((repeat apply Exists.intro); first | refine ⟨H.ld (by exact ⟨rfl, rfl, rfl, rfl⟩) (by first | exact sclInt | exact sclBool | exact sclStr | exact rsclN | exact rsclF | exact rsclNN | exact rsclSS | exact rsclSI | exact rsclU) (by repeat first | exact .head _ | refine .tail _ ?_) rfl, ?_⟩ | refine ⟨H.ldA (by exact ⟨rfl, rfl, rfl, rfl⟩) (by first | exact raggD | exact raggF | exact raggO | exact raggN | exact raggA) (by repeat first | exact .head _ | refine .tail _ ?_) rfl rfl, ?_⟩)
  have hS : Std w2 (dkL x d) := H.drop.drop.std
  have hO2 : ∀ W, Chg (feet (dkL x d)) w2 W → OD G0 W ow o := fun W hW => ho W (H.chg.trans hW (fun k hk => hk) fun k hk => .inl (by rw [← hB]; exact hk))
  have hO3 := hO2 w2 (Chg.refl _ _)
  -- what all do behind
  have fin : ∀ (w3 : World) (y : DW) (g : Dk) (b : List UInt8) (c : Int), y.Ok g → (o.kind ≠ 9 → y.b = x.b) → Hp B w w3 (.blk ba [.string ⟨#[]⟩, .int .i64 0] 32 :: dkL y g) → (doP d o) = (g, b, c) →
      ∃ w1, St Go.Proofs.Try.prog 32 w3 ⟨ba, 0, none⟩ (.agg #[.string ⟨b.toArray⟩, .int .i64 c]) w1 ∧ ∃ s i, Ld Go.Proofs.Try.prog 32 w1 ⟨ba, 0, none⟩ (.agg #[.string s, .int .i64 i]) ∧
        ∃ x' : DW, (o.kind ≠ 9 → x'.b = x.b) ∧ Ending.returned (.tuple #[.pointer (some ⟨y.b, 0, none⟩), .agg #[.string s, .int .i64 i]]) = .returned (.tuple #[.pointer (some ⟨x'.b, 0, none⟩), .agg #[sv (doP d o).2.1, .int .i64 (doP d o).2.2]]) ∧ x'.Ok (doP d o).1 ∧ Hp B w w1 (dkL x' (doP d o).1) := by
    intro w3 y g b c hy hyx H he
    rw [he]
    refine Hp.stA (vs := [.string ⟨b.toArray⟩, .int .i64 c]) H (by exact ⟨rfl, rfl, rfl, rfl⟩) raggA rfl rfl (by simp) rfl ?_
    clear H; intro w4 H
    exact ⟨_, _, H.ldA (by exact ⟨rfl, rfl, rfl, rfl⟩) raggA (.head _) rfl rfl, y, hyx, rfl, hy, H.drop⟩
  have back : ∀ {w3 : World} {M : List Asn}, Hp (feet (dkL x d)) w2 w3 M → Hp B w w3 (.blk ba [.string ⟨#[]⟩, .int .i64 0] 32 :: M) := by
    intro w3 M H'
    have H2 : Hp B w w2 (dkL x d ++ [.blk ba [.string ⟨#[]⟩, .int .i64 0] 32, .blk bo [.int .i64 o.kind, .int .i64 o.n, .string o.name, .string o.to, .slice ow.ba o.b.length ow.bc, .slice ow.pa o.picks.length ow.pc] 29]) := H.perm (List.perm_append_comm (l₁ := [_, _]))
    have H3 := (H2.useL H').perm (List.perm_append_comm (l₂ := [_, _]))
    exact H3.drop1
  refine br_dec (fun k0 => ?_) (fun k0 => ?_)
  · have e1 : doP d o = ((d.create o.name).1, [], (d.create o.name).2) := by simp only [doP, if_pos k0]
    ((repeat apply Exists.intro); first | refine ⟨H.ld (by exact ⟨rfl, rfl, rfl, rfl⟩) (by first | exact sclInt | exact sclBool | exact sclStr | exact rsclN | exact rsclF | exact rsclNN | exact rsclSS | exact rsclSI | exact rsclU) (by repeat first | exact .head _ | refine .tail _ ?_) rfl, ?_⟩ | refine ⟨H.ldA (by exact ⟨rfl, rfl, rfl, rfl⟩) (by first | exact raggD | exact raggF | exact raggO | exact raggN | exact raggA) (by repeat first | exact .head _ | refine .tail _ ?_) rfl rfl, ?_⟩)
    refine callV (create_spec x d hok (by have := fit.chs; omega) (by have := fit.files; omega) o.name w2 hS) ?_
    rintro e w3 ⟨rfl, y, hyb, hy, H'⟩
    refine ⟨_, rfl, ?_⟩
    have hf := fin w3 y _ _ _ hy (fun _ => hyb) (back H') e1
    rw [hyb] at hf
    exact hf
  refine br_dec (fun k1 => ?_) (fun k1 => ?_)
  · have e1 : doP d o = ((d.write o.name o.n o.b).1, [], (d.write o.name o.n o.b).2) := by simp only [doP, if_neg k0, if_pos k1]
    ((repeat apply Exists.intro); first | refine ⟨H.ld (by exact ⟨rfl, rfl, rfl, rfl⟩) (by first | exact sclInt | exact sclBool | exact sclStr | exact rsclN | exact rsclF | exact rsclNN | exact rsclSS | exact rsclSI | exact rsclU) (by repeat first | exact .head _ | refine .tail _ ?_) rfl, ?_⟩ | refine ⟨H.ldA (by exact ⟨rfl, rfl, rfl, rfl⟩) (by first | exact raggD | exact raggF | exact raggO | exact raggN | exact raggA) (by repeat first | exact .head _ | refine .tail _ ?_) rfl rfl, ?_⟩)
    ((repeat apply Exists.intro); first | refine ⟨H.ld (by exact ⟨rfl, rfl, rfl, rfl⟩) (by first | exact sclInt | exact sclBool | exact sclStr | exact rsclN | exact rsclF | exact rsclNN | exact rsclSS | exact rsclSI | exact rsclU) (by repeat first | exact .head _ | refine .tail _ ?_) rfl, ?_⟩ | refine ⟨H.ldA (by exact ⟨rfl, rfl, rfl, rfl⟩) (by first | exact raggD | exact raggF | exact raggO | exact raggN | exact raggA) (by repeat first | exact .head _ | refine .tail _ ?_) rfl rfl, ?_⟩)
    ((repeat apply Exists.intro); first | refine ⟨H.ld (by exact ⟨rfl, rfl, rfl, rfl⟩) (by first | exact sclInt | exact sclBool | exact sclStr | exact rsclN | exact rsclF | exact rsclNN | exact rsclSS | exact rsclSI | exact rsclU) (by repeat first | exact .head _ | refine .tail _ ?_) rfl, ?_⟩ | refine ⟨H.ldA (by exact ⟨rfl, rfl, rfl, rfl⟩) (by first | exact raggD | exact raggF | exact raggO | exact raggN | exact raggA) (by repeat first | exact .head _ | refine .tail _ ?_) rfl rfl, ?_⟩)
    refine callV (write_spec x d hok few (by omega) hu o.name o.n ow.ba ow.bc o.b w2 hS (fun W hW => (hO2 W hW).b.cells) hO3.b.nil) ?_
    rintro e w3 ⟨rfl, y, hyb, hy, H'⟩
    refine ⟨_, rfl, ?_⟩
    have hf := fin w3 y _ _ _ hy (fun _ => hyb) (back H') e1
    rw [hyb] at hf
    exact hf
  refine br_dec (fun k2 => ?_) (fun k2 => ?_)
  · have e1 : doP d o = (d, (d.read o.name o.n).1, (d.read o.name o.n).2) := by simp only [doP, if_neg k0, if_neg k1, if_pos k2]
    ((repeat apply Exists.intro); first | refine ⟨H.ld (by exact ⟨rfl, rfl, rfl, rfl⟩) (by first | exact sclInt | exact sclBool | exact sclStr | exact rsclN | exact rsclF | exact rsclNN | exact rsclSS | exact rsclSI | exact rsclU) (by repeat first | exact .head _ | refine .tail _ ?_) rfl, ?_⟩ | refine ⟨H.ldA (by exact ⟨rfl, rfl, rfl, rfl⟩) (by first | exact raggD | exact raggF | exact raggO | exact raggN | exact raggA) (by repeat first | exact .head _ | refine .tail _ ?_) rfl rfl, ?_⟩)
    ((repeat apply Exists.intro); first | refine ⟨H.ld (by exact ⟨rfl, rfl, rfl, rfl⟩) (by first | exact sclInt | exact sclBool | exact sclStr | exact rsclN | exact rsclF | exact rsclNN | exact rsclSS | exact rsclSI | exact rsclU) (by repeat first | exact .head _ | refine .tail _ ?_) rfl, ?_⟩ | refine ⟨H.ldA (by exact ⟨rfl, rfl, rfl, rfl⟩) (by first | exact raggD | exact raggF | exact raggO | exact raggN | exact raggA) (by repeat first | exact .head _ | refine .tail _ ?_) rfl rfl, ?_⟩)
    refine callV (read_spec x d hok o.name o.n w2 hS) ?_
    rintro e w3 ⟨a3, c3, rfl, H'⟩
    replace H := H.ext H'; clear H'
    simp only [List.cons_append, List.nil_append] at H
    refine ⟨_, _, _, _, rfl, ?_⟩
    replace H := H.drew
    refine ⟨⟨(d.read o.name o.n).1.toArray⟩, b2s undSU8 undU8 undString (by rw [byteCells_mk]; exact (H.ownA (.head _)).cells) (by rw [vmk_size]), ?_⟩
    exact fin w3.drew x d _ _ hok (fun _ => rfl) H.drop.drop1 e1
  refine br_dec (fun k3 => ?_) (fun k3 => ?_)
  · have e1 : doP d o = ((d.sync o.name).1, [], (d.sync o.name).2) := by simp only [doP, if_neg k0, if_neg k1, if_neg k2, if_pos k3]
    ((repeat apply Exists.intro); first | refine ⟨H.ld (by exact ⟨rfl, rfl, rfl, rfl⟩) (by first | exact sclInt | exact sclBool | exact sclStr | exact rsclN | exact rsclF | exact rsclNN | exact rsclSS | exact rsclSI | exact rsclU) (by repeat first | exact .head _ | refine .tail _ ?_) rfl, ?_⟩ | refine ⟨H.ldA (by exact ⟨rfl, rfl, rfl, rfl⟩) (by first | exact raggD | exact raggF | exact raggO | exact raggN | exact raggA) (by repeat first | exact .head _ | refine .tail _ ?_) rfl rfl, ?_⟩)
    refine callV (sync_spec x d hok few (by omega) o.name w2 hS) ?_
    rintro e w3 ⟨rfl, y, hyb, hy, H'⟩
    refine ⟨_, rfl, ?_⟩
    have hf := fin w3 y _ _ _ hy (fun _ => hyb) (back H') e1
    rw [hyb] at hf
    exact hf
  refine br_dec (fun k4 => ?_) (fun k4 => ?_)
  · have e1 : doP d o = ((d.rename o.name o.to).1, [], (d.rename o.name o.to).2) := by simp only [doP, if_neg k0, if_neg k1, if_neg k2, if_neg k3, if_pos k4]
    ((repeat apply Exists.intro); first | refine ⟨H.ld (by exact ⟨rfl, rfl, rfl, rfl⟩) (by first | exact sclInt | exact sclBool | exact sclStr | exact rsclN | exact rsclF | exact rsclNN | exact rsclSS | exact rsclSI | exact rsclU) (by repeat first | exact .head _ | refine .tail _ ?_) rfl, ?_⟩ | refine ⟨H.ldA (by exact ⟨rfl, rfl, rfl, rfl⟩) (by first | exact raggD | exact raggF | exact raggO | exact raggN | exact raggA) (by repeat first | exact .head _ | refine .tail _ ?_) rfl rfl, ?_⟩)
    ((repeat apply Exists.intro); first | refine ⟨H.ld (by exact ⟨rfl, rfl, rfl, rfl⟩) (by first | exact sclInt | exact sclBool | exact sclStr | exact rsclN | exact rsclF | exact rsclNN | exact rsclSS | exact rsclSI | exact rsclU) (by repeat first | exact .head _ | refine .tail _ ?_) rfl, ?_⟩ | refine ⟨H.ldA (by exact ⟨rfl, rfl, rfl, rfl⟩) (by first | exact raggD | exact raggF | exact raggO | exact raggN | exact raggA) (by repeat first | exact .head _ | refine .tail _ ?_) rfl rfl, ?_⟩)
    refine callV (rename_spec x d hok (by have := fit.chs; omega) o.name o.to w2 hS) ?_
    rintro e w3 ⟨rfl, y, hyb, hy, H'⟩
    refine ⟨_, rfl, ?_⟩
    have hf := fin w3 y _ _ _ hy (fun _ => hyb) (back H') e1
    rw [hyb] at hf
    exact hf
  refine br_dec (fun k5 => ?_) (fun k5 => ?_)
  · have e1 : doP d o = ((d.remove o.name).1, [], (d.remove o.name).2) := by simp only [doP, if_neg k0, if_neg k1, if_neg k2, if_neg k3, if_neg k4, if_pos k5]
    ((repeat apply Exists.intro); first | refine ⟨H.ld (by exact ⟨rfl, rfl, rfl, rfl⟩) (by first | exact sclInt | exact sclBool | exact sclStr | exact rsclN | exact rsclF | exact rsclNN | exact rsclSS | exact rsclSI | exact rsclU) (by repeat first | exact .head _ | refine .tail _ ?_) rfl, ?_⟩ | refine ⟨H.ldA (by exact ⟨rfl, rfl, rfl, rfl⟩) (by first | exact raggD | exact raggF | exact raggO | exact raggN | exact raggA) (by repeat first | exact .head _ | refine .tail _ ?_) rfl rfl, ?_⟩)
    refine callV (remove_spec x d hok (by have := fit.chs; omega) o.name w2 hS) ?_
    rintro e w3 ⟨rfl, y, hyb, hy, H'⟩
    refine ⟨_, rfl, ?_⟩
    have hf := fin w3 y _ _ _ hy (fun _ => hyb) (back H') e1
    rw [hyb] at hf
    exact hf
  refine br_dec (fun k6 => ?_) (fun k6 => ?_)
  · have e1 : doP d o = (d.syncNames.1, [], d.syncNames.2) := by simp only [doP, if_neg k0, if_neg k1, if_neg k2, if_neg k3, if_neg k4, if_neg k5, if_pos k6]
    refine callV (syncNames_spec x d hok w2 hS) ?_
    rintro e w3 ⟨rfl, y, hyb, hy, H'⟩
    refine ⟨_, rfl, ?_⟩
    have hf := fin w3 y _ _ _ hy (fun _ => hyb) (back H') e1
    rw [hyb] at hf
    exact hf
  refine br_dec (fun k7 => ?_) (fun k7 => ?_)
  · have e1 : doP d o = (d.arm o.n, [], 0) := by simp only [doP, if_neg k0, if_neg k1, if_neg k2, if_neg k3, if_neg k4, if_neg k5, if_neg k6, if_pos k7]
    ((repeat apply Exists.intro); first | refine ⟨H.ld (by exact ⟨rfl, rfl, rfl, rfl⟩) (by first | exact sclInt | exact sclBool | exact sclStr | exact rsclN | exact rsclF | exact rsclNN | exact rsclSS | exact rsclSI | exact rsclU) (by repeat first | exact .head _ | refine .tail _ ?_) rfl, ?_⟩ | refine ⟨H.ldA (by exact ⟨rfl, rfl, rfl, rfl⟩) (by first | exact raggD | exact raggF | exact raggO | exact raggN | exact raggA) (by repeat first | exact .head _ | refine .tail _ ?_) rfl rfl, ?_⟩)
    refine callV (arm_spec x d hok o.n w2 hS) ?_
    rintro e w3 ⟨rfl, H'⟩
    refine ⟨rfl, ?_⟩
    refine fin w3 x (d.arm o.n) [] 0 ⟨⟨hok.dk.room, hok.dk.files, hok.dk.firm, hok.dk.chs, hok.dk.rise, by have := harm k7; simp only [Dk.arm]; omega, hok.dk.denied⟩, hok.fl, hok.cl, hok.keys, hok.na, hok.fi⟩ (fun _ => rfl) (back H') e1
  refine br_dec (fun k8 => ?_) (fun k8 => ?_)
  · have e1 : doP d o = (d.deny o.n, [], 0) := by simp only [doP, if_neg k0, if_neg k1, if_neg k2, if_neg k3, if_neg k4, if_neg k5, if_neg k6, if_neg k7, if_pos k8]
    ((repeat apply Exists.intro); first | refine ⟨H.ld (by exact ⟨rfl, rfl, rfl, rfl⟩) (by first | exact sclInt | exact sclBool | exact sclStr | exact rsclN | exact rsclF | exact rsclNN | exact rsclSS | exact rsclSI | exact rsclU) (by repeat first | exact .head _ | refine .tail _ ?_) rfl, ?_⟩ | refine ⟨H.ldA (by exact ⟨rfl, rfl, rfl, rfl⟩) (by first | exact raggD | exact raggF | exact raggO | exact raggN | exact raggA) (by repeat first | exact .head _ | refine .tail _ ?_) rfl rfl, ?_⟩)
    refine callV (deny_spec x d hok o.n w2 hS) ?_
    rintro e w3 ⟨rfl, H'⟩
    refine ⟨rfl, ?_⟩
    refine fin w3 x (d.deny o.n) [] 0 ⟨⟨hok.dk.room, hok.dk.files, hok.dk.firm, hok.dk.chs, hok.dk.rise, hok.dk.armed, by have := hden k8; simp only [Dk.deny]; omega⟩, hok.fl, hok.cl, hok.keys, hok.na, hok.fi⟩ (fun _ => rfl) (back H') e1
  refine br_dec (fun k9 => ?_) (fun k9 => ?_)
  · have e1 : doP d o = (d.crash o.n o.picks, [], 0) := by simp only [doP, if_neg k0, if_neg k1, if_neg k2, if_neg k3, if_neg k4, if_neg k5, if_neg k6, if_neg k7, if_neg k8, if_pos k9]
    ((repeat apply Exists.intro); first | refine ⟨H.ld (by exact ⟨rfl, rfl, rfl, rfl⟩) (by first | exact sclInt | exact sclBool | exact sclStr | exact rsclN | exact rsclF | exact rsclNN | exact rsclSS | exact rsclSI | exact rsclU) (by repeat first | exact .head _ | refine .tail _ ?_) rfl, ?_⟩ | refine ⟨H.ldA (by exact ⟨rfl, rfl, rfl, rfl⟩) (by first | exact raggD | exact raggF | exact raggO | exact raggN | exact raggA) (by repeat first | exact .head _ | refine .tail _ ?_) rfl rfl, ?_⟩)
    ((repeat apply Exists.intro); first | refine ⟨H.ld (by exact ⟨rfl, rfl, rfl, rfl⟩) (by first | exact sclInt | exact sclBool | exact sclStr | exact rsclN | exact rsclF | exact rsclNN | exact rsclSS | exact rsclSI | exact rsclU) (by repeat first | exact .head _ | refine .tail _ ?_) rfl, ?_⟩ | refine ⟨H.ldA (by exact ⟨rfl, rfl, rfl, rfl⟩) (by first | exact raggD | exact raggF | exact raggO | exact raggN | exact raggA) (by repeat first | exact .head _ | refine .tail _ ?_) rfl rfl, ?_⟩)
    refine callV (crash_spec x d hok few (by omega) o.n ow.pa ow.pc o.picks w2 hS (fun W hW => (hO2 W hW).picks.cells) hO3.picks.le) ?_
    rintro e w3 ⟨y, rfl, hy, H'⟩
    refine ⟨_, rfl, ?_⟩
    exact fin w3 y _ _ _ hy (fun h => absurd k9 h) (back H'.takeL) e1
  have e1 : doP d o = (d, [], 0) := by simp only [doP, if_neg k0, if_neg k1, if_neg k2, if_neg k3, if_neg k4, if_neg k5, if_neg k6, if_neg k7, if_neg k8, if_neg k9]
  exact fin w2 x d _ _ hok (fun _ => rfl) H.drop1 e1
theorem does_spec (x : DW) (d : Dk) (hok : x.Ok d) {N : Nat} (fit : d.Fit N) (hN : N ≤ 1000000) {G0 : List Nat} {ow : OW} {o : Op} (w : World) (ho : ∀ W, Chg (feet (dkL x d)) w W → OD G0 W ow o) (harm : o.kind = 7 → o.n ≤ 9223372036854775807) (hden : o.kind = 8 → o.n ≤ 9223372036854775807) (st : Std w (dkL x d)) :
    Calls Go.Proofs.Try.prog 12 #[.pointer (some ⟨x.b, 0, none⟩), ow.val o] w fun e w' => ∃ x' : DW, e = .returned (.tuple #[.pointer (some ⟨x'.b, 0, none⟩), .agg #[sv (doP d o).2.1, .int .i64 (doP d o).2.2]]) ∧ x'.Ok (doP d o).1 ∧ Hp (feet (dkL x d)) w w' (dkL x' (doP d o).1) :=
  (does_spec2 x d hok fit hN w ho harm hden st).mono fun e w' ⟨x', _, h⟩ => ⟨x', h⟩
end Go.Proofs.Ytnmlkecmokhhhaa
