/- Vault: a call, by the program; it is the document's. -/
import Derived.Test.YtdpkamajecmebaaUp
import Derived.Test.YtdpkamajecmebaaPl
set_option linter.unusedVariables false
set_option linter.unusedSimpArgs false
set_option maxRecDepth 100000
namespace Go.Proofs.Ytdpkamajecmebaa
open Go Go.Vc Go.Vault

def doP (d : Dk) (o : Op) : Dk × List UInt8 × Int :=
  if o.kind = 0 then ((d.create o.name).1, [], (d.create o.name).2) else
  if o.kind = 1 then ((d.write o.name o.n o.b).1, [], (d.write o.name o.n o.b).2) else
  if o.kind = 2 then (d, (d.read o.name o.n).1, (d.read o.name o.n).2) else
  if o.kind = 3 then ((d.sync o.name).1, [], (d.sync o.name).2) else
  if o.kind = 4 then ((d.rename o.name o.to).1, [], (d.rename o.name o.to).2) else
  if o.kind = 5 then ((d.remove o.name).1, [], (d.remove o.name).2) else
  if o.kind = 6 then (d.syncNames.1, [], d.syncNames.2) else
  if o.kind = 7 then (d.arm o.n, [], 0) else
  if o.kind = 8 then (d.deny o.n, [], 0) else
  if o.kind = 9 then (d.crash o.n o.picks, [], 0) else (d, [], 0)
theorem dies_names (d : Dk) : d.dies.names = d.names := by
  unfold Dk.dies; split <;> rfl
theorem den_denies (d : Dk) (o : Op) (h : o.kind = 1 ∨ o.kind = 3) : Dk.den d o = d.denies := by
  unfold Dk.den
  by_cases h0 : 0 < d.denied
  · rw [if_pos ⟨h, h0⟩]
  · rw [if_neg (fun h2 => h0 h2.2)]
    have : d.denied = 0 := by omega
    obtain ⟨_, _, _, _, _, _, _⟩ := d
    simp only [Dk.denies] at this ⊢
    rw [this]
theorem den_same (d : Dk) (o : Op) (h : ¬(o.kind = 1 ∨ o.kind = 3)) : Dk.den d o = d := by
  unfold Dk.den
  rw [if_neg (fun h2 => h h2.1)]
theorem code_eq (d d' : Dk) (x y : Dk × List UInt8 × Int) (h : d.dead = true → x = (d', [], 93)) (h2 : d.dead = false → x = (d', [], 0)) (hd : d'.dead = d.dead) : x = (d', [], d'.code) := by
  cases hb : d.dead with
  | true => rw [h hb, Dk.code, hd, hb]; rfl
  | false => rw [h2 hb, Dk.code, hd, hb]; rfl
theorem doP_doR (d : Dk) (o : Op) : doP d o = doR d o := by
  by_cases k7 : o.kind = 7
  · simp [doP, doR, k7]
  by_cases k8 : o.kind = 8
  · simp [doP, doR, k8]
  by_cases k9 : o.kind = 9
  · simp [doP, doR, k9]
  by_cases kr : o.kind < 0 ∨ 9 < o.kind
  · have e : doR d o = (d, [], 0) := by simp only [doR, if_neg k7, if_neg k8, if_neg k9, if_pos kr]
    rw [e, doP, if_neg (by omega), if_neg (by omega), if_neg (by omega), if_neg (by omega), if_neg (by omega), if_neg (by omega), if_neg (by omega), if_neg k7, if_neg k8, if_neg k9]
  have e : doR d o = (if why d o ≠ 0 then (d, [], why d o) else
      if o.kind = 2 then (d, (d.file ((d.find o.name).getD 0)).now.getD o.n.toNat [], 0) else
      if o.kind = 4 ∧ o.name = o.to then (d, [], 0) else
      if (o.kind = 1 ∨ o.kind = 3) ∧ d.refused = true then (d.denies, [], 95) else
      if (Dk.den d o).dies.dead then ((if o.kind ≠ 3 ∧ o.kind ≠ 6 then doesD (Dk.den d o).dies o else (Dk.den d o).dies), [], 93) else
      (doesD (Dk.den d o).dies o, [], 0)) := by simp only [doR, if_neg k7, if_neg k8, if_neg k9, if_neg kr]
  rw [e]
  by_cases hd : d.dead = true
  · have hw : why d o = 93 := by simp [why, hd]
    rw [hw, if_pos (by omega)]
    have h06 : o.kind = 0 ∨ o.kind = 1 ∨ o.kind = 2 ∨ o.kind = 3 ∨ o.kind = 4 ∨ o.kind = 5 ∨ o.kind = 6 := by omega
    rcases h06 with h | h | h | h | h | h | h <;> simp [doP, h, Dk.create, Dk.write, Dk.read, Dk.sync, Dk.rename, Dk.remove, Dk.syncNames, hd]
  have hd : d.dead = false := by simpa using hd
  have h06 : o.kind = 0 ∨ o.kind = 1 ∨ o.kind = 2 ∨ o.kind = 3 ∨ o.kind = 4 ∨ o.kind = 5 ∨ o.kind = 6 := by omega
  rcases h06 with h | h | h | h | h | h | h
  · -- create
    have hp : doP d o = ((d.create o.name).1, [], (d.create o.name).2) := by simp only [doP, if_pos h]
    rw [hp]
    cases hr : Vault.right o.name with
    | false =>
      have hw : why d o = 92 := by simp [why, hd, h, hr]
      rw [hw, if_pos (by omega)]
      simp [Dk.create, hd, hr]
    | true =>
      have hw : why d o = 0 := by simp [why, hd, h, hr]
      rw [hw, if_neg (by omega), if_neg (by omega), if_neg (by omega), if_neg (by omega), den_same d o (by omega)]
      simp only [if_pos (show o.kind ≠ 3 ∧ o.kind ≠ 6 by omega)]
      have hD : doesD d.dies o = (Dk.change { d with files := d.files ++ [Fl.none] } (.create o.name d.files.length)).dies := by
        rw [doesD, if_pos h]
        rw [dies_both, dies_fs]
      rw [hD]
      have hdd : (Dk.change { d with files := d.files ++ [Fl.none] } (.create o.name d.files.length)).dies.dead = d.dies.dead := by rw [dies_both]; rfl
      have hc : d.create o.name = ((Dk.change { d with files := d.files ++ [Fl.none] } (.create o.name d.files.length)).dies, (Dk.change { d with files := d.files ++ [Fl.none] } (.create o.name d.files.length)).dies.code) := by simp [Dk.create, hd, hr]
      rw [hc]
      refine (code_eq d.dies _ _ (d, [], 0) (fun hb => ?_) (fun hb => ?_) hdd).symm
      · rw [if_pos hb]
      · rw [if_neg (by simp [hb])]
  · -- write
    have hp : doP d o = ((d.write o.name o.n o.b).1, [], (d.write o.name o.n o.b).2) := by simp only [doP]; rw [if_neg (by omega), if_pos h]
    rw [hp]
    cases hk : d.find o.name with
    | none =>
      have hw : why d o = 90 := by simp [why, hd, h, hk]
      rw [hw, if_pos (by omega)]
      simp [Dk.write, hd, hk]
    | some k =>
      have hsz : d.size o.name = d.len k := by simp only [Dk.size, hk]
      by_cases hpl : o.n < 0 ∨ d.len k < o.n ∨ 512 < o.b.length
      · have hw : why d o = 91 := by
          simp only [why, hd, hsz, Bool.false_eq_true, if_false]
          rw [if_neg (by omega), if_neg (by simp [hk]), if_pos ⟨h, hpl⟩]
        rw [hw, if_pos (by omega)]
        simp only [Dk.write, hd, hk, Bool.false_eq_true, if_false, if_pos hpl]
      by_cases hfu : o.n = d.len k ∧ d.room ≤ d.used
      · have hw : why d o = 94 := by
          simp only [why, hd, hsz, Bool.false_eq_true, if_false]
          rw [if_neg (by omega), if_neg (by simp [hk]), if_neg (fun h2 => hpl h2.2), if_pos ⟨h, hfu⟩]
        rw [hw, if_pos (by omega)]
        simp only [Dk.write, hd, hk, Bool.false_eq_true, if_false, if_neg hpl, if_pos hfu]
      have hw : why d o = 0 := by
        simp only [why, hd, hsz, Bool.false_eq_true, if_false]
        rw [if_neg (by omega), if_neg (by simp [hk]), if_neg (fun h2 => hpl h2.2), if_neg (fun h2 => hfu h2.2), if_neg (by omega), if_neg (by omega)]
      rw [hw, if_neg (by omega), if_neg (by omega), if_neg (by omega)]
      cases hr : d.refused with
      | true =>
        rw [if_pos ⟨.inl h, rfl⟩]
        simp only [Dk.write, hd, hk, Bool.false_eq_true, if_false, if_neg hpl, if_neg hfu, hr, if_true]
      | false =>
        rw [if_neg (by simp), den_denies d o (.inl h)]
        simp only [if_pos (show o.kind ≠ 3 ∧ o.kind ≠ 6 by omega)]
        have hD : doesD d.denies.dies o = (d.denies.put k ((d.file k).write o.n.toNat o.b)).dies := by
          rw [doesD, if_neg (by omega), if_pos h, dies_find]
          have : d.denies.find o.name = some k := hk
          rw [this, dies_put]
          show d.denies.dies.put k ((d.denies.dies.file k).write o.n.toNat o.b) = _
          rw [dies_file]; rfl
        rw [hD]
        have hdd : (d.denies.put k ((d.file k).write o.n.toNat o.b)).dies.dead = d.denies.dies.dead := by rw [dies_put]; rfl
        have hc : d.write o.name o.n o.b = ((d.denies.put k ((d.file k).write o.n.toNat o.b)).dies, (d.denies.put k ((d.file k).write o.n.toNat o.b)).dies.code) := by
          simp only [Dk.write, hd, hk, Bool.false_eq_true, if_false, if_neg hpl, if_neg hfu, hr]
        rw [hc]
        refine (code_eq d.denies.dies _ _ (d, [], 0) (fun hb => ?_) (fun hb => ?_) hdd).symm
        · rw [if_pos hb]
        · rw [if_neg (by simp [hb])]
  · -- read
    have hp : doP d o = (d, (d.read o.name o.n).1, (d.read o.name o.n).2) := by simp only [doP]; rw [if_neg (by omega), if_neg (by omega), if_pos h]
    rw [hp]
    cases hk : d.find o.name with
    | none =>
      have hw : why d o = 90 := by simp [why, hd, h, hk]
      rw [hw, if_pos (by omega)]
      simp [Dk.read, hd, hk]
    | some k =>
      have hsz : d.size o.name = d.len k := by simp only [Dk.size, hk]
      by_cases hpl : o.n < 0 ∨ d.len k ≤ o.n
      · have hw : why d o = 91 := by
          simp only [why, hd, hsz, Bool.false_eq_true, if_false]
          rw [if_neg (by omega), if_neg (by simp [hk]), if_neg (by omega), if_neg (by omega), if_pos ⟨h, hpl⟩]
        rw [hw, if_pos (by omega)]
        simp only [Dk.read, hd, hk, Bool.false_eq_true, if_false, if_pos hpl]
      have hw : why d o = 0 := by
        simp only [why, hd, hsz, Bool.false_eq_true, if_false]
        rw [if_neg (by omega), if_neg (by simp [hk]), if_neg (by omega), if_neg (by omega), if_neg (fun h2 => hpl h2.2), if_neg (by omega)]
      rw [hw, if_neg (by omega), if_pos h]
      simp only [Dk.read, hd, hk, Bool.false_eq_true, if_false, if_neg hpl, Option.getD_some]
  · -- sync
    have hp : doP d o = ((d.sync o.name).1, [], (d.sync o.name).2) := by simp only [doP]; rw [if_neg (by omega), if_neg (by omega), if_neg (by omega), if_pos h]
    rw [hp]
    cases hk : d.find o.name with
    | none =>
      have hw : why d o = 90 := by simp [why, hd, h, hk]
      rw [hw, if_pos (by omega)]
      simp [Dk.sync, hd, hk]
    | some k =>
      have hw : why d o = 0 := by
        simp only [why, hd, Bool.false_eq_true, if_false]
        rw [if_neg (by omega), if_neg (by simp [hk]), if_neg (by omega), if_neg (by omega), if_neg (by omega), if_neg (by omega)]
      rw [hw, if_neg (by omega), if_neg (by omega), if_neg (by omega)]
      cases hr : d.refused with
      | true =>
        rw [if_pos ⟨.inr h, rfl⟩]
        simp [Dk.sync, hd, hk, hr]
      | false =>
        rw [if_neg (by simp), den_denies d o (.inr h)]
        simp only [if_neg (show ¬(o.kind ≠ 3 ∧ o.kind ≠ 6) by omega)]
        have hD : doesD d.denies.dies o = d.denies.dies.put k (d.file k).sync := by
          rw [doesD, if_neg (by omega), if_neg (by omega), if_pos h, dies_find]
          have : d.denies.find o.name = some k := hk
          rw [this]
          show d.denies.dies.put k (d.denies.dies.file k).sync = _
          rw [dies_file]; rfl
        rw [hD]
        cases hb : d.denies.dies.dead with
        | true => simp [Dk.sync, hd, hk, hr, hb]
        | false => simp [Dk.sync, hd, hk, hr, hb]
  · -- rename
    have hp : doP d o = ((d.rename o.name o.to).1, [], (d.rename o.name o.to).2) := by simp only [doP]; rw [if_neg (by omega), if_neg (by omega), if_neg (by omega), if_neg (by omega), if_pos h]
    rw [hp]
    cases hk : d.find o.name with
    | none =>
      have hw : why d o = 90 := by simp [why, hd, h, hk]
      rw [hw, if_pos (by omega)]
      simp [Dk.rename, hd, hk]
    | some k =>
      cases hr : Vault.right o.to with
      | false =>
        have hw : why d o = 92 := by
          simp only [why, hd, Bool.false_eq_true, if_false]
          rw [if_neg (by omega), if_neg (by simp [hk]), if_neg (by omega), if_neg (by omega), if_neg (by omega), if_pos ⟨h, hr⟩]
        rw [hw, if_pos (by omega)]
        simp [Dk.rename, hd, hk, hr]
      | true =>
        have hw : why d o = 0 := by
          simp only [why, hd, Bool.false_eq_true, if_false]
          rw [if_neg (by omega), if_neg (by simp [hk]), if_neg (by omega), if_neg (by omega), if_neg (by omega), if_neg (by simp [hr])]
        rw [hw, if_neg (by omega), if_neg (by omega)]
        by_cases hs : o.name = o.to
        · rw [if_pos ⟨h, hs⟩]
          simp only [Dk.rename, hd, hk, hr, Bool.false_eq_true, if_false, Bool.not_true, if_pos hs]
        · rw [if_neg (fun h2 => hs h2.2), if_neg (by omega), den_same d o (by omega)]
          simp only [if_pos (show o.kind ≠ 3 ∧ o.kind ≠ 6 by omega)]
          have hD : doesD d.dies o = (d.change (.rename o.name o.to k)).dies := by
            rw [doesD, if_neg (by omega), if_neg (by omega), if_neg (by omega), if_pos h, dies_find, hk, dies_change]
          rw [hD]
          have hdd : (d.change (.rename o.name o.to k)).dies.dead = d.dies.dead := by rw [dies_change]; rfl
          have hc : d.rename o.name o.to = ((d.change (.rename o.name o.to k)).dies, (d.change (.rename o.name o.to k)).dies.code) := by
            simp only [Dk.rename, hd, hk, hr, Bool.false_eq_true, if_false, Bool.not_true, if_neg hs]
          rw [hc]
          refine (code_eq d.dies _ _ (d, [], 0) (fun hb => ?_) (fun hb => ?_) hdd).symm
          · rw [if_pos hb]
          · rw [if_neg (by simp [hb])]
  · -- remove
    have hp : doP d o = ((d.remove o.name).1, [], (d.remove o.name).2) := by simp only [doP]; rw [if_neg (by omega), if_neg (by omega), if_neg (by omega), if_neg (by omega), if_neg (by omega), if_pos h]
    rw [hp]
    cases hk : d.find o.name with
    | none =>
      have hw : why d o = 90 := by simp [why, hd, h, hk]
      rw [hw, if_pos (by omega)]
      simp [Dk.remove, hd, hk]
    | some k =>
      have hw : why d o = 0 := by
        simp only [why, hd, Bool.false_eq_true, if_false]
        rw [if_neg (by omega), if_neg (by simp [hk]), if_neg (by omega), if_neg (by omega), if_neg (by omega), if_neg (by omega)]
      rw [hw, if_neg (by omega), if_neg (by omega), if_neg (by omega), if_neg (by omega), den_same d o (by omega)]
      simp only [if_pos (show o.kind ≠ 3 ∧ o.kind ≠ 6 by omega)]
      have hD : doesD d.dies o = (d.change (.remove o.name)).dies := by
        rw [doesD, if_neg (by omega), if_neg (by omega), if_neg (by omega), if_neg (by omega), if_pos h, dies_change]
      rw [hD]
      have hdd : (d.change (.remove o.name)).dies.dead = d.dies.dead := by rw [dies_change]; rfl
      have hc : d.remove o.name = ((d.change (.remove o.name)).dies, (d.change (.remove o.name)).dies.code) := by simp [Dk.remove, hd, hk]
      rw [hc]
      refine (code_eq d.dies _ _ (d, [], 0) (fun hb => ?_) (fun hb => ?_) hdd).symm
      · rw [if_pos hb]
      · rw [if_neg (by simp [hb])]
  · -- sync names
    have hp : doP d o = (d.syncNames.1, [], d.syncNames.2) := by simp only [doP]; rw [if_neg (by omega), if_neg (by omega), if_neg (by omega), if_neg (by omega), if_neg (by omega), if_neg (by omega), if_pos h]
    rw [hp]
    have hw : why d o = 0 := by
      simp only [why, hd, Bool.false_eq_true, if_false]
      rw [if_neg (by omega), if_neg (by omega), if_neg (by omega), if_neg (by omega), if_neg (by omega), if_neg (by omega)]
    rw [hw, if_neg (by omega), if_neg (by omega), if_neg (by omega), if_neg (by omega), den_same d o (by omega)]
    simp only [if_neg (show ¬(o.kind ≠ 3 ∧ o.kind ≠ 6) by omega)]
    have hD : doesD d.dies o = { d.dies with firm := d.names, chs := [] } := by
      rw [doesD, if_neg (by omega), if_neg (by omega), if_neg (by omega), if_neg (by omega), if_neg (by omega), if_pos h, dies_names]
    rw [hD]
    cases hb : d.dies.dead with
    | true => simp [Dk.syncNames, hd, hb]
    | false => simp [Dk.syncNames, hd, hb]
theorem _root_.Go.Vault.Dk.Fit.since {d : Dk} {N : Nat} (h : d.Fit N) (hok : d.Ok) (hN : N ≤ 1000000) (k : Nat) : (sinceTot (d.files.take k) : Int) ≤ 4611686018427387904 := by
  have h1 := sum_le (l := (d.files.take k).map fun f => f.since.length) (N := N) fun x hx => by
    obtain ⟨f, hf, rfl⟩ := List.mem_map.1 hx
    have hf := List.mem_of_mem_take hf
    have := since_len (hok.files f hf)
    have := h.now f hf
    omega
  rw [List.length_map, List.length_take] at h1
  have h2 : min k d.files.length * N ≤ 1000000 * 1000000 := Nat.mul_le_mul (by have := h.files; omega) hN
  have h3 : sinceTot (d.files.take k) ≤ 1000000 * 1000000 := Nat.le_trans h1 h2
  omega
theorem doP_fit {d : Dk} {N : Nat} (h : d.Fit N) (hok : d.Ok) (o : Op) : (doP d o).1.Fit (N + 1) := by
  have hm := h.mono (Nat.le_succ N)
  unfold doP
  split
  · unfold Dk.create
    split
    · exact hm
    · split
      · exact hm
      · refine Fit.dies ?_
        refine Dk.Fit.mono (N := N + 1) ?_ (by omega)
        have h1 := Fit.change h (.create o.name d.files.length)
        refine ⟨by simp only [Dk.change, List.length_append, List.length_singleton]; have := h.files; omega, fun f hf => ?_, h1.names, h1.chs⟩
        rcases List.mem_append.1 hf with hf | hf
        · have := h.now f hf; omega
        · rw [List.mem_singleton.1 hf]; simp [Fl.none]
  · split
    · unfold Dk.write
      split
      · exact hm
      · split
        · exact hm
        · split
          · exact hm
          · split
            · exact hm
            · split
              · exact Fit.denies hm
              · refine Fit.dies (Fit.put (Fit.denies h) ?_)
                rename_i k _ _ _ _
                have := Fit.file h k
                simp only [Fl.write]
                split
                · simp; omega
                · simp; omega
    · split
      · exact hm
      · split
        · unfold Dk.sync
          split
          · exact hm
          · split
            · exact hm
            · split
              · exact Fit.denies hm
              · dsimp only
                split
                · exact Fit.dies (Fit.denies hm)
                · rename_i k _ _ _
                  exact Fit.put (Fit.dies (Fit.denies h)) (by have := Fit.file h k; simp only [Fl.sync]; omega)
        · split
          · unfold Dk.rename
            split
            · exact hm
            · split
              · exact hm
              · split
                · exact hm
                · split
                  · exact hm
                  · exact Fit.dies (Fit.change h _)
          · split
            · unfold Dk.remove
              split
              · exact hm
              · split
                · exact hm
                · exact Fit.dies (Fit.change h _)
            · split
              · unfold Dk.syncNames
                split
                · exact hm
                · dsimp only
                  split
                  · exact Fit.dies hm
                  · exact Fit.sub (Fit.dies hm) _ (by have := h.nl; omega)
              · split
                · exact ⟨hm.files, hm.now, hm.names, hm.chs⟩
                · split
                  · exact ⟨hm.files, hm.now, hm.names, hm.chs⟩
                  · split
                    · exact Fit.crash hm hok _ _
                    · exact hm
end Go.Proofs.Ytdpkamajecmebaa
