/- Vault: a call, by the document; what it tells of its files. -/
import Derived.Test.YtdpkamajecmebaaUo
set_option linter.unusedVariables false
set_option linter.unusedSimpArgs false
set_option maxRecDepth 100000
namespace Go.Proofs.Ytdpkamajecmebaa
open Go Go.Vc Go.Vault

theorem why_zero {d : Dk} {o : Op} (h : why d o = 0) : d.dead = false ∧ (o.kind = 0 → Vault.right o.name = true) ∧ (1 ≤ o.kind → o.kind ≤ 5 → ∃ k, d.find o.name = some k) ∧
    (o.kind = 1 → 0 ≤ o.n ∧ o.n ≤ d.size o.name ∧ o.b.length ≤ 512 ∧ ¬(o.n = d.size o.name ∧ d.room ≤ d.used)) ∧ (o.kind = 2 → 0 ≤ o.n ∧ o.n < d.size o.name) ∧ (o.kind = 4 → Vault.right o.to = true) := by
  unfold why at h
  split at h
  · omega
  rename_i h1
  split at h
  · omega
  rename_i h2
  split at h
  · omega
  rename_i h3
  split at h
  · omega
  rename_i h4
  split at h
  · omega
  rename_i h5
  split at h
  · omega
  rename_i h6
  split at h
  · omega
  rename_i h7
  refine ⟨by simpa using h1, fun hk => ?_, fun ha hb => ?_, fun hk => ⟨by omega, by omega, by omega, by omega⟩, fun hk => ⟨by omega, by omega⟩, fun hk => ?_⟩
  · cases hr : Vault.right o.name with
    | true => rfl
    | false => exact absurd ⟨hk, hr⟩ h2
  · cases hf : d.find o.name with
    | none => exact absurd ⟨ha, hb, hf⟩ h3
    | some k => exact ⟨k, rfl⟩
  · cases hr : Vault.right o.to with
    | true => rfl
    | false => exact absurd ⟨hk, hr⟩ h7

def Dk.den (d : Dk) (o : Op) : Dk := if (o.kind = 1 ∨ o.kind = 3) ∧ 0 < d.denied then d.denies else d
def doR (d : Dk) (o : Op) : Dk × List UInt8 × Int :=
  if o.kind = 7 then (d.arm o.n, [], 0) else
  if o.kind = 8 then (d.deny o.n, [], 0) else
  if o.kind = 9 then (d.crash o.n o.picks, [], 0) else
  if o.kind < 0 ∨ 9 < o.kind then (d, [], 0) else
  if why d o ≠ 0 then (d, [], why d o) else
  if o.kind = 2 then (d, (d.file ((d.find o.name).getD 0)).now.getD o.n.toNat [], 0) else
  if o.kind = 4 ∧ o.name = o.to then (d, [], 0) else
  if (o.kind = 1 ∨ o.kind = 3) ∧ d.refused = true then (d.denies, [], 95) else
  if (Dk.den d o).dies.dead then ((if o.kind ≠ 3 ∧ o.kind ≠ 6 then doesD (Dk.den d o).dies o else (Dk.den d o).dies), [], 93) else
  (doesD (Dk.den d o).dies o, [], 0)
def ansK (b : List UInt8) (e : Int) (v : Value) : Ending := .returned (.tuple #[v, .agg #[sv b, .int .i64 e]])
theorem Dk.den_flags (d : Dk) (o : Op) : ∃ a b c, (Dk.den d o).dies = { d with armed := a, denied := b, dead := c } := by
  unfold Dk.den
  split
  · obtain ⟨a, b, e⟩ := dies_eq d.denies
    exact ⟨_, _, _, e⟩
  · obtain ⟨a, b, e⟩ := dies_eq d
    exact ⟨_, _, _, e⟩
theorem _root_.Go.Vault.Dk.Few.flags {d : Dk} {N : Nat} (h : d.Few N) (a b : Nat) (c : Bool) : ({ d with armed := a, denied := b, dead := c } : Dk).Few N := ⟨h.files, h.now, h.firm, h.chs⟩
def doL (ba bu bo bd : Nat) (v : RV) (d : Dk) (ow : OW) (o : Op) : List Asn :=
  [.blk ba [.string ⟨#[]⟩, .int .i64 0] 53, .blk bu [.int .i64 0, .slice none 0 0, .slice none 0 0, .slice none 0 0, .slice none 0 0, .int .i64 0, .int .i64 0, .bool false] 44,
   .blk bo [.int .i64 o.kind, .int .i64 o.n, .string o.name, .string o.to, .slice ow.ba o.b.length ow.bc, .slice ow.pa o.picks.length ow.pc] 49,
   .blk bd [.int .i64 (d.room : Int), .slice v.fa d.files.length v.fc, .slice v.na d.names.length v.nc, .slice v.ia d.firm.length v.ic, .slice v.sa d.snaps.length v.sc, .int .i64 (d.armed : Int), .int .i64 (d.denied : Int), .bool d.dead] 44]

set_option maxHeartbeats 8000000 in
theorem rdo_spec {F G0 : List Nat} {w : World} {v : RV} {d : Dk} (h : RD F w v d) (hF : ∀ k ∈ F, k < w.heap.size) (hok : d.Ok) {N : Nat} (few : d.Few N) (hN : N ≤ 268435000) (hNN : ∀ k, (sinceTot (d.files.take k) : Int) ≤ 4611686018427387904) (hu : (d.used : Int) ≤ 9223372036854775807) {ow : OW} {o : Op} (ho : OD G0 w ow o) :
    Calls Go.Proofs.Try.prog 20 #[v.val d, ow.val o] w (RPostK (ansK (doR d o).2.1 (doR d o).2.2) F w (doR d o).1) := by
  apply rdo.ok; unfold rdo.vc
  have hfl := few.files
  have hnl : d.names.length ≤ N + N := by have := d.names_len; have := few.firm; have := few.chs; omega
  have hnow : ∀ f ∈ d.files, f.now.length ≤ 536870000 := fun f hf => by have := few.now f hf; omega
  have H := Hp.start w
  intro bd w1 hn1; replace H := H.new (by exact ⟨rfl, rfl, rfl, rfl⟩) hn1; clear hn1
  intro bo w2 hn1; replace H := H.new (by exact ⟨rfl, rfl, rfl, rfl⟩) hn1; clear hn1
  intro bu w3 hn1; replace H := H.new (by exact ⟨rfl, rfl, rfl, rfl⟩) hn1; clear hn1
  intro ba w4 hn1; replace H := H.new (by exact ⟨rfl, rfl, rfl, rfl⟩) hn1; clear hn1
  have hFw : ∀ {w' : World} {L : List Asn}, Hp [] w w' L → ∀ k ∈ F, k < w'.heap.size := fun K k hk => Nat.lt_of_lt_of_le (hF k hk) K.chg.size
  ((repeat apply Exists.intro); first | refine ⟨H.ld (by exact ⟨rfl, rfl, rfl, rfl⟩) (by first | exact sclInt | exact sclBool | exact sclStr | exact rsclN | exact rsclF | exact rsclNN | exact rsclSS | exact rsclSI | exact rsclU) (by repeat first | exact .head _ | refine .tail _ ?_) rfl, ?_⟩ | refine ⟨H.ldA (by exact ⟨rfl, rfl, rfl, rfl⟩) (by first | exact raggD | exact raggF | exact raggO | exact raggN | exact raggA) (by repeat first | exact .head _ | refine .tail _ ?_) rfl rfl, ?_⟩)
  refine br_dec (fun k7 => ?_) (fun k7 => ?_)
  · have e1 : doR d o = (d.arm o.n, [], 0) := by simp only [doR, if_pos k7]
    rw [e1]
    ((repeat apply Exists.intro); first | refine ⟨H.ld (by exact ⟨rfl, rfl, rfl, rfl⟩) (by first | exact sclInt | exact sclBool | exact sclStr | exact rsclN | exact rsclF | exact rsclNN | exact rsclSS | exact rsclSI | exact rsclU) (by repeat first | exact .head _ | refine .tail _ ?_) rfl, ?_⟩ | refine ⟨H.ldA (by exact ⟨rfl, rfl, rfl, rfl⟩) (by first | exact raggD | exact raggF | exact raggO | exact raggN | exact raggA) (by repeat first | exact .head _ | refine .tail _ ?_) rfl rfl, ?_⟩)
    rw [maxE]
    (repeat (first | ((repeat apply Exists.intro); first | refine ⟨H.ld (by exact ⟨rfl, rfl, rfl, rfl⟩) (by first | exact sclInt | exact sclBool | exact sclStr | exact rsclN | exact rsclF | exact rsclNN | exact rsclSS | exact rsclSI | exact rsclU) (by repeat first | exact .head _ | refine .tail _ ?_) rfl, ?_⟩ | refine ⟨H.ldA (by exact ⟨rfl, rfl, rfl, rfl⟩) (by first | exact raggD | exact raggF | exact raggO | exact raggN | exact raggA) (by repeat first | exact .head _ | refine .tail _ ?_) rfl rfl, ?_⟩) | (intro _ _ hn; replace H := H.new (by exact ⟨rfl, rfl, rfl, rfl⟩) hn; clear hn) | ((first | (apply Hp.st; (case H => first | exact H | exact H.pull1 | exact H.pull2 | exact H.pull3 | exact H.pull4 | exact H.pull5 | exact H.pull6 | exact H.pull7); (case e => exact ⟨rfl, rfl, rfl, rfl⟩); (case S => exact (by first | exact sclInt | exact sclBool | exact sclStr | exact rsclN | exact rsclF | exact rsclNN | exact rsclSS | exact rsclSI | exact rsclU)); (case hv => exact rfl); (case h1 => exact rfl); (case ho => exact Nat.le_of_ble_eq_true rfl); (case hc => exact rfl)) | (apply Hp.stA; (case H => first | exact H | exact H.pull1 | exact H.pull2 | exact H.pull3 | exact H.pull4 | exact H.pull5 | exact H.pull6 | exact H.pull7); (case e => exact ⟨rfl, rfl, rfl, rfl⟩); (case S => exact (by first | exact raggD | exact raggF | exact raggO | exact raggN | exact raggA)); (case hn => exact rfl); (case h1 => exact rfl); (case ho => exact Nat.le_of_ble_eq_true rfl); (case hc => exact rfl))); clear H; intro _ H; (try simp only [over, List.set_cons_zero, List.set_cons_succ] at H))))
    exact RPostK.same h hF H.chg (d.arm o.n) ((h.chg0 H.chg).flags _ _ _) rfl
  refine br_dec (fun k8 => ?_) (fun k8 => ?_)
  · have e1 : doR d o = (d.deny o.n, [], 0) := by simp only [doR, if_neg k7, if_pos k8]
    rw [e1]
    ((repeat apply Exists.intro); first | refine ⟨H.ld (by exact ⟨rfl, rfl, rfl, rfl⟩) (by first | exact sclInt | exact sclBool | exact sclStr | exact rsclN | exact rsclF | exact rsclNN | exact rsclSS | exact rsclSI | exact rsclU) (by repeat first | exact .head _ | refine .tail _ ?_) rfl, ?_⟩ | refine ⟨H.ldA (by exact ⟨rfl, rfl, rfl, rfl⟩) (by first | exact raggD | exact raggF | exact raggO | exact raggN | exact raggA) (by repeat first | exact .head _ | refine .tail _ ?_) rfl rfl, ?_⟩)
    rw [maxE]
    (repeat (first | ((repeat apply Exists.intro); first | refine ⟨H.ld (by exact ⟨rfl, rfl, rfl, rfl⟩) (by first | exact sclInt | exact sclBool | exact sclStr | exact rsclN | exact rsclF | exact rsclNN | exact rsclSS | exact rsclSI | exact rsclU) (by repeat first | exact .head _ | refine .tail _ ?_) rfl, ?_⟩ | refine ⟨H.ldA (by exact ⟨rfl, rfl, rfl, rfl⟩) (by first | exact raggD | exact raggF | exact raggO | exact raggN | exact raggA) (by repeat first | exact .head _ | refine .tail _ ?_) rfl rfl, ?_⟩) | (intro _ _ hn; replace H := H.new (by exact ⟨rfl, rfl, rfl, rfl⟩) hn; clear hn) | ((first | (apply Hp.st; (case H => first | exact H | exact H.pull1 | exact H.pull2 | exact H.pull3 | exact H.pull4 | exact H.pull5 | exact H.pull6 | exact H.pull7); (case e => exact ⟨rfl, rfl, rfl, rfl⟩); (case S => exact (by first | exact sclInt | exact sclBool | exact sclStr | exact rsclN | exact rsclF | exact rsclNN | exact rsclSS | exact rsclSI | exact rsclU)); (case hv => exact rfl); (case h1 => exact rfl); (case ho => exact Nat.le_of_ble_eq_true rfl); (case hc => exact rfl)) | (apply Hp.stA; (case H => first | exact H | exact H.pull1 | exact H.pull2 | exact H.pull3 | exact H.pull4 | exact H.pull5 | exact H.pull6 | exact H.pull7); (case e => exact ⟨rfl, rfl, rfl, rfl⟩); (case S => exact (by first | exact raggD | exact raggF | exact raggO | exact raggN | exact raggA)); (case hn => exact rfl); (case h1 => exact rfl); (case ho => exact Nat.le_of_ble_eq_true rfl); (case hc => exact rfl))); clear H; intro _ H; (try simp only [over, List.set_cons_zero, List.set_cons_succ] at H))))
    exact RPostK.same h hF H.chg (d.deny o.n) ((h.chg0 H.chg).flags _ _ _) rfl
  refine br_dec (fun k9 => ?_) (fun k9 => ?_)
  · have e1 : doR d o = (d.crash o.n o.picks, [], 0) := by simp only [doR, if_neg k7, if_neg k8, if_pos k9]
    rw [e1]
    refine ⟨_, _, _, _, _, _, _, _, _, _, _, _, _, _, _, _, H.ldA (by exact ⟨rfl, rfl, rfl, rfl⟩) raggD (.tail _ (.tail _ (.tail _ (.head _)))) rfl rfl, ?_⟩
    ((repeat apply Exists.intro); first | refine ⟨H.ld (by exact ⟨rfl, rfl, rfl, rfl⟩) (by first | exact sclInt | exact sclBool | exact sclStr | exact rsclN | exact rsclF | exact rsclNN | exact rsclSS | exact rsclSI | exact rsclU) (by repeat first | exact .head _ | refine .tail _ ?_) rfl, ?_⟩ | refine ⟨H.ldA (by exact ⟨rfl, rfl, rfl, rfl⟩) (by first | exact raggD | exact raggF | exact raggO | exact raggN | exact raggA) (by repeat first | exact .head _ | refine .tail _ ?_) rfl rfl, ?_⟩)
    ((repeat apply Exists.intro); first | refine ⟨H.ld (by exact ⟨rfl, rfl, rfl, rfl⟩) (by first | exact sclInt | exact sclBool | exact sclStr | exact rsclN | exact rsclF | exact rsclNN | exact rsclSS | exact rsclSI | exact rsclU) (by repeat first | exact .head _ | refine .tail _ ?_) rfl, ?_⟩ | refine ⟨H.ldA (by exact ⟨rfl, rfl, rfl, rfl⟩) (by first | exact raggD | exact raggF | exact raggO | exact raggN | exact raggA) (by repeat first | exact .head _ | refine .tail _ ?_) rfl rfl, ?_⟩)
    have hc3 := H.chg
    refine callV (rcrash_spec (h.chg0 H.chg) (hFw H) hok few (by omega) hNN hnow o.n (ho.chg0 H.chg).picks) ?_
    intro e w10 hp
    obtain ⟨v', N2, rfl, H'⟩ := RPost.split hp
    replace H := H.ext H'; clear H'
    simp only [List.cons_append, List.nil_append] at H
    refine ⟨_, _, _, _, _, _, _, _, _, _, _, _, _, _, _, _, rfl, ?_⟩
    refine Hp.stA H.pull2 (by exact ⟨rfl, rfl, rfl, rfl⟩) raggD rfl rfl (by simp) rfl ?_
    clear H; intro w11 H
    refine Hp.stA H.pull2 (by exact ⟨rfl, rfl, rfl, rfl⟩) raggA rfl rfl (by simp) rfl ?_
    clear H; intro w12 H
    refine ⟨_, _, _, _, _, _, _, _, _, _, _, _, _, _, _, _, H.ldA (by exact ⟨rfl, rfl, rfl, rfl⟩) raggD (.tail _ (.head _)) rfl rfl, ?_⟩
    refine ⟨_, _, H.ldA (by exact ⟨rfl, rfl, rfl, rfl⟩) raggA (.head _) rfl rfl, ?_⟩
    exact RPostK.ofN H (.tail _ (.tail _ (.head _))) hc3 hF rfl
  refine JoinP.mk (fun (s : Bool) (w' : World) => s = decide (o.kind < 0 ∨ 9 < o.kind) ∧ Hp [] w w' (doL ba bu bo bd v d ow o)) ?_ ?_
  rotate_left
  · intro J hJ
    ((repeat apply Exists.intro); first | refine ⟨H.ld (by exact ⟨rfl, rfl, rfl, rfl⟩) (by first | exact sclInt | exact sclBool | exact sclStr | exact rsclN | exact rsclF | exact rsclNN | exact rsclSS | exact rsclSI | exact rsclU) (by repeat first | exact .head _ | refine .tail _ ?_) rfl, ?_⟩ | refine ⟨H.ldA (by exact ⟨rfl, rfl, rfl, rfl⟩) (by first | exact raggD | exact raggF | exact raggO | exact raggN | exact raggA) (by repeat first | exact .head _ | refine .tail _ ?_) rfl rfl, ?_⟩)
    refine br_dec (fun h0 => hJ _ _ ⟨by simp [h0], H⟩) (fun h0 => ?_)
    ((repeat apply Exists.intro); first | refine ⟨H.ld (by exact ⟨rfl, rfl, rfl, rfl⟩) (by first | exact sclInt | exact sclBool | exact sclStr | exact rsclN | exact rsclF | exact rsclNN | exact rsclSS | exact rsclSI | exact rsclU) (by repeat first | exact .head _ | refine .tail _ ?_) rfl, ?_⟩ | refine ⟨H.ldA (by exact ⟨rfl, rfl, rfl, rfl⟩) (by first | exact raggD | exact raggF | exact raggO | exact raggN | exact raggA) (by repeat first | exact .head _ | refine .tail _ ?_) rfl rfl, ?_⟩)
    exact hJ _ _ ⟨by simp [h0], H⟩
  clear H w1 w2 w3 w4
  rintro s w4 ⟨rfl, H⟩
  simp only [doL] at H
  refine br_dec (fun kr => ?_) (fun kr => ?_)
  · have e1 : doR d o = (d, [], 0) := by simp only [doR, if_neg k7, if_neg k8, if_neg k9, if_pos kr]
    rw [e1]
    (repeat (first | ((repeat apply Exists.intro); first | refine ⟨H.ld (by exact ⟨rfl, rfl, rfl, rfl⟩) (by first | exact sclInt | exact sclBool | exact sclStr | exact rsclN | exact rsclF | exact rsclNN | exact rsclSS | exact rsclSI | exact rsclU) (by repeat first | exact .head _ | refine .tail _ ?_) rfl, ?_⟩ | refine ⟨H.ldA (by exact ⟨rfl, rfl, rfl, rfl⟩) (by first | exact raggD | exact raggF | exact raggO | exact raggN | exact raggA) (by repeat first | exact .head _ | refine .tail _ ?_) rfl rfl, ?_⟩) | (intro _ _ hn; replace H := H.new (by exact ⟨rfl, rfl, rfl, rfl⟩) hn; clear hn) | ((first | (apply Hp.st; (case H => first | exact H | exact H.pull1 | exact H.pull2 | exact H.pull3 | exact H.pull4 | exact H.pull5 | exact H.pull6 | exact H.pull7); (case e => exact ⟨rfl, rfl, rfl, rfl⟩); (case S => exact (by first | exact sclInt | exact sclBool | exact sclStr | exact rsclN | exact rsclF | exact rsclNN | exact rsclSS | exact rsclSI | exact rsclU)); (case hv => exact rfl); (case h1 => exact rfl); (case ho => exact Nat.le_of_ble_eq_true rfl); (case hc => exact rfl)) | (apply Hp.stA; (case H => first | exact H | exact H.pull1 | exact H.pull2 | exact H.pull3 | exact H.pull4 | exact H.pull5 | exact H.pull6 | exact H.pull7); (case e => exact ⟨rfl, rfl, rfl, rfl⟩); (case S => exact (by first | exact raggD | exact raggF | exact raggO | exact raggN | exact raggA)); (case hn => exact rfl); (case h1 => exact rfl); (case ho => exact Nat.le_of_ble_eq_true rfl); (case hc => exact rfl))); clear H; intro _ H; (try simp only [over, List.set_cons_zero, List.set_cons_succ] at H))))
    exact RPostK.same h hF H.chg d (h.chg0 H.chg) rfl
  refine ⟨_, _, _, _, _, _, _, _, _, _, _, _, _, _, _, _, H.ldA (by exact ⟨rfl, rfl, rfl, rfl⟩) raggD (.tail _ (.tail _ (.tail _ (.head _)))) rfl rfl, ?_⟩
  refine ⟨_, _, _, _, _, _, _, _, _, _, H.ldA (by exact ⟨rfl, rfl, rfl, rfl⟩) raggO (.tail _ (.tail _ (.head _))) rfl rfl, ?_⟩
  refine callV (rwhy_spec (h.chg0 H.chg) hok (by omega) hu (ho.chg0 H.chg)) ?_
  rintro e w5 ⟨rfl, H'⟩; replace H := H.ext0 H'; clear H'
  refine ⟨_, rfl, ?_⟩
  refine br_ndec (fun kw => ?_) (fun kw => ?_)
  · have e1 : doR d o = (d, [], why d o) := by simp only [doR, if_neg k7, if_neg k8, if_neg k9, if_neg kr]; rw [if_pos kw]
    rw [e1]
    (repeat (first | ((repeat apply Exists.intro); first | refine ⟨H.ld (by exact ⟨rfl, rfl, rfl, rfl⟩) (by first | exact sclInt | exact sclBool | exact sclStr | exact rsclN | exact rsclF | exact rsclNN | exact rsclSS | exact rsclSI | exact rsclU) (by repeat first | exact .head _ | refine .tail _ ?_) rfl, ?_⟩ | refine ⟨H.ldA (by exact ⟨rfl, rfl, rfl, rfl⟩) (by first | exact raggD | exact raggF | exact raggO | exact raggN | exact raggA) (by repeat first | exact .head _ | refine .tail _ ?_) rfl rfl, ?_⟩) | (intro _ _ hn; replace H := H.new (by exact ⟨rfl, rfl, rfl, rfl⟩) hn; clear hn) | ((first | (apply Hp.st; (case H => first | exact H | exact H.pull1 | exact H.pull2 | exact H.pull3 | exact H.pull4 | exact H.pull5 | exact H.pull6 | exact H.pull7); (case e => exact ⟨rfl, rfl, rfl, rfl⟩); (case S => exact (by first | exact sclInt | exact sclBool | exact sclStr | exact rsclN | exact rsclF | exact rsclNN | exact rsclSS | exact rsclSI | exact rsclU)); (case hv => exact rfl); (case h1 => exact rfl); (case ho => exact Nat.le_of_ble_eq_true rfl); (case hc => exact rfl)) | (apply Hp.stA; (case H => first | exact H | exact H.pull1 | exact H.pull2 | exact H.pull3 | exact H.pull4 | exact H.pull5 | exact H.pull6 | exact H.pull7); (case e => exact ⟨rfl, rfl, rfl, rfl⟩); (case S => exact (by first | exact raggD | exact raggF | exact raggO | exact raggN | exact raggA)); (case hn => exact rfl); (case h1 => exact rfl); (case ho => exact Nat.le_of_ble_eq_true rfl); (case hc => exact rfl))); clear H; intro _ H; (try simp only [over, List.set_cons_zero, List.set_cons_succ] at H))))
    exact RPostK.same h hF H.chg d (h.chg0 H.chg) rfl
  obtain ⟨z1, z2, z3, z4, z5, z6⟩ := why_zero kw
  ((repeat apply Exists.intro); first | refine ⟨H.ld (by exact ⟨rfl, rfl, rfl, rfl⟩) (by first | exact sclInt | exact sclBool | exact sclStr | exact rsclN | exact rsclF | exact rsclNN | exact rsclSS | exact rsclSI | exact rsclU) (by repeat first | exact .head _ | refine .tail _ ?_) rfl, ?_⟩ | refine ⟨H.ldA (by exact ⟨rfl, rfl, rfl, rfl⟩) (by first | exact raggD | exact raggF | exact raggO | exact raggN | exact raggA) (by repeat first | exact .head _ | refine .tail _ ?_) rfl rfl, ?_⟩)
  refine br_dec (fun k2 => ?_) (fun k2 => ?_)
  · obtain ⟨k, hk⟩ := z3 (by omega) (by omega)
    obtain ⟨y1, y2⟩ := z5 k2
    have hlt := hok.find hk
    obtain ⟨x, f, h1, h2, h3⟩ := h.at hlt
    obtain ⟨c1, c2, c3, c4⟩ := fileCs_at h1 h2
    have hsz : d.size o.name = f.now.length := by simp only [Dk.size, hk, Dk.len, h3]
    have hnl2 : o.n.toNat < f.now.length := by omega
    have e1 : doR d o = (d, f.now[o.n.toNat], 0) := by
      simp only [doR, if_neg k7, if_neg k8, if_neg k9, if_neg kr]
      rw [if_neg (by simp [kw]), if_pos k2, hk]
      simp [h3, hnl2]
    rw [e1]
    replace H := H.drew
    refine ⟨_, _, _, _, _, _, _, _, _, _, _, _, _, _, _, _, H.ldA (by exact ⟨rfl, rfl, rfl, rfl⟩) raggD (.tail _ (.tail _ (.tail _ (.head _)))) rfl rfl, ?_⟩
    ((repeat apply Exists.intro); first | refine ⟨H.ld (by exact ⟨rfl, rfl, rfl, rfl⟩) (by first | exact sclInt | exact sclBool | exact sclStr | exact rsclN | exact rsclF | exact rsclNN | exact rsclSS | exact rsclSI | exact rsclU) (by repeat first | exact .head _ | refine .tail _ ?_) rfl, ?_⟩ | refine ⟨H.ldA (by exact ⟨rfl, rfl, rfl, rfl⟩) (by first | exact raggD | exact raggF | exact raggO | exact raggN | exact raggA) (by repeat first | exact .head _ | refine .tail _ ?_) rfl rfl, ?_⟩)
    ((repeat apply Exists.intro); first | refine ⟨H.ld (by exact ⟨rfl, rfl, rfl, rfl⟩) (by first | exact sclInt | exact sclBool | exact sclStr | exact rsclN | exact rsclF | exact rsclNN | exact rsclSS | exact rsclSI | exact rsclU) (by repeat first | exact .head _ | refine .tail _ ?_) rfl, ?_⟩ | refine ⟨H.ldA (by exact ⟨rfl, rfl, rfl, rfl⟩) (by first | exact raggD | exact raggF | exact raggO | exact raggN | exact raggA) (by repeat first | exact .head _ | refine .tail _ ?_) rfl rfl, ?_⟩)
    ((repeat apply Exists.intro); first | refine ⟨H.ld (by exact ⟨rfl, rfl, rfl, rfl⟩) (by first | exact sclInt | exact sclBool | exact sclStr | exact rsclN | exact rsclF | exact rsclNN | exact rsclSS | exact rsclSI | exact rsclU) (by repeat first | exact .head _ | refine .tail _ ?_) rfl, ?_⟩ | refine ⟨H.ldA (by exact ⟨rfl, rfl, rfl, rfl⟩) (by first | exact raggD | exact raggF | exact raggO | exact raggN | exact raggA) (by repeat first | exact .head _ | refine .tail _ ?_) rfl rfl, ?_⟩)
    ((repeat apply Exists.intro); first | refine ⟨H.ld (by exact ⟨rfl, rfl, rfl, rfl⟩) (by first | exact sclInt | exact sclBool | exact sclStr | exact rsclN | exact rsclF | exact rsclNN | exact rsclSS | exact rsclSI | exact rsclU) (by repeat first | exact .head _ | refine .tail _ ?_) rfl, ?_⟩ | refine ⟨H.ldA (by exact ⟨rfl, rfl, rfl, rfl⟩) (by first | exact raggD | exact raggF | exact raggO | exact raggN | exact raggA) (by repeat first | exact .head _ | refine .tail _ ?_) rfl rfl, ?_⟩)
    refine callV (rfind_spec (h.chg0 H.chg).names (by omega) o.name) ?_
    rintro e w6 ⟨rfl, H'⟩; replace H := H.ext0 H'; clear H'
    have hf : nget d.names o.name = some k := hk
    rw [hf]
    have mo : Asn.blk bo [.int .i64 o.kind, .int .i64 o.n, .string o.name, .string o.to, .slice ow.ba o.b.length ow.bc, .slice ow.pa o.picks.length ow.pc] 49 ∈ [Asn.blk ba [.string ⟨#[]⟩, .int .i64 0] 53, .blk bu [.int .i64 0, .slice none 0 0, .slice none 0 0, .slice none 0 0, .slice none 0 0, .int .i64 0, .int .i64 0, .bool false] 44, .blk bo [.int .i64 o.kind, .int .i64 o.n, .string o.name, .string o.to, .slice ow.ba o.b.length ow.bc, .slice ow.pa o.picks.length ow.pc] 49, .blk bd [.int .i64 (d.room : Int), .slice v.fa d.files.length v.fc, .slice v.na d.names.length v.nc, .slice v.ia d.firm.length v.ic, .slice v.sa d.snaps.length v.sc, .int .i64 (d.armed : Int), .int .i64 (d.denied : Int), .bool d.dead] 44] := .tail _ (.tail _ (.head _))
    refine ⟨_, rfl, H.ld (by exact ⟨rfl, rfl, rfl, rfl⟩) sclInt (.tail _ (.tail _ (.head _))) rfl, H.ld (by exact ⟨rfl, rfl, rfl, rfl⟩) rsclF (.tail _ (.tail _ (.tail _ (.head _)))) rfl, H.ldA (by exact ⟨rfl, rfl, rfl, rfl⟩) raggD (.tail _ (.tail _ (.tail _ (.head _)))) rfl rfl, ?_⟩
    simp only [fcode, Int.toNat_natCast, Nat.mul_one]
    obtain ⟨ad, ha, hld⟩ := (h.chg0 H.chg).files.ld (P := Go.Proofs.Try.prog) rsclSS c1
    refine onP_mk ha ⟨⟨by omega, by omega⟩, _, _, _, hld, ?_⟩
    obtain ⟨an, han, hldn⟩ := ((h.chg0 H.chg).each k x f h1 h2).now.ld (P := Go.Proofs.Try.prog) sclStr (strs_at (List.getElem?_eq_getElem hnl2))
    refine onP_mk han ⟨⟨by omega, by omega⟩, _, hldn, ?_⟩
    refine Hp.stA H.pull1 (by exact ⟨rfl, rfl, rfl, rfl⟩) raggD rfl rfl (by simp) rfl ?_
    clear H; intro w7 H
    obtain ⟨ad2, ha2, hld2⟩ := (h.chg0 H.chg).files.ld (P := Go.Proofs.Try.prog) rsclSS c1
    obtain ⟨an2, han2, hldn2⟩ := ((h.chg0 H.chg).each k x f h1 h2).now.ld (P := Go.Proofs.Try.prog) sclStr (strs_at (List.getElem?_eq_getElem hnl2))
    have hadd : ad2 = ad := by rw [ha] at ha2; exact (Option.some.inj ha2).symm
    have hann : an2 = an := by rw [han] at han2; exact (Option.some.inj han2).symm
    subst hadd hann
    refine ⟨hldn2, hld2, H.ld (by exact ⟨rfl, rfl, rfl, rfl⟩) sclInt (.tail _ (.tail _ (.head _))) rfl, H.ld (by exact ⟨rfl, rfl, rfl, rfl⟩) rsclF (.tail _ (.tail _ (.tail _ (.head _)))) rfl, ?_⟩
    refine Hp.stA H.pull1 (by exact ⟨rfl, rfl, rfl, rfl⟩) raggA (vs := [.string ⟨f.now[o.n.toNat].toArray⟩, .int .i64 0]) rfl rfl (by simp) rfl ?_
    clear H; intro w12 H
    refine ⟨_, _, _, _, _, _, _, _, _, _, _, _, _, _, _, _, H.ldA (by exact ⟨rfl, rfl, rfl, rfl⟩) raggD (.tail _ (.head _)) rfl rfl, ?_⟩
    refine ⟨_, _, H.ldA (by exact ⟨rfl, rfl, rfl, rfl⟩) raggA (.head _) rfl rfl, ?_⟩
    exact RPostK.same h hF H.chg d (h.chg0 H.chg) rfl
  refine JoinP.mk (fun (s : Bool) (w' : World) => s = decide (o.kind = 4 ∧ o.name = o.to) ∧ Hp [] w w' (doL ba bu bo bd v d ow o)) ?_ ?_
  rotate_left
  · intro J hJ
    ((repeat apply Exists.intro); first | refine ⟨H.ld (by exact ⟨rfl, rfl, rfl, rfl⟩) (by first | exact sclInt | exact sclBool | exact sclStr | exact rsclN | exact rsclF | exact rsclNN | exact rsclSS | exact rsclSI | exact rsclU) (by repeat first | exact .head _ | refine .tail _ ?_) rfl, ?_⟩ | refine ⟨H.ldA (by exact ⟨rfl, rfl, rfl, rfl⟩) (by first | exact raggD | exact raggF | exact raggO | exact raggN | exact raggA) (by repeat first | exact .head _ | refine .tail _ ?_) rfl rfl, ?_⟩)
    refine br_dec (fun h0 => ?_) (fun h0 => hJ _ _ ⟨by simp [h0], H⟩)
    ((repeat apply Exists.intro); first | refine ⟨H.ld (by exact ⟨rfl, rfl, rfl, rfl⟩) (by first | exact sclInt | exact sclBool | exact sclStr | exact rsclN | exact rsclF | exact rsclNN | exact rsclSS | exact rsclSI | exact rsclU) (by repeat first | exact .head _ | refine .tail _ ?_) rfl, ?_⟩ | refine ⟨H.ldA (by exact ⟨rfl, rfl, rfl, rfl⟩) (by first | exact raggD | exact raggF | exact raggO | exact raggN | exact raggA) (by repeat first | exact .head _ | refine .tail _ ?_) rfl rfl, ?_⟩)
    ((repeat apply Exists.intro); first | refine ⟨H.ld (by exact ⟨rfl, rfl, rfl, rfl⟩) (by first | exact sclInt | exact sclBool | exact sclStr | exact rsclN | exact rsclF | exact rsclNN | exact rsclSS | exact rsclSI | exact rsclU) (by repeat first | exact .head _ | refine .tail _ ?_) rfl, ?_⟩ | refine ⟨H.ldA (by exact ⟨rfl, rfl, rfl, rfl⟩) (by first | exact raggD | exact raggF | exact raggO | exact raggN | exact raggA) (by repeat first | exact .head _ | refine .tail _ ?_) rfl rfl, ?_⟩)
    exact hJ _ _ ⟨by simp [h0], H⟩
  clear H w4 w5
  rintro s w4 ⟨rfl, H⟩
  simp only [doL] at H
  refine br_dec (fun k4 => ?_) (fun k4 => ?_)
  · have e1 : doR d o = (d, [], 0) := by
      simp only [doR, if_neg k7, if_neg k8, if_neg k9, if_neg kr]
      rw [if_neg (by simp [kw]), if_neg k2, if_pos k4]
    rw [e1]
    (repeat (first | ((repeat apply Exists.intro); first | refine ⟨H.ld (by exact ⟨rfl, rfl, rfl, rfl⟩) (by first | exact sclInt | exact sclBool | exact sclStr | exact rsclN | exact rsclF | exact rsclNN | exact rsclSS | exact rsclSI | exact rsclU) (by repeat first | exact .head _ | refine .tail _ ?_) rfl, ?_⟩ | refine ⟨H.ldA (by exact ⟨rfl, rfl, rfl, rfl⟩) (by first | exact raggD | exact raggF | exact raggO | exact raggN | exact raggA) (by repeat first | exact .head _ | refine .tail _ ?_) rfl rfl, ?_⟩) | (intro _ _ hn; replace H := H.new (by exact ⟨rfl, rfl, rfl, rfl⟩) hn; clear hn) | ((first | (apply Hp.st; (case H => first | exact H | exact H.pull1 | exact H.pull2 | exact H.pull3 | exact H.pull4 | exact H.pull5 | exact H.pull6 | exact H.pull7); (case e => exact ⟨rfl, rfl, rfl, rfl⟩); (case S => exact (by first | exact sclInt | exact sclBool | exact sclStr | exact rsclN | exact rsclF | exact rsclNN | exact rsclSS | exact rsclSI | exact rsclU)); (case hv => exact rfl); (case h1 => exact rfl); (case ho => exact Nat.le_of_ble_eq_true rfl); (case hc => exact rfl)) | (apply Hp.stA; (case H => first | exact H | exact H.pull1 | exact H.pull2 | exact H.pull3 | exact H.pull4 | exact H.pull5 | exact H.pull6 | exact H.pull7); (case e => exact ⟨rfl, rfl, rfl, rfl⟩); (case S => exact (by first | exact raggD | exact raggF | exact raggO | exact raggN | exact raggA)); (case hn => exact rfl); (case h1 => exact rfl); (case ho => exact Nat.le_of_ble_eq_true rfl); (case hc => exact rfl))); clear H; intro _ H; (try simp only [over, List.set_cons_zero, List.set_cons_succ] at H))))
    exact RPostK.same h hF H.chg d (h.chg0 H.chg) rfl
  have hdn := hok.denied
  have hda := hok.armed
  by_cases hio : (o.kind = 1 ∨ o.kind = 3) ∧ d.refused = true
  · -- refused
    have hd1 : d.denied = 1 := by simpa [Dk.refused] using hio.2
    have e1 : doR d o = (d.denies, [], 95) := by
      simp only [doR, if_neg k7, if_neg k8, if_neg k9, if_neg kr]
      rw [if_neg (by simp [kw]), if_neg k2, if_neg k4, if_pos hio]
    rw [e1]
    have hi1 : (d.denied : Int) - 1 = ((d.denied - 1 : Nat) : Int) := by omega
    refine JoinP.mk (fun (s : PUnit) (w' : World) => False) (fun _ _ h => h.elim) ?_
    intro J hJ
    refine JoinP.mk (fun (s : Bool) (w' : World) => s = true ∧ Hp [] w w' (doL ba bu bo bd v d ow o)) ?_ ?_
    · clear H
      rintro s w5 ⟨rfl, H⟩
      simp only [doL] at H
      refine br_true ?_
      ((repeat apply Exists.intro); first | refine ⟨H.ld (by exact ⟨rfl, rfl, rfl, rfl⟩) (by first | exact sclInt | exact sclBool | exact sclStr | exact rsclN | exact rsclF | exact rsclNN | exact rsclSS | exact rsclSI | exact rsclU) (by repeat first | exact .head _ | refine .tail _ ?_) rfl, ?_⟩ | refine ⟨H.ldA (by exact ⟨rfl, rfl, rfl, rfl⟩) (by first | exact raggD | exact raggF | exact raggO | exact raggN | exact raggA) (by repeat first | exact .head _ | refine .tail _ ?_) rfl rfl, ?_⟩)
      refine ⟨inR64.2 (by omega), ?_⟩
      rw [hi1]
      ((first | (apply Hp.st; (case H => first | exact H | exact H.pull1 | exact H.pull2 | exact H.pull3 | exact H.pull4 | exact H.pull5 | exact H.pull6 | exact H.pull7); (case e => exact ⟨rfl, rfl, rfl, rfl⟩); (case S => exact (by first | exact sclInt | exact sclBool | exact sclStr | exact rsclN | exact rsclF | exact rsclNN | exact rsclSS | exact rsclSI | exact rsclU)); (case hv => exact rfl); (case h1 => exact rfl); (case ho => exact Nat.le_of_ble_eq_true rfl); (case hc => exact rfl)) | (apply Hp.stA; (case H => first | exact H | exact H.pull1 | exact H.pull2 | exact H.pull3 | exact H.pull4 | exact H.pull5 | exact H.pull6 | exact H.pull7); (case e => exact ⟨rfl, rfl, rfl, rfl⟩); (case S => exact (by first | exact raggD | exact raggF | exact raggO | exact raggN | exact raggA)); (case hn => exact rfl); (case h1 => exact rfl); (case ho => exact Nat.le_of_ble_eq_true rfl); (case hc => exact rfl))); clear H; intro _ H; (try simp only [over, List.set_cons_zero, List.set_cons_succ] at H))
      ((repeat apply Exists.intro); first | refine ⟨H.ld (by exact ⟨rfl, rfl, rfl, rfl⟩) (by first | exact sclInt | exact sclBool | exact sclStr | exact rsclN | exact rsclF | exact rsclNN | exact rsclSS | exact rsclSI | exact rsclU) (by repeat first | exact .head _ | refine .tail _ ?_) rfl, ?_⟩ | refine ⟨H.ldA (by exact ⟨rfl, rfl, rfl, rfl⟩) (by first | exact raggD | exact raggF | exact raggO | exact raggN | exact raggA) (by repeat first | exact .head _ | refine .tail _ ?_) rfl rfl, ?_⟩)
      refine br_dec (fun _ => ?_) (fun h => absurd (by omega) h)
      (repeat (first | ((repeat apply Exists.intro); first | refine ⟨H.ld (by exact ⟨rfl, rfl, rfl, rfl⟩) (by first | exact sclInt | exact sclBool | exact sclStr | exact rsclN | exact rsclF | exact rsclNN | exact rsclSS | exact rsclSI | exact rsclU) (by repeat first | exact .head _ | refine .tail _ ?_) rfl, ?_⟩ | refine ⟨H.ldA (by exact ⟨rfl, rfl, rfl, rfl⟩) (by first | exact raggD | exact raggF | exact raggO | exact raggN | exact raggA) (by repeat first | exact .head _ | refine .tail _ ?_) rfl rfl, ?_⟩) | (intro _ _ hn; replace H := H.new (by exact ⟨rfl, rfl, rfl, rfl⟩) hn; clear hn) | ((first | (apply Hp.st; (case H => first | exact H | exact H.pull1 | exact H.pull2 | exact H.pull3 | exact H.pull4 | exact H.pull5 | exact H.pull6 | exact H.pull7); (case e => exact ⟨rfl, rfl, rfl, rfl⟩); (case S => exact (by first | exact sclInt | exact sclBool | exact sclStr | exact rsclN | exact rsclF | exact rsclNN | exact rsclSS | exact rsclSI | exact rsclU)); (case hv => exact rfl); (case h1 => exact rfl); (case ho => exact Nat.le_of_ble_eq_true rfl); (case hc => exact rfl)) | (apply Hp.stA; (case H => first | exact H | exact H.pull1 | exact H.pull2 | exact H.pull3 | exact H.pull4 | exact H.pull5 | exact H.pull6 | exact H.pull7); (case e => exact ⟨rfl, rfl, rfl, rfl⟩); (case S => exact (by first | exact raggD | exact raggF | exact raggO | exact raggN | exact raggA)); (case hn => exact rfl); (case h1 => exact rfl); (case ho => exact Nat.le_of_ble_eq_true rfl); (case hc => exact rfl))); clear H; intro _ H; (try simp only [over, List.set_cons_zero, List.set_cons_succ] at H))))
      exact RPostK.same h hF H.chg d.denies ((h.chg0 H.chg).flags _ _ _) rfl
    · intro J hJ
      ((repeat apply Exists.intro); first | refine ⟨H.ld (by exact ⟨rfl, rfl, rfl, rfl⟩) (by first | exact sclInt | exact sclBool | exact sclStr | exact rsclN | exact rsclF | exact rsclNN | exact rsclSS | exact rsclSI | exact rsclU) (by repeat first | exact .head _ | refine .tail _ ?_) rfl, ?_⟩ | refine ⟨H.ldA (by exact ⟨rfl, rfl, rfl, rfl⟩) (by first | exact raggD | exact raggF | exact raggO | exact raggN | exact raggA) (by repeat first | exact .head _ | refine .tail _ ?_) rfl rfl, ?_⟩)
      refine br_dec (fun h0 => ?_) (fun h0 => ?_)
      · ((repeat apply Exists.intro); first | refine ⟨H.ld (by exact ⟨rfl, rfl, rfl, rfl⟩) (by first | exact sclInt | exact sclBool | exact sclStr | exact rsclN | exact rsclF | exact rsclNN | exact rsclSS | exact rsclSI | exact rsclU) (by repeat first | exact .head _ | refine .tail _ ?_) rfl, ?_⟩ | refine ⟨H.ldA (by exact ⟨rfl, rfl, rfl, rfl⟩) (by first | exact raggD | exact raggF | exact raggO | exact raggN | exact raggA) (by repeat first | exact .head _ | refine .tail _ ?_) rfl rfl, ?_⟩)
        exact hJ _ _ ⟨by simp; omega, H⟩
      · ((repeat apply Exists.intro); first | refine ⟨H.ld (by exact ⟨rfl, rfl, rfl, rfl⟩) (by first | exact sclInt | exact sclBool | exact sclStr | exact rsclN | exact rsclF | exact rsclNN | exact rsclSS | exact rsclSI | exact rsclU) (by repeat first | exact .head _ | refine .tail _ ?_) rfl, ?_⟩ | refine ⟨H.ldA (by exact ⟨rfl, rfl, rfl, rfl⟩) (by first | exact raggD | exact raggF | exact raggO | exact raggN | exact raggA) (by repeat first | exact .head _ | refine .tail _ ?_) rfl rfl, ?_⟩)
        refine br_dec (fun h1 => ?_) (fun h1 => by omega)
        ((repeat apply Exists.intro); first | refine ⟨H.ld (by exact ⟨rfl, rfl, rfl, rfl⟩) (by first | exact sclInt | exact sclBool | exact sclStr | exact rsclN | exact rsclF | exact rsclNN | exact rsclSS | exact rsclSI | exact rsclU) (by repeat first | exact .head _ | refine .tail _ ?_) rfl, ?_⟩ | refine ⟨H.ldA (by exact ⟨rfl, rfl, rfl, rfl⟩) (by first | exact raggD | exact raggF | exact raggO | exact raggN | exact raggA) (by repeat first | exact .head _ | refine .tail _ ?_) rfl rfl, ?_⟩)
        exact hJ _ _ ⟨by simp; omega, H⟩
  · have hnr : doR d o = (if (Dk.den d o).dies.dead then ((if o.kind ≠ 3 ∧ o.kind ≠ 6 then doesD (Dk.den d o).dies o else (Dk.den d o).dies), [], 93) else (doesD (Dk.den d o).dies o, [], 0)) := by
      simp only [doR, if_neg k7, if_neg k8, if_neg k9, if_neg kr]
      rw [if_neg (by simp [kw]), if_neg k2, if_neg k4, if_neg hio]
    obtain ⟨q, hq⟩ : ∃ q, q = Dk.den d o := ⟨_, rfl⟩
    have hqf : ∃ b, q = { d with denied := b } := by
      rw [hq]; unfold Dk.den
      split
      · exact ⟨_, rfl⟩
      · exact ⟨d.denied, rfl⟩
    have hqa : q.armed = d.armed := by obtain ⟨b, e⟩ := hqf; rw [e]
    refine JoinP.mk (fun (s : PUnit) (w' : World) => Hp [] w w' (doL ba bu bo bd v q ow o)) ?_ ?_
    rotate_left
    · intro J hJ
      refine JoinP.mk (fun (s : Bool) (w' : World) => s = decide ((o.kind = 1 ∨ o.kind = 3) ∧ 0 < d.denied) ∧ Hp [] w w' (doL ba bu bo bd v d ow o)) ?_ ?_
      · clear H
        rintro s w5 ⟨rfl, H⟩
        refine br_dec (fun hs => ?_) (fun hs => ?_)
        · have hi1 : (d.denied : Int) - 1 = ((d.denied - 1 : Nat) : Int) := by omega
          have hqd : q = d.denies := by rw [hq]; exact if_pos hs
          simp only [doL] at H
          ((repeat apply Exists.intro); first | refine ⟨H.ld (by exact ⟨rfl, rfl, rfl, rfl⟩) (by first | exact sclInt | exact sclBool | exact sclStr | exact rsclN | exact rsclF | exact rsclNN | exact rsclSS | exact rsclSI | exact rsclU) (by repeat first | exact .head _ | refine .tail _ ?_) rfl, ?_⟩ | refine ⟨H.ldA (by exact ⟨rfl, rfl, rfl, rfl⟩) (by first | exact raggD | exact raggF | exact raggO | exact raggN | exact raggA) (by repeat first | exact .head _ | refine .tail _ ?_) rfl rfl, ?_⟩)
          refine ⟨inR64.2 (by omega), ?_⟩
          rw [hi1]
          ((first | (apply Hp.st; (case H => first | exact H | exact H.pull1 | exact H.pull2 | exact H.pull3 | exact H.pull4 | exact H.pull5 | exact H.pull6 | exact H.pull7); (case e => exact ⟨rfl, rfl, rfl, rfl⟩); (case S => exact (by first | exact sclInt | exact sclBool | exact sclStr | exact rsclN | exact rsclF | exact rsclNN | exact rsclSS | exact rsclSI | exact rsclU)); (case hv => exact rfl); (case h1 => exact rfl); (case ho => exact Nat.le_of_ble_eq_true rfl); (case hc => exact rfl)) | (apply Hp.stA; (case H => first | exact H | exact H.pull1 | exact H.pull2 | exact H.pull3 | exact H.pull4 | exact H.pull5 | exact H.pull6 | exact H.pull7); (case e => exact ⟨rfl, rfl, rfl, rfl⟩); (case S => exact (by first | exact raggD | exact raggF | exact raggO | exact raggN | exact raggA)); (case hn => exact rfl); (case h1 => exact rfl); (case ho => exact Nat.le_of_ble_eq_true rfl); (case hc => exact rfl))); clear H; intro _ H; (try simp only [over, List.set_cons_zero, List.set_cons_succ] at H))
          ((repeat apply Exists.intro); first | refine ⟨H.ld (by exact ⟨rfl, rfl, rfl, rfl⟩) (by first | exact sclInt | exact sclBool | exact sclStr | exact rsclN | exact rsclF | exact rsclNN | exact rsclSS | exact rsclSI | exact rsclU) (by repeat first | exact .head _ | refine .tail _ ?_) rfl, ?_⟩ | refine ⟨H.ldA (by exact ⟨rfl, rfl, rfl, rfl⟩) (by first | exact raggD | exact raggF | exact raggO | exact raggN | exact raggA) (by repeat first | exact .head _ | refine .tail _ ?_) rfl rfl, ?_⟩)
          have hne : d.denied ≠ 1 := fun e => hio ⟨hs.1, by simp [Dk.refused, e]⟩
          refine br_dec (fun h => by omega) (fun _ => ?_)
          refine hJ _ _ ?_
          rw [hqd]
          simp only [doL]
          have H2 := H.pull3
          ((try dsimp only [List.cons_append, List.nil_append]); (try dsimp only [List.cons_append, List.nil_append] at H); refine Hp.perm H ?_; (repeat (apply perm_step; (focus first | exact perm_p0 | exact perm_p1 | exact perm_p2 | exact perm_p3 | exact perm_p4 | exact perm_p5 | exact perm_p6 | exact perm_p7 | exact perm_p8 | exact perm_p9))); exact List.Perm.refl _)
        · have hqd : q = d := by rw [hq]; exact if_neg hs
          refine hJ _ _ ?_
          rw [hqd]
          exact H
      · intro J hJ
        have hdi : decide (0 < (d.denied : Int)) = decide (0 < d.denied) := by congr 1; exact propext (by omega)
        ((repeat apply Exists.intro); first | refine ⟨H.ld (by exact ⟨rfl, rfl, rfl, rfl⟩) (by first | exact sclInt | exact sclBool | exact sclStr | exact rsclN | exact rsclF | exact rsclNN | exact rsclSS | exact rsclSI | exact rsclU) (by repeat first | exact .head _ | refine .tail _ ?_) rfl, ?_⟩ | refine ⟨H.ldA (by exact ⟨rfl, rfl, rfl, rfl⟩) (by first | exact raggD | exact raggF | exact raggO | exact raggN | exact raggA) (by repeat first | exact .head _ | refine .tail _ ?_) rfl rfl, ?_⟩)
        refine br_dec (fun h0 => ?_) (fun h0 => ?_)
        · ((repeat apply Exists.intro); first | refine ⟨H.ld (by exact ⟨rfl, rfl, rfl, rfl⟩) (by first | exact sclInt | exact sclBool | exact sclStr | exact rsclN | exact rsclF | exact rsclNN | exact rsclSS | exact rsclSI | exact rsclU) (by repeat first | exact .head _ | refine .tail _ ?_) rfl, ?_⟩ | refine ⟨H.ldA (by exact ⟨rfl, rfl, rfl, rfl⟩) (by first | exact raggD | exact raggF | exact raggO | exact raggN | exact raggA) (by repeat first | exact .head _ | refine .tail _ ?_) rfl rfl, ?_⟩)
          exact hJ _ _ ⟨by rw [hdi]; simp [h0], H⟩
        · ((repeat apply Exists.intro); first | refine ⟨H.ld (by exact ⟨rfl, rfl, rfl, rfl⟩) (by first | exact sclInt | exact sclBool | exact sclStr | exact rsclN | exact rsclF | exact rsclNN | exact rsclSS | exact rsclSI | exact rsclU) (by repeat first | exact .head _ | refine .tail _ ?_) rfl, ?_⟩ | refine ⟨H.ldA (by exact ⟨rfl, rfl, rfl, rfl⟩) (by first | exact raggD | exact raggF | exact raggO | exact raggN | exact raggA) (by repeat first | exact .head _ | refine .tail _ ?_) rfl rfl, ?_⟩)
          refine br_dec (fun h1 => ?_) (fun h1 => hJ _ _ ⟨by simp [h0, h1], H⟩)
          ((repeat apply Exists.intro); first | refine ⟨H.ld (by exact ⟨rfl, rfl, rfl, rfl⟩) (by first | exact sclInt | exact sclBool | exact sclStr | exact rsclN | exact rsclF | exact rsclNN | exact rsclSS | exact rsclSI | exact rsclU) (by repeat first | exact .head _ | refine .tail _ ?_) rfl, ?_⟩ | refine ⟨H.ldA (by exact ⟨rfl, rfl, rfl, rfl⟩) (by first | exact raggD | exact raggF | exact raggO | exact raggN | exact raggA) (by repeat first | exact .head _ | refine .tail _ ?_) rfl rfl, ?_⟩)
          exact hJ _ _ ⟨by rw [hdi]; simp [h1], H⟩
    clear H w4
    rintro s w4 H
    simp only [doL] at H
    refine JoinP.mk (fun (s : PUnit) (w' : World) => Hp [] w w' (doL ba bu bo bd v q.dies ow o)) ?_ ?_
    rotate_left
    · intro J hJ
      ((repeat apply Exists.intro); first | refine ⟨H.ld (by exact ⟨rfl, rfl, rfl, rfl⟩) (by first | exact sclInt | exact sclBool | exact sclStr | exact rsclN | exact rsclF | exact rsclNN | exact rsclSS | exact rsclSI | exact rsclU) (by repeat first | exact .head _ | refine .tail _ ?_) rfl, ?_⟩ | refine ⟨H.ldA (by exact ⟨rfl, rfl, rfl, rfl⟩) (by first | exact raggD | exact raggF | exact raggO | exact raggN | exact raggA) (by repeat first | exact .head _ | refine .tail _ ?_) rfl rfl, ?_⟩)
      refine br_dec (fun h0 => ?_) (fun h0 => ?_)
      · have e1 : q.dies = { q with armed := q.armed - 1, dead := decide (q.armed - 1 = 0) } := if_pos (by omega)
        have e2 : (q.armed : Int) - 1 = ((q.armed - 1 : Nat) : Int) := by omega
        have e3 : decide (((q.armed - 1 : Nat) : Int) = 0) = decide (q.armed - 1 = 0) := by congr 1; exact propext (by omega)
        ((repeat apply Exists.intro); first | refine ⟨H.ld (by exact ⟨rfl, rfl, rfl, rfl⟩) (by first | exact sclInt | exact sclBool | exact sclStr | exact rsclN | exact rsclF | exact rsclNN | exact rsclSS | exact rsclSI | exact rsclU) (by repeat first | exact .head _ | refine .tail _ ?_) rfl, ?_⟩ | refine ⟨H.ldA (by exact ⟨rfl, rfl, rfl, rfl⟩) (by first | exact raggD | exact raggF | exact raggO | exact raggN | exact raggA) (by repeat first | exact .head _ | refine .tail _ ?_) rfl rfl, ?_⟩)
        refine ⟨inR64.2 (by omega), ?_⟩
        rw [e2]
        ((first | (apply Hp.st; (case H => first | exact H | exact H.pull1 | exact H.pull2 | exact H.pull3 | exact H.pull4 | exact H.pull5 | exact H.pull6 | exact H.pull7); (case e => exact ⟨rfl, rfl, rfl, rfl⟩); (case S => exact (by first | exact sclInt | exact sclBool | exact sclStr | exact rsclN | exact rsclF | exact rsclNN | exact rsclSS | exact rsclSI | exact rsclU)); (case hv => exact rfl); (case h1 => exact rfl); (case ho => exact Nat.le_of_ble_eq_true rfl); (case hc => exact rfl)) | (apply Hp.stA; (case H => first | exact H | exact H.pull1 | exact H.pull2 | exact H.pull3 | exact H.pull4 | exact H.pull5 | exact H.pull6 | exact H.pull7); (case e => exact ⟨rfl, rfl, rfl, rfl⟩); (case S => exact (by first | exact raggD | exact raggF | exact raggO | exact raggN | exact raggA)); (case hn => exact rfl); (case h1 => exact rfl); (case ho => exact Nat.le_of_ble_eq_true rfl); (case hc => exact rfl))); clear H; intro _ H; (try simp only [over, List.set_cons_zero, List.set_cons_succ] at H))
        ((repeat apply Exists.intro); first | refine ⟨H.ld (by exact ⟨rfl, rfl, rfl, rfl⟩) (by first | exact sclInt | exact sclBool | exact sclStr | exact rsclN | exact rsclF | exact rsclNN | exact rsclSS | exact rsclSI | exact rsclU) (by repeat first | exact .head _ | refine .tail _ ?_) rfl, ?_⟩ | refine ⟨H.ldA (by exact ⟨rfl, rfl, rfl, rfl⟩) (by first | exact raggD | exact raggF | exact raggO | exact raggN | exact raggA) (by repeat first | exact .head _ | refine .tail _ ?_) rfl rfl, ?_⟩)
        ((first | (apply Hp.st; (case H => first | exact H | exact H.pull1 | exact H.pull2 | exact H.pull3 | exact H.pull4 | exact H.pull5 | exact H.pull6 | exact H.pull7); (case e => exact ⟨rfl, rfl, rfl, rfl⟩); (case S => exact (by first | exact sclInt | exact sclBool | exact sclStr | exact rsclN | exact rsclF | exact rsclNN | exact rsclSS | exact rsclSI | exact rsclU)); (case hv => exact rfl); (case h1 => exact rfl); (case ho => exact Nat.le_of_ble_eq_true rfl); (case hc => exact rfl)) | (apply Hp.stA; (case H => first | exact H | exact H.pull1 | exact H.pull2 | exact H.pull3 | exact H.pull4 | exact H.pull5 | exact H.pull6 | exact H.pull7); (case e => exact ⟨rfl, rfl, rfl, rfl⟩); (case S => exact (by first | exact raggD | exact raggF | exact raggO | exact raggN | exact raggA)); (case hn => exact rfl); (case h1 => exact rfl); (case ho => exact Nat.le_of_ble_eq_true rfl); (case hc => exact rfl))); clear H; intro _ H; (try simp only [over, List.set_cons_zero, List.set_cons_succ] at H))
        rw [e3] at H
        refine hJ _ _ ?_
        rw [e1]
        simp only [doL]
        ((try dsimp only [List.cons_append, List.nil_append]); (try dsimp only [List.cons_append, List.nil_append] at H); refine Hp.perm H ?_; (repeat (apply perm_step; (focus first | exact perm_p0 | exact perm_p1 | exact perm_p2 | exact perm_p3 | exact perm_p4 | exact perm_p5 | exact perm_p6 | exact perm_p7 | exact perm_p8 | exact perm_p9))); exact List.Perm.refl _)
      · have e1 : q.dies = q := if_neg (by omega)
        refine hJ _ _ ?_
        rw [e1]
        exact H
    clear H w4
    rintro s w4 H
    obtain ⟨fa, fb, fc, hfg⟩ := Dk.den_flags d o
    rw [← hq] at hfg hnr
    rw [hnr]
    have hR := (h.chg0 H.chg).flags fa fb fc
    rw [← hfg] at hR
    have hok2 : q.dies.Ok := by
      have : q.Ok := by
        rw [hq]; unfold Dk.den
        split
        · exact hok.denies
        · exact hok
      exact this.dies
    have few2 : q.dies.Few N := by rw [hfg]; exact few.flags _ _ _
    have hfind : q.dies.find o.name = d.find o.name := by rw [hfg]; rfl
    have hlen2 : ∀ k, q.dies.len k = d.len k := fun k => by rw [hfg]; rfl
    generalize q.dies = g at H hR hok2 few2 hfind hlen2 ⊢
    simp only [doL] at H
    have hc4 := H.chg
    have hcall := rdoes_spec hR (hFw H) hok2 few2 hN (ho.chg0 H.chg) (fun k1 => by
      obtain ⟨k, hk⟩ := z3 (by omega) (by omega)
      obtain ⟨y1, y2, y3, _⟩ := z4 k1
      have hsz : d.size o.name = d.len k := by simp only [Dk.size, hk]
      exact ⟨k, by rw [hfind]; exact hk, y1, by rw [hlen2]; omega, y3⟩) (fun k3 => by
      obtain ⟨k, hk⟩ := z3 (by omega) (by omega)
      exact ⟨k, by rw [hfind]; exact hk⟩) (fun k4' => by
      obtain ⟨k, hk⟩ := z3 (by omega) (by omega)
      exact ⟨k, by rw [hfind]; exact hk⟩)
    ((repeat apply Exists.intro); first | refine ⟨H.ld (by exact ⟨rfl, rfl, rfl, rfl⟩) (by first | exact sclInt | exact sclBool | exact sclStr | exact rsclN | exact rsclF | exact rsclNN | exact rsclSS | exact rsclSI | exact rsclU) (by repeat first | exact .head _ | refine .tail _ ?_) rfl, ?_⟩ | refine ⟨H.ldA (by exact ⟨rfl, rfl, rfl, rfl⟩) (by first | exact raggD | exact raggF | exact raggO | exact raggN | exact raggA) (by repeat first | exact .head _ | refine .tail _ ?_) rfl rfl, ?_⟩)
    refine br_mk (fun hdd => ?_) (fun hdd => ?_)
    · rw [if_pos hdd]
      ((repeat apply Exists.intro); first | refine ⟨H.ld (by exact ⟨rfl, rfl, rfl, rfl⟩) (by first | exact sclInt | exact sclBool | exact sclStr | exact rsclN | exact rsclF | exact rsclNN | exact rsclSS | exact rsclSI | exact rsclU) (by repeat first | exact .head _ | refine .tail _ ?_) rfl, ?_⟩ | refine ⟨H.ldA (by exact ⟨rfl, rfl, rfl, rfl⟩) (by first | exact raggD | exact raggF | exact raggO | exact raggN | exact raggA) (by repeat first | exact .head _ | refine .tail _ ?_) rfl rfl, ?_⟩)
      refine br_ndec (fun n3 => ?_) (fun n3 => ?_)
      · ((repeat apply Exists.intro); first | refine ⟨H.ld (by exact ⟨rfl, rfl, rfl, rfl⟩) (by first | exact sclInt | exact sclBool | exact sclStr | exact rsclN | exact rsclF | exact rsclNN | exact rsclSS | exact rsclSI | exact rsclU) (by repeat first | exact .head _ | refine .tail _ ?_) rfl, ?_⟩ | refine ⟨H.ldA (by exact ⟨rfl, rfl, rfl, rfl⟩) (by first | exact raggD | exact raggF | exact raggO | exact raggN | exact raggA) (by repeat first | exact .head _ | refine .tail _ ?_) rfl rfl, ?_⟩)
        refine br_ndec (fun n6 => ?_) (fun n6 => ?_)
        · rw [if_pos ⟨n3, n6⟩]
          refine ⟨_, _, _, _, _, _, _, _, _, _, _, _, _, _, _, _, H.ldA (by exact ⟨rfl, rfl, rfl, rfl⟩) raggD (.tail _ (.tail _ (.tail _ (.head _)))) rfl rfl, ?_⟩
          refine ⟨_, _, _, _, _, _, _, _, _, _, H.ldA (by exact ⟨rfl, rfl, rfl, rfl⟩) raggO (.tail _ (.tail _ (.head _))) rfl rfl, ?_⟩
          refine callV hcall ?_
          intro e w10 hp
          obtain ⟨v', N2, rfl, H'⟩ := RPost.split hp
          replace H := H.ext H'; clear H'
          simp only [List.cons_append, List.nil_append] at H
          refine ⟨_, _, _, _, _, _, _, _, _, _, _, _, _, _, _, _, rfl, ?_⟩
          refine Hp.stA H.pull4 (by exact ⟨rfl, rfl, rfl, rfl⟩) raggD rfl rfl (by simp) rfl ?_
          clear H; intro w11 H
          refine ⟨_, _, _, _, _, _, _, _, _, _, _, _, _, _, _, _, H.ldA (by exact ⟨rfl, rfl, rfl, rfl⟩) raggD (.head _) rfl rfl, ?_⟩
          refine Hp.stA H.pull3 (by exact ⟨rfl, rfl, rfl, rfl⟩) raggD rfl rfl (by simp) rfl ?_
          clear H; intro w12 H
          refine Hp.stA H.pull3 (by exact ⟨rfl, rfl, rfl, rfl⟩) raggA rfl rfl (by simp) rfl ?_
          clear H; intro w13 H
          refine ⟨_, _, _, _, _, _, _, _, _, _, _, _, _, _, _, _, H.ldA (by exact ⟨rfl, rfl, rfl, rfl⟩) raggD (.tail _ (.head _)) rfl rfl, ?_⟩
          refine ⟨_, _, H.ldA (by exact ⟨rfl, rfl, rfl, rfl⟩) raggA (.head _) rfl rfl, ?_⟩
          exact RPostK.ofN H (.tail _ (.tail _ (.tail _ (.head _)))) hc4 hF rfl
        · rw [if_neg (fun h => h.2 n6)]
          (repeat (first | ((repeat apply Exists.intro); first | refine ⟨H.ld (by exact ⟨rfl, rfl, rfl, rfl⟩) (by first | exact sclInt | exact sclBool | exact sclStr | exact rsclN | exact rsclF | exact rsclNN | exact rsclSS | exact rsclSI | exact rsclU) (by repeat first | exact .head _ | refine .tail _ ?_) rfl, ?_⟩ | refine ⟨H.ldA (by exact ⟨rfl, rfl, rfl, rfl⟩) (by first | exact raggD | exact raggF | exact raggO | exact raggN | exact raggA) (by repeat first | exact .head _ | refine .tail _ ?_) rfl rfl, ?_⟩) | (intro _ _ hn; replace H := H.new (by exact ⟨rfl, rfl, rfl, rfl⟩) hn; clear hn) | ((first | (apply Hp.st; (case H => first | exact H | exact H.pull1 | exact H.pull2 | exact H.pull3 | exact H.pull4 | exact H.pull5 | exact H.pull6 | exact H.pull7); (case e => exact ⟨rfl, rfl, rfl, rfl⟩); (case S => exact (by first | exact sclInt | exact sclBool | exact sclStr | exact rsclN | exact rsclF | exact rsclNN | exact rsclSS | exact rsclSI | exact rsclU)); (case hv => exact rfl); (case h1 => exact rfl); (case ho => exact Nat.le_of_ble_eq_true rfl); (case hc => exact rfl)) | (apply Hp.stA; (case H => first | exact H | exact H.pull1 | exact H.pull2 | exact H.pull3 | exact H.pull4 | exact H.pull5 | exact H.pull6 | exact H.pull7); (case e => exact ⟨rfl, rfl, rfl, rfl⟩); (case S => exact (by first | exact raggD | exact raggF | exact raggO | exact raggN | exact raggA)); (case hn => exact rfl); (case h1 => exact rfl); (case ho => exact Nat.le_of_ble_eq_true rfl); (case hc => exact rfl))); clear H; intro _ H; (try simp only [over, List.set_cons_zero, List.set_cons_succ] at H))))
          exact ⟨v, F, rfl, H.chg, fun k hk => .inl hk, hFw H, hR.agree fun k hk => by rw [H.chg.2.2.2.2 k (hF k hk) (by simp), hc4.2.2.2.2 k (hF k hk) (by simp)]⟩
      · rw [if_neg (fun h => h.1 n3)]
        (repeat (first | ((repeat apply Exists.intro); first | refine ⟨H.ld (by exact ⟨rfl, rfl, rfl, rfl⟩) (by first | exact sclInt | exact sclBool | exact sclStr | exact rsclN | exact rsclF | exact rsclNN | exact rsclSS | exact rsclSI | exact rsclU) (by repeat first | exact .head _ | refine .tail _ ?_) rfl, ?_⟩ | refine ⟨H.ldA (by exact ⟨rfl, rfl, rfl, rfl⟩) (by first | exact raggD | exact raggF | exact raggO | exact raggN | exact raggA) (by repeat first | exact .head _ | refine .tail _ ?_) rfl rfl, ?_⟩) | (intro _ _ hn; replace H := H.new (by exact ⟨rfl, rfl, rfl, rfl⟩) hn; clear hn) | ((first | (apply Hp.st; (case H => first | exact H | exact H.pull1 | exact H.pull2 | exact H.pull3 | exact H.pull4 | exact H.pull5 | exact H.pull6 | exact H.pull7); (case e => exact ⟨rfl, rfl, rfl, rfl⟩); (case S => exact (by first | exact sclInt | exact sclBool | exact sclStr | exact rsclN | exact rsclF | exact rsclNN | exact rsclSS | exact rsclSI | exact rsclU)); (case hv => exact rfl); (case h1 => exact rfl); (case ho => exact Nat.le_of_ble_eq_true rfl); (case hc => exact rfl)) | (apply Hp.stA; (case H => first | exact H | exact H.pull1 | exact H.pull2 | exact H.pull3 | exact H.pull4 | exact H.pull5 | exact H.pull6 | exact H.pull7); (case e => exact ⟨rfl, rfl, rfl, rfl⟩); (case S => exact (by first | exact raggD | exact raggF | exact raggO | exact raggN | exact raggA)); (case hn => exact rfl); (case h1 => exact rfl); (case ho => exact Nat.le_of_ble_eq_true rfl); (case hc => exact rfl))); clear H; intro _ H; (try simp only [over, List.set_cons_zero, List.set_cons_succ] at H))))
        exact ⟨v, F, rfl, H.chg, fun k hk => .inl hk, hFw H, hR.agree fun k hk => by rw [H.chg.2.2.2.2 k (hF k hk) (by simp), hc4.2.2.2.2 k (hF k hk) (by simp)]⟩
    · rw [if_neg (by simp [hdd])]
      refine ⟨_, _, _, _, _, _, _, _, _, _, _, _, _, _, _, _, H.ldA (by exact ⟨rfl, rfl, rfl, rfl⟩) raggD (.tail _ (.tail _ (.tail _ (.head _)))) rfl rfl, ?_⟩
      refine ⟨_, _, _, _, _, _, _, _, _, _, H.ldA (by exact ⟨rfl, rfl, rfl, rfl⟩) raggO (.tail _ (.tail _ (.head _))) rfl rfl, ?_⟩
      refine callV hcall ?_
      intro e w10 hp
      obtain ⟨v', N2, rfl, H'⟩ := RPost.split hp
      replace H := H.ext H'; clear H'
      simp only [List.cons_append, List.nil_append] at H
      refine ⟨_, _, _, _, _, _, _, _, _, _, _, _, _, _, _, _, rfl, ?_⟩
      refine Hp.stA H.pull2 (by exact ⟨rfl, rfl, rfl, rfl⟩) raggD rfl rfl (by simp) rfl ?_
      clear H; intro w12 H
      refine Hp.stA H.pull2 (by exact ⟨rfl, rfl, rfl, rfl⟩) raggA rfl rfl (by simp) rfl ?_
      clear H; intro w13 H
      refine ⟨_, _, _, _, _, _, _, _, _, _, _, _, _, _, _, _, H.ldA (by exact ⟨rfl, rfl, rfl, rfl⟩) raggD (.tail _ (.head _)) rfl rfl, ?_⟩
      refine ⟨_, _, H.ldA (by exact ⟨rfl, rfl, rfl, rfl⟩) raggA (.head _) rfl rfl, ?_⟩
      exact RPostK.ofN H (.tail _ (.tail _ (.head _))) hc4 hF rfl
end Go.Proofs.Ytdpkamajecmebaa
