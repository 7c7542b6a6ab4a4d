/- Vault: why the document refuses a call; what it does. -/
import Derived.Test.YtdpkamajecmebaaUj
set_option linter.unusedVariables false
set_option linter.unusedSimpArgs false
set_option maxRecDepth 100000
namespace Go.Proofs.Ytdpkamajecmebaa
open Go Go.Vc Go.Vault

/-- a disk of the document's, all that is new of it -/
def rdN (w : World) (F N : List Nat) (v : RV) (d : Dk) : Asn := .any N fun x => (∀ k ∈ F, x.heap[k]? = w.heap[k]?) → RD (F ++ N) x v d
theorem RPost.split {F : List Nat} {w w' : World} {d' : Dk} {e : Ending} (h : RPost F w d' e w') : ∃ v' N, e = .returned (v'.val d') ∧ Hp [] w w' [rdN w F N v' d'] := by
  obtain ⟨v', F', rfl, hc, h1, h2, h3⟩ := h
  refine ⟨v', F'.filter fun k => decide (w.heap.size ≤ k), rfl, hc, ?_, ?_, by simp⟩
  · intro a ha
    rw [List.mem_singleton] at ha; subst ha
    refine ⟨fun k hk => h2 k (List.mem_filter.1 hk).1, fun x hx hF => ?_⟩
    have hall : ∀ k ∈ F', k ∈ F ++ F'.filter fun k => decide (w.heap.size ≤ k) := fun k hk => by
      rcases h1 k hk with h | h
      · exact List.mem_append_left _ h
      · exact List.mem_append_right _ (List.mem_filter.2 ⟨hk, by simpa using h⟩)
    have : RD F' x v' d' := by
      refine h3.agree fun k hk => ?_
      by_cases hw : w.heap.size ≤ k
      · exact hx k (List.mem_filter.2 ⟨hk, by simpa using hw⟩)
      · rcases h1 k hk with h | h
        · rw [hF k h]; exact (hc.2.2.2.2 k (by omega) (by simp)).symm
        · omega
    exact this.more hall
  · intro a ha k hk
    rw [List.mem_singleton] at ha; subst ha
    right; simpa using (List.mem_filter.1 hk).2
theorem rdN_get {F N : List Nat} {w0 ws w1 : World} {L : List Asn} {v : RV} {d : Dk} (H : Hp [] w0 w1 L) (m : rdN ws F N v d ∈ L) (hws : Chg [] w0 ws) (hF : ∀ k ∈ F, k < w0.heap.size) : RD (F ++ N) w1 v d ∧ (∀ k ∈ F ++ N, k ∈ F ∨ w0.heap.size ≤ k) ∧ (∀ k ∈ F ++ N, k < w1.heap.size) := by
  have h1 := H.ok _ m
  refine ⟨h1.2 w1 (fun _ _ => rfl) fun k hk => ?_, fun k hk => ?_, fun k hk => ?_⟩
  · rw [H.chg.2.2.2.2 k (hF k hk) (by simp), hws.2.2.2.2 k (hF k hk) (by simp)]
  · rcases List.mem_append.1 hk with hk | hk
    · exact .inl hk
    · rcases H.own _ m k hk with h | h
      · cases h
      · exact .inr h
  · rcases List.mem_append.1 hk with hk | hk
    · exact Nat.lt_of_lt_of_le (hF k hk) H.chg.size
    · exact h1.1 k hk
def RPostK (K : Value → Ending) (F : List Nat) (w : World) (d' : Dk) (e : Ending) (w' : World) : Prop :=
  ∃ v' F', e = K (v'.val d') ∧ Chg [] w w' ∧ (∀ k ∈ F', k ∈ F ∨ w.heap.size ≤ k) ∧ (∀ k ∈ F', k < w'.heap.size) ∧ RD F' w' v' d'
theorem RPostK.ofN {K : Value → Ending} {F N : List Nat} {w0 ws w1 : World} {L : List Asn} {v : RV} {d : Dk} {e : Ending} (H : Hp [] w0 w1 L) (m : rdN ws F N v d ∈ L) (hws : Chg [] w0 ws) (hF : ∀ k ∈ F, k < w0.heap.size) (he : e = K (v.val d)) : RPostK K F w0 d e w1 := by
  obtain ⟨h1, h2, h3⟩ := rdN_get H m hws hF
  exact ⟨v, _, he, H.chg, h2, h3, h1⟩
theorem RPostK.same {K : Value → Ending} {F : List Nat} {w w' : World} {v : RV} {d : Dk} {e : Ending} (h : RD F w v d) (hF : ∀ k ∈ F, k < w.heap.size) (hc : Chg [] w w') (d' : Dk) (h' : RD F w' v d') (he : e = K (v.val d')) : RPostK K F w d' e w' :=
  ⟨v, F, he, hc, fun k hk => .inl hk, fun k hk => Nat.lt_of_lt_of_le (hF k hk) hc.size, h'⟩

def why (d : Dk) (o : Op) : Int :=
  if d.dead then 93 else
  if o.kind = 0 ∧ Vault.right o.name = false then 92 else
  if 1 ≤ o.kind ∧ o.kind ≤ 5 ∧ d.find o.name = none then 90 else
  if o.kind = 1 ∧ (o.n < 0 ∨ d.size o.name < o.n ∨ 512 < o.b.length) then 91 else
  if o.kind = 1 ∧ o.n = d.size o.name ∧ d.room ≤ d.used then 94 else
  if o.kind = 2 ∧ (o.n < 0 ∨ d.size o.name ≤ o.n) then 91 else
  if o.kind = 4 ∧ Vault.right o.to = false then 92 else 0

set_option maxHeartbeats 2000000 in
theorem rwhy_spec {F G0 : List Nat} {w : World} {v : RV} {d : Dk} (h : RD F w v d) (hok : d.Ok) (hl : d.names.length ≤ 1073741824) (hu : (d.used : Int) ≤ 9223372036854775807) {ow : OW} {o : Op} (ho : OD G0 w ow o) :
    Calls Go.Proofs.Try.prog 49 #[v.val d, ow.val o] w fun e w' => e = .returned (.int .i64 (why d o)) ∧ Hp [] w w' [] := by
  apply rwhy.ok; unfold rwhy.vc
  have H := Hp.start w
  intro b w1 hn; replace H := H.new (by exact ⟨rfl, rfl, rfl, rfl⟩) hn; clear hn
  intro b1 w2 hn; replace H := H.new (by exact ⟨rfl, rfl, rfl, rfl⟩) hn; clear hn
  obtain ⟨LL, hLL⟩ : ∃ LL : List Asn, LL = [.blk b1 [.int .i64 o.kind, .int .i64 o.n, .string o.name, .string o.to, .slice ow.ba o.b.length ow.bc, .slice ow.pa o.picks.length ow.pc] 49, .blk b [.int .i64 (d.room : Int), .slice v.fa d.files.length v.fc, .slice v.na d.names.length v.nc, .slice v.ia d.firm.length v.ic, .slice v.sa d.snaps.length v.sc, .int .i64 (d.armed : Int), .int .i64 (d.denied : Int), .bool d.dead] 44] := ⟨_, rfl⟩
  have hH : Hp [] w w2 LL := by rw [hLL]; exact H
  ((repeat apply Exists.intro); first | refine ⟨H.ld (by exact ⟨rfl, rfl, rfl, rfl⟩) (by first | exact sclInt | exact sclBool | exact sclStr | exact rsclN | exact rsclF | exact rsclNN | exact rsclSS | exact rsclSI | exact rsclU) (by repeat first | exact .head _ | refine .tail _ ?_) rfl, ?_⟩ | refine ⟨H.ldA (by exact ⟨rfl, rfl, rfl, rfl⟩) (by first | exact raggD | exact raggF | exact raggO | exact raggN | exact raggA) (by repeat first | exact .head _ | refine .tail _ ?_) rfl rfl, ?_⟩)
  refine br_mk (fun hd => ⟨by simp [why, hd], H.done⟩) (fun hd => ?_)
  refine JoinP.mk (fun (s : Bool) (w' : World) => s = decide (o.kind = 0 ∧ Vault.right o.name = false) ∧ Hp [] w w' LL) ?_ ?_
  rotate_left
  · clear hH
    intro J hJ
    ((repeat apply Exists.intro); first | refine ⟨H.ld (by exact ⟨rfl, rfl, rfl, rfl⟩) (by first | exact sclInt | exact sclBool | exact sclStr | exact rsclN | exact rsclF | exact rsclNN | exact rsclSS | exact rsclSI | exact rsclU) (by repeat first | exact .head _ | refine .tail _ ?_) rfl, ?_⟩ | refine ⟨H.ldA (by exact ⟨rfl, rfl, rfl, rfl⟩) (by first | exact raggD | exact raggF | exact raggO | exact raggN | exact raggA) (by repeat first | exact .head _ | refine .tail _ ?_) rfl rfl, ?_⟩)
    refine br_dec (fun h0 => ?_) (fun h0 => hJ _ _ ⟨by simp [h0], by rw [hLL]; exact H⟩)
    ((repeat apply Exists.intro); first | refine ⟨H.ld (by exact ⟨rfl, rfl, rfl, rfl⟩) (by first | exact sclInt | exact sclBool | exact sclStr | exact rsclN | exact rsclF | exact rsclNN | exact rsclSS | exact rsclSI | exact rsclU) (by repeat first | exact .head _ | refine .tail _ ?_) rfl, ?_⟩ | refine ⟨H.ldA (by exact ⟨rfl, rfl, rfl, rfl⟩) (by first | exact raggD | exact raggF | exact raggO | exact raggN | exact raggA) (by repeat first | exact .head _ | refine .tail _ ?_) rfl rfl, ?_⟩)
    refine callV (rright_spec _ _) ?_
    rintro e w3 ⟨rfl, H'⟩; replace H := H.ext0 H'; clear H'
    refine ⟨_, rfl, hJ _ _ ⟨?_, by rw [hLL]; exact H⟩⟩
    cases Vault.right o.name <;> simp [h0]
  clear H hH w2
  rintro s w2 ⟨rfl, H⟩
  rw [hLL] at H
  refine br_dec (fun hc1 => ⟨by simp [why, hd, hc1], H.done⟩) (fun hc1 => ?_)
  refine JoinP.mk (fun (s : Bool) (w' : World) => s = decide (1 ≤ o.kind ∧ o.kind ≤ 5 ∧ d.find o.name = none) ∧ Hp [] w w' LL) ?_ ?_
  rotate_left
  · intro J hJ
    ((repeat apply Exists.intro); first | refine ⟨H.ld (by exact ⟨rfl, rfl, rfl, rfl⟩) (by first | exact sclInt | exact sclBool | exact sclStr | exact rsclN | exact rsclF | exact rsclNN | exact rsclSS | exact rsclSI | exact rsclU) (by repeat first | exact .head _ | refine .tail _ ?_) rfl, ?_⟩ | refine ⟨H.ldA (by exact ⟨rfl, rfl, rfl, rfl⟩) (by first | exact raggD | exact raggF | exact raggO | exact raggN | exact raggA) (by repeat first | exact .head _ | refine .tail _ ?_) rfl rfl, ?_⟩)
    refine br_dec (fun h0 => ?_) (fun h0 => hJ _ _ ⟨by simp [h0], by rw [hLL]; exact H⟩)
    ((repeat apply Exists.intro); first | refine ⟨H.ld (by exact ⟨rfl, rfl, rfl, rfl⟩) (by first | exact sclInt | exact sclBool | exact sclStr | exact rsclN | exact rsclF | exact rsclNN | exact rsclSS | exact rsclSI | exact rsclU) (by repeat first | exact .head _ | refine .tail _ ?_) rfl, ?_⟩ | refine ⟨H.ldA (by exact ⟨rfl, rfl, rfl, rfl⟩) (by first | exact raggD | exact raggF | exact raggO | exact raggN | exact raggA) (by repeat first | exact .head _ | refine .tail _ ?_) rfl rfl, ?_⟩)
    refine br_dec (fun h1 => ?_) (fun h1 => hJ _ _ ⟨by simp [h1], by rw [hLL]; exact H⟩)
    ((repeat apply Exists.intro); first | refine ⟨H.ld (by exact ⟨rfl, rfl, rfl, rfl⟩) (by first | exact sclInt | exact sclBool | exact sclStr | exact rsclN | exact rsclF | exact rsclNN | exact rsclSS | exact rsclSI | exact rsclU) (by repeat first | exact .head _ | refine .tail _ ?_) rfl, ?_⟩ | refine ⟨H.ldA (by exact ⟨rfl, rfl, rfl, rfl⟩) (by first | exact raggD | exact raggF | exact raggO | exact raggN | exact raggA) (by repeat first | exact .head _ | refine .tail _ ?_) rfl rfl, ?_⟩)
    ((repeat apply Exists.intro); first | refine ⟨H.ld (by exact ⟨rfl, rfl, rfl, rfl⟩) (by first | exact sclInt | exact sclBool | exact sclStr | exact rsclN | exact rsclF | exact rsclNN | exact rsclSS | exact rsclSI | exact rsclU) (by repeat first | exact .head _ | refine .tail _ ?_) rfl, ?_⟩ | refine ⟨H.ldA (by exact ⟨rfl, rfl, rfl, rfl⟩) (by first | exact raggD | exact raggF | exact raggO | exact raggN | exact raggA) (by repeat first | exact .head _ | refine .tail _ ?_) rfl rfl, ?_⟩)
    refine callV (rfind_spec (h.chg0 H.chg).names hl o.name) ?_
    rintro e w3 ⟨rfl, H'⟩; replace H := H.ext0 H'; clear H'
    refine ⟨_, rfl, hJ _ _ ⟨?_, by rw [hLL]; exact H⟩⟩
    have hf : nget d.names o.name = d.find o.name := rfl
    rw [hf]
    congr 1
    rw [fcode_lt]
    exact propext ⟨fun h => ⟨h0, h1, h⟩, fun h => h.2.2⟩
  clear H w2
  rintro s w2 ⟨rfl, H⟩
  rw [hLL] at H
  refine br_dec (fun hc2 => ⟨by simp only [why, hd, Bool.false_eq_true, if_false, if_neg hc1, if_pos hc2], H.done⟩) (fun hc2 => ?_)
  refine ⟨_, _, _, _, _, _, _, _, _, _, _, _, _, _, _, _, H.ldA (by exact ⟨rfl, rfl, rfl, rfl⟩) raggD (.tail _ (.head _)) rfl rfl, ?_⟩
  ((repeat apply Exists.intro); first | refine ⟨H.ld (by exact ⟨rfl, rfl, rfl, rfl⟩) (by first | exact sclInt | exact sclBool | exact sclStr | exact rsclN | exact rsclF | exact rsclNN | exact rsclSS | exact rsclSI | exact rsclU) (by repeat first | exact .head _ | refine .tail _ ?_) rfl, ?_⟩ | refine ⟨H.ldA (by exact ⟨rfl, rfl, rfl, rfl⟩) (by first | exact raggD | exact raggF | exact raggO | exact raggN | exact raggA) (by repeat first | exact .head _ | refine .tail _ ?_) rfl rfl, ?_⟩)
  refine callV (rsize_spec (h.chg0 H.chg) hok hl o.name) ?_
  rintro e w3 ⟨rfl, H'⟩; replace H := H.ext0 H'; clear H'
  refine ⟨_, rfl, ?_⟩
  refine JoinP.mk (fun (s : Bool) (w' : World) => s = decide (o.kind = 1 ∧ (o.n < 0 ∨ d.size o.name < o.n ∨ 512 < o.b.length)) ∧ Hp [] w w' LL) ?_ ?_
  rotate_left
  · intro J hJ
    ((repeat apply Exists.intro); first | refine ⟨H.ld (by exact ⟨rfl, rfl, rfl, rfl⟩) (by first | exact sclInt | exact sclBool | exact sclStr | exact rsclN | exact rsclF | exact rsclNN | exact rsclSS | exact rsclSI | exact rsclU) (by repeat first | exact .head _ | refine .tail _ ?_) rfl, ?_⟩ | refine ⟨H.ldA (by exact ⟨rfl, rfl, rfl, rfl⟩) (by first | exact raggD | exact raggF | exact raggO | exact raggN | exact raggA) (by repeat first | exact .head _ | refine .tail _ ?_) rfl rfl, ?_⟩)
    refine br_dec (fun h0 => ?_) (fun h0 => hJ _ _ ⟨by simp [h0], by rw [hLL]; exact H⟩)
    ((repeat apply Exists.intro); first | refine ⟨H.ld (by exact ⟨rfl, rfl, rfl, rfl⟩) (by first | exact sclInt | exact sclBool | exact sclStr | exact rsclN | exact rsclF | exact rsclNN | exact rsclSS | exact rsclSI | exact rsclU) (by repeat first | exact .head _ | refine .tail _ ?_) rfl, ?_⟩ | refine ⟨H.ldA (by exact ⟨rfl, rfl, rfl, rfl⟩) (by first | exact raggD | exact raggF | exact raggO | exact raggN | exact raggA) (by repeat first | exact .head _ | refine .tail _ ?_) rfl rfl, ?_⟩)
    refine br_dec (fun h1 => hJ _ _ ⟨by simp [h0, h1], by rw [hLL]; exact H⟩) (fun h1 => ?_)
    ((repeat apply Exists.intro); first | refine ⟨H.ld (by exact ⟨rfl, rfl, rfl, rfl⟩) (by first | exact sclInt | exact sclBool | exact sclStr | exact rsclN | exact rsclF | exact rsclNN | exact rsclSS | exact rsclSI | exact rsclU) (by repeat first | exact .head _ | refine .tail _ ?_) rfl, ?_⟩ | refine ⟨H.ldA (by exact ⟨rfl, rfl, rfl, rfl⟩) (by first | exact raggD | exact raggF | exact raggO | exact raggN | exact raggA) (by repeat first | exact .head _ | refine .tail _ ?_) rfl rfl, ?_⟩)
    refine br_dec (fun h2 => hJ _ _ ⟨by simp [h0, h2], by rw [hLL]; exact H⟩) (fun h2 => ?_)
    ((repeat apply Exists.intro); first | refine ⟨H.ld (by exact ⟨rfl, rfl, rfl, rfl⟩) (by first | exact sclInt | exact sclBool | exact sclStr | exact rsclN | exact rsclF | exact rsclNN | exact rsclSS | exact rsclSI | exact rsclU) (by repeat first | exact .head _ | refine .tail _ ?_) rfl, ?_⟩ | refine ⟨H.ldA (by exact ⟨rfl, rfl, rfl, rfl⟩) (by first | exact raggD | exact raggF | exact raggO | exact raggN | exact raggA) (by repeat first | exact .head _ | refine .tail _ ?_) rfl rfl, ?_⟩)
    refine hJ _ _ ⟨?_, by rw [hLL]; exact H⟩
    congr 1
    exact propext ⟨fun h => ⟨h0, .inr (.inr (by omega))⟩, fun h => by rcases h.2 with h | h | h <;> omega⟩
  clear H w2 w3
  rintro s w2 ⟨rfl, H⟩
  rw [hLL] at H
  refine br_dec (fun hc3 => ⟨by simp only [why, hd, Bool.false_eq_true, if_false, if_neg hc1, if_neg hc2, if_pos hc3], H.done⟩) (fun hc3 => ?_)
  refine JoinP.mk (fun (s : Bool) (w' : World) => s = decide (o.kind = 1 ∧ o.n = d.size o.name ∧ d.room ≤ d.used) ∧ Hp [] w w' LL) ?_ ?_
  rotate_left
  · intro J hJ
    replace H := H.drew
    ((repeat apply Exists.intro); first | refine ⟨H.ld (by exact ⟨rfl, rfl, rfl, rfl⟩) (by first | exact sclInt | exact sclBool | exact sclStr | exact rsclN | exact rsclF | exact rsclNN | exact rsclSS | exact rsclSI | exact rsclU) (by repeat first | exact .head _ | refine .tail _ ?_) rfl, ?_⟩ | refine ⟨H.ldA (by exact ⟨rfl, rfl, rfl, rfl⟩) (by first | exact raggD | exact raggF | exact raggO | exact raggN | exact raggA) (by repeat first | exact .head _ | refine .tail _ ?_) rfl rfl, ?_⟩)
    refine br_dec (fun h0 => ?_) (fun h0 => hJ _ _ ⟨by simp [h0], by rw [hLL]; exact H⟩)
    ((repeat apply Exists.intro); first | refine ⟨H.ld (by exact ⟨rfl, rfl, rfl, rfl⟩) (by first | exact sclInt | exact sclBool | exact sclStr | exact rsclN | exact rsclF | exact rsclNN | exact rsclSS | exact rsclSI | exact rsclU) (by repeat first | exact .head _ | refine .tail _ ?_) rfl, ?_⟩ | refine ⟨H.ldA (by exact ⟨rfl, rfl, rfl, rfl⟩) (by first | exact raggD | exact raggF | exact raggO | exact raggN | exact raggA) (by repeat first | exact .head _ | refine .tail _ ?_) rfl rfl, ?_⟩)
    refine br_dec (fun h1 => ?_) (fun h1 => hJ _ _ ⟨by simp [h1], by rw [hLL]; exact H⟩)
    refine ⟨_, _, _, _, _, _, _, _, _, _, _, _, _, _, _, _, H.ldA (by exact ⟨rfl, rfl, rfl, rfl⟩) raggD (.tail _ (.head _)) rfl rfl, ?_⟩
    ((repeat apply Exists.intro); first | refine ⟨H.ld (by exact ⟨rfl, rfl, rfl, rfl⟩) (by first | exact sclInt | exact sclBool | exact sclStr | exact rsclN | exact rsclF | exact rsclNN | exact rsclSS | exact rsclSI | exact rsclU) (by repeat first | exact .head _ | refine .tail _ ?_) rfl, ?_⟩ | refine ⟨H.ldA (by exact ⟨rfl, rfl, rfl, rfl⟩) (by first | exact raggD | exact raggF | exact raggO | exact raggN | exact raggA) (by repeat first | exact .head _ | refine .tail _ ?_) rfl rfl, ?_⟩)
    refine callV (rused_spec (h.chg0 H.chg) hok hl hu) ?_
    rintro e w3 ⟨rfl, H'⟩; replace H := H.ext0 H'; clear H'
    refine ⟨_, rfl, H.ld (by exact ⟨rfl, rfl, rfl, rfl⟩) sclInt (.tail _ (.head _)) rfl, hJ _ _ ⟨?_, by rw [hLL]; exact H⟩⟩
    congr 1
    exact propext ⟨fun h => ⟨h0, h1, by omega⟩, fun h => by omega⟩
  clear H w2
  rintro s w2 ⟨rfl, H⟩
  rw [hLL] at H
  refine br_dec (fun hc4 => ⟨by simp only [why, hd, Bool.false_eq_true, if_false, if_neg hc1, if_neg hc2, if_neg hc3, if_pos hc4], H.done⟩) (fun hc4 => ?_)
  refine JoinP.mk (fun (s : Bool) (w' : World) => s = decide (o.kind = 2 ∧ (o.n < 0 ∨ d.size o.name ≤ o.n)) ∧ Hp [] w w' LL) ?_ ?_
  rotate_left
  · intro J hJ
    ((repeat apply Exists.intro); first | refine ⟨H.ld (by exact ⟨rfl, rfl, rfl, rfl⟩) (by first | exact sclInt | exact sclBool | exact sclStr | exact rsclN | exact rsclF | exact rsclNN | exact rsclSS | exact rsclSI | exact rsclU) (by repeat first | exact .head _ | refine .tail _ ?_) rfl, ?_⟩ | refine ⟨H.ldA (by exact ⟨rfl, rfl, rfl, rfl⟩) (by first | exact raggD | exact raggF | exact raggO | exact raggN | exact raggA) (by repeat first | exact .head _ | refine .tail _ ?_) rfl rfl, ?_⟩)
    refine br_dec (fun h0 => ?_) (fun h0 => hJ _ _ ⟨by simp [h0], by rw [hLL]; exact H⟩)
    ((repeat apply Exists.intro); first | refine ⟨H.ld (by exact ⟨rfl, rfl, rfl, rfl⟩) (by first | exact sclInt | exact sclBool | exact sclStr | exact rsclN | exact rsclF | exact rsclNN | exact rsclSS | exact rsclSI | exact rsclU) (by repeat first | exact .head _ | refine .tail _ ?_) rfl, ?_⟩ | refine ⟨H.ldA (by exact ⟨rfl, rfl, rfl, rfl⟩) (by first | exact raggD | exact raggF | exact raggO | exact raggN | exact raggA) (by repeat first | exact .head _ | refine .tail _ ?_) rfl rfl, ?_⟩)
    refine br_dec (fun h1 => hJ _ _ ⟨by simp [h0, h1], by rw [hLL]; exact H⟩) (fun h1 => ?_)
    ((repeat apply Exists.intro); first | refine ⟨H.ld (by exact ⟨rfl, rfl, rfl, rfl⟩) (by first | exact sclInt | exact sclBool | exact sclStr | exact rsclN | exact rsclF | exact rsclNN | exact rsclSS | exact rsclSI | exact rsclU) (by repeat first | exact .head _ | refine .tail _ ?_) rfl, ?_⟩ | refine ⟨H.ldA (by exact ⟨rfl, rfl, rfl, rfl⟩) (by first | exact raggD | exact raggF | exact raggO | exact raggN | exact raggA) (by repeat first | exact .head _ | refine .tail _ ?_) rfl rfl, ?_⟩)
    refine hJ _ _ ⟨?_, by rw [hLL]; exact H⟩
    congr 1
    exact propext ⟨fun h => ⟨h0, .inr h⟩, fun h => by rcases h.2 with h | h <;> omega⟩
  clear H w2
  rintro s w2 ⟨rfl, H⟩
  rw [hLL] at H
  refine br_dec (fun hc5 => ⟨by simp only [why, hd, Bool.false_eq_true, if_false, if_neg hc1, if_neg hc2, if_neg hc3, if_neg hc4, if_pos hc5], H.done⟩) (fun hc5 => ?_)
  refine JoinP.mk (fun (s : Bool) (w' : World) => s = decide (o.kind = 4 ∧ Vault.right o.to = false) ∧ Hp [] w w' LL) ?_ ?_
  rotate_left
  · intro J hJ
    ((repeat apply Exists.intro); first | refine ⟨H.ld (by exact ⟨rfl, rfl, rfl, rfl⟩) (by first | exact sclInt | exact sclBool | exact sclStr | exact rsclN | exact rsclF | exact rsclNN | exact rsclSS | exact rsclSI | exact rsclU) (by repeat first | exact .head _ | refine .tail _ ?_) rfl, ?_⟩ | refine ⟨H.ldA (by exact ⟨rfl, rfl, rfl, rfl⟩) (by first | exact raggD | exact raggF | exact raggO | exact raggN | exact raggA) (by repeat first | exact .head _ | refine .tail _ ?_) rfl rfl, ?_⟩)
    refine br_dec (fun h0 => ?_) (fun h0 => hJ _ _ ⟨by simp [h0], by rw [hLL]; exact H⟩)
    ((repeat apply Exists.intro); first | refine ⟨H.ld (by exact ⟨rfl, rfl, rfl, rfl⟩) (by first | exact sclInt | exact sclBool | exact sclStr | exact rsclN | exact rsclF | exact rsclNN | exact rsclSS | exact rsclSI | exact rsclU) (by repeat first | exact .head _ | refine .tail _ ?_) rfl, ?_⟩ | refine ⟨H.ldA (by exact ⟨rfl, rfl, rfl, rfl⟩) (by first | exact raggD | exact raggF | exact raggO | exact raggN | exact raggA) (by repeat first | exact .head _ | refine .tail _ ?_) rfl rfl, ?_⟩)
    refine callV (rright_spec _ _) ?_
    rintro e w3 ⟨rfl, H'⟩; replace H := H.ext0 H'; clear H'
    refine ⟨_, rfl, hJ _ _ ⟨?_, by rw [hLL]; exact H⟩⟩
    cases Vault.right o.to <;> simp [h0]
  clear H w2
  rintro s w2 ⟨rfl, H⟩
  refine br_dec (fun hc6 => ⟨by simp only [why, hd, Bool.false_eq_true, if_false, if_neg hc1, if_neg hc2, if_neg hc3, if_neg hc4, if_neg hc5, if_pos hc6], H.done⟩) (fun hc6 => ⟨by simp only [why, hd, Bool.false_eq_true, if_false, if_neg hc1, if_neg hc2, if_neg hc3, if_neg hc4, if_neg hc5, if_neg hc6], H.done⟩)

def doesD (d : Dk) (o : Op) : Dk :=
  if o.kind = 0 then Dk.change { d with files := d.files ++ [Fl.none] } (.create o.name d.files.length) else
  if o.kind = 1 then (match d.find o.name with | some k => d.put k ((d.file k).write o.n.toNat o.b) | none => d) else
  if o.kind = 3 then (match d.find o.name with | some k => d.put k (d.file k).sync | none => d) else
  if o.kind = 4 then (match d.find o.name with | some k => d.change (.rename o.name o.to k) | none => d) else
  if o.kind = 5 then d.change (.remove o.name) else
  if o.kind = 6 then { d with firm := d.names, chs := [] } else d
theorem RD.file {F : List Nat} {w : World} {v : RV} {d : Dk} (h : RD F w v d) (x : RF) (f : Fl) (hx : RFD F w x f) (a : Option Addr) (c : Nat) (hf : SC F w a (d.files.length + 1) c 3 (fileCs v.fs d.files ++ fileC x f)) :
    RD F w { v with fa := a, fc := c, fs := v.fs ++ [x] } { d with files := d.files ++ [f] } := by
  refine ⟨by rw [fileCs_snoc h.fl, List.length_append, List.length_singleton]; exact hf, by simp [h.fl], ?_, h.names, h.firm, h.since, h.sl, h.snap⟩
  intro k x' f' h1 h2
  by_cases hk : k < d.files.length
  · simp only at h1 h2
    rw [List.getElem?_append_left (by rw [h.fl]; exact hk)] at h1
    rw [List.getElem?_append_left hk] at h2
    exact h.each k x' f' h1 h2
  · have hk2 : k = d.files.length := by
      have := (List.getElem?_eq_some_iff.1 h2).1
      simp at this; omega
    subst hk2
    simp only at h1 h2
    rw [List.getElem?_append_right (by omega)] at h2
    rw [List.getElem?_append_right (by rw [h.fl]; omega)] at h1
    simp [h.fl] at h1 h2
    subst h1 h2
    exact hx
end Go.Proofs.Ytdpkamajecmebaa
