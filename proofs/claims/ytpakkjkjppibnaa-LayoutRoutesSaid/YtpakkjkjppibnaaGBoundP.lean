/- Layout: what Far says, and what a proof bounds: plain. -/
import Derived.Test.YtpakkjkjppibnaaGShort
namespace Go.Proofs.Ytpakkjkjppibnaa
open Go.RowKit

/-- whether a step from a cell leads on -/
def hitB (g : Gr) (F : List (List Int)) (c : Int × Int) (d : Nat) : Bool := openP g (besideP c d) && decide (0 ≤ outGet F (indexP g (besideP c d)).toNat d)
def stepV (g : Gr) (F : List (List Int)) (c : Int × Int) (d : Nat) : Int := g.move + outGet F (indexP g (besideP c d)).toNat d
theorem begStep_eq (g : Gr) (F : List (List Int)) (c : Int × Int) (s : Int × Int) (d : Nat) : begStep g F c s d = if hitB g F c d = true then (if s.1 < 0 then (stepV g F c d, (d : Int)) else if stepV g F c d < s.1 then (stepV g F c d, (d : Int)) else s) else s := by
  unfold begStep hitB stepV
  cases openP g (besideP c d) with
  | false => rfl
  | true =>
    by_cases h : outGet F (indexP g (besideP c d)).toNat d < 0
    · rw [if_pos rfl, if_pos h, if_neg]
      simp; omega
    · have hh : (true && decide (0 ≤ outGet F (indexP g (besideP c d)).toNat d)) = true := by simp; omega
      rw [if_pos rfl, if_neg h, if_pos hh]
theorem begins_spec {g : Gr} (hg : GrOk g) (F : List (List Int)) (c : Int × Int) : ∀ k,
    (beginsP g F c k = (-1, 0) ∧ ∀ d, d < k → hitB g F c d = false) ∨
    (∃ d, d < k ∧ hitB g F c d = true ∧ beginsP g F c k = (stepV g F c d, (d : Int)) ∧ 0 ≤ stepV g F c d ∧ (∀ e, e < k → hitB g F c e = true → stepV g F c d ≤ stepV g F c e) ∧ ∀ e, e < d → hitB g F c e = true → stepV g F c d < stepV g F c e)
  | 0 => .inl ⟨rfl, fun d h => absurd h (Nat.not_lt_zero _)⟩
  | k + 1 => by
    have hpos : hitB g F c k = true → 0 ≤ stepV g F c k := fun h => by
      unfold hitB at h
      simp at h
      have := hg.m1
      unfold stepV
      omega
    rw [beginsP_succ, begStep_eq]
    rcases begins_spec hg F c k with ⟨h1, h2⟩ | ⟨d, h1, h2, h3, h4, h5, h6⟩
    · rw [h1]
      by_cases hh : hitB g F c k = true
      · rw [if_pos hh, if_pos (by decide)]
        refine .inr ⟨k, by omega, hh, rfl, hpos hh, fun e he hit => ?_, fun e he hit => ?_⟩
        · rcases (by omega : e < k ∨ e = k) with h7 | rfl
          · rw [h2 e h7] at hit; cases hit
          · exact Int.le_refl _
        · rw [h2 e he] at hit; cases hit
      · rw [if_neg hh]
        refine .inl ⟨rfl, fun d hd => ?_⟩
        rcases (by omega : d < k ∨ d = k) with h7 | rfl
        · exact h2 d h7
        · simpa using hh
    · rw [h3]
      by_cases hh : hitB g F c k = true
      · rw [if_pos hh, if_neg (by dsimp only; omega)]
        by_cases hlt : stepV g F c k < stepV g F c d
        · rw [if_pos hlt]
          refine .inr ⟨k, by omega, hh, rfl, hpos hh, fun e he hit => ?_, fun e he hit => ?_⟩
          · rcases (by omega : e < k ∨ e = k) with h7 | rfl
            · have := h5 e h7 hit; omega
            · exact Int.le_refl _
          · have := h5 e he hit; omega
        · rw [if_neg hlt]
          refine .inr ⟨d, by omega, h2, rfl, h4, fun e he hit => ?_, h6⟩
          rcases (by omega : e < k ∨ e = k) with h7 | rfl
          · exact h5 e h7 hit
          · omega
      · rw [if_neg hh]
        refine .inr ⟨d, by omega, h2, rfl, h4, fun e he hit => ?_, h6⟩
        rcases (by omega : e < k ∨ e = k) with h7 | rfl
        · exact h5 e h7 hit
        · exact absurd hit hh

/-- a path that begins at a cell, and what it costs -/
def Way (g : Gr) (to c : Int × Int) (v : Int) : Prop := ∃ d u, d < 4 ∧ openP g (besideP c d) = true ∧ Wk g to (besideP c d) d u ∧ v = g.move + u
theorem Way.pos {g : Gr} (hg : GrOk g) {to c : Int × Int} {v : Int} (h : Way g to c v) : 0 < v := by
  obtain ⟨d, u, _, _, h1, rfl⟩ := h
  have := h1.nonneg hg
  have := hg.m1
  omega
/-- what begins answers over the field -/
theorem begins_way {g : Gr} (hg : GrOk g) {to : Int × Int} (ht : openP g to = true) (c : Int × Int) :
    ((beginsP g (fieldP g to) c 4).1 = -1 ∧ ∀ v, ¬ Way g to c v) ∨ (Way g to c (beginsP g (fieldP g to) c 4).1 ∧ ∀ v, Way g to c v → (beginsP g (fieldP g to) c 4).1 ≤ v) := by
  have hon := openP_on ht
  have hof : ∀ d u, d < 4 → openP g (besideP c d) = true → Wk g to (besideP c d) d u → hitB g (fieldP g to) c d = true ∧ stepV g (fieldP g to) c d ≤ g.move + u := fun d u hd ho hw => by
    have := field_least hg ht hw
    refine ⟨by unfold hitB; rw [ho, decide_eq_true this.1]; rfl, by unfold stepV; omega⟩
  rcases begins_spec hg (fieldP g to) c 4 with ⟨h1, h2⟩ | ⟨d, h1, h2, h3, h4, h5, h6⟩
  · rw [h1]
    refine .inl ⟨rfl, fun v ⟨d, u, hd, ho, hw, _⟩ => ?_⟩
    have := (hof d u hd ho hw).1
    rw [h2 d hd] at this
    cases this
  · rw [h3]
    unfold hitB at h2
    simp at h2
    refine .inr ⟨⟨d, _, h1, h2.1, field_sound hg hon (openP_on h2.1) h1 h2.2, rfl⟩, fun v ⟨e, u, he, ho, hw, hv⟩ => ?_⟩
    have h7 := hof e u he ho hw
    have h8 := h5 e he h7.1
    dsimp only
    omega
/-- what Far says of a cell -/
theorem far_spec {g : Gr} (hg : GrOk g) {to : Int × Int} (ht : openP g to = true) (i : Nat) :
    (cellP g i = to ∧ farCell g (fieldP g to) to i = 0) ∨ (cellP g i ≠ to ∧ openP g (cellP g i) = false ∧ farCell g (fieldP g to) to i = -1) ∨
    (cellP g i ≠ to ∧ openP g (cellP g i) = true ∧ farCell g (fieldP g to) to i = -1 ∧ ∀ v, ¬ Way g to (cellP g i) v) ∨
    (cellP g i ≠ to ∧ openP g (cellP g i) = true ∧ 0 ≤ farCell g (fieldP g to) to i ∧ Way g to (cellP g i) (farCell g (fieldP g to) to i) ∧ ∀ v, Way g to (cellP g i) v → farCell g (fieldP g to) to i ≤ v) := by
  unfold farCell
  by_cases hc : cellP g i = to
  · rw [if_pos hc]; exact .inl ⟨hc, rfl⟩
  · rw [if_neg hc]
    cases ho : openP g (cellP g i) with
    | false => exact .inr (.inl ⟨hc, rfl, rfl⟩)
    | true =>
      rw [if_pos rfl]
      rcases begins_way hg ht (cellP g i) with ⟨h1, h2⟩ | ⟨h1, h2⟩
      · exact .inr (.inr (.inl ⟨hc, rfl, h1, h2⟩))
      · exact .inr (.inr (.inr ⟨hc, rfl, by have := h1.pos hg; omega, h1, h2⟩))

/-! ### proofs -/
def farAt (g : Gr) (far : List Int) (c : Int × Int) : Int := far.getD (indexP g c).toNat 0
theorem proof_top {g : Gr} (hg : GrOk g) {to : Int × Int} {far : List Int} (h : proofB g to far = true) (ht : onP g.w g.h to = true) : farAt g far to ≤ 0 := by
  unfold proofB at h
  rw [Bool.not_eq_true', List.any_eq_false] at h
  have h1 := hg.index ht
  have h2 := h (indexP g to).toNat (List.mem_range.2 (by have := h1.2.2.2.2; omega))
  unfold cellBad at h2
  rw [Bool.or_eq_true, not_or] at h2
  have h3 := h2.1
  unfold topBad at h3
  rw [cell_index hg ht] at h3
  simp at h3
  exact h3
theorem proof_step {g : Gr} (hg : GrOk g) {to : Int × Int} {far : List Int} (h : proofB g to far = true) {c : Int × Int} {d : Nat} (hd : d < 4) (h1 : openP g c = true) (h2 : openP g (besideP c d) = true) : farAt g far c ≤ farAt g far (besideP c d) + g.move := by
  unfold proofB at h
  rw [Bool.not_eq_true', List.any_eq_false] at h
  have hon := openP_on h1
  have h3 := hg.index hon
  have h4 := h (indexP g c).toNat (List.mem_range.2 (by have := h3.2.2.2.2; omega))
  unfold cellBad at h4
  rw [Bool.or_eq_true, not_or] at h4
  have h5 := h4.2
  rw [List.any_eq_true] at h5
  have h6 : ¬ stepBad g far (indexP g c).toNat d = true := fun hh => h5 ⟨d, List.mem_range.2 hd, hh⟩
  unfold stepBad at h6
  rw [cell_index hg hon, h1, h2] at h6
  simp at h6
  unfold farAt
  simpa using h6
theorem proof_wk {g : Gr} (hg : GrOk g) {to : Int × Int} {far : List Int} (h : proofB g to far = true) (ht : openP g to = true) {c : Int × Int} {d : Nat} {v : Int} (hw : Wk g to c d v) : farAt g far c ≤ v := by
  induction hw with
  | base d hd => exact proof_top hg h (openP_on ht)
  | step c d v e hw ho he ih =>
    have h1 := proof_step hg h hw.dir ho (by rw [beside_back c hw.dir]; exact hw.op ht)
    rw [beside_back c hw.dir] at h1
    have : g.move ≤ stepP g e d := by unfold stepP; have := hg.b1; split <;> omega
    omega
/-- no path costs less than a proof says -/
theorem proof_far {g : Gr} (hg : GrOk g) {to : Int × Int} {far : List Int} (h : proofB g to far = true) (ht : openP g to = true) {i : Nat} (h0 : 0 ≤ farCell g (fieldP g to) to i) : far.getD i 0 ≤ farCell g (fieldP g to) to i := by
  have e : far.getD i 0 = farAt g far (cellP g i) := by unfold farAt; rw [index_cell hg]; rfl
  rw [e]
  rcases far_spec hg ht i with ⟨h1, h2⟩ | ⟨_, _, h2⟩ | ⟨_, _, h2, _⟩ | ⟨_, ho, _, ⟨d, u, hd, hn, hw, hv⟩, _⟩
  · rw [h2, h1]; exact proof_top hg h (openP_on ht)
  · omega
  · omega
  · rw [hv]
    have h1 := proof_step hg h hd ho hn
    have h2 := proof_wk hg h ht hw
    omega

/-! ### distances -/
def distC (mv : Int) (to c : Int × Int) : Int := mv * (max (c.1 - to.1) (-(c.1 - to.1)) + max (c.2 - to.2) (-(c.2 - to.2)))
theorem distL_at (w : Nat) (mv : Int) (to : Int × Int) {N i : Nat} (hi : i < N) : (distL w mv to N).getD i 0 = distCell w mv to i := by
  rw [List.getD_eq_getElem?_getD]
  unfold distL
  rw [List.getElem?_map, List.getElem?_range hi]
  rfl
theorem distC_le {mv : Int} (hm : 1 ≤ mv) (to c : Int × Int) {d : Nat} (hd : d < 4) : distC mv to c ≤ distC mv to (besideP c d) + mv := by
  obtain ⟨x, y⟩ := c
  obtain ⟨a, b⟩ := to
  unfold distC
  have key : ∀ s t : Int, s ≤ t + 1 → mv * s ≤ mv * t + mv := fun s t h => by
    have := Int.mul_le_mul_of_nonneg_left h (by omega : 0 ≤ mv)
    rw [Int.mul_add, Int.mul_one] at this
    exact this
  apply key
  rcases (by omega : d = 0 ∨ d = 1 ∨ d = 2 ∨ d = 3) with rfl | rfl | rfl | rfl <;> simp only [besideP] <;> omega
theorem dist_proof {g : Gr} (hg : GrOk g) (to : Int × Int) : proofB g to (distL g.w g.move to (g.w * g.h)) = true := by
  refine proofB_true fun i hi => cellBad_not ?_ fun d hd => ?_
  · unfold topBad
    rw [distL_at _ _ _ hi]
    by_cases hc : cellP g i = to
    · have : distCell g.w g.move to i = 0 := by
        have e : distCell g.w g.move to i = distC g.move to (cellP g i) := rfl
        rw [e, hc]
        unfold distC
        rw [Int.sub_self, Int.sub_self]
        simp
      rw [this]; simp
    · rw [decide_eq_false hc]; rfl
  · unfold stepBad
    cases ho : openP g (cellP g i) with
    | false => rfl
    | true =>
      cases hn : openP g (besideP (cellP g i) d) with
      | false => rfl
      | true =>
        have hon := openP_on hn
        have h1 := hg.index hon
        have hj : (indexP g (besideP (cellP g i) d)).toNat < g.w * g.h := by have := h1.2.2.2.2; omega
        rw [distL_at _ _ _ hi, distL_at _ _ _ hj]
        have e1 : distCell g.w g.move to i = distC g.move to (cellP g i) := rfl
        have e2 : distCell g.w g.move to (indexP g (besideP (cellP g i) d)).toNat = distC g.move to (besideP (cellP g i) d) := by
          have : distCell g.w g.move to (indexP g (besideP (cellP g i) d)).toNat = distC g.move to (cellP g (indexP g (besideP (cellP g i) d)).toNat) := rfl
          rw [this, cell_index hg hon]
        rw [e1, e2]
        have := distC_le hg.m1 to (cellP g i) hd
        simp
        omega
theorem dist_in {g : Gr} (hg : GrOk g) {to : Int × Int} (ht : onP g.w g.h to = true) : ((distL g.w g.move to (g.w * g.h)).all fun n => inB (-1000000000) n 1000000000) = true := by
  rw [List.all_eq_true]
  intro x hx
  unfold distL at hx
  obtain ⟨i, hi, rfl⟩ := List.mem_map.1 hx
  have hi' := List.mem_range.1 hi
  have h1 := cellP_near hg hi'
  have h2 := hg.index ht
  have w2 := hg.w2
  have h3 := hg.h2
  have e1 : distCell g.w g.move to i = distC g.move to (cellP g i) := rfl
  rw [e1]
  unfold distC
  have a1 : 0 ≤ max ((cellP g i).1 - to.1) (-((cellP g i).1 - to.1)) + max ((cellP g i).2 - to.2) (-((cellP g i).2 - to.2)) ∧ max ((cellP g i).1 - to.1) (-((cellP g i).1 - to.1)) + max ((cellP g i).2 - to.2) (-((cellP g i).2 - to.2)) ≤ 100 := by omega
  have a2 : 0 ≤ g.move * (max ((cellP g i).1 - to.1) (-((cellP g i).1 - to.1)) + max ((cellP g i).2 - to.2) (-((cellP g i).2 - to.2))) := Int.mul_nonneg (by have := hg.m1; omega) a1.1
  have a3 : g.move * (max ((cellP g i).1 - to.1) (-((cellP g i).1 - to.1)) + max ((cellP g i).2 - to.2) (-((cellP g i).2 - to.2))) ≤ 1000 * 100 := Int.mul_le_mul hg.m2 a1.2 a1.1 (by omega)
  unfold inB
  simp
  omega
end Go.Proofs.Ytpakkjkjppibnaa
