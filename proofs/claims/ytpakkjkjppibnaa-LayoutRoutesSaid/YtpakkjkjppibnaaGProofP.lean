/- Layout: which numbers are a proof: plain; and open cells in both texts. -/
import Derived.Test.YtpakkjkjppibnaaGRef
namespace Go.Proofs.Ytpakkjkjppibnaa
open Go.RowKit

theorem getD_set_bool (l : List Bool) (i j : Nat) (hi : i < l.length) : (l.set i true).getD j false = (decide (j = i) || l.getD j false) := by
  rw [List.getD_eq_getElem?_getD, List.getElem?_set]
  by_cases h : i = j
  · subst h; simp [hi]
  · have h' : ¬ j = i := fun e => h e.symm
    rw [if_neg h, List.getD_eq_getElem?_getD]; simp [h']
theorem shutP_get {w n : Nat} {bl : List (Int × Int)} (hb : ∀ x ∈ bl, (x.2 * (w : Int) + x.1).toNat < n) (j : Nat) : ∀ k, k ≤ bl.length → ((shutP w n bl k).getD j false = true ↔ ∃ x ∈ bl.take k, (x.2 * (w : Int) + x.1).toNat = j)
  | 0, _ => by simp [shutP, List.getD_eq_getElem?_getD, List.getElem?_replicate]; split <;> simp
  | k + 1, hk => by
    obtain ⟨x, hx⟩ : ∃ x, bl[k]? = some x := ⟨_, List.getElem?_eq_getElem (by omega)⟩
    rw [shutP_succ hx, getD_set_bool _ _ _ (by rw [shutP_len]; exact hb x (List.mem_of_getElem? hx)), Bool.or_eq_true, shutP_get hb j k (by omega), List.take_add_one, hx]
    simp only [decide_eq_true_eq, List.mem_append, Option.toList_some, List.mem_singleton]
    constructor
    · rintro (h | ⟨y, h1, h2⟩)
      · exact ⟨x, .inr rfl, h.symm⟩
      · exact ⟨y, .inl h1, h2⟩
    · rintro ⟨y, h1 | h1, h2⟩
      · exact .inr ⟨y, h1, h2⟩
      · subst h1; exact .inl h2.symm
theorem index_inj {w : Nat} {h : Nat} {c d : Int × Int} (hc : onP w h c = true) (hd : onP w h d = true) (he : c.2 * (w : Int) + c.1 = d.2 * (w : Int) + d.1) : c = d := by
  unfold onP at hc hd
  simp at hc hd
  obtain ⟨⟨a1, a2⟩, a3, a4⟩ := hc
  obtain ⟨⟨b1, b2⟩, b3, b4⟩ := hd
  have hy : c.2 = d.2 := by
    rcases Int.lt_trichotomy c.2 d.2 with h1 | h1 | h1
    · have h2 : (c.2 + 1) * (w : Int) ≤ d.2 * (w : Int) := Int.mul_le_mul_of_nonneg_right (by omega) (by omega)
      rw [Int.add_mul, Int.one_mul] at h2
      omega
    · exact h1
    · have h2 : (d.2 + 1) * (w : Int) ≤ c.2 * (w : Int) := Int.mul_le_mul_of_nonneg_right (by omega) (by omega)
      rw [Int.add_mul, Int.one_mul] at h2
      omega
  have hx : c.1 = d.1 := by rw [hy] at he; omega
  exact Prod.ext hx hy
theorem grK_ok {w h : Nat} {mv bd : Int} {bl : List (Int × Int)} (hv : validP w h mv bd bl = true) (k : Nat) : GrOk (grK w h mv bd bl k) := by
  have := ((validP_iff _ _ _ _ _).1 hv).1
  exact ⟨shutP_len _ _ _ _, by dsimp only [grK]; omega, by dsimp only [grK]; omega, by dsimp only [grK]; omega, by dsimp only [grK]; omega, by dsimp only [grK]; omega, by dsimp only [grK]; omega, by dsimp only [grK]; omega, by dsimp only [grK]; omega⟩
/-- a cell is open in one text as in the other -/
theorem open_eq {w h : Nat} {mv bd : Int} {bl : List (Int × Int)} (hv : validP w h mv bd bl = true) (c : Int × Int) : openP (grK w h mv bd bl bl.length) c = refOpenP w h bl c := by
  have hok := grK_ok hv bl.length
  have hon := ((validP_iff _ _ _ _ _).1 hv).2
  unfold openP refOpenP
  by_cases ho : onP w h c = true
  · have ho' : onP (grK w h mv bd bl bl.length).w (grK w h mv bd bl bl.length).h c = true := ho
    rw [ho', ho, Bool.true_and, Bool.and_true]
    congr 1
    rw [Bool.eq_iff_iff, decide_eq_true_eq]
    change (shutP w (w * h) bl bl.length).getD _ false = true ↔ _
    rw [shutP_get (fun x hx => ?_) _ _ (Nat.le_refl _), List.take_length]
    · constructor
      · rintro ⟨x, h1, h2⟩
        have h3 := hok.index (c := x) (hon x h1)
        have h4 := hok.index ho'
        have h5 : x.2 * (w : Int) + x.1 = c.2 * (w : Int) + c.1 := by
          have e1 : 0 ≤ x.2 * (w : Int) + x.1 := h3.2.2.2.2.1
          have e2 : 0 ≤ indexP (grK w h mv bd bl bl.length) c := h4.2.2.2.2.1
          have e3 : indexP (grK w h mv bd bl bl.length) c = c.2 * (w : Int) + c.1 := rfl
          omega
        rw [← index_inj (hon x h1) ho h5]; exact h1
      · intro h1; exact ⟨c, h1, rfl⟩
    · have h3 := hok.index (c := x) (hon x hx)
      have e1 : 0 ≤ x.2 * (w : Int) + x.1 := h3.2.2.2.2.1
      have e2 : x.2 * (w : Int) + x.1 < ((w * h : Nat) : Int) := h3.2.2.2.2.2
      omega
  · have ho2 : onP w h c = false := by simpa using ho
    have ho' : onP (grK w h mv bd bl bl.length).w (grK w h mv bd bl bl.length).h c = false := ho2
    rw [ho', ho2, Bool.false_and, Bool.and_false]

/-! ### proofs -/
/-- a step that a proof must not allow -/
def stepBad (g : Gr) (far : List Int) (i d : Nat) : Bool :=
  openP g (cellP g i) && openP g (besideP (cellP g i) d) && decide (far.getD (indexP g (besideP (cellP g i) d)).toNat 0 + g.move < far.getD i 0)
def topBad (g : Gr) (to : Int × Int) (far : List Int) (i : Nat) : Bool := decide (cellP g i = to) && decide (0 < far.getD i 0)
def cellBad (g : Gr) (to : Int × Int) (far : List Int) (i : Nat) : Bool := topBad g to far i || (List.range 4).any (stepBad g far i)
def proofB (g : Gr) (to : Int × Int) (far : List Int) : Bool := !(List.range (g.w * g.h)).any (cellBad g to far)
/-- what IsProof answers -/
def isProofP (w h mv bd : Int) (bl : List (Int × Int)) (to : Int × Int) (far : List Int) : Bool × Int :=
  if validP w h mv bd bl then
    if refOpenP w h bl to then
      if (far.length : Int) = w * h ∧ (far.all fun n => inB (-1000000000) n 1000000000) = true then (proofB (grP w h mv bd bl) to far, 0) else (false, 2)
    else (false, 72)
  else (false, 70)
theorem proofB_true {g : Gr} {to : Int × Int} {far : List Int} (h : ∀ i, i < g.w * g.h → cellBad g to far i = false) : proofB g to far = true := by
  unfold proofB
  rw [Bool.not_eq_true', List.any_eq_false]
  intro i hi
  rw [h i (List.mem_range.1 hi)]; decide
theorem proofB_false {g : Gr} {to : Int × Int} {far : List Int} {i : Nat} (hi : i < g.w * g.h) (h : cellBad g to far i = true) : proofB g to far = false := by
  unfold proofB
  rw [Bool.not_eq_false', List.any_eq_true]
  exact ⟨i, List.mem_range.2 hi, h⟩
theorem cellBad_step {g : Gr} {to : Int × Int} {far : List Int} {i d : Nat} (hd : d < 4) (h : stepBad g far i d = true) : cellBad g to far i = true := by
  unfold cellBad
  rw [Bool.or_eq_true]
  exact .inr (List.any_eq_true.2 ⟨d, List.mem_range.2 hd, h⟩)
theorem cellBad_not {g : Gr} {to : Int × Int} {far : List Int} {i : Nat} (h1 : topBad g to far i = false) (h2 : ∀ d, d < 4 → stepBad g far i d = false) : cellBad g to far i = false := by
  unfold cellBad
  rw [h1, Bool.false_or, List.any_eq_false]
  intro d hd
  rw [h2 d (List.mem_range.1 hd)]; decide
end Go.Proofs.Ytpakkjkjppibnaa
