/- Layout: the route by the field and by the table: plain. -/
import Derived.Test.YtpakkjkjppibnaaGTabP
namespace Go.Proofs.Ytpakkjkjppibnaa
open Go.RowKit

theorem Wk.inv {g : Gr} {to c : Int × Int} {d : Nat} {v : Int} (h : Wk g to c d v) : (c = to ∧ v = 0) ∨ ∃ e u, e < 4 ∧ Wk g to (besideP c e) e u ∧ openP g c = true ∧ v = u + stepP g d e := by
  cases h with
  | base d hd => exact .inl ⟨rfl, rfl⟩
  | step c0 e u d h ho he =>
    refine .inr ⟨e, u, h.dir, ?_, ho, rfl⟩
    rw [beside_back c0 h.dir]; exact h
/-- the field at a cell that was come to by a direction -/
def fAt (g : Gr) (to c : Int × Int) (d : Nat) : Int := outGet (fieldP g to) (indexP g c).toNat d
theorem fAt_wk {g : Gr} (hg : GrOk g) {to : Int × Int} (ht : openP g to = true) {c : Int × Int} {d : Nat} (hc : onP g.w g.h c = true) (hd : d < 4) (h0 : 0 ≤ fAt g to c d) : Wk g to c d (fAt g to c d) := field_sound hg (openP_on ht) hc hd h0
theorem fAt_le {g : Gr} (hg : GrOk g) {to : Int × Int} (ht : openP g to = true) {c : Int × Int} {d : Nat} {v : Int} (h : Wk g to c d v) : 0 ≤ fAt g to c d ∧ fAt g to c d ≤ v := field_least hg ht h
theorem fAt_big {g : Gr} (hg : GrOk g) {to : Int × Int} (ht : openP g to = true) (c : Int × Int) (d : Nat) : fAt g to c d ≤ 7200000 := by
  have h5 := (fieldP_inv hg (openP_on ht)).out (indexP g c).toNat d
  have h6 := hg.cells
  dsimp only at h5
  unfold fAt
  omega
theorem fAt_next {g : Gr} (hg : GrOk g) {to : Int × Int} (ht : openP g to = true) {c : Int × Int} {d : Nat} (hc : openP g c = true) (hd : d < 4) (hne : c ≠ to) (h0 : 0 ≤ fAt g to c d) :
    ∃ e, e < 4 ∧ hitD g (fieldP g to) c d e = true := by
  rcases (fAt_wk hg ht (openP_on hc) hd h0).inv with ⟨h1, _⟩ | ⟨e, u, he, hw, ho, hv⟩
  · exact absurd h1 hne
  · have h1 := fAt_le hg ht hw
    have h2 := Wk.step _ e _ d (fAt_wk hg ht (openP_on (hw.op ht)) he h1.1) (by rw [beside_back' c he]; exact hc) hd
    rw [beside_back' c he] at h2
    have h3 := fAt_le hg ht h2
    refine ⟨e, he, ?_⟩
    unfold hitD
    rw [hw.op ht]
    simp only [Bool.true_and, Bool.and_eq_true, decide_eq_true_eq]
    exact ⟨h1.1, by unfold fAt at *; omega⟩
theorem hitD_iff {g : Gr} {to c : Int × Int} {d e : Nat} : hitD g (fieldP g to) c d e = true ↔ openP g (besideP c e) = true ∧ 0 ≤ fAt g to (besideP c e) e ∧ fAt g to (besideP c e) e + stepP g d e = fAt g to c d := by
  unfold hitD fAt
  simp only [Bool.and_eq_true, decide_eq_true_eq]
theorem findD_hit {g : Gr} {F : List (List Int)} {c : Int × Int} {d : Nat} (h : ∃ e, e < 4 ∧ hitD g F c d e = true) : ∃ e, findD g F c d = some e := by
  obtain ⟨e, he, h⟩ := h
  have : (findD g F c d).isSome = true := by
    unfold findD
    rw [List.find?_isSome]
    exact ⟨e, List.mem_range.2 he, h⟩
  exact Option.isSome_iff_exists.1 this

/-- the way that is walked on from a cell -/
inductive Gw (g : Gr) (to : Int × Int) : Int × Int → Nat → List (Int × Int) → Prop
  | done (d : Nat) : Gw g to to d []
  | go (c : Int × Int) (d e : Nat) (r : List (Int × Int)) (hne : c ≠ to) (hf : findD g (fieldP g to) c d = some e) (h : Gw g to (besideP c e) e r) : Gw g to c d (besideP c e :: r)

theorem walk_ok {g : Gr} (hg : GrOk g) {to : Int × Int} (ht : openP g to = true) : ∀ (k : Nat) (c : Int × Int) (d : Nat), d < 4 → openP g c = true → 0 ≤ fAt g to c d → fAt g to c d < k →
    ∃ r, Gw g to c d r ∧ r.length < k ∧ ∀ f path, k ≤ f → walkP g (fieldP g to) to f path c d = some (path ++ r)
  | 0, _, _, _, _, h0, h1 => by omega
  | k + 1, c, d, hd, hc, h0, h1 => by
    by_cases hne : c = to
    · subst hne
      refine ⟨[], Gw.done d, by simp, fun f path hf => ?_⟩
      obtain ⟨f, rfl⟩ : ∃ f', f = f' + 1 := ⟨f - 1, by omega⟩
      rw [walkP, if_pos rfl, List.append_nil]
    · obtain ⟨e, he⟩ := findD_hit (fAt_next hg ht hc hd hne h0)
      obtain ⟨he4, hhit, _⟩ := findD_some he
      obtain ⟨q1, q2, q3⟩ := hitD_iff.1 hhit
      have hs := stepP_le hg d e
      obtain ⟨r, hr, hl, hw⟩ := walk_ok hg ht k (besideP c e) e he4 q1 q2 (by omega)
      refine ⟨besideP c e :: r, Gw.go c d e r hne he hr, by simpa using hl, fun f path hf => ?_⟩
      obtain ⟨f, rfl⟩ : ∃ f', f = f' + 1 := ⟨f - 1, by omega⟩
      rw [walkP, if_neg hne, he]
      dsimp only
      rw [hw f _ (by omega)]
      simp

/-- the table's number of a cell -/
theorem tab_at {g : Gr} (hg : GrOk g) {to : Int × Int} (ht : openP g to = true) {T : List (List Int)} (h : TabS g to T) (hc : Closed g T) {c : Int × Int} {d : Nat} (hon : onP g.w g.h c = true) (hd : d < 4) :
    outGet T (indexP g c).toNat d = if 0 ≤ fAt g to c d then fAt g to c d else big := by
  have h1 := hg.index hon
  exact tab_field hg ht h hc (by have := h1.2.2.2.2; omega) hd
theorem min4_le (T : List (List Int)) (i d : Nat) (hd : d < 4) : min4 T i ≤ outGet T i d := by
  unfold min4
  rcases (by omega : d = 0 ∨ d = 1 ∨ d = 2 ∨ d = 3) with rfl | rfl | rfl | rfl <;> omega
theorem min4_is (T : List (List Int)) (i : Nat) : ∃ d, d < 4 ∧ min4 T i = outGet T i d := by
  unfold min4
  have h : ∀ a b : Int, min a b = a ∨ min a b = b := fun a b => by omega
  rcases h (outGet T i 0) (min (outGet T i 1) (min (outGet T i 2) (outGet T i 3))) with e | e
  · exact ⟨0, by decide, e⟩
  · rcases h (outGet T i 1) (min (outGet T i 2) (outGet T i 3)) with e1 | e1
    · exact ⟨1, by decide, by rw [e, e1]⟩
    · rcases h (outGet T i 2) (outGet T i 3) with e2 | e2
      · exact ⟨2, by decide, by rw [e, e1, e2]⟩
      · exact ⟨3, by decide, by rw [e, e1, e2]⟩
/-- the least number of the table for a cell, and what begins answers -/
theorem least_begins {g : Gr} (hg : GrOk g) {to : Int × Int} (ht : openP g to = true) {T : List (List Int)} (h : TabS g to T) (hc : Closed g T) {c : Int × Int} (hop : openP g c = true) (hne : c ≠ to) :
    min4 T (indexP g c).toNat = if (beginsP g (fieldP g to) c 4).1 < 0 then big else (beginsP g (fieldP g to) c 4).1 := by
  have hon := openP_on hop
  have hat := fun d hd => tab_at hg ht h hc (d := d) hon hd
  rcases begins_way hg ht c with ⟨h1, h2⟩ | ⟨h1, h2⟩
  · rw [h1, if_pos (by decide)]
    obtain ⟨d, hd, he⟩ := min4_is T (indexP g c).toNat
    rw [he, hat d hd, if_neg]
    intro h0
    rcases (fAt_wk hg ht hon hd h0).inv with ⟨h3, _⟩ | ⟨e, u, he, hw, ho, hv⟩
    · exact hne h3
    · exact h2 _ ⟨e, u, he, hw.op ht, hw, rfl⟩
  · generalize (beginsP g (fieldP g to) c 4).1 = b at *
    have hb := h1.pos hg
    rw [if_neg (by omega)]
    obtain ⟨e, u, he, ho, hw, hv⟩ := h1
    have h3 := Wk.step _ e _ e hw (by rw [beside_back' c he]; exact hop) he
    rw [beside_back' c he] at h3
    have h4 := fAt_le hg ht h3
    have h5 := min4_le T (indexP g c).toNat e he
    rw [hat e he, if_pos h4.1] at h5
    have h6 : stepP g e e = g.move := by unfold stepP; rw [if_pos rfl]
    obtain ⟨d, hd, h7⟩ := min4_is T (indexP g c).toNat
    rw [hat d hd] at h7
    have h8 := fAt_big hg ht c e
    by_cases h0 : 0 ≤ fAt g to c d
    · rw [if_pos h0] at h7
      rcases (fAt_wk hg ht hon hd h0).inv with ⟨h9, _⟩ | ⟨e', u', he', hw', ho', hv'⟩
      · exact absurd h9 hne
      · have h10 := h2 _ ⟨e', u', he', hw'.op ht, hw', rfl⟩
        have h11 : g.move ≤ stepP g d e' := by unfold stepP; have := hg.b1; split <;> omega
        omega
    · rw [if_neg h0] at h7
      unfold big at h7
      omega
theorem least_to {g : Gr} (hg : GrOk g) {to : Int × Int} (ht : openP g to = true) {T : List (List Int)} (h : TabS g to T) : min4 T (indexP g to).toNat = 0 := by
  have hix := hg.index (openP_on ht)
  obtain ⟨d, hd, he⟩ := min4_is T (indexP g to).toNat
  rw [he, h.top d hd]
/-- what the document's Far says of a cell -/
theorem far_tab {g : Gr} (hg : GrOk g) {to : Int × Int} (ht : openP g to = true) {T : List (List Int)} (h : TabS g to T) (hc : Closed g T) {i : Nat} (hi : i < g.w * g.h) :
    farCell g (fieldP g to) to i = if big ≤ min4 T i then -1 else min4 T i := by
  have hidx : (indexP g (cellP g i)).toNat = i := by rw [index_cell hg]; exact Int.toNat_natCast i
  have hon := cell_on hg hi
  unfold farCell
  by_cases he : cellP g i = to
  · rw [if_pos he]
    have := least_to hg ht h
    rw [← he, hidx] at this
    rw [this]; rfl
  · rw [if_neg he]
    cases ho : openP g (cellP g i) with
    | true =>
      have := least_begins hg ht h hc ho he
      rw [hidx] at this
      rw [if_pos rfl, this]
      rcases begins_way hg ht (cellP g i) with ⟨h1, h2⟩ | ⟨h1, h2⟩
      · rw [h1]; rfl
      · have h3 := h1.pos hg
        obtain ⟨e, u, he, ho, hw, hv⟩ := h1
        have h4 := fAt_le hg ht hw
        have h6 := h2 _ ⟨e, _, he, ho, fAt_wk hg ht (openP_on ho) he h4.1, rfl⟩
        have h8 := fAt_big hg ht (besideP (cellP g i) e) e
        have h9 := hg.m2
        rw [if_neg (by omega : ¬ (beginsP g (fieldP g to) (cellP g i) 4).1 < 0), if_neg (by unfold big; omega)]
    | false =>
      rw [if_neg (by decide)]
      obtain ⟨d, hd, he2⟩ := min4_is T i
      rw [he2]
      have h1 := tab_at hg ht h hc hon hd
      rw [hidx] at h1
      have h0 : ¬ 0 ≤ fAt g to (cellP g i) d := fun h0 => by
        have := (fAt_wk hg ht hon hd h0).op ht
        rw [ho] at this
        cases this
      rw [h1, if_neg h0, if_pos (Int.le_refl _)]
/-- the document's test of a direction is the program's -/
theorem ref_hit {g : Gr} (hg : GrOk g) {to : Int × Int} (ht : openP g to = true) {T : List (List Int)} (h : TabS g to T) (hc : Closed g T) {c : Int × Int} {d e : Nat} (he : e < 4) (ho : openP g (besideP c e) = true) :
    decide (stepP g d e + outGet T (indexP g (besideP c e)).toNat e = fAt g to c d) = hitD g (fieldP g to) c d e := by
  have h1 := tab_at hg ht h hc (openP_on ho) he
  have h2 := fAt_big hg ht c d
  have h3 := stepP_le hg d e
  rw [h1]
  rw [Bool.eq_iff_iff, hitD_iff, decide_eq_true_eq]
  constructor
  · intro h4
    split at h4
    · exact ⟨ho, by assumption, by omega⟩
    · unfold big at h4; omega
  · rintro ⟨_, h4, h5⟩
    rw [if_pos h4]; omega
/-- and so it is for the first step -/
theorem ref_first {g : Gr} (hg : GrOk g) {to : Int × Int} (ht : openP g to = true) {T : List (List Int)} (h : TabS g to T) (hc : Closed g T) {c : Int × Int} {b : Int} {d0 : Nat} (hb : beginsP g (fieldP g to) c 4 = (b, (d0 : Int))) (h0 : 0 ≤ b) :
    d0 < 4 ∧ openP g (besideP c d0) = true ∧ 0 ≤ fAt g to (besideP c d0) d0 ∧ b = g.move + fAt g to (besideP c d0) d0 ∧
    (g.move + outGet T (indexP g (besideP c d0)).toNat d0 = b) ∧ ∀ e, e < d0 → openP g (besideP c e) = true → g.move + outGet T (indexP g (besideP c e)).toNat e ≠ b := by
  have hm2 := hg.m2
  rcases begins_spec hg (fieldP g to) c 4 with ⟨h1, _⟩ | ⟨d, h1, h2, h3, h4, h5, h6⟩
  · rw [hb] at h1
    injection h1 with h1 _
    omega
  · rw [hb] at h3
    injection h3 with h3 h3'
    obtain rfl : d0 = d := by omega
    have h7 := h2
    unfold hitB at h7
    simp only [Bool.and_eq_true, decide_eq_true_eq] at h7
    have h8 : b = g.move + fAt g to (besideP c d0) d0 := h3
    have h9 := fAt_big hg ht (besideP c d0) d0
    refine ⟨h1, h7.1, h7.2, h8, ?_, fun e he ho hh => ?_⟩
    · rw [tab_at hg ht h hc (openP_on h7.1) h1, if_pos (show 0 ≤ fAt g to (besideP c d0) d0 from h7.2), h8]
    · rw [tab_at hg ht h hc (openP_on ho) (by omega)] at hh
      by_cases h0 : 0 ≤ fAt g to (besideP c e) e
      · rw [if_pos h0] at hh
        have h10 : hitB g (fieldP g to) c e = true := by
          unfold hitB; rw [ho, decide_eq_true (show 0 ≤ outGet (fieldP g to) (indexP g (besideP c e)).toNat e from h0)]; rfl
        have := h6 e he h10
        unfold stepV at this h3
        unfold fAt at hh
        omega
      · rw [if_neg h0] at hh
        unfold big at hh
        omega
end Go.Proofs.Ytpakkjkjppibnaa
