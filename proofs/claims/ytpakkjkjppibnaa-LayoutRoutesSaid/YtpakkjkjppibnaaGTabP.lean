/- Layout: the document's table of least costs: plain. -/
import Derived.Test.YtpakkjkjppibnaaGLeast
namespace Go.Proofs.Ytpakkjkjppibnaa
open Go.RowKit

def big : Int := 1099511627776
def sumR (r : List Int) : Nat := (r.map Int.toNat).sum
def sumT (T : List (List Int)) : Nat := (T.map sumR).sum
theorem sumR_set : ∀ (r : List Int) (d : Nat) (x : Int), d < r.length → 0 ≤ x → x < r.getD d 0 → sumR (r.set d x) < sumR r
  | [], _, _, h, _, _ => absurd h (Nat.not_lt_zero _)
  | y :: r, 0, x, _, h0, h1 => by
    simp at h1
    simp [sumR]; omega
  | y :: r, d + 1, x, h, h0, h1 => by
    have := sumR_set r d x (by simpa using h) h0 (by simpa using h1)
    simp [sumR] at this ⊢; omega
theorem sumT_set : ∀ (T : List (List Int)) (i d : Nat) (x : Int), i < T.length → d < (T.getD i []).length → 0 ≤ x → x < outGet T i d → sumT (outSet T i d x) < sumT T
  | [], _, _, _, h, _, _, _ => absurd h (Nat.not_lt_zero _)
  | r :: T, 0, d, x, _, hd, h0, h1 => by
    have := sumR_set r d x (by simpa using hd) h0 (by simpa [outGet] using h1)
    simp [sumT, outSet] at this ⊢; omega
  | r :: T, i + 1, d, x, h, hd, h0, h1 => by
    have := sumT_set T i d x (by simpa using h) (by simpa using hd) h0 (by simpa [outGet] using h1)
    simp [sumT, outSet] at this ⊢; omega

/-- each number of a table is what some way costs, or the great number -/
structure TabS (g : Gr) (to : Int × Int) (T : List (List Int)) : Prop where
  len : T.length = g.w * g.h
  row : ∀ i, i < g.w * g.h → (T.getD i []).length = 4
  val : ∀ i d, i < g.w * g.h → d < 4 → outGet T i d = big ∨ (Wk g to (cellP g i) d (outGet T i d) ∧ outGet T i d < big)
  top : ∀ d, d < 4 → outGet T (indexP g to).toNat d = 0
theorem TabS.four {g : Gr} {to : Int × Int} {T : List (List Int)} (h : TabS g to T) : Four T := fun r hr => by
  obtain ⟨i, hi, rfl⟩ := List.mem_iff_getElem.1 hr
  have := h.row i (by rw [← h.len]; exact hi)
  rwa [List.getD_eq_getElem?_getD, List.getElem?_eq_getElem hi] at this
theorem TabS.range {g : Gr} (hg : GrOk g) {to : Int × Int} {T : List (List Int)} (h : TabS g to T) {i d : Nat} (hi : i < g.w * g.h) (hd : d < 4) : 0 ≤ outGet T i d ∧ outGet T i d ≤ big := by
  rcases h.val i d hi hd with h1 | ⟨h1, h2⟩
  · rw [h1]; decide
  · exact ⟨h1.nonneg hg, Int.le_of_lt h2⟩
/-- what a step costs by a table -/
def tabV (g : Gr) (T : List (List Int)) (i d e : Nat) : Int := outGet T (indexP g (besideP (cellP g i) d)).toNat d + stepP g e d
theorem index_ne {g : Gr} (hg : GrOk g) {i d : Nat} (hd : d < 4) (hon : onP g.w g.h (besideP (cellP g i) d) = true) : (indexP g (besideP (cellP g i) d)).toNat ≠ i := fun e => by
  have h1 := cell_index hg hon
  rw [e] at h1
  have h2 : ∀ c : Int × Int, besideP c d ≠ c := fun c hc => by
    obtain ⟨x, y⟩ := c
    rcases (by omega : d = 0 ∨ d = 1 ∨ d = 2 ∨ d = 3) with rfl | rfl | rfl | rfl <;> simp [besideP] at hc <;> omega
  exact h2 _ h1.symm
theorem tab_relax {g : Gr} (hg : GrOk g) {to : Int × Int} {T : List (List Int)} (h : TabS g to T) {i d e : Nat} (hi : i < g.w * g.h) (hd : d < 4) (he : e < 4) (ho : openP g (cellP g i) = true) (hn : onP g.w g.h (besideP (cellP g i) d) = true) (hlt : tabV g T i d e < outGet T i e) :
    TabS g to (outSet T i e (tabV g T i d e)) ∧ sumT (outSet T i e (tabV g T i d e)) < sumT T ∧ outGet (outSet T i e (tabV g T i d e)) (indexP g (besideP (cellP g i) d)).toNat d = outGet T (indexP g (besideP (cellP g i) d)).toNat d := by
  have hix := hg.index hn
  have hj : (indexP g (besideP (cellP g i) d)).toNat < g.w * g.h := by have := hix.2.2.2.2; omega
  have hr := h.range hg hi he
  have hs := stepP_le hg e d
  have hrj := h.range hg hj hd
  have hget : ∀ j f, outGet (outSet T i e (tabV g T i d e)) j f = if j = i ∧ f = e then tabV g T i d e else outGet T j f := outSet_get (by rw [h.len]; exact hi) (by rw [h.row i hi]; exact he)
  have h0 : 0 ≤ tabV g T i d e := by unfold tabV; omega
  have hw : Wk g to (cellP g i) e (tabV g T i d e) := by
    rcases h.val _ d hj hd with h1 | ⟨h1, h2⟩
    · unfold tabV at hlt; rw [h1] at hlt; omega
    · rw [cell_index hg hn] at h1
      have h3 := Wk.step _ d _ e h1 (by rw [beside_back' _ hd]; exact ho) he
      rw [beside_back' _ hd] at h3
      exact h3
  refine ⟨⟨by rw [outSet_len]; exact h.len, fun j hj => by rw [outSet_row]; exact h.row j hj, fun j f hj hf => ?_, fun f hf => ?_⟩, sumT_set _ _ _ _ (by rw [h.len]; exact hi) (by rw [h.row i hi]; exact he) h0 hlt, ?_⟩
  · rw [hget]
    split
    · next hjf => obtain ⟨rfl, rfl⟩ := hjf; exact .inr ⟨hw, by omega⟩
    · exact h.val j f hj hf
  · rw [hget]
    split
    · next hjf =>
      obtain ⟨h1, rfl⟩ := hjf
      have := h.top f hf
      rw [h1] at this
      omega
    · exact h.top f hf
  · rw [hget, if_neg (fun hh => index_ne hg hd hn hh.1)]
def okDir (g : Gr) (T : List (List Int)) (i d : Nat) : Prop := openP g (besideP (cellP g i) d) = true → ∀ e, e < 4 → outGet T i e ≤ tabV g T i d e
def okCell (g : Gr) (T : List (List Int)) (i : Nat) : Prop := openP g (cellP g i) = true → ∀ d, d < 4 → okDir g T i d
def Closed (g : Gr) (T : List (List Int)) : Prop := ∀ i, i < g.w * g.h → okCell g T i
/-- a pass over the table: nothing has changed, and all that was seen is right; or something has -/
structure Pass (g : Gr) (to : Int × Int) (T0 T : List (List Int)) (b : Bool) (P : Prop) : Prop where
  same : b = false → T = T0 ∧ P
  less : b = true → sumT T < sumT T0
  tab : TabS g to T
theorem Pass.imp {g : Gr} {to : Int × Int} {T0 T : List (List Int)} {b : Bool} {P Q : Prop} (h : Pass g to T0 T b P) (hpq : P → Q) : Pass g to T0 T b Q := ⟨fun hb => ⟨(h.same hb).1, hpq (h.same hb).2⟩, h.less, h.tab⟩
theorem Pass.relax {g : Gr} (hg : GrOk g) {to : Int × Int} {T0 T : List (List Int)} {b : Bool} {P : Prop} (h : Pass g to T0 T b P) {i d e : Nat} (hi : i < g.w * g.h) (hd : d < 4) (he : e < 4) (ho : openP g (cellP g i) = true) (hn : onP g.w g.h (besideP (cellP g i) d) = true) (hlt : tabV g T i d e < outGet T i e) (Q : Prop) :
    Pass g to T0 (outSet T i e (tabV g T i d e)) true Q ∧ outGet (outSet T i e (tabV g T i d e)) (indexP g (besideP (cellP g i) d)).toNat d = outGet T (indexP g (besideP (cellP g i) d)).toNat d := by
  obtain ⟨h1, h2, h3⟩ := tab_relax hg h.tab hi hd he ho hn hlt
  refine ⟨⟨(fun hb => absurd hb (by decide)), (fun _ => ?_), h1⟩, h3⟩
  cases b with
  | false => rw [← (h.same rfl).1]; exact h2
  | true => exact Nat.lt_trans h2 (h.less rfl)

/-- a table that nothing changes holds the least costs -/
theorem tab_field {g : Gr} (hg : GrOk g) {to : Int × Int} (ht : openP g to = true) {T : List (List Int)} (h : TabS g to T) (hc : Closed g T) {i d : Nat} (hi : i < g.w * g.h) (hd : d < 4) :
    outGet T i d = if 0 ≤ outGet (fieldP g to) i d then outGet (fieldP g to) i d else big := by
  have hle : ∀ c d v, Wk g to c d v → outGet T (indexP g c).toNat d ≤ v := fun c d v hw => by
    induction hw with
    | base d hd => rw [h.top d hd]; exact Int.le_refl _
    | step c d v e hw ho he ih =>
      have hon := openP_on ho
      have hix := hg.index hon
      have hj : (indexP g (besideP c (d + 2))).toNat < g.w * g.h := by have := hix.2.2.2.2; omega
      have h1 := hc _ hj
      unfold okCell at h1
      rw [cell_index hg hon] at h1
      have h2 := h1 ho d hw.dir
      unfold okDir tabV at h2
      rw [cell_index hg hon, beside_back c hw.dir] at h2
      have h3 := h2 (hw.op ht) e he
      omega
  have hci := cell_on hg hi
  have hidx : (indexP g (cellP g i)).toNat = i := by rw [index_cell hg]; exact Int.toNat_natCast i
  by_cases h0 : 0 ≤ outGet (fieldP g to) i d
  · rw [if_pos h0]
    have hs := field_sound hg (openP_on ht) hci hd (by rw [hidx]; exact h0)
    rw [hidx] at hs
    have h1 := hle _ _ _ hs
    rw [hidx] at h1
    have hb : outGet (fieldP g to) i d < big := by
      have h5 := (fieldP_inv hg (openP_on ht)).out i d
      have h6 := hg.cells
      dsimp only at h5
      unfold big
      omega
    rcases h.val i d hi hd with h2 | ⟨h2, _⟩
    · omega
    · have h3 := (field_least hg ht h2).2
      rw [hidx] at h3
      omega
  · rw [if_neg h0]
    rcases h.val i d hi hd with h2 | ⟨h2, _⟩
    · exact h2
    · have h3 := (field_least hg ht h2).1
      rw [hidx] at h3
      exact absurd h3 h0

/-- the table that the document begins with -/
def tab0 (g : Gr) (to : Int × Int) : List (List Int) := (List.replicate (g.w * g.h) [big, big, big, big]).set (indexP g to).toNat [0, 0, 0, 0]
theorem tab0_ok {g : Gr} (hg : GrOk g) {to : Int × Int} (ht : onP g.w g.h to = true) : TabS g to (tab0 g to) := by
  have hix := hg.index ht
  have hj : (indexP g to).toNat < g.w * g.h := by have := hix.2.2.2.2; omega
  have hrow : ∀ i, i < g.w * g.h → (tab0 g to).getD i [] = if i = (indexP g to).toNat then [0, 0, 0, 0] else [big, big, big, big] := fun i hi => by
    unfold tab0
    rw [List.getD_eq_getElem?_getD, List.getElem?_set]
    by_cases e : (indexP g to).toNat = i
    · subst e
      simp [hj]
    · rw [if_neg e, if_neg (fun e' => e e'.symm), List.getElem?_replicate, if_pos hi]
      rfl
  have hv : ∀ i d, i < g.w * g.h → d < 4 → outGet (tab0 g to) i d = if i = (indexP g to).toNat then 0 else big := fun i d hi hd => by
    unfold outGet
    rw [hrow i hi]
    rcases (by omega : d = 0 ∨ d = 1 ∨ d = 2 ∨ d = 3) with rfl | rfl | rfl | rfl <;> split <;> rfl
  refine ⟨by simp [tab0], fun i hi => by rw [hrow i hi]; split <;> rfl, fun i d hi hd => ?_, fun d hd => by rw [hv _ d hj hd, if_pos rfl]⟩
  rw [hv i d hi hd]
  split
  · next e =>
    right
    have : cellP g i = to := by rw [e]; exact cell_index hg ht
    rw [this]
    exact ⟨Wk.base d hd, by decide⟩
  · exact .inl rfl
end Go.Proofs.Ytpakkjkjppibnaa
