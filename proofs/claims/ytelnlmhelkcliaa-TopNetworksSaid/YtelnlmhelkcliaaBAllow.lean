/- Benes: whether a tie agrees with what is stuck. -/
import Derived.Test.YtelnlmhelkcliaaBAgr
namespace Go.Proofs.Ytelnlmhelkcliaa
open Go.RowKit

def allowB (m : Nat) (F : Nat → Option Bool) (st : Nat → Int) : Bool := (List.range m).all fun j => match F j with | some b => mayB (st j) b | none => true
theorem allowB_no {m : Nat} {F : Nat → Option Bool} {st : Nat → Int} {j : Nat} {b : Bool} (hj : j < m) (hf : F j = some b) (h : mayB (st j) b = false) : allowB m F st = false := by
  unfold allowB
  rw [List.all_eq_false]
  exact ⟨j, List.mem_range.2 hj, by rw [hf]; dsimp only; rw [h]; decide⟩
theorem allowB_yes {m : Nat} {F : Nat → Option Bool} {st : Nat → Int} (h : ∀ j b, F j = some b → mayB (st j) b = true) : allowB m F st = true := by
  unfold allowB
  rw [List.all_eq_true]
  intro j _
  cases hf : F j with
  | none => rfl
  | some b => exact h j b hf

set_option maxRecDepth 100000 in
set_option maxHeartbeats 1000000 in
theorem allowed_any (m b1 b2 : Nat) (t : FL) (v1 v2 v3 v4 : Value) (l1 l2 : List Int) (w : World) (hm0 : 0 < m) (h1 : MB w b1 m t.1) (h2 : MB w b2 m t.2) (r1 : Rd w v1 (ints l1)) (r2 : Rd w v2 (ints l2)) (n1 : l1.length = m) (n2 : l2.length = m) :
    Calls Try.prog 81 #[.agg #[.map (some b1), .map (some b2)], .agg #[v1, v2, v3, v4]] w fun e w' => e = .returned (.bool (allowB m t.1 (fun j => l1.getD j 0) && allowB m t.2 (fun j => l2.getD j 0))) ∧ Below w.heap.size w w' := by
  obtain ⟨F, L⟩ := t
  dsimp only at h1 h2 ⊢
  obtain ⟨sf, hsf⟩ : ∃ sf : Nat → Int, (fun j => l1.getD j 0) = sf := ⟨_, rfl⟩
  obtain ⟨sl, hsl⟩ : ∃ sl : Nat → Int, (fun j => l2.getD j 0) = sl := ⟨_, rfl⟩
  have HSF : Hid (∀ j, l1.getD j 0 = sf j) := Lib.hid fun j => congrFun hsf j
  have HSL : Hid (∀ j, l2.getD j 0 = sl j) := Lib.hid fun j => congrFun hsl j
  rw [hsf, hsl]
  clear hsf hsl
  have HNO1 := Lib.hid (fun j b => @allowB_no m F sf j b)
  have HNO2 := Lib.hid (fun j b => @allowB_no m L sl j b)
  have HY1 := Lib.hid (@allowB_yes m F sf)
  have HY2 := Lib.hid (@allowB_yes m L sl)
  obtain ⟨A1, hA1⟩ : ∃ A, allowB m F sf = A := ⟨_, rfl⟩
  obtain ⟨A2, hA2⟩ : ∃ A, allowB m L sl = A := ⟨_, rfl⟩
  rw [hA1] at HNO1 HY1 ⊢
  rw [hA2] at HNO2 HY2 ⊢
  obtain ⟨a1, cp1, rfl, _, _, ca1, _⟩ := r1
  obtain ⟨a2, cp2, rfl, _, _, ca2, _⟩ := r2
  rw [ints_length, n1]
  rw [ints_length, n2]
  have hbe : Below w.heap.size w ((w.alloc (.cells #[.map (some b1), .map (some b2)] 101)).alloc (.cells #[.slice a1 m cp1, .slice a2 m cp2, v3, v4] 81)) := ((Below.refl _ _).alloc (Nat.le_refl _) _).alloc (by simp) _
  have HM1 := Lib.hid (h1.below hbe)
  have HM2 := Lib.hid (h2.below hbe)
  have HA1 := Lib.hid (ca1.below hbe (Nat.le_refl _))
  have HA2 := Lib.hid (ca2.below hbe (Nat.le_refl _))
  have HL1 := Lib.hid n1
  have HL2 := Lib.hid n2
  have HBE := Lib.hid hbe
  have l1' := h1.lt
  have l2' := h2.lt
  have C0 := Lib.hid (show ((w.alloc (.cells #[.map (some b1), .map (some b2)] 101)).alloc (.cells #[.slice a1 m cp1, .slice a2 m cp2, v3, v4] 81)).cell? ⟨w.heap.size, 0, none⟩ = some (.map (some b1)) ∧ ((w.alloc (.cells #[.map (some b1), .map (some b2)] 101)).alloc (.cells #[.slice a1 m cp1, .slice a2 m cp2, v3, v4] 81)).cell? ⟨w.heap.size, 1, none⟩ = some (.map (some b2)) ∧
    ((w.alloc (.cells #[.map (some b1), .map (some b2)] 101)).alloc (.cells #[.slice a1 m cp1, .slice a2 m cp2, v3, v4] 81)).cell? ⟨w.heap.size + 1, 0, none⟩ = some (.slice a1 m cp1) ∧ ((w.alloc (.cells #[.map (some b1), .map (some b2)] 101)).alloc (.cells #[.slice a1 m cp1, .slice a2 m cp2, v3, v4] 81)).cell? ⟨w.heap.size + 1, 1, none⟩ = some (.slice a2 m cp2) from
    ⟨cell_alloc (World.cell?_alloc_at _ _ _ _ rfl) _, cell_alloc (World.cell?_alloc_at _ _ _ _ rfl) _, World.cell?_alloc_at _ _ _ _ (by simp), World.cell?_alloc_at _ _ _ _ (by simp)⟩)
  have hge : w.heap.size + 1 + 1 ≤ ((w.alloc (.cells #[.map (some b1), .map (some b2)] 101)).alloc (.cells #[.slice a1 m cp1, .slice a2 m cp2, v3, v4] 81)).heap.size := by simp
  obtain ⟨wE, hE⟩ : ∃ wE, ((w.alloc (.cells #[.map (some b1), .map (some b2)] 101)).alloc (.cells #[.slice a1 m cp1, .slice a2 m cp2, v3, v4] 81)) = wE := ⟨_, rfl⟩
  have HE := Lib.hid hE
  rw [hE] at HM1 HM2 HA1 HA2 HBE C0 hge
  have HAG := Lib.hid (fun st b V => agrees_any st b V)
  clear hbe hE n1 n2 ca1 ca2 h1 h2 hA1 hA2
  go_enter Try.func81, Try.ntmps81
  go_wp2_with (at_range; rw [HE.out]; refine wp_mb_range _ rfl _ rfl b1 m F rfl HM1.out ?_; intro w5 hrg hgr hs5)
  try go_frame
  have R5 := Lib.hid hrg
  have K5 : Hid (Kp2 wE.heap.size wE.heap.size wE w5) := Lib.hid (Kp2.of_none hgr)
  clear hrg hgr
  go_loopw [] (fun wr => ∃ left : Nat → Bool, Hid (RG wr b1 wE.heap.size m F left) ∧ Hid (Kp2 wE.heap.size wE.heap.size wE wr) ∧ Hid (∀ j b, F j = some b → left j = false → mayB (sf j) b = true)) (fun wr => wr.rangeLeft b1 wE.heap.size)
  case atStart => exact ⟨fun j => (F j).isSome, R5, K5, Lib.hid fun j b hf hl => by dsimp only at hl; rw [hf] at hl; cases hl⟩
  case round =>
    obtain ⟨left, HG, HK, HJ⟩ := hrel
    have HB := Lib.hid (Kp2.below HBE.out HK.out (by omega) (by omega) (by omega))
    have c0 := HK.out.cell C0.out.2.1 (by dsimp only; omega) (by dsimp only; omega)
    have c1 := HK.out.cell C0.out.2.2.1 (by dsimp only; omega) (by dsimp only; omega)
    have hltr := World.block_lt_of_cell? _ _ c1
    have HBr := Lib.hid (HK.out.toBelow (Nat.le_refl _) (Nat.le_refl _) (Nat.le_refl _))
    have hAr := HA1.out.below HBr.out (Nat.le_refl _)
    have M2r := Lib.hid (HM2.out.below HBr.out)
    obtain ⟨bb, off, rfl, hcell⟩ := hAr.cell (j := 0) (by rw [ints_length, HL1.out]; omega)
    have hG : ∀ j, j < m → wr.cell? ⟨bb, off + j, none⟩ = some (.int .i64 (sf j)) := fun j hj => by rw [hcell j _ (ints_getD (by rw [HL1.out]; exact hj)), HSF.out]
    have HG4 := Lib.hid hG
    clear hcell hAr hG
    go_wp2_with (first
      | (at_next; refine wp_mb_nextD _ rfl _ rfl b1 wE.heap.size m F left ⟨w.heap.size + 1, 0, none⟩ _ c1 (fun j => ⟨bb, off + j, none⟩) (fun j => .int .i64 (sf j)) HG4.out rfl HG.out (fun hl0 => ?_) (fun x vx w6 hlx hfx hxm hrg6 hlt6 hg6 hs6 hen c46 c47 => ?_))
      | (at_range; refine wp_mb_range _ rfl _ rfl b2 m L rfl M2r.out ?_; intro w8 hrg8 hgr8 hs8)
      | (go_at_call 77; refine (HAG.out _ _ _).mono ?_; rintro e w7 ⟨rfl, rfl⟩; cases hq : mayB (sf x) vx))
    · try go_frame
      have HA1Y := Lib.hid (HY1.out fun j b hf => HJ.out j b hf (hl0 j))
      have R8 := Lib.hid hrg8
      have B8 := Lib.hid (HBr.out.trans (show Below wE.heap.size wr w8 from ⟨hgr8.os, hgr8.tape, hgr8.output, hgr8.size, fun i hi => hgr8.block i (Nat.lt_of_lt_of_le hi HBr.out.size) (by simp)⟩))
      have hr8 : wE.heap.size < wr.heap.size := HG.out.lt
      clear hrg8 hgr8 c0 c1 hl0
      obtain ⟨w1, rfl⟩ : ∃ w1, w1 = wr := ⟨_, rfl⟩
      go_loopw [] (fun wr => ∃ left : Nat → Bool, Hid (RG wr b2 w1.heap.size m L left) ∧ Hid (Below wE.heap.size wE wr) ∧ Hid (∀ j b, L j = some b → left j = false → mayB (sl j) b = true)) (fun wr => wr.rangeLeft b2 w1.heap.size)
      case atStart => exact ⟨fun j => (L j).isSome, R8, B8, Lib.hid fun j b hf hl => by dsimp only at hl; rw [hf] at hl; cases hl⟩
      case round =>
        obtain ⟨left2, HG2, HK2, HJ2⟩ := hrel
        have c1 := (HK2.out.cell (p := ⟨w.heap.size + 1, 1, none⟩) (by dsimp only; omega)).trans C0.out.2.2.2
        have hltr2 := World.block_lt_of_cell? _ _ c1
        have HBf := Lib.hid (HBE.out.trans (HK2.out.mono HBE.out.size))
        obtain ⟨bb2, off2, rfl, hcell⟩ := (HA2.out.below HK2.out (Nat.le_refl _)).cell (j := 0) (by rw [ints_length, HL2.out]; omega)
        have hG : ∀ j, j < m → wr.cell? ⟨bb2, off2 + j, none⟩ = some (.int .i64 (sl j)) := fun j hj => by rw [hcell j _ (ints_getD (by rw [HL2.out]; exact hj)), HSL.out]
        have HG5 := Lib.hid hG
        clear hcell hG
        go_wp2_with (first
          | (at_next; refine wp_mb_nextD _ rfl _ rfl b2 w1.heap.size m L left2 ⟨w.heap.size + 1, 1, none⟩ _ c1 (fun j => ⟨bb2, off2 + j, none⟩) (fun j => .int .i64 (sl j)) HG5.out rfl HG2.out (fun hl0 => ?_) (fun x vx w6 hlx hfx hxm hrg6 hlt6 hg6 hs6 hen c46 c47 => ?_))
          | (go_at_call 77; refine (HAG.out _ _ _).mono ?_; rintro e w7 ⟨rfl, rfl⟩; cases hq : mayB (sl x) vx))
        · have HA2Y := HY2.out fun j b hf => HJ2.out j b hf (hl0 j)
          go_ret
          exact ⟨by rw [HA1Y.out, HA2Y]; rfl, HBf.out⟩
        · have h6 : Below wE.heap.size wr w6 := ⟨hg6.os, hg6.tape, hg6.output, hg6.size, fun i hi => hg6.block i (Nat.lt_of_lt_of_le hi HK2.out.size) (by simp; omega)⟩
          go_ret
          exact ⟨by rw [HNO2.out x vx hxm hfx hq, Bool.and_false]; rfl, HBE.out.trans ((HK2.out.trans h6).mono HBE.out.size)⟩
        · have h6 : Below wE.heap.size wr w6 := ⟨hg6.os, hg6.tape, hg6.output, hg6.size, fun i hi => hg6.block i (Nat.lt_of_lt_of_le hi HK2.out.size) (by simp; omega)⟩
          go_roundw
          case rel =>
            refine ⟨fun i => left2 i && decide (i ≠ x), Lib.hid hrg6, Lib.hid (HK2.out.trans h6), Lib.hid fun j b hf hl => ?_⟩
            by_cases hj : j = x
            · subst hj; rw [hfx] at hf; cases hf; exact hq
            · exact HJ2.out j b hf (by simpa [hj] using hl)
          case measure => exact hlt6
    · have h6 : Below wE.heap.size wr w6 := ⟨hg6.os, hg6.tape, hg6.output, hg6.size, fun i hi => hg6.block i (Nat.lt_of_lt_of_le hi HBr.out.size) (by simp; omega)⟩
      go_ret
      exact ⟨by rw [HNO1.out x vx hxm hfx hq]; rfl, HBE.out.trans ((HBr.out.trans h6).mono HBE.out.size)⟩
    · have hK6 := HK.out.trans (Kp2.of_grown1 (b2 := wE.heap.size) hg6)
      go_roundw
      case rel =>
        refine ⟨fun i => left i && decide (i ≠ x), Lib.hid hrg6, Lib.hid hK6, Lib.hid fun j b hf hl => ?_⟩
        by_cases hj : j = x
        · subst hj; rw [hfx] at hf; cases hf; exact hq
        · exact HJ.out j b hf (by simpa [hj] using hl)
      case measure => exact hlt6
end Go.Proofs.Ytelnlmhelkcliaa
