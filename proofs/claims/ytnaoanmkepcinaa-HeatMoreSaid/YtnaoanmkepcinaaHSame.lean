/- law06.same, law06.sameRatios: whether two lists are the same. -/
import Derived.Test.YtnaoanmkepcinaaHPairs
import Derived.Deep.QuietTactic
import Derived.BigQuiet
namespace Go.Proofs.Ytnaoanmkepcinaa
open Go.RowKit

theorem take_snoc {α : Type} {l : List α} {k : Nat} {x : α} (h : l[k]? = some x) : l.take (k + 1) = l.take k ++ [x] := by
  rw [List.take_add_one, h]; rfl

theorem eq_of_take {α : Type} {l m : List α} {k : Nat} (h : l.take k = m.take k) (h1 : k = l.length) (h2 : l.length = m.length) : l = m := by
  subst h1
  rw [List.take_length, h2, List.take_length] at h
  exact h
theorem dec_ne {α : Type} [DecidableEq α] {xs ys : List α} {k : Nat} {x y : α} (h1 : xs[k]? = some x) (h2 : ys[k]? = some y) (hne : x ≠ y) : decide (xs = ys) = false := by
  rw [decide_eq_false_iff_not]
  intro h
  rw [h, h2] at h1
  exact hne (Option.some.inj h1).symm

set_option maxHeartbeats 400000 in
theorem same_any (xs ys : List Int) (u v : Value) (w : World) (hu : Rd w u (ints xs)) (hv : Rd w v (ints ys)) :
    Calls Try.prog 30 #[u, v] w fun e w' => e = .returned (.bool (decide (xs = ys))) ∧ Below w.heap.size w w' := by
  obtain ⟨a, cap, rfl, hc, hm, ha, _⟩ := hu
  obtain ⟨a2, cap2, rfl, hc2, hm2, ha2, _⟩ := hv
  simp only [ints_length] at hc hc2 ⊢
  unfold maxLen at hm hm2
  by_cases hl : xs.length = ys.length
  · have hb : ((xs.length : Int) != ys.length) = false := by rw [hl]; simp
    have HL := Lib.hid hl
    clear hl
    go_enter Try.func30, Try.ntmps30
    go_wp2_with fail
    go_loopw [5] (fun i wr => ∃ k : Nat, k ≤ xs.length ∧ i = .int .i64 k ∧ Hid (xs.take k = ys.take k) ∧ Below w.heap.size w wr) (fun i _ => xs.length - (intOf i).toNat)
    case atStart => exact ⟨0, Nat.zero_le _, rfl, Lib.hid (by simp), Below.refl _ _⟩
    case round =>
      obtain ⟨k, hk, rfl, HT, hbel⟩ := hrel
      by_cases hlt : k < xs.length
      · obtain ⟨b, off, rfl, hcell⟩ := (ha.below hbel (Nat.le_refl _)).cell (j := k) (by rw [ints_length]; exact hlt)
        have hlt2 : k < ys.length := by have := HL.out; omega
        obtain ⟨b2, off2, rfl, hcell2⟩ := (ha2.below hbel (Nat.le_refl _)).cell (j := k) (by rw [ints_length]; exact hlt2)
        obtain ⟨x, hx⟩ : ∃ x, xs[k]? = some x := ⟨_, List.getElem?_eq_getElem hlt⟩
        obtain ⟨y, hy⟩ : ∃ y, ys[k]? = some y := ⟨_, List.getElem?_eq_getElem hlt2⟩
        have c1 := hcell k _ (ints_get hx)
        have c2 := hcell2 k _ (ints_get hy)
        have HX := Lib.hid hx
        have HY := Lib.hid hy
        clear hcell hcell2 hx hy ha ha2
        by_cases hxy : x = y
        · subst hxy
          go_wp2_with fail
          go_quiet (fail)
          go_wp2_with fail
          go_roundw
          case rel => exact ⟨k + 1, by omega, by go_num, Lib.hid (by rw [take_snoc HX.out, take_snoc HY.out, HT.out]), bel_drewN hbel _⟩
          case measure => simp [intOf]; omega
        · have hne : (x != y) = true := by simpa using hxy
          have hne2 : (x == y) = false := by simpa using hxy
          have HF := Lib.hid (dec_ne HX.out HY.out hxy)
          clear hxy
          go_wp2_with fail
          go_quiet (fail)
          go_wp2_with fail
          go_ret
          exact ⟨by rw [HF.out]; rfl, bel_drewN hbel _⟩
      · have he : Hid (xs = ys) := Lib.hid (eq_of_take HT.out (by omega) HL.out)
        go_wp2_with fail
        go_ret
        exact ⟨by rw [decide_eq_true he.out]; rfl, hbel⟩
  · have hb : ((xs.length : Int) != ys.length) = true := by simp; omega
    have HF : Hid (decide (xs = ys) = false) := Lib.hid (decide_eq_false fun h => hl (by rw [h]))
    clear hl
    go_enter Try.func30, Try.ntmps30
    go_wp2_with fail
    go_ret
    exact ⟨by rw [HF.out]; rfl, Below.refl _ _⟩

set_option maxHeartbeats 400000 in
theorem sameR_any (xs ys : List (Int × Int)) (u v : Value) (w : World) (hu : RdP w u xs) (hv : RdP w v ys) :
    Calls Try.prog 27 #[u, v] w fun e w' => e = .returned (.bool (decide (xs = ys))) ∧ Below w.heap.size w w' := by
  obtain ⟨a, cap, rfl, hc, hm, ha, _⟩ := hu
  obtain ⟨a2, cap2, rfl, hc2, hm2, ha2, _⟩ := hv
  unfold maxLen at hm hm2
  by_cases hl : xs.length = ys.length
  · have hb : ((xs.length : Int) != ys.length) = false := by rw [hl]; simp
    have HL := Lib.hid hl
    clear hl
    go_enter Try.func27, Try.ntmps27
    go_wp2_with fail
    go_loopw [5] (fun i wr => ∃ k : Nat, k ≤ xs.length ∧ i = .int .i64 k ∧ Hid (xs.take k = ys.take k) ∧ Below w.heap.size w wr) (fun i _ => xs.length - (intOf i).toNat)
    case atStart => exact ⟨0, Nat.zero_le _, rfl, Lib.hid (by simp), Below.refl _ _⟩
    case round =>
      obtain ⟨k, hk, rfl, HT, hbel⟩ := hrel
      by_cases hlt : k < xs.length
      · have hlt2 : k < ys.length := by have := HL.out; omega
        obtain ⟨x, hx⟩ : ∃ x, xs[k]? = some x := ⟨_, List.getElem?_eq_getElem hlt⟩
        obtain ⟨y, hy⟩ : ∃ y, ys[k]? = some y := ⟨_, List.getElem?_eq_getElem hlt2⟩
        obtain ⟨b, off, rfl, c1, c2⟩ := RdP.cell (ha.below hbel (Nat.le_refl _)) hx
        obtain ⟨b2, off2, rfl, c3, c4⟩ := RdP.cell (ha2.below hbel (Nat.le_refl _)) hy
        have HX := Lib.hid hx
        have HY := Lib.hid hy
        obtain ⟨x1, x2⟩ := x
        obtain ⟨y1, y2⟩ := y
        clear hx hy ha ha2
        by_cases hxy : (x1, x2) = (y1, y2)
        · simp only [Prod.mk.injEq] at hxy
          obtain ⟨rfl, rfl⟩ := hxy
          go_wp2_with fail
          go_region
          go_wp2_with fail
          go_roundw
          case rel => exact ⟨k + 1, by omega, by go_num, Lib.hid (by rw [take_snoc HX.out, take_snoc HY.out, HT.out]), bel_drewN hbel _⟩
          case measure => simp [intOf]; omega
        · have HF := Lib.hid (dec_ne HX.out HY.out hxy)
          by_cases h1 : x1 = y1
          · subst h1
            have h2 : ¬ x2 = y2 := fun h => hxy (by rw [h])
            clear hxy
            go_wp2_with fail
            go_region
            go_wp2_with fail
            go_ret
            exact ⟨by rw [HF.out]; rfl, bel_drewN hbel _⟩
          · clear hxy
            go_wp2_with fail
            go_region
            go_wp2_with fail
            go_ret
            exact ⟨by rw [HF.out]; rfl, bel_drewN hbel _⟩
      · have he : Hid (xs = ys) := Lib.hid (eq_of_take HT.out (by omega) HL.out)
        go_wp2_with fail
        go_ret
        exact ⟨by rw [decide_eq_true he.out]; rfl, hbel⟩
  · have hb : ((xs.length : Int) != ys.length) = true := by simp; omega
    have HF : Hid (decide (xs = ys) = false) := Lib.hid (decide_eq_false fun h => hl (by rw [h]))
    clear hl
    go_enter Try.func27, Try.ntmps27
    go_wp2_with fail
    go_ret
    exact ⟨by rw [HF.out]; rfl, Below.refl _ _⟩

end Go.Proofs.Ytnaoanmkepcinaa
