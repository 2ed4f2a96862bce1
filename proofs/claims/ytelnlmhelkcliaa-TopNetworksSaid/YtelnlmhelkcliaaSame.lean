/- law08.same, law08.sameSet: whether two lists are the same. -/
import Derived.Test.YtelnlmhelkcliaaSizes
import Derived.Deep.QuietTactic
import Derived.BigQuiet
namespace Go.Proofs.Ytelnlmhelkcliaa
open Go.RowKit

theorem take_snoc {α : Type} {l : List α} {k : Nat} {x : α} (h : l[k]? = some x) : l.take (k + 1) = l.take k ++ [x] := by
  rw [List.take_add_one, h]; rfl

theorem eq_of_take {α : Type} {l m : List α} {k : Nat} (h : l.take k = m.take k) (h1 : k = l.length) (h2 : l.length = m.length) : l = m := by
  subst h1
  rw [List.take_length, h2, List.take_length] at h
  exact h

set_option maxHeartbeats 400000 in
theorem same_any (xs ys : List Int) (u v : Value) (w : World) (hu : Rd w u (xs.map (Value.int .i64))) (hv : Rd w v (ys.map (Value.int .i64))) :
    Calls Try.prog 20 #[u, v] w fun e w' => e = .returned (.bool (decide (xs = ys))) ∧ Below w.heap.size w w' := by
  obtain ⟨a, cap, rfl, hc, hm, ha, _⟩ := hu
  obtain ⟨a2, cap2, rfl, hc2, hm2, ha2, _⟩ := hv
  simp only [List.length_map] at *
  unfold maxLen at hm hm2
  by_cases hl : xs.length = ys.length
  · have hb : ((xs.length : Int) != ys.length) = false := by rw [hl]; simp
    have HL := Lib.hid hl
    clear hl
    go_enter Try.func20, Try.ntmps20
    go_wp2_with fail
    go_loopw [5] (fun i wr => ∃ k : Nat, k ≤ xs.length ∧ i = .int .i64 k ∧ Hid (xs.take k = ys.take k) ∧ Below w.heap.size w wr) (fun i _ => xs.length - (intOf i).toNat)
    case atStart => exact ⟨0, Nat.zero_le _, rfl, Lib.hid (by simp), Below.refl _ _⟩
    case round =>
      obtain ⟨k, hk, rfl, HT, hbel⟩ := hrel
      by_cases hlt : k < xs.length
      · obtain ⟨b, off, rfl, hcell⟩ := (ha.below hbel (Nat.le_refl _)).cell (j := k) (by simpa using hlt)
        have hlt2 : k < ys.length := by have := HL.out; omega
        obtain ⟨b2, off2, rfl, hcell2⟩ := (ha2.below hbel (Nat.le_refl _)).cell (j := k) (by simpa using hlt2)
        obtain ⟨x, hx⟩ : ∃ x, xs[k]? = some x := ⟨_, List.getElem?_eq_getElem hlt⟩
        obtain ⟨y, hy⟩ : ∃ y, ys[k]? = some y := ⟨_, List.getElem?_eq_getElem hlt2⟩
        have c1 := hcell k ((Value.int .i64) x) (by rw [List.getElem?_map, hx]; rfl)
        have c2 := hcell2 k ((Value.int .i64) y) (by rw [List.getElem?_map, hy]; rfl)
        have HX := Lib.hid hx
        have HY := Lib.hid hy
        clear hcell hcell2 hx hy ha ha2
        by_cases hxy : x = y
        · subst hxy
          go_wp2_with fail
          go_quiet (fail)
          go_wp2_with fail
          go_roundw
          case rel => exact ⟨k + 1, by omega, by go_num, Lib.hid (by rw [take_snoc HX.out, take_snoc HY.out, HT.out]), bel_drewN hbel _⟩
          case measure => simp [intOf]; omega
        · have hne : (x != y) = true := by simpa using hxy
          have hne2 : (x == y) = false := by simpa using hxy
          have hf : decide (xs = ys) = false := by
            rw [decide_eq_false_iff_not]
            intro h
            have h1 := HX.out
            rw [h, HY.out] at h1
            exact hxy (Option.some.inj h1).symm
          have HF := Lib.hid hf
          clear hf hxy
          go_wp2_with fail
          go_quiet (fail)
          go_wp2_with fail
          go_ret
          exact ⟨by rw [HF.out]; rfl, bel_drewN hbel _⟩
      · go_wp2_with fail
        go_ret
        have he : xs = ys := eq_of_take HT.out (by omega) HL.out
        exact ⟨by rw [decide_eq_true he]; rfl, hbel⟩
  · have hb : ((xs.length : Int) != ys.length) = true := by simp; omega
    have hf : decide (xs = ys) = false := by
      rw [decide_eq_false_iff_not]; intro h; exact hl (by rw [h])
    rw [hf]
    clear hf
    go_enter Try.func20, Try.ntmps20
    go_wp2_with fail
    go_ret
    exact ⟨rfl, Below.refl _ _⟩

set_option maxHeartbeats 400000 in
theorem sameSet_any (xs ys : List Bool) (u v : Value) (w : World) (hu : Rd w u (xs.map Value.bool)) (hv : Rd w v (ys.map Value.bool)) :
    Calls Try.prog 29 #[u, v] w fun e w' => e = .returned (.bool (decide (xs = ys))) ∧ Below w.heap.size w w' := by
  obtain ⟨a, cap, rfl, hc, hm, ha, _⟩ := hu
  obtain ⟨a2, cap2, rfl, hc2, hm2, ha2, _⟩ := hv
  simp only [List.length_map] at *
  unfold maxLen at hm hm2
  by_cases hl : xs.length = ys.length
  · have hb : ((xs.length : Int) != ys.length) = false := by rw [hl]; simp
    have HL := Lib.hid hl
    clear hl
    go_enter Try.func29, Try.ntmps29
    go_wp2_with fail
    go_loopw [5] (fun i wr => ∃ k : Nat, k ≤ xs.length ∧ i = .int .i64 k ∧ Hid (xs.take k = ys.take k) ∧ Below w.heap.size w wr) (fun i _ => xs.length - (intOf i).toNat)
    case atStart => exact ⟨0, Nat.zero_le _, rfl, Lib.hid (by simp), Below.refl _ _⟩
    case round =>
      obtain ⟨k, hk, rfl, HT, hbel⟩ := hrel
      by_cases hlt : k < xs.length
      · obtain ⟨b, off, rfl, hcell⟩ := (ha.below hbel (Nat.le_refl _)).cell (j := k) (by simpa using hlt)
        have hlt2 : k < ys.length := by have := HL.out; omega
        obtain ⟨b2, off2, rfl, hcell2⟩ := (ha2.below hbel (Nat.le_refl _)).cell (j := k) (by simpa using hlt2)
        obtain ⟨x, hx⟩ : ∃ x, xs[k]? = some x := ⟨_, List.getElem?_eq_getElem hlt⟩
        obtain ⟨y, hy⟩ : ∃ y, ys[k]? = some y := ⟨_, List.getElem?_eq_getElem hlt2⟩
        have c1 := hcell k (Value.bool x) (by rw [List.getElem?_map, hx]; rfl)
        have c2 := hcell2 k (Value.bool y) (by rw [List.getElem?_map, hy]; rfl)
        have HX := Lib.hid hx
        have HY := Lib.hid hy
        clear hcell hcell2 hx hy ha ha2
        by_cases hxy : x = y
        · subst hxy
          go_wp2_with fail
          go_quiet (fail)
          go_wp2_with fail
          go_roundw
          case rel => exact ⟨k + 1, by omega, by go_num, Lib.hid (by rw [take_snoc HX.out, take_snoc HY.out, HT.out]), bel_drewN hbel _⟩
          case measure => simp [intOf]; omega
        · have hne : (x != y) = true := by simpa using hxy
          have hne2 : (x == y) = false := by simpa using hxy
          have hf : decide (xs = ys) = false := by
            rw [decide_eq_false_iff_not]
            intro h
            have h1 := HX.out
            rw [h, HY.out] at h1
            exact hxy (Option.some.inj h1).symm
          have HF := Lib.hid hf
          clear hf hxy
          go_wp2_with fail
          go_quiet (fail)
          go_wp2_with fail
          go_ret
          exact ⟨by rw [HF.out]; rfl, bel_drewN hbel _⟩
      · go_wp2_with fail
        go_ret
        have he : xs = ys := eq_of_take HT.out (by omega) HL.out
        exact ⟨by rw [decide_eq_true he]; rfl, hbel⟩
  · have hb : ((xs.length : Int) != ys.length) = true := by simp; omega
    have hf : decide (xs = ys) = false := by
      rw [decide_eq_false_iff_not]; intro h; exact hl (by rw [h])
    rw [hf]
    clear hf
    go_enter Try.func29, Try.ntmps29
    go_wp2_with fail
    go_ret
    exact ⟨rfl, Below.refl _ _⟩

set_option maxHeartbeats 400000 in
theorem equal_any (xs ys : List Int) (u v : Value) (w : World) (hu : Rd w u (xs.map (Value.int .i64))) (hv : Rd w v (ys.map (Value.int .i64))) :
    Calls Try.prog 50 #[u, v] w fun e w' => e = .returned (.bool (decide (xs = ys))) ∧ Below w.heap.size w w' := by
  obtain ⟨a, cap, rfl, hc, hm, ha, _⟩ := hu
  obtain ⟨a2, cap2, rfl, hc2, hm2, ha2, _⟩ := hv
  simp only [List.length_map] at *
  unfold maxLen at hm hm2
  by_cases hl : xs.length = ys.length
  · have hb : ((xs.length : Int) != ys.length) = false := by rw [hl]; simp
    have HL := Lib.hid hl
    clear hl
    go_enter Try.func50, Try.ntmps50
    go_wp2_with fail
    go_loopw [13] (fun i wr => ∃ k : Nat, k ≤ xs.length ∧ i = .int .i64 k ∧ Hid (xs.take k = ys.take k) ∧ Below w.heap.size w wr) (fun i _ => xs.length - (intOf i).toNat)
    case atStart => exact ⟨0, Nat.zero_le _, rfl, Lib.hid (by simp), Below.refl _ _⟩
    case round =>
      obtain ⟨k, hk, rfl, HT, hbel⟩ := hrel
      by_cases hlt : k < xs.length
      · obtain ⟨b, off, rfl, hcell⟩ := (ha.below hbel (Nat.le_refl _)).cell (j := k) (by simpa using hlt)
        have hlt2 : k < ys.length := by have := HL.out; omega
        obtain ⟨b2, off2, rfl, hcell2⟩ := (ha2.below hbel (Nat.le_refl _)).cell (j := k) (by simpa using hlt2)
        obtain ⟨x, hx⟩ : ∃ x, xs[k]? = some x := ⟨_, List.getElem?_eq_getElem hlt⟩
        obtain ⟨y, hy⟩ : ∃ y, ys[k]? = some y := ⟨_, List.getElem?_eq_getElem hlt2⟩
        have c1 := hcell k ((Value.int .i64) x) (by rw [List.getElem?_map, hx]; rfl)
        have c2 := hcell2 k ((Value.int .i64) y) (by rw [List.getElem?_map, hy]; rfl)
        have HX := Lib.hid hx
        have HY := Lib.hid hy
        clear hcell hcell2 hx hy ha ha2
        by_cases hxy : x = y
        · subst hxy
          go_wp2_with fail
          go_quiet (fail)
          go_wp2_with fail
          go_roundw
          case rel => exact ⟨k + 1, by omega, by go_num, Lib.hid (by rw [take_snoc HX.out, take_snoc HY.out, HT.out]), bel_drewN hbel _⟩
          case measure => simp [intOf]; omega
        · have hne : (x != y) = true := by simpa using hxy
          have hne2 : (x == y) = false := by simpa using hxy
          have hf : decide (xs = ys) = false := by
            rw [decide_eq_false_iff_not]
            intro h
            have h1 := HX.out
            rw [h, HY.out] at h1
            exact hxy (Option.some.inj h1).symm
          have HF := Lib.hid hf
          clear hf hxy
          go_wp2_with fail
          go_quiet (fail)
          go_wp2_with fail
          go_ret
          exact ⟨by rw [HF.out]; rfl, bel_drewN hbel _⟩
      · go_wp2_with fail
        go_ret
        have he : xs = ys := eq_of_take HT.out (by omega) HL.out
        exact ⟨by rw [decide_eq_true he]; rfl, hbel⟩
  · have hb : ((xs.length : Int) != ys.length) = true := by simp; omega
    have hf : decide (xs = ys) = false := by
      rw [decide_eq_false_iff_not]; intro h; exact hl (by rw [h])
    rw [hf]
    clear hf
    go_enter Try.func50, Try.ntmps50
    go_wp2_with fail
    go_ret
    exact ⟨rfl, Below.refl _ _⟩

end Go.Proofs.Ytelnlmhelkcliaa
