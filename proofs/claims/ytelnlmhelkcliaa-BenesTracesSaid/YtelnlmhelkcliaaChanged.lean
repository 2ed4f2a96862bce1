/- benes.Changed, ref08.Changed: where two lists differ. -/
import Derived.Test.YtelnlmhelkcliaaSame
namespace Go.Proofs.Ytelnlmhelkcliaa
open Go.RowKit

/-- the indexes below k at which two lists differ -/
def chg (xs ys : List Bool) (k : Nat) : List Int := ((List.range k).filter fun i => xs.getD i false != ys.getD i false).map Int.ofNat

theorem chg_le (xs ys : List Bool) (k : Nat) : (chg xs ys k).length ≤ k := by
  unfold chg
  rw [List.length_map]
  have := List.length_filter_le (fun i => xs.getD i false != ys.getD i false) (List.range k)
  simpa using this

theorem chg_succ (xs ys : List Bool) (k : Nat) (x y : Bool) (hx : xs[k]? = some x) (hy : ys[k]? = some y) :
    chg xs ys (k + 1) = if x != y then chg xs ys k ++ [(k : Int)] else chg xs ys k := by
  unfold chg
  rw [filter_range_succ]
  have e1 : xs.getD k false = x := by simp [List.getD, hx]
  have e2 : ys.getD k false = y := by simp [List.getD, hy]
  simp only [e1, e2]
  by_cases h : (x != y) = true
  · rw [if_pos h, if_pos h, List.map_append]; rfl
  · rw [if_neg h, if_neg h]

/-- What Changed gives. -/
def chgE (xs ys : List Bool) : Int := if xs.length = ys.length ∧ xs.length ≤ 1000 then 0 else 2
def chgL (xs ys : List Bool) : List Int := if xs.length = ys.length ∧ xs.length ≤ 1000 then chg xs ys xs.length else []

set_option maxHeartbeats 400000 in
theorem changed_any (xs ys : List Bool) (u v : Value) (w : World) (hu : Rd w u (xs.map .bool)) (hv : Rd w v (ys.map .bool)) :
    Calls Try.prog 23 #[u, v] w fun e w' => ∃ r, e = .returned (.tuple #[r, .int .i64 (chgE xs ys)]) ∧ w'.ownsRow w.heap.size 3 1 r (chgL xs ys).length ((chgL xs ys).map (.int .i64)) ∧ Below w.heap.size w w' := by
  obtain ⟨a, cap, rfl, hc, hm, ha, _⟩ := hu
  obtain ⟨a2, cap2, rfl, hc2, hm2, ha2, _⟩ := hv
  simp only [List.length_map] at *
  unfold maxLen at hm hm2
  by_cases hl : xs.length = ys.length
  · have hb : ((xs.length : Int) != ys.length) = false := by rw [hl]; simp
    by_cases h1 : xs.length ≤ 1000
    · have h1' : decide ((1000 : Int) < (xs.length : Int)) = false := by simp; omega
      have hE : chgE xs ys = 0 := if_pos ⟨hl, h1⟩
      have hL : chgL xs ys = chg xs ys xs.length := if_pos ⟨hl, h1⟩
      rw [hE, hL]
      have HL := Lib.hid hl
      clear hl hE hL
      go_enter Try.func23, Try.ntmps23
      go_wp2_with fail
      go_loopw [6, 21] (fun v i wr => ∃ k : Nat, k ≤ xs.length ∧ i = .int .i64 k ∧ wr.ownsRow w.heap.size 3 1 v (chg xs ys k).length ((chg xs ys k).map (.int .i64)) ∧ Below w.heap.size w wr) (fun _ i _ => xs.length - (intOf i).toNat)
      case atStart => exact ⟨0, Nat.zero_le _, rfl, World.ownsRow_nil _ _ _ _, Below.refl _ _⟩
      case round =>
        obtain ⟨k, hk, rfl, hown, hbel⟩ := hrel
        by_cases hlt : k < xs.length
        · obtain ⟨b, off, rfl, hcell⟩ := (ha.below hbel (Nat.le_refl _)).cell (j := k) (by simpa using hlt)
          have hlt2 : k < ys.length := by have := HL.out; omega
          obtain ⟨b2, off2, rfl, hcell2⟩ := (ha2.below hbel (Nat.le_refl _)).cell (j := k) (by simpa using hlt2)
          obtain ⟨x, hx⟩ : ∃ x, xs[k]? = some x := ⟨_, List.getElem?_eq_getElem hlt⟩
          obtain ⟨y, hy⟩ : ∃ y, ys[k]? = some y := ⟨_, List.getElem?_eq_getElem hlt2⟩
          have c1 := hcell k (.bool x) (by rw [List.getElem?_map, hx]; rfl)
          have c2 := hcell2 k (.bool y) (by rw [List.getElem?_map, hy]; rfl)
          have HS := Lib.hid (chg_succ xs ys k x y hx hy)
          have hcl := chg_le xs ys k
          clear hcell hcell2 hx hy ha ha2
          by_cases hxy : x = y
          · subst hxy
            go_wp2_with fail
            try go_quiet (fail)
            go_wp2_with fail
            go_roundw
            case rel => exact ⟨k + 1, by omega, by go_num, by rw [HS.out, if_neg (by simp)]; first | exact own_drewN hown _ | exact hown, by first | exact bel_drewN hbel _ | exact hbel⟩
            case measure => simp [intOf]; omega
          · have hne : (x != y) = true := by simpa using hxy
            have hne2 : (x == y) = false := by simpa using hxy
            clear hxy
            go_wp2_with (at_builtin; refine app1 el_int rfl rfl rfl rfl (by first | exact bel_drewN hbel _ | exact hbel) (by first | exact own_drewN hown _ | exact hown) rfl (by omega) ?_; intro v' w1 hown1 hbel1 _)
            try (go_quiet (fail))
            go_wp2_with (at_builtin; refine app1 el_int rfl rfl rfl rfl (by first | exact bel_drewN hbel _ | exact hbel) (by first | exact own_drewN hown _ | exact hown) rfl (by omega) ?_; intro v' w1 hown1 hbel1 _)
            go_roundw
            case rel => exact ⟨k + 1, by omega, by go_num, by rw [HS.out, if_pos hne, List.length_append, List.map_append]; exact hown1, hbel1⟩
            case measure => simp [intOf]; omega
        · obtain rfl : k = xs.length := by omega
          go_wp2_with fail
          go_ret2
          exact ⟨_, rfl, hown, hbel⟩
    · have h1' : decide ((1000 : Int) < (xs.length : Int)) = true := by simp; omega
      have hE : chgE xs ys = 2 := if_neg (by omega)
      have hL : chgL xs ys = [] := if_neg (by omega)
      rw [hE, hL]
      clear hE hL hl
      go_enter Try.func23, Try.ntmps23
      go_wp2_with fail
      go_ret2
      exact ⟨_, rfl, World.ownsRow_nil _ _ _ _, Below.refl _ _⟩
  · have hb : ((xs.length : Int) != ys.length) = true := by simp; omega
    have hE : chgE xs ys = 2 := if_neg (by omega)
    have hL : chgL xs ys = [] := if_neg (by omega)
    rw [hE, hL]
    clear hE hL
    go_enter Try.func23, Try.ntmps23
    go_wp2_with fail
    go_ret2
    exact ⟨_, rfl, World.ownsRow_nil _ _ _ _, Below.refl _ _⟩

set_option maxHeartbeats 400000 in
theorem refChanged_any (xs ys : List Bool) (u v : Value) (w : World) (hu : Rd w u (xs.map .bool)) (hv : Rd w v (ys.map .bool)) :
    Calls Try.prog 24 #[u, v] w fun e w' => ∃ r, e = .returned (.tuple #[r, .int .i64 (chgE xs ys)]) ∧ w'.ownsRow w.heap.size 3 1 r (chgL xs ys).length ((chgL xs ys).map (.int .i64)) ∧ Below w.heap.size w w' := by
  obtain ⟨a, cap, rfl, hc, hm, ha, _⟩ := hu
  obtain ⟨a2, cap2, rfl, hc2, hm2, ha2, _⟩ := hv
  simp only [List.length_map] at *
  unfold maxLen at hm hm2
  by_cases hl : xs.length = ys.length
  · have hb : ((xs.length : Int) != ys.length) = false := by rw [hl]; simp
    by_cases h1 : xs.length ≤ 1000
    · have h1' : decide ((1000 : Int) < (xs.length : Int)) = false := by simp; omega
      have hE : chgE xs ys = 0 := if_pos ⟨hl, h1⟩
      have hL : chgL xs ys = chg xs ys xs.length := if_pos ⟨hl, h1⟩
      rw [hE, hL]
      have HL := Lib.hid hl
      clear hl hE hL
      go_enter Try.func24, Try.ntmps24
      go_wp2_with fail
      go_loopw [6, 7] (fun v i wr => ∃ k : Nat, k ≤ xs.length ∧ i = .int .i64 k ∧ wr.ownsRow w.heap.size 3 1 v (chg xs ys k).length ((chg xs ys k).map (.int .i64)) ∧ Below w.heap.size w wr) (fun _ i _ => xs.length - (intOf i).toNat)
      case atStart => exact ⟨0, Nat.zero_le _, rfl, World.ownsRow_nil _ _ _ _, Below.refl _ _⟩
      case round =>
        obtain ⟨k, hk, rfl, hown, hbel⟩ := hrel
        by_cases hlt : k < xs.length
        · obtain ⟨b, off, rfl, hcell⟩ := (ha.below hbel (Nat.le_refl _)).cell (j := k) (by simpa using hlt)
          have hlt2 : k < ys.length := by have := HL.out; omega
          obtain ⟨b2, off2, rfl, hcell2⟩ := (ha2.below hbel (Nat.le_refl _)).cell (j := k) (by simpa using hlt2)
          obtain ⟨x, hx⟩ : ∃ x, xs[k]? = some x := ⟨_, List.getElem?_eq_getElem hlt⟩
          obtain ⟨y, hy⟩ : ∃ y, ys[k]? = some y := ⟨_, List.getElem?_eq_getElem hlt2⟩
          have c1 := hcell k (.bool x) (by rw [List.getElem?_map, hx]; rfl)
          have c2 := hcell2 k (.bool y) (by rw [List.getElem?_map, hy]; rfl)
          have HS := Lib.hid (chg_succ xs ys k x y hx hy)
          have hcl := chg_le xs ys k
          clear hcell hcell2 hx hy ha ha2
          by_cases hxy : x = y
          · subst hxy
            go_wp2_with fail
            try go_quiet (fail)
            go_wp2_with fail
            go_roundw
            case rel => exact ⟨k + 1, by omega, by go_num, by rw [HS.out, if_neg (by simp)]; first | exact own_drewN hown _ | exact hown, by first | exact bel_drewN hbel _ | exact hbel⟩
            case measure => simp [intOf]; omega
          · have hne : (x != y) = true := by simpa using hxy
            have hne2 : (x == y) = false := by simpa using hxy
            clear hxy
            go_wp2_with (at_builtin; refine app1 el_int rfl rfl rfl rfl (by first | exact bel_drewN hbel _ | exact hbel) (by first | exact own_drewN hown _ | exact hown) rfl (by omega) ?_; intro v' w1 hown1 hbel1 _)
            try (go_quiet (fail))
            go_wp2_with (at_builtin; refine app1 el_int rfl rfl rfl rfl (by first | exact bel_drewN hbel _ | exact hbel) (by first | exact own_drewN hown _ | exact hown) rfl (by omega) ?_; intro v' w1 hown1 hbel1 _)
            go_roundw
            case rel => exact ⟨k + 1, by omega, by go_num, by rw [HS.out, if_pos hne, List.length_append, List.map_append]; exact hown1, hbel1⟩
            case measure => simp [intOf]; omega
        · obtain rfl : k = xs.length := by omega
          go_wp2_with fail
          go_ret2
          exact ⟨_, rfl, hown, hbel⟩
    · have h1' : decide ((1000 : Int) < (xs.length : Int)) = true := by simp; omega
      have hE : chgE xs ys = 2 := if_neg (by omega)
      have hL : chgL xs ys = [] := if_neg (by omega)
      rw [hE, hL]
      clear hE hL hl
      go_enter Try.func24, Try.ntmps24
      go_wp2_with fail
      go_ret2
      exact ⟨_, rfl, World.ownsRow_nil _ _ _ _, Below.refl _ _⟩
  · have hb : ((xs.length : Int) != ys.length) = true := by simp; omega
    have hE : chgE xs ys = 2 := if_neg (by omega)
    have hL : chgL xs ys = [] := if_neg (by omega)
    rw [hE, hL]
    clear hE hL
    go_enter Try.func24, Try.ntmps24
    go_wp2_with fail
    go_ret2
    exact ⟨_, rfl, World.ownsRow_nil _ _ _ _, Below.refl _ _⟩

end Go.Proofs.Ytelnlmhelkcliaa
