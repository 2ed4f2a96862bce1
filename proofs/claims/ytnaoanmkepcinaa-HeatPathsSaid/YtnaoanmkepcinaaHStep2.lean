/- Heat: Steps, the program's walk. -/
import Derived.Test.YtnaoanmkepcinaaHStep
namespace Go.Proofs.Ytnaoanmkepcinaa
open Go.RowKit

/-- what both passes have found behind k of them -/
def pre (a b : List Int) (k : Nat) : List (Int × Int) := if k = 0 then [] else if k = 1 then sel lt2 a b a.length else sel lt2 a b a.length ++ sel gt2 a b a.length
theorem sel_hit {p : Int → Int → Bool} {a b : List Int} {k : Nat} {x y : Int} (h1 : a[k]? = some x) (h2 : b[k]? = some y) : sel p a b (k + 1) = sel p a b k ++ (if p x y then [((k : Int), y)] else []) := by
  rw [sel_succ, List.getD_eq_getElem?_getD, List.getD_eq_getElem?_getD, h1, h2]; rfl

theorem way_at (W : World) : (Instr.index 36 (.agg #[.int .i64 (-1), .int .i64 1]) (.int .i64 0)).run Try.prog W = .ok (.int .i64 (-1)) W ∧ (Instr.index 36 (.agg #[.int .i64 (-1), .int .i64 1]) (.int .i64 1)).run Try.prog W = .ok (.int .i64 1) W := by
  obtain ⟨i, hi, _, hs, _⟩ := el_int.info
  have hu := Try.underlying3
  have hc : Try.prog.cellsOf 3 = 1 := by kernel_rfl
  constructor
  · simp [Instr.index, run_underlying Try.underlying36, asIntOf, go_sem, run_sizeOf W hi, part, isAgg, run_underlying hu]
  · simp [Instr.index, run_underlying Try.underlying36, asIntOf, go_sem, run_sizeOf W hi, part, isAgg, run_underlying hu, hc]

set_option maxRecDepth 100000 in
set_option maxHeartbeats 2000000 in
theorem Steps_ok (va vb : Value) (a b : List Int) (B : Int) (w : World) (hva : Rd w va (ints a)) (hvb : Rd w vb (ints b)) (hq1 : drv a = true) (hq2 : drv b = true) (hq3 : a.length = b.length) (hq4 : inB 0 B 5000 = true) (hq5 : max a.sum b.sum ≤ B) :
    Calls Try.prog 42 #[va, vb, .int .i64 B] w fun e w' => ∃ u, e = .returned (.tuple #[u, .int .i64 0]) ∧ w'.ownsRow w.heap.size 36 2 u (pre a b 2).length (pairs (pre a b 2)) ∧ Below w.heap.size w w' := by
  have HVA := Lib.hid hva
  have HVB := Lib.hid hvb
  obtain ⟨d1, d2, d3⟩ := drv_bd hq1
  obtain ⟨d4, d5, d6⟩ := drv_bd hq2
  have HD1 := Lib.hid (drivers_any va a w hva (by omega))
  have HD2 := Lib.hid (fun W hb => drivers_any vb b W (hvb.below (w' := W) (B := w.heap.size) hb (Nat.le_refl _)) (by omega))
  have HBT := Lib.hid (fun W => between_any 0 B 5000 W)
  have HT1 := Lib.hid (fun W hb => total_any va a W (hva.below (w' := W) (B := w.heap.size) hb (Nat.le_refl _)) (by omega) (fun x hx => by have := d3 x hx; omega))
  have HT2 := Lib.hid (fun W hb => total_any vb b W (hvb.below (w' := W) (B := w.heap.size) hb (Nat.le_refl _)) (by omega) (fun x hx => by have := d6 x hx; omega))
  rw [hq1] at HD1
  rw [hq2] at HD2
  rw [hq4] at HBT
  have HS1 := Lib.hid (sel_len lt2 a b)
  have HS2 := Lib.hid (sel_len gt2 a b)
  have HSH := Lib.hid (fun p k x y (h1 : a[k]? = some x) (h2 : b[k]? = some y) => sel_hit (p := p) h1 h2)
  have HP0 : Hid (pre a b 0 = []) := Lib.hid rfl
  have HP1 : Hid (pre a b 1 = sel lt2 a b a.length) := Lib.hid rfl
  have HP2 : Hid (pre a b 2 = sel lt2 a b a.length ++ sel gt2 a b a.length) := Lib.hid rfl
  have HZ : Hid (∀ p, sel p a b 0 = []) := Lib.hid fun p => rfl
  obtain ⟨aa, capa, rfl, hca, hcma, haa, _⟩ := hva
  obtain ⟨ab, capb, rfl, hcb, hcmb, hab, _⟩ := hvb
  have HQ3 := Lib.hid hq3
  rw [ints_length a] at *
  rw [ints_length b] at *
  rw [← hq3] at HVB HD2 HT2 hcb d4 d5 ⊢
  clear hq1 hq2 hq3 hq4 d3 d6
  generalize hN : a.length = N at *
  have HN := Lib.hid hN
  clear hN
  have hnn : ((N : Int) != N) = false := by simp
  have hwy1 := fun W => (way_at W).1
  have hwy2 := fun W => (way_at W).2
  generalize hM : max a.sum b.sum = M at *
  go_enter Try.func42, Try.ntmps42
  go_wp2_with (first
    | (go_at_call 50; (with_reducible refine HD1.out.mono ?_); rintro e w1 ⟨rfl, hb1⟩)
    | (go_at_call 50; (with_reducible refine (HD2.out _ hb1).mono ?_); rintro e w2 ⟨rfl, hb2⟩; have hb02 := hb1.trans (hb2.mono hb1.size))
    | (go_at_call 53; (with_reducible refine (HBT.out _).mono ?_); rintro e w' ⟨rfl, rfl⟩)
    | (go_at_call 55; (with_reducible refine (HT1.out _ hb02).mono ?_); rintro e w' ⟨rfl, rfl⟩)
    | (go_at_call 55; (with_reducible refine (HT2.out _ hb02).mono ?_); rintro e w' ⟨rfl, rfl⟩))
  go_loopw [8, 43] (fun o i wr => ∃ k : Nat, k ≤ 2 ∧ i = .int .i64 k ∧ wr.ownsRow w.heap.size 36 2 o (pre a b k).length (pairs (pre a b k)) ∧ Below w.heap.size w wr) (fun _ i _ => 2 - (intOf i).toNat)
  case atStart => exact ⟨0, by omega, rfl, World.ownsRow_nil _ _ _ _, hb02⟩
  case round =>
    obtain ⟨k, hk, hi, hown, hbel⟩ := hrel
    by_cases hk0 : k = 0
    · subst hk0
      obtain rfl : _ = Value.int .i64 0 := hi
      rw [HP0.out] at hown
      go_wp2_with fail
      go_loopw [8, 48] (fun o i wr => ∃ j : Nat, j ≤ N ∧ i = .int .i64 j ∧ wr.ownsRow w.heap.size 36 2 o (sel lt2 a b j).length (pairs (sel lt2 a b j)) ∧ Below w.heap.size w wr) (fun _ i _ => N - (intOf i).toNat)
      case atStart => exact ⟨0, Nat.zero_le _, rfl, by rw [HZ.out]; exact hown, hbel⟩
      case round =>
        obtain ⟨j, hj, rfl, hown, hbel⟩ := hrel
        by_cases hjt : j < N
        · obtain ⟨b1, o1, rfl, hcell⟩ := (haa.below hbel (Nat.le_refl _)).cell (j := j) (by rw [ints_length]; have := HN.out; omega)
          obtain ⟨b2, o2, rfl, hcell2⟩ := (hab.below hbel (Nat.le_refl _)).cell (j := j) (by rw [ints_length]; have := HN.out; have := HQ3.out; omega)
          obtain ⟨x, hx⟩ : ∃ x, a[j]? = some x := ⟨_, List.getElem?_eq_getElem (by have := HN.out; omega)⟩
          obtain ⟨y, hy⟩ : ∃ y, b[j]? = some y := ⟨_, List.getElem?_eq_getElem (by have := HN.out; have := HQ3.out; omega)⟩
          have c1 := hcell j _ (ints_get hx)
          have c2 := hcell2 j _ (ints_get hy)
          have HST := Lib.hid (HSH.out lt2 j x y hx hy)
          have hln : (sel lt2 a b j).length ≤ 1000 := by have h1 := HS1.out N; have h2 := HS1.out j; have h3 := HS2.out j; omega
          have HCM := Lib.hid (fun W => compare_any y x W)
          have hcm := cmp_lt x y
          clear hcell hcell2 hx hy haa hab
          generalize cmpI y x = c at *
          cases hq : lt2 x y with
          | false =>
            rw [hq] at HST hcm
            rw [if_neg (by decide), List.append_nil] at HST
            clear hq
            go_wp2_with (first | (go_at_call 77; refine (HCM.out _).mono ?_; rintro e w' ⟨rfl, rfl⟩))
            go_roundw
            case rel => exact ⟨j + 1, by omega, by go_num, by rw [HST.out]; exact hown, hbel⟩
            case measure => simp [intOf]; omega
          | true =>
            rw [hq] at HST hcm
            rw [if_pos rfl] at HST
            clear hq
            go_wp2_with (first
              | (go_at_call 77; refine (HCM.out _).mono ?_; rintro e w' ⟨rfl, rfl⟩)
              | (at_builtin; refine appK el_stp rfl rfl (w0 := w) rfl rfl (by exact hbel) (by exact hown) rfl (by simp [Value.oneCell']) (by omega) ?_; intro v3 w10 ho10 hb10 hg10))
            go_roundw
            case rel => exact ⟨j + 1, by omega, by go_num, by rw [HST.out, pairs_append, List.length_append]; exact ho10, hb10⟩
            case measure => simp [intOf]; omega
        · obtain rfl : j = N := by omega
          go_wp2_with fail
          go_roundw
          case rel => exact ⟨1, by omega, by go_num, by rw [HP1.out]; exact hown, hbel⟩
          case measure => simp [intOf]
    · by_cases hk1 : k = 1
      · subst hk1
        obtain rfl : _ = Value.int .i64 1 := hi
        rw [HP1.out] at hown
        go_wp2_with fail
        go_loopw [8, 48] (fun o i wr => ∃ j : Nat, j ≤ N ∧ i = .int .i64 j ∧ wr.ownsRow w.heap.size 36 2 o (sel lt2 a b N ++ sel gt2 a b j).length (pairs (sel lt2 a b N ++ sel gt2 a b j)) ∧ Below w.heap.size w wr) (fun _ i _ => N - (intOf i).toNat)
        case atStart => exact ⟨0, Nat.zero_le _, rfl, by rw [HZ.out, List.append_nil]; exact hown, hbel⟩
        case round =>
          obtain ⟨j, hj, rfl, hown, hbel⟩ := hrel
          by_cases hjt : j < N
          · obtain ⟨b1, o1, rfl, hcell⟩ := (haa.below hbel (Nat.le_refl _)).cell (j := j) (by rw [ints_length]; have := HN.out; omega)
            obtain ⟨b2, o2, rfl, hcell2⟩ := (hab.below hbel (Nat.le_refl _)).cell (j := j) (by rw [ints_length]; have := HN.out; have := HQ3.out; omega)
            obtain ⟨x, hx⟩ : ∃ x, a[j]? = some x := ⟨_, List.getElem?_eq_getElem (by have := HN.out; omega)⟩
            obtain ⟨y, hy⟩ : ∃ y, b[j]? = some y := ⟨_, List.getElem?_eq_getElem (by have := HN.out; have := HQ3.out; omega)⟩
            have c1 := hcell j _ (ints_get hx)
            have c2 := hcell2 j _ (ints_get hy)
            have HST := Lib.hid (HSH.out gt2 j x y hx hy)
            have hln : (sel lt2 a b N ++ sel gt2 a b j).length ≤ 1000 := by have h1 := HS1.out N; have h2 := HS1.out j; have h3 := HS2.out j; rw [List.length_append]; omega
            have HCM := Lib.hid (fun W => compare_any y x W)
            have hcm := cmp_gt x y
            clear hcell hcell2 hx hy haa hab
            generalize cmpI y x = c at *
            cases hq : gt2 x y with
            | false =>
              rw [hq] at HST hcm
              rw [if_neg (by decide), List.append_nil] at HST
              clear hq
              go_wp2_with (first | (go_at_call 77; refine (HCM.out _).mono ?_; rintro e w' ⟨rfl, rfl⟩))
              go_roundw
              case rel => exact ⟨j + 1, by omega, by go_num, by rw [HST.out]; exact hown, hbel⟩
              case measure => simp [intOf]; omega
            | true =>
              rw [hq] at HST hcm
              rw [if_pos rfl] at HST
              clear hq
              go_wp2_with (first
                | (go_at_call 77; refine (HCM.out _).mono ?_; rintro e w' ⟨rfl, rfl⟩)
                | (at_builtin; refine appK el_stp rfl rfl (w0 := w) rfl rfl (by exact hbel) (by exact hown) rfl (by simp [Value.oneCell']) (by omega) ?_; intro v3 w10 ho10 hb10 hg10))
              go_roundw
              case rel => exact ⟨j + 1, by omega, by go_num, by rw [HST.out, ← List.append_assoc, pairs_append, List.length_append]; exact ho10, hb10⟩
              case measure => simp [intOf]; omega
          · obtain rfl : j = N := by omega
            go_wp2_with fail
            go_roundw
            case rel => exact ⟨2, by omega, by go_num, by rw [HP2.out]; exact hown, hbel⟩
            case measure => simp [intOf]
      · obtain rfl : k = 2 := by omega
        obtain rfl : _ = Value.int .i64 2 := hi
        go_wp2_with fail
        go_ret2
        exact ⟨_, rfl, hown, hbel⟩

end Go.Proofs.Ytnaoanmkepcinaa
