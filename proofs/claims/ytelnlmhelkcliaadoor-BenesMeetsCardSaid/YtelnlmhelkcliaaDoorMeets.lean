/- The law BenesMeets: its Go text returns true. -/
import Derived.Test.YtelnlmhelkcliaaDoorMeetsPlain
import Derived.Test.YtelnlmhelkcliaaDoorTraces
import Derived.Test.YtelnlmhelkcliaaDoorDepth
namespace Go.Proofs.YtelnlmhelkcliaaDoor
open Go.RowKit

/-- what is owned and not empty has a block of its own -/
theorem own_some {w : World} {B n : Nat} {e : TypeId} {size : Nat} {v : Value} {xs : List Value} (h : w.ownsRow B e size v n xs) (hn : 0 < n) : ∃ g c, v = .slice (some ⟨g, 0, none⟩) n c ∧ B ≤ g := by
  rcases h.2 with ⟨_, rfl⟩ | ⟨g, cap, cur, rfl, hg, _⟩
  · omega
  · exact ⟨g, cap, rfl, hg⟩

set_option maxRecDepth 100000 in
set_option maxHeartbeats 2000000 in
theorem law_meets (n : Int) (v : Value) (S : List Bool) (w : World) (_ : (Lit.int .i64 n).wf = true) (hv : Rd w v (bools S)) (ht : Tab w) :
    Calls Tryd.prog 4 #[.int .i64 n, v] w fun e w' => e = .returned (.bool true) ∧ Below w.heap.size w w' := by
  have HV := Lib.hid hv
  have HT := Lib.hid ht
  obtain ⟨a, cap, rfl, hc, hcm, _, _⟩ := hv
  rw [bools_length] at hc HV ⊢
  clear ht
  by_cases hl : 80 < S.length
  · have hl2 : decide ((80 : Int) < (S.length : Int)) = true := by simp; omega
    clear hl
    go_enter Tryd.func4, Tryd.ntmps4
    go_wp2_with (go_at_call 9; refine (sane_any _).mono ?_; rintro e w1 ⟨rfl, hb1⟩)
    go_ret
    exact ⟨rfl, hb1⟩
  · have hl2 : decide ((80 : Int) < (S.length : Int)) = false := by simp; omega
    clear hl
    cases hz : szB n with
    | false =>
      have hE : argE n = 2 := by simp [argE, hz]
      have HE := Lib.hid hE
      clear hE hz
      go_enter Tryd.func4, Tryd.ntmps4
      go_wp2_with (first
        | (go_at_call 7; refine (Depth_any n _ HT.out).mono ?_; rw [HE.out]; rintro e w' ⟨rfl, rfl⟩)
        | (go_at_call 5; refine (Count_all n _).mono ?_; rw [HE.out]; rintro e w' ⟨rfl, rfl⟩)
        | (go_at_call 9; refine (sane_any _).mono ?_; rintro e w1 ⟨rfl, hb1⟩))
      go_ret
      exact ⟨rfl, hb1⟩
    | true =>
      have hE : argE n = 0 := by simp [argE, hz]
      have hC : cntN n = (cnt (lg n) : Nat) := by simp [cntN, hz]
      have hD : depN n = 2 * (lg n : Nat) + 1 := by simp [depN, hz]
      obtain ⟨hn, hk⟩ := lg_spec n hz
      by_cases hne : S.length = cnt (lg n)
      · have hf : fitE n S.length = 0 := by
          rcases fitE_cases n S.length with ⟨h, _⟩ | ⟨_, h, _⟩ | ⟨_, _, h⟩
          · rw [hz] at h; cases h
          · exact absurd hne h
          · exact h
        have HTE : Hid (∀ i : Nat, i < pw (lg n) → trcE n S.length (i : Int) = 0 ∧ trcL n S (i : Int) = trm (lg n) S i 0) := Lib.hid (fun i hi => by
          have h1 : trcE n S.length (i : Int) = 0 := by unfold trcE; rw [if_pos hf, if_pos (by omega)]
          refine ⟨h1, ?_⟩
          unfold trcL; rw [if_pos h1, Int.toNat_natCast])
        have HE := Lib.hid hE
        have HC := Lib.hid hC
        have HD := Lib.hid hD
        have hcb := cnt_bd (lg n) hk
        have hpb := pw_le (lg n) hk
        have HN := Lib.hid hn
        rw [hne] at HV hc hl2 ⊢
        have hneb : (((cnt (lg n) : Nat) : Int) != ((cnt (lg n) : Nat) : Int)) = false := by simp
        clear hne hE hC hD hz hf hn
        generalize lg n = k at *
        go_enter Tryd.func4, Tryd.ntmps4
        go_wp2_with (first
          | (go_at_call 7; refine (Depth_any n _ HT.out).mono ?_; rw [HE.out, HD.out]; rintro e w' ⟨rfl, rfl⟩)
          | (go_at_call 5; refine (Count_all n _).mono ?_; rw [HE.out, HC.out]; rintro e w' ⟨rfl, rfl⟩)
          | (at_make; refine mkS el_int rfl rfl (n := cnt k) rfl rfl rfl (by omega) ?_; intro w1 hown1 hbel1))
        go_loopw [10] (fun i wr => ∃ j : Nat, j ≤ pw k ∧ i = .int .i64 j ∧ wr.ownsRow w.heap.size 3 1 (.slice (some ⟨w.heap.size, 0, none⟩) (cnt k) (cnt k)) (cnt k) (ints (metL k S j 0)) ∧ Below w.heap.size w wr) (fun i _ => pw k - (intOf i).toNat)
        case atStart => exact ⟨0, Nat.zero_le _, rfl, by rw [metL_zero]; simpa [ints] using hown1, hbel1⟩
        case round =>
          obtain ⟨j, hj, rfl, hown, hbel⟩ := hrel
          by_cases hlt : j < pw k
          · have hjn : decide ((j : Int) < n) = true := by have := HN.out; simp; omega
            have HVW := Lib.hid (HV.out.below hbel (Nat.le_refl _))
            go_wp2_with (go_at_call 10; refine (Trace_any n _ S j _ HVW.out).mono ?_; rw [(HTE.out j hlt).1, (HTE.out j hlt).2, trm_len]; rintro e w2 ⟨u, rfl, hu, hb2⟩; obtain ⟨g2, cu, rfl, hg2⟩ := own_some hu (by omega))
            have hown2 := own_below hown hb2
            have hbel2 := hbel.trans (hb2.mono hbel.size)
            have hlt2 : w.heap.size < wr.heap.size := (hown.lt w.heap.size rfl).2
            clear hown HVW hb2 hbel
            go_loopw [13] (fun m wq => ∃ q : Nat, q ≤ 2 * k + 1 ∧ m = .int .i64 q ∧ wq.ownsRow w.heap.size 3 1 (.slice (some ⟨w.heap.size, 0, none⟩) (cnt k) (cnt k)) (cnt k) (ints (metL k S j q)) ∧ wq.ownsRow wr.heap.size 3 1 (.slice (some ⟨g2, 0, none⟩) (2 * k + 1) cu) (2 * k + 1) (ints (trm k S j 0)) ∧ Below w.heap.size w wq) (fun m _ => 2 * k + 1 - (intOf m).toNat)
            case atStart => exact ⟨0, Nat.zero_le _, rfl, hown2, hu, hbel2⟩
            case round =>
              obtain ⟨q, hq, rfl, hown3, hu3, hbel3⟩ := hrel
              by_cases hqt : q < 2 * k + 1
              · obtain ⟨x, hx⟩ : ∃ x, (trm k S j 0)[q]? = some x := ⟨_, List.getElem?_eq_getElem (by rw [trm_len]; exact hqt)⟩
                have hbd := trm_bd k S j 0 hlt x (List.mem_of_getElem? hx)
                obtain ⟨y, rfl⟩ := Int.eq_ofNat_of_zero_le hbd.1
                have hy : y < cnt k := by omega
                have c1 : wr.cell? ⟨g2, q, none⟩ = some (.int .i64 y) := by rw [hu3.cellAt q (by omega), ints_get hx]
                have c2 : wr.cell? ⟨w.heap.size, y, none⟩ = some (.int .i64 (met k S j q y : Nat)) := by rw [hown3.cellAt y (by omega), ints_get (metL_get hy)]
                have c3 : wr.frozen? ⟨w.heap.size, y, none⟩ = false := hown3.frozenAt y
                have hml := met_le k S j q y (by omega) hk
                have HS : Hid ((ints (metL k S j q)).set y (.int .i64 ((met k S j q y : Nat) + 1)) = ints (metL k S j (q + 1))) := Lib.hid (by rw [← metL_step k S j q y hx]; simp [ints])
                have HST := Lib.hid (hown3.stored y (.int .i64 ((met k S j q y : Nat) + 1)))
                have hu4 := hu3.kept (HST.out.2) (.inr (by simp [Value.ownBlock]; omega))
                clear hx hbd hu3
                go_wp2_with fail
                go_roundw
                case rel => exact ⟨q + 1, by omega, by go_num, by rw [← HS.out]; exact HST.out.1, hu4, hbel3.setCell (p := ⟨w.heap.size, y, none⟩) (Nat.le_refl _) _⟩
                case measure => simp [intOf]; omega
              · obtain rfl : q = 2 * k + 1 := by omega
                rw [metL_next] at hown3
                go_wp2_with fail
                go_roundw
                case rel => exact ⟨j + 1, by omega, by go_num, hown3, hbel3⟩
                case measure => simp [intOf]; omega
          · obtain rfl : j = pw k := by omega
            rw [metL_end] at hown
            have hjn : decide (((pw k : Nat) : Int) < n) = false := by have := HN.out; simp; omega
            go_wp2_with fail
            go_loop [14] (fun m => ∃ q : Nat, q ≤ cnt k ∧ m = .int .i64 q) (fun m => cnt k - (intOf m).toNat)
            case atStart => exact ⟨0, Nat.zero_le _, rfl⟩
            case round =>
              obtain ⟨q, hq, rfl⟩ := hrel
              by_cases hqt : q < cnt k
              · have c1 : wr.cell? ⟨w.heap.size, q, none⟩ = some (.int .i64 2) := by rw [hown.cellAt q (by omega)]; simp [ints, hqt]
                go_wp2_with fail
                go_round
                case rel => exact ⟨q + 1, by omega, by go_num⟩
                case measure => simp [intOf]; omega
              · obtain rfl : q = cnt k := by omega
                go_wp2_with (go_at_call 9; refine (sane_any _).mono ?_; rintro e w3 ⟨rfl, hb3⟩)
                go_ret
                exact ⟨rfl, hbel.trans (hb3.mono hbel.size)⟩
      · have hneb : (((S.length : Nat) : Int) != ((cnt (lg n) : Nat) : Int)) = true := by simp; omega
        have HE := Lib.hid hE
        have HC := Lib.hid hC
        clear hE hC hz hn hne hD
        generalize lg n = k at *
        go_enter Tryd.func4, Tryd.ntmps4
        go_wp2_with (first
          | (go_at_call 7; refine (Depth_any n _ HT.out).mono ?_; rw [HE.out]; rintro e w' ⟨rfl, rfl⟩)
          | (go_at_call 5; refine (Count_all n _).mono ?_; rw [HE.out, HC.out]; rintro e w' ⟨rfl, rfl⟩)
          | (go_at_call 9; refine (sane_any _).mono ?_; rintro e w1 ⟨rfl, hb1⟩))
        go_ret
        exact ⟨rfl, hb1⟩

end Go.Proofs.YtelnlmhelkcliaaDoor
