/- Heat: ratio, solved, Det, Solve of the document's text. -/
import Derived.Test.YtnaoanmkepcinaaHRefDet
import Derived.BigQuiet
import Derived.BigRegion
namespace Go.Proofs.Ytnaoanmkepcinaa
open Go.RowKit

set_option maxRecDepth 100000 in
set_option maxHeartbeats 2000000 in
theorem refRatio_any (n d : Int) (w : World) (hn : -1000000000000000000 ≤ n ∧ n ≤ 1000000000000000000) (hd : -1000000000000000000 ≤ d ∧ d ≤ 1000000000000000000) (h0 : d ≠ 0) :
    Calls Try.prog 81 #[.int .i64 n, .int .i64 d] w fun e w' => e = .returned (.agg #[.int .i64 (rN n d), .int .i64 (rD n d)]) ∧ Below w.heap.size w w' := by
  have hb0 : Hid (Below w.heap.size w (w.alloc (.cells #[.int .i64 0, .int .i64 0] 69))) := Lib.hid ((Below.refl _ _).alloc (Nat.le_refl _) _)
  have HG : Hid (Nat.gcd n.natAbs d.natAbs = Int.gcd n d) := Lib.hid rfl
  have hgp : 0 < Int.gcd n d := Int.gcd_pos_of_ne_zero_right n h0
  obtain ⟨g, hg⟩ : ∃ g, g = Int.gcd n d := ⟨_, rfl⟩
  have HN : Hid (rN n d = if d < 0 then (-n).tdiv g else n.tdiv g) := Lib.hid (by unfold rN; rw [← hg]; split <;> simp [Int.neg_tdiv])
  have HDD : Hid (rD n d = if d < 0 then (-d).tdiv g else d.tdiv g) := Lib.hid (by unfold rD; rw [← hg]; split <;> simp [Int.neg_tdiv])
  rw [← hg] at HG hgp
  have HA : Hid (n.natAbs ≤ 1000000000000000000 ∧ d.natAbs ≤ 1000000000000000000) := Lib.hid (by omega)
  generalize rN n d = RN at *
  generalize rD n d = RD at *
  clear hg
  by_cases hneg : d < 0
  · rw [if_pos hneg] at HN HDD
    have HG2 : Hid (Nat.gcd (-n).natAbs (-d).natAbs = g) := Lib.hid (by have := HG.out; simpa using this)
    have hnb : -1000000000000000000 ≤ -n ∧ -n ≤ 1000000000000000000 := by omega
    have hdb : 0 < -d ∧ -d ≤ 1000000000000000000 := by omega
    have hda : (((-d).natAbs : Nat) : Int) = -d := by omega
    have HDA := Lib.hid hda
    have hgl : Hid (g ≤ 1000000000000000000) := Lib.hid (by
      have h1 : g ∣ (-d).natAbs := by rw [← HG2.out]; exact Nat.gcd_dvd_right _ _
      have h2 := Nat.le_of_dvd (by omega) h1
      omega)
    have HSZ := Lib.hid (fun W => abs_any (-n) W (by omega))
    generalize hn' : -n = n' at *
    generalize hd' : -d = d' at *
    clear hda
    go_enter Try.func81, Try.ntmps81
    go_wp2_with (first
      | (go_at_call 74; (with_reducible refine (HSZ.out _).mono ?_); rintro e w' ⟨rfl, rfl⟩))
    go_loopw [5, 6] (fun x y wr => ∃ a b q : Nat, wr = (w.alloc (.cells #[.int .i64 0, .int .i64 0] 69)).drewN q ∧ x = .int .i64 a ∧ y = .int .i64 b ∧ Hid (Nat.gcd a b = g) ∧ a ≤ 1000000000000000000 ∧ b ≤ 1000000000000000000) (fun _ y _ => (intOf y).toNat)
    case atStart => exact ⟨n'.natAbs, d'.natAbs, 0, rfl, by simp, by rw [HDA.out], HG2, by omega, by omega⟩
    case round =>
      obtain ⟨a, b, q, rfl, rfl, rfl, HAB, ha, hb⟩ := hrel
      by_cases hq : b = 0
      · subst hq
        have HA2 : Hid (a = g) := Lib.hid (by have := HAB.out; rwa [Nat.gcd_zero_right] at this)
        obtain rfl := HA2.out
        have hnb2 : -1000000000000000000 ≤ n'.tdiv a ∧ n'.tdiv a ≤ 1000000000000000000 := by
          have := Int.natAbs_tdiv_le_natAbs n' a; omega
        have hdb2 : -1000000000000000000 ≤ d'.tdiv a ∧ d'.tdiv a ≤ 1000000000000000000 := by
          have := Int.natAbs_tdiv_le_natAbs d' a; omega
        go_wp2_with fail
        go_region
        go_wp2_with fail
        refine bodyPost_ret (v := .agg #[.int .i64 (n'.tdiv a), .int .i64 (d'.tdiv a)]) (by simp [results, Try.results81, go_sem]) rfl ?_
        exact ⟨by rw [HN.out, HDD.out], ((bel_drewN hb0.out _).setCell (p := ⟨w.heap.size, 0, none⟩) (Nat.le_refl _) _).setCell (p := ⟨w.heap.size, 1, none⟩) (Nat.le_refl _) _⟩
      · have hbp : 0 < b := by omega
        have HAB2 : Hid (Nat.gcd b (a % b) = g) := Lib.hid (by rw [← HAB.out, Nat.gcd_comm a b, Nat.gcd_rec b a, Nat.gcd_comm])
        have hml : a % b < b := Nat.mod_lt _ hbp
        have hrm : ((a : Int)).tmod (b : Int) = ((a % b : Nat) : Int) := rfl
        clear hq
        go_wp2_with fail
        go_quiet (fail)
        try go_wp2_with fail
        go_roundw
        case rel => exact ⟨b, a % b, q + nq, by simp, rfl, by go_num, HAB2, by omega, by omega⟩
        case measure => simp [intOf]; omega
  · rw [if_neg hneg] at HN HDD
    have HG2 : Hid (Nat.gcd (n).natAbs (d).natAbs = g) := Lib.hid (by have := HG.out; simpa using this)
    have hnb : -1000000000000000000 ≤ n ∧ n ≤ 1000000000000000000 := by omega
    have hdb : 0 < d ∧ d ≤ 1000000000000000000 := by omega
    have hda : (((d).natAbs : Nat) : Int) = d := by omega
    have HDA := Lib.hid hda
    have hgl : Hid (g ≤ 1000000000000000000) := Lib.hid (by
      have h1 : g ∣ (d).natAbs := by rw [← HG2.out]; exact Nat.gcd_dvd_right _ _
      have h2 := Nat.le_of_dvd (by omega) h1
      omega)
    have HSZ := Lib.hid (fun W => abs_any (n) W (by omega))
    clear hda
    go_enter Try.func81, Try.ntmps81
    go_wp2_with (first
      | (go_at_call 74; (with_reducible refine (HSZ.out _).mono ?_); rintro e w' ⟨rfl, rfl⟩))
    go_loopw [5, 6] (fun x y wr => ∃ a b q : Nat, wr = (w.alloc (.cells #[.int .i64 0, .int .i64 0] 69)).drewN q ∧ x = .int .i64 a ∧ y = .int .i64 b ∧ Hid (Nat.gcd a b = g) ∧ a ≤ 1000000000000000000 ∧ b ≤ 1000000000000000000) (fun _ y _ => (intOf y).toNat)
    case atStart => exact ⟨(n).natAbs, (d).natAbs, 0, rfl, by simp, by rw [HDA.out], HG2, by omega, by omega⟩
    case round =>
      obtain ⟨a, b, q, rfl, rfl, rfl, HAB, ha, hb⟩ := hrel
      by_cases hq : b = 0
      · subst hq
        have HA2 : Hid (a = g) := Lib.hid (by have := HAB.out; rwa [Nat.gcd_zero_right] at this)
        obtain rfl := HA2.out
        have hnb2 : -1000000000000000000 ≤ (n).tdiv a ∧ (n).tdiv a ≤ 1000000000000000000 := by
          have := Int.natAbs_tdiv_le_natAbs (n) a; omega
        have hdb2 : -1000000000000000000 ≤ (d).tdiv a ∧ (d).tdiv a ≤ 1000000000000000000 := by
          have := Int.natAbs_tdiv_le_natAbs (d) a; omega
        go_wp2_with fail
        go_region
        go_wp2_with fail
        refine bodyPost_ret (v := .agg #[.int .i64 ((n).tdiv a), .int .i64 ((d).tdiv a)]) (by simp [results, Try.results81, go_sem]) rfl ?_
        exact ⟨by rw [HN.out, HDD.out], ((bel_drewN hb0.out _).setCell (p := ⟨w.heap.size, 0, none⟩) (Nat.le_refl _) _).setCell (p := ⟨w.heap.size, 1, none⟩) (Nat.le_refl _) _⟩
      · have hbp : 0 < b := by omega
        have HAB2 : Hid (Nat.gcd b (a % b) = g) := Lib.hid (by rw [← HAB.out, Nat.gcd_comm a b, Nat.gcd_rec b a, Nat.gcd_comm])
        have hml : a % b < b := Nat.mod_lt _ hbp
        have hrm : ((a : Int)).tmod (b : Int) = ((a % b : Nat) : Int) := rfl
        clear hq
        go_wp2_with fail
        go_quiet (fail)
        try go_wp2_with fail
        go_roundw
        case rel => exact ⟨b, a % b, q + nq, by simp, rfl, by go_num, HAB2, by omega, by omega⟩
        case measure => simp [intOf]; omega

end Go.Proofs.Ytnaoanmkepcinaa
