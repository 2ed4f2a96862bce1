/- Heat: without. -/
import Derived.Test.YtnaoanmkepcinaaHDel
namespace Go.Proofs.Ytnaoanmkepcinaa
open Go.RowKit

set_option maxHeartbeats 1000000 in
theorem without_any (m : List (List Int)) (v : Value) (n row col : Nat) (w : World) (hv : RdM w v m) (hm : m.length ≤ 10) (hn : n ≤ 10) (hsq : ∀ r ∈ m, r.length = n) (hc : col < n) :
    Calls Try.prog 67 #[v, .int .i64 row, .int .i64 col] w fun e w' => ∃ u, e = .returned u ∧ OwnM w' w.heap.size u (wo m row col) ∧ Below w.heap.size w w' := by
  obtain ⟨vs, hv, hr⟩ := hv
  obtain ⟨a, cap, rfl, hcp, hcm, ha, _⟩ := hv
  have hE := hr.1
  have HR := Lib.hid hr
  have HSQ := Lib.hid hsq
  rw [hE] at hcp ⊢
  clear hr hsq
  obtain ⟨N, hN⟩ : ∃ N, N = m.length := ⟨_, rfl⟩
  rw [← hN] at hcp hE hm ⊢
  have HN := Lib.hid hN
  clear hN
  have hmx : maxLen ≤ 9223372036854775807 := by decide
  go_enter Try.func67, Try.ntmps67
  go_wp2_with fail
  go_loopw [7, 12] (fun o i wr => ∃ k : Nat, k ≤ N ∧ i = .int .i64 k ∧ Hid (OwnM wr w.heap.size o (wo (m.take k) row col)) ∧ Below w.heap.size w wr) (fun _ i _ => N - (intOf i).toNat)
  case atStart => exact ⟨0, Nat.zero_le _, rfl, Lib.hid (OwnM.nil _ _), Below.refl _ _⟩
  case round =>
    obtain ⟨k, hk, rfl, HO, hbel⟩ := hrel
    by_cases hlt : k < N
    · obtain ⟨b, off, rfl, hcell⟩ := (ha.below hbel (Nat.le_refl _)).cell (j := k) (by rw [hE]; exact hlt)
      obtain ⟨x, hx⟩ : ∃ x, vs[k]? = some x := ⟨_, List.getElem?_eq_getElem (by rw [hE]; exact hlt)⟩
      obtain ⟨r, hrr⟩ : ∃ r, m[k]? = some r := ⟨_, List.getElem?_eq_getElem (by have := HN.out; omega)⟩
      have c1 := hcell k _ hx
      have HRd := Lib.hid ((HR.out.2 k x r hx hrr).below hbel (Nat.le_refl _))
      have hrl : r.length = n := HSQ.out r (List.mem_of_getElem? hrr)
      obtain ⟨a1, cap1, rfl, hc1, hcm1, _, _⟩ := (HR.out.2 k x r hx hrr)
      have HT := Lib.hid (wo_take m row col k r hrr)
      have HKL : Hid ((wo (m.take k) row col).length ≤ 10) := Lib.hid (by
        unfold wo; rw [List.length_map]
        have h1 : (m.take k).length ≤ 10 := by rw [List.length_take]; omega
        have h2 := List.length_eraseIdx_le (l := m.take k) (i := row)
        omega)
      have hrc : col < r.length := by omega
      have hr10 : r.length ≤ 10 := by omega
      rw [ints_length] at *
      clear hcell hx hrr ha hrl
      by_cases hq : k = row
      · have hb : ((k : Int) != (row : Int)) = false := by simp; omega
        have HT2 := Lib.hid (HT.out.trans (if_pos hq))
        clear hq HT
        go_wp2_with fail
        go_roundw
        case rel => exact ⟨k + 1, by omega, by go_num, by rw [HT2.out]; exact HO, hbel⟩
        case measure => simp [intOf]; omega
      · have hb : ((k : Int) != (row : Int)) = true := by simp; omega
        have HT2 := Lib.hid (HT.out.trans (if_neg hq))
        clear hq HT
        obtain ⟨os, ho1, ho2⟩ := HO.out
        have HO1 := Lib.hid ho1
        have HO2 := Lib.hid ho2
        clear ho1 ho2
        have HC := Lib.hid (clone_any _ r _ HRd.out (by omega) (by omega))
        go_wp2_with (first
          | (go_at_call 54; (with_reducible refine HC.out.mono ?_); rintro e w1 ⟨u1, rfl, hu1, hb1⟩; obtain ⟨g1, c1', rfl, hg1, _⟩ := own_some hu1 (by omega); have HD := Lib.hid (del_any r _ _ _ _ col _ hu1 (by omega)))
          | (go_at_call 82; (with_reducible refine HD.out.mono ?_); rintro e w2 ⟨u2, rfl, hu2, hg2⟩; have hbw2 : Below wr.heap.size wr w2 := hb1.grown hg2 hb1.size (fun k e => by cases e; exact hg1); obtain ⟨a2, c2', rfl⟩ := own_form hu2)
          | (at_builtin; refine app1 el_row rfl rfl (w0 := w) rfl rfl (by exact hbel.trans (hbw2.mono hbel.size)) (by exact (own_below HO1.out hbw2)) rfl (by have := HKL.out; omega) ?_; intro v3 w3 ho3 hb3 hg3))
        have HX : Hid (w2.ownsRow w.heap.size 3 1 (.slice a2 (r.length - 1) c2') (r.eraseIdx col).length (ints (r.eraseIdx col))) := Lib.hid (by
          rw [List.length_eraseIdx_of_lt hrc]
          exact own_le hu2 hbel.size)
        go_roundw
        case rel => exact ⟨k + 1, by omega, by go_num, by rw [HT2.out]; exact Lib.hid (OwnM.snoc ((own_below HO1.out hbw2).alloc _) (fun i x r hx hr => (own_below (HO2.out i x r hx hr) hbw2).alloc _) (HX.out.alloc _) hg3 ho3), hb3⟩
        case measure => simp [intOf]; omega
    · obtain rfl : k = N := by omega
      have HT : Hid (m.take k = m) := Lib.hid (by rw [HN.out, List.take_length])
      go_wp2_with fail
      go_ret
      exact ⟨_, rfl, by rw [← HT.out]; exact HO.out, hbel⟩

end Go.Proofs.Ytnaoanmkepcinaa
