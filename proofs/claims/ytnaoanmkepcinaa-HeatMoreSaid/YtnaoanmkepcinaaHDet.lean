/- Heat: det (the program's). -/
import Derived.Test.YtnaoanmkepcinaaHWithout
import Derived.Test.YtnaoanmkepcinaaDetPlain
namespace Go.Proofs.Ytnaoanmkepcinaa
open Go.RowKit

theorem det0 (v : Value) (w : World) (hv : RdM w v []) :
    Calls Try.prog 49 #[v] w fun e w' => e = .returned (.int .i64 1) ∧ Below w.heap.size w w' := by
  obtain ⟨vs, hv, hr⟩ := hv
  obtain ⟨a, cap, rfl, hcp, hcm, ha, _⟩ := hv
  rw [hr.1]
  simp only [List.length_nil]
  clear hr ha hcp
  go_enter Try.func49, Try.ntmps49
  go_wp2
  go_ret
  exact ⟨rfl, Below.refl _ _⟩

set_option maxHeartbeats 2000000 in
theorem det_any (n : Nat) : ∀ (m : List (List Int)) (cw : List Nat) (v : Value) (w : World), n ≤ 5 → RdM w v m → m.length = n → cw.length = n → Bd m cw → (∀ c ∈ cw, 1 ≤ c ∧ c ≤ 1000000) → fac n * pr cw ≤ 1000000000000000000 →
    Calls Try.prog 49 #[v] w fun e w' => e = .returned (.int .i64 (dt n m)) ∧ Below w.heap.size w w' := by
  induction n with
  | zero =>
    intro m cw v w _ hv hm _ _ _ _
    obtain rfl := List.eq_nil_of_length_eq_zero hm
    exact det0 v w hv
  | succ n ih =>
    intro m cw v w hn hv hm hc hb hcb hbb
    have HV := Lib.hid hv
    obtain ⟨vs, hv, hr⟩ := hv
    obtain ⟨a, cap, rfl, hcp, hcm, ha, _⟩ := hv
    have hE := hr.1
    rw [hE, hm] at hcp HV ⊢
    obtain ⟨r, hrr⟩ : ∃ r, m[0]? = some r := ⟨_, List.getElem?_eq_getElem (by omega)⟩
    have hrl := (hb r (List.mem_of_getElem? hrr)).1
    obtain ⟨b, off, rfl, hcell⟩ := ha.cell (j := 0) (by omega)
    obtain ⟨x, hx⟩ : ∃ x, vs[0]? = some x := ⟨_, List.getElem?_eq_getElem (by omega)⟩
    have c1 := hcell 0 _ hx
    have hR := hr.2 0 x r hx hrr
    obtain ⟨a1, cap1, rfl, hc1, hcm1, ha1, _⟩ := hR.parts (n := n + 1) (by rw [ints_length]; omega)
    -- the sums on the way
    obtain ⟨f, hf⟩ : ∃ f, f = fun k => alt k * at2 m 0 k * dt n (wo m 0 k) := ⟨_, rfl⟩
    have HF := Lib.hid hf
    have HD : Hid (dt (n + 1) m = si (n + 1) f) := Lib.hid (by rw [hf]; rfl)
    have HS : Hid (∀ k, k ≤ n + 1 → -1000000000000000000 ≤ si k f ∧ si k f ≤ 1000000000000000000) := Lib.hid (fun k hk => by
      have := si_dt_bd n k m cw hm hc hb hk
      rw [← hf] at this
      omega)
    have HT : Hid (∀ k, k < n + 1 → -1000000000000000000 ≤ f k ∧ f k ≤ 1000000000000000000) := Lib.hid (fun k hk => by
      have h1 : (f k).natAbs ≤ fac n * pr cw := by rw [hf]; exact (dt_bd (n + 1) m cw hm hc hb).2 n k rfl hk
      have h2 : fac n * pr cw ≤ fac (n + 1) * pr cw := Nat.mul_le_mul_right _ (Nat.le_mul_of_pos_left _ (by omega))
      omega)
    have HG : Hid (∀ k x, r[k]? = some x → at2 m 0 k = x ∧ -1000000 ≤ x ∧ x ≤ 1000000) := Lib.hid (fun k x hx => by
      refine ⟨at2_get hrr hx, ?_⟩
      have hk : k < r.length := (List.getElem?_eq_some_iff.1 hx).1
      obtain ⟨c, hcc⟩ : ∃ c, cw[k]? = some c := ⟨_, List.getElem?_eq_getElem (by omega)⟩
      have h1 := (hb r (List.mem_of_getElem? hrr)).2 k x c hx hcc
      have h2 := hcb c (List.mem_of_getElem? hcc)
      omega)
    have HI : Hid (∀ k W u, k < n + 1 → RdM W u (wo m 0 k) → Calls Try.prog 49 #[u] W fun e w' => e = .returned (.int .i64 (dt n (wo m 0 k))) ∧ Below W.heap.size W w') := Lib.hid (fun k W u hk hu => by
      obtain ⟨c, hcc⟩ : ∃ c, cw[k]? = some c := ⟨_, List.getElem?_eq_getElem (by omega)⟩
      have hp := pr_erase cw k c hcc
      have hk2 : k < cw.length := by omega
      have hcl : (cw.eraseIdx k).length = n := by rw [List.length_eraseIdx_of_lt hk2]; omega
      have h0 := hcb c (List.mem_of_getElem? hcc)
      · refine ih (wo m 0 k) (cw.eraseIdx k) u W (by omega) hu (by rw [wo_len (by omega)]; omega) hcl (hb.wo 0 k hk2) (fun c hc => hcb c (List.mem_of_mem_eraseIdx hc)) ?_
        have h2 : fac n * pr (cw.eraseIdx k) ≤ fac (n + 1) * pr cw := by
          rw [← hp]
          exact Nat.mul_le_mul (Nat.le_mul_of_pos_left _ (by omega)) (Nat.le_mul_of_pos_left _ (by omega))
        omega)
    have HR1 := Lib.hid hR
    have HSQ : Hid (∀ r ∈ m, r.length = n + 1) := Lib.hid (fun r hr => by rw [(hb r hr).1]; exact hc)
    have hml : m.length ≤ 10 := by omega
    have HRL : Hid (r.length = n + 1) := Lib.hid (by omega)
    clear hcell hx hrr ha hR hr hE hb hcb hbb hf ih hm hc hrl
    have HM := Lib.hid (show m.length ≤ 10 from hml)
    clear hml
    obtain ⟨N, hN⟩ : ∃ N, N = n + 1 := ⟨_, rfl⟩
    rw [← hN] at HRL hn hcp HD HS HT HI HSQ HV hc1 ⊢
    have HN := Lib.hid hN
    have hpos : 1 ≤ N := by omega
    rw [← hN, Nat.add_zero] at c1
    have hne : ((N : Int) == 0) = false := by rw [beq_eq_false_iff_ne]; omega
    clear hN
    go_enter Try.func49, Try.ntmps49
    go_wp2_with fail
    go_loopw [3, 4, 14] (fun s g i wr => ∃ k : Nat, k ≤ N ∧ i = .int .i64 k ∧ s = .int .i64 (si k f) ∧ g = .int .i64 (alt k) ∧ Below w.heap.size w wr) (fun _ _ i _ => N - (intOf i).toNat)
    case atStart => exact ⟨0, Nat.zero_le _, rfl, rfl, rfl, Below.refl _ _⟩
    case round =>
      obtain ⟨k, hk, rfl, rfl, rfl, hbel⟩ := hrel
      by_cases hlt : k < N
      · have hbs := HS.out k hk
        have hbs2 := HS.out (k + 1) (by omega)
        have hbf := HT.out k hlt
        have HSS : Hid (si (k + 1) f = si k f + f k) := Lib.hid rfl
        obtain ⟨b2, off2, rfl, hcell2⟩ := (ha1.below hbel (Nat.le_refl _)).cell (j := k) (by rw [ints_length, HRL.out]; exact hlt)
        obtain ⟨x, hx⟩ : ∃ x, r[k]? = some x := ⟨_, List.getElem?_eq_getElem (by rw [HRL.out]; exact hlt)⟩
        have c2 := hcell2 k _ (ints_get hx)
        obtain ⟨hat, hx1, hx2⟩ := HG.out k x hx
        have hfk : f k = alt k * x * dt n (wo m 0 k) := by rw [HF.out]; show alt k * at2 m 0 k * _ = _; rw [hat]
        have halt := alt_cases k
        have HAS : Hid (alt (k + 1) = -alt k) := Lib.hid (alt_succ k)
        have HIK := Lib.hid (fun W u => HI.out k W u (by have := HN.out; omega))
        have HVW := Lib.hid (HV.out.below hbel)
        generalize si k f = s at *
        obtain ⟨s2, hs2⟩ : ∃ s2, s2 = si (k + 1) f := ⟨_, rfl⟩
        rw [← hs2] at hbs2 HSS
        have HS2 := Lib.hid hs2
        clear hs2
        generalize f k = z at *
        generalize alt k = g at *
        have hg : -1 ≤ g ∧ g ≤ 1 := by omega
        obtain ⟨d, hd⟩ : ∃ d, d = dt n (wo m 0 k) := ⟨_, rfl⟩
        rw [← hd] at hfk HIK
        obtain ⟨y, hy⟩ : ∃ y, y = g * x := ⟨_, rfl⟩
        rw [← hy] at hfk
        have hy1 : -1000000 ≤ y ∧ y ≤ 1000000 := by rcases halt with rfl | rfl <;> omega
        have HFK := Lib.hid hfk
        have HY := Lib.hid hy
        have HALT := Lib.hid halt
        clear hcell2 hx ha1 hat hd hy halt hfk
        by_cases hq : x = 0
        · have hb : (x != 0) = false := by simp [hq]
          have HZ : Hid (s2 = s) := Lib.hid (by
            have h1 := HFK.out; have h2 := HY.out; have h3 := HSS.out
            rw [hq, Int.mul_zero] at h2
            rw [h2, Int.zero_mul] at h1
            omega)
          clear hq
          go_wp2_with fail
          go_roundw
          case rel => exact ⟨k + 1, by omega, by go_num, by rw [← HS2.out, HZ.out], by rw [HAS.out], hbel⟩
          case measure => simp [intOf]; omega
        · have hb : (x != 0) = true := by simp [hq]
          have hm1 : g * x = y := HY.out.symm
          have hm2 : y * d = z := HFK.out.symm
          clear hq
          go_wp2_with (first
            | (go_at_call 67; refine (without_any m _ N 0 k _ HVW.out HM.out (by omega) HSQ.out hlt).mono ?_; rintro e w1 ⟨u1, rfl, hu1, hb1⟩)
            | (go_at_call 49; refine (HIK.out _ _ hu1.rd).mono ?_; rintro e w2 ⟨rfl, hb2⟩))
          go_roundw
          case rel => exact ⟨k + 1, by omega, by go_num, by rw [← HS2.out, HSS.out], by rw [HAS.out], (hbel.trans (hb1.mono hbel.size)).trans (hb2.mono (Nat.le_trans hbel.size hb1.size))⟩
          case measure => simp [intOf]; omega
      · obtain rfl : k = N := by omega
        go_wp2_with fail
        go_ret
        exact ⟨by rw [HD.out]; rfl, hbel⟩

end Go.Proofs.Ytnaoanmkepcinaa
