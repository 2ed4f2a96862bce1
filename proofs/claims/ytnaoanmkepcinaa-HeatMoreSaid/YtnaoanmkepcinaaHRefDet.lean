/- Heat: without, det, Det of the document's text. -/
import Derived.Test.YtnaoanmkepcinaaHSame
import Derived.Test.YtnaoanmkepcinaaHSane
import Derived.Deep.RegionHeld3
namespace Go.Proofs.Ytnaoanmkepcinaa
open Go.RowKit

theorem er_take {r : List Int} {j : Nat} {x : Int} (h : r[j]? = some x) (col : Nat) : (r.take (j + 1)).eraseIdx col = if j = col then (r.take j).eraseIdx col else (r.take j).eraseIdx col ++ [x] := by
  have hj := (List.getElem?_eq_some_iff.1 h).1
  have hl : (r.take j).length = j := by rw [List.length_take]; omega
  rw [List.take_add_one, h]
  simp only [Option.toList_some]
  by_cases e : j = col
  · subst e
    rw [if_pos rfl, List.eraseIdx_append_of_length_le (by omega), hl, Nat.sub_self, List.eraseIdx_of_length_le (l := r.take j) (by omega)]
    simp
  · rw [if_neg e]
    by_cases e2 : col < j
    · rw [List.eraseIdx_append_of_lt_length (by omega)]
    · rw [List.eraseIdx_append_of_length_le (by omega), hl, List.eraseIdx_of_length_le (l := [x]) (by simp; omega), List.eraseIdx_of_length_le (by omega)]

set_option maxRecDepth 100000 in
set_option maxHeartbeats 2000000 in
theorem refWithout_any (m : List (List Int)) (v : Value) (n col : Nat) (w : World) (hv : RdM w v m) (hm : 1 ≤ m.length ∧ m.length ≤ 10) (hn : n ≤ 10) (hsq : ∀ r ∈ m, r.length = n) :
    Calls Try.prog 80 #[v, .int .i64 col] w fun e w' => ∃ u, e = .returned u ∧ OwnM w' w.heap.size u (wo m 0 col) ∧ Below w.heap.size w w' := by
  obtain ⟨hm1, hm2⟩ := hm
  obtain ⟨vs, ⟨a, cap, rfl, hc, hcm, ha, _⟩, hr⟩ := hv
  have hE := hr.1
  rw [hE] at hc ⊢
  have HR := Lib.hid hr
  have HSQ := Lib.hid hsq
  have HW0 : Hid (wo (m.take 1) 0 col = []) := Lib.hid (by
    cases m with
    | nil => rfl
    | cons r m => rfl)
  have HWL : Hid (wo (m.take m.length) 0 col = wo m 0 col) := Lib.hid (by rw [List.take_length])
  have HWN : Hid (∀ k, (wo (m.take k) 0 col).length ≤ 10) := Lib.hid fun k => by
    unfold wo; rw [List.length_map]
    have h1 : (m.take k).length ≤ 10 := by rw [List.length_take]; omega
    have h2 := List.length_eraseIdx_le (l := m.take k) (i := 0)
    omega
  have HWT := Lib.hid (fun k r h => wo_take m 0 col k r h)
  have HGM : Hid (∀ j, j < m.length → ∃ r, m[j]? = some r ∧ r.length = n) := Lib.hid fun j hj => ⟨_, List.getElem?_eq_getElem hj, hsq _ (List.getElem_mem hj)⟩
  clear hsq hr
  generalize hN : m.length = N at *
  have HN := Lib.hid hN
  clear hN
  go_enter Try.func80, Try.ntmps80
  go_wp2_with fail
  go_loopw [5, 6] (fun o i wr => ∃ k : Nat, 1 ≤ k ∧ k ≤ N ∧ i = .int .i64 k ∧ Hid (OwnM wr w.heap.size o (wo (m.take k) 0 col)) ∧ Below w.heap.size w wr) (fun _ i _ => N - (intOf i).toNat)
  case atStart => exact ⟨1, Nat.le_refl _, hm1, rfl, by rw [HW0.out]; exact Lib.hid (OwnM.nil _ _), Below.refl _ _⟩
  case round =>
    obtain ⟨k, hk1, hk, rfl, HO, hbel⟩ := hrel
    by_cases hlt : k < N
    · obtain ⟨r, hrr, hrl⟩ := HGM.out k hlt
      obtain ⟨b, off, rfl, hcell⟩ := ha.cell (j := k) (by rw [hE]; exact hlt)
      obtain ⟨rv, hrv⟩ : ∃ rv, vs[k]? = some rv := ⟨_, List.getElem?_eq_getElem (by rw [hE]; exact hlt)⟩
      have HC5 := Lib.hid (hcell k _ hrv)
      obtain ⟨a1, cap1, rfl, hc1, hcm1, ha1, _⟩ := HR.out.2 k rv r hrv hrr
      rw [ints_length, hrl] at hc1 HC5
      have HT := Lib.hid (HWT.out k r hrr)
      rw [if_neg (by omega)] at HT
      have HRL := Lib.hid hrl
      have HA1 := Lib.hid ha1
      obtain ⟨wo', hwo⟩ : ∃ x, x = wr := ⟨_, rfl⟩
      subst hwo
      have HE0 : Hid ((r.take 0).eraseIdx col = []) := Lib.hid (by simp)
      have HEN : Hid ((r.take n).eraseIdx col = r.eraseIdx col) := Lib.hid (by rw [← hrl, List.take_length])
      have HEL : Hid (∀ j, ((r.take j).eraseIdx col).length ≤ 10) := Lib.hid fun j => by
        have h2 := List.length_eraseIdx_le (l := r.take j) (i := col)
        rw [List.length_take] at h2
        omega
      have c5o := cell_below HC5.out hbel
      clear hcell hrr hrv hrl ha1 ha
      go_wp2_with fail
      go_loopw [7, 8] (fun o i wr => ∃ j : Nat, j ≤ n ∧ i = .int .i64 j ∧ Hid (wr.ownsRow wo'.heap.size 3 1 o ((r.take j).eraseIdx col).length (ints ((r.take j).eraseIdx col))) ∧ Below wo'.heap.size wo' wr) (fun _ i _ => n - (intOf i).toNat)
      case atStart => exact ⟨0, Nat.zero_le _, rfl, by rw [HE0.out]; exact Lib.hid (World.ownsRow_nil _ _ _ _), Below.refl _ _⟩
      case round =>
        obtain ⟨j, hj, rfl, HOI, hbi⟩ := hrel
        have hbw := hbel.trans (hbi.mono hbel.size)
        have c5 := cell_below c5o hbi
        by_cases hjt : j < n
        · obtain ⟨b3, off3, rfl, hcell3⟩ := (HA1.out.below hbw (Nat.le_refl _)).cell (j := j) (by rw [ints_length, HRL.out]; exact hjt)
          obtain ⟨y, hy⟩ : ∃ y, r[j]? = some y := ⟨_, List.getElem?_eq_getElem (by rw [HRL.out]; exact hjt)⟩
          have c7 := hcell3 j _ (ints_get hy)
          have HET := Lib.hid (er_take hy col)
          have hel := HEL.out j
          clear hcell3 hy
          by_cases hq : j = col
          · rw [if_pos hq] at HET
            have hqb : ((j : Int) != (col : Int)) = false := by simp; omega
            clear hq
            go_wp2_with fail
            go_roundw
            case rel => exact ⟨j + 1, by omega, by go_num, by rw [HET.out]; exact HOI, hbi⟩
            case measure => simp [intOf]; omega
          · rw [if_neg hq] at HET
            have hqb : ((j : Int) != (col : Int)) = true := by simp; omega
            clear hq
            go_wp2_with (first
              | (at_builtin; refine app1 el_int rfl rfl (w0 := wo') rfl rfl (by exact hbi) (by exact HOI.out) rfl (by omega) ?_; intro v3 w3 ho3 hb3 hg3))
            go_roundw
            case rel => exact ⟨j + 1, by omega, by go_num, by rw [HET.out, ints_append, List.length_append]; exact Lib.hid ho3, hb3⟩
            case measure => simp [intOf]; omega
        · obtain rfl : j = n := by omega
          rw [HEN.out] at HOI
          obtain ⟨a2, c2, rfl⟩ := own_form HOI.out
          have HX := HOI
          obtain ⟨os, ho1, ho2⟩ := HO.out
          have HO1 := Lib.hid (own_below ho1 hbi)
          have HO2 := Lib.hid ho2
          have hwn := HWN.out k
          clear ho1 ho2
          go_wp2_with (first
            | (at_builtin; refine app1 el_row rfl rfl (w0 := w) rfl rfl (by exact hbw) (by exact HO1.out) rfl (by omega) ?_; intro v3 w3 ho3 hb3 hg3))
          go_roundw
          case rel => exact ⟨k + 1, by omega, by omega, by go_num, by rw [HT.out]; exact Lib.hid (OwnM.snoc (HO1.out.alloc _) (fun i x r hx hr => (own_below (HO2.out i x r hx hr) hbi).alloc _) ((own_le HX.out hbel.size).alloc _) hg3 ho3), hb3⟩
          case measure => simp [intOf]; omega
    · obtain rfl : k = N := by omega
      clear ha
      go_wp2_with fail
      go_ret
      exact ⟨_, rfl, by rw [← HWL.out]; exact HO.out, hbel⟩

theorem keepS2 {w0 W w' : World} {a b : Addr} {v u : Value} (hb : Below W.heap.size W w') (hS : W.cell? a = some v ∧ W.cell? b = some u ∧ Hid (Below w0.heap.size w0 W)) : w'.cell? a = some v ∧ w'.cell? b = some u ∧ Hid (Below w0.heap.size w0 w') :=
  ⟨cell_below hS.1 hb, cell_below hS.2.1 hb, Lib.hid (hS.2.2.out.trans (hb.mono hS.2.2.out.size))⟩

theorem refDet0 (v : Value) (w : World) (hv : RdM w v []) :
    Calls Try.prog 61 #[v] w fun e w' => e = .returned (.int .i64 1) ∧ Below w.heap.size w w' := by
  obtain ⟨vs, hv, hr⟩ := hv
  obtain ⟨a, cap, rfl, hcp, hcm, ha, _⟩ := hv
  rw [hr.1]
  simp only [List.length_nil]
  clear hr ha hcp
  go_enter Try.func61, Try.ntmps61
  go_wp2
  go_ret
  exact ⟨rfl, Below.refl _ _⟩

set_option maxRecDepth 100000 in
set_option maxHeartbeats 2000000 in
theorem refDet_any (n : Nat) : ∀ (m : List (List Int)) (cw : List Nat) (v : Value) (w : World), n ≤ 5 → RdM w v m → m.length = n → cw.length = n → Bd m cw → (∀ c ∈ cw, 1 ≤ c ∧ c ≤ 1000000) → fac n * pr cw ≤ 1000000000000000000 →
    Calls Try.prog 61 #[v] w fun e w' => e = .returned (.int .i64 (dt n m)) ∧ Below w.heap.size w w' := by
  induction n with
  | zero =>
    intro m cw v w _ hv hm _ _ _ _
    obtain rfl := List.eq_nil_of_length_eq_zero hm
    exact refDet0 v w hv
  | succ n ih =>
    intro m cw v w hn hv hm hc hb hcb hbb
    have HV := Lib.hid hv
    obtain ⟨vs, hv, hr⟩ := hv
    obtain ⟨a, cap, rfl, hcp, hcm, ha, _⟩ := hv
    have hE := hr.1
    rw [hE, hm] at hcp HV ⊢
    obtain ⟨r, hrr⟩ : ∃ r, m[0]? = some r := ⟨_, List.getElem?_eq_getElem (by omega)⟩
    have hrl := (hb r (List.mem_of_getElem? hrr)).1
    obtain ⟨b, off, rfl, hcell⟩ := ha.cell (j := 0) (by omega)
    obtain ⟨x, hx⟩ : ∃ x, vs[0]? = some x := ⟨_, List.getElem?_eq_getElem (by omega)⟩
    have c1 := hcell 0 _ hx
    have hR := hr.2 0 x r hx hrr
    obtain ⟨a1, cap1, rfl, hc1, hcm1, ha1, _⟩ := hR.parts (n := n + 1) (by rw [ints_length]; omega)
    obtain ⟨f, hf⟩ : ∃ f, f = fun k => alt k * at2 m 0 k * dt n (wo m 0 k) := ⟨_, rfl⟩
    have HF := Lib.hid hf
    have HD : Hid (dt (n + 1) m = si (n + 1) f) := Lib.hid (by rw [hf]; rfl)
    have HS : Hid (∀ k, k ≤ n + 1 → -1000000000000000000 ≤ si k f ∧ si k f ≤ 1000000000000000000) := Lib.hid (fun k hk => by
      have := si_dt_bd n k m cw hm hc hb hk
      rw [← hf] at this
      omega)
    have HT : Hid (∀ k, k < n + 1 → -1000000000000000000 ≤ f k ∧ f k ≤ 1000000000000000000) := Lib.hid (fun k hk => by
      have h1 : (f k).natAbs ≤ fac n * pr cw := by rw [hf]; exact (dt_bd (n + 1) m cw hm hc hb).2 n k rfl hk
      have h2 : fac n * pr cw ≤ fac (n + 1) * pr cw := Nat.mul_le_mul_right _ (Nat.le_mul_of_pos_left _ (by omega))
      omega)
    have HG : Hid (∀ k x, r[k]? = some x → at2 m 0 k = x ∧ -1000000 ≤ x ∧ x ≤ 1000000) := Lib.hid (fun k x hx => by
      refine ⟨at2_get hrr hx, ?_⟩
      have hk : k < r.length := (List.getElem?_eq_some_iff.1 hx).1
      obtain ⟨c, hcc⟩ : ∃ c, cw[k]? = some c := ⟨_, List.getElem?_eq_getElem (by omega)⟩
      have h1 := (hb r (List.mem_of_getElem? hrr)).2 k x c hx hcc
      have h2 := hcb c (List.mem_of_getElem? hcc)
      omega)
    have HI : Hid (∀ k W u, k < n + 1 → RdM W u (wo m 0 k) → Calls Try.prog 61 #[u] W fun e w' => e = .returned (.int .i64 (dt n (wo m 0 k))) ∧ Below W.heap.size W w') := Lib.hid (fun k W u hk hu => by
      obtain ⟨c, hcc⟩ : ∃ c, cw[k]? = some c := ⟨_, List.getElem?_eq_getElem (by omega)⟩
      have hp := pr_erase cw k c hcc
      have hk2 : k < cw.length := by omega
      have hcl : (cw.eraseIdx k).length = n := by rw [List.length_eraseIdx_of_lt hk2]; omega
      have h0 := hcb c (List.mem_of_getElem? hcc)
      · refine ih (wo m 0 k) (cw.eraseIdx k) u W (by omega) hu (by rw [wo_len (by omega)]; omega) hcl (hb.wo 0 k hk2) (fun c hc => hcb c (List.mem_of_mem_eraseIdx hc)) ?_
        have h2 : fac n * pr (cw.eraseIdx k) ≤ fac (n + 1) * pr cw := by
          rw [← hp]
          exact Nat.mul_le_mul (Nat.le_mul_of_pos_left _ (by omega)) (Nat.le_mul_of_pos_left _ (by omega))
        omega)
    have HSQ : Hid (∀ r ∈ m, r.length = n + 1) := Lib.hid (fun r hr => by rw [(hb r hr).1]; exact hc)
    have hml : 1 ≤ m.length ∧ m.length ≤ 10 := by omega
    have HRL : Hid (r.length = n + 1) := Lib.hid (by omega)
    clear hcell hx hrr ha hR hr hE hb hcb hbb hf ih hm hc hrl
    have HM := Lib.hid hml
    clear hml
    obtain ⟨N, hN⟩ : ∃ N, N = n + 1 := ⟨_, rfl⟩
    rw [← hN] at HRL hn hcp HD HS HT HI HSQ HV hc1 ⊢
    have HN := Lib.hid hN
    have hpos : 1 ≤ N := by omega
    rw [← hN, Nat.add_zero] at c1
    have HC1 := Lib.hid c1
    have hne : ((N : Int) == 0) = false := by rw [beq_eq_false_iff_ne]; omega
    clear hN c1
    go_enter Try.func61, Try.ntmps61
    go_wp2_with fail
    go_loopw [3, 4, 5] (fun s g i wr => ∃ k : Nat, k ≤ N ∧ i = .int .i64 k ∧ s = .int .i64 (si k f) ∧ g = .int .i64 (alt k) ∧ Below w.heap.size w wr) (fun _ _ i _ => N - (intOf i).toNat)
    case atStart => exact ⟨0, Nat.zero_le _, rfl, rfl, rfl, Below.refl _ _⟩
    case round =>
      obtain ⟨k, hk, rfl, rfl, rfl, hbel⟩ := hrel
      by_cases hlt : k < N
      · have hbs := HS.out k hk
        have hbs2 := HS.out (k + 1) (by omega)
        have hbf := HT.out k hlt
        have HSS : Hid (si (k + 1) f = si k f + f k) := Lib.hid rfl
        obtain ⟨b2, off2, rfl, hcell2⟩ := (ha1.below hbel (Nat.le_refl _)).cell (j := k) (by rw [ints_length, HRL.out]; exact hlt)
        obtain ⟨x, hx⟩ : ∃ x, r[k]? = some x := ⟨_, List.getElem?_eq_getElem (by rw [HRL.out]; exact hlt)⟩
        have c1 := cell_below HC1.out hbel
        have c2 := hcell2 k _ (ints_get hx)
        have HC1' := Lib.hid c1
        have HC2' := Lib.hid c2
        obtain ⟨hat, hx1, hx2⟩ := HG.out k x hx
        have hfk : f k = alt k * x * dt n (wo m 0 k) := by rw [HF.out]; show alt k * at2 m 0 k * _ = _; rw [hat]
        have halt := alt_cases k
        have HAS : Hid (alt (k + 1) = -alt k) := Lib.hid (alt_succ k)
        have HIK := Lib.hid (fun W u => HI.out k W u (by have := HN.out; omega))
        have HWK := Lib.hid (fun W (hb : Hid (Below wr.heap.size wr W)) => refWithout_any m _ N k W (HV.out.below (hbel.trans (hb.out.mono hbel.size))) HM.out (by omega) HSQ.out)
        generalize si k f = s at *
        obtain ⟨s2, hs2⟩ : ∃ s2, s2 = si (k + 1) f := ⟨_, rfl⟩
        rw [← hs2] at hbs2 HSS
        have HS2 := Lib.hid hs2
        clear hs2
        generalize f k = z at *
        generalize alt k = g at *
        have hg : -1 ≤ g ∧ g ≤ 1 := by omega
        obtain ⟨d, hd⟩ : ∃ d, d = dt n (wo m 0 k) := ⟨_, rfl⟩
        rw [← hd] at hfk HIK
        obtain ⟨y, hy⟩ : ∃ y, y = g * x := ⟨_, rfl⟩
        rw [← hy] at hfk
        have hy1 : -1000000 ≤ y ∧ y ≤ 1000000 := by rcases halt with rfl | rfl <;> omega
        have hm1 : g * x = y := hy.symm
        have hm2 : y * d = z := hfk.symm
        have hw1 : IntKind.i64.wrap y = y := IntWalk.i64_in _ ⟨by omega, by omega⟩
        have hw2 : IntKind.i64.wrap z = z := IntWalk.i64_in _ ⟨by omega, by omega⟩
        have hw3 : IntKind.i64.wrap (s + z) = s + z := IntWalk.i64_in _ ⟨by have := HSS.out; omega, by have := HSS.out; omega⟩
        have h0N : (0 : Int) < (N : Int) := by omega
        have h0n : 0 < N := by omega
        have hkN : (k : Int) < (N : Int) := by omega
        have HBR := Lib.hid hbel
        clear hcell2 hx ha1 hat hd hy halt hfk c1 c2 hbel
        go_wp2_with fail
        go_region_held3 (fun w' => w'.cell? ⟨b, off, none⟩ = some (.slice (some ⟨b2, off2, none⟩) N cap1) ∧ w'.cell? ⟨b2, off2 + k, none⟩ = some (.int .i64 x) ∧ Hid (Below wr.heap.size wr w'))
          (first | exact keepS2 hbk (by assumption) | exact ⟨HC1'.out, HC2'.out, Lib.hid (Below.refl _ _).drew⟩)
          (first
            | (go_at_call 80; refine (HWK.out _ (And.right (And.right (by assumption)))).mono ?_; rintro e wk ⟨u1, rfl, hu1, hbk⟩)
            | (go_at_call 61; refine (HIK.out _ _ hu1.rd).mono ?_; rintro e wk ⟨rfl, hbk⟩))
        have hS : wk.cell? ⟨b, off, none⟩ = some (.slice (some ⟨b2, off2, none⟩) N cap1) ∧ wk.cell? ⟨b2, off2 + k, none⟩ = some (.int .i64 x) ∧ Hid (Below wr.heap.size wr wk) := by assumption
        have HBK := Lib.hid (HBR.out.trans (hS.2.2.out.mono HBR.out.size))
        clear hS
        go_wp2_with fail
        go_roundw
        case rel => exact ⟨k + 1, by omega, by go_num, by rw [← HS2.out, HSS.out], by rw [HAS.out], HBK.out⟩
        case measure => simp [intOf]; omega
      · obtain rfl : k = N := by omega
        clear ha1
        go_wp2_with fail
        go_ret
        exact ⟨by rw [HD.out]; rfl, hbel⟩

end Go.Proofs.Ytnaoanmkepcinaa
