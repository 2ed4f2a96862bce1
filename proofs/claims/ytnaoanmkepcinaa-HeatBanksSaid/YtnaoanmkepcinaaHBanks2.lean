/- Heat: Bound, Dominant, Talk in the document's text. -/
import Derived.Test.YtnaoanmkepcinaaHBanks
namespace Go.Proofs.Ytnaoanmkepcinaa
open Go.RowKit

set_option maxRecDepth 100000 in
set_option maxHeartbeats 2000000 in
theorem refTalk_ok (v : Value) (m : List (List Int)) (w : World) (hv : RdM w v m) (hq : vB m = true) :
    Calls Try.prog 38 #[.agg #[v]] w fun e w' => e = .returned (.tuple #[.int .i64 (tkO m m.length), .int .i64 0]) ∧ Below w.heap.size w w' := by
  have HV := Lib.hid hv
  obtain ⟨h1, h2, h3⟩ := vB_bd hq
  obtain ⟨vs, ⟨a, cap, rfl, hc, hcm, ha, _⟩, hr⟩ := hv
  rw [hr.1] at hc HV ⊢
  have hE := hr.1
  have HR := Lib.hid hr
  have HGM : Hid (∀ j, j < m.length → ∃ r, m[j]? = some r ∧ m.getD j [] = r ∧ r.length = m.length ∧ ∀ x ∈ r, -200 ≤ x ∧ x ≤ 200) := Lib.hid fun j hj =>
    ⟨_, List.getElem?_eq_getElem hj, by rw [List.getD_eq_getElem?_getD, List.getElem?_eq_getElem hj]; rfl, (h3 _ (List.getElem_mem hj)).1, (h3 _ (List.getElem_mem hj)).2⟩
  have HI0 : Hid (∀ b r i, tkI b r i 0 = b) := Lib.hid fun b r i => rfl
  have HI : Hid (∀ b r i j, tkI b r i (j + 1) = if i = j then tkI b r i j else max (tkI b r i j) ((r.getD j 0).natAbs : Nat)) := Lib.hid fun b r i j => rfl
  have HO0 : Hid (tkO m 0 = 0) := Lib.hid rfl
  have HO : Hid (∀ i, tkO m (i + 1) = tkI (tkO m i) (m.getD i []) i m.length) := Lib.hid fun i => rfl
  have hcall := Lib.hid (fun W hb => refValid_any _ m W (HV.out.below (w' := W) hb) (fun r hr => by rw [(h3 r hr).1]; omega))
  rw [hq] at hcall
  clear hq h3 hr
  generalize hN : m.length = N at *
  have HN := Lib.hid hN
  clear hN
  have hb0 : Hid (Below w.heap.size w (w.alloc (.cells #[.slice a N cap] 24))) := Lib.hid ((Below.refl _ _).alloc (Nat.le_refl _) _)
  have hcB : Hid ((w.alloc (.cells #[.slice a N cap] 24)).cell? ⟨w.heap.size, 0, none⟩ = some (.slice a N cap)) := Lib.hid (World.cell?_alloc_at _ _ _ _ rfl)
  go_enter Try.func38, Try.ntmps38
  go_wp2_with (first
    | (go_at_call 15; refine (hcall.out _ hb0.out).mono ?_; rintro e w1 ⟨rfl, hb1⟩; have hbW := hb0.out.trans (hb1.mono hb0.out.size); have cB := cell_below hcB.out hb1))

  go_loopw [4, 5] (fun o i wr => ∃ k : Nat, k ≤ N ∧ i = .int .i64 k ∧ o = .int .i64 (tkO m k) ∧ Below w1.heap.size w1 wr) (fun _ i _ => N - (intOf i).toNat)
  case atStart => exact ⟨0, Nat.zero_le _, rfl, by rw [HO0.out], Below.refl _ _⟩
  case round =>
    obtain ⟨k, hk, rfl, rfl, hbel1⟩ := hrel
    have hbel := hbW.trans (hbel1.mono hbW.size)
    have cBr := cell_below cB hbel1
    by_cases hlt : k < N
    · obtain ⟨r, hrr, hgr, hrl, hrb⟩ := HGM.out k hlt
      obtain ⟨b, off, rfl, hcell⟩ := (ha.below hbel (Nat.le_refl _)).cell (j := k) (by rw [hE]; exact hlt)
      obtain ⟨rv, hrv⟩ : ∃ rv, vs[k]? = some rv := ⟨_, List.getElem?_eq_getElem (by rw [hE]; exact hlt)⟩
      have c5 := hcell k _ hrv
      have HRW := Lib.hid (HR.out.2 k rv r hrv hrr)
      obtain ⟨a1, cap1, rfl, hc1, hcm1, ha1, _⟩ := HRW.out
      rw [ints_length, hrl] at hc1 c5
      rw [ints_length, hrl] at HRW
      clear hcell hrv
      have HO1 := Lib.hid (HO.out k)
      rw [hgr] at HO1
      generalize tkO m k = base at *
      have HRL := Lib.hid hrl
      have HRBB := Lib.hid hrb
      clear hrl hrb hrr hgr
      go_wp2_with fail
      go_loop [4, 6] (fun o i => ∃ j : Nat, j ≤ N ∧ i = .int .i64 j ∧ o = .int .i64 (tkI base r k j)) (fun _ i => N - (intOf i).toNat)
      case atStart => exact ⟨0, Nat.zero_le _, rfl, by rw [HI0.out]⟩
      case round =>
        obtain ⟨j, hj, rfl, rfl⟩ := hrel
        by_cases hjt : j < N
        · have hkt : k < N := hlt
          have hkj : Hid (tkI base r k (j + 1) = _) := Lib.hid (HI.out base r k j)
          have hrl := HRL.out
          have hrb := HRBB.out
          obtain ⟨b3, off3, rfl, hcell3⟩ := (ha1.below hbel (Nat.le_refl _)).cell (j := j) (by rw [ints_length, hrl]; exact hjt)
          obtain ⟨y, hy⟩ : ∃ y, r[j]? = some y := ⟨_, List.getElem?_eq_getElem (by rw [hrl]; exact hjt)⟩
          have c7 := hcell3 j _ (ints_get hy)
          have hyb := hrb y (List.mem_of_getElem? hy)
          have hgy : r.getD j 0 = y := by rw [List.getD_eq_getElem?_getD, hy]; rfl
          have hyz : ((y.natAbs : Nat) : Int) ≤ 200 := by omega
          have hyp : 0 ≤ ((y.natAbs : Nat) : Int) := by omega
          rw [hgy] at hkj
          have HZ := Lib.hid (fun W => abs_any y W (by omega))
          generalize tkI base r k j = o at *
          generalize ((y.natAbs : Nat) : Int) = z at *
          clear hcell3 hrb hrl ha ha1 hy hgy
          by_cases hq : k = j
          · rw [if_pos hq] at hkj
            have hqb : ((k : Int) != (j : Int)) = false := by simp; omega
            clear hq
            go_wp2_with fail
            go_round
            case rel => exact ⟨j + 1, by omega, by go_num, by rw [hkj.out]⟩
            case measure => simp [intOf]; omega
          · rw [if_neg hq] at hkj
            have hqb : ((k : Int) != (j : Int)) = true := by simp; omega
            clear hq
            go_wp2_with (first | (go_at_call 74; refine (HZ.out _).mono ?_; rintro e w' ⟨rfl, rfl⟩))
            go_round
            case rel => exact ⟨j + 1, by omega, by go_num, by rw [hkj.out]⟩
            case measure => simp [intOf]; omega
        · obtain rfl : j = N := by omega
          clear ha ha1
          go_wp2_with fail
          go_roundw
          case rel => exact ⟨k + 1, by omega, by go_num, by rw [HO1.out], hbel1⟩
          case measure => simp [intOf]; omega
    · obtain rfl : k = N := by omega
      clear ha
      go_wp2_with fail
      go_ret2
      exact ⟨rfl, hbel⟩

set_option maxRecDepth 100000 in
set_option maxHeartbeats 2000000 in
theorem refBound_ok (v : Value) (m : List (List Int)) (w : World) (hv : RdM w v m) (hq : vB m = true) :
    Calls Try.prog 40 #[.agg #[v]] w fun e w' => ∃ u, e = .returned (.tuple #[u, .int .i64 0]) ∧ w'.ownsRow w.heap.size 3 1 u m.length (ints (bnd m m.length)) ∧ Below w.heap.size w w' := by
  have HV := Lib.hid hv
  obtain ⟨h1, h2, h3⟩ := vB_bd hq
  obtain ⟨vs, ⟨a, cap, rfl, hc, hcm, ha, _⟩, hr⟩ := hv
  rw [hr.1] at hc HV ⊢
  have hE := hr.1
  have HR := Lib.hid hr
  have HGM : Hid (∀ j, j < m.length → ∃ r, m[j]? = some r ∧ m.getD j [] = r ∧ r.length = m.length ∧ ∀ x ∈ r, -200 ≤ x ∧ x ≤ 200) := Lib.hid fun j hj =>
    ⟨_, List.getElem?_eq_getElem hj, by rw [List.getD_eq_getElem?_getD, List.getElem?_eq_getElem hj]; rfl, (h3 _ (List.getElem_mem hj)).1, (h3 _ (List.getElem_mem hj)).2⟩
  have HS := Lib.hid (fun k r (h : m[k]? = some r) => bnd_succ h)
  have H0 : Hid (bnd m 0 = []) := Lib.hid rfl
  have HRS : Hid (∀ r k, rst r (-1) (k + 1) = rst r (-1) k + ((r.getD k 0).natAbs : Nat)) := Lib.hid fun r k => by
    unfold rst; simp only [si]; rw [if_neg (show ¬ (k : Int) = -1 by omega)]
  have HR0 : Hid (∀ r, rst r (-1) 0 = 0) := Lib.hid fun r => rfl
  have hcall := Lib.hid (fun W hb => refValid_any _ m W (HV.out.below (w' := W) hb) (fun r hr => by rw [(h3 r hr).1]; omega))
  rw [hq] at hcall
  clear hq h3 hr
  generalize hN : m.length = N at *
  have HN := Lib.hid hN
  clear hN
  have hb0 : Hid (Below w.heap.size w (w.alloc (.cells #[.slice a N cap] 24))) := Lib.hid ((Below.refl _ _).alloc (Nat.le_refl _) _)
  have hcB : Hid ((w.alloc (.cells #[.slice a N cap] 24)).cell? ⟨w.heap.size, 0, none⟩ = some (.slice a N cap)) := Lib.hid (World.cell?_alloc_at _ _ _ _ rfl)
  go_enter Try.func40, Try.ntmps40
  go_wp2_with (first
    | (go_at_call 15; refine (hcall.out _ hb0.out).mono ?_; rintro e w1 ⟨rfl, hb1⟩; have hbW := hb0.out.trans (hb1.mono hb0.out.size); have cB := cell_below hcB.out hb1))

  go_loopw [4, 5] (fun o i wr => ∃ k : Nat, k ≤ N ∧ i = .int .i64 k ∧ wr.ownsRow w1.heap.size 3 1 o k (ints (bnd m k)) ∧ Below w1.heap.size w1 wr) (fun _ i _ => N - (intOf i).toNat)
  case atStart => exact ⟨0, Nat.zero_le _, rfl, by rw [H0.out]; exact World.ownsRow_nil _ _ _ _, Below.refl _ _⟩
  case round =>
    obtain ⟨k, hk, rfl, hown, hbel1⟩ := hrel
    have hbel := hbW.trans (hbel1.mono hbW.size)
    have cBr := cell_below cB hbel1
    by_cases hlt : k < N
    · obtain ⟨r, hrr, hgr, hrl, hrb⟩ := HGM.out k hlt
      obtain ⟨b, off, rfl, hcell⟩ := (ha.below hbel (Nat.le_refl _)).cell (j := k) (by rw [hE]; exact hlt)
      obtain ⟨rv, hrv⟩ : ∃ rv, vs[k]? = some rv := ⟨_, List.getElem?_eq_getElem (by rw [hE]; exact hlt)⟩
      have c5 := hcell k _ hrv
      have HRW := Lib.hid (HR.out.2 k rv r hrv hrr)
      obtain ⟨a1, cap1, rfl, hc1, hcm1, ha1, _⟩ := HRW.out
      rw [ints_length, hrl] at hc1 c5
      rw [ints_length, hrl] at HRW
      clear hcell hrv
      have HS1 := Lib.hid (HS.out k r hrr)
      have HRB := Lib.hid (fun j hj => rst_bd hrb (-1) j hj)
      have HRL := Lib.hid hrl
      have HRBB := Lib.hid hrb
      clear hrl hrb hrr hgr
      go_wp2_with fail
      go_loop [6, 7] (fun o i => ∃ j : Nat, j ≤ N ∧ i = .int .i64 j ∧ o = .int .i64 (rst r (-1) j)) (fun _ i => N - (intOf i).toNat)
      case atStart => exact ⟨0, Nat.zero_le _, rfl, by rw [HR0.out]⟩
      case round =>
        obtain ⟨j, hj, rfl, rfl⟩ := hrel
        by_cases hjt : j < N
        · have hkj := Lib.hid (HRS.out r j)
          have hrs := HRB.out j (by omega)
          have hrl := HRL.out
          have hrb := HRBB.out
          obtain ⟨b3, off3, rfl, hcell3⟩ := (ha1.below hbel (Nat.le_refl _)).cell (j := j) (by rw [ints_length, hrl]; exact hjt)
          obtain ⟨y, hy⟩ : ∃ y, r[j]? = some y := ⟨_, List.getElem?_eq_getElem (by rw [hrl]; exact hjt)⟩
          have c7 := hcell3 j _ (ints_get hy)
          have hyb := hrb y (List.mem_of_getElem? hy)
          have hgy : r.getD j 0 = y := by rw [List.getD_eq_getElem?_getD, hy]; rfl
          have hyz : ((y.natAbs : Nat) : Int) ≤ 200 := by omega
          have hyp : 0 ≤ ((y.natAbs : Nat) : Int) := by omega
          rw [hgy] at hkj
          have HZ := Lib.hid (fun W => abs_any y W (by omega))
          generalize rst r (-1) j = o at *
          generalize ((y.natAbs : Nat) : Int) = z at *
          clear hcell3 hrb hrl ha ha1 hy hgy
          go_wp2_with (first | (go_at_call 74; refine (HZ.out _).mono ?_; rintro e w' ⟨rfl, rfl⟩))
          go_round
          case rel => exact ⟨j + 1, by omega, by go_num, by rw [hkj.out]⟩
          case measure => simp [intOf]; omega
        · obtain rfl : j = N := by omega
          clear ha ha1
          go_wp2_with (first
            | (at_builtin; refine app1 el_int rfl rfl (w0 := w1) rfl rfl (by exact hbel1) (by exact hown) rfl (by omega) ?_; intro v3 w3 ho3 hb3 hg3))
          go_roundw
          case rel => exact ⟨k + 1, by omega, by go_num, by rw [HS1.out, ints_append]; exact ho3, hb3⟩
          case measure => simp [intOf]; omega
    · obtain rfl : k = N := by omega
      clear ha
      go_wp2_with fail
      go_ret2
      exact ⟨_, rfl, own_le hown hbW.size, hbel⟩

end Go.Proofs.Ytnaoanmkepcinaa
