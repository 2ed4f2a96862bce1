/- Heat: Peak in the document's text. -/
import Derived.Test.YtnaoanmkepcinaaHPeak2
namespace Go.Proofs.Ytnaoanmkepcinaa
open Go.RowKit

theorem take_every {α : Type} {l : List α} {k : Nat} {x : α} {p : α → Prop} (h : ∀ y ∈ l.take k, p y) (hx : l[k]? = some x) (hp : p x) : ∀ y ∈ l.take (k + 1), p y := by
  rw [take_snoc hx]
  intro y hy
  rcases List.mem_append.1 hy with hy | hy
  · exact h y hy
  · simp at hy; subst hy; exact hp
theorem pkE_bad {l : List Int} {st : List (Int × Int)} {x : Int × Int} (hx : x ∈ st) (h : okS l.length x = false) : pkE l st = 2 := by
  have : st.all (okS l.length) = false := by rw [List.all_eq_false]; exact ⟨x, hx, by rw [h]; decide⟩
  unfold pkE; rw [this, Bool.and_false]; rfl
theorem pkV_bad {l : List Int} {st : List (Int × Int)} (h : pkE l st = 2) : pkV l st = 0 := by
  unfold pkV; rw [h]; rfl
theorem pkE_ok {l : List Int} {st : List (Int × Int)} (h1 : drv l = true) (h2 : st.length ≤ 100) (h3 : ∀ x ∈ st, okS l.length x = true) : pkE l st = 0 ∧ pkV l st = pk l st st.length := by
  have e : pkE l st = 0 := by unfold pkE; rw [h1, decide_eq_true h2, List.all_eq_true.2 h3]; rfl
  exact ⟨e, by unfold pkV; rw [if_pos e]⟩
theorem pkE_drv {l : List Int} {st : List (Int × Int)} (h : drv l = false) : pkE l st = 2 := by unfold pkE; rw [h]; rfl
theorem pkE_long {l : List Int} {st : List (Int × Int)} (h : ¬ st.length ≤ 100) : pkE l st = 2 := by unfold pkE; rw [decide_eq_false h, Bool.and_false, Bool.false_and]; rfl
theorem drv_parts (l : List Int) : drv l = (inB 1 l.length 5 && lstB l l.length 0 1000) := by unfold drv lstB; simp
/-- what holds of the first k steps -/
theorem nw_bd' {l : List Int} {st : List (Int × Int)} (h1 : ∀ x ∈ l, 0 ≤ x ∧ x ≤ 1000) (k : Nat) (h2 : ∀ s ∈ st.take k, okS l.length s = true) : ∀ x ∈ nw l st k, 0 ≤ x ∧ x ≤ 1000 := by
  have := nw_bd h1 h2 k
  unfold nw at this ⊢
  rwa [List.take_take, Nat.min_self] at this

set_option maxRecDepth 100000 in
set_option maxHeartbeats 2000000 in
theorem refPeak_any (v sv : Value) (l : List Int) (st : List (Int × Int)) (w : World) (hv : Rd w v (ints l)) (hsv : RdP w sv st) (hn : l.length ≤ 1000) (hsn : st.length ≤ 1000) :
    Calls Try.prog 19 #[v, sv] w fun e w' => e = .returned (.tuple #[.int .i64 (pkV l st), .int .i64 (pkE l st)]) ∧ Below w.heap.size w w' := by
  have HV := Lib.hid hv
  have HSV := Lib.hid hsv
  have HPB : Hid (pkE l st = 2 → pkV l st = 0) := Lib.hid pkV_bad
  have HIP := Lib.hid (isPowers_any l.length v l w hv (by omega))
  have HW1 := Lib.hid (fun W => within_any 1 (l.length : Nat) 5 W)
  have HWS := Lib.hid (fun s W => within_any 0 s ((l.length : Nat) - 1) W)
  have HWD := Lib.hid (fun d W => within_any 0 d 1000 W)
  have HDP := Lib.hid (drv_parts l)
  obtain ⟨a, cap, rfl, hc, hcm, ha, _⟩ := hv
  obtain ⟨a2, cap2, rfl, hc2, hcm2, ha2, _⟩ := hsv
  unfold maxLen at hcm2
  rw [ints_length] at *
  cases h1 : inB 1 l.length 5 with
  | false =>
    rw [h1] at HW1 HDP
    have HE := Lib.hid (pkE_drv (st := st) HDP.out)
    have HP := Lib.hid (HPB.out HE.out)
    clear ha ha2 h1
    go_enter Try.func19, Try.ntmps19
    go_wp2_with (first | (go_at_call 56; refine (HW1.out _).mono ?_; rintro e w' ⟨rfl, rfl⟩))
    go_ret2
    exact ⟨by rw [HE.out, HP.out]; rfl, Below.refl _ _⟩
  | true =>
    rw [h1, Bool.true_and] at HDP
    rw [h1] at HW1
    cases h2 : lstB l l.length 0 1000 with
    | false =>
      rw [h2] at HIP HDP
      have HE := Lib.hid (pkE_drv (st := st) HDP.out)
      have HP := Lib.hid (HPB.out HE.out)
      clear ha ha2 h1 h2
      go_enter Try.func19, Try.ntmps19
      go_wp2_with (first | (go_at_call 56; refine (HW1.out _).mono ?_; rintro e w' ⟨rfl, rfl⟩) | (go_at_call 57; refine HIP.out.mono ?_; rintro e w' ⟨rfl, rfl⟩))
      go_ret2
      exact ⟨by rw [HE.out, HP.out]; rfl, Below.refl _ _⟩
    | true =>
      rw [h2] at HIP HDP
      by_cases h3 : st.length ≤ 100
      · obtain ⟨d1, d2, d3⟩ := drv_bd HDP.out
        have HLS := Lib.hid d3
        have HNL := Lib.hid (fun k => nw_len l st k)
        have HNS := Lib.hid (fun k x (h : st[k]? = some x) => nw_succ l st k x h)
        have HN0 : Hid (nw l st 0 = l) := Lib.hid rfl
        have HP0 : Hid (pk l st 0 = l.sum) := Lib.hid rfl
        have HPS : Hid (∀ k, pk l st (k + 1) = max (pk l st k) (nw l st (k + 1)).sum) := Lib.hid fun k => rfl
        have H100 := Lib.hid h3
        clear h1 h2 d3
        go_enter Try.func19, Try.ntmps19
        go_wp2_with (first
          | (go_at_call 56; refine (HW1.out _).mono ?_; rintro e w' ⟨rfl, rfl⟩)
          | (go_at_call 57; refine HIP.out.mono ?_; rintro e w' ⟨rfl, rfl⟩)
          | (at_builtin; refine appS el_int rfl rfl (w0 := w) rfl rfl (by exact (Below.refl _ _).alloc (Nat.le_refl _) _) (by exact own_lit w w.heap.size _ _ 0 (Nat.le_refl _) rfl (by decide)) (by exact HV.out.below ((Below.refl _ _).alloc (Nat.le_refl _) _) (Nat.le_refl _)) (by exact ints_cell l) (by rw [ints_length]; omega) ?_; rw [ints_length, Nat.zero_add]; intro v1 w1 ho1 hb1 _; obtain ⟨g, c3, rfl, hg, _⟩ := own_some ho1 (by omega))
          | (go_at_call 58; refine (refSum_any _ l _ (Rd.own ho1) (by omega) (fun x hx => by have := HLS.out x hx; omega)).mono ?_; rintro e w' ⟨rfl, rfl⟩))
        go_loopw [8, 9] (fun p i wr => ∃ k : Nat, k ≤ st.length ∧ i = .int .i64 k ∧ p = .int .i64 (pk l st k) ∧ Hid (∀ x ∈ st.take k, okS l.length x = true) ∧ Hid (wr.ownsRow w.heap.size 3 1 (.slice (some ⟨g, 0, none⟩) l.length c3) l.length (ints (nw l st k))) ∧ Below w.heap.size w wr) (fun _ i _ => st.length - (intOf i).toNat)
        case atStart => exact ⟨0, Nat.zero_le _, rfl, by rw [HP0.out], Lib.hid (by simp), Lib.hid ho1, hb1⟩
        case round =>
          obtain ⟨k, hk, rfl, rfl, HOK, HO, hbel⟩ := hrel
          by_cases hlt : k < st.length
          · obtain ⟨x, hx⟩ : ∃ x, st[k]? = some x := ⟨_, List.getElem?_eq_getElem hlt⟩
            obtain ⟨b, off, rfl, e1, e2⟩ := RdP.cell (ha2.below hbel (Nat.le_refl _)) hx
            have HBAD := Lib.hid (fun h => pkE_bad (l := l) (List.mem_of_getElem? hx) h)
            have HTK := Lib.hid (fun h => take_every (p := fun y => okS l.length y = true) HOK.out hx h)
            have HNS1 := Lib.hid (HNS.out k x hx)
            have HPS1 := Lib.hid (HPS.out k)
            obtain ⟨s, y⟩ := x
            have HOS : Hid (okS l.length (s, y) = (inB 0 s ((l.length : Nat) - 1) && inB 0 y 1000)) := Lib.hid rfl
            have HWS1 := Lib.hid (HWS.out s)
            have HWD1 := Lib.hid (HWD.out y)
            clear hx ha2 ha
            cases g1 : inB 0 s ((l.length : Nat) - 1) with
            | false =>
              rw [g1] at HWS1 HOS
              have HE := Lib.hid (HBAD.out HOS.out)
              have HP := Lib.hid (HPB.out HE.out)
              clear g1
              go_wp2_with (first | (go_at_call 56; (with_reducible refine (HWS1.out _).mono ?_); rintro e w' ⟨rfl, rfl⟩))
              go_ret2
              exact ⟨by rw [HE.out, HP.out]; rfl, hbel⟩
            | true =>
              rw [g1, Bool.true_and] at HOS
              rw [g1] at HWS1
              cases g2 : inB 0 y 1000 with
              | false =>
                rw [g2] at HWD1 HOS
                have HE := Lib.hid (HBAD.out HOS.out)
                have HP := Lib.hid (HPB.out HE.out)
                clear g1 g2
                go_wp2_with (first | (go_at_call 56; (with_reducible refine (HWS1.out _).mono ?_); rintro e w' ⟨rfl, rfl⟩) | (go_at_call 56; (with_reducible refine (HWD1.out _).mono ?_); rintro e w' ⟨rfl, rfl⟩))
                go_ret2
                exact ⟨by rw [HE.out, HP.out]; rfl, hbel⟩
              | true =>
                rw [g2] at HWD1 HOS
                have HTK1 := Lib.hid (HTK.out HOS.out)
                obtain ⟨s1, s2⟩ := (inB_iff _ _ _).1 g1
                obtain ⟨s3, s4⟩ := (inB_iff _ _ _).1 g2
                obtain ⟨i, rfl⟩ : ∃ i : Nat, s = i := ⟨s.toNat, by omega⟩
                simp only [Int.toNat_natCast] at HNS1
                have hil : i < l.length := by omega
                have HLN := HNL.out k
                obtain ⟨z, hz⟩ : ∃ z, (nw l st k)[i]? = some z := ⟨_, List.getElem?_eq_getElem (by omega)⟩
                have d1 : wr.cell? ⟨g, i, none⟩ = some (.int .i64 z) := by rw [HO.out.cellAt i (by omega)]; exact ints_get hz
                have d2 : wr.frozen? ⟨g, i, none⟩ = false := HO.out.frozenAt i
                have HO2 := Lib.hid (HO.out.stored i (.int .i64 y)).1
                rw [ints_set, ← HNS1.out] at HO2
                have HO3 : Hid ((wr.setCell ⟨g, i, none⟩ (.int .i64 y)).drew.ownsRow w.heap.size 3 1 (.slice (some ⟨g, 0, none⟩) l.length c3) l.length (ints (nw l st (k + 1)))) := Lib.hid (own_drewN HO2.out 1)
                have HBL := Lib.hid (hbel.setCell (p := ⟨g, i, none⟩) hg (.int .i64 y)).drew
                have HTT := Lib.hid (refSum_any _ (nw l st (k + 1)) _ (Rd.own HO3.out) (by rw [HNL.out]; omega) (fun x hx => by have := nw_bd' HLS.out (k + 1) HTK1.out x hx; omega))
                clear hz HLN g1 g2
                go_wp2_with (first | (go_at_call 56; (with_reducible refine (HWS1.out _).mono ?_); rintro e w' ⟨rfl, rfl⟩) | (go_at_call 56; (with_reducible refine (HWD1.out _).mono ?_); rintro e w' ⟨rfl, rfl⟩))
                go_region
                go_wp2_with (first
                  | (go_at_call 58; refine HTT.out.mono ?_; rintro e w' ⟨rfl, rfl⟩))
                go_roundw
                case rel => exact ⟨k + 1, by omega, by go_num, by rw [HPS1.out], HTK1, HO3, HBL.out⟩
                case measure => simp [intOf]; omega
          · obtain rfl : k = st.length := by omega
            have HK := Lib.hid (pkE_ok HDP.out H100.out (by have := HOK.out; rwa [List.take_length] at this))
            clear ha2 ha
            go_wp2_with fail
            go_ret2
            exact ⟨by rw [HK.out.1, HK.out.2]; rfl, hbel⟩
      · have HE := Lib.hid (pkE_long (l := l) h3)
        have HP := Lib.hid (HPB.out HE.out)
        clear ha ha2 h1 h2
        go_enter Try.func19, Try.ntmps19
        go_wp2_with (first | (go_at_call 56; refine (HW1.out _).mono ?_; rintro e w' ⟨rfl, rfl⟩) | (go_at_call 57; refine HIP.out.mono ?_; rintro e w' ⟨rfl, rfl⟩))
        go_ret2
        exact ⟨by rw [HE.out, HP.out]; rfl, Below.refl _ _⟩

end Go.Proofs.Ytnaoanmkepcinaa
