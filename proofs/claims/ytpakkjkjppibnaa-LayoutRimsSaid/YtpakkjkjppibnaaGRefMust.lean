/- Layout: the reference's Must. -/
import Derived.Test.YtpakkjkjppibnaaGMust2
import Derived.Test.YtpakkjkjppibnaaGRefRim
namespace Go.Proofs.Ytpakkjkjppibnaa
open Go.RowKit

theorem ok_distinct {i0 i1 i2 i3 : Int} (h : okIs [i0, i1, i2, i3] = true) : insV i0 i1 i2 = (decide (min i0 i1 < i2) && decide (i2 < max i0 i1)) ∧ insV i0 i1 i3 = (decide (min i0 i1 < i3) && decide (i3 < max i0 i1)) := by
  unfold okIs at h
  simp only [Bool.and_eq_true, List.all_cons, List.all_nil, decide_eq_true_eq, List.nodup_cons, List.mem_cons, List.not_mem_nil, or_false, not_or] at h
  obtain ⟨_, ⟨h1, h2, h3⟩, ⟨h4, h5⟩, h6, _⟩ := h
  unfold insV
  constructor
  · rw [Bool.eq_iff_iff]; simp only [Bool.and_eq_true, decide_eq_true_eq]; omega
  · rw [Bool.eq_iff_iff]; simp only [Bool.and_eq_true, decide_eq_true_eq]; omega
theorem all_take_bad {p : Ce → Bool} {l : List Ce} {k : Nat} {x : Ce} (hx : l[k]? = some x) (h : p x = false) : l.all p = false := by
  rw [List.all_eq_false]
  exact ⟨x, List.mem_of_getElem? hx, by rw [h]; decide⟩

set_option maxRecDepth 100000 in
set_option maxHeartbeats 4000000 in
theorem refMust_ok (w h : Nat) (mv bd : Int) (bv : Value) (bl : List Ce) (a b c d : Ce) (W : World) (hv : RdP W bv bl) (hb : validP w h mv bd bl = true) :
    Calls Try.prog 27 #[.agg #[.int .i64 w, .int .i64 h, .int .i64 mv, .int .i64 bd, bv], .agg #[.int .i64 a.1, .int .i64 a.2], .agg #[.int .i64 b.1, .int .i64 b.2], .agg #[.int .i64 c.1, .int .i64 c.2], .agg #[.int .i64 d.1, .int .i64 d.2]] W fun e w' => e = .returned (.tuple #[.bool (mustF w h a b c d).1, .int .i64 (mustF w h a b c d).2]) ∧ Below W.heap.size W w' := by
  obtain ⟨wb, hwb⟩ : ∃ wb, ((((W.alloc (.cells #[.int .i64 w, .int .i64 h, .int .i64 mv, .int .i64 bd, bv] 24)).alloc (.cells #[.int .i64 a.1, .int .i64 a.2] 26)).alloc (.cells #[.int .i64 b.1, .int .i64 b.2] 26)).alloc (.cells #[.int .i64 c.1, .int .i64 c.2] 26)).alloc (.cells #[.int .i64 d.1, .int .i64 d.2] 26) = wb := ⟨_, rfl⟩
  have HMB := Lib.hid (MBx.new W w h mv bd bv a b c d 24 26)
  have HV1 : Hid (Below W.heap.size W wb) := Lib.hid (by
    rw [← hwb]
    exact (((((Below.refl _ _).alloc (Nat.le_refl _) _).alloc (by simp) _).alloc (by simp; omega) _).alloc (by simp; omega) _).alloc (by simp; omega) _)
  rw [hwb] at HMB
  have HVA := Lib.hid (fun V (hV : Below W.heap.size W V) => refValid_any w h mv bd bv bl V (hv.below hV))
  rw [hb] at HVA
  have hq := ((validP_iff _ _ _ _ _).1 hb).1
  have HRM := Lib.hid (fun V => refRim_any w h mv bd bv V (by omega) (by omega) (by omega) (by omega))
  have HON := Lib.hid (fun x y V => refOn_any w h mv bd bv x y V)
  have HIX := Lib.hid (fun V v (x y : Int) (hr : RdP V v (rimL w h)) => refIndex_any (rimL w h) v x y V hr (by have := rimL_len w h (by omega) (by omega); omega))
  have HF : Hid (mustF w h a b c d = if [a, b, c, d].all (onP w h) = true then (if okIs (mustIs (rimL w h) a b c d) = true then (insV (idxC (rimL w h) a) (idxC (rimL w h) b) (idxC (rimL w h) c) != insV (idxC (rimL w h) a) (idxC (rimL w h) b) (idxC (rimL w h) d), 0) else (false, 2)) else (false, 72)) := Lib.hid rfl
  obtain ⟨mf, hmf⟩ : ∃ mf, mustF w h a b c d = mf := ⟨_, rfl⟩
  rw [hmf] at HF ⊢
  generalize rimL w h = L at *
  obtain ⟨ba, bc, rfl, _, _, _, _⟩ := hv
  obtain ⟨a1, a2⟩ := a
  obtain ⟨b1, b2⟩ := b
  obtain ⟨c1, c2⟩ := c
  obtain ⟨d1, d2⟩ := d
  have HWB := Lib.hid hwb
  dsimp only at HMB HWB ⊢
  obtain ⟨xs, hxs⟩ : ∃ xs, xs = [(a1, a2), (b1, b2), (c1, c2), (d1, d2)] := ⟨_, rfl⟩
  obtain ⟨is, his⟩ : ∃ is, is = mustIs L (a1, a2) (b1, b2) (c1, c2) (d1, d2) := ⟨_, rfl⟩
  have hmap : is = xs.map (idxC L) := by rw [his, hxs]; rfl
  have hxl : xs.length = 4 := by rw [hxs]; rfl
  have hil : is.length = 4 := by rw [his]; rfl
  rw [← his, ← hxs] at HF
  have HXS := Lib.hid hxs
  have HIS := Lib.hid his
  have HMAP := Lib.hid hmap
  have HXL := Lib.hid hxl
  have HIL := Lib.hid hil
  have hmb := HMB.out
  unfold MBx XYc GBx at hmb
  dsimp only at hmb
  obtain ⟨⟨e0, e1, e2, e3, e4⟩, ⟨k0, k1⟩, ⟨k2, k3⟩, ⟨k4, k5⟩, ⟨k6, k7⟩⟩ := hmb
  clear hb hq hmf hwb hxs his hmap hxl hil
  go_enter Try.func27, Try.ntmps27
  go_wp2_with (first
    | (go_at_call 22; rw [HWB.out]; (with_reducible refine (HVA.out _ HV1.out).mono ?_); rintro e w1 ⟨rfl, hbb1⟩; have HB1 := Lib.hid hbb1; have HM1 := Lib.hid (HMB.out.below hbb1); have hmb := HM1.out; unfold MBx XYc GBx at hmb; dsimp only at hmb; obtain ⟨⟨e0, e1, e2, e3, e4⟩, ⟨k0, k1⟩, ⟨k2, k3⟩, ⟨k4, k5⟩, ⟨k6, k7⟩⟩ := hmb; clear hbb1)
    | (go_at_call 58; refine (HRM.out _).mono ?_; rintro e w2 ⟨u, rfl, ho2⟩; have hb2 := ho2.2; have HU2 := Lib.hid ho2.rd; have HB2 := Lib.hid (HB1.out.trans (hb2.mono HB1.out.size)); have HM2 := Lib.hid (HM1.out.below hb2); have hmb := HM2.out; unfold MBx XYc GBx at hmb; dsimp only at hmb; obtain ⟨⟨e0, e1, e2, e3, e4⟩, ⟨k0, k1⟩, ⟨k2, k3⟩, ⟨k4, k5⟩, ⟨k6, k7⟩⟩ := hmb; clear ho2 hb2))
  have HR2 := Lib.hid (RdP4 w2 a1 a2 b1 b2 c1 c2 d1 d2)
  rw [← HXS.out] at HR2
  obtain ⟨wA, hwA⟩ : ∃ wA, w2.alloc (.cells #[.int .i64 a1, .int .i64 a2, .int .i64 b1, .int .i64 b2, .int .i64 c1, .int .i64 c2, .int .i64 d1, .int .i64 d2] 26) = wA := ⟨_, rfl⟩
  have HBA : Hid (Below w2.heap.size w2 wA) := Lib.hid (by rw [← hwA]; exact bel1 _ _)
  rw [hwA] at HR2
  rw [hwA]
  have HB0A := Lib.hid (HV1.out.trans ((HB2.out.trans (HBA.out.mono HB2.out.size)).mono HV1.out.size))
  clear hwA e0 e1 e2 e3 e4 k0 k1 k2 k3 k4 k5 k6 k7
  go_loopw [12, 35] (fun v i wr => ∃ k : Nat, k ≤ 4 ∧ i = .int .i64 k ∧ Hid (∀ x ∈ xs.take k, onP w h x = true) ∧ Hid (wr.ownsRow wA.heap.size 3 1 v k (ints (is.take k))) ∧ Hid (Below wA.heap.size wA wr)) (fun _ i _ => 4 - (intOf i).toNat)
  case atStart => exact ⟨0, by omega, rfl, Lib.hid (by simp), Lib.hid (World.ownsRow_nil _ _ _ _), Lib.hid (Below.refl _ _)⟩
  case round =>
    obtain ⟨k, hk, rfl, HOK, HAT, HBR⟩ := hrel
    have HBR3 := Lib.hid (HB0A.out.trans (HBR.out.mono HB0A.out.size))
    by_cases hlt : k < 4
    · have hlt' : (k : Int) < 4 := by omega
      obtain ⟨⟨x, y⟩, hx⟩ : ∃ x, xs[k]? = some x := ⟨_, List.getElem?_eq_getElem (by rw [HXL.out]; exact hlt)⟩
      have hi : is[k]? = some (idxC L (x, y)) := by rw [HMAP.out, List.getElem?_map, hx]; rfl
      have HTX : Hid (xs.take (k + 1) = xs.take k ++ [(x, y)]) := Lib.hid (by rw [List.take_add_one, hx]; rfl)
      have HIX2 := Lib.hid (fun V (hV : Below wr.heap.size wr V) => HIX.out V u x y (((HU2.out.below HBA.out).below HBR.out).below hV))
      obtain ⟨i, hie⟩ : ∃ i, idxC L (x, y) = i := ⟨_, rfl⟩
      rw [hie] at hi HIX2
      have HTK : Hid (is.take (k + 1) = is.take k ++ [i]) := Lib.hid (by rw [List.take_add_one, hi]; rfl)
      obtain ⟨q0, q1⟩ := RdP.at0 (HR2.out.below HBR.out) hx
      have HGR := Lib.hid ((HM2.out.1.below HBA.out).below HBR.out)
      obtain ⟨e0, e1, e2, e3, e4⟩ := HGR.out
      have hl0 := World.block_lt_of_cell? _ _ e0
      have HX := Lib.hid hx
      dsimp only at q0 q1
      clear hx hi hie
      obtain ⟨t, ht⟩ : ∃ t, onP w h (x, y) = t := ⟨_, rfl⟩
      have HON2 := Lib.hid (fun V => HON.out x y V)
      rw [ht] at HON2
      have HTT := Lib.hid ht
      clear ht
      cases t with
      | false =>
        have HNO : Hid (mf = (false, 72)) := Lib.hid (by rw [HF.out, all_take_bad HX.out HTT.out]; rfl)
        go_wp2_with (first
          | (go_at_call 53; refine (HON2.out _).mono ?_; rintro e w4 ⟨rfl, hb4⟩; have HB4 := Lib.hid ((bel1 wr _).trans (hb4.mono (bel1 wr _).size)); clear hb4))
        go_ret2
        exact ⟨by rw [HNO.out]; rfl, HBR3.out.trans (HB4.out.mono HBR3.out.size)⟩
      | true =>
        have r0 : (wr.alloc (.cells #[.int .i64 x, .int .i64 y] 26)).cell? ⟨wr.heap.size, 0, none⟩ = some (.int .i64 x) := World.cell?_alloc_at _ _ _ _ rfl
        have r1 : (wr.alloc (.cells #[.int .i64 x, .int .i64 y] 26)).cell? ⟨wr.heap.size, 1, none⟩ = some (.int .i64 y) := World.cell?_alloc_at _ _ _ _ rfl
        have HOK' : Hid (∀ x ∈ xs.take (k + 1), onP w h x = true) := Lib.hid (by
          intro z hz
          rw [HTX.out] at hz
          rcases List.mem_append.1 hz with hz | hz
          · exact HOK.out z hz
          · rw [List.mem_singleton] at hz; rw [hz]; exact HTT.out)
        have HRX := Lib.hid (And.intro r0 r1)
        clear r0 r1
        go_wp2_with (first
          | (go_at_call 53; refine (HON2.out _).mono ?_; rintro e w4 ⟨rfl, hb4⟩; have r0 := cell_below HRX.out.1 hb4; have r1 := cell_below HRX.out.2 hb4; have HB4 := Lib.hid ((bel1 wr _).trans (hb4.mono (bel1 wr _).size)); clear hb4)
          | (go_at_call 57; refine (HIX2.out _ HB4.out).mono ?_; rintro e w5 ⟨rfl, hb5⟩; have HB5 := Lib.hid (HB4.out.trans (hb5.mono HB4.out.size)); have HO5 := Lib.hid (own_below HAT.out HB5.out); have HBE5 := Lib.hid (HBR.out.trans (HB5.out.mono HBR.out.size)); clear hb5)
          | (at_builtin; refine app1 el_num rfl rfl (w0 := wA) (by rfl) (by rfl) (by exact HBE5.out) (by exact HO5.out) rfl (by omega) ?_; intro v6 w6 ho6 hb6 hg6; have HO6 := Lib.hid ho6; have HB6 := Lib.hid hb6; clear ho6 hb6 hg6))
        go_roundw
        case rel => exact ⟨k + 1, by omega, by go_num, HOK', Lib.hid (by rw [HTK.out, ints_append]; exact HO6.out), HB6⟩
        case measure => simp [intOf]; omega
    · obtain rfl : k = 4 := by omega
      have hta : is.take 4 = is := List.take_of_length_le (by rw [HIL.out]; exact Nat.le_refl _)
      have htx : xs.take 4 = xs := List.take_of_length_le (by rw [HXL.out]; exact Nat.le_refl _)
      have HALL : Hid (xs.all (onP w h) = true) := Lib.hid (by have := HOK.out; rw [htx] at this; exact List.all_eq_true.2 this)
      rw [HALL.out, if_pos rfl] at HF
      have how := HAT.out
      rw [hta] at how
      obtain ⟨g, cap, rfl, hc1, hc2⟩ := own_some how (by omega)
      have HOW := Lib.hid how
      have HCELL : Hid (∀ j x, is[j]? = some x → wr.cell? ⟨g, j, none⟩ = some (.int .i64 x)) := Lib.hid (fun j x hx => by
        rw [HOW.out.cellAt j (by have := (List.getElem?_eq_some_iff.1 hx).1; rw [HIL.out] at this; omega)]
        exact ints_get hx)
      clear hta htx how HAT HOK
      obtain ⟨w5, rfl⟩ : ∃ w5, w5 = wr := ⟨_, rfl⟩
      have hcap2 : 4 ≤ cap := by
        rcases HOW.out.2 with ⟨h', _⟩ | ⟨g', cap', cur, h', _, _, hnc, _⟩
        · simp at h'
        · simp only [Value.slice.injEq] at h'
          obtain ⟨_, _, rfl⟩ := h'
          exact hnc
      have hcap : (4 : Int) ≤ (cap : Int) := by omega
      go_wp2_with fail
      go_loopw [52] (fun i wr => ∃ k : Nat, k ≤ 4 ∧ i = .int .i64 k ∧ wr = w5 ∧ Hid (okIs (is.take k) = true)) (fun i _ => 4 - (intOf i).toNat)
      case atStart => exact ⟨0, by omega, rfl, rfl, Lib.hid rfl⟩
      case round =>
        obtain ⟨k, hk, rfl, rfl, HOK⟩ := hrel
        by_cases hlt2 : k < 4
        · have hlt' : (k : Int) < 4 := by omega
          have hk1 : (0 : Int) ≤ (k : Int) := by omega
          have hk2 : (k : Int) ≤ 4 := by omega
          have hk3 : (k : Int) ≤ (cap : Int) := by omega
          obtain ⟨i, hi⟩ : ∃ i, is[k]? = some i := ⟨_, List.getElem?_eq_getElem (by rw [HIL.out]; exact hlt2)⟩
          have HTK : Hid (is.take (k + 1) = is.take k ++ [i]) := Lib.hid (by rw [List.take_add_one, hi]; rfl)
          have HOKS : Hid (okIs (is.take (k + 1)) = (okIs (is.take k) && (decide (0 ≤ i) && decide (i ∉ is.take k)))) := Lib.hid (by rw [HTK.out, okIs_snoc])
          have q0 := HCELL.out k i hi
          clear hi
          go_wp2_with fail
          go_loopw [61] (fun p w6 => ∃ j : Nat, j ≤ k ∧ p = .int .i64 j ∧ w6 = wr ∧ Hid (∀ q z, q < j → is[q]? = some z → z ≠ i)) (fun p _ => 4 - (intOf p).toNat)
          case atStart => exact ⟨0, by omega, rfl, rfl, Lib.hid (fun q z hq => absurd hq (Nat.not_lt_zero _))⟩
          case round =>
            obtain ⟨j, hj, rfl, rfl, HNE⟩ := hrel
            by_cases hjk : j < k
            · have hjk' : (j : Int) < (k : Int) := by omega
              obtain ⟨m, hm⟩ : ∃ m, is[j]? = some m := ⟨_, List.getElem?_eq_getElem (by rw [HIL.out]; omega)⟩
              have q1 := HCELL.out j m hm
              have HMM := Lib.hid hm
              clear hm
              by_cases him : i = m
              · subst him
                have HNO : Hid (mf = (false, 2)) := Lib.hid (by
                  rw [HF.out, if_neg]
                  intro hh
                  have := okIs_take hh (k + 1)
                  have hin : i ∈ is.take k := by
                    refine List.mem_of_getElem? (i := j) ?_
                    rw [List.getElem?_take, if_pos hjk]
                    exact HMM.out
                  rw [HOKS.out, decide_eq_false (not_not_intro hin : ¬ i ∉ is.take k)] at this
                  simp at this)
                go_wp2_with fail
                go_ret2
                exact ⟨by rw [HNO.out]; rfl, HBR3.out⟩
              · have him' : (i == m) = false := by simpa using him
                have HNE' : Hid (∀ q z, q < j + 1 → is[q]? = some z → z ≠ i) := Lib.hid fun q z hq hz e => by
                  rcases (by omega : q < j ∨ q = j) with h1 | rfl
                  · exact HNE.out q z h1 hz e
                  · rw [HMM.out] at hz
                    cases hz
                    exact him e.symm
                clear him
                go_wp2_with fail
                go_roundw
                case rel => exact ⟨j + 1, by omega, by go_num, trivial, HNE'⟩
                case measure => simp [intOf]; omega
            · obtain rfl : j = k := by omega
              have HNI : Hid (i ∉ is.take j) := Lib.hid fun hin => by
                obtain ⟨q, hq, e⟩ := List.mem_iff_getElem.1 hin
                have hq2 : q < j := by rw [List.length_take] at hq; omega
                refine HNE.out q i hq2 ?_ rfl
                have := List.getElem?_eq_getElem hq
                rw [e, List.getElem?_take, if_pos hq2] at this
                exact this
              by_cases hneg : i < 0
              · have hn1 : decide (i < 0) = true := decide_eq_true hneg
                have HNO : Hid (mf = (false, 2)) := Lib.hid (by
                  rw [HF.out, if_neg]
                  intro hh
                  have := okIs_take hh (j + 1)
                  rw [HOKS.out, decide_eq_false (by omega : ¬ 0 ≤ i)] at this
                  simp at this)
                go_wp2_with fail
                go_ret2
                exact ⟨by rw [HNO.out]; rfl, HBR3.out⟩
              · have hn1 : decide (i < 0) = false := decide_eq_false hneg
                have HOK' : Hid (okIs (is.take (j + 1)) = true) := Lib.hid (by
                  rw [HOKS.out, HOK.out, decide_eq_true (by omega : 0 ≤ i), decide_eq_true HNI.out]
                  rfl)
                go_wp2_with fail
                go_roundw
                case rel => exact ⟨j + 1, by omega, by go_num, trivial, HOK'⟩
                case measure => simp [intOf]; omega
        · obtain rfl : k = 4 := by omega
          have hta : is.take 4 = is := List.take_of_length_le (by rw [HIL.out]; exact Nat.le_refl _)
          obtain ⟨i0, i1, i2, i3, hi4, hj0, hj1, hj2, hj3⟩ : ∃ i0 i1 i2 i3, is = [i0, i1, i2, i3] ∧ idxC L (a1, a2) = i0 ∧ idxC L (b1, b2) = i1 ∧ idxC L (c1, c2) = i2 ∧ idxC L (d1, d2) = i3 := ⟨_, _, _, _, HIS.out, rfl, rfl, rfl, rfl⟩
          have hok := HOK.out
          rw [hta] at hok
          obtain ⟨hd2, hd3⟩ := ok_distinct (by rw [← hi4]; exact hok)
          have HM9 : Hid (mf = ((decide (min i0 i1 < i2) && decide (i2 < max i0 i1)) != (decide (min i0 i1 < i3) && decide (i3 < max i0 i1)), 0)) := Lib.hid (by
            rw [HF.out, if_pos hok, hj0, hj1, hj2, hj3, hd2, hd3])
          have n0 := HCELL.out 0 i0 (by rw [hi4]; rfl)
          have n1 := HCELL.out 1 i1 (by rw [hi4]; rfl)
          have n2 := HCELL.out 2 i2 (by rw [hi4]; rfl)
          have n3 := HCELL.out 3 i3 (by rw [hi4]; rfl)
          have HNN := Lib.hid (And.intro n2 n3)
          have n0 := fun x : Grow wr => grow_cell n0 x
          have n1 := fun x : Grow wr => grow_cell n1 x
          clear hta hi4 hj0 hj1 hj2 hj3 hok hd2 hd3 n2 n3
          go_wp2_with fail
          refine wp_region_grow (by kernel_rfl) (by kernel_rfl) ?_
          repeat (go_big_quiet_step (fail))
          refine wpQuiet_nil ?_
          intro _ hw'
          obtain ⟨xq, hw''⟩ := hw'
          subst hw''
          have HBx := Lib.hid (grow_below xq)
          have n2 := grow_cell HNN.out.1 xq
          have n3 := grow_cell HNN.out.2 xq
          generalize grow xq = w6 at *
          have n2 := fun x : Grow w6 => grow_cell n2 x
          have n3 := fun x : Grow w6 => grow_cell n3 x
          obtain ⟨lo, hlo⟩ : ∃ lo, min i0 i1 = lo := ⟨_, rfl⟩
          obtain ⟨hi, hhi⟩ : ∃ hi, max i0 i1 = hi := ⟨_, rfl⟩
          rw [hlo, hhi] at HM9
          rw [hlo, hhi]
          clear n0 n1 hlo hhi
          obtain ⟨t1, ht1⟩ : ∃ t, decide (lo < i2) = t := ⟨_, rfl⟩
          obtain ⟨t2, ht2⟩ : ∃ t, decide (i2 < hi) = t := ⟨_, rfl⟩
          obtain ⟨t3, ht3⟩ : ∃ t, decide (lo < i3) = t := ⟨_, rfl⟩
          obtain ⟨t4, ht4⟩ : ∃ t, decide (i3 < hi) = t := ⟨_, rfl⟩
          rw [ht1, ht2, ht3, ht4] at HM9
          cases t1 <;> cases t3
          all_goals (
            go_wp2_with fail
            refine wp_region_grow (by kernel_rfl) (by kernel_rfl) ?_
            repeat (go_big_quiet_step (fail))
            refine wpQuiet_nil ?_
            intro _ hw'
            obtain ⟨xq2, hw''⟩ := hw'
            subst hw''
            have HBy := Lib.hid (grow_below xq2)
            generalize grow xq2 = w7 at *
            go_wp2_with fail
            go_ret2
            refine ⟨?_, HBR3.out.trans ((HBx.out.trans (HBy.out.mono HBx.out.size)).mono HBR3.out.size)⟩
            rw [HM9.out]
            first | (simp; done) | (cases t2 <;> cases t4 <;> rfl))
end Go.Proofs.Ytpakkjkjppibnaa
