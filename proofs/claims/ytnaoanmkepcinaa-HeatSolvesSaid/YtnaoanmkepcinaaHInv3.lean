/- Heat: Inverse, the document's. -/
import Derived.Test.YtnaoanmkepcinaaHInv2
namespace Go.Proofs.Ytnaoanmkepcinaa
open Go.RowKit

def unit (N k : Nat) : List Int := (List.replicate N 0).set k 1
theorem unit_len (N k : Nat) : (unit N k).length = N := by simp [unit]
theorem unit_get {N k j : Nat} (hj : j < N) : (unit N k).getD j 0 = if j = k then 1 else 0 := by
  unfold unit
  rw [List.getD_eq_getElem?_getD, List.getElem?_set]
  by_cases e : k = j
  · subst e
    rw [if_pos rfl, if_pos (by simpa using hj), if_pos rfl]; rfl
  · rw [if_neg e, if_neg (fun h => e h.symm), List.getElem?_replicate, if_pos hj]; rfl
theorem unit_ok (N k : Nat) : lstB (unit N k) N (-1000000) 1000000 = true := by
  unfold lstB allB
  rw [Bool.and_eq_true, decide_eq_true_eq, List.all_eq_true]
  refine ⟨unit_len _ _, fun x hx => ?_⟩
  unfold unit at hx
  rw [inB_iff]
  rcases List.mem_or_eq_of_mem_set hx with h | rfl
  · obtain rfl := List.eq_of_mem_replicate h
    omega
  · omega
theorem dt_unit {m : List (List Int)} (h : vB m = true) {i k : Nat} (hi : i < m.length) (hk : k < m.length) : dt m.length (colm m i (unit m.length k) m.length) = cf m i k := by
  obtain ⟨h1, h2, h3⟩ := vB_bd h
  obtain ⟨n, hn⟩ : ∃ n, m.length = n + 1 := ⟨m.length - 1, by omega⟩
  have hat : ∀ r c, r < m.length → c < m.length → at2 (colm m i (unit m.length k) m.length) r c = if c = i then (if r = k then 1 else 0) else at2 m r c := by
    intro r c hr hc
    have e1 : (colm m i (unit m.length k) m.length)[r]? = some ((m.getD r []).set i ((unit m.length k).getD r 0)) := by
      unfold colm; rw [List.getElem?_map, List.getElem?_range hr]; rfl
    have e2 : (m.getD r []).length = m.length := by
      rw [List.getD_eq_getElem?_getD, List.getElem?_eq_getElem hr]; exact (h3 _ (List.getElem_mem hr)).1
    have e3 : at2 (colm m i (unit m.length k) m.length) r c = ((m.getD r []).set i ((unit m.length k).getD r 0)).getD c 0 := by
      unfold at2; rw [List.getD_eq_getElem?_getD (l := colm m i (unit m.length k) m.length), e1]; rfl
    rw [e3, List.getD_eq_getElem?_getD, List.getElem?_set]
    by_cases e : i = c
    · subst e
      rw [if_pos rfl, if_pos (by omega), if_pos rfl, unit_get hr]; rfl
    · rw [if_neg e, if_neg (fun h => e h.symm)]
      unfold at2
      rw [List.getD_eq_getElem?_getD (i := c)]
  have hD := dt_D m.length (colm m i (unit m.length k) m.length)
  rw [hD]
  unfold cf
  rw [dt_D, at2_wo]
  have hu := D_unit n k i (at2 (colm m i (unit m.length k) m.length)) (by omega) (by omega) (by rw [hat k i hk hi, if_pos rfl, if_pos rfl]) (fun r hr hne => by rw [hat r i (by omega) hi, if_pos rfl, if_neg hne])
  have hc : D n (mi (at2 (colm m i (unit m.length k) m.length)) k i) = D n (mi (at2 m) k i) := by
    refine D_congr n _ _ fun r c hr hc => ?_
    show at2 _ (sk k r) (sk i c) = at2 m (sk k r) (sk i c)
    have hs1 : sk k r < m.length := by unfold sk; split <;> omega
    have hs2 : sk i c < m.length := by unfold sk; split <;> omega
    have hs3 : sk i c ≠ i := by unfold sk; split <;> omega
    rw [hat _ _ hs1 hs2, if_neg hs3]
  rw [hc] at hu
  have e4 : m.length - 1 = n := by omega
  rw [e4, Nat.add_comm i k, ← hu]
  congr 1
theorem slv_unit {m : List (List Int)} (h : vB m = true) {i k : Nat} (hi : i < m.length) (hk : k < m.length) : (slv m (unit m.length k) m.length)[i]? = some (rc m i k) := by
  unfold slv rc
  rw [List.getElem?_map, List.getElem?_range hi]
  simp only [Option.map_some, dt_unit h hi hk]

/-- another list of ratios stays apart while a row grows -/
theorem OwnR.push_l {W w1 : World} {B Bl g cap n i g' cap' gl nl cl : Nat} {vs ys : List Value} {x : Value} {r : List (Int × Int)}
    (hx : vs[i]? = some x) (hg : W.grownBy w1 x.ownBlock) (hat : x.ownBlock = some g' ∨ W.heap.size ≤ g')
    (htop : w1.ownsRow B 40 1 (.slice (some ⟨g, 0, none⟩) n cap) n vs)
    (hl : W.ownsRow Bl 69 2 (.slice (some ⟨gl, 0, none⟩) nl cl) nl ys) (hap : ∀ (j : Nat) (y : Value), vs[j]? = some y → y.ownBlock ≠ some gl) :
    (w1.setCell ⟨g, i, none⟩ (.slice (some ⟨g', 0, none⟩) (r.length + 1) cap')).ownsRow Bl 69 2 (.slice (some ⟨gl, 0, none⟩) nl cl) nl ys ∧
      ∀ (j : Nat) (y : Value), (vs.set i (.slice (some ⟨g', 0, none⟩) (r.length + 1) cap'))[j]? = some y → y.ownBlock ≠ some gl := by
  have hil := (List.getElem?_eq_some_iff.1 hx).1
  have h1 := hl.kept hg (.inr fun e => hap i x hx e.symm)
  have h2 := (htop.stored i (.slice (some ⟨g', 0, none⟩) (r.length + 1) cap')).2
  refine ⟨h1.kept h2 (own_ne h1 htop (by decide)), fun j y hy => ?_⟩
  rw [List.getElem?_set] at hy
  by_cases e : i = j
  · subst e
    rw [if_pos rfl, if_pos hil] at hy
    obtain rfl := Option.some.inj hy
    have hlt := (hl.lt gl rfl).2
    rcases hat with hat | hat
    · rw [show Value.ownBlock (.slice (some ⟨g', 0, none⟩) (r.length + 1) cap') = some g' from rfl, ← hat]
      exact hap i x hx
    · intro e
      simp [Value.ownBlock] at e
      omega
  · rw [if_neg e] at hy
    exact hap j y hy

set_option maxRecDepth 100000 in
set_option maxHeartbeats 4000000 in
theorem refInverse_ok (v : Value) (m : List (List Int)) (w : World) (hv : RdM w v m) (hq1 : vB m = true) (hq3 : dt m.length m ≠ 0) :
    Calls Try.prog 26 #[.agg #[v]] w fun e w' => ∃ g vs, e = .returned (.tuple #[.slice (some ⟨g, 0, none⟩) m.length m.length, .int .i64 0]) ∧ OwnR w' w.heap.size g m.length m.length vs (tab m fun _ => m.length) ∧ Below w.heap.size w w' := by
  have HV := Lib.hid hv
  obtain ⟨h1, h2, h3⟩ := vB_bd hq1
  have HSV := Lib.hid (fun W k v (hv : RdM W v m) wv (hwv : Rd W wv (ints (unit m.length k))) => solved_any v wv m (unit m.length k) W hv hwv hq1 (unit_ok _ _) hq3)
  have HSU := Lib.hid (fun i k hi hk => @slv_unit m hq1 i k hi hk)
  obtain ⟨vs, ⟨a, cap, rfl, hc, hcm, ha, _⟩, hr⟩ := hv
  rw [hr.1] at hc HV ⊢
  have hcall := Lib.hid (fun W hb => refValid_any _ m W (HV.out.below (w' := W) hb) (fun r hr => by rw [(h3 r hr).1]; omega))
  rw [hq1] at hcall
  have HDT : Hid (∀ W, Below w.heap.size w W → Calls Try.prog 61 #[.slice a m.length cap] W fun e w' => e = .returned (.int .i64 (dt m.length m)) ∧ Below W.heap.size W w') := Lib.hid fun W hb => by
    obtain ⟨b1, b2, b3, b4, b5⟩ := rep_bd hq1
    exact refDet_any m.length m _ _ W b1 (HV.out.below hb) rfl b2 b3 b4 b5
  have HTG := Lib.hid (fun c i hi => @tab_get m c i hi)
  have HTS := Lib.hid (fun c d i hi hd => @tab_set m c d i hi hd)
  have HTC := Lib.hid (fun c d h => @tab_congr m c d h)
  have HRL := Lib.hid (rowL_len m)
  have HMD := Lib.hid (fun W B g n h hn => @OwnR.made W B g n m h hn)
  have HUN : Hid (∀ k, (List.replicate m.length (Value.int .i64 0)).set k (.int .i64 1) = ints (unit m.length k)) := Lib.hid fun k => by
    unfold unit ints
    rw [List.map_set, List.map_replicate]
  generalize dt m.length m = d at *
  have hdz : (d == 0) = false := by simpa using hq3
  clear hq1 h3 hr ha
  generalize hN : m.length = N at *
  clear hN
  have hb0 : Hid (Below w.heap.size w (w.alloc (.cells #[.slice a N cap] 24))) := Lib.hid ((Below.refl _ _).alloc (Nat.le_refl _) _)
  have hcB : Hid ((w.alloc (.cells #[.slice a N cap] 24)).cell? ⟨w.heap.size, 0, none⟩ = some (.slice a N cap)) := Lib.hid (World.cell?_alloc_at _ _ _ _ rfl)
  go_enter Try.func26, Try.ntmps26
  go_wp2_with (first
    | (go_at_call 15; refine (hcall.out _ hb0.out).mono ?_; rintro e w1 ⟨rfl, hb1⟩; have hb01 := hb0.out.trans (hb1.mono hb0.out.size); have c1 := cell_below hcB.out hb1)
    | (go_at_call 61; refine (HDT.out _ hb01).mono ?_; rintro e w3 ⟨rfl, hb3⟩; have hb03 := hb01.trans (hb3.mono hb01.size); have c2 : w3.cell? ⟨w.heap.size, 0, none⟩ = some (.slice a N cap) := cell_below c1 hb3)
    | (at_make; refine mkS el_rrow rfl rfl rfl rfl rfl (by omega) ?_; intro w4 ho4 hb4))
  have hz3 : w.heap.size ≤ w3.heap.size := hb03.size
  have HO4 := Lib.hid (HMD.out _ _ _ _ ho4 rfl)
  obtain ⟨g, hg⟩ : ∃ g, g = w3.heap.size := ⟨_, rfl⟩
  have HG3 := Lib.hid hg
  have hgw : w.heap.size < w3.heap.size := World.block_lt_of_cell? _ _ c2
  rw [← hg] at HO4 ⊢
  clear ho4 hg
  go_loopw [6] (fun i wr => ∃ k : Nat, k ≤ N ∧ i = .int .i64 k ∧ Hid (∃ vs, OwnR wr w3.heap.size g N N vs (tab m fun _ => k)) ∧ Below w3.heap.size w3 wr) (fun i _ => N - (intOf i).toNat)
  case atStart => exact ⟨0, Nat.zero_le _, rfl, Lib.hid ⟨_, by have := HO4.out; rw [HG3.out] at this ⊢; exact this⟩, hb4⟩
  case round =>
    obtain ⟨k, hk, rfl, HO, hbel⟩ := hrel
    by_cases hlt : k < N
    · have hbw := hb03.trans (hbel.mono hz3)
      have cB : wr.cell? ⟨w.heap.size, 0, none⟩ = some (.slice a N cap) := cell_below c2 hbel
      have hz0 : (List.replicate N (Value.int .i64 0))[k]? = some (.int .i64 0) := by rw [List.getElem?_replicate, if_pos hlt]
      have HZ0 := Lib.hid hz0
      have HUN1 := Lib.hid (HUN.out k)
      have HVW := Lib.hid (fun W hb => HV.out.below (w' := W) (hbw.trans hb))
      have HSV1 := Lib.hid (fun W => HSV.out W k)
      have hkN : (k : Int) < N := by omega
      clear hz0
      obtain ⟨wo, hwo⟩ : ∃ wo, wo = wr := ⟨_, rfl⟩
      subst hwo
      go_wp2_with (first
        | (at_make; refine mkS el_int rfl rfl rfl rfl rfl (by omega) ?_; intro w4b ho5 hb5; have d1 : w4b.cell? ⟨wo.heap.size, k, none⟩ = some (.int .i64 0) := by { rw [ho5.cellAt k (by omega)]; exact HZ0.out }; have d2 : w4b.frozen? ⟨wo.heap.size, k, none⟩ = false := ho5.frozenAt k; have HST := Lib.hid (ho5.stored k (.int .i64 1)).1; have hb6 : Below wo.heap.size wo (w4b.setCell ⟨wo.heap.size, k, none⟩ (.int .i64 1)) := hb5.setCell (p := ⟨wo.heap.size, k, none⟩) (Nat.le_refl _) _; have c4b := cell_below cB hb6; have hRU := Rd.own HST.out; have HRU := Lib.hid hRU)
        | (go_at_call 66; refine (HSV1.out _ _ (HVW.out _ (hb6.mono hbw.size)) _ (by rw [← HUN1.out]; exact HRU.out)).mono ?_; rintro e w5 ⟨ul, rfl, hul, hb7⟩; obtain ⟨gl, cl, rfl, hgl, hgl2⟩ := own_some hul (by omega)))
      have hb57 : Below wo.heap.size wo w5 := hb6.trans (hb7.mono (by have := hb5.size; simp; omega))
      have hgz : wo.heap.size ≤ gl := by have := hb5.size; simp at hgl; omega
      have HUL := Lib.hid (own_le hul (show wo.heap.size ≤ (w4b.setCell ⟨wo.heap.size, k, none⟩ (.int .i64 1)).heap.size from by have := hb5.size; simp; omega))
      have HOI : Hid (∃ vs, OwnR w5 w3.heap.size g N N vs (tab m fun j => if j < 0 then k + 1 else k) ∧ ∀ (j : Nat) (y : Value), vs[j]? = some y → y.ownBlock ≠ some gl) := Lib.hid (by
        obtain ⟨vs, h⟩ := HO.out
        refine ⟨vs, ?_, fun j y hy e => ?_⟩
        · rw [HTC.out (fun j => if j < 0 then k + 1 else k) (fun _ => k) (fun j _ => by simp)]
          exact h.below hb57
        · have hvl : vs.length = N := by have := h.top.1; simpa using this
          obtain ⟨s, hs⟩ : ∃ s, (tab m fun _ => k)[j]? = some s := ⟨_, List.getElem?_eq_getElem (by have := (List.getElem?_eq_some_iff.1 hy).1; rw [h.len]; omega)⟩
          rcases own_old (h.row j y s hy hs) hgz with h1 | h1
          · rw [h1] at e; cases e
          · exact h1 e)
      have hb35 := hbel.trans (hb57.mono hbel.size)
      have HSU1 := Lib.hid (fun i hi => HSU.out i k hi hlt)
      clear d1 d2 c4b hRU hul hb7 hb6 hb5 hgl
      go_loopw [9] (fun i2 wr => ∃ i : Nat, i ≤ N ∧ i2 = .int .i64 i ∧ Hid (∃ vs, OwnR wr w3.heap.size g N N vs (tab m fun j => if j < i then k + 1 else k) ∧ ∀ (j : Nat) (y : Value), vs[j]? = some y → y.ownBlock ≠ some gl) ∧ Hid (wr.ownsRow wo.heap.size 69 2 (.slice (some ⟨gl, 0, none⟩) N cl) N (pairs (slv m (unit N k) N))) ∧ Below w3.heap.size w3 wr) (fun i2 _ => N - (intOf i2).toNat)
      case atStart => exact ⟨0, Nat.zero_le _, rfl, HOI, HUL, hb35⟩
      case round =>
        obtain ⟨i, hi, rfl, HO, HUL, hbel⟩ := hrel
        by_cases hit : i < N
        · have HTI := Lib.hid (HTG.out (fun j => if j < i then k + 1 else k) i hit)
          have HTN := Lib.hid (HTS.out (fun j => if j < i then k + 1 else k) (fun j => if j < i + 1 then k + 1 else k) i hit (fun j _ => by
            by_cases e : j = i
            · subst e; simp
            · by_cases e2 : j < i
              · simp [e, e2, show j < i + 1 by omega]
              · simp [e, e2, show ¬ j < i + 1 by omega]))
          simp only [Nat.lt_irrefl, if_false] at HTI HTN
          have hRL := HRL.out i k
          have hpg := pairs_get (HSU1.out i hit)
          generalize rc m i k = q at *
          obtain ⟨q1, q2⟩ := q
          obtain ⟨vs, HOR, hapl⟩ := HO.out
          have hvl : vs.length = N := by have := HOR.top.1; simpa using this
          obtain ⟨x, hx⟩ : ∃ x, vs[i]? = some x := ⟨_, List.getElem?_eq_getElem (by omega)⟩
          have HX := Lib.hid hx
          obtain ⟨ax, cx, rfl⟩ := own_form (HOR.row i x _ hx HTI.out)
          rw [hRL] at HX
          have HOW := Lib.hid HOR
          have HAP := Lib.hid hapl
          have c8 : wr.cell? ⟨g, i, none⟩ = some (.slice ax k cx) := by rw [HOR.top.cellAt i (by omega)]; exact HX.out
          have c9 : wr.cell? ⟨gl, i * 2, none⟩ = some (.int .i64 q1) := by rw [HUL.out.cellAt (i * 2) (by omega)]; exact hpg.1
          have c10 : wr.cell? ⟨gl, i * 2 + 1, none⟩ = some (.int .i64 q2) := by rw [HUL.out.cellAt (i * 2 + 1) (by omega)]; exact hpg.2
          have hlg : g < wr.heap.size := World.block_lt_of_cell? _ _ c8
          have hlgl : gl < wr.heap.size := World.block_lt_of_cell? _ _ c9
          have hiN : (i : Int) < (N : Int) := by omega
          have HBD : Hid (Below w3.heap.size w3 wr.drew) := Lib.hid hbel.drew
          clear HOR hapl hvl hx hpg
          go_wp2_with fail
          go_region_law (first
            | (refine stepK el_rat rfl rfl (w0 := w3) rfl rfl (heap_alloc_new _ _) (by exact HBD.out.alloc HBD.out.size _) (by exact (by have := (HOW.out.below (w' := wr.drew) ((Below.refl _ _).drew)).row i _ _ HX.out HTI.out; rw [hRL] at this; exact this.alloc _)) rfl (by simp [Value.oneCell']) (by omega) ?_; intro g' cap' w11 ho11 hg11 hat11 hlt11 hb11; have HP := Lib.hid (OwnR.push (q := (q1, q2)) ((HOW.out.below (w' := wr.drew) ((Below.refl _ _).drew)).below ((Below.refl _ _).alloc (Nat.le_refl _) _)) HX.out HTI.out (by rw [hRL, pairs_append]; exact ho11) hg11 (hat11.imp_right (fun e => Nat.le_of_eq e.symm))); have HPL := Lib.hid (OwnR.push_l (r := rowL m i k) (cap' := cap') HX.out hg11 (hat11.imp_right (fun e => Nat.le_of_eq e.symm)) HP.out.2 ((own_below HUL.out (w' := wr.drew) ((Below.refl _ _).drew)).alloc _) HAP.out); have c11 : w11.cell? ⟨g, i, none⟩ = some (.slice ax k cx) := by { rw [HP.out.2.cellAt i (by omega)]; exact HX.out }; have f11 := HP.out.2.frozenAt i))
          all_goals (
            go_wp2_with fail
            go_roundw
            case rel => exact ⟨i + 1, by omega, by go_num, Lib.hid ⟨_, by have h := HP.out.1; rw [hRL] at h; rw [← HTN.out]; exact h, by have h := HPL.out.2; rw [hRL] at h; exact h⟩, Lib.hid (by have h := HPL.out.1; rw [hRL] at h; exact h), hb11.setCell (p := ⟨g, i, none⟩) (Nat.le_of_eq HG3.out.symm) _⟩
            case measure => simp [intOf]; omega)
        · obtain rfl : i = N := by omega
          go_wp2_with fail
          go_roundw
          case rel => exact ⟨k + 1, by omega, by go_num, Lib.hid (by
            obtain ⟨vs, h, _⟩ := HO.out
            exact ⟨vs, by rwa [HTC.out (fun j => if j < i then k + 1 else k) (fun _ => k + 1) (fun j hj => by simp [hj])] at h⟩), hbel⟩
          case measure => simp [intOf]; omega
    · obtain rfl : k = N := by omega
      go_wp2_with fail
      go_ret2
      obtain ⟨vs, h⟩ := HO.out
      exact ⟨_, vs, rfl, OwnR.le h hz3, hb03.trans (hbel.mono hz3)⟩

end Go.Proofs.Ytnaoanmkepcinaa
