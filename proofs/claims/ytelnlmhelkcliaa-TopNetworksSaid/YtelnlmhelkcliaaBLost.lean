/- Benes: Lost in both texts. -/
import Derived.Test.YtelnlmhelkcliaaBAll
import Derived.Test.YtelnlmhelkcliaaBPerms
namespace Go.Proofs.Ytelnlmhelkcliaa
open Go.RowKit Go.Shelf
attribute [local go_sem] Oper.semAt_some

theorem insL_perm (l : List Int) (k : Nat) (x : Int) : (insL l k x).Perm (x :: l) := by
  unfold insL
  refine List.perm_middle.trans ?_
  rw [List.take_append_drop]
theorem permsP_ok : ∀ (n : Nat) (l : List Int), l ∈ permsP n → PermP l
  | 0, l, h => by simp [permsP] at h; subst h; decide
  | n + 1, l, h => by
    have hl := permsP_len (n + 1) l h
    simp only [permsP, List.mem_flatMap, List.mem_map, List.mem_range] at h
    obtain ⟨r, hr, k, hk, rfl⟩ := h
    have h1 := permsP_ok n r hr
    have h2 := permsP_len n r hr
    have hp := insL_perm r k n
    refine ⟨fun x hx => ?_, ?_⟩
    · rw [hl]
      rcases List.mem_cons.1 (hp.mem_iff.1 hx) with rfl | hx
      · omega
      · have := h1.1 x hx; omega
    · rw [hp.nodup_iff, List.nodup_cons]
      exact ⟨fun hx => by have := h1.1 _ hx; omega, h1.2⟩
/-- how many permutations have no way -/
def lostK (h : Nat) (S : List Int) (L : List (List Int)) : Nat := L.countP fun p => decide (waysR h p (fun i => S.getD i 0) = 0)
def lostE (n : Int) (S : List Int) : Int := if szB n then (if decide (S.length = cnt (lg n)) && stuckB S then (if 4 < n then 4 else 0) else 80) else 2
def lostN (n : Int) (S : List Int) : Nat := if lostE n S = 0 then lostK (lg n) S (permsP (pw (lg n))) else 0
theorem lostK_le (h : Nat) (S : List Int) (L : List (List Int)) : lostK h S L ≤ L.length := List.countP_le_length
theorem lostK_snoc (h : Nat) (S : List Int) (L : List (List Int)) (p : List Int) : lostK h S (L ++ [p]) = lostK h S L + if waysR h p (fun i => S.getD i 0) = 0 then 1 else 0 := by
  unfold lostK
  rw [List.countP_append, List.countP_cons]
  simp
theorem pw_facN {k : Nat} (hk : k ≤ 1) : (permsP (pw k)).length ≤ 24 := by
  rw [permsP_count]
  match k, hk with
  | 0, _ => decide
  | 1, _ => decide

theorem count_quiet (k : Nat) (n : Int) (w : World) (hk : k ≤ 3) (hn : n = pw k) : Calls Try.prog 49 #[.int .i64 n] w fun e w' => e = .returned (.int .i64 (cnt k)) ∧ w' = w := (count_any k n w hk hn).mono fun _ _ ⟨h1, h2⟩ => ⟨h1, h2.symm⟩
theorem states_quiet (S : List Int) (n : Int) (v : Value) (w : World) (hS : S.length ≤ 1000) (hv : Rd w v (ints S)) :
    Calls Try.prog 61 #[v, .int .i64 n] w fun e w' => e = .returned (.bool (decide ((S.length : Int) = n) && stuckB S)) ∧ w' = w := (states_any S n v w hS hv).mono fun _ _ ⟨h1, h2⟩ => ⟨h1, h2.symm⟩

set_option maxHeartbeats 1000000 in
theorem Lost_bad (n : Int) (S : List Int) (v : Value) (w : World) (hS : S.length ≤ 1000) (hv : Rd w v (ints S)) (h0 : lostE n S ≠ 0) :
    Calls Try.prog 37 #[.int .i64 n, v] w fun e w' => e = .returned (.tuple #[.int .i64 0, .int .i64 (lostE n S)]) ∧ Below w.heap.size w w' := by
  have HV := Lib.hid hv
  obtain ⟨a, cap, rfl, hc, hcm, _, _⟩ := hv
  rw [ints_length] at *
  have hb1 : Below w.heap.size w (w.alloc (.cells #[.slice a S.length cap] 24)) := (Below.refl _ _).alloc (Nat.le_refl _) _
  have HB1 := Lib.hid hb1
  cases hz : szB n with
  | false =>
    have HE : Hid (lostE n S = 2) := Lib.hid (by unfold lostE; rw [hz]; rfl)
    rw [HE.out]
    have HZ := Lib.hid hz
    clear h0 hz hb1
    go_enter Try.func37, Try.ntmps37
    go_wp2_with (go_at_call 60; refine (ports_any n _).mono ?_; rw [HZ.out]; rintro e w' ⟨rfl, rfl⟩)
    go_ret2
    exact ⟨rfl, HB1.out⟩
  | true =>
    obtain ⟨hn, hk⟩ := lg_spec n hz
    have HST := Lib.hid (fun m => states_quiet S (cnt (lg n) : Nat) (.slice a S.length cap) ((w.alloc (.cells #[.slice a S.length cap] 24)).drewN m) hS (HV.out.below (bel_drewN hb1 m) (Nat.le_refl _)))
    have HC := Lib.hid (fun m => count_quiet (lg n) n ((w.alloc (.cells #[.slice a S.length cap] 24)).drewN m) hk hn)
    have hd : decide ((S.length : Int) = ((cnt (lg n) : Nat) : Int)) = decide (S.length = cnt (lg n)) := by
      rw [Bool.eq_iff_iff, decide_eq_true_eq, decide_eq_true_eq]; omega
    rw [hd] at HST
    cases hs : (decide (S.length = cnt (lg n)) && stuckB S) with
    | false =>
      have HE : Hid (lostE n S = 80) := Lib.hid (by unfold lostE; rw [hz, if_pos rfl, hs]; rfl)
      rw [HE.out]
      rw [hs] at HST
      have HZ := Lib.hid hz
      clear h0 hz hb1 hs hd hn hk
      go_enter Try.func37, Try.ntmps37
      go_wp2_with (go_at_call 60; refine (ports_any n _).mono ?_; rw [HZ.out]; rintro e w' ⟨rfl, rfl⟩)
      go_quiet (first | (go_at_call 49; refine Calls.quiet_of_same (HC.out _)) | (go_at_call 61; refine Calls.quiet_of_same (HST.out _)))
      go_wp2_with fail
      go_ret2
      exact ⟨rfl, bel_drewN HB1.out _⟩
    | true =>
      have h4 : 4 < n := by
        by_cases h4 : 4 < n
        · exact h4
        · exact absurd (by unfold lostE; rw [hz, if_pos rfl, hs, if_pos rfl, if_neg h4]) h0
      have HE : Hid (lostE n S = 4) := Lib.hid (by unfold lostE; rw [hz, if_pos rfl, hs, if_pos rfl, if_pos h4])
      rw [HE.out]
      rw [hs] at HST
      have HZ := Lib.hid hz
      have hn4 : decide (4 < n) = true := decide_eq_true h4
      clear h0 hz hb1 hs hd hn hk h4
      go_enter Try.func37, Try.ntmps37
      go_wp2_with (go_at_call 60; refine (ports_any n _).mono ?_; rw [HZ.out]; rintro e w' ⟨rfl, rfl⟩)
      go_quiet (first | (go_at_call 49; refine Calls.quiet_of_same (HC.out _)) | (go_at_call 61; refine Calls.quiet_of_same (HST.out _)))
      go_wp2_with fail
      go_ret2
      exact ⟨rfl, bel_drewN HB1.out _⟩

set_option maxRecDepth 100000 in
set_option maxHeartbeats 4000000 in
theorem Lost_ok (k : Nat) (hk : k ≤ 1) (n : Int) (hn : n = pw k) (hn4 : n ≤ 4) (S : List Int) (v : Value) (w : World) (hS : S.length = cnt k) (hb : stuckB S = true) (hz : szB n = true) (hv : Rd w v (ints S)) :
    Calls Try.prog 37 #[.int .i64 n, v] w fun e w' => e = .returned (.tuple #[.int .i64 (lostK k S (permsP (pw k)) : Nat), .int .i64 0]) ∧ Below w.heap.size w w' := by
  have HV := Lib.hid hv
  obtain ⟨a, cap, rfl, hc, hcm, _, _⟩ := hv
  rw [ints_length] at *
  have hcb := cnt_bd k (by omega)
  have hb1 : Below w.heap.size w (w.alloc (.cells #[.slice a S.length cap] 24)) := (Below.refl _ _).alloc (Nat.le_refl _) _
  have HB1 := Lib.hid hb1
  have HST := Lib.hid (fun m => states_quiet S (cnt k : Nat) (.slice a S.length cap) ((w.alloc (.cells #[.slice a S.length cap] 24)).drewN m) (by omega) (HV.out.below (bel_drewN hb1 m) (Nat.le_refl _)))
  have HC := Lib.hid (fun m => count_quiet k n ((w.alloc (.cells #[.slice a S.length cap] 24)).drewN m) (by omega) hn)
  have hd : decide ((S.length : Int) = ((cnt k : Nat) : Int)) = true := by rw [decide_eq_true_eq]; omega
  rw [hd, hb] at HST
  have HS := Lib.hid hS
  have HZ := Lib.hid hz
  have hn5 : decide (4 < n) = false := decide_eq_false (by omega)
  have HCA := Lib.hid (World.cell?_alloc_at (w := w) #[.slice a S.length cap] 24 w.heap.size 0 rfl)
  obtain ⟨N, hN⟩ : ∃ N, pw k = N := ⟨_, rfl⟩
  have HN := Lib.hid hN
  have HK := Lib.hid hk
  rw [hN] at hn ⊢
  subst hn
  have HN4 := Lib.hid (show N ≤ 4 by omega)
  clear hd hb hS hz hb1 hk hN hn4
  refine (callsIn_wide (n := 0)).1 ?_
  refine callsIn_of_wp_marks Try.func37 rfl trivial ?_ rfl
  simp only [Try.ntmps37, List.size_toArray, List.length_cons, List.length_nil, Nat.reduceAdd, Nat.reduceSub, Array.replicate_succ, Array.replicate_zero, List.push_toArray, List.append_toArray, List.nil_append, List.cons_append]
  refine (wpIn_wide (n := 0)).2 ?_
  go_wp2_with (go_at_call 60; refine (ports_any _ _).mono ?_; rw [HZ.out]; rintro e w' ⟨rfl, rfl⟩)
  go_quiet (first | (go_at_call 49; refine Calls.quiet_of_same (HC.out _)) | (go_at_call 61; refine Calls.quiet_of_same (HST.out _)))
  go_upto_region 8 with fail
  refine (wpIn_wide (n := 0)).1 ?_
  gi_wp2_with (first
    | (refine ⟨trivial, rfl, ?_⟩; gi_at_call 62; refine (callsIn_wide.2 (all_any _ _)).mono ?_; rintro e w5 ⟨rfl, rfl⟩))
  refine (wpIn_wide (n := 0)).1 ?_
  refine wpIn_block ?_
  obtain ⟨w5, hw5⟩ : ∃ w5, (((w.alloc (.cells #[.slice a S.length cap] 24)).drewN nq).alloc (.cells #[.int .i64 0] 3)).alloc (.cells #[.int .i64 N] 3) = w5 := ⟨_, rfl⟩
  have z5 : w5.heap.size = w.heap.size + 3 := by rw [← hw5]; simp
  have hbw : Below w.heap.size w w5 := by rw [← hw5]; exact ((bel_drewN HB1.out nq).alloc (bel_drewN HB1.out nq).size _).alloc (((bel_drewN HB1.out nq).alloc (bel_drewN HB1.out nq).size _).size) _
  have c3 : w5.cell? ⟨w.heap.size, 0, none⟩ = some (.slice a S.length cap) := by
    rw [← hw5]
    exact cell_alloc (cell_alloc (show ((w.alloc (.cells #[.slice a S.length cap] 24)).drewN nq).cell? ⟨w.heap.size, 0, none⟩ = some (.slice a S.length cap) from World.cell?_alloc_at _ _ _ _ rfl) _) _
  have cN : w5.cell? ⟨w.heap.size + 1 + 1, 0, none⟩ = some (.int .i64 N) := by rw [← hw5]; exact World.cell?_alloc_at _ _ _ _ (by simp)
  have hbx0 : Boxed w5 (w.heap.size + 1) 3 (.int .i64 0) := by
    rw [← hw5]
    have := Boxed.new ((w.alloc (.cells #[.slice a S.length cap] 24)).drewN nq) 3 (.int .i64 0)
    rw [show ((w.alloc (.cells #[.slice a S.length cap] 24)).drewN nq).heap.size = w.heap.size + 1 by simp] at this
    exact this.alloc _
  have hrS : Rd w5 (.slice a S.length cap) (ints S) := HV.out.below hbw (Nat.le_refl _)
  have hoff : Off (some (w.heap.size + 1)) (.slice a S.length cap) := off_new HV.out (by rw [ints_length, HS.out]; omega) (by omega)
  rw [hw5]
  have hX5 : ∀ j, some (w.heap.size + 1) = some j → j < w5.heap.size := fun j e => by cases e; omega
  have HC3 := Lib.hid c3
  have HRS := Lib.hid hrS
  have HOFF := Lib.hid hoff
  have HBW := Lib.hid hbw
  have HZ5 := Lib.hid z5
  clear hw5 c3 hrS hoff hbw
  refine rangeX (X := some (w.heap.size + 1)) (stop := fun _ => false) (T := permsP N) (Rx := RxP w5.heap.size) (gf := 73) (lb := #[.pointer (some ⟨w.heap.size + 1 + 1, 0, none⟩)]) rfl (enters_of Try.func73 (by kernel_rfl) rfl)
    (all_seq N (by have := HN4.out; omega) (some (w.heap.size + 1)) w5 (w.heap.size + 1 + 1) hX5 (by simp) cN) hX5 rfl (fun v b => rxP_own _ _ v b)
    (fun pre W => Boxed W (w.heap.size + 1) 3 (.int .i64 (lostK k S pre : Nat)) ∧ w5.grownBy W (some (w.heap.size + 1))) (fun _ _ => False)
    (OwnFrom.and (Own.from (boxed_own _ _ _) _) (fun _ _ _ _ k hg hr => grown_above k hg (fun r e => (hr r e).1))) (fun _ _ _ _ k _ _ => k) ⟨hbx0, World.grownBy.refl _ _⟩
    (fun v a' _ => a' = { tmps := #[.int .i64 N, .slice a S.length cap, undef, .pointer (some ⟨w.heap.size, 0, none⟩), .int .i64 0, .int .i64 0, .pointer (some ⟨w.heap.size + 1, 0, none⟩), v, .bool false, .int .i64 N, .bool true, .bool false, .bool false, .slice a S.length cap, .int .i64 N, .int .i64 (cnt k : Nat), .bool true, .bool false, .bool false, .int .i64 N, .bool false, .int .i64 N, .func (.func 73) #[] #[.pointer (some ⟨w.heap.size + 1 + 1, 0, none⟩)], v, undef, undef, undef, undef, undef, undef, undef], defers := [] })
    (fun v a' _ A B row h _ _ => h)
    ?assign ?body ?done ?stop
  case assign =>
    rintro l' v b W' K hge hx hK
    gi_wp2
    exact hK _ _ (Below.refl _ _) rfl
  case body =>
    rintro l pre v p a' W hl ⟨r, hr⟩ ⟨hbx, hgr⟩ ⟨hx1, hx2, hx3⟩ rfl ⟨post, hpo⟩
    have hmem : p ∈ permsP N := by rw [hpo]; simp
    have hpl := permsP_len N p hmem
    have hpp := permsP_ok N p hmem
    have hcm : (lostK k S pre) + 1 ≤ 24 := by
      have h1 := lostK_le k S pre
      have h2 := pw_facN HK.out
      rw [HN.out, hpo, List.length_append, List.length_cons] at h2
      omega
    have HW := Lib.hid (ways_any k (by have := HK.out; omega) p S v (.slice a S.length cap) W hpp (by rw [hpl, HN.out]) HS.out hx1 (rd_off hgr HRS.out HOFF.out))
    have HSN := Lib.hid (lostK_snoc k S pre p)
    obtain ⟨q, hq⟩ : ∃ q, waysR k p (fun i => S.getD i 0) = q := ⟨_, rfl⟩
    rw [hq] at HW HSN
    obtain ⟨c, hc'⟩ : ∃ c, lostK k S pre = c := ⟨_, rfl⟩
    rw [hc'] at hbx hcm HSN
    have HBX := Lib.hid hbx
    have HGR := Lib.hid hgr
    have c3 := hgr.cell HC3.out (by simp)
    have z3 := World.block_lt_of_cell? _ _ c3
    have hw1 : IntKind.i64.wrap ((c : Int) + 1) = (c : Int) + 1 := IntWalk.i64_in _ ⟨by omega, by omega⟩
    clear hq hc' hmem hpl hpp hcm hbx hgr hx1 hx2 hx3 hpo hr
    by_cases hq0 : q = 0
    · subst hq0
      gi_wp2_with (first
        | (refine ⟨trivial, rfl, ?_⟩; gi_at_call 55; refine (CallsIn.inRound l (callsIn_wide.2 HW.out)).mono ?_; rintro e w6 ⟨rfl, hb6⟩
           have HB6 := Lib.hid hb6; have hbx6 := HBX.out.kept (below_grown hb6 none) (by simp); have HBX6 := Lib.hid hbx6; have e6 := hbx6.cell; have f6 := hbx6.frozen; have l6 := hbx6.lt; clear hb6 hbx6))
      have hg6 : W.grownBy (w6.setCell ⟨w.heap.size + 1, 0, none⟩ (.int .i64 ((c : Int) + 1))) (some (w.heap.size + 1)) := grown_trans (below_grown HB6.out _) (grownBy_setCell' _ _ _)
      refine ⟨rfl, hg6, ?_, grown_trans HGR.out hg6⟩
      rw [HSN.out, if_pos trivial, show ((c + 1 : Nat) : Int) = (c : Int) + 1 by omega]
      exact HBX6.out.set _
    · have hq1 : ((q : Int) == 0) = false := by rw [beq_eq_false_iff_ne]; omega
      gi_wp2_with (first
        | (refine ⟨trivial, rfl, ?_⟩; gi_at_call 55; refine (CallsIn.inRound l (callsIn_wide.2 HW.out)).mono ?_; rintro e w6 ⟨rfl, hb6⟩
           have HB6 := Lib.hid hb6; have HBX6 := Lib.hid (HBX.out.kept (below_grown hb6 none) (by simp)); clear hb6))
      refine ⟨rfl, below_grown HB6.out _, ?_, grown_trans HGR.out (below_grown HB6.out _)⟩
      rw [HSN.out, if_neg hq0, Nat.add_zero]
      exact HBX6.out
  case done =>
    rintro D W hD hno ⟨hbx, hgr⟩ hK
    have c5 := hbx.cell
    have hbf : Below w.heap.size w (W.putObj D (.deferred none)) :=
      ((HBW.out.trans (grown_toBelow hgr (by omega) HBW.out.size))).trans (belowK_b (w := w5) HBW.out.size W D _ (.deferred none) hD hK rfl rfl)
    go_wp2_with fail
    refine ⟨by simp, .inl ⟨_, _, rfl, run_takeDeferred hK, ?_⟩⟩
    exact ⟨.tuple #[.int .i64 (lostK k S (permsP N) : Nat), .int .i64 0], by simp [results, Try.results37, go_sem], rfl, hbf⟩
  case stop =>
    rintro D pre b post W _ _ _ e
    cases e
theorem lostE_ok {n : Int} {S : List Int} (h : lostE n S = 0) : szB n = true ∧ n = pw (lg n) ∧ lg n ≤ 1 ∧ n ≤ 4 ∧ S.length = cnt (lg n) ∧ stuckB S = true := by
  unfold lostE at h
  cases hz : szB n with
  | false => rw [hz] at h; simp at h
  | true =>
    obtain ⟨hn, hk⟩ := lg_spec n hz
    rw [hz, if_pos rfl] at h
    cases hs : (decide (S.length = cnt (lg n)) && stuckB S) with
    | false => rw [hs] at h; simp at h
    | true =>
      rw [hs, if_pos rfl] at h
      by_cases h4 : 4 < n
      · rw [if_pos h4] at h; simp at h
      · rw [Bool.and_eq_true, decide_eq_true_eq] at hs
        refine ⟨rfl, hn, ?_, by omega, hs.1, hs.2⟩
        generalize lg n = k at *
        match k, hk with
        | 0, _ => decide
        | 1, _ => decide
        | 2, _ => have : pw 2 = 8 := rfl; omega
        | 3, _ => have : pw 3 = 16 := rfl; omega
theorem Lost_any (n : Int) (S : List Int) (v : Value) (w : World) (hS : S.length ≤ 1000) (hv : Rd w v (ints S)) :
    Calls Try.prog 37 #[.int .i64 n, v] w fun e w' => e = .returned (.tuple #[.int .i64 (lostN n S : Nat), .int .i64 (lostE n S)]) ∧ Below w.heap.size w w' := by
  by_cases h0 : lostE n S = 0
  · obtain ⟨h1, h2, h3, h4, h5, h6⟩ := lostE_ok h0
    unfold lostN
    rw [if_pos h0, h0]
    exact Lost_ok (lg n) h3 n h2 h4 S v w h5 h6 h1 hv
  · unfold lostN
    rw [if_neg h0]
    exact Lost_bad n S v w hS hv h0
theorem perms_any : ∀ (n : Nat), n ≤ 4 → ∀ w : World, Calls Try.prog 40 #[.int .i64 n] w fun e w' => (∃ u, e = .returned u ∧ OwnM w' w.heap.size u (permsP n)) ∧ Below w.heap.size w w'
  | 0, _, w => perms_zero w
  | n + 1, hn, w => by
    have := perms_succ n (by omega) (perms_any n (by omega)) w
    rwa [show ((n + 1 : Nat) : Int) = (n : Int) + 1 by omega]

set_option maxHeartbeats 1000000 in
theorem refLost_bad (n : Int) (S : List Int) (v : Value) (w : World) (hv : Rd w v (ints S)) (h0 : lostE n S ≠ 0) :
    Calls Try.prog 38 #[.int .i64 n, v] w fun e w' => e = .returned (.tuple #[.int .i64 0, .int .i64 (lostE n S)]) ∧ Below w.heap.size w w' := by
  cases hz : szB n with
  | false =>
    have HE : Hid (lostE n S = 2) := Lib.hid (by unfold lostE; rw [hz]; rfl)
    rw [HE.out]
    have HZ := Lib.hid hz
    clear h0 hz hv
    go_enter Try.func38, Try.ntmps38
    go_wp2_with (go_at_call 53; refine (isSize_any n _).mono ?_; rw [HZ.out]; rintro e w' ⟨rfl, rfl⟩)
    go_ret2
    exact ⟨rfl, Below.refl _ _⟩
  | true =>
    obtain ⟨hn, hk⟩ := lg_spec n hz
    have HST := Lib.hid (isStuck_any S (lg n) n v w hk hn hv)
    cases hs : (decide (S.length = cnt (lg n)) && stuckB S) with
    | false =>
      have HE : Hid (lostE n S = 80) := Lib.hid (by unfold lostE; rw [hz, if_pos rfl, hs]; rfl)
      rw [HE.out]
      rw [hs] at HST
      have HZ := Lib.hid hz
      clear h0 hz hs hn hk hv
      go_enter Try.func38, Try.ntmps38
      go_wp2_with (first
        | (go_at_call 53; refine (isSize_any n _).mono ?_; rw [HZ.out]; rintro e w' ⟨rfl, rfl⟩)
        | (go_at_call 33; refine HST.out.mono ?_; rintro e w' ⟨rfl, rfl⟩))
      go_ret2
      exact ⟨rfl, Below.refl _ _⟩
    | true =>
      have h4 : 4 < n := by
        by_cases h4 : 4 < n
        · exact h4
        · exact absurd (by unfold lostE; rw [hz, if_pos rfl, hs, if_pos rfl, if_neg h4]) h0
      have HE : Hid (lostE n S = 4) := Lib.hid (by unfold lostE; rw [hz, if_pos rfl, hs, if_pos rfl, if_pos h4])
      rw [HE.out]
      rw [hs] at HST
      have HZ := Lib.hid hz
      have hn4 : decide (4 < n) = true := decide_eq_true h4
      clear h0 hz hs hn hk h4 hv
      go_enter Try.func38, Try.ntmps38
      go_wp2_with (first
        | (go_at_call 53; refine (isSize_any n _).mono ?_; rw [HZ.out]; rintro e w' ⟨rfl, rfl⟩)
        | (go_at_call 33; refine HST.out.mono ?_; rintro e w' ⟨rfl, rfl⟩))
      go_ret2
      exact ⟨rfl, Below.refl _ _⟩
set_option maxHeartbeats 1000000 in
theorem refLost_ok (k : Nat) (hk : k ≤ 1) (n : Int) (hn : n = pw k) (hn4 : n ≤ 4) (S : List Int) (v : Value) (w : World) (hS : S.length = cnt k) (hb : stuckB S = true) (hz : szB n = true) (hv : Rd w v (ints S)) :
    Calls Try.prog 38 #[.int .i64 n, v] w fun e w' => e = .returned (.tuple #[.int .i64 (lostK k S (permsP (pw k)) : Nat), .int .i64 0]) ∧ Below w.heap.size w w' := by
  have HV := Lib.hid hv
  have hcb := cnt_bd k (by omega)
  have HST := Lib.hid (isStuck_any S k n v w (by omega) hn hv)
  rw [hb, decide_eq_true hS] at HST
  have HZ := Lib.hid hz
  have hn5 : decide (4 < n) = false := decide_eq_false (by omega)
  obtain ⟨N, hN⟩ : ∃ N, pw k = N := ⟨_, rfl⟩
  have HPW := Lib.hid hN
  have HLEN := Lib.hid (pw_facN hk)
  have HK := Lib.hid hk
  have HS := Lib.hid hS
  have HCB := Lib.hid hcb
  rw [hN] at hn HLEN ⊢
  subst hn
  have HPER := Lib.hid (perms_any N (by omega))
  have HEACH := Lib.hid (permsP_len N)
  have HOKP := Lib.hid (permsP_ok N)
  have HSN := Lib.hid (fun L p => lostK_snoc k S L p)
  obtain ⟨P, hP⟩ : ∃ P, permsP N = P := ⟨_, rfl⟩
  rw [hP] at HPER HEACH HOKP HLEN ⊢
  obtain ⟨L, hL⟩ : ∃ L, P.length = L := ⟨_, rfl⟩
  have HPL := Lib.hid hL
  rw [hL] at HLEN
  have hL24 := HLEN.out
  have hL0 : 0 < L := by
    rw [← hL, ← hP, permsP_count, ← hN]
    match k, hk with
    | 0, _ => decide
    | 1, _ => decide
  clear hb hz hS hv hk hN hP hL hcb hn4
  go_enter Try.func38, Try.ntmps38
  go_wp2_with (first
    | (go_at_call 53; refine (isSize_any _ _).mono ?_; rw [HZ.out]; rintro e w' ⟨rfl, rfl⟩)
    | (go_at_call 33; refine HST.out.mono ?_; rintro e w' ⟨rfl, rfl⟩)
    | (go_at_call 40; refine (HPER.out _).mono ?_; rintro e w1 ⟨⟨u, rfl, vs, ho, hrows⟩, hb1⟩; rw [HPL.out] at ho; obtain ⟨g1, c1, rfl, _, _⟩ := own_some1 ho hL0; have HO := Lib.hid ho; have HROW := Lib.hid hrows; have HB1 := Lib.hid hb1; clear ho hrows hb1))
  have HCELL : Hid (∀ (j : Nat) (x : Value), vs[j]? = some x → w1.cell? ⟨g1, j, none⟩ = some x) := Lib.hid fun j x hx => by
    obtain ⟨aa, cc, e, _, _, hca, _⟩ := Rd.own HO.out
    cases e
    obtain ⟨b, off, e, hh⟩ := hca.cell (List.getElem?_eq_some_iff.1 hx).1
    cases e
    have := hh j x hx
    rwa [Nat.zero_add] at this
  go_loopw [6, 21] (fun c i wr => ∃ j : Nat, j ≤ L ∧ i = .int .i64 j ∧ c = .int .i64 (lostK k S (P.take j) : Nat) ∧ Below w1.heap.size w1 wr) (fun _ i _ => L - (intOf i).toNat)
  case atStart => exact ⟨0, by omega, rfl, by simp [lostK], Below.refl _ _⟩
  case round =>
    obtain ⟨j, hj, rfl, rfl, hbel⟩ := hrel
    by_cases hjl : j < L
    · have hjl' : decide ((j : Int) < (L : Int)) = true := by simp; omega
      obtain ⟨p, hp⟩ : ∃ p, P[j]? = some p := ⟨_, List.getElem?_eq_getElem (by rw [HPL.out]; exact hjl)⟩
      have hmem := List.mem_of_getElem? hp
      have hpl := HEACH.out p hmem
      have hpp := HOKP.out p hmem
      obtain ⟨x, hx⟩ : ∃ x, vs[j]? = some x := ⟨_, List.getElem?_eq_getElem (by have := HO.out.1; rw [Nat.mul_one] at this; omega)⟩
      have hxo := HROW.out j x p hx hp
      obtain ⟨ax, cx, rfl⟩ := own_form hxo
      have c0 := cell_below (HCELL.out j _ hx) hbel
      have zc := World.block_lt_of_cell? _ _ c0
      have HW := Lib.hid (refWays_any k (by have := HK.out; omega) p S (.slice ax p.length cx) v 0 (fun i => S.getD i 0) wr hpp (by rw [hpl, HPW.out]) (by have := HS.out; omega) (by have := HS.out; have := HCB.out; omega) ((Rd.own hxo).below hbel (Nat.le_refl _)) (HV.out.below (HB1.out.trans (hbel.mono HB1.out.size)) (Nat.le_refl _)) (fun i _ => by rw [Nat.zero_add]))
      have HS1 := Lib.hid (HSN.out (P.take j) p)
      rw [← take_snoc hp] at HS1
      have hcl : lostK k S (P.take j) ≤ 24 := by
        have := lostK_le k S (P.take j)
        rw [List.length_take] at this
        omega
      obtain ⟨q, hq⟩ : ∃ q, waysR k p (fun i => S.getD i 0) = q := ⟨_, rfl⟩
      rw [hq] at HW HS1
      obtain ⟨c, hc'⟩ : ∃ c, lostK k S (P.take j) = c := ⟨_, rfl⟩
      rw [hc'] at HS1 hcl
      have HCJ := Lib.hid hc'
      have hw1 : IntKind.i64.wrap ((c : Int) + 1) = (c : Int) + 1 := IntWalk.i64_in _ ⟨by omega, by omega⟩
      have HBL := Lib.hid hbel
      rw [hc']
      clear hp hmem hpl hpp hx hxo hq hc' hbel
      by_cases hq0 : q = 0
      · subst hq0
        go_wp2_with (go_at_call 56; refine HW.out.mono ?_; rintro e w6 ⟨rfl, hb6⟩)
        go_roundw
        case rel => exact ⟨j + 1, by omega, by go_num, by rw [HS1.out, if_pos trivial]; go_num, HBL.out.trans (hb6.mono HBL.out.size)⟩
        case measure => simp [intOf]; omega
      · have hq1 : ((q : Int) == 0) = false := by rw [beq_eq_false_iff_ne]; omega
        go_wp2_with (go_at_call 56; refine HW.out.mono ?_; rintro e w6 ⟨rfl, hb6⟩)
        go_roundw
        case rel => exact ⟨j + 1, by omega, by go_num, by rw [HS1.out, if_neg hq0, Nat.add_zero], HBL.out.trans (hb6.mono HBL.out.size)⟩
        case measure => simp [intOf]; omega
    · obtain rfl : L = j := by omega
      have hjl' : decide ((L : Int) < (L : Int)) = false := by simp
      have HT : Hid (P.take L = P) := Lib.hid (by rw [← HPL.out, List.take_length])
      go_wp2_with fail
      go_ret2
      exact ⟨by rw [HT.out]; rfl, HB1.out.trans (hbel.mono HB1.out.size)⟩
theorem refLost_any (n : Int) (S : List Int) (v : Value) (w : World) (hv : Rd w v (ints S)) :
    Calls Try.prog 38 #[.int .i64 n, v] w fun e w' => e = .returned (.tuple #[.int .i64 (lostN n S : Nat), .int .i64 (lostE n S)]) ∧ Below w.heap.size w w' := by
  by_cases h0 : lostE n S = 0
  · obtain ⟨h1, h2, h3, h4, h5, h6⟩ := lostE_ok h0
    unfold lostN
    rw [if_pos h0, h0]
    exact refLost_ok (lg n) h3 n h2 h4 S v w h5 h6 h1 hv
  · unfold lostN
    rw [if_neg h0]
    exact refLost_bad n S v w hv h0
theorem law_lost (n : Int) (u : Value) (S : List Int) (w : World) (_ : (Lit.int .i64 n).wf = true) (hu : Rd w u (ints S)) (_ : ∀ x ∈ S, (Lit.int .i64 x).wf = true) :
    Calls Try.prog 13 #[.int .i64 n, u] w fun e w' => e = .returned (.bool true) ∧ Below w.heap.size w w' := by
  have HU := Lib.hid hu
  obtain ⟨a2, cap2, rfl, hc2, hcm2, _, _⟩ := hu
  rw [ints_length] at *
  by_cases hl1 : 80 < S.length
  · have hl3 : decide ((80 : Int) < (S.length : Int)) = true := by simp; omega
    clear hl1
    go_enter Try.func13, Try.ntmps13
    go_wp2_with (go_at_call 15; refine (sane_any _).mono ?_; rintro e w1 ⟨rfl, hb1⟩)
    go_ret
    exact ⟨rfl, hb1⟩
  · have hl3 : decide ((80 : Int) < (S.length : Int)) = false := by simp; omega
    have HL1 := Lib.hid (Lost_any n S _ w (by omega) HU.out)
    have HL2 := Lib.hid (fun W hr => refLost_any n S (.slice a2 S.length cap2) W hr)
    obtain ⟨x, hx⟩ : ∃ x, lostE n S = x := ⟨_, rfl⟩
    obtain ⟨y, hy⟩ : ∃ y, lostN n S = y := ⟨_, rfl⟩
    rw [hx, hy] at HL1 HL2
    clear hl1 hx hy
    go_enter Try.func13, Try.ntmps13
    go_wp2_with (first
      | (go_at_call 37; refine HL1.out.mono ?_; rintro e w1 ⟨rfl, hb1⟩)
      | (go_at_call 38; refine (HL2.out _ (HU.out.below hb1 (Nat.le_refl _))).mono ?_; rintro e w2 ⟨rfl, hb2⟩)
      | (go_at_call 15; refine (sane_any _).mono ?_; rintro e w3 ⟨rfl, hb3⟩))
    go_ret
    have hb12 := hb1.trans (hb2.mono hb1.size)
    exact ⟨rfl, hb12.trans (hb3.mono hb12.size)⟩
end Go.Proofs.Ytelnlmhelkcliaa
