/- Benes: the law BenesSums: its Go text returns true. -/
import Derived.Test.YtelnlmhelkcliaaBWays
import Derived.Test.YtelnlmhelkcliaaBSum
namespace Go.Proofs.Ytelnlmhelkcliaa
open Go.RowKit

theorem getD_setI (S : List Int) {i : Nat} (v : Int) (hi : i < S.length) (j : Nat) : (S.set i v).getD j 0 = upd1 (fun k => S.getD k 0) i v j := by
  unfold upd1
  rw [List.getD_eq_getElem?_getD, List.getElem?_set]
  by_cases e : i = j
  · subst e; simp [hi]
  · rw [if_neg e, if_neg (fun h => e h.symm)]; exact (List.getD_eq_getElem?_getD ..).symm
theorem stuck_set {S : List Int} (h : stuckB S = true) (i : Nat) {v : Int} (hv : badS v = false) : stuckB (S.set i v) = true := by
  unfold stuckB at h ⊢
  rw [List.all_eq_true] at h ⊢
  intro x hx
  rcases List.mem_or_eq_of_mem_set hx with hx | rfl
  · exact h x hx
  · rw [hv]; rfl
theorem wayE_set {p S : List Int} (h : wayE p S = 0) (i : Nat) {v : Int} (hv : badS v = false) : wayE p (S.set i v) = 0 := by
  obtain ⟨h1, h2⟩ := wayE_zero h
  unfold stkB at h2
  rw [Bool.and_eq_true] at h2
  have h3 : stkB p (S.set i v) = true := by
    unfold stkB
    rw [List.length_set, h2.1, stuck_set h2.2 i hv]; rfl
  unfold wayE
  rw [h1, h3]; rfl
/-- the law, plain -/
theorem sums_plain {p S : List Int} (h : wayE p S = 0) {i : Nat} (hi : i < S.length) :
    (S.getD i 0 = 0 ∧ wayN p S = wayN p (S.set i 1) + wayN p (S.set i 2)) ∨ (S.getD i 0 = 1 ∧ wayN p S = wayN p (S.set i 1)) ∨ (S.getD i 0 = 2 ∧ wayN p S = wayN p (S.set i 2)) := by
  obtain ⟨q1, q2, q3, q4, q5⟩ := ways_pre h
  obtain ⟨_, _, _, _, r5⟩ := ways_pre (wayE_set h i (v := 1) (by decide))
  obtain ⟨_, _, _, _, t5⟩ := ways_pre (wayE_set h i (v := 2) (by decide))
  rw [show (fun j => (S.set i 1).getD j 0) = upd1 (fun k => S.getD k 0) i 1 from funext (getD_setI S 1 hi)] at r5
  rw [show (fun j => (S.set i 2).getD j 0) = upd1 (fun k => S.getD k 0) i 2 from funext (getD_setI S 2 hi)] at t5
  rw [q5, r5, t5]
  have hb : stuckB S = true := by
    have := (wayE_zero h).2
    unfold stkB at this
    rw [Bool.and_eq_true] at this
    exact this.2
  unfold stuckB at hb
  rw [List.all_eq_true] at hb
  have h1 := hb _ (getD_mem 0 hi)
  unfold badS at h1
  obtain ⟨y, hy⟩ : ∃ y, S.getD i 0 = y := ⟨_, rfl⟩
  rw [hy] at h1
  simp at h1
  rcases (by omega : y = 0 ∨ y = 1 ∨ y = 2) with rfl | rfl | rfl
  · exact .inl ⟨hy, waysR_add _ p (fun k => S.getD k 0) i q1 q2 (by rw [← q3]; exact hi) hy⟩
  · exact .inr (.inl ⟨hy, by rw [upd1_none (st := fun k => S.getD k 0) hy]⟩)
  · exact .inr (.inr ⟨hy, by rw [upd1_none (st := fun k => S.getD k 0) hy]⟩)
theorem wayN_le (p S : List Int) : wayN p S ≤ 16777216 ∨ wayE p S ≠ 0 := by
  by_cases h : wayE p S = 0
  · obtain ⟨_, _, _, q4, q5⟩ := ways_pre h
    left
    rw [q5]
    exact Nat.le_trans (waysR_le _ _ _) (waysC_le q4)
  · exact .inr h

set_option maxRecDepth 100000 in
set_option maxHeartbeats 2000000 in
theorem sums_run (v : Value) (p : List Int) (u : Value) (S : List Int) (x i : Nat) (w : World) (hv : Rd w v (ints p)) (hu : Rd w u (ints S)) (hx : x ≤ 255) (hl8 : p.length ≤ 8) (h0 : wayE p S = 0) (hS : 0 < S.length ∧ S.length ≤ 100) (hi : i < S.length) (hmod : (x : Int) % (S.length : Int) = (i : Int)) :
    Calls Try.prog 10 #[v, u, .int .u8 x] w fun e w' => e = .returned (.bool true) ∧ Below w.heap.size w w' := by
  have hp := (wayE_zero h0).1
  have hsb := (wayE_zero h0).2
  have HIP := Lib.hid (isPerm_any p v w hv)
  rw [hp] at HIP
  obtain ⟨hn, hk⟩ := lg_spec _ (permB_sz hp)
  have HST := Lib.hid (fun W hr => isStuck_any S (lg p.length) (p.length : Int) u W hk hn hr)
  unfold stkB at hsb
  rw [hsb] at HST
  have HPL := Lib.hid (sums_plain h0 hi)
  have hN := (wayN_le p S).resolve_right (fun h => h h0)
  have hA := (wayN_le p (S.set i 1)).resolve_right (fun h => h (wayE_set h0 i (by decide)))
  have hB := (wayN_le p (S.set i 2)).resolve_right (fun h => h (wayE_set h0 i (by decide)))
  have HW := Lib.hid (fun W h1 h2 => Ways_any p S v u W (by omega) h1 h2)
  have HW1 := Lib.hid (fun W y h1 h2 => Ways_any p (S.set i 1) v y W (by rw [List.length_set]; omega) h1 h2)
  have HW2 := Lib.hid (fun W y h1 h2 => Ways_any p (S.set i 2) v y W (by rw [List.length_set]; omega) h1 h2)
  rw [h0] at HW
  rw [wayE_set h0 i (by decide)] at HW1 HW2
  obtain ⟨N, hNN⟩ : ∃ N, wayN p S = N := ⟨_, rfl⟩
  obtain ⟨A, hAA⟩ : ∃ A, wayN p (S.set i 1) = A := ⟨_, rfl⟩
  obtain ⟨B, hBB⟩ : ∃ B, wayN p (S.set i 2) = B := ⟨_, rfl⟩
  rw [hNN] at HW HPL hN
  rw [hAA] at HW1 HPL hA
  rw [hBB] at HW2 HPL hB
  have HV := Lib.hid hv
  have HU := Lib.hid hu
  obtain ⟨a, cap, rfl, hc, hcm, _, _⟩ := hv
  obtain ⟨a2, cap2, rfl, hc2, hcm2, ha2, _⟩ := hu
  rw [ints_length] at *
  rw [ints_length] at *
  obtain ⟨y, hy⟩ : ∃ y, S.getD i 0 = y := ⟨_, rfl⟩
  obtain ⟨b, off, rfl, hcell⟩ := ha2.cell (j := i) (by rw [ints_length]; exact hi)
  have c0 := hcell i _ (ints_getD hi)
  rw [hy] at c0 HPL
  have HC0 := Lib.hid c0
  obtain ⟨l, hl⟩ : ∃ l, S.length = l := ⟨_, rfl⟩
  rw [hl] at hc2 hS hi hmod HU HST HW
  rw [hl]
  have HL := Lib.hid hl
  have hl2 : decide ((8 : Int) < (p.length : Int)) = false := by simp; omega
  have hwx : IntKind.i64.wrap (x : Int) = (x : Int) := IntWalk.i64_in _ (by omega)
  have hiI : (i : Int) < (l : Int) := by omega
  have hA0 : decide ((A : Int) < 0) = false := by simp
  have hB0 : decide ((B : Int) < 0) = false := by simp
  have hl0 : ¬ (l : Int) = 0 := by omega
  have hz0 := World.block_lt_of_cell? _ _ c0
  clear hNN hAA hBB hl h0 hp hsb hn hk hcell ha2 hy c0
  go_enter Try.func10, Try.ntmps10
  go_upto_region 5 with (first
    | (go_at_call 30; refine HIP.out.mono ?_; rintro e w1 ⟨rfl, hb1⟩; have HB1 := Lib.hid hb1; clear hb1)
    | (go_at_call 33; refine (HST.out _ (HU.out.below HB1.out (Nat.le_refl _))).mono ?_; rintro e w' ⟨rfl, rfl⟩)
    | (go_at_call 31; (with_reducible refine (HW.out _ (HV.out.below HB1.out (Nat.le_refl _)) (HU.out.below HB1.out (Nat.le_refl _))).mono ?_); rintro e w2 ⟨rfl, hb2⟩; have HB2 := Lib.hid (HB1.out.trans (hb2.mono HB1.out.size)); clear hb2))
  rw [hmod]
  clear hmod
  go_upto_region 6 with (first
    | (at_builtin; refine appS el_int rfl rfl (w0 := w2) rfl rfl (by exact (Below.refl _ _).alloc (Nat.le_refl _) _) (by exact own_lit w2 w2.heap.size _ _ 0 (Nat.le_refl _) rfl (by decide)) (by exact HU.out.below (HB2.out.alloc HB2.out.size _) (Nat.le_refl _)) (by exact ints_cell S) (by rw [ints_length, HL.out]; omega) ?_; rw [ints_length, HL.out, Nat.zero_add]; intro v3 w3 ho3 hb3 _; have HO3 := Lib.hid ho3; have HB3 := Lib.hid (HB2.out.trans (hb3.mono HB2.out.size)); clear ho3 hb3)
    | (at_builtin; refine appS el_int rfl rfl (w0 := w3) rfl rfl (by exact (Below.refl _ _).alloc (Nat.le_refl _) _) (by exact own_lit w3 w3.heap.size _ _ 0 (Nat.le_refl _) rfl (by decide)) (by exact HU.out.below (HB3.out.alloc HB3.out.size _) (Nat.le_refl _)) (by exact ints_cell S) (by rw [ints_length, HL.out]; omega) ?_; rw [ints_length, HL.out, Nat.zero_add]; intro v4 w4 ho4 hb4 _; have HO4 := Lib.hid ho4; have HO34 := Lib.hid (own_below HO3.out hb4); have HB4 := Lib.hid (HB3.out.trans (hb4.mono HB3.out.size)); clear ho4 hb4))
  obtain ⟨g3, k3, rfl, hg3, hg3'⟩ := own_some1 HO34.out hS.1
  obtain ⟨g4, k4, rfl, hg4, hg4'⟩ := own_some1 HO4.out hS.1
  have h34 : g3 < w3.heap.size := (HO3.out.lt g3 rfl).2
  have ho3 := HO34.out
  have ho4 := HO4.out
  rw [show (#[] : Array Value).toList ++ ints S = ints S from rfl] at ho3 ho4
  have e3 := ho3.cellAt i (by omega)
  have e4 := ho4.cellAt i (by omega)
  rw [ints_getD (by rw [HL.out]; exact hi)] at e3 e4
  have f3 := ho3.frozenAt i
  have f4 := ho4.frozenAt i
  have hne : g3 ≠ g4 := by omega
  have hne' : g4 ≠ g3 := by omega
  obtain ⟨a1, a2'⟩ := ho3.stored i (.int .i64 1)
  have b1 := ho4.kept a2' (.inr fun e => hne (Option.some.inj e).symm)
  obtain ⟨b2, b3⟩ := b1.stored i (.int .i64 2)
  have a3 := a1.kept b3 (.inr fun e => hne (Option.some.inj e))
  rw [ints_set] at a3 b2
  have R3 := Lib.hid (Rd.own a3)
  have R4 := Lib.hid (Rd.own b2)
  have z2 := HB2.out.size
  have z3 := HB3.out.size
  have HB5 : Hid (Below w.heap.size w ((w4.setCell ⟨g3, i, none⟩ (.int .i64 1)).setCell ⟨g4, i, none⟩ (.int .i64 2))) := Lib.hid ((HB4.out.setCell (p := ⟨g3, i, none⟩) (by dsimp only; omega) _).setCell (p := ⟨g4, i, none⟩) (by dsimp only; omega) _)
  clear ho3 ho4 a1 a2' b1 b2 b3 a3 z2 z3 h34
  go_upto_region 7 with fail
  generalize (w4.setCell ⟨g3, i, none⟩ (.int .i64 1)).setCell ⟨g4, i, none⟩ (.int .i64 2) = w5 at *
  clear e3 e4 f3 f4 hne hne' hg3 hg3' hg4 hg4'
  go_upto_region 11 with (first
    | (go_at_call 31; (with_reducible refine (HW1.out _ _ (HV.out.below HB5.out (Nat.le_refl _)) R3.out).mono ?_); rintro e w6 ⟨rfl, hb6⟩; have HB6 := Lib.hid (HB5.out.trans (hb6.mono HB5.out.size)); have R46 := Lib.hid (R4.out.below hb6 (Nat.le_refl _)); clear hb6)
    | (go_at_call 31; (with_reducible refine (HW2.out _ _ (HV.out.below HB6.out (Nat.le_refl _)) R46.out).mono ?_); rintro e w7 ⟨rfl, hb7⟩; have HB7 := Lib.hid (HB6.out.trans (hb7.mono HB6.out.size)); clear hb7))
  have c0 := cell_below HC0.out HB7.out
  have z0 := World.block_lt_of_cell? _ _ c0
  have hpl := HPL.out
  rcases hpl with ⟨rfl, hq⟩ | ⟨rfl, hq⟩ | ⟨rfl, hq⟩
  · have hw1 : IntKind.i64.wrap ((A : Int) + (B : Int)) = (N : Int) := by rw [show (A : Int) + (B : Int) = (N : Int) by omega]; exact IntWalk.i64_in _ (by omega)
    clear hq
    go_wp2_with (go_at_call 15; refine (sane_any _).mono ?_; rintro e w8 ⟨rfl, hb8⟩)
    go_ret
    exact ⟨rfl, HB7.out.trans (hb8.mono HB7.out.size)⟩
  · subst hq
    go_wp2_with (go_at_call 15; refine (sane_any _).mono ?_; rintro e w8 ⟨rfl, hb8⟩)
    go_ret
    exact ⟨rfl, HB7.out.trans (hb8.mono HB7.out.size)⟩
  · subst hq
    go_wp2_with (go_at_call 15; refine (sane_any _).mono ?_; rintro e w8 ⟨rfl, hb8⟩)
    go_ret
    exact ⟨rfl, HB7.out.trans (hb8.mono HB7.out.size)⟩
theorem u8_bd {x : Int} (h : (Lit.int .u8 x).wf = true) : 0 ≤ x ∧ x ≤ 255 := by
  simp [Lit.wf, IntKind.min, IntKind.max, IntKind.signed, IntKind.bits] at h
  omega
set_option maxRecDepth 100000 in
set_option maxHeartbeats 1000000 in
theorem law_sums (v : Value) (p : List Int) (u : Value) (S : List Int) (x : Int) (w : World) (hv : Rd w v (ints p)) (_ : ∀ y ∈ p, (Lit.int .i64 y).wf = true) (hu : Rd w u (ints S)) (_ : ∀ y ∈ S, (Lit.int .i64 y).wf = true) (hx : (Lit.int .u8 x).wf = true) :
    Calls Try.prog 10 #[v, u, .int .u8 x] w fun e w' => e = .returned (.bool true) ∧ Below w.heap.size w w' := by
  obtain ⟨hx0, hx1⟩ := u8_bd hx
  obtain ⟨x', rfl⟩ := Int.eq_ofNat_of_zero_le hx0
  by_cases h8 : 8 < p.length
  · obtain ⟨a, cap, rfl, hc, hcm, _, _⟩ := hv
    rw [ints_length] at *
    have hl2 : decide ((8 : Int) < (p.length : Int)) = true := by simp; omega
    clear h8 hu
    go_enter Try.func10, Try.ntmps10
    go_wp2_with (go_at_call 15; refine (sane_any _).mono ?_; rintro e w1 ⟨rfl, hb1⟩)
    go_ret
    exact ⟨rfl, hb1⟩
  · have hl2 : decide ((8 : Int) < (p.length : Int)) = false := by simp; omega
    by_cases h0 : wayE p S = 0
    · have hp := (wayE_zero h0).1
      obtain ⟨q1, q2, q3, q4, q5⟩ := ways_pre h0
      have hcb : 0 < S.length ∧ S.length ≤ 100 := by
        rw [q3]
        have := cnt_bd (lg p.length) q4
        omega
      exact sums_run v p u S x' (x' % S.length) w hv hu (by omega) (by omega) h0 hcb (Nat.mod_lt _ hcb.1) (by push_cast; rfl)
    · have HIP := Lib.hid (isPerm_any p v w hv)
      have HU := Lib.hid hu
      cases hp : permB p with
      | false =>
        obtain ⟨a, cap, rfl, hc, hcm, _, _⟩ := hv
        rw [ints_length] at *
        rw [hp] at HIP
        clear h0 hp h8 hu
        go_enter Try.func10, Try.ntmps10
        go_wp2_with (first
          | (go_at_call 30; refine HIP.out.mono ?_; rintro e w1 ⟨rfl, hb1⟩)
          | (go_at_call 15; refine (sane_any _).mono ?_; rintro e w2 ⟨rfl, hb2⟩))
        go_ret
        exact ⟨rfl, hb1.trans (hb2.mono hb1.size)⟩
      | true =>
        have hs : stkB p S = false := by
          cases hs : stkB p S with
          | false => rfl
          | true => exact absurd (by unfold wayE; rw [hp, hs]; rfl) h0
        obtain ⟨hn, hk⟩ := lg_spec _ (permB_sz hp)
        have HST := Lib.hid (fun W hr => isStuck_any S (lg p.length) (p.length : Int) u W hk hn hr)
        unfold stkB at hs
        rw [hs] at HST
        rw [hp] at HIP
        obtain ⟨a, cap, rfl, hc, hcm, _, _⟩ := hv
        rw [ints_length] at *
        clear h0 hp h8 hu hn hk hs
        go_enter Try.func10, Try.ntmps10
        go_wp2_with (first
          | (go_at_call 30; refine HIP.out.mono ?_; rintro e w1 ⟨rfl, hb1⟩)
          | (go_at_call 33; refine (HST.out _ (HU.out.below hb1 (Nat.le_refl _))).mono ?_; rintro e w' ⟨rfl, rfl⟩)
          | (go_at_call 15; refine (sane_any _).mono ?_; rintro e w2 ⟨rfl, hb2⟩))
        go_ret
        exact ⟨rfl, hb1.trans (hb2.mono hb1.size)⟩
end Go.Proofs.Ytelnlmhelkcliaa
