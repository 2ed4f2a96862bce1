/- Benes: ways, walked. -/
import Derived.Test.YtelnlmhelkcliaaBWk1
namespace Go.Proofs.Ytelnlmhelkcliaa
open Go.RowKit Go.Shelf
attribute [local go_sem] Oper.semAt_some

theorem seg_getD (S : List Int) (a n : Nat) {i : Nat} (hi : i < n) : ((S.drop a).take n).getD i 0 = S.getD (a + i) 0 := by
  simp [List.getD_eq_getElem?_getD, hi]
theorem seg_getD0 (S : List Int) (n : Nat) {i : Nat} (hi : i < n) : (S.take n).getD i 0 = S.getD i 0 := by
  simp [List.getD_eq_getElem?_getD, hi]
theorem ints_part (S : List Int) (a n : Nat) : ((ints S).drop a).take n = ints ((S.drop a).take n) := by simp [ints]
theorem ints_part0 (S : List Int) (n : Nat) : (ints S).take n = ints (S.take n) := by simp [ints]

theorem ways0 (a : Option Addr) (cap cap2 b off : Nat) (x : Int) (ok set : Bool) (w : World) (_hlt : b < w.heap.size) (_hlt1 : b < (w.alloc (.cells #[.slice a 2 cap] 24)).heap.size) (_c0 : w.cell? ⟨b, off, none⟩ = some (.int .i64 x)) (c1 : (w.alloc (.cells #[.slice a 2 cap] 24)).cell? ⟨b, off, none⟩ = some (.int .i64 x))
    (HSI : Hid (∀ n, Calls Try.prog 66 #[.slice a 2 cap, .int .i64 x] ((w.alloc (.cells #[.slice a 2 cap] 24)).drewN n) fun e w' => e = .returned (.tuple #[.bool set, .bool ok]) ∧ w' = (w.alloc (.cells #[.slice a 2 cap] 24)).drewN n)) (_hc : 1 ≤ cap2) :
    Calls Try.prog 55 #[.slice a 2 cap, .slice (some ⟨b, off, none⟩) 1 cap2] w fun e w' => e = .returned (.int .i64 (bI ok)) ∧ Below w.heap.size w w' := by
  go_enter Try.func55, Try.ntmps55
  go_wp2_with fail
  go_quiet (first | (go_at_call 66; refine Calls.quiet_of_same (HSI.out _)))
  go_wp2_with (go_at_call 46; refine (bit_any _ _).mono ?_; rintro e w2 ⟨rfl, rfl⟩)
  go_ret
  exact ⟨rfl, bel_drewN ((Below.refl _ _).alloc (Nat.le_refl _) _) _⟩
theorem ways_zero (p S : List Int) (v sv : Value) (w : World) (hl : p.length = 2) (hS : S.length = 1) (hv : Rd w v (ints p)) (hs : Rd w sv (ints S)) :
    Calls Try.prog 55 #[v, sv] w fun e w' => e = .returned (.int .i64 (waysR 0 p fun i => S.getD i 0 : Nat)) ∧ Below w.heap.size w w' := by
  have HV := Lib.hid hv
  obtain ⟨a, cap, rfl, hc, hcm, ha, _⟩ := hv
  obtain ⟨a2, cap2, rfl, hc2, _, ha2, _⟩ := hs
  obtain ⟨b, off, rfl, hcell⟩ := ha2.cell (j := 0) (by rw [ints_length, hS]; decide)
  have c0 := hcell 0 _ (ints_getD (by rw [hS]; decide))
  rw [Nat.add_zero] at c0
  rw [ints_length, hS] at hc2
  rw [ints_length, hl] at HV
  rw [ints_length, ints_length, hS, hl]
  have hb : Below w.heap.size w (w.alloc (.cells #[.slice a 2 cap] 24)) := (Below.refl _ _).alloc (Nat.le_refl _) _
  have c1 := cell_below c0 hb
  have HSI : Hid (∀ n, Calls Try.prog 66 #[.slice a 2 cap, .int .i64 (S.getD 0 0)] ((w.alloc (.cells #[.slice a 2 cap] 24)).drewN n) fun e w' => e = .returned (.tuple #[.bool (p.getD 0 0 == 1), .bool (mayB (S.getD 0 0) (p.getD 0 0 == 1))]) ∧ w' = (w.alloc (.cells #[.slice a 2 cap] 24)).drewN n) :=
    Lib.hid (fun n => (single_any p (S.getD 0 0) (.slice a 2 cap) ((w.alloc (.cells #[.slice a 2 cap] 24)).drewN n) hl (HV.out.below (bel_drewN hb n) (Nat.le_refl _))).mono fun e w' ⟨h1, h2⟩ => ⟨h1, h2.symm⟩)
  have hw : ((waysR 0 p fun i => S.getD i 0 : Nat) : Int) = bI (mayB (S.getD 0 0) (p.getD 0 0 == 1)) := by
    unfold waysR
    cases mayB (S.getD 0 0) (p.getD 0 0 == 1) <;> rfl
  rw [hw]
  exact ways0 a cap cap2 b off _ _ _ w (World.block_lt_of_cell? _ _ c0) (World.block_lt_of_cell? _ _ c1) c0 c1 HSI hc2

/-- what lies beside the loop of ways -/
structure WEnv (W : World) (a b c x : Nat) (v u1 u2 u3 u4 : Value) (p S3 S4 : List Int) : Prop where
  ne : a ≠ x ∧ b ≠ x
  pv : W.cell? ⟨a, 0, none⟩ = some v
  q1 : W.cell? ⟨b, 0, none⟩ = some u1
  q2 : W.cell? ⟨b, 1, none⟩ = some u2
  q3 : W.cell? ⟨b, 2, none⟩ = some u3
  q4 : W.cell? ⟨b, 3, none⟩ = some u4
  rv : Rd W v (ints p)
  r3 : Rd W u3 (ints S3)
  r4 : Rd W u4 (ints S4)
  ov : Off (some x) v
  o3 : Off (some x) u3
  o4 : Off (some x) u4
theorem WEnv.kept {W W' : World} {a b c x : Nat} {v u1 u2 u3 u4 : Value} {p S3 S4 : List Int} (h : WEnv W a b c x v u1 u2 u3 u4 p S3 S4) (hg : W.grownBy W' (some x)) : WEnv W' a b c x v u1 u2 u3 u4 p S3 S4 := by
  have na : some a ≠ some x := fun e => h.ne.1 (Option.some.inj e)
  have nb : some b ≠ some x := fun e => h.ne.2 (Option.some.inj e)
  exact ⟨h.ne, hg.cell h.pv na, hg.cell h.q1 nb, hg.cell h.q2 nb, hg.cell h.q3 nb, hg.cell h.q4 nb, rd_off hg h.rv h.ov, rd_off hg h.r3 h.o3, rd_off hg h.r4 h.o4, h.ov, h.o3, h.o4⟩
theorem WEnv.below {W W' : World} {a b c x : Nat} {v u1 u2 u3 u4 : Value} {p S3 S4 : List Int} (h : WEnv W a b c x v u1 u2 u3 u4 p S3 S4) (hb : Below W.heap.size W W') : WEnv W' a b c x v u1 u2 u3 u4 p S3 S4 := h.kept (below_grown hb _)

theorem grown_toBelow {A B : World} {x n : Nat} (h : A.grownBy B (some x)) (hx : n ≤ x) (hn : n ≤ A.heap.size) : Below n A B := ⟨h.os, h.tape, h.output, h.size, fun i hi => h.block i (by omega) (by simp; omega)⟩
theorem out_perm {p : List Int} (hp : PermP p) {m : Nat} (hl : p.length = 2 * m) (way : Nat) : PermP (upL p (oF p m way) m) ∧ PermP (lowL p (oF p m way) m) := by
  have hP := permN_of hp hl
  have hc := out_cons hP (ties_ok hP m (Nat.le_refl _)) way
  exact ⟨up_perm hp hl hc, low_perm hp hl hc⟩
theorem oF_row {p : List Int} {m : Nat} (way : Nat) : upL p (fun j => (rowB m (outF (tiesL p m) way (tiesL p m).length).1).getD j false) m = upL p (oF p m way) m ∧ lowL p (fun j => (rowB m (outF (tiesL p m) way (tiesL p m).length).1).getD j false) m = lowL p (oF p m way) m :=
  ⟨upL_congr fun _ hj => rowB_get m _ hj, lowL_congr fun _ hj => rowB_get m _ hj⟩

set_option maxRecDepth 100000 in
set_option maxHeartbeats 4000000 in
theorem ways_succ (h : Nat) (hh : h ≤ 2) (IH : ∀ (p S : List Int) (v sv : Value) (w : World), PermP p → p.length = pw h → S.length = cnt h → Rd w v (ints p) → Rd w sv (ints S) →
      Calls Try.prog 55 #[v, sv] w fun e w' => e = .returned (.int .i64 (waysR h p fun i => S.getD i 0 : Nat)) ∧ Below w.heap.size w w')
    (p S : List Int) (v sv : Value) (w : World) (hp : PermP p) (hl : p.length = pw (h + 1)) (hS : S.length = cnt (h + 1)) (hv : Rd w v (ints p)) (hs : Rd w sv (ints S)) :
    Calls Try.prog 55 #[v, sv] w fun e w' => e = .returned (.int .i64 (waysR (h + 1) p fun i => S.getD i 0 : Nat)) ∧ Below w.heap.size w w' := by
  have hl2 : p.length = 2 * pw h := hl
  have hpw := pw_pos h
  have hpw2 := pw_le (h + 1) (by omega)
  have hcn := cnt_bd h (by omega)
  have hcc : cnt (h + 1) = pw (h + 1) + 2 * cnt h := rfl
  have hpp : pw (h + 1) = 2 * pw h := rfl
  have hm8 : pw h ≤ 8 := by omega
  have HIH := Lib.hid IH
  obtain ⟨st, hst⟩ : ∃ st : Nat → Int, (fun i => S.getD i 0) = st := ⟨_, rfl⟩
  have HST : Hid (∀ i, S.getD i 0 = st i) := Lib.hid fun i => congrFun hst i
  rw [hst]
  have HSUM := Lib.hid (ways_sum hp hl st)
  have HC := Lib.hid (waysR_le (h + 1) p st)
  have HC3 := Lib.hid (waysC_le (h := h + 1) (by omega))
  have HPP := Lib.hid hp
  have HLL := Lib.hid hl2
  have HV := Lib.hid hv
  have HSV := Lib.hid hs
  have HSL := Lib.hid hS
  obtain ⟨pa, pc, rfl, hc, hcm, ha, _⟩ := hv
  have HSP := Lib.hid (fun W (hr : Rd W sv (ints S)) => splitI_any h (2 * (pw h : Nat) : Int) sv (ints S) W hh (by rw [hpp]; omega) (by rw [ints_length]; exact hS) hr)
  obtain ⟨m, hm⟩ : ∃ m, pw h = m := ⟨_, rfl⟩
  rw [ints_length, hl2, hm] at hc HV ⊢
  have HM := Lib.hid hm
  rw [hm] at HSP HLL hpw hm8
  have hne : (2 * (m : Int) == 2) = false := by rw [beq_eq_false_iff_ne]; omega
  have hb1 : Below w.heap.size w (w.alloc (.cells #[.slice pa (2 * m) pc] 24)) := (Below.refl _ _).alloc (Nat.le_refl _) _
  have HB1 := Lib.hid hb1
  have HC1 := Lib.hid (show (w.alloc (.cells #[.slice pa (2 * m) pc] 24)).cell? ⟨w.heap.size, 0, none⟩ = some (.slice pa (2 * m) pc) from World.cell?_alloc_at _ _ _ _ rfl)
  clear hb1 IH hst hp hl hl2 hs hS ha hcc hcn hpp hm hpw2
  refine (callsIn_wide (n := 0)).1 ?_
  refine callsIn_of_wp_marks Try.func55 rfl trivial ?_ rfl
  simp only [Try.ntmps55, List.size_toArray, List.length_cons, List.length_nil, Nat.reduceAdd, Nat.reduceSub, Array.replicate_succ, Array.replicate_zero, List.push_toArray, List.append_toArray, List.nil_append, List.cons_append]
  have HOU := Lib.hid (fun (u1 u2 u3 u4 : Value) (l1 l2 : List Int) W hv r1 r2 => outers_any HPP.out (m := m) HLL.out hm8 (by omega) (.slice pa (2 * m) pc) u1 u2 u3 u4 l1 l2 W hv r1 r2)
  gi_wp2_with (first
    | (refine ⟨trivial, rfl, ?_⟩; gi_at_call 67; refine (callsIn_wide.2 (HSP.out _ (HSV.out.below HB1.out (Nat.le_refl _)))).mono ?_; rintro e w2 ⟨u1, u2, u3, u4, rfl, hP, hb2⟩
       obtain ⟨a1, q1, k1, rfl⟩ : ∃ a n c, u1 = .slice a n c := by obtain ⟨a, c, rfl, _⟩ := hP.first; exact ⟨_, _, _, rfl⟩
       obtain ⟨a2, q2, k2, rfl⟩ : ∃ a n c, u2 = .slice a n c := by obtain ⟨a, c, rfl, _⟩ := hP.last; exact ⟨_, _, _, rfl⟩
       obtain ⟨a3, q3, k3, rfl⟩ : ∃ a n c, u3 = .slice a n c := by obtain ⟨a, c, rfl, _⟩ := hP.upper; exact ⟨_, _, _, rfl⟩
       obtain ⟨a4, q4, k4, rfl⟩ : ∃ a n c, u4 = .slice a n c := by obtain ⟨a, c, rfl, _⟩ := hP.lower; exact ⟨_, _, _, rfl⟩
       have HPT := Lib.hid hP; have HB2 := Lib.hid hb2; have c2 := cell_below HC1.out hb2; have z2 := World.block_lt_of_cell? _ _ c2
       have g4 : Below w2.heap.size w2 ((w2.alloc (.cells #[.slice a1 q1 k1, .slice a2 q2 k2, .slice a3 q3 k3, .slice a4 q4 k4] 81)).alloc (.cells #[.int .i64 0] 3)) := ((Below.refl _ _).alloc (Nat.le_refl _) _).alloc (by simp) _
       have HG4 := Lib.hid g4
       have HQ4 := Lib.hid (show ((w2.alloc (.cells #[.slice a1 q1 k1, .slice a2 q2 k2, .slice a3 q3 k3, .slice a4 q4 k4] 81)).alloc (.cells #[.int .i64 0] 3)).cell? ⟨w2.heap.size, 0, none⟩ = some (.slice a1 q1 k1) ∧ ((w2.alloc (.cells #[.slice a1 q1 k1, .slice a2 q2 k2, .slice a3 q3 k3, .slice a4 q4 k4] 81)).alloc (.cells #[.int .i64 0] 3)).cell? ⟨w2.heap.size, 1, none⟩ = some (.slice a2 q2 k2)
         ∧ ((w2.alloc (.cells #[.slice a1 q1 k1, .slice a2 q2 k2, .slice a3 q3 k3, .slice a4 q4 k4] 81)).alloc (.cells #[.int .i64 0] 3)).cell? ⟨w2.heap.size, 2, none⟩ = some (.slice a3 q3 k3) ∧ ((w2.alloc (.cells #[.slice a1 q1 k1, .slice a2 q2 k2, .slice a3 q3 k3, .slice a4 q4 k4] 81)).alloc (.cells #[.int .i64 0] 3)).cell? ⟨w2.heap.size, 3, none⟩ = some (.slice a4 q4 k4) from
         ⟨cell_alloc (World.cell?_alloc_at _ _ _ _ rfl) _, cell_alloc (World.cell?_alloc_at _ _ _ _ rfl) _, cell_alloc (World.cell?_alloc_at _ _ _ _ rfl) _, cell_alloc (World.cell?_alloc_at _ _ _ _ rfl) _⟩)
       have HBX : Hid (Boxed ((w2.alloc (.cells #[.slice a1 q1 k1, .slice a2 q2 k2, .slice a3 q3 k3, .slice a4 q4 k4] 81)).alloc (.cells #[.int .i64 0] 3)) (w2.heap.size + 1) 3 (.int .i64 0)) := Lib.hid (by have := Boxed.new (w2.alloc (.cells #[.slice a1 q1 k1, .slice a2 q2 k2, .slice a3 q3 k3, .slice a4 q4 k4] 81)) 3 (.int .i64 0); rwa [World.size_alloc] at this)
       clear hP hb2 g4)
    | (refine ⟨trivial, rfl, ?_⟩; gi_at_call 68; refine (callsIn_wide.2 (HOU.out _ _ _ _ (S.take (pw h)) ((S.drop (pw h)).take (pw h)) _ (HV.out.below (HB1.out.trans ((HB2.out.trans (HG4.out.mono HB2.out.size)).mono HB1.out.size)) (Nat.le_refl _)) (by have := HPT.out.first; rw [ints_part0] at this; exact this.below HG4.out (Nat.le_refl _)) (by have := HPT.out.last; rw [ints_part] at this; exact this.below HG4.out (Nat.le_refl _)))).mono ?_; rintro e w5 ⟨⟨Bl, Bm, Bp, ub, uc, pa', pc', bs, rfl, hE⟩, hb5⟩; have HE := Lib.hid hE; have HB5 := Lib.hid hb5; clear hE hb5))
  have HP2 := HPT.out
  have hcn := cnt_bd h (by omega)
  have hsl := HSL.out
  have hcc : cnt (h + 1) = pw (h + 1) + 2 * cnt h := rfl
  have hpp : pw (h + 1) = 2 * pw h := rfl
  have hmm := HM.out
  have r1 : Rd w2 (.slice a1 q1 k1) (ints (S.take (pw h))) := by have := HP2.first; rwa [ints_part0] at this
  have r2 : Rd w2 (.slice a2 q2 k2) (ints ((S.drop (pw h)).take (pw h))) := by have := HP2.last; rwa [ints_part] at this
  have r3 : Rd w2 (.slice a3 q3 k3) (ints ((S.drop (pw (h + 1))).take (cnt h))) := by have := HP2.upper; rwa [ints_part] at this
  have r4 : Rd w2 (.slice a4 q4 k4) (ints ((S.drop (pw (h + 1) + cnt h)).take (cnt h))) := by have := HP2.lower; rwa [ints_part] at this
  have rv : Rd w2 (.slice pa (2 * m) pc) (ints p) := HV.out.below (HB1.out.trans (HB2.out.mono HB1.out.size)) (Nat.le_refl _)
  have d5 : Below w2.heap.size w2 w5 := HG4.out.trans (HB5.out.mono HG4.out.size)
  have HEW : Hid (WEnv w5 w.heap.size w2.heap.size 0 (w2.heap.size + 1) (.slice pa (2 * m) pc) (.slice a1 q1 k1) (.slice a2 q2 k2) (.slice a3 q3 k3) (.slice a4 q4 k4) p ((S.drop (pw (h + 1))).take (cnt h)) ((S.drop (pw (h + 1) + cnt h)).take (cnt h))) := Lib.hid
    ⟨by omega, cell_below c2 d5, cell_below HQ4.out.1 HB5.out, cell_below HQ4.out.2.1 HB5.out, cell_below HQ4.out.2.2.1 HB5.out, cell_below HQ4.out.2.2.2 HB5.out, rv.below d5 (Nat.le_refl _), r3.below d5 (Nat.le_refl _), r4.below d5 (Nat.le_refl _),
      off_new rv (by rw [ints_length, HLL.out]; omega) (by omega), off_new r3 (by rw [ints_length]; simp; omega) (by omega), off_new r4 (by rw [ints_length]; simp; omega) (by omega)⟩
  have z4 : ((w2.alloc (.cells #[.slice a1 q1 k1, .slice a2 q2 k2, .slice a3 q3 k3, .slice a4 q4 k4] 81)).alloc (.cells #[.int .i64 0] 3)).heap.size = w2.heap.size + 2 := by simp
  have z5 := HB5.out.size
  have HSEQ := Lib.hid (outers1_seq HPP.out HLL.out hm8 (by omega) st (some (w2.heap.size + 1)) (fun _ => false) w5 HE.out (by rintro x e; cases e; omega) (off_new r1 (by rw [ints_length]; simp; omega) (by omega)) (off_new r2 (by rw [ints_length]; simp; omega) (by omega)) (by simp; omega) (by simp; omega)
    (fun j hj => by rw [seg_getD0 _ _ (by omega)]; exact HST.out j) (fun j hj => by rw [seg_getD _ _ _ (by omega), hmm]; exact HST.out _))
  have HBX5 := Lib.hid (HBX.out.kept (below_grown HB5.out none) (by simp))
  have hz5 : w2.heap.size + 1 < w5.heap.size := by omega
  have HD5 := Lib.hid d5
  have HST3 : Hid (∀ i, i < cnt h → ((S.drop (pw (h + 1))).take (cnt h)).getD i 0 = st (pw (h + 1) + i)) := Lib.hid fun i hi => by rw [seg_getD _ _ _ hi]; exact HST.out _
  have HST4 : Hid (∀ i, i < cnt h → ((S.drop (pw (h + 1) + cnt h)).take (cnt h)).getD i 0 = st (pw (h + 1) + cnt h + i)) := Lib.hid fun i hi => by rw [seg_getD _ _ _ hi]; exact HST.out _
  have HL3 : Hid (((S.drop (pw (h + 1))).take (cnt h)).length = cnt h) := Lib.hid (by simp; omega)
  have HL4 : Hid (((S.drop (pw (h + 1) + cnt h)).take (cnt h)).length = cnt h) := Lib.hid (by simp; omega)
  clear HP2 r1 r2 r3 r4 rv d5 hcn hsl hcc hpp hmm z4 z5 HPT HQ4 HBX HE HSV c2
  refine rangeX (X := some (w2.heap.size + 1)) (stop := fun _ => false) (T := outL p m st) (Rx := RxO p m st) (gf := 79) (lb := #[.pointer (some ⟨Bl, 0, none⟩), .pointer (some ⟨Bm, 0, none⟩), .pointer (some ⟨Bp, 0, none⟩)]) rfl (enters_of Try.func79 (by kernel_rfl) rfl)
    HSEQ.out (by rintro k e; cases e; exact hz5) rfl (fun v b => rxO_own p m st _ v b)
    (fun pre W => Boxed W (w2.heap.size + 1) 3 (.int .i64 ((pre.map fun way => (wayF h p st way).1 * (wayF h p st way).2).sum : Nat)) ∧ w5.grownBy W (some (w2.heap.size + 1))) (fun _ _ => False)
    (OwnFrom.and (Own.from (boxed_own _ _ _) _) (fun _ _ _ _ k hg hr => grown_above k hg (fun r e => (hr r e).1))) (fun _ _ _ _ k _ _ => k) ⟨HBX5.out, World.grownBy.refl _ _⟩
    (fun v a' W => ∃ B9 f g, w5.heap.size ≤ B9 ∧ v = .agg #[f, g] ∧ W.cell? ⟨B9, 0, none⟩ = some f ∧ W.cell? ⟨B9, 1, none⟩ = some g ∧ a' = { tmps := #[.slice pa (2 * m) pc, sv, .pointer (some ⟨w.heap.size, 0, none⟩), undef, .int .i64 0, undef, undef, .pointer (some ⟨w2.heap.size, 0, none⟩), .pointer (some ⟨w2.heap.size + 1, 0, none⟩), .pointer (some ⟨B9, 0, none⟩), undef, undef, undef, .slice pa (2 * m) pc, .int .i64 (2 * (m : Int)), .bool false, undef, undef, undef, undef, undef, undef, undef, undef, undef, undef, .slice pa (2 * m) pc, .int .i64 (2 * (m : Int)), sv, .agg #[.slice a1 q1 k1, .slice a2 q2 k2, .slice a3 q3 k3, .slice a4 q4 k4], .slice pa (2 * m) pc, .agg #[.slice a1 q1 k1, .slice a2 q2 k2, .slice a3 q3 k3, .slice a4 q4 k4], .func (.func 79) #[] #[.pointer (some ⟨Bl, 0, none⟩), .pointer (some ⟨Bm, 0, none⟩), .pointer (some ⟨Bp, 0, none⟩)], v, undef, undef, undef, undef, undef, undef, undef, undef, undef, undef, undef, undef, undef, undef, undef, undef, undef, undef, undef, undef, undef], defers := [] })
    (fun v a' _ A C row ⟨B9, f, g, e1, e2, e3, e4, e5⟩ hg hr => ⟨B9, f, g, e1, e2, cell_kept e3 hg (fun r e => (hr r e).2), cell_kept e4 hg (fun r e => (hr r e).2), e5⟩)
    ?assign ?body ?done ?stop
  case assign =>
    rintro l v b W K hge ⟨f, g, rfl, hf, hg, _⟩ hK
    obtain ⟨fa, fc, rfl, _⟩ := hf
    obtain ⟨ga, gc, rfl, _⟩ := hg
    gi_wp2
    exact hK _ _ ((Below.refl _ _).alloc (Nat.le_refl _) _) ⟨W.heap.size, _, _, hge, rfl, World.cell?_alloc_at _ _ _ _ rfl, World.cell?_alloc_at _ _ _ _ rfl, rfl⟩
  case body =>
    rintro l pre v way a' W hl ⟨r, hr⟩ ⟨hbx, hgr⟩ ⟨f, g, rfl, hf, hg, hway, hok⟩ ⟨B9, f', g', h9, e9, g0, g1, rfl⟩ ⟨post, hpo⟩
    obtain ⟨rfl, rfl⟩ : f = f' ∧ g = g' := by simpa using e9
    have HE := Lib.hid (HEW.out.kept hgr)
    have hup := (oF_row (p := p) (m := m) way)
    have HIN := Lib.hid (inner_any HPP.out HLL.out hm8 f g (.slice pa (2 * m) pc) (rowB m (outF (tiesL p m) way (tiesL p m).length).1) W hf (rowB_len _ _) HE.out.rv)
    rw [hup.1, hup.2] at HIN
    have hop := out_perm HPP.out HLL.out way
    have HI1 : Hid (∀ (W : World) (x : Value), Rd W x (ints (upL p (oF p m way) m)) → Rd W (.slice a3 q3 k3) (ints ((S.drop (pw (h + 1))).take (cnt h))) → Calls Try.prog 55 #[x, .slice a3 q3 k3] W fun e w' => e = .returned (.int .i64 ((wayF h p st way).1 : Nat)) ∧ Below W.heap.size W w') := Lib.hid fun W x h1 h2 => by
      have hq := waysR_congr h _ _ _ hop.1 (by rw [upL_len, HM.out]) HST3.out
      have := HIH.out _ _ _ _ W hop.1 (by rw [upL_len, HM.out]) HL3.out h1 h2
      rw [hq] at this
      unfold wayF
      rw [HM.out]
      exact this
    have HI2a : Hid (∀ (W : World) (x : Value), Rd W x (ints (lowL p (oF p m way) m)) → Rd W (.slice a4 q4 k4) (ints ((S.drop (pw (h + 1) + cnt h)).take (cnt h))) → Calls Try.prog 55 #[x, .slice a4 q4 k4] W fun e w' => e = .returned (.int .i64 ((wayF h p st way).2 : Nat)) ∧ Below W.heap.size W w') := Lib.hid fun W x h1 h2 => by
      have hq := waysR_congr h _ _ _ hop.2 (by rw [lowL_len, HM.out]) HST4.out
      have := HIH.out _ _ _ _ W hop.2 (by rw [lowL_len, HM.out]) HL4.out h1 h2
      rw [hq] at this
      unfold wayF
      rw [HM.out]
      exact this
    have htot : ((pre.map fun way => (wayF h p st way).1 * (wayF h p st way).2).sum) + (wayF h p st way).1 * (wayF h p st way).2 ≤ 16777216 := by
      have h1 := HSUM.out
      rw [HM.out, hpo] at h1
      have h2 := HC.out
      have h3 := HC3.out
      rw [← h1] at h2
      simp only [List.map_append, List.map_cons, List.sum_append, List.sum_cons] at h2
      omega
    have HSN : Hid (((pre ++ [way]).map fun way => (wayF h p st way).1 * (wayF h p st way).2).sum = ((pre.map fun way => (wayF h p st way).1 * (wayF h p st way).2).sum) + (wayF h p st way).1 * (wayF h p st way).2) := Lib.hid (by simp)
    obtain ⟨A, hA⟩ : ∃ A, (wayF h p st way).1 = A := ⟨_, rfl⟩
    obtain ⟨B, hB⟩ : ∃ B, (wayF h p st way).2 = B := ⟨_, rfl⟩
    rw [hA] at HI1 HSN htot
    rw [hB] at HI2a HSN htot
    obtain ⟨s, hs⟩ : ∃ s, (pre.map fun way => (wayF h p st way).1 * (wayF h p st way).2).sum = s := ⟨_, rfl⟩
    rw [hs] at hbx HSN htot
    obtain ⟨ab, hab⟩ : ∃ ab, A * B = ab := ⟨_, rfl⟩
    rw [hab] at HSN htot
    have hw1 : IntKind.i64.wrap ((A : Int) * (B : Int)) = (ab : Int) := by
      rw [show (A : Int) * (B : Int) = (ab : Int) by rw [← hab]; push_cast; rfl]
      exact IntWalk.i64_in _ (by omega)
    have HAB := Lib.hid hab
    obtain ⟨s', hs'⟩ : ∃ s', s + ab = s' := ⟨_, rfl⟩
    have hw2 : IntKind.i64.wrap ((s : Int) + (ab : Int)) = (s' : Int) := by
      rw [show (s : Int) + (ab : Int) = (s' : Int) by rw [← hs']; push_cast; rfl]
      exact IntWalk.i64_in _ (by omega)
    rw [hs'] at HSN
    have HSS := Lib.hid hs'
    have HBX := Lib.hid hbx
    have HGR := Lib.hid hgr
    have HLT := Lib.hid hgr.size
    have c2 := HE.out.pv
    have z2 := World.block_lt_of_cell? _ _ c2
    have z9 := World.block_lt_of_cell? _ _ g0
    have HWW := Lib.hid (fun W' (hb : Below W.heap.size W W') => HE.out.below hb)
    clear hA hB hs hab hs' htot hop hup hf hg hok hway hpo hbx hgr hr e9
    gi_wp2_with (first
      | (refine ⟨trivial, rfl, ?_⟩; gi_at_call 69; refine (CallsIn.inRound l (callsIn_wide.2 HIN.out)).mono ?_; rintro e w6 ⟨⟨x, y, rfl, hx, hy⟩, hb6⟩
         have HE6 := Lib.hid (HWW.out _ hb6); have q3' := HE6.out.q3; have l3 := World.block_lt_of_cell? _ _ q3'; have HX6 := Lib.hid (Rd.own hx); have HY6 := Lib.hid (Rd.own hy); have HBX6 := Lib.hid (HBX.out.kept (below_grown hb6 none) (by simp)); have HB6 := Lib.hid hb6
         obtain ⟨ax, cx, rfl⟩ := own_form hx; obtain ⟨ay, cy, rfl⟩ := own_form hy
         clear hx hy hb6)
      | (refine ⟨trivial, rfl, ?_⟩; gi_at_call 55; refine (CallsIn.inRound l (callsIn_wide.2 (HI1.out _ _ HX6.out HE6.out.r3))).mono ?_; rintro e w7 ⟨rfl, hb7⟩
         have HB7 := Lib.hid (HB6.out.trans (hb7.mono HB6.out.size)); have HE7 := Lib.hid (HE6.out.below hb7); have HY7 := Lib.hid (HY6.out.below hb7 (Nat.le_refl _)); have HBX7 := Lib.hid (HBX6.out.kept (below_grown hb7 none) (by simp)); clear hb7))
    · have HI2 : Hid (∀ W', Hid (Below w7.heap.size w7 W') → Calls Try.prog 55 #[.slice ay m cy, .slice a4 q4 k4] W' fun e w' => e = .returned (.int .i64 (B : Nat)) ∧ Below W'.heap.size W' w') := Lib.hid fun W' hb => HI2a.out W' _ (HY7.out.below hb.out (Nat.le_refl _)) (HE7.out.below hb.out).r4
      have HFIN : Hid (∀ w8, Below w7.drew.heap.size w7.drew w8 → false = false ∧ W.grownBy (w8.setCell ⟨w2.heap.size + 1, 0, none⟩ (.int .i64 (s' : Int))) (some (w2.heap.size + 1)) ∧ (Boxed (w8.setCell ⟨w2.heap.size + 1, 0, none⟩ (.int .i64 (s' : Int))) (w2.heap.size + 1) 3 (.int .i64 (((pre ++ [way]).map fun way => (wayF h p st way).1 * (wayF h p st way).2).sum : Nat)) ∧ w5.grownBy (w8.setCell ⟨w2.heap.size + 1, 0, none⟩ (.int .i64 (s' : Int))) (some (w2.heap.size + 1)))) := Lib.hid fun w8 hb => by
        have hb8 : Below w7.heap.size w7 w8 := (Below.refl _ _).drew.trans hb
        have hB8 := HB7.out.trans (hb8.mono HB7.out.size)
        have hg8 : W.grownBy (w8.setCell ⟨w2.heap.size + 1, 0, none⟩ (.int .i64 (s' : Int))) (some (w2.heap.size + 1)) := grown_trans (below_grown hB8 _) (grownBy_setCell' _ _ _)
        refine ⟨rfl, hg8, ?_, grown_trans HGR.out hg8⟩
        rw [HSN.out]
        exact (HBX7.out.kept (below_grown hb8 none) (by simp)).set _
      have e7 := HBX7.out.cell
      have q4' := HE7.out.q4
      have l4 := World.block_lt_of_cell? _ _ q4'
      have l7 := HBX7.out.lt
      clear c2 z2 z9
      refine region_round (by kernel_rfl) (by kernel_rfl) (fun ⟨_, _, h⟩ => h) ?_
      change wpAny _ _ _ _ _ _ _ (World.drew _)
      refine wpAny_take (i := 1) (v := ?_) rfl (by kernel_rfl) (by kernel_rfl) (by kernel_rfl) (fun _ _ _ h => h) (Or.inl ⟨by rfl, by intro w; go_simp; try with_reducible rfl⟩) ?_
      refine wpAny_take (i := 2) (v := ?_) rfl (by kernel_rfl) (by kernel_rfl) (by kernel_rfl) (fun _ _ _ h => h) (Or.inl ⟨by rfl, by intro w; go_simp; try with_reducible rfl⟩) ?_
      refine wpAny_take (i := 3) (v := ?_) rfl (by kernel_rfl) (by kernel_rfl) (by kernel_rfl) (fun _ _ _ h => h) (Or.inl ⟨by rfl, by intro w; go_simp; try with_reducible rfl⟩) ?_
      refine wpAny_ready (rs := [0, 4]) (by kernel_rfl) (by simp) ?_
      refine AllReady.cons rfl (fun K hK => ?_) ?_
      · go_simp
        refine hK _ _ ?_
        clear hK K
        refine wpAny_ready (rs := [4]) (by kernel_rfl) (by simp) ?_
        refine AllReady.cons rfl (fun K hK => ?_) ?_
        · go_simp
          refine hK _ _ ?_
          clear hK K
          refine wpAny_ready (rs := [5]) (by kernel_rfl) (by simp) ?_
          refine AllReady.cons rfl (fun K hK => ?_) ?_
          · (go_simp; go_at_call 55; refine (HI2.out _ (Lib.hid (Below.refl _ _).drew)).mono ?_; rintro e w8 ⟨rfl, hb8⟩; have HF8 := HFIN.out w8 hb8; have e3 : w8.cell? ⟨w2.heap.size + 1, 0, none⟩ = some (.int .i64 (s : Int)) := cell_below HBX7.out.cell ((Below.refl _ _).drew.trans hb8); have f3 : w8.frozen? ⟨w2.heap.size + 1, 0, none⟩ = false := (Boxed.kept HBX7.out (below_grown ((Below.refl _ _).drew.trans hb8) none) (by simp)).frozen; have l8 := World.block_lt_of_cell? _ _ e3)
            refine hK _ _ ?_
            clear hK K
            refine wpAny_take (i := 6) (v := ?_) rfl (by kernel_rfl) (by kernel_rfl) (by kernel_rfl) (fun _ _ _ h => h) (Or.inl ⟨by rfl, by intro w; go_simp; try with_reducible rfl⟩) ?_
            refine wpAny_take (i := 7) (v := ?_) rfl (by kernel_rfl) (by kernel_rfl) (by kernel_rfl) (fun _ _ _ h => h) (Or.inl ⟨by rfl, by intro w; go_simp; try with_reducible rfl⟩) ?_
            refine wpAny_ready (rs := [8]) (by kernel_rfl) (by simp) ?_
            refine AllReady.cons rfl (fun K hK => ?_) ?_
            · go_simp
              refine hK _ _ ?_
              clear hK K
              refine wpAny_done (by kernel_rfl) ?_ _
              exact HF8
            exact AllReady.nil
          exact AllReady.nil
        exact AllReady.nil
      refine AllReady.cons rfl (fun K hK => ?_) ?_
      · go_simp
        refine hK _ _ ?_
        clear hK K
        refine wpAny_ready (rs := [0, 5]) (by kernel_rfl) (by simp) ?_
        refine AllReady.cons rfl (fun K hK => ?_) ?_
        · go_simp
          refine hK _ _ ?_
          clear hK K
          refine wpAny_ready (rs := [5]) (by kernel_rfl) (by simp) ?_
          refine AllReady.cons rfl (fun K hK => ?_) ?_
          · (go_simp; go_at_call 55; refine (HI2.out _ (Lib.hid (Below.refl _ _).drew)).mono ?_; rintro e w8 ⟨rfl, hb8⟩; have HF8 := HFIN.out w8 hb8; have e3 : w8.cell? ⟨w2.heap.size + 1, 0, none⟩ = some (.int .i64 (s : Int)) := cell_below HBX7.out.cell ((Below.refl _ _).drew.trans hb8); have f3 : w8.frozen? ⟨w2.heap.size + 1, 0, none⟩ = false := (Boxed.kept HBX7.out (below_grown ((Below.refl _ _).drew.trans hb8) none) (by simp)).frozen; have l8 := World.block_lt_of_cell? _ _ e3)
            refine hK _ _ ?_
            clear hK K
            refine wpAny_take (i := 6) (v := ?_) rfl (by kernel_rfl) (by kernel_rfl) (by kernel_rfl) (fun _ _ _ h => h) (Or.inl ⟨by rfl, by intro w; go_simp; try with_reducible rfl⟩) ?_
            refine wpAny_take (i := 7) (v := ?_) rfl (by kernel_rfl) (by kernel_rfl) (by kernel_rfl) (fun _ _ _ h => h) (Or.inl ⟨by rfl, by intro w; go_simp; try with_reducible rfl⟩) ?_
            refine wpAny_ready (rs := [8]) (by kernel_rfl) (by simp) ?_
            refine AllReady.cons rfl (fun K hK => ?_) ?_
            · go_simp
              refine hK _ _ ?_
              clear hK K
              refine wpAny_done (by kernel_rfl) ?_ _
              exact HF8
            exact AllReady.nil
          exact AllReady.nil
        refine AllReady.cons rfl (fun K hK => ?_) ?_
        · (go_simp; go_at_call 55; refine (HI2.out _ (Lib.hid (Below.refl _ _).drew)).mono ?_; rintro e w8 ⟨rfl, hb8⟩; have HF8 := HFIN.out w8 hb8; have e3 : w8.cell? ⟨w2.heap.size + 1, 0, none⟩ = some (.int .i64 (s : Int)) := cell_below HBX7.out.cell ((Below.refl _ _).drew.trans hb8); have f3 : w8.frozen? ⟨w2.heap.size + 1, 0, none⟩ = false := (Boxed.kept HBX7.out (below_grown ((Below.refl _ _).drew.trans hb8) none) (by simp)).frozen; have l8 := World.block_lt_of_cell? _ _ e3)
          refine hK _ _ ?_
          clear hK K
          refine wpAny_take (i := 6) (v := ?_) rfl (by kernel_rfl) (by kernel_rfl) (by kernel_rfl) (fun _ _ _ h => h) (Or.inl ⟨by rfl, by intro w; go_simp; try with_reducible rfl⟩) ?_
          refine wpAny_ready (rs := [0]) (by kernel_rfl) (by simp) ?_
          refine AllReady.cons rfl (fun K hK => ?_) ?_
          · go_simp
            refine hK _ _ ?_
            clear hK K
            refine wpAny_take (i := 7) (v := ?_) rfl (by kernel_rfl) (by kernel_rfl) (by kernel_rfl) (fun _ _ _ h => h) (Or.inl ⟨by rfl, by intro w; go_simp; try with_reducible rfl⟩) ?_
            refine wpAny_ready (rs := [8]) (by kernel_rfl) (by simp) ?_
            refine AllReady.cons rfl (fun K hK => ?_) ?_
            · go_simp
              refine hK _ _ ?_
              clear hK K
              refine wpAny_done (by kernel_rfl) ?_ _
              exact HF8
            exact AllReady.nil
          exact AllReady.nil
        exact AllReady.nil
      exact AllReady.nil
    · have hA0 : A = 0 := by omega
      have hab0 : ab = 0 := by rw [← HAB.out, hA0, Nat.zero_mul]
      have hsn : s' = s := by rw [← HSS.out, hab0, Nat.add_zero]
      refine ⟨rfl, below_grown HB7.out _, ?_, grown_trans HGR.out (below_grown HB7.out _)⟩
      rw [HSN.out, hsn]
      exact HBX7.out
  case done =>
    rintro D W hD _ ⟨hbx, hgr⟩ hK
    rw [HM.out] at HSUM
    rw [HSUM.out] at hbx
    have c5 := hbx.cell
    have hw5 : w.heap.size ≤ w5.heap.size := Nat.le_trans HB1.out.size (Nat.le_trans HB2.out.size HD5.out.size)
    have hw2 : w.heap.size ≤ w2.heap.size := Nat.le_trans HB1.out.size HB2.out.size
    have hbf : Below w.heap.size w (W.putObj D (.deferred none)) :=
      (((HB1.out.trans (HB2.out.mono HB1.out.size)).trans (HD5.out.mono hw2)).trans (grown_toBelow hgr (by omega) hw5)).trans (belowK_b (w := w5) hw5 W D _ (.deferred none) hD hK rfl rfl)
    clear hw5 hw2
    gi_wp2
    refine ⟨by simp, .inl ⟨_, _, rfl, run_takeDeferred hK, ?_⟩⟩
    exact ⟨.int .i64 (waysR (h + 1) p st : Nat), by simp [results, Try.results55, go_sem], rfl, hbf⟩
  case stop =>
    rintro D pre b post W _ _ _ e
    cases e
theorem ways_any : ∀ (h : Nat), h ≤ 3 → ∀ (p S : List Int) (v sv : Value) (w : World), PermP p → p.length = pw h → S.length = cnt h → Rd w v (ints p) → Rd w sv (ints S) →
      Calls Try.prog 55 #[v, sv] w fun e w' => e = .returned (.int .i64 (waysR h p fun i => S.getD i 0 : Nat)) ∧ Below w.heap.size w w'
  | 0, _, p, S, v, sv, w, _, hl, hS, hv, hs => ways_zero p S v sv w hl hS hv hs
  | h + 1, hh, p, S, v, sv, w, hp, hl, hS, hv, hs => ways_succ h (by omega) (ways_any h (by omega)) p S v sv w hp hl hS hv hs
end Go.Proofs.Ytelnlmhelkcliaa
