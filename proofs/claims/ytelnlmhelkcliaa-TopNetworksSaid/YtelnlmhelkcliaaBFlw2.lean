/- Benes: follow, walked. -/
import Derived.Test.YtelnlmhelkcliaaBFlw
namespace Go.Proofs.Ytelnlmhelkcliaa
open Go.RowKit

theorem half_bits (o q : Nat) (t : Bool) (ho : o < 16) (hq : q < 16) :
    bits .and .i64 (o : Int) 1 = bI (oddB o) ∧ bits .xor .i64 (bI (oddB o)) (bI t) = bI (oddB o ^^ t) ∧ (bI (oddB o ^^ t) == 1) = (oddB o ^^ t) ∧ bits .xor .i64 (o : Int) 1 = (flip1 o : Int) ∧
      bits .and .i64 (q : Int) 1 = bI (oddB q) ∧ (bI (oddB q) == bI t) = (oddB q == t) ∧ IntKind.i64.wrap ((o : Int).tdiv 2) = ((o / 2 : Nat) : Int) ∧ IntKind.i64.wrap ((q : Int).tdiv 2) = ((q / 2 : Nat) : Int) := by
  have h1 : ∀ i : Fin 16, bits .and .i64 ((i.val : Nat) : Int) 1 = bI (oddB i.val) := by decide +kernel
  have h2 : ∀ a b : Bool, bits .xor .i64 (bI a) (bI b) = bI (a ^^ b) := by decide +kernel
  have h3 : ∀ a : Bool, (bI a == 1) = a := by decide
  have h4 : ∀ i : Fin 16, bits .xor .i64 ((i.val : Nat) : Int) 1 = (flip1 i.val : Int) := by decide +kernel
  have h5 : ∀ a b : Bool, (bI a == bI b) = (a == b) := by decide
  exact ⟨h1 ⟨o, ho⟩, h2 _ _, h3 _, h4 ⟨o, ho⟩, h1 ⟨q, hq⟩, h5 _ _, by rw [IntWalk.i64_quo _ _ (by omega)]; omega, by rw [IntWalk.i64_quo _ _ (by omega)]; omega⟩
theorem in_bits (j : Nat) (t : Bool) (hj : j < 8) : bits .and .i64 (2 * (j : Int)) 1 = 0 ∧ bits .and .i64 (2 * (j : Int) + 1) 1 = 1 ∧ bits .xor .i64 0 (bI t) = bI t ∧ bits .xor .i64 1 (bI t) = bI (!t) := by
  have h1 : ∀ i : Fin 8, bits .and .i64 (2 * ((i.val : Nat) : Int)) 1 = 0 ∧ bits .and .i64 (2 * ((i.val : Nat) : Int) + 1) 1 = 1 := by decide +kernel
  have h2 : ∀ t : Bool, bits .xor .i64 0 (bI t) = bI t ∧ bits .xor .i64 1 (bI t) = bI (!t) := by decide +kernel
  exact ⟨(h1 ⟨j, hj⟩).1, (h1 ⟨j, hj⟩).2, (h2 t).1, (h2 t).2⟩
theorem two_at (x y : Int) (W : World) : (Instr.index 110 (.agg #[.int .i64 x, .int .i64 y]) (.int .i64 0)).run Try.prog W = .ok (.int .i64 x) W ∧ (Instr.index 110 (.agg #[.int .i64 x, .int .i64 y]) (.int .i64 1)).run Try.prog W = .ok (.int .i64 y) W := by
  obtain ⟨i, hi, _, hs, _⟩ := el_int.info
  have hu := Try.underlying3
  have hc : Try.prog.cellsOf 3 = 1 := by kernel_rfl
  constructor
  · simp [Instr.index, run_underlying Try.underlying110, asIntOf, go_sem, run_sizeOf W hi, part, isAgg, run_underlying hu]
  · simp [Instr.index, run_underlying Try.underlying110, asIntOf, go_sem, run_sizeOf W hi, part, isAgg, run_underlying hu, hc]
/-- both tables in memory, all else as it was -/
structure StF (m b1 b2 : Nat) (w wr : World) (s : FL) : Prop where
  kp : Kp2 b1 b2 w wr
  m1 : MB wr b1 m s.1
  m2 : MB wr b2 m s.2
def followN : Ending := .returned (.tuple #[])

set_option maxRecDepth 100000 in
set_option maxHeartbeats 1000000 in
theorem follow_any {p : List Int} (hp : PermP p) {m : Nat} (hl : p.length = 2 * m) (hm : m ≤ 8) (v : Value) : ∀ (f : Nat) (s : FL) (j : Nat) (set : Bool) (w : World) (b1 b2 : Nat), b1 ≠ b2 → MB w b1 m s.1 → MB w b2 m s.2 → Rd w v (ints p) → j < m → freeN s.1 m < f →
    Calls Try.prog 86 #[.agg #[.map (some b1), .map (some b2)], v, .int .i64 (j : Int), .bool set] w fun e w' => e = .returned (.tuple #[]) ∧ StF m b1 b2 w w' (followP (piL p) (rhoL p) f s j set)
  | 0, s, j, set, w, b1, b2, _, _, _, _, _, h => by omega
  | f + 1, s, j, set, w, b1, b2, hne, h1, h2, hv, hj, hf => by
    obtain ⟨F, L⟩ := s
    dsimp only at h1 h2 hf
    have HP := Lib.hid (permN_of hp hl)
    obtain ⟨a, cap, hva, hc, hcm, ha, hno⟩ := hv
    have HV := Lib.hid (show ∀ W, CellsAt W a (ints p) → Rd W v (ints p) from fun W hW => ⟨a, cap, hva, hc, hcm, hW, hno⟩)
    have hbw : Below w.heap.size w (w.alloc (.cells #[.map (some b1), .map (some b2)] 101)) := (Below.refl _ _).alloc (Nat.le_refl _) _
    have HC1 := Lib.hid (h1.below hbw)
    have HC2 := Lib.hid (h2.below hbw)
    have hlt1 := h1.lt
    have hlt2 := h2.lt
    have HA := Lib.hid (ha.below hbw (Nat.le_refl _))
    have HBW := Lib.hid hbw
    have t0 : (w.alloc (.cells #[.map (some b1), .map (some b2)] 101)).cell? ⟨w.heap.size, 0, none⟩ = some (.map (some b1)) := World.cell?_alloc_at _ _ _ _ rfl
    have t1 : (w.alloc (.cells #[.map (some b1), .map (some b2)] 101)).cell? ⟨w.heap.size, 1, none⟩ = some (.map (some b2)) := World.cell?_alloc_at _ _ _ _ rfl
    clear hbw h1 h2 ha
    rw [ints_length] at hc hva
    rw [hl] at hc hva
    subst hva
    cases hFj : F j with
    | some b0 =>
      have HFP : Hid (followP (piL p) (rhoL p) (f + 1) (F, L) j set = (F, L)) := Lib.hid (by unfold followP; rw [if_pos (by dsimp only; rw [hFj]; rfl)])
      have hgd : (F j).isSome = true := by rw [hFj]; rfl
      clear hFj HA HV HP hl hno
      go_enter Try.func86, Try.ntmps86
      go_wp2_with (at_lookup; refine wp_mb_ok _ rfl _ _ rfl b1 m F j rfl HC1.out (by omega) rfl ?_; rw [hgd])
      refine bodyPost_ret (results_none rfl _ _ _) rfl ?_
      exact ⟨rfl, by rw [HFP.out]; exact ⟨Kp2.of_below HBW.out, HC1.out, HC2.out⟩⟩
    | none =>
      have HI := Lib.hid (follow_any hp hl hm (.slice a (2 * m) cap) f)
      have hk0 : 2 * j < 2 * m := by omega
      have hk1 : 2 * j + 1 < 2 * m := by omega
      -- the values on the way
      obtain ⟨o0, ho0⟩ : ∃ o, piL p (2 * j) = o := ⟨_, rfl⟩
      obtain ⟨o1, ho1⟩ : ∃ o, piL p (2 * j + 1) = o := ⟨_, rfl⟩
      obtain ⟨q0, hq0⟩ : ∃ q, mate (piL p) (rhoL p) (2 * j) = q := ⟨_, rfl⟩
      obtain ⟨q1, hq1⟩ : ∃ q, mate (piL p) (rhoL p) (2 * j + 1) = q := ⟨_, rfl⟩
      have lo0 : o0 < 2 * m := ho0 ▸ HP.out.lt _ hk0
      have lo1 : o1 < 2 * m := ho1 ▸ HP.out.lt _ hk1
      have lq0 : q0 < 2 * m := hq0 ▸ HP.out.mate_lt hk0
      have lq1 : q1 < 2 * m := hq1 ▸ HP.out.mate_lt hk1
      obtain ⟨s1, hs1⟩ : ∃ s1, followP (piL p) (rhoL p) f (upd F j set, upd L (o0 / 2) (oddB o0 ^^ set)) (q0 / 2) (oddB q0 == set) = s1 := ⟨_, rfl⟩
      obtain ⟨ns, hns⟩ : ∃ ns, (!set) = ns := ⟨_, rfl⟩
      obtain ⟨s2, hs2⟩ : ∃ s2, followP (piL p) (rhoL p) f (s1.1, upd s1.2 (o1 / 2) (oddB o1 ^^ ns)) (q1 / 2) (oddB q1 == ns) = s2 := ⟨_, rfl⟩
      have HFP : Hid (followP (piL p) (rhoL p) (f + 1) (F, L) j set = s2) := Lib.hid (by
        unfold followP
        rw [if_neg (by dsimp only; rw [hFj]; decide)]
        dsimp only
        rw [ho0, hq0, hs1, ho1, hq1, hns, hs2])
      have HNS := Lib.hid hns
      have HX0 := Lib.hid (show p.idxOf (flip1 o0 : Int) = q0 by rw [← hq0, ← ho0]; rfl)
      have HX1 := Lib.hid (show p.idxOf (flip1 o1 : Int) = q1 by rw [← hq1, ← ho1]; rfl)
      have hfree := freeN_upd (F := F) (j := j) (by rw [hFj]; decide) set m
      rw [if_pos hj] at hfree
      have hfr0 : freeN (upd F j set) m < f := by omega
      have hfr1 : freeN s1.1 m < f := Nat.lt_of_le_of_lt (freeN_mono (F := upd F j set) (fun i hi => by
        obtain ⟨b, hb⟩ := Option.isSome_iff_exists.1 hi
        have := (follow_mono (piL p) (rhoL p) f (upd F j set, upd L (o0 / 2) (oddB o0 ^^ set)) (q0 / 2) (oddB q0 == set)).1 i b hb
        rw [hs1] at this
        rw [this]; rfl) m) hfr0
      have HS1 := Lib.hid hs1
      have HS2 := Lib.hid hs2
      have HR0 := Lib.hid hfr0
      have HR1 := Lib.hid hfr1
      -- the cells of the permutation
      have cells : ∀ W, CellsAt W a (ints p) → ∀ k, k < 2 * m → ∃ b off, a = some ⟨b, off, none⟩ ∧ W.cell? ⟨b, off + k, none⟩ = some (.int .i64 (piL p k : Int)) := fun W hW k hk => by
        obtain ⟨b, off, e, hc⟩ := hW.cell (j := k) (by rw [ints_length]; omega)
        exact ⟨b, off, e, by rw [hc k _ (ints_getD (by omega)), (piL_eq hp (by omega)).1]⟩
      have hgd : (F j).isSome = false := by rw [hFj]; rfl
      have HC := Lib.hid cells
      have hpl : p.length ≤ 4000000 := by omega
      have HPL := Lib.hid hpl
      have HLP := Lib.hid hl
      clear hFj HP hns hs1 hs2 hq0 hq1 hfree hfr0 hfr1 cells hpl hl hno
      go_enter Try.func86, Try.ntmps86
      go_wp2_with (first
        | (at_lookup; refine wp_mb_ok _ rfl _ _ rfl b1 m F j rfl HC1.out (by omega) rfl ?_; rw [hgd])
        | (at_mapUpdate; refine wp_mb_store _ rfl _ _ _ rfl b1 m F j set rfl HC1.out (by omega) rfl rfl ?_; intro w1 hw1 hg1))
      have hk1 : Kp2 b1 b2 (w.alloc (.cells #[.map (some b1), .map (some b2)] 101)) w1 := Kp2.of_grown1 hg1
      have k0 := hk1.cell t0 (HC1.out.nocell t0) (HC2.out.nocell t0)
      have k1 := hk1.cell t1 (HC1.out.nocell t1) (HC2.out.nocell t1)
      have HA1 := Lib.hid (hk1.cells HC1.out HC2.out HA.out)
      have HM1 := Lib.hid hw1
      have HM2 := Lib.hid (HC2.out.kept hg1 (fun e => hne (Option.some.inj e).symm))
      have HKW := Lib.hid ((Kp2.of_below HBW.out).trans hk1)
      clear t0 t1 hg1 hk1 hw1 HA HC1 HC2 HBW
      obtain ⟨S, hS0, hS1, hS2⟩ : ∃ S : Nat → FL, S 0 = (upd F j set, L) ∧ S 1 = s1 ∧ S 2 = s2 := ⟨fun k => if k = 0 then (upd F j set, L) else if k = 1 then s1 else s2, rfl, rfl, rfl⟩
      have HS_0 := Lib.hid hS0
      have HS_1 := Lib.hid hS1
      have HS_2 := Lib.hid hS2
      clear hS0 hS1 hS2
      go_loopw [34] (fun p wr => ∃ k : Nat, k ≤ 2 ∧ p = .int .i64 k ∧ Hid (StF m b1 b2 w1 wr (S k))) (fun p _ => 2 - (intOf p).toNat)
      case atStart => exact ⟨0, by omega, rfl, Lib.hid (by rw [HS_0.out]; exact ⟨Kp2.refl _ _ _, HM1.out, HM2.out⟩)⟩
      case round =>
        obtain ⟨k, hk, rfl, HR⟩ := hrel
        have c0 := HR.out.kp.cell k0 (HM1.out.nocell k0) (HM2.out.nocell k0)
        have c1 := HR.out.kp.cell k1 (HM1.out.nocell k1) (HM2.out.nocell k1)
        have HAr := Lib.hid (HR.out.kp.cells HM1.out HM2.out HA1.out)
        clear k0 k1
        rcases (by omega : k = 0 ∨ k = 1 ∨ k = 2) with rfl | rfl | rfl
        · have HN1 : Hid (MB wr b1 m (upd F j set)) := Lib.hid (by have := HR.out.m1; rw [HS_0.out] at this; exact this)
          have HN2 : Hid (MB wr b2 m L) := Lib.hid (by have := HR.out.m2; rw [HS_0.out] at this; exact this)
          obtain ⟨bb, off, rfl, e0⟩ := HC.out wr HAr.out (2 * j) (by omega)
          rw [ho0] at e0
          have hwy := fun W => (two_at (2 * (j : Int)) (2 * (j : Int) + 1) W).1
          obtain ⟨f1, f2, f3, f4, f5, f6, f7, f8⟩ := half_bits o0 q0 set (by omega) (by omega)
          obtain ⟨g1, _, g2, _⟩ := in_bits j set (by omega)
          have hR1 : CellsAt wr (some ⟨bb, off, none⟩) (ints p) := HAr.out
          go_wp2_with (first
            | (go_at_call 46; refine (bit_any _ _).mono ?_; rintro e w2 ⟨rfl, rfl⟩)
            | (at_mapUpdate; refine wp_mb_store _ rfl _ _ _ rfl b2 m L (o0 / 2) (oddB o0 ^^ set) rfl HN2.out (by omega) rfl rfl ?_; intro w2 hw2 hg2; have HK2 := Lib.hid (Kp2.of_grown2 (b1 := b1) hg2); have HN1' := Lib.hid (HN1.out.kept hg2 (fun e => hne (Option.some.inj e))); have HR2 := Lib.hid (HK2.out.cells HN1.out HN2.out HAr.out); replace c0 := HK2.out.cell c0 (HN1.out.nocell c0) (HN2.out.nocell c0); replace c1 := HK2.out.cell c1 (HN1.out.nocell c1) (HN2.out.nocell c1); clear hg2)
            | (go_at_call 88; refine (index_any p _ (flip1 o0 : Int) _ (HV.out _ HR2.out) HPL.out q0 HX0.out (by rw [HLP.out]; exact lq0)).mono ?_; rintro e w3 ⟨rfl, rfl⟩)
            | (go_at_call 86; refine (HI.out (upd F j set, upd L (o0 / 2) (oddB o0 ^^ set)) (q0 / 2) (oddB q0 == set) _ b1 b2 hne HN1'.out hw2 (HV.out _ HR2.out) (by omega) HR0.out).mono ?_; rw [HS1.out]; rintro e w3 ⟨rfl, hst⟩))
          go_roundw
          case rel => exact ⟨1, by omega, by go_num, Lib.hid (by rw [HS_1.out]; exact ⟨(HR.out.kp.trans HK2.out).trans hst.kp, hst.m1, hst.m2⟩)⟩
          case measure => simp [intOf]
        · have HN1 : Hid (MB wr b1 m s1.1) := Lib.hid (by have := HR.out.m1; rw [HS_1.out] at this; exact this)
          have HN2 : Hid (MB wr b2 m s1.2) := Lib.hid (by have := HR.out.m2; rw [HS_1.out] at this; exact this)
          obtain ⟨bb, off, rfl, e0⟩ := HC.out wr HAr.out (2 * j + 1) (by omega)
          rw [ho1] at e0
          have hwy := fun W => (two_at (2 * (j : Int)) (2 * (j : Int) + 1) W).2
          obtain ⟨f1, f2, f3, f4, f5, f6, f7, f8⟩ := half_bits o1 q1 ns (by omega) (by omega)
          obtain ⟨_, g1, _, g2⟩ := in_bits j set (by omega)
          rw [HNS.out] at g2
          go_wp2_with (first
            | (go_at_call 46; refine (bit_any _ _).mono ?_; rintro e w2 ⟨rfl, rfl⟩)
            | (at_mapUpdate; refine wp_mb_store _ rfl _ _ _ rfl b2 m s1.2 (o1 / 2) (oddB o1 ^^ ns) rfl HN2.out (by omega) rfl rfl ?_; intro w2 hw2 hg2; have HK2 := Lib.hid (Kp2.of_grown2 (b1 := b1) hg2); have HN1' := Lib.hid (HN1.out.kept hg2 (fun e => hne (Option.some.inj e))); have HR2 := Lib.hid (HK2.out.cells HN1.out HN2.out HAr.out); replace c0 := HK2.out.cell c0 (HN1.out.nocell c0) (HN2.out.nocell c0); replace c1 := HK2.out.cell c1 (HN1.out.nocell c1) (HN2.out.nocell c1); clear hg2)
            | (go_at_call 88; refine (index_any p _ (flip1 o1 : Int) _ (HV.out _ HR2.out) HPL.out q1 HX1.out (by rw [HLP.out]; exact lq1)).mono ?_; rintro e w3 ⟨rfl, rfl⟩)
            | (go_at_call 86; refine (HI.out (s1.1, upd s1.2 (o1 / 2) (oddB o1 ^^ ns)) (q1 / 2) (oddB q1 == ns) _ b1 b2 hne HN1'.out hw2 (HV.out _ HR2.out) (by omega) HR1.out).mono ?_; rw [HS2.out]; rintro e w3 ⟨rfl, hst⟩))
          go_roundw
          case rel => exact ⟨2, by omega, by go_num, Lib.hid (by rw [HS_2.out]; exact ⟨(HR.out.kp.trans HK2.out).trans hst.kp, hst.m1, hst.m2⟩)⟩
          case measure => simp [intOf]
        · go_wp2_with fail
          go_end0
          refine ⟨rfl, ?_⟩
          have := HR.out
          rw [HS_2.out] at this
          rw [HFP.out]
          exact ⟨HKW.out.trans this.kp, this.m1, this.m2⟩
end Go.Proofs.Ytelnlmhelkcliaa
