/- Layout: the law LayoutLonger, walked. -/
import Derived.Test.YtpakkjkjppibnaaGDet2
import Derived.Outline
import Derived.Deep.CutRange
namespace Go.Proofs.Ytpakkjkjppibnaa
open Go.RowKit

/-- two boxed cells, wherever they lie -/
def Two (w0 w : World) (b9 b10 : Nat) (x1 y1 x2 y2 : Int) : Prop := w.cell? ⟨b9, 0, none⟩ = some (.int .i64 x1) ∧ w.cell? ⟨b9, 1, none⟩ = some (.int .i64 y1) ∧ w.cell? ⟨b10, 0, none⟩ = some (.int .i64 x2) ∧ w.cell? ⟨b10, 1, none⟩ = some (.int .i64 y2) ∧ Below w0.heap.size w0 w
theorem twoA (w : World) (x1 y1 x2 y2 : Int) (e : TypeId) : Two w ((w.alloc (.cells #[.int .i64 x1, .int .i64 y1] e)).alloc (.cells #[.int .i64 x2, .int .i64 y2] e)).drew w.heap.size (w.heap.size + 1) x1 y1 x2 y2 := by
  have h1 : (w.alloc (.cells #[.int .i64 x1, .int .i64 y1] e)).heap.size = w.heap.size + 1 := by simp
  refine ⟨cell_below (cell_alloc (World.cell?_alloc_at _ _ _ _ rfl) _) (Below.refl _ _).drew, cell_below (cell_alloc (World.cell?_alloc_at _ _ _ _ rfl) _) (Below.refl _ _).drew, ?_, ?_, (((Below.refl _ _).alloc (Nat.le_refl _) _).alloc (by simp) _).drew⟩
  · exact cell_below (World.cell?_alloc_at _ _ _ _ h1.symm) (Below.refl _ _).drew
  · exact cell_below (World.cell?_alloc_at _ _ _ _ h1.symm) (Below.refl _ _).drew
theorem twoB (w : World) (x1 y1 x2 y2 : Int) (e : TypeId) : Two w ((w.alloc (.cells #[.int .i64 x2, .int .i64 y2] e)).alloc (.cells #[.int .i64 x1, .int .i64 y1] e)).drew (w.heap.size + 1) w.heap.size x1 y1 x2 y2 := by
  obtain ⟨h1, h2, h3, h4, h5⟩ := twoA w x2 y2 x1 y1 e
  exact ⟨h3, h4, h1, h2, h5⟩
theorem check_path {w h mv bd : Int} {bl p : List Ce} (hc : checkF w h mv bd bl p = 0) : Path (refOpenP w h bl) p := by
  obtain ⟨_, h1, _, h2, h3, h4⟩ := checkF_ok hc
  exact ⟨h1, h2, h3, h4⟩
theorem path_check {w h mv bd : Int} {bl p : List Ce} (hv : validP w h mv bd bl = true) (hp : Path (refOpenP w h bl) p) (hl : p.length ≤ 1000) : checkF w h mv bd bl p = 0 := by
  unfold checkF checkC
  rw [if_pos hv, if_pos ⟨hp.pos, hl⟩, if_pos ⟨hp.adj, hp.nd⟩, if_pos hp.all]

set_option maxRecDepth 100000 in
set_option maxHeartbeats 2000000 in
theorem longer_skip (w h mv bd : Int) (bv : Value) (bl p : List Ce) (v : Value) (mo : Int) (W : World) (hv : RdP W bv bl) (hp : RdP W v p) (hw : WfL p) (hs : (decide (p.length ≤ 300) && decide (checkF w h mv bd bl p = 0)) = false) :
    Calls Try.prog 9 #[.agg #[.int .i64 w, .int .i64 h, .int .i64 mv, .int .i64 bd, bv], v, .int .i64 mo] W fun e w' => e = .returned (.bool true) ∧ Below W.heap.size W w' := by
  have hbW := Lib.hid ((Below.refl W.heap.size W).alloc (Nat.le_refl _) (.cells #[.int .i64 w, .int .i64 h, .int .i64 mv, .int .i64 bd, bv] 24))
  have HAW := Lib.hid (fun V => awake_any V)
  have HCO := Lib.hid (fun V (hV : Below W.heap.size W V) => Cost_any w h mv bd bv bl p v V (hv.below hV) (hp.below hV) hw)
  obtain ⟨a, cap, rfl, _, _, _, _⟩ := hv
  obtain ⟨ap, cp, rfl, hcp, _, hap, _⟩ := hp
  obtain ⟨n, hn⟩ : ∃ n, p.length = n := ⟨_, rfl⟩
  rw [hn] at hs HCO hcp ⊢
  by_cases h2 : n ≤ 300
  · have h2d : decide ((300 : Int) < (n : Int)) = false := decide_eq_false (by omega)
    have hz : ¬ checkF w h mv bd bl p = 0 := by
      intro e
      rw [decide_eq_true h2, decide_eq_true e] at hs
      cases hs
    rw [show costF w h mv bd bl p = (0, 0, 0, checkF w h mv bd bl p) by unfold costF; rw [if_neg hz]] at HCO
    dsimp only at HCO
    generalize checkF w h mv bd bl p = ee at *
    have hzb : (ee == 0) = false := by simpa using hz
    have hzc : (ee != 0) = true := by simpa using hz
    clear hs hw hn hz hap
    go_enter Try.func9, Try.ntmps9
    go_wp2_with (first
      | (go_at_call 29; (with_reducible refine (HCO.out _ hbW.out).mono ?_); rintro e w1 ⟨rfl, hb1⟩; have HB1 := Lib.hid (hbW.out.trans (hb1.mono (by simp))); clear hb1)
      | (go_at_call 13; refine (HAW.out _).mono ?_; rintro e w3 ⟨rfl, hb3⟩))
    go_ret
    exact ⟨rfl, HB1.out.trans (hb3.mono HB1.out.size)⟩
  · have h2d : decide ((300 : Int) < (n : Int)) = true := decide_eq_true (by omega)
    clear hs hw hn hap h2
    go_enter Try.func9, Try.ntmps9
    go_wp2_with (go_at_call 13; refine (HAW.out _).mono ?_; rintro e w3 ⟨rfl, hb3⟩)
    go_ret
    exact ⟨rfl, hbW.out.trans (hb3.mono hbW.out.size)⟩

set_option maxRecDepth 100000 in
set_option maxHeartbeats 4000000 in
theorem longer_run (w h : Nat) (mv bd : Int) (bv : Value) (bl p : List Ce) (v : Value) (mo : Int) (W : World) (hv : RdP W bv bl) (hp : RdP W v p) (hw : WfL p) (hl : p.length ≤ 300) (hc : checkF w h mv bd bl p = 0) :
    Calls Try.prog 9 #[.agg #[.int .i64 w, .int .i64 h, .int .i64 mv, .int .i64 bd, bv], v, .int .i64 mo] W fun e w' => e = .returned (.bool true) ∧ Below W.heap.size W w' := by
  have hbW := Lib.hid ((Below.refl W.heap.size W).alloc (Nat.le_refl _) (.cells #[.int .i64 w, .int .i64 h, .int .i64 mv, .int .i64 bd, bv] 24))
  have HGX := Lib.hid (GBx.new1 W w h mv bd bv 24)
  have HAW := Lib.hid (fun V => awake_any V)
  have HCO := Lib.hid (fun V (hV : Below W.heap.size W V) => Cost_any w h mv bd bv bl p v V (hv.below hV) (hp.below hV) hw)
  obtain ⟨k1, k2, k3, k4, k5, k6⟩ := checkF_ok hc
  have hpath := check_path hc
  have hop := openK k1
  have HDT := Lib.hid (fun V (hV : Below W.heap.size W V) => Detour_any w h mv bd bv bl p v mo V (hv.below hV) (hp.below hV) k1 k3 (by rw [hop]; exact hpath))
  rw [hop] at HDT
  have HLP := Lib.hid (fun k q (e : longP (refOpenP w h bl) p k = some q) => longP_ok hpath k q e)
  have HCH := Lib.hid (fun (q : List Ce) (u : Value) V (hV : Below W.heap.size W V) (hr : RdP V u q) (hwf : WfL q) => Check_any w h mv bd bv bl q u V (hv.below hV) hr hwf)
  have HPC := Lib.hid (fun (q : List Ce) (hq : Path (refOpenP w h bl) q) (h1 : q.length ≤ 1000) => path_check k1 hq h1)
  have hsm : SmallL p := fun c hcm => by
    have h1 := List.all_eq_true.1 k6 c hcm
    have h2 := ((validP_iff _ _ _ _ _).1 k1).1
    unfold refOpenP onP at h1
    simp at h1
    omega
  have HWF : Hid (∀ q, Path (refOpenP w h bl) q → WfL q) := Lib.hid fun q hq => SmallL.wf fun c hcm => by
    have h1 := List.all_eq_true.1 hq.all c hcm
    have h2 := ((validP_iff _ _ _ _ _).1 k1).1
    unfold refOpenP onP at h1
    simp at h1
    omega
  obtain ⟨⟨x1, y1⟩, hfr⟩ : ∃ c, p.getD 0 (0, 0) = c := ⟨_, rfl⟩
  obtain ⟨⟨x2, y2⟩, hto⟩ : ∃ c, p.getD (p.length - 1) (0, 0) = c := ⟨_, rfl⟩
  have hodd := path_odd k4 (p.length - 1) (by omega)
  have hs1 := hsm (x1, y1) (by rw [← hfr]; exact getD_memC (by omega))
  have hs2 := hsm (x2, y2) (by rw [← hto]; exact getD_memC (by omega))
  have hg1 : 0 ≤ x1 ∧ 0 ≤ y1 ∧ 0 ≤ x2 ∧ 0 ≤ y2 := by
    have h1 := List.all_eq_true.1 k6 (x1, y1) (by rw [← hfr]; exact getD_memC (by omega))
    have h2 := List.all_eq_true.1 k6 (x2, y2) (by rw [← hto]; exact getD_memC (by omega))
    unfold refOpenP onP at h1 h2
    simp at h1 h2
    omega
  rw [hfr, hto] at hodd
  dsimp only at hodd hs1 hs2
  rw [show costF w h mv bd bl p = (((p.length - 1 : Nat) : Int), (bendsL (dirsL p) : Int), ((p.length - 1 : Nat) : Int) * mv + (bendsL (dirsL p) : Int) * bd, 0) by unfold costF; rw [if_pos hc]] at HCO
  dsimp only at HCO
  obtain ⟨bn, hbn⟩ : ∃ bn : Int, (bendsL (dirsL p) : Int) = bn := ⟨_, rfl⟩
  rw [hbn] at HCO
  obtain ⟨co, hco⟩ : ∃ co : Int, ((p.length - 1 : Nat) : Int) * mv + bn * bd = co := ⟨_, rfl⟩
  rw [hco] at HCO
  have HV := Lib.hid hv
  obtain ⟨a, cap, rfl, _, _, _, _⟩ := hv
  obtain ⟨ap, cp, rfl, hcp, _, hap, _⟩ := hp
  have e0 := (RdP.cell hap (j := 0) (x := (x1, y1)) (by rw [← hfr, List.getD_eq_getElem?_getD, List.getElem?_eq_getElem (by omega)]; rfl))
  have e9 := (RdP.cell hap (j := p.length - 1) (x := (x2, y2)) (by rw [← hto, List.getD_eq_getElem?_getD, List.getElem?_eq_getElem (by omega)]; rfl))
  obtain ⟨bp, off, rfl, f1, f2⟩ := e0
  obtain ⟨bp', off', ee, f3, f4⟩ := e9
  obtain ⟨rfl, rfl⟩ : bp = bp' ∧ off = off' := by simpa using ee
  obtain ⟨n, hn⟩ : ∃ n, p.length = n := ⟨_, rfl⟩
  have HN := Lib.hid hn
  have HFR := Lib.hid hfr
  have HTO := Lib.hid hto
  rw [hn] at HCO HDT hl f3 f4 k2 hcp hodd hto hco ⊢
  have h2d : decide ((300 : Int) < (n : Int)) = false := decide_eq_false (by omega)
  have hn0 : ((n : Int) == 0) = false := by rw [beq_eq_false_iff_ne]; omega
  have HF := Lib.hid (And.intro f1 (And.intro f2 (And.intro f3 f4)))
  dsimp only at HF
  obtain ⟨s, hs⟩ : ∃ s, n - 1 = s := ⟨_, rfl⟩
  have hsn : s + 1 = n := by omega
  rw [hs] at HCO hodd
  have v1 : IntKind.i64.wrap ((s : Int) + x1) = (s : Int) + x1 := IntWalk.i64_in _ ⟨by omega, by omega⟩
  have v2 : IntKind.i64.wrap ((s : Int) + x1 + y1) = (s : Int) + x1 + y1 := IntWalk.i64_in _ ⟨by omega, by omega⟩
  have v3 : IntKind.i64.wrap ((s : Int) + x1 + y1 + x2) = (s : Int) + x1 + y1 + x2 := IntWalk.i64_in _ ⟨by omega, by omega⟩
  have v4 : IntKind.i64.wrap ((s : Int) + x1 + y1 + x2 + y2) = (s : Int) + x1 + y1 + x2 + y2 := IntWalk.i64_in _ ⟨by omega, by omega⟩
  have v5 : Int.tmod ((s : Int) + x1 + y1 + x2 + y2) 2 = 0 := by rw [Int.tmod_eq_emod_of_nonneg (by omega)]; exact hodd
  have HL := Lib.hid hl
  have HSN := Lib.hid hsn
  have HK2 := Lib.hid k2
  have HS := Lib.hid hs
  clear hc hw k1 k3 k4 k5 k6 hap ee f1 f2 f3 f4 hpath hop hsm hs1 hs2 hg1 hodd hbn hco hfr hto hn hs hl hsn
  go_enter Try.func9, Try.ntmps9
  go_wp2_with (first
    | (go_at_call 29; (with_reducible refine (HCO.out _ hbW.out).mono ?_); rintro e w3 ⟨rfl, hb3⟩; have HB3 := Lib.hid (hbW.out.trans (hb3.mono (by simp))); have HG3 := Lib.hid (HGX.out.below hb3); clear hb3))
  go_cut [11, 12] from 37 to 45 (fun p9 p10 wx => ∃ b9 b10 : Nat, p9 = .pointer (some ⟨b9, 0, none⟩) ∧ p10 = .pointer (some ⟨b10, 0, none⟩) ∧ Hid (Two w3 wx b9 b10 x1 y1 x2 y2))
  case first =>
    have q0 : ∀ W' : World, Hid (Below w3.heap.size w3 W') → W'.cell? ⟨bp, off, none⟩ = some (.int .i64 x1) := fun W' h => cell_below (cell_below HF.out.1 HB3.out) h.out
    have q1 : ∀ W' : World, Hid (Below w3.heap.size w3 W') → W'.cell? ⟨bp, off + 1, none⟩ = some (.int .i64 y1) := fun W' h => cell_below (cell_below HF.out.2.1 HB3.out) h.out
    have q2 : ∀ W' : World, Hid (Below w3.heap.size w3 W') → W'.cell? ⟨bp, off + (n - 1) * 2, none⟩ = some (.int .i64 x2) := fun W' h => cell_below (cell_below HF.out.2.2.1 HB3.out) h.out
    have q3 : ∀ W' : World, Hid (Below w3.heap.size w3 W') → W'.cell? ⟨bp, off + (n - 1) * 2 + 1, none⟩ = some (.int .i64 y2) := fun W' h => cell_below (cell_below HF.out.2.2.2 HB3.out) h.out
    have HK2' := HK2.out
    have HL' := HL.out
    have hn1 : (1 : Int) ≤ (n : Int) := by omega
    have hw1 : IntKind.i64.wrap ((n : Int) - 1) = (n : Int) - 1 := IntWalk.i64_in _ (by omega)
    have hw2 : ((n : Int) - 1).toNat = n - 1 := by omega
    have hw3 : (0 : Int) ≤ (n : Int) - 1 := by omega
    have hw4 : (n : Int) - 1 < (n : Int) := by omega
    have hw5 : (0 : Int) < (n : Int) := by omega
    have hw6 : 0 < n := by omega
    go_region_held3 (fun w' => Hid (Below w3.heap.size w3 w'))
      (first | exact Lib.hid (Below.refl _ _).drew | exact heldA _ (by assumption) | exact Lib.hid ((Below.refl _ _).alloc (Nat.le_refl _) _).drew | exact Lib.hid (((Below.refl _ _).alloc (Nat.le_refl _) _).alloc (by simp) _).drew)
      (fail)
    all_goals (
      go_wp2_with fail
      go_meet
      first
        | exact ⟨w3.heap.size, w3.heap.size + 1, rfl, rfl, Lib.hid (twoA _ _ _ _ _ _)⟩
        | exact ⟨w3.heap.size + 1, w3.heap.size, rfl, rfl, Lib.hid (twoB _ _ _ _ _ _)⟩)
  case rest =>
    obtain ⟨b9, b10, rfl, rfl, HT⟩ := hcut
    have HB4 := Lib.hid (HB3.out.trans (HT.out.2.2.2.2.mono HB3.out.size))
    have HG4 := Lib.hid (HG3.out.below HT.out.2.2.2.2)
    obtain ⟨c0, c1, c2, c3, c4⟩ := HG4.out
    obtain ⟨t0, t1, t2, t3, _⟩ := HT.out
    go_wp2_with (first
      | (go_at_call 30; (with_reducible refine (HDT.out _ HB4.out).mono ?_); rintro e w5 ⟨⟨u, E, rfl, hu⟩, hb5⟩; have HB5 := Lib.hid (HB4.out.trans (hb5.mono HB4.out.size)); have HG5 := Lib.hid (HG4.out.below hb5); replace t0 := cell_below t0 hb5; replace t1 := cell_below t1 hb5; replace t2 := cell_below t2 hb5; replace t3 := cell_below t3 hb5; clear hb5 c0 c1 c2 c3 c4; obtain ⟨rfl, hu⟩ | ⟨hE, rfl⟩ := hu)
      | (go_at_call 13; refine (HAW.out _).mono ?_; rintro e w6 ⟨rfl, hb6⟩))
    · obtain ⟨k, q, hk, hmo, hlp, hr⟩ := hu
      have hL := HLP.out k q hlp
      have hqn := hL.len
      have hq0 := hL.first
      have hq9 := hL.last
      rw [HFR.out] at hq0
      rw [HTO.out] at hq9
      obtain ⟨m, hm⟩ : ∃ m, q.length = m := ⟨_, rfl⟩
      have hs1 := HN.out
      have hs2 := HL.out
      have hs3 := HK2.out
      have hmn : m = n + 2 * k := by omega
      have HQC : Hid (∀ x : Grow w5, Calls Try.prog 31 #[.agg #[.int .i64 w, .int .i64 h, .int .i64 mv, .int .i64 bd, .slice a bl.length cap], u] (grow x) fun e w' => e = .returned (.int .i64 0) ∧ Below (grow x).heap.size (grow x) w') := Lib.hid fun x => by
        have h1 := HCH.out q u (grow x) (HB5.out.trans ((grow_below x).mono HB5.out.size)) (hr.below (grow_below x)) (HWF.out q hL.path)
        rw [HPC.out q hL.path (by omega)] at h1
        exact h1
      obtain ⟨ua, uc, rfl, hqc1, hqc2, hqa, _⟩ := hr
      rw [hm] at hqc1 HQC hq9 ⊢
      obtain ⟨bq, oq, rfl, g0, g1⟩ := RdP.cell hqa (j := 0) (x := (x1, y1)) (by
        rw [List.getD_eq_getElem?_getD, List.getElem?_eq_getElem (by omega)] at hq0
        rw [List.getElem?_eq_getElem (by omega)]
        exact congrArg some hq0)
      obtain ⟨bq', oq', ee, g2, g3⟩ := RdP.cell hqa (j := m - 1) (x := (x2, y2)) (by
        rw [List.getD_eq_getElem?_getD, List.getElem?_eq_getElem (by omega)] at hq9
        rw [List.getElem?_eq_getElem (by omega)]
        exact congrArg some hq9)
      obtain ⟨rfl, rfl⟩ : bq = bq' ∧ oq = oq' := by simpa using ee
      simp only [Nat.zero_mul, Nat.add_zero] at g0 g1
      dsimp only at g2 g3
      have hwm : IntKind.i64.wrap ((n : Int) + mo) = (m : Int) := by
        rw [show (n : Int) + mo = (m : Int) by omega]
        exact IntWalk.i64_in _ (by omega)
      have hw1 : IntKind.i64.wrap ((m : Int) - 1) = (m : Int) - 1 := IntWalk.i64_in _ (by omega)
      have hw2 : ((m : Int) - 1).toNat = m - 1 := by omega
      have hw3 : (0 : Int) ≤ (m : Int) - 1 := by omega
      have hw4 : (m : Int) - 1 < (m : Int) := by omega
      have hw5 : (0 : Int) < (m : Int) := by omega
      have hw6 : 0 < m := by omega
      have hn1 : (1 : Int) ≤ (m : Int) := by omega
      have hEQ := fun a b c d W => eqXY a b c d W
      obtain ⟨c0, c1, c2, c3, c4⟩ := HG5.out
      have g0 := fun z : Grow w5 => grow_cell g0 z
      have g1 := fun z : Grow w5 => grow_cell g1 z
      have g2 := fun z : Grow w5 => grow_cell g2 z
      have g3 := fun z : Grow w5 => grow_cell g3 z
      have t0 := fun z : Grow w5 => grow_cell t0 z
      have t1 := fun z : Grow w5 => grow_cell t1 z
      have t2 := fun z : Grow w5 => grow_cell t2 z
      have t3 := fun z : Grow w5 => grow_cell t3 z
      have c0 := fun z : Grow w5 => grow_cell c0 z
      have c1 := fun z : Grow w5 => grow_cell c1 z
      have c2 := fun z : Grow w5 => grow_cell c2 z
      have c3 := fun z : Grow w5 => grow_cell c3 z
      have c4 := fun z : Grow w5 => grow_cell c4 z
      clear ee hqa hq0 hq9 hqn hL hlp hm hmo hs1 hs2 hs3 hmn hk
      refine wp_region_grow (by kernel_rfl) (by kernel_rfl) ?_
      repeat (go_big_quiet_step (first
        | (go_at_call 31; (with_reducible refine grow_of (HQC.out _)))
        | (go_at_call 13; (with_reducible refine grow_of (HAW.out _)))))
      refine wpQuiet_nil ?_
      intro _ hw'
      obtain ⟨xq, hw''⟩ := hw'
      subst hw''
      have HBx := Lib.hid (grow_below xq)
      generalize grow xq = w6 at *
      go_wp2_with fail
      go_ret
      exact ⟨rfl, HB5.out.trans (HBx.out.mono HB5.out.size)⟩
    · go_ret
      exact ⟨rfl, HB5.out.trans (hb6.mono HB5.out.size)⟩
theorem law_longer (w h mv bd : Int) (bv : Value) (bl : List Ce) (v : Value) (p : List Ce) (mo : Int) (W : World) (hv : RdP W bv bl) (hp : RdP W v p) (hw : ∀ x ∈ p, (Lit.int .i64 x.1).wf = true ∧ (Lit.int .i64 x.2).wf = true) :
    Calls Try.prog 9 #[.agg #[.int .i64 w, .int .i64 h, .int .i64 mv, .int .i64 bd, bv], v, .int .i64 mo] W fun e w' => e = .returned (.bool true) ∧ Below W.heap.size W w' := by
  cases hs : (decide (p.length ≤ 300) && decide (checkF w h mv bd bl p = 0)) with
  | false => exact longer_skip w h mv bd bv bl p v mo W hv hp hw hs
  | true =>
    simp only [Bool.and_eq_true, decide_eq_true_eq] at hs
    obtain ⟨x, y, rfl, rfl⟩ := valid_nat (checkF_ok hs.2).1
    exact longer_run x y mv bd bv bl p v mo W hv hp hw hs.1 hs.2
end Go.Proofs.Ytpakkjkjppibnaa
