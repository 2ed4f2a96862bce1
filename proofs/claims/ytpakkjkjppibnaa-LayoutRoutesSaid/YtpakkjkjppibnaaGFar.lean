/- Layout: Far. -/
import Derived.Test.YtpakkjkjppibnaaGProofA
import Derived.Outline
namespace Go.Proofs.Ytpakkjkjppibnaa
open Go.RowKit

theorem el_num : ElemOk Try.prog 29 3 (.int .i64 0) 8 := ⟨by kernel_rfl, info_parts (by kernel_rfl), rfl, by decide⟩
/-- what Far says of a cell -/
def farCell (g : Gr) (F : List (List Int)) (to : Int × Int) (i : Nat) : Int :=
  if cellP g i = to then 0 else if openP g (cellP g i) then (beginsP g F (cellP g i) 4).1 else -1
def farL (g : Gr) (F : List (List Int)) (to : Int × Int) (k : Nat) : List Int := (List.range k).map (farCell g F to)
def farP (g : Gr) (to : Int × Int) : List Int := farL g (fieldP g to) to (g.w * g.h)
theorem farL_succ (g : Gr) (F : List (List Int)) (to : Int × Int) (k : Nat) : farL g F to (k + 1) = farL g F to k ++ [farCell g F to k] := by simp [farL, List.range_succ]
theorem farL_len (g : Gr) (F : List (List Int)) (to : Int × Int) (k : Nat) : (farL g F to k).length = k := by simp [farL]

set_option maxRecDepth 100000 in
theorem far_bad (w h : Int) (mv bd : Int) (bv : Value) (bl : List (Int × Int)) (to : Int × Int) (W : World) (hv : RdP W bv bl) (hb : validP w h mv bd bl = false) :
    Calls Try.prog 14 #[.agg #[.int .i64 w, .int .i64 h, .int .i64 mv, .int .i64 bd, bv], .agg #[.int .i64 to.1, .int .i64 to.2]] W fun e w' => e = .returned (.tuple #[.slice none 0 0, .int .i64 70]) ∧ Below W.heap.size W w' := by
  have hbW := Lib.hid (((Below.refl W.heap.size W).alloc (Nat.le_refl _) (.cells #[.int .i64 w, .int .i64 h, .int .i64 mv, .int .i64 bd, bv] 24)).alloc (by simp) (.cells #[.int .i64 to.1, .int .i64 to.2] 26))
  have HBX := Lib.hid (BxAt.new W (.cells #[.int .i64 w, .int .i64 h, .int .i64 mv, .int .i64 bd, bv] 24) to.1 to.2 26)
  have HVA := Lib.hid (fun V (hV : Below W.heap.size W V) => opened_bad w h mv bd bv bl V (hv.below hV) hb)
  obtain ⟨a, cap, rfl, hc, hcm, _, _⟩ := hv
  obtain ⟨t1, t2⟩ := to
  clear hb
  dsimp only at *
  go_enter Try.func14, Try.ntmps14
  go_wp2_with (go_at_call 38; (with_reducible refine (HVA.out _ hbW.out).mono ?_); rintro e w1 ⟨rfl, hb1⟩)
  go_ret2
  exact ⟨rfl, hbW.out.trans (hb1.mono (by simp; omega))⟩

set_option maxRecDepth 100000 in
theorem far_block (w h : Nat) (mv bd : Int) (bv : Value) (bl : List (Int × Int)) (to : Int × Int) (W : World) (hv : RdP W bv bl) (hb : validP w h mv bd bl = true) (ho : openP (grK w h mv bd bl bl.length) to = false) :
    Calls Try.prog 14 #[.agg #[.int .i64 w, .int .i64 h, .int .i64 mv, .int .i64 bd, bv], .agg #[.int .i64 to.1, .int .i64 to.2]] W fun e w' => e = .returned (.tuple #[.slice none 0 0, .int .i64 72]) ∧ Below W.heap.size W w' := by
  have hbW := Lib.hid (((Below.refl W.heap.size W).alloc (Nat.le_refl _) (.cells #[.int .i64 w, .int .i64 h, .int .i64 mv, .int .i64 bd, bv] 24)).alloc (by simp) (.cells #[.int .i64 to.1, .int .i64 to.2] 26))
  have HBX := Lib.hid (BxAt.new W (.cells #[.int .i64 w, .int .i64 h, .int .i64 mv, .int .i64 bd, bv] 24) to.1 to.2 26)
  have HVA := Lib.hid (fun V (hV : Below W.heap.size W V) => opened_ok w h mv bd bv bl V (hv.below hV) hb)
  have HOA := Lib.hid (fun Bg sb V (hV : GridAt V Bg (grK w h mv bd bl bl.length) bv (some ⟨sb, 0, none⟩) (w * h)) => open_any Bg (grK w h mv bd bl bl.length) bv _ _ to V hV)
  rw [ho] at HOA
  obtain ⟨a, cap, rfl, hc, hcm, _, _⟩ := hv
  obtain ⟨t1, t2⟩ := to
  clear hb ho
  dsimp only at *
  go_enter Try.func14, Try.ntmps14
  go_wp2_with (first
    | (go_at_call 38; (with_reducible refine (HVA.out _ hbW.out).mono ?_); rintro e w1 ⟨Bg, sb, rfl, hg1, hb1⟩; have HG1 := Lib.hid hg1; have HB1 := Lib.hid (hbW.out.trans (hb1.mono (by simp; omega))); have HX1 := Lib.hid (HBX.out.below hb1); obtain ⟨c1, c2⟩ := HX1.out; clear hg1 hb1)
    | (go_at_call 39; (with_reducible refine (HOA.out _ _ _ HG1.out).mono ?_); rintro e w2 ⟨rfl, hb2⟩))
  go_ret2
  exact ⟨rfl, HB1.out.trans (hb2.mono HB1.out.size)⟩

set_option maxRecDepth 100000 in
set_option maxHeartbeats 1000000 in
theorem far_ok (w h : Nat) (mv bd : Int) (bv : Value) (bl : List (Int × Int)) (to : Int × Int) (W : World) (hv : RdP W bv bl) (hb : validP w h mv bd bl = true) (ho : openP (grK w h mv bd bl bl.length) to = true) :
    Calls Try.prog 14 #[.agg #[.int .i64 w, .int .i64 h, .int .i64 mv, .int .i64 bd, bv], .agg #[.int .i64 to.1, .int .i64 to.2]] W fun e w' => (∃ v, e = .returned (.tuple #[v, .int .i64 0]) ∧ w'.ownsRow W.heap.size 3 1 v (w * h) (ints (farP (grK w h mv bd bl bl.length) to))) ∧ Below W.heap.size W w' := by
  have hbW := Lib.hid (((Below.refl W.heap.size W).alloc (Nat.le_refl _) (.cells #[.int .i64 w, .int .i64 h, .int .i64 mv, .int .i64 bd, bv] 24)).alloc (by simp) (.cells #[.int .i64 to.1, .int .i64 to.2] 26))
  have HBX := Lib.hid (BxAt.new W (.cells #[.int .i64 w, .int .i64 h, .int .i64 mv, .int .i64 bd, bv] 24) to.1 to.2 26)
  have hok := grK_ok hb bl.length
  have hon := openP_on ho
  have HOK := Lib.hid hok
  have HVA := Lib.hid (fun V (hV : Below W.heap.size W V) => opened_ok w h mv bd bv bl V (hv.below hV) hb)
  have HOA := Lib.hid (fun Bg sb c V (hV : GridAt V Bg (grK w h mv bd bl bl.length) bv (some ⟨sb, 0, none⟩) (w * h)) => open_any Bg (grK w h mv bd bl bl.length) bv _ _ c V hV)
  have HOT := Lib.hid (fun Bg sb V (hV : GridAt V Bg (grK w h mv bd bl bl.length) bv (some ⟨sb, 0, none⟩) (w * h)) => open_any Bg (grK w h mv bd bl bl.length) bv _ _ to V hV)
  rw [ho] at HOT
  have HFA := Lib.hid (fun Bg sb V (hV : GridAt V Bg (grK w h mv bd bl bl.length) bv (some ⟨sb, 0, none⟩) (w * h)) => field_any Bg (grK w h mv bd bl bl.length) bv _ _ to V hV hon)
  have HBA := Lib.hid (fun Bg sb V (hV : GridAt V Bg (grK w h mv bd bl bl.length) bv (some ⟨sb, 0, none⟩) (w * h)) fb cap c (hf : FldAt V fb (w * h) (fieldP (grK w h mv bd bl bl.length) to)) (hob : ∀ i d, outGet (fieldP (grK w h mv bd bl bl.length) to) i d ≤ 1000000000) h1 h2 h3 h4 =>
    begins_any Bg (grK w h mv bd bl bl.length) bv _ _ fb cap _ c V hV hf hob h1 h2 h3 h4)
  have HCA := Lib.hid (fun Bg sb k V (hV : GridAt V Bg (grK w h mv bd bl bl.length) bv (some ⟨sb, 0, none⟩) (w * h)) hk => cell_any Bg (grK w h mv bd bl bl.length) bv _ _ k V hV hk)
  have HFI : Hid (GrOk (grK w h mv bd bl bl.length) → FInv (grK w h mv bd bl bl.length) ([], fieldP (grK w h mv bd bl bl.length) to)) := Lib.hid (fun hV => fieldP_inv hV hon)
  have hEQ := fun a b c d W => eqXY a b c d W
  have HFP : Hid (farP (grK w h mv bd bl bl.length) to = farL (grK w h mv bd bl bl.length) (fieldP (grK w h mv bd bl bl.length) to) to (w * h)) := Lib.hid rfl
  have HWG : Hid ((grK w h mv bd bl bl.length).w * (grK w h mv bd bl bl.length).h = w * h) := Lib.hid rfl
  obtain ⟨g, hgd⟩ : ∃ g, grK w h mv bd bl bl.length = g := ⟨_, rfl⟩
  have hcells := hok.cells
  rw [hgd] at HVA HOA HOT HOK HFA HBA HCA HFI HFP HWG hcells ⊢
  rw [HWG.out] at HFA HBA hcells
  obtain ⟨F, hF⟩ : ∃ F, fieldP g to = F := ⟨_, rfl⟩
  rw [hF] at HFA HBA HFI HFP
  obtain ⟨a, cap, rfl, hc, hcm, _, _⟩ := hv
  obtain ⟨t1, t2⟩ := to
  obtain ⟨N, hN⟩ : ∃ N, w * h = N := ⟨_, rfl⟩
  rw [hN] at HVA HOA HOT HFA HBA HCA HFP HWG hcells ⊢
  clear hb ho hgd hok hN hF hon
  dsimp only at *
  go_enter Try.func14, Try.ntmps14
  go_wp2_with (first
    | (go_at_call 38; (with_reducible refine (HVA.out _ hbW.out).mono ?_); rintro e w1 ⟨Bg, sb, rfl, hg1, hb1⟩; have HG1 := Lib.hid hg1; have HB1 := Lib.hid (hbW.out.trans (hb1.mono (by simp; omega))); have HX1 := Lib.hid (HBX.out.below hb1); obtain ⟨c1, c2⟩ := HX1.out; clear hg1 hb1)
    | (go_at_call 39; (with_reducible refine (HOT.out _ _ _ HG1.out).mono ?_); rintro e w2 ⟨rfl, hb2⟩; have HG2 := Lib.hid (HG1.out.below hb2); have HB2 := Lib.hid (HB1.out.trans (hb2.mono HB1.out.size)); have HX2 := Lib.hid (HX1.out.below hb2); clear c1 c2; obtain ⟨d1, d2⟩ := HX2.out; clear hb2)
    | (go_at_call 40; (with_reducible refine (HFA.out _ _ _ HG2.out).mono ?_); rintro e w3 ⟨fb, rfl, ho3, hb3⟩; have HFI3 := Lib.hid (HFI.out HG2.out.ok); have HO3 : Hid (FldAt w3 fb N F) := Lib.hid (own_fld ho3 HFI3.out.four (HFI3.out.len.trans HWG.out)); have HG3 := Lib.hid (HG2.out.below hb3); have HB3 := Lib.hid (HB2.out.trans (hb3.mono HB2.out.size)); have HX3 := Lib.hid (HX2.out.below hb3); clear d1 d2 hb3 ho3))
  go_loopw [9, 30] (fun o i wr => ∃ k : Nat, k ≤ N ∧ i = .int .i64 k ∧ Hid (wr.ownsRow w3.heap.size 3 1 o k (ints (farL g F (t1, t2) k))) ∧ Hid (Below w3.heap.size w3 wr)) (fun _ i _ => N - (intOf i).toNat)
  case atStart => exact ⟨0, Nat.zero_le _, rfl, Lib.hid (World.ownsRow_nil _ _ _ _), Lib.hid (Below.refl _ _)⟩
  case round =>
    obtain ⟨k, hk, rfl, HO, HR⟩ := hrel
    obtain ⟨wo, rfl⟩ : ∃ wo, wo = wr := ⟨_, rfl⟩
    by_cases hkN : k < N
    · have hkN' : (k : Int) < (N : Int) := by omega
      have HGR := Lib.hid (fun (V : World) (hV : Below wo.heap.size wo V) => (HG3.out.below HR.out).below hV)
      have HXR := Lib.hid (fun (V : World) (hV : Below wo.heap.size wo V) => (HX3.out.below HR.out).below hV)
      have HFR := Lib.hid (fun (V : World) (hV : Below wo.heap.size wo V) => (HO3.out.below HR.out).below hV)
      have HCL := Lib.hid (HCA.out _ _ k wo (HGR.out _ (Below.refl _ _)) (by omega))
      have hnear := cellP_near HOK.out (i := k) (by rw [HWG.out]; exact hkN)
      have HLS := Lib.hid (farL_succ g F (t1, t2) k)
      have HFC : Hid (farCell g F (t1, t2) k = if cellP g k = (t1, t2) then 0 else if openP g (cellP g k) then (beginsP g F (cellP g k) 4).1 else -1) := Lib.hid rfl
      obtain ⟨⟨c1, c2⟩, hc12⟩ : ∃ c, cellP g k = c := ⟨_, rfl⟩
      rw [hc12] at HCL hnear HFC
      have HOPC := Lib.hid (fun V (hV : Below wo.heap.size wo V) => HOA.out _ _ (c1, c2) V (HGR.out V hV))
      have HBG := Lib.hid (fun V (hV : Below wo.heap.size wo V) => HBA.out _ _ V (HGR.out V hV) fb N (c1, c2) (HFR.out V hV) (fun i d => by have h5 := HFI3.out.out i d; dsimp only at h5; rw [HWG.out] at h5; omega) (by dsimp only at *; omega) (by dsimp only at *; omega) (by dsimp only at *; omega) (by dsimp only at *; omega))
      dsimp only at HCL HOPC HBG
      clear hc12 hnear
      go_wp2_with (go_at_call 41; (with_reducible refine HCL.out.mono ?_); rintro e w4 ⟨rfl, hb4⟩; have HB4 := Lib.hid hb4; clear hb4)
      have HB5 : Hid (Below wo.heap.size wo (w4.alloc (.cells #[.int .i64 c1, .int .i64 c2] 26))) := Lib.hid (HB4.out.alloc HB4.out.size _)
      have g0 : (w4.alloc (.cells #[.int .i64 c1, .int .i64 c2] 26)).cell? ⟨w4.heap.size, 0, none⟩ = some (.int .i64 c1) := World.cell?_alloc_at _ _ _ _ rfl
      have g1 : (w4.alloc (.cells #[.int .i64 c1, .int .i64 c2] 26)).cell? ⟨w4.heap.size, 1, none⟩ = some (.int .i64 c2) := World.cell?_alloc_at _ _ _ _ rfl
      generalize hW5 : w4.alloc (.cells #[.int .i64 c1, .int .i64 c2] 26) = w5 at *
      generalize w4.heap.size = cb at *
      have HG0 := Lib.hid g0
      have HG1' := Lib.hid g1
      clear hW5
      by_cases heq : c1 = t1 ∧ c2 = t2
      · obtain ⟨rfl, rfl⟩ := heq
        rw [if_pos rfl] at HFC
        cases hop : openP g (c1, c2) with
        | false =>
          rw [hop] at HOPC
          try rw [hop, if_neg (by decide : ¬ (false = true))] at HFC
          clear hop HBG
          go_wp2_with (first
            | (go_at_call 39; (with_reducible refine (HOPC.out _ HB5.out).mono ?_); rintro e w6 ⟨rfl, hb6⟩; have HB6 := Lib.hid hb6; clear hb6; have h0 := cell_below HG0.out HB6.out; have h1 := cell_below HG1'.out HB6.out; have HBq := Lib.hid (HB5.out.trans (HB6.out.mono HB5.out.size)); obtain ⟨x1, x2⟩ := HXR.out _ HBq.out; have HBt := Lib.hid (HR.out.trans (HBq.out.mono HR.out.size)); have HOt := Lib.hid (own_below HO.out HBq.out))
            | (at_builtin; refine app1 el_num rfl rfl (w0 := w3) rfl (by rfl) (by exact HBt.out) (by exact HOt.out) rfl (by omega) ?_; intro v9 w9 ho9 hb9 hg9))
          go_roundw
          case rel => exact ⟨k + 1, by omega, by go_num, Lib.hid (by rw [HLS.out, HFC.out, ints_append]; exact ho9), Lib.hid hb9⟩
          case measure => simp [intOf]; omega
        | true =>
          rw [hop] at HOPC
          try rw [hop, if_pos rfl] at HFC
          clear hop
          obtain ⟨nb, hnb⟩ : ∃ n, (beginsP g F (c1, c2) 4).1 = n := ⟨_, rfl⟩
          obtain ⟨db, hdb⟩ : ∃ n, (beginsP g F (c1, c2) 4).2 = n := ⟨_, rfl⟩
          rw [hnb, hdb] at HBG
          try rw [hnb] at HFC
          clear hnb hdb
          go_wp2_with (first
            | (go_at_call 39; (with_reducible refine (HOPC.out _ HB5.out).mono ?_); rintro e w7 ⟨rfl, hb7⟩; have HB7 := Lib.hid (HB5.out.trans (hb7.mono HB5.out.size)); have HB57 := Lib.hid hb7; have f0 := cell_below HG0.out hb7; have f1 := cell_below HG1'.out hb7; clear hb7)
            | (go_at_call 42; (with_reducible refine (HBG.out _ HB7.out).mono ?_); rintro e w6 ⟨rfl, hb6⟩; have HB6 := Lib.hid (HB57.out.trans (hb6.mono HB57.out.size)); clear hb6 f0 f1; have h0 := cell_below HG0.out HB6.out; have h1 := cell_below HG1'.out HB6.out; have HBq := Lib.hid (HB5.out.trans (HB6.out.mono HB5.out.size)); obtain ⟨x1, x2⟩ := HXR.out _ HBq.out; have HBt := Lib.hid (HR.out.trans (HBq.out.mono HR.out.size)); have HOt := Lib.hid (own_below HO.out HBq.out))
            | (at_builtin; refine app1 el_num rfl rfl (w0 := w3) rfl (by rfl) (by exact HBt.out) (by exact HOt.out) rfl (by omega) ?_; intro v9 w9 ho9 hb9 hg9))
          go_roundw
          case rel => exact ⟨k + 1, by omega, by go_num, Lib.hid (by rw [HLS.out, HFC.out, ints_append]; exact ho9), Lib.hid hb9⟩
          case measure => simp [intOf]; omega
      · have heq' : (c1 == t1 && c2 == t2) = false := by
          rw [Bool.eq_false_iff]; intro hh; simp at hh; exact heq hh
        rw [if_neg (fun e => heq ⟨by injection e, by injection e⟩)] at HFC
        cases hop : openP g (c1, c2) with
        | false =>
          rw [hop] at HOPC
          try rw [hop, if_neg (by decide : ¬ (false = true))] at HFC
          clear hop HBG
          go_wp2_with (first
            | (go_at_call 39; (with_reducible refine (HOPC.out _ HB5.out).mono ?_); rintro e w6 ⟨rfl, hb6⟩; have HB6 := Lib.hid hb6; clear hb6; have h0 := cell_below HG0.out HB6.out; have h1 := cell_below HG1'.out HB6.out; have HBq := Lib.hid (HB5.out.trans (HB6.out.mono HB5.out.size)); obtain ⟨x1, x2⟩ := HXR.out _ HBq.out; have HBt := Lib.hid (HR.out.trans (HBq.out.mono HR.out.size)); have HOt := Lib.hid (own_below HO.out HBq.out))
            | (at_builtin; refine app1 el_num rfl rfl (w0 := w3) rfl (by rfl) (by exact HBt.out) (by exact HOt.out) rfl (by omega) ?_; intro v9 w9 ho9 hb9 hg9))
          go_roundw
          case rel => exact ⟨k + 1, by omega, by go_num, Lib.hid (by rw [HLS.out, HFC.out, ints_append]; exact ho9), Lib.hid hb9⟩
          case measure => simp [intOf]; omega
        | true =>
          rw [hop] at HOPC
          try rw [hop, if_pos rfl] at HFC
          clear hop
          obtain ⟨nb, hnb⟩ : ∃ n, (beginsP g F (c1, c2) 4).1 = n := ⟨_, rfl⟩
          obtain ⟨db, hdb⟩ : ∃ n, (beginsP g F (c1, c2) 4).2 = n := ⟨_, rfl⟩
          rw [hnb, hdb] at HBG
          try rw [hnb] at HFC
          clear hnb hdb
          go_wp2_with (first
            | (go_at_call 39; (with_reducible refine (HOPC.out _ HB5.out).mono ?_); rintro e w7 ⟨rfl, hb7⟩; have HB7 := Lib.hid (HB5.out.trans (hb7.mono HB5.out.size)); have HB57 := Lib.hid hb7; have f0 := cell_below HG0.out hb7; have f1 := cell_below HG1'.out hb7; clear hb7)
            | (go_at_call 42; (with_reducible refine (HBG.out _ HB7.out).mono ?_); rintro e w6 ⟨rfl, hb6⟩; have HB6 := Lib.hid (HB57.out.trans (hb6.mono HB57.out.size)); clear hb6 f0 f1; have h0 := cell_below HG0.out HB6.out; have h1 := cell_below HG1'.out HB6.out; have HBq := Lib.hid (HB5.out.trans (HB6.out.mono HB5.out.size)); obtain ⟨x1, x2⟩ := HXR.out _ HBq.out; have HBt := Lib.hid (HR.out.trans (HBq.out.mono HR.out.size)); have HOt := Lib.hid (own_below HO.out HBq.out))
            | (at_builtin; refine app1 el_num rfl rfl (w0 := w3) rfl (by rfl) (by exact HBt.out) (by exact HOt.out) rfl (by omega) ?_; intro v9 w9 ho9 hb9 hg9))
          go_roundw
          case rel => exact ⟨k + 1, by omega, by go_num, Lib.hid (by rw [HLS.out, HFC.out, ints_append]; exact ho9), Lib.hid hb9⟩
          case measure => simp [intOf]; omega
    · obtain rfl : k = N := by omega
      go_wp2_with fail
      go_ret2
      exact ⟨⟨_, rfl, by rw [HFP.out]; exact own_le HO.out HB3.out.size⟩, HB3.out.trans (HR.out.mono HB3.out.size)⟩
end Go.Proofs.Ytpakkjkjppibnaa
