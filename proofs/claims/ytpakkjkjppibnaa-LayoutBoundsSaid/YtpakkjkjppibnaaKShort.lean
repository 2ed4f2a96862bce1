/- Layout: Far.
   Layout: the distances to a place, walked.
   Layout: the field holds the least costs: plain.
   Layout: what Far says, and what a proof bounds: plain.
   Layout: small. -/
import Derived.Test.YtpakkjkjppibnaaKProofR
import Derived.Outline
import Derived.Lib.MinMax
namespace Go.Proofs.Ytpakkjkjppibnaa
open Go.RowKit

theorem el_num : ElemOk Try.prog 29 3 (.int .i64 0) 8 := ⟨by kernel_rfl, info_parts (by kernel_rfl), rfl, by decide⟩
/-- what Far says of a cell -/
def farCell (g : Gr) (F : List (List Int)) (to : Int × Int) (i : Nat) : Int :=
  if cellP g i = to then 0 else if openP g (cellP g i) then (beginsP g F (cellP g i) 4).1 else -1
def farL (g : Gr) (F : List (List Int)) (to : Int × Int) (k : Nat) : List Int := (List.range k).map (farCell g F to)
def farP (g : Gr) (to : Int × Int) : List Int := farL g (fieldP g to) to (g.w * g.h)
theorem farL_succ (g : Gr) (F : List (List Int)) (to : Int × Int) (k : Nat) : farL g F to (k + 1) = farL g F to k ++ [farCell g F to k] := by simp [farL, List.range_succ]
theorem farL_len (g : Gr) (F : List (List Int)) (to : Int × Int) (k : Nat) : (farL g F to k).length = k := by simp [farL]

set_option maxRecDepth 100000 in
theorem far_bad (w h : Int) (mv bd : Int) (bv : Value) (bl : List (Int × Int)) (to : Int × Int) (W : World) (hv : RdP W bv bl) (hb : validP w h mv bd bl = false) :
    Calls Try.prog 14 #[.agg #[.int .i64 w, .int .i64 h, .int .i64 mv, .int .i64 bd, bv], .agg #[.int .i64 to.1, .int .i64 to.2]] W fun e w' => e = .returned (.tuple #[.slice none 0 0, .int .i64 70]) ∧ Below W.heap.size W w' := by
  have hbW := Lib.hid (((Below.refl W.heap.size W).alloc (Nat.le_refl _) (.cells #[.int .i64 w, .int .i64 h, .int .i64 mv, .int .i64 bd, bv] 24)).alloc (by simp) (.cells #[.int .i64 to.1, .int .i64 to.2] 26))
  have HBX := Lib.hid (BxAt.new W (.cells #[.int .i64 w, .int .i64 h, .int .i64 mv, .int .i64 bd, bv] 24) to.1 to.2 26)
  have HVA := Lib.hid (fun V (hV : Below W.heap.size W V) => opened_bad w h mv bd bv bl V (hv.below hV) hb)
  obtain ⟨a, cap, rfl, hc, hcm, _, _⟩ := hv
  obtain ⟨t1, t2⟩ := to
  clear hb
  dsimp only at *
  go_enter Try.func14, Try.ntmps14
  go_wp2_with (go_at_call 38; (with_reducible refine (HVA.out _ hbW.out).mono ?_); rintro e w1 ⟨rfl, hb1⟩)
  go_ret2
  exact ⟨rfl, hbW.out.trans (hb1.mono (by simp; omega))⟩

set_option maxRecDepth 100000 in
theorem far_block (w h : Nat) (mv bd : Int) (bv : Value) (bl : List (Int × Int)) (to : Int × Int) (W : World) (hv : RdP W bv bl) (hb : validP w h mv bd bl = true) (ho : openP (grK w h mv bd bl bl.length) to = false) :
    Calls Try.prog 14 #[.agg #[.int .i64 w, .int .i64 h, .int .i64 mv, .int .i64 bd, bv], .agg #[.int .i64 to.1, .int .i64 to.2]] W fun e w' => e = .returned (.tuple #[.slice none 0 0, .int .i64 72]) ∧ Below W.heap.size W w' := by
  have hbW := Lib.hid (((Below.refl W.heap.size W).alloc (Nat.le_refl _) (.cells #[.int .i64 w, .int .i64 h, .int .i64 mv, .int .i64 bd, bv] 24)).alloc (by simp) (.cells #[.int .i64 to.1, .int .i64 to.2] 26))
  have HBX := Lib.hid (BxAt.new W (.cells #[.int .i64 w, .int .i64 h, .int .i64 mv, .int .i64 bd, bv] 24) to.1 to.2 26)
  have HVA := Lib.hid (fun V (hV : Below W.heap.size W V) => opened_ok w h mv bd bv bl V (hv.below hV) hb)
  have HOA := Lib.hid (fun Bg sb V (hV : GridAt V Bg (grK w h mv bd bl bl.length) bv (some ⟨sb, 0, none⟩) (w * h)) => open_any Bg (grK w h mv bd bl bl.length) bv _ _ to V hV)
  rw [ho] at HOA
  obtain ⟨a, cap, rfl, hc, hcm, _, _⟩ := hv
  obtain ⟨t1, t2⟩ := to
  clear hb ho
  dsimp only at *
  go_enter Try.func14, Try.ntmps14
  go_wp2_with (first
    | (go_at_call 38; (with_reducible refine (HVA.out _ hbW.out).mono ?_); rintro e w1 ⟨Bg, sb, rfl, hg1, hb1⟩; have HG1 := Lib.hid hg1; have HB1 := Lib.hid (hbW.out.trans (hb1.mono (by simp; omega))); have HX1 := Lib.hid (HBX.out.below hb1); obtain ⟨c1, c2⟩ := HX1.out; clear hg1 hb1)
    | (go_at_call 39; (with_reducible refine (HOA.out _ _ _ HG1.out).mono ?_); rintro e w2 ⟨rfl, hb2⟩))
  go_ret2
  exact ⟨rfl, HB1.out.trans (hb2.mono HB1.out.size)⟩

set_option maxRecDepth 100000 in
set_option maxHeartbeats 1000000 in
theorem far_ok (w h : Nat) (mv bd : Int) (bv : Value) (bl : List (Int × Int)) (to : Int × Int) (W : World) (hv : RdP W bv bl) (hb : validP w h mv bd bl = true) (ho : openP (grK w h mv bd bl bl.length) to = true) :
    Calls Try.prog 14 #[.agg #[.int .i64 w, .int .i64 h, .int .i64 mv, .int .i64 bd, bv], .agg #[.int .i64 to.1, .int .i64 to.2]] W fun e w' => (∃ v, e = .returned (.tuple #[v, .int .i64 0]) ∧ w'.ownsRow W.heap.size 3 1 v (w * h) (ints (farP (grK w h mv bd bl bl.length) to))) ∧ Below W.heap.size W w' := by
  have hbW := Lib.hid (((Below.refl W.heap.size W).alloc (Nat.le_refl _) (.cells #[.int .i64 w, .int .i64 h, .int .i64 mv, .int .i64 bd, bv] 24)).alloc (by simp) (.cells #[.int .i64 to.1, .int .i64 to.2] 26))
  have HBX := Lib.hid (BxAt.new W (.cells #[.int .i64 w, .int .i64 h, .int .i64 mv, .int .i64 bd, bv] 24) to.1 to.2 26)
  have hok := grK_ok hb bl.length
  have hon := openP_on ho
  have HOK := Lib.hid hok
  have HVA := Lib.hid (fun V (hV : Below W.heap.size W V) => opened_ok w h mv bd bv bl V (hv.below hV) hb)
  have HOA := Lib.hid (fun Bg sb c V (hV : GridAt V Bg (grK w h mv bd bl bl.length) bv (some ⟨sb, 0, none⟩) (w * h)) => open_any Bg (grK w h mv bd bl bl.length) bv _ _ c V hV)
  have HOT := Lib.hid (fun Bg sb V (hV : GridAt V Bg (grK w h mv bd bl bl.length) bv (some ⟨sb, 0, none⟩) (w * h)) => open_any Bg (grK w h mv bd bl bl.length) bv _ _ to V hV)
  rw [ho] at HOT
  have HFA := Lib.hid (fun Bg sb V (hV : GridAt V Bg (grK w h mv bd bl bl.length) bv (some ⟨sb, 0, none⟩) (w * h)) => field_any Bg (grK w h mv bd bl bl.length) bv _ _ to V hV hon)
  have HBA := Lib.hid (fun Bg sb V (hV : GridAt V Bg (grK w h mv bd bl bl.length) bv (some ⟨sb, 0, none⟩) (w * h)) fb cap c (hf : FldAt V fb (w * h) (fieldP (grK w h mv bd bl bl.length) to)) (hob : ∀ i d, outGet (fieldP (grK w h mv bd bl bl.length) to) i d ≤ 1000000000) h1 h2 h3 h4 =>
    begins_any Bg (grK w h mv bd bl bl.length) bv _ _ fb cap _ c V hV hf hob h1 h2 h3 h4)
  have HCA := Lib.hid (fun Bg sb k V (hV : GridAt V Bg (grK w h mv bd bl bl.length) bv (some ⟨sb, 0, none⟩) (w * h)) hk => cell_any Bg (grK w h mv bd bl bl.length) bv _ _ k V hV hk)
  have HFI : Hid (GrOk (grK w h mv bd bl bl.length) → FInv (grK w h mv bd bl bl.length) ([], fieldP (grK w h mv bd bl bl.length) to)) := Lib.hid (fun hV => fieldP_inv hV hon)
  have hEQ := fun a b c d W => eqXY a b c d W
  have HFP : Hid (farP (grK w h mv bd bl bl.length) to = farL (grK w h mv bd bl bl.length) (fieldP (grK w h mv bd bl bl.length) to) to (w * h)) := Lib.hid rfl
  have HWG : Hid ((grK w h mv bd bl bl.length).w * (grK w h mv bd bl bl.length).h = w * h) := Lib.hid rfl
  obtain ⟨g, hgd⟩ : ∃ g, grK w h mv bd bl bl.length = g := ⟨_, rfl⟩
  have hcells := hok.cells
  rw [hgd] at HVA HOA HOT HOK HFA HBA HCA HFI HFP HWG hcells ⊢
  rw [HWG.out] at HFA HBA hcells
  obtain ⟨F, hF⟩ : ∃ F, fieldP g to = F := ⟨_, rfl⟩
  rw [hF] at HFA HBA HFI HFP
  obtain ⟨a, cap, rfl, hc, hcm, _, _⟩ := hv
  obtain ⟨t1, t2⟩ := to
  obtain ⟨N, hN⟩ : ∃ N, w * h = N := ⟨_, rfl⟩
  rw [hN] at HVA HOA HOT HFA HBA HCA HFP HWG hcells ⊢
  clear hb ho hgd hok hN hF hon
  dsimp only at *
  go_enter Try.func14, Try.ntmps14
  go_wp2_with (first
    | (go_at_call 38; (with_reducible refine (HVA.out _ hbW.out).mono ?_); rintro e w1 ⟨Bg, sb, rfl, hg1, hb1⟩; have HG1 := Lib.hid hg1; have HB1 := Lib.hid (hbW.out.trans (hb1.mono (by simp; omega))); have HX1 := Lib.hid (HBX.out.below hb1); obtain ⟨c1, c2⟩ := HX1.out; clear hg1 hb1)
    | (go_at_call 39; (with_reducible refine (HOT.out _ _ _ HG1.out).mono ?_); rintro e w2 ⟨rfl, hb2⟩; have HG2 := Lib.hid (HG1.out.below hb2); have HB2 := Lib.hid (HB1.out.trans (hb2.mono HB1.out.size)); have HX2 := Lib.hid (HX1.out.below hb2); clear c1 c2; obtain ⟨d1, d2⟩ := HX2.out; clear hb2)
    | (go_at_call 40; (with_reducible refine (HFA.out _ _ _ HG2.out).mono ?_); rintro e w3 ⟨fb, rfl, ho3, hb3⟩; have HFI3 := Lib.hid (HFI.out HG2.out.ok); have HO3 : Hid (FldAt w3 fb N F) := Lib.hid (own_fld ho3 HFI3.out.four (HFI3.out.len.trans HWG.out)); have HG3 := Lib.hid (HG2.out.below hb3); have HB3 := Lib.hid (HB2.out.trans (hb3.mono HB2.out.size)); have HX3 := Lib.hid (HX2.out.below hb3); clear d1 d2 hb3 ho3))
  go_loopw [9, 30] (fun o i wr => ∃ k : Nat, k ≤ N ∧ i = .int .i64 k ∧ Hid (wr.ownsRow w3.heap.size 3 1 o k (ints (farL g F (t1, t2) k))) ∧ Hid (Below w3.heap.size w3 wr)) (fun _ i _ => N - (intOf i).toNat)
  case atStart => exact ⟨0, Nat.zero_le _, rfl, Lib.hid (World.ownsRow_nil _ _ _ _), Lib.hid (Below.refl _ _)⟩
  case round =>
    obtain ⟨k, hk, rfl, HO, HR⟩ := hrel
    obtain ⟨wo, rfl⟩ : ∃ wo, wo = wr := ⟨_, rfl⟩
    by_cases hkN : k < N
    · have hkN' : (k : Int) < (N : Int) := by omega
      have HGR := Lib.hid (fun (V : World) (hV : Below wo.heap.size wo V) => (HG3.out.below HR.out).below hV)
      have HXR := Lib.hid (fun (V : World) (hV : Below wo.heap.size wo V) => (HX3.out.below HR.out).below hV)
      have HFR := Lib.hid (fun (V : World) (hV : Below wo.heap.size wo V) => (HO3.out.below HR.out).below hV)
      have HCL := Lib.hid (HCA.out _ _ k wo (HGR.out _ (Below.refl _ _)) (by omega))
      have hnear := cellP_near HOK.out (i := k) (by rw [HWG.out]; exact hkN)
      have HLS := Lib.hid (farL_succ g F (t1, t2) k)
      have HFC : Hid (farCell g F (t1, t2) k = if cellP g k = (t1, t2) then 0 else if openP g (cellP g k) then (beginsP g F (cellP g k) 4).1 else -1) := Lib.hid rfl
      obtain ⟨⟨c1, c2⟩, hc12⟩ : ∃ c, cellP g k = c := ⟨_, rfl⟩
      rw [hc12] at HCL hnear HFC
      have HOPC := Lib.hid (fun V (hV : Below wo.heap.size wo V) => HOA.out _ _ (c1, c2) V (HGR.out V hV))
      have HBG := Lib.hid (fun V (hV : Below wo.heap.size wo V) => HBA.out _ _ V (HGR.out V hV) fb N (c1, c2) (HFR.out V hV) (fun i d => by have h5 := HFI3.out.out i d; dsimp only at h5; rw [HWG.out] at h5; omega) (by dsimp only at *; omega) (by dsimp only at *; omega) (by dsimp only at *; omega) (by dsimp only at *; omega))
      dsimp only at HCL HOPC HBG
      clear hc12 hnear
      go_wp2_with (go_at_call 41; (with_reducible refine HCL.out.mono ?_); rintro e w4 ⟨rfl, hb4⟩; have HB4 := Lib.hid hb4; clear hb4)
      have HB5 : Hid (Below wo.heap.size wo (w4.alloc (.cells #[.int .i64 c1, .int .i64 c2] 26))) := Lib.hid (HB4.out.alloc HB4.out.size _)
      have g0 : (w4.alloc (.cells #[.int .i64 c1, .int .i64 c2] 26)).cell? ⟨w4.heap.size, 0, none⟩ = some (.int .i64 c1) := World.cell?_alloc_at _ _ _ _ rfl
      have g1 : (w4.alloc (.cells #[.int .i64 c1, .int .i64 c2] 26)).cell? ⟨w4.heap.size, 1, none⟩ = some (.int .i64 c2) := World.cell?_alloc_at _ _ _ _ rfl
      generalize hW5 : w4.alloc (.cells #[.int .i64 c1, .int .i64 c2] 26) = w5 at *
      generalize w4.heap.size = cb at *
      have HG0 := Lib.hid g0
      have HG1' := Lib.hid g1
      clear hW5
      by_cases heq : c1 = t1 ∧ c2 = t2
      · obtain ⟨rfl, rfl⟩ := heq
        rw [if_pos rfl] at HFC
        cases hop : openP g (c1, c2) with
        | false =>
          rw [hop] at HOPC
          try rw [hop, if_neg (by decide : ¬ (false = true))] at HFC
          clear hop HBG
          go_wp2_with (first
            | (go_at_call 39; (with_reducible refine (HOPC.out _ HB5.out).mono ?_); rintro e w6 ⟨rfl, hb6⟩; have HB6 := Lib.hid hb6; clear hb6; have h0 := cell_below HG0.out HB6.out; have h1 := cell_below HG1'.out HB6.out; have HBq := Lib.hid (HB5.out.trans (HB6.out.mono HB5.out.size)); obtain ⟨x1, x2⟩ := HXR.out _ HBq.out; have HBt := Lib.hid (HR.out.trans (HBq.out.mono HR.out.size)); have HOt := Lib.hid (own_below HO.out HBq.out))
            | (at_builtin; refine app1 el_num rfl rfl (w0 := w3) rfl (by rfl) (by exact HBt.out) (by exact HOt.out) rfl (by omega) ?_; intro v9 w9 ho9 hb9 hg9))
          go_roundw
          case rel => exact ⟨k + 1, by omega, by go_num, Lib.hid (by rw [HLS.out, HFC.out, ints_append]; exact ho9), Lib.hid hb9⟩
          case measure => simp [intOf]; omega
        | true =>
          rw [hop] at HOPC
          try rw [hop, if_pos rfl] at HFC
          clear hop
          obtain ⟨nb, hnb⟩ : ∃ n, (beginsP g F (c1, c2) 4).1 = n := ⟨_, rfl⟩
          obtain ⟨db, hdb⟩ : ∃ n, (beginsP g F (c1, c2) 4).2 = n := ⟨_, rfl⟩
          rw [hnb, hdb] at HBG
          try rw [hnb] at HFC
          clear hnb hdb
          go_wp2_with (first
            | (go_at_call 39; (with_reducible refine (HOPC.out _ HB5.out).mono ?_); rintro e w7 ⟨rfl, hb7⟩; have HB7 := Lib.hid (HB5.out.trans (hb7.mono HB5.out.size)); have HB57 := Lib.hid hb7; have f0 := cell_below HG0.out hb7; have f1 := cell_below HG1'.out hb7; clear hb7)
            | (go_at_call 42; (with_reducible refine (HBG.out _ HB7.out).mono ?_); rintro e w6 ⟨rfl, hb6⟩; have HB6 := Lib.hid (HB57.out.trans (hb6.mono HB57.out.size)); clear hb6 f0 f1; have h0 := cell_below HG0.out HB6.out; have h1 := cell_below HG1'.out HB6.out; have HBq := Lib.hid (HB5.out.trans (HB6.out.mono HB5.out.size)); obtain ⟨x1, x2⟩ := HXR.out _ HBq.out; have HBt := Lib.hid (HR.out.trans (HBq.out.mono HR.out.size)); have HOt := Lib.hid (own_below HO.out HBq.out))
            | (at_builtin; refine app1 el_num rfl rfl (w0 := w3) rfl (by rfl) (by exact HBt.out) (by exact HOt.out) rfl (by omega) ?_; intro v9 w9 ho9 hb9 hg9))
          go_roundw
          case rel => exact ⟨k + 1, by omega, by go_num, Lib.hid (by rw [HLS.out, HFC.out, ints_append]; exact ho9), Lib.hid hb9⟩
          case measure => simp [intOf]; omega
      · have heq' : (c1 == t1 && c2 == t2) = false := by
          rw [Bool.eq_false_iff]; intro hh; simp at hh; exact heq hh
        rw [if_neg (fun e => heq ⟨by injection e, by injection e⟩)] at HFC
        cases hop : openP g (c1, c2) with
        | false =>
          rw [hop] at HOPC
          try rw [hop, if_neg (by decide : ¬ (false = true))] at HFC
          clear hop HBG
          go_wp2_with (first
            | (go_at_call 39; (with_reducible refine (HOPC.out _ HB5.out).mono ?_); rintro e w6 ⟨rfl, hb6⟩; have HB6 := Lib.hid hb6; clear hb6; have h0 := cell_below HG0.out HB6.out; have h1 := cell_below HG1'.out HB6.out; have HBq := Lib.hid (HB5.out.trans (HB6.out.mono HB5.out.size)); obtain ⟨x1, x2⟩ := HXR.out _ HBq.out; have HBt := Lib.hid (HR.out.trans (HBq.out.mono HR.out.size)); have HOt := Lib.hid (own_below HO.out HBq.out))
            | (at_builtin; refine app1 el_num rfl rfl (w0 := w3) rfl (by rfl) (by exact HBt.out) (by exact HOt.out) rfl (by omega) ?_; intro v9 w9 ho9 hb9 hg9))
          go_roundw
          case rel => exact ⟨k + 1, by omega, by go_num, Lib.hid (by rw [HLS.out, HFC.out, ints_append]; exact ho9), Lib.hid hb9⟩
          case measure => simp [intOf]; omega
        | true =>
          rw [hop] at HOPC
          try rw [hop, if_pos rfl] at HFC
          clear hop
          obtain ⟨nb, hnb⟩ : ∃ n, (beginsP g F (c1, c2) 4).1 = n := ⟨_, rfl⟩
          obtain ⟨db, hdb⟩ : ∃ n, (beginsP g F (c1, c2) 4).2 = n := ⟨_, rfl⟩
          rw [hnb, hdb] at HBG
          try rw [hnb] at HFC
          clear hnb hdb
          go_wp2_with (first
            | (go_at_call 39; (with_reducible refine (HOPC.out _ HB5.out).mono ?_); rintro e w7 ⟨rfl, hb7⟩; have HB7 := Lib.hid (HB5.out.trans (hb7.mono HB5.out.size)); have HB57 := Lib.hid hb7; have f0 := cell_below HG0.out hb7; have f1 := cell_below HG1'.out hb7; clear hb7)
            | (go_at_call 42; (with_reducible refine (HBG.out _ HB7.out).mono ?_); rintro e w6 ⟨rfl, hb6⟩; have HB6 := Lib.hid (HB57.out.trans (hb6.mono HB57.out.size)); clear hb6 f0 f1; have h0 := cell_below HG0.out HB6.out; have h1 := cell_below HG1'.out HB6.out; have HBq := Lib.hid (HB5.out.trans (HB6.out.mono HB5.out.size)); obtain ⟨x1, x2⟩ := HXR.out _ HBq.out; have HBt := Lib.hid (HR.out.trans (HBq.out.mono HR.out.size)); have HOt := Lib.hid (own_below HO.out HBq.out))
            | (at_builtin; refine app1 el_num rfl rfl (w0 := w3) rfl (by rfl) (by exact HBt.out) (by exact HOt.out) rfl (by omega) ?_; intro v9 w9 ho9 hb9 hg9))
          go_roundw
          case rel => exact ⟨k + 1, by omega, by go_num, Lib.hid (by rw [HLS.out, HFC.out, ints_append]; exact ho9), Lib.hid hb9⟩
          case measure => simp [intOf]; omega
    · obtain rfl : k = N := by omega
      go_wp2_with fail
      go_ret2
      exact ⟨⟨_, rfl, by rw [HFP.out]; exact own_le HO.out HB3.out.size⟩, HB3.out.trans (HR.out.mono HB3.out.size)⟩
end Go.Proofs.Ytpakkjkjppibnaa

namespace Go.Proofs.Ytpakkjkjppibnaa
open Go.RowKit

def distCell (w : Nat) (mv : Int) (to : Int × Int) (i : Nat) : Int := mv * (max (((i % w : Nat) : Int) - to.1) (-(((i % w : Nat) : Int) - to.1)) + max (((i / w : Nat) : Int) - to.2) (-(((i / w : Nat) : Int) - to.2)))
def distL (w : Nat) (mv : Int) (to : Int × Int) (k : Nat) : List Int := (List.range k).map (distCell w mv to)
theorem distL_succ (w : Nat) (mv : Int) (to : Int × Int) (k : Nat) : distL w mv to (k + 1) = distL w mv to k ++ [distCell w mv to k] := by simp [distL, List.range_succ]
theorem distL_len (w : Nat) (mv : Int) (to : Int × Int) (k : Nat) : (distL w mv to k).length = k := by simp [distL]

set_option maxRecDepth 100000 in
theorem dist_any (w h : Nat) (mv bd : Int) (bv : Value) (to : Int × Int) (W : World) (hw : 1 ≤ w ∧ w ≤ 30) (hh : 1 ≤ h ∧ h ≤ 30) (hm : 1 ≤ mv ∧ mv ≤ 1000) (h1 : 0 ≤ to.1 ∧ to.1 ≤ 30) (h2 : 0 ≤ to.2 ∧ to.2 ≤ 30) :
    Calls Try.prog 23 #[.agg #[.int .i64 w, .int .i64 h, .int .i64 mv, .int .i64 bd, bv], .agg #[.int .i64 to.1, .int .i64 to.2]] W fun e w' => ∃ v, e = .returned v ∧ w'.ownsRow W.heap.size 3 1 v (w * h) (ints (distL w mv to (w * h))) ∧ Below W.heap.size W w' := by
  have hbW := Lib.hid (((Below.refl W.heap.size W).alloc (Nat.le_refl _) (.cells #[.int .i64 w, .int .i64 h, .int .i64 mv, .int .i64 bd, bv] 24)).alloc (by simp) (.cells #[.int .i64 to.1, .int .i64 to.2] 26))
  have HBX := Lib.hid (BxAt.new W (.cells #[.int .i64 w, .int .i64 h, .int .i64 mv, .int .i64 bd, bv] 24) to.1 to.2 26)
  have HGX := Lib.hid (GBx.new W w h mv bd bv 24 (.cells #[.int .i64 to.1, .int .i64 to.2] 26))
  have hcells : 1 ≤ w * h ∧ w * h ≤ 900 := ⟨Nat.mul_le_mul hw.1 hh.1, Nat.mul_le_mul hw.2 hh.2⟩
  obtain ⟨N, hN⟩ : ∃ N, w * h = N := ⟨_, rfl⟩
  have hNi : (w : Int) * (h : Int) = (N : Int) := by rw [← hN]; simp
  rw [hN] at hcells ⊢
  have hwN : IntKind.i64.wrap (N : Int) = (N : Int) := IntWalk.i64_in _ (by clear hNi; omega)
  have HH := Lib.hid hh
  clear hN hh
  obtain ⟨t1, t2⟩ := to
  dsimp only at *
  go_enter Try.func23, Try.ntmps23
  go_wp2_with fail
  generalize hW1 : (W.alloc (.cells #[.int .i64 w, .int .i64 h, .int .i64 mv, .int .i64 bd, bv] 24)).alloc (.cells #[.int .i64 t1, .int .i64 t2] 26) = W1 at *
  clear hW1
  go_loopw [5, 14] (fun o i wr => ∃ k : Nat, k ≤ N ∧ i = .int .i64 k ∧ Hid (wr.ownsRow W1.heap.size 3 1 o k (ints (distL w mv (t1, t2) k))) ∧ Hid (Below W1.heap.size W1 wr)) (fun _ i _ => N - (intOf i).toNat)
  case atStart => exact ⟨0, Nat.zero_le _, rfl, Lib.hid (World.ownsRow_nil _ _ _ _), Lib.hid (Below.refl _ _)⟩
  case round =>
    obtain ⟨k, hk, rfl, HO, HR⟩ := hrel
    by_cases hkN : k < N
    · have hkN' : (k : Int) < (N : Int) := by omega
      obtain ⟨x1, x2⟩ := HBX.out.below HR.out
      obtain ⟨q0, q1, q2, q3, q4⟩ := HGX.out.below HR.out
      have hr : ((k : Int)).tmod (w : Int) = ((k % w : Nat) : Int) := (Int.ofNat_tmod _ _).symm
      have hq : ((k : Int)).tdiv (w : Int) = ((k / w : Nat) : Int) := (Int.ofNat_tdiv _ _).symm
      have hle : k / w ≤ k := Nat.div_le_self _ _
      have hlm : k % w < w := Nat.mod_lt _ (by omega)
      have HLS := Lib.hid (distL_succ w mv (t1, t2) k)
      have HDC : Hid (distCell w mv (t1, t2) k = mv * (max (((k % w : Nat) : Int) - t1) (-(((k % w : Nat) : Int) - t1)) + max (((k / w : Nat) : Int) - t2) (-(((k / w : Nat) : Int) - t2)))) := Lib.hid rfl
      have hn0 : ¬ ((w : Int) = 0) := by omega
      have hnz : ¬ (w = 0) := by omega
      obtain ⟨q, hq'⟩ : ∃ q, k / w = q := ⟨_, rfl⟩
      obtain ⟨r, hr'⟩ : ∃ r, k % w = r := ⟨_, rfl⟩
      rw [hq'] at hq hle HDC
      rw [hr'] at hr hlm HDC
      clear hq' hr'
      have hwq : IntKind.i64.wrap (q : Int) = (q : Int) := IntWalk.i64_in _ (by omega)
      obtain ⟨x, hx⟩ : ∃ x, (r : Int) - t1 = x := ⟨_, rfl⟩
      obtain ⟨y, hy⟩ : ∃ y, (q : Int) - t2 = y := ⟨_, rfl⟩
      have hx9 : -1000 ≤ x ∧ x ≤ 1000 := by omega
      have hy9 : -1000 ≤ y ∧ y ≤ 1000 := by omega
      rw [hx, hy] at HDC
      have hwx : IntKind.i64.wrap x = x := IntWalk.i64_in _ (by omega)
      have hwy : IntKind.i64.wrap y = y := IntWalk.i64_in _ (by omega)
      have hwnx : IntKind.i64.wrap (-x) = -x := IntWalk.i64_in _ (by omega)
      have hwny : IntKind.i64.wrap (-y) = -y := IntWalk.i64_in _ (by omega)
      have hmx : 0 ≤ max x (-x) ∧ max x (-x) ≤ 1000 := by omega
      have hmy : 0 ≤ max y (-y) ∧ max y (-y) ≤ 1000 := by omega
      have hws : IntKind.i64.wrap (max x (-x) + max y (-y)) = max x (-x) + max y (-y) := IntWalk.i64_in _ (by omega)
      have hwm : IntKind.i64.wrap (mv * (max x (-x) + max y (-y))) = mv * (max x (-x) + max y (-y)) := IntWalk.i64_in _ (by
        have a1 : 0 ≤ mv * (max x (-x) + max y (-y)) := Int.mul_nonneg (by omega) (by omega)
        have a2 : mv * (max x (-x) + max y (-y)) ≤ 1000 * 2000 := Int.mul_le_mul hm.2 (by omega) (by omega) (by omega)
        omega)
      go_wp2_with fail
      have e0 := fun x : Grow wr => grow_cell q0 x
      have e1 := fun x : Grow wr => grow_cell x1 x
      have e2 := fun x : Grow wr => grow_cell x2 x
      refine wp_region_grow (by kernel_rfl) (by kernel_rfl) ?_
      repeat (go_big_quiet_step (fail))
      refine wpQuiet_nil ?_
      intro _ hw'
      obtain ⟨xq, hw''⟩ := hw'
      subst hw''
      have HBq := Lib.hid (grow_below xq)
      clear e0 e1 e2
      generalize grow xq = w3 at *
      obtain ⟨q0, q1, q2, q3, q4⟩ := HGX.out.below (HR.out.trans (HBq.out.mono HR.out.size))
      have HBt := Lib.hid (HR.out.trans (HBq.out.mono HR.out.size))
      have HOt := Lib.hid (own_below HO.out HBq.out)
      clear hmx hmy hx9 hy9
      go_wp2_with (at_builtin; refine app1 el_num rfl rfl (w0 := W1) rfl (by rfl) (by exact HBt.out) (by exact HOt.out) rfl (by omega) ?_; intro v9 w9 ho9 hb9 hg9)
      go_roundw
      case rel => exact ⟨k + 1, by omega, by go_num, Lib.hid (by rw [HLS.out, HDC.out, ints_append]; exact ho9), Lib.hid hb9⟩
      case measure => simp [intOf]; omega
    · obtain rfl : k = N := by omega
      go_wp2_with fail
      go_ret
      exact ⟨_, rfl, own_le HO.out hbW.out.size, hbW.out.trans (HR.out.mono hbW.out.size)⟩
end Go.Proofs.Ytpakkjkjppibnaa

namespace Go.Proofs.Ytpakkjkjppibnaa
open Go.RowKit

theorem beside_back (c : Int × Int) {d : Nat} (hd : d < 4) : besideP (besideP c (d + 2)) d = c := by
  obtain ⟨x, y⟩ := c
  rcases (by omega : d = 0 ∨ d = 1 ∨ d = 2 ∨ d = 3) with rfl | rfl | rfl | rfl <;> simp [besideP]
theorem beside_back' (c : Int × Int) {d : Nat} (hd : d < 4) : besideP (besideP c d) (d + 2) = c := by
  obtain ⟨x, y⟩ := c
  rcases (by omega : d = 0 ∨ d = 1 ∨ d = 2 ∨ d = 3) with rfl | rfl | rfl | rfl <;> simp [besideP]
theorem cell_on {g : Gr} (h : GrOk g) {i : Nat} (hi : i < g.w * g.h) : onP g.w g.h (cellP g i) = true := by
  have e1 : i % g.w < g.w := Nat.mod_lt _ h.w1
  have e2 : i / g.w < g.h := Nat.div_lt_of_lt_mul hi
  unfold onP cellP
  generalize i % g.w = r at *
  generalize i / g.w = q at *
  simp
  omega
theorem index_cell {g : Gr} (_h : GrOk g) (i : Nat) : indexP g (cellP g i) = i := by
  have := Nat.mod_add_div i g.w
  unfold indexP cellP
  dsimp only
  have e : ((i % g.w : Nat) : Int) + ((g.w * (i / g.w) : Nat) : Int) = i := by exact_mod_cast this
  rw [Int.natCast_mul, Int.mul_comm] at e
  omega
theorem cell_index {g : Gr} (h : GrOk g) {c : Int × Int} (hc : onP g.w g.h c = true) : cellP g (indexP g c).toNat = c := by
  have h1 := h.index hc
  have hi : (indexP g c).toNat < g.w * g.h := by have := h1.2.2.2.2; omega
  have h2 := index_cell h (indexP g c).toNat
  have h3 : indexP g c = ((indexP g c).toNat : Int) := by have := h1.2.2.2.2.1; omega
  refine index_inj (cell_on h hi) hc ?_
  change indexP g (cellP g (indexP g c).toNat) = indexP g c
  rw [h2]; exact h3.symm

/-- a way on from a cell, come to by a direction, to a place, and what it costs -/
inductive Wk (g : Gr) (to : Int × Int) : Int × Int → Nat → Int → Prop
  | base (d : Nat) (hd : d < 4) : Wk g to to d 0
  | step (c : Int × Int) (d : Nat) (v : Int) (e : Nat) (h : Wk g to c d v) (ho : openP g (besideP c (d + 2)) = true) (he : e < 4) : Wk g to (besideP c (d + 2)) e (v + stepP g e d)
theorem Wk.dir {g : Gr} {to c : Int × Int} {d : Nat} {v : Int} (h : Wk g to c d v) : d < 4 := by
  cases h <;> assumption
theorem Wk.op {g : Gr} {to c : Int × Int} {d : Nat} {v : Int} (h : Wk g to c d v) (ht : openP g to = true) : openP g c = true := by
  cases h <;> assumption
theorem Wk.nonneg {g : Gr} (hg : GrOk g) {to c : Int × Int} {d : Nat} {v : Int} (h : Wk g to c d v) : 0 ≤ v := by
  induction h with
  | base => exact Int.le_refl _
  | step c d v e h ho he ih => have := (stepP_le hg e d).1; omega

structure Snd (g : Gr) (to : Int × Int) (s : List Pl × List (List Int)) : Prop where
  hp : ∀ e ∈ s.1, Wk g to (cellP g e.1.toNat) e.2.1.toNat e.2.2
  out : ∀ i d, i < g.w * g.h → d < 4 → 0 ≤ outGet s.2 i d → Wk g to (cellP g i) d (outGet s.2 i d)
def Cov (s : List Pl × List (List Int)) (i d : Nat) (v : Int) : Prop :=
  (0 ≤ outGet s.2 i d ∧ outGet s.2 i d ≤ v) ∨ ∃ x ∈ s.1, x.1 = i ∧ x.2.1 = d ∧ x.2.2 ≤ v
structure DI (g : Gr) (to : Int × Int) (s : List Pl × List (List Int)) : Prop where
  heap : HeapTo s.1 s.1.length
  mono : ∀ i d, i < g.w * g.h → d < 4 → 0 ≤ outGet s.2 i d → ∀ e ∈ s.1, outGet s.2 i d ≤ e.2.2
  start : ∀ d, d < 4 → Cov s (indexP g to).toNat d 0
  next : ∀ i d, i < g.w * g.h → d < 4 → 0 ≤ outGet s.2 i d → openP g (besideP (cellP g i) (d + 2)) = true → ∀ e, e < 4 → Cov s (indexP g (besideP (cellP g i) (d + 2))).toNat e (outGet s.2 i d + stepP g e d)

theorem turn_di {g : Gr} (hg : GrOk g) {to : Int × Int} {s : List Pl × List (List Int)} (h : FInv g s) (hs : Snd g to s) (hd : DI g to s) (hn : 0 < s.1.length) : Snd g to (turnP g s) ∧ DI g to (turnP g s) := by
  have hx : popX s.1 ∈ s.1 := (pop_mem hn _).2 (.inl rfl)
  have hr : ∀ e ∈ popR s.1, e ∈ s.1 := fun e he => (pop_mem hn _).2 (.inr he)
  have hmin : ∀ e ∈ s.1, (popX s.1).2.2 ≤ e.2.2 := fun e he => pop_min hn hd.heap e he
  have hph := pop_heap hn hd.heap
  have hin : ∀ e ∈ s.1, e = popX s.1 ∨ e ∈ popR s.1 := fun e he => (pop_mem hn _).1 he
  have hwx := hs.hp _ hx
  obtain ⟨x1, x2, x3, x4, x5, x6⟩ := h.hp _ hx
  obtain ⟨i, hi⟩ : ∃ i : Nat, (popX s.1).1 = i := ⟨(popX s.1).1.toNat, by omega⟩
  obtain ⟨d, hd'⟩ : ∃ d : Nat, (popX s.1).2.1 = d := ⟨(popX s.1).2.1.toNat, by omega⟩
  obtain ⟨c, hc⟩ : ∃ c, (popX s.1).2.2 = c := ⟨_, rfl⟩
  rw [hc] at x5
  rw [hi, hd', hc, Int.toNat_natCast, Int.toNat_natCast] at hwx
  have hiN : i < g.w * g.h := by rw [hi] at x2; exact_mod_cast x2
  have hd4 : d < 4 := by omega
  have hrow := h.row i hiN
  unfold turnP
  simp only [hi, hd', hc, Int.toNat_natCast]
  by_cases hset : 0 ≤ outGet s.2 i d
  · rw [if_pos hset]
    have hcov : ∀ j e v, Cov s j e v → Cov (popR s.1, s.2) j e v := fun j e v hv => by
      rcases hv with hv | ⟨x, h1, h2, h3, h4⟩
      · exact .inl hv
      · rcases hin x h1 with rfl | h5
        · rw [hi] at h2; rw [hd'] at h3
          obtain rfl : i = j := by exact_mod_cast h2
          obtain rfl : d = e := by exact_mod_cast h3
          exact .inl ⟨hset, Int.le_trans (hd.mono i d hiN hd4 hset _ hx) h4⟩
        · exact .inr ⟨x, h5, h2, h3, h4⟩
    exact ⟨⟨fun e he => hs.hp e (hr e he), hs.out⟩, ⟨hph, fun j e hj he h0 x hx' => hd.mono j e hj he h0 x (hr x hx'), fun e he => hcov _ _ _ (hd.start e he), fun j e hj he h0 ho f hf => hcov _ _ _ (hd.next j e hj he h0 ho f hf)⟩⟩
  · rw [if_neg hset]
    have hget : ∀ j e, outGet (outSet s.2 i d c) j e = if j = i ∧ e = d then c else outGet s.2 j e := outSet_get (by rw [h.len]; exact hiN) (by omega)
    -- what holds for any heap that has the rest
    have main : ∀ l : List Pl, HeapTo l l.length → (∀ e ∈ popR s.1, e ∈ l) → (∀ e ∈ l, e ∈ popR s.1 ∨ (c ≤ e.2.2 ∧ Wk g to (cellP g e.1.toNat) e.2.1.toNat e.2.2)) →
        (openP g (besideP (cellP g i) (d + 2)) = true → ∀ e : Nat, e < 4 → ∃ x ∈ l, x.1 = ((indexP g (besideP (cellP g i) (d + 2))).toNat : Int) ∧ x.2.1 = (e : Int) ∧ x.2.2 ≤ c + stepP g e d) →
        Snd g to (l, outSet s.2 i d c) ∧ DI g to (l, outSet s.2 i d c) := fun l hl hsub hnew hback => by
      have hcov : ∀ j e v, Cov s j e v → Cov (l, outSet s.2 i d c) j e v := fun j e v hv => by
        rcases hv with ⟨h1, h2⟩ | ⟨x, h1, h2, h3, h4⟩
        · left
          dsimp only
          rw [hget]
          split
          · next he => obtain ⟨rfl, rfl⟩ := he; exact absurd h1 hset
          · exact ⟨h1, h2⟩
        · rcases hin x h1 with rfl | h5
          · rw [hi] at h2; rw [hd'] at h3; rw [hc] at h4
            obtain rfl : i = j := by exact_mod_cast h2
            obtain rfl : d = e := by exact_mod_cast h3
            left
            dsimp only
            rw [hget, if_pos ⟨rfl, rfl⟩]
            exact ⟨x5, h4⟩
          · exact .inr ⟨x, hsub x h5, h2, h3, h4⟩
      refine ⟨⟨fun e he => ?_, fun j e hj he h0 => ?_⟩, ⟨hl, fun j e hj he h0 x hx' => ?_, fun e he => hcov _ _ _ (hd.start e he), fun j e hj he h0 ho f hf => ?_⟩⟩
      · rcases hnew e he with h1 | h1
        · exact hs.hp e (hr e h1)
        · exact h1.2
      · dsimp only at h0 ⊢
        rw [hget] at h0 ⊢
        split
        · next he' => obtain ⟨rfl, rfl⟩ := he'; exact hwx
        · next he' => rw [if_neg he'] at h0; exact hs.out j e hj he h0
      · dsimp only at h0 hx' ⊢
        rw [hget] at h0 ⊢
        have hcx : c ≤ x.2.2 := by
          rcases hnew x hx' with h1 | h1
          · rw [← hc]; exact hmin x (hr x h1)
          · exact h1.1
        split
        · exact hcx
        · next he' =>
          rw [if_neg he'] at h0
          have := hd.mono j e hj he h0 _ hx
          rw [hc] at this
          omega
      · dsimp only at h0 ho ⊢
        rw [hget] at h0 ⊢
        split
        · next he' =>
          obtain ⟨rfl, rfl⟩ := he'
          obtain ⟨x, h1, h2, h3, h4⟩ := hback ho f hf
          exact .inr ⟨x, h1, h2, h3, h4⟩
        · next he' => rw [if_neg he'] at h0; exact hcov _ _ _ (hd.next j e hj he h0 ho f hf)
    by_cases ho : openP g (besideP (cellP g i) (d + 2)) = true
    · rw [if_pos ho]
      have hon : onP g.w g.h (besideP (cellP g i) (d + 2)) = true := openP_on ho
      have hix := hg.index hon
      change Snd g to (pushesP (popR s.1) (fun k => (indexP g (besideP (cellP g i) (d + 2)), (k : Int), c + stepP g k d)) 4, outSet s.2 i d c) ∧ DI g to (pushesP (popR s.1) (fun k => (indexP g (besideP (cellP g i) (d + 2)), (k : Int), c + stepP g k d)) 4, outSet s.2 i d c)
      refine main _ (pushesP_heap _ hph 4) (fun e he => (pushesP_mem _ _ _ _).2 (.inr he)) (fun e he => ?_) (fun _ e he => ?_)
      · rcases (pushesP_mem _ _ _ _).1 he with ⟨k, hk, rfl⟩ | he
        · right
          have := (stepP_le hg k d).1
          refine ⟨by dsimp only; omega, ?_⟩
          dsimp only
          rw [cell_index hg hon, Int.toNat_natCast]
          exact Wk.step _ _ _ k hwx ho hk
        · exact .inl he
      · refine ⟨_, (pushesP_mem _ _ _ _).2 (.inl ⟨e, he, rfl⟩), ?_, rfl, Int.le_refl _⟩
        have := hix.2.2.2.2.1
        dsimp only; omega
    · rw [if_neg ho]
      exact main _ hph (fun e he => he) (fun e he => .inl he) (fun h1 => absurd h1 ho)

theorem startP_eq (g : Gr) (to : Int × Int) : startP g to = (pushesP [] (fun d => (indexP g to, (d : Int), 0)) 4, List.replicate (g.w * g.h) [-1, -1, -1, -1]) := rfl
theorem no_start (n i d : Nat) (hi : i < n) (hd : d < 4) : ¬ 0 ≤ outGet (List.replicate n [-1, -1, -1, -1]) i d := by
  unfold outGet
  rw [List.getD_eq_getElem?_getD (l := List.replicate n [-1, -1, -1, -1]), List.getElem?_replicate, if_pos hi]
  rcases (by omega : d = 0 ∨ d = 1 ∨ d = 2 ∨ d = 3) with rfl | rfl | rfl | rfl <;> decide
theorem heap_nil : HeapTo ([] : List Pl) ([] : List Pl).length := fun _ _ h2 => absurd h2 (Nat.not_lt_zero _)
theorem start_di {g : Gr} (hg : GrOk g) {to : Int × Int} (ht : onP g.w g.h to = true) : Snd g to (startP g to) ∧ DI g to (startP g to) := by
  have hix := hg.index ht
  have hmem : ∀ y, y ∈ pushesP [] (fun d => (indexP g to, (d : Int), 0)) 4 ↔ ∃ d : Nat, d < 4 ∧ y = (indexP g to, (d : Int), 0) := fun y => by
    rw [pushesP_mem]; simp
  have hheap := pushesP_heap (fun d => (indexP g to, (d : Int), 0)) heap_nil 4
  rw [startP_eq]
  generalize pushesP [] (fun d => (indexP g to, (d : Int), 0)) 4 = l at hmem hheap
  refine ⟨⟨fun e he => ?_, fun i d hi hd h0 => absurd h0 (no_start _ i d hi hd)⟩, ⟨hheap, fun i d hi hd h0 => absurd h0 (no_start _ i d hi hd), fun d hd => ?_, fun i d hi hd h0 => absurd h0 (no_start _ i d hi hd)⟩⟩
  · obtain ⟨k, hk, rfl⟩ := (hmem e).1 he
    dsimp only
    rw [cell_index hg ht, Int.toNat_natCast]
    exact Wk.base k hk
  · right
    refine ⟨(indexP g to, (d : Int), 0), (hmem _).2 ⟨d, hd, rfl⟩, ?_, rfl, Int.le_refl _⟩
    have := hix.2.2.2.2.1
    dsimp only; omega
theorem loopP_di {g : Gr} (hg : GrOk g) {to : Int × Int} : ∀ (f : Nat) (s : List Pl × List (List Int)), FInv g s → Snd g to s → DI g to s → Snd g to (loopP g f s) ∧ DI g to (loopP g f s)
  | 0, s, _, h2, h3 => ⟨h2, h3⟩
  | f + 1, s, h1, h2, h3 => by
    unfold loopP
    by_cases h0 : s.1.length = 0
    · rw [if_pos h0]; exact ⟨h2, h3⟩
    · rw [if_neg h0]
      obtain ⟨h4, h5⟩ := turn_di hg h1 h2 h3 (by omega)
      exact loopP_di hg f _ (turn_inv hg h1 (by omega)).1 h4 h5
theorem fieldP_di {g : Gr} (hg : GrOk g) {to : Int × Int} (ht : onP g.w g.h to = true) : Snd g to ([], fieldP g to) ∧ DI g to ([], fieldP g to) := by
  obtain ⟨h1, h2⟩ := start_inv hg ht
  obtain ⟨h3, h4⟩ := loopP_inv hg _ _ h1 (Nat.le_of_eq h2)
  obtain ⟨h5, h6⟩ := start_di hg ht
  have h7 := loopP_di hg (4 + 20 * (g.w * g.h)) _ h1 h5 h6
  unfold fieldP
  rwa [← h4]

/-- each number of the field is what some way costs -/
theorem field_sound {g : Gr} (hg : GrOk g) {to : Int × Int} (ht : onP g.w g.h to = true) {c : Int × Int} (hc : onP g.w g.h c = true) {d : Nat} (hd : d < 4) (h0 : 0 ≤ outGet (fieldP g to) (indexP g c).toNat d) : Wk g to c d (outGet (fieldP g to) (indexP g c).toNat d) := by
  have h1 := hg.index hc
  have := (fieldP_di hg ht).1.out (indexP g c).toNat d (by have := h1.2.2.2.2; omega) hd h0
  rwa [cell_index hg hc] at this
/-- and no way costs less -/
theorem field_least {g : Gr} (hg : GrOk g) {to : Int × Int} (ht : openP g to = true) {c : Int × Int} {d : Nat} {v : Int} (h : Wk g to c d v) : 0 ≤ outGet (fieldP g to) (indexP g c).toNat d ∧ outGet (fieldP g to) (indexP g c).toNat d ≤ v := by
  have hd := (fieldP_di hg (openP_on ht)).2
  have hcov : ∀ i d v, Cov ([], fieldP g to) i d v → 0 ≤ outGet (fieldP g to) i d ∧ outGet (fieldP g to) i d ≤ v := fun i d v hv => by
    rcases hv with hv | ⟨x, h1, _⟩
    · exact hv
    · cases h1
  induction h with
  | base d hd4 => exact hcov _ _ _ (hd.start d hd4)
  | step c d v e h ho he ih =>
    have hon := openP_on (h.op ht)
    have hix := hg.index hon
    have h1 := hd.next (indexP g c).toNat d (by have := hix.2.2.2.2; omega) h.dir ih.1
    rw [cell_index hg hon] at h1
    have h2 := hcov _ _ _ (h1 ho e he)
    have h3 := ih.2
    dsimp only at h2
    exact ⟨h2.1, by omega⟩
end Go.Proofs.Ytpakkjkjppibnaa

namespace Go.Proofs.Ytpakkjkjppibnaa
open Go.RowKit

/-- whether a step from a cell leads on -/
def hitB (g : Gr) (F : List (List Int)) (c : Int × Int) (d : Nat) : Bool := openP g (besideP c d) && decide (0 ≤ outGet F (indexP g (besideP c d)).toNat d)
def stepV (g : Gr) (F : List (List Int)) (c : Int × Int) (d : Nat) : Int := g.move + outGet F (indexP g (besideP c d)).toNat d
theorem begStep_eq (g : Gr) (F : List (List Int)) (c : Int × Int) (s : Int × Int) (d : Nat) : begStep g F c s d = if hitB g F c d = true then (if s.1 < 0 then (stepV g F c d, (d : Int)) else if stepV g F c d < s.1 then (stepV g F c d, (d : Int)) else s) else s := by
  unfold begStep hitB stepV
  cases openP g (besideP c d) with
  | false => rfl
  | true =>
    by_cases h : outGet F (indexP g (besideP c d)).toNat d < 0
    · rw [if_pos rfl, if_pos h, if_neg]
      simp; omega
    · have hh : (true && decide (0 ≤ outGet F (indexP g (besideP c d)).toNat d)) = true := by simp; omega
      rw [if_pos rfl, if_neg h, if_pos hh]
theorem begins_spec {g : Gr} (hg : GrOk g) (F : List (List Int)) (c : Int × Int) : ∀ k,
    (beginsP g F c k = (-1, 0) ∧ ∀ d, d < k → hitB g F c d = false) ∨
    (∃ d, d < k ∧ hitB g F c d = true ∧ beginsP g F c k = (stepV g F c d, (d : Int)) ∧ 0 ≤ stepV g F c d ∧ (∀ e, e < k → hitB g F c e = true → stepV g F c d ≤ stepV g F c e) ∧ ∀ e, e < d → hitB g F c e = true → stepV g F c d < stepV g F c e)
  | 0 => .inl ⟨rfl, fun d h => absurd h (Nat.not_lt_zero _)⟩
  | k + 1 => by
    have hpos : hitB g F c k = true → 0 ≤ stepV g F c k := fun h => by
      unfold hitB at h
      simp at h
      have := hg.m1
      unfold stepV
      omega
    rw [beginsP_succ, begStep_eq]
    rcases begins_spec hg F c k with ⟨h1, h2⟩ | ⟨d, h1, h2, h3, h4, h5, h6⟩
    · rw [h1]
      by_cases hh : hitB g F c k = true
      · rw [if_pos hh, if_pos (by decide)]
        refine .inr ⟨k, by omega, hh, rfl, hpos hh, fun e he hit => ?_, fun e he hit => ?_⟩
        · rcases (by omega : e < k ∨ e = k) with h7 | rfl
          · rw [h2 e h7] at hit; cases hit
          · exact Int.le_refl _
        · rw [h2 e he] at hit; cases hit
      · rw [if_neg hh]
        refine .inl ⟨rfl, fun d hd => ?_⟩
        rcases (by omega : d < k ∨ d = k) with h7 | rfl
        · exact h2 d h7
        · simpa using hh
    · rw [h3]
      by_cases hh : hitB g F c k = true
      · rw [if_pos hh, if_neg (by dsimp only; omega)]
        by_cases hlt : stepV g F c k < stepV g F c d
        · rw [if_pos hlt]
          refine .inr ⟨k, by omega, hh, rfl, hpos hh, fun e he hit => ?_, fun e he hit => ?_⟩
          · rcases (by omega : e < k ∨ e = k) with h7 | rfl
            · have := h5 e h7 hit; omega
            · exact Int.le_refl _
          · have := h5 e he hit; omega
        · rw [if_neg hlt]
          refine .inr ⟨d, by omega, h2, rfl, h4, fun e he hit => ?_, h6⟩
          rcases (by omega : e < k ∨ e = k) with h7 | rfl
          · exact h5 e h7 hit
          · omega
      · rw [if_neg hh]
        refine .inr ⟨d, by omega, h2, rfl, h4, fun e he hit => ?_, h6⟩
        rcases (by omega : e < k ∨ e = k) with h7 | rfl
        · exact h5 e h7 hit
        · exact absurd hit hh

/-- a path that begins at a cell, and what it costs -/
def Way (g : Gr) (to c : Int × Int) (v : Int) : Prop := ∃ d u, d < 4 ∧ openP g (besideP c d) = true ∧ Wk g to (besideP c d) d u ∧ v = g.move + u
theorem Way.pos {g : Gr} (hg : GrOk g) {to c : Int × Int} {v : Int} (h : Way g to c v) : 0 < v := by
  obtain ⟨d, u, _, _, h1, rfl⟩ := h
  have := h1.nonneg hg
  have := hg.m1
  omega
/-- what begins answers over the field -/
theorem begins_way {g : Gr} (hg : GrOk g) {to : Int × Int} (ht : openP g to = true) (c : Int × Int) :
    ((beginsP g (fieldP g to) c 4).1 = -1 ∧ ∀ v, ¬ Way g to c v) ∨ (Way g to c (beginsP g (fieldP g to) c 4).1 ∧ ∀ v, Way g to c v → (beginsP g (fieldP g to) c 4).1 ≤ v) := by
  have hon := openP_on ht
  have hof : ∀ d u, d < 4 → openP g (besideP c d) = true → Wk g to (besideP c d) d u → hitB g (fieldP g to) c d = true ∧ stepV g (fieldP g to) c d ≤ g.move + u := fun d u hd ho hw => by
    have := field_least hg ht hw
    refine ⟨by unfold hitB; rw [ho, decide_eq_true this.1]; rfl, by unfold stepV; omega⟩
  rcases begins_spec hg (fieldP g to) c 4 with ⟨h1, h2⟩ | ⟨d, h1, h2, h3, h4, h5, h6⟩
  · rw [h1]
    refine .inl ⟨rfl, fun v ⟨d, u, hd, ho, hw, _⟩ => ?_⟩
    have := (hof d u hd ho hw).1
    rw [h2 d hd] at this
    cases this
  · rw [h3]
    unfold hitB at h2
    simp at h2
    refine .inr ⟨⟨d, _, h1, h2.1, field_sound hg hon (openP_on h2.1) h1 h2.2, rfl⟩, fun v ⟨e, u, he, ho, hw, hv⟩ => ?_⟩
    have h7 := hof e u he ho hw
    have h8 := h5 e he h7.1
    dsimp only
    omega
/-- what Far says of a cell -/
theorem far_spec {g : Gr} (hg : GrOk g) {to : Int × Int} (ht : openP g to = true) (i : Nat) :
    (cellP g i = to ∧ farCell g (fieldP g to) to i = 0) ∨ (cellP g i ≠ to ∧ openP g (cellP g i) = false ∧ farCell g (fieldP g to) to i = -1) ∨
    (cellP g i ≠ to ∧ openP g (cellP g i) = true ∧ farCell g (fieldP g to) to i = -1 ∧ ∀ v, ¬ Way g to (cellP g i) v) ∨
    (cellP g i ≠ to ∧ openP g (cellP g i) = true ∧ 0 ≤ farCell g (fieldP g to) to i ∧ Way g to (cellP g i) (farCell g (fieldP g to) to i) ∧ ∀ v, Way g to (cellP g i) v → farCell g (fieldP g to) to i ≤ v) := by
  unfold farCell
  by_cases hc : cellP g i = to
  · rw [if_pos hc]; exact .inl ⟨hc, rfl⟩
  · rw [if_neg hc]
    cases ho : openP g (cellP g i) with
    | false => exact .inr (.inl ⟨hc, rfl, rfl⟩)
    | true =>
      rw [if_pos rfl]
      rcases begins_way hg ht (cellP g i) with ⟨h1, h2⟩ | ⟨h1, h2⟩
      · exact .inr (.inr (.inl ⟨hc, rfl, h1, h2⟩))
      · exact .inr (.inr (.inr ⟨hc, rfl, by have := h1.pos hg; omega, h1, h2⟩))

/-! ### proofs -/
def farAt (g : Gr) (far : List Int) (c : Int × Int) : Int := far.getD (indexP g c).toNat 0
theorem proof_top {g : Gr} (hg : GrOk g) {to : Int × Int} {far : List Int} (h : proofB g to far = true) (ht : onP g.w g.h to = true) : farAt g far to ≤ 0 := by
  unfold proofB at h
  rw [Bool.not_eq_true', List.any_eq_false] at h
  have h1 := hg.index ht
  have h2 := h (indexP g to).toNat (List.mem_range.2 (by have := h1.2.2.2.2; omega))
  unfold cellBad at h2
  rw [Bool.or_eq_true, not_or] at h2
  have h3 := h2.1
  unfold topBad at h3
  rw [cell_index hg ht] at h3
  simp at h3
  exact h3
theorem proof_step {g : Gr} (hg : GrOk g) {to : Int × Int} {far : List Int} (h : proofB g to far = true) {c : Int × Int} {d : Nat} (hd : d < 4) (h1 : openP g c = true) (h2 : openP g (besideP c d) = true) : farAt g far c ≤ farAt g far (besideP c d) + g.move := by
  unfold proofB at h
  rw [Bool.not_eq_true', List.any_eq_false] at h
  have hon := openP_on h1
  have h3 := hg.index hon
  have h4 := h (indexP g c).toNat (List.mem_range.2 (by have := h3.2.2.2.2; omega))
  unfold cellBad at h4
  rw [Bool.or_eq_true, not_or] at h4
  have h5 := h4.2
  rw [List.any_eq_true] at h5
  have h6 : ¬ stepBad g far (indexP g c).toNat d = true := fun hh => h5 ⟨d, List.mem_range.2 hd, hh⟩
  unfold stepBad at h6
  rw [cell_index hg hon, h1, h2] at h6
  simp at h6
  unfold farAt
  simpa using h6
theorem proof_wk {g : Gr} (hg : GrOk g) {to : Int × Int} {far : List Int} (h : proofB g to far = true) (ht : openP g to = true) {c : Int × Int} {d : Nat} {v : Int} (hw : Wk g to c d v) : farAt g far c ≤ v := by
  induction hw with
  | base d hd => exact proof_top hg h (openP_on ht)
  | step c d v e hw ho he ih =>
    have h1 := proof_step hg h hw.dir ho (by rw [beside_back c hw.dir]; exact hw.op ht)
    rw [beside_back c hw.dir] at h1
    have : g.move ≤ stepP g e d := by unfold stepP; have := hg.b1; split <;> omega
    omega
/-- no path costs less than a proof says -/
theorem proof_far {g : Gr} (hg : GrOk g) {to : Int × Int} {far : List Int} (h : proofB g to far = true) (ht : openP g to = true) {i : Nat} (h0 : 0 ≤ farCell g (fieldP g to) to i) : far.getD i 0 ≤ farCell g (fieldP g to) to i := by
  have e : far.getD i 0 = farAt g far (cellP g i) := by unfold farAt; rw [index_cell hg]; rfl
  rw [e]
  rcases far_spec hg ht i with ⟨h1, h2⟩ | ⟨_, _, h2⟩ | ⟨_, _, h2, _⟩ | ⟨_, ho, _, ⟨d, u, hd, hn, hw, hv⟩, _⟩
  · rw [h2, h1]; exact proof_top hg h (openP_on ht)
  · omega
  · omega
  · rw [hv]
    have h1 := proof_step hg h hd ho hn
    have h2 := proof_wk hg h ht hw
    omega

/-! ### distances -/
def distC (mv : Int) (to c : Int × Int) : Int := mv * (max (c.1 - to.1) (-(c.1 - to.1)) + max (c.2 - to.2) (-(c.2 - to.2)))
theorem distL_at (w : Nat) (mv : Int) (to : Int × Int) {N i : Nat} (hi : i < N) : (distL w mv to N).getD i 0 = distCell w mv to i := by
  rw [List.getD_eq_getElem?_getD]
  unfold distL
  rw [List.getElem?_map, List.getElem?_range hi]
  rfl
theorem distC_le {mv : Int} (hm : 1 ≤ mv) (to c : Int × Int) {d : Nat} (hd : d < 4) : distC mv to c ≤ distC mv to (besideP c d) + mv := by
  obtain ⟨x, y⟩ := c
  obtain ⟨a, b⟩ := to
  unfold distC
  have key : ∀ s t : Int, s ≤ t + 1 → mv * s ≤ mv * t + mv := fun s t h => by
    have := Int.mul_le_mul_of_nonneg_left h (by omega : 0 ≤ mv)
    rw [Int.mul_add, Int.mul_one] at this
    exact this
  apply key
  rcases (by omega : d = 0 ∨ d = 1 ∨ d = 2 ∨ d = 3) with rfl | rfl | rfl | rfl <;> simp only [besideP] <;> omega
theorem dist_proof {g : Gr} (hg : GrOk g) (to : Int × Int) : proofB g to (distL g.w g.move to (g.w * g.h)) = true := by
  refine proofB_true fun i hi => cellBad_not ?_ fun d hd => ?_
  · unfold topBad
    rw [distL_at _ _ _ hi]
    by_cases hc : cellP g i = to
    · have : distCell g.w g.move to i = 0 := by
        have e : distCell g.w g.move to i = distC g.move to (cellP g i) := rfl
        rw [e, hc]
        unfold distC
        rw [Int.sub_self, Int.sub_self]
        simp
      rw [this]; simp
    · rw [decide_eq_false hc]; rfl
  · unfold stepBad
    cases ho : openP g (cellP g i) with
    | false => rfl
    | true =>
      cases hn : openP g (besideP (cellP g i) d) with
      | false => rfl
      | true =>
        have hon := openP_on hn
        have h1 := hg.index hon
        have hj : (indexP g (besideP (cellP g i) d)).toNat < g.w * g.h := by have := h1.2.2.2.2; omega
        rw [distL_at _ _ _ hi, distL_at _ _ _ hj]
        have e1 : distCell g.w g.move to i = distC g.move to (cellP g i) := rfl
        have e2 : distCell g.w g.move to (indexP g (besideP (cellP g i) d)).toNat = distC g.move to (besideP (cellP g i) d) := by
          have : distCell g.w g.move to (indexP g (besideP (cellP g i) d)).toNat = distC g.move to (cellP g (indexP g (besideP (cellP g i) d)).toNat) := rfl
          rw [this, cell_index hg hon]
        rw [e1, e2]
        have := distC_le hg.m1 to (cellP g i) hd
        simp
        omega
theorem dist_in {g : Gr} (hg : GrOk g) {to : Int × Int} (ht : onP g.w g.h to = true) : ((distL g.w g.move to (g.w * g.h)).all fun n => inB (-1000000000) n 1000000000) = true := by
  rw [List.all_eq_true]
  intro x hx
  unfold distL at hx
  obtain ⟨i, hi, rfl⟩ := List.mem_map.1 hx
  have hi' := List.mem_range.1 hi
  have h1 := cellP_near hg hi'
  have h2 := hg.index ht
  have w2 := hg.w2
  have h3 := hg.h2
  have e1 : distCell g.w g.move to i = distC g.move to (cellP g i) := rfl
  rw [e1]
  unfold distC
  have a1 : 0 ≤ max ((cellP g i).1 - to.1) (-((cellP g i).1 - to.1)) + max ((cellP g i).2 - to.2) (-((cellP g i).2 - to.2)) ∧ max ((cellP g i).1 - to.1) (-((cellP g i).1 - to.1)) + max ((cellP g i).2 - to.2) (-((cellP g i).2 - to.2)) ≤ 100 := by omega
  have a2 : 0 ≤ g.move * (max ((cellP g i).1 - to.1) (-((cellP g i).1 - to.1)) + max ((cellP g i).2 - to.2) (-((cellP g i).2 - to.2))) := Int.mul_nonneg (by have := hg.m1; omega) a1.1
  have a3 : g.move * (max ((cellP g i).1 - to.1) (-((cellP g i).1 - to.1)) + max ((cellP g i).2 - to.2) (-((cellP g i).2 - to.2))) ≤ 1000 * 100 := Int.mul_le_mul hg.m2 a1.2 a1.1 (by omega)
  unfold inB
  simp
  omega
end Go.Proofs.Ytpakkjkjppibnaa

namespace Go.Proofs.Ytpakkjkjppibnaa
open Go.RowKit

set_option maxRecDepth 100000 in
theorem small_any (w h mv bd : Int) (bv : Value) (bl : List (Int × Int)) (W : World) (hv : RdP W bv bl) :
    Calls Try.prog 12 #[.agg #[.int .i64 w, .int .i64 h, .int .i64 mv, .int .i64 bd, bv]] W fun e w' => e = .returned (.bool (!validP w h mv bd bl || decide (w * h ≤ 144))) ∧ Below W.heap.size W w' := by
  have hbW := Lib.hid ((Below.refl W.heap.size W).alloc (Nat.le_refl _) (.cells #[.int .i64 w, .int .i64 h, .int .i64 mv, .int .i64 bd, bv] 24))
  have HGX := Lib.hid (GBx.new1 W w h mv bd bv 24)
  have HVA := Lib.hid (fun V (hV : Below W.heap.size W V) => refValid_any w h mv bd bv bl V (hv.below hV))
  obtain ⟨a, cap, rfl, hc, hcm, _, _⟩ := hv
  cases hb : validP w h mv bd bl with
  | false =>
    rw [hb] at HVA
    clear hb
    go_enter Try.func12, Try.ntmps12
    go_wp2_with (go_at_call 22; (with_reducible refine (HVA.out _ hbW.out).mono ?_); rintro e w1 ⟨rfl, hb1⟩)
    go_ret
    exact ⟨rfl, hbW.out.trans (hb1.mono (by simp))⟩
  | true =>
    rw [hb] at HVA
    have hp := ((validP_iff _ _ _ _ _).1 hb).1
    have h0 : 0 ≤ w * h ∧ w * h ≤ 900 := ⟨Int.mul_nonneg (by omega) (by omega), Int.mul_le_mul (by omega : w ≤ 30) (by omega : h ≤ 30) (by omega) (by omega)⟩
    obtain ⟨n, hn⟩ : ∃ n, w * h = n := ⟨_, rfl⟩
    rw [hn] at h0 ⊢
    have hwn : IntKind.i64.wrap n = n := IntWalk.i64_in _ (by clear hn; omega)
    clear hb hp
    go_enter Try.func12, Try.ntmps12
    go_wp2_with (go_at_call 22; (with_reducible refine (HVA.out _ hbW.out).mono ?_); rintro e w1 ⟨rfl, hb1⟩; obtain ⟨c0, c1, c2, c3, c4⟩ := HGX.out.below hb1)
    go_ret
    exact ⟨by simp, hbW.out.trans (hb1.mono (by simp))⟩
end Go.Proofs.Ytpakkjkjppibnaa
