/- Layout: IsProof, as the program computes it. -/
import Derived.Test.YtpakkjkjppibnaaGProofP
namespace Go.Proofs.Ytpakkjkjppibnaa
open Go.RowKit

/-- A predicate handed to the library: what it says of the cell of index j. -/
def PredB (g : Nat) (lb : Array Value) (cs : List Value) (p : Nat → Bool) (w : World) : Prop :=
  ∀ (W : World) (j : Nat) (x : Value), cs[j]? = some x → Below w.heap.size w W → Calls Try.prog g (#[x] ++ lb) W fun e w' => e = .returned (.bool (p j)) ∧ Below W.heap.size W w'

set_option maxHeartbeats 1000000 in
theorem idx_int (p : Nat → Bool) (g : Nat) (lb : Array Value) (eg : ∀ args w, (callFunc g args).run Try.prog w = .ok (.enter g args) w) (cs : List Value) (v : Value) (w : World) (hp : PredB g lb cs p w) (hv : Rd w v cs) (hn : cs.length ≤ 4000000) :
    Calls Try.prog 79 #[v, .func (.func g) #[] lb] w fun e w' => e = .returned (.int .i64 (firstP p cs.length)) ∧ Below w.heap.size w w' := by
  obtain ⟨a, cap, rfl, hc, hcm, ha, _⟩ := hv
  have HP := Lib.hid hp
  clear hp
  go_enter Try.func79, Try.ntmps79
  go_wp2
  go_loopw [5, 8] (fun _ s8 wr => ∃ kk : Nat, kk ≤ cs.length ∧ s8 = .int .i64 kk ∧ Below w.heap.size w wr ∧ Hid (∀ j, j < kk → p j = false)) (fun _ s8 _ => cs.length - (intOf s8).toNat)
  case atStart => exact ⟨0, Nat.zero_le _, rfl, Below.refl _ w, Lib.hid fun j hj => absurd hj (Nat.not_lt_zero _)⟩
  case round =>
    obtain ⟨kk, hkk, rfl, BW, A⟩ := hrel
    by_cases hlt : kk < cs.length
    · obtain ⟨b, off, rfl, hcell⟩ := (ha.below BW (Nat.le_refl _)).cell (j := kk) hlt
      obtain ⟨x, hx⟩ : ∃ x, cs[kk]? = some x := ⟨_, List.getElem?_eq_getElem hlt⟩
      have c1 := hcell kk _ hx
      have hcall := Lib.hid (HP.out wr kk x hx BW)
      clear hcell hx ha
      cases hq : p kk with
      | true =>
        rw [hq] at hcall
        have HF := Lib.hid (firstP_hit hlt hq A.out)
        clear hq
        go_wp2_with (go_at_fn g; refine hcall.out.mono ?_; rintro e w' ⟨rfl, hb'⟩)
        go_ret
        exact ⟨by rw [HF.out]; rfl, BW.trans (hb'.mono BW.size)⟩
      | false =>
        rw [hq] at hcall
        have HA : Hid (∀ j, j < kk + 1 → p j = false) := Lib.hid fun j hj => by
          by_cases e : j = kk
          · subst e; exact hq
          · exact A.out j (by omega)
        clear hq
        go_wp2_with (go_at_fn g; refine hcall.out.mono ?_; rintro e w' ⟨rfl, hb'⟩)
        go_roundw
        case rel => exact ⟨kk + 1, by omega, by go_num, BW.trans (hb'.mono BW.size), HA⟩
        case measure => simp [intOf]; omega
    · obtain rfl : kk = cs.length := by omega
      have HF := Lib.hid (firstP_miss A.out)
      go_wp2
      go_ret
      exact ⟨by rw [HF.out]; rfl, BW⟩

theorem has_int (p : Nat → Bool) (g : Nat) (lb : Array Value) (eg : ∀ args w, (callFunc g args).run Try.prog w = .ok (.enter g args) w) (cs : List Value) (v : Value) (w : World) (hp : PredB g lb cs p w) (hv : Rd w v cs) (hn : cs.length ≤ 4000000) (t : Bool) (ht : (List.range cs.length).any p = t) :
    Calls Try.prog 50 #[v, .func (.func g) #[] lb] w fun e w' => e = .returned (.bool t) ∧ Below w.heap.size w w' := by
  have hcall := Lib.hid (idx_int p g lb eg cs v w hp hv hn)
  have ht2 : Hid (decide (0 ≤ firstP p cs.length) = t) := Lib.hid (by rw [firstP_any]; exact ht)
  obtain ⟨a, cap, rfl, hc, hcm, ha, _⟩ := hv
  generalize firstP p cs.length = y at hcall ht2
  clear ht hp ha
  go_enter Try.func50, Try.ntmps50
  go_wp2_with (go_at_call 79; refine hcall.out.mono ?_; rintro e w' ⟨rfl, hb'⟩)
  go_ret
  exact ⟨by rw [ht2.out]; rfl, hb'⟩

theorem any_not_all (l : List Int) (lo hi : Int) : (List.range l.length).any (fun j => !inB lo (l.getD j 0) hi) = !(l.all fun n => inB lo n hi) := by
  rw [Bool.eq_iff_iff]
  simp only [List.any_eq_true, List.mem_range, Bool.not_eq_true', List.all_eq_false]
  constructor
  · rintro ⟨j, hj, h⟩
    exact ⟨l.getD j 0, by rw [List.getD_eq_getElem?_getD, List.getElem?_eq_getElem hj]; exact List.getElem_mem hj, by rw [h]; decide⟩
  · rintro ⟨x, hx, h⟩
    obtain ⟨j, hj, rfl⟩ := List.mem_iff_getElem.1 hx
    refine ⟨j, hj, ?_⟩
    rw [List.getD_eq_getElem?_getD, List.getElem?_eq_getElem hj]
    simpa using h

/-- the closure of IsProof -/
theorem mostC (l : List Int) (W : World) : PredB 51 #[] (ints l) (fun j => !inB (-1000000000) (l.getD j 0) 1000000000) W := fun V j x hx _ => by
  have hj : j < l.length := by
    have := (List.getElem?_eq_some_iff.1 hx).1
    rwa [ints_length] at this
  rw [ints_getD hj] at hx
  obtain rfl := Option.some.inj hx
  show Calls Try.prog 51 #[.int .i64 (l.getD j 0)] V fun e w' => e = .returned (.bool (!inB (-1000000000) (l.getD j 0) 1000000000)) ∧ Below V.heap.size V w'
  generalize l.getD j 0 = y
  clear hx hj
  have HB := Lib.hid (between_any (-1000000000) y 1000000000)
  change Hid (∀ W, Calls Try.prog 52 #[.int .i64 (-1000000000), .int .i64 y, .int .i64 1000000000] W fun e w' => e = .returned (.bool (inB (-1000000000) y 1000000000)) ∧ W = w') at HB
  go_enter Try.func51, Try.ntmps51
  go_wp2_with (go_at_call 52; refine (HB.out _).mono ?_; rintro e w1 ⟨rfl, rfl⟩)
  go_ret
  exact ⟨rfl, Below.refl _ _⟩

/-- a cell that is boxed behind a grid -/
def BxAt (V : World) (B : Nat) (x y : Int) : Prop := V.cell? ⟨B + 1, 0, none⟩ = some (.int .i64 x) ∧ V.cell? ⟨B + 1, 1, none⟩ = some (.int .i64 y)
theorem BxAt.below {V V' : World} {B : Nat} {x y : Int} (h : BxAt V B x y) (hb : Below V.heap.size V V') : BxAt V' B x y := ⟨cell_below h.1 hb, cell_below h.2 hb⟩
theorem BxAt.new (W : World) (o : Obj) (x y : Int) (t : TypeId) : BxAt ((W.alloc o).alloc (.cells #[.int .i64 x, .int .i64 y] t)) W.heap.size x y :=
  ⟨World.cell?_alloc_at _ _ _ _ (by simp), World.cell?_alloc_at _ _ _ _ (by simp)⟩

set_option maxRecDepth 100000 in
theorem isProof_bad (w h : Int) (mv bd : Int) (bv : Value) (bl : List (Int × Int)) (to : Int × Int) (fv : Value) (W : World) (hv : RdP W bv bl) (hb : validP w h mv bd bl = false) :
    Calls Try.prog 20 #[.agg #[.int .i64 w, .int .i64 h, .int .i64 mv, .int .i64 bd, bv], .agg #[.int .i64 to.1, .int .i64 to.2], fv] W fun e w' => e = .returned (.tuple #[.bool false, .int .i64 70]) ∧ Below W.heap.size W w' := by
  have hbW := Lib.hid (((Below.refl W.heap.size W).alloc (Nat.le_refl _) (.cells #[.int .i64 w, .int .i64 h, .int .i64 mv, .int .i64 bd, bv] 24)).alloc (by simp) (.cells #[.int .i64 to.1, .int .i64 to.2] 26))
  have HBX := Lib.hid (BxAt.new W (.cells #[.int .i64 w, .int .i64 h, .int .i64 mv, .int .i64 bd, bv] 24) to.1 to.2 26)
  have HVA := Lib.hid (fun V (hV : Below W.heap.size W V) => opened_bad w h mv bd bv bl V (hv.below hV) hb)
  obtain ⟨a, cap, rfl, hc, hcm, _, _⟩ := hv
  obtain ⟨t1, t2⟩ := to
  clear hb
  dsimp only at *
  go_enter Try.func20, Try.ntmps20
  go_wp2_with (go_at_call 38; (with_reducible refine (HVA.out _ hbW.out).mono ?_); rintro e w1 ⟨rfl, hb1⟩)
  go_ret2
  exact ⟨rfl, hbW.out.trans (hb1.mono (by simp; omega))⟩

set_option maxRecDepth 100000 in
theorem isProof_block (w h : Nat) (mv bd : Int) (bv : Value) (bl : List (Int × Int)) (to : Int × Int) (fv : Value) (W : World) (hv : RdP W bv bl) (hb : validP w h mv bd bl = true) (ho : openP (grK w h mv bd bl bl.length) to = false) :
    Calls Try.prog 20 #[.agg #[.int .i64 w, .int .i64 h, .int .i64 mv, .int .i64 bd, bv], .agg #[.int .i64 to.1, .int .i64 to.2], fv] W fun e w' => e = .returned (.tuple #[.bool false, .int .i64 72]) ∧ Below W.heap.size W w' := by
  have hbW := Lib.hid (((Below.refl W.heap.size W).alloc (Nat.le_refl _) (.cells #[.int .i64 w, .int .i64 h, .int .i64 mv, .int .i64 bd, bv] 24)).alloc (by simp) (.cells #[.int .i64 to.1, .int .i64 to.2] 26))
  have HBX := Lib.hid (BxAt.new W (.cells #[.int .i64 w, .int .i64 h, .int .i64 mv, .int .i64 bd, bv] 24) to.1 to.2 26)
  have HVA := Lib.hid (fun V (hV : Below W.heap.size W V) => opened_ok w h mv bd bv bl V (hv.below hV) hb)
  have HOA := Lib.hid (fun Bg sb V (hV : GridAt V Bg (grK w h mv bd bl bl.length) bv (some ⟨sb, 0, none⟩) (w * h)) => open_any Bg (grK w h mv bd bl bl.length) bv _ _ to V hV)
  rw [ho] at HOA
  obtain ⟨a, cap, rfl, hc, hcm, _, _⟩ := hv
  obtain ⟨t1, t2⟩ := to
  clear hb ho
  dsimp only at *
  go_enter Try.func20, Try.ntmps20
  go_wp2_with (first
    | (go_at_call 38; (with_reducible refine (HVA.out _ hbW.out).mono ?_); rintro e w1 ⟨Bg, sb, rfl, hg1, hb1⟩; have HG1 := Lib.hid hg1; have HB1 := Lib.hid (hbW.out.trans (hb1.mono (by simp; omega))); have HX1 := Lib.hid (HBX.out.below hb1); obtain ⟨c1, c2⟩ := HX1.out; clear hg1 hb1)
    | (go_at_call 39; (with_reducible refine (HOA.out _ _ _ HG1.out).mono ?_); rintro e w2 ⟨rfl, hb2⟩))
  go_ret2
  exact ⟨rfl, HB1.out.trans (hb2.mono HB1.out.size)⟩

set_option maxRecDepth 100000 in
theorem isProof_arg (w h : Nat) (mv bd : Int) (bv : Value) (bl : List (Int × Int)) (to : Int × Int) (fv : Value) (far : List Int) (W : World) (hv : RdP W bv bl) (hb : validP w h mv bd bl = true) (ho : openP (grK w h mv bd bl bl.length) to = true) (hf : Rd W fv (ints far)) (hbad : ¬ (far.length = w * h ∧ (far.all fun n => inB (-1000000000) n 1000000000) = true)) :
    Calls Try.prog 20 #[.agg #[.int .i64 w, .int .i64 h, .int .i64 mv, .int .i64 bd, bv], .agg #[.int .i64 to.1, .int .i64 to.2], fv] W fun e w' => e = .returned (.tuple #[.bool false, .int .i64 2]) ∧ Below W.heap.size W w' := by
  have hbW := Lib.hid (((Below.refl W.heap.size W).alloc (Nat.le_refl _) (.cells #[.int .i64 w, .int .i64 h, .int .i64 mv, .int .i64 bd, bv] 24)).alloc (by simp) (.cells #[.int .i64 to.1, .int .i64 to.2] 26))
  have HBX := Lib.hid (BxAt.new W (.cells #[.int .i64 w, .int .i64 h, .int .i64 mv, .int .i64 bd, bv] 24) to.1 to.2 26)
  have eg : ∀ args w, (callFunc 51 args).run Try.prog w = .ok (.enter 51 args) w := enters_of Try.func51 (by kernel_rfl) rfl
  have hok := grK_ok hb bl.length
  have HOK := Lib.hid hok
  have HVA := Lib.hid (fun V (hV : Below W.heap.size W V) => opened_ok w h mv bd bv bl V (hv.below hV) hb)
  have HOA := Lib.hid (fun Bg sb V (hV : GridAt V Bg (grK w h mv bd bl bl.length) bv (some ⟨sb, 0, none⟩) (w * h)) => open_any Bg (grK w h mv bd bl bl.length) bv _ _ to V hV)
  rw [ho] at HOA
  have HFV := Lib.hid hf
  obtain ⟨g, hgd⟩ : ∃ g, grK w h mv bd bl bl.length = g := ⟨_, rfl⟩
  have HGW : Hid (g.w = w ∧ g.h = h) := Lib.hid (by rw [← hgd]; exact ⟨rfl, rfl⟩)
  have hcells := hok.cells
  rw [hgd] at HVA HOA HOK
  obtain ⟨a, cap, rfl, hc, hcm, _, _⟩ := hv
  obtain ⟨fa, fcap, rfl, hfc, hfcm, hfa, _⟩ := hf
  obtain ⟨t1, t2⟩ := to
  obtain ⟨N, hN⟩ : ∃ N, w * h = N := ⟨_, rfl⟩
  have HN := Lib.hid hN
  change 1 ≤ w * h ∧ w * h ≤ 900 at hcells
  rw [hN] at HVA HOA hcells
  have hNi : (w : Int) * (h : Int) = (N : Int) := by rw [← hN]; simp
  have hwN : IntKind.i64.wrap (N : Int) = (N : Int) := IntWalk.i64_in _ (by clear hNi; omega)
  obtain ⟨M, hM⟩ : ∃ M, far.length = M := ⟨_, rfl⟩
  have HM := Lib.hid hM
  rw [ints_length] at *
  rw [hM] at hfc hbad HFV ⊢
  rw [hN] at hbad
  clear hb ho hgd hok hN hM hfa
  dsimp only at *
  go_enter Try.func20, Try.ntmps20
  go_wp2_with (first
    | (go_at_call 38; (with_reducible refine (HVA.out _ hbW.out).mono ?_); rintro e w1 ⟨Bg, sb, rfl, hg1, hb1⟩; have HG1 := Lib.hid hg1; have HB1 := Lib.hid (hbW.out.trans (hb1.mono (by simp; omega))); have HX1 := Lib.hid (HBX.out.below hb1); obtain ⟨c1, c2⟩ := HX1.out; clear hg1 hb1)
    | (go_at_call 39; (with_reducible refine (HOA.out _ _ _ HG1.out).mono ?_); rintro e w2 ⟨rfl, hb2⟩; have HG2 := Lib.hid (HG1.out.below hb2); have HB2 := Lib.hid (HB1.out.trans (hb2.mono HB1.out.size)); have HX2 := Lib.hid (HX1.out.below hb2); clear c1 c2 hb2))
  have HGG := HG2.out.below (Below.refl _ _)
  have e0 := fun x : Grow w2 => grow_cell HG2.out.c0 x
  have e1 := fun x : Grow w2 => grow_cell HG2.out.c1 x
  rw [HGW.out.1] at e0
  rw [HGW.out.2] at e1
  clear HGG
  by_cases hMN : M = N
  · subst hMN
    have hal : (far.all fun n => inB (-1000000000) n 1000000000) = false := by
      rw [Bool.eq_false_iff]; intro hh; exact hbad ⟨rfl, hh⟩
    have HCF := Lib.hid (fun x : Grow w2 => has_int _ 51 #[] eg (ints far) _ (grow x) (mostC far _) (HFV.out.below (HB2.out.trans ((grow_below x).mono HB2.out.size)) (Nat.le_refl _)) (by rw [ints_length, HM.out]; omega) (!(far.all fun n => inB (-1000000000) n 1000000000)) (by rw [ints_length]; exact any_not_all far _ _))
    rw [hal] at HCF
    clear hbad hal
    refine wp_region_grow (by kernel_rfl) (by kernel_rfl) ?_
    repeat (go_big_quiet_step (first | (go_at_call 50; refine grow_of (HCF.out _))))
    refine wpQuiet_nil ?_
    intro _ hw'
    obtain ⟨xq, hw''⟩ := hw'
    subst hw''
    have HBq := Lib.hid (grow_below xq)
    clear e0 e1 hNi hwN eg
    generalize grow xq = w3 at *
    go_wp2_with fail
    go_ret2
    exact ⟨rfl, HB2.out.trans (HBq.out.mono HB2.out.size)⟩
  · have hMN' : ((M : Int) != (N : Int)) = true := by simp; omega
    clear hbad
    refine wp_region_grow (by kernel_rfl) (by kernel_rfl) ?_
    repeat (go_big_quiet_step (fail))
    refine wpQuiet_nil ?_
    intro _ hw'
    obtain ⟨xq, hw''⟩ := hw'
    subst hw''
    have HBq := Lib.hid (grow_below xq)
    clear e0 e1 hNi hwN eg
    generalize grow xq = w3 at *
    go_wp2_with fail
    go_ret2
    exact ⟨rfl, HB2.out.trans (HBq.out.mono HB2.out.size)⟩
end Go.Proofs.Ytpakkjkjppibnaa
