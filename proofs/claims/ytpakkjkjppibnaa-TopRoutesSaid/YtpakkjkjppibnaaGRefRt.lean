/- Layout: Route, as the document computes it. -/
import Derived.Test.YtpakkjkjppibnaaGRefFar
namespace Go.Proofs.Ytpakkjkjppibnaa
open Go.RowKit

/-- what a step costs the document, by the direction come by, or -1 -/
def costR (g : Gr) (came : Int) (d : Nat) : Int := if 0 ≤ came ∧ came ≠ d then g.move + g.bend else g.move
theorem costR_nat (g : Gr) (d e : Nat) : costR g d e = stepP g d e := by
  unfold costR stepP
  by_cases h : d = e
  · rw [if_pos h, if_neg]; subst h; simp
  · rw [if_neg h, if_pos]; constructor <;> omega
/-- what the document walks on -/
inductive RW (g : Gr) (to : Int × Int) (T : List (List Int)) : Int × Int → Int → Int → List (Int × Int) → Prop
  | done (came left : Int) : RW g to T to came left []
  | go (c : Int × Int) (came left : Int) (e : Nat) (r : List (Int × Int)) (hne : c ≠ to) (ho : openP g c = true) (hb : 0 ≤ left ∧ left ≤ 8000000) (he : e < 4) (ho2 : openP g (besideP c e) = true)
      (hit : costR g came e + outGet T (indexP g (besideP c e)).toNat e = left) (no : ∀ d, d < e → openP g (besideP c d) = true → costR g came d + outGet T (indexP g (besideP c d)).toNat d ≠ left)
      (h : RW g to T (besideP c e) e (left - costR g came e) r) : RW g to T c came left (besideP c e :: r)
theorem gw_rw {g : Gr} (hg : GrOk g) {to : Int × Int} (ht : openP g to = true) {T : List (List Int)} (hT : TabS g to T) (hc : Closed g T) {c : Int × Int} {d : Nat} {r : List (Int × Int)} (h : Gw g to c d r) : openP g c = true → RW g to T c d (fAt g to c d) r := by
  induction h with
  | done d => intro _; exact RW.done _ _
  | go c d e r hne hf h ih =>
    intro ho
    obtain ⟨he, hh, hno⟩ := findD_some hf
    obtain ⟨q1, q2, q3⟩ := hitD_iff.1 hh
    have hb := fAt_big hg ht c d
    have hs := stepP_le hg d e
    refine RW.go c d _ e r hne ho ⟨by omega, by omega⟩ he q1 ?_ (fun d' hd' ho' hx => ?_) ?_
    · have := ref_hit hg ht hT hc (c := c) (d := d) he q1
      rw [hh, decide_eq_true_eq] at this
      rw [costR_nat]; exact this
    · have := ref_hit hg ht hT hc (c := c) (d := d) (by omega : d' < 4) ho'
      rw [hno d' hd', decide_eq_false_iff_not] at this
      rw [costR_nat] at hx; exact this hx
    · have := ih q1
      rw [costR_nat, show fAt g to c d - stepP g d e = fAt g to (besideP c e) e by omega]
      exact this
theorem first_rw {g : Gr} (hg : GrOk g) {to : Int × Int} (ht : openP g to = true) {T : List (List Int)} (hT : TabS g to T) (hc : Closed g T) {c : Int × Int} {b : Int} {d0 : Nat} (hb : beginsP g (fieldP g to) c 4 = (b, (d0 : Int))) (h0 : 0 ≤ b) (hne : c ≠ to) (ho : openP g c = true) {r : List (Int × Int)} (h : Gw g to (besideP c d0) d0 r) :
    RW g to T c (-1) b (besideP c d0 :: r) := by
  obtain ⟨q1, q2, q3, q4, q5, q6⟩ := ref_first hg ht hT hc hb h0
  have h1 := fAt_big hg ht (besideP c d0) d0
  have h2 := hg.m1
  have h3 := hg.m2
  have e : ∀ d : Nat, costR g (-1) d = g.move := fun d => by unfold costR; rw [if_neg (by omega)]
  refine RW.go c (-1) b d0 r hne ho ⟨h0, by omega⟩ q1 q2 (by rw [e]; exact q5) (fun d hd ho' => by rw [e]; exact q6 d hd ho') ?_
  rw [e, show b - g.move = fAt g to (besideP c d0) d0 by omega]
  exact gw_rw hg ht hT hc h q2

/-- the state of the document's loop -/
structure RRt (g : Gr) (T : List (List Int)) (to : Int × Int) (w5 : World) (full path rest : List (Int × Int)) (at' : Int × Int) (came left : Int) (v : Value) (ab : Nat) (wr : World) : Prop where
  own : wr.ownsRow w5.heap.size 26 2 v path.length (pairs path)
  all : path ++ rest = full
  rw : RW g to T at' came left rest
  bx : Box2 wr ab (.int .i64 at'.1) (.int .i64 at'.2)
  ge : w5.heap.size ≤ ab
  bel : Below w5.heap.size w5 wr
  len : full.length ≤ 200000
  sep : v.ownBlock ≠ some ab
  pos : 0 < path.length

set_option maxRecDepth 100000 in
theorem refRoute_bad (w h mv bd : Int) (bv : Value) (bl : List (Int × Int)) (fr to : Int × Int) (W : World) (hv : RdP W bv bl) (hb : validP w h mv bd bl = false) :
    Calls Try.prog 18 #[.agg #[.int .i64 w, .int .i64 h, .int .i64 mv, .int .i64 bd, bv], .agg #[.int .i64 fr.1, .int .i64 fr.2], .agg #[.int .i64 to.1, .int .i64 to.2]] W fun e w' => e = .returned (.tuple #[.slice none 0 0, .int .i64 0, .int .i64 70]) ∧ Below W.heap.size W w' := by
  have hbW := Lib.hid ((((Below.refl W.heap.size W).alloc (Nat.le_refl _) (.cells #[.int .i64 w, .int .i64 h, .int .i64 mv, .int .i64 bd, bv] 24)).alloc (by simp) (.cells #[.int .i64 fr.1, .int .i64 fr.2] 26)).alloc (by simp; omega) (.cells #[.int .i64 to.1, .int .i64 to.2] 26))
  have HVA := Lib.hid (fun V (hV : Below W.heap.size W V) => refValid_any w h mv bd bv bl V (hv.below hV))
  rw [hb] at HVA
  obtain ⟨a, cap, rfl, hc, hcm, _, _⟩ := hv
  obtain ⟨f1, f2⟩ := fr
  obtain ⟨t1, t2⟩ := to
  clear hb
  dsimp only at *
  go_enter Try.func18, Try.ntmps18
  go_wp2_with (go_at_call 22; (with_reducible refine (HVA.out _ hbW.out).mono ?_); rintro e w1 ⟨rfl, hb1⟩)
  go_ret3
  exact ⟨rfl, hbW.out.trans (hb1.mono (by simp; omega))⟩

set_option maxRecDepth 100000 in
theorem refRoute_block (w h : Nat) (mv bd : Int) (bv : Value) (bl : List (Int × Int)) (fr to : Int × Int) (W : World) (hv : RdP W bv bl) (hb : validP w h mv bd bl = true) (ho : (refOpenP w h bl fr && refOpenP w h bl to) = false) :
    Calls Try.prog 18 #[.agg #[.int .i64 w, .int .i64 h, .int .i64 mv, .int .i64 bd, bv], .agg #[.int .i64 fr.1, .int .i64 fr.2], .agg #[.int .i64 to.1, .int .i64 to.2]] W fun e w' => e = .returned (.tuple #[.slice none 0 0, .int .i64 0, .int .i64 72]) ∧ Below W.heap.size W w' := by
  have hbW := Lib.hid ((((Below.refl W.heap.size W).alloc (Nat.le_refl _) (.cells #[.int .i64 w, .int .i64 h, .int .i64 mv, .int .i64 bd, bv] 24)).alloc (by simp) (.cells #[.int .i64 fr.1, .int .i64 fr.2] 26)).alloc (by simp; omega) (.cells #[.int .i64 to.1, .int .i64 to.2] 26))
  have HBX := Lib.hid (Boxes.new W (.cells #[.int .i64 w, .int .i64 h, .int .i64 mv, .int .i64 bd, bv] 24) fr.1 fr.2 to.1 to.2 26)
  have HGX := Lib.hid ((GBx.new W w h mv bd bv 24 (.cells #[.int .i64 fr.1, .int .i64 fr.2] 26)).below ((Below.refl _ _).alloc (Nat.le_refl _) (.cells #[.int .i64 to.1, .int .i64 to.2] 26)))
  have HVA := Lib.hid (fun V (hV : Below W.heap.size W V) => refValid_any w h mv bd bv bl V (hv.below hV))
  rw [hb] at HVA
  have h4m : bl.length ≤ 4000000 := by have := ((validP_iff _ _ _ _ _).1 hb).1; omega
  have HOA := Lib.hid (fun V (hV : Below W.heap.size W V) => refOpen_any w h mv bd bv bl fr V (hv.below hV) h4m)
  have HOB := Lib.hid (fun V (hV : Below W.heap.size W V) => refOpen_any w h mv bd bv bl to V (hv.below hV) h4m)
  obtain ⟨a, cap, rfl, hc, hcm, _, _⟩ := hv
  obtain ⟨f1, f2⟩ := fr
  obtain ⟨t1, t2⟩ := to
  clear hb h4m
  dsimp only at *
  obtain ⟨x1, hx1⟩ : ∃ x, refOpenP w h bl (f1, f2) = x := ⟨_, rfl⟩
  obtain ⟨x2, hx2⟩ : ∃ x, refOpenP w h bl (t1, t2) = x := ⟨_, rfl⟩
  rw [hx1] at HOA ho
  rw [hx2] at HOB ho
  clear hx1 hx2
  cases x1 with
  | false =>
    clear ho
    go_enter Try.func18, Try.ntmps18
    go_wp2_with (first
      | (go_at_call 22; (with_reducible refine (HVA.out _ hbW.out).mono ?_); rintro e w1 ⟨rfl, hb1⟩; have HG1 := Lib.hid (HGX.out.below hb1); have HB1 := Lib.hid (hbW.out.trans (hb1.mono (by simp; omega))); have HX1 := Lib.hid (HBX.out.below hb1); obtain ⟨c0, c1, c2, c3, c4⟩ := HG1.out; obtain ⟨c5, c6, c7, c8⟩ := HX1.out; clear hb1)
      | (go_at_call 43; (with_reducible refine (HOA.out _ HB1.out).mono ?_); rintro e w2 ⟨rfl, hb2⟩))
    go_ret3
    exact ⟨rfl, HB1.out.trans (hb2.mono HB1.out.size)⟩
  | true =>
    obtain rfl : x2 = false := by simpa using ho
    clear ho
    go_enter Try.func18, Try.ntmps18
    go_wp2_with (first
      | (go_at_call 22; (with_reducible refine (HVA.out _ hbW.out).mono ?_); rintro e w1 ⟨rfl, hb1⟩; have HG1 := Lib.hid (HGX.out.below hb1); have HB1 := Lib.hid (hbW.out.trans (hb1.mono (by simp; omega))); have HX1 := Lib.hid (HBX.out.below hb1); obtain ⟨c0, c1, c2, c3, c4⟩ := HG1.out; obtain ⟨c5, c6, c7, c8⟩ := HX1.out; clear hb1)
      | (go_at_call 43; (with_reducible refine (HOA.out _ HB1.out).mono ?_); rintro e w2 ⟨rfl, hb2⟩; have HG2 := Lib.hid (HG1.out.below hb2); have HB2 := Lib.hid (HB1.out.trans (hb2.mono HB1.out.size)); have HX2 := Lib.hid (HX1.out.below hb2); clear c0 c1 c2 c3 c4 c5 c6 c7 c8 hb2; obtain ⟨c0, c1, c2, c3, c4⟩ := HG2.out; obtain ⟨c5, c6, c7, c8⟩ := HX2.out)
      | (go_at_call 43; (with_reducible refine (HOB.out _ HB2.out).mono ?_); rintro e w3 ⟨rfl, hb3⟩))
    go_ret3
    exact ⟨rfl, HB2.out.trans (hb3.mono HB2.out.size)⟩

set_option maxRecDepth 100000 in
set_option maxHeartbeats 4000000 in
theorem refRoute_none (w h : Nat) (mv bd : Int) (bv : Value) (bl : List (Int × Int)) (fr to : Int × Int) (W : World) (hv : RdP W bv bl) (hb : validP w h mv bd bl = true) (h1 : refOpenP w h bl fr = true) (h2 : refOpenP w h bl to = true)
    (hans : ∀ T, TabS (grK w h mv bd bl bl.length) to T → Closed (grK w h mv bd bl bl.length) T → min4 T (indexP (grK w h mv bd bl bl.length) fr).toNat = big) :
    Calls Try.prog 18 #[.agg #[.int .i64 w, .int .i64 h, .int .i64 mv, .int .i64 bd, bv], .agg #[.int .i64 fr.1, .int .i64 fr.2], .agg #[.int .i64 to.1, .int .i64 to.2]] W fun e w' => e = .returned (.tuple #[.slice none 0 0, .int .i64 0, .int .i64 5]) ∧ Below W.heap.size W w' := by
  have hbW := Lib.hid ((((Below.refl W.heap.size W).alloc (Nat.le_refl _) (.cells #[.int .i64 w, .int .i64 h, .int .i64 mv, .int .i64 bd, bv] 24)).alloc (by simp) (.cells #[.int .i64 fr.1, .int .i64 fr.2] 26)).alloc (by simp; omega) (.cells #[.int .i64 to.1, .int .i64 to.2] 26))
  have HBX := Lib.hid (Boxes.new W (.cells #[.int .i64 w, .int .i64 h, .int .i64 mv, .int .i64 bd, bv] 24) fr.1 fr.2 to.1 to.2 26)
  have HGX := Lib.hid ((GBx.new W w h mv bd bv 24 (.cells #[.int .i64 fr.1, .int .i64 fr.2] 26)).below ((Below.refl _ _).alloc (Nat.le_refl _) (.cells #[.int .i64 to.1, .int .i64 to.2] 26)))
  have HVA := Lib.hid (fun V (hV : Below W.heap.size W V) => refValid_any w h mv bd bv bl V (hv.below hV))
  rw [hb] at HVA
  have h4m : bl.length ≤ 4000000 := by have := ((validP_iff _ _ _ _ _).1 hb).1; omega
  have HOV := Lib.hid (fun c V (hV : Below W.heap.size W V) => refOpen_any w h mv bd bv bl c V (hv.below hV) h4m)
  have HOA := Lib.hid (HOV.out fr)
  have HOB := Lib.hid (HOV.out to)
  rw [h1] at HOA
  rw [h2] at HOB
  have HTA := Lib.hid (fun V (hV : Below W.heap.size W V) => table_any w h mv bd bv bl to V (hv.below hV) hb h2)
  have HLA := Lib.hid (fun tb T V x y i hT hi hN hix hx hy => least_any w h mv bd bv tb (w * h) (w * h) T x y i V hT hi hN hix hx hy)
  have hok := grK_ok hb bl.length
  have HOK := Lib.hid hok
  have HOE := Lib.hid (open_eq hb)
  have hof := (open_eq hb fr).trans h1
  obtain ⟨g, hgd⟩ : ∃ g, grK w h mv bd bl bl.length = g := ⟨_, rfl⟩
  have HGW : Hid (g.w = w ∧ g.h = h) := Lib.hid (by rw [← hgd]; exact ⟨rfl, rfl⟩)
  have HGM : Hid (g.move = mv ∧ g.bend = bd) := Lib.hid (by rw [← hgd]; exact ⟨rfl, rfl⟩)
  rw [hgd] at HOK HOE HTA hof hans
  have HANS := Lib.hid hans
  have hsf := Gr.okSmall HOK.out (openP_on hof)
  obtain ⟨jf, hjf⟩ : ∃ j : Nat, indexP g fr = j := ⟨(indexP g fr).toNat, by omega⟩
  rw [hjf, HGW.out.1] at hsf
  rw [hjf, Int.toNat_natCast] at HANS
  have hjf' : fr.2 * (w : Int) + fr.1 = (jf : Int) := by rw [← hjf, ← HGW.out.1]; rfl
  obtain ⟨a, cap, rfl, hc, hcm, _, _⟩ := hv
  obtain ⟨f1, f2⟩ := fr
  obtain ⟨t1, t2⟩ := to
  obtain ⟨N, hN⟩ : ∃ N, w * h = N := ⟨_, rfl⟩
  have HNN := Lib.hid hN
  have hcells : 1 ≤ w * h ∧ w * h ≤ 900 := hok.cells
  have hjfN : jf < N := by have h5 := hsf.2.2.2.2.2.1; rw [← HNN.out, ← HGW.out.2]; exact_mod_cast h5
  rw [hN] at hcells HTA HLA
  dsimp only at hsf hjf'
  have HLF := Lib.hid (fun tb T V hT => HLA.out tb T V f1 f2 jf hT hjfN hcells.2 hjf' (by omega) (by omega))
  have hw1 : 1 ≤ w := by have := HOK.out.w1; rw [HGW.out.1] at this; exact this
  have hm1 : 1 ≤ mv ∧ mv ≤ 1000 := by rw [← HGM.out.1]; exact ⟨HOK.out.m1, HOK.out.m2⟩
  have hbd1 : 0 ≤ bd ∧ bd ≤ 1000 := by rw [← HGM.out.2]; exact ⟨HOK.out.b1, HOK.out.b2⟩
  have hEQ := fun a b c d W => eqXY a b c d W
  clear hb h1 h2 hgd hok hN h4m hans hof hjf hjf' hsf
  dsimp only at *
  go_enter Try.func18, Try.ntmps18
  go_wp2_with (first
    | (go_at_call 22; (with_reducible refine (HVA.out _ hbW.out).mono ?_); rintro e w1 ⟨rfl, hb1⟩; have HG1 := Lib.hid (HGX.out.below hb1); have HB1 := Lib.hid (hbW.out.trans (hb1.mono (by simp; omega))); have HX1 := Lib.hid (HBX.out.below hb1); obtain ⟨c0, c1, c2, c3, c4⟩ := HG1.out; obtain ⟨c5, c6, c7, c8⟩ := HX1.out; clear hb1)
    | (go_at_call 43; (with_reducible refine (HOA.out _ HB1.out).mono ?_); rintro e w2 ⟨rfl, hb2⟩; have HG2 := Lib.hid (HG1.out.below hb2); have HB2 := Lib.hid (HB1.out.trans (hb2.mono HB1.out.size)); have HX2 := Lib.hid (HX1.out.below hb2); clear c0 c1 c2 c3 c4 c5 c6 c7 c8 hb2 HG1 HB1 HX1; obtain ⟨c0, c1, c2, c3, c4⟩ := HG2.out; obtain ⟨c5, c6, c7, c8⟩ := HX2.out)
    | (go_at_call 43; (with_reducible refine (HOB.out _ HB2.out).mono ?_); rintro e w3 ⟨rfl, hb3⟩; have HG3 := Lib.hid (HG2.out.below hb3); have HB3 := Lib.hid (HB2.out.trans (hb3.mono HB2.out.size)); have HX3 := Lib.hid (HX2.out.below hb3); clear c0 c1 c2 c3 c4 c5 c6 c7 c8 hb3; obtain ⟨c0, c1, c2, c3, c4⟩ := HG3.out; obtain ⟨c5, c6, c7, c8⟩ := HX3.out)
    | (go_at_call 44; (with_reducible refine (HTA.out _ HB3.out).mono ?_); rintro e w4 ⟨⟨tb, T, rfl, hF4, hT4, hC4⟩, hb4⟩; have HF4 := Lib.hid hF4; have HAN := Lib.hid (HANS.out T hT4 hC4); have HRG := Lib.hid (fun i d hi hd => hT4.range HOK.out (i := i) (d := d) hi hd); have HG4 := Lib.hid (HG3.out.below hb4); have HB4 := Lib.hid (HB3.out.trans (hb4.mono HB3.out.size)); have HX4 := Lib.hid (HX3.out.below hb4); clear c0 c1 c2 c3 c4 c5 c6 c7 c8 hb4 hF4 hT4 hC4; obtain ⟨c0, c1, c2, c3, c4⟩ := HG4.out; obtain ⟨c5, c6, c7, c8⟩ := HX4.out)
    | (go_at_call 45; (with_reducible refine (HLF.out tb T _ HF4.out).mono ?_); rintro e w5 ⟨rfl, hb5⟩; have HF5 := Lib.hid (HF4.out.below hb5); have HG5 := Lib.hid (HG4.out.below hb5); have HB5 := Lib.hid (HB4.out.trans (hb5.mono HB4.out.size)); have HX5 := Lib.hid (HX4.out.below hb5); clear c0 c1 c2 c3 c4 c5 c6 c7 c8 hb5; obtain ⟨c0, c1, c2, c3, c4⟩ := HG5.out; obtain ⟨c5, c6, c7, c8⟩ := HX5.out; rw [HAN.out]))
  go_ret3
  exact ⟨rfl, HB5.out⟩

set_option maxRecDepth 100000 in
set_option maxHeartbeats 4000000 in
theorem refRoute_path (w h : Nat) (mv bd : Int) (bv : Value) (bl : List (Int × Int)) (fr to : Int × Int) (W : World) (hv : RdP W bv bl) (hb : validP w h mv bd bl = true) (h1 : refOpenP w h bl fr = true) (h2 : refOpenP w h bl to = true)
    (b : Int) (rest : List (Int × Int)) (hlen : rest.length ≤ 100000) (hans : ∀ T, TabS (grK w h mv bd bl bl.length) to T → Closed (grK w h mv bd bl bl.length) T → min4 T (indexP (grK w h mv bd bl bl.length) fr).toNat = b ∧ b < big ∧ RW (grK w h mv bd bl bl.length) to T fr (-1) b rest) :
    Calls Try.prog 18 #[.agg #[.int .i64 w, .int .i64 h, .int .i64 mv, .int .i64 bd, bv], .agg #[.int .i64 fr.1, .int .i64 fr.2], .agg #[.int .i64 to.1, .int .i64 to.2]] W fun e w' => (∃ v, e = .returned (.tuple #[v, .int .i64 b, .int .i64 0]) ∧ w'.ownsRow W.heap.size 26 2 v (fr :: rest).length (pairs (fr :: rest))) ∧ Below W.heap.size W w' := by
  have hbW := Lib.hid ((((Below.refl W.heap.size W).alloc (Nat.le_refl _) (.cells #[.int .i64 w, .int .i64 h, .int .i64 mv, .int .i64 bd, bv] 24)).alloc (by simp) (.cells #[.int .i64 fr.1, .int .i64 fr.2] 26)).alloc (by simp; omega) (.cells #[.int .i64 to.1, .int .i64 to.2] 26))
  have HBX := Lib.hid (Boxes.new W (.cells #[.int .i64 w, .int .i64 h, .int .i64 mv, .int .i64 bd, bv] 24) fr.1 fr.2 to.1 to.2 26)
  have HGX := Lib.hid ((GBx.new W w h mv bd bv 24 (.cells #[.int .i64 fr.1, .int .i64 fr.2] 26)).below ((Below.refl _ _).alloc (Nat.le_refl _) (.cells #[.int .i64 to.1, .int .i64 to.2] 26)))
  have HVA := Lib.hid (fun V (hV : Below W.heap.size W V) => refValid_any w h mv bd bv bl V (hv.below hV))
  rw [hb] at HVA
  have h4m : bl.length ≤ 4000000 := by have := ((validP_iff _ _ _ _ _).1 hb).1; omega
  have HOV := Lib.hid (fun c V (hV : Below W.heap.size W V) => refOpen_any w h mv bd bv bl c V (hv.below hV) h4m)
  have HOA := Lib.hid (HOV.out fr)
  have HOB := Lib.hid (HOV.out to)
  rw [h1] at HOA
  rw [h2] at HOB
  have HTA := Lib.hid (fun V (hV : Below W.heap.size W V) => table_any w h mv bd bv bl to V (hv.below hV) hb h2)
  have HLA := Lib.hid (fun tb T V x y i hT hi hN hix hx hy => least_any w h mv bd bv tb (w * h) (w * h) T x y i V hT hi hN hix hx hy)
  have hok := grK_ok hb bl.length
  have HOK := Lib.hid hok
  have HOE := Lib.hid (open_eq hb)
  have hof := (open_eq hb fr).trans h1
  obtain ⟨g, hgd⟩ : ∃ g, grK w h mv bd bl bl.length = g := ⟨_, rfl⟩
  have HGW : Hid (g.w = w ∧ g.h = h) := Lib.hid (by rw [← hgd]; exact ⟨rfl, rfl⟩)
  have HGM : Hid (g.move = mv ∧ g.bend = bd) := Lib.hid (by rw [← hgd]; exact ⟨rfl, rfl⟩)
  rw [hgd] at HOK HOE HTA hof hans
  have HANS := Lib.hid hans
  have hsf := Gr.okSmall HOK.out (openP_on hof)
  obtain ⟨jf, hjf⟩ : ∃ j : Nat, indexP g fr = j := ⟨(indexP g fr).toNat, by omega⟩
  rw [hjf, HGW.out.1] at hsf
  rw [hjf, Int.toNat_natCast] at HANS
  have hjf' : fr.2 * (w : Int) + fr.1 = (jf : Int) := by rw [← hjf, ← HGW.out.1]; rfl
  obtain ⟨a, cap, rfl, hc, hcm, _, _⟩ := hv
  obtain ⟨f1, f2⟩ := fr
  obtain ⟨t1, t2⟩ := to
  obtain ⟨N, hN⟩ : ∃ N, w * h = N := ⟨_, rfl⟩
  have HNN := Lib.hid hN
  have hcells : 1 ≤ w * h ∧ w * h ≤ 900 := hok.cells
  have hjfN : jf < N := by have h5 := hsf.2.2.2.2.2.1; rw [← HNN.out, ← HGW.out.2]; exact_mod_cast h5
  rw [hN] at hcells HTA HLA
  dsimp only at hsf hjf'
  have HLF := Lib.hid (fun tb T V hT => HLA.out tb T V f1 f2 jf hT hjfN hcells.2 hjf' (by omega) (by omega))
  have hw1 : 1 ≤ w := by have := HOK.out.w1; rw [HGW.out.1] at this; exact this
  have hm1 : 1 ≤ mv ∧ mv ≤ 1000 := by rw [← HGM.out.1]; exact ⟨HOK.out.m1, HOK.out.m2⟩
  have hbd1 : 0 ≤ bd ∧ bd ≤ 1000 := by rw [← HGM.out.2]; exact ⟨HOK.out.b1, HOK.out.b2⟩
  have hEQ := fun a b c d W => eqXY a b c d W
  have HLE := Lib.hid hlen
  clear hb h1 h2 hgd hok hN h4m hans hof hjf hjf' hsf hlen
  dsimp only at *
  go_enter Try.func18, Try.ntmps18
  go_wp2_with (first
    | (go_at_call 22; (with_reducible refine (HVA.out _ hbW.out).mono ?_); rintro e w1 ⟨rfl, hb1⟩; have HG1 := Lib.hid (HGX.out.below hb1); have HB1 := Lib.hid (hbW.out.trans (hb1.mono (by simp; omega))); have HX1 := Lib.hid (HBX.out.below hb1); obtain ⟨c0, c1, c2, c3, c4⟩ := HG1.out; obtain ⟨c5, c6, c7, c8⟩ := HX1.out; clear hb1)
    | (go_at_call 43; (with_reducible refine (HOA.out _ HB1.out).mono ?_); rintro e w2 ⟨rfl, hb2⟩; have HG2 := Lib.hid (HG1.out.below hb2); have HB2 := Lib.hid (HB1.out.trans (hb2.mono HB1.out.size)); have HX2 := Lib.hid (HX1.out.below hb2); clear c0 c1 c2 c3 c4 c5 c6 c7 c8 hb2 HG1 HB1 HX1; obtain ⟨c0, c1, c2, c3, c4⟩ := HG2.out; obtain ⟨c5, c6, c7, c8⟩ := HX2.out)
    | (go_at_call 43; (with_reducible refine (HOB.out _ HB2.out).mono ?_); rintro e w3 ⟨rfl, hb3⟩; have HG3 := Lib.hid (HG2.out.below hb3); have HB3 := Lib.hid (HB2.out.trans (hb3.mono HB2.out.size)); have HX3 := Lib.hid (HX2.out.below hb3); clear c0 c1 c2 c3 c4 c5 c6 c7 c8 hb3; obtain ⟨c0, c1, c2, c3, c4⟩ := HG3.out; obtain ⟨c5, c6, c7, c8⟩ := HX3.out)
    | (go_at_call 44; (with_reducible refine (HTA.out _ HB3.out).mono ?_); rintro e w4 ⟨⟨tb, T, rfl, hF4, hT4, hC4⟩, hb4⟩; have HF4 := Lib.hid hF4; have HAN := Lib.hid (HANS.out T hT4 hC4); have HRG := Lib.hid (fun i d hi hd => hT4.range HOK.out (i := i) (d := d) hi hd); have HG4 := Lib.hid (HG3.out.below hb4); have HB4 := Lib.hid (HB3.out.trans (hb4.mono HB3.out.size)); have HX4 := Lib.hid (HX3.out.below hb4); clear c0 c1 c2 c3 c4 c5 c6 c7 c8 hb4 hF4 hT4 hC4; obtain ⟨c0, c1, c2, c3, c4⟩ := HG4.out; obtain ⟨c5, c6, c7, c8⟩ := HX4.out)
    | (go_at_call 45; (with_reducible refine (HLF.out tb T _ HF4.out).mono ?_); rintro e w5 ⟨rfl, hb5⟩; have HF5 := Lib.hid (HF4.out.below hb5); have HG5 := Lib.hid (HG4.out.below hb5); have HB5 := Lib.hid (HB4.out.trans (hb5.mono HB4.out.size)); have HX5 := Lib.hid (HX4.out.below hb5); clear c0 c1 c2 c3 c4 c5 c6 c7 c8 hb5; obtain ⟨c0, c1, c2, c3, c4⟩ := HG5.out; obtain ⟨c5, c6, c7, c8⟩ := HX5.out; rw [HAN.out.1]; have hbb : ¬ (1099511627776 ≤ b) := (by have := HAN.out.2.1; unfold big at this; omega); have HRW := Lib.hid HAN.out.2.2; have l5 := World.block_lt_of_cell? _ _ c5; dsimp only at l5))
  have HR0 : Hid (RRt g T (t1, t2) w5 ((f1, f2) :: rest) [(f1, f2)] rest (f1, f2) (-1) b (.slice (some ⟨w5.heap.size, 0, none⟩) 1 1) (w5.heap.size + 1) ((w5.alloc (.cells #[.int .i64 f1, .int .i64 f2] 26)).alloc (.cells #[.int .i64 f1, .int .i64 f2] 26))) := by
    have es : (w5.alloc (.cells #[.int .i64 f1, .int .i64 f2] 26)).heap.size = w5.heap.size + 1 := by simp
    refine Lib.hid ⟨(own_lit2 w5 w5.heap.size 26 #[.int .i64 f1, .int .i64 f2] 1 (Nat.le_refl _) rfl (by decide)).alloc _, rfl, HRW.out, ?_, by omega, ((Below.refl _ _).alloc (Nat.le_refl _) _).alloc (by simp) _, by have := HLE.out; simp; omega, fun e => ?_, by simp⟩
    · have := Box2.new (w5.alloc (.cells #[.int .i64 f1, .int .i64 f2] 26)) (.int .i64 f1) (.int .i64 f2) 26
      rwa [es] at this
    · have : w5.heap.size = w5.heap.size + 1 := Option.some.inj e
      omega
  generalize hW8 : (w5.alloc (.cells #[.int .i64 f1, .int .i64 f2] 26)).alloc (.cells #[.int .i64 f1, .int .i64 f2] 26) = w8 at *
  generalize w5.heap.size + 1 = ab0 at *
  clear hW8 c0 c1 c2 c3 c4 c5 c6 c7 c8 l5
  go_loopg [11, 12, 13, 14] rest.length (fun k pv lv cv av wr => ∃ (path rst : List (Int × Int)) (at' : Int × Int) (came left : Int) (ab : Nat), lv = .int .i64 left ∧ cv = .int .i64 came ∧ av = .pointer (some ⟨ab, 0, none⟩) ∧ rst.length ≤ k ∧ Hid (RRt g T (t1, t2) w5 ((f1, f2) :: rest) path rst at' came left pv ab wr))
  case atStart => exact ⟨_, _, _, _, _, _, rfl, rfl, rfl, Nat.le_refl _, HR0⟩
  case round =>
    obtain ⟨path, rst, ⟨a1, a2⟩, came, left, ab, rfl, rfl, rfl, hrk, HR⟩ := hrel
    rename_i pv _ _ _
    clear HR0
    obtain ⟨hb0, hb1, hz0, hz1⟩ := HR.out.bx
    obtain ⟨_, _, k3, k4⟩ := HX5.out.below HR.out.bel
    dsimp only at hb0 hb1
    have HRW1 := HR.out.rw
    generalize hat0 : (a1, a2) = at0 at HRW1
    cases HRW1 with
    | done came left =>
      injection hat0 with e1 e2
      subst e1 e2
      have HPP : Hid (path = (f1, f2) :: rest) := Lib.hid (by have := HR.out.all; simpa using this)
      have HOWN := Lib.hid HR.out.own
      rw [HPP.out] at HOWN
      clear HPP
      go_wp2_with fail
      go_ret3
      exact ⟨⟨_, rfl, own_le HOWN.out HB5.out.size⟩, HB5.out.trans (HR.out.bel.mono HB5.out.size)⟩
    | go c came left e r hne hop0 hbd9 he hoe hit hno hrest =>
      subst hat0
      have hat' : (a1 == t1 && a2 == t2) = false := by
        rw [Bool.eq_false_iff]; intro hh; simp at hh; exact hne (by rw [hh.1, hh.2])
      obtain ⟨wo, rfl⟩ : ∃ wo, wo = wr := ⟨_, rfl⟩
      obtain ⟨k, rfl⟩ : ∃ k, gk = k + 1 := ⟨gk - 1, by simp at hrk; omega⟩
      obtain ⟨pg, pc, hpv, hpg⟩ := own_some HR.out.own HR.out.pos
      subst hpv
      obtain ⟨M, hM⟩ : ∃ M, path.length = M := ⟨_, rfl⟩
      have HM := Lib.hid hM
      have HOWN := Lib.hid HR.out.own
      have hM9 : M ≤ 200000 := by have h1 := HR.out.len; rw [← HR.out.all, List.length_append, hM] at h1; omega
      rw [hM] at HOWN ⊢
      have HBWo := Lib.hid (HB5.out.trans (HR.out.bel.mono HB5.out.size))
      have HA29 : Hid (0 ≤ a1 ∧ a1 ≤ 29 ∧ 0 ≤ a2 ∧ a2 ≤ 29) := Lib.hid (by have := Gr.okSmall HOK.out (openP_on hop0); dsimp only at this; omega)
      have HIT := Lib.hid hit
      have HNO := Lib.hid hno
      have HOEH := Lib.hid hoe
      have HRS0 := Lib.hid hrest
      obtain ⟨hl0, hl8⟩ := hbd9
      clear hit hno hoe hrest hop0 hM hne
      go_wp2_with fail
      clear k3 k4 hat'
      go_loopw [11, 12, 13, 47] (fun pv lv cv p wr2 => ∃ m : Nat, m ≤ e ∧ pv = .slice (some ⟨pg, 0, none⟩) M pc ∧ lv = .int .i64 left ∧ cv = .int .i64 came ∧ p = .int .i64 m ∧ Hid (Below wo.heap.size wo wr2)) (fun _ _ _ p _ => 4 - (intOf p).toNat)
      case atStart => exact ⟨0, Nat.zero_le _, rfl, rfl, rfl, rfl, Lib.hid (Below.refl _ _)⟩
      case round =>
        obtain ⟨m, hmd, rfl, rfl, rfl, rfl, HB10⟩ := hrel
        have hm4' : (m : Int) < 4 := by omega
        have b0 := cell_below hb0 HB10.out
        have b1 := cell_below hb1 HB10.out
        obtain ⟨⟨n1, n2⟩, hn12⟩ : ∃ n, besideP (a1, a2) m = n := ⟨_, rfl⟩
        have HN := Lib.hid hn12
        have HBSM := Lib.hid (fun V => refNext_any (a1, a2) m (by omega) V (by have := HA29.out; dsimp only; omega) (by have := HA29.out; dsimp only; omega) (by have := HA29.out; dsimp only; omega) (by have := HA29.out; dsimp only; omega))
        rw [hn12] at HBSM
        dsimp only at HBSM
        clear hn12
        cases hop : refOpenP w h bl (n1, n2) with
        | false =>
          have HOP := Lib.hid hop
          have hme : m < e := by
            rcases Nat.lt_or_ge m e with h1 | h1
            · exact h1
            · obtain rfl : m = e := by omega
              have := HOEH.out
              rw [HN.out, HOE.out, hop] at this
              cases this
          clear hop
          go_wp2_with (first
            | (go_at_call 49; (with_reducible refine (HBSM.out _).mono ?_); rintro e w10 ⟨rfl, hb10⟩; have HB10' := Lib.hid (HB10.out.trans (hb10.mono HB10.out.size)); have HB11 : Hid (Below wo.heap.size wo (w10.alloc (.cells #[.int .i64 n1, .int .i64 n2] 26))) := Lib.hid (HB10'.out.alloc HB10'.out.size _); have g0 : (w10.alloc (.cells #[.int .i64 n1, .int .i64 n2] 26)).cell? ⟨w10.heap.size, 0, none⟩ = some (.int .i64 n1) := World.cell?_alloc_at _ _ _ _ rfl; have g1 : (w10.alloc (.cells #[.int .i64 n1, .int .i64 n2] 26)).cell? ⟨w10.heap.size, 1, none⟩ = some (.int .i64 n2) := World.cell?_alloc_at _ _ _ _ rfl; have hnb : w10.heap.size ≠ ab := (by have h1 := World.block_lt_of_cell? _ _ hb0; have h2 := HB10'.out.size; dsimp only at h1; omega); obtain ⟨q0, q1, q2, q3, q4⟩ := HG5.out.below (HR.out.bel.trans (HB11.out.mono HR.out.bel.size)); have HOPV := Lib.hid (HOV.out (n1, n2) _ (HBWo.out.trans (HB11.out.mono HBWo.out.size))); dsimp only at HOPV; rw [HOP.out] at HOPV; clear hb10 b0 b1)
            | (go_at_call 43; (with_reducible refine HOPV.out.mono ?_); rintro e w12 ⟨rfl, hb12⟩; have HB12 := Lib.hid (HB11.out.trans (hb12.mono HB11.out.size)); clear hb12))
          go_roundw
          case rel => exact ⟨m + 1, by omega, rfl, rfl, rfl, by go_num, HB12⟩
          case measure => simp [intOf]; omega
        | true =>
          have HOP := Lib.hid hop
          have hopn : openP g (n1, n2) = true := (HOE.out _).trans hop
          have hsm := Gr.okSmall HOK.out (openP_on hopn)
          obtain ⟨j, hj⟩ : ∃ j : Nat, indexP g (n1, n2) = j := ⟨(indexP g (n1, n2)).toNat, by omega⟩
          rw [hj, HGW.out.1] at hsm
          have hj' : n2 * (w : Int) + n1 = (j : Int) := by rw [← hj, ← HGW.out.1]; rfl
          have hjN : j < N := by have h5 := hsm.2.2.2.2.2.1; rw [← HNN.out, ← HGW.out.2]; exact_mod_cast h5
          have hjN' : (j : Int) < (N : Int) := by omega
          have hwm : IntKind.i64.wrap (n2 * (w : Int)) = n2 * (w : Int) := IntWalk.i64_in _ (by dsimp only at hsm; omega)
          have hwa : IntKind.i64.wrap (n2 * (w : Int) + n1) = (j : Int) := by rw [hj']; exact IntWalk.i64_in _ (by clear hwm; omega)
          have hrg := HRG.out j m (by rw [HGW.out.1, HGW.out.2, HNN.out]; exact hjN) (by omega)
          have f11 := HF5.out j m hjN (by omega)
          have HST : Hid ((m < e ∧ costR g came m + outGet T j m ≠ left) ∨ (m = e ∧ costR g came m + outGet T j m = left)) := Lib.hid (by
            rcases Nat.lt_or_ge m e with h1 | h1
            · refine .inl ⟨h1, ?_⟩
              have := HNO.out m h1 (by rw [HN.out]; exact hopn)
              rwa [HN.out, hj, Int.toNat_natCast] at this
            · obtain rfl : m = e := by omega
              refine .inr ⟨rfl, ?_⟩
              have := HIT.out
              rwa [HN.out, hj, Int.toNat_natCast] at this)
          obtain ⟨q, hq⟩ : ∃ q, outGet T j m = q := ⟨_, rfl⟩
          rw [hq] at HST hrg f11
          have HFX : Hid (∀ V : World, Below wo.heap.size wo V → V.cell? ⟨tb, j * 4 + m, none⟩ = some (.int .i64 q)) := Lib.hid (fun V hV => cell_below f11 (HR.out.bel.trans (hV.mono HR.out.bel.size)))
          have hqb : q ≤ 1099511627776 := hrg.2
          have hqz : 0 ≤ q := hrg.1
          obtain ⟨C, hC⟩ : ∃ C, costR g came m = C := ⟨_, rfl⟩
          have HCC := Lib.hid hC
          rw [hC] at HST
          have hcase : (¬ 0 ≤ came ∧ C = mv) ∨ (0 ≤ came ∧ came = m ∧ C = mv) ∨ (0 ≤ came ∧ came ≠ m ∧ C = mv + bd) := by
            rw [← hC]; unfold costR
            rw [HGM.out.1, HGM.out.2]
            by_cases h0 : 0 ≤ came
            · by_cases h1 : came = m
              · right; left; exact ⟨h0, h1, by rw [if_neg (fun hh => hh.2 h1)]⟩
              · right; right; exact ⟨h0, h1, by rw [if_pos ⟨h0, h1⟩]⟩
            · left; exact ⟨h0, by rw [if_neg (fun hh => h0 hh.1)]⟩
          clear hop hopn hsm hj hj' hrg hq hC f11
          rcases hcase with ⟨h0, rfl⟩ | ⟨h0, rfl, rfl⟩ | ⟨h0, h1, rfl⟩
          · skip
            have hC2 : 0 ≤ C ∧ C ≤ 2000 := by omega
            have hwl : IntKind.i64.wrap (left - C) = left - C := IntWalk.i64_in _ (by clear hwm hwa; omega)
            have hwq : IntKind.i64.wrap (C + q) = C + q := IntWalk.i64_in _ (by clear hwm hwa hwl; omega)
            rcases HST.out with ⟨hme, hml⟩ | ⟨hme, hml⟩
            · have hml' : ((C + q : Int) == left) = false := by simpa using hml
              clear hml
              go_wp2_with (first
                | (go_at_call 49; (with_reducible refine (HBSM.out _).mono ?_); rintro e w10 ⟨rfl, hb10⟩; have HB10' := Lib.hid (HB10.out.trans (hb10.mono HB10.out.size)); have HB11 : Hid (Below wo.heap.size wo (w10.alloc (.cells #[.int .i64 n1, .int .i64 n2] 26))) := Lib.hid (HB10'.out.alloc HB10'.out.size _); have g0 : (w10.alloc (.cells #[.int .i64 n1, .int .i64 n2] 26)).cell? ⟨w10.heap.size, 0, none⟩ = some (.int .i64 n1) := World.cell?_alloc_at _ _ _ _ rfl; have g1 : (w10.alloc (.cells #[.int .i64 n1, .int .i64 n2] 26)).cell? ⟨w10.heap.size, 1, none⟩ = some (.int .i64 n2) := World.cell?_alloc_at _ _ _ _ rfl; have hnb : w10.heap.size ≠ ab := (by have h1 := World.block_lt_of_cell? _ _ hb0; have h2 := HB10'.out.size; dsimp only at h1; omega); obtain ⟨q0, q1, q2, q3, q4⟩ := HG5.out.below (HR.out.bel.trans (HB11.out.mono HR.out.bel.size)); have HOPV := Lib.hid (HOV.out (n1, n2) _ (HBWo.out.trans (HB11.out.mono HBWo.out.size))); dsimp only at HOPV; rw [HOP.out] at HOPV; clear hb10 b0 b1)
                | (go_at_call 43; (with_reducible refine HOPV.out.mono ?_); rintro e w12 ⟨rfl, hb12⟩; have HB12 := Lib.hid (HB11.out.trans (hb12.mono HB11.out.size)); have g0' := cell_below g0 hb12; have g1' := cell_below g1 hb12; have f12 := HFX.out _ HB12.out; obtain ⟨r0, r1, r2, r3, r4⟩ := HG5.out.below (HR.out.bel.trans (HB12.out.mono HR.out.bel.size)); clear hb12))
              go_roundw
              case rel => exact ⟨m + 1, by omega, rfl, rfl, rfl, by go_num, HB12⟩
              case measure => simp [intOf]; omega
            · subst hme
              have HRS : Hid (RW g (t1, t2) T (n1, n2) m (left - (C)) r) := Lib.hid (by have := HRS0.out; rw [HN.out, HCC.out] at this; exact this)
              have hwL : wrap64 left = left := by clear hwm hwa hwl hwq; unfold wrap64; omega
              go_wp2_with (first
                | (go_at_call 49; (with_reducible refine (HBSM.out _).mono ?_); rintro e w10 ⟨rfl, hb10⟩; have HB10' := Lib.hid (HB10.out.trans (hb10.mono HB10.out.size)); have HB11 : Hid (Below wo.heap.size wo (w10.alloc (.cells #[.int .i64 n1, .int .i64 n2] 26))) := Lib.hid (HB10'.out.alloc HB10'.out.size _); have g0 : (w10.alloc (.cells #[.int .i64 n1, .int .i64 n2] 26)).cell? ⟨w10.heap.size, 0, none⟩ = some (.int .i64 n1) := World.cell?_alloc_at _ _ _ _ rfl; have g1 : (w10.alloc (.cells #[.int .i64 n1, .int .i64 n2] 26)).cell? ⟨w10.heap.size, 1, none⟩ = some (.int .i64 n2) := World.cell?_alloc_at _ _ _ _ rfl; have hnb : w10.heap.size ≠ ab := (by have h1 := World.block_lt_of_cell? _ _ hb0; have h2 := HB10'.out.size; dsimp only at h1; omega); obtain ⟨q0, q1, q2, q3, q4⟩ := HG5.out.below (HR.out.bel.trans (HB11.out.mono HR.out.bel.size)); have HOPV := Lib.hid (HOV.out (n1, n2) _ (HBWo.out.trans (HB11.out.mono HBWo.out.size))); dsimp only at HOPV; rw [HOP.out] at HOPV; clear hb10 b0 b1)
                | (go_at_call 43; (with_reducible refine HOPV.out.mono ?_); rintro e w12 ⟨rfl, hb12⟩; have HB12 := Lib.hid (HB11.out.trans (hb12.mono HB11.out.size)); have g0' := cell_below g0 hb12; have g1' := cell_below g1 hb12; have f12 := HFX.out _ HB12.out; obtain ⟨r0, r1, r2, r3, r4⟩ := HG5.out.below (HR.out.bel.trans (HB12.out.mono HR.out.bel.size)); have hbx := HR.out.bx.below HB12.out; obtain ⟨_, z0, z1, hbd⟩ := endS (w0 := w5) (x := .int .i64 n1) (y := .int .i64 n2) hbx HR.out.ge (Lib.hid (HR.out.bel.trans (HB12.out.mono HR.out.bel.size))); have HBD := Lib.hid hbd; have HOW := Lib.hid (((own_below HOWN.out HB12.out).kept (grown_setCell w12 ab 0 (.int .i64 n1)) (.inr HR.out.sep)).kept (grown_setCell _ ab 1 (.int .i64 n2)) (.inr HR.out.sep)); obtain ⟨a0, a1', z0', z1'⟩ := hbx; clear hb12 hbd)
                | (at_builtin; refine appK el_xy rfl rfl (w0 := w5) rfl (by rw [show ((w12.setCell ⟨ab, 0, none⟩ (.int .i64 n1)).setCell ⟨ab, 1, none⟩ (.int .i64 n2)).heap.size = w12.heap.size by simp]; rfl) (by exact HBD.out) (by exact HOW.out) rfl (by simp [Value.oneCell']) (by omega) ?_; intro v13 w13 ho13 hb13 hg13; obtain ⟨g13, c13, rfl, hg131, hg132⟩ := own_some ho13 (by omega); have HO13 := Lib.hid ho13; have HB13 := Lib.hid hb13; have HK13 := Lib.hid hg13; clear ho13 hb13 hg13; have r0 := grown_cell HK13.out (cell_alloc z0 _) HR.out.sep; have r1 := grown_cell HK13.out (cell_alloc z1 _) HR.out.sep))
              go_roundg k
              case measure => omega
              case rel =>
                refine ⟨path ++ [(n1, n2)], r, (n1, n2), m, left - (C), w13.heap.size, rfl, rfl, rfl, by simp at hrk; omega, Lib.hid ⟨?_, ?_, HRS.out, Box2.new _ _ _ _, HB13.out.size, HB13.out.alloc HB13.out.size _, HR.out.len, fun e => ?_, by simp⟩⟩
                · rw [List.length_append, HM.out, pairs_append]; exact HO13.out.alloc _
                · have h := HR.out.all; rw [HN.out] at h; rw [← h]; simp
                · have : g13 = w13.heap.size := Option.some.inj e
                  omega
          · skip
            have hC2 : 0 ≤ C ∧ C ≤ 2000 := by omega
            have hwl : IntKind.i64.wrap (left - C) = left - C := IntWalk.i64_in _ (by clear hwm hwa; omega)
            have hwq : IntKind.i64.wrap (C + q) = C + q := IntWalk.i64_in _ (by clear hwm hwa hwl; omega)
            rcases HST.out with ⟨hme, hml⟩ | ⟨hme, hml⟩
            · have hml' : ((C + q : Int) == left) = false := by simpa using hml
              clear hml
              go_wp2_with (first
                | (go_at_call 49; (with_reducible refine (HBSM.out _).mono ?_); rintro e w10 ⟨rfl, hb10⟩; have HB10' := Lib.hid (HB10.out.trans (hb10.mono HB10.out.size)); have HB11 : Hid (Below wo.heap.size wo (w10.alloc (.cells #[.int .i64 n1, .int .i64 n2] 26))) := Lib.hid (HB10'.out.alloc HB10'.out.size _); have g0 : (w10.alloc (.cells #[.int .i64 n1, .int .i64 n2] 26)).cell? ⟨w10.heap.size, 0, none⟩ = some (.int .i64 n1) := World.cell?_alloc_at _ _ _ _ rfl; have g1 : (w10.alloc (.cells #[.int .i64 n1, .int .i64 n2] 26)).cell? ⟨w10.heap.size, 1, none⟩ = some (.int .i64 n2) := World.cell?_alloc_at _ _ _ _ rfl; have hnb : w10.heap.size ≠ ab := (by have h1 := World.block_lt_of_cell? _ _ hb0; have h2 := HB10'.out.size; dsimp only at h1; omega); obtain ⟨q0, q1, q2, q3, q4⟩ := HG5.out.below (HR.out.bel.trans (HB11.out.mono HR.out.bel.size)); have HOPV := Lib.hid (HOV.out (n1, n2) _ (HBWo.out.trans (HB11.out.mono HBWo.out.size))); dsimp only at HOPV; rw [HOP.out] at HOPV; clear hb10 b0 b1)
                | (go_at_call 43; (with_reducible refine HOPV.out.mono ?_); rintro e w12 ⟨rfl, hb12⟩; have HB12 := Lib.hid (HB11.out.trans (hb12.mono HB11.out.size)); have g0' := cell_below g0 hb12; have g1' := cell_below g1 hb12; have f12 := HFX.out _ HB12.out; obtain ⟨r0, r1, r2, r3, r4⟩ := HG5.out.below (HR.out.bel.trans (HB12.out.mono HR.out.bel.size)); clear hb12))
              go_roundw
              case rel => exact ⟨m + 1, by omega, rfl, rfl, rfl, by go_num, HB12⟩
              case measure => simp [intOf]; omega
            · subst hme
              have HRS : Hid (RW g (t1, t2) T (n1, n2) m (left - (C)) r) := Lib.hid (by have := HRS0.out; rw [HN.out, HCC.out] at this; exact this)
              have hwL : wrap64 left = left := by clear hwm hwa hwl hwq; unfold wrap64; omega
              go_wp2_with (first
                | (go_at_call 49; (with_reducible refine (HBSM.out _).mono ?_); rintro e w10 ⟨rfl, hb10⟩; have HB10' := Lib.hid (HB10.out.trans (hb10.mono HB10.out.size)); have HB11 : Hid (Below wo.heap.size wo (w10.alloc (.cells #[.int .i64 n1, .int .i64 n2] 26))) := Lib.hid (HB10'.out.alloc HB10'.out.size _); have g0 : (w10.alloc (.cells #[.int .i64 n1, .int .i64 n2] 26)).cell? ⟨w10.heap.size, 0, none⟩ = some (.int .i64 n1) := World.cell?_alloc_at _ _ _ _ rfl; have g1 : (w10.alloc (.cells #[.int .i64 n1, .int .i64 n2] 26)).cell? ⟨w10.heap.size, 1, none⟩ = some (.int .i64 n2) := World.cell?_alloc_at _ _ _ _ rfl; have hnb : w10.heap.size ≠ ab := (by have h1 := World.block_lt_of_cell? _ _ hb0; have h2 := HB10'.out.size; dsimp only at h1; omega); obtain ⟨q0, q1, q2, q3, q4⟩ := HG5.out.below (HR.out.bel.trans (HB11.out.mono HR.out.bel.size)); have HOPV := Lib.hid (HOV.out (n1, n2) _ (HBWo.out.trans (HB11.out.mono HBWo.out.size))); dsimp only at HOPV; rw [HOP.out] at HOPV; clear hb10 b0 b1)
                | (go_at_call 43; (with_reducible refine HOPV.out.mono ?_); rintro e w12 ⟨rfl, hb12⟩; have HB12 := Lib.hid (HB11.out.trans (hb12.mono HB11.out.size)); have g0' := cell_below g0 hb12; have g1' := cell_below g1 hb12; have f12 := HFX.out _ HB12.out; obtain ⟨r0, r1, r2, r3, r4⟩ := HG5.out.below (HR.out.bel.trans (HB12.out.mono HR.out.bel.size)); have hbx := HR.out.bx.below HB12.out; obtain ⟨_, z0, z1, hbd⟩ := endS (w0 := w5) (x := .int .i64 n1) (y := .int .i64 n2) hbx HR.out.ge (Lib.hid (HR.out.bel.trans (HB12.out.mono HR.out.bel.size))); have HBD := Lib.hid hbd; have HOW := Lib.hid (((own_below HOWN.out HB12.out).kept (grown_setCell w12 ab 0 (.int .i64 n1)) (.inr HR.out.sep)).kept (grown_setCell _ ab 1 (.int .i64 n2)) (.inr HR.out.sep)); obtain ⟨a0, a1', z0', z1'⟩ := hbx; clear hb12 hbd)
                | (at_builtin; refine appK el_xy rfl rfl (w0 := w5) rfl (by rw [show ((w12.setCell ⟨ab, 0, none⟩ (.int .i64 n1)).setCell ⟨ab, 1, none⟩ (.int .i64 n2)).heap.size = w12.heap.size by simp]; rfl) (by exact HBD.out) (by exact HOW.out) rfl (by simp [Value.oneCell']) (by omega) ?_; intro v13 w13 ho13 hb13 hg13; obtain ⟨g13, c13, rfl, hg131, hg132⟩ := own_some ho13 (by omega); have HO13 := Lib.hid ho13; have HB13 := Lib.hid hb13; have HK13 := Lib.hid hg13; clear ho13 hb13 hg13; have r0 := grown_cell HK13.out (cell_alloc z0 _) HR.out.sep; have r1 := grown_cell HK13.out (cell_alloc z1 _) HR.out.sep))
              go_roundg k
              case measure => omega
              case rel =>
                refine ⟨path ++ [(n1, n2)], r, (n1, n2), m, left - (C), w13.heap.size, rfl, rfl, rfl, by simp at hrk; omega, Lib.hid ⟨?_, ?_, HRS.out, Box2.new _ _ _ _, HB13.out.size, HB13.out.alloc HB13.out.size _, HR.out.len, fun e => ?_, by simp⟩⟩
                · rw [List.length_append, HM.out, pairs_append]; exact HO13.out.alloc _
                · have h := HR.out.all; rw [HN.out] at h; rw [← h]; simp
                · have : g13 = w13.heap.size := Option.some.inj e
                  omega
          · have h1' : (came != (m : Int)) = true := by simpa using h1
            have hC2 : 0 ≤ mv + bd ∧ mv + bd ≤ 2000 := by omega
            have hwl : IntKind.i64.wrap (left - (mv + bd)) = left - (mv + bd) := IntWalk.i64_in _ (by clear hwm hwa; omega)
            have hw64 : wrap64 (mv + bd) = mv + bd := by clear hwm hwa hwl; unfold wrap64; omega
            have hwq : IntKind.i64.wrap (mv + bd + q) = mv + bd + q := IntWalk.i64_in _ (by clear hwm hwa hwl; omega)
            rcases HST.out with ⟨hme, hml⟩ | ⟨hme, hml⟩
            · have hml' : ((mv + bd + q : Int) == left) = false := by simpa using hml
              clear hml
              go_wp2_with (first
                | (go_at_call 49; (with_reducible refine (HBSM.out _).mono ?_); rintro e w10 ⟨rfl, hb10⟩; have HB10' := Lib.hid (HB10.out.trans (hb10.mono HB10.out.size)); have HB11 : Hid (Below wo.heap.size wo (w10.alloc (.cells #[.int .i64 n1, .int .i64 n2] 26))) := Lib.hid (HB10'.out.alloc HB10'.out.size _); have g0 : (w10.alloc (.cells #[.int .i64 n1, .int .i64 n2] 26)).cell? ⟨w10.heap.size, 0, none⟩ = some (.int .i64 n1) := World.cell?_alloc_at _ _ _ _ rfl; have g1 : (w10.alloc (.cells #[.int .i64 n1, .int .i64 n2] 26)).cell? ⟨w10.heap.size, 1, none⟩ = some (.int .i64 n2) := World.cell?_alloc_at _ _ _ _ rfl; have hnb : w10.heap.size ≠ ab := (by have h1 := World.block_lt_of_cell? _ _ hb0; have h2 := HB10'.out.size; dsimp only at h1; omega); obtain ⟨q0, q1, q2, q3, q4⟩ := HG5.out.below (HR.out.bel.trans (HB11.out.mono HR.out.bel.size)); have HOPV := Lib.hid (HOV.out (n1, n2) _ (HBWo.out.trans (HB11.out.mono HBWo.out.size))); dsimp only at HOPV; rw [HOP.out] at HOPV; clear hb10 b0 b1)
                | (go_at_call 43; (with_reducible refine HOPV.out.mono ?_); rintro e w12 ⟨rfl, hb12⟩; have HB12 := Lib.hid (HB11.out.trans (hb12.mono HB11.out.size)); have g0' := cell_below g0 hb12; have g1' := cell_below g1 hb12; have f12 := HFX.out _ HB12.out; obtain ⟨r0, r1, r2, r3, r4⟩ := HG5.out.below (HR.out.bel.trans (HB12.out.mono HR.out.bel.size)); clear hb12))
              go_roundw
              case rel => exact ⟨m + 1, by omega, rfl, rfl, rfl, by go_num, HB12⟩
              case measure => simp [intOf]; omega
            · subst hme
              have HRS : Hid (RW g (t1, t2) T (n1, n2) m (left - (mv + bd)) r) := Lib.hid (by have := HRS0.out; rw [HN.out, HCC.out] at this; exact this)
              have hwL : wrap64 left = left := by clear hwm hwa hwl hwq; unfold wrap64; omega
              go_wp2_with (first
                | (go_at_call 49; (with_reducible refine (HBSM.out _).mono ?_); rintro e w10 ⟨rfl, hb10⟩; have HB10' := Lib.hid (HB10.out.trans (hb10.mono HB10.out.size)); have HB11 : Hid (Below wo.heap.size wo (w10.alloc (.cells #[.int .i64 n1, .int .i64 n2] 26))) := Lib.hid (HB10'.out.alloc HB10'.out.size _); have g0 : (w10.alloc (.cells #[.int .i64 n1, .int .i64 n2] 26)).cell? ⟨w10.heap.size, 0, none⟩ = some (.int .i64 n1) := World.cell?_alloc_at _ _ _ _ rfl; have g1 : (w10.alloc (.cells #[.int .i64 n1, .int .i64 n2] 26)).cell? ⟨w10.heap.size, 1, none⟩ = some (.int .i64 n2) := World.cell?_alloc_at _ _ _ _ rfl; have hnb : w10.heap.size ≠ ab := (by have h1 := World.block_lt_of_cell? _ _ hb0; have h2 := HB10'.out.size; dsimp only at h1; omega); obtain ⟨q0, q1, q2, q3, q4⟩ := HG5.out.below (HR.out.bel.trans (HB11.out.mono HR.out.bel.size)); have HOPV := Lib.hid (HOV.out (n1, n2) _ (HBWo.out.trans (HB11.out.mono HBWo.out.size))); dsimp only at HOPV; rw [HOP.out] at HOPV; clear hb10 b0 b1)
                | (go_at_call 43; (with_reducible refine HOPV.out.mono ?_); rintro e w12 ⟨rfl, hb12⟩; have HB12 := Lib.hid (HB11.out.trans (hb12.mono HB11.out.size)); have g0' := cell_below g0 hb12; have g1' := cell_below g1 hb12; have f12 := HFX.out _ HB12.out; obtain ⟨r0, r1, r2, r3, r4⟩ := HG5.out.below (HR.out.bel.trans (HB12.out.mono HR.out.bel.size)); have hbx := HR.out.bx.below HB12.out; obtain ⟨_, z0, z1, hbd⟩ := endS (w0 := w5) (x := .int .i64 n1) (y := .int .i64 n2) hbx HR.out.ge (Lib.hid (HR.out.bel.trans (HB12.out.mono HR.out.bel.size))); have HBD := Lib.hid hbd; have HOW := Lib.hid (((own_below HOWN.out HB12.out).kept (grown_setCell w12 ab 0 (.int .i64 n1)) (.inr HR.out.sep)).kept (grown_setCell _ ab 1 (.int .i64 n2)) (.inr HR.out.sep)); obtain ⟨a0, a1', z0', z1'⟩ := hbx; clear hb12 hbd)
                | (at_builtin; refine appK el_xy rfl rfl (w0 := w5) rfl (by rw [show ((w12.setCell ⟨ab, 0, none⟩ (.int .i64 n1)).setCell ⟨ab, 1, none⟩ (.int .i64 n2)).heap.size = w12.heap.size by simp]; rfl) (by exact HBD.out) (by exact HOW.out) rfl (by simp [Value.oneCell']) (by omega) ?_; intro v13 w13 ho13 hb13 hg13; obtain ⟨g13, c13, rfl, hg131, hg132⟩ := own_some ho13 (by omega); have HO13 := Lib.hid ho13; have HB13 := Lib.hid hb13; have HK13 := Lib.hid hg13; clear ho13 hb13 hg13; have r0 := grown_cell HK13.out (cell_alloc z0 _) HR.out.sep; have r1 := grown_cell HK13.out (cell_alloc z1 _) HR.out.sep))
              go_roundg k
              case measure => omega
              case rel =>
                refine ⟨path ++ [(n1, n2)], r, (n1, n2), m, left - (mv + bd), w13.heap.size, rfl, rfl, rfl, by simp at hrk; omega, Lib.hid ⟨?_, ?_, HRS.out, Box2.new _ _ _ _, HB13.out.size, HB13.out.alloc HB13.out.size _, HR.out.len, fun e => ?_, by simp⟩⟩
                · rw [List.length_append, HM.out, pairs_append]; exact HO13.out.alloc _
                · have h := HR.out.all; rw [HN.out] at h; rw [← h]; simp
                · have : g13 = w13.heap.size := Option.some.inj e
                  omega
end Go.Proofs.Ytpakkjkjppibnaa
