/- Layout: Must. -/
import Derived.Test.YtpakkjkjppibnaaGMust
namespace Go.Proofs.Ytpakkjkjppibnaa
open Go.RowKit

def XYc (V : World) (B : Nat) (p : Ce) : Prop := V.cell? ⟨B, 0, none⟩ = some (.int .i64 p.1) ∧ V.cell? ⟨B, 1, none⟩ = some (.int .i64 p.2)
theorem XYc.below {V V' : World} {B : Nat} {p : Ce} (h : XYc V B p) (hb : Below V.heap.size V V') : XYc V' B p := ⟨cell_below h.1 hb, cell_below h.2 hb⟩
def MBx (V : World) (B : Nat) (w h mv bd : Int) (bv : Value) (a b c d : Ce) : Prop := GBx V B w h mv bd bv ∧ XYc V (B + 1) a ∧ XYc V (B + 1 + 1) b ∧ XYc V (B + 1 + 1 + 1) c ∧ XYc V (B + 1 + 1 + 1 + 1) d
theorem MBx.below {V V' : World} {B : Nat} {w h mv bd : Int} {bv : Value} {a b c d : Ce} (hm : MBx V B w h mv bd bv a b c d) (hb : Below V.heap.size V V') : MBx V' B w h mv bd bv a b c d :=
  ⟨hm.1.below hb, hm.2.1.below hb, hm.2.2.1.below hb, hm.2.2.2.1.below hb, hm.2.2.2.2.below hb⟩
theorem XYc.new (W : World) (a : Ce) (t : TypeId) (B : Nat) (hB : B = W.heap.size) : XYc (W.alloc (.cells #[.int .i64 a.1, .int .i64 a.2] t)) B a := ⟨World.cell?_alloc_at _ _ _ _ hB, World.cell?_alloc_at _ _ _ _ hB⟩
theorem bel1 (W : World) (o : Obj) : Below W.heap.size W (W.alloc o) := (Below.refl _ _).alloc (Nat.le_refl _) _
theorem MBx.new (W : World) (w h mv bd : Int) (bv : Value) (a b c d : Ce) (t s : TypeId) :
    MBx (((((W.alloc (.cells #[.int .i64 w, .int .i64 h, .int .i64 mv, .int .i64 bd, bv] t)).alloc (.cells #[.int .i64 a.1, .int .i64 a.2] s)).alloc (.cells #[.int .i64 b.1, .int .i64 b.2] s)).alloc (.cells #[.int .i64 c.1, .int .i64 c.2] s)).alloc (.cells #[.int .i64 d.1, .int .i64 d.2] s)) W.heap.size w h mv bd bv a b c d :=
  ⟨((((GBx.new1 W w h mv bd bv t).below (bel1 _ _)).below (bel1 _ _)).below (bel1 _ _)).below (bel1 _ _),
   (((XYc.new _ a s _ (by simp)).below (bel1 _ _)).below (bel1 _ _)).below (bel1 _ _), ((XYc.new _ b s _ (by simp)).below (bel1 _ _)).below (bel1 _ _), (XYc.new _ c s _ (by simp)).below (bel1 _ _), XYc.new _ d s _ (by simp)⟩

def okIs (is : List Int) : Bool := is.all (fun i => decide (0 ≤ i)) && decide is.Nodup
theorem okIs_snoc (l : List Int) (i : Int) : okIs (l ++ [i]) = (okIs l && (decide (0 ≤ i) && decide (i ∉ l))) := by
  unfold okIs
  rw [Bool.eq_iff_iff]
  simp only [Bool.and_eq_true, List.all_append, List.all_cons, List.all_nil, decide_eq_true_eq, Bool.and_true, List.nodup_append]
  constructor
  · rintro ⟨⟨h1, h2⟩, h3, _, h4⟩
    exact ⟨⟨h1, h3⟩, h2, fun hm => h4 i hm i (by simp) rfl⟩
  · rintro ⟨⟨h1, h2⟩, h3, h4⟩
    exact ⟨⟨h1, h3⟩, h2, by simp, fun a ha b hb => by rw [List.mem_singleton] at hb; subst hb; exact fun e => h4 (e ▸ ha)⟩
theorem okIs_take {l : List Int} (h : okIs l = true) (k : Nat) : okIs (l.take k) = true := by
  unfold okIs at *
  simp only [Bool.and_eq_true, List.all_eq_true, decide_eq_true_eq] at *
  exact ⟨fun x hx => h.1 x (List.mem_of_mem_take hx), List.Nodup.sublist (List.take_sublist k l) h.2⟩
def insV (i0 i1 i : Int) : Bool := decide (min i0 i1 ≤ i) && decide (i ≤ max i0 i1)
def mustIs (L : List Ce) (a b c d : Ce) : List Int := [idxC L a, idxC L b, idxC L c, idxC L d]
def mustF (w h : Nat) (a b c d : Ce) : Bool × Int :=
  if [a, b, c, d].all (onP w h) = true then (if okIs (mustIs (rimL w h) a b c d) = true then (insV (idxC (rimL w h) a) (idxC (rimL w h) b) (idxC (rimL w h) c) != insV (idxC (rimL w h) a) (idxC (rimL w h) b) (idxC (rimL w h) d), 0) else (false, 2)) else (false, 72)

theorem RdP4 (W : World) (a1 a2 b1 b2 c1 c2 d1 d2 : Int) : RdP (W.alloc (.cells #[.int .i64 a1, .int .i64 a2, .int .i64 b1, .int .i64 b2, .int .i64 c1, .int .i64 c2, .int .i64 d1, .int .i64 d2] 26)) (.slice (some ⟨W.heap.size, 0, none⟩) 4 4) [(a1, a2), (b1, b2), (c1, c2), (d1, d2)] :=
  RdP.own (B := W.heap.size) (n := 4) (e := 26) (own_lit2 W W.heap.size 26 #[.int .i64 a1, .int .i64 a2, .int .i64 b1, .int .i64 b2, .int .i64 c1, .int .i64 c2, .int .i64 d1, .int .i64 d2] 4 (Nat.le_refl _) rfl (by decide)) rfl

theorem RdP.at0 {W : World} {B n cap j : Nat} {l : List Ce} {x : Ce} (h : RdP W (.slice (some ⟨B, 0, none⟩) n cap) l) (hx : l[j]? = some x) : W.cell? ⟨B, j * 2, none⟩ = some (.int .i64 x.1) ∧ W.cell? ⟨B, j * 2 + 1, none⟩ = some (.int .i64 x.2) := by
  obtain ⟨a, c, e, _, _, h3, _⟩ := h
  injection e with e1 e2 e3
  subst e1
  obtain ⟨b, o, e4, q0, q1⟩ := RdP.cell h3 hx
  injection e4 with e5
  injection e5 with e6 e7
  subst e6 e7
  simp only [Nat.zero_add] at q0 q1
  exact ⟨q0, q1⟩

set_option maxRecDepth 100000 in
set_option maxHeartbeats 4000000 in
theorem Must_ok (w h : Nat) (mv bd : Int) (bv : Value) (bl : List Ce) (a b c d : Ce) (W : World) (hv : RdP W bv bl) (hb : validP w h mv bd bl = true) :
    Calls Try.prog 26 #[.agg #[.int .i64 w, .int .i64 h, .int .i64 mv, .int .i64 bd, bv], .agg #[.int .i64 a.1, .int .i64 a.2], .agg #[.int .i64 b.1, .int .i64 b.2], .agg #[.int .i64 c.1, .int .i64 c.2], .agg #[.int .i64 d.1, .int .i64 d.2]] W fun e w' => e = .returned (.tuple #[.bool (mustF w h a b c d).1, .int .i64 (mustF w h a b c d).2]) ∧ Below W.heap.size W w' := by
  obtain ⟨wb, hwb⟩ : ∃ wb, ((((W.alloc (.cells #[.int .i64 w, .int .i64 h, .int .i64 mv, .int .i64 bd, bv] 24)).alloc (.cells #[.int .i64 a.1, .int .i64 a.2] 26)).alloc (.cells #[.int .i64 b.1, .int .i64 b.2] 26)).alloc (.cells #[.int .i64 c.1, .int .i64 c.2] 26)).alloc (.cells #[.int .i64 d.1, .int .i64 d.2] 26) = wb := ⟨_, rfl⟩
  have HMB := Lib.hid (MBx.new W w h mv bd bv a b c d 24 26)
  have HV1 : Hid (Below W.heap.size W wb) := Lib.hid (by
    rw [← hwb]
    exact (((((Below.refl _ _).alloc (Nat.le_refl _) _).alloc (by simp) _).alloc (by simp; omega) _).alloc (by simp; omega) _).alloc (by simp; omega) _)
  rw [hwb] at HMB
  have HVA := Lib.hid (fun V (hV : Below W.heap.size W V) => opened_ok w h mv bd bv bl V (hv.below hV) hb)
  have hq := ((validP_iff _ _ _ _ _).1 hb).1
  have HRM : Hid (∀ (V : World) (Bg sb : Nat), GridAt V Bg (grK w h mv bd bl bl.length) bv (some ⟨sb, 0, none⟩) (w * h) → Calls Try.prog 56 #[.pointer (some ⟨Bg, 0, none⟩)] V fun e w' => ∃ u, e = .returned u ∧ w'.ownsRow V.heap.size 26 2 u (rimL w h).length (pairs (rimL w h)) ∧ Below V.heap.size V w') := Lib.hid (fun V Bg sb hg => rim_any Bg _ _ _ _ V hg)
  have HIX := Lib.hid (fun V v (x y : Int) (hr : RdP V v (rimL w h)) => index_xy (rimL w h) v x y V hr (by have := rimL_len w h (by omega) (by omega); omega))
  have HF : Hid (mustF w h a b c d = if [a, b, c, d].all (onP w h) = true then (if okIs (mustIs (rimL w h) a b c d) = true then (insV (idxC (rimL w h) a) (idxC (rimL w h) b) (idxC (rimL w h) c) != insV (idxC (rimL w h) a) (idxC (rimL w h) b) (idxC (rimL w h) d), 0) else (false, 2)) else (false, 72)) := Lib.hid rfl
  obtain ⟨mf, hmf⟩ : ∃ mf, mustF w h a b c d = mf := ⟨_, rfl⟩
  rw [hmf] at HF ⊢
  have eg : ∀ args w, (callFunc 60 args).run Try.prog w = .ok (.enter 60 args) w := enters_of Try.func60 (by kernel_rfl) rfl
  obtain ⟨t, ht⟩ : ∃ t, [a, b, c, d].all (onP w h) = t := ⟨_, rfl⟩
  have HT : Hid ((List.range [a, b, c, d].length).any (fun j => !onP w h ([a, b, c, d].getD j (0, 0))) = !t) := Lib.hid (by rw [any_off, ht])
  rw [ht] at HF
  have HCF := Lib.hid (fun (V : World) (v : Value) (hr : RdP V v [a, b, c, d]) (hg : GBx V W.heap.size w h mv bd bv) => has_xy (fun j => !onP w h ([a, b, c, d].getD j (0, 0))) 60 #[.pointer (some ⟨W.heap.size, 0, none⟩)] eg [a, b, c, d] v V
    (offM w h mv bd bv [a, b, c, d] W.heap.size V (by omega) (by omega) hg.1 hg.2.1 hg.2.2.1 hg.2.2.2.1 hg.2.2.2.2) hr (by simp) (!t) HT.out)
  generalize rimL w h = L at *
  obtain ⟨ba, bc, rfl, _, _, _, _⟩ := hv
  obtain ⟨a1, a2⟩ := a
  obtain ⟨b1, b2⟩ := b
  obtain ⟨c1, c2⟩ := c
  obtain ⟨d1, d2⟩ := d
  have HWB := Lib.hid hwb
  dsimp only at HMB HWB HCF ⊢
  have hmb := HMB.out
  unfold MBx XYc GBx at hmb
  dsimp only at hmb
  obtain ⟨⟨e0, e1, e2, e3, e4⟩, ⟨k0, k1⟩, ⟨k2, k3⟩, ⟨k4, k5⟩, ⟨k6, k7⟩⟩ := hmb
  clear hb hq hmf eg ht hwb
  clear e0 e1 e2 e3 e4 k0 k1 k2 k3 k4 k5 k6 k7
  cases t with
  | false =>
    have HF1 : Hid (mf = (false, 72)) := Lib.hid (by rw [HF.out]; rfl)
    rw [Bool.not_false] at HCF
    have hmb := HMB.out
    unfold MBx XYc GBx at hmb
    dsimp only at hmb
    obtain ⟨⟨e0, e1, e2, e3, e4⟩, ⟨k0, k1⟩, ⟨k2, k3⟩, ⟨k4, k5⟩, ⟨k6, k7⟩⟩ := hmb
    go_enter Try.func26, Try.ntmps26
    go_wp2_with (first
      | (go_at_call 38; rw [HWB.out]; (with_reducible refine (HVA.out _ HV1.out).mono ?_); rintro e w1 ⟨Bg, sb, rfl, hg1, hbb1⟩; have HG1 := Lib.hid hg1; have HB1 := Lib.hid hbb1; have HM1 := Lib.hid (HMB.out.below hbb1); have hmb := HM1.out; unfold MBx XYc GBx at hmb; dsimp only at hmb; obtain ⟨⟨e0, e1, e2, e3, e4⟩, ⟨k0, k1⟩, ⟨k2, k3⟩, ⟨k4, k5⟩, ⟨k6, k7⟩⟩ := hmb; clear hg1 hbb1)
      | (go_at_call 59; refine (HCF.out _ _ (RdP4 w1 a1 a2 b1 b2 c1 c2 d1 d2) (HM1.out.1.below (bel1 _ _))).mono ?_; rintro e w2 ⟨rfl, hb2⟩; have HB2 : Hid (Below w1.heap.size w1 w2) := Lib.hid ((bel1 w1 _).trans (hb2.mono (by simp))); clear hb2))
    go_ret2
    exact ⟨by rw [HF1.out]; rfl, HV1.out.trans ((HB1.out.trans (HB2.out.mono HB1.out.size)).mono HV1.out.size)⟩
  | true =>
    rw [if_pos rfl] at HF
    rw [Bool.not_true] at HCF
    obtain ⟨xs, hxs⟩ : ∃ xs, xs = [(a1, a2), (b1, b2), (c1, c2), (d1, d2)] := ⟨_, rfl⟩
    obtain ⟨is, his⟩ : ∃ is, is = mustIs L (a1, a2) (b1, b2) (c1, c2) (d1, d2) := ⟨_, rfl⟩
    have hmap : is = xs.map (idxC L) := by rw [his, hxs]; rfl
    have hxl : xs.length = 4 := by rw [hxs]; rfl
    have hil : is.length = 4 := by rw [his]; rfl
    rw [← his] at HF
    have HXS := Lib.hid hxs
    have HIS := Lib.hid his
    have HMAP := Lib.hid hmap
    have HXL := Lib.hid hxl
    have HIL := Lib.hid hil
    have hmb := HMB.out
    unfold MBx XYc GBx at hmb
    dsimp only at hmb
    obtain ⟨⟨e0, e1, e2, e3, e4⟩, ⟨k0, k1⟩, ⟨k2, k3⟩, ⟨k4, k5⟩, ⟨k6, k7⟩⟩ := hmb
    clear hxs his hmap hxl hil
    go_enter Try.func26, Try.ntmps26
    go_wp2_with (first
      | (go_at_call 38; rw [HWB.out]; (with_reducible refine (HVA.out _ HV1.out).mono ?_); rintro e w1 ⟨Bg, sb, rfl, hg1, hbb1⟩; have HG1 := Lib.hid hg1; have HB1 := Lib.hid hbb1; have HM1 := Lib.hid (HMB.out.below hbb1); have hmb := HM1.out; unfold MBx XYc GBx at hmb; dsimp only at hmb; obtain ⟨⟨e0, e1, e2, e3, e4⟩, ⟨k0, k1⟩, ⟨k2, k3⟩, ⟨k4, k5⟩, ⟨k6, k7⟩⟩ := hmb; clear hg1 hbb1)
      | (go_at_call 59; refine (HCF.out _ _ (RdP4 w1 a1 a2 b1 b2 c1 c2 d1 d2) (HM1.out.1.below (bel1 _ _))).mono ?_; rintro e w2 ⟨rfl, hb2⟩; have HB2 : Hid (Below w1.heap.size w1 w2) := Lib.hid ((bel1 w1 _).trans (hb2.mono (by simp))); have HR2 := Lib.hid ((RdP4 w1 a1 a2 b1 b2 c1 c2 d1 d2).below hb2); clear hb2)
      | (go_at_call 56; refine (HRM.out _ _ _ (HG1.out.below HB2.out)).mono ?_; rintro e w3 ⟨u, rfl, ho3, hb3⟩; have HU3 := Lib.hid (RdP.own ho3 rfl); have HR3 := Lib.hid (HR2.out.below hb3); have HB3 := Lib.hid (HB2.out.trans (hb3.mono HB2.out.size)); clear ho3 hb3))
    rw [← HXS.out] at HR3
    have HB03 := Lib.hid (HV1.out.trans ((HB1.out.trans (HB3.out.mono HB1.out.size)).mono HV1.out.size))
    go_loopw [41] (fun i wr => ∃ k : Nat, k ≤ 4 ∧ i = .int .i64 k ∧ Hid (okIs (is.take k) = true) ∧ Hid (∃ v, Boxed wr w3.heap.size 29 v ∧ wr.ownsRow w3.heap.size 3 1 v k (ints (is.take k))) ∧ Hid (Below w3.heap.size w3 wr)) (fun i _ => 4 - (intOf i).toNat)
    case atStart => exact ⟨0, by omega, rfl, Lib.hid rfl, Lib.hid ⟨_, Boxed.new w3 _ _, World.ownsRow_nil _ _ _ _⟩, Lib.hid (bel1 _ _)⟩
    case round =>
      obtain ⟨k, hk, rfl, HOK, HAT, HBR⟩ := hrel
      by_cases hlt : k < 4
      · have hlt' : (k : Int) < 4 := by omega
        obtain ⟨⟨x, y⟩, hx⟩ : ∃ x, xs[k]? = some x := ⟨_, List.getElem?_eq_getElem (by rw [HXL.out]; exact hlt)⟩
        have hi : is[k]? = some (idxC L (x, y)) := by rw [HMAP.out, List.getElem?_map, hx]; rfl
        have HIX2 := Lib.hid (fun V (hV : Below wr.heap.size wr V) => HIX.out V u x y ((HU3.out.below HBR.out).below hV))
        obtain ⟨i, hie⟩ : ∃ i, idxC L (x, y) = i := ⟨_, rfl⟩
        rw [hie] at hi HIX2
        have HTK : Hid (is.take (k + 1) = is.take k ++ [i]) := Lib.hid (by rw [List.take_add_one, hi]; rfl)
        obtain ⟨q0, q1⟩ := RdP.at0 (HR3.out.below HBR.out) hx
        dsimp only at q0 q1
        obtain ⟨v, hbx, how⟩ := HAT.out
        obtain ⟨va, vc, rfl⟩ := own_form how
        have HBX := Lib.hid hbx
        have HOW := Lib.hid how
        have HBR3 := Lib.hid (HB03.out.trans (HBR.out.mono HB03.out.size))
        have HIXA := Lib.hid (HIX2.out _ (bel1 wr (.cells #[.int .i64 x, .int .i64 y] 26)))
        have g0 := hbx.cell
        have HOKS : Hid (okIs (is.take (k + 1)) = (okIs (is.take k) && (decide (0 ≤ i) && decide (i ∉ is.take k)))) := Lib.hid (by rw [HTK.out, okIs_snoc])
        have HLEN : Hid ((is.take k).length ≤ 4000000) := Lib.hid (by rw [List.length_take]; omega)
        clear hx hi hie hbx how HAT
        by_cases hneg : i < 0
        · have hn1 : decide (i < 0) = true := decide_eq_true hneg
          have HNO : Hid (mf = (false, 2)) := Lib.hid (by
            rw [HF.out, if_neg]
            intro hh
            have := okIs_take hh (k + 1)
            rw [HOKS.out, decide_eq_false (by omega : ¬ 0 ≤ i)] at this
            simp at this)
          go_wp2_with (first
            | (go_at_call 55; refine HIXA.out.mono ?_; rintro e w4 ⟨rfl, hb4⟩; have HB4 := Lib.hid ((bel1 wr _).trans (hb4.mono (bel1 wr _).size)); clear hb4))
          go_ret2
          exact ⟨by rw [HNO.out]; rfl, HBR3.out.trans (HB4.out.mono HBR3.out.size)⟩
        · have hn1 : decide (i < 0) = false := decide_eq_false hneg
          obtain ⟨t, ht⟩ : ∃ t, decide (i ∈ is.take k) = t := ⟨_, rfl⟩
          have HCT := Lib.hid (fun V (hV : Below wr.heap.size wr V) => contains_int (is.take k) (.slice va k vc) i V (Rd.own (own_below HOW.out hV)) HLEN.out)
          rw [ht] at HCT
          have HTT := Lib.hid ht
          clear ht
          cases t with
          | true =>
            have HNO : Hid (mf = (false, 2)) := Lib.hid (by
              rw [HF.out, if_neg]
              intro hh
              have := okIs_take hh (k + 1)
              rw [HOKS.out, decide_eq_false (not_not_intro (of_decide_eq_true HTT.out) : ¬ i ∉ is.take k)] at this
              simp at this)
            go_wp2_with (first
              | (go_at_call 55; refine HIXA.out.mono ?_; rintro e w4 ⟨rfl, hb4⟩; have HB4 := Lib.hid ((bel1 wr _).trans (hb4.mono (bel1 wr _).size)); replace g0 := cell_below g0 HB4.out; clear hb4)
              | (go_at_call 61; refine (HCT.out _ HB4.out).mono ?_; rintro e w5 ⟨rfl, hb5⟩; have HB5 := Lib.hid (HB4.out.trans (hb5.mono HB4.out.size)); clear hb5))
            go_ret2
            exact ⟨by rw [HNO.out]; rfl, HBR3.out.trans (HB5.out.mono HBR3.out.size)⟩
          | false =>
            have HOK' : Hid (okIs (is.take (k + 1)) = true) := Lib.hid (by
              rw [HOKS.out, HOK.out, decide_eq_true (by omega : 0 ≤ i), decide_eq_true (of_decide_eq_false HTT.out)]
              rfl)
            go_wp2_with (first
              | (go_at_call 55; refine HIXA.out.mono ?_; rintro e w4 ⟨rfl, hb4⟩; have HB4 := Lib.hid ((bel1 wr _).trans (hb4.mono (bel1 wr _).size)); replace g0 := cell_below g0 HB4.out; clear hb4)
              | (go_at_call 61; refine (HCT.out _ HB4.out).mono ?_; rintro e w5 ⟨rfl, hb5⟩; have HB5 := Lib.hid (HB4.out.trans (hb5.mono HB4.out.size)); replace g0 := cell_below g0 hb5; have HBX5 : Hid (Boxed w5 w3.heap.size 29 (.slice va k vc)) := Lib.hid ((HB5.out.block _ HBX.out.lt).trans HBX.out); have HOW5 := Lib.hid (own_below HOW.out HB5.out); have HBE5 := Lib.hid (HBR.out.trans (HB5.out.mono HBR.out.size)); clear hb5)
              | (at_builtin; refine app1 el_num rfl rfl (w0 := w3) (by rfl) (by rfl) (by exact HBE5.out) (by exact HOW5.out) rfl (by omega) ?_; intro v6 w6 ho6 hb6 hg6; have HBX6 : Hid (Boxed w6 w3.heap.size 29 (.slice va k vc)) := Lib.hid (Boxed.kept (Boxed.alloc HBX5.out _) hg6 (Boxed.not_row HBX5.out (by decide) HOW5.out)); obtain ⟨g6, c6, rfl⟩ := own_form ho6; have HO6 := Lib.hid ho6; have HB6 := Lib.hid hb6; have b1 := HBX6.out.cell; have b2 := HBX6.out.frozen; clear ho6 hb6 hg6))
            go_roundw
            case rel =>
              exact ⟨k + 1, by omega, by go_num, HOK', Lib.hid ⟨_, HBX6.out.set _, by rw [HTK.out, ints_append]; exact HO6.out.kept (grownBy_setCell' w6 w3.heap.size _) (.inr (HBX6.out.not_row (by decide) HO6.out).symm)⟩, Lib.hid (HB6.out.setCell (Nat.le_refl _) _)⟩
            case measure => simp [intOf]; omega
      · obtain rfl : k = 4 := by omega
        have hta : is.take 4 = is := List.take_of_length_le (by rw [HIL.out]; exact Nat.le_refl _)
        obtain ⟨i0, i1, i2, i3, hi4, hj0, hj1, hj2, hj3⟩ : ∃ i0 i1 i2 i3, is = [i0, i1, i2, i3] ∧ idxC L (a1, a2) = i0 ∧ idxC L (b1, b2) = i1 ∧ idxC L (c1, c2) = i2 ∧ idxC L (d1, d2) = i3 := ⟨_, _, _, _, HIS.out, rfl, rfl, rfl, rfl⟩
        have HM9 : Hid (mf = (insV i0 i1 i2 != insV i0 i1 i3, 0)) := Lib.hid (by
          have := HOK.out
          rw [hta] at this
          rw [HF.out, if_pos this, hj0, hj1, hj2, hj3])
        obtain ⟨v, hbx, how⟩ := HAT.out
        rw [hta, hi4] at how
        obtain ⟨g, cap, rfl, _, _⟩ := own_some how (by omega)
        have n0 : wr.cell? ⟨g, 0, none⟩ = some (.int .i64 i0) := how.cellAt 0 (by omega)
        have n1 : wr.cell? ⟨g, 1, none⟩ = some (.int .i64 i1) := how.cellAt 1 (by omega)
        have n2 : wr.cell? ⟨g, 2, none⟩ = some (.int .i64 i2) := how.cellAt 2 (by omega)
        have n3 : wr.cell? ⟨g, 3, none⟩ = some (.int .i64 i3) := how.cellAt 3 (by omega)
        have nb := hbx.cell
        have HI2 := Lib.hid (fun (x : Grow wr) => inside_any w3.heap.size g cap 4 i0 i1 i2 (grow x) (by omega) (grow_cell nb x) (grow_cell n0 x) (grow_cell n1 x))
        have HI3 := Lib.hid (fun (x : Grow wr) => inside_any w3.heap.size g cap 4 i0 i1 i3 (grow x) (by omega) (grow_cell nb x) (grow_cell n0 x) (grow_cell n1 x))
        obtain ⟨t2, ht2⟩ : ∃ t, insV i0 i1 i2 = t := ⟨_, rfl⟩
        obtain ⟨t3, ht3⟩ : ∃ t, insV i0 i1 i3 = t := ⟨_, rfl⟩
        rw [ht2, ht3] at HM9
        unfold insV at ht2 ht3
        rw [ht2] at HI2
        rw [ht3] at HI3
        have HBR3 := Lib.hid (HB03.out.trans (HBR.out.mono HB03.out.size))
        have n2 := fun x : Grow wr => grow_cell n2 x
        have n3 := fun x : Grow wr => grow_cell n3 x
        have nb := fun x : Grow wr => grow_cell nb x
        clear hta hi4 hj0 hj1 hj2 hj3 how hbx n0 n1 ht2 ht3 HAT
        go_wp2_with fail
        refine wp_region_grow (by kernel_rfl) (by kernel_rfl) ?_
        repeat (go_big_quiet_step (first
          | (go_at_call 62; (with_reducible refine grow_of (HI2.out _)))
          | (go_at_call 62; (with_reducible refine grow_of (HI3.out _)))))
        refine wpQuiet_nil ?_
        intro _ hw'
        obtain ⟨xq, hw''⟩ := hw'
        subst hw''
        have HBx := Lib.hid (grow_below xq)
        generalize grow xq = w6 at *
        go_wp2_with fail
        go_ret2
        exact ⟨by rw [HM9.out]; rfl, HBR3.out.trans (HBx.out.mono HBR3.out.size)⟩
end Go.Proofs.Ytpakkjkjppibnaa
