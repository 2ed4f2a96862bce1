/- Layout: crossings: what a call of it hands back. -/
import Derived.Test.YtpakkjkjppibnaaKMeet
import Derived.Test.YtpakkjkjppibnaaKSort
namespace Go.Proofs.Ytpakkjkjppibnaa
open Go.RowKit Go.Maps

theorem el_cx : ElemK Try.prog 99 103 (.agg #[.int .i64 0, .int .i64 0, .int .i64 0, .int .i64 0]) 4 32 :=
  ⟨by kernel_rfl, info_parts (by kernel_rfl), by rfl, by decide, by decide⟩
def mkXY (c : Ce) : Value := .agg #[.int .i64 c.1, .int .i64 c.2]
def mkSl (x : Option Addr × Nat × Nat) : Value := .slice x.1 x.2.1 x.2.2
theorem xy_shape (key : Value) (kl : Lit) (h : keyOf Try.prog 26 key = some kl) : ∃ x, key = mkXY x := by
  obtain ⟨c, _, e, _⟩ := xy_inv h
  exact ⟨c, e⟩
theorem sl_shape (v : Value) (y : DataW Value × List MemPlace) (h : slR v = some y) : ∃ c, v = mkSl c := by
  obtain ⟨a, n, c, e, _⟩ := slR_inv h
  exact ⟨(a, n, c), e⟩
theorem visC_at {W : World} {B : Nat} {v : Value} {n : Nat} {l : List Vis} (h : W.ownsRow B 151 3 v n (visC l)) (hn : n = l.length) (h0 : l ≠ []) : ∃ g c, v = .slice (some ⟨g, 0, none⟩) l.length c ∧
    ∀ i x, l[i]? = some x → W.cell? ⟨g, i * 3, none⟩ = some (.int .i64 x.1) ∧ W.cell? ⟨g, i * 3 + 1, none⟩ = some (.int .i64 x.2.1) ∧ W.cell? ⟨g, i * 3 + 2, none⟩ = some (.bool x.2.2) := by
  subst hn
  have hp : 0 < l.length := List.length_pos_iff.2 h0
  rcases h.2 with ⟨_, e⟩ | ⟨g, cap, cur, rfl, _⟩
  · omega
  refine ⟨g, cap, rfl, fun i x hx => ?_⟩
  have hi : i < l.length := (List.getElem?_eq_some_iff.1 hx).1
  have key : ∀ (l : List Vis) (i : Nat) (x : Vis), l[i]? = some x → (visC l)[i * 3]? = some (.int .i64 x.1) ∧ (visC l)[i * 3 + 1]? = some (.int .i64 x.2.1) ∧ (visC l)[i * 3 + 2]? = some (.bool x.2.2) := by
    intro l
    induction l with
    | nil => intro i x h; simp at h
    | cons y l ih =>
      intro i x hx
      cases i with
      | zero =>
        simp at hx
        subst hx
        simp [visC]
      | succ i =>
        have := ih i x (by simpa using hx)
        have e : ∀ j, (visC (y :: l))[j + 3]? = (visC l)[j]? := fun j => by simp [visC]
        rw [show (i + 1) * 3 = i * 3 + 3 by omega, show i * 3 + 3 + 1 = (i * 3 + 1) + 3 by omega, show i * 3 + 3 + 2 = (i * 3 + 2) + 3 by omega, e, e, e]
        exact this
  obtain ⟨k1, k2, k3⟩ := key l i x hx
  exact ⟨by rw [h.cellAt _ (by omega), k1], by rw [h.cellAt _ (by omega), k2], by rw [h.cellAt _ (by omega), k3]⟩

theorem below_iter {w1 wr w' : World} (h : Below w1.heap.size w1 wr) {r : Nat} (hr : w1.heap.size ≤ r) (hg : wr.grownBy w' (some r)) : Below w1.heap.size w1 w' := h.grown hg h.size (fun k e => by cases e; exact hr)

theorem cross_add {w1 wv w11 : World} {b cnt ct3 n : Nat} {D : DataW Value} {left : Lit → Bool} {v : Value} {xs : List Value} {B : Nat} (h1 : wv.ranges Try.prog 26 slR b w1.heap.size cnt D left ct3) (h3 : wv.ownsRow B 103 4 v n xs)
    (o : Obj) (hg : (wv.drew.alloc o).grownBy w11 v.ownBlock) : w11.ranges Try.prog 26 slR b w1.heap.size cnt D left ct3 := by
  have h := own_notiter h3 h1
  exact (h1.kept ((grown_drewN wv 1 none).trans (World.grownBy_alloc _ o none)) (by simp) (by simp)).kept hg h.1 h.2

/-- what crossings hands back -/
def CrossP (G : Ce → List Vis) (W : World) (e : Ending) (w' : World) : Prop :=
  Below W.heap.size W w' ∧ ((∃ c, badV (G c) = true) ∧ e = .returned (.tuple #[.slice none 0 0, .bool false]) ∨
    ∃ u L, CrossOK G L ∧ L.length ≤ 12000 ∧ e = .returned (.tuple #[u, .bool true]) ∧ w'.ownsRow W.heap.size 103 4 u L.length (L.flatMap encX))

set_option maxRecDepth 100000 in
set_option maxHeartbeats 4000000 in
theorem crossings_any (ps : List (List Ce)) (v : Value) (w : World) (hv : RdPP w v ps) (hN : ps.length ≤ 12) (hL : ∀ p ∈ ps, p.length ≤ 1000) (hwf : ∀ p ∈ ps, WfL p) :
    Calls Try.prog 92 #[v] w (CrossP (visA ps ps.length) w) := by
  have HVI := Lib.hid (visits_any ps v w hv hN hL hwf)
  have HFEW := Lib.hid (vis_few hL hN)
  have HDIR := Lib.hid (fun c u hu => visA_dir (ps := ps) ps.length c u hu)
  obtain ⟨av, nv, cv, rfl⟩ := RdPP.form hv
  generalize visA ps ps.length = G at *
  clear hL hwf hN hv
  go_enter Try.func92, Try.ntmps92
  go_wp2_with (first
    | (go_at_call 104; (with_reducible refine HVI.out.mono ?_); rintro e w1 ⟨rfl, ⟨cnt, hvm⟩, hb1⟩; have HLT := Lib.hid hvm.lt; obtain ⟨D, hD1, hD2, hD3, hD4⟩ := hvm.data; have HB1 := Lib.hid hb1; have HD2 := Lib.hid hD2; have HD3 := Lib.hid hD3; have HD4 := Lib.hid hD4; clear hD2 hD3 hD4 hvm hb1)
    | (at_range; refine wpList_range_own _ rfl _ 147 rfl 26 149 xy_keyed Try.underlying147 slR w.heap.size cnt D rfl hD1 ?_; intro w2 hrg hg2 hs2))
  go_frame
  have HB2 : Hid (Below w1.heap.size w1 w2) := Lib.hid ((Below.refl _ _).grown hg2 (Nat.le_refl _) (fun k e => by cases e))
  have HBL := Lib.hid HLT.out
  clear hg2 hs2
  go_loopw [4] (fun p4 wr => ∃ (left : Lit → Bool) (ct n : Nat) (a : Option Addr) (c : Nat), p4 = .slice a n c ∧ Hid (wr.ranges Try.prog 26 slR w.heap.size w1.heap.size cnt D left ct) ∧ Hid (Below w1.heap.size w1 wr) ∧
    Hid (∃ L : List Cx, L.length = n ∧ wr.ownsRow w1.heap.size 103 4 (.slice a n c) n (L.flatMap encX) ∧ CInv G D left L)) (fun _ wr => wr.rangeLeft w.heap.size w1.heap.size)
  case atStart => exact ⟨_, _, 0, none, 0, rfl, Lib.hid hrg, HB2, Lib.hid ⟨[], rfl, World.ownsRow_nil _ _ _ _, CInv.start _ _⟩⟩
  case round =>
    clear hrg HB2
    obtain ⟨left, ct, n, a, c, rfl, HR, HB, HLL⟩ := hrel
    have hrg := HR.out
    go_wp2_with (first
      | (at_next; refine wpList_next_ranges _ rfl _ rfl 26 xy_keyed slR mkXY mkSl xy_shape sl_shape w.heap.size w1.heap.size cnt D left ct rfl hrg ?_ ?_)
      | go_in)
    · intro _ hl0
      obtain ⟨L, hLn, hown, hci⟩ := HLL.out
      have HL0 := Lib.hid hl0
      have HN : Hid (n ≤ 12000) := Lib.hid (by rw [← hLn]; exact hci.len HFEW.out)
      have HSO := Lib.hid (sortX_any w1.heap.size (.slice a n c) L wr (by rw [hLn]; exact hown) (by rw [hLn]; have := HN.out; omega))
      have HCI := Lib.hid hci
      have HLN := Lib.hid hLn
      have HOB := Lib.hid (fun k e => (hown.lt k e).1)
      clear hrg hown hci hLn hl0 HLL HR
      go_wp2_with (go_at_call 105; (with_reducible refine HSO.out.mono ?_); rintro e w4 ⟨rfl, L', hp, ho4, hg4⟩)
      go_ret2
      have hB4 := HB.out.grown hg4 HB.out.size HOB.out
      exact ⟨HB1.out.trans (hB4.mono HB1.out.size), .inr ⟨_, L', HCI.out.stop HL0.out HD2.out HD3.out hp, by rw [hp.length_eq, HLN.out]; exact HN.out, rfl, own_le (by rw [hp.length_eq]; exact ho4) HB1.out.size⟩⟩
    · intro x1 x2 ca cn cc' kl y1 y2 w3 ct3 hkey hlk hsv hat hrg3 hlt3 hg3 hs3 hen
      obtain ⟨x', hwx, ekey, rfl⟩ := xy_inv hkey
      obtain rfl : (x1, x2) = x' := by
        unfold mkXY at ekey
        simp at ekey
        exact Prod.ext ekey.1 ekey.2
      obtain rfl : y1 = .held (mkSl (ca, cn, cc')) := (Prod.mk.inj (Option.some.inj hsv)).1.symm
      have hmeas : wr.rangeLeft w.heap.size w1.heap.size = ct := hrg.left_eq
      have HME := Lib.hid hmeas
      obtain ⟨L, hLn, hown, hci⟩ := HLL.out
      have hh := hci.sub _ hlk
      have hG0 := (HD2.out _ hwx).1 hh
      have hrow := HD4.out _ (mkSl (ca, cn, cc')) hwx hh (hat _)
      obtain ⟨g, cc, esl, hcells⟩ := visC_at hrow rfl hG0
      have hB3 := below_iter HB.out (Nat.le_refl _) hg3
      have hown3 := hown.kept hg3 (.inr (own_notiter hown hrg).2.symm)
      have hgl : g < w1.heap.size := by
        rw [esl] at hrow
        exact (hrow.lt g rfl).2
      unfold mkSl at esl
      dsimp only at esl
      injection esl with e1 e2 e3
      subst e1 e2 e3
      have HRG3 := Lib.hid hrg3
      have HB3 := Lib.hid hB3
      have HOWN3 := Lib.hid hown3
      have HCI := Lib.hid hci
      have HLN := Lib.hid hLn
      have HWX := Lib.hid hwx
      have HNE := Lib.hid hG0
      have HLK := Lib.hid hlk
      have HCE := Lib.hid hcells
      have HN : Hid (n ≤ 12000) := Lib.hid (by rw [← hLn]; exact hci.len HFEW.out)
      clear hrg3 hB3 hown3 hci hLn hwx hlk hcells hkey hsv hat hg3 hs3 hh hG0 hrow ekey hown hrg HLL HR HB hmeas
      unfold mkXY mkSl at hen ⊢
      dsimp only at hen HCE HRG3 HLK ⊢
      obtain ⟨l, hl⟩ : ∃ l, G (x1, x2) = l := ⟨_, rfl⟩
      rw [hl] at HCE hen ⊢
      have HL := Lib.hid hl
      clear hl
      have HRE := Lib.hid (fun V hg => cross_step HRG3.out HB3.out HOWN3.out (w5 := V) hg)
      rcases l with _ | ⟨u, _ | ⟨v, _ | ⟨t, l⟩⟩⟩
      · exact absurd HL.out HNE.out
      · simp only [List.length_cons, List.length_nil, Nat.zero_add] at hen ⊢
        go_wp2_with (first | go_in)
        go_roundw
        case rel =>
          obtain ⟨k1, k2, k3⟩ := HRE.out _ (World.grownBy_alloc w3 _ none)
          exact ⟨_, ct3, n, a, c, rfl, Lib.hid k1, Lib.hid k2, Lib.hid ⟨L, HLN.out, k3, HCI.out.skip HWX.out (by rw [HL.out]; rfl) (by rw [HL.out]; simp)⟩⟩
        case measure => rw [HME.out, (HRE.out _ (World.grownBy_alloc w3 _ none)).1.left_eq]; exact hlt3
      · have hce0 := HCE.out 0 u rfl
        have hce1 := HCE.out 1 v rfl
        have HDU := Lib.hid (HDIR.out _ u (by rw [HL.out]; simp))
        have HDV := Lib.hid (HDIR.out _ v (by rw [HL.out]; simp))
        obtain ⟨u0, u1, us⟩ := u
        obtain ⟨v0, v1, vs⟩ := v
        have HW4 : Hid (Below w1.heap.size w1 (w3.alloc (.cells #[.int .i64 x1, .int .i64 x2] 26))) := Lib.hid (HB3.out.alloc HB3.out.size _)
        simp only [Nat.zero_mul, Nat.zero_add, Nat.one_mul] at hce0 hce1
        obtain ⟨q0, q1, q2⟩ := hce0
        obtain ⟨q3, q4, q5⟩ := hce1
        replace q0 := cell_below q0 HW4.out
        replace q1 := cell_below q1 HW4.out
        replace q2 := cell_below q2 HW4.out
        replace q3 := cell_below q3 HW4.out
        replace q4 := cell_below q4 HW4.out
        replace q5 := cell_below q5 HW4.out
        have hsum : IntKind.i64.wrap (u1 + v1) = u1 + v1 := IntWalk.i64_in _ (by have h1 := HDU.out; have h2 := HDV.out; dsimp only at h1 h2; omega)
        simp only [List.length_cons, List.length_nil, Nat.zero_add] at hen ⊢
        have HFB := Lib.hid (fun V (hV : Below w1.heap.size w1 V) => HB1.out.trans (hV.mono HB1.out.size))
        cases us with
        | false =>
          go_wp2_with (first | go_in)
          go_quiet (fail)
          go_wp2_with fail
          go_ret2
          exact ⟨HFB.out _ (bel_drewN HW4.out _), .inl ⟨⟨(x1, x2), by rw [HL.out]; rfl⟩, rfl⟩⟩
        | true =>
          cases vs with
          | false =>
            go_wp2_with (first | go_in)
            go_quiet (fail)
            go_wp2_with fail
            go_ret2
            exact ⟨HFB.out _ (bel_drewN HW4.out _), .inl ⟨⟨(x1, x2), by rw [HL.out]; rfl⟩, rfl⟩⟩
          | true =>
            by_cases hp : (u1 + v1).tmod 2 = 0
            · have hpb : ((u1 + v1).tmod 2 == 0) = true := by simpa using hp
              have HBAD : Hid (badV (G (x1, x2)) = true) := Lib.hid (by rw [HL.out]; simp [badV, hp])
              clear hp
              go_wp2_with (first | go_in)
              go_quiet (fail)
              go_wp2_with fail
              go_ret2
              exact ⟨HFB.out _ (bel_drewN HW4.out _), .inl ⟨⟨(x1, x2), HBAD.out⟩, rfl⟩⟩
            · have hpb : ((u1 + v1).tmod 2 == 0) = false := by simpa using hp
              have HGOOD : Hid (badV (G (x1, x2)) = false) := Lib.hid (by rw [HL.out]; simp [badV, hp])
              clear hp
              go_wp2_with (first | go_in)
              go_quiet (fail)
              go_wp2_with fail
              obtain ⟨wv, hwv⟩ : ∃ wv, (w3.alloc (.cells #[.int .i64 x1, .int .i64 x2] 26)).drewN nq = wv := ⟨_, rfl⟩
              have e0 : wv.cell? ⟨w3.heap.size, 0, none⟩ = some (.int .i64 x1) := by rw [← hwv]; exact World.cell?_alloc_at _ _ _ _ rfl
              have e1 : wv.cell? ⟨w3.heap.size, 1, none⟩ = some (.int .i64 x2) := by rw [← hwv]; exact World.cell?_alloc_at _ _ _ _ rfl
              have f0 : wv.cell? ⟨g, 0, none⟩ = some (.int .i64 u0) := by rw [← hwv]; exact q0
              have f3 : wv.cell? ⟨g, 3, none⟩ = some (.int .i64 v0) := by rw [← hwv]; exact q3
              have HKE := Lib.hid (HRE.out wv (by rw [← hwv]; exact grown_boxed _ _ _))
              have HSM : Hid (n ≤ 4000000) := Lib.hid (by have := HN.out; omega)
              rw [hwv]
              clear hwv q0 q1 q2 q3 q4 q5 hsum hpb
              go_region_law (first
                | (refine stepK el_cx rfl rfl (w0 := w1) rfl rfl (heap_alloc_new _ _) (by exact HKE.out.2.1.drew.alloc HKE.out.2.1.drew.size _) (by exact (World.ownsRow.alloc (show wv.drew.ownsRow _ _ _ _ _ _ from HKE.out.2.2) _)) rfl (by simp [Value.oneCell']) HSM.out ?_; intro g' cap' w11 ho11 hg11 hat11 hlt11 hb11; have HRN := Lib.hid (cross_add HKE.out.1 HKE.out.2.2 _ hg11); have HON := Lib.hid ho11; have HBN := Lib.hid hb11; clear ho11 hg11 hat11 hlt11 hb11))
              all_goals (
                go_wp2_with fail
                go_roundw
                case rel =>
                  exact ⟨_, _, _, ⟨_, ct3, n + 1, _, cap', rfl, HRN, Lib.hid ⟨L ++ [(x1, x2, u0, v0)], by rw [List.length_append, HLN.out]; rfl, by rw [List.flatMap_append]; exact HON.out, HCI.out.add HWX.out HLK.out HL.out HGOOD.out⟩⟩, rfl, rfl, rfl⟩
                case measure => rw [HME.out, HRN.out.left_eq]; exact hlt3)
      · have HBAD : Hid (badV (G (x1, x2)) = true) := Lib.hid (by rw [HL.out]; rfl)
        have HW4 : Hid (Below w1.heap.size w1 (w3.alloc (.cells #[.int .i64 x1, .int .i64 x2] 26))) := Lib.hid (HB3.out.alloc HB3.out.size _)
        have HFB := Lib.hid (fun V (hV : Below w1.heap.size w1 V) => HB1.out.trans (hV.mono HB1.out.size))
        obtain ⟨m, hm⟩ : ∃ m, (u :: v :: t :: l).length = m := ⟨_, rfl⟩
        have hm1 : ((m : Int) == 1) = false := by rw [← hm, beq_eq_false_iff_ne]; simp; omega
        have hm2 : decide ((2 : Int) < (m : Int)) = true := by rw [← hm]; apply decide_eq_true; simp; omega
        rw [hm] at hen ⊢
        clear hm
        go_wp2_with (first | go_in)
        go_quiet (fail)
        go_wp2_with fail
        go_ret2
        exact ⟨HFB.out _ (bel_drewN HW4.out _), .inl ⟨⟨(x1, x2), HBAD.out⟩, rfl⟩⟩
end Go.Proofs.Ytpakkjkjppibnaa
