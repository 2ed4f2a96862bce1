/- Layout: which grids are valid. -/
import Derived.Test.YtpakkjkjppibnaaGPairs
namespace Go.Proofs.Ytpakkjkjppibnaa
open Go.RowKit

/-- whether n is from lo to hi -/
def inB (lo n hi : Int) : Bool := decide (lo ≤ n) && decide (n ≤ hi)
/-- whether a grid is valid -/
def validP (w h mv bd : Int) (bl : List (Int × Int)) : Bool :=
  inB 1 w 30 && inB 1 h 30 && inB 1 mv 1000 && inB 0 bd 1000 && decide (bl.length ≤ 900) && bl.all fun c => onP w h c

theorem any_off (w h : Int) (bl : List (Int × Int)) : (List.range bl.length).any (fun j => !onP w h (bl.getD j (0, 0))) = !bl.all fun c => onP w h c := by
  rw [Bool.eq_iff_iff]
  simp only [List.any_eq_true, List.mem_range, Bool.not_eq_true', List.all_eq_false]
  constructor
  · rintro ⟨j, hj, h⟩
    exact ⟨bl.getD j (0, 0), by rw [List.getD_eq_getElem?_getD, List.getElem?_eq_getElem hj]; exact List.getElem_mem hj, by rw [h]; decide⟩
  · rintro ⟨x, hx, h⟩
    obtain ⟨j, hj, rfl⟩ := List.mem_iff_getElem.1 hx
    refine ⟨j, hj, ?_⟩
    rw [List.getD_eq_getElem?_getD, List.getElem?_eq_getElem hj]
    simpa using h

/-- the closure of Valid -/
theorem offC (w h mv bd : Int) (bv : Value) (bl : List (Int × Int)) (B : Nat) (W : World) (hw : 1 ≤ w ∧ w ≤ 30) (hh : 1 ≤ h ∧ h ≤ 30)
    (h0 : W.cell? ⟨B, 0, none⟩ = some (.int .i64 w)) (h1 : W.cell? ⟨B, 1, none⟩ = some (.int .i64 h)) (h2 : W.cell? ⟨B, 2, none⟩ = some (.int .i64 mv)) (h3 : W.cell? ⟨B, 3, none⟩ = some (.int .i64 bd)) (h4 : W.cell? ⟨B, 4, none⟩ = some bv) :
    PredP 97 #[.pointer (some ⟨B, 0, none⟩)] bl (fun j => !onP w h (bl.getD j (0, 0))) W := fun V j x hx hb => by
  have e0 := cell_below h0 hb
  have e1 := cell_below h1 hb
  have e2 := cell_below h2 hb
  have e3 := cell_below h3 hb
  have e4 := cell_below h4 hb
  have hlt := World.block_lt_of_cell? _ _ e0
  have hgx : bl.getD j (0, 0) = x := by rw [List.getD_eq_getElem?_getD, hx]; rfl
  dsimp only
  rw [hgx]
  clear hgx
  obtain ⟨x, y⟩ := x
  show Calls Try.prog 97 #[.agg #[.int .i64 x, .int .i64 y], .pointer (some ⟨B, 0, none⟩)] V fun e w' => e = .returned (.bool (!onP w h (x, y))) ∧ Below V.heap.size V w'
  have HO := Lib.hid (fun U => on_any w h mv bd bv x y U (by omega) (by omega) (by omega) (by omega))
  generalize onP w h (x, y) = t at *
  clear h0 h1 h2 h3 h4 hx hb hw hh
  go_enter Try.func97, Try.ntmps97
  go_wp2_with (go_at_call 54; refine (HO.out _).mono ?_; rintro e w1 ⟨rfl, hb1⟩)
  go_ret
  exact ⟨rfl, ((Below.refl _ _).alloc (Nat.le_refl _) _).trans (hb1.mono (by simp))⟩

set_option maxRecDepth 100000 in
theorem valid_any (w h mv bd : Int) (bv : Value) (bl : List (Int × Int)) (W : World) (hv : RdP W bv bl) :
    Calls Try.prog 75 #[.agg #[.int .i64 w, .int .i64 h, .int .i64 mv, .int .i64 bd, bv]] W fun e w' => e = .returned (.bool (validP w h mv bd bl)) ∧ Below W.heap.size W w' := by
  have eg : ∀ args w, (callFunc 97 args).run Try.prog w = .ok (.enter 97 args) w := enters_of Try.func97 (by kernel_rfl) rfl
  have HB1 := Lib.hid (between_any 1 w 30)
  have HB2 := Lib.hid (between_any 1 h 30)
  have HB3 := Lib.hid (between_any 1 mv 1000)
  have HB4 := Lib.hid (between_any 0 bd 1000)
  have HVP : Hid (validP w h mv bd bl = (inB 1 w 30 && inB 1 h 30 && inB 1 mv 1000 && inB 0 bd 1000 && decide (bl.length ≤ 900) && bl.all fun c => onP w h c)) := Lib.hid rfl
  change Hid (∀ W, Calls Try.prog 52 #[.int .i64 1, .int .i64 w, .int .i64 30] W fun e w' => e = .returned (.bool (inB 1 w 30)) ∧ W = w') at HB1
  change Hid (∀ W, Calls Try.prog 52 #[.int .i64 1, .int .i64 h, .int .i64 30] W fun e w' => e = .returned (.bool (inB 1 h 30)) ∧ W = w') at HB2
  change Hid (∀ W, Calls Try.prog 52 #[.int .i64 1, .int .i64 mv, .int .i64 1000] W fun e w' => e = .returned (.bool (inB 1 mv 1000)) ∧ W = w') at HB3
  change Hid (∀ W, Calls Try.prog 52 #[.int .i64 0, .int .i64 bd, .int .i64 1000] W fun e w' => e = .returned (.bool (inB 0 bd 1000)) ∧ W = w') at HB4
  have HV := Lib.hid hv
  have HA := any_off w h bl
  have HCC : Hid (inB 1 w 30 = true → inB 1 h 30 = true → bl.length ≤ 900 → ∀ (t : Bool), (bl.all fun c => onP w h c) = t → ∀ V : World, Below W.heap.size W V → ∀ B, V.cell? ⟨B, 0, none⟩ = some (.int .i64 w) → V.cell? ⟨B, 1, none⟩ = some (.int .i64 h) → V.cell? ⟨B, 2, none⟩ = some (.int .i64 mv) → V.cell? ⟨B, 3, none⟩ = some (.int .i64 bd) → V.cell? ⟨B, 4, none⟩ = some bv →
      Calls Try.prog 59 #[bv, .func (.func 97) #[] #[.pointer (some ⟨B, 0, none⟩)]] V fun e w' => e = .returned (.bool (!t)) ∧ Below V.heap.size V w') := Lib.hid (fun g1 g2 g3 t ht V hV B h0 h1 h2 h3 h4 => by
    unfold inB at g1 g2
    simp at g1 g2
    exact has_xy _ 97 _ eg bl _ V (offC w h mv bd bv bl B V (by omega) (by omega) h0 h1 h2 h3 h4) (HV.out.below hV) (by omega) (!t) (by rw [HA, ht]))
  obtain ⟨a, cap, rfl, hc, hcm, _, _⟩ := hv
  obtain ⟨n, hn⟩ : ∃ n, bl.length = n := ⟨_, rfl⟩
  rw [hn] at HVP HCC hc ⊢
  obtain ⟨t, ht⟩ : ∃ t, (bl.all fun c => onP w h c) = t := ⟨_, rfl⟩
  rw [ht] at HVP
  have HT := Lib.hid ht
  have hbW := Lib.hid ((Below.refl W.heap.size W).alloc (Nat.le_refl _) (.cells #[.int .i64 w, .int .i64 h, .int .i64 mv, .int .i64 bd, .slice a n cap] 24))
  clear HA ht hn eg
  cases h1 : inB 1 w 30 with
  | false =>
    rw [h1] at HB1
    rw [h1] at HVP
    clear h1
    go_enter Try.func75, Try.ntmps75
    go_wp2_with (first
      | (go_at_call 52; (with_reducible refine (HB1.out _).mono ?_); rintro e w1 ⟨rfl, rfl⟩))
    go_ret
    exact ⟨by rw [HVP.out]; rfl, hbW.out⟩
  | true =>
    have K1 := Lib.hid h1
    rw [h1] at HB1
    rw [h1] at HVP
    clear h1
    cases h2 : inB 1 h 30 with
    | false =>
      rw [h2] at HB2
      rw [h2] at HVP
      clear h2
      go_enter Try.func75, Try.ntmps75
      go_wp2_with (first
        | (go_at_call 52; (with_reducible refine (HB1.out _).mono ?_); rintro e w1 ⟨rfl, rfl⟩)
        | (go_at_call 52; (with_reducible refine (HB2.out _).mono ?_); rintro e w1 ⟨rfl, rfl⟩))
      go_ret
      exact ⟨by rw [HVP.out]; rfl, hbW.out⟩
    | true =>
      have K2 := Lib.hid h2
      rw [h2] at HB2
      rw [h2] at HVP
      clear h2
      cases h3 : inB 1 mv 1000 with
      | false =>
        rw [h3] at HB3
        rw [h3] at HVP
        clear h3
        go_enter Try.func75, Try.ntmps75
        go_wp2_with (first
          | (go_at_call 52; (with_reducible refine (HB1.out _).mono ?_); rintro e w1 ⟨rfl, rfl⟩)
          | (go_at_call 52; (with_reducible refine (HB2.out _).mono ?_); rintro e w1 ⟨rfl, rfl⟩)
          | (go_at_call 52; (with_reducible refine (HB3.out _).mono ?_); rintro e w1 ⟨rfl, rfl⟩))
        go_ret
        exact ⟨by rw [HVP.out]; rfl, hbW.out⟩
      | true =>
        rw [h3] at HB3
        rw [h3] at HVP
        clear h3
        cases h4 : inB 0 bd 1000 with
        | false =>
          rw [h4] at HB4
          rw [h4] at HVP
          clear h4
          go_enter Try.func75, Try.ntmps75
          go_wp2_with (first
            | (go_at_call 52; (with_reducible refine (HB1.out _).mono ?_); rintro e w1 ⟨rfl, rfl⟩)
            | (go_at_call 52; (with_reducible refine (HB2.out _).mono ?_); rintro e w1 ⟨rfl, rfl⟩)
            | (go_at_call 52; (with_reducible refine (HB3.out _).mono ?_); rintro e w1 ⟨rfl, rfl⟩)
            | (go_at_call 52; (with_reducible refine (HB4.out _).mono ?_); rintro e w1 ⟨rfl, rfl⟩))
          go_ret
          exact ⟨by rw [HVP.out]; rfl, hbW.out⟩
        | true =>
          rw [h4] at HB4
          rw [h4] at HVP
          clear h4
          by_cases h5 : n ≤ 900
          · have HL := Lib.hid h5
            have h5' : (n : Int) ≤ 900 := by omega
            rw [decide_eq_true h5] at HVP
            clear h5
            go_enter Try.func75, Try.ntmps75
            go_wp2_with (first
              | (go_at_call 52; (with_reducible refine (HB1.out _).mono ?_); rintro e w1 ⟨rfl, rfl⟩)
              | (go_at_call 52; (with_reducible refine (HB2.out _).mono ?_); rintro e w1 ⟨rfl, rfl⟩)
              | (go_at_call 52; (with_reducible refine (HB3.out _).mono ?_); rintro e w1 ⟨rfl, rfl⟩)
              | (go_at_call 52; (with_reducible refine (HB4.out _).mono ?_); rintro e w1 ⟨rfl, rfl⟩)
              | (go_at_call 59; (with_reducible refine (HCC.out K1.out K2.out HL.out t HT.out _ hbW.out W.heap.size (World.cell?_alloc_at _ _ _ _ rfl) (World.cell?_alloc_at _ _ _ _ rfl) (World.cell?_alloc_at _ _ _ _ rfl) (World.cell?_alloc_at _ _ _ _ rfl) (World.cell?_alloc_at _ _ _ _ rfl)).mono ?_); rintro e w1 ⟨rfl, hb1⟩))
            go_ret
            exact ⟨by rw [HVP.out]; simp, hbW.out.trans (hb1.mono (by simp))⟩
          · have h5' : ¬ (n : Int) ≤ 900 := by omega
            rw [decide_eq_false h5] at HVP
            clear h5
            go_enter Try.func75, Try.ntmps75
            go_wp2_with (first
              | (go_at_call 52; (with_reducible refine (HB1.out _).mono ?_); rintro e w1 ⟨rfl, rfl⟩)
              | (go_at_call 52; (with_reducible refine (HB2.out _).mono ?_); rintro e w1 ⟨rfl, rfl⟩)
              | (go_at_call 52; (with_reducible refine (HB3.out _).mono ?_); rintro e w1 ⟨rfl, rfl⟩)
              | (go_at_call 52; (with_reducible refine (HB4.out _).mono ?_); rintro e w1 ⟨rfl, rfl⟩))
            go_ret
            exact ⟨by rw [HVP.out]; rfl, hbW.out⟩
end Go.Proofs.Ytpakkjkjppibnaa
