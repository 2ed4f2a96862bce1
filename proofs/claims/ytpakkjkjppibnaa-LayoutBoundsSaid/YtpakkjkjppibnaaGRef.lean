/- Layout: the document's small functions: on, open, Valid, next. -/
import Derived.Test.YtpakkjkjppibnaaKRoute
namespace Go.Proofs.Ytpakkjkjppibnaa
open Go.RowKit

/-- what a valid grid is -/
theorem validP_iff (w h mv bd : Int) (bl : List (Int × Int)) : validP w h mv bd bl = true ↔ (1 ≤ w ∧ w ≤ 30 ∧ 1 ≤ h ∧ h ≤ 30 ∧ 1 ≤ mv ∧ mv ≤ 1000 ∧ 0 ≤ bd ∧ bd ≤ 1000 ∧ (bl.length : Int) ≤ 900) ∧ ∀ c ∈ bl, onP w h c = true := by
  unfold validP inB
  simp only [Bool.and_eq_true, decide_eq_true_eq, List.all_eq_true]
  constructor
  · rintro ⟨⟨⟨⟨⟨⟨a, b⟩, c, d⟩, e, f⟩, g, i⟩, j⟩, k⟩
    exact ⟨⟨a, b, c, d, e, f, g, i, by omega⟩, k⟩
  · rintro ⟨⟨a, b, c, d, e, f, g, i, j⟩, k⟩
    exact ⟨⟨⟨⟨⟨⟨a, b⟩, c, d⟩, e, f⟩, g, i⟩, by omega⟩, k⟩

theorem refOn_any (w h mv bd : Int) (bv : Value) (x y : Int) (W : World) :
    Calls Try.prog 53 #[.agg #[.int .i64 w, .int .i64 h, .int .i64 mv, .int .i64 bd, bv], .agg #[.int .i64 x, .int .i64 y]] W fun e w' => e = .returned (.bool (onP w h (x, y))) ∧ Below W.heap.size W w' := by
  have HO : Hid (onP w h (x, y) = (decide (0 ≤ x) && decide (x ≤ w - 1) && (decide (0 ≤ y) && decide (y ≤ h - 1)))) := Lib.hid rfl
  have hb := Lib.hid ((((Below.refl W.heap.size W).alloc (Nat.le_refl _) (.cells #[.int .i64 w, .int .i64 h, .int .i64 mv, .int .i64 bd, bv] 24))).alloc (by simp) (.cells #[.int .i64 x, .int .i64 y] 26))
  by_cases h1 : 0 ≤ x
  · have _k := h1
    by_cases h2 : x < w
    · have _k := h2
      by_cases h3 : 0 ≤ y
      · have _k := h3
        by_cases h4 : y < h
        · have _k := h4
          have HE : Hid (onP w h (x, y) = true) := Lib.hid (by rw [HO.out]; simp; omega)
          go_enter Try.func53, Try.ntmps53
          go_wp2_with fail
          go_ret
          exact ⟨by rw [HE.out]; rfl, hb.out⟩
        · have HE : Hid (onP w h (x, y) = false) := Lib.hid (by rw [HO.out]; simp; omega)
          go_enter Try.func53, Try.ntmps53
          go_wp2_with fail
          go_ret
          exact ⟨by rw [HE.out]; rfl, hb.out⟩
      · have HE : Hid (onP w h (x, y) = false) := Lib.hid (by rw [HO.out]; simp; omega)
        go_enter Try.func53, Try.ntmps53
        go_wp2_with fail
        go_ret
        exact ⟨by rw [HE.out]; rfl, hb.out⟩
    · have HE : Hid (onP w h (x, y) = false) := Lib.hid (by rw [HO.out]; simp; omega)
      go_enter Try.func53, Try.ntmps53
      go_wp2_with fail
      go_ret
      exact ⟨by rw [HE.out]; rfl, hb.out⟩
  · have HE : Hid (onP w h (x, y) = false) := Lib.hid (by rw [HO.out]; simp; omega)
    go_enter Try.func53, Try.ntmps53
    go_wp2_with fail
    go_ret
    exact ⟨by rw [HE.out]; rfl, hb.out⟩

/-- whether a cell is in none of the blocks -/
def refOpenP (w h : Int) (bl : List (Int × Int)) (c : Int × Int) : Bool := !decide (c ∈ bl) && onP w h c

theorem refOpen_any (w h mv bd : Int) (bv : Value) (bl : List (Int × Int)) (c : Int × Int) (W : World) (hv : RdP W bv bl) (hn : bl.length ≤ 4000000) :
    Calls Try.prog 43 #[.agg #[.int .i64 w, .int .i64 h, .int .i64 mv, .int .i64 bd, bv], .agg #[.int .i64 c.1, .int .i64 c.2]] W fun e w' => e = .returned (.bool (refOpenP w h bl c)) ∧ Below W.heap.size W w' := by
  have HNN := Lib.hid hn
  obtain ⟨x, y⟩ := c
  have hb := Lib.hid ((((Below.refl W.heap.size W).alloc (Nat.le_refl _) (.cells #[.int .i64 w, .int .i64 h, .int .i64 mv, .int .i64 bd, bv] 24))).alloc (by simp) (.cells #[.int .i64 x, .int .i64 y] 26))
  have HON := Lib.hid (fun V => refOn_any w h mv bd bv x y V)
  have hEQ := fun a b c d W => eqXY a b c d W
  obtain ⟨a, cap, rfl, hc, hcm, ha, _⟩ := hv
  obtain ⟨n, hnn⟩ : ∃ n, bl.length = n := ⟨_, rfl⟩
  have HNL := Lib.hid hnn
  rw [hnn] at hc hb HON hn ⊢
  have c0 : ((W.alloc (.cells #[.int .i64 w, .int .i64 h, .int .i64 mv, .int .i64 bd, .slice a n cap] 24)).alloc (.cells #[.int .i64 x, .int .i64 y] 26)).cell? ⟨W.heap.size, 0, none⟩ = some (.int .i64 w) := cell_alloc (World.cell?_alloc_at _ _ _ _ rfl) _
  have c1 : ((W.alloc (.cells #[.int .i64 w, .int .i64 h, .int .i64 mv, .int .i64 bd, .slice a n cap] 24)).alloc (.cells #[.int .i64 x, .int .i64 y] 26)).cell? ⟨W.heap.size, 1, none⟩ = some (.int .i64 h) := cell_alloc (World.cell?_alloc_at _ _ _ _ rfl) _
  have c2 : ((W.alloc (.cells #[.int .i64 w, .int .i64 h, .int .i64 mv, .int .i64 bd, .slice a n cap] 24)).alloc (.cells #[.int .i64 x, .int .i64 y] 26)).cell? ⟨W.heap.size, 2, none⟩ = some (.int .i64 mv) := cell_alloc (World.cell?_alloc_at _ _ _ _ rfl) _
  have c3 : ((W.alloc (.cells #[.int .i64 w, .int .i64 h, .int .i64 mv, .int .i64 bd, .slice a n cap] 24)).alloc (.cells #[.int .i64 x, .int .i64 y] 26)).cell? ⟨W.heap.size, 3, none⟩ = some (.int .i64 bd) := cell_alloc (World.cell?_alloc_at _ _ _ _ rfl) _
  have c4 : ((W.alloc (.cells #[.int .i64 w, .int .i64 h, .int .i64 mv, .int .i64 bd, .slice a n cap] 24)).alloc (.cells #[.int .i64 x, .int .i64 y] 26)).cell? ⟨W.heap.size, 4, none⟩ = some (.slice a n cap) := cell_alloc (World.cell?_alloc_at _ _ _ _ rfl) _
  have c5 : ((W.alloc (.cells #[.int .i64 w, .int .i64 h, .int .i64 mv, .int .i64 bd, .slice a n cap] 24)).alloc (.cells #[.int .i64 x, .int .i64 y] 26)).cell? ⟨W.heap.size + 1, 0, none⟩ = some (.int .i64 x) := World.cell?_alloc_at _ _ _ _ (by simp)
  have c6 : ((W.alloc (.cells #[.int .i64 w, .int .i64 h, .int .i64 mv, .int .i64 bd, .slice a n cap] 24)).alloc (.cells #[.int .i64 x, .int .i64 y] 26)).cell? ⟨W.heap.size + 1, 1, none⟩ = some (.int .i64 y) := World.cell?_alloc_at _ _ _ _ (by simp)
  have HC := Lib.hid (And.intro c0 (And.intro c1 (And.intro c2 (And.intro c3 (And.intro c4 (And.intro c5 c6))))))
  clear c0 c1 c2 c3 c4 c5 c6 hnn
  go_enter Try.func43, Try.ntmps43
  go_wp2_with fail
  go_loopw [10] (fun p wr => ∃ k : Nat, k ≤ n ∧ p = .int .i64 k ∧ Hid (Below ((W.alloc (.cells #[.int .i64 w, .int .i64 h, .int .i64 mv, .int .i64 bd, .slice a n cap] 24)).alloc (.cells #[.int .i64 x, .int .i64 y] 26)).heap.size ((W.alloc (.cells #[.int .i64 w, .int .i64 h, .int .i64 mv, .int .i64 bd, .slice a n cap] 24)).alloc (.cells #[.int .i64 x, .int .i64 y] 26)) wr) ∧ Hid (∀ j z, j < k → bl[j]? = some z → z ≠ (x, y))) (fun p _ => n - (intOf p).toNat)
  case atStart => exact ⟨0, Nat.zero_le _, rfl, Lib.hid (Below.refl _ _), Lib.hid fun j z h => absurd h (Nat.not_lt_zero _)⟩
  case round =>
    obtain ⟨k, hk, rfl, HR, HA⟩ := hrel
    have HBB := Lib.hid (hb.out.trans (HR.out.mono hb.out.size))
    obtain ⟨d0, d1, d2, d3, d4, d5, d6⟩ := HC.out
    replace d0 := cell_below d0 HR.out
    replace d1 := cell_below d1 HR.out
    replace d2 := cell_below d2 HR.out
    replace d3 := cell_below d3 HR.out
    replace d4 := cell_below d4 HR.out
    replace d5 := cell_below d5 HR.out
    replace d6 := cell_below d6 HR.out
    have hlt := World.block_lt_of_cell? _ _ d0
    have hlt2 := World.block_lt_of_cell? _ _ d5
    by_cases hkn : k < n
    · obtain ⟨⟨p, q⟩, hz⟩ : ∃ z, bl[k]? = some z := ⟨_, List.getElem?_eq_getElem (by rw [HNL.out]; exact hkn)⟩
      obtain ⟨b, off, rfl, e1, e2⟩ := RdP.cell (ha.below HBB.out (Nat.le_refl _)) hz
      have HZ := Lib.hid hz
      clear hz
      dsimp only at e1 e2
      by_cases hpq : p = x ∧ q = y
      · obtain ⟨rfl, rfl⟩ := hpq
        go_wp2_with fail
        go_ret
        refine ⟨?_, HBB.out.alloc HBB.out.size _⟩
        have h1 : refOpenP w h bl (p, q) = false := by
          unfold refOpenP
          rw [decide_eq_true (List.mem_of_getElem? HZ.out)]; rfl
        rw [h1]; rfl
      · have hpq' : (p == x && q == y) = false := by
          rw [Bool.eq_false_iff]; intro hh; simp at hh; exact hpq hh
        have HA' : Hid (∀ j z, j < k + 1 → bl[j]? = some z → z ≠ (x, y)) := Lib.hid fun j z hj hz e => by
          rcases (by omega : j < k ∨ j = k) with h1 | rfl
          · exact HA.out j z h1 hz e
          · rw [HZ.out] at hz
            cases hz
            exact hpq ⟨by injection e, by injection e⟩
        go_wp2_with fail
        go_roundw
        case rel => exact ⟨k + 1, by omega, by go_num, Lib.hid (HR.out.alloc HR.out.size _), HA'⟩
        case measure => simp [intOf]; omega
    · obtain rfl : k = n := by omega
      go_wp2_with (go_at_call 53; (with_reducible refine (HON.out _).mono ?_); rintro e w9 ⟨rfl, hb9⟩)
      go_ret
      refine ⟨?_, HBB.out.trans (hb9.mono HBB.out.size)⟩
      have h1 : refOpenP w h bl (x, y) = onP w h (x, y) := by
        unfold refOpenP
        rw [decide_eq_false, Bool.not_false, Bool.true_and]
        intro hm
        obtain ⟨j, hj, e⟩ := List.getElem_of_mem hm
        exact HA.out j _ (by rw [← HNL.out]; exact hj) (List.getElem?_eq_getElem hj) e
      rw [h1]; rfl

set_option maxRecDepth 100000 in
theorem refValid_any (w h mv bd : Int) (bv : Value) (bl : List (Int × Int)) (W : World) (hv : RdP W bv bl) :
    Calls Try.prog 22 #[.agg #[.int .i64 w, .int .i64 h, .int .i64 mv, .int .i64 bd, bv]] W fun e w' => e = .returned (.bool (validP w h mv bd bl)) ∧ Below W.heap.size W w' := by
  have hb := Lib.hid ((Below.refl W.heap.size W).alloc (Nat.le_refl _) (.cells #[.int .i64 w, .int .i64 h, .int .i64 mv, .int .i64 bd, bv] 24))
  have HON := Lib.hid (fun x y V => refOn_any w h mv bd bv x y V)
  obtain ⟨a, cap, rfl, hc, hcm, ha, _⟩ := hv
  obtain ⟨n, hnn⟩ : ∃ n, bl.length = n := ⟨_, rfl⟩
  have HNL := Lib.hid hnn
  have HI := validP_iff w h mv bd bl
  rw [hnn] at hc hb HON HI ⊢
  clear hnn
  by_cases g0 : w < 1
  · have HF : Hid (validP w h mv bd bl = false) := Lib.hid (by rw [Bool.eq_false_iff]; intro hh; have h2 := (HI.1 hh).1; omega)
    clear HI
    go_enter Try.func22, Try.ntmps22
    go_wp2_with fail
    go_ret
    exact ⟨by rw [HF.out]; rfl, hb.out⟩
  by_cases g1 : 30 < w
  · have HF : Hid (validP w h mv bd bl = false) := Lib.hid (by rw [Bool.eq_false_iff]; intro hh; have h2 := (HI.1 hh).1; omega)
    clear HI
    go_enter Try.func22, Try.ntmps22
    go_wp2_with fail
    go_ret
    exact ⟨by rw [HF.out]; rfl, hb.out⟩
  by_cases g2 : h < 1
  · have HF : Hid (validP w h mv bd bl = false) := Lib.hid (by rw [Bool.eq_false_iff]; intro hh; have h2 := (HI.1 hh).1; omega)
    clear HI
    go_enter Try.func22, Try.ntmps22
    go_wp2_with fail
    go_ret
    exact ⟨by rw [HF.out]; rfl, hb.out⟩
  by_cases g3 : 30 < h
  · have HF : Hid (validP w h mv bd bl = false) := Lib.hid (by rw [Bool.eq_false_iff]; intro hh; have h2 := (HI.1 hh).1; omega)
    clear HI
    go_enter Try.func22, Try.ntmps22
    go_wp2_with fail
    go_ret
    exact ⟨by rw [HF.out]; rfl, hb.out⟩
  by_cases g4 : mv < 1
  · have HF : Hid (validP w h mv bd bl = false) := Lib.hid (by rw [Bool.eq_false_iff]; intro hh; have h2 := (HI.1 hh).1; omega)
    clear HI
    go_enter Try.func22, Try.ntmps22
    go_wp2_with fail
    go_ret
    exact ⟨by rw [HF.out]; rfl, hb.out⟩
  by_cases g5 : 1000 < mv
  · have HF : Hid (validP w h mv bd bl = false) := Lib.hid (by rw [Bool.eq_false_iff]; intro hh; have h2 := (HI.1 hh).1; omega)
    clear HI
    go_enter Try.func22, Try.ntmps22
    go_wp2_with fail
    go_ret
    exact ⟨by rw [HF.out]; rfl, hb.out⟩
  by_cases g6 : bd < 0
  · have HF : Hid (validP w h mv bd bl = false) := Lib.hid (by rw [Bool.eq_false_iff]; intro hh; have h2 := (HI.1 hh).1; omega)
    clear HI
    go_enter Try.func22, Try.ntmps22
    go_wp2_with fail
    go_ret
    exact ⟨by rw [HF.out]; rfl, hb.out⟩
  by_cases g7 : 1000 < bd
  · have HF : Hid (validP w h mv bd bl = false) := Lib.hid (by rw [Bool.eq_false_iff]; intro hh; have h2 := (HI.1 hh).1; omega)
    clear HI
    go_enter Try.func22, Try.ntmps22
    go_wp2_with fail
    go_ret
    exact ⟨by rw [HF.out]; rfl, hb.out⟩
  by_cases g8 : 900 < (n : Int)
  · have HF : Hid (validP w h mv bd bl = false) := Lib.hid (by rw [Bool.eq_false_iff]; intro hh; have h2 := (HI.1 hh).1; omega)
    clear HI
    go_enter Try.func22, Try.ntmps22
    go_wp2_with fail
    go_ret
    exact ⟨by rw [HF.out]; rfl, hb.out⟩
  have HI2 : Hid ((∀ c ∈ bl, onP w h c = true) → validP w h mv bd bl = true) := Lib.hid (fun hh => HI.2 ⟨⟨by omega, by omega, by omega, by omega, by omega, by omega, by omega, by omega, by omega⟩, hh⟩)
  have HI3 : Hid (validP w h mv bd bl = true → ∀ c ∈ bl, onP w h c = true) := Lib.hid (fun hh => (HI.1 hh).2)
  have HC : Hid ((W.alloc (.cells #[.int .i64 w, .int .i64 h, .int .i64 mv, .int .i64 bd, .slice a n cap] 24)).cell? ⟨W.heap.size, 0, none⟩ = some (.int .i64 w) ∧ (W.alloc (.cells #[.int .i64 w, .int .i64 h, .int .i64 mv, .int .i64 bd, .slice a n cap] 24)).cell? ⟨W.heap.size, 1, none⟩ = some (.int .i64 h) ∧ (W.alloc (.cells #[.int .i64 w, .int .i64 h, .int .i64 mv, .int .i64 bd, .slice a n cap] 24)).cell? ⟨W.heap.size, 2, none⟩ = some (.int .i64 mv) ∧ (W.alloc (.cells #[.int .i64 w, .int .i64 h, .int .i64 mv, .int .i64 bd, .slice a n cap] 24)).cell? ⟨W.heap.size, 3, none⟩ = some (.int .i64 bd) ∧ (W.alloc (.cells #[.int .i64 w, .int .i64 h, .int .i64 mv, .int .i64 bd, .slice a n cap] 24)).cell? ⟨W.heap.size, 4, none⟩ = some (.slice a n cap)) :=
    Lib.hid ⟨World.cell?_alloc_at _ _ _ _ rfl, World.cell?_alloc_at _ _ _ _ rfl, World.cell?_alloc_at _ _ _ _ rfl, World.cell?_alloc_at _ _ _ _ rfl, World.cell?_alloc_at _ _ _ _ rfl⟩
  clear HI
  go_enter Try.func22, Try.ntmps22
  go_wp2_with fail
  generalize W.alloc (.cells #[.int .i64 w, .int .i64 h, .int .i64 mv, .int .i64 bd, .slice a n cap] 24) = W1 at *
  go_loopw [52] (fun p wr => ∃ k : Nat, k ≤ n ∧ p = .int .i64 k ∧ Hid (Below W1.heap.size W1 wr) ∧ Hid (∀ j z, j < k → bl[j]? = some z → onP w h z = true)) (fun p _ => n - (intOf p).toNat)
  case atStart => exact ⟨0, Nat.zero_le _, rfl, Lib.hid (Below.refl _ _), Lib.hid fun j z h => absurd h (Nat.not_lt_zero _)⟩
  case round =>
    obtain ⟨k, hk, rfl, HR, HA⟩ := hrel
    have HBB := Lib.hid (hb.out.trans (HR.out.mono hb.out.size))
    obtain ⟨d0, d1, d2, d3, d4⟩ := HC.out
    replace d0 := cell_below d0 HR.out
    replace d1 := cell_below d1 HR.out
    replace d2 := cell_below d2 HR.out
    replace d3 := cell_below d3 HR.out
    replace d4 := cell_below d4 HR.out
    have hlt := World.block_lt_of_cell? _ _ d0
    by_cases hkn : k < n
    · obtain ⟨⟨p, q⟩, hz⟩ : ∃ z, bl[k]? = some z := ⟨_, List.getElem?_eq_getElem (by rw [HNL.out]; exact hkn)⟩
      obtain ⟨b, off, rfl, e1, e2⟩ := RdP.cell (ha.below HBB.out (Nat.le_refl _)) hz
      have HZ := Lib.hid hz
      have HO := Lib.hid (HON.out p q)
      dsimp only at e1 e2
      clear hz
      cases ho : onP w h (p, q) with
      | false =>
        rw [ho] at HO
        have HF : Hid (validP w h mv bd bl = false) := Lib.hid (by
          rw [Bool.eq_false_iff]
          intro hh
          have := HI3.out hh _ (List.mem_of_getElem? HZ.out)
          rw [ho] at this; cases this)
        clear ho
        go_wp2_with (go_at_call 53; (with_reducible refine (HO.out _).mono ?_); rintro e w9 ⟨rfl, hb9⟩)
        go_ret
        exact ⟨by rw [HF.out]; rfl, (HBB.out.alloc HBB.out.size _).trans (hb9.mono (by have := HBB.out.size; simp; omega))⟩
      | true =>
        rw [ho] at HO
        have HA' : Hid (∀ j z, j < k + 1 → bl[j]? = some z → onP w h z = true) := Lib.hid fun j z hj hz => by
          rcases (by omega : j < k ∨ j = k) with h1 | rfl
          · exact HA.out j z h1 hz
          · rw [HZ.out] at hz
            cases hz
            exact ho
        clear ho
        go_wp2_with (go_at_call 53; (with_reducible refine (HO.out _).mono ?_); rintro e w9 ⟨rfl, hb9⟩)
        go_roundw
        case rel => exact ⟨k + 1, by omega, by go_num, Lib.hid ((HR.out.alloc HR.out.size _).trans (hb9.mono (by have := HR.out.size; simp; omega))), HA'⟩
        case measure => simp [intOf]; omega
    · obtain rfl : k = n := by omega
      have HT : Hid (validP w h mv bd bl = true) := Lib.hid (HI2.out fun c hc => by
        obtain ⟨j, hj, e⟩ := List.getElem_of_mem hc
        exact HA.out j c (by rw [← HNL.out]; exact hj) (by rw [List.getElem?_eq_getElem hj, e]))
      go_wp2_with fail
      go_ret
      exact ⟨by rw [HT.out]; rfl, HBB.out⟩

theorem refNext_any (c : Int × Int) (d : Nat) (hd : d < 4) (w : World) (h1 : -1000000 ≤ c.1) (h2 : c.1 ≤ 1000000) (h3 : -1000000 ≤ c.2) (h4 : c.2 ≤ 1000000) :
    Calls Try.prog 49 #[.agg #[.int .i64 c.1, .int .i64 c.2], .int .i64 d] w fun e w' => e = .returned (.agg #[.int .i64 (besideP c d).1, .int .i64 (besideP c d).2]) ∧ Below w.heap.size w w' := by
  obtain ⟨x, y⟩ := c
  dsimp only at *
  have hw1 : wrap64 (x + 1) = x + 1 := by unfold wrap64; omega
  have hw2 : wrap64 (y + 1) = y + 1 := by clear hw1; unfold wrap64; omega
  have hw3 : wrap64 (x - 1) = x - 1 := by clear hw1 hw2; unfold wrap64; omega
  have hw4 : wrap64 (y - 1) = y - 1 := by clear hw1 hw2 hw3; unfold wrap64; omega
  rcases (by omega : d = 0 ∨ d = 1 ∨ d = 2 ∨ d = 3) with rfl | rfl | rfl | rfl
  · clear hd
    go_enter Try.func49, Try.ntmps49
    go_wp2_with fail
    refine bodyPost_ret (v := .agg #[.int .i64 (x + 1), .int .i64 y]) (by simp [results, Try.results49, go_sem]) rfl ?_
    exact ⟨rfl, ((Below.refl _ _).alloc (Nat.le_refl _) _).alloc (by simp) _⟩
  · clear hd
    go_enter Try.func49, Try.ntmps49
    go_wp2_with fail
    refine bodyPost_ret (v := .agg #[.int .i64 x, .int .i64 (y + 1)]) (by simp [results, Try.results49, go_sem]) rfl ?_
    exact ⟨rfl, ((Below.refl _ _).alloc (Nat.le_refl _) _).alloc (by simp) _⟩
  · clear hd
    go_enter Try.func49, Try.ntmps49
    go_wp2_with fail
    refine bodyPost_ret (v := .agg #[.int .i64 (x - 1), .int .i64 y]) (by simp [results, Try.results49, go_sem]) rfl ?_
    exact ⟨rfl, ((Below.refl _ _).alloc (Nat.le_refl _) _).alloc (by simp) _⟩
  · clear hd
    go_enter Try.func49, Try.ntmps49
    go_wp2_with fail
    refine bodyPost_ret (v := .agg #[.int .i64 x, .int .i64 (y - 1)]) (by simp [results, Try.results49, go_sem]) rfl ?_
    exact ⟨rfl, ((Below.refl _ _).alloc (Nat.le_refl _) _).alloc (by simp) _⟩
end Go.Proofs.Ytpakkjkjppibnaa
