/- Benes: single, outers; how many ways there may be. -/
import Derived.Test.YtelnlmhelkcliaaBOut
import Derived.Test.YtelnlmhelkcliaaSplit
namespace Go.Proofs.Ytelnlmhelkcliaa
open Go.RowKit Go.Shelf

/-- a bound of the ways -/
def waysC : Nat → Nat
  | 0 => 1
  | h + 1 => 2 ^ pw h * (waysC h * waysC h)
theorem waysR_le : ∀ (h : Nat) (p : List Int) (st : Nat → Int), waysR h p st ≤ waysC h
  | 0, p, st => by unfold waysR waysC; split <;> omega
  | h + 1, p, st => by
    rw [waysR, waysC]
    refine sumN_le _ fun i _ => ?_
    split
    · exact Nat.mul_le_mul (waysR_le h _ _) (waysR_le h _ _)
    · exact Nat.zero_le _
theorem waysC_le {h : Nat} (hh : h ≤ 3) : waysC h ≤ 16777216 := by
  rcases (by omega : h = 0 ∨ h = 1 ∨ h = 2 ∨ h = 3) with rfl | rfl | rfl | rfl <;> decide
theorem sum_if (q : Nat → Bool) (f : Nat → Nat) (n : Nat) : (((List.range n).filter q).map f).sum = sumN (fun i => if q i then f i else 0) n := by
  induction n with
  | zero => rfl
  | succ n ih =>
    rw [range_snoc, List.map_append, List.sum_append, ih, sumN_succ]
    cases q n <;> simp
/-- the ways of an outer setting -/
def wayF (h : Nat) (p : List Int) (st : Nat → Int) (way : Nat) : Nat × Nat :=
  (waysR h (upL p (oF p (pw h) way) (pw h)) (fun i => st (pw (h + 1) + i)), waysR h (lowL p (oF p (pw h) way) (pw h)) (fun i => st (pw (h + 1) + cnt h + i)))
theorem ways_sum {h : Nat} {p : List Int} (hp : PermP p) (hl : p.length = pw (h + 1)) (st : Nat → Int) :
    ((outL p (pw h) st).map fun way => (wayF h p st way).1 * (wayF h p st way).2).sum = waysR (h + 1) p st := by
  unfold outL
  rw [sum_if, ← ways_ties hp hl st]
  rfl
theorem rd_lt {W : World} {a : Addr} {n c : Nat} {cs : List Value} (h : Rd W (.slice (some a) n c) cs) (hn : 0 < n) : a.block < W.heap.size := by
  obtain ⟨a', c', e, _, _, hc, _⟩ := h
  injection e with e1 e2 e3
  subst e1 e2
  obtain ⟨b, off, e4, hh⟩ := hc.cell (j := 0) hn
  cases e4
  obtain ⟨v, hv⟩ : ∃ v, cs[0]? = some v := ⟨_, List.getElem?_eq_getElem hn⟩
  exact World.block_lt_of_cell? _ _ (hh 0 v hv)
theorem off_new {W : World} {v : Value} {cs : List Value} (h : Rd W v cs) (hn : 0 < cs.length) {x : Nat} (hx : W.heap.size ≤ x) : Off (some x) v := by
  intro a n c e
  subst e
  have hl : n = cs.length := by obtain ⟨a', c', e, _⟩ := h; injection e
  have := rd_lt h (by omega)
  simp; omega

theorem own_some1 {w : World} {B n : Nat} {e : TypeId} {size : Nat} {v : Value} {xs : List Value} (h : w.ownsRow B e size v n xs) (hn : 0 < n) : ∃ g c, v = .slice (some ⟨g, 0, none⟩) n c ∧ B ≤ g ∧ g < w.heap.size := by
  rcases h.2 with ⟨_, h0⟩ | ⟨g, cap, cur, hv, hb, hg, _⟩
  · omega
  · exact ⟨g, cap, hv, hb, (Array.getElem?_eq_some_iff.1 hg).1⟩
theorem single_any (p : List Int) (s : Int) (v : Value) (w : World) (hl : p.length = 2) (hv : Rd w v (ints p)) :
    Calls Try.prog 66 #[v, .int .i64 s] w fun e w' => e = .returned (.tuple #[.bool (p.getD 0 0 == 1), .bool (mayB s (p.getD 0 0 == 1))]) ∧ w = w' := by
  obtain ⟨a, cap, rfl, hc, hcm, ha, hno⟩ := hv
  obtain ⟨b, off, rfl, hcell⟩ := ha.cell (j := 0) (by rw [ints_length, hl]; decide)
  have c0 := hcell 0 _ (ints_getD (by rw [hl]; decide))
  rw [Nat.add_zero] at c0
  rw [ints_length, hl] at hc ⊢
  obtain ⟨x, hx⟩ : ∃ x, p.getD 0 0 = x := ⟨_, rfl⟩
  rw [hx] at c0 ⊢
  have HAG := Lib.hid (fun set => agrees_any s set w)
  clear hcell ha hx hl
  obtain ⟨set, hs⟩ : ∃ set, (x == 1) = set := ⟨_, rfl⟩
  rw [hs]
  go_enter Try.func66, Try.ntmps66
  go_wp2_with (go_at_call 77; refine (HAG.out set).mono ?_; rintro e w3 ⟨rfl, rfl⟩)
  go_ret2
  exact ⟨rfl, rfl⟩

set_option maxHeartbeats 1000000 in
theorem outers_any {p : List Int} (hp : PermP p) {m : Nat} (hl : p.length = 2 * m) (hm : m ≤ 8) (hm0 : 0 < m) (v v1 v2 v3 v4 : Value) (l1 l2 : List Int) (w : World) (hv : Rd w v (ints p)) (r1 : Rd w v1 (ints l1)) (r2 : Rd w v2 (ints l2)) :
    Calls Try.prog 68 #[v, .agg #[v1, v2, v3, v4]] w fun e w' => (∃ (Bl Bm Bp ub uc : Nat) (pa : Option Addr) (pc : Nat) (bs : List (Nat × Nat)), e = .returned (.func (.func 79) #[] #[.pointer (some ⟨Bl, 0, none⟩), .pointer (some ⟨Bm, 0, none⟩), .pointer (some ⟨Bp, 0, none⟩)]) ∧
      OutEnv w' w.heap.size Bl Bm Bp ub uc m pa pc bs (tiesL p m) v1 v2 v3 v4 l1 l2) ∧ Below w.heap.size w w' := by
  have HP := permN_of hp hl
  have hT : Ties m (piL p) (rhoL p) m (tiesL p m) := ties_ok HP m (Nat.le_refl _)
  have hT1 : 0 < (tiesL p m).length := by
    obtain ⟨i, b, hi, _⟩ := hT.find1 hm0
    omega
  have HTI := Lib.hid (fun W (h : Rd W v (ints p)) => ties_any hp hl hm v W h)
  have HR1 := Lib.hid r1
  have HR2 := Lib.hid r2
  have HV := Lib.hid hv
  obtain ⟨pa, pc, rfl, _⟩ := hv
  rw [ints_length, hl] at HTI HV ⊢
  have HT1 := Lib.hid hT1
  clear HP hT hT1 r1 r2 hp hl
  have hb : Below w.heap.size w ((w.alloc (.cells #[.slice pa (2 * m) pc] 24)).alloc (.cells #[v1, v2, v3, v4] 81)) := ((Below.refl _ _).alloc (Nat.le_refl _) _).alloc (by simp) _
  have HB := Lib.hid hb
  have HC := Lib.hid (show ((w.alloc (.cells #[.slice pa (2 * m) pc] 24)).alloc (.cells #[v1, v2, v3, v4] 81)).cell? ⟨w.heap.size, 0, none⟩ = some (.slice pa (2 * m) pc) ∧ ((w.alloc (.cells #[.slice pa (2 * m) pc] 24)).alloc (.cells #[v1, v2, v3, v4] 81)).cell? ⟨w.heap.size + 1, 0, none⟩ = some v1 ∧ ((w.alloc (.cells #[.slice pa (2 * m) pc] 24)).alloc (.cells #[v1, v2, v3, v4] 81)).cell? ⟨w.heap.size + 1, 1, none⟩ = some v2
    ∧ ((w.alloc (.cells #[.slice pa (2 * m) pc] 24)).alloc (.cells #[v1, v2, v3, v4] 81)).cell? ⟨w.heap.size + 1, 2, none⟩ = some v3 ∧ ((w.alloc (.cells #[.slice pa (2 * m) pc] 24)).alloc (.cells #[v1, v2, v3, v4] 81)).cell? ⟨w.heap.size + 1, 3, none⟩ = some v4 from
    ⟨cell_alloc (World.cell?_alloc_at _ _ _ _ rfl) _, World.cell?_alloc_at _ _ _ _ (by simp), World.cell?_alloc_at _ _ _ _ (by simp), World.cell?_alloc_at _ _ _ _ (by simp), World.cell?_alloc_at _ _ _ _ (by simp)⟩)
  clear hb
  go_enter Try.func68, Try.ntmps68
  go_wp2_with (go_at_call 78; refine (HTI.out _ (HV.out.below HB.out (Nat.le_refl _))).mono ?_; rintro e w3 ⟨⟨u, bs, rfl, ho, ht⟩, hb3⟩; obtain ⟨ub, uc, rfl, hu1, hu2⟩ := own_some1 ho (by rw [ht.1]; exact HT1.out); have HO := Lib.hid ho; have HTB := Lib.hid ht; have HB3 := Lib.hid hb3; clear ho ht hb3)
  go_ret
  have z : ((w.alloc (.cells #[.slice pa (2 * m) pc] 24)).alloc (.cells #[v1, v2, v3, v4] 81)).heap.size = w.heap.size + 1 + 1 := by simp
  have z3 := HB3.out.size
  have hb4 : Below w3.heap.size w3 (w3.alloc (.cells #[.slice (some ⟨ub, 0, none⟩) bs.length uc] 96)) := (Below.refl _ _).alloc (Nat.le_refl _) _
  obtain ⟨c0, c1, c2, c3, c4⟩ := HC.out
  have hb := (HB.out.trans (HB3.out.mono HB.out.size)).trans (hb4.mono (by omega))
  refine ⟨⟨_, _, _, ub, uc, pa, pc, bs, rfl, ⟨by omega, World.cell?_alloc_at _ _ _ _ rfl, own_below (own_le HO.out (by omega)) hb4, (HTB.out.le (by omega)).below hb4, cell_below (cell_below c0 HB3.out) hb4, cell_below (cell_below c1 HB3.out) hb4, cell_below (cell_below c2 HB3.out) hb4, cell_below (cell_below c3 HB3.out) hb4, cell_below (cell_below c4 HB3.out) hb4, HR1.out.below hb (Nat.le_refl _), HR2.out.below hb (Nat.le_refl _)⟩⟩, hb⟩
end Go.Proofs.Ytelnlmhelkcliaa
