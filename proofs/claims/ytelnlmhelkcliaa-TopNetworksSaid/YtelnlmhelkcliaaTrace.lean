/- benes.trace: the output of an input, and the switches that light meets. -/
import Derived.Test.YtelnlmhelkcliaaSplit
namespace Go.Proofs.Ytelnlmhelkcliaa
open Go.RowKit

/-- The side of light behind a switch. -/
def sd (S : List Bool) (j s : Nat) : Nat := if S.getD j false then 1 - s else s
theorem sd_lt (S : List Bool) (j s : Nat) (h : s ≤ 1) : sd S j s ≤ 1 := by unfold sd; split <;> omega

/-- The output, and the switches met; b: the index of the network's first switch. -/
def tro : Nat → List Bool → Nat → Nat → Nat
  | 0, S, i, b => sd S b i
  | k + 1, S, i, b =>
    2 * tro k S (i / 2) (b + pw (k + 1) + sd S (b + i / 2) (i % 2) * cnt k) +
      sd S (b + pw k + tro k S (i / 2) (b + pw (k + 1) + sd S (b + i / 2) (i % 2) * cnt k)) (sd S (b + i / 2) (i % 2))
def trm : Nat → List Bool → Nat → Nat → List Int
  | 0, _, _, b => [(b : Int)]
  | k + 1, S, i, b =>
    [((b + i / 2 : Nat) : Int)] ++ trm k S (i / 2) (b + pw (k + 1) + sd S (b + i / 2) (i % 2) * cnt k) ++
      [((b + pw k + tro k S (i / 2) (b + pw (k + 1) + sd S (b + i / 2) (i % 2) * cnt k) : Nat) : Int)]

theorem tro_lt (k : Nat) : ∀ S i b, i < pw k → tro k S i b < pw k := by
  induction k with
  | zero => intro S i b h; have := sd_lt S b i (by simp only [pw] at h; omega); simp only [tro, pw]; omega
  | succ k ih =>
    intro S i b h
    have h1 := ih S (i / 2) (b + pw (k + 1) + sd S (b + i / 2) (i % 2) * cnt k) (by simp only [pw] at h; omega)
    have h2 := sd_lt S (b + pw k + tro k S (i / 2) (b + pw (k + 1) + sd S (b + i / 2) (i % 2) * cnt k)) (sd S (b + i / 2) (i % 2)) (sd_lt _ _ _ (by omega))
    simp only [tro, pw] at *
    omega
theorem trm_len (k : Nat) : ∀ S i b, (trm k S i b).length = 2 * k + 1 := by
  induction k with
  | zero => intro S i b; rfl
  | succ k ih => intro S i b; simp only [trm, List.length_append, List.length_cons, List.length_nil, ih]; omega

/-- A part of a list. -/
def seg {α : Type} (S : List α) (b n : Nat) : List α := (S.drop b).take n
theorem seg_len {α : Type} (S : List α) (b n : Nat) (h : b + n ≤ S.length) : (seg S b n).length = n := by
  simp [seg]; omega
theorem seg_seg {α β : Type} (f : α → β) (S : List α) (b n x y : Nat) (h : x + y ≤ n) : (((seg S b n).map f).drop x).take y = (seg S (b + x) y).map f := by
  unfold seg
  rw [← List.map_drop, ← List.map_take]
  congr 1
  rw [List.drop_take, List.take_take, List.drop_drop, Nat.min_eq_left (by omega)]
theorem seg_get {β : Type} (f : Bool → β) (S : List Bool) (b n j : Nat) (h : j < n) (hb : b + n ≤ S.length) : ((seg S b n).map f)[j]? = some (f (S.getD (b + j) false)) := by
  unfold seg
  rw [List.getElem?_map, List.getElem?_take, if_pos h, List.getElem?_drop]
  simp [List.getD, List.getElem?_eq_getElem (show b + j < S.length by omega)]

/-- bits on small numbers -/
theorem and1 (i : Nat) (h : i < 64) : bits .and .i64 (i : Int) 1 = ((i % 2 : Nat) : Int) := by
  have : ∀ i : Fin 64, bits .and .i64 ((i.val : Nat) : Int) 1 = ((i.val % 2 : Nat) : Int) := by decide +kernel
  exact this ⟨i, h⟩
theorem xor_bI (i : Nat) (t : Bool) (h : i < 64) : bits .xor .i64 (i : Int) (bI t) = ((if t then i / 2 * 2 + (1 - i % 2) else i : Nat) : Int) := by
  have : ∀ (i : Fin 64) (t : Bool), bits .xor .i64 ((i.val : Nat) : Int) (bI t) = ((if t then i.val / 2 * 2 + (1 - i.val % 2) else i.val : Nat) : Int) := by decide +kernel
  exact this ⟨i, h⟩ t
theorem xor_sd (S : List Bool) (j s : Nat) (h : s ≤ 1) : bits .xor .i64 (s : Int) (bI (S.getD j false)) = ((sd S j s : Nat) : Int) := by
  rw [xor_bI s _ (by omega)]
  unfold sd
  split <;> congr 1 <;> omega
theorem xor_sd2 (S : List Bool) (j o s : Nat) (h : s ≤ 1) (ho : o < 16) : bits .xor .i64 (2 * (o : Int) + (s : Int)) (bI (S.getD j false)) = ((2 * o + sd S j s : Nat) : Int) := by
  rw [show (2 * (o : Int) + (s : Int)) = ((2 * o + s : Nat) : Int) from by omega, xor_bI _ _ (by omega)]
  unfold sd
  split <;> congr 1 <;> omega

theorem trace0 (n x bs : Int) (v : Value) (S : List Bool) (i b : Nat) (w : World) (hn : n = pw 0) (hx : x = i) (hbs : bs = b) (hi : i < pw 0) (hb : b + cnt 0 ≤ S.length)
    (hv : Rd w v ((seg S b (cnt 0)).map .bool)) :
    Calls Try.prog 47 #[.int .i64 n, v, .int .i64 x, .int .i64 bs] w fun e w' => ∃ u, e = .returned (.tuple #[.int .i64 (tro 0 S i b), u]) ∧
      w'.ownsRow w.heap.size 3 1 u (2 * 0 + 1) ((trm 0 S i b).map (.int .i64)) ∧ Below w.heap.size w w' := by
  subst hn hx hbs
  obtain ⟨a, cap, rfl, hc, hm, ha, _⟩ := hv
  have hl : ((seg S b (cnt 0)).map Value.bool).length = 1 := by rw [List.length_map, seg_len _ _ _ hb]; rfl
  rw [hl] at hc ⊢
  obtain ⟨b1, off, rfl, hcell⟩ := ha.cell (j := 0) (by rw [hl]; decide)
  have c1 := hcell 0 _ (seg_get Value.bool S b (cnt 0) 0 (by decide) hb)
  have hxs := xor_sd S b i (by simp only [pw] at hi; omega)
  simp only [Nat.add_zero] at c1
  have HO := own_lit w w.heap.size 3 #[.int .i64 (b : Int)] 1 (Nat.le_refl _) rfl (by decide)
  have HXS := Lib.hid hxs
  clear hcell hl ha hm hc hb hxs
  simp only [pw]
  go_enter Try.func47, Try.ntmps47
  go_wp2_with (go_at_call 46; refine (bit_any _ _).mono ?_; rintro e w' ⟨rfl, rfl⟩)
  go_ret2
  exact ⟨_, by simp only [tro, ← HXS.out]; rfl, HO, (Below.refl _ _).alloc (Nat.le_refl _) _⟩

set_option maxRecDepth 100000 in
set_option maxHeartbeats 1000000 in
theorem trace_any (k : Nat) : ∀ (n x bs : Int) (v : Value) (S : List Bool) (i b : Nat) (w : World), k ≤ 3 → n = pw k → x = i → bs = b → i < pw k → b + cnt k ≤ S.length → S.length ≤ 1000 →
    Rd w v ((seg S b (cnt k)).map .bool) →
    Calls Try.prog 47 #[.int .i64 n, v, .int .i64 x, .int .i64 bs] w fun e w' => ∃ u, e = .returned (.tuple #[.int .i64 (tro k S i b), u]) ∧
      w'.ownsRow w.heap.size 3 1 u (2 * k + 1) ((trm k S i b).map (.int .i64)) ∧ Below w.heap.size w w' := by
  induction k with
  | zero => intro n x bs v S i b w _ hn hx hbs hi hb _ hv; exact trace0 n x bs v S i b w hn hx hbs hi hb hv
  | succ k ih =>
    intro n x bs v S i b w hk hn hx hbs hi hb hS hv
    have h1 := pw_pos k
    have h2 := pw_le (k + 1) hk
    have h3 := cnt_bd k (by omega)
    have hpw : pw (k + 1) = 2 * pw k := rfl
    have hcn : cnt (k + 1) = pw (k + 1) + 2 * cnt k := rfl
    have hlen : ((seg S b (cnt (k + 1))).map Value.bool).length = cnt (k + 1) := by rw [List.length_map, seg_len _ _ _ hb]
    -- the values on the way
    obtain ⟨way, hway⟩ : ∃ way, way = sd S (b + i / 2) (i % 2) := ⟨_, rfl⟩
    have hw1 : way ≤ 1 := by rw [hway]; exact sd_lt _ _ _ (by omega)
    obtain ⟨fr, hfr⟩ : ∃ fr, fr = b + pw (k + 1) + way * cnt k := ⟨_, rfl⟩
    obtain ⟨o, ho⟩ : ∃ o, o = tro k S (i / 2) fr := ⟨_, rfl⟩
    have hol : o < pw k := by rw [ho]; exact tro_lt _ _ _ _ (by omega)
    have hxor : bits .xor .i64 ((i % 2 : Nat) : Int) (bI (S.getD (b + i / 2) false)) = ((way : Nat) : Int) := by rw [hway]; exact xor_sd _ _ _ (by omega)
    have hxor2 := xor_sd2 S (b + pw k + o) o way hw1 (by omega)
    have hro : tro (k + 1) S i b = 2 * o + sd S (b + pw k + o) way := by simp only [tro]; rw [← hway, ← hfr, ← ho]
    have hrm : trm (k + 1) S i b = [((b + i / 2 : Nat) : Int)] ++ trm k S (i / 2) fr ++ [((b + pw k + o : Nat) : Int)] := by simp only [trm]; rw [← hway, ← hfr, ← ho]
    rw [hro]
    have HRM := Lib.hid hrm
    subst hx hbs hn
    have hw01 : way = 0 ∨ way = 1 := by omega
    have hF : fr + cnt k ≤ S.length ∧ (way = 0 ∧ fr = b + pw (k + 1) ∨ way = 1 ∧ fr = b + (pw (k + 1) + cnt k)) := by rcases hw01 with rfl | rfl <;> omega
    have HPK := Lib.hid (show ((pw (k + 1) : Nat) : Int) / 2 = pw k by omega)
    have HI2 := Lib.hid (show ((i : Nat) : Int) / 2 = ((i / 2 : Nat) : Int) by omega)
    have hil : i / 2 < pw k := by omega
    obtain ⟨t1, ht1⟩ : ∃ t1, t1 = S.getD (b + i / 2) false := ⟨_, rfl⟩
    obtain ⟨t2, ht2⟩ : ∃ t2, t2 = S.getD (b + pw k + o) false := ⟨_, rfl⟩
    rw [← ht1] at hxor
    rw [← ht2] at hxor2
    obtain ⟨r, hr⟩ : ∃ r, r = 2 * o + sd S (b + pw k + o) way := ⟨_, rfl⟩
    rw [← hr] at hxor2 ⊢
    have HCS1 : Hid (((seg S b (cnt (k + 1))).map Value.bool)[i / 2]? = some (.bool t1)) := Lib.hid (by rw [ht1]; exact seg_get _ _ _ _ _ (by omega) hb)
    have HCS2 : Hid (((seg S b (cnt (k + 1))).map Value.bool)[pw k + o]? = some (.bool t2)) := Lib.hid (by rw [ht2, Nat.add_assoc]; exact seg_get _ _ _ _ _ (by omega) hb)
    have HU : Hid ((((seg S b (cnt (k + 1))).map Value.bool).drop (pw (k + 1))).take (cnt k) = (seg S (b + pw (k + 1)) (cnt k)).map .bool) := Lib.hid (seg_seg _ _ _ _ _ _ (by omega))
    have HL : Hid ((((seg S b (cnt (k + 1))).map Value.bool).drop (pw (k + 1) + cnt k)).take (cnt k) = (seg S (b + (pw (k + 1) + cnt k)) (cnt k)).map .bool) := Lib.hid (seg_seg _ _ _ _ _ _ (by omega))
    have IH := Lib.hid (ih (((pw (k + 1) : Nat) : Int) / 2) ((i : Int) / 2))
    have HO := Lib.hid ho
    have HX1 := Lib.hid hxor
    have HX2 := Lib.hid hxor2
    have HF := Lib.hid hF.2
    have hfS := hF.1
    have HLEN := Lib.hid hlen
    have HLEN2 : Hid (((seg S b (cnt (k + 1))).map Value.bool).length = 2 * pw k + 2 * cnt k) := Lib.hid (by rw [hlen, hcn, hpw])
    obtain ⟨M, hM⟩ : ∃ M, M = (trm k S (i / 2) fr).map (Value.int .i64) := ⟨_, rfl⟩
    have HML : Hid (M.length = 2 * k + 1) := Lib.hid (by rw [hM, List.length_map, trm_len])
    have HM1 : Hid (∀ u ∈ M, u.oneCell' = true) := Lib.hid (by rw [hM]; intro u hu; obtain ⟨z, _, rfl⟩ := List.mem_map.1 hu; rfl)
    have HM := Lib.hid hM
    have hmm : pw k ≤ pw (k + 1) := by omega
    have hne : (((pw (k + 1) : Nat) : Int) == 2) = false := by rw [beq_eq_false_iff_ne]; omega
    have hB1 : b + pw (k + 1) + 2 * cnt k ≤ S.length := by omega
    generalize (seg S b (cnt (k + 1))).map Value.bool = cs at *
    clear ih hro hrm hway ho hlen ht1 ht2 hr hpw hcn hb hxor hxor2 hfr hF hM hw01
    go_enter Try.func47, Try.ntmps47
    go_wp2_with fail
    refine (splitB_any k _ _ _ _ (by omega) rfl HLEN.out hv).mono ?_
    rintro e w1 ⟨v1, v2, v3, v4, rfl, hP, hb1⟩
    have HLEN' := HLEN2.out
    obtain ⟨a1, cap1, rfl, hc1, hm1, ha1, _⟩ := hP.first.parts (n := pw k) (by rw [List.length_take]; omega)
    obtain ⟨a2, cap2, rfl, hc2, hm2, ha2, _⟩ := hP.last.parts (n := pw k) (by rw [List.length_take, List.length_drop]; omega)
    obtain ⟨b1, off1, rfl, hce1⟩ := ha1.cell (j := i / 2) (by rw [List.length_take]; omega)
    obtain ⟨b2, off2, rfl, hce2⟩ := ha2.cell (j := o) (by rw [List.length_take, List.length_drop]; omega)
    have c1 := cell_alloc (hce1 (i / 2) (.bool t1) (by rw [List.getElem?_take, if_pos hil]; exact HCS1.out))
    have c2 := Lib.hid (hce2 o (.bool t2) (by rw [List.getElem?_take, if_pos hol, List.getElem?_drop]; exact HCS2.out))
    have hV3 := HU.out ▸ hP.upper
    have hV4 := HL.out ▸ hP.lower
    clear hce1 hce2 ha1 ha2 HLEN' hP HCS1 HCS2 HU HL HLEN2 HLEN hv
    have hq3 := hV3
    obtain ⟨a3, cap3, rfl, hc3, hm3, _, _⟩ := hq3.parts (n := cnt k) (by rw [List.length_map, seg_len]; omega)
    have hq4 := hV4
    obtain ⟨a4, cap4, rfl, hc4, hm4, _, _⟩ := hq4.parts (n := cnt k) (by rw [List.length_map, seg_len]; omega)
    clear hq3 hq4
    rcases HF.out with ⟨rfl, hf⟩ | ⟨rfl, hf⟩
    · have HFR : Hid (((b : Int) + (pw (k + 1) : Nat) : Int) = fr) := Lib.hid (by rw [hf]; omega)
      rw [← hf] at hV3
      have hV := hV3
      have hx1 : bits .xor .i64 (bits .and .i64 (i : Int) 1) (bI t1) = 0 := by rw [and1 i (by omega)]; exact HX1.out
      have hx2 : bits .xor .i64 (2 * (o : Int)) (bI t2) = ((r : Nat) : Int) := HX2.out
      clear hf HF HX1 HX2 hV3 hV4
      go_wp2_with (first
        | (go_at_call 49; refine (count_any k _ _ (by omega) HPK.out).mono ?_; rintro e w' ⟨rfl, rfl⟩)
        | (go_at_call 46; refine (bit_any _ _).mono ?_; rintro e w' ⟨rfl, rfl⟩)
        | (go_at_call 47; refine (IH.out _ _ S (i / 2) fr _ (by omega) HPK.out HI2.out HFR.out hil hfS hS (hV.below ((Below.refl _ _).alloc (Nat.le_refl _) _) (Nat.le_refl _))).mono ?_; rw [← HO.out, ← HM.out]; rintro e w3 ⟨u, rfl, hu, hb3⟩)
        | (at_builtin; refine appS el_int rfl rfl (w0 := w3) rfl rfl (by exact (Below.refl _ _).alloc (Nat.le_refl _) _) (by exact own_lit w3 w3.heap.size _ _ 1 (Nat.le_refl _) rfl (by decide)) (by exact (Rd.own hu).below ((Below.refl _ _).alloc (Nat.le_refl _) _) (Nat.le_refl _)) (by exact HM1.out) (by rw [HML.out]; omega) ?_; intro v5 w5 ho5 hb5 _)
        | (at_builtin; refine app1 el_int rfl rfl (w0 := w3) rfl rfl (by exact hb5) (by exact ho5) rfl (by rw [HML.out]; omega) ?_; intro v6 w6 ho6 hb6 _; have d1 : w6.cell? ⟨w1.heap.size, 1, none⟩ = some (.slice (some ⟨b2, off2, none⟩) (pw k) cap2) := cell_below (cell_below (World.cell?_alloc_at _ _ _ _ rfl) hb3) hb6; have d2 := cell_below (cell_below (cell_alloc c2.out _) hb3) hb6))
      go_ret2
      have hz3 : w1.heap.size ≤ w3.heap.size := by have := hb3.size; simp at this; omega
      have hz1 := hb1.size
      refine ⟨v6, rfl, ?_, (hb1.trans (((Below.refl w1.heap.size w1).alloc (Nat.le_refl _) _).mono hz1)).trans ((hb3.mono (by simp; omega)).trans (hb6.mono (by omega)))⟩
      have e1 : 1 + M.length + 1 = 2 * (k + 1) + 1 := by have := HML.out; omega
      have e2 : ([((b + i / 2 : Nat) : Int)] ++ trm k S (i / 2) fr ++ [((b + pw k + o : Nat) : Int)]).map (Value.int .i64) = [Value.int .i64 ((b : Int) + (i : Int) / 2)] ++ M ++ [Value.int .i64 ((b : Int) + ((pw (k + 1) : Nat) : Int) / 2 + (o : Int))] := by
        have := HPK.out
        rw [List.map_append, List.map_append, ← HM.out, this]
        rfl
      rw [HRM.out, e2, ← e1]
      exact own_le ho6 (by omega)
    · have HFR : Hid (((b : Int) + (pw (k + 1) : Nat) + (cnt k : Nat) : Int) = fr) := Lib.hid (by rw [hf]; omega)
      rw [← hf] at hV4
      have hV := hV4
      have hx1 : bits .xor .i64 (bits .and .i64 (i : Int) 1) (bI t1) = 1 := by rw [and1 i (by omega)]; exact HX1.out
      have hx2 : bits .xor .i64 (2 * (o : Int) + 1) (bI t2) = ((r : Nat) : Int) := HX2.out
      clear hf HF HX1 HX2 hV3 hV4
      go_wp2_with (first
        | (go_at_call 49; refine (count_any k _ _ (by omega) HPK.out).mono ?_; rintro e w' ⟨rfl, rfl⟩)
        | (go_at_call 46; refine (bit_any _ _).mono ?_; rintro e w' ⟨rfl, rfl⟩)
        | (go_at_call 47; refine (IH.out _ _ S (i / 2) fr _ (by omega) HPK.out HI2.out HFR.out hil hfS hS (hV.below ((Below.refl _ _).alloc (Nat.le_refl _) _) (Nat.le_refl _))).mono ?_; rw [← HO.out, ← HM.out]; rintro e w3 ⟨u, rfl, hu, hb3⟩)
        | (at_builtin; refine appS el_int rfl rfl (w0 := w3) rfl rfl (by exact (Below.refl _ _).alloc (Nat.le_refl _) _) (by exact own_lit w3 w3.heap.size _ _ 1 (Nat.le_refl _) rfl (by decide)) (by exact (Rd.own hu).below ((Below.refl _ _).alloc (Nat.le_refl _) _) (Nat.le_refl _)) (by exact HM1.out) (by rw [HML.out]; omega) ?_; intro v5 w5 ho5 hb5 _)
        | (at_builtin; refine app1 el_int rfl rfl (w0 := w3) rfl rfl (by exact hb5) (by exact ho5) rfl (by rw [HML.out]; omega) ?_; intro v6 w6 ho6 hb6 _; have d1 : w6.cell? ⟨w1.heap.size, 1, none⟩ = some (.slice (some ⟨b2, off2, none⟩) (pw k) cap2) := cell_below (cell_below (World.cell?_alloc_at _ _ _ _ rfl) hb3) hb6; have d2 := cell_below (cell_below (cell_alloc c2.out _) hb3) hb6))
      go_ret2
      have hz3 : w1.heap.size ≤ w3.heap.size := by have := hb3.size; simp at this; omega
      have hz1 := hb1.size
      refine ⟨v6, rfl, ?_, (hb1.trans (((Below.refl w1.heap.size w1).alloc (Nat.le_refl _) _).mono hz1)).trans ((hb3.mono (by simp; omega)).trans (hb6.mono (by omega)))⟩
      have e1 : 1 + M.length + 1 = 2 * (k + 1) + 1 := by have := HML.out; omega
      have e2 : ([((b + i / 2 : Nat) : Int)] ++ trm k S (i / 2) fr ++ [((b + pw k + o : Nat) : Int)]).map (Value.int .i64) = [Value.int .i64 ((b : Int) + (i : Int) / 2)] ++ M ++ [Value.int .i64 ((b : Int) + ((pw (k + 1) : Nat) : Int) / 2 + (o : Int))] := by
        have := HPK.out
        rw [List.map_append, List.map_append, ← HM.out, this]
        rfl
      rw [HRM.out, e2, ← e1]
      exact own_le ho6 (by omega)

end Go.Proofs.Ytelnlmhelkcliaa
