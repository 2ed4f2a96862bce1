/- ref08.out: the same, in the reference's text. -/
import Derived.Test.YtelnlmhelkcliaaTrace
namespace Go.Proofs.Ytelnlmhelkcliaa
open Go.RowKit

theorem out0 (n x bs : Int) (v mv : Value) (S : List Bool) (i b m : Nat) (L : List Int) (w0 w : World) (hn : n = pw 0) (hx : x = i) (hbs : bs = b) (hi : i < pw 0) (hb : b + cnt 0 ≤ S.length)
    (hv : Rd w0 v (bools S)) (hbel : Below w0.heap.size w0 w) (hown : w.ownsRow w0.heap.size 3 1 mv m (ints L)) (hm : m ≤ 1000) :
    Calls Try.prog 45 #[.int .i64 n, v, .int .i64 x, .int .i64 bs, mv] w fun e w' => ∃ u, e = .returned (.tuple #[.int .i64 (tro 0 S i b), u]) ∧
      w'.ownsRow w0.heap.size 3 1 u (m + 1) (ints (L ++ trm 0 S i b)) ∧ Below w0.heap.size w0 w' := by
  subst hn hx hbs
  have hbl : b < S.length := by simp only [cnt] at hb; omega
  obtain ⟨a, cap, rfl, hc, hcm, ha, _⟩ := hv
  rw [bools_length] at hc ⊢
  obtain ⟨b1, off, rfl, hcell⟩ := ha.cell (j := b) (by rw [bools_length]; exact hbl)
  obtain ⟨t, ht⟩ : ∃ t, t = S.getD b false := ⟨_, rfl⟩
  have c0 := Lib.hid (hcell b (.bool t) (by rw [ht]; exact bools_getD hbl))
  have hi1 : i ≤ 1 := by simp only [pw] at hi; omega
  have HR : Hid (tro 0 S i b = if t then 1 - i else i) := Lib.hid (by simp only [tro, sd]; rw [ht])
  have HRM : Hid (ints (L ++ trm 0 S i b) = ints L ++ [.int .i64 (b : Int)]) := Lib.hid (by rw [ints_append]; rfl)
  clear hcell ha hb ht hi
  simp only [pw]
  cases t
  all_goals
    go_enter Try.func45, Try.ntmps45
    go_wp2_with (at_builtin; refine app1 el_int rfl rfl (w0 := w0) rfl rfl (by exact hbel) (by exact hown) rfl (by omega) ?_; intro v1 w1 ho1 hb1 _; have c1 := ((hb1.cell (p := ⟨b1, off + b, none⟩) (World.block_lt_of_cell? _ _ c0.out)).trans c0.out))
    go_ret2
    refine ⟨_, ret2i (by have := HR.out; simp at this; omega), ?_, hb1⟩
    rw [HRM.out]
    exact ho1

set_option maxRecDepth 100000 in
set_option maxHeartbeats 4000000 in
theorem out_any (k : Nat) : ∀ (n x bs : Int) (v mv : Value) (S : List Bool) (i b m : Nat) (L : List Int) (w0 w : World), k ≤ 3 → n = pw k → x = i → bs = b → i < pw k → b + cnt k ≤ S.length → S.length ≤ 1000 →
    Rd w0 v (bools S) → Below w0.heap.size w0 w → w.ownsRow w0.heap.size 3 1 mv m (ints L) → m + (2 * k + 1) ≤ 1000 →
    Calls Try.prog 45 #[.int .i64 n, v, .int .i64 x, .int .i64 bs, mv] w fun e w' => ∃ u, e = .returned (.tuple #[.int .i64 (tro k S i b), u]) ∧
      w'.ownsRow w0.heap.size 3 1 u (m + (2 * k + 1)) (ints (L ++ trm k S i b)) ∧ Below w0.heap.size w0 w' := by
  induction k with
  | zero => intro n x bs v mv S i b m L w0 w _ hn hx hbs hi hb _ hv hbel hown hm; exact out0 n x bs v mv S i b m L w0 w hn hx hbs hi hb hv hbel hown (by omega)
  | succ k ih =>
    intro n x bs v mv S i b m L w0 w hk hn hx hbs hi hb hS hv hbel hown hm
    have h1 := pw_pos k
    have h2 := pw_le (k + 1) hk
    have h3 := cnt_bd k (by omega)
    have hpw : pw (k + 1) = 2 * pw k := rfl
    have hcn : cnt (k + 1) = pw (k + 1) + 2 * cnt k := rfl
    -- the values on the way
    obtain ⟨t1, ht1⟩ : ∃ t1, t1 = S.getD (b + i / 2) false := ⟨_, rfl⟩
    obtain ⟨way, hway⟩ : ∃ way, way = if t1 then 1 - i % 2 else i % 2 := ⟨_, rfl⟩
    have hway' : sd S (b + i / 2) (i % 2) = way := by unfold sd; rw [← ht1, hway]
    have hw1 : way ≤ 1 := by rw [← hway']; exact sd_lt _ _ _ (by omega)
    obtain ⟨fr, hfr⟩ : ∃ fr, fr = b + pw (k + 1) + way * cnt k := ⟨_, rfl⟩
    obtain ⟨o, ho⟩ : ∃ o, o = tro k S (i / 2) fr := ⟨_, rfl⟩
    have hol : o < pw k := by rw [ho]; exact tro_lt _ _ _ _ (by omega)
    obtain ⟨t2, ht2⟩ : ∃ t2, t2 = S.getD (b + pw k + o) false := ⟨_, rfl⟩
    have hro : tro (k + 1) S i b = 2 * o + (if t2 then 1 - way else way) := by simp only [tro]; rw [hway', ← hfr, ← ho]; congr 1; unfold sd; rw [← ht2]
    have hrm : ints (L ++ trm (k + 1) S i b) = ints ((L ++ [((b + i / 2 : Nat) : Int)]) ++ trm k S (i / 2) fr) ++ [Value.int .i64 (((b + pw k + o : Nat)) : Int)] := by
      simp only [trm]; rw [hway', ← hfr, ← ho]; simp [ints]
    subst hx hbs hn
    have hfS : fr + cnt k ≤ S.length := by have : way = 0 ∨ way = 1 := by omega
                                           rcases this with h | h <;> subst h <;> omega
    have HPK := Lib.hid (show ((pw (k + 1) : Nat) : Int) / 2 = pw k by omega)
    have HI2 := Lib.hid (show ((i : Nat) : Int) / 2 = ((i / 2 : Nat) : Int) by omega)
    have hil : i / 2 < pw k := by omega
    obtain ⟨a, cap, rfl, hc, hcm, ha, hcn0⟩ := id hv
    rw [bools_length] at hc hv ⊢
    have HV := Lib.hid hv
    obtain ⟨b1, off, rfl, hcell⟩ := ha.cell (j := b) (by rw [bools_length]; omega)
    have c0 := Lib.hid (hcell (b + i / 2) (.bool t1) (by rw [ht1]; exact bools_getD (by omega)))
    have d0 := Lib.hid (hcell (b + pw k + o) (.bool t2) (by rw [ht2]; exact bools_getD (by omega)))
    have e1 : b + i / 2 < S.length := by omega
    have e2 : b + pw k + o < S.length := by omega
    have e3 : (b : Int) + ((pw (k + 1) : Nat) : Int) / 2 + (o : Int) < S.length := by omega
    have E5 : Hid (b + pw (k + 1) / 2 + o = b + pw k + o) := Lib.hid (by omega)
    have E3 : Hid ((b : Int) + ((pw (k + 1) : Nat) : Int) / 2 + (o : Int) = ((b + pw k + o : Nat) : Int)) := Lib.hid (by omega)
    have E4 : Hid ((b : Int) + (i : Int) / 2 = ((b + i / 2 : Nat) : Int)) := Lib.hid (by omega)
    have hp : i % 2 = 0 ∨ i % 2 = 1 := by omega
    have IH := Lib.hid (ih (((pw (k + 1) : Nat) : Int) / 2) ((i : Int) / 2))
    have HRO := Lib.hid hro
    have HRM := Lib.hid hrm
    have HO := Lib.hid ho
    have hne : (((pw (k + 1) : Nat) : Int) == 2) = false := by rw [beq_eq_false_iff_ne]; omega
    clear ih hro hrm ho ht1 ht2 hcell ha hway' hpw hcn hv hcn0
    rcases hp with hp | hp <;> cases t1 <;> simp only [hp, if_true, if_false, Bool.false_eq_true, Nat.sub_self, Nat.sub_zero] at hway <;> subst hway
    all_goals
      have HFR := Lib.hid hfr
      have hpi : (i : Int) % 2 = ((i % 2 : Nat) : Int) := by omega
      rw [hp] at hpi
      clear hfr hp
      go_enter Try.func45, Try.ntmps45
      go_wp2_with (first
        | (go_at_call 57; refine (switches_any k _ _ (by omega) HPK.out).mono ?_; rintro e w' ⟨rfl, rfl⟩)
        | (go_at_call 45; refine (IH.out _ _ _ S (i / 2) fr (m + 1) (L ++ [((b + i / 2 : Nat) : Int)]) w0 _ (by omega) HPK.out HI2.out (by have := HFR.out; omega) hil hfS hS HV.out hb1 (by rw [ints_append, ints_one, ← E4.out]; exact ho1) (by omega)).mono ?_; rw [← HO.out]; rintro e w2 ⟨u, rfl, hu, hb2⟩)
        | (at_builtin; refine app1 el_int rfl rfl (w0 := w0) rfl rfl (by exact hbel) (by exact hown) rfl (by omega) ?_; intro v1 w1 ho1 hb1 _; have c1 := ((hb1.cell (p := ⟨b1, off + (b + i / 2), none⟩) (World.block_lt_of_cell? _ _ c0.out)).trans c0.out))
        | (at_builtin; refine app1 el_int rfl rfl (w0 := w0) rfl rfl (by exact hb2) (by exact hu) rfl (by omega) ?_; intro v3 w3 ho3 hb3 _; have d1 : w3.cell? ⟨b1, off + (b + pw (k + 1) / 2 + o), none⟩ = some (.bool t2) := by rw [E5.out]; exact (hb3.cell (p := ⟨b1, off + (b + pw k + o), none⟩) (World.block_lt_of_cell? _ _ d0.out)).trans d0.out))
      all_goals
        go_ret2
        refine ⟨_, ret2i (by have h9 := HRO.out; (first | rw [if_pos (by assumption)] at h9 | rw [if_neg (by simp [*])] at h9); omega), ?_, hb3⟩
        rw [HRM.out, ← E3.out, show m + (2 * (k + 1) + 1) = m + 1 + (2 * k + 1) + 1 from by omega]
        exact ho3

end Go.Proofs.Ytelnlmhelkcliaa
