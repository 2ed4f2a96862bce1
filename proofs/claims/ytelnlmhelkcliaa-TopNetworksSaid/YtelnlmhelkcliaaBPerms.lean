/- Benes: the reference's Perms: all permutations of n, as rows of its own. -/
import Derived.Test.YtelnlmhelkcliaaBPm
import Derived.Test.YtelnlmhelkcliaaBWays
namespace Go.Proofs.Ytelnlmhelkcliaa
open Go.RowKit

theorem el_row : ElemOk Try.prog 50 24 (.slice none 0 0) 24 :=
  ⟨by kernel_rfl, info_parts (by kernel_rfl), by rfl, by decide⟩
/-- A matrix whose blocks are the call's own. -/
def OwnM (w : World) (B : Nat) (v : Value) (m : List (List Int)) : Prop :=
  ∃ vs, w.ownsRow B 24 1 v m.length vs ∧ ∀ (i : Nat) (x : Value) (r : List Int), vs[i]? = some x → m[i]? = some r → w.ownsRow B 3 1 x r.length (ints r)
theorem OwnM.below {w w' : World} {B : Nat} {v : Value} {m : List (List Int)} (h : OwnM w B v m) (hb : Below w.heap.size w w') : OwnM w' B v m := by
  obtain ⟨vs, h1, h2⟩ := h
  exact ⟨vs, own_below h1 hb, fun i x r hx hr => own_below (h2 i x r hx hr) hb⟩
theorem OwnM.le {w : World} {B C : Nat} {v : Value} {m : List (List Int)} (h : OwnM w B v m) (hb : C ≤ B) : OwnM w C v m := by
  obtain ⟨vs, h1, h2⟩ := h
  exact ⟨vs, own_le h1 hb, fun i x r hx hr => own_le (h2 i x r hx hr) hb⟩
theorem OwnM.nil (w : World) (B : Nat) : OwnM w B (.slice none 0 0) [] := ⟨[], World.ownsRow_nil _ _ _ _, fun i x r hx _ => by simp at hx⟩
/-- Blocks of two element types are two. -/
theorem own_ne {w : World} {B B' n n' s s' : Nat} {e e' : TypeId} {v v' : Value} {xs xs' : List Value} (h : w.ownsRow B e s v n xs) (h' : w.ownsRow B' e' s' v' n' xs') (hne : e ≠ e') : v.ownBlock = none ∨ v.ownBlock ≠ v'.ownBlock := by
  rcases h.2 with ⟨rfl, _⟩ | ⟨g, cap, cur, rfl, _, hg, _⟩
  · exact .inl rfl
  · refine .inr fun e => ?_
    rcases h'.2 with ⟨rfl, _⟩ | ⟨g', cap', cur', rfl, _, hg', _⟩
    · simp [Value.ownBlock] at e
    · simp [Value.ownBlock] at e
      subst e
      rw [hg] at hg'
      simp at hg'
      exact hne hg'.2
/-- One more row. -/
theorem OwnM.snoc {W w' : World} {B : Nat} {v v' x : Value} {m : List (List Int)} {r : List Int} {vs : List Value} (h1 : W.ownsRow B 24 1 v m.length vs)
    (h2 : ∀ (i : Nat) (x : Value) (r : List Int), vs[i]? = some x → m[i]? = some r → W.ownsRow B 3 1 x r.length (ints r)) (hx : W.ownsRow B 3 1 x r.length (ints r))
    (hg : W.grownBy w' v.ownBlock) (ho : w'.ownsRow B 24 1 v' (m.length + 1) (vs ++ [x])) : OwnM w' B v' (m ++ [r]) := by
  have hl : vs.length = m.length := by simpa using h1.1
  refine ⟨vs ++ [x], by rw [List.length_append]; exact ho, fun i y s hy hs => ?_⟩
  by_cases hi : i < m.length
  · rw [List.getElem?_append_left (by omega)] at hy
    rw [List.getElem?_append_left hi] at hs
    exact (h2 i y s hy hs).kept hg (own_ne (h2 i y s hy hs) h1 (by decide))
  · rw [List.getElem?_append_right (by omega)] at hy hs
    rw [hl] at hy
    obtain ⟨j, hj⟩ : ∃ j, j = i - m.length := ⟨_, rfl⟩
    rw [← hj] at hy hs
    match j, hy, hs with
    | 0, hy, hs =>
      simp at hy hs
      subst hy hs
      exact hx.kept hg (own_ne hx h1 (by decide))
    | j + 1, hy, _ => simp at hy
/-- the rows that are done -/
def pK (n k : Nat) : List (List Int) := ((permsP n).take k).flatMap fun r => (List.range (n + 1)).map fun j => insL r j n
theorem pK_all (n : Nat) : pK n (permsP n).length = permsP (n + 1) := by unfold pK; rw [List.take_length]; rfl
theorem pK_succ {n k : Nat} {r : List Int} (h : (permsP n)[k]? = some r) : pK n (k + 1) = pK n k ++ (List.range (n + 1)).map fun j => insL r j n := by
  unfold pK; rw [take_snoc h, List.flatMap_append]; simp
/-- n! -/
def facN : Nat → Nat
  | 0 => 1
  | n + 1 => facN n * (n + 1)
theorem sum_const {α : Type} (c : Nat) : ∀ L : List α, (L.map fun _ => c).sum = L.length * c
  | [] => by simp
  | x :: L => by rw [List.map_cons, List.sum_cons, sum_const c L, List.length_cons, Nat.add_mul, Nat.one_mul, Nat.add_comm]
theorem len_flat (n : Nat) (L : List (List Int)) : (L.flatMap fun r => (List.range (n + 1)).map fun k => insL r k n).length = L.length * (n + 1) := by
  rw [List.length_flatMap]
  simp only [List.length_map, List.length_range]
  exact sum_const _ _
theorem permsP_count : ∀ n, (permsP n).length = facN n
  | 0 => rfl
  | n + 1 => by
    rw [show permsP (n + 1) = (permsP n).flatMap fun r => (List.range (n + 1)).map fun k => insL r k n from rfl, len_flat, permsP_count n]
    rfl
theorem facN_le : ∀ n, n ≤ 3 → facN n ≤ 24 ∧ facN n * (n + 1) ≤ 24 ∧ 0 < facN n
  | 0, _ => by decide
  | 1, _ => by decide
  | 2, _ => by decide
  | 3, _ => by decide
  | n + 4, h => by omega
theorem Rd.lo {w : World} {a : Option Addr} {n c k : Nat} {l : List Int} (h : Rd w (.slice a n c) (ints l)) (hn : l.length = n) (hk : k ≤ n) : Rd w (.slice a k c) (ints (l.take k)) := by
  obtain ⟨a', c', e, h1, h2, h3, h4⟩ := h
  simp only [Value.slice.injEq] at e
  obtain ⟨rfl, _, rfl⟩ := e
  rw [ints_length] at h1
  have h5 := h3.pre k
  have e : (ints l).take k = ints (l.take k) := by simp [ints]
  rw [e] at h5
  exact ⟨a, c, by congr 1; simp [ints]; omega, by simp [ints]; omega, h2, h5, h4⟩
theorem Rd.hi {w : World} {a : Option Addr} {n c k : Nat} {l : List Int} (h : Rd w (.slice a n c) (ints l)) (hn : l.length = n) (hk : k ≤ n) : Rd w (.slice (a.map fun x => x.add k) (n - k) (c - k)) (ints (l.drop k)) := by
  obtain ⟨a', c', e, h1, h2, h3, h4⟩ := h
  simp only [Value.slice.injEq] at e
  obtain ⟨rfl, _, rfl⟩ := e
  rw [ints_length] at h1
  have h5 := h3.sub k (n - k)
  have e : ((ints l).drop k).take (n - k) = ints (l.drop k) := by
    rw [List.take_of_length_le (by simp [ints]; omega)]; simp [ints]
  rw [e] at h5
  exact ⟨_, c - k, by congr 1; simp [ints]; omega, by simp [ints]; omega, by omega, h5, fun hh => by have := h4 (by simpa using hh); omega⟩
theorem Rd.hi2 {w : World} {a : Option Addr} {n c k : Nat} {l : List Int} (h : Rd w (.slice a n c) (ints l)) (hn : l.length = n) (hk : k ≤ n) : Rd w (.slice (if c = k then a else a.map fun x => x.add k) (n - k) (c - k)) (ints (l.drop k)) := by
  by_cases hc : c = k
  · rw [if_pos hc]
    obtain ⟨a', c', e, h1, h2, h3, h4⟩ := h
    simp only [Value.slice.injEq] at e
    obtain ⟨rfl, _, rfl⟩ := e
    rw [ints_length] at h1
    have e : l.drop k = [] := List.drop_eq_nil_of_le (by omega)
    rw [e]
    exact ⟨a, c - k, by congr 1; simp [ints]; omega, by simp [ints], by omega, .inl rfl, fun _ => by omega⟩
  · rw [if_neg hc]; exact h.hi hn hk

theorem perms_zero (w : World) : Calls Try.prog 40 #[.int .i64 0] w fun e w' => (∃ u, e = .returned u ∧ OwnM w' w.heap.size u (permsP 0)) ∧ Below w.heap.size w w' := by
  go_enter Try.func40, Try.ntmps40
  go_wp2_with fail
  go_ret
  have ho := own_lit w w.heap.size 24 #[.slice none 0 0] 1 (Nat.le_refl _) rfl (by decide)
  refine ⟨⟨_, rfl, _, ho, fun i x r hx hr => ?_⟩, (Below.refl _ _).alloc (Nat.le_refl _) _⟩
  cases i with
  | zero => simp [permsP] at hx hr; subst hx hr; exact World.ownsRow_nil _ _ _ _
  | succ i => simp at hx
set_option maxHeartbeats 1000000 in
theorem perms_succ (n : Nat) (hn : n ≤ 3) (IH : ∀ w : World, Calls Try.prog 40 #[.int .i64 n] w fun e w' => (∃ u, e = .returned u ∧ OwnM w' w.heap.size u (permsP n)) ∧ Below w.heap.size w w') (w : World) :
    Calls Try.prog 40 #[.int .i64 ((n : Int) + 1)] w fun e w' => (∃ u, e = .returned u ∧ OwnM w' w.heap.size u (permsP (n + 1))) ∧ Below w.heap.size w w' := by
  have HIH := Lib.hid IH
  have hz : (((n : Int) + 1) == 0) = false := by simp; omega
  have hw1 : IntKind.i64.wrap ((n : Int) + 1 - 1) = (n : Int) := by rw [show (n : Int) + 1 - 1 = n by omega]; exact IntWalk.i64_in _ ⟨by omega, by omega⟩
  have hw2 : IntKind.i64.wrap (n : Int) = (n : Int) := IntWalk.i64_in _ ⟨by omega, by omega⟩
  have HLEN := Lib.hid (permsP_count n)
  have HEACH := Lib.hid (permsP_len n)
  have HALL := Lib.hid (pK_all n)
  have HSUC := Lib.hid (fun k r => @pK_succ n k r)
  have hf := facN_le n hn
  have HPK : Hid (∀ k, (pK n k).length ≤ 24) := Lib.hid fun k => by
    have h1 : (pK n k).length = ((permsP n).take k).length * (n + 1) := by unfold pK; exact len_flat _ _
    have h2 : ((permsP n).take k).length ≤ facN n := by rw [List.length_take, ← permsP_count n]; omega
    rw [h1]
    exact Nat.le_trans (Nat.mul_le_mul_right _ h2) hf.2.1
  obtain ⟨P, hP⟩ : ∃ P, permsP n = P := ⟨_, rfl⟩
  rw [hP] at HIH HLEN HEACH HALL HSUC
  obtain ⟨L, hL⟩ : ∃ L, P.length = L := ⟨_, rfl⟩
  rw [hL] at HLEN HALL
  have hL24 : L ≤ 24 := by
    have := HLEN.out
    omega
  have hL0 : 0 < L := by
    have := HLEN.out
    omega
  have HPL := Lib.hid hL
  clear IH hP hL hf
  go_enter Try.func40, Try.ntmps40
  go_wp2_with (go_at_call 40; refine (HIH.out _).mono ?_; rintro e w1 ⟨⟨u, rfl, vs, ho, hrows⟩, hb1⟩; rw [HPL.out] at ho; obtain ⟨g1, c1, rfl, _, _⟩ := own_some1 ho hL0; have HO := Lib.hid ho; have HROW := Lib.hid hrows; have HB1 := Lib.hid hb1; clear ho hrows hb1)
  have HCELL : Hid (∀ (j : Nat) (x : Value), vs[j]? = some x → w1.cell? ⟨g1, j, none⟩ = some x) := Lib.hid fun j x hx => by
    obtain ⟨aa, cc, e, _, _, hca, _⟩ := Rd.own HO.out
    cases e
    obtain ⟨b, off, e, hh⟩ := hca.cell (List.getElem?_eq_some_iff.1 hx).1
    cases e
    have := hh j x hx
    rwa [Nat.zero_add] at this
  go_loopw [3, 15] (fun v i wr => ∃ k : Nat, k ≤ L ∧ i = .int .i64 k ∧ Hid (OwnM wr w1.heap.size v (pK n k)) ∧ Below w1.heap.size w1 wr) (fun _ i _ => L - (intOf i).toNat)
  case atStart =>
    have : pK n 0 = [] := by simp [pK]
    exact ⟨0, by omega, rfl, Lib.hid (by rw [this]; exact OwnM.nil _ _), Below.refl _ _⟩
  case round =>
    obtain ⟨k, hk, rfl, HM, hbel⟩ := hrel
    by_cases hkl : k < L
    · have hkl' : decide ((k : Int) < (L : Int)) = true := by simp; omega
      obtain ⟨r, hr⟩ : ∃ r, P[k]? = some r := ⟨_, List.getElem?_eq_getElem (by rw [HPL.out]; exact hkl)⟩
      have hrl := HEACH.out r (List.mem_of_getElem? hr)
      obtain ⟨x, hx⟩ : ∃ x, vs[k]? = some x := ⟨_, List.getElem?_eq_getElem (by have := HO.out.1; rw [Nat.mul_one] at this; omega)⟩
      have hxo := HROW.out k x r hx hr
      rw [hrl] at hxo
      obtain ⟨ax, cx, rfl⟩ := own_form hxo
      have c0 := cell_below (HCELL.out k _ hx) hbel
      have HX := Lib.hid (Rd.own hxo)
      have hcx : n ≤ cx := by obtain ⟨_, _, e, h, _⟩ := Rd.own hxo; cases e; rw [ints_length, hrl] at h; exact h
      have HS := Lib.hid (HSUC.out k r hr)
      have HRL := Lib.hid hrl
      clear hr hx hxo hrl
      have zc := World.block_lt_of_cell? _ _ c0
      go_wp2_with fail
      obtain ⟨wo, rfl⟩ : ∃ wo, wo = wr := ⟨_, rfl⟩
      have HBO := Lib.hid hbel
      clear hbel c0 zc
      go_loopw [3, 6] (fun v i wr => ∃ j : Nat, j ≤ n + 1 ∧ i = .int .i64 j ∧ Hid (OwnM wr w1.heap.size v (pK n k ++ (List.range j).map fun q => insL r q n)) ∧ Below w1.heap.size w1 wr) (fun _ i _ => n + 1 - (intOf i).toNat)
      case atStart => exact ⟨0, by omega, rfl, Lib.hid (by simpa using HM.out), HBO.out⟩
      case round =>
        obtain ⟨j, hj, rfl, HMJ, hbel⟩ := hrel
        by_cases hjn : j < n + 1
        · have hjn' : decide ((j : Int) < (n : Int) + 1) = true := by simp; omega
          have hj1 : decide ((j : Int) < 0) = false := by simp
          have hj2 : decide ((cx : Int) < (j : Int)) = false := by simp; omega
          have hj3 : decide ((n : Int) < (j : Int)) = false := by simp; omega
          have HXR := Lib.hid (HX.out.below hbel (Nat.le_refl _))
          have HP1 := Lib.hid (Rd.lo HXR.out HRL.out (show j ≤ n by omega))
          have HP2 := Lib.hid (Rd.hi2 HXR.out HRL.out (show j ≤ n by omega))
          have hn1 : (ints (r.take j)).length = j := by rw [ints_length, List.length_take, HRL.out]; omega
          have hn2 : (ints (r.drop j)).length = n - j := by rw [ints_length, List.length_drop, HRL.out]
          have HL1 : Hid (0 + (ints (r.take j)).length ≤ 4000000) := Lib.hid (by rw [hn1]; omega)
          have HN1 := Lib.hid hn1
          have HN2 := Lib.hid hn2
          clear hn1 hn2
          have HM2 := HMJ.out
          obtain ⟨vm, hm1, hm2⟩ := HM2
          have HM1 := Lib.hid hm1
          have HM3 := Lib.hid hm2
          clear hm1 hm2
          go_upto_region 12 with (at_builtin; refine appS el_int rfl rfl (w0 := wr) (v := .slice none 0 0) (y := .slice ax j cx) (n := 0) (xs := []) (ys := ints (r.take j)) rfl rfl (Below.refl _ _) (World.ownsRow_nil _ _ _ _) HP1.out (ints_cell _) HL1.out ?_; intro v1 w2 ho2 hb2 hg2; rw [HN1.out, Nat.zero_add, List.nil_append] at ho2; have HO2 := Lib.hid ho2; have HB2 := Lib.hid hb2; clear ho2 hb2 hg2)
          go_upto_region 13 with (at_builtin; refine app1 el_int rfl rfl (w0 := wr) (W := w2) (v := v1) (n := j) (xs := ints (r.take j)) (u := .int .i64 n) rfl rfl HB2.out HO2.out rfl (by omega) ?_; intro v2 w3 ho3 hb3 hg3; have HO3 := Lib.hid ho3; have HB3 := Lib.hid hb3; clear ho3 hb3 hg3)
          go_upto_region 14 with (at_builtin; refine appS el_int rfl rfl (w0 := wr) (v := v2) (y := .slice (if cx = j then ax else Option.map (fun x => x.add j) ax) (n - j) (cx - j)) (n := j + 1) (xs := ints (r.take j) ++ [.int .i64 n]) (ys := ints (r.drop j)) rfl rfl HB3.out HO3.out (HP2.out.below HB3.out (Nat.le_refl _)) (ints_cell _) (by rw [HN2.out]; omega) ?_; intro v3 w4 ho4 hb4 hg4; have HO4 := Lib.hid ho4; have HB4 := Lib.hid hb4; clear ho4 hb4 hg4)
          have hins : ints (r.take j) ++ [.int .i64 n] ++ ints (r.drop j) = ints (insL r j n) := by simp [ints, insL]
          have hil : (insL r j n).length = n + 1 := by rw [insL_len _ _ _ (by rw [HRL.out]; omega), HRL.out]
          have ho4 := HO4.out
          rw [hins, HN2.out, show j + 1 + (n - j) = n + 1 by omega] at ho4
          obtain ⟨g4, c4, rfl, _, _⟩ := own_some1 ho4 (by omega)
          have HO5 := Lib.hid ho4
          have HIL := Lib.hid hil
          have hpl : (pK n k ++ (List.range j).map fun q => insL r q n).length ≤ 1000 := by
            have := HPK.out k
            rw [List.length_append, List.length_map, List.length_range]; omega
          have HMLN := Lib.hid hpl
          clear ho4 hins hil hpl
          go_wp2_with (at_builtin; refine app1 el_row rfl rfl (w0 := w1) (W := w4) (v := u3) (n := (pK n k ++ (List.range j).map fun q => insL r q n).length) (xs := vm) (u := .slice (some ⟨g4, 0, none⟩) (n + 1) c4) rfl rfl (hbel.trans (HB4.out.mono hbel.size)) (own_below HM1.out HB4.out) rfl (by have := HMLN.out; omega) ?_; intro v5 w5 ho5 hb5 hg5; have HO6 := Lib.hid ho5; have HB5 := Lib.hid hb5; have HG5 := Lib.hid hg5; clear ho5 hb5 hg5)
          go_roundw
          case rel =>
            refine ⟨j + 1, by omega, by go_num, Lib.hid ?_, ?_⟩
            · have hW : Below w4.heap.size w4 (w4.alloc (.cells #[.slice (some ⟨g4, 0, none⟩) (n + 1) c4] 24)) := (Below.refl _ _).alloc (Nat.le_refl _) _
              have hq : OwnM w5 w1.heap.size v5 ((pK n k ++ (List.range j).map fun q => insL r q n) ++ [insL r j n]) :=
                OwnM.snoc (own_below (own_below HM1.out HB4.out) hW) (fun i y s hy hs => own_below (own_below (HM3.out i y s hy hs) HB4.out) hW)
                  (by rw [HIL.out]; exact own_below (own_le HO5.out hbel.size) hW) HG5.out HO6.out
              have e9 : (pK n k ++ (List.range (j + 1)).map fun q => insL r q n) = (pK n k ++ (List.range j).map fun q => insL r q n) ++ [insL r j n] := by rw [List.range_succ, List.map_append, List.append_assoc]; rfl
              rw [e9]
              exact hq
            · exact HB5.out
          case measure => simp [intOf]; omega
        · obtain rfl : j = n + 1 := by omega
          have hjn' : decide (((n + 1 : Nat) : Int) < (n : Int) + 1) = false := by simp
          go_wp2_with fail
          go_roundw
          case rel => exact ⟨k + 1, by omega, by go_num, Lib.hid (by rw [HS.out]; exact HMJ.out), hbel⟩
          case measure => simp [intOf]; omega
    · obtain rfl : L = k := by omega
      have hkl' : decide ((L : Int) < (L : Int)) = false := by simp
      go_wp2_with fail
      go_ret
      exact ⟨⟨_, rfl, by rw [← HALL.out]; exact HM.out.le HB1.out.size⟩, HB1.out.trans (hbel.mono HB1.out.size)⟩
end Go.Proofs.Ytelnlmhelkcliaa
