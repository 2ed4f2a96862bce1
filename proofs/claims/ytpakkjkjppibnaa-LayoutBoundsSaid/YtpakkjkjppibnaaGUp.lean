/- Layout: container/heap over the list of places. -/
import Derived.Test.YtpakkjkjppibnaaKMem
import Derived.Deep.LoopGhost
namespace Go.Proofs.Ytpakkjkjppibnaa
open Go.RowKit

theorem HeapAt.own {W : World} {Bp B n : Nat} {v : Value} {l : List Pl} (h : HeapAt W Bp B v l) (hl : l.length = n) : W.ownsRow B 116 3 v n (plcs l) := hl ▸ h.2
theorem HeapAt.swapped {W W' : World} {Bp B g n c : Nat} {l l' : List Pl} (h : HeapAt W Bp B (.slice (some ⟨g, 0, none⟩) n c) l) (hw : W.grownBy W' (some g)) (ho : W'.ownsRow B 116 3 (.slice (some ⟨g, 0, none⟩) n c) n (plcs l')) (hl : l'.length = n) : HeapAt W' Bp B (.slice (some ⟨g, 0, none⟩) n c) l' :=
  ⟨Boxed.kept h.1 hw (Boxed.not_row h.1 (by decide) h.2), by rw [hl]; exact ho⟩

theorem nilchk (ts : Array TypeId) (t : TypeId) (p : Addr) (x y : String) (W : World) : (Builtin.ssaWrapNilChk_ ts t #[.pointer (some p), strVal x, strVal y]).run Try.prog W = .ok (.pointer (some p)) W := rfl
theorem meth_val (name : String) (F : Nat) (hm : ((Try.prog.info? 111).map fun i => (i.methods.find? (·.name == name)).map fun m => (m.path.isEmpty, m.func)) = some (some (true, some (F, false)))) (a : Addr) (W : World) (x : Value) (hl : W.cell? a = some x) :
    (method 298 111 (.pointer (some a)) name).run Try.prog W = .ok (F, x) W := by
  obtain ⟨i, hi, h1⟩ := Option.map_eq_some_iff.1 hm
  obtain ⟨m, hm1, h2⟩ := Option.map_eq_some_iff.1 h1
  simp only [Prod.mk.injEq] at h2
  obtain ⟨hp, hf⟩ := h2
  have hp2 : m.path = #[] := by simpa using hp
  unfold method
  simp [typeInfo, hi, hm1, hf, hp2, follow, receiverAt, run_underlying Try.underlying111, Place.get, nilchk, asAddr, hl, go_sem, Result.andThen]
theorem meth_less (a : Addr) (W : World) (x : Value) (hl : W.cell? a = some x) : (method 298 111 (.pointer (some a)) "Less").run Try.prog W = .ok (153, x) W := meth_val _ _ (by kernel_rfl) a W x hl
theorem meth_swap (a : Addr) (W : World) (x : Value) (hl : W.cell? a = some x) : (method 298 111 (.pointer (some a)) "Swap").run Try.prog W = .ok (156, x) W := meth_val _ _ (by kernel_rfl) a W x hl
theorem meth_len (a : Addr) (W : World) (x : Value) (hl : W.cell? a = some x) : (method 298 111 (.pointer (some a)) "Len").run Try.prog W = .ok (77, x) W := meth_val _ _ (by kernel_rfl) a W x hl
theorem meth_push (a : Addr) (W : World) : (method 298 111 (.pointer (some a)) "Push").run Try.prog W = .ok (155, .pointer (some a)) W := by kernel_rfl
theorem meth_pop (a : Addr) (W : World) : (method 298 111 (.pointer (some a)) "Pop").run Try.prog W = .ok (154, .pointer (some a)) W := by kernel_rfl

set_option maxRecDepth 100000 in
theorem up_any (f Bp B : Nat) (v : Value) (l : List Pl) (j : Nat) (w w0 : World) (hb : Kp Bp v w0 w) (h : HeapAt w Bp B v l) (hj : j < l.length) (hn : l.length ≤ 4000000) (hf : j < f) :
    Calls Try.prog 98 #[.iface 111 (.pointer (some ⟨Bp, 0, none⟩)), .int .i64 j] w fun e w' => (∃ u, e = .returned u) ∧ HeapAt w' Bp B v (upP f l j) ∧ Kp Bp v w0 w' := by
  obtain ⟨g, c, rfl, _, _⟩ := own_some h.2 (by omega)
  have HN := Lib.hid hn
  have HJ := Lib.hid hj
  obtain ⟨N, hN⟩ : ∃ N, l.length = N := ⟨_, rfl⟩
  have HL := Lib.hid hN
  rw [hN] at h hb ⊢
  clear hj hn hN
  have hmL := fun W => meth_less ⟨Bp, 0, none⟩ W
  have hmS := fun W => meth_swap ⟨Bp, 0, none⟩ W
  go_enter Try.func98, Try.ntmps98
  go_wp2_with fail
  go_loopg [1] f (fun k p wr => ∃ (i : Nat) (L : List Pl), p = .int .i64 i ∧ Hid (L.length = N ∧ upP k L i = upP f l j ∧ HeapAt wr Bp B (.slice (some ⟨g, 0, none⟩) N c) L ∧ Kp Bp (.slice (some ⟨g, 0, none⟩) N c) w0 wr) ∧ i < N ∧ i < k)
  case atStart => exact ⟨j, l, rfl, Lib.hid ⟨HL.out, rfl, h, hb⟩, by have := HJ.out; have := HL.out; omega, hf⟩
  case round =>
    obtain ⟨i, L, rfl, HR, hi, hk⟩ := hrel
    obtain ⟨k, rfl⟩ : ∃ k, gk = k + 1 := ⟨gk - 1, by omega⟩
    have hNl := HR.out.1
    have hH := HR.out.2.2.1
    have hc := hH.1.cell
    have HB := Lib.hid hH.1
    have hw1 : wrap64 ((i : Int) - 1) = (i : Int) - 1 := by unfold wrap64; have := HN.out; have := HL.out; omega
    obtain ⟨q, hq⟩ : ∃ q, (i - 1) / 2 = q := ⟨_, rfl⟩
    have hw2 : wrap64 (((i : Int) - 1).tdiv 2) = (q : Int) := by
      have : ((i : Int) - 1).tdiv 2 = (((i - 1) / 2 : Nat) : Int) := by
        rcases Nat.eq_zero_or_pos i with h0 | h0
        · subst h0; decide
        · obtain ⟨m, rfl⟩ : ∃ m, i = m + 1 := ⟨i - 1, by omega⟩
          rw [show ((m + 1 : Nat) : Int) - 1 = ((m : Nat) : Int) by omega, Nat.add_sub_cancel]
          exact (Int.ofNat_tdiv _ _).symm
      rw [this, hq]; unfold wrap64; have := HN.out; have := HL.out; omega
    have HQ := Lib.hid hq
    have HH := Lib.hid hH
    have HNl := Lib.hid hNl
    clear hH hq hNl
    by_cases h0 : i = 0
    · obtain rfl : q = 0 := by have := HQ.out; omega
      subst h0
      go_wp2_with fail
      refine bodyPost_end (results_none rfl _ _ _) rfl ?_
      refine ⟨⟨_, rfl⟩, ?_, HR.out.2.2.2⟩
      have h1 := HR.out.2.1
      rw [upP, if_pos rfl] at h1
      rw [← h1]
      exact HR.out.2.2.1
    · have hqi : q < i := by have := HQ.out; omega
      have hb0 : ((q : Int) == (i : Int)) = false := by simp; omega
      cases hls : lessP L i q with
      | false =>
        have HLS := Lib.hid hls
        go_wp2_with (first | (refine (less_any g N c B L i q wr (HH.out.own HNl.out) HNl.out (by omega) (by omega)).mono ?_; rintro e w1 ⟨rfl, hb1⟩))
        refine bodyPost_end (results_none rfl _ _ _) rfl ?_
        have h1 := HR.out.2.1
        rw [upP, if_neg h0, HQ.out, HLS.out, if_neg (by decide)] at h1
        exact ⟨⟨_, rfl⟩, by rw [← h1]; exact HH.out.below hb1, HR.out.2.2.2.below hb1⟩
      | true =>
        have HLS := Lib.hid hls
        go_wp2_with (first
          | (refine (less_any g N c B L i q wr (HH.out.own HNl.out) HNl.out (by omega) (by omega)).mono ?_; rintro e w1 ⟨rfl, hb1⟩; have hh1 := HH.out.below hb1; have hc1 := hh1.1.cell; have HH1 := Lib.hid hh1; clear hh1)
          | (refine (swap_any g N c B L q i w1 (HH1.out.own HNl.out) HNl.out (by omega) (by omega)).mono ?_; rintro e w2 ⟨⟨v2, rfl⟩, ho2, hg2'⟩))
        go_roundg k
        case measure => omega
        case rel =>
          refine ⟨q, swapP L q i, rfl, Lib.hid ⟨by rw [swapP_len, HNl.out], ?_, HH1.out.swapped hg2' ho2 (by rw [swapP_len, HNl.out]), ?_⟩, by omega, by omega⟩
          · have h1 := HR.out.2.1
            rw [upP, if_neg h0, HQ.out, HLS.out, if_pos rfl] at h1
            exact h1
          · exact (HR.out.2.2.2.below hb1).grown hg2'

theorem less_at (g n c B : Nat) (l : List Pl) (i k : Nat) (I K : Int) (hI : I = i) (hK : K = k) (w : World) (h : w.ownsRow B 116 3 (.slice (some ⟨g, 0, none⟩) n c) n (plcs l)) (hl : l.length = n) (hi : i < n) (hk : k < n) :
    Calls Try.prog 153 #[.slice (some ⟨g, 0, none⟩) n c, .int .i64 I, .int .i64 K] w fun e w' => e = .returned (.bool (lessP l i k)) ∧ Below w.heap.size w w' := by
  subst hI; subst hK; exact less_any g n c B l i k w h hl hi hk
theorem swap_at (g n c B : Nat) (l : List Pl) (i k : Nat) (I K : Int) (hI : I = i) (hK : K = k) (w : World) (h : w.ownsRow B 116 3 (.slice (some ⟨g, 0, none⟩) n c) n (plcs l)) (hl : l.length = n) (hi : i < n) (hk : k < n) :
    Calls Try.prog 156 #[.slice (some ⟨g, 0, none⟩) n c, .int .i64 I, .int .i64 K] w fun e w' => (∃ v, e = .returned v) ∧ w'.ownsRow B 116 3 (.slice (some ⟨g, 0, none⟩) n c) n (plcs (swapP l i k)) ∧ w.grownBy w' (some g) := by
  subst hI; subst hK; exact swap_any g n c B l i k w h hl hi hk

set_option maxRecDepth 100000 in
set_option maxHeartbeats 4000000 in
theorem down_any (f Bp B : Nat) (v : Value) (l : List Pl) (n : Nat) (w w0 : World) (hb : Kp Bp v w0 w) (h : HeapAt w Bp B v l) (hj : n < l.length) (hn : l.length ≤ 4000000) (hf : n < f) :
    Calls Try.prog 99 #[.iface 111 (.pointer (some ⟨Bp, 0, none⟩)), .int .i64 0, .int .i64 n] w fun e w' => (∃ u, e = .returned u) ∧ HeapAt w' Bp B v (downP f l 0 n) ∧ Kp Bp v w0 w' := by
  obtain ⟨g, c, rfl, _, _⟩ := own_some h.2 (by omega)
  have HN := Lib.hid hn
  have HJ := Lib.hid hj
  obtain ⟨N, hN⟩ : ∃ N, l.length = N := ⟨_, rfl⟩
  have HL := Lib.hid hN
  rw [hN] at h hb ⊢
  clear hj hn hN
  have hmL := fun W => meth_less ⟨Bp, 0, none⟩ W
  have hmS := fun W => meth_swap ⟨Bp, 0, none⟩ W
  go_enter Try.func99, Try.ntmps99
  go_wp2_with fail
  go_loopg [7] f (fun k p wr => ∃ (i : Nat) (L : List Pl), p = .int .i64 i ∧ Hid (L.length = N ∧ downP k L i n = downP f l 0 n ∧ HeapAt wr Bp B (.slice (some ⟨g, 0, none⟩) N c) L ∧ Kp Bp (.slice (some ⟨g, 0, none⟩) N c) w0 wr) ∧ i ≤ n ∧ n < i + k)
  case atStart => exact ⟨0, l, rfl, Lib.hid ⟨HL.out, rfl, h, hb⟩, by omega, by omega⟩
  case round =>
    obtain ⟨i, L, rfl, HR, hi, hk⟩ := hrel
    obtain ⟨k, rfl⟩ : ∃ k, gk = k + 1 := ⟨gk - 1, by omega⟩
    have hNl := HR.out.1
    have hH := HR.out.2.2.1
    have hc := hH.1.cell
    have HB := Lib.hid hH.1
    have hnN : n < N := by have := HJ.out; have := HL.out; omega
    have hN4 : N ≤ 4000000 := by have := HN.out; have := HL.out; omega
    have hw1 : wrap64 (2 * (i : Int)) = 2 * (i : Int) := by unfold wrap64; omega
    obtain ⟨p1, hp1⟩ : ∃ p1, 2 * i + 1 = p1 := ⟨_, rfl⟩
    obtain ⟨p2, hp2⟩ : ∃ p2, 2 * i + 2 = p2 := ⟨_, rfl⟩
    have hw2 : wrap64 (2 * (i : Int) + 1) = 2 * (i : Int) + 1 := by clear hw1; unfold wrap64; omega
    have hw3 : wrap64 (2 * (i : Int) + 1 + 1) = 2 * (i : Int) + 1 + 1 := by clear hw1 hw2; unfold wrap64; omega
    have HP1 := Lib.hid hp1
    have HP2 := Lib.hid hp2
    have HH := Lib.hid hH
    have HNl := Lib.hid hNl
    have HI := Lib.hid hi
    clear hH hNl hi hp1 hp2
    by_cases h0 : n ≤ 2 * i + 1
    · have hb0' : ((n : Int) ≤ 2 * (i : Int) + 1) := by clear hw1 hw2 hw3; have := HP1.out; omega
      go_wp2_with fail
      go_ret
      refine ⟨⟨_, rfl⟩, ?_, HR.out.2.2.2⟩
      have h1 := HR.out.2.1
      rw [downP, if_pos h0] at h1
      rw [← h1]
      exact HR.out.2.2.1
    · have hb0' : ¬ ((n : Int) ≤ 2 * (i : Int) + 1) := by clear hw1 hw2 hw3; have := HP1.out; omega
      have hb1 : ¬ (2 * (i : Int) + 1 < 0) := by clear hw1 hw2 hw3; omega
      obtain ⟨m, hm⟩ : ∃ m, kid L i n = m := ⟨_, rfl⟩
      have hmlt := kid_lt (l := L) h0
      rw [hm] at hmlt
      have hd : downP (k + 1) L i n = if lessP L m i then downP k (swapP L i m) m n else L := by rw [downP, if_neg h0, hm]
      have HD := Lib.hid hd
      have HM : Hid (m = if p2 < n ∧ lessP L p2 p1 = true then p2 else p1) := Lib.hid (by rw [← hm]; unfold kid; rw [HP1.out, HP2.out])
      clear hd hm
      by_cases hpn : p2 < n
      · have hpn' : (2 * (i : Int) + 1 + 1 < (n : Int)) := by clear hw1 hw2 hw3; have := HP2.out; omega
        cases hl2 : lessP L p2 p1 with
        | true =>
          have HL2 := Lib.hid hl2
          obtain rfl : m = p2 := by have := HM.out; rw [HL2.out, if_pos ⟨hpn, rfl⟩] at this; exact this
          cases hls : lessP L m i with
          | false =>
            have HLS := Lib.hid hls
            go_wp2_with (first
              | ((with_reducible refine (less_at g N c B L m p1 _ _ (by clear hw1 hw2 hw3; have := HP1.out; have := HP2.out; have := HI.out; omega) (by clear hw1 hw2 hw3; have := HP1.out; have := HP2.out; have := HI.out; omega) wr (HH.out.own HNl.out) HNl.out (by clear hw1 hw2 hw3; have := HP1.out; have := HP2.out; have := HI.out; omega) (by clear hw1 hw2 hw3; have := HP1.out; have := HP2.out; have := HI.out; omega)).mono ?_); rintro e w1 ⟨rfl, hb1'⟩; have hh1 := HH.out.below hb1'; have hc1 := hh1.1.cell; have HH1 := Lib.hid hh1; have HB1 := Lib.hid (HR.out.2.2.2.below hb1'); clear hh1)
              | ((with_reducible refine (less_at g N c B L m i _ _ (by clear hw1 hw2 hw3; have := HP1.out; have := HP2.out; have := HI.out; omega) (by clear hw1 hw2 hw3; have := HP1.out; have := HP2.out; have := HI.out; omega) w1 (HH1.out.own HNl.out) HNl.out (by clear hw1 hw2 hw3; have := HP1.out; have := HP2.out; have := HI.out; omega) (by clear hw1 hw2 hw3; have := HP1.out; have := HP2.out; have := HI.out; omega)).mono ?_); rintro e w2 ⟨rfl, hb2'⟩; have hh2 := HH1.out.below hb2'; have hc2 := hh2.1.cell; have HH2 := Lib.hid hh2; have HB2 := Lib.hid (HB1.out.below hb2'); clear hh2))
            go_ret
            have h1 := HR.out.2.1
            rw [HD.out, HLS.out, if_neg (by decide)] at h1
            exact ⟨⟨_, rfl⟩, by rw [← h1]; exact HH2.out, HB2.out⟩
          | true =>
            have HLS := Lib.hid hls
            go_wp2_with (first
              | ((with_reducible refine (less_at g N c B L m p1 _ _ (by clear hw1 hw2 hw3; have := HP1.out; have := HP2.out; have := HI.out; omega) (by clear hw1 hw2 hw3; have := HP1.out; have := HP2.out; have := HI.out; omega) wr (HH.out.own HNl.out) HNl.out (by clear hw1 hw2 hw3; have := HP1.out; have := HP2.out; have := HI.out; omega) (by clear hw1 hw2 hw3; have := HP1.out; have := HP2.out; have := HI.out; omega)).mono ?_); rintro e w1 ⟨rfl, hb1'⟩; have hh1 := HH.out.below hb1'; have hc1 := hh1.1.cell; have HH1 := Lib.hid hh1; have HB1 := Lib.hid (HR.out.2.2.2.below hb1'); clear hh1)
              | ((with_reducible refine (less_at g N c B L m i _ _ (by clear hw1 hw2 hw3; have := HP1.out; have := HP2.out; have := HI.out; omega) (by clear hw1 hw2 hw3; have := HP1.out; have := HP2.out; have := HI.out; omega) w1 (HH1.out.own HNl.out) HNl.out (by clear hw1 hw2 hw3; have := HP1.out; have := HP2.out; have := HI.out; omega) (by clear hw1 hw2 hw3; have := HP1.out; have := HP2.out; have := HI.out; omega)).mono ?_); rintro e w2 ⟨rfl, hb2'⟩; have hh2 := HH1.out.below hb2'; have hc2 := hh2.1.cell; have HH2 := Lib.hid hh2; have HB2 := Lib.hid (HB1.out.below hb2'); clear hh2)
              | ((with_reducible refine (swap_at g N c B L i m _ _ (by clear hw1 hw2 hw3; have := HP1.out; have := HP2.out; have := HI.out; omega) (by clear hw1 hw2 hw3; have := HP1.out; have := HP2.out; have := HI.out; omega) w2 (HH2.out.own HNl.out) HNl.out (by clear hw1 hw2 hw3; have := HP1.out; have := HP2.out; have := HI.out; omega) (by clear hw1 hw2 hw3; have := HP1.out; have := HP2.out; have := HI.out; omega)).mono ?_); rintro e w3 ⟨⟨v3, rfl⟩, ho3, hg3⟩))
            go_roundg k
            case measure => clear hw1 hw2 hw3; omega
            case rel =>
              refine ⟨m, swapP L i m, by congr 1 <;> (clear hw1 hw2 hw3; have := HP1.out; have := HP2.out; omega), Lib.hid ⟨by rw [swapP_len, HNl.out], ?_, HH2.out.swapped hg3 ho3 (by rw [swapP_len, HNl.out]), ?_⟩, by clear hw1 hw2 hw3; omega, by clear hw1 hw2 hw3; omega⟩
              · have h1 := HR.out.2.1
                rw [HD.out, HLS.out, if_pos rfl] at h1
                exact h1
              · exact HB2.out.grown hg3
        | false =>
          have HL2 := Lib.hid hl2
          obtain rfl : m = p1 := by have := HM.out; rw [HL2.out, if_neg (by simp)] at this; exact this
          cases hls : lessP L m i with
          | false =>
            have HLS := Lib.hid hls
            go_wp2_with (first
              | ((with_reducible refine (less_at g N c B L p2 m _ _ (by clear hw1 hw2 hw3; have := HP1.out; have := HP2.out; have := HI.out; omega) (by clear hw1 hw2 hw3; have := HP1.out; have := HP2.out; have := HI.out; omega) wr (HH.out.own HNl.out) HNl.out (by clear hw1 hw2 hw3; have := HP1.out; have := HP2.out; have := HI.out; omega) (by clear hw1 hw2 hw3; have := HP1.out; have := HP2.out; have := HI.out; omega)).mono ?_); rintro e w1 ⟨rfl, hb1'⟩; have hh1 := HH.out.below hb1'; have hc1 := hh1.1.cell; have HH1 := Lib.hid hh1; have HB1 := Lib.hid (HR.out.2.2.2.below hb1'); clear hh1)
              | ((with_reducible refine (less_at g N c B L m i _ _ (by clear hw1 hw2 hw3; have := HP1.out; have := HP2.out; have := HI.out; omega) (by clear hw1 hw2 hw3; have := HP1.out; have := HP2.out; have := HI.out; omega) w1 (HH1.out.own HNl.out) HNl.out (by clear hw1 hw2 hw3; have := HP1.out; have := HP2.out; have := HI.out; omega) (by clear hw1 hw2 hw3; have := HP1.out; have := HP2.out; have := HI.out; omega)).mono ?_); rintro e w2 ⟨rfl, hb2'⟩; have hh2 := HH1.out.below hb2'; have hc2 := hh2.1.cell; have HH2 := Lib.hid hh2; have HB2 := Lib.hid (HB1.out.below hb2'); clear hh2))
            go_ret
            have h1 := HR.out.2.1
            rw [HD.out, HLS.out, if_neg (by decide)] at h1
            exact ⟨⟨_, rfl⟩, by rw [← h1]; exact HH2.out, HB2.out⟩
          | true =>
            have HLS := Lib.hid hls
            go_wp2_with (first
              | ((with_reducible refine (less_at g N c B L p2 m _ _ (by clear hw1 hw2 hw3; have := HP1.out; have := HP2.out; have := HI.out; omega) (by clear hw1 hw2 hw3; have := HP1.out; have := HP2.out; have := HI.out; omega) wr (HH.out.own HNl.out) HNl.out (by clear hw1 hw2 hw3; have := HP1.out; have := HP2.out; have := HI.out; omega) (by clear hw1 hw2 hw3; have := HP1.out; have := HP2.out; have := HI.out; omega)).mono ?_); rintro e w1 ⟨rfl, hb1'⟩; have hh1 := HH.out.below hb1'; have hc1 := hh1.1.cell; have HH1 := Lib.hid hh1; have HB1 := Lib.hid (HR.out.2.2.2.below hb1'); clear hh1)
              | ((with_reducible refine (less_at g N c B L m i _ _ (by clear hw1 hw2 hw3; have := HP1.out; have := HP2.out; have := HI.out; omega) (by clear hw1 hw2 hw3; have := HP1.out; have := HP2.out; have := HI.out; omega) w1 (HH1.out.own HNl.out) HNl.out (by clear hw1 hw2 hw3; have := HP1.out; have := HP2.out; have := HI.out; omega) (by clear hw1 hw2 hw3; have := HP1.out; have := HP2.out; have := HI.out; omega)).mono ?_); rintro e w2 ⟨rfl, hb2'⟩; have hh2 := HH1.out.below hb2'; have hc2 := hh2.1.cell; have HH2 := Lib.hid hh2; have HB2 := Lib.hid (HB1.out.below hb2'); clear hh2)
              | ((with_reducible refine (swap_at g N c B L i m _ _ (by clear hw1 hw2 hw3; have := HP1.out; have := HP2.out; have := HI.out; omega) (by clear hw1 hw2 hw3; have := HP1.out; have := HP2.out; have := HI.out; omega) w2 (HH2.out.own HNl.out) HNl.out (by clear hw1 hw2 hw3; have := HP1.out; have := HP2.out; have := HI.out; omega) (by clear hw1 hw2 hw3; have := HP1.out; have := HP2.out; have := HI.out; omega)).mono ?_); rintro e w3 ⟨⟨v3, rfl⟩, ho3, hg3⟩))
            go_roundg k
            case measure => clear hw1 hw2 hw3; omega
            case rel =>
              refine ⟨m, swapP L i m, by congr 1 <;> (clear hw1 hw2 hw3; have := HP1.out; have := HP2.out; omega), Lib.hid ⟨by rw [swapP_len, HNl.out], ?_, HH2.out.swapped hg3 ho3 (by rw [swapP_len, HNl.out]), ?_⟩, by clear hw1 hw2 hw3; omega, by clear hw1 hw2 hw3; omega⟩
              · have h1 := HR.out.2.1
                rw [HD.out, HLS.out, if_pos rfl] at h1
                exact h1
              · exact HB2.out.grown hg3
      · have hpn' : ¬ (2 * (i : Int) + 1 + 1 < (n : Int)) := by clear hw1 hw2 hw3; have := HP2.out; omega
        obtain rfl : m = p1 := by have := HM.out; rw [if_neg (fun h => hpn h.1)] at this; exact this
        cases hls : lessP L m i with
        | false =>
          have HLS := Lib.hid hls
          go_wp2_with (first
            | ((with_reducible refine (less_at g N c B L m i _ _ (by clear hw1 hw2 hw3; have := HP1.out; have := HP2.out; have := HI.out; omega) (by clear hw1 hw2 hw3; have := HP1.out; have := HP2.out; have := HI.out; omega) wr (HH.out.own HNl.out) HNl.out (by clear hw1 hw2 hw3; have := HP1.out; have := HP2.out; have := HI.out; omega) (by clear hw1 hw2 hw3; have := HP1.out; have := HP2.out; have := HI.out; omega)).mono ?_); rintro e w2 ⟨rfl, hb2'⟩; have hh2 := HH.out.below hb2'; have hc2 := hh2.1.cell; have HH2 := Lib.hid hh2; have HB2 := Lib.hid (HR.out.2.2.2.below hb2'); clear hh2))
          go_ret
          have h1 := HR.out.2.1
          rw [HD.out, HLS.out, if_neg (by decide)] at h1
          exact ⟨⟨_, rfl⟩, by rw [← h1]; exact HH2.out, HB2.out⟩
        | true =>
          have HLS := Lib.hid hls
          go_wp2_with (first
            | ((with_reducible refine (less_at g N c B L m i _ _ (by clear hw1 hw2 hw3; have := HP1.out; have := HP2.out; have := HI.out; omega) (by clear hw1 hw2 hw3; have := HP1.out; have := HP2.out; have := HI.out; omega) wr (HH.out.own HNl.out) HNl.out (by clear hw1 hw2 hw3; have := HP1.out; have := HP2.out; have := HI.out; omega) (by clear hw1 hw2 hw3; have := HP1.out; have := HP2.out; have := HI.out; omega)).mono ?_); rintro e w2 ⟨rfl, hb2'⟩; have hh2 := HH.out.below hb2'; have hc2 := hh2.1.cell; have HH2 := Lib.hid hh2; have HB2 := Lib.hid (HR.out.2.2.2.below hb2'); clear hh2)
            | ((with_reducible refine (swap_at g N c B L i m _ _ (by clear hw1 hw2 hw3; have := HP1.out; have := HP2.out; have := HI.out; omega) (by clear hw1 hw2 hw3; have := HP1.out; have := HP2.out; have := HI.out; omega) w2 (HH2.out.own HNl.out) HNl.out (by clear hw1 hw2 hw3; have := HP1.out; have := HP2.out; have := HI.out; omega) (by clear hw1 hw2 hw3; have := HP1.out; have := HP2.out; have := HI.out; omega)).mono ?_); rintro e w3 ⟨⟨v3, rfl⟩, ho3, hg3⟩))
          go_roundg k
          case measure => clear hw1 hw2 hw3; omega
          case rel =>
            refine ⟨m, swapP L i m, by congr 1 <;> (clear hw1 hw2 hw3; have := HP1.out; have := HP2.out; omega), Lib.hid ⟨by rw [swapP_len, HNl.out], ?_, HH2.out.swapped hg3 ho3 (by rw [swapP_len, HNl.out]), ?_⟩, by clear hw1 hw2 hw3; omega, by clear hw1 hw2 hw3; omega⟩
            · have h1 := HR.out.2.1
              rw [HD.out, HLS.out, if_pos rfl] at h1
              exact h1
            · exact HB2.out.grown hg3
end Go.Proofs.Ytpakkjkjppibnaa
