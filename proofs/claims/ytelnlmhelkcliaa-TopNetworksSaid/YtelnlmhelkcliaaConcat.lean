/- slices.Concat, Grow, Clone at []bool; joined. -/
import Derived.Test.YtelnlmhelkcliaaPerm
import Derived.Test.YtelnlmhelkcliaaSplit
namespace Go.Proofs.Ytelnlmhelkcliaa
open Go.RowKit

theorem grow_any (n : Nat) (w : World) (h0 : 0 < n) (hn : n ≤ 4000000) :
    Calls Try.prog 85 #[.slice none 0 0, .int .i64 (n : Int)] w fun e w' => ∃ v, e = .returned v ∧ w'.ownsRow w.heap.size 4 1 v 0 [] ∧ Below w.heap.size w w' := by
  go_enter Try.func85, Try.ntmps85
  go_wp2_with (at_builtin; refine app0 el_bool Try.underlying3 rfl rfl rfl rfl h0 hn ?_; intro cap w1 hcap ho1 hb1)
  go_ret
  exact ⟨_, rfl, own_pre ho1 0 (Nat.zero_le _), hb1⟩

theorem cloneB_any (v : Value) (S : List Bool) (w : World) (hv : Rd w v (bools S)) (hs : S.length ≤ 1000) (h0 : 0 < S.length) :
    Calls Try.prog 64 #[v] w fun e w' => ∃ u, e = .returned u ∧ w'.ownsRow w.heap.size 4 1 u S.length (bools S) ∧ Below w.heap.size w w' := by
  have HV := Lib.hid hv
  obtain ⟨a, cap, rfl, hc, hcm, ha, _⟩ := hv
  rw [bools_length] at *
  obtain ⟨b, off, rfl, _⟩ := ha.cell (j := 0) (by rw [bools_length]; exact h0)
  have hq := fun n c => Lib.run_eql_slice_nil (P := Try.prog) w 22 4 (some ⟨b, off, none⟩) n c 0 0 Try.underlying22
  go_enter Try.func64, Try.ntmps64
  go_wp2_with (at_builtin; refine appS el_bool rfl rfl (w0 := w) rfl rfl (by exact (Below.refl _ _).alloc (Nat.le_refl _) _) (by exact own_lit w w.heap.size _ _ 0 (Nat.le_refl _) rfl (by decide)) (by exact HV.out.below ((Below.refl _ _).alloc (Nat.le_refl _) _) (Nat.le_refl _)) (by exact bools_cell S) (by rw [bools_length]; omega) ?_; intro v1 w1 ho1 hb1 _)
  go_ret
  rw [bools_length, Nat.zero_add] at ho1
  exact ⟨_, rfl, ho1, hb1⟩

theorem take_snoc' {α : Type} {l : List α} {k : Nat} {x : α} (h : l[k]? = some x) : l.take (k + 1) = l.take k ++ [x] := by
  rw [List.take_add_one, h]; rfl

/-- Slices that read as lists. -/
def Rds (w : World) (vs : List Value) (Ss : List (List Bool)) : Prop := vs.length = Ss.length ∧ ∀ (j : Nat) (x : Value) (S : List Bool), vs[j]? = some x → Ss[j]? = some S → Rd w x (bools S)
theorem Rds.below {w w' : World} {vs : List Value} {Ss : List (List Bool)} (h : Rds w vs Ss) (hb : Below w.heap.size w w') : Rds w' vs Ss :=
  ⟨h.1, fun j x S hx hS => (h.2 j x S hx hS).below hb (Nat.le_refl _)⟩

/-- the first k lists, one behind the other -/
def flatTo (Ss : List (List Bool)) (k : Nat) : List Bool := (Ss.take k).flatten
theorem flatTo_succ (Ss : List (List Bool)) (k : Nat) (S : List Bool) (h : Ss[k]? = some S) : flatTo Ss (k + 1) = flatTo Ss k ++ S := by
  unfold flatTo
  rw [take_snoc' h, List.flatten_append]; simp
theorem flatTo_le (Ss : List (List Bool)) (k : Nat) : (flatTo Ss k).length ≤ Ss.flatten.length := by
  have : Ss.flatten.length = (flatTo Ss k).length + (Ss.drop k).flatten.length := by
    unfold flatTo
    rw [← List.length_append, ← List.flatten_append, List.take_append_drop]
  omega

set_option maxHeartbeats 400000 in
theorem concat_any (vs : List Value) (Ss : List (List Bool)) (v : Value) (w : World) (hv : Rd w v vs) (hr : Rds w vs Ss) (T : List Bool) (hT : Ss.flatten = T) (h0 : 0 < T.length) (hn : T.length ≤ 1000) (hm : vs.length ≤ 1000) :
    Calls Try.prog 76 #[v] w fun e w' => ∃ u, e = .returned u ∧ w'.ownsRow w.heap.size 4 1 u T.length (bools T) ∧ Below w.heap.size w w' := by
  obtain ⟨a, cap, rfl, hc, hcm, ha, _⟩ := hv
  have HT := Lib.hid hT
  clear hT
  have HLS := Lib.hid hr.1
  have HR := Lib.hid hr
  clear hr
  go_enter Try.func76, Try.ntmps76
  go_wp2_with fail
  go_loop [3, 11] (fun s i => ∃ k : Nat, k ≤ vs.length ∧ i = .int .i64 k ∧ s = .int .i64 ((flatTo Ss k).length : Nat)) (fun _ i => vs.length - (intOf i).toNat)
  case atStart => exact ⟨0, Nat.zero_le _, rfl, rfl⟩
  case round =>
    obtain ⟨k, hk, rfl, rfl⟩ := hrel
    have hfl := flatTo_le Ss k
    rw [HT.out] at hfl
    by_cases hlt : k < vs.length
    · obtain ⟨b, off, rfl, hcell⟩ := ha.cell (j := k) hlt
      have hlt2 : k < Ss.length := by have := HLS.out; omega
      obtain ⟨x, hx⟩ : ∃ x, vs[k]? = some x := ⟨_, List.getElem?_eq_getElem hlt⟩
      obtain ⟨S, hS⟩ : ∃ S, Ss[k]? = some S := ⟨_, List.getElem?_eq_getElem hlt2⟩
      obtain ⟨a1, cap1, rfl, hc1, _⟩ := (HR.out.2 k x S hx hS).parts (n := S.length) (bools_length S)
      have c1 := hcell k _ hx
      have HF := Lib.hid (flatTo_succ Ss k S hS)
      have hfl2 := flatTo_le Ss (k + 1)
      rw [HT.out] at hfl2
      have hs1 : (flatTo Ss (k + 1)).length = (flatTo Ss k).length + S.length := by rw [HF.out, List.length_append]
      have hs2 : (flatTo Ss k).length + S.length ≤ 1000 := by omega
      have HS1 := Lib.hid hs1
      clear hcell hx hS ha hs1 hfl2
      go_wp2_with fail
      go_round
      case rel => exact ⟨k + 1, by omega, by go_num, by rw [HS1.out]; go_num⟩
      case measure => simp [intOf]; omega
    · obtain rfl : k = vs.length := by omega
      have e1 : flatTo Ss vs.length = T := by rw [HLS.out, ← HT.out]; unfold flatTo; rw [List.take_length]
      rw [e1]
      clear e1 hfl hlt hk
      go_wp2_with (go_at_call 85; refine (grow_any _ _ h0 (by omega)).mono ?_; rintro e w1 ⟨g, rfl, hg, hb1⟩)
      go_loopw [6, 27] (fun s i wr => ∃ k : Nat, k ≤ vs.length ∧ i = .int .i64 k ∧ wr.ownsRow w.heap.size 4 1 s (flatTo Ss k).length (bools (flatTo Ss k)) ∧ Below w.heap.size w wr) (fun _ i _ => vs.length - (intOf i).toNat)
      case atStart => exact ⟨0, Nat.zero_le _, rfl, by simpa [flatTo, bools] using hg, hb1⟩
      case round =>
        obtain ⟨k, hk, rfl, hown, hbel⟩ := hrel
        have hfl := flatTo_le Ss k
        rw [HT.out] at hfl
        by_cases hlt : k < vs.length
        · obtain ⟨b, off, rfl, hcell⟩ := (ha.below hbel (Nat.le_refl _)).cell (j := k) hlt
          have hlt2 : k < Ss.length := by have := HLS.out; omega
          obtain ⟨x, hx⟩ : ∃ x, vs[k]? = some x := ⟨_, List.getElem?_eq_getElem hlt⟩
          obtain ⟨S, hS⟩ : ∃ S, Ss[k]? = some S := ⟨_, List.getElem?_eq_getElem hlt2⟩
          have hxr := (HR.out.below hbel).2 k x S hx hS
          have c1 := hcell k _ hx
          have HF := Lib.hid (flatTo_succ Ss k S hS)
          have hfl2 := flatTo_le Ss (k + 1)
          rw [HT.out] at hfl2
          have hs1 : (flatTo Ss (k + 1)).length = (flatTo Ss k).length + S.length := by rw [HF.out, List.length_append]
          have hs2 : (flatTo Ss k).length + S.length ≤ 1000 := by omega
          have HS1 := Lib.hid hs1
          clear hcell hx hS ha hs1 hfl2
          go_wp2_with (at_builtin; refine appS el_bool rfl rfl (w0 := w) rfl rfl (by exact hbel) (by exact hown) (by exact hxr) (by exact bools_cell S) (by rw [bools_length]; omega) ?_; intro v2 w2 ho2 hb2 _)
          go_roundw
          case rel => exact ⟨k + 1, by omega, by go_num, by rw [HS1.out, HF.out, bools_append]; rw [bools_length] at ho2; exact ho2, hb2⟩
          case measure => simp [intOf]; omega
        · obtain rfl : k = vs.length := by omega
          have e1 : flatTo Ss vs.length = T := by rw [HLS.out, ← HT.out]; unfold flatTo; rw [List.take_length]
          rw [e1] at hown
          clear e1 hfl hlt hk
          go_wp2_with fail
          go_ret
          exact ⟨_, rfl, hown, hbel⟩

theorem joined_any (v1 v2 v3 v4 : Value) (S1 S2 S3 S4 : List Bool) (w : World) (h1 : Rd w v1 (bools S1)) (h2 : Rd w v2 (bools S2)) (h3 : Rd w v3 (bools S3)) (h4 : Rd w v4 (bools S4))
    (h0 : 0 < (S1 ++ (S2 ++ (S3 ++ S4))).length) (hn : (S1 ++ (S2 ++ (S3 ++ S4))).length ≤ 1000) :
    Calls Try.prog 65 #[.agg #[v1, v2, v3, v4]] w fun e w' => ∃ u, e = .returned u ∧
      w'.ownsRow w.heap.size 4 1 u (S1 ++ (S2 ++ (S3 ++ S4))).length (bools (S1 ++ (S2 ++ (S3 ++ S4)))) ∧ Below w.heap.size w w' := by
  have hfl : [S1, S2, S3, S4].flatten = S1 ++ (S2 ++ (S3 ++ S4)) := by simp
  have HRS : Hid (Rds w [v1, v2, v3, v4] [S1, S2, S3, S4]) := by
    refine ⟨rfl, fun j x S hx hS => ?_⟩
    match j, hx, hS with
    | 0, hx, hS => simp at hx hS; subst hx hS; exact h1
    | 1, hx, hS => simp at hx hS; subst hx hS; exact h2
    | 2, hx, hS => simp at hx hS; subst hx hS; exact h3
    | 3, hx, hS => simp at hx hS; subst hx hS; exact h4
    | j + 4, hx, _ => simp at hx
  have HFL := Lib.hid hfl
  generalize [S1, S2, S3, S4] = Ss at *
  generalize S1 ++ (S2 ++ (S3 ++ S4)) = T at *
  obtain ⟨a1, n1, c1, rfl⟩ : ∃ a n c, v1 = .slice a n c := by obtain ⟨a, c, rfl, _⟩ := h1; exact ⟨_, _, _, rfl⟩
  obtain ⟨a2, n2, c2, rfl⟩ : ∃ a n c, v2 = .slice a n c := by obtain ⟨a, c, rfl, _⟩ := h2; exact ⟨_, _, _, rfl⟩
  obtain ⟨a3, n3, c3, rfl⟩ : ∃ a n c, v3 = .slice a n c := by obtain ⟨a, c, rfl, _⟩ := h3; exact ⟨_, _, _, rfl⟩
  obtain ⟨a4, n4, c4, rfl⟩ : ∃ a n c, v4 = .slice a n c := by obtain ⟨a, c, rfl, _⟩ := h4; exact ⟨_, _, _, rfl⟩
  clear h1 h2 h3 h4 hfl
  go_enter Try.func65, Try.ntmps65
  go_wp2_with fail
  have hB : ∀ o1 o2, Below w.heap.size w ((w.alloc o1).alloc o2) := fun o1 o2 => ((Below.refl _ _).alloc (Nat.le_refl _) _).alloc (by simp) _
  have hrd : ∀ o1, Rd ((w.alloc o1).alloc (.cells #[.slice a1 n1 c1, .slice a2 n2 c2, .slice a3 n3 c3, .slice a4 n4 c4] 22)) (.slice (some ⟨w.heap.size + 1, 0, none⟩) 4 4) [.slice a1 n1 c1, .slice a2 n2 c2, .slice a3 n3 c3, .slice a4 n4 c4] := fun o1 => by
    have h := Rd.own (own_lit (w.alloc o1) 0 22 #[.slice a1 n1 c1, .slice a2 n2 c2, .slice a3 n3 c3, .slice a4 n4 c4] 4 (Nat.zero_le _) rfl (by decide))
    have e : (w.alloc o1).heap.size = w.heap.size + 1 := by simp
    rw [e] at h
    exact h
  refine (concat_any [.slice a1 n1 c1, .slice a2 n2 c2, .slice a3 n3 c3, .slice a4 n4 c4] Ss _ _ (hrd _) (HRS.out.below (hB _ _)) T HFL.out h0 hn (by simp)).mono ?_
  rintro e w1 ⟨u, rfl, hu, hb1⟩
  go_wp2_with fail
  go_ret
  exact ⟨_, rfl, own_le hu (by simp; omega), (hB _ _).trans (hb1.mono (by simp; omega))⟩

end Go.Proofs.Ytelnlmhelkcliaa
