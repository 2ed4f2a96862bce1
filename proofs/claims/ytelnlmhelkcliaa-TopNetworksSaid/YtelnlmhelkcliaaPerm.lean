/- Whether a list is a permutation, in both texts. -/
import Derived.Test.YtelnlmhelkcliaaPermPlain
import Derived.Test.YtelnlmhelkcliaaSizes
namespace Go.Proofs.Ytelnlmhelkcliaa
open Go.RowKit

theorem el_bool : ElemOk Try.prog 22 4 (.bool false) 1 :=
  ⟨by kernel_rfl, info_parts (by kernel_rfl), rfl, by decide⟩

/-- whether a list is a permutation of a network's ports -/
def permB (p : List Int) : Bool := szB p.length && decide (PermP p)

set_option maxHeartbeats 400000 in
theorem isPerm_any (p : List Int) (v : Value) (w : World) (hv : Rd w v (ints p)) :
    Calls Try.prog 30 #[v] w fun e w' => e = .returned (.bool (permB p)) ∧ Below w.heap.size w w' := by
  obtain ⟨a, cap, rfl, hc, hcm, ha, _⟩ := hv
  rw [ints_length] at *
  cases hz : szB p.length with
  | false =>
    have hP : permB p = false := by simp [permB, hz]
    rw [hP]
    have HZ := Lib.hid hz
    clear hz hP
    go_enter Try.func30, Try.ntmps30
    go_wp2_with (go_at_call 53; refine (isSize_any _ _).mono ?_; rw [HZ.out]; rintro e w' ⟨rfl, rfl⟩)
    go_ret
    exact ⟨rfl, Below.refl _ _⟩
  | true =>
    have hP : permB p = decide (PermP p) := by simp [permB, hz]
    rw [hP]
    obtain ⟨k0, hk0, hn0⟩ := (szB_iff p.length).1 hz
    have hle := pw_le k0 hk0
    have hlen : p.length ≤ 16 := by omega
    have HZ := Lib.hid hz
    clear hz hP hn0
    generalize hn : p.length = n at *
    have HN := Lib.hid hn
    clear hn
    go_enter Try.func30, Try.ntmps30
    go_wp2_with (first
      | (go_at_call 53; refine (isSize_any _ _).mono ?_; rw [HZ.out]; rintro e w' ⟨rfl, rfl⟩)
      | (at_make; refine mkS el_bool rfl rfl (n := n) rfl rfl rfl (by omega) ?_; intro w1 hown1 hbel1))
    go_loopw [4] (fun i wr => ∃ k : Nat, k ≤ n ∧ i = .int .i64 k ∧ Hid ((∀ x ∈ p.take k, 0 ≤ x ∧ x < n) ∧ (p.take k).Nodup) ∧ wr.ownsRow w.heap.size 4 1 (.slice (some ⟨w.heap.size, 0, none⟩) n n) n (bools (seenL (p.take k) n)) ∧ Below w.heap.size w wr) (fun i _ => n - (intOf i).toNat)
    case atStart => exact ⟨0, Nat.zero_le _, rfl, Lib.hid ⟨by simp, by simp⟩, by rw [List.take_zero, seenL_nil]; simpa [bools] using hown1, hbel1⟩
    case round =>
      obtain ⟨k, hk, rfl, HT, hown, hbel⟩ := hrel
      by_cases hlt : k < n
      · have hlt' : k < p.length := by have := HN.out; omega
        obtain ⟨b, off, rfl, hcell⟩ := (ha.below hbel (Nat.le_refl _)).cell (j := k) (by rw [ints_length]; exact hlt')
        obtain ⟨x, hx⟩ : ∃ x, p[k]? = some x := ⟨_, List.getElem?_eq_getElem hlt'⟩
        have c1 := hcell k _ (ints_get hx)
        have hmem : x ∈ p := List.mem_of_getElem? hx
        have HX := Lib.hid hx
        clear hcell ha
        by_cases hr : 0 ≤ x ∧ x < n
        · obtain ⟨y, rfl⟩ := Int.eq_ofNat_of_zero_le hr.1
          have hy : y < n := by omega
          by_cases hm : (y : Int) ∈ p.take k
          · have c2 : wr.cell? ⟨w.heap.size, y, none⟩ = some (.bool true) := by
              rw [hown.cellAt y (by omega), bools_get (seenL_get hy)]; simp [hm]
            have hf : decide (PermP p) = false := by
              rw [decide_eq_false_iff_not]
              intro h
              have h2 : (p.take (k + 1)).Nodup := permP_take h _
              rw [List.take_add_one, hx, List.nodup_append] at h2
              exact h2.2.2 _ hm _ (by simp) rfl
            have HF := Lib.hid hf
            clear hf hm hx hmem hr
            go_wp2_with fail
            go_ret
            exact ⟨by rw [HF.out]; rfl, hbel⟩
          · have c2 : wr.cell? ⟨w.heap.size, y, none⟩ = some (.bool false) := by
              rw [hown.cellAt y (by omega), bools_get (seenL_get hy)]; simp [hm]
            have c3 : wr.frozen? ⟨w.heap.size, y, none⟩ = false := hown.frozenAt y
            have HT2 : Hid ((∀ x ∈ p.take (k + 1), 0 ≤ x ∧ x < n) ∧ (p.take (k + 1)).Nodup) := Lib.hid (by
              rw [List.take_add_one, hx]
              refine ⟨fun x hxm => ?_, ?_⟩
              · rcases List.mem_append.1 hxm with h | h
                · exact HT.out.1 x h
                · simp at h; rw [h]; exact hr
              · rw [List.nodup_append]
                refine ⟨HT.out.2, by simp, fun a ha b hb hab => ?_⟩
                simp at hb
                exact hm (by rw [← hb, ← hab]; exact ha))
            have HS : Hid ((bools (seenL (p.take k) n)).set y (.bool true) = bools (seenL (p.take (k + 1)) n)) := Lib.hid (by
              rw [List.take_add_one, hx]
              show _ = bools (seenL (p.take k ++ [(y : Int)]) n)
              rw [← seenL_set _ _ _ hy]; simp [bools])
            have HST := Lib.hid (hown.stored y (.bool true)).1
            clear hm hx hmem hr
            go_wp2_with fail
            go_roundw
            case rel => exact ⟨k + 1, by omega, by go_num, HT2, by rw [← HS.out]; exact HST.out, hbel.setCell (p := ⟨w.heap.size, y, none⟩) (Nat.le_refl _) _⟩
            case measure => simp [intOf]; omega
        · have hf : decide (PermP p) = false := by
            rw [decide_eq_false_iff_not]
            intro h
            have := h.1 x hmem
            rw [HN.out] at this
            exact hr this
          have HF := Lib.hid hf
          have hx2 : x < 0 ∨ 0 ≤ x ∧ n ≤ x := by omega
          clear hf hmem hx hr
          rcases hx2 with hx2 | ⟨hx1, hx2⟩
          all_goals
            go_wp2_with fail
            go_ret
            exact ⟨by rw [HF.out]; rfl, hbel⟩
      · have hkn : k = n := by omega
        have hp : decide (PermP p) = true := by
          have h1 := HT.out
          rw [hkn, ← HN.out, List.take_length] at h1
          exact decide_eq_true h1
        have HP := Lib.hid hp
        clear hp hkn
        go_wp2_with fail
        go_ret
        exact ⟨by rw [HP.out]; rfl, hbel⟩

end Go.Proofs.Ytelnlmhelkcliaa
