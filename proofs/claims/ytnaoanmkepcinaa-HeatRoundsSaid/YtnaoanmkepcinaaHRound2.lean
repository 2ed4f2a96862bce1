/- Heat: Round in the document's text. -/
import Derived.Test.YtnaoanmkepcinaaHRound
namespace Go.Proofs.Ytnaoanmkepcinaa
open Go.RowKit

/-- the parts of okR as the document's text asks them -/
theorem okR_parts (x : Int × Int) : okR x = (decide (¬ x.2 < 1) && decide (¬ x.2 > 1000000000000000000) && inB (-1000000000000000000) x.1 1000000000000000000) := by
  rw [Bool.eq_iff_iff]
  unfold okR
  simp only [Bool.and_eq_true, inB_iff, decide_eq_true_eq]
  omega
theorem rndE_bad {l : List (Int × Int)} {x : Int × Int} (hx : x ∈ l) (h : okR x = false) : rndE l = 2 := by
  have : l.all okR = false := by rw [List.all_eq_false]; exact ⟨x, hx, by rw [h]; decide⟩
  unfold rndE; rw [this, Bool.and_false]; rfl
theorem rndE_much {l : List (Int × Int)} {x : Int × Int} (h1 : inB 1 l.length 5 = true) (h2 : ∀ x ∈ l, okR x = true) (hx : x ∈ l) (h : inB 0 (rq x.1 x.2) 1000 = false) : rndE l = 62 := by
  have e1 : l.all okR = true := List.all_eq_true.2 h2
  have e2 : allB (rqs l) 0 1000 = false := by
    unfold allB rqs; rw [List.all_eq_false]; exact ⟨rq x.1 x.2, List.mem_map.2 ⟨x, hx, rfl⟩, by rw [h]; decide⟩
  unfold rndE; rw [h1, e1, e2]; rfl
theorem rndE_ok {l : List (Int × Int)} (h1 : inB 1 l.length 5 = true) (h2 : ∀ x ∈ l, okR x = true) (h3 : ∀ x ∈ l, inB 0 (rq x.1 x.2) 1000 = true) : rndE l = 0 ∧ rndL l = rqs l := by
  have e1 : l.all okR = true := List.all_eq_true.2 h2
  have e2 : allB (rqs l) 0 1000 = true := by
    unfold allB rqs; rw [List.all_eq_true]; intro y hy; obtain ⟨x, hx, rfl⟩ := List.mem_map.1 hy; exact h3 x hx
  have : rndE l = 0 := by unfold rndE; rw [h1, e1, e2]; rfl
  exact ⟨this, by unfold rndL; rw [if_pos this]⟩
theorem take_all {α : Type} {l : List α} {k : Nat} {x : α} {p : α → Prop} (h : ∀ y ∈ l.take k, p y) (hx : l[k]? = some x) (hp : p x) : ∀ y ∈ l.take (k + 1), p y := by
  rw [take_snoc hx]
  intro y hy
  rcases List.mem_append.1 hy with hy | hy
  · exact h y hy
  · simp at hy; subst hy; exact hp

set_option maxRecDepth 100000 in
set_option maxHeartbeats 2000000 in
/-- the document's Round -/
theorem refRound_any (v : Value) (l : List (Int × Int)) (w : World) (hv : RdP w v l) (hl : l.length ≤ 20) :
    Calls Try.prog 29 #[v] w fun e w' => ∃ u, e = .returned (.tuple #[u, .int .i64 (rndE l)]) ∧ w'.ownsRow w.heap.size 3 1 u (rndL l).length (ints (rndL l)) ∧ Below w.heap.size w w' := by
  have HW := Lib.hid (fun n W => within_any (-1000000000000000000) n 1000000000000000000 W)
  have HW2 := Lib.hid (fun n W => within_any 0 n 1000 W)
  have HL0 : Hid (rndE l ≠ 0 → rndL l = []) := Lib.hid fun h => by unfold rndL; rw [if_neg h]
  obtain ⟨a, cap, rfl, hc, hcm, ha, _⟩ := hv
  by_cases hz : l.length < 1
  · have HE : Hid (rndE l = 2) := Lib.hid (by
      have : inB 1 l.length 5 = false := (inB_false _ _ _).2 (by omega)
      unfold rndE; rw [this]; rfl)
    have HL := Lib.hid (HL0.out (by rw [HE.out]; decide))
    clear ha
    go_enter Try.func29, Try.ntmps29
    go_wp2_with fail
    go_ret2
    exact ⟨_, by rw [HE.out]; rfl, by rw [HL.out]; exact World.ownsRow_nil _ _ _ _, Below.refl _ _⟩
  · by_cases hz2 : l.length > 5
    · have HE : Hid (rndE l = 2) := Lib.hid (by
        have : inB 1 l.length 5 = false := (inB_false _ _ _).2 (by omega)
        unfold rndE; rw [this]; rfl)
      have HL := Lib.hid (HL0.out (by rw [HE.out]; decide))
      clear ha
      go_enter Try.func29, Try.ntmps29
      go_wp2_with fail
      go_ret2
      exact ⟨_, by rw [HE.out]; rfl, by rw [HL.out]; exact World.ownsRow_nil _ _ _ _, Below.refl _ _⟩
    · have HI : Hid (inB 1 l.length 5 = true) := Lib.hid ((inB_iff _ _ _).2 (by omega))
      go_enter Try.func29, Try.ntmps29
      go_wp2_with fail
      go_loopw [4] (fun i wr => ∃ k : Nat, k ≤ l.length ∧ i = .int .i64 k ∧ Hid (∀ x ∈ l.take k, okR x = true) ∧ Below w.heap.size w wr) (fun i _ => l.length - (intOf i).toNat)
      case atStart => exact ⟨0, Nat.zero_le _, rfl, Lib.hid (by simp), Below.refl _ _⟩
      case round =>
        obtain ⟨k, hk, rfl, HOK, hbel⟩ := hrel
        by_cases hlt : k < l.length
        · obtain ⟨x, hx⟩ : ∃ x, l[k]? = some x := ⟨_, List.getElem?_eq_getElem hlt⟩
          obtain ⟨b, off, rfl, c1, c2⟩ := RdP.cell (ha.below hbel (Nat.le_refl _)) hx
          have HT := Lib.hid (take_all HOK.out hx)
          have HBD := Lib.hid (fun h => rndE_bad (List.mem_of_getElem? hx) h)
          have HP := Lib.hid (okR_parts x)
          obtain ⟨n, d⟩ := x
          have HN := Lib.hid (HW.out n)
          clear ha hx
          by_cases h1 : d < 1
          · have HE := Lib.hid (HBD.out (by rw [HP.out]; simp [h1]))
            have HL := Lib.hid (HL0.out (by rw [HE.out]; decide))
            go_wp2_with fail
            go_ret2
            exact ⟨_, by rw [HE.out]; rfl, by rw [HL.out]; exact World.ownsRow_nil _ _ _ _, hbel⟩
          · by_cases h2 : d > 1000000000000000000
            · have HE := Lib.hid (HBD.out (by rw [HP.out]; simp [h2]))
              have HL := Lib.hid (HL0.out (by rw [HE.out]; decide))
              go_wp2_with fail
              go_ret2
              exact ⟨_, by rw [HE.out]; rfl, by rw [HL.out]; exact World.ownsRow_nil _ _ _ _, hbel⟩
            · cases h3 : inB (-1000000000000000000) n 1000000000000000000 with
              | false =>
                rw [h3] at HN
                have HE := Lib.hid (HBD.out (by rw [HP.out]; simp [h3]))
                have HL := Lib.hid (HL0.out (by rw [HE.out]; decide))
                clear h3
                go_wp2_with (first | (go_at_call 56; refine (HN.out _).mono ?_; rintro e w' ⟨rfl, rfl⟩))
                go_ret2
                exact ⟨_, by rw [HE.out]; rfl, by rw [HL.out]; exact World.ownsRow_nil _ _ _ _, hbel⟩
              | true =>
                rw [h3] at HN
                have HT2 := Lib.hid (HT.out (by rw [HP.out]; simp [h3, h1, h2]))
                clear h3
                go_wp2_with (first | (go_at_call 56; refine (HN.out _).mono ?_; rintro e w' ⟨rfl, rfl⟩))
                go_roundw
                case rel => exact ⟨k + 1, by omega, by go_num, HT2, hbel⟩
                case measure => simp [intOf]; omega
        · obtain rfl : k = l.length := by omega
          have HOK2 : Hid (∀ x ∈ l, okR x = true) := Lib.hid (by have := HOK.out; rwa [List.take_length] at this)
          clear HOK
          obtain ⟨wo, hwo⟩ : ∃ wo, wo = wr := ⟨_, rfl⟩
          subst hwo
          go_wp2_with fail
          go_loopw [5, 6] (fun o i wr => ∃ k : Nat, k ≤ l.length ∧ i = .int .i64 k ∧ wr.ownsRow w.heap.size 3 1 o k (ints (rqs (l.take k))) ∧ Hid (∀ x ∈ l.take k, inB 0 (rq x.1 x.2) 1000 = true) ∧ Below w.heap.size w wr) (fun _ i _ => l.length - (intOf i).toNat)
          case atStart => exact ⟨0, Nat.zero_le _, rfl, World.ownsRow_nil _ _ _ _, Lib.hid (by simp), hbel⟩
          case round =>
            obtain ⟨k, hk, rfl, hown, HQ, hbel⟩ := hrel
            by_cases hlt : k < l.length
            · obtain ⟨x, hx⟩ : ∃ x, l[k]? = some x := ⟨_, List.getElem?_eq_getElem hlt⟩
              obtain ⟨b, off, rfl, c1, c2⟩ := RdP.cell (ha.below hbel (Nat.le_refl _)) hx
              obtain ⟨⟨bn1, bn2⟩, bd1, bd2⟩ := okR_bd (HOK2.out x (List.mem_of_getElem? hx))
              have HS := Lib.hid (rqs_succ l k x hx)
              have HM := Lib.hid (rndE_much HI.out HOK2.out (List.mem_of_getElem? hx))
              have HT := Lib.hid (take_all (p := fun x => inB 0 (rq x.1 x.2) 1000 = true) HQ.out hx)
              obtain ⟨n, d⟩ := x
              obtain ⟨⟨bq1, bq2⟩, bt1, bt2⟩ := rq_bd ⟨bn1, bn2⟩ ⟨bd1, bd2⟩
              have HRQ := Lib.hid (rq_eq n d)
              have hd0 : (d == 0) = false := by simp; omega
              have HB1 := Lib.hid (fun q => bel_drewN hbel q)
              have HO1 := Lib.hid (fun q => own_drewN hown q)
              have HZ : Hid (∀ q, (wr.drewN q).heap.size = wr.heap.size) := Lib.hid fun q => rfl
              clear ha hx
              by_cases hneg : n.tmod d < 0
              · rw [if_pos hneg] at HRQ
                by_cases hge : n.tmod d + d ≥ d - (n.tmod d + d)
                · rw [if_pos hge] at HRQ
                  have HN := Lib.hid (HW2.out (n.tdiv d))
                  simp only at HM HT
                  rw [HRQ.out] at HM HT
                  cases hq : inB 0 (n.tdiv d) 1000 with
                  | false =>
                    rw [hq] at HN HM HT
                    have HE := Lib.hid (HM.out rfl)
                    have HL := Lib.hid (HL0.out (by rw [HE.out]; decide))
                    clear hq HM HT
                    go_wp2_with fail
                    go_quiet (fail)
                    go_wp2_with fail
                    go_quiet (fail)
                    go_wp2_with fail
                    go_quiet (fail)
                    go_wp2_with (first | (go_at_call 56; refine (HN.out _).mono ?_; rintro e w' ⟨rfl, rfl⟩) | (at_builtin; refine app1 el_int rfl rfl (w0 := w) rfl (Eq.trans (b := .slice (some ⟨wr.heap.size, 0, none⟩) 1 1) rfl (by rw [HZ.out])) (by exact HB1.out _) (by exact HO1.out _) rfl (by omega) ?_; intro v3 w3 ho3 hb3 hg3))
                    go_ret2
                    exact ⟨_, by rw [HE.out]; rfl, by rw [HL.out]; exact World.ownsRow_nil _ _ _ _, HB1.out _⟩
                  | true =>
                    rw [hq] at HN HM HT
                    have HT2 := Lib.hid (HT.out rfl)
                    clear hq HM HT
                    go_wp2_with fail
                    go_quiet (fail)
                    go_wp2_with fail
                    go_quiet (fail)
                    go_wp2_with fail
                    go_quiet (fail)
                    go_wp2_with (first | (go_at_call 56; refine (HN.out _).mono ?_; rintro e w' ⟨rfl, rfl⟩) | (at_builtin; refine app1 el_int rfl rfl (w0 := w) rfl (Eq.trans (b := .slice (some ⟨wr.heap.size, 0, none⟩) 1 1) rfl (by rw [HZ.out])) (by exact HB1.out _) (by exact HO1.out _) rfl (by omega) ?_; intro v3 w3 ho3 hb3 hg3))
                    go_roundw
                    case rel => exact ⟨k + 1, by omega, by go_num, by rw [HS.out, HRQ.out, ints_append]; exact ho3, HT2, hb3⟩
                    case measure => simp [intOf]; omega
                · rw [if_neg hge] at HRQ
                  have HN := Lib.hid (HW2.out (n.tdiv d - 1))
                  simp only at HM HT
                  rw [HRQ.out] at HM HT
                  cases hq : inB 0 (n.tdiv d - 1) 1000 with
                  | false =>
                    rw [hq] at HN HM HT
                    have HE := Lib.hid (HM.out rfl)
                    have HL := Lib.hid (HL0.out (by rw [HE.out]; decide))
                    clear hq HM HT
                    go_wp2_with fail
                    go_quiet (fail)
                    go_wp2_with fail
                    go_quiet (fail)
                    go_wp2_with fail
                    go_quiet (fail)
                    go_wp2_with (first | (go_at_call 56; refine (HN.out _).mono ?_; rintro e w' ⟨rfl, rfl⟩) | (at_builtin; refine app1 el_int rfl rfl (w0 := w) rfl (Eq.trans (b := .slice (some ⟨wr.heap.size, 0, none⟩) 1 1) rfl (by rw [HZ.out])) (by exact HB1.out _) (by exact HO1.out _) rfl (by omega) ?_; intro v3 w3 ho3 hb3 hg3))
                    go_ret2
                    exact ⟨_, by rw [HE.out]; rfl, by rw [HL.out]; exact World.ownsRow_nil _ _ _ _, HB1.out _⟩
                  | true =>
                    rw [hq] at HN HM HT
                    have HT2 := Lib.hid (HT.out rfl)
                    clear hq HM HT
                    go_wp2_with fail
                    go_quiet (fail)
                    go_wp2_with fail
                    go_quiet (fail)
                    go_wp2_with fail
                    go_quiet (fail)
                    go_wp2_with (first | (go_at_call 56; refine (HN.out _).mono ?_; rintro e w' ⟨rfl, rfl⟩) | (at_builtin; refine app1 el_int rfl rfl (w0 := w) rfl (Eq.trans (b := .slice (some ⟨wr.heap.size, 0, none⟩) 1 1) rfl (by rw [HZ.out])) (by exact HB1.out _) (by exact HO1.out _) rfl (by omega) ?_; intro v3 w3 ho3 hb3 hg3))
                    go_roundw
                    case rel => exact ⟨k + 1, by omega, by go_num, by rw [HS.out, HRQ.out, ints_append]; exact ho3, HT2, hb3⟩
                    case measure => simp [intOf]; omega
              · rw [if_neg hneg] at HRQ
                by_cases hge : n.tmod d ≥ d - n.tmod d
                · rw [if_pos hge] at HRQ
                  have HN := Lib.hid (HW2.out (n.tdiv d + 1))
                  simp only at HM HT
                  rw [HRQ.out] at HM HT
                  cases hq : inB 0 (n.tdiv d + 1) 1000 with
                  | false =>
                    rw [hq] at HN HM HT
                    have HE := Lib.hid (HM.out rfl)
                    have HL := Lib.hid (HL0.out (by rw [HE.out]; decide))
                    clear hq HM HT
                    go_wp2_with fail
                    go_quiet (fail)
                    go_wp2_with fail
                    go_quiet (fail)
                    go_wp2_with (first | (go_at_call 56; refine (HN.out _).mono ?_; rintro e w' ⟨rfl, rfl⟩) | (at_builtin; refine app1 el_int rfl rfl (w0 := w) rfl (Eq.trans (b := .slice (some ⟨wr.heap.size, 0, none⟩) 1 1) rfl (by rw [HZ.out])) (by exact HB1.out _) (by exact HO1.out _) rfl (by omega) ?_; intro v3 w3 ho3 hb3 hg3))
                    go_ret2
                    exact ⟨_, by rw [HE.out]; rfl, by rw [HL.out]; exact World.ownsRow_nil _ _ _ _, HB1.out _⟩
                  | true =>
                    rw [hq] at HN HM HT
                    have HT2 := Lib.hid (HT.out rfl)
                    clear hq HM HT
                    go_wp2_with fail
                    go_quiet (fail)
                    go_wp2_with fail
                    go_quiet (fail)
                    go_wp2_with (first | (go_at_call 56; refine (HN.out _).mono ?_; rintro e w' ⟨rfl, rfl⟩) | (at_builtin; refine app1 el_int rfl rfl (w0 := w) rfl (Eq.trans (b := .slice (some ⟨wr.heap.size, 0, none⟩) 1 1) rfl (by rw [HZ.out])) (by exact HB1.out _) (by exact HO1.out _) rfl (by omega) ?_; intro v3 w3 ho3 hb3 hg3))
                    go_roundw
                    case rel => exact ⟨k + 1, by omega, by go_num, by rw [HS.out, HRQ.out, ints_append]; exact ho3, HT2, hb3⟩
                    case measure => simp [intOf]; omega
                · rw [if_neg hge] at HRQ
                  have HN := Lib.hid (HW2.out (n.tdiv d))
                  simp only at HM HT
                  rw [HRQ.out] at HM HT
                  cases hq : inB 0 (n.tdiv d) 1000 with
                  | false =>
                    rw [hq] at HN HM HT
                    have HE := Lib.hid (HM.out rfl)
                    have HL := Lib.hid (HL0.out (by rw [HE.out]; decide))
                    clear hq HM HT
                    go_wp2_with fail
                    go_quiet (fail)
                    go_wp2_with fail
                    go_quiet (fail)
                    go_wp2_with (first | (go_at_call 56; refine (HN.out _).mono ?_; rintro e w' ⟨rfl, rfl⟩) | (at_builtin; refine app1 el_int rfl rfl (w0 := w) rfl (Eq.trans (b := .slice (some ⟨wr.heap.size, 0, none⟩) 1 1) rfl (by rw [HZ.out])) (by exact HB1.out _) (by exact HO1.out _) rfl (by omega) ?_; intro v3 w3 ho3 hb3 hg3))
                    go_ret2
                    exact ⟨_, by rw [HE.out]; rfl, by rw [HL.out]; exact World.ownsRow_nil _ _ _ _, HB1.out _⟩
                  | true =>
                    rw [hq] at HN HM HT
                    have HT2 := Lib.hid (HT.out rfl)
                    clear hq HM HT
                    go_wp2_with fail
                    go_quiet (fail)
                    go_wp2_with fail
                    go_quiet (fail)
                    go_wp2_with (first | (go_at_call 56; refine (HN.out _).mono ?_; rintro e w' ⟨rfl, rfl⟩) | (at_builtin; refine app1 el_int rfl rfl (w0 := w) rfl (Eq.trans (b := .slice (some ⟨wr.heap.size, 0, none⟩) 1 1) rfl (by rw [HZ.out])) (by exact HB1.out _) (by exact HO1.out _) rfl (by omega) ?_; intro v3 w3 ho3 hb3 hg3))
                    go_roundw
                    case rel => exact ⟨k + 1, by omega, by go_num, by rw [HS.out, HRQ.out, ints_append]; exact ho3, HT2, hb3⟩
                    case measure => simp [intOf]; omega
            · obtain rfl : k = l.length := by omega
              have HT : Hid (rqs (l.take l.length) = rqs l) := Lib.hid (by rw [List.take_length])
              have HLN : Hid ((rqs l).length = l.length) := Lib.hid (by simp [rqs])
              rw [HT.out] at hown
              have HK : Hid (rndE l = 0 ∧ rndL l = rqs l) := Lib.hid (rndE_ok HI.out HOK2.out (by have := HQ.out; rwa [List.take_length] at this))
              go_wp2_with fail
              go_ret2
              exact ⟨_, by rw [HK.out.1]; rfl, by rw [HK.out.2, HLN.out]; exact hown, hbel⟩

end Go.Proofs.Ytnaoanmkepcinaa
