/- Heat: Round in both texts; the law HeatRounds. -/
import Derived.Test.YtnaoanmkepcinaaHSame
import Derived.Test.YtnaoanmkepcinaaHSane
namespace Go.Proofs.Ytnaoanmkepcinaa
open Go.RowKit

/-- a ratio that Round takes -/
def okR (x : Int × Int) : Bool := inB (-1000000000000000000) x.1 1000000000000000000 && inB 1 x.2 1000000000000000000
/-- the nearest whole number -/
def rq (n d : Int) : Int :=
  if n.tmod d < 0 then (if n.tmod d + d ≥ d - (n.tmod d + d) then n.tdiv d else n.tdiv d - 1)
  else (if n.tmod d ≥ d - n.tmod d then n.tdiv d + 1 else n.tdiv d)
theorem rq_eq (n d : Int) : rq n d = if n.tmod d < 0 then (if n.tmod d + d ≥ d - (n.tmod d + d) then n.tdiv d else n.tdiv d - 1)
  else (if n.tmod d ≥ d - n.tmod d then n.tdiv d + 1 else n.tdiv d) := rfl
def rqs (l : List (Int × Int)) : List Int := l.map fun x => rq x.1 x.2
def rndE (l : List (Int × Int)) : Int := if inB 1 l.length 5 && l.all okR then (if allB (rqs l) 0 1000 then 0 else 62) else 2
def rndL (l : List (Int × Int)) : List Int := if rndE l = 0 then rqs l else []
theorem okR_bd {x : Int × Int} (h : okR x = true) : (-1000000000000000000 ≤ x.1 ∧ x.1 ≤ 1000000000000000000) ∧ 1 ≤ x.2 ∧ x.2 ≤ 1000000000000000000 := by
  unfold okR at h
  rw [Bool.and_eq_true, inB_iff, inB_iff] at h
  exact h
theorem rq_bd {n d : Int} (hn : -1000000000000000000 ≤ n ∧ n ≤ 1000000000000000000) (hd : 1 ≤ d ∧ d ≤ 1000000000000000000) :
    (-1000000000000000000 ≤ n.tdiv d ∧ n.tdiv d ≤ 1000000000000000000) ∧ -d < n.tmod d ∧ n.tmod d < d := by
  have h1 := Int.natAbs_tdiv_le_natAbs n d
  have h2 := Int.natAbs_tmod n d
  have h3 : n.natAbs % d.natAbs < d.natAbs := Nat.mod_lt _ (by omega)
  omega
theorem rqs_succ (l : List (Int × Int)) (k : Nat) (x : Int × Int) (h : l[k]? = some x) : rqs (l.take (k + 1)) = rqs (l.take k) ++ [rq x.1 x.2] := by
  unfold rqs; rw [take_snoc h, List.map_append]; rfl

set_option maxRecDepth 100000 in
theorem roundC (l : List (Int × Int)) (w : World) : PredP 69 #[] l (fun j => !okR (l.getD j (0, 0))) w := fun W j x hx hb => by
  have hj := (List.getElem?_eq_some_iff.1 hx).1
  obtain rfl : l.getD j (0, 0) = x := by rw [List.getD_eq_getElem?_getD, hx]; rfl
  show Calls Try.prog 69 #[.agg #[.int .i64 (l.getD j (0, 0)).1, .int .i64 (l.getD j (0, 0)).2]] W fun e w' => e = .returned (.bool (!okR (l.getD j (0, 0)))) ∧ Below W.heap.size W w'
  generalize l.getD j (0, 0) = y
  obtain ⟨n, d⟩ := y
  have HE : Hid ((!okR (n, d)) = (!inB (-1000000000000000000) n 1000000000000000000 || !inB 1 d 1000000000000000000)) := Lib.hid (by unfold okR; cases inB (-1000000000000000000) n 1000000000000000000 <;> rfl)
  show Calls Try.prog 69 #[.agg #[.int .i64 n, .int .i64 d]] W fun e w' => e = .returned (.bool (!okR (n, d))) ∧ Below W.heap.size W w'
  have HB := Lib.hid (fun W' => between_any (-1000000000000000000) n 1000000000000000000 W')
  have HB2 := Lib.hid (fun W' => between_any 1 d 1000000000000000000 W')
  generalize (!okR (n, d)) = t at *
  clear hx hb hj
  cases h1 : inB (-1000000000000000000) n 1000000000000000000 with
  | false =>
    rw [h1] at HB HE
    go_enter Try.func69, Try.ntmps69
    go_wp2_with (first | (go_at_call 53; (with_reducible refine (HB.out _).mono ?_); rintro e w' ⟨rfl, rfl⟩))
    go_ret
    exact ⟨by rw [HE.out]; rfl, (Below.refl _ _).alloc (Nat.le_refl _) _⟩
  | true =>
    rw [h1] at HB HE
    go_enter Try.func69, Try.ntmps69
    go_wp2_with (first | (go_at_call 53; (with_reducible refine (HB.out _).mono ?_); rintro e w' ⟨rfl, rfl⟩) | (go_at_call 53; (with_reducible refine (HB2.out _).mono ?_); rintro e w' ⟨rfl, rfl⟩))
    go_ret
    exact ⟨by rw [HE.out]; rfl, (Below.refl _ _).alloc (Nat.le_refl _) _⟩

theorem any_not_okR (l : List (Int × Int)) : (List.range l.length).any (fun j => !okR (l.getD j (0, 0))) = !l.all okR := by
  rw [Bool.eq_iff_iff]
  simp only [List.any_eq_true, List.mem_range, Bool.not_eq_true', List.all_eq_false]
  constructor
  · rintro ⟨j, hj, h⟩
    exact ⟨l.getD j (0, 0), by rw [List.getD_eq_getElem?_getD, List.getElem?_eq_getElem hj]; exact List.getElem_mem hj, by rw [h]; decide⟩
  · rintro ⟨x, hx, h⟩
    obtain ⟨j, hj, rfl⟩ := List.mem_iff_getElem.1 hx
    refine ⟨j, hj, ?_⟩
    rw [List.getD_eq_getElem?_getD, List.getElem?_eq_getElem hj]
    simpa using h

set_option maxRecDepth 100000 in
set_option maxHeartbeats 1000000 in
/-- the program's Round -/
theorem Round_any (v : Value) (l : List (Int × Int)) (w : World) (hv : RdP w v l) (hl : l.length ≤ 20) :
    Calls Try.prog 28 #[v] w fun e w' => ∃ u, e = .returned (.tuple #[u, .int .i64 (rndE l)]) ∧ w'.ownsRow w.heap.size 3 1 u (rndL l).length (ints (rndL l)) ∧ Below w.heap.size w w' := by
  have eg : ∀ args w, (callFunc 69 args).run Try.prog w = .ok (.enter 69 args) w := enters_of Try.func69 (by kernel_rfl) rfl
  have HC := Lib.hid (has_rat _ 69 #[] eg l v w (roundC l w) hv (by omega) (!l.all okR) (any_not_okR l))
  have HBT := Lib.hid (fun W => between_any 1 (l.length : Nat) 5 W)
  have HE : Hid (rndE l = if inB 1 l.length 5 && l.all okR then (if allB (rqs l) 0 1000 then 0 else 62) else 2) := Lib.hid rfl
  have HL : Hid (rndL l = if rndE l = 0 then rqs l else []) := Lib.hid rfl
  obtain ⟨a, cap, rfl, hc, hcm, ha, _⟩ := hv
  generalize rndE l = E at *
  cases h1 : inB 1 l.length 5 with
  | false =>
    rw [h1] at HBT HE
    simp only [Bool.false_and, Bool.false_eq_true, if_false] at HE
    obtain rfl := HE.out
    rw [if_neg (by decide)] at HL
    rw [HL.out]
    clear ha h1
    go_enter Try.func28, Try.ntmps28
    go_wp2_with (first | (go_at_call 53; refine (HBT.out _).mono ?_; rintro e w' ⟨rfl, rfl⟩))
    go_ret2
    exact ⟨_, rfl, World.ownsRow_nil _ _ _ _, Below.refl _ _⟩
  | true =>
    rw [h1] at HBT HE
    cases h2 : l.all okR with
    | false =>
      rw [h2] at HC HE
      simp only [Bool.true_and, Bool.false_eq_true, if_false] at HE
      obtain rfl := HE.out
      rw [if_neg (by decide)] at HL
      rw [HL.out]
      clear ha h1 h2
      go_enter Try.func28, Try.ntmps28
      go_wp2_with (first | (go_at_call 53; refine (HBT.out _).mono ?_; rintro e w' ⟨rfl, rfl⟩) | (go_at_call 68; refine HC.out.mono ?_; rintro e w1 ⟨rfl, hb1⟩))
      go_ret2
      exact ⟨_, rfl, World.ownsRow_nil _ _ _ _, hb1⟩
    | true =>
      rw [h2] at HC HE
      simp only [Bool.true_and, if_true] at HE
      have HOK : Hid (∀ x ∈ l, okR x = true) := Lib.hid (List.all_eq_true.1 h2)
      have HQ0 : Hid (rqs (l.take 0) = []) := Lib.hid rfl
      have HQL : Hid (∀ j, (rqs (l.take j)).length = min j l.length) := Lib.hid fun j => by simp [rqs]
      clear h1 h2
      go_enter Try.func28, Try.ntmps28
      go_wp2_with (first | (go_at_call 53; refine (HBT.out _).mono ?_; rintro e w' ⟨rfl, rfl⟩) | (go_at_call 68; refine HC.out.mono ?_; rintro e w1 ⟨rfl, hb1⟩))
      go_loopw [4, 19] (fun o i wr => ∃ k : Nat, k ≤ l.length ∧ i = .int .i64 k ∧ wr.ownsRow w.heap.size 3 1 o k (ints (rqs (l.take k))) ∧ Below w.heap.size w wr) (fun _ i _ => l.length - (intOf i).toNat)
      case atStart => exact ⟨0, Nat.zero_le _, rfl, World.ownsRow_nil _ _ _ _, hb1⟩
      case round =>
        obtain ⟨k, hk, rfl, hown, hbel⟩ := hrel
        by_cases hlt : k < l.length
        · obtain ⟨x, hx⟩ : ∃ x, l[k]? = some x := ⟨_, List.getElem?_eq_getElem hlt⟩
          obtain ⟨b, off, rfl, c1, c2⟩ := RdP.cell (ha.below hbel (Nat.le_refl _)) hx
          obtain ⟨⟨bn1, bn2⟩, bd1, bd2⟩ := okR_bd (HOK.out x (List.mem_of_getElem? hx))
          have HS := Lib.hid (rqs_succ l k x hx)
          obtain ⟨n, d⟩ := x
          obtain ⟨⟨bq1, bq2⟩, bt1, bt2⟩ := rq_bd ⟨bn1, bn2⟩ ⟨bd1, bd2⟩
          have HRQ := Lib.hid (rq_eq n d)
          have hd0 : (d == 0) = false := by simp; omega
          clear ha hx
          have HB1 := Lib.hid (fun q => bel_drewN (hbel.alloc hbel.size (.cells #[.int .i64 n, .int .i64 d] 69)) q)
          have HO1 := Lib.hid (fun q => own_drewN (hown.alloc (.cells #[.int .i64 n, .int .i64 d] 69)) q)
          have HZ : Hid (∀ q, ((wr.alloc (.cells #[.int .i64 n, .int .i64 d] 69)).drewN q).heap.size = wr.heap.size + 1) := Lib.hid fun q => by show (wr.alloc (.cells #[.int .i64 n, .int .i64 d] 69)).heap.size = _; simp
          by_cases hneg : n.tmod d < 0
          · rw [if_pos hneg] at HRQ
            by_cases hge : n.tmod d + d ≥ d - (n.tmod d + d)
            · rw [if_pos hge] at HRQ
              go_wp2_with fail
              go_quiet (fail)
              go_wp2_with fail
              go_quiet (fail)
              go_wp2_with (at_builtin; refine app1 el_int rfl rfl (w0 := w) rfl (Eq.trans (b := .slice (some ⟨wr.heap.size + 1, 0, none⟩) 1 1) rfl (by rw [HZ.out])) (by exact HB1.out _) (by exact HO1.out _) rfl (by omega) ?_; intro v3 w3 ho3 hb3 hg3)
              go_roundw
              case rel => exact ⟨k + 1, by omega, by go_num, by rw [HS.out, HRQ.out, ints_append]; exact ho3, hb3⟩
              case measure => simp [intOf]; omega
            · rw [if_neg hge] at HRQ
              go_wp2_with fail
              go_quiet (fail)
              go_wp2_with fail
              go_quiet (fail)
              go_wp2_with (at_builtin; refine app1 el_int rfl rfl (w0 := w) rfl (Eq.trans (b := .slice (some ⟨wr.heap.size + 1, 0, none⟩) 1 1) rfl (by rw [HZ.out])) (by exact HB1.out _) (by exact HO1.out _) rfl (by omega) ?_; intro v3 w3 ho3 hb3 hg3)
              go_roundw
              case rel => exact ⟨k + 1, by omega, by go_num, by rw [HS.out, HRQ.out, ints_append]; exact ho3, hb3⟩
              case measure => simp [intOf]; omega
          · rw [if_neg hneg] at HRQ
            by_cases hge : n.tmod d ≥ d - n.tmod d
            · rw [if_pos hge] at HRQ
              go_wp2_with fail
              go_quiet (fail)
              go_wp2_with (at_builtin; refine app1 el_int rfl rfl (w0 := w) rfl (Eq.trans (b := .slice (some ⟨wr.heap.size + 1, 0, none⟩) 1 1) rfl (by rw [HZ.out])) (by exact HB1.out _) (by exact HO1.out _) rfl (by omega) ?_; intro v3 w3 ho3 hb3 hg3)
              go_roundw
              case rel => exact ⟨k + 1, by omega, by go_num, by rw [HS.out, HRQ.out, ints_append]; exact ho3, hb3⟩
              case measure => simp [intOf]; omega
            · rw [if_neg hge] at HRQ
              go_wp2_with fail
              go_quiet (fail)
              go_wp2_with (at_builtin; refine app1 el_int rfl rfl (w0 := w) rfl (Eq.trans (b := .slice (some ⟨wr.heap.size + 1, 0, none⟩) 1 1) rfl (by rw [HZ.out])) (by exact HB1.out _) (by exact HO1.out _) rfl (by omega) ?_; intro v3 w3 ho3 hb3 hg3)
              go_roundw
              case rel => exact ⟨k + 1, by omega, by go_num, by rw [HS.out, HRQ.out, ints_append]; exact ho3, hb3⟩
              case measure => simp [intOf]; omega
        · obtain rfl : k = l.length := by omega
          have HT : Hid (rqs (l.take l.length) = rqs l) := Lib.hid (by rw [List.take_length])
          have HLN : Hid ((rqs l).length = l.length) := Lib.hid (by simp [rqs])
          rw [HT.out] at hown
          have HA := Lib.hid (all_any _ (rqs l) 0 1000 wr (Rd.own hown) (by rw [HLN.out]; omega))
          clear HQL HQ0 ha
          cases h3 : allB (rqs l) 0 1000 with
          | false =>
            rw [h3] at HA HE
            rw [if_neg (by decide)] at HE
            obtain rfl := HE.out
            rw [if_neg (by decide)] at HL
            clear h3
            go_wp2_with (first | (go_at_call 70; refine HA.out.mono ?_; rintro e w4 ⟨rfl, hb4⟩))
            go_ret2
            exact ⟨_, rfl, by rw [HL.out]; exact World.ownsRow_nil _ _ _ _, hbel.trans (hb4.mono hbel.size)⟩
          | true =>
            rw [h3] at HA HE
            rw [if_pos rfl] at HE
            obtain rfl := HE.out
            rw [if_pos rfl] at HL
            clear h3
            go_wp2_with (first | (go_at_call 70; refine HA.out.mono ?_; rintro e w4 ⟨rfl, hb4⟩))
            go_ret2
            exact ⟨_, rfl, by rw [HL.out, HLN.out]; exact own_below hown hb4, hbel.trans (hb4.mono hbel.size)⟩

end Go.Proofs.Ytnaoanmkepcinaa
