/- Heat: Steps, the document's. -/
import Derived.Test.YtnaoanmkepcinaaHStep3
import Derived.BigQuiet
namespace Go.Proofs.Ytnaoanmkepcinaa
open Go.RowKit

section
variable {P : Program} {ops : Array Oper} {rest : List Oper} {o : Oper} {a : Act} {Q : Exit → Act → World → Prop}
/-- 'append(s, x...)' of pairs. -/
theorem appSP {t e : TypeId} {z : Value} {bytes : Nat} (EO : ElemK P t e z 2 bytes) (hgd : o.guard = none) {s x : Operand}
    (ho : o.op = .call { callee := .builtin .append, args := #[s, x], argTypes := #[t, t] })
    {w0 W : World} {v y : Value} {n : Nat} {xs : List Value} {l : List (Int × Int)} (hs : a.eval s = v) (hx : a.eval x = y)
    (hbel : Below w0.heap.size w0 W) (hown : W.ownsRow w0.heap.size e 2 v n xs) (hy : RdP W y l) (hn : n + l.length ≤ 4000000)
    (h : ∀ v' w', w'.ownsRow w0.heap.size e 2 v' (n + l.length) (xs ++ pairs l) → Below w0.heap.size w0 w' → W.grownBy w' v.ownBlock →
      wpList P ops Q rest (a.put o.dst v') w') : wpList P ops Q (o :: rest) a W := by
  obtain ⟨i, hi, hz, hsz, hby⟩ := EO.info
  have hsm := EO.small
  have hB := hbel.size
  have hbytes : (n + l.length) * bytes ≤ 140737488355328 := by
    have : (n + l.length) * bytes ≤ (n + l.length) * 96 := Nat.mul_le_mul_left _ hsm
    omega
  obtain ⟨ay, cap, rfl, hc, hm, hat, hcap⟩ := hy
  cases ay with
  | some ad =>
    refine wpList_append_own _ hgd s x t ho w0.heap.size e i z 2 bytes EO.und hi hz hsz hby EO.zc (by decide) v n xs hs hown ad l.length cap (pairs l) hx (by rw [pairs_length]) ?_ (pairs_cell l) ?_ hbytes hB ?_
    · intro j u hj
      rcases hat with hat | ⟨b, off, hb, hat⟩
      · rw [hat] at hj; simp at hj
      · obtain rfl := Option.some.inj hb
        have := hat j u hj
        rw [show (⟨b, off, none⟩ : Addr).add j = ⟨b, off + j, none⟩ from by unfold Addr.add; split <;> simp_all]
        exact this
    · unfold maxLen; omega
    · intro v' w' ho' hg _
      exact h v' w' ho' (hbel.grown hg hB (fun k e => (hown.lt k e).1)) hg
  | none =>
    have h0 : l = [] := by
      rcases hat with hat | ⟨b, off, hb, _⟩
      · have := pairs_length l
        rw [hat] at this
        exact List.eq_nil_of_length_eq_zero (by simp at this; omega)
      · cases hb
    subst h0
    obtain rfl := hcap rfl
    refine wpList_append_own_none hgd s x t ho w0.heap.size e i 2 EO.und hi v n xs hs hown hx (h v W ?_ hbel ?_)
    · simpa [pairs] using hown
    · exact ⟨rfl, rfl, rfl, Nat.le_refl _, fun _ _ _ => rfl⟩
end

/-- two lists of pairs that begin apart lie in two blocks -/
theorem sepP {w : World} {B B' : Nat} {e e' : TypeId} {v1 v2 : Value} {l1 l2 : List (Int × Int)} (h1 : w.ownsRow B e 2 v1 l1.length (pairs l1)) (h2 : w.ownsRow B' e' 2 v2 l2.length (pairs l2))
    (n1 : l1 = [] → v1 = .slice none 0 0) (n2 : l2 = [] → v2 = .slice none 0 0) (hne : ∀ x ∈ l1, ∀ y ∈ l2, x.1 ≠ y.1) : v1.ownBlock = none ∨ v1.ownBlock ≠ v2.ownBlock := by
  match l1, l2 with
  | [], _ => rw [n1 rfl]; exact .inl rfl
  | x :: l1, [] =>
    rw [n2 rfl]
    cases hv : v1.ownBlock with
    | none => exact .inl rfl
    | some g => exact .inr (by simp [Value.ownBlock])
  | x :: l1, y :: l2 =>
    obtain ⟨g1, c1, rfl, _, _⟩ := own_some h1 (by simp)
    obtain ⟨g2, c2, rfl, _, _⟩ := own_some h2 (by simp)
    refine .inr fun e => ?_
    simp [Value.ownBlock] at e
    subst e
    have e1 := h1.cellAt 0 (by simp)
    have e2 := h2.cellAt 0 (by simp)
    rw [e1] at e2
    have e3 : (pairs (x :: l1))[0]? = some (.int .i64 x.1) := rfl
    have e4 : (pairs (y :: l2))[0]? = some (.int .i64 y.1) := rfl
    rw [e3, e4] at e2
    simp at e2
    exact hne x (by simp) y (by simp) e2

theorem sel_apart (a b : List Int) (k : Nat) : ∀ x ∈ sel lt2 a b k, ∀ y ∈ sel gt2 a b k, x.1 ≠ y.1 := by
  intro x hx y hy e
  unfold sel at hx hy
  obtain ⟨i, _, hi⟩ := List.mem_filterMap.1 hx
  obtain ⟨j, _, hj⟩ := List.mem_filterMap.1 hy
  split at hi
  · split at hj
    · rename_i h1 h2
      simp only [Option.some.injEq] at hi hj
      subst hi hj
      simp only at e
      obtain rfl : i = j := by omega
      simp only [lt2, gt2, decide_eq_true_eq] at h1 h2
      omega
    · cases hj
  · cases hi
theorem st_parts (a b : List Int) (B : Int) : (drv a && drv b && decide (a.length = b.length) && inB 0 B 5000) = (inB 1 a.length 5 && lstB a a.length 0 1000 && lstB b a.length 0 1000 && inB 0 B 5000) := by
  by_cases h : a.length = b.length
  · unfold drv lstB
    rw [← h]
    simp only [decide_true, Bool.true_and, Bool.and_true]
    cases inB 1 a.length 5 <;> cases allB a 0 1000 <;> cases allB b 0 1000 <;> rfl
  · have : lstB b a.length 0 1000 = false := by unfold lstB; rw [decide_eq_false (fun e => h e.symm), Bool.false_and]
    rw [this, decide_eq_false h]
    simp

set_option maxRecDepth 100000 in
set_option maxHeartbeats 4000000 in
theorem refSteps_any (va vb : Value) (a b : List Int) (B : Int) (w : World) (hva : Rd w va (ints a)) (hvb : Rd w vb (ints b)) (hla : a.length ≤ 1000) (hlb : b.length ≤ 1000) :
    Calls Try.prog 43 #[va, vb, .int .i64 B] w fun e w' => ∃ u, e = .returned (.tuple #[u, .int .i64 (stE a b B)]) ∧ w'.ownsRow w.heap.size 36 2 u (stL a b B).length (pairs (stL a b B)) ∧ Below w.heap.size w w' := by
  have HVA := Lib.hid hva
  have HVB := Lib.hid hvb
  have HNO := Lib.hid (fun E => @stL_no a b B E)
  have HW1 := Lib.hid (fun W => within_any 1 (a.length : Nat) 5 W)
  have HIA := Lib.hid (isPowers_any a.length va a w hva (by omega))
  have HIB := Lib.hid (isPowers_any a.length vb b w hvb (by omega))
  have HWB := Lib.hid (fun W => within_any 0 B 5000 W)
  have HPT := Lib.hid (st_parts a b B)
  obtain ⟨aa, capa, rfl, hca, hcma, haa, _⟩ := hva
  obtain ⟨ab, capb, rfl, hcb, hcmb, hab, _⟩ := hvb
  rw [ints_length a] at *
  rw [ints_length b] at *
  by_cases hq : (drv a && drv b && decide (a.length = b.length) && inB 0 B 5000) = true
  · have HE := Lib.hid (stE_ok hq)
    have hq' := hq
    rw [HPT.out] at hq'
    simp only [Bool.and_eq_true] at hq'
    obtain ⟨⟨⟨p1, p2⟩, p3⟩, p4⟩ := hq'
    rw [p1] at HW1
    rw [p2] at HIA
    rw [p3] at HIB
    rw [p4] at HWB
    have hq3 := (lstB_bd p3).1
    obtain ⟨_, d3⟩ := lstB_bd p2
    obtain ⟨_, d6⟩ := lstB_bd p3
    obtain ⟨d1, d2⟩ := (inB_iff _ _ _).1 p1
    have HS1 := Lib.hid (fun W hb => refSum_any _ a W (HVA.out.below (w' := W) (B := w.heap.size) hb (Nat.le_refl _)) (by omega) (fun x hx => by have := d3 x hx; omega))
    have HS2 := Lib.hid (fun W hb => refSum_any _ b W (HVB.out.below (w' := W) (B := w.heap.size) hb (Nat.le_refl _)) (by omega) (fun x hx => by have := d6 x hx; omega))
    have HQ3 := Lib.hid hq3
    rw [hq3] at HVB HS2 hcb HIB ⊢
    clear hq p1 p2 p3 p4 d3 d6 hq3
    by_cases hs1 : a.sum > B
    · rw [if_pos (by omega)] at HE
      have HN := Lib.hid (HNO.out 62 HE.out (by decide))
      generalize a.sum = sa at *
      generalize b.sum = sb at *
      clear haa hab
      go_enter Try.func43, Try.ntmps43
      go_wp2_with (first
        | (go_at_call 56; (with_reducible refine (HW1.out _).mono ?_); rintro e w' ⟨rfl, rfl⟩)
        | (go_at_call 56; (with_reducible refine (HWB.out _).mono ?_); rintro e w' ⟨rfl, rfl⟩)
        | (go_at_call 57; (with_reducible refine HIA.out.mono ?_); rintro e w' ⟨rfl, rfl⟩)
        | (go_at_call 57; (with_reducible refine HIB.out.mono ?_); rintro e w' ⟨rfl, rfl⟩)
        | (go_at_call 58; (with_reducible refine (HS1.out _ (Below.refl _ _)).mono ?_); rintro e w' ⟨rfl, rfl⟩)
        | (go_at_call 58; (with_reducible refine (HS2.out _ (Below.refl _ _)).mono ?_); rintro e w' ⟨rfl, rfl⟩))
      go_ret2
      exact ⟨_, by rw [HE.out]; rfl, by rw [HN.out]; exact World.ownsRow_nil _ _ _ _, Below.refl _ _⟩
    · by_cases hs2 : b.sum > B
      · rw [if_pos (by omega)] at HE
        have HN := Lib.hid (HNO.out 62 HE.out (by decide))
        generalize a.sum = sa at *
        generalize b.sum = sb at *
        clear haa hab
        go_enter Try.func43, Try.ntmps43
        go_wp2_with (first
          | (go_at_call 56; (with_reducible refine (HW1.out _).mono ?_); rintro e w' ⟨rfl, rfl⟩)
          | (go_at_call 56; (with_reducible refine (HWB.out _).mono ?_); rintro e w' ⟨rfl, rfl⟩)
          | (go_at_call 57; (with_reducible refine HIA.out.mono ?_); rintro e w' ⟨rfl, rfl⟩)
          | (go_at_call 57; (with_reducible refine HIB.out.mono ?_); rintro e w' ⟨rfl, rfl⟩)
          | (go_at_call 58; (with_reducible refine (HS1.out _ (Below.refl _ _)).mono ?_); rintro e w' ⟨rfl, rfl⟩)
          | (go_at_call 58; (with_reducible refine (HS2.out _ (Below.refl _ _)).mono ?_); rintro e w' ⟨rfl, rfl⟩))
        go_ret2
        exact ⟨_, by rw [HE.out]; rfl, by rw [HN.out]; exact World.ownsRow_nil _ _ _ _, Below.refl _ _⟩
      · rw [if_neg (by omega)] at HE
        have HLL : Hid (stL a b B = sel lt2 a b a.length ++ sel gt2 a b a.length) := Lib.hid (by unfold stL; rw [if_pos HE.out])
        have HL1 := Lib.hid (sel_len lt2 a b)
        have HL2 := Lib.hid (sel_len gt2 a b)
        have HSH := Lib.hid (fun p k x y (h1 : a[k]? = some x) (h2 : b[k]? = some y) => sel_hit (p := p) h1 h2)
        have HZ : Hid (∀ p, sel p a b 0 = []) := Lib.hid fun p => rfl
        have HAP := Lib.hid (sel_apart a b)
        generalize a.sum = sa at *
        generalize b.sum = sb at *
        clear hlb
        generalize hN : a.length = N at *
        have HN := Lib.hid hN
        clear hN
        go_enter Try.func43, Try.ntmps43
        go_wp2_with (first
          | (go_at_call 56; (with_reducible refine (HW1.out _).mono ?_); rintro e w' ⟨rfl, rfl⟩)
          | (go_at_call 56; (with_reducible refine (HWB.out _).mono ?_); rintro e w' ⟨rfl, rfl⟩)
          | (go_at_call 57; (with_reducible refine HIA.out.mono ?_); rintro e w' ⟨rfl, rfl⟩)
          | (go_at_call 57; (with_reducible refine HIB.out.mono ?_); rintro e w' ⟨rfl, rfl⟩)
          | (go_at_call 58; (with_reducible refine (HS1.out _ (Below.refl _ _)).mono ?_); rintro e w' ⟨rfl, rfl⟩)
          | (go_at_call 58; (with_reducible refine (HS2.out _ (Below.refl _ _)).mono ?_); rintro e w' ⟨rfl, rfl⟩))
        go_loopw [9, 10, 11] (fun o1 o2 i wr => ∃ k : Nat, k ≤ N ∧ i = .int .i64 k ∧ Hid (wr.ownsRow w.heap.size 36 2 o1 (sel lt2 a b k).length (pairs (sel lt2 a b k))) ∧ Hid (wr.ownsRow w.heap.size 36 2 o2 (sel gt2 a b k).length (pairs (sel gt2 a b k))) ∧ Hid (sel lt2 a b k = [] → o1 = .slice none 0 0) ∧ Hid (sel gt2 a b k = [] → o2 = .slice none 0 0) ∧ Below w.heap.size w wr) (fun _ _ i _ => N - (intOf i).toNat)
        case atStart => exact ⟨0, Nat.zero_le _, rfl, Lib.hid (World.ownsRow_nil _ _ _ _), Lib.hid (World.ownsRow_nil _ _ _ _), Lib.hid fun _ => rfl, Lib.hid fun _ => rfl, Below.refl _ _⟩
        case round =>
          obtain ⟨k, hk, rfl, HO1, HO2, HN1, HN2, hbel⟩ := hrel
          by_cases hlt : k < N
          · obtain ⟨b1, o1, rfl, hcell⟩ := haa.cell (j := k) (by rw [ints_length]; have := HN.out; omega)
            obtain ⟨b2, o2, rfl, hcell2⟩ := hab.cell (j := k) (by rw [ints_length]; have := HN.out; have := HQ3.out; omega)
            obtain ⟨x, hx⟩ : ∃ x, a[k]? = some x := ⟨_, List.getElem?_eq_getElem (by have := HN.out; omega)⟩
            obtain ⟨y, hy⟩ : ∃ y, b[k]? = some y := ⟨_, List.getElem?_eq_getElem (by have := HN.out; have := HQ3.out; omega)⟩
            have HC1 := Lib.hid (hcell k _ (ints_get hx))
            have HC2 := Lib.hid (hcell2 k _ (ints_get hy))
            have c1 := cell_below HC1.out hbel
            have c2 := cell_below HC2.out hbel
            have HST1 := Lib.hid (HSH.out lt2 k x y hx hy)
            have HST2 := Lib.hid (HSH.out gt2 k x y hx hy)
            have hl1 := HL1.out k
            have hl2 := HL2.out k
            have HAK := Lib.hid (HAP.out k)
            clear hcell hcell2 hx hy haa hab
            have HB1 := Lib.hid (fun q => bel_drewN hbel q)
            have HA1 := Lib.hid (fun q => own_drewN HO1.out q)
            have HA2 := Lib.hid (fun q => own_drewN HO2.out q)
            have HZ1 : Hid (∀ q, (wr.drewN q).heap.size = wr.heap.size) := Lib.hid fun q => rfl
            have HSP1 := Lib.hid (sepP HO1.out HO2.out HN1.out HN2.out HAK.out)
            have HSP2 := Lib.hid (sepP HO2.out HO1.out HN2.out HN1.out (fun x hx y hy e => HAK.out y hy x hx e.symm))
            by_cases q1 : y < x
            · have q2 : ¬ x < y := by omega
              rw [show lt2 x y = true from decide_eq_true q1, if_pos rfl] at HST1
              rw [show gt2 x y = false from decide_eq_false q2, if_neg (by decide), List.append_nil] at HST2
              go_wp2_with fail
              go_quiet (fail)
              go_wp2_with (first
                | (at_builtin; refine appK el_stp rfl rfl (w0 := w) rfl (Eq.trans (b := .slice (some ⟨wr.heap.size, 0, none⟩) 1 1) rfl (by rw [HZ1.out])) (by exact HB1.out _) (by exact HA1.out _) rfl (by simp [Value.oneCell']) (by omega) ?_; intro v3 w10 ho10 hb10 hg10; have c3 := cell_below HC1.out hb10; have c4 := cell_below HC2.out hb10; have HO2b := Lib.hid (((HA2.out _).alloc _).kept hg10 HSP2.out)))
              go_quiet (fail)
              go_wp2_with fail
              go_roundw
              case rel => exact ⟨k + 1, by omega, by go_num, by rw [HST1.out, pairs_append, List.length_append]; exact Lib.hid (own_drewN ho10 _), by rw [HST2.out]; exact Lib.hid (own_drewN HO2b.out _), Lib.hid fun h => absurd h (by rw [HST1.out]; simp), by rw [HST2.out]; exact HN2, bel_drewN hb10 _⟩
              case measure => simp [intOf]; omega
            · rw [show lt2 x y = false from decide_eq_false q1, if_neg (by decide), List.append_nil] at HST1
              by_cases q2 : x < y
              · rw [show gt2 x y = true from decide_eq_true q2, if_pos rfl] at HST2
                go_wp2_with fail
                go_quiet (fail)
                go_wp2_with fail
                go_quiet (fail)
                go_wp2_with (first
                  | (at_builtin; refine appK el_stp rfl rfl (w0 := w) rfl (Eq.trans (b := .slice (some ⟨wr.heap.size, 0, none⟩) 1 1) rfl (by rw [HZ1.out])) (by exact HB1.out _) (by exact HA2.out _) rfl (by simp [Value.oneCell']) (by omega) ?_; intro v3 w10 ho10 hb10 hg10; have HO1b := Lib.hid (((HA1.out _).alloc _).kept hg10 HSP1.out)))
                go_roundw
                case rel => exact ⟨k + 1, by omega, by go_num, by rw [HST1.out]; exact HO1b, by rw [HST2.out, pairs_append, List.length_append]; exact Lib.hid ho10, by rw [HST1.out]; exact HN1, Lib.hid fun h => absurd h (by rw [HST2.out]; simp), hb10⟩
                case measure => simp [intOf]; omega
              · rw [show gt2 x y = false from decide_eq_false q2, if_neg (by decide), List.append_nil] at HST2
                go_wp2_with fail
                go_quiet (fail)
                go_wp2_with fail
                go_quiet (fail)
                go_wp2_with fail
                go_roundw
                case rel => exact ⟨k + 1, by omega, by go_num, by rw [HST1.out]; exact Lib.hid (HA1.out _), by rw [HST2.out]; exact Lib.hid (HA2.out _), by rw [HST1.out]; exact HN1, by rw [HST2.out]; exact HN2, HB1.out _⟩
                case measure => simp [intOf]; omega
          · obtain rfl : k = N := by omega
            have hl1 := HL1.out k
            have hl2 := HL2.out k
            have HR2 := Lib.hid (RdP.own HO2.out rfl)
            clear haa hab
            go_wp2_with (first
              | (at_builtin; refine appSP el_stp rfl rfl (w0 := w) rfl rfl (by exact hbel) (by exact HO1.out) (by exact HR2.out) (by omega) ?_; intro v3 w10 ho10 hb10 hg10))
            go_ret2
            exact ⟨_, by rw [HE.out]; rfl, by rw [HLL.out, pairs_append, List.length_append]; exact ho10, hb10⟩
  · have HE := Lib.hid (stE_arg (Bool.eq_false_iff.2 hq))
    have HN := Lib.hid (HNO.out 2 HE.out (by decide))
    rw [HPT.out] at hq
    clear haa hab HPT
    cases p0 : inB 1 a.length 5 with
    | false =>
      rw [p0] at HW1
      clear hq p0
      go_enter Try.func43, Try.ntmps43
      go_wp2_with (first
        | (go_at_call 56; (with_reducible refine (HW1.out _).mono ?_); rintro e w' ⟨rfl, rfl⟩))
      go_ret2
      exact ⟨_, by rw [HE.out]; rfl, by rw [HN.out]; exact World.ownsRow_nil _ _ _ _, Below.refl _ _⟩
    | true =>
      rw [p0] at HW1
      cases p1 : lstB a a.length 0 1000 with
      | false =>
        rw [p1] at HIA
        clear hq p0 p1
        go_enter Try.func43, Try.ntmps43
        go_wp2_with (first
          | (go_at_call 56; (with_reducible refine (HW1.out _).mono ?_); rintro e w' ⟨rfl, rfl⟩)
          | (go_at_call 57; (with_reducible refine HIA.out.mono ?_); rintro e w' ⟨rfl, rfl⟩))
        go_ret2
        exact ⟨_, by rw [HE.out]; rfl, by rw [HN.out]; exact World.ownsRow_nil _ _ _ _, Below.refl _ _⟩
      | true =>
        rw [p1] at HIA
        cases p2 : lstB b a.length 0 1000 with
        | false =>
          rw [p2] at HIB
          clear hq p0 p1 p2
          go_enter Try.func43, Try.ntmps43
          go_wp2_with (first
            | (go_at_call 56; (with_reducible refine (HW1.out _).mono ?_); rintro e w' ⟨rfl, rfl⟩)
            | (go_at_call 57; (with_reducible refine HIA.out.mono ?_); rintro e w' ⟨rfl, rfl⟩)
            | (go_at_call 57; (with_reducible refine HIB.out.mono ?_); rintro e w' ⟨rfl, rfl⟩))
          go_ret2
          exact ⟨_, by rw [HE.out]; rfl, by rw [HN.out]; exact World.ownsRow_nil _ _ _ _, Below.refl _ _⟩
        | true =>
          rw [p2] at HIB
          cases p3 : inB 0 B 5000 with
          | false =>
            rw [p3] at HWB
            clear hq p0 p1 p2 p3
            go_enter Try.func43, Try.ntmps43
            go_wp2_with (first
              | (go_at_call 56; (with_reducible refine (HW1.out _).mono ?_); rintro e w' ⟨rfl, rfl⟩)
              | (go_at_call 57; (with_reducible refine HIA.out.mono ?_); rintro e w' ⟨rfl, rfl⟩)
              | (go_at_call 57; (with_reducible refine HIB.out.mono ?_); rintro e w' ⟨rfl, rfl⟩)
              | (go_at_call 56; (with_reducible refine (HWB.out _).mono ?_); rintro e w' ⟨rfl, rfl⟩))
            go_ret2
            exact ⟨_, by rw [HE.out]; rfl, by rw [HN.out]; exact World.ownsRow_nil _ _ _ _, Below.refl _ _⟩
          | true =>
            rw [p3] at HWB
            exact absurd (by rw [p0, p1, p2, p3]; rfl) hq

end Go.Proofs.Ytnaoanmkepcinaa
