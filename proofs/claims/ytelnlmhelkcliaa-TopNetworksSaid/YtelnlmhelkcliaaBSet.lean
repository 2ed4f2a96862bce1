/- Benes: around for all sizes; Settings, Around, the reference's Fits. -/
import Derived.Test.YtelnlmhelkcliaaBArd2
import Derived.Test.YtelnlmhelkcliaaBWays
namespace Go.Proofs.Ytelnlmhelkcliaa
open Go.RowKit

theorem around_any : ∀ (h : Nat), h ≤ 3 → ∀ (p S : List Int) (v sv : Value) (w : World), PermP p → p.length = pw h → S.length = cnt h → Rd w v (ints p) → Rd w sv (ints S) →
      Calls Try.prog 58 #[v, sv] w fun e w' => (∃ u, e = .returned u ∧ ArdR w w' u (cnt h) (aroundR h p fun i => S.getD i 0)) ∧ Below w.heap.size w w'
  | 0, _, p, S, v, sv, w, _, hl, hS, hv, hs => around_zero p S v sv w hl hS hv hs
  | h + 1, hh, p, S, v, sv, w, hp, hl, hS, hv, hs => around_succ h (by omega) (around_any h (by omega)) p S v sv w hp hl hS hv hs
theorem thr_piL {p : List Int} (hp : PermP p) {h : Nat} (hl : p.length = pw h) {l : List Bool} (ht : ∀ i, i < pw h → tro h l i 0 = piL p i) : thr h l p.length = p := by
  apply List.ext_getElem
  · rw [thr_len]
  · intro i h1 h2
    have h3 := (piL_eq hp h2).1
    have h4 : p.getD i 0 = p[i] := by rw [List.getD_eq_getElem?_getD, List.getElem?_eq_getElem h2]; rfl
    simp only [thr, List.getElem_map, List.getElem_range]
    rw [ht i (by omega), ← h4, h3]
theorem sends_ok {p : List Int} (hb : permB p = true) {l : List Bool} (hc : l.length = cnt (lg p.length)) (ht : ∀ i, i < pw (lg p.length) → tro (lg p.length) l i 0 = piL p i) : sndE p l = 0 ∧ sndB p l = true := by
  have hz := permB_sz hb
  obtain ⟨hn, hk⟩ := lg_spec _ hz
  have he : fitE p.length l.length = 0 := fitE_ok hz hc
  have ht := thr_piL (permB_p hb) (by omega) ht
  exact ⟨by unfold sndE; rw [hb, if_pos rfl, he], by unfold sndB; rw [hb, he, ht]; simp⟩

/-- what Settings gives -/
def SetP (p : List Int) (w w' : World) (u : Value) : Prop :=
  if permB p then ∃ l, w'.ownsRow w.heap.size 4 1 u (cnt (lg p.length)) (bools l) ∧ l.length = cnt (lg p.length) ∧ ∀ i, i < pw (lg p.length) → tro (lg p.length) l i 0 = piL p i
  else u = .slice none 0 0
theorem Settings_any (p : List Int) (v : Value) (w : World) (hv : Rd w v (ints p)) :
    Calls Try.prog 34 #[v] w fun e w' => (∃ u, e = .returned (.tuple #[u, .int .i64 (if permB p then 0 else 40)]) ∧ SetP p w w' u) ∧ Below w.heap.size w w' := by
  have HV := Lib.hid hv
  obtain ⟨a, cap, rfl, hc, hcm, _, _⟩ := hv
  rw [ints_length] at *
  cases hp : permB p with
  | false =>
    have HP := Lib.hid hp
    clear hp
    go_enter Try.func34, Try.ntmps34
    go_wp2_with (go_at_call 48; refine (permutation_any p _ _ HV.out).mono ?_; rw [HP.out]; rintro e w' ⟨rfl, rfl⟩)
    go_ret2
    exact ⟨⟨_, rfl, by unfold SetP; rw [HP.out]; rfl⟩, Below.refl _ _⟩
  | true =>
    have HP := Lib.hid hp
    obtain ⟨hn, hk⟩ := lg_spec _ (permB_sz hp)
    have hpp := permB_p hp
    have hcb := cnt_bd (lg p.length) hk
    have HC := Lib.hid (fun W => count_any (lg p.length) (p.length : Int) W hk hn)
    have hZ : ∀ i, (List.replicate (cnt (lg p.length)) (0 : Int)).getD i 0 = 0 := fun i => by
      rw [List.getD_eq_getElem?_getD, List.getElem?_replicate]; split <;> rfl
    have hfree : aroundR (lg p.length) p (fun i => (List.replicate (cnt (lg p.length)) (0 : Int)).getD i 0) ≠ none := fun e =>
      ways_free (lg p.length) p _ hpp (by omega) (fun i _ => hZ i) ((around_none (lg p.length) p _ hpp (by omega)).1 e)
    obtain ⟨l, hl⟩ := Option.ne_none_iff_exists'.1 hfree
    obtain ⟨o1, o2, _⟩ := around_ok (lg p.length) p _ l hpp (by omega) hl
    have HR : Hid (∀ (W W' : World) u, ArdR W W' u (cnt (lg p.length)) (aroundR (lg p.length) p (fun i => (List.replicate (cnt (lg p.length)) (0 : Int)).getD i 0)) → W'.ownsRow W.heap.size 4 1 u (cnt (lg p.length)) (bools l)) := Lib.hid fun W W' u h => by rw [hl] at h; exact h
    have HO := Lib.hid o1
    have HT := Lib.hid o2
    have HA := Lib.hid (fun sv W h1 h2 => around_any (lg p.length) hk p (List.replicate (cnt (lg p.length)) 0) (.slice a p.length cap) sv W hpp (by omega) (by simp) h1 h2)
    have HSP : Hid (∀ (W W' : World) u, w.heap.size ≤ W.heap.size → W'.ownsRow W.heap.size 4 1 u (cnt (lg p.length)) (bools l) → SetP p w W' u) := Lib.hid fun W W' u hW h => by
      unfold SetP
      rw [HP.out, if_pos rfl]
      exact ⟨l, own_le h hW, HO.out, HT.out⟩
    have hci : ((cnt (lg p.length) : Nat) : Int) = (cnt (lg p.length) : Int) := rfl
    clear hp hn hk hpp hZ hfree hl o1 o2 hci
    obtain ⟨c, hc'⟩ : ∃ c, cnt (lg p.length) = c := ⟨_, rfl⟩
    rw [hc'] at HC HR HA HSP hcb
    clear hc'
    go_enter Try.func34, Try.ntmps34
    go_wp2_with (first
      | (go_at_call 48; refine (permutation_any p _ _ HV.out).mono ?_; rw [HP.out]; rintro e w' ⟨rfl, rfl⟩)
      | (go_at_call 49; refine (HC.out _).mono ?_; rintro e w' ⟨rfl, rfl⟩)
      | (at_make; refine mkS el_int rfl rfl (n := c) rfl rfl rfl (by omega) ?_; intro w1 hown1 hbel1; have HO1 : Hid (Rd w1 _ (ints (List.replicate c 0))) := Lib.hid (by have := Rd.own hown1; simpa [ints] using this); have HB1 := Lib.hid hbel1; clear hown1 hbel1)
      | (go_at_call 58; refine (HA.out _ _ (HV.out.below HB1.out (Nat.le_refl _)) HO1.out).mono ?_; rintro e w2 ⟨⟨u, rfl, hu⟩, hb2⟩; have hu := HR.out _ _ _ hu; obtain ⟨au, cu, rfl⟩ := own_form hu; have HU := Lib.hid hu; clear hu))
    go_ret2
    exact ⟨⟨_, rfl, HSP.out _ _ _ HB1.out.size HU.out⟩, HB1.out.trans (hb2.mono HB1.out.size)⟩

/-- what Around gives -/
def aroE (p S : List Int) : Int := if wayE p S = 0 then (if wayN p S = 0 then 5 else 0) else wayE p S
def AroP (p S : List Int) (w w' : World) (u : Value) : Prop :=
  if wayE p S = 0 ∧ wayN p S ≠ 0 then ∃ l, w'.ownsRow w.heap.size 4 1 u (cnt (lg p.length)) (bools l) ∧ l.length = cnt (lg p.length) ∧ (∀ i, i < pw (lg p.length) → tro (lg p.length) l i 0 = piL p i) ∧ ∀ i, i < cnt (lg p.length) → mayB (S.getD i 0) (l.getD i false) = true
  else u = .slice none 0 0
theorem Around_any (p S : List Int) (v u : Value) (w : World) (hS : S.length ≤ 1000) (hv : Rd w v (ints p)) (hu : Rd w u (ints S)) :
    Calls Try.prog 35 #[v, u] w fun e w' => (∃ r, e = .returned (.tuple #[r, .int .i64 (aroE p S)]) ∧ AroP p S w w' r) ∧ Below w.heap.size w w' := by
  have HAS := Lib.hid (askedW_any p S v u w hS hv hu)
  have HV := Lib.hid hv
  have HU := Lib.hid hu
  obtain ⟨a, cap, rfl, hc, hcm, _, _⟩ := hv
  obtain ⟨a2, cap2, rfl, hc2, hcm2, _, _⟩ := hu
  rw [ints_length] at *
  rw [ints_length] at *
  by_cases h0 : wayE p S = 0
  · obtain ⟨q1, q2, q3, q4, q5⟩ := ways_pre h0
    have HA := Lib.hid (around_any (lg p.length) q4 p S _ _ w q1 q2 q3 HV.out HU.out)
    have hcb := cnt_bd (lg p.length) q4
    rw [h0] at HAS
    cases hr : aroundR (lg p.length) p (fun i => S.getD i 0) with
    | none =>
      have hw : wayN p S = 0 := by rw [q5]; exact (around_none _ p _ q1 q2).1 hr
      have HE : Hid (aroE p S = 5) := Lib.hid (by unfold aroE; rw [if_pos h0, if_pos hw])
      have HP : Hid (∀ W : World, AroP p S w W (.slice none 0 0)) := Lib.hid fun W => by unfold AroP; rw [if_neg (fun h => h.2 hw)]
      rw [HE.out]
      rw [hr] at HA
      have heq : ∀ w0, (binOp .eql 22 (.slice none 0 0) (.slice none 0 0)).run Try.prog w0 = .ok (.bool true) w0 := fun w0 => Lib.run_eql_slice_nil (P := Try.prog) w0 22 4 none 0 0 0 0 Try.underlying22
      clear q1 q2 q3 q4 q5 h0 hr hw
      go_enter Try.func35, Try.ntmps35
      go_wp2_with (first
        | (go_at_call 54; refine HAS.out.mono ?_; rintro e w' ⟨rfl, rfl⟩)
        | (go_at_call 58; refine HA.out.mono ?_; rintro e w5 ⟨⟨r, rfl, hr⟩, hb5⟩; obtain rfl : r = .slice none 0 0 := hr))
      go_ret2
      exact ⟨⟨_, rfl, HP.out _⟩, hb5⟩
    | some l =>
      have hw : wayN p S ≠ 0 := fun e => by
        have := (around_none _ p (fun i => S.getD i 0) q1 q2).2 (by rw [← q5]; exact e)
        rw [hr] at this; cases this
      obtain ⟨o1, o2, o3⟩ := around_ok (lg p.length) p _ l q1 q2 hr
      have HE : Hid (aroE p S = 0) := Lib.hid (by unfold aroE; rw [if_pos h0, if_neg hw])
      have HP : Hid (∀ (W : World) r, W.ownsRow w.heap.size 4 1 r (cnt (lg p.length)) (bools l) → AroP p S w W r) := Lib.hid fun W r h => by unfold AroP; rw [if_pos ⟨h0, hw⟩]; exact ⟨l, h, o1, o2, o3⟩
      rw [HE.out]
      rw [hr] at HA
      obtain ⟨c, hc'⟩ : ∃ c, cnt (lg p.length) = c := ⟨_, rfl⟩
      rw [hc'] at HP HA hcb
      have hcp : 0 < c := by omega
      have heq : ∀ g k w0, (binOp .eql 22 (.slice (some g) c k) (.slice none 0 0)).run Try.prog w0 = .ok (.bool false) w0 := fun g k w0 => Lib.run_eql_slice_nil (P := Try.prog) w0 22 4 (some g) c k 0 0 Try.underlying22
      clear q1 q2 q3 q4 q5 h0 hr hw hc' o1 o2 o3
      go_enter Try.func35, Try.ntmps35
      go_wp2_with (first
        | (go_at_call 54; refine HAS.out.mono ?_; rintro e w' ⟨rfl, rfl⟩)
        | (go_at_call 58; refine HA.out.mono ?_; rintro e w5 ⟨⟨r, rfl, hr⟩, hb5⟩; obtain ⟨gu, cu, rfl, _, _⟩ := own_some1 hr hcp; have HR := Lib.hid hr; clear hr))
      go_ret2
      exact ⟨⟨_, rfl, HP.out _ _ HR.out⟩, hb5⟩
  · have HE : Hid (aroE p S = wayE p S) := Lib.hid (by unfold aroE; rw [if_neg h0])
    have HP : Hid (∀ W : World, AroP p S w W (.slice none 0 0)) := Lib.hid fun W => by unfold AroP; rw [if_neg (fun h => h0 h.1)]
    rw [HE.out]
    obtain ⟨y, hy⟩ : ∃ y, wayE p S = y := ⟨_, rfl⟩
    rw [hy] at HAS h0 ⊢
    have hb : (y != 0) = true := by simpa using h0
    have hb2 : (y == 0) = false := by simpa using h0
    clear hy h0
    go_enter Try.func35, Try.ntmps35
    go_wp2_with (go_at_call 54; refine HAS.out.mono ?_; rintro e w' ⟨rfl, rfl⟩)
    go_ret2
    exact ⟨⟨_, rfl, HP.out _⟩, Below.refl _ _⟩
end Go.Proofs.Ytelnlmhelkcliaa
