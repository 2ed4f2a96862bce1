/- Benes: the ties of a permutation, walked. -/
import Derived.Test.YtelnlmhelkcliaaBFlw2
namespace Go.Proofs.Ytelnlmhelkcliaa
open Go.RowKit

/-! ### slices of elements of more cells -/
structure ElemK (P : Program) (t e : TypeId) (z : Value) (size bytes : Nat) : Prop where
  und : P.underlying t = some (.slice e)
  info : ∃ i, P.info? e = some i ∧ i.zero = some z ∧ i.size = size ∧ i.bytes = bytes
  zc : z.cells.size = size
  pos : 0 < size
  small : bytes ≤ 96
section
variable {P : Program} {ops : Array Oper} {rest : List Oper} {o : Oper} {a : Act} {Q : Exit → Act → World → Prop}
theorem appK {t e : TypeId} {z : Value} {size bytes : Nat} (EO : ElemK P t e z size bytes) (hgd : o.guard = none) {s x : Operand}
    (ho : o.op = .call { callee := .builtin .append, args := #[s, x], argTypes := #[t, t] })
    {w0 W : World} {v : Value} {n : Nat} {xs : List Value} {cur : Array Value} (hs : a.eval s = v) (hx : a.eval x = .slice (some ⟨W.heap.size, 0, none⟩) 1 1)
    (hbel : Below w0.heap.size w0 W) (hown : W.ownsRow w0.heap.size e size v n xs) (hk : cur.size = size) (h1 : ∀ u ∈ cur.toList, u.oneCell' = true) (hn : n ≤ 4000000)
    (h : ∀ v' w', w'.ownsRow w0.heap.size e size v' (n + 1) (xs ++ cur.toList) → Below w0.heap.size w0 w' → (W.alloc (.cells cur e)).grownBy w' v.ownBlock →
      wpList P ops Q rest (a.put o.dst v') w') : wpList P ops Q (o :: rest) a (W.alloc (.cells cur e)) := by
  obtain ⟨i, hi, hz, hsz, hby⟩ := EO.info
  have hsm := EO.small
  have hB := hbel.size
  refine wpList_append_own _ hgd s x t ho w0.heap.size e i z size bytes EO.und hi hz hsz hby EO.zc EO.pos v n xs hs (hown.alloc _) ⟨W.heap.size, 0, none⟩ 1 1 cur.toList hx (by simp [hk]) ?_ h1 ?_ ?_ ?_ ?_
  · intro j u' hj
    have hj2 : j < cur.size := by
      have := (List.getElem?_eq_some_iff.1 hj).1; simpa using this
    rw [show (⟨W.heap.size, 0, none⟩ : Addr).add j = ⟨W.heap.size, j, none⟩ from by unfold Addr.add; split <;> simp_all]
    have e1 : (W.alloc (.cells cur e)).cell? ⟨W.heap.size, j, none⟩ = cur[j]? := by
      have := heap_alloc_new W (.cells cur e)
      simp only [World.cell?, this]; simp
    rw [e1, ← hj]; simp
  · unfold maxLen; omega
  · have : (n + 1) * bytes ≤ (n + 1) * 96 := Nat.mul_le_mul_left _ hsm
    omega
  · simp; omega
  · intro v' w' ho' hg _
    exact h v' w' ho' ((hbel.alloc hB _).grown hg (by simp; omega) (fun k e => (hown.lt k e).1)) hg
end
theorem el_tie : ElemK Try.prog 96 101 (.agg #[.map none, .map none]) 2 16 :=
  ⟨by kernel_rfl, info_parts (by kernel_rfl), by rfl, by decide, by decide⟩

/-- the two maps of each tie, as cells -/
def tc (bs : List (Nat × Nat)) : List Value := bs.flatMap fun b => [.map (some b.1), .map (some b.2)]
theorem tc_append (a b : List (Nat × Nat)) : tc (a ++ b) = tc a ++ tc b := by simp [tc]
theorem tc_length (bs : List (Nat × Nat)) : (tc bs).length = bs.length * 2 := by
  induction bs with
  | nil => rfl
  | cons x l ih => simp only [tc, List.flatMap_cons, List.length_append, List.length_cons, List.length_nil] at *; omega
theorem tc_get {bs : List (Nat × Nat)} : ∀ {j : Nat} {b : Nat × Nat}, bs[j]? = some b → (tc bs)[j * 2]? = some (.map (some b.1)) ∧ (tc bs)[j * 2 + 1]? = some (.map (some b.2)) := by
  induction bs with
  | nil => intro j x h; simp at h
  | cons y l ih =>
    intro j x h
    match j, h with
    | 0, h => simp at h; subst h; exact ⟨rfl, rfl⟩
    | j + 1, h =>
      simp at h
      have := ih h
      have e : tc (y :: l) = .map (some y.1) :: .map (some y.2) :: tc l := rfl
      rw [e, show (j + 1) * 2 = j * 2 + 1 + 1 by omega]
      simpa using this
/-- the tables of ties -/
def TabAt (W : World) (B m : Nat) (bs : List (Nat × Nat)) (T : List (Nat × FL)) : Prop :=
  bs.length = T.length ∧ ∀ (i : Nat) (b : Nat × Nat) (t : Nat × FL), bs[i]? = some b → T[i]? = some t → B ≤ b.1 ∧ B ≤ b.2 ∧ b.1 ≠ b.2 ∧ MB W b.1 m t.2.1 ∧ MB W b.2 m t.2.2
theorem TabAt.nil (W : World) (B m : Nat) : TabAt W B m [] [] := ⟨rfl, fun i b t h => by simp at h⟩
theorem TabAt.below {W W' : World} {B m : Nat} {bs : List (Nat × Nat)} {T : List (Nat × FL)} (h : TabAt W B m bs T) (hb : Below W.heap.size W W') : TabAt W' B m bs T :=
  ⟨h.1, fun i b t h1 h2 => by obtain ⟨a1, a2, a3, a4, a5⟩ := h.2 i b t h1 h2; exact ⟨a1, a2, a3, a4.below hb, a5.below hb⟩⟩
theorem TabAt.kept {W W' : World} {B m : Nat} {bs : List (Nat × Nat)} {T : List (Nat × FL)} (h : TabAt W B m bs T) {row : Option Nat} (hg : W.grownBy W' row) (hr : ∀ r N F, row = some r → B ≤ r → ¬ MB W r N F) : TabAt W' B m bs T :=
  ⟨h.1, fun i b t h1 h2 => by
    obtain ⟨a1, a2, a3, a4, a5⟩ := h.2 i b t h1 h2
    exact ⟨a1, a2, a3, a4.kept hg (fun e => hr _ _ _ e.symm a1 a4), a5.kept hg (fun e => hr _ _ _ e.symm a2 a5)⟩⟩
theorem TabAt.snoc {W : World} {B m : Nat} {bs : List (Nat × Nat)} {T : List (Nat × FL)} (h : TabAt W B m bs T) {b1 b2 : Nat} {t : Nat × FL} (h1 : B ≤ b1) (h2 : B ≤ b2) (hne : b1 ≠ b2) (m1 : MB W b1 m t.2.1) (m2 : MB W b2 m t.2.2) : TabAt W B m (bs ++ [(b1, b2)]) (T ++ [t]) := by
  refine ⟨by simp [h.1], fun i b u hb hu => ?_⟩
  rw [List.getElem?_append] at hb hu
  rw [← h.1] at hu
  split at hb
  · rename_i hi
    rw [if_pos hi] at hu
    exact h.2 i b u hb hu
  · rename_i hi
    rw [if_neg hi] at hu
    have e0 : i - bs.length = 0 := by
      have := (List.getElem?_eq_some_iff.1 hb).1
      simp at this
      omega
    rw [e0] at hb hu
    simp at hb hu
    subst hb hu
    exact ⟨h1, h2, hne, m1, m2⟩
/-- a row of cells is no map -/
theorem own_noMap {W : World} {B n size : Nat} {e : TypeId} {v : Value} {xs : List Value} (h : W.ownsRow B e size v n xs) {r : Nat} (hr : v.ownBlock = some r) {b N : Nat} {F : Nat → Option Bool} (hm : MB W b N F) : r ≠ b := by
  obtain ⟨D, ⟨es, clock, hb, _⟩, _⟩ := hm
  rcases h.2 with ⟨rfl, _⟩ | ⟨g, cap, cur, rfl, _, hg, _⟩
  · cases hr
  · simp [Value.ownBlock] at hr
    subst hr
    intro e
    rw [e, hb] at hg
    cases hg

theorem Kp2.via {x b1 b2 : Nat} {w wa wb : World} (h : Kp2 x x w wa) (k : Kp2 b1 b2 wa wb) (h1 : w.heap.size ≤ b1 ∨ b1 = x) (h2 : w.heap.size ≤ b2 ∨ b2 = x) : Kp2 x x w wb :=
  ⟨k.os.trans h.os, k.tape.trans h.tape, k.output.trans h.output, Nat.le_trans h.size k.size, fun i hi n1 n2 => (k.block i (Nat.lt_of_lt_of_le hi h.size) (by rcases h1 with h1 | h1 <;> omega) (by rcases h2 with h2 | h2 <;> omega)).trans (h.block i hi n1 n2)⟩
theorem MB.kp {w w' : World} {b b1 b2 N : Nat} {F : Nat → Option Bool} (h : MB w b N F) (k : Kp2 b1 b2 w w') (h1 : b ≠ b1) (h2 : b ≠ b2) : MB w' b N F := by
  have hl := h.lt
  obtain ⟨D, ⟨es, clock, e1, e2⟩, h3⟩ := h
  exact ⟨D, ⟨es, clock, (k.block b hl h1 h2).trans e1, e2⟩, h3⟩
theorem own_kp {w w' : World} {B n size b1 b2 : Nat} {e : TypeId} {v : Value} {xs : List Value} (h : w.ownsRow B e size v n xs) (k : Kp2 b1 b2 w w') (h1 : v.ownBlock ≠ some b1) (h2 : v.ownBlock ≠ some b2) : w'.ownsRow B e size v n xs := by
  refine ⟨h.1, ?_⟩
  rcases h.2 with hn | ⟨g, cap, cur, hv, hg, hgg, rest⟩
  · exact .inl hn
  · subst hv
    exact .inr ⟨g, cap, cur, rfl, hg, (k.block g (Array.getElem?_eq_some_iff.1 hgg).1 (fun e => h1 (by rw [e]; rfl)) (fun e => h2 (by rw [e]; rfl))).trans hgg, rest⟩
theorem TabAt.kp {w w' : World} {B m x : Nat} {bs : List (Nat × Nat)} {T : List (Nat × FL)} (h : TabAt w B m bs T) (k : Kp2 x x w w') (hx : x < B) : TabAt w' B m bs T :=
  ⟨h.1, fun i b t h1 h2 => by
    obtain ⟨a1, a2, a3, a4, a5⟩ := h.2 i b t h1 h2
    exact ⟨a1, a2, a3, a4.kp k (by omega) (by omega), a5.kp k (by omega) (by omega)⟩⟩
theorem TabAt.le {w : World} {B B' m : Nat} {bs : List (Nat × Nat)} {T : List (Nat × FL)} (h : TabAt w B m bs T) (hB : B' ≤ B) : TabAt w B' m bs T :=
  ⟨h.1, fun i b t h1 h2 => by obtain ⟨a1, a2, a3, a4, a5⟩ := h.2 i b t h1 h2; exact ⟨by omega, by omega, a3, a4, a5⟩⟩
theorem Kp2.below {b1 b2 B : Nat} {w w1 w2 : World} (h : Below B w w1) (k : Kp2 b1 b2 w1 w2) (h1 : B ≤ b1) (h2 : B ≤ b2) (hB : B ≤ w1.heap.size) : Below B w w2 := h.trans (k.toBelow hB h1 h2)
/-- which switches the ties have -/
def hadF (T : List (Nat × FL)) : Nat → Option Bool := fun j => if T.any (fun t => (t.2.1 j).isSome) then some true else none
/-- while the table F is gone over -/
def hadL (H F : Nat → Option Bool) (left : Nat → Bool) : Nat → Option Bool := fun j => if (F j).isSome && !left j then some true else H j
theorem hadF_snoc (T : List (Nat × FL)) (t : Nat × FL) : hadF (T ++ [t]) = fun j => if (t.2.1 j).isSome then some true else hadF T j := by
  funext j
  unfold hadF
  rw [List.any_append, List.any_cons, List.any_nil, Bool.or_false]
  cases h : (t.2.1 j).isSome
  · rw [Bool.or_false]; rfl
  · rw [Bool.or_true]; rfl

set_option maxRecDepth 100000 in
set_option maxHeartbeats 1000000 in
theorem ties_any {p : List Int} (hp : PermP p) {m : Nat} (hl : p.length = 2 * m) (hm : m ≤ 8) (v : Value) (w : World) (hv : Rd w v (ints p)) :
    Calls Try.prog 78 #[v] w fun e w' => (∃ u bs, e = .returned u ∧ w'.ownsRow w.heap.size 101 2 u bs.length (tc bs) ∧ TabAt w' w.heap.size m bs (tiesL p m)) ∧ Below w.heap.size w w' := by
  have hmm := @run_makeMap Try.prog
  have HV := Lib.hid hv
  have HF := Lib.hid (fun j w b1 b2 hne h1 h2 hv hj => follow_any hp hl hm v (m + 1) noneT j false w b1 b2 hne h1 h2 hv hj (by have := freeN_le noneT.1 m; omega))
  have HPN := Lib.hid (permN_of hp hl)
  obtain ⟨a, cap, rfl, hc, hcm, ha, hno⟩ := hv
  rw [ints_length, hl] at hc
  rw [ints_length, hl] at HV HF ⊢
  obtain ⟨T, hT⟩ : ∃ T : Nat → List (Nat × FL), T = tiesP (piL p) (rhoL p) m := ⟨_, rfl⟩
  have HT0 : Hid (T 0 = []) := Lib.hid (by rw [hT]; rfl)
  have HTS : Hid (∀ k, T (k + 1) = if (T k).any (fun t => (t.2.1 k).isSome) then T k else T k ++ [(k, tieP (piL p) (rhoL p) m k)]) := Lib.hid (fun k => by rw [hT]; rfl)
  have HTL : Hid (T m = tiesL p m) := Lib.hid (by rw [hT]; rfl)
  have HTI : Hid (∀ k, k < m → Tie m (piL p) (rhoL p) k (tieP (piL p) (rhoL p) m k)) := Lib.hid fun k hk => tie_ok (permN_of hp hl) hk
  have HFW : Hid (∀ k, tieP (piL p) (rhoL p) m k = followP (piL p) (rhoL p) (m + 1) noneT k false) := Lib.hid fun _ => rfl
  have HTK : Hid (∀ k, k ≤ m → (T k).length ≤ k) := Lib.hid (by
    intro k
    induction k with
    | zero => intro _; rw [HT0.out]; simp
    | succ k ih =>
      intro hk
      have := ih (by omega)
      rw [HTS.out]
      split
      · omega
      · simp; omega)
  have hq : IntKind.i64.wrap ((2 * (m : Int)).tdiv 2) = m := by rw [IntWalk.i64_quo _ _ (by omega)]; omega
  have HM0 := Lib.hid (MB.made w (N := m) (by omega))
  have HB0 := Lib.hid ((Below.refl w.heap.size w).alloc (Nat.le_refl _) (.map #[] 0))
  have HA := Lib.hid ha
  clear hT hl hp ha hno
  go_enter Try.func78, Try.ntmps78
  go_wp2_with fail
  go_loopw [3, 12] (fun q i wr => ∃ (k : Nat) (bs : List (Nat × Nat)), k ≤ m ∧ i = .int .i64 k ∧ Hid (wr.ownsRow w.heap.size 101 2 q bs.length (tc bs)) ∧ Hid (TabAt wr (w.heap.size + 1) m bs (T k)) ∧ Hid (MB wr w.heap.size m (hadF (T k))) ∧ Hid (Below w.heap.size w wr)) (fun _ i _ => m - (intOf i).toNat)
  case atStart => exact ⟨0, [], by omega, rfl, Lib.hid (World.ownsRow_nil _ _ _ _), Lib.hid (by rw [HT0.out]; exact TabAt.nil _ _ _), Lib.hid (by rw [HT0.out]; exact HM0.out), HB0⟩
  case round =>
    obtain ⟨k, bs, hk, rfl, HO, HTB, HM, HB⟩ := hrel
    obtain ⟨wo, rfl⟩ : ∃ wo, wo = wr := ⟨_, rfl⟩
    by_cases hkm : k < m
    · have hkm' : (k : Int) < (m : Int) := by omega
      cases hh : (T k).any (fun t => (t.2.1 k).isSome) with
      | true =>
        have hg : (hadF (T k) k).getD false = true := by unfold hadF; rw [hh]; rfl
        have HN : Hid (T (k + 1) = T k) := Lib.hid (by rw [HTS.out, if_pos hh])
        clear hh
        go_wp2_with (at_lookup; refine wp_mb_get _ rfl _ _ rfl w.heap.size m (hadF (T k)) k rfl HM.out (by omega) rfl ?_; rw [hg])
        go_roundw
        case rel => exact ⟨k + 1, bs, by omega, by go_num, HO, by rw [HN.out]; exact HTB, by rw [HN.out]; exact HM, HB⟩
        case measure => simp [intOf]; omega
      | false =>
        have hg : (hadF (T k) k).getD false = false := by unfold hadF; rw [hh]; rfl
        have HN : Hid (T (k + 1) = T k ++ [(k, tieP (piL p) (rhoL p) m k)]) := Lib.hid (by rw [HTS.out, if_neg (by rw [hh]; decide)])
        have HTI' := Lib.hid (HTI.out k hkm)
        have hbs : bs.length ≤ 100 := by
          have := HTB.out.1
          have := HTK.out k hk
          omega
        obtain ⟨t, ht⟩ : ∃ t, tieP (piL p) (rhoL p) m k = t := ⟨_, rfl⟩
        have HFW' := Lib.hid ((HFW.out k).symm.trans ht)
        rw [ht] at HN HTI'
        have E1 : Below wo.heap.size wo (((wo.alloc (.map #[] 0)).alloc (.map #[] 0)).alloc (.cells #[.map (some wo.heap.size), .map (some (wo.heap.size + 1))] 101)) := (((Below.refl _ _).alloc (Nat.le_refl _) _).alloc (by simp) _).alloc (by simp; omega) _
        have HE1 := Lib.hid E1
        have HM1 : Hid (MB (((wo.alloc (.map #[] 0)).alloc (.map #[] 0)).alloc (.cells #[.map (some wo.heap.size), .map (some (wo.heap.size + 1))] 101)) wo.heap.size m noneT.1) := Lib.hid (((MB.made wo (N := m) (by omega)).below ((Below.refl _ _).alloc (Nat.le_refl _) _)).below ((Below.refl _ _).alloc (Nat.le_refl _) _))
        have HM2 : Hid (MB (((wo.alloc (.map #[] 0)).alloc (.map #[] 0)).alloc (.cells #[.map (some wo.heap.size), .map (some (wo.heap.size + 1))] 101)) (wo.heap.size + 1) m noneT.2) := Lib.hid (by
          have h := (MB.made (wo.alloc (.map #[] 0)) (N := m) (by omega)).below ((Below.refl _ _).alloc (Nat.le_refl _) (.cells #[.map (some wo.heap.size), .map (some (wo.heap.size + 1))] 101))
          show MB _ _ m (fun _ => none)
          simpa using h)
        have HC0 : Hid ((((wo.alloc (.map #[] 0)).alloc (.map #[] 0)).alloc (.cells #[.map (some wo.heap.size), .map (some (wo.heap.size + 1))] 101)).cell? ⟨wo.heap.size + 1 + 1, 0, none⟩ = some (.map (some wo.heap.size))) := Lib.hid (World.cell?_alloc_at _ _ _ _ (by simp))
        have HC1 : Hid ((((wo.alloc (.map #[] 0)).alloc (.map #[] 0)).alloc (.cells #[.map (some wo.heap.size), .map (some (wo.heap.size + 1))] 101)).cell? ⟨wo.heap.size + 1 + 1, 1, none⟩ = some (.map (some (wo.heap.size + 1)))) := Lib.hid (World.cell?_alloc_at _ _ _ _ (by simp))
        have hbh := HB0.out.size
        have hbo := HB.out.size
        have hmo := HM.out.lt
        clear hh ht E1
        go_wp2_with (first
          | (at_lookup; refine wp_mb_get _ rfl _ _ rfl w.heap.size m (hadF (T k)) k rfl HM.out (by omega) rfl ?_; rw [hg])
          | (go_at_call 86; refine (HF.out k _ wo.heap.size (wo.heap.size + 1) (by omega) HM1.out HM2.out (HV.out.below (HB.out.trans (HE1.out.mono HB.out.size)) (Nat.le_refl _)) hkm).mono ?_; rw [HFW'.out]; rintro e w4 ⟨rfl, hst⟩; have HST := Lib.hid hst; have c0 := hst.kp.cell HC0.out (HM1.out.nocell HC0.out) (HM2.out.nocell HC0.out); have c1 := hst.kp.cell HC1.out (HM1.out.nocell HC1.out) (HM2.out.nocell HC1.out); have hlt4 := World.block_lt_of_cell? _ _ c0; clear hst)
          | (at_range; refine wp_mb_range _ rfl _ rfl wo.heap.size m t.1 rfl HST.out.m1 ?_; intro w5 hrg hgr hsz))
        go_frame
        have K4 : Kp2 w.heap.size w.heap.size wo w4 := (Kp2.of_below HE1.out).via HST.out.kp (.inl (Nat.le_refl _)) (.inl (by omega))
        have K5 : Kp2 w.heap.size w.heap.size wo w5 := K4.via (Kp2.of_below (b1 := wo.heap.size) (b2 := wo.heap.size) ⟨hgr.os, hgr.tape, hgr.output, hgr.size, fun i hi => hgr.block i hi (by simp)⟩) (.inl (Nat.le_refl _)) (.inl (Nat.le_refl _))
        have hE3 := HE1.out.size
        have hw4 := HST.out.kp.size
        have hne1 : w.heap.size ≠ wo.heap.size := by omega
        have M5 : MB w5 w.heap.size m (hadF (T k)) := ((HM.out.below HE1.out).kp HST.out.kp (by omega) (by omega)).kept hgr (by simp)
        have hr4 : wo.heap.size + 1 + 1 < w4.heap.size := hlt4
        have c05 : w5.cell? ⟨wo.heap.size + 1 + 1, 0, none⟩ = some (.map (some wo.heap.size)) := (World.cell?_of_block (hgr.block _ hlt4 (by simp))).trans c0
        have c15 : w5.cell? ⟨wo.heap.size + 1 + 1, 1, none⟩ = some (.map (some (wo.heap.size + 1))) := (World.cell?_of_block (hgr.block _ hlt4 (by simp))).trans c1
        have HK5 := Lib.hid K5
        have HM5 := Lib.hid M5
        have HC05 := Lib.hid c05
        have HC15 := Lib.hid c15
        have HRG5 := Lib.hid hrg
        have HM15 := Lib.hid (HST.out.m1.kept hgr (by simp))
        have HM25 := Lib.hid (HST.out.m2.kept hgr (by simp))
        have HB5 := Lib.hid (Kp2.below (Kp2.below (HB.out.trans (HE1.out.mono HB.out.size)) HST.out.kp (by omega) (by omega) (Nat.le_trans HB.out.size HE1.out.size)) (Kp2.of_below (b1 := w4.heap.size) (b2 := w4.heap.size) ⟨hgr.os, hgr.tape, hgr.output, hgr.size, fun i hi => hgr.block i hi (by simp)⟩) (by omega) (by omega) (by omega))
        clear hgr hrg K4 K5 M5 c05 c15 c0 c1 hE3
        go_loopw [] (fun wr2 => ∃ left : Nat → Bool, Hid (RG wr2 wo.heap.size w4.heap.size m t.1 left) ∧ Hid (MB wr2 w.heap.size m (hadL (hadF (T k)) t.1 left)) ∧ Hid (Kp2 w.heap.size w4.heap.size w5 wr2)) (fun wr2 => wr2.rangeLeft wo.heap.size w4.heap.size)
        case atStart =>
          refine ⟨fun j => (t.1 j).isSome, HRG5, Lib.hid ?_, Lib.hid (Kp2.refl _ _ _)⟩
          have e : hadL (hadF (T k)) t.1 (fun j => (t.1 j).isSome) = hadF (T k) := by funext j; unfold hadL; rw [if_neg (by dsimp only; rw [Bool.and_not_self]; decide)]
          rw [e]; exact HM5.out
        case round =>
          obtain ⟨left, HG, HH, HK⟩ := hrel
          have c0 := HK.out.cell HC05.out (by dsimp only; omega) (by dsimp only; omega)
          have c1 := HK.out.cell HC15.out (by dsimp only; omega) (by dsimp only; omega)
          have hltr := World.block_lt_of_cell? _ _ c0
          have HBr := Lib.hid (Kp2.below HB5.out HK.out (Nat.le_refl _) (by omega) HB5.out.size)
          have HKo := Lib.hid (HK5.out.via HK.out (.inr rfl) (.inl (by omega)))
          have HOr := Lib.hid (own_kp HO.out HKo.out (fun e => own_noMap HO.out e HM.out rfl) (fun e => own_noMap HO.out e HM.out rfl))
          have HTr := Lib.hid (HTB.out.kp HKo.out (Nat.lt_succ_self _))
          have HM1r := Lib.hid (HM15.out.kp HK.out (by omega) (by omega))
          have HM2r := Lib.hid (HM25.out.kp HK.out (by omega) (by omega))
          go_wp2_with (first
            | (at_next; refine wp_mb_next _ rfl _ rfl wo.heap.size w4.heap.size m t.1 left rfl HG.out (fun hl0 => ?_) (fun x vx w6 hlx hfx hxm hrg6 hlt6 hg6 hs6 hen => ?_))
            | (at_mapUpdate; refine wp_mb_store _ rfl _ _ _ rfl w.heap.size m _ x true rfl (HH.out.kept hg6 (by simp; omega)) hxm rfl rfl ?_; intro w7 hw7 hg7)
            | (at_builtin; refine appK el_tie rfl rfl (w0 := w) (cur := #[.map (some wo.heap.size), .map (some (wo.heap.size + 1))]) rfl (by rfl) (by exact HBr.out) (by exact HOr.out) rfl (by intro u hu; simp at hu; rcases hu with rfl | rfl <;> rfl) (by omega) ?_; intro v9 w9 ho9 hb9 hg9))
          · have e : hadL (hadF (T k)) t.1 left = hadF (T k ++ [(k, t)]) := by
              rw [hadF_snoc]; funext j; unfold hadL; rw [hl0 j]; simp
            have HHr := HH.out
            rw [e] at HHr
            have ha2 := (World.grownBy_alloc wr (.cells #[.map (some wo.heap.size), .map (some (wo.heap.size + 1))] 101) none)
            have hx := HOr.out.alloc (.cells #[.map (some wo.heap.size), .map (some (wo.heap.size + 1))] 101)
            have nb : ∀ b N F, MB (wr.alloc (.cells #[.map (some wo.heap.size), .map (some (wo.heap.size + 1))] 101)) b N F → some b ≠ Value.ownBlock _ := fun b N F h e => own_noMap hx e.symm h rfl
            go_roundw
            case rel =>
              refine ⟨k + 1, bs ++ [(wo.heap.size, wo.heap.size + 1)], by omega, by go_num, Lib.hid ?_, Lib.hid ?_, Lib.hid ?_, Lib.hid hb9⟩
              · rw [tc_append, List.length_append]; exact ho9
              · rw [HN.out]
                refine ((HTr.out.kept ha2 (fun r N F h => by cases h)).kept hg9 (fun r N F h _ hm => nb r N F hm h.symm)).snoc (by omega) (by omega) (by omega) ?_ ?_
                · exact (HM1r.out.kept ha2 (by simp)).kept hg9 (nb _ _ _ (HM1r.out.kept ha2 (by simp)))
                · exact (HM2r.out.kept ha2 (by simp)).kept hg9 (nb _ _ _ (HM2r.out.kept ha2 (by simp)))
              · rw [HN.out]
                exact (HHr.kept ha2 (by simp)).kept hg9 (nb _ _ _ (HHr.kept ha2 (by simp)))
            case measure => simp [intOf]; omega
          · have h7 := hrg6.kept hg7 (by simp; omega) (by simp; omega)
            have e : upd (hadL (hadF (T k)) t.1 left) x true = hadL (hadF (T k)) t.1 (fun i => left i && decide (i ≠ x)) := by
              funext j
              unfold upd hadL
              by_cases hj : j = x
              · subst hj; simp [hfx]
              · simp [hj]
            have hK7 := (HK.out.trans (Kp2.of_grown2 (b1 := w.heap.size) hg6)).trans (Kp2.of_grown1 (b2 := w4.heap.size) hg7)
            go_roundw
            case rel => exact ⟨fun i => left i && decide (i ≠ x), Lib.hid h7.1, Lib.hid (by rw [← e]; exact hw7), Lib.hid hK7⟩
            case measure => rw [h7.2]; exact hlt6
    · obtain rfl : k = m := by omega
      rw [HTL.out] at HTB
      go_wp2_with fail
      go_ret
      exact ⟨⟨_, bs, rfl, HO.out, HTB.out.le (by omega)⟩, HB.out⟩
end Go.Proofs.Ytelnlmhelkcliaa
