/- Top: what is known of a route that is laid: plain.
   Top: on, guided, slices.Reverse, Turned.
   Layout: Match, of paths that are right.
   Top: cheapest. -/
import Derived.Test.YtpakkjkjppibnaaGCheapP
import Derived.Test.YtpakkjkjppibnaaGLongP
import Derived.Test.YtpakkjkjppibnaaKSort
import Derived.Test.YtpakkjkjppibnaaGIns
import Derived.Test.YtpakkjkjppibnaaGDet2
import Derived.Shelf.SlicesQ.Reverse
import Derived.Lib.MinMax
namespace Go.Proofs.Ytpakkjkjppibnaa
open Go.RowKit

theorem tow_back {a b : Ce} (h : adjB a b = true) : towD b a = opp (towD a b) := by
  have e := adj_iff.1 h
  have h1 := tow_beside b (d := opp (towD a b)) (by unfold opp; omega)
  have h2 : besideP b (opp (towD a b)) = a := by
    have := beside_opp a (towD_lt a b)
    rw [← e] at this
    exact this
  rw [h2] at h1
  exact h1
theorem adj_back {a b : Ce} (h : adjB a b = true) : adjB b a = true := by
  rw [adj_iff, tow_back h]
  have := beside_opp a (towD_lt a b)
  rw [← adj_iff.1 h] at this
  exact this.symm
theorem dirs_back : ∀ {p : List Ce}, adjL p = true → dirsL p.reverse = ((dirsL p).map opp).reverse
  | [], _ => rfl
  | [a], _ => rfl
  | a :: b :: l, h => by
    unfold adjL at h
    rw [Bool.and_eq_true] at h
    have ih := dirs_back (p := b :: l) h.2
    rw [List.reverse_cons] at ih
    rw [List.reverse_cons, List.reverse_cons, List.append_assoc, show ([b] : List Ce) ++ [a] = [b, a] from rfl, dirsL_snoc, ih, tow_back h.1]
    show _ = ((towD a b :: dirsL (b :: l)).map opp).reverse
    rw [List.map_cons, List.reverse_cons]
theorem bends_back {p : List Ce} (h : adjL p = true) : bendsL (dirsL p.reverse) = bendsL (dirsL p) := by
  rw [dirs_back h, bendsL_reverse]
  refine bendsL_map fun x hx y hy e => ?_
  have h1 := dirsL_lt p x hx
  have h2 := dirsL_lt p y hy
  unfold opp at e
  omega
theorem rev_get {p : List Ce} {i : Nat} (hi : i < p.length) : p.reverse.getD i (0, 0) = p.getD (p.length - 1 - i) (0, 0) := by
  rw [List.getD_eq_getElem?_getD, List.getD_eq_getElem?_getD, List.getElem?_reverse hi]
theorem adjL_back {p : List Ce} (h : adjL p = true) : adjL p.reverse = true := by
  rw [adjL_iff] at h ⊢
  intro i hi
  rw [List.length_reverse] at hi
  rw [rev_get (by omega), rev_get (by omega)]
  have := h (p.length - 1 - (i + 1)) (by omega)
  rw [show p.length - 1 - (i + 1) + 1 = p.length - 1 - i by omega] at this
  exact adj_back this
theorem check_back {w h mv bd : Int} {bl p : List Ce} (hc : checkF w h mv bd bl p = 0) : checkF w h mv bd bl p.reverse = 0 ∧ costF w h mv bd bl p.reverse = costF w h mv bd bl p := by
  obtain ⟨hv, h1, h2, h3, h4, h5⟩ := checkF_ok hc
  have hc' : checkF w h mv bd bl p.reverse = 0 := by
    unfold checkF checkC
    rw [if_pos hv, List.length_reverse, if_pos ⟨h1, h2⟩, if_pos ⟨adjL_back h3, ((List.reverse_perm p).nodup_iff).2 h4⟩, if_pos]
    rw [List.all_reverse]
    exact h5
  refine ⟨hc', ?_⟩
  unfold costF
  rw [if_pos hc, if_pos hc', List.length_reverse, bends_back h3]

def absI (x : Int) : Int := max x (-x)
theorem path_dist {p : List Ce} (h : adjL p = true) : ∀ k : Nat, k < p.length → absI ((p.getD 0 (0, 0)).1 - (p.getD k (0, 0)).1) + absI ((p.getD 0 (0, 0)).2 - (p.getD k (0, 0)).2) ≤ k
  | 0, _ => by unfold absI; omega
  | k + 1, hk => by
    have ih := path_dist h k (by omega)
    have ha := adj_adjC ((adjL_iff p).1 h k hk)
    unfold AdjC at ha
    unfold absI at *
    omega

/-- what is known of a route that is laid from one cell to another -/
structure RGood (w h : Nat) (mv bd : Int) (bl : List Ce) (x1 y1 x2 y2 : Int) (q : List Ce) (n : Int) : Prop where
  chk : checkF w h mv bd bl q = 0
  fst : q.getD 0 (0, 0) = (x1, y1)
  lst : q.getD (q.length - 1) (0, 0) = (x2, y2)
  cost : ∃ b : Nat, b ≤ 1000 ∧ costF w h mv bd bl q = (((q.length - 1 : Nat) : Int), (b : Int), n, 0) ∧ ((q.length - 1 : Nat) : Int) * mv + (b : Int) * bd = n
  far : ∃ i : Nat, (farP (grK w h mv bd bl bl.length) (x2, y2)).getD i 0 = n ∧ i < w * h ∧ wrap64 (y1 * (w : Int)) = y1 * (w : Int) ∧ wrap64 (y1 * (w : Int) + x1) = (i : Int) ∧ (∀ pf, proofB (grK w h mv bd bl bl.length) (x2, y2) pf = true → pf.getD i 0 ≤ n)
  n0 : 0 ≤ n ∧ n ≤ 10000000
  of : refOpenP w h bl (x1, y1) = true
  ot : refOpenP w h bl (x2, y2) = true
  dist : absI (x1 - x2) + absI (y1 - y2) ≤ ((q.length - 1 : Nat) : Int)
  par : (((q.length - 1 : Nat) : Int) - (absI (x1 - x2) + absI (y1 - y2))).tmod 2 = 0
  small : 0 ≤ x1 ∧ x1 ≤ 29 ∧ 0 ≤ y1 ∧ y1 ≤ 29 ∧ 0 ≤ x2 ∧ x2 ≤ 29 ∧ 0 ≤ y2 ∧ y2 ≤ 29

theorem rgood_of {w h : Nat} {mv bd : Int} {bl : List Ce} {x1 y1 x2 y2 : Int} {q : List Ce} {n : Int} (hb : validP w h mv bd bl = true) (h1 : refOpenP w h bl (x1, y1) = true) (h2 : refOpenP w h bl (x2, y2) = true) (hc : checkF w h mv bd bl q = 0)
    (hn : (costF w h mv bd bl q).2.2 = (n, 0)) (hf : q.getD 0 (0, 0) = (x1, y1)) (hl : q.getD (q.length - 1) (0, 0) = (x2, y2)) (hfar : farCell (grK w h mv bd bl bl.length) (fieldP (grK w h mv bd bl bl.length) (x2, y2)) (x2, y2) (indexP (grK w h mv bd bl bl.length) (x1, y1)).toNat = n) :
    RGood w h mv bd bl x1 y1 x2 y2 q n := by
  obtain ⟨hv, k1, k2, k3, k4, k5⟩ := checkF_ok hc
  have hr := ((validP_iff _ _ _ _ _).1 hv).1
  have hg := grK_ok hb bl.length
  have ht := (open_eq hb (x2, y2)).trans h2
  obtain ⟨i, e1, e2, e3, e4⟩ := cell_num hb h1
  have hbl := bendsL_le (dirsL q)
  rw [dirsL_len] at hbl
  have hce : costF w h mv bd bl q = (((q.length - 1 : Nat) : Int), (bendsL (dirsL q) : Int), ((q.length - 1 : Nat) : Int) * mv + (bendsL (dirsL q) : Int) * bd, 0) := by unfold costF; rw [if_pos hc]
  have hn' : ((q.length - 1 : Nat) : Int) * mv + (bendsL (dirsL q) : Int) * bd = n := by rw [hce] at hn; exact (Prod.mk.inj hn).1
  rw [e1, Int.toNat_natCast] at hfar
  have hd := path_dist k3 (q.length - 1) (by omega)
  have ho := path_odd k3 (q.length - 1) (by omega)
  rw [hf, hl] at hd ho
  obtain ⟨a1, a2, a3, a4, _, _⟩ := open_wf hb h1
  obtain ⟨b1, b2, b3, b4, _, _⟩ := open_wf hb h2
  dsimp only at hd ho a1 a2 a3 a4 b1 b2 b3 b4
  have hn0 : 0 ≤ n ∧ n ≤ 10000000 := by
    have p1 : (0 : Int) ≤ ((q.length - 1 : Nat) : Int) * mv := Int.mul_nonneg (by omega) (by omega)
    have p2 : (0 : Int) ≤ (bendsL (dirsL q) : Int) * bd := Int.mul_nonneg (by omega) (by omega)
    have p3 : ((q.length - 1 : Nat) : Int) * mv ≤ 1000 * 1000 := Int.mul_le_mul (by omega) (by omega) (by omega) (by omega)
    have p4 : (bendsL (dirsL q) : Int) * bd ≤ 1000 * 1000 := Int.mul_le_mul (by omega) (by omega) (by omega) (by omega)
    omega
  refine ⟨hc, hf, hl, ⟨bendsL (dirsL q), by omega, by rw [hce, hn'], hn'⟩, ⟨i, ?_, e2, e3, e4, fun pf hp => ?_⟩, hn0, h1, h2, hd, ?_, by omega⟩
  · rw [farP_atC (show i < (grK w h mv bd bl bl.length).w * (grK w h mv bd bl bl.length).h from e2)]; exact hfar
  · have := proof_far hg hp ht (i := i) (by rw [hfar]; exact hn0.1)
    rwa [hfar] at this
  · rw [Int.tmod_eq_emod_of_nonneg (by omega)]
    unfold absI
    omega

theorem rgood_rt {w h : Nat} {mv bd : Int} {bl : List Ce} {x1 y1 x2 y2 : Int} {q : List Ce} {n : Int} (hr : RtIs w h mv bd bl (x1, y1) (x2, y2) q n 0) : RGood w h mv bd bl x1 y1 x2 y2 q n := by
  generalize hE : (0 : Int) = E at hr
  cases hr with
  | bad => cases hE
  | block => cases hE
  | none => cases hE
  | same hb h1 h2 he =>
    injection he with e1 e2
    subst e1 e2
    obtain ⟨k1, k2⟩ := one_ok hb h1
    have hs := far_self (grK_ok hb bl.length) ((open_eq hb _).trans h1)
    exact rgood_of hb h1 h2 k1 k2 rfl rfl hs
  | some hb h1 h2 n d0 r hf =>
    obtain ⟨k1, k2⟩ := route_ok hb h1 h2 hf
    have hg := grK_ok hb bl.length
    obtain ⟨_, q2, _⟩ := fst_path hg ((open_eq hb _).trans h2) hf
    refine rgood_of hb h1 h2 k1 k2 rfl (getDlast.trans q2) ?_
    unfold farCell
    have hf' : Fst (grK w h mv bd bl bl.length) (x2, y2) (x1, y1) n d0 r := hf
    rw [cell_index hg (openP_on ((open_eq hb _).trans h1)), if_neg hf'.ne, if_pos ((open_eq hb _).trans h1), hf'.beg]

/-- where there is no route the table says so -/
theorem none_far {w h : Nat} {mv bd : Int} {bl : List Ce} {x1 y1 x2 y2 : Int} {q : List Ce} {n : Int} (hr : RtIs w h mv bd bl (x1, y1) (x2, y2) q n 5) :
    q = [] ∧ n = 0 ∧ refOpenP w h bl (x1, y1) = true ∧ refOpenP w h bl (x2, y2) = true ∧ ∃ i : Nat, (farP (grK w h mv bd bl bl.length) (x2, y2)).getD i 0 = -1 ∧ i < w * h ∧ wrap64 (y1 * (w : Int)) = y1 * (w : Int) ∧ wrap64 (y1 * (w : Int) + x1) = (i : Int) := by
  generalize hE : (5 : Int) = E at hr
  cases hr with
  | bad => cases hE
  | block => cases hE
  | same => cases hE
  | some => cases hE
  | none hb h1 h2 he hn =>
    have hg := grK_ok hb bl.length
    obtain ⟨i, e1, e2, e3, e4⟩ := cell_num hb h1
    refine ⟨rfl, rfl, h1, h2, i, ?_, e2, e3, e4⟩
    rw [farP_atC (show i < (grK w h mv bd bl bl.length).w * (grK w h mv bd bl bl.length).h from e2), ← Int.toNat_natCast i, ← e1]
    unfold farCell
    rw [cell_index hg (openP_on ((open_eq hb _).trans h1)), if_neg he, if_pos ((open_eq hb _).trans h1)]
    rcases begins_way hg ((open_eq hb _).trans h2) (x1, y1) with ⟨h5, _⟩ | ⟨h5, _⟩
    · exact h5
    · have := h5.pos hg
      have hn' : (beginsP (grK w h mv bd bl bl.length) (fieldP (grK w h mv bd bl bl.length) (x2, y2)) (x1, y1) 4).1 < 0 := hn
      omega
end Go.Proofs.Ytpakkjkjppibnaa

namespace Go.Proofs
open Go.Shelf Go.RowKit Go.Lib Go.Sort
def Try.revX_ren : Go.Shelf.Ren := ⟨fun | 35 => 96 | n => n, fun | 22 => 22 | 23 => 26 | 3 => 3 | 4 => 4 | 0 => 0 | n => n, fun | n => n⟩
theorem Try.revX : Go.Proofs.SlLaysE0.n35 Try.prog Try.revX_ren := {
  mixed := by kernel_rfl
  f35 := ⟨Try.f96.name, by decide, Try.func96.trans (congrArg some (by kernel_rfl))⟩
  t0 := Try.underlying0
  a0 := Try.isAgg0
  z0 := Try.sizeOf0
  v0 := Try.zeroValue0
  t3 := Try.underlying3
  a3 := Try.isAgg3
  z3 := Try.sizeOf3
  v3 := Try.zeroValue3
  t4 := Try.underlying4
  a4 := Try.isAgg4
  z4 := Try.sizeOf4
  v4 := Try.zeroValue4
  t22 := Try.underlying22
  a22 := Try.isAgg22
  z22 := Try.sizeOf22
  v22 := Try.zeroValue22 }
end Go.Proofs
namespace Go.Proofs.Ytpakkjkjppibnaa
open Go.RowKit Go.Sort Go.Lib

section
variable {P : Program} {ρ : Go.Shelf.Ren} {α : Type} [Inhabited α]
theorem rev_own (L : SlLaysE0.n35 P ρ) (k : Nat) (hk0 : 0 < k) (aE : ∀ w, (isAgg (ρ.t 23)).run P w = .ok true w) (zE : ∀ w, (Go.sizeOf (ρ.t 23)).run P w = .ok k w) (enc : α → List Value) (hk : ∀ x, (enc x).length = k) (h1 : ∀ x, ∀ v ∈ enc x, v.oneCell' = true)
    (B : Nat) (e : TypeId) (v : Value) (l : List α) (w : World) (ho : w.ownsRow B e k v l.length (l.flatMap enc)) (hsm : l.length ≤ 4000000) :
    Calls P (ρ.f 35) #[v] w fun r w' => r = .returned (.tuple #[]) ∧ w'.ownsRow B e k v l.length (l.reverse.flatMap enc) ∧ w.grownBy w' v.ownBlock := by
  have hgn : ∀ X, w.grownBy w X := fun X => ⟨rfl, rfl, rfl, Nat.le_refl _, fun _ _ _ => rfl⟩
  by_cases hn : l.length = 0
  · obtain ⟨a, c, rfl⟩ := own_form ho
    have hl : l = [] := List.length_eq_zero_iff.1 hn
    have h0 := AnyQ.slices_Reverse_empty L a c w
    rw [hn]
    refine h0.mono fun r w' hh => ⟨hh.1, ?_, by rw [hh.2]; exact hgn _⟩
    rw [hh.2, hl]
    rw [hn, hl] at ho
    exact ho
  · rcases ho.2 with ⟨_, h0⟩ | ⟨gb, cap, cur, rfl, hB, hg, hcap, hmax, hcs, htake⟩
    · exact absurd h0 hn
    have hgl : gb < w.heap.size := (Array.getElem?_eq_some_iff.1 hg).1
    have hmul : l.length * k ≤ cur.size := by rw [hcs]; exact Nat.mul_le_mul_right _ hcap
    have hcur : ∀ j, j < l.length * k → cur[j]? = some ((flatK enc k l.toArray)[j]!) := fun j hj => by
      have h2 := flatK_at hk hk0 l.toArray j hj
      rw [← htake, List.getElem?_take_of_lt hj] at h2
      rw [← Array.getElem?_toList, h2]
    have hH : HoldsK enc k w gb 0 l.toArray := by
      intro j hj
      rw [size_flatK] at hj
      refine ⟨?_, by simp [World.frozen?, hg]⟩
      simp only [World.cell?, hg, Nat.zero_add]
      simp only [Option.isSome_none, Bool.false_eq_true, if_false]
      exact hcur j hj
    have hs := AnyQ.slices_Reverse L k aE zE enc hk h1 gb 0 cap l.toArray w hH (by rw [show l.toArray.size = l.length from rfl]; omega)
    refine hs.mono fun r w' hh => ?_
    obtain ⟨rfl, n, rfl⟩ := hh
    obtain ⟨d', hd'⟩ : ∃ d', l.toArray.reverse = d' := ⟨_, rfl⟩
    have hd2 : d'.toList = l.reverse := by rw [← hd']; simp
    have hd : d'.toList.length = l.length := by rw [hd2, List.length_reverse]
    have hds : d'.size = l.length := by rw [← Array.length_toList]; exact hd
    rw [hd', ← hd2]
    refine ⟨rfl, ⟨by rw [flat_len hk, hd], .inr ⟨gb, cap, putCells id 0 (flatK enc k d') cur, rfl, hB, ?_, hcap, hmax, by simp [putCells, hcs], ?_⟩⟩, ?_⟩
    · unfold putRowK
      simp [putRow, mapBlock, Sort.ahead, Array.getElem?_modify, hg, onCells]
    · apply List.ext_getElem?
      intro j
      by_cases hj : j < l.length * k
      · have hj' : j < d'.size * k := by rw [hds]; exact hj
        rw [List.getElem?_take_of_lt hj, Array.getElem?_toList, flatK_at hk hk0 d' j hj']
        have : j < (flatK enc k d').size := by rw [size_flatK]; exact hj'
        simp only [putCells, Array.getElem?_mapIdx, Nat.zero_add, Nat.sub_zero, Nat.zero_le, true_and]
        rw [Array.getElem?_eq_getElem (by omega), Option.map_some, if_pos this]
        rfl
      · rw [List.getElem?_take_eq_none (by omega), List.getElem?_eq_none (by rw [flat_len hk, hd]; omega)]
    · unfold putRowK
      refine ⟨rfl, rfl, rfl, by simp [putRow, mapBlock, Sort.ahead], fun j hj hne => ?_⟩
      have : gb ≠ j := fun e => hne (by rw [← e]; rfl)
      simp [putRow, mapBlock, Sort.ahead, Array.getElem?_modify, this]
end
theorem isAggXY (w : World) : (isAgg 26).run Try.prog w = .ok true w := by kernel_rfl
theorem sizeXY (w : World) : (Go.sizeOf 26).run Try.prog w = .ok 2 w := by kernel_rfl
theorem rev_any (B : Nat) (v : Value) (l : List Ce) (w : World) (ho : w.ownsRow B 26 2 v l.length (pairs l)) (hsm : l.length ≤ 4000000) :
    Calls Try.prog 96 #[v] w fun r w' => r = .returned (.tuple #[]) ∧ w'.ownsRow B 26 2 v l.length (pairs l.reverse) ∧ w.grownBy w' v.ownBlock :=
  rev_own Try.revX 2 (by decide) isAggXY sizeXY (fun x : Ce => [.int .i64 x.1, .int .i64 x.2]) (fun _ => rfl) (fun x v hv => by simp at hv; rcases hv with rfl | rfl <;> rfl) B 26 v l w ho hsm

set_option maxRecDepth 100000 in
theorem Turned_any (p : List Ce) (v : Value) (W : World) (hv : RdP W v p) (h1 : 1 ≤ p.length) (h2 : p.length ≤ 1000) :
    Calls Try.prog 73 #[v] W fun e w' => (∃ u, e = .returned (.tuple #[u, .int .i64 0]) ∧ w'.ownsRow W.heap.size 26 2 u p.reverse.length (pairs p.reverse)) ∧ Below W.heap.size W w' := by
  have HCL := Lib.hid (fun V (hr : RdP V v p) => clone_xy v p V hr (by omega) (by omega))
  have HV := Lib.hid hv
  obtain ⟨a, c, rfl⟩ := RdP.form hv
  have HREV := Lib.hid (fun B u V ho => rev_any B u p V ho (by omega))
  have HBT := Lib.hid (fun V => between_any 1 (p.length : Int) 1000 V)
  rw [show (decide ((1 : Int) ≤ (p.length : Int)) && decide ((p.length : Int) ≤ 1000)) = true by rw [decide_eq_true (by omega), decide_eq_true (by omega)]; rfl] at HBT
  rw [List.length_reverse]
  obtain ⟨n, hn⟩ : ∃ n, p.length = n := ⟨_, rfl⟩
  have HN := Lib.hid hn
  rw [hn] at HCL HBT HREV h1 h2 ⊢
  clear hv hn
  go_enter Try.func73, Try.ntmps73
  go_wp2_with (first
    | (go_at_call 52; (with_reducible refine (HBT.out _).mono ?_); rintro e w3 ⟨rfl, rfl⟩)
    | (go_at_call 66; refine (HCL.out _ (by rw [← HN.out]; exact HV.out)).mono ?_; rintro e w4 ⟨u4, rfl, ho4, hb4⟩; have HO4 := Lib.hid ho4; have HB4 := Lib.hid hb4; clear ho4 hb4)
    | (go_at_call 96; refine (HREV.out _ _ _ HO4.out).mono ?_; rintro e w5 ⟨rfl, ho5, hg5⟩; have HO5 := Lib.hid ho5; have HB5 := Lib.hid (HB4.out.grown hg5 HB4.out.size (fun j e => (HO4.out.lt j e).1)); clear ho5 hg5))
  go_ret2
  exact ⟨⟨_, rfl, HO5.out⟩, HB5.out⟩

set_option maxRecDepth 100000 in
theorem topOn_any (w h mv bd : Int) (bv : Value) (bl : List Ce) (x y : Int) (W : World) (hv : RdP W bv bl) :
    Calls Try.prog 35 #[.agg #[.int .i64 w, .int .i64 h, .int .i64 mv, .int .i64 bd, bv], .agg #[.int .i64 x, .int .i64 y]] W fun e w' => e = .returned (.bool (onP w h (x, y))) ∧ Below W.heap.size W w' := by
  have HBW := Lib.hid (((Below.refl W.heap.size W).alloc (Nat.le_refl _) (.cells #[.int .i64 w, .int .i64 h, .int .i64 mv, .int .i64 bd, bv] 24)).alloc (by simp) (.cells #[.int .i64 x, .int .i64 y] 26))
  obtain ⟨a, cap, rfl⟩ := RdP.form hv
  clear hv
  have HF : Hid (onP w h (x, y) = (decide (0 ≤ x) && decide (x < w) && decide (0 ≤ y) && decide (y < h))) := Lib.hid (by
    unfold onP
    rw [show decide (x ≤ w - 1) = decide (x < w) from decide_eq_decide.2 (by omega), show decide (y ≤ h - 1) = decide (y < h) from decide_eq_decide.2 (by omega), Bool.and_assoc, Bool.and_assoc, Bool.and_assoc])
  rw [HF.out]
  cases b1 : decide (0 ≤ x) <;> cases b2 : decide (x < w) <;> cases b3 : decide (0 ≤ y) <;> cases b4 : decide (y < h) <;> (
    go_enter Try.func35, Try.ntmps35
    go_wp2_with fail
    go_ret
    exact ⟨rfl, HBW.out⟩)

theorem guided_far : farF 2 1 3 0 [] (1, 0) = ([3, 0], 0) := by decide +kernel
set_option maxRecDepth 100000 in
theorem guided_any (W : World) : Calls Try.prog 34 #[] W fun e w' => e = .returned (.bool true) ∧ Below W.heap.size W w' := by
  have HF := Lib.hid (far_any 2 1 3 0 (.slice none 0 0) [] (1, 0) W (RdP.nil W))
  rw [guided_far] at HF
  dsimp only at HF
  go_enter Try.func34, Try.ntmps34
  go_wp2_with (go_at_call 14; refine HF.out.mono ?_; rintro e w1 ⟨⟨v, rfl, ho⟩, hb1⟩; (obtain ⟨g, c, rfl, _, _⟩ := own_some ho (by decide)); (have c0 : w1.cell? ⟨g, 0, none⟩ = some (.int .i64 3) := ho.cellAt 0 (by decide)); (simp only [List.length_cons, List.length_nil, Nat.zero_add]); clear ho)
  go_ret
  exact ⟨rfl, hb1⟩
end Go.Proofs.Ytpakkjkjppibnaa

namespace Go.Proofs.Ytpakkjkjppibnaa
open Go.RowKit

/-- the greatest length of the first k paths -/
def mxL (ps : List (List Ce)) : Nat → Nat
  | 0 => 0
  | k + 1 => max (mxL ps k) (ps.getD k []).length
theorem mxL_ge (ps : List (List Ce)) : ∀ k i, i < k → (ps.getD i []).length ≤ mxL ps k
  | 0, i, h => absurd h (Nat.not_lt_zero _)
  | k + 1, i, h => by
    unfold mxL
    rcases Nat.lt_succ_iff_lt_or_eq.1 h with h | rfl
    · have := mxL_ge ps k i h; omega
    · omega
theorem mxL_le {ps : List (List Ce)} {B : Nat} (h : ∀ p ∈ ps, p.length ≤ B) : ∀ k, mxL ps k ≤ B
  | 0 => Nat.zero_le _
  | k + 1 => by
    have h1 := mxL_le h k
    have h2 : (ps.getD k []).length ≤ B := by
      by_cases hk : k < ps.length
      · exact h _ (by rw [List.getD_eq_getElem?_getD, List.getElem?_eq_getElem hk]; exact List.getElem_mem _)
      · rw [List.getD_eq_getElem?_getD, List.getElem?_eq_none (by omega)]; simp
    unfold mxL
    omega
def moreL (M : Nat) (ps : List (List Ce)) : List Int := ps.map fun p => (M : Int) - (p.length : Int)

set_option maxRecDepth 100000 in
set_option maxHeartbeats 2000000 in
theorem Match_any (w h mv bd : Int) (bv : Value) (bl : List Ce) (ps : List (List Ce)) (v : Value) (W : World) (hb : RdP W bv bl) (hv : RdPP W v ps) (hw : ∀ p ∈ ps, WfL p) (hC : chkF w h mv bd bl ps = 0) :
    Calls Try.prog 74 #[.agg #[.int .i64 w, .int .i64 h, .int .i64 mv, .int .i64 bd, bv], v] W fun e w' => Below W.heap.size W w' ∧
      ∃ u E l, e = .returned (.tuple #[u, .int .i64 E]) ∧ w'.ownsRow W.heap.size 3 1 u l.length (ints l) ∧ (E = 2 ∨ E = 0 ∧ l = moreL (mxL ps ps.length) ps ∧ ∀ p ∈ ps, ((mxL ps ps.length : Int) - (p.length : Int)).tmod 2 = 0) := by
  have HBW := Lib.hid ((Below.refl W.heap.size W).alloc (Nat.le_refl _) (.cells #[.int .i64 w, .int .i64 h, .int .i64 mv, .int .i64 bd, bv] 24))
  have HCK := Lib.hid (fun V (hV : Below W.heap.size W V) => checked_any w h mv bd bv bl ps v V (hb.below hV) (hv.below hV) hw)
  rw [hC] at HCK
  obtain ⟨_, h12, hall⟩ := chkF_ok hC
  have hlen : ∀ p ∈ ps, p.length ≤ 1000 := fun p hp => (checkF_ok (hall p hp)).2.2.1
  have HMX := Lib.hid (fun k => mxL_le hlen k)
  have HLE := Lib.hid hlen
  obtain ⟨vs, av, cv, rfl, hvl, hcv, hav, hrd⟩ := hv.parts
  obtain ⟨a, cap, rfl⟩ := RdP.form hb
  obtain ⟨N, hN⟩ : ∃ N, vs.length = N := ⟨_, rfl⟩
  rw [hN] at hvl hcv HCK ⊢
  have hN12 : N ≤ 12 := by omega
  have HAV := Lib.hid hav
  have HRD := Lib.hid hrd
  have HNN := Lib.hid hN
  have HPL := Lib.hid hvl
  clear hb hv hw hC h12 hall hlen hav hrd hN hvl
  go_enter Try.func74, Try.ntmps74
  go_wp2_with (go_at_call 91; (with_reducible refine (HCK.out _ HBW.out).mono ?_); rintro e w1 ⟨⟨x, rfl⟩, hb1⟩; have HB1 := Lib.hid (HBW.out.trans (hb1.mono HBW.out.size)); clear hb1)
  go_loopw [8, 25] (fun p8 p25 wr => ∃ k : Nat, k ≤ N ∧ p8 = .int .i64 (mxL ps k) ∧ p25 = .int .i64 k ∧ Hid (Below w1.heap.size w1 wr)) (fun _ p25 _ => N - (intOf p25).toNat)
  case atStart => exact ⟨0, Nat.zero_le _, rfl, rfl, Lib.hid (Below.refl _ _)⟩
  case round =>
    obtain ⟨k, hk, rfl, rfl, HB⟩ := hrel
    by_cases hkN : k < N
    · have hkN' : (k : Int) < (N : Int) := by omega
      obtain ⟨u, hu⟩ : ∃ u, vs[k]? = some u := ⟨_, List.getElem?_eq_getElem (by rw [HNN.out]; exact hkN)⟩
      obtain ⟨p, hp⟩ : ∃ p, ps[k]? = some p := ⟨_, List.getElem?_eq_getElem (by rw [← HPL.out]; exact hkN)⟩
      obtain ⟨ua, uc, rfl⟩ := RdP.form (HRD.out k u p hu hp)
      rcases HAV.out with hnil | ⟨bs, os, rfl, hcell⟩
      · rw [hnil] at hu; simp at hu
      have q0 := cell_below (hcell k _ hu) (HB1.out.trans (HB.out.mono HB1.out.size))
      have HX : Hid (mxL ps (k + 1) = max (mxL ps k) p.length) := Lib.hid (by
        show max (mxL ps k) (ps.getD k []).length = _
        rw [List.getD_eq_getElem?_getD, hp]; rfl)
      obtain ⟨n, hn⟩ : ∃ n, p.length = n := ⟨_, rfl⟩
      rw [hn] at q0 HX
      obtain ⟨m, hm⟩ : ∃ m, mxL ps k = m := ⟨_, rfl⟩
      rw [hm] at HX ⊢
      clear hcell hu hp hn hm
      go_wp2_with fail
      go_roundw
      case rel => exact ⟨k + 1, by omega, by rw [HX.out]; congr 1; omega, by go_num, HB⟩
      case measure => simp [intOf]; omega
    · obtain rfl : k = N := by omega
      obtain ⟨M, hM⟩ : ∃ M, mxL ps k = M := ⟨_, rfl⟩
      have HM := Lib.hid hM
      have hM9 := HMX.out k
      rw [hM] at hM9 ⊢
      clear hM
      go_wp2_with fail
      obtain ⟨wo, rfl⟩ : ∃ wo, wo = wr := ⟨_, rfl⟩
      go_loopw [11, 36] (fun p11 p36 wr => ∃ (j : Nat) (a' : Option Addr) (c' : Nat), j ≤ k ∧ p11 = .slice a' j c' ∧ p36 = .int .i64 j ∧ Hid (Below wo.heap.size wo wr) ∧ Hid (wr.ownsRow wo.heap.size 3 1 (.slice a' j c') j (ints (moreL M (ps.take j)))) ∧ Hid (∀ i p, i < j → ps[i]? = some p → ((M : Int) - (p.length : Int)).tmod 2 = 0)) (fun _ p36 _ => k - (intOf p36).toNat)
      case atStart => exact ⟨0, none, 0, Nat.zero_le _, rfl, rfl, Lib.hid (Below.refl _ _), Lib.hid (World.ownsRow_nil _ _ _ _), Lib.hid (fun i p h => absurd h (Nat.not_lt_zero _))⟩
      case round =>
        obtain ⟨j, a', c', hj, rfl, rfl, HB2, HO, HP⟩ := hrel
        have HBB := Lib.hid (HB1.out.trans ((HB.out.trans (HB2.out.mono HB.out.size)).mono HB1.out.size))
        by_cases hjk : j < k
        · have hjk' : (j : Int) < (k : Int) := by omega
          obtain ⟨u, hu⟩ : ∃ u, vs[j]? = some u := ⟨_, List.getElem?_eq_getElem (by rw [HNN.out]; exact hjk)⟩
          obtain ⟨p, hp⟩ : ∃ p, ps[j]? = some p := ⟨_, List.getElem?_eq_getElem (by rw [← HPL.out]; exact hjk)⟩
          obtain ⟨ua, uc, rfl⟩ := RdP.form (HRD.out j u p hu hp)
          rcases HAV.out with hnil | ⟨bs, os, rfl, hcell⟩
          · rw [hnil] at hu; simp at hu
          have q0 := cell_below (hcell j _ hu) HBB.out
          have HX : Hid (ints (moreL M (ps.take (j + 1))) = ints (moreL M (ps.take j)) ++ [.int .i64 ((M : Int) - (p.length : Int))]) := Lib.hid (by
            rw [List.take_add_one, hp]; simp [moreL, ints])
          have hnM : p.length ≤ M := by
            have := mxL_ge ps k j hjk
            rw [List.getD_eq_getElem?_getD, hp] at this
            rw [← HM.out]
            exact this
          have HPJ := Lib.hid hp
          obtain ⟨n, hn⟩ : ∃ n, p.length = n := ⟨_, rfl⟩
          have HNJ := Lib.hid hn
          rw [hn] at q0 HX hnM
          have hw1 : IntKind.i64.wrap ((M : Int) - (n : Int)) = (M : Int) - (n : Int) := IntWalk.i64_in _ (by omega)
          clear hcell hu hp hn
          by_cases hpar : ((M : Int) - (n : Int)).tmod 2 = 0
          · have hpb : (((M : Int) - (n : Int)) % 2 != 0) = false := by rw [← Int.tmod_eq_emod_of_nonneg (by omega), hpar]; rfl
            have HPN := Lib.hid hpar
            clear hpar
            go_wp2_with (at_builtin; refine app1 el_num rfl rfl (w0 := wo) rfl (by rfl) (by exact HB2.out) (by exact HO.out) rfl (by omega) ?_; intro v9 w9 ho9 hb9 hg9; obtain ⟨a9, c9, rfl⟩ := own_form ho9; have HB9 := Lib.hid hb9; have HO9 := Lib.hid ho9; clear ho9 hb9 hg9)
            go_roundw
            case rel => exact ⟨j + 1, a9, c9, by omega, rfl, by go_num, HB9, Lib.hid (by rw [HX.out]; exact HO9.out), Lib.hid (fun i r hi hr => by
              rcases Nat.lt_succ_iff_lt_or_eq.1 hi with h1 | h1
              · exact HP.out i r h1 hr
              · rw [h1, HPJ.out] at hr
                rw [← Option.some.inj hr, HNJ.out]
                exact HPN.out)⟩
            case measure => simp [intOf]; omega
          · have hpb : (((M : Int) - (n : Int)) % 2 != 0) = true := by
              rw [← Int.tmod_eq_emod_of_nonneg (by omega)]
              exact bne_iff_ne.2 hpar
            clear hpar
            go_wp2_with fail
            go_ret2
            exact ⟨HBB.out, _, _, [], rfl, World.ownsRow_nil _ _ _ _, .inl rfl⟩
        · obtain rfl : j = k := by omega
          have HFIN : Hid (moreL M (ps.take j) = moreL (mxL ps ps.length) ps ∧ ∀ p ∈ ps, ((mxL ps ps.length : Int) - (p.length : Int)).tmod 2 = 0) := Lib.hid (by
            rw [← HPL.out, HM.out]
            refine ⟨by rw [List.take_of_length_le]; rw [← HPL.out]; exact Nat.le_refl _, fun p hp => ?_⟩
            obtain ⟨i, hi, e⟩ := List.mem_iff_getElem.1 hp
            exact HP.out i p (by rw [HPL.out]; exact hi) (by rw [List.getElem?_eq_getElem hi, e]))
          have HLN : Hid ((moreL M (ps.take j)).length = j) := Lib.hid (by
            unfold moreL
            rw [List.length_map, List.length_take, ← HPL.out]; omega)
          go_wp2_with fail
          go_ret2
          exact ⟨HBB.out, _, _, moreL M (ps.take j), rfl, by rw [HLN.out]; exact own_le HO.out (Nat.le_trans HB1.out.size HB.out.size), .inr ⟨rfl, HFIN.out.1, HFIN.out.2⟩⟩
end Go.Proofs.Ytpakkjkjppibnaa

namespace Go.Proofs.Ytpakkjkjppibnaa
open Go.RowKit

def PrAt (V : World) (B : Nat) (x1 y1 x2 y2 : Int) : Prop := V.cell? ⟨B, 0, none⟩ = some (.int .i64 x1) ∧ V.cell? ⟨B, 1, none⟩ = some (.int .i64 y1) ∧ V.cell? ⟨B, 2, none⟩ = some (.int .i64 x2) ∧ V.cell? ⟨B, 3, none⟩ = some (.int .i64 y2)
theorem PrAt.below {V V' : World} {B : Nat} {x1 y1 x2 y2 : Int} (h : PrAt V B x1 y1 x2 y2) (hb : Below V.heap.size V V') : PrAt V' B x1 y1 x2 y2 := ⟨cell_below h.1 hb, cell_below h.2.1 hb, cell_below h.2.2.1 hb, cell_below h.2.2.2 hb⟩
theorem PrAt.new (W : World) (x1 y1 x2 y2 : Int) (t : TypeId) (B : Nat) (hB : B = W.heap.size) : PrAt (W.alloc (.cells #[.int .i64 x1, .int .i64 y1, .int .i64 x2, .int .i64 y2] t)) B x1 y1 x2 y2 :=
  ⟨World.cell?_alloc_at _ _ _ _ hB, World.cell?_alloc_at _ _ _ _ hB, World.cell?_alloc_at _ _ _ _ hB, World.cell?_alloc_at _ _ _ _ hB⟩

/-- the ends of a route, where they lie -/
theorem route_ends {W : World} {v : Value} {q : List Ce} (hp : RdP W v q) (h1 : 1 ≤ q.length) {x1 y1 x2 y2 : Int} (hf : q.getD 0 (0, 0) = (x1, y1)) (hl : q.getD (q.length - 1) (0, 0) = (x2, y2)) : ∃ b o c, v = .slice (some ⟨b, o, none⟩) q.length c ∧
    W.cell? ⟨b, o, none⟩ = some (.int .i64 x1) ∧ W.cell? ⟨b, o + 1, none⟩ = some (.int .i64 y1) ∧ W.cell? ⟨b, o + (q.length - 1) * 2, none⟩ = some (.int .i64 x2) ∧ W.cell? ⟨b, o + (q.length - 1) * 2 + 1, none⟩ = some (.int .i64 y2) := by
  obtain ⟨ap, cp, rfl, hcp, _, hap, _⟩ := hp
  have e0 := (RdP.cell hap (j := 0) (x := (x1, y1)) (by rw [← hf, List.getD_eq_getElem?_getD, List.getElem?_eq_getElem (by omega)]; rfl))
  have e9 := (RdP.cell hap (j := q.length - 1) (x := (x2, y2)) (by rw [← hl, List.getD_eq_getElem?_getD, List.getElem?_eq_getElem (by omega)]; rfl))
  obtain ⟨bp, off, rfl, f1, f2⟩ := e0
  obtain ⟨bp', off', ee, f3, f4⟩ := e9
  obtain ⟨rfl, rfl⟩ : bp = bp' ∧ off = off' := by simpa using ee
  simp only [Nat.zero_mul, Nat.add_zero] at f1 f2
  exact ⟨bp, off, cp, rfl, f1, f2, f3, f4⟩
/-- a number of a list of numbers, where it lies -/
theorem num_at {w : World} {v : Value} {l : List Int} (h : Rd w v (ints l)) {i : Nat} {n : Int} (hi : i < l.length) (hv : l.getD i 0 = n) : ∃ b o c, v = .slice (some ⟨b, o, none⟩) l.length c ∧ w.cell? ⟨b, o + i, none⟩ = some (.int .i64 n) := by
  obtain ⟨a, c, rfl, _, _, ha, _⟩ := Rd.parts h (show (ints l).length = l.length by simp [ints])
  obtain ⟨b, off, rfl, hc⟩ := ha.cell (j := i) (by simp [ints]; exact hi)
  refine ⟨b, off, c, rfl, hc i _ ?_⟩
  rw [show (ints l)[i]? = some (Value.int .i64 (l.getD i 0)) by simp [ints, List.getD_eq_getElem?_getD, List.getElem?_eq_getElem hi], hv]

set_option maxRecDepth 100000 in
set_option maxHeartbeats 4000000 in
theorem cheapest_any (w h : Nat) (mv bd : Int) (bv : Value) (bl : List Ce) (x1 y1 x2 y2 : Int) (qv : Value) (q : List Ce) (n : Int) (fv : Value) (W : World) (hv : RdP W bv bl) (hq : RdP W qv q) (hR : RGood w h mv bd bl x1 y1 x2 y2 q n)
    (hf : Rd W fv (ints (farP (grK w h mv bd bl bl.length) (x2, y2)))) :
    Calls Try.prog 36 #[.agg #[.int .i64 w, .int .i64 h, .int .i64 mv, .int .i64 bd, bv], .agg #[.int .i64 x1, .int .i64 y1, .int .i64 x2, .int .i64 y2], qv, .int .i64 n, fv] W fun e w' => e = .returned (.bool true) ∧ Below W.heap.size W w' := by
  have hBW : Below W.heap.size W ((W.alloc (.cells #[.int .i64 w, .int .i64 h, .int .i64 mv, .int .i64 bd, bv] 24)).alloc (.cells #[.int .i64 x1, .int .i64 y1, .int .i64 x2, .int .i64 y2] 61)) := ((Below.refl W.heap.size W).alloc (Nat.le_refl _) _).alloc (by simp) _
  have HGX := Lib.hid ((GBx.new1 W w h mv bd bv 24).below (bel1 _ (.cells #[.int .i64 x1, .int .i64 y1, .int .i64 x2, .int .i64 y2] 61)))
  have HPX := Lib.hid (PrAt.new (W.alloc (.cells #[.int .i64 w, .int .i64 h, .int .i64 mv, .int .i64 bd, bv] 24)) x1 y1 x2 y2 61 (W.heap.size + 1) (by simp))
  obtain ⟨hv1, k1, k2, k3, k4, k5⟩ := checkF_ok hR.chk
  have hwf : ∀ p : List Ce, checkF w h mv bd bl p = 0 → WfL p := fun p hp y hy => (open_wf hv1 (List.all_eq_true.1 (checkF_ok hp).2.2.2.2.2 y hy)).2.2.2.2
  obtain ⟨hc2, hce⟩ := check_back hR.chk
  have HCO := Lib.hid (fun V (hV : Below W.heap.size W V) => Cost_any w h mv bd bv bl q qv V (hv.below hV) (hq.below hV) (hwf q hR.chk))
  have HCB := Lib.hid (fun u V (hV : Below W.heap.size W V) (hr : RdP V u q.reverse) => Cost_any w h mv bd bv bl q.reverse u V (hv.below hV) hr (hwf _ hc2))
  have HTU := Lib.hid (fun V (hV : Below W.heap.size W V) => Turned_any q qv V (hq.below hV) k1 k2)
  obtain ⟨b, hb1, hcost, hval⟩ := hR.cost
  rw [hce, hcost] at HCB
  rw [hcost] at HCO
  obtain ⟨i, hi1, hi2, hi3, hi4, _⟩ := hR.far
  obtain ⟨bf, of', cf, rfl, hfc⟩ := num_at hf (by rw [farP_lenC]; exact hi2) hi1
  obtain ⟨bq, oq, cq, rfl, f1, f2, f3, f4⟩ := route_ends hq k1 hR.fst hR.lst
  obtain ⟨N, hN⟩ : ∃ N, (farP (grK w h mv bd bl bl.length) (x2, y2)).length = N := ⟨_, rfl⟩
  have hiN : i < N := by rw [← hN, farP_lenC]; exact hi2
  have hr := ((validP_iff _ _ _ _ _).1 hv1).1
  obtain ⟨n1, n2⟩ := hR.n0
  have hd := hR.dist
  have hp := hR.par
  obtain ⟨s1, s2, s3, s4, s5, s6, s7, s8⟩ := hR.small
  obtain ⟨a, cap, rfl⟩ := RdP.form hv
  rw [hN] at hf ⊢
  have HCOPY := Lib.hid (And.intro f1 (And.intro f2 (And.intro f3 (And.intro f4 hfc))))
  obtain ⟨m, hm⟩ : ∃ m, q.length = m := ⟨_, rfl⟩
  rw [hm] at HCO HCB HTU HCOPY k1 k2 hd hp hval ⊢
  obtain ⟨s, hs⟩ : ∃ s, m - 1 = s := ⟨_, rfl⟩
  rw [hs] at HCO HCB HCOPY hd hp hval
  have hsm : m = s + 1 := by omega
  subst hsm
  dsimp only at HCO HCB
  have hq1 : (0 : Int) ≤ (s : Int) * mv := Int.mul_nonneg (by omega) (by omega)
  have hq2 : (0 : Int) ≤ (b : Int) * bd := Int.mul_nonneg (by omega) (by omega)
  obtain ⟨P1, hP1⟩ : ∃ P1, (s : Int) * mv = P1 := ⟨_, rfl⟩
  obtain ⟨P2, hP2⟩ : ∃ P2, (b : Int) * bd = P2 := ⟨_, rfl⟩
  rw [hP1] at hq1 hval
  rw [hP2] at hq2 hval
  obtain ⟨dx, hdx⟩ : ∃ dx, x1 - x2 = dx := ⟨_, rfl⟩
  obtain ⟨dy, hdy⟩ : ∃ dy, y1 - y2 = dy := ⟨_, rfl⟩
  rw [hdx, hdy] at hd hp
  obtain ⟨ax, hax⟩ : ∃ ax, absI dx = ax := ⟨_, rfl⟩
  obtain ⟨ay, hay⟩ : ∃ ay, absI dy = ay := ⟨_, rfl⟩
  rw [hax, hay] at hd hp
  obtain ⟨D, hD⟩ : ∃ D, ax + ay = D := ⟨_, rfl⟩
  rw [hD] at hd hp
  obtain ⟨R, hRR⟩ : ∃ R, (s : Int) - D = R := ⟨_, rfl⟩
  rw [hRR] at hp
  have hax2 : max dx (-dx) = ax := hax
  have hay2 : max dy (-dy) = ay := hay
  have b1 : 0 ≤ ax ∧ ax ≤ 29 ∧ 0 ≤ ay ∧ ay ≤ 29 := by unfold absI at hax hay; omega
  have m1 : IntKind.i64.wrap ((s : Int) * mv) = P1 := by rw [hP1]; exact IntWalk.i64_in _ (by omega)
  have m2 : IntKind.i64.wrap ((b : Int) * bd) = P2 := by rw [hP2]; exact IntWalk.i64_in _ (by omega)
  have m3 : IntKind.i64.wrap (P1 + P2) = n := by rw [hval]; exact IntWalk.i64_in _ (by omega)
  have m4 : IntKind.i64.wrap (x1 - x2) = dx := by rw [hdx]; exact IntWalk.i64_in _ (by omega)
  have m5 : IntKind.i64.wrap (y1 - y2) = dy := by rw [hdy]; exact IntWalk.i64_in _ (by omega)
  have m6 : IntKind.i64.wrap (-dx) = -dx := IntWalk.i64_in _ (by omega)
  have m7 : IntKind.i64.wrap (-dy) = -dy := IntWalk.i64_in _ (by omega)
  have m8 : IntKind.i64.wrap (ax + ay) = D := by rw [hD]; exact IntWalk.i64_in _ (by omega)
  have m9 : IntKind.i64.wrap ((s : Int) - D) = R := by rw [hRR]; exact IntWalk.i64_in _ (by omega)
  have m10 : IntKind.i64.wrap ((s : Int) + 1) = (s : Int) + 1 := IntWalk.i64_in _ (by omega)
  have g1 : decide ((s : Int) < 0) = false := decide_eq_false (by omega)
  have g2 : decide (D ≤ (s : Int)) = true := decide_eq_true hd
  have g3 : (R.tmod 2 == 0) = true := by rw [hp]; rfl
  have g4 : (R % 2 == 0) = true := by rw [← Int.tmod_eq_emod_of_nonneg (show 0 ≤ R by omega), hp]; rfl
  have i1 : (0 : Int) ≤ (s : Int) := by omega
  have i2 : (s : Int) < (s : Int) + 1 := by omega
  have i3 : (0 : Int) ≤ (i : Int) := by omega
  have i4 : (i : Int) < (N : Int) := by omega
  have hEQ := fun a b c d W => eqXY a b c d W
  have HBW := Lib.hid hBW
  have HLEN := Lib.hid (show q.reverse.length = s + 1 by rw [List.length_reverse, hm])
  clear hBW hv hq hR hv1 k1 k2 k3 k4 k5 hwf hc2 hce hcost hi1 hi2 hf hfc f1 f2 f3 f4 hN hiN hr n1 n2 hd hp s1 s2 s3 s4 s5 s6 s7 s8 hm hs hP1 hP2 hq1 hq2 hval hdx hdy hax hay hD hRR b1 hb1
  go_enter Try.func36, Try.ntmps36
  go_wp2_with (go_at_call 29; (with_reducible refine (HCO.out _ HBW.out).mono ?_); rintro e w1 ⟨rfl, hb1⟩; have HB1 := Lib.hid (HBW.out.trans (hb1.mono HBW.out.size)); have HG1 := Lib.hid (HGX.out.below hb1); have HP1 := Lib.hid (HPX.out.below hb1); clear hb1)
  obtain ⟨c0, c1, c2, c3, c4⟩ := HG1.out
  obtain ⟨p0, p1, p2, p3⟩ := HP1.out
  obtain ⟨f1, f2, f3, f4, f5⟩ := HCOPY.out
  have c0 := fun z : Grow w1 => grow_cell c0 z
  have c2 := fun z : Grow w1 => grow_cell c2 z
  have c3 := fun z : Grow w1 => grow_cell c3 z
  have p0 := fun z : Grow w1 => grow_cell p0 z
  have p1 := fun z : Grow w1 => grow_cell p1 z
  have p2 := fun z : Grow w1 => grow_cell p2 z
  have p3 := fun z : Grow w1 => grow_cell p3 z
  have f1 := fun z : Grow w1 => grow_cell (cell_below f1 HB1.out) z
  have f2 := fun z : Grow w1 => grow_cell (cell_below f2 HB1.out) z
  have f3 := fun z : Grow w1 => grow_cell (cell_below f3 HB1.out) z
  have f4 := fun z : Grow w1 => grow_cell (cell_below f4 HB1.out) z
  refine wp_region_grow (by kernel_rfl) (by kernel_rfl) ?_
  repeat (go_big_quiet_step (fail))
  refine wpQuiet_nil ?_
  intro _ hw'
  obtain ⟨xq, hw''⟩ := hw'
  subst hw''
  have HBx := Lib.hid (grow_below xq)
  generalize grow xq = w2 at *
  have HB2 := Lib.hid (HB1.out.trans (HBx.out.mono HB1.out.size))
  have HG2 := Lib.hid (HG1.out.below HBx.out)
  have HP2 := Lib.hid (HP1.out.below HBx.out)
  clear c0 c1 c2 c3 c4 p0 p1 p2 p3 f1 f2 f3 f4
  go_wp2_with fail
  obtain ⟨p0, p1, p2, p3⟩ := HP2.out
  have p0 := fun z : Grow w2 => grow_cell p0 z
  have p1 := fun z : Grow w2 => grow_cell p1 z
  have p2 := fun z : Grow w2 => grow_cell p2 z
  have p3 := fun z : Grow w2 => grow_cell p3 z
  refine wp_region_grow (by kernel_rfl) (by kernel_rfl) ?_
  repeat (go_big_quiet_step (fail))
  refine wpQuiet_nil ?_
  intro _ hw'
  obtain ⟨xq, hw''⟩ := hw'
  subst hw''
  have HBy := Lib.hid (grow_below xq)
  generalize grow xq = w3 at *
  have HB3 := Lib.hid (HB2.out.trans (HBy.out.mono HB2.out.size))
  have HG3 := Lib.hid (HG2.out.below HBy.out)
  have HP3 := Lib.hid (HP2.out.below HBy.out)
  clear p0 p1 p2 p3
  obtain ⟨c0, c1, c2, c3, c4⟩ := HG3.out
  go_wp2_with (first
    | (go_at_call 73; refine (HTU.out _ HB3.out).mono ?_; rintro e w4 ⟨⟨u, rfl, ho⟩, hb4⟩; have HB4 := Lib.hid (HB3.out.trans (hb4.mono HB3.out.size)); have HG4 := Lib.hid (HG3.out.below hb4); have HP4 := Lib.hid (HP3.out.below hb4); have HU := Lib.hid (RdP.own ho rfl); clear ho hb4 c0 c1 c2 c3 c4; obtain ⟨c0, c1, c2, c3, c4⟩ := HG4.out)
    | (go_at_call 29; refine (HCB.out _ _ HB4.out HU.out).mono ?_; rintro e w5 ⟨rfl, hb5⟩; have HB5 := Lib.hid (HB4.out.trans (hb5.mono HB4.out.size)); have HG5 := Lib.hid (HG4.out.below hb5); have HP5 := Lib.hid (HP4.out.below hb5); clear hb5 c0 c1 c2 c3 c4; obtain ⟨c0, c1, c2, c3, c4⟩ := HG5.out; obtain ⟨p0, p1, p2, p3⟩ := HP5.out; have f5 := cell_below f5 HB5.out))
  go_ret
  exact ⟨rfl, HB5.out⟩
end Go.Proofs.Ytpakkjkjppibnaa
