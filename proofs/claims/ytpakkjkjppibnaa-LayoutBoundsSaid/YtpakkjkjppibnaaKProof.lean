/- Layout: which numbers are a proof: plain; and open cells in both texts.
   Layout: IsProof, as the program computes it.
   Layout: IsProof, as the program computes it: the loops. -/
import Derived.Test.YtpakkjkjppibnaaGRef
import Derived.Outline
namespace Go.Proofs.Ytpakkjkjppibnaa
open Go.RowKit

theorem getD_set_bool (l : List Bool) (i j : Nat) (hi : i < l.length) : (l.set i true).getD j false = (decide (j = i) || l.getD j false) := by
  rw [List.getD_eq_getElem?_getD, List.getElem?_set]
  by_cases h : i = j
  · subst h; simp [hi]
  · have h' : ¬ j = i := fun e => h e.symm
    rw [if_neg h, List.getD_eq_getElem?_getD]; simp [h']
theorem shutP_get {w n : Nat} {bl : List (Int × Int)} (hb : ∀ x ∈ bl, (x.2 * (w : Int) + x.1).toNat < n) (j : Nat) : ∀ k, k ≤ bl.length → ((shutP w n bl k).getD j false = true ↔ ∃ x ∈ bl.take k, (x.2 * (w : Int) + x.1).toNat = j)
  | 0, _ => by simp [shutP, List.getD_eq_getElem?_getD, List.getElem?_replicate]; split <;> simp
  | k + 1, hk => by
    obtain ⟨x, hx⟩ : ∃ x, bl[k]? = some x := ⟨_, List.getElem?_eq_getElem (by omega)⟩
    rw [shutP_succ hx, getD_set_bool _ _ _ (by rw [shutP_len]; exact hb x (List.mem_of_getElem? hx)), Bool.or_eq_true, shutP_get hb j k (by omega), List.take_add_one, hx]
    simp only [decide_eq_true_eq, List.mem_append, Option.toList_some, List.mem_singleton]
    constructor
    · rintro (h | ⟨y, h1, h2⟩)
      · exact ⟨x, .inr rfl, h.symm⟩
      · exact ⟨y, .inl h1, h2⟩
    · rintro ⟨y, h1 | h1, h2⟩
      · exact .inr ⟨y, h1, h2⟩
      · subst h1; exact .inl h2.symm
theorem index_inj {w : Nat} {h : Nat} {c d : Int × Int} (hc : onP w h c = true) (hd : onP w h d = true) (he : c.2 * (w : Int) + c.1 = d.2 * (w : Int) + d.1) : c = d := by
  unfold onP at hc hd
  simp at hc hd
  obtain ⟨⟨a1, a2⟩, a3, a4⟩ := hc
  obtain ⟨⟨b1, b2⟩, b3, b4⟩ := hd
  have hy : c.2 = d.2 := by
    rcases Int.lt_trichotomy c.2 d.2 with h1 | h1 | h1
    · have h2 : (c.2 + 1) * (w : Int) ≤ d.2 * (w : Int) := Int.mul_le_mul_of_nonneg_right (by omega) (by omega)
      rw [Int.add_mul, Int.one_mul] at h2
      omega
    · exact h1
    · have h2 : (d.2 + 1) * (w : Int) ≤ c.2 * (w : Int) := Int.mul_le_mul_of_nonneg_right (by omega) (by omega)
      rw [Int.add_mul, Int.one_mul] at h2
      omega
  have hx : c.1 = d.1 := by rw [hy] at he; omega
  exact Prod.ext hx hy
theorem grK_ok {w h : Nat} {mv bd : Int} {bl : List (Int × Int)} (hv : validP w h mv bd bl = true) (k : Nat) : GrOk (grK w h mv bd bl k) := by
  have := ((validP_iff _ _ _ _ _).1 hv).1
  exact ⟨shutP_len _ _ _ _, by dsimp only [grK]; omega, by dsimp only [grK]; omega, by dsimp only [grK]; omega, by dsimp only [grK]; omega, by dsimp only [grK]; omega, by dsimp only [grK]; omega, by dsimp only [grK]; omega, by dsimp only [grK]; omega⟩
/-- a cell is open in one text as in the other -/
theorem open_eq {w h : Nat} {mv bd : Int} {bl : List (Int × Int)} (hv : validP w h mv bd bl = true) (c : Int × Int) : openP (grK w h mv bd bl bl.length) c = refOpenP w h bl c := by
  have hok := grK_ok hv bl.length
  have hon := ((validP_iff _ _ _ _ _).1 hv).2
  unfold openP refOpenP
  by_cases ho : onP w h c = true
  · have ho' : onP (grK w h mv bd bl bl.length).w (grK w h mv bd bl bl.length).h c = true := ho
    rw [ho', ho, Bool.true_and, Bool.and_true]
    congr 1
    rw [Bool.eq_iff_iff, decide_eq_true_eq]
    change (shutP w (w * h) bl bl.length).getD _ false = true ↔ _
    rw [shutP_get (fun x hx => ?_) _ _ (Nat.le_refl _), List.take_length]
    · constructor
      · rintro ⟨x, h1, h2⟩
        have h3 := hok.index (c := x) (hon x h1)
        have h4 := hok.index ho'
        have h5 : x.2 * (w : Int) + x.1 = c.2 * (w : Int) + c.1 := by
          have e1 : 0 ≤ x.2 * (w : Int) + x.1 := h3.2.2.2.2.1
          have e2 : 0 ≤ indexP (grK w h mv bd bl bl.length) c := h4.2.2.2.2.1
          have e3 : indexP (grK w h mv bd bl bl.length) c = c.2 * (w : Int) + c.1 := rfl
          omega
        rw [← index_inj (hon x h1) ho h5]; exact h1
      · intro h1; exact ⟨c, h1, rfl⟩
    · have h3 := hok.index (c := x) (hon x hx)
      have e1 : 0 ≤ x.2 * (w : Int) + x.1 := h3.2.2.2.2.1
      have e2 : x.2 * (w : Int) + x.1 < ((w * h : Nat) : Int) := h3.2.2.2.2.2
      omega
  · have ho2 : onP w h c = false := by simpa using ho
    have ho' : onP (grK w h mv bd bl bl.length).w (grK w h mv bd bl bl.length).h c = false := ho2
    rw [ho', ho2, Bool.false_and, Bool.and_false]

/-! ### proofs -/
/-- a step that a proof must not allow -/
def stepBad (g : Gr) (far : List Int) (i d : Nat) : Bool :=
  openP g (cellP g i) && openP g (besideP (cellP g i) d) && decide (far.getD (indexP g (besideP (cellP g i) d)).toNat 0 + g.move < far.getD i 0)
def topBad (g : Gr) (to : Int × Int) (far : List Int) (i : Nat) : Bool := decide (cellP g i = to) && decide (0 < far.getD i 0)
def cellBad (g : Gr) (to : Int × Int) (far : List Int) (i : Nat) : Bool := topBad g to far i || (List.range 4).any (stepBad g far i)
def proofB (g : Gr) (to : Int × Int) (far : List Int) : Bool := !(List.range (g.w * g.h)).any (cellBad g to far)
/-- what IsProof answers -/
def isProofP (w h mv bd : Int) (bl : List (Int × Int)) (to : Int × Int) (far : List Int) : Bool × Int :=
  if validP w h mv bd bl then
    if refOpenP w h bl to then
      if (far.length : Int) = w * h ∧ (far.all fun n => inB (-1000000000) n 1000000000) = true then (proofB (grP w h mv bd bl) to far, 0) else (false, 2)
    else (false, 72)
  else (false, 70)
theorem proofB_true {g : Gr} {to : Int × Int} {far : List Int} (h : ∀ i, i < g.w * g.h → cellBad g to far i = false) : proofB g to far = true := by
  unfold proofB
  rw [Bool.not_eq_true', List.any_eq_false]
  intro i hi
  rw [h i (List.mem_range.1 hi)]; decide
theorem proofB_false {g : Gr} {to : Int × Int} {far : List Int} {i : Nat} (hi : i < g.w * g.h) (h : cellBad g to far i = true) : proofB g to far = false := by
  unfold proofB
  rw [Bool.not_eq_false', List.any_eq_true]
  exact ⟨i, List.mem_range.2 hi, h⟩
theorem cellBad_step {g : Gr} {to : Int × Int} {far : List Int} {i d : Nat} (hd : d < 4) (h : stepBad g far i d = true) : cellBad g to far i = true := by
  unfold cellBad
  rw [Bool.or_eq_true]
  exact .inr (List.any_eq_true.2 ⟨d, List.mem_range.2 hd, h⟩)
theorem cellBad_not {g : Gr} {to : Int × Int} {far : List Int} {i : Nat} (h1 : topBad g to far i = false) (h2 : ∀ d, d < 4 → stepBad g far i d = false) : cellBad g to far i = false := by
  unfold cellBad
  rw [h1, Bool.false_or, List.any_eq_false]
  intro d hd
  rw [h2 d (List.mem_range.1 hd)]; decide
end Go.Proofs.Ytpakkjkjppibnaa

namespace Go.Proofs.Ytpakkjkjppibnaa
open Go.RowKit

/-- A predicate handed to the library: what it says of the cell of index j. -/
def PredB (g : Nat) (lb : Array Value) (cs : List Value) (p : Nat → Bool) (w : World) : Prop :=
  ∀ (W : World) (j : Nat) (x : Value), cs[j]? = some x → Below w.heap.size w W → Calls Try.prog g (#[x] ++ lb) W fun e w' => e = .returned (.bool (p j)) ∧ Below W.heap.size W w'

set_option maxHeartbeats 1000000 in
theorem idx_int (p : Nat → Bool) (g : Nat) (lb : Array Value) (eg : ∀ args w, (callFunc g args).run Try.prog w = .ok (.enter g args) w) (cs : List Value) (v : Value) (w : World) (hp : PredB g lb cs p w) (hv : Rd w v cs) (hn : cs.length ≤ 4000000) :
    Calls Try.prog 79 #[v, .func (.func g) #[] lb] w fun e w' => e = .returned (.int .i64 (firstP p cs.length)) ∧ Below w.heap.size w w' := by
  obtain ⟨a, cap, rfl, hc, hcm, ha, _⟩ := hv
  have HP := Lib.hid hp
  clear hp
  go_enter Try.func79, Try.ntmps79
  go_wp2
  go_loopw [5, 8] (fun _ s8 wr => ∃ kk : Nat, kk ≤ cs.length ∧ s8 = .int .i64 kk ∧ Below w.heap.size w wr ∧ Hid (∀ j, j < kk → p j = false)) (fun _ s8 _ => cs.length - (intOf s8).toNat)
  case atStart => exact ⟨0, Nat.zero_le _, rfl, Below.refl _ w, Lib.hid fun j hj => absurd hj (Nat.not_lt_zero _)⟩
  case round =>
    obtain ⟨kk, hkk, rfl, BW, A⟩ := hrel
    by_cases hlt : kk < cs.length
    · obtain ⟨b, off, rfl, hcell⟩ := (ha.below BW (Nat.le_refl _)).cell (j := kk) hlt
      obtain ⟨x, hx⟩ : ∃ x, cs[kk]? = some x := ⟨_, List.getElem?_eq_getElem hlt⟩
      have c1 := hcell kk _ hx
      have hcall := Lib.hid (HP.out wr kk x hx BW)
      clear hcell hx ha
      cases hq : p kk with
      | true =>
        rw [hq] at hcall
        have HF := Lib.hid (firstP_hit hlt hq A.out)
        clear hq
        go_wp2_with (go_at_fn g; refine hcall.out.mono ?_; rintro e w' ⟨rfl, hb'⟩)
        go_ret
        exact ⟨by rw [HF.out]; rfl, BW.trans (hb'.mono BW.size)⟩
      | false =>
        rw [hq] at hcall
        have HA : Hid (∀ j, j < kk + 1 → p j = false) := Lib.hid fun j hj => by
          by_cases e : j = kk
          · subst e; exact hq
          · exact A.out j (by omega)
        clear hq
        go_wp2_with (go_at_fn g; refine hcall.out.mono ?_; rintro e w' ⟨rfl, hb'⟩)
        go_roundw
        case rel => exact ⟨kk + 1, by omega, by go_num, BW.trans (hb'.mono BW.size), HA⟩
        case measure => simp [intOf]; omega
    · obtain rfl : kk = cs.length := by omega
      have HF := Lib.hid (firstP_miss A.out)
      go_wp2
      go_ret
      exact ⟨by rw [HF.out]; rfl, BW⟩

theorem has_int (p : Nat → Bool) (g : Nat) (lb : Array Value) (eg : ∀ args w, (callFunc g args).run Try.prog w = .ok (.enter g args) w) (cs : List Value) (v : Value) (w : World) (hp : PredB g lb cs p w) (hv : Rd w v cs) (hn : cs.length ≤ 4000000) (t : Bool) (ht : (List.range cs.length).any p = t) :
    Calls Try.prog 50 #[v, .func (.func g) #[] lb] w fun e w' => e = .returned (.bool t) ∧ Below w.heap.size w w' := by
  have hcall := Lib.hid (idx_int p g lb eg cs v w hp hv hn)
  have ht2 : Hid (decide (0 ≤ firstP p cs.length) = t) := Lib.hid (by rw [firstP_any]; exact ht)
  obtain ⟨a, cap, rfl, hc, hcm, ha, _⟩ := hv
  generalize firstP p cs.length = y at hcall ht2
  clear ht hp ha
  go_enter Try.func50, Try.ntmps50
  go_wp2_with (go_at_call 79; refine hcall.out.mono ?_; rintro e w' ⟨rfl, hb'⟩)
  go_ret
  exact ⟨by rw [ht2.out]; rfl, hb'⟩

theorem any_not_all (l : List Int) (lo hi : Int) : (List.range l.length).any (fun j => !inB lo (l.getD j 0) hi) = !(l.all fun n => inB lo n hi) := by
  rw [Bool.eq_iff_iff]
  simp only [List.any_eq_true, List.mem_range, Bool.not_eq_true', List.all_eq_false]
  constructor
  · rintro ⟨j, hj, h⟩
    exact ⟨l.getD j 0, by rw [List.getD_eq_getElem?_getD, List.getElem?_eq_getElem hj]; exact List.getElem_mem hj, by rw [h]; decide⟩
  · rintro ⟨x, hx, h⟩
    obtain ⟨j, hj, rfl⟩ := List.mem_iff_getElem.1 hx
    refine ⟨j, hj, ?_⟩
    rw [List.getD_eq_getElem?_getD, List.getElem?_eq_getElem hj]
    simpa using h

/-- the closure of IsProof -/
theorem mostC (l : List Int) (W : World) : PredB 51 #[] (ints l) (fun j => !inB (-1000000000) (l.getD j 0) 1000000000) W := fun V j x hx _ => by
  have hj : j < l.length := by
    have := (List.getElem?_eq_some_iff.1 hx).1
    rwa [ints_length] at this
  rw [ints_getD hj] at hx
  obtain rfl := Option.some.inj hx
  show Calls Try.prog 51 #[.int .i64 (l.getD j 0)] V fun e w' => e = .returned (.bool (!inB (-1000000000) (l.getD j 0) 1000000000)) ∧ Below V.heap.size V w'
  generalize l.getD j 0 = y
  clear hx hj
  have HB := Lib.hid (between_any (-1000000000) y 1000000000)
  change Hid (∀ W, Calls Try.prog 52 #[.int .i64 (-1000000000), .int .i64 y, .int .i64 1000000000] W fun e w' => e = .returned (.bool (inB (-1000000000) y 1000000000)) ∧ W = w') at HB
  go_enter Try.func51, Try.ntmps51
  go_wp2_with (go_at_call 52; refine (HB.out _).mono ?_; rintro e w1 ⟨rfl, rfl⟩)
  go_ret
  exact ⟨rfl, Below.refl _ _⟩

/-- a cell that is boxed behind a grid -/
def BxAt (V : World) (B : Nat) (x y : Int) : Prop := V.cell? ⟨B + 1, 0, none⟩ = some (.int .i64 x) ∧ V.cell? ⟨B + 1, 1, none⟩ = some (.int .i64 y)
theorem BxAt.below {V V' : World} {B : Nat} {x y : Int} (h : BxAt V B x y) (hb : Below V.heap.size V V') : BxAt V' B x y := ⟨cell_below h.1 hb, cell_below h.2 hb⟩
theorem BxAt.new (W : World) (o : Obj) (x y : Int) (t : TypeId) : BxAt ((W.alloc o).alloc (.cells #[.int .i64 x, .int .i64 y] t)) W.heap.size x y :=
  ⟨World.cell?_alloc_at _ _ _ _ (by simp), World.cell?_alloc_at _ _ _ _ (by simp)⟩

set_option maxRecDepth 100000 in
theorem isProof_bad (w h : Int) (mv bd : Int) (bv : Value) (bl : List (Int × Int)) (to : Int × Int) (fv : Value) (W : World) (hv : RdP W bv bl) (hb : validP w h mv bd bl = false) :
    Calls Try.prog 20 #[.agg #[.int .i64 w, .int .i64 h, .int .i64 mv, .int .i64 bd, bv], .agg #[.int .i64 to.1, .int .i64 to.2], fv] W fun e w' => e = .returned (.tuple #[.bool false, .int .i64 70]) ∧ Below W.heap.size W w' := by
  have hbW := Lib.hid (((Below.refl W.heap.size W).alloc (Nat.le_refl _) (.cells #[.int .i64 w, .int .i64 h, .int .i64 mv, .int .i64 bd, bv] 24)).alloc (by simp) (.cells #[.int .i64 to.1, .int .i64 to.2] 26))
  have HBX := Lib.hid (BxAt.new W (.cells #[.int .i64 w, .int .i64 h, .int .i64 mv, .int .i64 bd, bv] 24) to.1 to.2 26)
  have HVA := Lib.hid (fun V (hV : Below W.heap.size W V) => opened_bad w h mv bd bv bl V (hv.below hV) hb)
  obtain ⟨a, cap, rfl, hc, hcm, _, _⟩ := hv
  obtain ⟨t1, t2⟩ := to
  clear hb
  dsimp only at *
  go_enter Try.func20, Try.ntmps20
  go_wp2_with (go_at_call 38; (with_reducible refine (HVA.out _ hbW.out).mono ?_); rintro e w1 ⟨rfl, hb1⟩)
  go_ret2
  exact ⟨rfl, hbW.out.trans (hb1.mono (by simp; omega))⟩

set_option maxRecDepth 100000 in
theorem isProof_block (w h : Nat) (mv bd : Int) (bv : Value) (bl : List (Int × Int)) (to : Int × Int) (fv : Value) (W : World) (hv : RdP W bv bl) (hb : validP w h mv bd bl = true) (ho : openP (grK w h mv bd bl bl.length) to = false) :
    Calls Try.prog 20 #[.agg #[.int .i64 w, .int .i64 h, .int .i64 mv, .int .i64 bd, bv], .agg #[.int .i64 to.1, .int .i64 to.2], fv] W fun e w' => e = .returned (.tuple #[.bool false, .int .i64 72]) ∧ Below W.heap.size W w' := by
  have hbW := Lib.hid (((Below.refl W.heap.size W).alloc (Nat.le_refl _) (.cells #[.int .i64 w, .int .i64 h, .int .i64 mv, .int .i64 bd, bv] 24)).alloc (by simp) (.cells #[.int .i64 to.1, .int .i64 to.2] 26))
  have HBX := Lib.hid (BxAt.new W (.cells #[.int .i64 w, .int .i64 h, .int .i64 mv, .int .i64 bd, bv] 24) to.1 to.2 26)
  have HVA := Lib.hid (fun V (hV : Below W.heap.size W V) => opened_ok w h mv bd bv bl V (hv.below hV) hb)
  have HOA := Lib.hid (fun Bg sb V (hV : GridAt V Bg (grK w h mv bd bl bl.length) bv (some ⟨sb, 0, none⟩) (w * h)) => open_any Bg (grK w h mv bd bl bl.length) bv _ _ to V hV)
  rw [ho] at HOA
  obtain ⟨a, cap, rfl, hc, hcm, _, _⟩ := hv
  obtain ⟨t1, t2⟩ := to
  clear hb ho
  dsimp only at *
  go_enter Try.func20, Try.ntmps20
  go_wp2_with (first
    | (go_at_call 38; (with_reducible refine (HVA.out _ hbW.out).mono ?_); rintro e w1 ⟨Bg, sb, rfl, hg1, hb1⟩; have HG1 := Lib.hid hg1; have HB1 := Lib.hid (hbW.out.trans (hb1.mono (by simp; omega))); have HX1 := Lib.hid (HBX.out.below hb1); obtain ⟨c1, c2⟩ := HX1.out; clear hg1 hb1)
    | (go_at_call 39; (with_reducible refine (HOA.out _ _ _ HG1.out).mono ?_); rintro e w2 ⟨rfl, hb2⟩))
  go_ret2
  exact ⟨rfl, HB1.out.trans (hb2.mono HB1.out.size)⟩

set_option maxRecDepth 100000 in
theorem isProof_arg (w h : Nat) (mv bd : Int) (bv : Value) (bl : List (Int × Int)) (to : Int × Int) (fv : Value) (far : List Int) (W : World) (hv : RdP W bv bl) (hb : validP w h mv bd bl = true) (ho : openP (grK w h mv bd bl bl.length) to = true) (hf : Rd W fv (ints far)) (hbad : ¬ (far.length = w * h ∧ (far.all fun n => inB (-1000000000) n 1000000000) = true)) :
    Calls Try.prog 20 #[.agg #[.int .i64 w, .int .i64 h, .int .i64 mv, .int .i64 bd, bv], .agg #[.int .i64 to.1, .int .i64 to.2], fv] W fun e w' => e = .returned (.tuple #[.bool false, .int .i64 2]) ∧ Below W.heap.size W w' := by
  have hbW := Lib.hid (((Below.refl W.heap.size W).alloc (Nat.le_refl _) (.cells #[.int .i64 w, .int .i64 h, .int .i64 mv, .int .i64 bd, bv] 24)).alloc (by simp) (.cells #[.int .i64 to.1, .int .i64 to.2] 26))
  have HBX := Lib.hid (BxAt.new W (.cells #[.int .i64 w, .int .i64 h, .int .i64 mv, .int .i64 bd, bv] 24) to.1 to.2 26)
  have eg : ∀ args w, (callFunc 51 args).run Try.prog w = .ok (.enter 51 args) w := enters_of Try.func51 (by kernel_rfl) rfl
  have hok := grK_ok hb bl.length
  have HOK := Lib.hid hok
  have HVA := Lib.hid (fun V (hV : Below W.heap.size W V) => opened_ok w h mv bd bv bl V (hv.below hV) hb)
  have HOA := Lib.hid (fun Bg sb V (hV : GridAt V Bg (grK w h mv bd bl bl.length) bv (some ⟨sb, 0, none⟩) (w * h)) => open_any Bg (grK w h mv bd bl bl.length) bv _ _ to V hV)
  rw [ho] at HOA
  have HFV := Lib.hid hf
  obtain ⟨g, hgd⟩ : ∃ g, grK w h mv bd bl bl.length = g := ⟨_, rfl⟩
  have HGW : Hid (g.w = w ∧ g.h = h) := Lib.hid (by rw [← hgd]; exact ⟨rfl, rfl⟩)
  have hcells := hok.cells
  rw [hgd] at HVA HOA HOK
  obtain ⟨a, cap, rfl, hc, hcm, _, _⟩ := hv
  obtain ⟨fa, fcap, rfl, hfc, hfcm, hfa, _⟩ := hf
  obtain ⟨t1, t2⟩ := to
  obtain ⟨N, hN⟩ : ∃ N, w * h = N := ⟨_, rfl⟩
  have HN := Lib.hid hN
  change 1 ≤ w * h ∧ w * h ≤ 900 at hcells
  rw [hN] at HVA HOA hcells
  have hNi : (w : Int) * (h : Int) = (N : Int) := by rw [← hN]; simp
  have hwN : IntKind.i64.wrap (N : Int) = (N : Int) := IntWalk.i64_in _ (by clear hNi; omega)
  obtain ⟨M, hM⟩ : ∃ M, far.length = M := ⟨_, rfl⟩
  have HM := Lib.hid hM
  rw [ints_length] at *
  rw [hM] at hfc hbad HFV ⊢
  rw [hN] at hbad
  clear hb ho hgd hok hN hM hfa
  dsimp only at *
  go_enter Try.func20, Try.ntmps20
  go_wp2_with (first
    | (go_at_call 38; (with_reducible refine (HVA.out _ hbW.out).mono ?_); rintro e w1 ⟨Bg, sb, rfl, hg1, hb1⟩; have HG1 := Lib.hid hg1; have HB1 := Lib.hid (hbW.out.trans (hb1.mono (by simp; omega))); have HX1 := Lib.hid (HBX.out.below hb1); obtain ⟨c1, c2⟩ := HX1.out; clear hg1 hb1)
    | (go_at_call 39; (with_reducible refine (HOA.out _ _ _ HG1.out).mono ?_); rintro e w2 ⟨rfl, hb2⟩; have HG2 := Lib.hid (HG1.out.below hb2); have HB2 := Lib.hid (HB1.out.trans (hb2.mono HB1.out.size)); have HX2 := Lib.hid (HX1.out.below hb2); clear c1 c2 hb2))
  have HGG := HG2.out.below (Below.refl _ _)
  have e0 := fun x : Grow w2 => grow_cell HG2.out.c0 x
  have e1 := fun x : Grow w2 => grow_cell HG2.out.c1 x
  rw [HGW.out.1] at e0
  rw [HGW.out.2] at e1
  clear HGG
  by_cases hMN : M = N
  · subst hMN
    have hal : (far.all fun n => inB (-1000000000) n 1000000000) = false := by
      rw [Bool.eq_false_iff]; intro hh; exact hbad ⟨rfl, hh⟩
    have HCF := Lib.hid (fun x : Grow w2 => has_int _ 51 #[] eg (ints far) _ (grow x) (mostC far _) (HFV.out.below (HB2.out.trans ((grow_below x).mono HB2.out.size)) (Nat.le_refl _)) (by rw [ints_length, HM.out]; omega) (!(far.all fun n => inB (-1000000000) n 1000000000)) (by rw [ints_length]; exact any_not_all far _ _))
    rw [hal] at HCF
    clear hbad hal
    refine wp_region_grow (by kernel_rfl) (by kernel_rfl) ?_
    repeat (go_big_quiet_step (first | (go_at_call 50; refine grow_of (HCF.out _))))
    refine wpQuiet_nil ?_
    intro _ hw'
    obtain ⟨xq, hw''⟩ := hw'
    subst hw''
    have HBq := Lib.hid (grow_below xq)
    clear e0 e1 hNi hwN eg
    generalize grow xq = w3 at *
    go_wp2_with fail
    go_ret2
    exact ⟨rfl, HB2.out.trans (HBq.out.mono HB2.out.size)⟩
  · have hMN' : ((M : Int) != (N : Int)) = true := by simp; omega
    clear hbad
    refine wp_region_grow (by kernel_rfl) (by kernel_rfl) ?_
    repeat (go_big_quiet_step (fail))
    refine wpQuiet_nil ?_
    intro _ hw'
    obtain ⟨xq, hw''⟩ := hw'
    subst hw''
    have HBq := Lib.hid (grow_below xq)
    clear e0 e1 hNi hwN eg
    generalize grow xq = w3 at *
    go_wp2_with fail
    go_ret2
    exact ⟨rfl, HB2.out.trans (HBq.out.mono HB2.out.size)⟩
end Go.Proofs.Ytpakkjkjppibnaa

namespace Go.Proofs.Ytpakkjkjppibnaa
open Go.RowKit

set_option maxRecDepth 100000 in
set_option maxHeartbeats 1000000 in
theorem isProof_run (w h : Nat) (mv bd : Int) (bv : Value) (bl : List (Int × Int)) (to : Int × Int) (fv : Value) (far : List Int) (W : World) (hv : RdP W bv bl) (hb : validP w h mv bd bl = true) (ho : openP (grK w h mv bd bl bl.length) to = true) (hf : Rd W fv (ints far)) (hlen : far.length = w * h) (hall : (far.all fun n => inB (-1000000000) n 1000000000) = true) :
    Calls Try.prog 20 #[.agg #[.int .i64 w, .int .i64 h, .int .i64 mv, .int .i64 bd, bv], .agg #[.int .i64 to.1, .int .i64 to.2], fv] W fun e w' => e = .returned (.tuple #[.bool (proofB (grK w h mv bd bl bl.length) to far), .int .i64 0]) ∧ Below W.heap.size W w' := by
  have hbW := Lib.hid (((Below.refl W.heap.size W).alloc (Nat.le_refl _) (.cells #[.int .i64 w, .int .i64 h, .int .i64 mv, .int .i64 bd, bv] 24)).alloc (by simp) (.cells #[.int .i64 to.1, .int .i64 to.2] 26))
  have HBX := Lib.hid (BxAt.new W (.cells #[.int .i64 w, .int .i64 h, .int .i64 mv, .int .i64 bd, bv] 24) to.1 to.2 26)
  have eg : ∀ args w, (callFunc 51 args).run Try.prog w = .ok (.enter 51 args) w := enters_of Try.func51 (by kernel_rfl) rfl
  have hok := grK_ok hb bl.length
  have HOK := Lib.hid hok
  have HVA := Lib.hid (fun V (hV : Below W.heap.size W V) => opened_ok w h mv bd bv bl V (hv.below hV) hb)
  have HOA := Lib.hid (fun Bg sb V (hV : GridAt V Bg (grK w h mv bd bl bl.length) bv (some ⟨sb, 0, none⟩) (w * h)) => open_any Bg (grK w h mv bd bl bl.length) bv _ _ to V hV)
  rw [ho] at HOA
  have HFV := Lib.hid hf
  obtain ⟨g, hgd⟩ : ∃ g, grK w h mv bd bl bl.length = g := ⟨_, rfl⟩
  have HGW : Hid (g.w = w ∧ g.h = h) := Lib.hid (by rw [← hgd]; exact ⟨rfl, rfl⟩)
  have hcells := hok.cells
  rw [hgd] at HVA HOA HOK
  have HFB : Hid (∀ i, -1000000000 ≤ far.getD i 0 ∧ far.getD i 0 ≤ 1000000000) := Lib.hid (fun i => by
    by_cases hi : i < far.length
    · have h1 := List.all_eq_true.1 hall (far[i]) (List.getElem_mem hi)
      unfold inB at h1
      simp at h1
      rw [List.getD_eq_getElem?_getD, List.getElem?_eq_getElem hi]
      simpa using h1
    · rw [List.getD_eq_getElem?_getD, List.getElem?_eq_none (by omega)]; simp)
  obtain ⟨a, cap, rfl, hc, hcm, _, _⟩ := hv
  obtain ⟨fa, fcap, rfl, hfc, hfcm, hfa, _⟩ := hf
  obtain ⟨t1, t2⟩ := to
  obtain ⟨N, hN⟩ : ∃ N, w * h = N := ⟨_, rfl⟩
  have HN := Lib.hid hN
  change 1 ≤ w * h ∧ w * h ≤ 900 at hcells
  rw [hN] at HVA HOA hcells
  have hNi : (w : Int) * (h : Int) = (N : Int) := by rw [← hN]; simp
  have hwN : IntKind.i64.wrap (N : Int) = (N : Int) := IntWalk.i64_in _ (by clear hNi; omega)
  rw [ints_length] at *
  rw [hgd]
  rw [hlen, hN] at hfc HFV ⊢
  rw [hN] at hlen
  have HM := Lib.hid hlen
  have HT : Hid (∀ i, i < N → cellBad g (t1, t2) far i = true → proofB g (t1, t2) far = false) := Lib.hid (fun i hi => proofB_false (by rw [HGW.out.1, HGW.out.2, HN.out]; exact hi))
  have HF : Hid ((∀ i, i < N → cellBad g (t1, t2) far i = false) → proofB g (t1, t2) far = true) := Lib.hid (fun hh => proofB_true (by rw [HGW.out.1, HGW.out.2, HN.out]; exact hh))
  have HFA := Lib.hid hfa
  have hEQ := fun a b c d W => eqXY a b c d W
  have HCA := Lib.hid (fun x : World => hall)
  have hm1 : 1 ≤ g.move ∧ g.move ≤ 1000 := ⟨HOK.out.m1, HOK.out.m2⟩
  clear hb ho hgd hok hN hlen hfa
  dsimp only at *
  go_enter Try.func20, Try.ntmps20
  go_wp2_with (first
    | (go_at_call 38; (with_reducible refine (HVA.out _ hbW.out).mono ?_); rintro e w1 ⟨Bg, sb, rfl, hg1, hb1⟩; have HG1 := Lib.hid hg1; have HB1 := Lib.hid (hbW.out.trans (hb1.mono (by simp; omega))); have HX1 := Lib.hid (HBX.out.below hb1); obtain ⟨c1, c2⟩ := HX1.out; clear hg1 hb1)
    | (go_at_call 39; (with_reducible refine (HOA.out _ _ _ HG1.out).mono ?_); rintro e w2 ⟨rfl, hb2⟩; have HG2 := Lib.hid (HG1.out.below hb2); have HB2 := Lib.hid (HB1.out.trans (hb2.mono HB1.out.size)); have HX2 := Lib.hid (HX1.out.below hb2); clear c1 c2 hb2))
  have HGG := HG2.out.below (Below.refl _ _)
  have e0 := fun x : Grow w2 => grow_cell HG2.out.c0 x
  have e1 := fun x : Grow w2 => grow_cell HG2.out.c1 x
  rw [HGW.out.1] at e0
  rw [HGW.out.2] at e1
  clear HGG
  have HCF := Lib.hid (fun x : Grow w2 => has_int _ 51 #[] eg (ints far) _ (grow x) (mostC far _) (HFV.out.below (HB2.out.trans ((grow_below x).mono HB2.out.size)) (Nat.le_refl _)) (by rw [ints_length, HM.out]; omega) (!(far.all fun n => inB (-1000000000) n 1000000000)) (by rw [ints_length]; exact any_not_all far _ _))
  rw [hall] at HCF
  clear hall
  refine wp_region_grow (by kernel_rfl) (by kernel_rfl) ?_
  repeat (go_big_quiet_step (first | (go_at_call 50; refine grow_of (HCF.out _))))
  refine wpQuiet_nil ?_
  intro _ hw'
  obtain ⟨xq, hw''⟩ := hw'
  subst hw''
  have HBq := Lib.hid (grow_below xq)
  clear e0 e1 hNi hwN eg
  generalize grow xq = w3 at *
  have HB3 := Lib.hid (HB2.out.trans (HBq.out.mono HB2.out.size))
  have HG3 := Lib.hid (HG2.out.below HBq.out)
  have HX3 := Lib.hid (HX2.out.below HBq.out)
  have HFA3 := Lib.hid (HFA.out.below HB3.out (Nat.le_refl _))
  go_wp2_with fail
  go_loopw [50] (fun p wr => ∃ k : Nat, k ≤ N ∧ p = .int .i64 k ∧ Hid (Below w3.heap.size w3 wr) ∧ Hid (∀ i, i < k → cellBad g (t1, t2) far i = false)) (fun p _ => N - (intOf p).toNat)
  case atStart => exact ⟨0, Nat.zero_le _, rfl, Lib.hid (Below.refl _ _), Lib.hid fun i h => absurd h (Nat.not_lt_zero _)⟩
  case round =>
    obtain ⟨k, hk, rfl, HR, HA⟩ := hrel
    obtain ⟨wo, rfl⟩ : ∃ wo, wo = wr := ⟨_, rfl⟩
    by_cases hkN : k < N
    · have hkN' : (k : Int) < (N : Int) := by omega
      obtain ⟨fb, fo, rfl, hcell⟩ := (HFA3.out.below HR.out (Nat.le_refl _)).cell (j := k) (by rw [ints_length, HM.out]; exact hkN)
      have f0 := hcell k _ (ints_getD (by rw [HM.out]; exact hkN))
      obtain ⟨v, hv⟩ : ∃ v, far.getD k 0 = v := ⟨_, rfl⟩
      have HV := Lib.hid hv
      rw [hv] at f0
      obtain ⟨x1, x2⟩ := HX3.out.below HR.out
      have HGR := Lib.hid (fun (V : World) (hV : Below wo.heap.size wo V) => (HG3.out.below HR.out).below hV)
      have HCL := Lib.hid (cell_any Bg g _ _ _ k wo (HGR.out _ (Below.refl _ _)) (by omega))
      have hnear := cellP_near HOK.out (i := k) (by rw [HGW.out.1, HGW.out.2, HN.out]; exact hkN)
      obtain ⟨⟨c1, c2⟩, hc12⟩ : ∃ c, cellP g k = c := ⟨_, rfl⟩
      have HC12 := Lib.hid hc12
      rw [hc12] at HCL hnear
      have HNR := Lib.hid hnear
      have HTB : Hid (topBad g (t1, t2) far k = (decide ((c1, c2) = (t1, t2)) && decide (0 < v))) := Lib.hid (by unfold topBad; rw [hc12, hv])
      have HSB : Hid (∀ d, stepBad g far k d = (openP g (c1, c2) && openP g (besideP (c1, c2) d) && decide (far.getD (indexP g (besideP (c1, c2) d)).toNat 0 + g.move < v))) := Lib.hid (fun d => by unfold stepBad; rw [hc12, hv])
      have HCELL := Lib.hid hcell
      dsimp only at HCL hnear
      clear hcell hv hc12 hnear
      by_cases heq : c1 = t1 ∧ c2 = t2
      · obtain ⟨rfl, rfl⟩ := heq
        by_cases hv0 : 0 < v
        · have HR1 := Lib.hid (HT.out k hkN (by unfold cellBad; rw [HTB.out]; simp [hv0]))
          go_wp2_with (go_at_call 41; (with_reducible refine HCL.out.mono ?_); rintro e w4 ⟨rfl, hb4⟩; replace x1 := cell_below x1 hb4; replace x2 := cell_below x2 hb4; have hlt4 := World.block_lt_of_cell? _ _ x1; have HB4 := Lib.hid (HB3.out.trans ((HR.out.trans (hb4.mono HR.out.size)).mono HB3.out.size)))
          go_ret2
          exact ⟨by rw [HR1.out]; rfl, HB4.out.alloc HB4.out.size _⟩
        · have HTF : Hid (topBad g (c1, c2) far k = false) := Lib.hid (by rw [HTB.out]; simp [hv0])
          go_wp2_with (go_at_call 41; (with_reducible refine HCL.out.mono ?_); rintro e w4 ⟨rfl, hb4⟩; replace x1 := cell_below x1 hb4; replace x2 := cell_below x2 hb4; have hlt4 := World.block_lt_of_cell? _ _ x1; have HB4 := Lib.hid (HR.out.trans (hb4.mono HR.out.size)); have HBo := Lib.hid hb4; clear hb4)
          have g0 : (w4.alloc (.cells #[.int .i64 c1, .int .i64 c2] 26)).cell? ⟨w4.heap.size, 0, none⟩ = some (.int .i64 c1) := World.cell?_alloc_at _ _ _ _ rfl
          have g1 : (w4.alloc (.cells #[.int .i64 c1, .int .i64 c2] 26)).cell? ⟨w4.heap.size, 1, none⟩ = some (.int .i64 c2) := World.cell?_alloc_at _ _ _ _ rfl
          have HB5 : Hid (Below wo.heap.size wo (w4.alloc (.cells #[.int .i64 c1, .int .i64 c2] 26))) := Lib.hid (HBo.out.alloc HBo.out.size _)
          generalize hW5 : w4.alloc (.cells #[.int .i64 c1, .int .i64 c2] 26) = w5 at *
          generalize w4.heap.size = cb at *
          have HG0 := Lib.hid g0
          have HG1' := Lib.hid g1
          clear hW5 x1 x2 hlt4 g0 g1 f0
          go_loopw [65] (fun p wr2 => ∃ m : Nat, m ≤ 4 ∧ p = .int .i64 m ∧ Hid (Below w5.heap.size w5 wr2) ∧ Hid (∀ d, d < m → stepBad g far k d = false)) (fun p _ => 4 - (intOf p).toNat)
          case atStart => exact ⟨0, Nat.zero_le _, rfl, Lib.hid (Below.refl _ _), Lib.hid fun i h => absurd h (Nat.not_lt_zero _)⟩
          case round =>
            obtain ⟨m, hm4, rfl, HR5, HS⟩ := hrel
            by_cases hm : m < 4
            · have d0 := cell_below HG0.out HR5.out
              have d1 := cell_below HG1'.out HR5.out
              obtain ⟨⟨n1, n2⟩, hn12⟩ : ∃ n, besideP (c1, c2) m = n := ⟨_, rfl⟩
              have HSM := Lib.hid (HSB.out m)
              have HBSM := Lib.hid (fun V => beside_any (c1, c2) m (by omega) V (by have := HNR.out; dsimp only at *; omega) (by have := HNR.out; dsimp only at *; omega) (by have := HNR.out; dsimp only at *; omega) (by have := HNR.out; dsimp only at *; omega))
              rw [hn12] at HBSM HSM
              dsimp only at HBSM
              clear hn12
              have HAN : Hid (stepBad g far k m = false → ∀ d, d < m + 1 → stepBad g far k d = false) := Lib.hid (fun h d hd => by
                rcases (by omega : d < m ∨ d = m) with h1 | rfl
                · exact HS.out d h1
                · exact h)
              go_wp2_with (go_at_call 46; (with_reducible refine (HBSM.out _).mono ?_); rintro e w6 ⟨rfl, hb6⟩; have HB6 := Lib.hid (HR5.out.trans (hb6.mono HR5.out.size)); clear hb6)
              have HB7 : Hid (Below w5.heap.size w5 (w6.alloc (.cells #[.int .i64 n1, .int .i64 n2] 26))) := Lib.hid (HB6.out.alloc HB6.out.size _)
              have g0 : (w6.alloc (.cells #[.int .i64 n1, .int .i64 n2] 26)).cell? ⟨w6.heap.size, 0, none⟩ = some (.int .i64 n1) := World.cell?_alloc_at _ _ _ _ rfl
              have g1 : (w6.alloc (.cells #[.int .i64 n1, .int .i64 n2] 26)).cell? ⟨w6.heap.size, 1, none⟩ = some (.int .i64 n2) := World.cell?_alloc_at _ _ _ _ rfl
              generalize hW7 : w6.alloc (.cells #[.int .i64 n1, .int .i64 n2] 26) = w7 at *
              generalize w6.heap.size = nb at *
              have HBo7 := Lib.hid (HB5.out.trans (HB7.out.mono HB5.out.size))
              have h0 := cell_below HG0.out HB7.out
              have h1 := cell_below HG1'.out HB7.out
              have e0 := fun x : Grow w7 => grow_cell h0 x
              have e1 := fun x : Grow w7 => grow_cell h1 x
              have e2 := fun x : Grow w7 => grow_cell g0 x
              have e3 := fun x : Grow w7 => grow_cell g1 x
              have e4 := fun x : Grow w7 => grow_cell (HGR.out _ HBo7.out).c2 x
              have HOPC := Lib.hid (fun x : Grow w7 => open_any Bg g _ _ _ (c1, c2) (grow x) (HGR.out _ (HBo7.out.trans ((grow_below x).mono HBo7.out.size))))
              have HOPV := Lib.hid (fun x : Grow w7 => open_any Bg g _ _ _ (n1, n2) (grow x) (HGR.out _ (HBo7.out.trans ((grow_below x).mono HBo7.out.size))))
              have HIXV : Hid True := Lib.hid trivial
              dsimp only at HOPC HOPV
              clear hW7 d0 d1 h0 h1 g0 g1 HBSM
              cases hoc : openP g (c1, c2) with
              | false =>
                rw [hoc] at HOPC HSM
                have HA' := Lib.hid (HAN.out (by rw [HSM.out]; rfl))
                clear hoc
                refine wp_region_grow (by kernel_rfl) (by kernel_rfl) ?_
                repeat (go_big_quiet_step (first | (go_at_call 39; (with_reducible refine grow_of (HOPC.out _))) | (go_at_call 39; (with_reducible refine grow_of (HOPV.out _))) | (go_at_call 47; (with_reducible refine grow_of (HIXV.out _)))))
                refine wpQuiet_nil ?_
                intro _ hw'
                obtain ⟨xq, hw''⟩ := hw'
                subst hw''
                have HBq := Lib.hid (grow_below xq)
                clear e0 e1 e2 e3 e4
                generalize grow xq = w8 at *
                have HB8 := Lib.hid (HB7.out.trans (HBq.out.mono HB7.out.size))
                go_wp2_with fail
                go_roundw
                case rel => exact ⟨m + 1, by omega, by go_num, HB8, HA'⟩
                case measure => simp [intOf]; omega
              | true =>
                rw [hoc] at HOPC HSM
                clear hoc
                cases hon : openP g (n1, n2) with
                | false =>
                  rw [hon] at HOPV HSM
                  have HA' := Lib.hid (HAN.out (by rw [HSM.out]; rfl))
                  clear hon
                  refine wp_region_grow (by kernel_rfl) (by kernel_rfl) ?_
                  repeat (go_big_quiet_step (first | (go_at_call 39; (with_reducible refine grow_of (HOPC.out _))) | (go_at_call 39; (with_reducible refine grow_of (HOPV.out _))) | (go_at_call 47; (with_reducible refine grow_of (HIXV.out _)))))
                  refine wpQuiet_nil ?_
                  intro _ hw'
                  obtain ⟨xq, hw''⟩ := hw'
                  subst hw''
                  have HBq := Lib.hid (grow_below xq)
                  clear e0 e1 e2 e3 e4
                  generalize grow xq = w8 at *
                  have HB8 := Lib.hid (HB7.out.trans (HBq.out.mono HB7.out.size))
                  go_wp2_with fail
                  go_roundw
                  case rel => exact ⟨m + 1, by omega, by go_num, HB8, HA'⟩
                  case measure => simp [intOf]; omega
                | true =>
                  rw [hon] at HOPV HSM
                  have hnn := openP_on hon
                  have hsm := Gr.small (HGR.out w7 HBo7.out) hnn
                  replace HIXV := Lib.hid (fun x : Grow w7 => index_any Bg g _ _ _ (n1, n2) (grow x) (HGR.out _ (HBo7.out.trans ((grow_below x).mono HBo7.out.size))) hnn)
                  obtain ⟨j, hj⟩ : ∃ j : Nat, indexP g (n1, n2) = j := ⟨(indexP g (n1, n2)).toNat, by omega⟩
                  rw [hj] at HIXV hsm HSM
                  have hjN : j < N := by have h5 := hsm.2.2.2.2.2.1; rw [← HN.out, ← HGW.out.1, ← HGW.out.2]; exact_mod_cast h5
                  have hjN' : (j : Int) < (N : Int) := by omega
                  have f1 := cell_below (HCELL.out j _ (ints_getD (by rw [HM.out]; exact hjN))) HBo7.out
                  have hq9 := HFB.out j
                  obtain ⟨q, hq⟩ : ∃ q, far.getD j 0 = q := ⟨_, rfl⟩
                  rw [Int.toNat_natCast, hq] at HSM
                  rw [hq] at f1 hq9
                  have e5 := fun x : Grow w7 => grow_cell f1 x
                  have hws : IntKind.i64.wrap (q + g.move) = q + g.move := IntWalk.i64_in _ (by omega)
                  dsimp only at HIXV
                  clear hon hnn hsm hj hq f1 hq9
                  by_cases hlt : q + g.move < v
                  · have HR1 := Lib.hid (HT.out k hkN (cellBad_step (by omega) (by rw [HSM.out, decide_eq_true hlt]; rfl)))
                    refine wp_region_grow (by kernel_rfl) (by kernel_rfl) ?_
                    repeat (go_big_quiet_step (first | (go_at_call 39; (with_reducible refine grow_of (HOPC.out _))) | (go_at_call 39; (with_reducible refine grow_of (HOPV.out _))) | (go_at_call 47; (with_reducible refine grow_of (HIXV.out _)))))
                    refine wpQuiet_nil ?_
                    intro _ hw'
                    obtain ⟨xq, hw''⟩ := hw'
                    subst hw''
                    have HBq := Lib.hid (grow_below xq)
                    clear e0 e1 e2 e3 e4 e5 hws
                    generalize grow xq = w8 at *
                    have HB8 := Lib.hid (HB7.out.trans (HBq.out.mono HB7.out.size))
                    go_wp2_with fail
                    go_ret2
                    exact ⟨by rw [HR1.out]; rfl, HB3.out.trans ((HR.out.trans ((HB5.out.trans (HB8.out.mono HB5.out.size)).mono HR.out.size)).mono HB3.out.size)⟩
                  · have HA' := Lib.hid (HAN.out (by rw [HSM.out, decide_eq_false hlt]; rfl))
                    refine wp_region_grow (by kernel_rfl) (by kernel_rfl) ?_
                    repeat (go_big_quiet_step (first | (go_at_call 39; (with_reducible refine grow_of (HOPC.out _))) | (go_at_call 39; (with_reducible refine grow_of (HOPV.out _))) | (go_at_call 47; (with_reducible refine grow_of (HIXV.out _)))))
                    refine wpQuiet_nil ?_
                    intro _ hw'
                    obtain ⟨xq, hw''⟩ := hw'
                    subst hw''
                    have HBq := Lib.hid (grow_below xq)
                    clear e0 e1 e2 e3 e4 e5 hws
                    generalize grow xq = w8 at *
                    have HB8 := Lib.hid (HB7.out.trans (HBq.out.mono HB7.out.size))
                    go_wp2_with fail
                    go_roundw
                    case rel => exact ⟨m + 1, by omega, by go_num, HB8, HA'⟩
                    case measure => simp [intOf]; omega
            · obtain rfl : m = 4 := by omega
              have HA' : Hid (∀ i, i < k + 1 → cellBad g (c1, c2) far i = false) := Lib.hid (fun i hi => by
                rcases (by omega : i < k ∨ i = k) with h1 | rfl
                · exact HA.out i h1
                · exact cellBad_not HTF.out HS.out)
              go_wp2_with fail
              go_roundw
              case rel => (repeat apply Exists.intro); exact ⟨⟨k + 1, by omega, by go_num, Lib.hid (HR.out.trans ((HB5.out.trans (HR5.out.mono HB5.out.size)).mono HR.out.size)), HA'⟩, rfl⟩
              case measure => simp [intOf]; omega
      · have heq' : (c1 == t1 && c2 == t2) = false := by
          rw [Bool.eq_false_iff]; intro hh; simp at hh; exact heq hh
        have HTF : Hid (topBad g (t1, t2) far k = false) := Lib.hid (by
          rw [HTB.out, decide_eq_false (fun e => heq ⟨by injection e, by injection e⟩), Bool.false_and])
        go_wp2_with (go_at_call 41; (with_reducible refine HCL.out.mono ?_); rintro e w4 ⟨rfl, hb4⟩; replace x1 := cell_below x1 hb4; replace x2 := cell_below x2 hb4; have hlt4 := World.block_lt_of_cell? _ _ x1; have HB4 := Lib.hid (HR.out.trans (hb4.mono HR.out.size)); have HBo := Lib.hid hb4; clear hb4)
        have g0 : (w4.alloc (.cells #[.int .i64 c1, .int .i64 c2] 26)).cell? ⟨w4.heap.size, 0, none⟩ = some (.int .i64 c1) := World.cell?_alloc_at _ _ _ _ rfl
        have g1 : (w4.alloc (.cells #[.int .i64 c1, .int .i64 c2] 26)).cell? ⟨w4.heap.size, 1, none⟩ = some (.int .i64 c2) := World.cell?_alloc_at _ _ _ _ rfl
        have HB5 : Hid (Below wo.heap.size wo (w4.alloc (.cells #[.int .i64 c1, .int .i64 c2] 26))) := Lib.hid (HBo.out.alloc HBo.out.size _)
        generalize hW5 : w4.alloc (.cells #[.int .i64 c1, .int .i64 c2] 26) = w5 at *
        generalize w4.heap.size = cb at *
        have HG0 := Lib.hid g0
        have HG1' := Lib.hid g1
        clear hW5 x1 x2 hlt4 g0 g1 f0
        go_loopw [65] (fun p wr2 => ∃ m : Nat, m ≤ 4 ∧ p = .int .i64 m ∧ Hid (Below w5.heap.size w5 wr2) ∧ Hid (∀ d, d < m → stepBad g far k d = false)) (fun p _ => 4 - (intOf p).toNat)
        case atStart => exact ⟨0, Nat.zero_le _, rfl, Lib.hid (Below.refl _ _), Lib.hid fun i h => absurd h (Nat.not_lt_zero _)⟩
        case round =>
          obtain ⟨m, hm4, rfl, HR5, HS⟩ := hrel
          by_cases hm : m < 4
          · have d0 := cell_below HG0.out HR5.out
            have d1 := cell_below HG1'.out HR5.out
            obtain ⟨⟨n1, n2⟩, hn12⟩ : ∃ n, besideP (c1, c2) m = n := ⟨_, rfl⟩
            have HSM := Lib.hid (HSB.out m)
            have HBSM := Lib.hid (fun V => beside_any (c1, c2) m (by omega) V (by have := HNR.out; dsimp only at *; omega) (by have := HNR.out; dsimp only at *; omega) (by have := HNR.out; dsimp only at *; omega) (by have := HNR.out; dsimp only at *; omega))
            rw [hn12] at HBSM HSM
            dsimp only at HBSM
            clear hn12
            have HAN : Hid (stepBad g far k m = false → ∀ d, d < m + 1 → stepBad g far k d = false) := Lib.hid (fun h d hd => by
              rcases (by omega : d < m ∨ d = m) with h1 | rfl
              · exact HS.out d h1
              · exact h)
            go_wp2_with (go_at_call 46; (with_reducible refine (HBSM.out _).mono ?_); rintro e w6 ⟨rfl, hb6⟩; have HB6 := Lib.hid (HR5.out.trans (hb6.mono HR5.out.size)); clear hb6)
            have HB7 : Hid (Below w5.heap.size w5 (w6.alloc (.cells #[.int .i64 n1, .int .i64 n2] 26))) := Lib.hid (HB6.out.alloc HB6.out.size _)
            have g0 : (w6.alloc (.cells #[.int .i64 n1, .int .i64 n2] 26)).cell? ⟨w6.heap.size, 0, none⟩ = some (.int .i64 n1) := World.cell?_alloc_at _ _ _ _ rfl
            have g1 : (w6.alloc (.cells #[.int .i64 n1, .int .i64 n2] 26)).cell? ⟨w6.heap.size, 1, none⟩ = some (.int .i64 n2) := World.cell?_alloc_at _ _ _ _ rfl
            generalize hW7 : w6.alloc (.cells #[.int .i64 n1, .int .i64 n2] 26) = w7 at *
            generalize w6.heap.size = nb at *
            have HBo7 := Lib.hid (HB5.out.trans (HB7.out.mono HB5.out.size))
            have h0 := cell_below HG0.out HB7.out
            have h1 := cell_below HG1'.out HB7.out
            have e0 := fun x : Grow w7 => grow_cell h0 x
            have e1 := fun x : Grow w7 => grow_cell h1 x
            have e2 := fun x : Grow w7 => grow_cell g0 x
            have e3 := fun x : Grow w7 => grow_cell g1 x
            have e4 := fun x : Grow w7 => grow_cell (HGR.out _ HBo7.out).c2 x
            have HOPC := Lib.hid (fun x : Grow w7 => open_any Bg g _ _ _ (c1, c2) (grow x) (HGR.out _ (HBo7.out.trans ((grow_below x).mono HBo7.out.size))))
            have HOPV := Lib.hid (fun x : Grow w7 => open_any Bg g _ _ _ (n1, n2) (grow x) (HGR.out _ (HBo7.out.trans ((grow_below x).mono HBo7.out.size))))
            have HIXV : Hid True := Lib.hid trivial
            dsimp only at HOPC HOPV
            clear hW7 d0 d1 h0 h1 g0 g1 HBSM
            cases hoc : openP g (c1, c2) with
            | false =>
              rw [hoc] at HOPC HSM
              have HA' := Lib.hid (HAN.out (by rw [HSM.out]; rfl))
              clear hoc
              refine wp_region_grow (by kernel_rfl) (by kernel_rfl) ?_
              repeat (go_big_quiet_step (first | (go_at_call 39; (with_reducible refine grow_of (HOPC.out _))) | (go_at_call 39; (with_reducible refine grow_of (HOPV.out _))) | (go_at_call 47; (with_reducible refine grow_of (HIXV.out _)))))
              refine wpQuiet_nil ?_
              intro _ hw'
              obtain ⟨xq, hw''⟩ := hw'
              subst hw''
              have HBq := Lib.hid (grow_below xq)
              clear e0 e1 e2 e3 e4
              generalize grow xq = w8 at *
              have HB8 := Lib.hid (HB7.out.trans (HBq.out.mono HB7.out.size))
              go_wp2_with fail
              go_roundw
              case rel => exact ⟨m + 1, by omega, by go_num, HB8, HA'⟩
              case measure => simp [intOf]; omega
            | true =>
              rw [hoc] at HOPC HSM
              clear hoc
              cases hon : openP g (n1, n2) with
              | false =>
                rw [hon] at HOPV HSM
                have HA' := Lib.hid (HAN.out (by rw [HSM.out]; rfl))
                clear hon
                refine wp_region_grow (by kernel_rfl) (by kernel_rfl) ?_
                repeat (go_big_quiet_step (first | (go_at_call 39; (with_reducible refine grow_of (HOPC.out _))) | (go_at_call 39; (with_reducible refine grow_of (HOPV.out _))) | (go_at_call 47; (with_reducible refine grow_of (HIXV.out _)))))
                refine wpQuiet_nil ?_
                intro _ hw'
                obtain ⟨xq, hw''⟩ := hw'
                subst hw''
                have HBq := Lib.hid (grow_below xq)
                clear e0 e1 e2 e3 e4
                generalize grow xq = w8 at *
                have HB8 := Lib.hid (HB7.out.trans (HBq.out.mono HB7.out.size))
                go_wp2_with fail
                go_roundw
                case rel => exact ⟨m + 1, by omega, by go_num, HB8, HA'⟩
                case measure => simp [intOf]; omega
              | true =>
                rw [hon] at HOPV HSM
                have hnn := openP_on hon
                have hsm := Gr.small (HGR.out w7 HBo7.out) hnn
                replace HIXV := Lib.hid (fun x : Grow w7 => index_any Bg g _ _ _ (n1, n2) (grow x) (HGR.out _ (HBo7.out.trans ((grow_below x).mono HBo7.out.size))) hnn)
                obtain ⟨j, hj⟩ : ∃ j : Nat, indexP g (n1, n2) = j := ⟨(indexP g (n1, n2)).toNat, by omega⟩
                rw [hj] at HIXV hsm HSM
                have hjN : j < N := by have h5 := hsm.2.2.2.2.2.1; rw [← HN.out, ← HGW.out.1, ← HGW.out.2]; exact_mod_cast h5
                have hjN' : (j : Int) < (N : Int) := by omega
                have f1 := cell_below (HCELL.out j _ (ints_getD (by rw [HM.out]; exact hjN))) HBo7.out
                have hq9 := HFB.out j
                obtain ⟨q, hq⟩ : ∃ q, far.getD j 0 = q := ⟨_, rfl⟩
                rw [Int.toNat_natCast, hq] at HSM
                rw [hq] at f1 hq9
                have e5 := fun x : Grow w7 => grow_cell f1 x
                have hws : IntKind.i64.wrap (q + g.move) = q + g.move := IntWalk.i64_in _ (by omega)
                dsimp only at HIXV
                clear hon hnn hsm hj hq f1 hq9
                by_cases hlt : q + g.move < v
                · have HR1 := Lib.hid (HT.out k hkN (cellBad_step (by omega) (by rw [HSM.out, decide_eq_true hlt]; rfl)))
                  refine wp_region_grow (by kernel_rfl) (by kernel_rfl) ?_
                  repeat (go_big_quiet_step (first | (go_at_call 39; (with_reducible refine grow_of (HOPC.out _))) | (go_at_call 39; (with_reducible refine grow_of (HOPV.out _))) | (go_at_call 47; (with_reducible refine grow_of (HIXV.out _)))))
                  refine wpQuiet_nil ?_
                  intro _ hw'
                  obtain ⟨xq, hw''⟩ := hw'
                  subst hw''
                  have HBq := Lib.hid (grow_below xq)
                  clear e0 e1 e2 e3 e4 e5 hws
                  generalize grow xq = w8 at *
                  have HB8 := Lib.hid (HB7.out.trans (HBq.out.mono HB7.out.size))
                  go_wp2_with fail
                  go_ret2
                  exact ⟨by rw [HR1.out]; rfl, HB3.out.trans ((HR.out.trans ((HB5.out.trans (HB8.out.mono HB5.out.size)).mono HR.out.size)).mono HB3.out.size)⟩
                · have HA' := Lib.hid (HAN.out (by rw [HSM.out, decide_eq_false hlt]; rfl))
                  refine wp_region_grow (by kernel_rfl) (by kernel_rfl) ?_
                  repeat (go_big_quiet_step (first | (go_at_call 39; (with_reducible refine grow_of (HOPC.out _))) | (go_at_call 39; (with_reducible refine grow_of (HOPV.out _))) | (go_at_call 47; (with_reducible refine grow_of (HIXV.out _)))))
                  refine wpQuiet_nil ?_
                  intro _ hw'
                  obtain ⟨xq, hw''⟩ := hw'
                  subst hw''
                  have HBq := Lib.hid (grow_below xq)
                  clear e0 e1 e2 e3 e4 e5 hws
                  generalize grow xq = w8 at *
                  have HB8 := Lib.hid (HB7.out.trans (HBq.out.mono HB7.out.size))
                  go_wp2_with fail
                  go_roundw
                  case rel => exact ⟨m + 1, by omega, by go_num, HB8, HA'⟩
                  case measure => simp [intOf]; omega
          · obtain rfl : m = 4 := by omega
            have HA' : Hid (∀ i, i < k + 1 → cellBad g (t1, t2) far i = false) := Lib.hid (fun i hi => by
              rcases (by omega : i < k ∨ i = k) with h1 | rfl
              · exact HA.out i h1
              · exact cellBad_not HTF.out HS.out)
            go_wp2_with fail
            go_roundw
            case rel => (repeat apply Exists.intro); exact ⟨⟨k + 1, by omega, by go_num, Lib.hid (HR.out.trans ((HB5.out.trans (HR5.out.mono HB5.out.size)).mono HR.out.size)), HA'⟩, rfl⟩
            case measure => simp [intOf]; omega
    · obtain rfl : k = N := by omega
      have HR1 := Lib.hid (HF.out HA.out)
      go_wp2_with fail
      go_ret2
      exact ⟨by rw [HR1.out]; rfl, HB3.out.trans (HR.out.mono HB3.out.size)⟩
end Go.Proofs.Ytpakkjkjppibnaa
