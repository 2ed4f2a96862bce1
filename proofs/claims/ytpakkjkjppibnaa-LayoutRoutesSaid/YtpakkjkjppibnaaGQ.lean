/- A region that draws its order, whose operations read and whose callees may make memory: one walk of the text's order (the kit's quiet law at the class of the worlds that have grown). -/
import Derived.Test.YtpakkjkjppibnaaBase
import Derived.BigQuiet
import Derived.StillTail
namespace Go.Proofs.Ytpakkjkjppibnaa
open Go.RowKit

def Grow (w : World) : Type := { w' : World // Below w.heap.size w w' }
def grow {w : World} (x : Grow w) : World := x.1
theorem grow_below {w : World} (x : Grow w) : Below w.heap.size w (grow x) := x.2
theorem grow_cell {w : World} {a : Addr} {v : Value} (h : w.cell? a = some v) (x : Grow w) : (grow x).cell? a = some v := cell_below h x.2
instance (w : World) : Nonempty (Grow w) := ⟨⟨w, Below.refl _ _⟩⟩
theorem wp_region_grow {P : Program} {id : Nat} {Q : Exit → Act → World → Prop} {a : Act} {w : World} {l : List Oper} (hm : P.follows .mixedOrders = true) (hB : Region.lexB .any l.toArray = true)
    (h : wpQuiet P l.toArray (fun w' => ∃ x : Grow w, w' = grow x) (fun a' => ∀ w', (∃ x : Grow w, w' = grow x) → Q .normal a' w') l a) : (Code.region id l.toArray true).wp P Q a w :=
  wp_region_quiet (C := fun w' => ∃ x : Grow w, w' = grow x) hm hB ⟨⟨w.drew, (Below.refl _ _).drew⟩, rfl⟩ (by simpa using h)
theorem grow_of {P : Program} {f : FuncId} {args : Array Value} {w : World} {x : Grow w} {v : Value}
    (h : Calls P f args (grow x) fun e w' => e = .returned v ∧ Below (grow x).heap.size (grow x) w') : Calls P f args (grow x) fun e w'' => e = .returned v ∧ ∃ y : Grow w, w'' = grow y :=
  h.mono fun _ w' ⟨he, hb⟩ => ⟨he, ⟨w', (grow_below x).trans (hb.mono (grow_below x).size)⟩, rfl⟩
theorem grow_of_same {P : Program} {f : FuncId} {args : Array Value} {w : World} {x : Grow w} {v : Value}
    (h : Calls P f args (grow x) fun e w' => e = .returned v ∧ grow x = w') : Calls P f args (grow x) fun e w'' => e = .returned v ∧ ∃ y : Grow w, w'' = grow y :=
  h.mono fun _ _ ⟨he, hb⟩ => ⟨he, x, hb.symm⟩
/-- a call whose answer is known in another spelling -/
theorem grow_to {P : Program} {f : FuncId} {args : Array Value} {w : World} {x : Grow w} {v v' : Value} (hv : v = v')
    (h : Calls P f args (grow x) fun e w' => e = .returned v ∧ Below (grow x).heap.size (grow x) w') : Calls P f args (grow x) fun e w'' => e = .returned v' ∧ ∃ y : Grow w, w'' = grow y := by
  subst hv; exact grow_of h

/-! ### a quiet head, then a tail in one forced order -/
section
variable {P : Program} {ops : Array Oper} {C : World → Prop}
/-- The head comes up in whatever order, each operation quiet in C; then L. -/
def headAny (P : Program) (ops : Array Oper) (C : World → Prop) (n : Nat) (L : Array Bool → Act → Prop) : Nat → Array Bool → Act → Prop
  | 0, li, a => L li a
  | f + 1, li, a => Region.ready .any ops li ≠ [] ∧ ∀ i ∈ Region.ready .any ops li, i < n ∧ qOp P ops C i (headAny P ops C n L f (li.setIfInBounds i true)) a
theorem any_of_head {n g : Nat} {L : Array Bool → Act → Prop} {Q : Exit → Act → World → Prop} (hL : ∀ li a w, C w → L li a → wpAny P .any ops Q g li a w) :
    ∀ (f : Nat) (li : Array Bool) (a : Act) (w : World), C w → headAny P ops C n L f li a → wpAny P .any ops Q (f + g) li a w
  | 0, li, a, w, hw, h => by rw [Nat.zero_add]; exact hL li a w hw h
  | f + 1, li, a, w, hw, h => by
    rw [show f + 1 + g = (f + g) + 1 by omega]
    exact ⟨fun e => absurd e h.1, fun i hi => wpOp_of_qOp hw (fun a' w' hw' h' => any_of_head hL f _ a' w' hw' h') (h.2 i hi).2⟩
theorem head_first {n i : Nat} {oi : Oper} {v : Value} {L : Array Bool → Act → Prop} (hi : ops[i]? = some oi) (hsel : ∀ (j : Nat) (o : Oper) cs b, ops[j]? = some o → o.op ≠ .select cs b)
    (hs : Region.sinkB .any ops n = true) (hc : Region.chainB .any ops n = true) (hn : n < ops.size) (hin : i < n)
    (hend : ∀ li a, L li a → ∀ j ∈ Region.ready .any ops li, n ≤ j) (f : Nat) : ∀ (li : Array Bool) (a : Act), HeadInv .any ops n li →
      (∀ j oj, ops[j]? = some oj → j ≠ i → li.getD j true = false → (∀ e ∈ oj.after, Region.binds .any e = true → e.on ≠ i) → oi.apart ops oj = true) →
      i ∈ Region.ready .any ops li → YieldsIn P ops C oi v a →
      headAny P ops C n L f (li.setIfInBounds i true) (a.put oi.dst v) → headAny P ops C n L (f + 1) li a := by
  induction f with
  | zero =>
    intro li a inv _ hr hy H
    have hun := (mem_ready.1 hr).1
    refine ⟨List.ne_nil_of_mem hr, fun j hj => ?_⟩
    have hjn : j < n := Nat.lt_of_not_le fun h => tail_waits hs hc hn inv _ i rfl hin hun j h hj
    by_cases e : j = i
    · subst e; exact ⟨hjn, hy.qOp hi H⟩
    · exact absurd (hend _ _ H j (ready_mono hj e)) (by omega)
  | succ f ih =>
    intro li a inv hfree hr hy H
    have hun := (mem_ready.1 hr).1
    refine ⟨List.ne_nil_of_mem hr, fun j hj => ?_⟩
    have hjn : j < n := Nat.lt_of_not_le fun h => tail_waits hs hc hn inv _ i rfl hin hun j h hj
    refine ⟨hjn, ?_⟩
    by_cases e : j = i
    · subst e; exact hy.qOp hi H
    · obtain ⟨hjun, oj, hoj, hall⟩ := mem_ready.1 hj
      have hnot : ∀ x ∈ oj.after, Region.binds .any x = true → x.on ≠ i := fun x hx hb h => by
        have h1 := hall x hx hb
        rw [h, getD_both hun] at h1
        cases h1
      have h2 := qOp_put hoj (hfree j oj hoj e hjun hnot) (fun cs b => hsel i oi cs b hi) (fun cs b => hsel j oj cs b hoj) hy (H.2 j (ready_mono hj e)).2
      refine qOp_mono (fun a' h3 => ih (li.setIfInBounds j true) a' (inv.set hj hjn) (fun k ok hk hki hku hno => ?_) (ready_mono hr (Ne.symm e)) h3.1 ?_) h2
      · refine hfree k ok hk hki ?_ hno
        by_cases ek : j = k
        · subst ek; exact hjun
        · rwa [getD_set_ne true ek] at hku
      · rw [Array.setIfInBounds_comm _ _ e]
        exact h3.2
theorem head_lex {n g : Nat} {Lq : Act → Prop} (hsel : Region.noSelect ops = true) (hs : Region.sinkB .any ops n = true) (hc : Region.chainB .any ops n = true) (hn : n < ops.size) :
    ∀ (l : List Oper) (k : Nat) (li : Array Bool) (a : Act), (∀ j, j < l.length → l[j]? = ops[k + j]?) → k + l.length = n → HeadInv .any ops n li →
    Region.lexHead .any ops g l.length k li = true → wpQuiet P ops C Lq l a →
    headAny P ops C n (fun li' a' => Region.seqB .any ops g n li' = true ∧ Lq a') l.length li a
  | [], k, li, a, _, hk, _, hB, h => by
    obtain rfl : k = n := by simpa using hk
    exact ⟨by simpa [Region.lexHead] using hB, h⟩
  | o :: l, k, li, a, hl, hk, inv, hB, h => by
    have h0 : ops[k]? = some o := by simpa using (hl 0 (by simp)).symm
    simp only [List.length_cons, Region.lexHead, Bool.and_eq_true] at hB
    obtain ⟨⟨hr, hf⟩, hB'⟩ := hB
    have hkn : k < n := by simp only [List.length_cons] at hk; omega
    have hr' : k ∈ Region.ready .any ops li := by simpa using hr
    obtain ⟨v, hy, hK⟩ := yieldsIn_of_qOp (C := C) (K := wpQuiet P ops C Lq l) (a := a) h0 (by unfold qOp; simp only [h0]; exact h)
    exact head_first h0 (Region.noSelect_spec hsel) hs hc hn hkn (fun _ _ hL => seqB_ready hL.1) l.length li a inv (Region.free_spec h0 hf) hr' hy
      (head_lex hsel hs hc hn l (k + 1) _ _ (fun j hj => by have := hl (j + 1) (by simp; omega); simpa [Nat.add_assoc, Nat.add_comm 1 j] using this) (by simp only [List.length_cons] at hk; omega) (inv.set hr' hkn) hB' hK)
theorem wp_region_tail {id : Nat} {Q : Exit → Act → World → Prop} {a : Act} {w : World} {l : List Oper} (n : Nat) (hm : P.follows .mixedOrders = true) (hB : Region.lexTailB .any l.toArray n = true) (hC : C { w with drawn := w.drawn + 1 })
    (h : wpQuiet P l.toArray C (fun a' => ∀ w', C w' → wpList P l.toArray Q (l.drop n) a' w') (l.take n) a) : (Code.region id l.toArray true).wp P Q a w := by
  simp only [Region.lexTailB, Bool.and_eq_true, decide_eq_true_eq] at hB
  obtain ⟨⟨⟨⟨hsel, hn⟩, hs⟩, hc⟩, hlex⟩ := hB
  have hn' : n < l.length := by simpa using hn
  have htl : (l.take n).length = n := by simp; omega
  have hdl : (l.drop n).length = l.toArray.size - n := by simp
  have H := head_lex (P := P) (C := C) (g := l.toArray.size - n) hsel hs hc hn (l.take n) 0 (Array.replicate l.toArray.size false) a (fun j hj => by
      have hj' : j < n := by rw [htl] at hj; exact hj
      simp [hj']) (by simpa using htl)
    ⟨by simp, fun j oj _ hl => (by rw [getD_replicate_false] at hl; cases hl), fun t _ ht => getD_in (by simpa using ht) (getD_replicate_false _ _)⟩ (by rw [htl]; exact hlex) h
  have H2 := any_of_head (Q := Q) (g := l.toArray.size - n) (fun li a' w' hw' hL => by
    have := wpAny_of_seq (md := .any) (Q' := Q) (l.drop n) n li a' w' (fun j => by simp [List.getElem?_drop]) (by rw [hdl]; exact hL.1) (hL.2 w' hw')
    rwa [hdl] at this) _ _ _ _ hC H
  rw [htl, show n + (l.toArray.size - n) = l.toArray.size by omega] at H2
  exact wp_region_any hm H2
/-- .. at the class of the worlds that have grown. -/
theorem wp_region_growTail {id : Nat} {Q : Exit → Act → World → Prop} {a : Act} {w : World} {l : List Oper} (n : Nat) (hm : P.follows .mixedOrders = true) (hB : Region.lexTailB .any l.toArray n = true)
    (h : wpQuiet P l.toArray (fun w' => ∃ x : Grow w, w' = grow x) (fun a' => ∀ w', (∃ x : Grow w, w' = grow x) → wpList P l.toArray Q (l.drop n) a' w') (l.take n) a) : (Code.region id l.toArray true).wp P Q a w :=
  wp_region_tail n hm hB ⟨⟨w.drew, (Below.refl _ _).drew⟩, rfl⟩ h
end
end Go.Proofs.Ytpakkjkjppibnaa
