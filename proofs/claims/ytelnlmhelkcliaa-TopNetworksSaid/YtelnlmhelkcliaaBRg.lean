/- Benes: loops over functions: the contract of what is handed over, of loops that may stop; the law of such a loop; regions that draw, in a round. -/
import Derived.RangeFuncNested
import Derived.RangeFuncBound
import Derived.RangeFuncCalls
import Derived.RangeFuncLeaves
import Derived.Shelf.Abstract
import Derived.Shelf.RegionOpen
import Derived.OwnWalkIn
import Derived.TacticsInMore
import Derived.LoopNIn
import Derived.LoopIn
import Derived.Maps.AppendAt
import Derived.RangeFuncBox
import Derived.Test.YtelnlmhelkcliaaBInner
namespace Go.Proofs.Ytelnlmhelkcliaa
open Go.RowKit Go.Shelf
attribute [local go_sem] Oper.semAt_some

/-! ### A region that draws its order, in a round -/
theorem opIn_of_op {l n : Nat} {P : Program} {o : Oper} {a : Act} {w : World} {K : Act → World → Prop} {Q : Exit → Act → World → Prop} (hnd : ∀ c, o.op ≠ .defer c) (h : o.wp P a w K Q) :
    o.wpIn (Fence.wide.inRound l) n P a w K Q := by
  refine ⟨fun _ _ => trivial, ?_⟩
  rw [Oper.semAt_eq _ _ _ hnd]
  unfold Oper.wp at h
  generalize (execOp a.eval o).run P w = r at *
  cases r with
  | ok x w' =>
    cases x <;> first
      | exact h
      | exact ⟨fun hd => by simp [Fence.inRound, Fence.wide] at hd, CallsIn.inRound l (callsIn_wide.2 h)⟩
      | exact ⟨fun hd => by simp [Fence.inRound, Fence.wide] at hd, fun c cs _ => let ⟨v, w'', hr, s⟩ := h c cs; ⟨v, w'', hr, stepsIn_wide.2 s⟩⟩
      | exact h.elim
  | halt x w' => cases x <;> exact h

def noDefer (l : List Oper) : Bool := l.all fun o => match o.op with | .defer _ => false | _ => true
theorem noDefer_spec {l : List Oper} (h : noDefer l = true) (i : Nat) (o : Oper) (ho : l.toArray[i]? = some o) : ∀ c, o.op ≠ .defer c := fun c e => by
  unfold noDefer at h
  rw [List.all_eq_true] at h
  have := h o (List.mem_of_getElem? (by simpa using ho))
  rw [e] at this
  cases this

theorem anyIn_of_any {l n : Nat} {P : Program} {ops : List Oper} {Q : Exit → Act → World → Prop} {md : Region.Mode} (hnd : noDefer ops = true) (hno : ¬ LetsOut Q) :
    ∀ (fuel : Nat) (listed : Array Bool) (a : Act) (w : World), wpAny P md ops.toArray Q fuel listed a w → wpAnyIn (Fence.wide.inRound l) n P md ops.toArray Q fuel listed a w
  | 0, _, _, _, h => h
  | fuel + 1, listed, a, w, h => by
    refine ⟨h.1, fun i hi => ?_⟩
    refine wpOpIn_mono (fun a' w' h' => anyIn_of_any hnd hno fuel _ a' w' h') ?_
    have h2 := h.2 i hi
    unfold wpOp at h2
    unfold wpOpIn
    cases ho : ops.toArray[i]? with
    | none => rw [ho] at h2; exact h2
    | some o =>
      rw [ho] at h2
      simp only at h2 ⊢
      split
      · rename_i hw
        rw [if_pos hw] at h2
        rcases h2 with h2 | ⟨_, h2⟩
        · exact opIn_of_op (noDefer_spec hnd i o ho) h2
        · exact absurd h2 hno
      · rename_i hw
        rw [if_neg hw] at h2
        exact ⟨fun _ _ => trivial, h2⟩

theorem region_round {l n id : Nat} {P : Program} {ops : List Oper} {Q : Exit → Act → World → Prop} {a : Act} {w : World} (hm : P.follows .mixedOrders = true) (hnd : noDefer ops = true) (hno : ¬ LetsOut Q)
    (h : wpAny P .any ops.toArray Q ops.toArray.size (Array.replicate ops.toArray.size false) a w.drew) : (Code.region id ops.toArray true).wpIn (Fence.wide.inRound l) n P Q a w :=
  wpIn_region_any hm (anyIn_of_any hnd hno _ _ _ _ h)

theorem grown_trans {A B C : World} {X : Option Nat} (h : A.grownBy B X) (k : B.grownBy C X) : A.grownBy C X :=
  ⟨k.os.trans h.os, k.tape.trans h.tape, k.output.trans h.output, Nat.le_trans h.size k.size, fun i hi hne => (k.block i (Nat.lt_of_lt_of_le hi h.size) hne).trans (h.block i hi hne)⟩
theorem grown_none {A B : World} (h : A.grownBy B none) (X : Option Nat) : A.grownBy B X := ⟨h.os, h.tape, h.output, h.size, fun i hi _ => h.block i hi (by simp)⟩

/-- how a round may be left -/
def postX {β : Type} (X : Option Nat) (stop : β → Bool) (I Ix : List β → World → Prop) (pre : List β) (b : β) (W : World) : Exit → Act → World → Prop
  | .normal, _, W' => stop b = false ∧ W.grownBy W' X ∧ I (pre ++ [b]) W'
  | .ret, _, W' => stop b = true ∧ W.grownBy W' X ∧ Ix (pre ++ [b]) W'
  | _, _, _ => False
theorem postX_no {β : Type} {X : Option Nat} {stop : β → Bool} {I Ix : List β → World → Prop} {pre : List β} {b : β} {W : World} : ¬ LetsOut (postX X stop I Ix pre b W) := fun ⟨_, _, h⟩ => h

/-- A function hands over T, one by one, till a round stops it; what is handed over lies as Rx says; a round turns no block that lies but X. -/
def SeqX {β : Type} (P : Program) (g : Nat) (lb : Array Value) (Rx : Value → β → World → Prop) (X : Option Nat) (stop : β → Bool) (T : List β) (w0 : World) : Prop :=
  ∀ (l : Nat) (J Jx : List β → World → Prop) (W : World), Below w0.heap.size w0 W → OwnFrom W.heap.size J → OwnFrom W.heap.size Jx →
    (∀ pre v b W1, J pre W1 → Rx v b W1 → (∃ post, T = pre ++ b :: post) → YieldAt Fence.wide 0 P l #[v] W1 fun e W' =>
      (e = .returned (.bool true) ∧ stop b = false ∧ J (pre ++ [b]) W' ∧ W1.grownBy W' X) ∨ (e = .returned (.bool false) ∧ stop b = true ∧ Jx (pre ++ [b]) W')) →
    J [] W → CallsIn Fence.wide 0 P g (#[.func (.yield l) #[] #[]] ++ lb) W fun e W' => (∃ v, e = .returned v) ∧
      (((∀ b ∈ T, stop b = false) ∧ J T W') ∨ ∃ pre b post, T = pre ++ b :: post ∧ (∀ y ∈ pre, stop y = false) ∧ stop b = true ∧ Jx (pre ++ [b]) W')

theorem rangeX {β : Type} {P : Program} {g : Operand} {ps : Array Tmp} {assign body : Code} {Q : Exit → Act → World → Prop} {a : Act} {w : World} {gf : Nat} {lb : Array Value}
    (hg : a.eval g = .func (.func gf) #[] lb) (eg : ∀ args w, (callFunc gf args).run P w = .ok (.enter gf args) w)
    {Rx : Value → β → World → Prop} {X : Option Nat} {stop : β → Bool} {T : List β} (hseq : SeqX P gf lb Rx X stop T w) (hX : ∀ k, X = some k → k < w.heap.size) (hps : ps.size = 1)
    (hRx : ∀ v b, OwnFrom w.heap.size (fun (_ : Unit) W => Rx v b W))
    (I Ix : List β → World → Prop) (hI : OwnFrom w.heap.size I) (hIx : OwnFrom w.heap.size Ix) (h0 : I [] w) (As : Value → Act → World → Prop) (hAs : ∀ v a', OwnFrom w.heap.size (fun (_ : Unit) W => As v a' W))
    (hassign : ∀ (l : Nat) (v : Value) (b : β) (W : World) (K : Act → World → Prop), w.heap.size ≤ W.heap.size → Rx v b W → (∀ a' W', Below W.heap.size W W' → As v a' W' → K a' W') →
      assign.wpIn (Fence.wide.inRound l) 0 P (Exit.then K (fun _ _ _ => False)) { tmps := (ps.zip #[v]).foldl (fun t (p, v) => t.setIfInBounds p v) a.tmps, defers := [] } W)
    (hbody : ∀ (l : Nat) (pre : List β) (v : Value) (b : β) (a' : Act) (W : World), w.heap.size ≤ l → (∃ r, W.heap[l]? = some (.loop r)) → I pre W → Rx v b W → As v a' W → (∃ post, T = pre ++ b :: post) → body.wpIn (Fence.wide.inRound l) 0 P (postX X stop I Ix pre b W) a' W)
    (hdone : ∀ (D : Nat) (W : World), w.heap.size ≤ D → (∀ b ∈ T, stop b = false) → I T W → W.heap[D]? = some (.deferred (some [])) → Q .normal { a with defers := { target := .collected D, args := #[] } :: a.defers } W)
    (hstop : ∀ (D : Nat) (pre : List β) (b : β) (post : List β) (W : World), w.heap.size ≤ D → T = pre ++ b :: post → (∀ y ∈ pre, stop y = false) → stop b = true → Ix (pre ++ [b]) W → W.heap[D]? = some (.deferred (some [])) →
      Code.ret.wpIn Fence.wide 0 P Q { a with defers := { target := .collected D, args := #[] } :: a.defers } W) :
    (Code.rangeFunc g ps assign body).wpIn Fence.wide 0 P Q a w := by
  refine wpIn_rangeFunc fun fn hfn => ?_
  obtain ⟨N, hN⟩ : ∃ N, w.heap.size = N := ⟨_, rfl⟩
  obtain ⟨L, hL⟩ : ∃ L : LoopState → Option Code → Loop, L = fun st pe => { state := st, pending := pe, fn, tmps := a.tmps, params := ps, assign, body, defers := w.heap.size } := ⟨_, rfl⟩
  have eD : (w.alloc (.deferred (some []))).heap.size = N + 1 := by rw [World.size_alloc, hN]
  obtain ⟨V, hV⟩ : ∃ V, (w.alloc (.deferred (some []))).alloc (.loop (L .ready none)) = V := ⟨_, rfl⟩
  have vL : V.heap[N + 1]? = some (.loop (L .ready none)) := by rw [← hV, ← eD]; exact World.alloc_heap_new _ _
  have vD : V.heap[N]? = some (.deferred (some [])) := by
    rw [← hV, ← hN]; exact (Below.heap_alloc _ _ _ (by simp)).trans (World.alloc_heap_new w _)
  have vI : I [] V := by rw [← hV]; exact hI.alloc _ (hI.alloc _ h0)
  have vB : Below w.heap.size w V := by rw [← hV]; exact ((Below.refl _ w).alloc (Nat.le_refl _) _).alloc (by simp) _
  have vS : V.heap.size = N + 2 := by rw [← hV]; simp; omega
  have gen : ∀ {H : List β → World → Prop}, OwnFrom w.heap.size H → ∀ (st : LoopState) (pe : Option Code), OwnFrom V.heap.size (fun pre W => H pre W ∧ W.heap[N + 1]? = some (.loop (L st pe)) ∧ W.heap[N]? = some (.deferred (some []))) := by
    intro H hH st pe s A B row ⟨i1, i2, i3⟩ hg' hr
    have hne : ∀ k, k < N + 2 → some k ≠ row := fun k hk e => by have := (hr k e.symm).1; omega
    refine ⟨hH s A B row i1 hg' fun r e => ⟨by have := (hr r e).1; omega, (hr r e).2⟩, (hg'.block _ (Array.getElem?_eq_some_iff.1 i2).1 (hne _ (by omega))).trans i2, (hg'.block _ (Array.getElem?_eq_some_iff.1 i3).1 (hne _ (by omega))).trans i3⟩
  refine ⟨N + 1, [{ target := .collected N, args := #[] }], V, { target := .fn (.func gf) lb, args := #[.func (.yield (N + 1)) #[] #[]] }, V, gf, #[.func (.yield (N + 1)) #[] #[]] ++ lb, V, ?_, ?_, fun _ _ => trivial, ?_, fun h => by simp [Fence.wide] at h, ?_⟩
  · rw [← hV, hL, ← hN]; exact run_enterLoop_outer _ _ _ _ _
  · simp only [resolve, hg]; simp [go_sem]
  · simp [invoke, go_sem, eg]
  · refine (hseq (N + 1) (fun pre W => I pre W ∧ W.heap[N + 1]? = some (.loop (L .ready none)) ∧ W.heap[N]? = some (.deferred (some []))) (fun pre W => Ix pre W ∧ W.heap[N + 1]? = some (.loop (L .done (some .ret))) ∧ W.heap[N]? = some (.deferred (some []))) V vB (gen hI _ _) (gen hIx _ _) ?_ ⟨vI, vL, vD⟩).mono ?_
    · rintro pre v b W ⟨i1, i2, i3⟩ hx hpo
      have hlt : N + 1 < W.heap.size := (Array.getElem?_eq_some_iff.1 i2).1
      have hy := run_yield (P := P) (args := #[v]) i2 (by rw [hL]; exact hps.symm)
      rw [hL] at hy
      refine ⟨fn, _, assign, body, hy, roundIn_of_wpIn hfn (hassign _ v b W _ (by omega) hx fun a' W' hbw has => ?_)⟩
      have wG : W.grownBy W' none := ⟨hbw.os, hbw.tape, hbw.output, hbw.size, fun k hk _ => hbw.block k hk⟩
      have w2 : W'.heap[N + 1]? = some (.loop (L .ready none)) := (hbw.block _ hlt).trans i2
      have w3 : W'.heap[N]? = some (.deferred (some [])) := (hbw.block _ (by omega)).trans i3
      have wI : I pre W' := hI _ _ _ _ i1 wG fun r e => by cases e
      have wX : Rx v b W' := hRx v b () _ _ _ hx wG fun r e => by cases e
      have hlt' : N + 1 < W'.heap.size := Nat.lt_of_lt_of_le hlt hbw.size
      refine ⟨_, run_beginRound w2 (by rw [hL]), ?_⟩
      obtain ⟨U, hU⟩ : ∃ U, W'.putObj (N + 1) (.loop { L .ready none with state := .busy }) = U := ⟨_, rfl⟩
      have uL : U.heap[N + 1]? = some (.loop { L .ready none with state := .busy }) := by rw [← hU]; exact World.putObj_heap_same hlt'
      have uD : U.heap[N]? = some (.deferred (some [])) := by rw [← hU]; exact (World.putObj_heap_other (by omega)).trans w3
      have uI : I pre U := by rw [← hU]; exact hI.putObj _ wI (by omega) w2 rfl
      have uX : Rx v b U := by rw [← hU]; exact (hRx v b).putObj (s := ()) _ wX (by omega) w2 rfl
      have uA : As v a' U := by rw [← hU]; exact (hAs v a').putObj (s := ()) _ has (by omega) w2 rfl
      have uG : W.grownBy U (some (N + 1)) := by rw [← hU]; exact grown_trans (grown_none wG _) (grownBy_putObj' _ _ _)
      rw [hU]
      refine wpIn_mono (hbody _ pre v b a' U (by omega) ⟨_, uL⟩ uI uX uA hpo) ?_
      have fin : ∀ (T : World), U.grownBy T X → T.heap[N + 1]? = some (.loop { L .ready none with state := .busy }) ∧ T.heap[N]? = some (.deferred (some [])) ∧ ∀ o', W.grownBy (T.putObj (N + 1) (.loop o')) X ∨ True := fun T tG => by
        have nX : ∀ k, N ≤ k → some k ≠ X := fun k hk e => by have := hX k e.symm; omega
        exact ⟨(tG.block _ (Array.getElem?_eq_some_iff.1 uL).1 (nX _ (by omega))).trans uL, (tG.block _ (Array.getElem?_eq_some_iff.1 uD).1 (nX _ (Nat.le_refl _))).trans uD, fun _ => .inr trivial⟩
      rintro e a3 T hp
      cases e with
      | normal =>
        obtain ⟨hs, tG, tI⟩ := hp
        obtain ⟨tL, tD, _⟩ := fin T tG
        have hr := run_endRound (P := P) none tL
        have eR : ({ ({ L .ready none with state := .busy } : Loop) with state := if (none : Option Code).isNone then .ready else .done, pending := none } : Loop) = L .ready none := by rw [hL]; rfl
        rw [eR] at hr
        have htl : N + 1 < T.heap.size := (Array.getElem?_eq_some_iff.1 tL).1
        refine ⟨_, _, hr, .inl ⟨rfl, hs, ⟨hI.putObj _ tI (by omega) tL rfl, World.putObj_heap_same htl, (World.putObj_heap_other (by omega)).trans tD⟩, ?_⟩⟩
        refine ⟨by rw [show (T.putObj (N + 1) _).os = T.os from rfl, tG.os, uG.os], by rw [show (T.putObj (N + 1) _).tape = T.tape from rfl, tG.tape, uG.tape], by rw [show (T.putObj (N + 1) _).output = T.output from rfl, tG.output, uG.output], by have := uG.size; have := tG.size; simp; omega, fun k hk hkX => ?_⟩
        by_cases e : k = N + 1
        · subst e
          rw [World.putObj_heap_same htl, i2]
        · rw [World.putObj_heap_other e, tG.block k (Nat.lt_of_lt_of_le hk uG.size) hkX, uG.block k hk (by simpa using e)]
      | ret =>
        obtain ⟨hs, tG, tI⟩ := hp
        obtain ⟨tL, tD, _⟩ := fin T tG
        have hr := run_endRound (P := P) (some .ret) tL
        have eR : ({ ({ L .ready none with state := .busy } : Loop) with state := if (some Code.ret : Option Code).isNone then .ready else .done, pending := some .ret } : Loop) = L .done (some .ret) := by rw [hL]; rfl
        rw [eR] at hr
        have htl : N + 1 < T.heap.size := (Array.getElem?_eq_some_iff.1 tL).1
        exact ⟨_, _, hr, .inr ⟨rfl, hs, hIx.putObj _ tI (by omega) tL rfl, World.putObj_heap_same htl, (World.putObj_heap_other (by omega)).trans tD⟩⟩
      | exit id => exact hp.elim
      | goto t => exact hp.elim
      | panic ch => exact hp.elim
      | outgrown => exact hp.elim
    · rintro e T' ⟨⟨v, rfl⟩, (⟨hS, tI, tL, tD⟩ | ⟨pre, b, post, h1, h2, h3, tI, tL, tD⟩)⟩
      · refine ⟨none, _, by have := run_endLoop (P := P) tL (by rw [hL]; simp); rw [hL] at this; exact this, ?_⟩
        exact hdone N _ (by omega) hS (hI.putObj _ tI (by omega) tL rfl) ((World.putObj_heap_other (by omega)).trans tD)
      · refine ⟨some .ret, _, by have := run_endLoop (P := P) tL (by rw [hL]; simp); rw [hL] at this; exact this, ?_⟩
        exact hstop N pre b post _ (by omega) h1 h2 h3 (hIx.putObj _ tI (by omega) tL rfl) ((World.putObj_heap_other (by omega)).trans tD)

/-! ### A region that draws its order, in a round, with calls of yield -/
theorem anyIn_round {l n : Nat} {P : Program} {ops : List Oper} {Q : Exit → Act → World → Prop} {md : Region.Mode} (hnd : noDefer ops = true) :
    ∀ (fuel : Nat) (listed : Array Bool) (a : Act) (w : World), wpAnyIn Fence.wide n P md ops.toArray Q fuel listed a w → wpAnyIn (Fence.wide.inRound l) n P md ops.toArray Q fuel listed a w
  | 0, _, _, _, h => h
  | fuel + 1, listed, a, w, h => by
    refine ⟨h.1, fun i hi => ?_⟩
    refine wpOpIn_mono (fun a' w' h' => anyIn_round hnd fuel _ a' w' h') ?_
    have h2 := h.2 i hi
    unfold wpOpIn at h2 ⊢
    cases ho : ops.toArray[i]? with
    | none => rw [ho] at h2; exact h2
    | some o =>
      rw [ho] at h2
      simp only at h2 ⊢
      split
      · rename_i hw
        rw [if_pos hw] at h2
        refine ⟨h2.1, ?_⟩
        have h3 := h2.2
        rw [Oper.semAt_eq _ _ _ (noDefer_spec hnd i o ho)] at h3 ⊢
        generalize (execOp a.eval o).run P w = r at *
        cases r with
        | ok x w' => cases x <;> exact h3
        | halt x w' => cases x <;> exact h3
      · rename_i hw
        rw [if_neg hw] at h2
        exact h2
theorem region_roundIn {l n id : Nat} {P : Program} {ops : List Oper} {Q : Exit → Act → World → Prop} {a : Act} {w : World} (hm : P.follows .mixedOrders = true) (hnd : noDefer ops = true)
    (h : wpAnyIn Fence.wide n P .any ops.toArray Q ops.toArray.size (Array.replicate ops.toArray.size false) a w.drew) : (Code.region id ops.toArray true).wpIn (Fence.wide.inRound l) n P Q a w :=
  wpIn_region_any hm (anyIn_round hnd _ _ _ _ h)

theorem opIn_wide {n : Nat} {P : Program} {o : Oper} {a : Act} {w : World} {K : Act → World → Prop} {Q : Exit → Act → World → Prop} (h : o.wp P a w K Q) : o.wpIn Fence.wide n P a w K Q := by
  refine ⟨fun _ _ => trivial, ?_⟩
  rw [show Oper.semAt Fence.wide.round a.eval o = execOp a.eval o from rfl]
  unfold Oper.wp at h
  generalize (execOp a.eval o).run P w = r at *
  cases r with
  | ok x w' =>
    cases x <;> first
      | exact h
      | exact ⟨fun hd => by simp [Fence.wide] at hd, callsIn_wide.2 h⟩
      | exact ⟨fun hd => by simp [Fence.wide] at hd, fun c cs _ => let ⟨v, w'', hr, s⟩ := h c cs; ⟨v, w'', hr, stepsIn_wide.2 s⟩⟩
      | exact h.elim
  | halt x w' => cases x <;> exact h

theorem grown_new {A B C : World} {g : Option Nat} (h : A.grownBy B none) (k : B.grownBy C g) (hg : ∀ j, g = some j → A.heap.size ≤ j) : A.grownBy C none :=
  ⟨k.os.trans h.os, k.tape.trans h.tape, k.output.trans h.output, Nat.le_trans h.size k.size, fun i hi _ => (k.block i (Nat.lt_of_lt_of_le hi h.size) (fun e => by have := hg i e.symm; omega)).trans (h.block i hi (by simp))⟩
theorem grown_drew (W : World) (X : Option Nat) : W.grownBy W.drew X := ⟨rfl, rfl, rfl, Nat.le_refl _, fun _ _ _ => rfl⟩
theorem grown_rd {A B : World} {X : Option Nat} (h : A.grownBy B X) {v : Value} {cs : List Value} (hv : Rd A v cs) (hX : ∀ a n c, v = .slice (some a) n c → some a.block ≠ X) : Rd B v cs := by
  obtain ⟨a, cap, rfl, h1, h2, h3, h4⟩ := hv
  refine ⟨a, cap, rfl, h1, h2, ?_, h4⟩
  rcases h3 with h3 | ⟨b, off, rfl, h3⟩
  · exact .inl h3
  · exact .inr ⟨b, off, rfl, fun j u hj => h.cell (h3 j u hj) (show some b ≠ X from hX ⟨b, off, none⟩ _ _ rfl)⟩

theorem addr_add (b off j : Nat) : (⟨b, off, none⟩ : Addr).add j = ⟨b, off + j, none⟩ := by
  unfold Addr.add
  split
  · subst_vars; rfl
  · rfl
theorem grown_above {A B C : World} {X row : Option Nat} (h : A.grownBy B X) (k : B.grownBy C row) (hr : ∀ r, row = some r → A.heap.size ≤ r) : A.grownBy C X :=
  ⟨k.os.trans h.os, k.tape.trans h.tape, k.output.trans h.output, Nat.le_trans h.size k.size, fun i hi hne => (k.block i (Nat.lt_of_lt_of_le hi h.size) (fun e => by have := hr i e.symm; omega)).trans (h.block i hi hne)⟩

/-- the marks of loops that have run, among what is put off -/
def MarksAt (B : Nat) (ds : List Deferred) (w : World) : Prop :=
  ∃ Ds : List Nat, ds = Ds.map (fun D => ({ target := .collected D, args := #[] } : Deferred)) ∧ Ds.Nodup ∧ ∀ D ∈ Ds, B ≤ D ∧ w.heap[D]? = some (.deferred (some []))
theorem MarksAt.nil (B : Nat) (w : World) : MarksAt B [] w := ⟨[], rfl, List.nodup_nil, by simp⟩
theorem MarksAt.cons {B : Nat} {ds : List Deferred} {w w' : World} {X : Option Nat} {D : Nat} (h : MarksAt B ds w) (g : w.grownBy w' X) (hX : ∀ k, X = some k → k < B) (hD : w'.heap[D]? = some (.deferred (some []))) (hge : w.heap.size ≤ D) (hB : B ≤ D) :
    MarksAt B ({ target := .collected D, args := #[] } :: ds) w' := by
  obtain ⟨Ds, rfl, h1, h2⟩ := h
  have hlt : ∀ d ∈ Ds, d < w.heap.size := fun d hd => (Array.getElem?_eq_some_iff.1 (h2 d hd).2).1
  refine ⟨D :: Ds, rfl, List.nodup_cons.2 ⟨fun hd => by have := hlt D hd; omega, h1⟩, fun d hd => ?_⟩
  rcases List.mem_cons.1 hd with rfl | hd
  · exact ⟨hB, hD⟩
  · exact ⟨(h2 d hd).1, (g.block d (hlt d hd) (fun e => by have := hX d e.symm; have := (h2 d hd).1; omega)).trans (h2 d hd).2⟩
theorem leaves_marks {F : Fence} {n : Nat} {P : Program} {fn : Func} {tmps : Array Value} {R : Ending → World → Prop} {B : Nat} {J : World → Prop} (hJ : ∀ (W : World) (D : Nat), B ≤ D → W.heap[D]? = some (.deferred (some [])) → J W → J (W.putObj D (.deferred none)))
    (hR : ∀ w, J w → LeavesIn F n P fn tmps R [] .returning w) : ∀ (ds : List Deferred) (w : World), MarksAt B ds w → J w → LeavesInM F n P fn tmps R ds .returning w
  | ds, w, ⟨[], e, _, _⟩, hj => by subst e; exact hR w hj
  | ds, w, ⟨D :: Ds, e, h1, h2⟩, hj => by
    subst e
    obtain ⟨q1, q2⟩ := List.nodup_cons.1 h1
    have hD := h2 D (List.mem_cons_self ..)
    refine ⟨by simp, .inl ⟨D, _, rfl, run_takeDeferred hD.2, ?_⟩⟩
    exact leaves_marks hJ hR _ _ ⟨Ds, rfl, q2, fun d hd => ⟨(h2 d (List.mem_cons_of_mem _ hd)).1, (World.putObj_heap_other (fun e => by subst e; exact q1 hd)).trans (h2 d (List.mem_cons_of_mem _ hd)).2⟩⟩ (hJ w D hD.1 hD.2 hj)
termination_by ds => ds.length
decreasing_by subst_vars; simp

theorem Rd.turned {A B : World} {row : Option Nat} {v : Value} {cs : List Value} (h : Rd A v cs) (hg : A.grownBy B row) (hr : ∀ r, row = some r → ∃ o : Obj, A.heap[r]? = some o ∧ o.isCells = false) : Rd B v cs := by
  obtain ⟨a, cap, e, q1, q2, q3, q4⟩ := h
  refine ⟨a, cap, e, q1, q2, ?_, q4⟩
  rcases q3 with q3 | ⟨b, off, rfl, q3⟩
  · exact .inl q3
  · exact .inr ⟨b, off, rfl, fun j u hj => cell_kept (q3 j u hj) hg hr⟩
theorem wpIn_n {l n n' : Nat} {P : Program} {c : Code} {Q : Exit → Act → World → Prop} {a : Act} {w : World} (h : c.wpIn (Fence.wide.inRound l) n P Q a w) : c.wpIn (Fence.wide.inRound l) n' P Q a w :=
  fun b k cs h1 h2 _ => h b k cs h1 h2 (room_wide _)
theorem below_grown {A B : World} (h : Below A.heap.size A B) (X : Option Nat) : A.grownBy B X := ⟨h.os, h.tape, h.output, h.size, fun k hk _ => h.block k hk⟩


/-- a piece of code comes to its end with the frame A and the world B -/
def cutQ (A1 : Act) (B1 : World) : Exit → Act → World → Prop
  | .normal, a, w => a = A1 ∧ w = B1
  | _, _, _ => False
theorem no_cut {A1 : Act} {B1 : World} : ¬ LetsOut (cutQ A1 B1) := fun ⟨_, _, h⟩ => h
theorem cut_region {F : Fence} {n : Nat} {P : Program} {c : Code} {Q : Exit → Act → World → Prop} {a : Act} {w : World} {A1 : Act} {B1 : World} (h : c.wpIn F n P (cutQ A1 B1) a w) (k : Q .normal A1 B1) : c.wpIn F n P Q a w :=
  wpIn_mono h fun e a' w' hq => by
    cases e with
    | normal => obtain ⟨rfl, rfl⟩ := hq; exact k
    | ret => exact hq.elim
    | exit id => exact hq.elim
    | goto t => exact hq.elim
    | panic ch => exact hq.elim
    | outgrown => exact hq.elim
end Go.Proofs.Ytelnlmhelkcliaa
