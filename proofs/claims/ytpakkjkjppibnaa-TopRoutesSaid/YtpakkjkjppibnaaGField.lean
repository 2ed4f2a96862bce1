/- Layout: the field. -/
import Derived.Test.YtpakkjkjppibnaaGQuad
import Derived.Outline
namespace Go.Proofs.Ytpakkjkjppibnaa
open Go.RowKit

theorem GridAt.ok {W : World} {Bg : Nat} {g : Gr} {bl : Value} {sa : Option Addr} {sc : Nat} (h : GridAt W Bg g bl sa sc) : GrOk g := ⟨h.len, h.w1, h.w2, h.h1, h.h2, h.m1, h.m2, h.b1, h.b2⟩
/-- the table when k of its rows are laid -/
def laidP (n k : Nat) : List (List Int) := List.replicate k [-1, -1, -1, -1] ++ List.replicate (n - k) [0, 0, 0, 0]
theorem laidP_len {n k : Nat} (h : k ≤ n) : (laidP n k).length = n := by simp [laidP]; omega
theorem laidP_four (n k : Nat) : Four (laidP n k) := fun r hr => by
  rcases List.mem_append.1 hr with h | h <;> (rw [(List.mem_replicate.1 h).2]; rfl)
theorem laidP_succ {n k : Nat} (h : k < n) : (laidP n k).set k [-1, -1, -1, -1] = laidP n (k + 1) := by
  unfold laidP
  rw [List.set_append, if_neg (by simp), List.length_replicate, Nat.sub_self, show n - k = (n - (k + 1)) + 1 by omega, List.replicate_succ, List.set_cons_zero]
  rw [show List.replicate (k + 1) ([-1, -1, -1, -1] : List Int) = List.replicate k [-1, -1, -1, -1] ++ [[-1, -1, -1, -1]] from List.replicate_succ']
  simp


/-- the field's two parts in memory: V is the world ahead of the table -/
structure St (V : World) (Bp N : Nat) (v : Value) (l : List Pl) (o : List (List Int)) (wr : World) : Prop where
  hp : HeapAt wr Bp V.heap.size v l
  out : wr.ownsRow V.heap.size 79 4 (.slice (some ⟨V.heap.size, 0, none⟩) N N) N (quads o)
  four : Four o
  len : o.length = N
  fp : V.heap.size < Bp
  sep : v.ownBlock ≠ some V.heap.size
  bel : Below V.heap.size V wr
theorem St.below {V wr w' : World} {Bp N : Nat} {v : Value} {l : List Pl} {o : List (List Int)} (h : St V Bp N v l o wr) (hb : Below wr.heap.size wr w') : St V Bp N v l o w' :=
  ⟨h.hp.below hb, own_below h.out hb, h.four, h.len, h.fp, h.sep, h.bel.trans (hb.mono h.bel.size)⟩
theorem St.lt {V wr : World} {Bp N : Nat} {v : Value} {l : List Pl} {o : List (List Int)} (h : St V Bp N v l o wr) : Bp < wr.heap.size := h.hp.1.lt
theorem own_ge {w : World} {B n : Nat} {e : TypeId} {size : Nat} {v : Value} {xs : List Value} (h : w.ownsRow B e size v n xs) : ∀ k, v.ownBlock = some k → B ≤ k := fun k hk => (h.lt k hk).1
theorem St.moved {V wr w' : World} {Bp N : Nat} {v v' : Value} {l l' : List Pl} {o : List (List Int)} (h : St V Bp N v l o wr) (hp : HeapAt w' Bp V.heap.size v' l') (hk : Kp Bp v wr w') (hm : Moved wr v v') : St V Bp N v' l' o w' := by
  have hlt := h.lt
  have hfp := h.fp
  refine ⟨hp, hk.own h.out (by omega) h.sep, h.four, h.len, h.fp, fun e => ?_, h.bel.trans (hk.toBelow h.bel.size (by omega) (own_ge h.hp.2))⟩
  rcases hm _ e with e1 | e1
  · exact h.sep e1
  · omega
theorem St.store {V wr : World} {Bp N : Nat} {v : Value} {l : List Pl} {o : List (List Int)} (h : St V Bp N v l o wr) (i d : Nat) (hd : d < 4) (x : Int) : St V Bp N v l (outSet o i d x) (wr.setCell ⟨V.heap.size, i * 4 + d, none⟩ (.int .i64 x)) := by
  have hfp := h.fp
  have hg : wr.grownBy (wr.setCell ⟨V.heap.size, i * 4 + d, none⟩ (.int .i64 x)) (some V.heap.size) := ⟨rfl, rfl, rfl, (KeepsWalks.setCell wr _ _).size, fun k' _ hk' => Below.heap_setCell _ _ _ k' (fun e => hk' (by rw [e]))⟩
  refine ⟨⟨h.hp.1.kept hg (fun e => by have := Option.some.inj e; omega), h.hp.2.kept hg ?_⟩, own_setOne h.out h.four i d hd x, ?_, by rw [outSet_len]; exact h.len, h.fp, h.sep, h.bel.setCell (p := ⟨V.heap.size, i * 4 + d, none⟩) (Nat.le_refl _) _⟩
  · exact .inr fun e => h.sep e
  · unfold outSet
    intro r hr
    rcases List.mem_or_eq_of_mem_set hr with h1 | h1
    · exact h.four r h1
    · rw [h1, List.length_set]
      by_cases hi : i < o.length
      · rw [List.getD_eq_getElem?_getD, List.getElem?_eq_getElem hi]
        exact h.four _ (List.getElem_mem hi)
      · rw [List.set_eq_of_length_le (by omega)] at hr
        have := h.four r hr
        rw [h1, List.length_set] at this
        exact this
/-- a block of the call's own that is neither the heap's nor its variable's -/
def Aside (wr : World) (Bp : Nat) (v : Value) (b : Nat) : Prop := b < wr.heap.size ∧ b ≠ Bp ∧ v.ownBlock ≠ some b
theorem Aside.moved {wr w' : World} {Bp b : Nat} {v v' : Value} (h : Aside wr Bp v b) (hk : Kp Bp v wr w') (hm : Moved wr v v') : Aside w' Bp v' b := by
  refine ⟨Nat.lt_of_lt_of_le h.1 hk.size, h.2.1, fun e => ?_⟩
  rcases hm _ e with e1 | e1
  · exact h.2.2 e1
  · have := h.1; omega
theorem Aside.below {wr w' : World} {Bp b : Nat} {v : Value} (h : Aside wr Bp v b) (hb : Below wr.heap.size wr w') : Aside w' Bp v b := ⟨Nat.lt_of_lt_of_le h.1 hb.size, h.2.1, h.2.2⟩
theorem Aside.new {wr w' : World} {Bp B b : Nat} {v : Value} {l : List Pl} (h : HeapAt wr Bp B v l) (hb : wr.heap.size ≤ b) (hw : b < w'.heap.size) : Aside w' Bp v b :=
  ⟨hw, by have := h.1.lt; omega, fun e => by have := (h.2.lt b e).2; omega⟩

theorem own_empty (w : World) (B size : Nat) (e : TypeId) (hb : B ≤ w.heap.size) : (w.alloc (.cells #[] e)).ownsRow B e size (.slice (some ⟨w.heap.size, 0, none⟩) 0 0) 0 [] :=
  ⟨by simp, .inr ⟨w.heap.size, 0, #[], rfl, hb, heap_alloc_new w _, Nat.le_refl _, Nat.zero_le _, by simp, by simp⟩⟩
theorem St.start {V wr : World} {N : Nat} {o : List (List Int)} (ho : wr.ownsRow V.heap.size 79 4 (.slice (some ⟨V.heap.size, 0, none⟩) N N) N (quads o)) (hV : V.heap.size < wr.heap.size) (hb : Below V.heap.size V wr) (h4 : Four o) (hl : o.length = N) :
    St V (wr.heap.size + 1) N (.slice (some ⟨wr.heap.size, 0, none⟩) 0 0) [] o ((wr.alloc (.cells #[] 116)).alloc (.cells #[.slice (some ⟨wr.heap.size, 0, none⟩) 0 0] 113)) := by
  have e1 : (wr.alloc (.cells #[] 116)).heap.size = wr.heap.size + 1 := by simp
  refine ⟨⟨?_, ?_⟩, ?_, h4, hl, by omega, ?_, (hb.alloc hb.size _).alloc (by rw [e1]; have := hb.size; omega) _⟩
  · have := Boxed.new (wr.alloc (.cells #[] 116)) 113 (.slice (some ⟨wr.heap.size, 0, none⟩) 0 0)
    rwa [e1] at this
  · exact (own_empty wr V.heap.size 3 116 hb.size).alloc _
  · exact (ho.alloc _).alloc _
  · intro e
    have : wr.heap.size = V.heap.size := Option.some.inj e
    omega

theorem loopP_nil {g : Gr} (f : Nat) (s : List Pl × List (List Int)) (h : s.1.length = 0) : loopP g f s = s := by
  cases f with
  | zero => rfl
  | succ f => unfold loopP; rw [if_pos h]
theorem loopP_cons {g : Gr} (f : Nat) (s : List Pl × List (List Int)) (h : 0 < s.1.length) : loopP g (f + 1) s = loopP g f (turnP g s) := by
  rw [loopP, if_neg (by omega)]
theorem turnP_had {g : Gr} {l : List Pl} {o : List (List Int)} {i d : Nat} {c : Int} (h : popX l = ((i : Int), (d : Int), c)) (hq : 0 ≤ outGet o i d) : turnP g (l, o) = (popR l, o) := by
  unfold turnP; simp only [h, Int.toNat_natCast]; rw [if_pos hq]
theorem turnP_shut {g : Gr} {l : List Pl} {o : List (List Int)} {i d : Nat} {c : Int} (h : popX l = ((i : Int), (d : Int), c)) (hq : ¬ 0 ≤ outGet o i d) (ho : openP g (besideP (cellP g i) (d + 2)) = false) : turnP g (l, o) = (popR l, outSet o i d c) := by
  unfold turnP; simp only [h, Int.toNat_natCast]; rw [if_neg hq, ho]; rfl
theorem turnP_push {g : Gr} {l : List Pl} {o : List (List Int)} {i d : Nat} {c : Int} (h : popX l = ((i : Int), (d : Int), c)) (hq : ¬ 0 ≤ outGet o i d) (ho : openP g (besideP (cellP g i) (d + 2)) = true) :
    turnP g (l, o) = (pushesP (popR l) (fun e => (indexP g (besideP (cellP g i) (d + 2)), (e : Int), c + stepP g e d)) 4, outSet o i d c) := by
  unfold turnP; simp only [h, Int.toNat_natCast]; rw [if_neg hq, ho]; rfl
theorem beside_at (c : Int × Int) (d : Nat) (D : Int) (hD : D = d) (hd : d < 8) (w : World) (h1 : -1000000 ≤ c.1) (h2 : c.1 ≤ 1000000) (h3 : -1000000 ≤ c.2) (h4 : c.2 ≤ 1000000) :
    Calls Try.prog 46 #[.agg #[.int .i64 c.1, .int .i64 c.2], .int .i64 D] w fun e w' => e = .returned (.agg #[.int .i64 (besideP c d).1, .int .i64 (besideP c d).2]) ∧ Below w.heap.size w w' := by
  subst hD; exact beside_any c d hd w h1 h2 h3 h4
theorem cellP_near {g : Gr} (h : GrOk g) {i : Nat} (hi : i < g.w * g.h) : 0 ≤ (cellP g i).1 ∧ (cellP g i).1 ≤ 29 ∧ 0 ≤ (cellP g i).2 ∧ (cellP g i).2 ≤ 29 := by
  have h1 := h.w1
  have h2 := h.w2
  have h3 := h.h2
  have e1 : i % g.w < g.w := Nat.mod_lt _ (by omega)
  have e2 : i / g.w < g.h := Nat.div_lt_of_lt_mul hi
  unfold cellP
  generalize i % g.w = r at *
  generalize i / g.w = q at *
  refine ⟨?_, ?_, ?_, ?_⟩ <;> dsimp only <;> omega
/-- the state of the field's loop: k turns are enough -/
def FState (g : Gr) (to : Int × Int) (V : World) (Bp N k : Nat) (v : Value) (l : List Pl) (o : List (List Int)) (wr : World) : Prop :=
  St V Bp N v l o wr ∧ FInv g (l, o) ∧ (meas (l, o) ≤ k ∧ k ≤ 4 + 20 * (g.w * g.h)) ∧ (loopP g k (l, o)).2 = fieldP g to
theorem FState.turn {g : Gr} {to : Int × Int} {V wr w' : World} {Bp N k : Nat} {v v' : Value} {l l' : List Pl} {o o' : List (List Int)} (hg : GrOk g) (h : FState g to V Bp N (k + 1) v l o wr) (hl : 0 < l.length)
    (ht : turnP g (l, o) = (l', o')) (hs : St V Bp N v' l' o' w') : FState g to V Bp N k v' l' o' w' := by
  obtain ⟨_, h2, h3, h4⟩ := h
  obtain ⟨i1, i2⟩ := turn_inv hg h2 hl
  rw [loopP_cons k _ hl] at h4
  rw [ht] at i1 i2 h4
  exact ⟨hs, i1, ⟨by omega, by omega⟩, h4⟩

theorem keepS2 {w0 W w' : World} {a b : Addr} {v u : Value} (hb : Below W.heap.size W w') (hS : W.cell? a = some v ∧ W.cell? b = some u ∧ Hid (Below w0.heap.size w0 W)) : w'.cell? a = some v ∧ w'.cell? b = some u ∧ Hid (Below w0.heap.size w0 w') :=
  ⟨cell_below hS.1 hb, cell_below hS.2.1 hb, Lib.hid (hS.2.2.out.trans (hb.mono hS.2.2.out.size))⟩
theorem keepA {w0 W : World} {a b : Addr} {v u : Value} (c : Obj) (hS : W.cell? a = some v ∧ W.cell? b = some u ∧ Hid (Below w0.heap.size w0 W)) : (W.alloc c).cell? a = some v ∧ (W.alloc c).cell? b = some u ∧ Hid (Below w0.heap.size w0 (W.alloc c)) :=
  keepS2 ((Below.refl _ _).alloc (Nat.le_refl _) _) hS
theorem heldB {w0 W w' : World} (hb : Below W.heap.size W w') (hS : Hid (Below w0.heap.size w0 W)) : Hid (Below w0.heap.size w0 w') := Lib.hid (hS.out.trans (hb.mono hS.out.size))
theorem heldA {w0 W : World} (o : Obj) (hS : Hid (Below w0.heap.size w0 W)) : Hid (Below w0.heap.size w0 (W.alloc o)) := Lib.hid (hS.out.alloc hS.out.size o)
theorem heldS {w0 W : World} {b o : Nat} {s : Option Nat} (hS : Hid (Below w0.heap.size w0 W)) (v : Value) (hb : w0.heap.size ≤ b) : Hid (Below w0.heap.size w0 (W.setCell ⟨b, o, s⟩ v)) := Lib.hid (hS.out.setCell (p := ⟨b, o, s⟩) hb v)
theorem frozen_below {w w' : World} {b o : Nat} (h : w.frozen? ⟨b, o, none⟩ = false) (hl : b < w.heap.size) (hb : Below w.heap.size w w') : w'.frozen? ⟨b, o, none⟩ = false := by
  unfold World.frozen? at h ⊢
  rw [hb.block b hl]
  exact h
/-- a variable of two cells -/
def Box2 (w : World) (b : Nat) (x y : Value) : Prop := w.cell? ⟨b, 0, none⟩ = some x ∧ w.cell? ⟨b, 1, none⟩ = some y ∧ w.frozen? ⟨b, 0, none⟩ = false ∧ w.frozen? ⟨b, 1, none⟩ = false
theorem Box2.new (w : World) (x y : Value) (t : TypeId) : Box2 (w.alloc (.cells #[x, y] t)) w.heap.size x y := by
  have e := heap_alloc_new w (.cells #[x, y] t)
  exact ⟨World.cell?_alloc_at _ _ _ _ rfl, World.cell?_alloc_at _ _ _ _ rfl, by unfold World.frozen?; rw [e]; rfl, by unfold World.frozen?; rw [e]; rfl⟩
theorem Box2.below {w w' : World} {b : Nat} {x y : Value} (h : Box2 w b x y) (hb : Below w.heap.size w w') : Box2 w' b x y :=
  ⟨cell_below h.1 hb, cell_below h.2.1 hb, frozen_below h.2.2.1 (World.block_lt_of_cell? _ _ h.1) hb, frozen_below h.2.2.2 (World.block_lt_of_cell? _ _ h.1) hb⟩
def EndBox (w0 w : World) (b : Nat) (x y : Value) : Prop := (w0.heap.size ≤ b ∧ b < w.heap.size) ∧ w.cell? ⟨b, 0, none⟩ = some x ∧ w.cell? ⟨b, 1, none⟩ = some y ∧ Below w0.heap.size w0 w
theorem endA {w0 w : World} {x y : Value} {t : TypeId} (h : Hid (Below w0.heap.size w0 w)) : EndBox w0 (w.alloc (.cells #[x, y] t)) w.heap.size x y :=
  ⟨⟨h.out.size, by simp⟩, World.cell?_alloc_at _ _ _ _ rfl, World.cell?_alloc_at _ _ _ _ rfl, h.out.alloc h.out.size _⟩
theorem endS {w0 w : World} {b : Nat} {x y x0 y0 : Value} (hx : Box2 w b x0 y0) (hb : w0.heap.size ≤ b) (h : Hid (Below w0.heap.size w0 w)) : EndBox w0 ((w.setCell ⟨b, 0, none⟩ x).setCell ⟨b, 1, none⟩ y) b x y := by
  have h1 : (w.setCell ⟨b, 0, none⟩ x).cell? ⟨b, 0, none⟩ = some x := World.cell?_setCell_same _ _ _ hx.1
  have h2 : (w.setCell ⟨b, 0, none⟩ x).cell? ⟨b, 1, none⟩ = some y0 := (World.cell?_setCell_other _ _ _ _ (by simp)).trans hx.2.1
  exact ⟨⟨hb, by simpa using World.block_lt_of_cell? _ _ hx.1⟩, (World.cell?_setCell_other _ _ _ _ (by simp)).trans h1, World.cell?_setCell_same _ _ _ h2, (h.out.setCell (p := ⟨b, 0, none⟩) hb _).setCell (p := ⟨b, 1, none⟩) hb _⟩
theorem endS' {w0 w : World} {b : Nat} {x y x0 y0 : Value} (hx : Box2 w b x0 y0) (hb : w0.heap.size ≤ b) (h : Hid (Below w0.heap.size w0 w)) : ∃ bz, bz = b ∧ EndBox w0 ((w.setCell ⟨b, 0, none⟩ x).setCell ⟨b, 1, none⟩ y) b x y :=
  ⟨b, rfl, endS hx hb h⟩
/-- what holds behind a region, the frame and the world forgotten -/
def cutR (R : Act → World → Prop) : Exit → Act → World → Prop
  | .normal, a, w => R a w
  | _, _, _ => False
theorem cut_wp {P : Program} {c : Code} {Q : Exit → Act → World → Prop} {a : Act} {w : World} (A : Nat → Act) (R : Nat → World → Prop) (h : c.wp P (cutR fun a' w' => ∃ b, a' = A b ∧ R b w') a w) (k : ∀ b w', R b w' → Q .normal (A b) w') : c.wp P Q a w :=
  Code.wp_mono (fun e a' w' h => by
    cases e with
    | normal => obtain ⟨b, rfl, hR⟩ := (h : ∃ b, a' = A b ∧ R b w'); exact k b _ hR
    | _ => exact (h : False).elim) h

/-- the state of the four pushes of a turn -/
structure InL (V : World) (Bp N pb b : Nat) (y1 y2 z1 z2 : Value) (v : Value) (l : List Pl) (o : List (List Int)) (wr : World) : Prop where
  st : St V Bp N v l o wr
  a1 : Aside wr Bp v pb
  a2 : Aside wr Bp v b
  q1 : wr.cell? ⟨pb, 1, none⟩ = some y1
  q2 : wr.cell? ⟨pb, 2, none⟩ = some y2
  b0 : wr.cell? ⟨b, 0, none⟩ = some z1
  b1 : wr.cell? ⟨b, 1, none⟩ = some z2
theorem InL.below {V wr w' : World} {Bp N pb b : Nat} {y1 y2 z1 z2 v : Value} {l : List Pl} {o : List (List Int)} (h : InL V Bp N pb b y1 y2 z1 z2 v l o wr) (hb : Below wr.heap.size wr w') : InL V Bp N pb b y1 y2 z1 z2 v l o w' :=
  ⟨h.st.below hb, h.a1.below hb, h.a2.below hb, cell_below h.q1 hb, cell_below h.q2 hb, cell_below h.b0 hb, cell_below h.b1 hb⟩
theorem InL.moved {V wr w' : World} {Bp N pb b : Nat} {y1 y2 z1 z2 v v' : Value} {l l' : List Pl} {o : List (List Int)} (h : InL V Bp N pb b y1 y2 z1 z2 v l o wr) (hp : HeapAt w' Bp V.heap.size v' l') (hk : Kp Bp v wr w') (hm : Moved wr v v') : InL V Bp N pb b y1 y2 z1 z2 v' l' o w' :=
  ⟨h.st.moved hp hk hm, h.a1.moved hk hm, h.a2.moved hk hm, hk.cell h.q1 h.a1.2.1 h.a1.2.2, hk.cell h.q2 h.a1.2.1 h.a1.2.2, hk.cell h.b0 h.a2.2.1 h.a2.2.2, hk.cell h.b1 h.a2.2.1 h.a2.2.2⟩

set_option maxRecDepth 100000 in
set_option maxHeartbeats 8000000 in
theorem field_any (Bg : Nat) (g : Gr) (bl : Value) (sa : Option Addr) (sc : Nat) (to : Int × Int) (w : World) (hg : GridAt w Bg g bl sa sc) (ht : onP g.w g.h to = true) :
    Calls Try.prog 40 #[.pointer (some ⟨Bg, 0, none⟩), .agg #[.int .i64 to.1, .int .i64 to.2]] w fun e w' => ∃ fb, e = .returned (.slice (some ⟨fb, 0, none⟩) (g.w * g.h) (g.w * g.h)) ∧ w'.ownsRow w.heap.size 79 4 (.slice (some ⟨fb, 0, none⟩) (g.w * g.h) (g.w * g.h)) (g.w * g.h) (quads (fieldP g to)) ∧ Below w.heap.size w w' := by
  have HG := Lib.hid hg
  have HT := Lib.hid ht
  have HC := Lib.hid hg.ok.cells
  obtain ⟨N, hN⟩ : ∃ N, g.w * g.h = N := ⟨_, rfl⟩
  have HN := Lib.hid hN
  rw [hN] at HC ⊢
  have hN1 : 1 ≤ N := HC.out.1
  have hN9 : N ≤ 900 := HC.out.2
  have hNi : (g.w : Int) * (g.h : Int) = (N : Int) := by rw [← hN]; simp
  have hwN : wrap64 (N : Int) = (N : Int) := by unfold wrap64; omega
  have HNI := Lib.hid hNi
  have hlt := World.block_lt_of_cell? _ _ hg.c0
  obtain ⟨x, y⟩ := to
  dsimp only at *
  clear hg ht hN
  go_enter Try.func40, Try.ntmps40
  go_wp2_with fail
  have hbW := (Below.refl w.heap.size w).alloc (Nat.le_refl _) (.cells #[.int .i64 x, .int .i64 y] 26)
  have HD0 := Lib.hid (show (w.alloc (.cells #[.int .i64 x, .int .i64 y] 26)).cell? ⟨w.heap.size, 0, none⟩ = some (.int .i64 x) from World.cell?_alloc_at _ _ _ _ rfl)
  have HD1 := Lib.hid (show (w.alloc (.cells #[.int .i64 x, .int .i64 y] 26)).cell? ⟨w.heap.size, 1, none⟩ = some (.int .i64 y) from World.cell?_alloc_at _ _ _ _ rfl)
  have hsW : w.heap.size < (w.alloc (.cells #[.int .i64 x, .int .i64 y] 26)).heap.size := by simp
  generalize hW : w.alloc (.cells #[.int .i64 x, .int .i64 y] 26) = W at *
  clear hW
  have HBW := Lib.hid hbW
  clear hbW
  have e0 := fun x : Grow W => grow_cell (HG.out.below HBW.out).c0 x
  have e1 := fun x : Grow W => grow_cell (HG.out.below HBW.out).c1 x
  refine wp_region_growTail 11 (by kernel_rfl) (by kernel_rfl) ?_
  simp only [List.take_succ_cons, List.take_zero, List.drop_succ_cons, List.drop_zero]
  repeat (go_big_quiet_step (fail))
  refine wpQuiet_nil ?_
  intro _ hw'
  obtain ⟨xq, hw''⟩ := hw'
  subst hw''
  have HB1 := Lib.hid (grow_below xq)
  clear e0 e1
  generalize hV : grow xq = V at *
  clear hV
  go_wp2_with (at_make; refine mkK el_quad rfl rfl (n := N) rfl rfl ?_ (by omega) ?_; rotate_left; intro w2 ho2 hb2)
  case refine_1 => first | rfl | (rw [hwN]) | exact hNi
  rw [show (Value.agg #[.int .i64 0, .int .i64 0, .int .i64 0, .int .i64 0]).cells = #[.int .i64 0, .int .i64 0, .int .i64 0, .int .i64 0] from rfl, made_quads] at ho2
  go_wp2_with fail
  have HB2 := Lib.hid hb2
  have HO2 : Hid (w2.ownsRow V.heap.size 79 4 (.slice (some ⟨V.heap.size, 0, none⟩) N N) N (quads (laidP N 0))) := Lib.hid (by unfold laidP; simpa using ho2)
  clear ho2 hb2 hNi
  go_loopw [26] (fun p wr => ∃ k : Nat, k ≤ N ∧ p = .int .i64 k ∧ Hid (wr.ownsRow V.heap.size 79 4 (.slice (some ⟨V.heap.size, 0, none⟩) N N) N (quads (laidP N k)) ∧ Below V.heap.size V wr)) (fun p _ => N - (intOf p).toNat)
  case atStart => exact ⟨0, by omega, rfl, Lib.hid ⟨HO2.out, HB2.out⟩⟩
  case round =>
    obtain ⟨k, hk, rfl, HR⟩ := hrel
    by_cases hkN : k < N
    · have hkN' : (k : Int) < (N : Int) := by omega
      have hF := own_fld HR.out.1 (laidP_four N k) (laidP_len hk)
      have c0 := hF k 0 hkN (by omega)
      have c1 := hF k 1 hkN (by omega)
      have c2 := hF k 2 hkN (by omega)
      have c3 := hF k 3 hkN (by omega)
      rw [Nat.add_zero] at c0
      have f0 := HR.out.1.frozenAt (k * 4)
      have f1 := HR.out.1.frozenAt (k * 4 + 1)
      have f2 := HR.out.1.frozenAt (k * 4 + 2)
      have f3 := HR.out.1.frozenAt (k * 4 + 3)
      have HS := Lib.hid (own_setQuad HR.out.1 (laidP_four N k) k (-1) (-1) (-1) (-1))
      rw [laidP_succ hkN] at HS
      clear hF
      go_wp2_with fail
      go_roundw
      case rel => exact ⟨k + 1, by omega, by go_num, Lib.hid ⟨HS.out, (((HR.out.2.setCell (p := ⟨V.heap.size, k * 4, none⟩) (Nat.le_refl _) _).setCell (p := ⟨V.heap.size, k * 4 + 1, none⟩) (Nat.le_refl _) _).setCell (p := ⟨V.heap.size, k * 4 + 2, none⟩) (Nat.le_refl _) _).setCell (p := ⟨V.heap.size, k * 4 + 3, none⟩) (Nat.le_refl _) _⟩⟩
      case measure => simp [intOf]; omega
    · obtain rfl : N = k := by omega
      go_wp2_with fail
      have hVr : V.heap.size < wr.heap.size := (HR.out.1.lt _ rfl).2
      have hst0 := St.start HR.out.1 hVr HR.out.2 (laidP_four N N) (laidP_len (Nat.le_refl _))
      generalize hW2 : (wr.alloc (.cells #[] 116)).alloc (.cells #[.slice (some ⟨wr.heap.size, 0, none⟩) 0 0] 113) = W2 at *
      generalize wr.heap.size + 1 = Bp at *
      clear hW2 hVr
      have HST0 : Hid (∃ v, St V Bp N v (pushesP [] (fun d => (indexP g (x, y), (d : Int), 0)) 0) (laidP N N) W2) := Lib.hid ⟨_, hst0⟩
      clear hst0
      go_loopw [36] (fun p wr2 => ∃ k : Nat, k ≤ 4 ∧ p = .int .i64 k ∧ Hid (∃ v, St V Bp N v (pushesP [] (fun d => (indexP g (x, y), (d : Int), 0)) k) (laidP N N) wr2)) (fun p _ => 4 - (intOf p).toNat)
      case atStart => exact ⟨0, by omega, rfl, HST0⟩
      case round =>
        obtain ⟨k, hk4, rfl, HS⟩ := hrel
        obtain ⟨v, hst⟩ := HS.out
        have HST := Lib.hid hst
        by_cases hk : k < 4
        · have hbV := HB1.out.trans (hst.bel.mono HB1.out.size)
          have d0 := cell_below (cell_below HD0.out HB1.out) hst.bel
          have d1 := cell_below (cell_below HD1.out HB1.out) hst.bel
          have HI := Lib.hid (index_any Bg g bl sa sc (x, y) _ (((HG.out.below HBW.out).below HB1.out).below hst.bel) HT.out)
          have HL := Lib.hid (pushesP_len [] (fun d => (indexP g (x, y), (d : Int), 0)) k)
          have HPS := Lib.hid (pushesP_succ [] (fun d => (indexP g (x, y), (d : Int), 0)) k)
          clear hst
          go_wp2_with (first
            | (go_at_call 47; refine HI.out.mono ?_; rintro e w3 ⟨rfl, hb3⟩; have HS3 := Lib.hid (HST.out.below hb3))
            | ((with_reducible refine (push_any Bp V.heap.size v _ (indexP g (x, y), (k : Int), 0) w3 HS3.out.hp (by have := HS3.out.fp; omega) (by rw [HL.out]; simp; omega)).mono ?_); rintro e w4 ⟨⟨u4, rfl⟩, v4, hh4, hk4', hm4⟩; have HS4 := Lib.hid (HS3.out.moved hh4 hk4' hm4)))
          go_roundw
          case rel => exact ⟨k + 1, by omega, by go_num, Lib.hid ⟨v4, by rw [HPS.out]; exact HS4.out⟩⟩
          case measure => simp [intOf]; omega
        · obtain rfl : k = 4 := by omega
          have HF0 : Hid (∃ v l o, FState g (x, y) V Bp N (4 + 20 * (g.w * g.h)) v l o wr) := by
            obtain ⟨q1, q2⟩ := start_inv HG.out.ok HT.out
            refine Lib.hid ⟨v, (startP g (x, y)).1, (startP g (x, y)).2, ?_, q1, ⟨Nat.le_of_eq q2, Nat.le_refl _⟩, rfl⟩
            have := HST.out
            have e : laidP N N = (startP g (x, y)).2 := by unfold laidP startP; rw [HN.out]; simp
            rw [← e]; exact this
          clear hst
          go_wp2_with fail
          go_loopg [53] (4 + 20 * (g.w * g.h)) (fun k _ wr3 => Hid (∃ v l o, FState g (x, y) V Bp N k v l o wr3))
          case atStart => exact HF0
          case round =>
            obtain ⟨v, l, o, hfs⟩ := hrel.out
            clear hrel
            have HFS := Lib.hid hfs
            have hst := hfs.1
            have hcell := hst.hp.1.cell
            obtain ⟨va, vc, hv⟩ := hst.hp.form
            obtain ⟨M, hM⟩ : ∃ M, l.length = M := ⟨_, rfl⟩
            have HM := Lib.hid hM
            rw [hM] at hv
            subst hv
            clear hst hfs
            by_cases hM0 : M = 0
            · subst hM0
              go_wp2_with (first | ((with_reducible refine (len_any _ _ _ _).mono ?_); rintro e w5 ⟨rfl, rfl⟩))
              go_ret
              obtain ⟨q1, q2, q3, q4⟩ := HFS.out
              rw [loopP_nil _ _ HM.out] at q4
              refine ⟨_, rfl, ?_, ?_⟩
              · rw [← q4]; exact own_le q1.out (Nat.le_trans HBW.out.size HB1.out.size)
              · exact HBW.out.trans ((HB1.out.trans (q1.bel.mono HB1.out.size)).mono HBW.out.size)
            · have hMp : 0 < l.length := by rw [HM.out]; omega
              obtain ⟨k, rfl⟩ : ∃ k, gk = k + 1 := ⟨gk - 1, by
                have h3 := HFS.out.2.2.1.1
                unfold meas at h3
                dsimp only at h3
                omega⟩
              have HX := HFS.out.2.1.hp _ ((pop_mem hMp _).2 (.inl rfl))
              have hML : (l.length : Nat) ≤ 4000000 := by
                obtain ⟨h3, h5⟩ := HFS.out.2.2.1
                rw [HN.out] at h5
                unfold meas at h3
                dsimp only at h3
                omega
              have HPop := Lib.hid (pop_any Bp V.heap.size (.slice va M vc) l wr HFS.out.1.hp hML hMp)
              obtain ⟨⟨X1, X2, c⟩, hX⟩ : ∃ X, popX l = X := ⟨_, rfl⟩
              have HXX := hX
              rw [hX] at HX HPop
              obtain ⟨x1, x2, x3, x4, x5, x6⟩ := HX
              dsimp only at x1 x2 x3 x4 x5 x6
              obtain ⟨i, rfl⟩ : ∃ i : Nat, X1 = i := ⟨X1.toNat, by omega⟩
              obtain ⟨d, rfl⟩ : ∃ d : Nat, X2 = d := ⟨X2.toNat, by omega⟩
              have hiN : i < N := by rw [HN.out] at x2; omega
              have hiN' : (i : Int) < (N : Int) := by omega
              have hd4 : d < 4 := by omega
              have hc9 : c ≤ 7200000 := by
                have h3 := HFS.out.2.1.unl
                rw [HN.out] at x6 h3
                omega
              have HT1 := Lib.hid (fun h => turnP_had (g := g) (o := o) hX h)
              have HT2 := Lib.hid (fun h => turnP_shut (g := g) (o := o) hX h)
              have HT3 := Lib.hid (fun h => turnP_push (g := g) (o := o) hX h)
              have HFo := HFS.out.2.1
              have hta := assert_pl
              have hM0' : (0 : Int) < (M : Int) := by omega
              clear hX HXX x1 x2 x3 x4 x6 hML
              go_wp2_with (first
                | ((with_reducible refine (len_any _ _ _ _).mono ?_); rintro e w5 ⟨rfl, rfl⟩)
                | ((with_reducible refine HPop.out.mono ?_); rintro e w6 ⟨rfl, v6, hh6, hk6, hm6⟩; have HS6 := Lib.hid (HFS.out.1.moved hh6 hk6 hm6)))
              have hb7 := (Below.refl w6.heap.size w6).alloc (Nat.le_refl _) (.cells #[.int .i64 i, .int .i64 d, .int .i64 c] 116)
              have p0 : (w6.alloc (.cells #[.int .i64 i, .int .i64 d, .int .i64 c] 116)).cell? ⟨w6.heap.size, 0, none⟩ = some (.int .i64 i) := World.cell?_alloc_at _ _ _ _ rfl
              have p1 : (w6.alloc (.cells #[.int .i64 i, .int .i64 d, .int .i64 c] 116)).cell? ⟨w6.heap.size, 1, none⟩ = some (.int .i64 d) := World.cell?_alloc_at _ _ _ _ rfl
              have p2 : (w6.alloc (.cells #[.int .i64 i, .int .i64 d, .int .i64 c] 116)).cell? ⟨w6.heap.size, 2, none⟩ = some (.int .i64 c) := World.cell?_alloc_at _ _ _ _ rfl
              have hs7 : w6.heap.size < (w6.alloc (.cells #[.int .i64 i, .int .i64 d, .int .i64 c] 116)).heap.size := by simp
              generalize hW7 : w6.alloc (.cells #[.int .i64 i, .int .i64 d, .int .i64 c] 116) = w7 at *
              clear hW7
              have HS7 := Lib.hid (HS6.out.below hb7)
              have HA7 : Hid (Aside w7 Bp v6 w6.heap.size) := Lib.hid (Aside.new HS6.out.hp (Nat.le_refl _) hs7)
              have hpb : V.heap.size ≠ w6.heap.size := by have := HS6.out.fp; have := HS6.out.lt; omega
              generalize w6.heap.size = pb at *
              clear hb7
              have P0 := Lib.hid p0
              have P1 := Lib.hid p1
              have P2 := Lib.hid p2
              have q0 := own_fld HS7.out.out HS7.out.four HS7.out.len i d hiN hd4
              obtain ⟨q, hq⟩ : ∃ q, outGet o i d = q := ⟨_, rfl⟩
              have HQ := Lib.hid hq
              rw [hq] at q0 HT1 HT2 HT3
              have e0 := fun x : Grow w7 => grow_cell p0 x
              have e1 := fun x : Grow w7 => grow_cell p1 x
              have e2 := fun x : Grow w7 => grow_cell q0 x
              have hd4' : (d : Int) < 4 := by omega
              clear p0 p1 p2 q0 hq hcell
              refine wp_region_grow (by kernel_rfl) (by kernel_rfl) ?_
              repeat (go_big_quiet_step (fail))
              refine wpQuiet_nil ?_
              intro _ hw'
              obtain ⟨xq, hw''⟩ := hw'
              subst hw''
              have HB8 := Lib.hid (grow_below xq)
              clear e0 e1 e2
              generalize grow xq = w8 at *
              by_cases hq0 : 0 ≤ q
              · have HT := Lib.hid (HT1.out hq0)
                go_wp2_with fail
                go_roundg k
                case measure => omega
                case rel => exact Lib.hid ⟨v6, popR l, o, HFS.out.turn HG.out.ok hMp HT.out (HS7.out.below HB8.out)⟩
              · have hq0' : ¬ 0 ≤ q := hq0
                go_wp2_with fail
                have HS8 := Lib.hid (HS7.out.below HB8.out)
                have HA8 := Lib.hid (HA7.out.below HB8.out)
                have e0 := fun x : Grow w8 => grow_cell (cell_below P0.out HB8.out) x
                have e1 := fun x : Grow w8 => grow_cell (cell_below P1.out HB8.out) x
                have e2 := fun x : Grow w8 => grow_cell (cell_below P2.out HB8.out) x
                refine wp_region_growTail 9 (by kernel_rfl) (by kernel_rfl) ?_
                simp only [List.take_succ_cons, List.take_zero, List.drop_succ_cons, List.drop_zero]
                repeat (go_big_quiet_step (fail))
                refine wpQuiet_nil ?_
                intro _ hw'
                obtain ⟨xq2, hw''⟩ := hw'
                subst hw''
                have HB9 := Lib.hid (grow_below xq2)
                clear e0 e1 e2
                generalize grow xq2 = w9 at *
                have HS9 := Lib.hid (HS8.out.below HB9.out)
                have HA9 := Lib.hid (HA8.out.below HB9.out)
                have s0 := own_fld HS9.out.out HS9.out.four HS9.out.len i d hiN hd4
                rw [HQ.out] at s0
                have sf := HS9.out.out.frozenAt (i * 4 + d)
                have HS10 := Lib.hid (HS9.out.store i d hd4 c)
                have r0 := (World.cell?_setCell_far w9 ⟨V.heap.size, i * 4 + d, none⟩ ⟨pb, 0, none⟩ (.int .i64 c) hpb).trans (cell_below (cell_below P0.out HB8.out) HB9.out)
                have r1 := (World.cell?_setCell_far w9 ⟨V.heap.size, i * 4 + d, none⟩ ⟨pb, 1, none⟩ (.int .i64 c) hpb).trans (cell_below (cell_below P1.out HB8.out) HB9.out)
                have r2 := (World.cell?_setCell_far w9 ⟨V.heap.size, i * 4 + d, none⟩ ⟨pb, 2, none⟩ (.int .i64 c) hpb).trans (cell_below (cell_below P2.out HB8.out) HB9.out)
                have HA10 : Hid (Aside (w9.setCell ⟨V.heap.size, i * 4 + d, none⟩ (.int .i64 c)) Bp v6 pb) := Lib.hid ⟨by have := HA9.out.1; simpa using this, HA9.out.2⟩
                have R0 := Lib.hid r0
                have R1 := Lib.hid r1
                have R2 := Lib.hid r2
                clear r0 r1 r2
                go_wp2_with fail
                generalize hW10 : w9.setCell ⟨V.heap.size, i * 4 + d, none⟩ (.int .i64 c) = w10 at *
                clear hW10 s0 sf
                have HGV := Lib.hid (fun (U : World) (h : Below w10.heap.size w10 U) => ((HG.out.below HBW.out).below HB1.out).below ((HS10.out.below h).bel))
                have HN3 := cellP_near HG.out.ok (i := i) (by rw [HN.out]; exact hiN)
                have HCL := Lib.hid (fun (U : World) (h : Hid (Below w10.heap.size w10 U)) => cell_any Bg g bl sa sc i U (HGV.out U h.out) (by omega))
                obtain ⟨⟨z1, z2⟩, hz⟩ : ∃ z, cellP g i = z := ⟨_, rfl⟩
                rw [hz] at HN3 HCL HT2 HT3
                have HBS := Lib.hid (fun (U : World) (D : Int) (hD : D = (d + 2 : Nat)) => beside_at (z1, z2) (d + 2) D hD (by omega) U (by dsimp only at *; omega) (by dsimp only at *; omega) (by dsimp only at *; omega) (by dsimp only at *; omega))
                obtain ⟨⟨k1, k2⟩, hk⟩ : ∃ z, besideP (z1, z2) (d + 2) = z := ⟨_, rfl⟩
                rw [hk] at HBS HT2 HT3
                have hwd : IntKind.i64.wrap ((d : Int) + 2) = (d : Int) + 2 := IntWalk.i64_in _ (by omega)
                have hd0 : (0 : Int) ≤ (d : Int) := by omega
                clear hz hk HN3
                dsimp only at HCL HBS
                apply cut_wp (R := fun b w' => EndBox w10 w' b (.int .i64 k1) (.int .i64 k2))
                case h =>
                  have q0 : ∀ W : World, Hid (Below w10.heap.size w10 W) → W.cell? ⟨pb, 0, none⟩ = some (.int .i64 i) := fun W h => cell_below R0.out h.out
                  have q1 : ∀ W : World, Hid (Below w10.heap.size w10 W) → W.cell? ⟨pb, 1, none⟩ = some (.int .i64 d) := fun W h => cell_below R1.out h.out
                  go_region_held3 (fun w' => Hid (Below w10.heap.size w10 w'))
                    (first | exact Lib.hid (Below.refl _ _).drew | exact heldB hbk (by assumption) | exact heldA _ (by assumption) | exact heldA _ hkk.out | exact heldS (heldS (by assumption) _ (by first | assumption | exact Nat.le_refl _)) _ (by first | assumption | exact Nat.le_refl _))
                    (first
                      | (go_at_call 41; refine (HCL.out _ (by assumption)).mono ?_; rintro e wk ⟨rfl, hbk⟩; have hkk := Lib.hid (heldB hbk (by assumption)); have hsz := hkk.out.out.size; first | (have hbx : Box2 wk w10.heap.size _ _ := (Box2.new w10.drew _ _ _).below hbk; have hby := hbx; obtain ⟨f1, f2, f3, f4⟩ := hby) | (have hbx := (Box2.new _ _ _ _).below hbk; have hby := hbx; obtain ⟨f1, f2, f3, f4⟩ := hby) | (have hbx := Box2.below (by assumption) hbk; have hby := hbx; obtain ⟨f1, f2, f3, f4⟩ := hby) | skip)
                      | (go_at_call 46; refine (HBS.out _ _ (by rw [Int.natCast_add]; rfl)).mono ?_; rintro e wk ⟨rfl, hbk⟩; have hkk := Lib.hid (heldB hbk (by assumption)); have hsz := hkk.out.out.size; first | (have hbx : Box2 wk w10.heap.size _ _ := (Box2.new w10.drew _ _ _).below hbk; have hby := hbx; obtain ⟨f1, f2, f3, f4⟩ := hby) | (have hbx := (Box2.new _ _ _ _).below hbk; have hby := hbx; obtain ⟨f1, f2, f3, f4⟩ := hby) | (have hbx := Box2.below (by assumption) hbk; have hby := hbx; obtain ⟨f1, f2, f3, f4⟩ := hby) | skip))
                  · have hE := endA (x := .int .i64 k1) (y := .int .i64 k2) (t := 26) hkk.out
                    dsimp only [cutR]
                    generalize wk.heap.size = bz at hE ⊢
                    exact ⟨bz, rfl, hE⟩
                  all_goals (
                    obtain ⟨bz, e, hE⟩ := endS' (x := .int .i64 k1) (y := .int .i64 k2) hbx (by first | assumption | exact Nat.le_refl _) hkk.out
                    dsimp only [cutR]
                    rw [← e]
                    exact ⟨bz, rfl, by rw [e]; exact hE⟩)
                case k =>
                 intro b w11 hE
                 obtain ⟨hb11, b0, b1, hbE⟩ := hE
                 have HB11 := Lib.hid hbE
                 clear hbE
                 have HS11 := Lib.hid (HS10.out.below HB11.out)
                 have HA11 := Lib.hid (HA10.out.below HB11.out)
                 have HAb : Hid (Aside w11 Bp v6 b) := Lib.hid (Aside.new HS10.out.hp hb11.1 hb11.2)
                 have HOP := Lib.hid (open_any Bg g bl sa sc (k1, k2) w11 (HGV.out _ HB11.out))
                 have HML : Hid (l.length ≤ 100000) := Lib.hid (by
                   obtain ⟨h3, h5⟩ := HFS.out.2.2.1
                   have h6 := HC.out
                   rw [HN.out] at h5
                   unfold meas at h3
                   dsimp only at h3
                   omega)
                 dsimp only at HOP
                 cases hop : openP g (k1, k2) with
                 | false =>
                   rw [hop] at HOP
                   have HT := Lib.hid (HT2.out hq0' hop)
                   clear hop
                   go_wp2_with (go_at_call 39; refine HOP.out.mono ?_; rintro e w12 ⟨rfl, hb12⟩; have HS12 := Lib.hid (HS11.out.below hb12))
                   go_roundg k
                   case measure => omega
                   case rel => exact Lib.hid ⟨v6, popR l, _, HFS.out.turn HG.out.ok hMp HT.out HS12.out⟩
                 | true =>
                   rw [hop] at HOP
                   have HT := Lib.hid (HT3.out hq0' hop)
                   have hon := openP_on hop
                   have HON := Lib.hid hon
                   have HGW := Lib.hid (fun (U : World) (h : Below w11.heap.size w11 U) => HGV.out U (HB11.out.trans (h.mono HB11.out.size)))
                   clear hop hon
                   go_wp2_with (go_at_call 39; refine HOP.out.mono ?_; rintro e w12 ⟨rfl, hb12⟩)
                   have HIN : Hid (∃ v, InL V Bp N pb b (.int .i64 d) (.int .i64 c) (.int .i64 k1) (.int .i64 k2) v (pushesP (popR l) (fun e => (indexP g (k1, k2), (e : Int), c + stepP g e d)) 0) (outSet o i d c) w12) :=
                     Lib.hid ⟨v6, (InL.mk HS11.out HA11.out HAb.out (cell_below R1.out HB11.out) (cell_below R2.out HB11.out) b0 b1).below hb12⟩
                   clear b0 b1 hb12
                   go_loopw [88] (fun p wr4 => ∃ m : Nat, m ≤ 4 ∧ p = .int .i64 m ∧ Hid (∃ v, InL V Bp N pb b (.int .i64 d) (.int .i64 c) (.int .i64 k1) (.int .i64 k2) v (pushesP (popR l) (fun e => (indexP g (k1, k2), (e : Int), c + stepP g e d)) m) (outSet o i d c) wr4)) (fun p _ => 4 - (intOf p).toNat)
                   case atStart => exact ⟨0, by omega, rfl, HIN⟩
                   case round =>
                     obtain ⟨m, hm4, rfl, HI⟩ := hrel
                     obtain ⟨v, hin⟩ := HI.out
                     have HIN2 := Lib.hid hin
                     by_cases hm : m < 4
                     · have hml := popR_len l
                       have HPL := Lib.hid (pushesP_len (popR l) (fun e => (indexP g (k1, k2), (e : Int), c + stepP g e d)) m)
                       have HPS := Lib.hid (pushesP_succ (popR l) (fun e => (indexP g (k1, k2), (e : Int), c + stepP g e d)) m)
                       have hsl := stepP_le HG.out.ok m d
                       have HGI := Lib.hid (fun (x : Grow wr) => index_any Bg g bl sa sc (k1, k2) (grow x) (((HG.out.below HBW.out).below HB1.out).below ((hin.st.below (grow_below x)).bel)) HON.out)
                       have HGS := Lib.hid (fun (x : Grow wr) => step_any Bg g bl sa sc m d (grow x) (((HG.out.below HBW.out).below HB1.out).below ((hin.st.below (grow_below x)).bel)))
                       obtain ⟨S, hS⟩ : ∃ S, stepP g m d = S := ⟨_, rfl⟩
                       obtain ⟨J, hJ⟩ : ∃ J, indexP g (k1, k2) = J := ⟨_, rfl⟩
                       have HJ := Lib.hid hJ
                       have HSv := Lib.hid hS
                       rw [hS] at HGS hsl
                       rw [hJ] at HGI
                       dsimp only at HGI
                       have hws : IntKind.i64.wrap (c + S) = c + S := IntWalk.i64_in _ (by omega)
                       have e0 := fun x : Grow wr => grow_cell hin.q1 x
                       have e1 := fun x : Grow wr => grow_cell hin.q2 x
                       have e2 := fun x : Grow wr => grow_cell hin.b0 x
                       have e3 := fun x : Grow wr => grow_cell hin.b1 x
                       clear hS hJ hin hsl hml
                       go_wp2_with fail
                       refine wp_region_growTail 16 (by kernel_rfl) (by kernel_rfl) ?_
                       simp only [List.take_succ_cons, List.take_zero, List.drop_succ_cons, List.drop_zero]
                       repeat (go_big_quiet_step (first
                         | (go_at_call 47; refine grow_of (HGI.out _))
                         | (go_at_call 48; refine grow_of (HGS.out _))))
                       refine wpQuiet_nil ?_
                       intro _ hw'
                       obtain ⟨xq4, hw''⟩ := hw'
                       subst hw''
                       have HB13 := Lib.hid (grow_below xq4)
                       clear e0 e1 e2 e3 hws
                       generalize grow xq4 = w13 at *
                       have HI13 := Lib.hid (HIN2.out.below HB13.out)
                       go_wp2_with ((with_reducible refine (push_any Bp V.heap.size v _ (J, (m : Int), c + S) w13 HI13.out.st.hp (by have := HI13.out.st.fp; omega) (by rw [HPL.out, popR_len]; have := HML.out; omega)).mono ?_); rintro e w14 ⟨⟨u4, rfl⟩, v4, hh4, hk4', hm4'⟩; have HI14 := Lib.hid (HI13.out.moved hh4 hk4' hm4'))
                       go_roundw
                       case rel => exact ⟨m + 1, by omega, by go_num, Lib.hid ⟨v4, by rw [HPS.out]; have h9 := HI14.out; rw [← HJ.out, ← HSv.out] at h9; exact h9⟩⟩
                       case measure => simp [intOf]; omega
                     · obtain rfl : m = 4 := by omega
                       clear hin
                       go_wp2_with fail
                       go_roundg k
                       case measure => omega
                       case rel => exact Lib.hid ⟨v, _, _, HFS.out.turn HG.out.ok hMp HT.out HIN2.out.st⟩

end Go.Proofs.Ytpakkjkjppibnaa
