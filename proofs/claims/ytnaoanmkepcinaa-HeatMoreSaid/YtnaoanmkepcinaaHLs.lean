/- Heat: lists: all lists of n numbers from 0 to t, handed over one by one. -/
import Derived.Test.YtnaoanmkepcinaaHRg
import Derived.Test.YtnaoanmkepcinaaHPhB
import Derived.Test.YtnaoanmkepcinaaHRowS
namespace Go.Proofs.Ytnaoanmkepcinaa
open Go.RowKit Go.Shelf
attribute [local go_sem] Oper.semAt_some

/-- all lists of n numbers from 0 to t, in ascending order -/
def listsP : Nat → Nat → List (List Int)
  | 0, _ => [[]]
  | n + 1, t => (List.range (t + 1)).flatMap fun (f : Nat) => (listsP n t).map fun l => (f : Int) :: l
def listsK (n t k : Nat) : List (List Int) := (List.range k).flatMap fun (f : Nat) => (listsP n t).map fun l => (f : Int) :: l
theorem listsK_succ (n t k : Nat) : listsK n t (k + 1) = listsK n t k ++ (listsP n t).map fun l => (k : Int) :: l := by
  unfold listsK; rw [List.range_succ, List.flatMap_append]; simp
theorem listsP_mem : ∀ (n t : Nat) (l : List Int), l ∈ listsP n t → l.length = n ∧ ∀ y ∈ l, 0 ≤ y ∧ y ≤ t
  | 0, t, l, h => by simp [listsP] at h; subst h; simp
  | n + 1, t, l, h => by
    simp only [listsP, List.mem_flatMap, List.mem_range, List.mem_map] at h
    obtain ⟨f, hf, r, hr, rfl⟩ := h
    obtain ⟨h1, h2⟩ := listsP_mem n t r hr
    refine ⟨by simp [h1], fun y hy => ?_⟩
    rcases List.mem_cons.1 hy with rfl | hy
    · omega
    · exact h2 y hy
theorem listsP_cons {n t k : Nat} {l : List Int} (hk : k < t + 1) (h : l ∈ listsP n t) : (k : Int) :: l ∈ listsP (n + 1) t := by
  simp only [listsP, List.mem_flatMap, List.mem_range, List.mem_map]
  exact ⟨k, hk, l, h, rfl⟩

theorem opIn_wide {n : Nat} {P : Program} {o : Oper} {a : Act} {w : World} {K : Act → World → Prop} {Q : Exit → Act → World → Prop} (h : o.wp P a w K Q) : o.wpIn Fence.wide n P a w K Q := by
  refine ⟨fun _ _ => trivial, ?_⟩
  rw [show Oper.semAt Fence.wide.round a.eval o = execOp a.eval o from rfl]
  unfold Oper.wp at h
  generalize (execOp a.eval o).run P w = r at *
  cases r with
  | ok x w' =>
    cases x <;> first
      | exact h
      | exact ⟨fun hd => by simp [Fence.wide] at hd, callsIn_wide.2 h⟩
      | exact ⟨fun hd => by simp [Fence.wide] at hd, fun c cs _ => let ⟨v, w'', hr, s⟩ := h c cs; ⟨v, w'', hr, stepsIn_wide.2 s⟩⟩
      | exact h.elim
  | halt x w' => cases x <;> exact h

theorem grown_new {A B C : World} {g : Option Nat} (h : A.grownBy B none) (k : B.grownBy C g) (hg : ∀ j, g = some j → A.heap.size ≤ j) : A.grownBy C none :=
  ⟨k.os.trans h.os, k.tape.trans h.tape, k.output.trans h.output, Nat.le_trans h.size k.size, fun i hi _ => (k.block i (Nat.lt_of_lt_of_le hi h.size) (fun e => by have := hg i e.symm; omega)).trans (h.block i hi (by simp))⟩
theorem grown_drew (W : World) (X : Option Nat) : W.grownBy W.drew X := ⟨rfl, rfl, rfl, Nat.le_refl _, fun _ _ _ => rfl⟩
theorem grown_rd {A B : World} {X : Option Nat} (h : A.grownBy B X) {v : Value} {cs : List Value} (hv : Rd A v cs) (hX : ∀ a n c, v = .slice (some a) n c → some a.block ≠ X) : Rd B v cs := by
  obtain ⟨a, cap, rfl, h1, h2, h3, h4⟩ := hv
  refine ⟨a, cap, rfl, h1, h2, ?_, h4⟩
  rcases h3 with h3 | ⟨b, off, rfl, h3⟩
  · exact .inl h3
  · exact .inr ⟨b, off, rfl, fun j u hj => h.cell (h3 j u hj) (show some b ≠ X from hX ⟨b, off, none⟩ _ _ rfl)⟩

theorem addr_add (b off j : Nat) : (⟨b, off, none⟩ : Addr).add j = ⟨b, off + j, none⟩ := by
  unfold Addr.add
  split
  · subst_vars; rfl
  · rfl
theorem grown_above {A B C : World} {X row : Option Nat} (h : A.grownBy B X) (k : B.grownBy C row) (hr : ∀ r, row = some r → A.heap.size ≤ r) : A.grownBy C X :=
  ⟨k.os.trans h.os, k.tape.trans h.tape, k.output.trans h.output, Nat.le_trans h.size k.size, fun i hi hne => (k.block i (Nat.lt_of_lt_of_le hi h.size) (fun e => by have := hr i e.symm; omega)).trans (h.block i hi hne)⟩

/-- the marks of loops that have run, among what is put off -/
def MarksAt (B : Nat) (ds : List Deferred) (w : World) : Prop :=
  ∃ Ds : List Nat, ds = Ds.map (fun D => ({ target := .collected D, args := #[] } : Deferred)) ∧ Ds.Nodup ∧ ∀ D ∈ Ds, B ≤ D ∧ w.heap[D]? = some (.deferred (some []))
theorem MarksAt.nil (B : Nat) (w : World) : MarksAt B [] w := ⟨[], rfl, List.nodup_nil, by simp⟩
theorem MarksAt.cons {B : Nat} {ds : List Deferred} {w w' : World} {X : Option Nat} {D : Nat} (h : MarksAt B ds w) (g : w.grownBy w' X) (hX : ∀ k, X = some k → k < B) (hD : w'.heap[D]? = some (.deferred (some []))) (hge : w.heap.size ≤ D) (hB : B ≤ D) :
    MarksAt B ({ target := .collected D, args := #[] } :: ds) w' := by
  obtain ⟨Ds, rfl, h1, h2⟩ := h
  have hlt : ∀ d ∈ Ds, d < w.heap.size := fun d hd => (Array.getElem?_eq_some_iff.1 (h2 d hd).2).1
  refine ⟨D :: Ds, rfl, List.nodup_cons.2 ⟨fun hd => by have := hlt D hd; omega, h1⟩, fun d hd => ?_⟩
  rcases List.mem_cons.1 hd with rfl | hd
  · exact ⟨hB, hD⟩
  · exact ⟨(h2 d hd).1, (g.block d (hlt d hd) (fun e => by have := hX d e.symm; have := (h2 d hd).1; omega)).trans (h2 d hd).2⟩
theorem leaves_marks {F : Fence} {n : Nat} {P : Program} {fn : Func} {tmps : Array Value} {R : Ending → World → Prop} {B : Nat} {J : World → Prop} (hJ : ∀ (W : World) (D : Nat), B ≤ D → W.heap[D]? = some (.deferred (some [])) → J W → J (W.putObj D (.deferred none)))
    (hR : ∀ w, J w → LeavesIn F n P fn tmps R [] .returning w) : ∀ (ds : List Deferred) (w : World), MarksAt B ds w → J w → LeavesInM F n P fn tmps R ds .returning w
  | ds, w, ⟨[], e, _, _⟩, hj => by subst e; exact hR w hj
  | ds, w, ⟨D :: Ds, e, h1, h2⟩, hj => by
    subst e
    obtain ⟨q1, q2⟩ := List.nodup_cons.1 h1
    have hD := h2 D (List.mem_cons_self ..)
    refine ⟨by simp, .inl ⟨D, _, rfl, run_takeDeferred hD.2, ?_⟩⟩
    exact leaves_marks hJ hR _ _ ⟨Ds, rfl, q2, fun d hd => ⟨(h2 d (List.mem_cons_of_mem _ hd)).1, (World.putObj_heap_other (fun e => by subst e; exact q1 hd)).trans (h2 d (List.mem_cons_of_mem _ hd)).2⟩⟩ (hJ w D hD.1 hD.2 hj)
termination_by ds => ds.length
decreasing_by subst_vars; simp

/-- 'append([]T{u}, x...)' of one-cell elements, x nil or not, in a region that draws, in a round. -/
theorem stepCons {n : Nat} {P : Program} {ops : Array Oper} {o : Oper} {a : Act} {K : Act → World → Prop} {Q : Exit → Act → World → Prop} {E : Prop} {t e : TypeId} {z : Value} {bytes : Nat} (W : World) (EO : ElemK P t e z 1 bytes) (hgd : o.guard = none) {s x : Operand}
    (ho : o.op = .call { callee := .builtin .append, args := #[s, x], argTypes := #[t, t] }) (u : Value) (hs : a.eval s = .slice (some ⟨W.heap.size, 0, none⟩) 1 1) (xv : Value) (hx : a.eval x = xv) (ys : List Value)
    (hxr : (xv = .slice none 0 0 ∧ ys = []) ∨ (0 < ys.length ∧ Rd W xv ys)) (h1 : ∀ u ∈ ys, u.oneCell' = true) (hlen : ys.length ≤ 1000)
    (h : ∀ g cap w', Rd w' (.slice (some ⟨g, 0, none⟩) (1 + ys.length) cap) (u :: ys) → W.grownBy w' none → K (a.put o.dst (.slice (some ⟨g, 0, none⟩) (1 + ys.length) cap)) w') :
    if Region.wanted o (yielded ops a.tmps) = true then Oper.wpIn Fence.wide n P o a (W.alloc (.cells #[u] e)) K Q else E := by
  have hw : Region.wanted o (yielded ops a.tmps) = true := by simp [Region.wanted, hgd]
  rw [if_pos hw]
  have hown : (W.alloc (.cells #[u] e)).ownsRow W.heap.size e 1 (.slice (some ⟨W.heap.size, 0, none⟩) 1 1) 1 [u] := own_lit W W.heap.size e #[u] 1 (Nat.le_refl _) rfl (by decide)
  refine opIn_wide ?_
  rcases hxr with ⟨rfl, rfl⟩ | ⟨hm, ad, c, rfl, _, _, hc, _⟩
  · obtain ⟨i, hi, hz, hsz, hby⟩ := EO.info
    have hrun := run_append_owned_none (P := P) (w := W.alloc (.cells #[u] e)) W.heap.size t o.type e i 1 EO.und hi _ 1 [u] hown
    unfold Oper.wp
    simp [execOp, ho, resolve, invoke, builtin, hs, hx, hrun, Result.andThen]
    exact h W.heap.size 1 _ (Rd.own hown) (World.grownBy_alloc W _ none)
  · rcases hc with rfl | ⟨b, off, rfl, hc⟩
    · simp at hm
    · have := stepS (P := P) (ops := ops) (o := o) (a := a) (K := K) (Q := Q) (E := False) EO hgd ho (B := W.heap.size) (W := W.alloc (.cells #[u] e)) (xs := [u]) (ys := ys) hs hx rfl
        (fun j v hj => by rw [addr_add]; exact cell_alloc (hc j v hj) (.cells #[u] e)) h1 hm (by omega) (by simp) hown (fun g cap w' h1 h2 _ _ => h g cap w' (Rd.own (cs := [u] ++ ys) h1) (grown_new (World.grownBy_alloc W _ none) h2 (fun j e => by simp [Value.ownBlock] at e; omega)))
      rwa [if_pos hw] at this

/-- what is handed over -/
def RxL (n t : Nat) (x : Value × List Int) (W : World) : Prop := Rd W x.1 (ints x.2) ∧ x.2 ∈ listsP n t ∧ (n = 0 → x.1 = .slice none 0 0)
theorem rxL_own (n t B : Nat) (x : Value × List Int) : OwnFrom B (fun (_ : Unit) W => RxL n t x W) := fun _ A C row ⟨h1, h2⟩ hg hr => by
  refine ⟨?_, h2⟩
  obtain ⟨a, cap, e, q1, q2, q3, q4⟩ := h1
  refine ⟨a, cap, e, q1, q2, ?_, q4⟩
  rcases q3 with q3 | ⟨b, off, rfl, q3⟩
  · exact .inl q3
  · exact .inr ⟨b, off, rfl, fun j u hj => cell_kept (q3 j u hj) hg fun r e => (hr r e).2⟩

/-- lists: n and top are boxed; the function value captures the boxes. -/
theorem lists_any (n t : Int) (w : World) :
    Calls Try.prog 78 #[.int .i64 n, .int .i64 t] w fun e w' => e = .returned (.func (.func 89) #[] #[.pointer (some ⟨w.heap.size, 0, none⟩), .pointer (some ⟨w.heap.size + 1, 0, none⟩)]) ∧ w' = (w.alloc (.cells #[.int .i64 n] 3)).alloc (.cells #[.int .i64 t] 3) := by
  go_enter Try.func78, Try.ntmps78
  go_wp2
  go_ret
  exact ⟨rfl, rfl⟩

set_option maxRecDepth 100000 in
set_option maxHeartbeats 4000000 in
theorem lists_zero (t : Nat) (X : Option Nat) (w0 : World) (Bn Bt : Nat) (c1 : w0.cell? ⟨Bn, 0, none⟩ = some (.int .i64 0)) :
    SeqR Try.prog 89 #[.pointer (some ⟨Bn, 0, none⟩), .pointer (some ⟨Bt, 0, none⟩)] (fun x : Value × List Int => #[x.1]) (RxL 0 t) X (fun xs => xs.map (·.2) = listsP 0 t) w0 := fun l J W hW hJ hY h0 => by
  have d1 := cell_below c1 hW
  have l1 : Bn < W.heap.size := World.block_lt_of_cell? _ _ d1
  obtain ⟨fn, tmps, assign, body, hy, hR⟩ := hY [] (.slice none 0 0, []) (W.alloc (.cells #[.func (.yield l) #[] #[]] 75)) (hJ.alloc _ h0) ⟨Rd.nil _, by simp [listsP], fun _ => rfl⟩
  dsimp only at hy
  refine callsIn_of_wp Try.func89 rfl trivial ?_ rfl
  simp only [Try.ntmps89, List.size_toArray, List.length_cons, List.length_nil, Nat.reduceAdd, Nat.reduceSub, Array.replicate_succ, Array.replicate_zero, List.push_toArray, List.append_toArray, List.nil_append, List.cons_append]
  gi_wp2
  refine ⟨rfl, hR.mono ?_⟩
  rintro e W3 ⟨rfl, hJ3, hk3⟩
  gi_wp2
  refine bodyPost_ret (results_none rfl _ _ _) rfl ?_
  exact ⟨⟨_, rfl⟩, _, rfl, hJ3⟩

set_option maxRecDepth 100000 in
set_option maxHeartbeats 8000000 in
theorem lists_succ (n t : Nat) (hn : n ≤ 5) (ht : t ≤ 1000) (IH : ∀ (X : Option Nat) (w0 : World) (Bn Bt : Nat), (∀ k, X = some k → k < w0.heap.size) → some Bn ≠ X → some Bt ≠ X → w0.cell? ⟨Bn, 0, none⟩ = some (.int .i64 n) → w0.cell? ⟨Bt, 0, none⟩ = some (.int .i64 t) →
      SeqR Try.prog 89 #[.pointer (some ⟨Bn, 0, none⟩), .pointer (some ⟨Bt, 0, none⟩)] (fun x : Value × List Int => #[x.1]) (RxL n t) X (fun xs => xs.map (·.2) = listsP n t) w0)
    (X : Option Nat) (w0 : World) (Bn Bt : Nat) (hX : ∀ k, X = some k → k < w0.heap.size) (hBn : some Bn ≠ X) (hBt : some Bt ≠ X) (c1 : w0.cell? ⟨Bn, 0, none⟩ = some (.int .i64 ((n : Int) + 1))) (c2 : w0.cell? ⟨Bt, 0, none⟩ = some (.int .i64 t)) :
    SeqR Try.prog 89 #[.pointer (some ⟨Bn, 0, none⟩), .pointer (some ⟨Bt, 0, none⟩)] (fun x : Value × List Int => #[x.1]) (RxL (n + 1) t) X (fun xs => xs.map (·.2) = listsP (n + 1) t) w0 := fun l J W hW hJ hY h0 => by
  have d1 := cell_below c1 hW
  have d2 := cell_below c2 hW
  have l1 : Bn < W.heap.size := World.block_lt_of_cell? _ _ d1
  have l2 : Bt < W.heap.size := World.block_lt_of_cell? _ _ d2
  have hXW : ∀ k, X = some k → k < W.heap.size := fun k e => Nat.lt_of_lt_of_le (hX k e) hW.size
  have IH' := Lib.hid IH
  clear IH c1 c2 hX hW
  have hz : (((n : Int) + 1) == 0) = false := by simp; omega
  have hw1 : IntKind.i64.wrap ((n : Int) + 1 - 1) = (n : Int) := by rw [show (n : Int) + 1 - 1 = n by omega]; exact IntWalk.i64_in _ ⟨by omega, by omega⟩
  have hw2 : IntKind.i64.wrap ((t : Int) + 1) = (t : Int) + 1 := IntWalk.i64_in _ ⟨by omega, by omega⟩
  obtain ⟨V, hV⟩ : ∃ V, W.alloc (.cells #[.func (.yield l) #[] #[]] 75) = V := ⟨_, rfl⟩
  have vS : V.heap.size = W.heap.size + 1 := by rw [← hV]; simp
  have vC : V.cell? ⟨W.heap.size, 0, none⟩ = some (.func (.yield l) #[] #[]) := by rw [← hV]; exact World.cell?_alloc_at _ _ _ _ rfl
  have v1 : V.cell? ⟨Bn, 0, none⟩ = some (.int .i64 ((n : Int) + 1)) := by rw [← hV]; exact cell_alloc d1 _
  have v2 : V.cell? ⟨Bt, 0, none⟩ = some (.int .i64 t) := by rw [← hV]; exact cell_alloc d2 _
  have vJ : J [] V := by rw [← hV]; exact hJ.alloc _ h0
  have hCX : some W.heap.size ≠ X := fun e => by have := hXW _ e.symm; omega
  have hJ' := Lib.hid hJ
  have hY' := Lib.hid hY
  refine callsIn_of_wp_marks Try.func89 rfl trivial ?_ rfl
  simp only [Try.ntmps89, List.size_toArray, List.length_cons, List.length_nil, Nat.reduceAdd, Nat.reduceSub, Array.replicate_succ, Array.replicate_zero, List.push_toArray, List.append_toArray, List.nil_append, List.cons_append]
  gi_wp2
  clear hV hJ hY h0
  refine wpIn_loop (fun a' w' => ∃ (u4 u5 u12 u13 u14 u15 u16 u17 u18 u19 u20 u21 u22 u23 u24 u25 u26 u27 : Value) (ds : List Deferred), ((∃ k : Nat, k ≤ t + 1 ∧ u12 = .int .i64 k ∧ Hid (∃ q, J q w' ∧ q.map (·.2) = listsK n t k) ∧ V.grownBy w' X ∧ Hid (MarksAt V.heap.size ds w'))) ∧ a' = { tmps := #[.func (.yield l) #[] #[], .pointer (some ⟨Bn, 0, none⟩), .pointer (some ⟨Bt, 0, none⟩), .pointer (some ⟨W.heap.size, 0, none⟩), u4, u5, .int .i64 ((n : Int) + 1), .bool false, undef, undef, .int .i64 (t : Int), .int .i64 ((t : Int) + 1), u12, u13, u14, u15, u16, u17, u18, u19, u20, u21, u22, u23, u24, u25, u26, u27], defers := ds }) (fun a' _ => t + 1 - (intOf (a'.tmps.getD 12 undef)).toNat) ?start ?round
  case start =>
    (repeat apply Exists.intro)
    refine ⟨?_, rfl⟩
    exact ⟨0, Nat.zero_le _, rfl, Lib.hid ⟨[], vJ, rfl⟩, World.grownBy.refl _ _, Lib.hid (MarksAt.nil _ _)⟩
  case round =>
    intro _ wr hinv
    obtain ⟨u4, u5, u12, u13, u14, u15, u16, u17, u18, u19, u20, u21, u22, u23, u24, u25, u26, u27, ds, ⟨k, hk, rfl, HQ, hgr, HMK⟩, ha⟩ := hinv
    subst ha
    dsimp only
    have r1 := hgr.cell v1 hBn
    have r2 := hgr.cell v2 hBt
    have r3 := hgr.cell vC hCX
    have m1 : Bn < wr.heap.size := World.block_lt_of_cell? _ _ r1
    have m2 : Bt < wr.heap.size := World.block_lt_of_cell? _ _ r2
    have m3 : W.heap.size < wr.heap.size := World.block_lt_of_cell? _ _ r3
    by_cases hlt : k < t + 1
    · gi_wp2_with (first
        | (refine ⟨trivial, rfl, ?_⟩; gi_at_call 78; refine (callsIn_wide.2 (lists_any _ _ _)).mono ?_; rintro e w5 ⟨rfl, rfl⟩))
      obtain ⟨w5, hw5⟩ : ∃ w5, ((wr.alloc (.cells #[.int .i64 k] 3)).alloc (.cells #[.int .i64 n] 3)).alloc (.cells #[.int .i64 t] 3) = w5 := ⟨_, rfl⟩
      have z5 : w5.heap.size = wr.heap.size + 3 := by rw [← hw5]; simp
      have g5 : wr.grownBy w5 none := by rw [← hw5]; exact grown_trans (grown_trans (World.grownBy_alloc _ _ _) (World.grownBy_alloc _ _ _)) (World.grownBy_alloc _ _ _)
      have f1 : w5.cell? ⟨wr.heap.size, 0, none⟩ = some (.int .i64 k) := by rw [← hw5]; exact cell_alloc (cell_alloc (World.cell?_alloc_at _ _ _ _ rfl) _) _
      have f2 : w5.cell? ⟨wr.heap.size + 1, 0, none⟩ = some (.int .i64 n) := by rw [← hw5]; exact cell_alloc (World.cell?_alloc_at _ _ _ _ (by simp)) _
      have f3 : w5.cell? ⟨wr.heap.size + 1 + 1, 0, none⟩ = some (.int .i64 t) := by rw [← hw5]; exact World.cell?_alloc_at _ _ _ _ (by simp)
      have f4 := g5.cell r3 (by simp)
      try simp only [World.size_alloc]
      rw [hw5]
      have hgs := hgr.size
      have hX5 : ∀ k, X = some k → k < w5.heap.size := fun j e => by have := hXW j e; omega
      have nX : ∀ j, W.heap.size ≤ j → some j ≠ X := fun j hj e => by have := hXW j e.symm; omega
      refine rangeR (X := X) (gf := 89) (lb := #[.pointer (some ⟨wr.heap.size + 1, 0, none⟩), .pointer (some ⟨wr.heap.size + 1 + 1, 0, none⟩)]) rfl (enters_of Try.func89 (by kernel_rfl) rfl)
        (IH'.out X w5 (wr.heap.size + 1) (wr.heap.size + 1 + 1) hX5 (nX _ (by omega)) (nX _ (by omega)) f2 f3) hX5 (fun _ => rfl) (fun x => rxL_own n t _ x)
        (fun (pre : List (Value × List Int)) W' => Hid (∃ q, J q W' ∧ q.map (·.2) = listsK n t k ++ pre.map (fun y => (k : Int) :: y.2)) ∧ w5.grownBy W' X)
        (fun s A B row ⟨q1, q2⟩ hg hr => ⟨Lib.hid (by obtain ⟨q, q3, q4⟩ := q1.out; exact ⟨q, hJ'.out q A B row q3 hg (fun r e => ⟨by have := (hr r e).1; omega, (hr r e).2⟩), q4⟩), grown_above q2 hg (fun r e => (hr r e).1)⟩)
        ⟨Lib.hid (by obtain ⟨q, q1, q2⟩ := HQ.out; exact ⟨q, hJ'.out q wr w5 none q1 g5 (fun _ e => by cases e), by simpa using q2⟩), World.grownBy.refl _ _⟩
        ?a1 ?assign ?body ?done
      case assign =>
        intro l' x W' K hK
        gi_wp2
        exact hK
      case body =>
        rintro l' pre ⟨xv, xs⟩ W' hl ⟨r, hr⟩ ⟨HQ', hg'⟩ ⟨hx1, hx2, hx3⟩
        obtain ⟨q, hq1, hq2⟩ := HQ'.out
        dsimp only at hx1 hx2 hx3 ⊢
        have hxl := (listsP_mem n t xs hx2).1
        have e3 := hg'.cell f4 hCX
        have e4 := hg'.cell f1 (nX wr.heap.size (by omega))
        have le3 : W.heap.size < W'.heap.size := World.block_lt_of_cell? _ _ e3
        have le4 : wr.heap.size < W'.heap.size := World.block_lt_of_cell? _ _ e4
        have hxr : (xv = .slice none 0 0 ∧ ints xs = []) ∨ (0 < (ints xs).length ∧ Rd W'.drew xv (ints xs)) := by
          rw [ints_length]
          by_cases hn0 : n = 0
          · exact .inl ⟨hx3 hn0, by rw [List.eq_nil_of_length_eq_zero (l := xs) (by omega)]; rfl⟩
          · exact .inr ⟨by omega, hx1⟩
        refine wpIn_block ?_
        refine wpIn_seq ?_
        refine region_roundIn (by kernel_rfl) (by kernel_rfl) ?_
        change wpAnyIn _ _ _ _ _ _ _ _ _ (World.drew _)
        refine wpAnyIn_take (i := 3) (v := ?_) rfl rfl (by kernel_rfl) (by kernel_rfl) (by kernel_rfl) (fun _ _ _ h => h) ⟨Or.inl ⟨by rfl, by intro w; go_simp; try with_reducible rfl⟩, fun _ => rfl⟩ ?_
        refine wpAnyIn_ready (rs := [0, 1]) (by kernel_rfl) (by simp) ?_
        refine AllReadyIn.cons rfl (fun K hK => ?_) ?_
        · go_simp
          refine hK _ _ ?_
          clear hK K
          refine wpAnyIn_ready (rs := [1]) (by kernel_rfl) (by simp) ?_
          refine AllReadyIn.cons rfl (fun K hK => ?_) ?_
          · go_simp
            refine hK _ _ ?_
            clear hK K
            refine wpAnyIn_ready (rs := [2]) (by kernel_rfl) (by simp) ?_
            refine AllReadyIn.cons rfl (fun K hK => ?_) ?_
            · go_simp
              refine hK _ _ ?_
              clear hK K
              refine wpAnyIn_ready (rs := [4]) (by kernel_rfl) (by simp) ?_
              refine AllReadyIn.cons rfl (fun K hK => ?_) ?_
              · (refine stepCons W'.drew el_int1' rfl rfl (.int .i64 k) rfl xv rfl (ints xs) hxr (ints_cell xs) (by rw [ints_length]; omega) ?_; intro g' cap' w11 hR11 hg11; have hgw := grown_trans (grown_drew W' none) hg11; obtain ⟨fn, tmps, asg, bd, hy, hR⟩ := hY'.out q (.slice (some ⟨g', 0, none⟩) (1 + (ints xs).length) cap', (k : Int) :: xs) w11 (hJ'.out q W' w11 none hq1 hgw (fun _ e => by cases e)) ⟨hR11, listsP_cons hlt hx2, fun e => by omega⟩; dsimp only at hy; have e11 := hgw.cell e3 (by simp); have lw11 : W.heap.size < w11.heap.size := World.block_lt_of_cell? _ _ e11)
                refine hK _ _ ?_
                clear hK K
                refine wpAnyIn_ready (rs := [5]) (by kernel_rfl) (by simp) ?_
                refine AllReadyIn.cons rfl (fun K hK => ?_) ?_
                · (go_simp; refine ⟨rfl, hR.mono ?_⟩; rintro e W3 ⟨rfl, hJ3, hk3⟩)
                  refine hK _ _ ?_
                  clear hK K
                  refine wpAnyIn_take (i := 6) (v := ?_) rfl rfl (by kernel_rfl) (by kernel_rfl) (by kernel_rfl) (fun _ _ _ h => h) ⟨Or.inl ⟨by rfl, by intro w; go_simp; try with_reducible rfl⟩, fun _ => rfl⟩ ?_
                  refine wpAnyIn_done (by kernel_rfl) ?_ _
                  gi_wp2
                  exact ⟨grown_trans (grown_none hgw X) hk3, Lib.hid ⟨q ++ [(.slice (some ⟨g', 0, none⟩) (1 + (ints xs).length) cap', (k : Int) :: xs)], hJ3, by rw [List.map_append, hq2, List.map_append, List.append_assoc]; rfl⟩, grown_trans hg' (grown_trans (grown_none hgw X) hk3)⟩
                exact AllReadyIn.nil
              exact AllReadyIn.nil
            exact AllReadyIn.nil
          exact AllReadyIn.nil
        refine AllReadyIn.cons rfl (fun K hK => ?_) ?_
        · go_simp
          refine hK _ _ ?_
          clear hK K
          refine wpAnyIn_ready (rs := [0, 2]) (by kernel_rfl) (by simp) ?_
          refine AllReadyIn.cons rfl (fun K hK => ?_) ?_
          · go_simp
            refine hK _ _ ?_
            clear hK K
            refine wpAnyIn_ready (rs := [2]) (by kernel_rfl) (by simp) ?_
            refine AllReadyIn.cons rfl (fun K hK => ?_) ?_
            · go_simp
              refine hK _ _ ?_
              clear hK K
              refine wpAnyIn_ready (rs := [4]) (by kernel_rfl) (by simp) ?_
              refine AllReadyIn.cons rfl (fun K hK => ?_) ?_
              · (refine stepCons W'.drew el_int1' rfl rfl (.int .i64 k) rfl xv rfl (ints xs) hxr (ints_cell xs) (by rw [ints_length]; omega) ?_; intro g' cap' w11 hR11 hg11; have hgw := grown_trans (grown_drew W' none) hg11; obtain ⟨fn, tmps, asg, bd, hy, hR⟩ := hY'.out q (.slice (some ⟨g', 0, none⟩) (1 + (ints xs).length) cap', (k : Int) :: xs) w11 (hJ'.out q W' w11 none hq1 hgw (fun _ e => by cases e)) ⟨hR11, listsP_cons hlt hx2, fun e => by omega⟩; dsimp only at hy; have e11 := hgw.cell e3 (by simp); have lw11 : W.heap.size < w11.heap.size := World.block_lt_of_cell? _ _ e11)
                refine hK _ _ ?_
                clear hK K
                refine wpAnyIn_ready (rs := [5]) (by kernel_rfl) (by simp) ?_
                refine AllReadyIn.cons rfl (fun K hK => ?_) ?_
                · (go_simp; refine ⟨rfl, hR.mono ?_⟩; rintro e W3 ⟨rfl, hJ3, hk3⟩)
                  refine hK _ _ ?_
                  clear hK K
                  refine wpAnyIn_take (i := 6) (v := ?_) rfl rfl (by kernel_rfl) (by kernel_rfl) (by kernel_rfl) (fun _ _ _ h => h) ⟨Or.inl ⟨by rfl, by intro w; go_simp; try with_reducible rfl⟩, fun _ => rfl⟩ ?_
                  refine wpAnyIn_done (by kernel_rfl) ?_ _
                  gi_wp2
                  exact ⟨grown_trans (grown_none hgw X) hk3, Lib.hid ⟨q ++ [(.slice (some ⟨g', 0, none⟩) (1 + (ints xs).length) cap', (k : Int) :: xs)], hJ3, by rw [List.map_append, hq2, List.map_append, List.append_assoc]; rfl⟩, grown_trans hg' (grown_trans (grown_none hgw X) hk3)⟩
                exact AllReadyIn.nil
              exact AllReadyIn.nil
            exact AllReadyIn.nil
          refine AllReadyIn.cons rfl (fun K hK => ?_) ?_
          · go_simp
            refine hK _ _ ?_
            clear hK K
            refine wpAnyIn_ready (rs := [0, 4]) (by kernel_rfl) (by simp) ?_
            refine AllReadyIn.cons rfl (fun K hK => ?_) ?_
            · go_simp
              refine hK _ _ ?_
              clear hK K
              refine wpAnyIn_ready (rs := [4]) (by kernel_rfl) (by simp) ?_
              refine AllReadyIn.cons rfl (fun K hK => ?_) ?_
              · (refine stepCons W'.drew el_int1' rfl rfl (.int .i64 k) rfl xv rfl (ints xs) hxr (ints_cell xs) (by rw [ints_length]; omega) ?_; intro g' cap' w11 hR11 hg11; have hgw := grown_trans (grown_drew W' none) hg11; obtain ⟨fn, tmps, asg, bd, hy, hR⟩ := hY'.out q (.slice (some ⟨g', 0, none⟩) (1 + (ints xs).length) cap', (k : Int) :: xs) w11 (hJ'.out q W' w11 none hq1 hgw (fun _ e => by cases e)) ⟨hR11, listsP_cons hlt hx2, fun e => by omega⟩; dsimp only at hy; have e11 := hgw.cell e3 (by simp); have lw11 : W.heap.size < w11.heap.size := World.block_lt_of_cell? _ _ e11)
                refine hK _ _ ?_
                clear hK K
                refine wpAnyIn_ready (rs := [5]) (by kernel_rfl) (by simp) ?_
                refine AllReadyIn.cons rfl (fun K hK => ?_) ?_
                · (go_simp; refine ⟨rfl, hR.mono ?_⟩; rintro e W3 ⟨rfl, hJ3, hk3⟩)
                  refine hK _ _ ?_
                  clear hK K
                  refine wpAnyIn_take (i := 6) (v := ?_) rfl rfl (by kernel_rfl) (by kernel_rfl) (by kernel_rfl) (fun _ _ _ h => h) ⟨Or.inl ⟨by rfl, by intro w; go_simp; try with_reducible rfl⟩, fun _ => rfl⟩ ?_
                  refine wpAnyIn_done (by kernel_rfl) ?_ _
                  gi_wp2
                  exact ⟨grown_trans (grown_none hgw X) hk3, Lib.hid ⟨q ++ [(.slice (some ⟨g', 0, none⟩) (1 + (ints xs).length) cap', (k : Int) :: xs)], hJ3, by rw [List.map_append, hq2, List.map_append, List.append_assoc]; rfl⟩, grown_trans hg' (grown_trans (grown_none hgw X) hk3)⟩
                exact AllReadyIn.nil
              exact AllReadyIn.nil
            refine AllReadyIn.cons rfl (fun K hK => ?_) ?_
            · (refine stepCons W'.drew el_int1' rfl rfl (.int .i64 k) rfl xv rfl (ints xs) hxr (ints_cell xs) (by rw [ints_length]; omega) ?_; intro g' cap' w11 hR11 hg11; have hgw := grown_trans (grown_drew W' none) hg11; obtain ⟨fn, tmps, asg, bd, hy, hR⟩ := hY'.out q (.slice (some ⟨g', 0, none⟩) (1 + (ints xs).length) cap', (k : Int) :: xs) w11 (hJ'.out q W' w11 none hq1 hgw (fun _ e => by cases e)) ⟨hR11, listsP_cons hlt hx2, fun e => by omega⟩; dsimp only at hy; have e11 := hgw.cell e3 (by simp); have lw11 : W.heap.size < w11.heap.size := World.block_lt_of_cell? _ _ e11)
              refine hK _ _ ?_
              clear hK K
              refine wpAnyIn_ready (rs := [0]) (by kernel_rfl) (by simp) ?_
              refine AllReadyIn.cons rfl (fun K hK => ?_) ?_
              · go_simp
                refine hK _ _ ?_
                clear hK K
                refine wpAnyIn_ready (rs := [5]) (by kernel_rfl) (by simp) ?_
                refine AllReadyIn.cons rfl (fun K hK => ?_) ?_
                · (go_simp; refine ⟨rfl, hR.mono ?_⟩; rintro e W3 ⟨rfl, hJ3, hk3⟩)
                  refine hK _ _ ?_
                  clear hK K
                  refine wpAnyIn_take (i := 6) (v := ?_) rfl rfl (by kernel_rfl) (by kernel_rfl) (by kernel_rfl) (fun _ _ _ h => h) ⟨Or.inl ⟨by rfl, by intro w; go_simp; try with_reducible rfl⟩, fun _ => rfl⟩ ?_
                  refine wpAnyIn_done (by kernel_rfl) ?_ _
                  gi_wp2
                  exact ⟨grown_trans (grown_none hgw X) hk3, Lib.hid ⟨q ++ [(.slice (some ⟨g', 0, none⟩) (1 + (ints xs).length) cap', (k : Int) :: xs)], hJ3, by rw [List.map_append, hq2, List.map_append, List.append_assoc]; rfl⟩, grown_trans hg' (grown_trans (grown_none hgw X) hk3)⟩
                exact AllReadyIn.nil
              exact AllReadyIn.nil
            exact AllReadyIn.nil
          exact AllReadyIn.nil
        exact AllReadyIn.nil
      case done =>
        rintro D ys W' hD hS ⟨HQ', hg'⟩ hK
        gi_wp2
        refine ⟨?_, ?measure⟩
        rotate_left
        case measure => simp [intOf]; omega
        repeat apply Exists.intro
        refine ⟨?rel, rfl⟩
        case rel =>
          refine ⟨k + 1, by omega, by go_num, Lib.hid ?_, grown_trans hgr (grown_trans (grown_none g5 X) hg'), Lib.hid (HMK.out.cons (grown_trans (grown_none g5 X) hg') (fun j e => by have := hXW j e; omega) hK (by omega) (by omega))⟩
          obtain ⟨q, q1, q2⟩ := HQ'.out
          refine ⟨q, q1, ?_⟩
          rw [q2, listsK_succ, ← hS, List.map_map]
          rfl
    · obtain rfl : k = t + 1 := by omega
      gi_wp2
      refine leaves_marks (B := V.heap.size) (J := fun W' => ∃ q, J q W' ∧ q.map (·.2) = listsK n t (t + 1)) (fun W' D hD hd ⟨q, q1, q2⟩ => ⟨q, hJ'.out.putObj _ q1 (by omega) hd rfl, q2⟩) (fun W' ⟨q, q1, q2⟩ => ⟨_, results_none rfl _ _ _, ⟨_, rfl⟩, q, q2, q1⟩) ds wr HMK.out HQ.out

theorem lists_seq (t : Nat) (ht : t ≤ 1000) : ∀ (n : Nat), n ≤ 6 → ∀ (X : Option Nat) (w0 : World) (Bn Bt : Nat), (∀ k, X = some k → k < w0.heap.size) → some Bn ≠ X → some Bt ≠ X → w0.cell? ⟨Bn, 0, none⟩ = some (.int .i64 n) → w0.cell? ⟨Bt, 0, none⟩ = some (.int .i64 t) →
      SeqR Try.prog 89 #[.pointer (some ⟨Bn, 0, none⟩), .pointer (some ⟨Bt, 0, none⟩)] (fun x : Value × List Int => #[x.1]) (RxL n t) X (fun xs => xs.map (·.2) = listsP n t) w0
  | 0, _, X, w0, Bn, Bt, _, _, _, c1, _ => lists_zero t X w0 Bn Bt c1
  | n + 1, hn, X, w0, Bn, Bt, hX, h1, h2, c1, c2 => lists_succ n t (by omega) ht (lists_seq t ht n (by omega)) X w0 Bn Bt hX h1 h2 (by rw [c1]; simp) c2

end Go.Proofs.Ytnaoanmkepcinaa
