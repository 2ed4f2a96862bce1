/- Layout: the document's table of least costs, walked. -/
import Derived.Test.YtpakkjkjppibnaaKRouteP
import Derived.Outline
namespace Go.Proofs.Ytpakkjkjppibnaa
open Go.RowKit

theorem el_bo : ElemOk Try.prog 82 4 (.bool false) 1 := ⟨by kernel_rfl, info_parts (by kernel_rfl), rfl, by decide⟩
theorem el_goes : ElemK Try.prog 75 79 (.agg #[.int .i64 0, .int .i64 0, .int .i64 0, .int .i64 0]) 4 32 :=
  ⟨by kernel_rfl, info_parts (by kernel_rfl), by rfl, by decide, by decide⟩
/-- which cells are shut, when k of them are laid -/
def shutL (g : Gr) (n k : Nat) : List Bool := (List.range n).map fun j => decide (j < k) && !openP g (cellP g j)
theorem shutL_len (g : Gr) (n k : Nat) : (shutL g n k).length = n := by simp [shutL]
theorem shutL_zero (g : Gr) (n : Nat) : shutL g n 0 = List.replicate n false := by
  unfold shutL
  apply List.ext_getElem
  · simp
  · intro j h1 h2; simp
theorem shutL_succ (g : Gr) {n k : Nat} (_ : k < n) : (shutL g n k).set k (!openP g (cellP g k)) = shutL g n (k + 1) := by
  unfold shutL
  apply List.ext_getElem
  · simp
  · intro j h1 h2
    rw [List.getElem_set]
    simp only [List.getElem_map, List.getElem_range]
    by_cases e : k = j
    · subst e
      rw [if_pos rfl, decide_eq_true (by omega), Bool.true_and]
    · rw [if_neg e]
      congr 1
      apply decide_eq_decide.2; omega
theorem shutL_get (g : Gr) {n j : Nat} (h : j < n) : (shutL g n n).getD j false = !openP g (cellP g j) := by
  unfold shutL
  rw [List.getD_eq_getElem?_getD, List.getElem?_map, List.getElem?_range h]
  simp [h]
def laidG (n k : Nat) : List (List Int) := List.replicate k [big, big, big, big] ++ List.replicate (n - k) [0, 0, 0, 0]
theorem laidG_len {n k : Nat} (h : k ≤ n) : (laidG n k).length = n := by simp [laidG]; omega
theorem laidG_four (n k : Nat) : Four (laidG n k) := fun r hr => by
  rcases List.mem_append.1 hr with h | h <;> (rw [(List.mem_replicate.1 h).2]; rfl)
theorem laidG_succ {n k : Nat} (h : k < n) : (laidG n k).set k [big, big, big, big] = laidG n (k + 1) := by
  unfold laidG
  rw [List.set_append, if_neg (by simp), List.length_replicate, Nat.sub_self, show n - k = (n - (k + 1)) + 1 by omega, List.replicate_succ, List.set_cons_zero]
  rw [show List.replicate (k + 1) ([big, big, big, big] : List Int) = List.replicate k [big, big, big, big] ++ [[big, big, big, big]] from List.replicate_succ']
  simp

/-- the document's two rows while the table is made -/
structure TS (V : World) (N sb tb : Nat) (S : List Bool) (T : List (List Int)) (wr : World) : Prop where
  shut : wr.ownsRow V.heap.size 4 1 (.slice (some ⟨sb, 0, none⟩) N N) N (bools S)
  out : wr.ownsRow V.heap.size 79 4 (.slice (some ⟨tb, 0, none⟩) N N) N (quads T)
  four : Four T
  slen : S.length = N
  len : T.length = N
  sep : sb ≠ tb
  bel : Below V.heap.size V wr
theorem TS.below {V wr w' : World} {N sb tb : Nat} {S : List Bool} {T : List (List Int)} (h : TS V N sb tb S T wr) (hb : Below wr.heap.size wr w') : TS V N sb tb S T w' :=
  ⟨own_below h.shut hb, own_below h.out hb, h.four, h.slen, h.len, h.sep, h.bel.trans (hb.mono h.bel.size)⟩
theorem grown_setCell (wr : World) (b o : Nat) (v : Value) : wr.grownBy (wr.setCell ⟨b, o, none⟩ v) (some b) := ⟨rfl, rfl, rfl, (KeepsWalks.setCell wr _ _).size, fun k' _ hk' => Below.heap_setCell _ _ _ k' (fun e => hk' (by rw [e]))⟩
theorem TS.storeS {V wr : World} {N sb tb : Nat} {S : List Bool} {T : List (List Int)} (h : TS V N sb tb S T wr) (j : Nat) (x : Bool) : TS V N sb tb (S.set j x) T (wr.setCell ⟨sb, j, none⟩ (.bool x)) := by
  have h1 := (h.shut.stored j (.bool x)).1
  rw [show (bools S).set j (.bool x) = bools (S.set j x) by simp [bools]] at h1
  exact ⟨h1, h.out.kept (grown_setCell wr sb j _) (.inr fun e => h.sep (Option.some.inj e).symm), h.four, by rw [List.length_set]; exact h.slen, h.len, h.sep, h.bel.setCell (p := ⟨sb, j, none⟩) (own_ge h.shut _ rfl) _⟩
theorem TS.storeO {V wr : World} {N sb tb : Nat} {S : List Bool} {T : List (List Int)} (h : TS V N sb tb S T wr) (i d : Nat) (hd : d < 4) (x : Int) : TS V N sb tb S (outSet T i d x) (wr.setCell ⟨tb, i * 4 + d, none⟩ (.int .i64 x)) := by
  refine ⟨h.shut.kept (grown_setCell wr tb _ _) (.inr fun e => h.sep (Option.some.inj e)), own_setOne h.out h.four i d hd x, ?_, h.slen, by rw [outSet_len]; exact h.len, h.sep, h.bel.setCell (p := ⟨tb, i * 4 + d, none⟩) (own_ge h.out _ rfl) _⟩
  unfold outSet
  intro r hr
  rcases List.mem_or_eq_of_mem_set hr with h1 | h1
  · exact h.four r h1
  · rw [h1, List.length_set]
    by_cases hi : i < T.length
    · rw [List.getD_eq_getElem?_getD, List.getElem?_eq_getElem hi]
      exact h.four _ (List.getElem_mem hi)
    · rw [List.set_eq_of_length_le (by omega)] at hr
      have := h.four r hr
      rw [h1, List.length_set] at this
      exact this
theorem TS.storeR {V wr : World} {N sb tb : Nat} {S : List Bool} {T : List (List Int)} (h : TS V N sb tb S T wr) (i : Nat) (x0 x1 x2 x3 : Int) : TS V N sb tb S (T.set i [x0, x1, x2, x3]) ((((wr.setCell ⟨tb, i * 4, none⟩ (.int .i64 x0)).setCell ⟨tb, i * 4 + 1, none⟩ (.int .i64 x1)).setCell ⟨tb, i * 4 + 2, none⟩ (.int .i64 x2)).setCell ⟨tb, i * 4 + 3, none⟩ (.int .i64 x3)) := by
  have hg := own_ge h.out tb rfl
  have hn := fun e => h.sep (Option.some.inj e)
  exact ⟨(((h.shut.kept (grown_setCell wr tb _ _) (.inr hn)).kept (grown_setCell _ tb _ _) (.inr hn)).kept (grown_setCell _ tb _ _) (.inr hn)).kept (grown_setCell _ tb _ _) (.inr hn),
    own_setQuad h.out h.four i x0 x1 x2 x3, four_set h.four i _ rfl, h.slen, by rw [List.length_set]; exact h.len, h.sep,
    (((h.bel.setCell (p := ⟨tb, i * 4, none⟩) hg _).setCell (p := ⟨tb, i * 4 + 1, none⟩) hg _).setCell (p := ⟨tb, i * 4 + 2, none⟩) hg _).setCell (p := ⟨tb, i * 4 + 3, none⟩) hg _⟩
/-- the row's four cells, and that they may be written -/
structure Row4 (wr : World) (tb i : Nat) : Prop where
  c0 : ∃ x : Int, wr.cell? ⟨tb, i * 4, none⟩ = some (.int .i64 x)
  c1 : ∃ x : Int, wr.cell? ⟨tb, i * 4 + 1, none⟩ = some (.int .i64 x)
  c2 : ∃ x : Int, wr.cell? ⟨tb, i * 4 + 2, none⟩ = some (.int .i64 x)
  c3 : ∃ x : Int, wr.cell? ⟨tb, i * 4 + 3, none⟩ = some (.int .i64 x)
  f0 : wr.frozen? ⟨tb, i * 4, none⟩ = false
  f1 : wr.frozen? ⟨tb, i * 4 + 1, none⟩ = false
  f2 : wr.frozen? ⟨tb, i * 4 + 2, none⟩ = false
  f3 : wr.frozen? ⟨tb, i * 4 + 3, none⟩ = false
theorem TS.row4 {V wr : World} {N sb tb : Nat} {S : List Bool} {T : List (List Int)} (h : TS V N sb tb S T wr) {i : Nat} (hi : i < N) : Row4 wr tb i := by
  have hF := own_fld h.out h.four h.len
  exact ⟨⟨_, hF i 0 hi (by omega)⟩, ⟨_, hF i 1 hi (by omega)⟩, ⟨_, hF i 2 hi (by omega)⟩, ⟨_, hF i 3 hi (by omega)⟩, h.out.frozenAt (i * 4), h.out.frozenAt (i * 4 + 1), h.out.frozenAt (i * 4 + 2), h.out.frozenAt (i * 4 + 3)⟩
theorem TS.shutAt {V wr : World} {N sb tb : Nat} {S : List Bool} {T : List (List Int)} (h : TS V N sb tb S T wr) {j : Nat} (hj : j < N) : wr.cell? ⟨sb, j, none⟩ = some (.bool (S.getD j false)) ∧ wr.frozen? ⟨sb, j, none⟩ = false := by
  have s0 := h.shut.cellAt j (by omega)
  rw [bools_getD (by rw [h.slen]; exact hj)] at s0
  exact ⟨s0, h.shut.frozenAt j⟩
theorem TS.at {V wr : World} {N sb tb : Nat} {S : List Bool} {T : List (List Int)} (h : TS V N sb tb S T wr) {i d : Nat} (hi : i < N) (hd : d < 4) : wr.cell? ⟨tb, i * 4 + d, none⟩ = some (.int .i64 (outGet T i d)) ∧ wr.frozen? ⟨tb, i * 4 + d, none⟩ = false :=
  ⟨own_fld h.out h.four h.len i d hi hd, h.out.frozenAt (i * 4 + d)⟩

set_option maxRecDepth 100000 in
set_option maxHeartbeats 8000000 in
theorem table_any (w h : Nat) (mv bd : Int) (bv : Value) (bl : List (Int × Int)) (to : Int × Int) (W : World) (hv : RdP W bv bl) (hb : validP w h mv bd bl = true) (ho : refOpenP w h bl to = true) :
    Calls Try.prog 44 #[.agg #[.int .i64 w, .int .i64 h, .int .i64 mv, .int .i64 bd, bv], .agg #[.int .i64 to.1, .int .i64 to.2]] W fun e w' => (∃ tb T, e = .returned (.slice (some ⟨tb, 0, none⟩) (w * h : Nat) (w * h)) ∧ FldAt w' tb (w * h) T ∧ TabS (grK w h mv bd bl bl.length) to T ∧ Closed (grK w h mv bd bl bl.length) T) ∧ Below W.heap.size W w' := by
  have hbW := Lib.hid (((Below.refl W.heap.size W).alloc (Nat.le_refl _) (.cells #[.int .i64 w, .int .i64 h, .int .i64 mv, .int .i64 bd, bv] 24)).alloc (by simp) (.cells #[.int .i64 to.1, .int .i64 to.2] 26))
  have HBX := Lib.hid (BxAt.new W (.cells #[.int .i64 w, .int .i64 h, .int .i64 mv, .int .i64 bd, bv] 24) to.1 to.2 26)
  have HGX := Lib.hid (GBx.new W w h mv bd bv 24 (.cells #[.int .i64 to.1, .int .i64 to.2] 26))
  have h4m : bl.length ≤ 4000000 := by have := ((validP_iff _ _ _ _ _).1 hb).1; omega
  have HOV := Lib.hid (fun c V (hV : Below W.heap.size W V) => refOpen_any w h mv bd bv bl c V (hv.below hV) h4m)
  have hok := grK_ok hb bl.length
  have HOK := Lib.hid hok
  have HOE := Lib.hid (open_eq hb)
  have HTO := Lib.hid ((open_eq hb to).trans ho)
  obtain ⟨g, hgd⟩ : ∃ g, grK w h mv bd bl bl.length = g := ⟨_, rfl⟩
  have HGW : Hid (g.w = w ∧ g.h = h) := Lib.hid (by rw [← hgd]; exact ⟨rfl, rfl⟩)
  have HGM : Hid (g.move = mv ∧ g.bend = bd) := Lib.hid (by rw [← hgd]; exact ⟨rfl, rfl⟩)
  rw [hgd] at HOK HOE HTO ⊢
  obtain ⟨a, cap, rfl, hc, hcm, _, _⟩ := hv
  obtain ⟨t1, t2⟩ := to
  obtain ⟨N, hN⟩ : ∃ N, w * h = N := ⟨_, rfl⟩
  have HN := Lib.hid hN
  have hcells : 1 ≤ w * h ∧ w * h ≤ 900 := hok.cells
  rw [hN] at hcells ⊢
  have hNi : (w : Int) * (h : Int) = (N : Int) := by rw [← hN]; simp
  have HNI := Lib.hid hNi
  have hwN : IntKind.i64.wrap (N : Int) = (N : Int) := IntWalk.i64_in _ (by clear hNi; omega)
  have hm1 : 1 ≤ mv ∧ mv ≤ 1000 := by rw [← HGM.out.1]; exact ⟨HOK.out.m1, HOK.out.m2⟩
  have hbd1 : 0 ≤ bd ∧ bd ≤ 1000 := by rw [← HGM.out.2]; exact ⟨HOK.out.b1, HOK.out.b2⟩
  have hw1 : 1 ≤ w := by have := HOK.out.w1; rw [HGW.out.1] at this; exact this
  clear hb ho hgd hok hN h4m
  dsimp only at *
  go_enter Try.func44, Try.ntmps44
  go_wp2_with (first
    | (at_make; refine mkS el_bo rfl rfl (n := N) rfl rfl (by first | rfl | exact hNi | rw [hwN]) (by omega) ?_; intro w2 ho2 hb2; obtain ⟨d0, d1, _⟩ := HGX.out.below hb2)
    | (at_make; refine mkK el_goes rfl rfl (n := N) rfl rfl (by first | rfl | exact hNi | rw [hwN]) (by omega) ?_; intro w3 ho3 hb3))
  have hsb : ((W.alloc (.cells #[.int .i64 w, .int .i64 h, .int .i64 mv, .int .i64 bd, .slice a bl.length cap] 24)).alloc (.cells #[.int .i64 t1, .int .i64 t2] 26)).heap.size = W.heap.size + 1 + 1 := by simp
  generalize hW1 : (W.alloc (.cells #[.int .i64 w, .int .i64 h, .int .i64 mv, .int .i64 bd, .slice a bl.length cap] 24)).alloc (.cells #[.int .i64 t1, .int .i64 t2] 26) = W1 at *
  clear hW1
  rw [show (Value.agg #[.int .i64 0, .int .i64 0, .int .i64 0, .int .i64 0]).cells = #[.int .i64 0, .int .i64 0, .int .i64 0, .int .i64 0] from rfl, made_quads] at ho3
  have hlt2 : W1.heap.size < w2.heap.size := (ho2.lt _ rfl).2
  have HT0 : Hid (TS W1 N W1.heap.size w2.heap.size (shutL g N 0) (laidG N 0) w3) := Lib.hid ⟨by
      rw [shutL_zero]
      have := own_below ho2 hb3
      rwa [show List.replicate N (Value.bool false) = bools (List.replicate N false) by simp [bools]] at this,
    by unfold laidG; simpa using own_le ho3 hb2.size, laidG_four N 0, shutL_len _ _ _, laidG_len (Nat.zero_le _), by omega, hb2.trans (hb3.mono hb2.size)⟩
  rw [hsb] at HT0
  generalize W.heap.size + 1 + 1 = sb at *
  generalize w2.heap.size = tb at *
  clear d0 d1 ho2 hb2 ho3 hb3 hlt2 hNi hsb
  go_wp2_with fail
  go_loopw [29] (fun p wr => ∃ k : Nat, k ≤ N ∧ p = .int .i64 k ∧ Hid (TS W1 N sb tb (shutL g N k) (laidG N k) wr)) (fun p _ => N - (intOf p).toNat)
  case atStart => exact ⟨0, Nat.zero_le _, rfl, HT0⟩
  case round =>
    obtain ⟨k, hk, rfl, HT⟩ := hrel
    by_cases hkN : k < N
    · have hkN' : (k : Int) < (N : Int) := by omega
      have HBo := Lib.hid (hbW.out.trans (HT.out.bel.mono hbW.out.size))
      obtain ⟨u0, u1, u2, u3, u4⟩ := HGX.out.below HT.out.bel
      have e0 := fun x : Grow wr => grow_cell u0 x
      have e1 := fun x : Grow wr => grow_cell u1 x
      have e2 := fun x : Grow wr => grow_cell u2 x
      have e3 := fun x : Grow wr => grow_cell u3 x
      have e4 := fun x : Grow wr => grow_cell u4 x
      obtain ⟨⟨c1, c2⟩, hc12⟩ : ∃ c, cellP g k = c := ⟨_, rfl⟩
      have hcc : ((k % w : Nat) : Int) = c1 ∧ ((k / w : Nat) : Int) = c2 := by
        have : cellP g k = (((k % g.w : Nat) : Int), ((k / g.w : Nat) : Int)) := rfl
        rw [HGW.out.1, hc12] at this
        injection this with h1 h2
        exact ⟨h1.symm, h2.symm⟩
      have hr : ((k : Int)).tmod (w : Int) = c1 := (Int.ofNat_tmod _ _).symm.trans hcc.1
      have hq : ((k : Int)).tdiv (w : Int) = c2 := (Int.ofNat_tdiv _ _).symm.trans hcc.2
      have hnear := cellP_near HOK.out (i := k) (by rw [HGW.out.1, HGW.out.2, HN.out]; exact hkN)
      rw [hc12] at hnear
      have hwq : IntKind.i64.wrap c2 = c2 := IntWalk.i64_in _ (by clear hr hq; dsimp only at hnear; omega)
      have hn0 : ¬ ((w : Int) = 0) := by omega
      have hnz : ¬ (w = 0) := by omega
      have HOPC := Lib.hid (fun x : Grow wr => HOV.out (c1, c2) (grow x) (HBo.out.trans ((grow_below x).mono HBo.out.size)))
      obtain ⟨b, hbb⟩ : ∃ b, refOpenP w h bl (c1, c2) = b := ⟨_, rfl⟩
      have HSS : Hid ((shutL g N k).set k (!b) = shutL g N (k + 1)) := Lib.hid (by rw [← shutL_succ g hkN, hc12, HOE.out, hbb])
      rw [hbb] at HOPC
      dsimp only at HOPC
      clear u0 u1 u2 u3 u4 hc12 hcc hbb hnear
      go_wp2_with fail
      refine wp_region_growTail 15 (by kernel_rfl) (by kernel_rfl) ?_
      simp only [List.take_succ_cons, List.take_zero, List.drop_succ_cons, List.drop_zero]
      repeat (go_big_quiet_step (first | (go_at_call 43; (with_reducible refine grow_of (HOPC.out _)))))
      refine wpQuiet_nil ?_
      intro _ hw'
      obtain ⟨xq, hw''⟩ := hw'
      subst hw''
      have HT6 := Lib.hid (HT.out.below (grow_below xq))
      clear e0 e1 e2 e3 e4 hr hq hwq hn0 hnz
      generalize grow xq = w6 at *
      obtain ⟨s0, sf⟩ := HT6.out.shutAt hkN
      have HT7 := Lib.hid (HT6.out.storeS k (!b))
      rw [HSS.out] at HT7
      have hrow := HT7.out.row4 hkN
      obtain ⟨_, c0⟩ := hrow.c0
      obtain ⟨_, c1⟩ := hrow.c1
      obtain ⟨_, c2⟩ := hrow.c2
      obtain ⟨_, c3⟩ := hrow.c3
      have f0 := hrow.f0
      have f1 := hrow.f1
      have f2 := hrow.f2
      have f3 := hrow.f3
      have HT8 := Lib.hid (HT7.out.storeR k 1099511627776 1099511627776 1099511627776 1099511627776)
      rw [show (laidG N k).set k [1099511627776, 1099511627776, 1099511627776, 1099511627776] = laidG N (k + 1) from laidG_succ hkN] at HT8
      clear hrow
      go_wp2_with fail
      go_roundw
      case rel => exact ⟨k + 1, by omega, by go_num, HT8⟩
      case measure => simp [intOf]; omega
    · obtain rfl : N = k := by omega
      have hton := openP_on HTO.out
      have hsm := Gr.okSmall HOK.out hton
      rw [HGW.out.1] at hsm
      have hjx : ∃ j : Nat, indexP g (t1, t2) = j := ⟨(indexP g (t1, t2)).toNat, by omega⟩
      obtain ⟨j, hj⟩ := hjx
      rw [hj] at hsm
      have hj' : t2 * (w : Int) + t1 = (j : Int) := by rw [← hj, ← HGW.out.1]; rfl
      have hjN : j < N := by have h5 := hsm.2.2.2.2.2.1; rw [← HN.out, ← HGW.out.2]; exact_mod_cast h5
      have hjN' : (j : Int) < (N : Int) := by omega
      have hwm : IntKind.i64.wrap (t2 * (w : Int)) = t2 * (w : Int) := IntWalk.i64_in _ (by dsimp only at hsm; omega)
      have hwa : IntKind.i64.wrap (t2 * (w : Int) + t1) = (j : Int) := by rw [hj']; exact IntWalk.i64_in _ (by clear hwm; omega)
      obtain ⟨u0, u1, u2, u3, u4⟩ := HGX.out.below HT.out.bel
      obtain ⟨u5, u6⟩ := HBX.out.below HT.out.bel
      have hrow := HT.out.row4 hjN
      obtain ⟨_, c0⟩ := hrow.c0
      obtain ⟨_, c1⟩ := hrow.c1
      obtain ⟨_, c2⟩ := hrow.c2
      obtain ⟨_, c3⟩ := hrow.c3
      have f0 := hrow.f0
      have f1 := hrow.f1
      have f2 := hrow.f2
      have f3 := hrow.f3
      have HT8 := Lib.hid (HT.out.storeR j 0 0 0 0)
      rw [show (laidG N N).set j [0, 0, 0, 0] = tab0 g (t1, t2) by unfold laidG tab0; rw [hj, HGW.out.1, HGW.out.2, HN.out]; simp [big]] at HT8
      have HTB := Lib.hid (tab0_ok HOK.out hton)
      clear hrow hton hsm hj hj'
      go_wp2_with fail
      generalize ((((wr.setCell ⟨tb, j * 4, none⟩ (.int .i64 0)).setCell ⟨tb, j * 4 + 1, none⟩ (.int .i64 0)).setCell ⟨tb, j * 4 + 2, none⟩ (.int .i64 0)).setCell ⟨tb, j * 4 + 3, none⟩ (.int .i64 0)) = w9 at *
      clear u0 u1 u2 u3 u4 u5 u6 c0 c1 c2 c3 f0 f1 f2 f3 hwm hwa
      obtain ⟨S, hS⟩ : ∃ S, shutL g N N = S := ⟨_, rfl⟩
      have HS : Hid (∀ j, j < N → S.getD j false = !openP g (cellP g j)) := Lib.hid (fun j hj => by rw [← hS]; exact shutL_get g hj)
      rw [hS] at HT8
      clear hS HT
      go_loopg [8] (sumT (tab0 g (t1, t2)) + 1) (fun k b wr2 => ∃ T bb, b = .bool bb ∧ Hid (TS W1 N sb tb S T wr2) ∧ Hid (TabS g (t1, t2) T ∧ (bb = false → Closed g T) ∧ sumT T + (if bb then 1 else 0) ≤ k))
      case atStart => exact ⟨_, true, rfl, HT8, Lib.hid ⟨HTB.out, fun h => (by cases h), Nat.le_refl _⟩⟩
      case round =>
        obtain ⟨T0, bb, rfl, HT, HP⟩ := hrel
        clear HT8 HTB
        cases bb with
        | false =>
          go_wp2_with fail
          go_ret
          exact ⟨⟨tb, rfl, T0, own_fld HT.out.out HT.out.four HT.out.len, HP.out.1, HP.out.2.1 (by first | rfl | trivial)⟩, hbW.out.trans (HT.out.bel.mono hbW.out.size)⟩
        | true =>
          have HG := Lib.hid HP.out.2.2
          have HP0 : Hid (Pass g (t1, t2) T0 T0 false (∀ i, i < 0 → okCell g T0 i)) := Lib.hid ⟨fun _ => ⟨rfl, fun i h => absurd h (Nat.not_lt_zero _)⟩, fun h => (by cases h), HP.out.1⟩
          go_wp2_with fail
          obtain ⟨wo, rfl⟩ : ∃ wo, wo = wr := ⟨_, rfl⟩
          go_loopw [66, 8] (fun p b wr3 => ∃ (k : Nat) (T : List (List Int)) (bb : Bool), k ≤ N ∧ p = .int .i64 k ∧ b = .bool bb ∧ Hid (TS W1 N sb tb S T wr3) ∧ Hid (Pass g (t1, t2) T0 T bb (∀ i, i < k → okCell g T i))) (fun p _ _ => N - (intOf p).toNat)
          case atStart => exact ⟨0, T0, false, Nat.zero_le _, rfl, rfl, HT, HP0⟩
          case round =>
            obtain ⟨k, T, bb, hk, rfl, rfl, HT3, HP3⟩ := hrel
            clear HT HP0
            obtain ⟨wp, rfl⟩ : ∃ wp, wp = wr := ⟨_, rfl⟩
            by_cases hkN : k < N
            · have hkN' : (k : Int) < (N : Int) := by omega
              have s0 := (HT3.out.shutAt hkN).1
              rw [HS.out k hkN] at s0
              cases hop : openP g (cellP g k) with
              | false =>
                rw [hop] at s0
                have HP4 : Hid (Pass g (t1, t2) T0 T bb (∀ i, i < k + 1 → okCell g T i)) := Lib.hid (HP3.out.imp fun h i hi => by
                  rcases (by omega : i < k ∨ i = k) with h1 | rfl
                  · exact h i h1
                  · intro hh; rw [hop] at hh; cases hh)
                go_wp2_with fail
                go_roundw
                case rel => exact ⟨k + 1, T, bb, by omega, by go_num, rfl, HT3, HP4⟩
                case measure => simp [intOf]; omega
              | true =>
                rw [hop] at s0
                have HOP := Lib.hid hop
                have HP4 : Hid (Pass g (t1, t2) T0 T bb ((∀ i, i < k → okCell g T i) ∧ ∀ d, d < 0 → okDir g T k d)) := Lib.hid (HP3.out.imp fun h => ⟨h, fun d hd => absurd hd (Nat.not_lt_zero _)⟩)
                have hnear := cellP_near HOK.out (i := k) (by rw [HGW.out.1, HGW.out.2, HN.out]; exact hkN)
                obtain ⟨⟨c1, c2⟩, hc12⟩ : ∃ c, cellP g k = c := ⟨_, rfl⟩
                rw [hc12] at hnear
                have HC12 := Lib.hid hc12
                have hcc : ((k % w : Nat) : Int) = c1 ∧ ((k / w : Nat) : Int) = c2 := by
                  have : cellP g k = (((k % g.w : Nat) : Int), ((k / g.w : Nat) : Int)) := rfl
                  rw [HGW.out.1, hc12] at this
                  injection this with h1 h2
                  exact ⟨h1.symm, h2.symm⟩
                have hr : ((k : Int)).tmod (w : Int) = c1 := (Int.ofNat_tmod _ _).symm.trans hcc.1
                have hq : ((k : Int)).tdiv (w : Int) = c2 := (Int.ofNat_tdiv _ _).symm.trans hcc.2
                have hwq : IntKind.i64.wrap c2 = c2 := IntWalk.i64_in _ (by clear hr hq; dsimp only at hnear; omega)
                have hn0 : ¬ ((w : Int) = 0) := by omega
                have hnz : ¬ (w = 0) := by omega
                have HNR := Lib.hid hnear
                dsimp only at hnear
                clear hop hc12 hcc hnear
                go_wp2_with fail
                clear s0
                go_loopw [73, 8] (fun p b wr4 => ∃ (m : Nat) (T : List (List Int)) (bb : Bool), m ≤ 4 ∧ p = .int .i64 m ∧ b = .bool bb ∧ Hid (TS W1 N sb tb S T wr4) ∧ Hid (Pass g (t1, t2) T0 T bb ((∀ i, i < k → okCell g T i) ∧ ∀ d, d < m → okDir g T k d))) (fun p _ _ => 4 - (intOf p).toNat)
                case atStart => exact ⟨0, T, bb, Nat.zero_le _, rfl, rfl, HT3, HP4⟩
                case round =>
                  clear HT3 HP3 HP4
                  obtain ⟨m, T, bb, hm4, rfl, rfl, HT4, HP5⟩ := hrel
                  obtain ⟨wq, rfl⟩ : ∃ wq, wq = wr := ⟨_, rfl⟩
                  by_cases hm : m < 4
                  · have hm4' : (m : Int) < 4 := by omega
                    obtain ⟨u0, u1, u2, u3, u4⟩ := HGX.out.below HT4.out.bel
                    obtain ⟨⟨n1, n2⟩, hn12⟩ : ∃ n, besideP (c1, c2) m = n := ⟨_, rfl⟩
                    have HN12 : Hid (besideP (cellP g k) m = (n1, n2)) := Lib.hid (by rw [HC12.out]; exact hn12)
                    have HBSM := Lib.hid (fun V => refNext_any (c1, c2) m (by omega) V (by have := HNR.out; dsimp only at *; omega) (by have := HNR.out; dsimp only at *; omega) (by have := HNR.out; dsimp only at *; omega) (by have := HNR.out; dsimp only at *; omega))
                    rw [hn12] at HBSM
                    dsimp only at HBSM
                    have U0 := Lib.hid u0
                    clear u0 u1 u2 u3 u4 hn12
                    go_wp2_with fail
                    apply cut_wp (R := fun b w' => EndBox wq w' b (.int .i64 n1) (.int .i64 n2))
                    case h =>
                      have q0 : ∀ V : World, Hid (Below wq.heap.size wq V) → V.cell? ⟨W.heap.size, 0, none⟩ = some (.int .i64 w) := fun V h => cell_below U0.out h.out
                      go_region_held3 (fun w' => Hid (Below wq.heap.size wq w'))
                        (first | exact Lib.hid (Below.refl _ _).drew | exact heldB hbk (by assumption) | exact heldA _ (by assumption) | exact heldA _ hkk.out | exact heldS (heldS (by assumption) _ (by first | assumption | exact Nat.le_refl _)) _ (by first | assumption | exact Nat.le_refl _))
                        (first
                          | (go_at_call 49; refine (HBSM.out _).mono ?_; rintro e wk ⟨rfl, hbk⟩; have hkk := Lib.hid (heldB hbk (by assumption)); have hsz := hkk.out.out.size; first | (have hbx : Box2 wk wq.heap.size _ _ := (Box2.new wq.drew _ _ _).below hbk; have hby := hbx; obtain ⟨f1, f2, f3, f4⟩ := hby) | (have hbx := (Box2.new _ _ _ _).below hbk; have hby := hbx; obtain ⟨f1, f2, f3, f4⟩ := hby) | (have hbx := Box2.below (by assumption) hbk; have hby := hbx; obtain ⟨f1, f2, f3, f4⟩ := hby) | skip))
                      · have hE := endA (x := .int .i64 n1) (y := .int .i64 n2) (t := 26) hkk.out
                        dsimp only [cutR]
                        generalize wk.heap.size = bz at hE ⊢
                        exact ⟨bz, rfl, hE⟩
                      all_goals (
                        obtain ⟨bz, e, hE⟩ := endS' (x := .int .i64 n1) (y := .int .i64 n2) hbx (by first | assumption | exact Nat.le_refl _) hkk.out
                        dsimp only [cutR]
                        rw [← e]
                        exact ⟨bz, rfl, by rw [e]; exact hE⟩)
                    case k =>
                    intro b7 w7 hE
                    obtain ⟨hb7, g0, g1, hbE⟩ := hE
                    have HT7 := Lib.hid (HT4.out.below hbE)
                    clear hbE HBSM HT4
                    obtain ⟨q0, q1, q2, q3, q4⟩ := HGX.out.below HT7.out.bel
                    have HON := Lib.hid (fun V => refOn_any w h mv bd (.slice a bl.length cap) n1 n2 V)
                    cases hon : onP w h (n1, n2) with
                    | false =>
                      rw [hon] at HON
                      have HP6 : Hid (Pass g (t1, t2) T0 T bb ((∀ i, i < k → okCell g T i) ∧ ∀ d, d < m + 1 → okDir g T k d)) := Lib.hid (HP5.out.imp fun h => ⟨h.1, fun d hd => by
                        rcases (by omega : d < m ∨ d = m) with h1 | rfl
                        · exact h.2 d h1
                        · intro hh
                          have := openP_on hh
                          rw [HN12.out, HGW.out.1, HGW.out.2, hon] at this
                          cases this⟩)
                      clear hon
                      go_wp2_with (go_at_call 53; (with_reducible refine (HON.out _).mono ?_); rintro e w8 ⟨rfl, hb8⟩; have HT8 := Lib.hid (HT7.out.below hb8); clear hb8)
                      go_roundw
                      case rel => exact ⟨m + 1, T, bb, by omega, by go_num, rfl, HT8, HP6⟩
                      case measure => simp [intOf]; omega
                    | true =>
                      rw [hon] at HON
                      have hnn : onP g.w g.h (n1, n2) = true := by rw [HGW.out.1, HGW.out.2]; exact hon
                      have hsm := Gr.okSmall HOK.out hnn
                      obtain ⟨j, hj⟩ : ∃ j : Nat, indexP g (n1, n2) = j := ⟨(indexP g (n1, n2)).toNat, by omega⟩
                      rw [hj, HGW.out.1] at hsm
                      have hj' : n2 * (w : Int) + n1 = (j : Int) := by rw [← hj, ← HGW.out.1]; rfl
                      have hjN : j < N := by have h5 := hsm.2.2.2.2.2.1; rw [← HN.out, ← HGW.out.2]; exact_mod_cast h5
                      have hjN' : (j : Int) < (N : Int) := by omega
                      have hwm : IntKind.i64.wrap (n2 * (w : Int)) = n2 * (w : Int) := IntWalk.i64_in _ (by dsimp only at hsm; omega)
                      have hwa : IntKind.i64.wrap (n2 * (w : Int) + n1) = (j : Int) := by rw [hj']; exact IntWalk.i64_in _ (by clear hwm; omega)
                      have HCJ : Hid (cellP g j = (n1, n2)) := Lib.hid (by have := cell_index HOK.out hnn; rw [hj, Int.toNat_natCast] at this; exact this)
                      have HJ : Hid ((indexP g (besideP (cellP g k) m)).toNat = j) := Lib.hid (by rw [HN12.out, hj]; exact Int.toNat_natCast j)
                      have hsj := HS.out j hjN
                      rw [HCJ.out] at hsj
                      cases hop : openP g (n1, n2) with
                      | false =>
                        rw [hop] at hsj
                        have HP6 : Hid (Pass g (t1, t2) T0 T bb ((∀ i, i < k → okCell g T i) ∧ ∀ d, d < m + 1 → okDir g T k d)) := Lib.hid (HP5.out.imp fun h => ⟨h.1, fun d hd => by
                          rcases (by omega : d < m ∨ d = m) with h1 | rfl
                          · exact h.2 d h1
                          · intro hh
                            rw [HN12.out, hop] at hh
                            cases hh⟩)
                        clear hon hnn hsm hj hj' hop
                        go_wp2_with (go_at_call 53; (with_reducible refine (HON.out _).mono ?_); rintro e w8 ⟨rfl, hb8⟩; have HT8 := Lib.hid (HT7.out.below hb8); have s8 := (HT8.out.shutAt hjN).1; rw [hsj] at s8; have g0' := cell_below g0 hb8; have g1' := cell_below g1 hb8; obtain ⟨r0, r1, r2, r3, r4⟩ := HGX.out.below HT8.out.bel; clear hb8)
                        go_roundw
                        case rel => exact ⟨m + 1, T, bb, by omega, by go_num, rfl, HT8, HP6⟩
                        case measure => simp [intOf]; omega
                      | true =>
                        rw [hop] at hsj
                        have HOPN : Hid (onP g.w g.h (besideP (cellP g k) m) = true) := Lib.hid (by rw [HN12.out]; exact hnn)
                        clear hon hnn hsm hj hj' hop
                        go_wp2_with (go_at_call 53; (with_reducible refine (HON.out _).mono ?_); rintro e w8 ⟨rfl, hb8⟩; have HT8 := Lib.hid (HT7.out.below hb8); have s8 := (HT8.out.shutAt hjN).1; rw [hsj] at s8; have g0' := cell_below g0 hb8; have g1' := cell_below g1 hb8; obtain ⟨r0, r1, r2, r3, r4⟩ := HGX.out.below HT8.out.bel; clear hb8)
                        obtain ⟨q, hq⟩ : ∃ q, outGet T j m = q := ⟨_, rfl⟩
                        have hgj : j < g.w * g.h := by rw [HGW.out.1, HGW.out.2, HN.out]; exact hjN
                        have hgk : k < g.w * g.h := by rw [HGW.out.1, HGW.out.2, HN.out]; exact hkN
                        have HGK := Lib.hid hgk
                        have hqr := HP5.out.tab.range HOK.out hgj hm
                        have x8 := (HT8.out.at hjN hm).1
                        rw [hq] at x8 hqr
                        have HQ := Lib.hid hq
                        have hqb : q ≤ 1099511627776 := hqr.2
                        have hq0 : 0 ≤ q := hqr.1
                        have e0 := fun x : Grow w8 => grow_cell g0' x
                        have e1 := fun x : Grow w8 => grow_cell g1' x
                        have e2 := fun x : Grow w8 => grow_cell r0 x
                        have e3 := fun x : Grow w8 => grow_cell r2 x
                        have e4 := fun x : Grow w8 => grow_cell x8 x
                        have hws : IntKind.i64.wrap (mv + q) = mv + q := IntWalk.i64_in _ (by clear hwm hwa; omega)
                        have hws2 : IntKind.i64.wrap (mv + q + bd) = mv + q + bd := IntWalk.i64_in _ (by clear hwm hwa hws; omega)
                        have hws3 : wrap64 (mv + q + bd) = mv + q + bd := by clear hwm hwa hws hws2; unfold wrap64; omega
                        have HP6 : Hid (Pass g (t1, t2) T0 T bb (((∀ i, i < k → okCell g T i) ∧ ∀ d, d < m → okDir g T k d) ∧ ∀ e, e < 0 → outGet T k e ≤ tabV g T k m e)) := Lib.hid (HP5.out.imp fun h => ⟨h, fun e he => absurd he (Nat.not_lt_zero _)⟩)
                        clear g0' g1' r0 r1 r2 r3 r4 s8 x8 hq hgj hgk hqr g0 g1 q0 q1 q2 q3 q4
                        refine wp_region_grow (by kernel_rfl) (by kernel_rfl) ?_
                        repeat (go_big_quiet_step (fail))
                        refine wpQuiet_nil ?_
                        intro _ hw'
                        obtain ⟨xq, hw''⟩ := hw'
                        subst hw''
                        have HT9 := Lib.hid (HT8.out.below (grow_below xq))
                        clear e0 e1 e2 e3 e4 hwm hwa HT8 HT7
                        generalize grow xq = w9 at *
                        go_wp2_with fail
                        go_loopw [120, 8] (fun p b wr5 => ∃ (c : Nat) (T : List (List Int)) (bb : Bool), c ≤ 4 ∧ p = .int .i64 c ∧ b = .bool bb ∧ Hid (TS W1 N sb tb S T wr5) ∧ Hid (Pass g (t1, t2) T0 T bb (((∀ i, i < k → okCell g T i) ∧ ∀ d, d < m → okDir g T k d) ∧ ∀ e, e < c → outGet T k e ≤ tabV g T k m e)) ∧ Hid (outGet T j m = q)) (fun p _ _ => 4 - (intOf p).toNat)
                        case atStart => exact ⟨0, T, bb, Nat.zero_le _, rfl, rfl, HT9, HP6, HQ⟩
                        case round =>
                          clear HT9 HP6 HQ HP5
                          obtain ⟨c, T, bb, hc4, rfl, rfl, HT9, HP6, HQ⟩ := hrel
                          by_cases hc : c < 4
                          · have hc4' : (c : Int) < 4 := by omega
                            obtain ⟨x0, xf⟩ := HT9.out.at hkN hc
                            obtain ⟨_, _, _, r3, _⟩ := HGX.out.below HT9.out.bel
                            have HVV : Hid (tabV g T k m c = q + stepP g c m) := Lib.hid (by unfold tabV; rw [HJ.out, HQ.out])
                            have HRX := Lib.hid (fun hlt => HP6.out.relax HOK.out HGK.out hm hc HOP.out HOPN.out hlt (((∀ i, i < k → okCell g (outSet T k c (tabV g T k m c)) i) ∧ ∀ d, d < m → okDir g (outSet T k c (tabV g T k m c)) k d) ∧ ∀ e, e < c + 1 → outGet (outSet T k c (tabV g T k m c)) k e ≤ tabV g (outSet T k c (tabV g T k m c)) k m e))
                            have HKP : Hid (tabV g T k m c ≥ outGet T k c → Pass g (t1, t2) T0 T bb (((∀ i, i < k → okCell g T i) ∧ ∀ d, d < m → okDir g T k d) ∧ ∀ e, e < c + 1 → outGet T k e ≤ tabV g T k m e)) := Lib.hid (fun hge => HP6.out.imp fun h => ⟨h.1, fun e he => by
                              rcases (by omega : e < c ∨ e = c) with h1 | rfl
                              · exact h.2 e h1
                              · exact hge⟩)
                            rw [HJ.out] at HRX
                            generalize hS0 : (((∀ i, i < k → okCell g (outSet T k c (tabV g T k m c)) i) ∧ ∀ d, d < m → okDir g (outSet T k c (tabV g T k m c)) k d) ∧ ∀ e, e < c + 1 → outGet (outSet T k c (tabV g T k m c)) k e ≤ tabV g (outSet T k c (tabV g T k m c)) k m e) = Q0 at HRX
                            have HS0 := Lib.hid hS0
                            clear hS0
                            obtain ⟨v, hv⟩ : ∃ v, outGet T k c = v := ⟨_, rfl⟩
                            rw [hv] at x0 HRX HKP
                            clear hv
                            by_cases hcm : c = m
                            · subst hcm
                              have hcv : tabV g T k c c = mv + q := by
                                rw [HVV.out]; unfold stepP; rw [if_pos rfl, HGM.out.1]; omega
                              by_cases hlt : mv + q < v
                              · have HRX2 := Lib.hid (HRX.out (by rw [hcv]; exact hlt))
                                rw [← HS0.out, hcv, HQ.out] at HRX2
                                have HTn := Lib.hid (HT9.out.storeO k c hc (mv + q))
                                clear HRX HKP hcv
                                go_wp2_with fail
                                go_roundw
                                case rel => exact ⟨c + 1, _, true, by omega, by go_num, rfl, HTn, Lib.hid HRX2.out.1, Lib.hid HRX2.out.2⟩
                                case measure => simp [intOf]; omega
                              · have HK2 := Lib.hid (HKP.out (by rw [hcv]; omega))
                                clear HRX HKP hcv
                                go_wp2_with fail
                                go_roundw
                                case rel => exact ⟨c + 1, T, bb, by omega, by go_num, rfl, HT9, HK2, HQ⟩
                                case measure => simp [intOf]; omega
                            · have hcm' : ¬ ((c : Int) = (m : Int)) := by omega
                              have hcm2 : ((c : Int) != (m : Int)) = true := by simp; omega
                              have hcv : tabV g T k m c = mv + q + bd := by
                                rw [HVV.out]; unfold stepP; rw [if_neg hcm, HGM.out.1, HGM.out.2]; omega
                              by_cases hlt : mv + q + bd < v
                              · have HRX2 := Lib.hid (HRX.out (by rw [hcv]; exact hlt))
                                rw [← HS0.out, hcv, HQ.out] at HRX2
                                have HTn := Lib.hid (HT9.out.storeO k c hc (mv + q + bd))
                                clear HRX HKP hcv
                                go_wp2_with fail
                                go_roundw
                                case rel => exact ⟨c + 1, _, true, by omega, by go_num, rfl, HTn, Lib.hid HRX2.out.1, Lib.hid HRX2.out.2⟩
                                case measure => simp [intOf]; omega
                              · have HK2 := Lib.hid (HKP.out (by rw [hcv]; omega))
                                clear HRX HKP hcv
                                go_wp2_with fail
                                go_roundw
                                case rel => exact ⟨c + 1, T, bb, by omega, by go_num, rfl, HT9, HK2, HQ⟩
                                case measure => simp [intOf]; omega
                          · obtain rfl : c = 4 := by omega
                            have HP7 : Hid (Pass g (t1, t2) T0 T bb ((∀ i, i < k → okCell g T i) ∧ ∀ d, d < m + 1 → okDir g T k d)) := Lib.hid (HP6.out.imp fun h => ⟨h.1.1, fun d hd => by
                              rcases (by omega : d < m ∨ d = m) with h1 | rfl
                              · exact h.1.2 d h1
                              · exact fun _ => h.2⟩)
                            go_wp2_with fail
                            go_roundw
                            case rel => exact ⟨m + 1, T, bb, by omega, by go_num, rfl, HT9, HP7⟩
                            case measure => simp [intOf]; omega
                  · obtain rfl : m = 4 := by omega
                    have HP6 : Hid (Pass g (t1, t2) T0 T bb (∀ i, i < k + 1 → okCell g T i)) := Lib.hid (HP5.out.imp fun h i hi => by
                      rcases (by omega : i < k ∨ i = k) with h1 | rfl
                      · exact h.1 i h1
                      · exact fun _ => h.2)
                    go_wp2_with fail
                    go_roundw
                    case rel => exact ⟨k + 1, T, bb, by omega, by go_num, rfl, HT4, HP6⟩
                    case measure => simp [intOf]; omega
            · obtain rfl : k = N := by omega
              go_wp2_with fail
              obtain ⟨gk', rfl⟩ : ∃ gk', gk = gk' + 1 := ⟨gk - 1, by have := HG.out; simp at this; omega⟩
              go_roundg gk'
              case measure => omega
              case rel =>
                refine ⟨T, bb, rfl, HT3, Lib.hid ⟨HP3.out.tab, fun h => ?_, ?_⟩⟩
                · exact fun i hi => (HP3.out.same h).2 i (by rw [← HN.out, ← HGW.out.1, ← HGW.out.2]; exact hi)
                · have h1 := HG.out
                  cases bb with
                  | false => rw [(HP3.out.same rfl).1]; simp at h1 ⊢; omega
                  | true => have h2 := HP3.out.less rfl; simp at h1 ⊢; omega
end Go.Proofs.Ytpakkjkjppibnaa
