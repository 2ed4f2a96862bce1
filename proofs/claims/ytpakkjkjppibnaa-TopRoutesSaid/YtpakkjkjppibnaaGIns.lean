/- Layout: slices.Clone, slices.Insert at []api.XY (two cells each). -/
import Derived.Test.YtpakkjkjppibnaaKPairs
import Derived.Shelf.Spec.SlicesInsertGrow
namespace Go.Proofs.Ytpakkjkjppibnaa
open Go.RowKit Go.Shelf

theorem run_copy_cells2 {P : Program} (w : World) (dT sT ty elem : TypeId) (b o dLen dCap : Nat) (a : Addr) (sLen sCap : Nat) (cs : List Value)
    (hu : P.underlying dT = some (.slice elem)) (hs : (P.info? elem).map (·.size) = some 2) (hn : cs.length = Nat.min sLen dLen * 2)
    (hsrc : ∀ j v, cs[j]? = some v → w.cell? (a.add j) = some v) (hc : ∀ j, j < cs.length → (w.cell? ⟨b, o + j, none⟩).isSome = true) (hf : ∀ j, j < cs.length → w.frozen? ⟨b, o + j, none⟩ = false) (h1 : ∀ v ∈ cs, v.oneCell' = true) :
    (Builtin.copy_ #[dT, sT] ty #[.slice (some ⟨b, o, none⟩) dLen dCap, .slice (some a) sLen sCap]).run P w = .ok (goInt (Nat.min sLen dLen)) (w.setCells b o cs) := by
  have hl := run_loadCells_list (P := P) w a cs hsrc
  have hst := run_storeCells_cells (P := P) b o cs 0 w (by simpa using hc) (by simpa using hf) h1
  cases hq : P.info? elem with
  | none => simp [hq] at hs
  | some i =>
    have hi : i.size = 2 := by simpa [hq] using hs
    simp [Builtin.copy_, run_underlying hu, Builtin.lenOf, Builtin.firstCells, sizeOf, typeInfo, hq, hi, ← hn, hl, hst]

theorem el_xyI : ElemK Try.prog 22 26 (.agg #[.int .i64 0, .int .i64 0]) 2 16 :=
  ⟨by kernel_rfl, info_parts (by kernel_rfl), by rfl, by decide, by decide⟩
theorem info_xy : (Try.prog.info? 26).map (·.size) = some 2 := by
  obtain ⟨i, hi, _, hs, _⟩ := el_xyI.info
  rw [hi]; simp [hs]
theorem pairs_cell (l : List (Int × Int)) (u : Value) (h : u ∈ pairs l) : u.oneCell' = true := by
  unfold pairs at h
  obtain ⟨x, _, hx⟩ := List.mem_flatMap.1 h
  simp at hx
  rcases hx with rfl | rfl <;> rfl
theorem pairs_take (l : List (Int × Int)) (k : Nat) : (pairs l).take (k * 2) = pairs (l.take k) := by
  induction l generalizing k with
  | nil => simp [pairs]
  | cons x l ih =>
    cases k with
    | zero => simp [pairs]
    | succ k =>
      rw [show pairs (x :: l) = .int .i64 x.1 :: .int .i64 x.2 :: pairs l from rfl, show (k + 1) * 2 = k * 2 + 1 + 1 by omega, List.take_succ_cons, List.take_succ_cons, ih, List.take_succ_cons]
      rfl
theorem pairs_drop (l : List (Int × Int)) (k : Nat) : (pairs l).drop (k * 2) = pairs (l.drop k) := by
  induction l generalizing k with
  | nil => simp [pairs]
  | cons x l ih =>
    cases k with
    | zero => simp [pairs]
    | succ k =>
      rw [show pairs (x :: l) = .int .i64 x.1 :: .int .i64 x.2 :: pairs l from rfl, show (k + 1) * 2 = k * 2 + 1 + 1 by omega, List.drop_succ_cons, List.drop_succ_cons, ih, List.drop_succ_cons]
set_option maxHeartbeats 4000000 in
set_option maxRecDepth 100000 in
/-- slices.Insert where there is room: in place -/
theorem ins_shift (b n c i vb m vc : Nat) (cs vs : List Value) (w : World) (hi : i < n) (hm : 0 < m) (hroom : n + m ≤ c) (hc63 : c ≤ 9223372036854775807) (hvb : vb ≠ b) (hcl : cs.length = n * 2) (hvl : vs.length = m * 2)
    (hcs : ∀ j v, cs[j]? = some v → w.cell? ⟨b, j, none⟩ = some v) (hsp : ∀ j, j < (n + m) * 2 → (w.cell? ⟨b, j, none⟩).isSome = true) (hfz : ∀ j, w.frozen? ⟨b, j, none⟩ = false)
    (hvs : ∀ j v, vs[j]? = some v → w.cell? ⟨vb, j, none⟩ = some v) (h1c : ∀ v ∈ cs, v.oneCell' = true) (h1v : ∀ v ∈ vs, v.oneCell' = true)
    (tA tB : TypeId) (kA kB : Nat) (hsa : w.shape? vb = some (tA, kA)) (hsb : w.shape? b = some (tB, kB)) (hkB : kB ≠ 0) (hfa : w.frozen? ⟨vb, 0, none⟩ = false) (hfe : w.frozen? ⟨vb, kA, none⟩ = false) :
    Calls Try.prog 90 #[.slice (some ⟨b, 0, none⟩) n c, .int .i64 i, .slice (some ⟨vb, 0, none⟩) m vc] w fun e w' =>
      e = .returned (.slice (some ⟨b, 0, none⟩) (n + m) c) ∧ w' = (w.drew.setCells b ((i + m) * 2) (cs.drop (i * 2))).setCells b (i * 2) vs := by
  have hz1 : ¬ ((m : Int) = 0) := by omega
  have hz2 : ¬ ((i : Int) = (n : Int)) := by omega
  have hov : ∀ lb cb, (callFunc 102 #[.slice (some ⟨vb, 0, none⟩) m vc, .slice (some ⟨b, (i + m) * 2, none⟩) lb cb]).run Try.prog w = .ok (.value (.bool false)) w := fun lb cb => by
    rw [run_callFunc_extern Try.func102 (by kernel_rfl) (by kernel_rfl) (by kernel_rfl) (e := Extern.SlicesOverlaps.overlaps #[22, 22] #[4]) (by kernel_rfl),
      Lib.run_overlaps_apart w 22 4 26 Try.underlying22 2 (fun w => by kernel_rfl) ⟨vb, 0, none⟩ ⟨b, (i + m) * 2, none⟩ m vc lb cb hvb tA tB kA kB hsa hsb hkB hfa hfe]
    rfl
  have hdl : (cs.drop (i * 2)).length = (n - i) * 2 := by rw [List.length_drop, hcl]; omega
  have hw1 : IntKind.i64.wrap ((i : Int) + (m : Int)) = (i : Int) + (m : Int) := by rw [IntKind.wrap_i64]; omega
  have hb1 : (0 : Int) ≤ (i : Int) + (m : Int) := by omega
  have hin : i ≤ n := by omega
  have htn : ((i : Int) + (m : Int)).toNat = i + m := by omega
  have hb2 : ¬ (c = i + m) := by omega
  have hb3 : (i : Int) ≤ (n : Int) + (m : Int) := by omega
  have hb4 : ¬ (c = i) := by omega
  have hcp1 : ∀ ty dc sc, (Builtin.copy_ #[22, 22] ty #[.slice (some ⟨b, (i + m) * 2, none⟩) (n + m - (i + m)) dc, .slice (some ⟨b, i * 2, none⟩) (n + m - i) sc]).run Try.prog w.drew = .ok (goInt (Nat.min (n + m - i) (n + m - (i + m)))) (w.drew.setCells b ((i + m) * 2) (cs.drop (i * 2))) := fun ty dc sc =>
    run_copy_cells2 w.drew _ _ ty 26 b ((i + m) * 2) (n + m - (i + m)) dc ⟨b, i * 2, none⟩ (n + m - i) sc (cs.drop (i * 2)) Try.underlying22 info_xy (by rw [hdl]; simp only [Nat.min_def]; split <;> omega)
      (fun j v hj => by rw [Addr.add_lit]; exact hcs (i * 2 + j) v (by rwa [List.getElem?_drop] at hj))
      (fun j hj => by exact hsp _ (by rw [hdl] at hj; omega)) (fun j hj => hfz _) (fun v hv => h1c v (List.mem_of_mem_drop hv))
  obtain ⟨W1, hW1⟩ : ∃ W1, W1 = w.drew.setCells b ((i + m) * 2) (cs.drop (i * 2)) := ⟨_, rfl⟩
  have hsp1 : ∀ k, k < (n + m) * 2 → (W1.cell? ⟨b, k, none⟩).isSome = true := fun k hk => by
    rw [hW1]
    exact isSome_setCells b _ _ _ (fun j hj => by exact hsp _ (by rw [hdl] at hj; omega)) _ (hsp k hk)
  have hcp2 : ∀ (W : World), (∀ x, W.cell? x = W1.cell? x) → (∀ x, W.frozen? x = W1.frozen? x) → ∀ ty dc, (Builtin.copy_ #[22, 22] ty #[.slice (some ⟨b, i * 2, none⟩) (n + m - i) dc, .slice (some ⟨vb, 0, none⟩) m vc]).run Try.prog W = .ok (goInt (Nat.min m (n + m - i))) (W.setCells b (i * 2) vs) := fun W hWc hWf ty dc =>
    run_copy_cells2 W _ _ ty 26 b (i * 2) (n + m - i) dc ⟨vb, 0, none⟩ m vc vs Try.underlying22 info_xy (by rw [hvl]; simp only [Nat.min_def]; split <;> omega)
      (fun j v hj => by
        rw [Addr.add_lit, Nat.zero_add, hWc, hW1, World.cell?_setCells_out b _ _ _ _ (fun h _ => absurd h hvb)]
        exact hvs j v hj)
      (fun j hj => by rw [hWc]; exact hsp1 _ (by omega)) (fun j hj => by rw [hWf, hW1, World.frozen?_setCells]; exact hfz _) h1v
  rw [← hW1] at hcp1
  go_enter Try.func90, Try.ntmps90
  go_wp2_with (simp only [hov])
  go_region_law (refine step_copy_runI rfl _ _ 22 22 rfl _ _ (by simp [Act.eval, Act.put]) (by simp [Act.eval, Act.put]) (hcp1 _ _ _) ?_)
  go_wp2_with (at_builtin; refine wpList_copy_runI _ rfl _ _ 22 22 rfl _ _ rfl rfl (hcp2 _ (fun _ => rfl) (fun _ => rfl) _ _) ?_)
  go_ret
  first | exact ⟨rfl, rfl⟩ | exact ⟨rfl, by rw [hW1]⟩
set_option maxHeartbeats 4000000 in
set_option maxRecDepth 100000 in
/-- slices.Insert where there is no room: a new row -/
theorem ins_grow (b n c i vb m vc : Nat) (cs vs : List Value) (w : World) (hi : i < n) (hm : 0 < m) (hnc : n ≤ c) (hroom : c < n + m) (hbig : (n + m) * 16 ≤ 140737488355328) (hcl : cs.length = n * 2) (hvl : vs.length = m * 2)
    (hcs : ∀ j v, cs[j]? = some v → w.cell? ⟨b, j, none⟩ = some v) (hvs : ∀ j v, vs[j]? = some v → w.cell? ⟨vb, j, none⟩ = some v) (h1c : ∀ v ∈ cs, v.oneCell' = true) (h1v : ∀ v ∈ vs, v.oneCell' = true) :
    Calls Try.prog 90 #[.slice (some ⟨b, 0, none⟩) n c, .int .i64 i, .slice (some ⟨vb, 0, none⟩) m vc] w fun e w' => ∃ (ROW : Array Value) (G : Nat), n + m ≤ G ∧ G ≤ maxLen ∧ (n + m) * 2 ≤ ROW.size ∧ (∀ j v, j < i * 2 → cs[j]? = some v → ROW[j]? = some v) ∧
      e = .returned (.slice (some ⟨w.heap.size, 0, none⟩) (n + m) G) ∧ w' = (((w.alloc (.cells ROW 26)).drew.setCells w.heap.size (i * 2) vs).drew).setCells w.heap.size ((i + m) * 2) (cs.drop (i * 2)) := by
  obtain ⟨i0, hi0, hz0, hzs, hzb⟩ := el_xyI.info
  have hz1 : ¬ ((m : Int) = 0) := by omega
  have hz2 : ¬ ((i : Int) = (n : Int)) := by omega
  have hz3 : (c : Int) < (n : Int) + (m : Int) := by omega
  have hbw : b < w.heap.size := block_lt_of_cell (hcs 0 _ (List.getElem?_eq_getElem (by omega)))
  have hvw : vb < w.heap.size := block_lt_of_cell (hvs 0 _ (List.getElem?_eq_getElem (by omega)))
  have hkk : (n : Int) + (m : Int) - (i : Int) = ((n + m - i : Nat) : Int) := by omega
  have hik : i + (n + m - i) = n + m := by omega
  have hold : (Builtin.firstCells i0.size i (.slice (some ⟨b, 0, none⟩) i c)).run Try.prog w.drew = .ok (cs.take (i * 2)).toArray w.drew := by
    rw [hzs]
    exact run_firstCells_some w.drew 2 i ⟨b, 0, none⟩ i c (cs.take (i * 2)) (by rw [List.length_take]; omega) (fun j v hj => by
      rw [Addr.add_lit, Nat.zero_add]
      rw [List.getElem?_take] at hj
      split at hj
      · exact hcs j v hj
      · cases hj)
  have hrz : ∀ ty, (Builtin.append_ #[22, 3] ty #[.slice (some ⟨b, 0, none⟩) i c, .int .i64 ((n : Int) + (m : Int) - (i : Int))]).run Try.prog w =
      .ok (.slice (some ⟨w.heap.size, 0, none⟩) (n + m) (grownCap w (n + m) c 26)) (w.drew.alloc (.cells ((cs.take (i * 2)).toArray ++ Builtin.zeroCells (Value.agg #[.int .i64 0, .int .i64 0]).cells (n + m - i) ++ Builtin.zeroCells (Value.agg #[.int .i64 0, .int .i64 0]).cells (grownCap w (n + m) c 26 - (n + m))) 26)) := fun ty => by
    have h := Lib.run_append_grow_zeros w 22 3 ty 26 i0 _ .i64 .i64 Try.underlying22 Try.underlying3 hi0 hz0 (some ⟨b, 0, none⟩) i c (cs.take (i * 2)) hold (n + m - i) (by omega) (by omega) (by omega) (by omega) (by rw [hzb]; omega) (by rw [hzb, hik]; exact growslice_fits hroom hbig)
    rw [hik] at h
    rw [hkk]
    exact h
  obtain ⟨G, hG⟩ : ∃ G, G = grownCap w (n + m) c 26 := ⟨_, rfl⟩
  obtain ⟨ROW, hROW⟩ : ∃ ROW : Array Value, ROW = (cs.take (i * 2)).toArray ++ Builtin.zeroCells (Value.agg #[.int .i64 0, .int .i64 0]).cells (n + m - i) ++ Builtin.zeroCells (Value.agg #[.int .i64 0, .int .i64 0]).cells (G - (n + m)) := ⟨_, rfl⟩
  rw [← hG] at hrz
  rw [← hROW] at hrz
  have hRl : (n + m) * 2 ≤ ROW.size := by
    rw [hROW]
    simp [Builtin.zeroCells, Value.cells]
    omega
  have hRget : ∀ j v, j < i * 2 → cs[j]? = some v → ROW[j]? = some v := fun j v hj h => by
    have e1 : j < ((cs.take (i * 2)).toArray).size := by simp; omega
    rw [hROW, Array.getElem?_append_left (by rw [Array.size_append]; omega), Array.getElem?_append_left e1, List.getElem?_toArray, List.getElem?_take, if_pos hj]
    exact h
  obtain ⟨W1, hW1⟩ : ∃ W1, W1 = w.drew.alloc (.cells ROW 26) := ⟨_, rfl⟩
  rw [← hW1] at hrz
  have hN : ∀ j, j < (n + m) * 2 → (W1.cell? ⟨w.heap.size, j, none⟩).isSome = true := fun j hj => by
    rw [hW1, World.cell?_alloc_at (w := w.drew) ROW _ w.heap.size j rfl, Array.getElem?_eq_getElem (by omega)]; rfl
  have hNf : ∀ j, W1.frozen? ⟨w.heap.size, j, none⟩ = false := fun j => by rw [hW1]; exact World.frozen?_alloc_at (w := w.drew) ROW _ w.heap.size j rfl
  have hOb : ∀ j v, w.cell? ⟨b, j, none⟩ = some v → W1.cell? ⟨b, j, none⟩ = some v := fun j v h => by rw [hW1, World.cell?_alloc_past (w := w.drew) _ b j hbw]; exact h
  have hOv : ∀ j v, w.cell? ⟨vb, j, none⟩ = some v → W1.cell? ⟨vb, j, none⟩ = some v := fun j v h => by rw [hW1, World.cell?_alloc_past (w := w.drew) _ vb j hvw]; exact h
  have hcpA : ∀ (W : World), (∀ x, W.cell? x = W1.cell? x) → (∀ x, W.frozen? x = W1.frozen? x) → ∀ ty dc, (Builtin.copy_ #[22, 22] ty #[.slice (some ⟨w.heap.size, i * 2, none⟩) (n + m - i) dc, .slice (some ⟨vb, 0, none⟩) m vc]).run Try.prog W = .ok (goInt (Nat.min m (n + m - i))) (W.setCells w.heap.size (i * 2) vs) := fun W hWc hWf ty dc =>
    run_copy_cells2 W _ _ ty 26 w.heap.size (i * 2) (n + m - i) dc ⟨vb, 0, none⟩ m vc vs Try.underlying22 info_xy (by rw [hvl]; simp only [Nat.min_def]; split <;> omega)
      (fun j v hj => by rw [Addr.add_lit, Nat.zero_add, hWc]; exact hOv _ v (hvs j v hj))
      (fun j hj => by rw [hWc]; exact hN _ (by omega)) (fun j hj => by rw [hWf]; exact hNf _) h1v
  have hGn : n + m ≤ G := by rw [hG]; exact grownCap_ge w _ _ _
  have hGm : G ≤ maxLen := by rw [hG]; exact grownCap_le_maxLen w (n + m) c 26 (by unfold maxLen; omega)
  have hG63 : G ≤ 9223372036854775807 := by unfold maxLen at hGm; omega
  have hGi : ¬ (G = i) := by omega
  have hGim : ¬ (G = i + m) := by omega
  have hci : ¬ (c = i) := by omega
  have hbN : b ≠ w.heap.size := by omega
  have hdl : (cs.drop (i * 2)).length = (n - i) * 2 := by rw [List.length_drop, hcl]; omega
  have hcpB : ∀ (W : World), (∀ x, W.cell? x = (W1.setCells w.heap.size (i * 2) vs).cell? x) → (∀ x, W.frozen? x = (W1.setCells w.heap.size (i * 2) vs).frozen? x) → ∀ ty dc sc, (Builtin.copy_ #[22, 22] ty #[.slice (some ⟨w.heap.size, (i + m) * 2, none⟩) (n + m - (i + m)) dc, .slice (some ⟨b, i * 2, none⟩) (n - i) sc]).run Try.prog W = .ok (goInt (Nat.min (n - i) (n + m - (i + m)))) (W.setCells w.heap.size ((i + m) * 2) (cs.drop (i * 2))) := fun W hWc hWf ty dc sc =>
    run_copy_cells2 W _ _ ty 26 w.heap.size ((i + m) * 2) (n + m - (i + m)) dc ⟨b, i * 2, none⟩ (n - i) sc (cs.drop (i * 2)) Try.underlying22 info_xy (by rw [hdl]; simp only [Nat.min_def]; split <;> omega)
      (fun j v hj => by
        rw [Addr.add_lit, hWc, World.cell?_setCells_out _ _ _ _ _ (fun h _ => absurd h hbN)]
        exact hOb _ v (hcs (i * 2 + j) v (by rwa [List.getElem?_drop] at hj)))
      (fun j hj => by rw [hWc]; exact isSome_setCells _ _ _ _ (fun t ht => hN _ (by omega)) _ (hN _ (by rw [hdl] at hj; omega)))
      (fun j hj => by rw [hWf, World.frozen?_setCells]; exact hNf _) (fun v hv => h1c v (List.mem_of_mem_drop hv))
  subst hW1
  have hE1 : ∀ x, ((w.alloc (.cells ROW 26)).drew).cell? x = (w.drew.alloc (.cells ROW 26)).cell? x := fun x => rfl
  have hE2 : ∀ x, ((w.alloc (.cells ROW 26)).drew).frozen? x = (w.drew.alloc (.cells ROW 26)).frozen? x := fun x => rfl
  have hF1 : ∀ x, (((w.alloc (.cells ROW 26)).drew.setCells w.heap.size (i * 2) vs).drew).cell? x = ((w.drew.alloc (.cells ROW 26)).setCells w.heap.size (i * 2) vs).cell? x := fun x => rfl
  have hF2 : ∀ x, (((w.alloc (.cells ROW 26)).drew.setCells w.heap.size (i * 2) vs).drew).frozen? x = ((w.drew.alloc (.cells ROW 26)).setCells w.heap.size (i * 2) vs).frozen? x := fun x => rfl
  have hw1 : IntKind.i64.wrap ((i : Int) + (m : Int)) = (i : Int) + (m : Int) := by rw [IntKind.wrap_i64]; omega
  have hb1 : (0 : Int) ≤ (i : Int) + (m : Int) := by omega
  have hin : i ≤ n := by omega
  have htn : ((i : Int) + (m : Int)).toNat = i + m := by omega
  have hb3 : (i : Int) ≤ (n : Int) := by omega
  have HRG := Lib.hid hRget
  have HRL := Lib.hid hRl
  clear hkk hik hold hROW hG hRl hRget
  go_enter Try.func90, Try.ntmps90
  go_wp2_with (first
    | (at_builtin; refine Lib.wpList_append_run _ rfl _ _ _ _ rfl _ _ rfl rfl _ _ (hrz _) ?_)
    | (at_builtin; refine wpList_copy_runI _ rfl _ _ 22 22 rfl _ _ rfl rfl (hcpA _ hE1 hE2 _ _) ?_)
    | (at_builtin; refine wpList_copy_runI _ rfl _ _ 22 22 rfl _ _ rfl rfl (hcpB _ (fun _ => rfl) (fun _ => rfl) _ _ _) ?_))
  go_region_law (refine step_copy_runI rfl _ _ 22 22 rfl (.slice (some ⟨w.heap.size, (i + m) * 2, none⟩) (n + m - (i + m)) (G - (i + m))) (.slice (some ⟨b, i * 2, none⟩) (n - i) (c - i)) (by simp [Act.eval, Act.put]) (by simp [Act.eval, Act.put]) (hcpB _ hF1 hF2 26 (G - (i + m)) (c - i)) ?_)
  go_wp2
  go_ret
  exact ⟨ROW, G, hGn, hGm, HRL.out, HRG.out, rfl, rfl⟩
theorem clone_xy (v : Value) (l : List (Int × Int)) (w : World) (hv : RdP w v l) (hs : l.length ≤ 100000) (h0 : 0 < l.length) :
    Calls Try.prog 66 #[v] w fun e w' => ∃ u, e = .returned u ∧ w'.ownsRow w.heap.size 26 2 u l.length (pairs l) ∧ Below w.heap.size w w' := by
  obtain ⟨a, cap, rfl, hc, hcm, ha, _⟩ := hv
  obtain ⟨b, off, rfl, hcell⟩ := ha.cell (j := 0) (by rw [pairs_length]; omega)
  have HCE := Lib.hid hcell
  obtain ⟨n, hn⟩ : ∃ n, l.length = n := ⟨_, rfl⟩
  have HL : Hid ((pairs l).length = n * 2) := Lib.hid (by rw [pairs_length, hn])
  rw [hn] at hs h0 hc ⊢
  have hq := fun n c => Lib.run_eql_slice_nil (P := Try.prog) w 22 26 (some ⟨b, off, none⟩) n c 0 0 Try.underlying22
  have HO := Lib.hid (World.ownsRow_made w (e := 26) (size := 2) #[] 0 (Nat.le_refl w.heap.size) (by decide) (by simp))
  have HB := Lib.hid ((Below.refl w.heap.size w).alloc (Nat.le_refl _) (.cells #[] 26))
  obtain ⟨i, hi, hz, hsz, hby⟩ := el_xyI.info
  clear ha hcell hn
  go_enter Try.func66, Try.ntmps66
  go_wp2_with (at_builtin; refine wpList_append_own _ rfl _ _ 22 rfl w.heap.size 26 i _ 2 16 el_xyI.und hi hz hsz hby el_xyI.zc (by decide) (.slice (some ⟨w.heap.size, 0, none⟩) 0 0) 0 [] rfl HO.out ⟨b, off, none⟩ n cap (pairs l) rfl HL.out (fun j u hj => by rw [add_none]; exact cell_alloc (HCE.out j u hj) _) (pairs_cell l) (by unfold maxLen; omega) (by omega) (by simp) ?_; intro v2 w2 ho2 hg2 _; have HO2 := Lib.hid ho2; have HB2 := Lib.hid (HB.out.grown hg2 (by simp) (fun k e => (HO.out.lt k e).1)); clear ho2 hg2)
  go_ret
  refine ⟨_, rfl, ?_, HB2.out⟩
  have := HO2.out
  rwa [Nat.zero_add, List.nil_append] at this

/-- the cells of two cells -/
def four (x y : Int × Int) : List Value := [.int .i64 x.1, .int .i64 x.2, .int .i64 y.1, .int .i64 y.2]
theorem four_cell (x y : Int × Int) (u : Value) (h : u ∈ four x y) : u.oneCell' = true := by
  unfold four at h; simp at h; rcases h with rfl | rfl | rfl | rfl <;> rfl
theorem insC_at {l : List (Int × Int)} {k : Nat} {x y : Int × Int} (hk : k ≤ l.length) {j : Nat} {u : Value} (h : (pairs (l.take k ++ x :: y :: l.drop k))[j]? = some u) :
    (j < k * 2 ∧ (pairs l)[j]? = some u) ∨ (k * 2 ≤ j ∧ (four x y)[j - k * 2]? = some u) ∨ (k * 2 + 4 ≤ j ∧ (pairs l)[j - 4]? = some u) := by
  have e : pairs (l.take k ++ x :: y :: l.drop k) = (pairs l).take (k * 2) ++ (four x y ++ (pairs l).drop (k * 2)) := by
    rw [pairs_append, pairs_take, pairs_drop]; rfl
  rw [e] at h
  have hl : ((pairs l).take (k * 2)).length = k * 2 := by rw [List.length_take, pairs_length]; omega
  by_cases h1 : j < k * 2
  · left
    rw [List.getElem?_append_left (by omega), List.getElem?_take, if_pos h1] at h
    exact ⟨h1, h⟩
  · rw [List.getElem?_append_right (by omega), hl] at h
    by_cases h2 : j - k * 2 < 4
    · right; left
      rw [List.getElem?_append_left (by exact h2)] at h
      exact ⟨by omega, h⟩
    · right; right
      rw [List.getElem?_append_right (by show 4 ≤ _; omega), show (four x y).length = 4 from rfl, List.getElem?_drop] at h
      exact ⟨by omega, by rw [show j - 4 = k * 2 + (j - k * 2 - 4) by omega]; exact h⟩
theorem grown_setA (W : World) (a : Addr) (v : Value) : W.grownBy (W.setCell a v) (some a.block) :=
  ⟨rfl, rfl, rfl, (KeepsWalks.setCell W a v).size, fun k _ hk => Below.heap_setCell _ _ _ k (fun e => hk (by rw [e]))⟩
theorem grown_set (b : Nat) : ∀ (vs : List Value) (o : Nat) (w : World), w.grownBy (w.setCells b o vs) (some b)
  | [], _, w => ⟨rfl, rfl, rfl, Nat.le_refl _, fun _ _ _ => rfl⟩
  | v :: r, o, w => by rw [World.setCells]; exact grown_tr (grown_setA w ⟨b, o, none⟩ v) (grown_set b r (o + 1) _)
theorem drew_cellI (W : World) (a : Addr) : W.drew.cell? a = W.cell? a := rfl
theorem grown_drewI (W : World) (X : Option Nat) : W.grownBy W.drew X := ⟨rfl, rfl, rfl, Nat.le_refl _, fun _ _ _ => rfl⟩
theorem grown_newI {A B C : World} {g : Option Nat} (h : A.grownBy B none) (k : B.grownBy C g) (hg : ∀ j, g = some j → A.heap.size ≤ j) (X : Option Nat) : A.grownBy C X :=
  ⟨k.os.trans h.os, k.tape.trans h.tape, k.output.trans h.output, Nat.le_trans h.size k.size, fun i hi _ => (k.block i (Nat.lt_of_lt_of_le hi h.size) (fun e => by have := hg i e.symm; omega)).trans (h.block i hi (by simp))⟩

set_option maxHeartbeats 1000000 in
theorem ins_any (l : List (Int × Int)) (B k : Nat) (x y : Int × Int) (v : Value) (vb vc : Nat) (t : TypeId) (w : World) (ho : w.ownsRow B 26 2 v l.length (pairs l)) (hk : k < l.length) (hs : l.length ≤ 100000)
    (hx : w.heap[vb]? = some (.cells #[.int .i64 x.1, .int .i64 x.2, .int .i64 y.1, .int .i64 y.2] t)) (hne : v.ownBlock ≠ some vb) :
    Calls Try.prog 90 #[v, .int .i64 k, .slice (some ⟨vb, 0, none⟩) 2 vc] w fun e w' => ∃ u, e = .returned u ∧ RdP w' u (l.take k ++ x :: y :: l.drop k) ∧ (∃ a n c, u = .slice (some a) n c) ∧ w.grownBy w' v.ownBlock := by
  have hml : maxLen ≤ 9223372036854775807 := by decide
  have hvs : ∀ (j : Nat) (u : Value), (four x y)[j]? = some u → w.cell? ⟨vb, j, none⟩ = some u := fun j u hj => by
    have : (#[Value.int .i64 x.1, .int .i64 x.2, .int .i64 y.1, .int .i64 y.2] : Array Value)[j]? = some u := by rw [← List.getElem?_toArray] at hj; exact hj
    simp [World.cell?, hx, this]
  have hlen : (l.take k ++ x :: y :: l.drop k).length = l.length + 2 := by simp; omega
  obtain ⟨hl, h⟩ := ho
  rcases h with ⟨rfl, hz⟩ | ⟨g, cap, cur, rfl, hg, hh, h1, h2, h3, h4⟩
  · omega
  · have hcs : ∀ (j : Nat) (u : Value), (pairs l)[j]? = some u → cur[j]? = some u := fun j u hj => by
      rw [← h4, List.getElem?_take] at hj
      split at hj
      · simpa using hj
      · cases hj
    have hcell : ∀ (j : Nat) (u : Value), (pairs l)[j]? = some u → w.cell? ⟨g, j, none⟩ = some u := fun j u hj => by simp [World.cell?, hh, hcs j u hj]
    have hgv : vb ≠ g := fun e => hne (by rw [e]; rfl)
    have hsome : ∀ j, j < cap * 2 → (w.cell? ⟨g, j, none⟩).isSome = true := fun j hj => by simp [World.cell?, hh, h3, hj]
    have hfz : ∀ j, w.frozen? ⟨g, j, none⟩ = false := fun j => by simp [World.frozen?, hh]
    have hpl : (pairs l).length = l.length * 2 := pairs_length l
    by_cases hroom : l.length + 2 ≤ cap
    · have := ins_shift g l.length cap k vb 2 vc (pairs l) (four x y) w hk (by decide) hroom (by omega) hgv hpl rfl hcell (fun j hj => hsome j (by omega)) hfz hvs (pairs_cell l) (four_cell x y)
        t 26 4 (cap * 2) (by simp [World.shape?, hx]) (by simp [World.shape?, hh, h3]) (by omega) (by simp [World.frozen?, hx]) (by simp [World.frozen?, hx])
      refine this.mono ?_
      rintro e w' ⟨rfl, rfl⟩
      have hS1 : ∀ i, i < (l.length + 2) * 2 → ((w.drew.setCells g ((k + 2) * 2) ((pairs l).drop (k * 2))).cell? ⟨g, i, none⟩).isSome = true := fun i hi =>
        isSome_setCells g _ _ _ (fun j hj => by
          rw [List.length_drop, hpl] at hj
          exact hsome _ (by omega)) _ (hsome i (by omega))
      refine ⟨_, rfl, ⟨some ⟨g, 0, none⟩, cap, by rw [hlen], by rw [hlen]; exact hroom, h2, .inr ⟨g, 0, rfl, fun j u hj => ?_⟩, by simp⟩, ⟨_, _, _, rfl⟩, grown_tr (grown_tr (grown_drewI w _) (grown_set g _ _ _)) (grown_set g _ _ _)⟩
      rw [Nat.zero_add]
      rcases insC_at (by omega) hj with ⟨q1, q2⟩ | ⟨q1, q2⟩ | ⟨q1, q2⟩
      · rw [World.cell?_setCells_out g _ _ _ _ (fun _ _ => .inl (by simp; omega)), World.cell?_setCells_out g _ _ _ _ (fun _ _ => .inl (by simp; omega))]
        exact hcell j u q2
      · have hb : j - k * 2 < (four x y).length := (List.getElem?_eq_some_iff.1 q2).1
        have := World.cell?_setCells_in g (four x y) (k * 2) _ (fun i hi => hS1 _ (by have : i < 4 := hi; omega)) (j - k * 2) hb
        rw [show k * 2 + (j - k * 2) = j by omega] at this
        rw [this, ← q2, List.getElem?_eq_getElem hb]
      · rw [World.cell?_setCells_out g _ _ _ _ (fun _ _ => .inr (by show k * 2 + 4 ≤ j; omega))]
        have hb : j - 4 - k * 2 < ((pairs l).drop (k * 2)).length := by
          have := (List.getElem?_eq_some_iff.1 q2).1
          rw [List.length_drop]; omega
        have := World.cell?_setCells_in g ((pairs l).drop (k * 2)) ((k + 2) * 2) w.drew (fun i hi => by
          rw [List.length_drop, hpl] at hi
          exact hsome _ (by omega)) (j - 4 - k * 2) hb
        rw [show (k + 2) * 2 + (j - 4 - k * 2) = j by omega] at this
        rw [this]
        have e2 : ((pairs l).drop (k * 2))[j - 4 - k * 2]? = some u := by rw [List.getElem?_drop, show k * 2 + (j - 4 - k * 2) = j - 4 by omega]; exact q2
        rw [List.getElem?_eq_getElem hb] at e2
        exact e2
    · have := ins_grow g l.length cap k vb 2 vc (pairs l) (four x y) w hk (by decide) h1 (by omega) (by omega) hpl rfl hcell hvs (pairs_cell l) (four_cell x y)
      refine this.mono ?_
      rintro e w' ⟨A, G, hG1, hG2, hA, hA1, rfl, rfl⟩
      have hV0 : ∀ j, ((w.alloc (.cells A 26)).drew).cell? ⟨w.heap.size, j, none⟩ = A[j]? := fun j => World.cell?_alloc_at _ _ _ _ rfl
      have hV1 : ∀ j, j < (l.length + 2) * 2 → ((w.alloc (.cells A 26)).drew.cell? ⟨w.heap.size, j, none⟩).isSome = true := fun j hj => by
        rw [hV0, Array.getElem?_eq_getElem (by omega)]; rfl
      have hV2 : ∀ j, j < (l.length + 2) * 2 → (((w.alloc (.cells A 26)).drew.setCells w.heap.size (k * 2) (four x y)).drew.cell? ⟨w.heap.size, j, none⟩).isSome = true := fun j hj =>
        isSome_setCells w.heap.size _ _ _ (fun i hi => hV1 _ (by have : i < 4 := hi; omega)) _ (hV1 j hj)
      refine ⟨_, rfl, ⟨some ⟨w.heap.size, 0, none⟩, G, by rw [hlen], by rw [hlen]; exact hG1, hG2, .inr ⟨w.heap.size, 0, rfl, fun j u hj => ?_⟩, by simp⟩, ⟨_, _, _, rfl⟩, ?_⟩
      · rw [Nat.zero_add]
        rcases insC_at (by omega) hj with ⟨q1, q2⟩ | ⟨q1, q2⟩ | ⟨q1, q2⟩
        · rw [World.cell?_setCells_out w.heap.size _ _ _ _ (fun _ _ => .inl (by simp; omega))]
          rw [drew_cellI, World.cell?_setCells_out w.heap.size _ _ _ _ (fun _ _ => .inl (by simp; omega)), hV0]
          exact hA1 j u q1 q2
        · have hb : j - k * 2 < (four x y).length := (List.getElem?_eq_some_iff.1 q2).1
          have hb4 : j - k * 2 < 4 := hb
          rw [World.cell?_setCells_out w.heap.size _ _ _ _ (fun _ _ => .inl (by simp; omega))]
          have := World.cell?_setCells_in w.heap.size (four x y) (k * 2) (w.alloc (.cells A 26)).drew (fun i hi => hV1 _ (by have : i < 4 := hi; omega)) (j - k * 2) hb
          rw [show k * 2 + (j - k * 2) = j by omega] at this
          rw [drew_cellI]
          rw [this, ← q2, List.getElem?_eq_getElem hb]
        · have hb : j - 4 - k * 2 < ((pairs l).drop (k * 2)).length := by
            have := (List.getElem?_eq_some_iff.1 q2).1
            rw [List.length_drop]; omega
          have := World.cell?_setCells_in w.heap.size ((pairs l).drop (k * 2)) ((k + 2) * 2) _ (fun i hi => by
            rw [List.length_drop, hpl] at hi
            exact hV2 _ (by omega)) (j - 4 - k * 2) hb
          rw [show (k + 2) * 2 + (j - 4 - k * 2) = j by omega] at this
          rw [this]
          have e2 : ((pairs l).drop (k * 2))[j - 4 - k * 2]? = some u := by rw [List.getElem?_drop, show k * 2 + (j - 4 - k * 2) = j - 4 by omega]; exact q2
          rw [List.getElem?_eq_getElem hb] at e2
          exact e2
      · have g0 : w.grownBy (w.alloc (.cells A 26)) none := World.grownBy_alloc _ _ _
        have g1 := grown_tr (grown_tr (grown_tr (grown_drewI (w.alloc (.cells A 26)) (some w.heap.size)) (grown_set w.heap.size (four x y) (k * 2) _)) (grown_drewI _ _)) (grown_set w.heap.size ((pairs l).drop (k * 2)) ((k + 2) * 2) _)
        exact grown_newI g0 g1 (fun j e => by cases e; exact Nat.le_refl _) _
end Go.Proofs.Ytpakkjkjppibnaa
