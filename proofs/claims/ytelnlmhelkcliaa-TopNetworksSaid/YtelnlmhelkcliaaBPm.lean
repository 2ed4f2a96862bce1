/- Benes: slices.Clone, slices.Insert at []int; all permutations. -/
import Derived.Test.YtelnlmhelkcliaaBRg
import Derived.Test.YtelnlmhelkcliaaPerm
import Derived.Shelf.Spec.SlicesInsertGrow
namespace Go.Proofs.Ytelnlmhelkcliaa
open Go.RowKit Go.Shelf

def Try.insI_ren : Go.Shelf.Ren := ⟨fun | 21 => 74 | 27 => 83 | 28 => 84 | 35 => 87 | 39 => 89 | n => n, fun | 22 => 24 | 3 => 3 | 4 => 4 | 0 => 0 | n => n, fun | n => n⟩
theorem Try.insI : Go.Proofs.Lays2.n21 Try.prog Try.insI_ren := {
  mixed := by kernel_rfl
  f21 := Try.func74.trans (congrArg some (by kernel_rfl))
  f27 := Try.func83.trans (congrArg some (by kernel_rfl))
  f28 := Try.func84.trans (congrArg some (by kernel_rfl))
  f35 := Try.func87.trans (congrArg some (by kernel_rfl))
  f39 := Try.func89.trans (congrArg some (by kernel_rfl))
  t0 := Try.underlying0
  a0 := Try.isAgg0
  z0 := Try.sizeOf0
  v0 := Try.zeroValue0
  t3 := Try.underlying3
  a3 := Try.isAgg3
  z3 := Try.sizeOf3
  v3 := Try.zeroValue3
  t4 := Try.underlying4
  a4 := Try.isAgg4
  z4 := Try.sizeOf4
  v4 := Try.zeroValue4
  t22 := Try.underlying24
  a22 := Try.isAgg24
  z22 := Try.sizeOf24
  v22 := Try.zeroValue24
  i3 := by kernel_rfl }

theorem clone_any (v : Value) (l : List Int) (w : World) (hv : Rd w v (ints l)) (hs : l.length ≤ 1000) (h0 : 0 < l.length) :
    Calls Try.prog 75 #[v] w fun e w' => ∃ u, e = .returned u ∧ w'.ownsRow w.heap.size 3 1 u l.length (ints l) ∧ Below w.heap.size w w' := by
  have HV := Lib.hid hv
  obtain ⟨a, cap, rfl, hc, hcm, ha, _⟩ := hv
  rw [ints_length] at *
  obtain ⟨b, off, rfl, _⟩ := ha.cell (j := 0) (by rw [ints_length]; exact h0)
  have hq := fun n c => Lib.run_eql_slice_nil (P := Try.prog) w 24 3 (some ⟨b, off, none⟩) n c 0 0 Try.underlying24
  go_enter Try.func75, Try.ntmps75
  go_wp2_with (at_builtin; refine appS el_int rfl rfl (w0 := w) rfl rfl (by exact (Below.refl _ _).alloc (Nat.le_refl _) _) (by exact own_lit w w.heap.size _ _ 0 (Nat.le_refl _) rfl (by decide)) (by exact HV.out.below ((Below.refl _ _).alloc (Nat.le_refl _) _) (Nat.le_refl _)) (by exact ints_cell l) (by rw [ints_length]; omega) ?_; intro v1 w1 ho1 hb1 _)
  go_ret
  rw [ints_length, Nat.zero_add] at ho1
  exact ⟨_, rfl, ho1, hb1⟩
theorem clone_nil (w : World) : Calls Try.prog 75 #[.slice none 0 0] w fun e w' => e = .returned (.slice none 0 0) ∧ w' = w := by
  have hq := Lib.run_eql_slice_nil (P := Try.prog) w 24 3 none 0 0 0 0 Try.underlying24
  go_enter Try.func75, Try.ntmps75
  go_wp2_with fail
  go_ret
  exact ⟨rfl, rfl⟩

theorem grown_setA (W : World) (a : Addr) (v : Value) : W.grownBy (W.setCell a v) (some a.block) :=
  ⟨rfl, rfl, rfl, (KeepsWalks.setCell W a v).size, fun k _ hk => Below.heap_setCell _ _ _ k (fun e => hk (by rw [e]))⟩
theorem grown_set (b : Nat) : ∀ (vs : List Value) (o : Nat) (w : World), w.grownBy (w.setCells b o vs) (some b)
  | [], _, w => ⟨rfl, rfl, rfl, Nat.le_refl _, fun _ _ _ => rfl⟩
  | v :: r, o, w => by rw [World.setCells]; exact grown_trans (grown_setA w ⟨b, o, none⟩ v) (grown_set b r (o + 1) _)
theorem cell_new (w : World) {A : Array Value} {e : TypeId} {j : Nat} {v : Value} (h : A[j]? = some v) : (w.alloc (.cells A e)).cell? ⟨w.heap.size, j, none⟩ = some v := by
  have e0 : (w.alloc (.cells A e)).heap[w.heap.size]? = some (.cells A e) := World.alloc_heap_new w _
  unfold World.cell?
  simp only [e0]
  exact h
/-- a row of numbers with one more at k -/
def insL (l : List Int) (k : Nat) (x : Int) : List Int := l.take k ++ x :: l.drop k
theorem insL_len (l : List Int) (k : Nat) (x : Int) (hk : k ≤ l.length) : (insL l k x).length = l.length + 1 := by
  simp [insL]; omega
theorem insL_at {l : List Int} {k : Nat} {x : Int} (hk : k ≤ l.length) {j : Nat} {u : Value} (h : (ints (insL l k x))[j]? = some u) :
    (j < k ∧ (ints l)[j]? = some u) ∨ (j = k ∧ u = .int .i64 x) ∨ (k < j ∧ (ints l)[j - 1]? = some u) := by
  unfold ints insL at *
  rw [List.map_append, List.map_cons] at h
  rcases Nat.lt_trichotomy j k with h1 | h1 | h1
  · left
    refine ⟨h1, ?_⟩
    rw [List.getElem?_append_left (by simp; omega), List.map_take, List.getElem?_take, if_pos h1] at h
    exact h
  · right; left
    subst h1
    rw [List.getElem?_append_right (by simp; omega)] at h
    have e : (List.map (Value.int .i64) (l.take j)).length = j := by simp; omega
    rw [e, Nat.sub_self] at h
    exact ⟨rfl, (Option.some.inj h).symm⟩
  · right; right
    refine ⟨h1, ?_⟩
    have e : (List.map (Value.int .i64) (l.take k)).length = k := by simp; omega
    rw [List.getElem?_append_right (by rw [e]; omega), e, show j - k = (j - k - 1) + 1 by omega, List.getElem?_cons_succ, List.map_drop, List.getElem?_drop] at h
    rw [show j - 1 = k + (j - k - 1) by omega]
    exact h
theorem ints_drop_get {l : List Int} {k j : Nat} {u : Value} (h : (ints l)[k + j]? = some u) : ((ints l).drop k)[j]? = some u := by
  rw [List.getElem?_drop]; exact h

theorem insert_any (l : List Int) (B k : Nat) (x : Int) (v : Value) (vb : Nat) (t : TypeId) (w : World) (ho : w.ownsRow B 3 1 v l.length (ints l)) (hk : k ≤ l.length) (hs : l.length ≤ 1000)
    (hx : w.heap[vb]? = some (.cells #[.int .i64 x] t)) (hne : v.ownBlock ≠ some vb) (hB : B ≤ w.heap.size) :
    Calls Try.prog 74 #[v, .int .i64 k, .slice (some ⟨vb, 0, none⟩) 1 1] w fun e w' => ∃ u, e = .returned u ∧ Rd w' u (ints (insL l k x)) ∧ (∃ a n c, u = .slice (some a) n c ∧ B ≤ a.block) ∧ w.grownBy w' v.ownBlock := by
  have hml : maxLen ≤ 9223372036854775807 := by decide
  have hvs : ∀ (j : Nat) (u : Value), [Value.int .i64 x][j]? = some u → w.cell? ⟨vb, 0 + j, none⟩ = some u := fun j u hj => by
    cases j with
    | zero => simp at hj; subst hj; simp [World.cell?, hx]
    | succ j => simp at hj
  have h1v : ∀ u ∈ [Value.int .i64 x], u.oneCell' = true := fun u hu => by simp at hu; subst hu; rfl
  have hlen := insL_len l k x hk
  obtain ⟨hl, h⟩ := ho
  rcases h with ⟨rfl, hz⟩ | ⟨g, cap, cur, rfl, hg, hh, h1, h2, h3, h4⟩
  · have hl0 : l = [] := List.eq_nil_of_length_eq_zero hz
    subst hl0
    have hk0 : k = 0 := by simpa using hk
    subst hk0
    have := Any2.slices_Insert_int_end_grow Try.insI none 0 0 vb 0 1 1 [] [.int .i64 x] w (by decide) (by decide) (by decide) (by decide) rfl rfl (fun _ => rfl) (fun a e => by cases e) hvs h1v
    refine this.mono ?_
    rintro e w' ⟨rfl, rfl⟩
    refine ⟨_, rfl, ⟨some ⟨w.heap.size, 0, none⟩, _, rfl, grownCap_ge _ _ _ _, grownCap_le_maxLen _ _ _ _ (by decide), .inr ⟨w.heap.size, 0, rfl, fun j u hj => ?_⟩, by simp⟩, ⟨_, _, _, rfl, hB⟩, ?_⟩
    · have hj0 : j = 0 ∧ u = .int .i64 x := by
        cases j with
        | zero => simp [ints, insL] at hj; exact ⟨rfl, hj.symm⟩
        | succ j => simp [ints, insL] at hj
      obtain ⟨rfl, rfl⟩ := hj0
      exact cell_new w.drew (by rw [Array.getElem?_append_left (by simp)]; rfl)
    · exact grown_trans (grown_drew w _) (World.grownBy_alloc _ _ _)
  · rw [Nat.mul_one] at h3 h4
    have hcs : ∀ (j : Nat) (u : Value), (ints l)[j]? = some u → cur[j]? = some u := fun j u hj => by
      rw [← h4, List.getElem?_take] at hj
      split at hj
      · simpa using hj
      · cases hj
    have hcell : ∀ (j : Nat) (u : Value), (ints l)[j]? = some u → w.cell? ⟨g, 0 + j, none⟩ = some u := fun j u hj => by
      rw [Nat.zero_add]; simp [World.cell?, hh, hcs j u hj]
    have hgv : vb ≠ g := fun e => hne (by rw [e]; rfl)
    have hsome : ∀ j, j < cap → (w.cell? ⟨g, 0 + j, none⟩).isSome = true := fun j hj => by
      rw [Nat.zero_add]; simp [World.cell?, hh, h3, hj]
    have hfz : ∀ j, w.frozen? ⟨g, j, none⟩ = false := fun j => by simp [World.frozen?, hh]
    have hlt : g < w.heap.size := (Array.getElem?_eq_some_iff.1 hh).1
    rcases Nat.lt_or_ge k l.length with hkl | hkl
    · by_cases hroom : l.length + 1 ≤ cap
      · have := Any2.slices_Insert_int_shift Try.insI g 0 l.length cap k vb 0 1 1 (ints l) [.int .i64 x] w hkl (by decide) hroom (by omega) hgv (ints_length l) rfl hcell (fun j hj => hsome j (by omega)) (fun j _ => hfz _) hvs (ints_cell l) h1v
          t 3 1 cap (by simp [World.shape?, hx]) (by simp [World.shape?, hh, h3]) (by omega) (by simp [World.frozen?, hx]) (by simp [World.frozen?, hx])
        refine this.mono ?_
        rintro e w' ⟨rfl, rfl⟩
        refine ⟨_, rfl, ⟨some ⟨g, 0, none⟩, cap, by rw [ints_length, hlen], by rw [ints_length, hlen]; exact hroom, h2, .inr ⟨g, 0, rfl, fun j u hj => ?_⟩, by simp⟩, ⟨_, _, _, rfl, hg⟩, ?_⟩
        · have hS1 : ∀ i, i < l.length + 1 → ((w.drew.setCells g (0 + (k + 1)) ((ints l).drop k)).cell? ⟨g, i, none⟩).isSome = true := fun i hi =>
            isSome_setCells g _ _ _ (fun j hj => by
              rw [List.length_drop, ints_length] at hj
              rw [show 0 + (k + 1) + j = 0 + (k + 1 + j) by omega]
              exact hsome _ (by omega)) _ (by have := hsome i (by omega); rwa [Nat.zero_add] at this)
          rcases insL_at hk hj with ⟨q1, q2⟩ | ⟨rfl, rfl⟩ | ⟨q1, q2⟩
          · rw [World.cell?_setCells_out g _ _ _ _ (fun _ _ => .inl (by simp; omega)), World.cell?_setCells_out g _ _ _ _ (fun _ _ => .inl (by simp; omega))]
            exact hcell j u q2
          · have := World.cell?_setCells_in g [Value.int .i64 x] (0 + j) _ (fun i hi => by
              have : i = 0 := by simp at hi; exact hi
              subst this
              exact hS1 (0 + j + 0) (by omega)) 0 Nat.zero_lt_one
            exact this
          · rw [World.cell?_setCells_out g _ _ _ _ (fun _ _ => .inr (by simp; omega))]
            have hb : j - k - 1 < ((ints l).drop k).length := by
              have : j - 1 < (ints l).length := (List.getElem?_eq_some_iff.1 q2).1
              rw [List.length_drop]; omega
            have := World.cell?_setCells_in g ((ints l).drop k) (0 + (k + 1)) w.drew (fun i hi => by
              rw [List.length_drop, ints_length] at hi
              rw [show 0 + (k + 1) + i = 0 + (k + 1 + i) by omega]
              exact hsome _ (by omega)) (j - k - 1) hb
            rw [show 0 + (k + 1) + (j - k - 1) = 0 + j by omega] at this
            rw [this]
            have e2 : ((ints l).drop k)[j - k - 1]? = some u := by rw [List.getElem?_drop, show k + (j - k - 1) = j - 1 by omega]; exact q2
            rw [List.getElem?_eq_getElem hb] at e2
            exact e2
        · exact grown_trans (grown_trans (grown_drew w _) (grown_set g _ _ _)) (grown_set g _ _ _)
      · have := Any2.slices_Insert_int_grow Try.insI g 0 l.length cap k vb 0 1 1 (ints l) [.int .i64 x] w hkl (by decide) h1 (by omega) (by omega) (ints_length l) rfl hcell hvs (ints_cell l) h1v
        refine this.mono ?_
        rintro e w' ⟨rfl, rfl⟩
        obtain ⟨A, hA⟩ : ∃ A, (((ints l).take k).toArray ++ Builtin.zeroCells (Value.int .i64 0).cells (l.length + 1 - k) ++ Builtin.zeroCells (Value.int .i64 0).cells (grownCap w (l.length + 1) cap 3 - (l.length + 1))) = A := ⟨_, rfl⟩
        change ∃ u, Ending.returned (Value.slice (some ⟨w.heap.size, 0, none⟩) (l.length + 1) (grownCap w (l.length + 1) cap 3)) = Ending.returned u ∧ Rd ((((w.alloc (.cells (((ints l).take k).toArray ++ Builtin.zeroCells (Value.int .i64 0).cells (l.length + 1 - k) ++ Builtin.zeroCells (Value.int .i64 0).cells (grownCap w (l.length + 1) cap 3 - (l.length + 1))) 3)).drew.setCells w.heap.size k [.int .i64 x]).drew).setCells w.heap.size (k + 1) ((ints l).drop k)) u (ints (insL l k x)) ∧ (∃ a n c, u = .slice (some a) n c ∧ B ≤ a.block) ∧ w.grownBy ((((w.alloc (.cells (((ints l).take k).toArray ++ Builtin.zeroCells (Value.int .i64 0).cells (l.length + 1 - k) ++ Builtin.zeroCells (Value.int .i64 0).cells (grownCap w (l.length + 1) cap 3 - (l.length + 1))) 3)).drew.setCells w.heap.size k [.int .i64 x]).drew).setCells w.heap.size (k + 1) ((ints l).drop k)) _
        rw [hA]
        have hAs : l.length + 1 ≤ A.size := by
          rw [← hA]
          simp [Builtin.zeroCells, Value.cells, ints]
          omega
        have hA1 : ∀ (j : Nat) (u : Value), j < k → (ints l)[j]? = some u → A[j]? = some u := fun j u hj h => by
          have e1 : j < (((ints l).take k).toArray).size := by simp [ints]; omega
          rw [← hA, Array.getElem?_append_left (by rw [Array.size_append]; omega), Array.getElem?_append_left e1, List.getElem?_toArray, List.getElem?_take, if_pos hj]
          exact h
        have hV0 : ∀ j, ((w.alloc (.cells A 3)).drew).cell? ⟨w.heap.size, j, none⟩ = A[j]? := fun j => World.cell?_alloc_at _ _ _ _ rfl
        have hV1 : ∀ j, j < l.length + 1 → ((w.alloc (.cells A 3)).drew.cell? ⟨w.heap.size, j, none⟩).isSome = true := fun j hj => by
          rw [hV0, Array.getElem?_eq_getElem (by omega)]; rfl
        have hV2 : ∀ j, j < l.length + 1 → (((w.alloc (.cells A 3)).drew.setCells w.heap.size k [.int .i64 x]).drew.cell? ⟨w.heap.size, j, none⟩).isSome = true := fun j hj =>
          isSome_setCells w.heap.size _ _ _ (fun i hi => by
            have : i = 0 := by simp at hi; exact hi
            subst this
            exact hV1 (k + 0) (by omega)) _ (hV1 j hj)
        refine ⟨_, rfl, ⟨some ⟨w.heap.size, 0, none⟩, _, by rw [ints_length, hlen], by rw [ints_length, hlen]; exact grownCap_ge _ _ _ _, grownCap_le_maxLen _ _ _ _ (by unfold maxLen; omega), .inr ⟨w.heap.size, 0, rfl, fun j u hj => ?_⟩, by simp⟩, ⟨_, _, _, rfl, hB⟩, ?_⟩
        · rw [Nat.zero_add]
          rcases insL_at hk hj with ⟨q1, q2⟩ | ⟨rfl, rfl⟩ | ⟨q1, q2⟩
          · rw [World.cell?_setCells_out w.heap.size _ _ _ _ (fun _ _ => .inl (by simp; omega))]
            change ((w.alloc (.cells A 3)).drew.setCells w.heap.size k [.int .i64 x]).cell? _ = _
            rw [World.cell?_setCells_out w.heap.size _ _ _ _ (fun _ _ => .inl (by simp; omega)), hV0]
            exact hA1 j u q1 q2
          · rw [World.cell?_setCells_out w.heap.size _ _ _ _ (fun _ _ => .inl (by simp))]
            exact World.cell?_setCells_in w.heap.size [Value.int .i64 x] j _ (fun i hi => by
              have : i = 0 := by simp at hi; exact hi
              subst this
              exact hV1 (j + 0) (by omega)) 0 Nat.zero_lt_one
          · have hb : j - k - 1 < ((ints l).drop k).length := by
              have : j - 1 < (ints l).length := (List.getElem?_eq_some_iff.1 q2).1
              rw [List.length_drop]; omega
            have := World.cell?_setCells_in w.heap.size ((ints l).drop k) (k + 1) _ (fun i hi => by
              rw [List.length_drop, ints_length] at hi
              exact hV2 _ (by omega)) (j - k - 1) hb
            rw [show k + 1 + (j - k - 1) = j by omega] at this
            rw [this]
            have e2 : ((ints l).drop k)[j - k - 1]? = some u := by rw [List.getElem?_drop, show k + (j - k - 1) = j - 1 by omega]; exact q2
            rw [List.getElem?_eq_getElem hb] at e2
            exact e2
        · have g0 : w.grownBy (w.alloc (.cells A 3)) none := World.grownBy_alloc _ _ _
          have g1 := grown_trans (grown_trans (grown_trans (grown_drew (w.alloc (.cells A 3)) (some w.heap.size)) (grown_set w.heap.size [.int .i64 x] k _)) (grown_drew _ _)) (grown_set w.heap.size ((ints l).drop k) (k + 1) _)
          exact grown_none (grown_new g0 g1 (fun j e => by cases e; exact Nat.le_refl _)) _
    · obtain rfl : k = l.length := by omega
      have hinsL : insL l l.length x = l ++ [x] := by simp [insL]
      by_cases hroom : l.length + 1 ≤ cap
      · have := Any2.slices_Insert_int_end_room Try.insI g 0 l.length cap vb 0 1 1 [.int .i64 x] w (by decide) hroom (by omega) rfl (fun j hj => by rw [Nat.add_assoc]; exact hsome _ (by omega)) (fun j _ => hfz _) hvs h1v
        refine this.mono ?_
        rintro e w' ⟨rfl, rfl⟩
        refine ⟨_, rfl, ⟨some ⟨g, 0, none⟩, cap, by rw [ints_length, hlen], by rw [ints_length, hlen]; exact hroom, h2, .inr ⟨g, 0, rfl, fun j u hj => ?_⟩, by simp⟩, ⟨_, _, _, rfl, hg⟩, grown_set g _ _ _⟩
        rcases insL_at hk hj with ⟨q1, q2⟩ | ⟨rfl, rfl⟩ | ⟨q1, q2⟩
        · rw [World.cell?_setCells_out g _ _ _ _ (fun _ _ => .inl (by simp; omega))]
          exact hcell j u q2
        · exact World.cell?_setCells_in g [Value.int .i64 x] (0 + l.length) _ (fun i hi => by
            have : i = 0 := by simp at hi; exact hi
            subst this
            exact hsome (l.length) (by omega)) 0 Nat.zero_lt_one
        · have : j - 1 < (ints l).length := (List.getElem?_eq_some_iff.1 q2).1
          rw [ints_length] at this
          omega
      · have := Any2.slices_Insert_int_end_grow Try.insI (some ⟨g, 0, none⟩) l.length cap vb 0 1 1 (ints l) [.int .i64 x] w (by decide) h1 (by omega) (by omega) (ints_length l) rfl (fun e => by cases e) (fun a e j u hj => by cases e; rw [add_none]; exact hcell j u hj) hvs h1v
        refine this.mono ?_
        rintro e w' ⟨rfl, rfl⟩
        refine ⟨_, rfl, ⟨some ⟨w.heap.size, 0, none⟩, _, by rw [ints_length, hlen], by rw [ints_length, hlen]; exact grownCap_ge _ _ _ _, grownCap_le_maxLen _ _ _ _ (by unfold maxLen; omega), .inr ⟨w.heap.size, 0, rfl, fun j u hj => ?_⟩, by simp⟩, ⟨_, _, _, rfl, hB⟩, grown_trans (grown_drew w _) (World.grownBy_alloc _ _ _)⟩
        rw [hinsL, ints_append] at hj
        rw [Nat.zero_add]
        refine cell_new w.drew ?_
        have hjl : j < ((ints l) ++ ints [x]).length := (List.getElem?_eq_some_iff.1 hj).1
        rw [Array.getElem?_append_left (by simpa [ints] using hjl)]
        rw [List.getElem?_toArray]
        exact hj
/-- all permutations of n, in the order of the program -/
def permsP : Nat → List (List Int)
  | 0 => [[]]
  | n + 1 => (permsP n).flatMap fun r => (List.range (n + 1)).map fun k => insL r k n
theorem permsP_len : ∀ (n : Nat) (l : List Int), l ∈ permsP n → l.length = n
  | 0, l, h => by simp [permsP] at h; simp [h]
  | n + 1, l, h => by
    simp only [permsP, List.mem_flatMap, List.mem_map, List.mem_range] at h
    obtain ⟨r, hr, k, hk, rfl⟩ := h
    have := permsP_len n r hr
    rw [insL_len _ _ _ (by omega), this]
theorem perms_cut {n : Nat} {pre : List (List Int)} {r : List Int} {post : List (List Int)} (h : permsP n = pre ++ r :: post) {k : Nat} (hk : k < n + 1) :
    ∃ post', permsP (n + 1) = ((pre.flatMap fun r => (List.range (n + 1)).map fun k => insL r k n) ++ (List.range k).map fun k => insL r k n) ++ insL r k n :: post' := by
  have hr : List.range (n + 1) = List.range k ++ k :: List.range' (k + 1) (n - k) := by
    rw [List.range_eq_range', List.range_eq_range', show n + 1 = k + ((n - k) + 1) by omega, ← List.range'_append_1, List.range'_succ]
    simp
  refine ⟨(List.range' (k + 1) (n - k)).map (fun k => insL r k n) ++ post.flatMap fun r => (List.range (n + 1)).map fun k => insL r k n, ?_⟩
  rw [show permsP (n + 1) = (permsP n).flatMap fun r => (List.range (n + 1)).map fun k => insL r k n from rfl, h, List.flatMap_append, List.flatMap_cons]
  conv => lhs; rw [show (List.range (n + 1)).map (fun k => insL r k n) = (List.range k).map (fun k => insL r k n) ++ insL r k n :: (List.range' (k + 1) (n - k)).map (fun k => insL r k n) by rw [hr]; simp]
  simp
theorem clone_both (v : Value) (l : List Int) (w : World) (hv : Rd w v (ints l)) (h0 : l = [] → v = .slice none 0 0) (hs : l.length ≤ 1000) :
    Calls Try.prog 75 #[v] w fun e w' => ∃ a c, e = .returned (.slice a l.length c) ∧ w'.ownsRow w.heap.size 3 1 (.slice a l.length c) l.length (ints l) ∧ Below w.heap.size w w' := by
  by_cases hl : l = []
  · rw [h0 hl]
    subst hl
    refine (clone_nil w).mono ?_
    rintro e w' ⟨rfl, rfl⟩
    exact ⟨none, 0, rfl, World.ownsRow_nil _ _ _ _, Below.refl _ _⟩
  · refine (clone_any v l w hv hs (List.length_pos_iff.2 hl)).mono ?_
    rintro e w' ⟨u, rfl, h1, h2⟩
    obtain ⟨a, c, rfl⟩ := own_form h1
    exact ⟨a, c, rfl, h1, h2⟩
end Go.Proofs.Ytelnlmhelkcliaa
