/- Benes: around, walked: the step. -/
import Derived.Test.YtelnlmhelkcliaaBArd
import Derived.Test.YtelnlmhelkcliaaConcat
namespace Go.Proofs.Ytelnlmhelkcliaa
open Go.RowKit Go.Shelf
attribute [local go_sem] Oper.semAt_some

theorem run_neq_nil (w : World) (t e : TypeId) (a : Option Addr) (n c : Nat) (h : Try.prog.underlying t = some (.slice e)) : (binOp .neq t (.slice a n c) (.slice none 0 0)).run Try.prog w = .ok (.bool (!a.isNone)) w := by
  simp only [binOp]
  simp [Op.equal, Op.maxDepth, Lib.run_equalIn_slice_nil w 9999 t e a n c 0 0 h]
/-- what a way gives -/
def wayA (h : Nat) (p : List Int) (st : Nat → Int) (way : Nat) : Option (List Bool) :=
  match aroundR h (upL p (oF p (pw h) way) (pw h)) (fun i => st (pw (h + 1) + i)) with
  | none => none
  | some a => match aroundR h (lowL p (oF p (pw h) way) (pw h)) (fun i => st (pw (h + 1) + cnt h + i)) with
    | none => none
    | some b => some (rowB (pw h) (outF (tiesL p (pw h)) way (tiesL p (pw h)).length).1 ++ (rowB (pw h) (outF (tiesL p (pw h)) way (tiesL p (pw h)).length).2 ++ (a ++ b)))
theorem around_ways (h : Nat) (p : List Int) (st : Nat → Int) : aroundR (h + 1) p st = (outL p (pw h) st).findSome? (wayA h p st) := by
  conv => lhs; unfold aroundR
  rfl
/-- first and last switches, and what both halves give -/
def joinA (F L : List Bool) : Option (List Bool) → Option (List Bool) → Option (List Bool)
  | none, _ => none
  | some _, none => none
  | some a, some b => some (F ++ (L ++ (a ++ b)))
theorem wayA_join (h : Nat) (p : List Int) (st : Nat → Int) (way : Nat) : wayA h p st way = joinA (rowB (pw h) (outF (tiesL p (pw h)) way (tiesL p (pw h)).length).1) (rowB (pw h) (outF (tiesL p (pw h)) way (tiesL p (pw h)).length).2)
    (aroundR h (upL p (oF p (pw h) way) (pw h)) (fun i => st (pw (h + 1) + i))) (aroundR h (lowL p (oF p (pw h) way) (pw h)) (fun i => st (pw (h + 1) + cnt h + i))) := by
  unfold wayA
  cases aroundR h (upL p (oF p (pw h) way) (pw h)) (fun i => st (pw (h + 1) + i)) with
  | none => rfl
  | some a =>
    cases aroundR h (lowL p (oF p (pw h) way) (pw h)) (fun i => st (pw (h + 1) + cnt h + i)) with
    | none => rfl
    | some b => rfl
theorem find_stop {α β : Type} {f : α → Option β} : ∀ {pre : List α} {b : α} {post : List α} {l : β}, (∀ y ∈ pre, (f y).isSome = false) → f b = some l → (pre ++ b :: post).findSome? f = some l
  | [], b, post, l, _, h => by simp [h]
  | x :: pre, b, post, l, h1, h2 => by
    have hx : f x = none := by simpa using h1 x (List.mem_cons_self ..)
    rw [List.cons_append, List.findSome?_cons, hx]
    exact find_stop (fun y hy => h1 y (List.mem_cons_of_mem _ hy)) h2
theorem find_none {α β : Type} {f : α → Option β} {T : List α} (h : ∀ b ∈ T, (f b).isSome = false) : T.findSome? f = none := by
  rw [List.findSome?_eq_none_iff]
  exact fun x hx => by simpa using h x hx
theorem own_turned {A C : World} {B n : Nat} {e : TypeId} {size : Nat} {u : Value} {xs : List Value} {row : Option Nat} (h : A.ownsRow B e size u n xs) (hg : A.grownBy C row) (hr : ∀ r, row = some r → ∃ o : Obj, A.heap[r]? = some o ∧ o.isCells = false) : C.ownsRow B e size u n xs := by
  refine h.kept hg ?_
  rcases h.2 with ⟨rfl, _⟩ | ⟨g, cap, cur, rfl, hb, hg', _⟩
  · exact .inl rfl
  · refine .inr fun e => ?_
    obtain ⟨o, ho, hc⟩ := hr g e.symm
    rw [hg'] at ho
    cases ho
    cases hc
/-- how the loop is left -/
def IxA (w w5 : World) (X n : Nat) (f : Nat → Option (List Bool)) (pre : List Nat) (W : World) : Prop :=
  (∃ way l u, pre.getLast? = some way ∧ f way = some l ∧ Boxed W X 22 u ∧ W.ownsRow w.heap.size 4 1 u n (bools l)) ∧ w5.grownBy W (some X)
theorem ixA_own (w w5 : World) (X n : Nat) (f : Nat → Option (List Bool)) : OwnFrom w5.heap.size (IxA w w5 X n f) := fun _ A C row ⟨⟨way, l, u, e1, e2, h1, h2⟩, h3⟩ hg hr =>
  ⟨⟨way, l, u, e1, e2, boxed_own (β := Unit) X _ (fun _ => u) () A C row h1 hg (fun r e => (hr r e).2), own_turned h2 hg fun r e => (hr r e).2⟩, grown_above h3 hg fun r e => (hr r e).1⟩
theorem find_len {way : Nat} {h : Nat} {p : List Int} {m : Nat} (hp : PermP p) (hl : p.length = 2 * m) {st : Nat → Int} {l : List Bool} (h1 : aroundR h (upL p (oF p m way) m) st = some l) (hm : pw h = m) : l.length = cnt h :=
  (around_ok h _ st l (out_perm hp hl way).1 (by rw [upL_len, hm]) h1).1
theorem find_lenL {way : Nat} {h : Nat} {p : List Int} {m : Nat} (hp : PermP p) (hl : p.length = 2 * m) {st : Nat → Int} {l : List Bool} (h1 : aroundR h (lowL p (oF p m way) m) st = some l) (hm : pw h = m) : l.length = cnt h :=
  (around_ok h _ st l (out_perm hp hl way).2 (by rw [lowL_len, hm]) h1).1
theorem aroundR_congr : ∀ (h : Nat) (p : List Int) (st st' : Nat → Int), (∀ i, i < cnt h → st i = st' i) → aroundR h p st = aroundR h p st'
  | 0, p, st, st', he => by unfold aroundR; rw [he 0 (by decide)]
  | h + 1, p, st, st', he => by
    have hc : cnt (h + 1) = pw (h + 1) + 2 * cnt h := rfl
    have hw : pw (h + 1) = 2 * pw h := rfl
    have ho : outL p (pw h) st = outL p (pw h) st' := by
      unfold outL
      congr 1
      funext way
      unfold okT
      rw [Bool.eq_iff_iff]
      simp only [List.all_eq_true, List.mem_range]
      exact ⟨fun H j hj => by rw [← he j (by omega), ← he (pw h + j) (by omega)]; exact H j hj, fun H j hj => by rw [he j (by omega), he (pw h + j) (by omega)]; exact H j hj⟩
    rw [around_ways, around_ways, ho]
    congr 1
    funext way
    unfold wayA
    rw [aroundR_congr h _ (fun i => st (pw (h + 1) + i)) (fun i => st' (pw (h + 1) + i)) fun i hi => he _ (by omega),
      aroundR_congr h _ (fun i => st (pw (h + 1) + cnt h + i)) (fun i => st' (pw (h + 1) + cnt h + i)) fun i hi => he _ (by omega)]

set_option maxRecDepth 100000 in
set_option maxHeartbeats 4000000 in
theorem around_succ (h : Nat) (hh : h ≤ 2) (IH : ∀ (p S : List Int) (v sv : Value) (w : World), PermP p → p.length = pw h → S.length = cnt h → Rd w v (ints p) → Rd w sv (ints S) →
      Calls Try.prog 58 #[v, sv] w fun e w' => (∃ u, e = .returned u ∧ ArdR w w' u (cnt h) (aroundR h p fun i => S.getD i 0)) ∧ Below w.heap.size w w')
    (p S : List Int) (v sv : Value) (w : World) (hp : PermP p) (hl : p.length = pw (h + 1)) (hS : S.length = cnt (h + 1)) (hv : Rd w v (ints p)) (hs : Rd w sv (ints S)) :
    Calls Try.prog 58 #[v, sv] w fun e w' => (∃ u, e = .returned u ∧ ArdR w w' u (cnt (h + 1)) (aroundR (h + 1) p fun i => S.getD i 0)) ∧ Below w.heap.size w w' := by
  have hl2 : p.length = 2 * pw h := hl
  have hpw := pw_pos h
  have hpw2 := pw_le (h + 1) (by omega)
  have hcn := cnt_bd h (by omega)
  have hcc : cnt (h + 1) = pw (h + 1) + 2 * cnt h := rfl
  have hpp : pw (h + 1) = 2 * pw h := rfl
  have hm8 : pw h ≤ 8 := by omega
  have HIH := Lib.hid IH
  obtain ⟨st, hst⟩ : ∃ st : Nat → Int, (fun i => S.getD i 0) = st := ⟨_, rfl⟩
  have HST : Hid (∀ i, S.getD i 0 = st i) := Lib.hid fun i => congrFun hst i
  rw [hst]
  have HPP := Lib.hid hp
  have HLL := Lib.hid hl2
  have HV := Lib.hid hv
  have HSV := Lib.hid hs
  have HSL := Lib.hid hS
  obtain ⟨pa, pc, rfl, hc, hcm, ha, _⟩ := hv
  have HSP := Lib.hid (fun W (hr : Rd W sv (ints S)) => splitI_any h (2 * (pw h : Nat) : Int) sv (ints S) W hh (by rw [hpp]; omega) (by rw [ints_length]; exact hS) hr)
  obtain ⟨m, hm⟩ : ∃ m, pw h = m := ⟨_, rfl⟩
  rw [ints_length, hl2, hm] at hc HV ⊢
  have HM := Lib.hid hm
  rw [hm] at HSP HLL hpw hm8
  have hne : (2 * (m : Int) == 2) = false := by rw [beq_eq_false_iff_ne]; omega
  have hb1 : Below w.heap.size w ((w.alloc (.cells #[.slice pa (2 * m) pc] 24)).alloc (.cells #[.slice none 0 0] 22)) := ((Below.refl _ _).alloc (Nat.le_refl _) _).alloc (by simp) _
  have HB1 := Lib.hid hb1
  have HC1 := Lib.hid (show ((w.alloc (.cells #[.slice pa (2 * m) pc] 24)).alloc (.cells #[.slice none 0 0] 22)).cell? ⟨w.heap.size, 0, none⟩ = some (.slice pa (2 * m) pc) from cell_alloc (World.cell?_alloc_at _ _ _ _ rfl) _)
  have HBX0 : Hid (Boxed ((w.alloc (.cells #[.slice pa (2 * m) pc] 24)).alloc (.cells #[.slice none 0 0] 22)) (w.heap.size + 1) 22 (.slice none 0 0)) := Lib.hid (by have := Boxed.new (w.alloc (.cells #[.slice pa (2 * m) pc] 24)) 22 (.slice none 0 0); rwa [World.size_alloc] at this)
  clear hb1 IH hst hp hl hl2 hs hS ha hcc hcn hpp hm hpw2
  refine (callsIn_wide (n := 0)).1 ?_
  refine callsIn_of_wp_marks Try.func58 rfl trivial ?_ rfl
  simp only [Try.ntmps58, List.size_toArray, List.length_cons, List.length_nil, Nat.reduceAdd, Nat.reduceSub, Array.replicate_succ, Array.replicate_zero, List.push_toArray, List.append_toArray, List.nil_append, List.cons_append]
  have HOU := Lib.hid (fun (u1 u2 u3 u4 : Value) (l1 l2 : List Int) W hv r1 r2 => outers_any HPP.out (m := m) HLL.out hm8 (by omega) (.slice pa (2 * m) pc) u1 u2 u3 u4 l1 l2 W hv r1 r2)
  gi_wp2_with (first
    | (refine ⟨trivial, rfl, ?_⟩; gi_at_call 67; refine (callsIn_wide.2 (HSP.out _ (HSV.out.below HB1.out (Nat.le_refl _)))).mono ?_; rintro e w2 ⟨u1, u2, u3, u4, rfl, hP, hb2⟩
       obtain ⟨a1, q1, k1, rfl⟩ : ∃ a n c, u1 = .slice a n c := by obtain ⟨a, c, rfl, _⟩ := hP.first; exact ⟨_, _, _, rfl⟩
       obtain ⟨a2, q2, k2, rfl⟩ : ∃ a n c, u2 = .slice a n c := by obtain ⟨a, c, rfl, _⟩ := hP.last; exact ⟨_, _, _, rfl⟩
       obtain ⟨a3, q3, k3, rfl⟩ : ∃ a n c, u3 = .slice a n c := by obtain ⟨a, c, rfl, _⟩ := hP.upper; exact ⟨_, _, _, rfl⟩
       obtain ⟨a4, q4, k4, rfl⟩ : ∃ a n c, u4 = .slice a n c := by obtain ⟨a, c, rfl, _⟩ := hP.lower; exact ⟨_, _, _, rfl⟩
       have HPT := Lib.hid hP; have HB2 := Lib.hid hb2; have c2 := cell_below HC1.out hb2; have z2 := World.block_lt_of_cell? _ _ c2
       have g4 : Below w2.heap.size w2 (w2.alloc (.cells #[.slice a1 q1 k1, .slice a2 q2 k2, .slice a3 q3 k3, .slice a4 q4 k4] 81)) := (Below.refl _ _).alloc (Nat.le_refl _) _
       have HG4 := Lib.hid g4
       have HQ4 := Lib.hid (show (w2.alloc (.cells #[.slice a1 q1 k1, .slice a2 q2 k2, .slice a3 q3 k3, .slice a4 q4 k4] 81)).cell? ⟨w2.heap.size, 0, none⟩ = some (.slice a1 q1 k1) ∧ (w2.alloc (.cells #[.slice a1 q1 k1, .slice a2 q2 k2, .slice a3 q3 k3, .slice a4 q4 k4] 81)).cell? ⟨w2.heap.size, 1, none⟩ = some (.slice a2 q2 k2)
         ∧ (w2.alloc (.cells #[.slice a1 q1 k1, .slice a2 q2 k2, .slice a3 q3 k3, .slice a4 q4 k4] 81)).cell? ⟨w2.heap.size, 2, none⟩ = some (.slice a3 q3 k3) ∧ (w2.alloc (.cells #[.slice a1 q1 k1, .slice a2 q2 k2, .slice a3 q3 k3, .slice a4 q4 k4] 81)).cell? ⟨w2.heap.size, 3, none⟩ = some (.slice a4 q4 k4) from
         ⟨World.cell?_alloc_at _ _ _ _ rfl, World.cell?_alloc_at _ _ _ _ rfl, World.cell?_alloc_at _ _ _ _ rfl, World.cell?_alloc_at _ _ _ _ rfl⟩)
       have HBX := Lib.hid (HBX0.out.kept (below_grown hb2 none) (by simp))
       clear hP hb2 g4)
    | (refine ⟨trivial, rfl, ?_⟩; gi_at_call 68; refine (callsIn_wide.2 (HOU.out _ _ _ _ (S.take (pw h)) ((S.drop (pw h)).take (pw h)) _ (HV.out.below (HB1.out.trans ((HB2.out.trans (HG4.out.mono HB2.out.size)).mono HB1.out.size)) (Nat.le_refl _)) (by have := HPT.out.first; rw [ints_part0] at this; exact this.below HG4.out (Nat.le_refl _)) (by have := HPT.out.last; rw [ints_part] at this; exact this.below HG4.out (Nat.le_refl _)))).mono ?_; rintro e w5 ⟨⟨Bl, Bm, Bp, ub, uc, pa', pc', bs, rfl, hE⟩, hb5⟩; have HE := Lib.hid hE; have HB5 := Lib.hid hb5; clear hE hb5))
  have HP2 := HPT.out
  have zz : w.heap.size + 2 ≤ w2.heap.size := by have := HB2.out.size; simp at this; omega
  have hcn := cnt_bd h (by omega)
  have hsl := HSL.out
  have hcc : cnt (h + 1) = pw (h + 1) + 2 * cnt h := rfl
  have hpp : pw (h + 1) = 2 * pw h := rfl
  have hmm := HM.out
  have r1 : Rd w2 (.slice a1 q1 k1) (ints (S.take (pw h))) := by have := HP2.first; rwa [ints_part0] at this
  have r2 : Rd w2 (.slice a2 q2 k2) (ints ((S.drop (pw h)).take (pw h))) := by have := HP2.last; rwa [ints_part] at this
  have r3 : Rd w2 (.slice a3 q3 k3) (ints ((S.drop (pw (h + 1))).take (cnt h))) := by have := HP2.upper; rwa [ints_part] at this
  have r4 : Rd w2 (.slice a4 q4 k4) (ints ((S.drop (pw (h + 1) + cnt h)).take (cnt h))) := by have := HP2.lower; rwa [ints_part] at this
  have rv : Rd w2 (.slice pa (2 * m) pc) (ints p) := HV.out.below (HB1.out.trans (HB2.out.mono HB1.out.size)) (Nat.le_refl _)
  have d5 : Below w2.heap.size w2 w5 := HG4.out.trans (HB5.out.mono HG4.out.size)
  have HEW : Hid (WEnv w5 w.heap.size w2.heap.size 0 (w.heap.size + 1) (.slice pa (2 * m) pc) (.slice a1 q1 k1) (.slice a2 q2 k2) (.slice a3 q3 k3) (.slice a4 q4 k4) p ((S.drop (pw (h + 1))).take (cnt h)) ((S.drop (pw (h + 1) + cnt h)).take (cnt h))) := Lib.hid
    ⟨by omega, cell_below c2 d5, cell_below HQ4.out.1 HB5.out, cell_below HQ4.out.2.1 HB5.out, cell_below HQ4.out.2.2.1 HB5.out, cell_below HQ4.out.2.2.2 HB5.out, rv.below d5 (Nat.le_refl _), r3.below d5 (Nat.le_refl _), r4.below d5 (Nat.le_refl _),
      off_boxed HBX.out (by intro y e; cases e) rv (by rw [HLL.out]; omega), off_boxed HBX.out (by intro y e; cases e) r3 (by simp; omega), off_boxed HBX.out (by intro y e; cases e) r4 (by simp; omega)⟩
  have z4 : (w2.alloc (.cells #[.slice a1 q1 k1, .slice a2 q2 k2, .slice a3 q3 k3, .slice a4 q4 k4] 81)).heap.size = w2.heap.size + 1 := by simp
  have z5 := HB5.out.size
  have HSEQ := Lib.hid (outers1_seq HPP.out HLL.out hm8 (by omega) st (some (w.heap.size + 1)) (fun way => (wayA h p st way).isSome) w5 HE.out (by rintro x e; cases e; omega) (off_boxed HBX.out (by intro y e; cases e) r1 (by simp; omega)) (off_boxed HBX.out (by intro y e; cases e) r2 (by simp; omega)) (by simp; omega) (by simp; omega)
    (fun j hj => by rw [seg_getD0 _ _ (by omega)]; exact HST.out j) (fun j hj => by rw [seg_getD _ _ _ (by omega), hmm]; exact HST.out _))
  have HBX5 := Lib.hid (HBX.out.kept (below_grown d5 none) (by simp))
  have hz5 : w.heap.size + 1 < w5.heap.size := by omega
  have HD5 := Lib.hid d5
  have HST3 : Hid (∀ i, i < cnt h → ((S.drop (pw (h + 1))).take (cnt h)).getD i 0 = st (pw (h + 1) + i)) := Lib.hid fun i hi => by rw [seg_getD _ _ _ hi]; exact HST.out _
  have HST4 : Hid (∀ i, i < cnt h → ((S.drop (pw (h + 1) + cnt h)).take (cnt h)).getD i 0 = st (pw (h + 1) + cnt h + i)) := Lib.hid fun i hi => by rw [seg_getD _ _ _ hi]; exact HST.out _
  have HL3 : Hid (((S.drop (pw (h + 1))).take (cnt h)).length = cnt h) := Lib.hid (by simp; omega)
  have HL4 : Hid (((S.drop (pw (h + 1) + cnt h)).take (cnt h)).length = cnt h) := Lib.hid (by simp; omega)
  clear HP2 r1 r2 r3 r4 rv d5 hcn hsl hcc hpp hmm z4 z5 HPT HQ4 HBX HE HSV c2
  refine rangeX (X := some (w.heap.size + 1)) (stop := fun way => (wayA h p st way).isSome) (T := outL p m st) (Rx := RxO p m st) (gf := 79) (lb := #[.pointer (some ⟨Bl, 0, none⟩), .pointer (some ⟨Bm, 0, none⟩), .pointer (some ⟨Bp, 0, none⟩)]) rfl (enters_of Try.func79 (by kernel_rfl) rfl)
    HSEQ.out (by rintro k e; cases e; exact hz5) rfl (fun v b => rxO_own p m st _ v b)
    (fun _ W => Boxed W (w.heap.size + 1) 22 (.slice none 0 0) ∧ w5.grownBy W (some (w.heap.size + 1))) (IxA w w5 (w.heap.size + 1) (cnt (h + 1)) (wayA h p st))
    (OwnFrom.and (Own.from (boxed_own _ _ _) _) (fun _ _ _ _ k hg hr => grown_above k hg (fun r e => (hr r e).1))) (ixA_own _ _ _ _ _) ⟨HBX5.out, World.grownBy.refl _ _⟩
    (fun v a' W => ∃ B9 f g, w5.heap.size ≤ B9 ∧ v = .agg #[f, g] ∧ W.cell? ⟨B9, 0, none⟩ = some f ∧ W.cell? ⟨B9, 1, none⟩ = some g ∧ a' = { tmps := #[.slice pa (2 * m) pc, sv, .pointer (some ⟨w.heap.size, 0, none⟩), undef, .pointer (some ⟨w.heap.size + 1, 0, none⟩), undef, undef, .pointer (some ⟨w2.heap.size, 0, none⟩), .pointer (some ⟨B9, 0, none⟩), undef, undef, undef, undef, .slice pa (2 * m) pc, .int .i64 (2 * (m : Int)), .bool false, undef, undef, undef, undef, undef, undef, undef, undef, undef, undef, undef, .slice pa (2 * m) pc, .int .i64 (2 * (m : Int)), sv, .agg #[.slice a1 q1 k1, .slice a2 q2 k2, .slice a3 q3 k3, .slice a4 q4 k4], .slice pa (2 * m) pc, .agg #[.slice a1 q1 k1, .slice a2 q2 k2, .slice a3 q3 k3, .slice a4 q4 k4], .func (.func 79) #[] #[.pointer (some ⟨Bl, 0, none⟩), .pointer (some ⟨Bm, 0, none⟩), .pointer (some ⟨Bp, 0, none⟩)], v, undef, undef, undef, undef, undef, undef, undef, undef, undef, undef, undef, undef, undef, undef, undef, undef, undef, undef, undef, undef, undef, undef, undef, undef, undef, undef], defers := [] })
    (fun v a' _ A C row ⟨B9, f, g, e1, e2, e3, e4, e5⟩ hg hr => ⟨B9, f, g, e1, e2, cell_kept e3 hg (fun r e => (hr r e).2), cell_kept e4 hg (fun r e => (hr r e).2), e5⟩)
    ?assign ?body ?done ?stop
  case assign =>
    rintro l v b W K hge ⟨f, g, rfl, hf, hg, _⟩ hK
    obtain ⟨fa, fc, rfl, _⟩ := hf
    obtain ⟨ga, gc, rfl, _⟩ := hg
    gi_wp2
    exact hK _ _ ((Below.refl _ _).alloc (Nat.le_refl _) _) ⟨W.heap.size, _, _, hge, rfl, World.cell?_alloc_at _ _ _ _ rfl, World.cell?_alloc_at _ _ _ _ rfl, rfl⟩
  case body =>
    rintro l pre v way a' W hl ⟨r, hr⟩ ⟨hbx, hgr⟩ ⟨f, g, rfl, hf, hg, hway, hok⟩ ⟨B9, f', g', h9, e9, g0, g1, rfl⟩ ⟨post, hpo⟩
    obtain ⟨rfl, rfl⟩ : f = f' ∧ g = g' := by simpa using e9
    have HE := Lib.hid (HEW.out.kept hgr)
    have hup := (oF_row (p := p) (m := m) way)
    have HIN := Lib.hid (inner_any HPP.out HLL.out hm8 f g (.slice pa (2 * m) pc) (rowB m (outF (tiesL p m) way (tiesL p m).length).1) W hf (rowB_len _ _) HE.out.rv)
    rw [hup.1, hup.2] at HIN
    have hop := out_perm HPP.out HLL.out way
    obtain ⟨oa, hoa⟩ : ∃ oa, aroundR h (upL p (oF p m way) m) (fun i => st (pw (h + 1) + i)) = oa := ⟨_, rfl⟩
    obtain ⟨ob, hob⟩ : ∃ ob, aroundR h (lowL p (oF p m way) m) (fun i => st (pw (h + 1) + cnt h + i)) = ob := ⟨_, rfl⟩
    have HWA : Hid (wayA h p st way = joinA (rowB m (outF (tiesL p m) way (tiesL p m).length).1) (rowB m (outF (tiesL p m) way (tiesL p m).length).2) oa ob) := Lib.hid (by rw [wayA_join, HM.out, hoa, hob])
    have HI1 : Hid (∀ (W : World) (x : Value), Rd W x (ints (upL p (oF p m way) m)) → Rd W (.slice a3 q3 k3) (ints ((S.drop (pw (h + 1))).take (cnt h))) → Calls Try.prog 58 #[x, .slice a3 q3 k3] W fun e w' => (∃ u, e = .returned u ∧ ArdR W w' u (cnt h) oa) ∧ Below W.heap.size W w') := Lib.hid fun W x h1 h2 => by
      have hq := aroundR_congr h (upL p (oF p m way) m) _ _ HST3.out
      have := HIH.out _ _ _ _ W hop.1 (by rw [upL_len, HM.out]) HL3.out h1 h2
      rw [hq, hoa] at this
      exact this
    have HI2 : Hid (∀ (W : World) (x : Value), Rd W x (ints (lowL p (oF p m way) m)) → Rd W (.slice a4 q4 k4) (ints ((S.drop (pw (h + 1) + cnt h)).take (cnt h))) → Calls Try.prog 58 #[x, .slice a4 q4 k4] W fun e w' => (∃ u, e = .returned u ∧ ArdR W w' u (cnt h) ob) ∧ Below W.heap.size W w') := Lib.hid fun W x h1 h2 => by
      have hq := aroundR_congr h (lowL p (oF p m way) m) _ _ HST4.out
      have := HIH.out _ _ _ _ W hop.2 (by rw [lowL_len, HM.out]) HL4.out h1 h2
      rw [hq, hob] at this
      exact this
    have HLA : Hid (∀ x, oa = some x → x.length = cnt h) := Lib.hid fun x e => find_len HPP.out HLL.out (hoa.trans e) HM.out
    have HLB : Hid (∀ x, ob = some x → x.length = cnt h) := Lib.hid fun x e => find_lenL HPP.out HLL.out (hob.trans e) HM.out
    have HF := Lib.hid hf
    have HG := Lib.hid hg
    have HBX := Lib.hid hbx
    have HGR := Lib.hid hgr
    have HLT := Lib.hid hgr.size
    have c2 := HE.out.pv
    have z2 := World.block_lt_of_cell? _ _ c2
    have z9 := World.block_lt_of_cell? _ _ g0
    have HWW := Lib.hid (fun W' (hb : Below W.heap.size W W') => HE.out.below hb)
    have HG0 := Lib.hid g0
    have HG1 := Lib.hid g1
    clear hop hup hf hg hok hway hpo hbx hgr hr e9 hoa hob
    obtain ⟨fa, fn, fc, rfl⟩ : ∃ a n c, f = .slice a n c := by obtain ⟨a, c, rfl, _⟩ := HF.out; exact ⟨_, _, _, rfl⟩
    obtain ⟨ga, gn, gc, rfl⟩ : ∃ a n c, g = .slice a n c := by obtain ⟨a, c, rfl, _⟩ := HG.out; exact ⟨_, _, _, rfl⟩
    cases oa with
    | none =>
      have heq : ∀ w0, (binOp .eql 22 (.slice none 0 0) (.slice none 0 0)).run Try.prog w0 = .ok (.bool true) w0 := fun w0 => Lib.run_eql_slice_nil (P := Try.prog) w0 22 4 none 0 0 0 0 Try.underlying22
      gi_wp2_with (first
        | (refine ⟨trivial, rfl, ?_⟩; gi_at_call 69; refine (CallsIn.inRound l (callsIn_wide.2 HIN.out)).mono ?_; rintro e w6 ⟨⟨x, y, rfl, hx, hy⟩, hb6⟩
           have HE6 := Lib.hid (HWW.out _ hb6); have q3' := HE6.out.q3; have l3 := World.block_lt_of_cell? _ _ q3'; have HX6 := Lib.hid (Rd.own hx); have HB6 := Lib.hid hb6
           obtain ⟨ax, cx, rfl⟩ := own_form hx; obtain ⟨ay, cy, rfl⟩ := own_form hy
           clear hx hy hb6)
        | (refine ⟨trivial, rfl, ?_⟩; gi_at_call 58; refine (CallsIn.inRound l (callsIn_wide.2 (HI1.out _ _ HX6.out HE6.out.r3))).mono ?_; rintro e w7 ⟨⟨u, rfl, hu⟩, hb7⟩; obtain rfl : u = .slice none 0 0 := hu
           have HB7 := Lib.hid (HB6.out.trans (hb7.mono HB6.out.size)); clear hb7))
      refine ⟨by change (wayA h p st way).isSome = false; rw [HWA.out]; rfl, below_grown HB7.out _, HBX.out.kept (below_grown HB7.out none) (by simp), grown_trans HGR.out (below_grown HB7.out _)⟩
    | some la =>
      have hla := HLA.out la rfl
      have hcp : 0 < cnt h := by have := cnt_bd h (by omega); omega
      cases ob with
      | none =>
        have heq : ∀ g c w0, (binOp .eql 22 (.slice (some g) (cnt h) c) (.slice none 0 0)).run Try.prog w0 = .ok (.bool false) w0 := fun g c w0 => Lib.run_eql_slice_nil (P := Try.prog) w0 22 4 (some g) (cnt h) c 0 0 Try.underlying22
        have hne2 : ∀ w0, (binOp .neq 22 (.slice none 0 0) (.slice none 0 0)).run Try.prog w0 = .ok (.bool false) w0 := fun w0 => run_neq_nil w0 22 4 none 0 0 Try.underlying22
        gi_wp2_with (first
          | (refine ⟨trivial, rfl, ?_⟩; gi_at_call 69; refine (CallsIn.inRound l (callsIn_wide.2 HIN.out)).mono ?_; rintro e w6 ⟨⟨x, y, rfl, hx, hy⟩, hb6⟩
             have HE6 := Lib.hid (HWW.out _ hb6); have q3' := HE6.out.q3; have l3 := World.block_lt_of_cell? _ _ q3'; have HX6 := Lib.hid (Rd.own hx); have HY6 := Lib.hid (Rd.own hy); have HB6 := Lib.hid hb6
             obtain ⟨ax, cx, rfl⟩ := own_form hx; obtain ⟨ay, cy, rfl⟩ := own_form hy
             clear hx hy hb6)
          | (refine ⟨trivial, rfl, ?_⟩; gi_at_call 58; (with_reducible refine (CallsIn.inRound l (callsIn_wide.2 (HI1.out _ _ HX6.out HE6.out.r3))).mono ?_); rintro e w7 ⟨⟨u, rfl, hu⟩, hb7⟩
             obtain ⟨gu, cu, rfl, _, _⟩ := own_some1 hu hcp
             have HB7 := Lib.hid (HB6.out.trans (hb7.mono HB6.out.size)); have HE7 := Lib.hid (HE6.out.below hb7); have q4' := HE7.out.q4; have l4 := World.block_lt_of_cell? _ _ q4'; have HY7 := Lib.hid (HY6.out.below hb7 (Nat.le_refl _)); clear hb7 hu)
          | (refine ⟨trivial, rfl, ?_⟩; gi_at_call 58; (with_reducible refine (CallsIn.inRound l (callsIn_wide.2 (HI2.out _ _ HY7.out HE7.out.r4))).mono ?_); rintro e w8 ⟨⟨u, rfl, hu⟩, hb8⟩; obtain rfl : u = .slice none 0 0 := hu
             have HB8 := Lib.hid (HB7.out.trans (hb8.mono HB7.out.size)); clear hb8))
        refine ⟨by change (wayA h p st way).isSome = false; rw [HWA.out]; rfl, below_grown HB8.out _, HBX.out.kept (below_grown HB8.out none) (by simp), grown_trans HGR.out (below_grown HB8.out _)⟩
      | some lb =>
        have hlb := HLB.out lb rfl
        have heq : ∀ g c w0, (binOp .eql 22 (.slice (some g) (cnt h) c) (.slice none 0 0)).run Try.prog w0 = .ok (.bool false) w0 := fun g c w0 => Lib.run_eql_slice_nil (P := Try.prog) w0 22 4 (some g) (cnt h) c 0 0 Try.underlying22
        have hne2 : ∀ g c w0, (binOp .neq 22 (.slice (some g) (cnt h) c) (.slice none 0 0)).run Try.prog w0 = .ok (.bool true) w0 := fun g c w0 => run_neq_nil w0 22 4 (some g) (cnt h) c Try.underlying22
        have HLEN : Hid ((rowB m (outF (tiesL p m) way (tiesL p m).length).1 ++ (rowB m (outF (tiesL p m) way (tiesL p m).length).2 ++ (la ++ lb))).length = cnt (h + 1)) := Lib.hid (by
          have hcc : cnt (h + 1) = pw (h + 1) + 2 * cnt h := rfl
          have hpp : pw (h + 1) = 2 * pw h := rfl
          have := HM.out
          simp only [List.length_append, rowB_len, hla, hlb]
          omega)
        have HLN : Hid (0 < (rowB m (outF (tiesL p m) way (tiesL p m).length).1 ++ (rowB m (outF (tiesL p m) way (tiesL p m).length).2 ++ (la ++ lb))).length ∧ (rowB m (outF (tiesL p m) way (tiesL p m).length).1 ++ (rowB m (outF (tiesL p m) way (tiesL p m).length).2 ++ (la ++ lb))).length ≤ 1000) := Lib.hid (by
          have := cnt_bd (h + 1) (by omega)
          rw [HLEN.out]
          omega)
        gi_wp2_with (first
          | (refine ⟨trivial, rfl, ?_⟩; gi_at_call 69; refine (CallsIn.inRound l (callsIn_wide.2 HIN.out)).mono ?_; rintro e w6 ⟨⟨x, y, rfl, hx, hy⟩, hb6⟩
             have HE6 := Lib.hid (HWW.out _ hb6); have q3' := HE6.out.q3; have l3 := World.block_lt_of_cell? _ _ q3'; have HX6 := Lib.hid (Rd.own hx); have HY6 := Lib.hid (Rd.own hy); have HB6 := Lib.hid hb6
             obtain ⟨ax, cx, rfl⟩ := own_form hx; obtain ⟨ay, cy, rfl⟩ := own_form hy
             clear hx hy hb6)
          | (refine ⟨trivial, rfl, ?_⟩; gi_at_call 58; (with_reducible refine (CallsIn.inRound l (callsIn_wide.2 (HI1.out _ _ HX6.out HE6.out.r3))).mono ?_); rintro e w7 ⟨⟨u, rfl, hu⟩, hb7⟩
             obtain ⟨gu, cu, rfl, _, _⟩ := own_some1 hu hcp
             have HU7 := Lib.hid (Rd.own hu)
             have HB7 := Lib.hid (HB6.out.trans (hb7.mono HB6.out.size)); have HE7 := Lib.hid (HE6.out.below hb7); have q4' := HE7.out.q4; have l4 := World.block_lt_of_cell? _ _ q4'; have HY7 := Lib.hid (HY6.out.below hb7 (Nat.le_refl _)); clear hb7 hu)
          | (refine ⟨trivial, rfl, ?_⟩; gi_at_call 58; (with_reducible refine (CallsIn.inRound l (callsIn_wide.2 (HI2.out _ _ HY7.out HE7.out.r4))).mono ?_); rintro e w8 ⟨⟨u, rfl, hu⟩, hb8⟩
             obtain ⟨gv, cv, rfl, _, _⟩ := own_some1 hu hcp
             have HU8 := Lib.hid (HU7.out.below hb8 (Nat.le_refl _)); have HV8 := Lib.hid (Rd.own hu)
             have HB8 := Lib.hid (HB7.out.trans (hb8.mono HB7.out.size)); have g0' := cell_below HG0.out HB8.out; have g1' := cell_below HG1.out HB8.out; have l8 := World.block_lt_of_cell? _ _ g0'; clear hb8 hu)
          | (refine ⟨trivial, rfl, ?_⟩; gi_at_call 65
             refine (CallsIn.inRound l (callsIn_wide.2 (joined_any _ _ _ _ (rowB m (outF (tiesL p m) way (tiesL p m).length).1) (rowB m (outF (tiesL p m) way (tiesL p m).length).2) la lb w8 (HF.out.below HB8.out (Nat.le_refl _)) (HG.out.below HB8.out (Nat.le_refl _)) HU8.out HV8.out HLN.out.1 HLN.out.2))).mono ?_
             rintro e w9 ⟨u9, rfl, ho9, hb9⟩
             obtain ⟨g9, c9, rfl, hg9', _⟩ := own_some1 ho9 HLN.out.1; rw [HLEN.out] at ho9 ⊢
             have HB9 := Lib.hid (HB8.out.trans (hb9.mono HB8.out.size)); have HO9 := Lib.hid ho9; have HG9 := Lib.hid hg9'; clear hg9'
             have e3 := cell_below HBX.out.cell HB9.out; have f3 := (Boxed.kept HBX.out (below_grown HB9.out none) (by simp)).frozen; have l9 := World.block_lt_of_cell? _ _ e3; clear hb9 ho9))
        have hg9 : W.grownBy (w9.setCell ⟨w.heap.size + 1, 0, none⟩ (.slice (some ⟨g9, 0, none⟩) (cnt (h + 1)) c9)) (some (w.heap.size + 1)) := grown_trans (below_grown HB9.out _) (grownBy_setCell' _ _ _)
        have hww : w.heap.size ≤ w8.heap.size := Nat.le_trans (Nat.le_trans (Nat.le_trans HB1.out.size (Nat.le_trans HB2.out.size HD5.out.size)) HLT.out) HB8.out.size
        have hXg : some g9 ≠ some (w.heap.size + 1) := fun e => by
          have e := Option.some.inj e
          have h1 := HBX.out.lt
          have h2 := HB8.out.size
          have h3 := HG9.out
          omega
        refine ⟨by change (wayA h p st way).isSome = true; rw [HWA.out]; rfl, hg9, ⟨way, _, .slice (some ⟨g9, 0, none⟩) (cnt (h + 1)) c9, by simp, HWA.out, (HBX.out.kept (below_grown HB9.out none) (by simp)).set _, ?_⟩, grown_trans HGR.out hg9⟩
        exact own_le ((HO9.out).kept (grownBy_setCell' _ _ _) (.inr hXg)) hww
  case done =>
    rintro D W hD hno ⟨hbx, hgr⟩ hK
    have hnone : aroundR (h + 1) p st = none := by
      rw [around_ways, HM.out]
      exact find_none hno
    have c5 := hbx.cell
    have hw5 : w.heap.size ≤ w5.heap.size := Nat.le_trans HB1.out.size (Nat.le_trans HB2.out.size HD5.out.size)
    have hw2 : w.heap.size ≤ w2.heap.size := Nat.le_trans HB1.out.size HB2.out.size
    have f5 := hbx.frozen
    have l5 := hbx.lt
    have hDl : D < W.heap.size := (Array.getElem?_eq_some_iff.1 hK).1
    have hDX : D ≠ w.heap.size + 1 := by omega
    have hg5 := grown_trans hgr (grownBy_setCell' W (w.heap.size + 1) (.slice none 0 0))
    have hK5 : (W.setCell ⟨w.heap.size + 1, 0, none⟩ (.slice none 0 0)).heap[D]? = some (.deferred (some [])) := ((grownBy_setCell' W _ _).block D hDl (by intro e; exact hDX (Option.some.inj e))).trans hK
    have k1 : ((W.setCell ⟨w.heap.size + 1, 0, none⟩ (.slice none 0 0)).putObj D (.deferred none)).cell? ⟨w.heap.size + 1, 0, none⟩ = some (.slice none 0 0) :=
      (World.cell?_of_block (World.putObj_heap_other (fun e => hDX e.symm))).trans (World.cell?_setCell_same _ _ _ c5)
    have hbf : Below w.heap.size w ((W.setCell ⟨w.heap.size + 1, 0, none⟩ (.slice none 0 0)).putObj D (.deferred none)) :=
      (((HB1.out.trans (HB2.out.mono HB1.out.size)).trans (HD5.out.mono hw2)).trans (grown_toBelow hg5 (by omega) hw5)).trans (belowK_b (w := w5) hw5 _ D _ (.deferred none) hD hK5 rfl rfl)
    clear hw5 hw2 hg5
    gi_wp2
    refine ⟨by simp, .inl ⟨_, _, rfl, run_takeDeferred hK5, ?_⟩⟩
    exact ⟨.slice none 0 0, by simp [results, Try.results58, go_sem, k1], ⟨_, rfl, by rw [hnone]; rfl⟩, hbf⟩
  case stop =>
    rintro D pre b post W hD hT hpre hb ⟨⟨way, l, u, e1, e2, hbx, hown⟩, hgr⟩ hK
    obtain rfl : b = way := by simpa using e1
    have hsome : aroundR (h + 1) p st = some l := by
      rw [around_ways, HM.out, hT]
      exact find_stop hpre e2
    have c5 := hbx.cell
    have hw5 : w.heap.size ≤ w5.heap.size := Nat.le_trans HB1.out.size (Nat.le_trans HB2.out.size HD5.out.size)
    have hw2 : w.heap.size ≤ w2.heap.size := Nat.le_trans HB1.out.size HB2.out.size
    have hbf : Below w.heap.size w (W.putObj D (.deferred none)) :=
      (((HB1.out.trans (HB2.out.mono HB1.out.size)).trans (HD5.out.mono hw2)).trans (grown_toBelow hgr (by omega) hw5)).trans (belowK_b (w := w5) hw5 W D _ (.deferred none) hD hK rfl rfl)
    have hDX : D ≠ w.heap.size + 1 := by omega
    have k1 : (W.putObj D (.deferred none)).cell? ⟨w.heap.size + 1, 0, none⟩ = some u := (World.cell?_of_block (World.putObj_heap_other (fun e => hDX e.symm))).trans c5
    have ho : (W.putObj D (.deferred none)).ownsRow w.heap.size 4 1 u (cnt (h + 1)) (bools l) := own_turned hown (grownBy_putObj' W D (.deferred none)) (by rintro r e; cases e; exact ⟨_, hK, rfl⟩)
    clear hw5 hw2
    gi_wp2
    refine ⟨by simp, .inl ⟨_, _, rfl, run_takeDeferred hK, ?_⟩⟩
    exact ⟨u, by simp [results, Try.results58, go_sem, k1], ⟨_, rfl, by rw [hsome]; exact ho⟩, hbf⟩
end Go.Proofs.Ytelnlmhelkcliaa
