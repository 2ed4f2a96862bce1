/- Benes: the function that goes over the outer settings, walked. -/
import Derived.Test.YtelnlmhelkcliaaBOutP
namespace Go.Proofs.Ytelnlmhelkcliaa
open Go.RowKit Go.Shelf
attribute [local go_sem] Oper.semAt_some

theorem flipT_no (t : FL) : flipT false t = t := by
  obtain ⟨F, L⟩ := t
  unfold flipT
  have e : ∀ G : Nat → Option Bool, (fun j => (G j).map (· ^^ false)) = G := fun G => by funext j; cases G j <;> simp
  simp only [e]
theorem allowB_congr {m : Nat} {F : Nat → Option Bool} {f g : Nat → Int} (h : ∀ j, j < m → f j = g j) : allowB m F f = allowB m F g := by
  rw [Bool.eq_iff_iff, allowB_iff, allowB_iff]
  constructor
  · intro k j hj b hb; rw [← h j hj]; exact k j hj b hb
  · intro k j hj b hb; rw [h j hj]; exact k j hj b hb
theorem bit_shr {way i : Nat} (hw : way < 256) (hi : i < 8) : (bits .and .i64 ((way : Int) / 2 ^ i) 1 == 1) = way.testBit i := by
  have h : ∀ w : Fin 256, ∀ k : Fin 8, (bits .and .i64 ((w.val : Int) / 2 ^ k.val) 1 == 1) = w.val.testBit k.val := by decide +kernel
  exact h ⟨way, hw⟩ ⟨i, hi⟩
/-- the tie at hand, in the variable at B -/
def TieC (w wx : World) (B m d1 d2 : Nat) (t : FL) : Prop :=
  wx.cell? ⟨B, 0, none⟩ = some (.map (some d1)) ∧ wx.cell? ⟨B, 1, none⟩ = some (.map (some d2)) ∧ d1 ≠ d2 ∧ MB wx d1 m t.1 ∧ MB wx d2 m t.2 ∧ Below w.heap.size w wx
theorem TieC.flip {w w5 : World} {B m x1 x2 : Nat} {t : FL} {u1 u2 : Value} (c1 : w5.cell? ⟨B, 0, none⟩ = some u1) (c2 : w5.cell? ⟨B, 1, none⟩ = some u2) (hw : w.heap.size ≤ B) (h1 : B < x1) (h2 : B < x2) (hx : x1 ≠ x2) (m1 : MB w5 x1 m t.1) (m2 : MB w5 x2 m t.2) (hb : Below w.heap.size w w5) :
    TieC w ((w5.setCell ⟨B, 0, none⟩ (.map (some x1))).setCell ⟨B, 1, none⟩ (.map (some x2))) B m x1 x2 t := by
  refine ⟨?_, ?_, hx, (m1.setCell (by dsimp only; omega) _).setCell (by dsimp only; omega) _, (m2.setCell (by dsimp only; omega) _).setCell (by dsimp only; omega) _, (hb.setCell (p := ⟨B, 0, none⟩) hw _).setCell (p := ⟨B, 1, none⟩) hw _⟩
  · exact (World.cell?_setCell_other _ _ _ _ (by simp)).trans (World.cell?_setCell_same _ _ _ c1)
  · exact World.cell?_setCell_same _ _ _ ((World.cell?_setCell_other _ _ _ _ (by simp)).trans c2)
/-- a table is written into a row -/
structure OutR (wa w : World) (R bu d m B : Nat) (F : Nat → Option Bool) (left : Nat → Bool) (o : Nat → Bool) : Prop where
  rg : RG w d R m F left
  kp : Kp2 R bu wa w
  row : w.ownsRow B 4 1 (.slice (some ⟨bu, 0, none⟩) m m) m (bools (rowB m (overL F left o)))
theorem OutR.start {wa w : World} {bu d m B : Nat} {F : Nat → Option Bool} {o : Nat → Bool} (hrg : RG w d wa.heap.size m F (fun j => (F j).isSome)) (hg : wa.grownBy w none) (hr : wa.ownsRow B 4 1 (.slice (some ⟨bu, 0, none⟩) m m) m (bools (rowB m o))) :
    OutR wa w wa.heap.size bu d m B F (fun j => (F j).isSome) o :=
  ⟨hrg, Kp2.of_none hg, by rw [overL_start]; exact hr.kept hg (.inr (by simp [Value.ownBlock]))⟩
theorem OutR.step {wa w w6 : World} {R bu d m B : Nat} {F : Nat → Option Bool} {left o : Nat → Bool} (h : OutR wa w R bu d m B F left o) (hR : bu ≠ R) {x : Nat} {v : Bool} (hrg : RG w6 d R m F (fun i => left i && decide (i ≠ x))) (hg : w.grownBy w6 (some R)) (hf : F x = some v) :
    OutR wa (w6.setCell ⟨bu, x, none⟩ (.bool v)) R bu d m B F (fun i => left i && decide (i ≠ x)) o ∧ (w6.setCell ⟨bu, x, none⟩ (.bool v)).rangeLeft d R = w6.rangeLeft d R := by
  have h6 := h.row.kept hg (.inr fun e => hR (Option.some.inj e))
  obtain ⟨q1, q2⟩ := h6.stored x (.bool v)
  have hd := own_noMap h6 rfl hrg.mb
  obtain ⟨k1, k2⟩ := hrg.kept q2 (fun e => hd (Option.some.inj e).symm) (fun e => hR (Option.some.inj e).symm)
  refine ⟨⟨k1, (h.kp.trans (Kp2.of_grown1 hg)).trans (Kp2.of_grown2 q2), ?_⟩, k2⟩
  rw [← overL_step hf, ← bools_setAt]
  exact q1
theorem OutR.at {wa w : World} {R bu d m B : Nat} {F : Nat → Option Bool} {left o : Nat → Bool} (h : OutR wa w R bu d m B F left o) : (∀ j, j < m → w.cell? ⟨bu, j, none⟩ = some (.bool (overL F left o j))) ∧ ∀ j, j < m → w.frozen? ⟨bu, j, none⟩ = false :=
  ⟨fun j hj => by rw [h.row.cellAt j (by omega), bools_getD (by rw [rowB_len]; exact hj), rowB_get m _ hj], fun j _ => h.row.frozenAt j⟩
theorem OuA.next {w0 w2 w3 w4 : World} {m bu bl bt R1 R2 d1 d2 : Nat} {s : (Nat → Bool) × (Nat → Bool)} {F1 F2 : Nat → Option Bool} {left1 left2 : Nat → Bool} (h : OuA w0 w2 m bu bl bt s) (h3 : OutR w2 w3 R1 bu d1 m w0.heap.size F1 left1 s.1) (e1 : ∀ j, left1 j = false)
    (h4 : OutR w3 w4 R2 bl d2 m w0.heap.size F2 left2 s.2) (e2 : ∀ j, left2 j = false) (hR1 : w2.heap.size ≤ R1) (hR2 : w3.heap.size ≤ R2) : OuA w0 w4 m bu bl bt (over F1 s.1, over F2 s.2) := by
  obtain ⟨⟨a1, a2, a3, a4, a5, a6⟩, hu, hl, t0, t1, hb⟩ := h
  have lt := World.block_lt_of_cell? _ _ t0
  have lu := (hu.lt bu rfl).2
  have ll := (hl.lt bl rfl).2
  have z := h3.kp.size
  have zb := hb.size
  dsimp only at lt
  have r3 := h3.row
  rw [overL_end _ _ e1] at r3
  have r4 := h4.row
  rw [overL_end _ _ e2] at r4
  refine ⟨⟨a1, a2, a3, a4, a5, a6⟩, own_kp r3 h4.kp (fun e => by have : bu = R2 := Option.some.inj e; omega) (fun e => a4 (Option.some.inj e)), r4, ?_, ?_, ?_⟩
  · exact h4.kp.cell (h3.kp.cell t0 (by dsimp only; omega) (by dsimp only; omega)) (by dsimp only; omega) (by dsimp only; omega)
  · exact h4.kp.cell (h3.kp.cell t1 (by dsimp only; omega) (by dsimp only; omega)) (by dsimp only; omega) (by dsimp only; omega)
  · exact Kp2.below (Kp2.below hb h3.kp (by omega) a1 zb) h4.kp (by omega) a2 (by omega)
section
variable (w : World) {ops : Array Oper} {rest : List Oper} {o : Oper} {a : Act} {Q : Exit → Act → World → Prop}
/-- the step, with a cell and a row of cells that are written carried over -/
theorem wp_mb_nextF (hg : o.guard = none) (it : Operand) (hop : o.op = Op.next it false) (b r N : Nat) (F : Nat → Option Bool) (left : Nat → Bool) (A : Addr) (u : Value) (hA : w.cell? A = some u) (G : Nat → Addr) (H : Nat → Value) (hG : ∀ j, j < N → w.cell? (G j) = some (H j)) (hFz : ∀ j, j < N → w.frozen? (G j) = false) (hit : a.eval it = .pointer (some ⟨r, 0, none⟩)) (h : RG w b r N F left)
    (hDone : (∀ j, left j = false) → wpList Try.prog ops Q rest (a.put o.dst (.tuple #[.bool false])) w)
    (hMore : ∀ (j : Nat) (v : Bool) (w' : World), left j = true → F j = some v → j < N → RG w' b r N F (fun i => left i && decide (i ≠ j)) → w'.rangeLeft b r < w.rangeLeft b r → w.grownBy w' (some r) → w'.heap.size = w.heap.size →
      (Instr.entry (.pointer (some ⟨r, 0, none⟩))).run Try.prog w' = .ok (.tuple #[.int .i64 (j : Int), .bool v]) w' → w'.cell? A = some u → w'.cell? (G j) = some (H j) → w'.frozen? (G j) = false → wpList Try.prog ops Q rest (a.put o.dst (.tuple #[.bool true, .int .i64 (j : Int), .bool v])) w') :
    wpList Try.prog ops Q (o :: rest) a w :=
  wp_mb_next w hg it hop b r N F left hit h hDone (fun j v w' h1 h2 h3 h4 h5 h6 h7 h8 => hMore j v w' h1 h2 h3 h4 h5 h6 h7 h8 (h.cellg h6 hA) (h.cellg h6 (hG j h3)) (h.froz h6 (hG j h3) (hFz j h3)))
end

set_option maxRecDepth 100000 in
set_option maxHeartbeats 4000000 in
theorem outers1_seq {p : List Int} (hp : PermP p) {m : Nat} (hl : p.length = 2 * m) (hm : m ≤ 8) (hm0 : 0 < m) (st : Nat → Int) (X : Option Nat) (stop : Nat → Bool) (w0 : World) {B Bl Bm Bp ub uc : Nat} {pa : Option Addr} {pc : Nat} {bs : List (Nat × Nat)} {v1 v2 v3 v4 : Value} {l1 l2 : List Int}
    (E : OutEnv w0 B Bl Bm Bp ub uc m pa pc bs (tiesL p m) v1 v2 v3 v4 l1 l2) (hX : ∀ x, X = some x → x < B) (o1 : Off X v1) (o2 : Off X v2) (n1 : l1.length = m) (n2 : l2.length = m) (s1 : ∀ j, j < m → l1.getD j 0 = st j) (s2 : ∀ j, j < m → l2.getD j 0 = st (m + j)) :
    SeqX Try.prog 79 #[.pointer (some ⟨Bl, 0, none⟩), .pointer (some ⟨Bm, 0, none⟩), .pointer (some ⟨Bp, 0, none⟩)] (RxO p m st) X stop (outL p m st) w0 := fun l J Jx W hW hJ hJx hY h0 => by
  have hP := permN_of hp hl
  have hT : Ties m (piL p) (rhoL p) m (tiesL p m) := ties_ok hP m (Nat.le_refl _)
  have hH : (tiesL p m).length ≤ m := ties_few hT
  have hH1 : bs.length = (tiesL p m).length := E.tab.1
  have HEND := Lib.hid (fun way => okK_end hP hT st way)
  have HS1 := Lib.hid s1
  have HS2 := Lib.hid s2
  have HN1 := Lib.hid n1
  have HN2 := Lib.hid n2
  have HX := Lib.hid hX
  have HO1 := Lib.hid o1
  have HO2 := Lib.hid o2
  have HJ := Lib.hid hJ
  have HJX := Lib.hid hJx
  have HY := Lib.hid hY
  have HE0 := Lib.hid (E.below hW)
  have HRX : Hid (∀ v way W', RxO p m st v way W' ↔ ∃ f l, v = .agg #[f, l] ∧ Rd W' f (bools (rowB m (outF (tiesL p m) way (tiesL p m).length).1)) ∧ Rd W' l (bools (rowB m (outF (tiesL p m) way (tiesL p m).length).2)) ∧ way < 2 ^ (tiesL p m).length ∧ okT (tiesL p m) st m way = true) := Lib.hid fun _ _ _ => Iff.rfl
  have HOL : Hid (outL p m st = (List.range (2 ^ (tiesL p m).length)).filter (okT (tiesL p m) st m)) := Lib.hid rfl
  have HJ0 := Lib.hid h0
  generalize outL p m st = OL at *
  generalize RxO p m st = RX at *
  obtain ⟨T, hTT⟩ : ∃ T, tiesL p m = T := ⟨_, rfl⟩
  rw [hTT] at HEND HE0 HRX HOL hH hH1
  clear hTT E hP hT s1 s2 n1 n2 hX o1 o2 hJ hJx hY h0 hp hl hW
  obtain ⟨H, hHH⟩ : ∃ H, T.length = H := ⟨_, rfl⟩
  rw [hHH] at HEND HRX HOL hH hH1
  have HTL := Lib.hid hHH
  obtain ⟨n2, hn2⟩ : ∃ n2 : Nat, 2 ^ H = n2 := ⟨_, rfl⟩
  rw [hn2] at HRX HOL
  have hn2b : n2 ≤ 256 := by
    rw [← hn2]
    exact Nat.le_trans (Nat.pow_le_pow_right (by decide) (show H ≤ 8 by omega)) (by decide)
  have hsh : wrap64 ((2 : Int) ^ H) = (n2 : Int) := by
    have : ((2 : Int) ^ H) = (n2 : Int) := by rw [← hn2]; push_cast; rfl
    rw [this]; unfold wrap64; omega
  have hq : IntKind.i64.wrap ((2 * (m : Int)).tdiv 2) = m := by rw [IntWalk.i64_quo _ _ (by omega)]; omega
  have HBH := Lib.hid hH1
  clear hHH hn2
  have c0 := HE0.out.cl
  rw [HBH.out] at c0
  clear hH1
  refine callsIn_wide.2 ?_
  change Calls Try.prog 79 #[.func (.yield l) #[] #[], .pointer (some ⟨Bl, 0, none⟩), .pointer (some ⟨Bm, 0, none⟩), .pointer (some ⟨Bp, 0, none⟩)] W _
  go_enter Try.func79, Try.ntmps79
  go_wp2_with fail
  rw [hsh]
  clear c0 hsh
  go_loopw [17] (fun q wr => ∃ k : Nat, k ≤ n2 ∧ q = .int .i64 k ∧ Hid (J ((List.range k).filter (okT T st m)) wr) ∧ Hid (∀ b ∈ (List.range k).filter (okT T st m), stop b = false) ∧ Hid (OutEnv wr B Bl Bm Bp ub uc m pa pc bs T v1 v2 v3 v4 l1 l2)) (fun q _ => n2 - (intOf q).toNat)
  case atStart => exact ⟨0, by omega, rfl, HJ0, Lib.hid fun b hb => (by simp at hb), HE0⟩
  case round =>
    obtain ⟨way, hk, rfl, HJk, HST, HE⟩ := hrel
    obtain ⟨wo, rfl⟩ : ∃ wo, wo = wr := ⟨_, rfl⟩
    by_cases hkn : way < n2
    · have hkn' : (way : Int) < (n2 : Int) := by omega
      have c2 := HE.out.cm
      obtain ⟨Z, hZ, HZO⟩ := makeB_run m (by omega)
      have HZ := Lib.hid HZO
      have hq2 : IntKind.i64.wrap (m : Int) = (m : Int) := IntWalk.i64_in _ (by omega)
      have hq3 : ((m : Nat) : Int).toNat = m := by omega
      have d2 : ∀ W' : World, Hid (Below wo.heap.size wo W') → W'.cell? ⟨Bm, 0, none⟩ = some (.slice pa (2 * m) pc) := fun W' h => cell_below c2 h.out
      clear HZO
      go_upto_region 3 with fail
      go_cut [6, 7] from 20 to 28 (fun p6 p7 wx => p7 = .bool true ∧ ∃ bu bl bt : Nat, p6 = .pointer (some ⟨bt, 0, none⟩) ∧ Hid (OuA wo wx m bu bl bt noS))
      case first =>
        go_region_held3 (fun w' => Hid (Below wo.heap.size wo w'))
          (first | exact Lib.hid (Below.refl _ _).drew | exact Lib.hid ((Below.refl _ _).alloc (Nat.le_refl _) _).drew | exact Lib.hid (((Below.refl _ _).alloc (Nat.le_refl _) _).alloc (by simp) _).drew | exact Lib.hid ((((Below.refl _ _).alloc (Nat.le_refl _) _).alloc (by simp) _).alloc (by simp; omega) _).drew)
          (fail)
        all_goals go_wp2_with fail
        all_goals (
          go_meet
          refine ⟨rfl, ?_⟩
          first
            | (refine ⟨wo.heap.size, wo.heap.size + 1, wo.heap.size + 1 + 1, rfl, Lib.hid ?_⟩; with_reducible exact ouA_0 HZ.out _ _)
            | (refine ⟨wo.heap.size, wo.heap.size + 1 + 1, wo.heap.size + 1, rfl, Lib.hid ?_⟩; with_reducible exact ouA_1 HZ.out _ _)
            | (refine ⟨wo.heap.size + 1, wo.heap.size, wo.heap.size + 1 + 1, rfl, Lib.hid ?_⟩; with_reducible exact ouA_2 HZ.out _ _)
            | (refine ⟨wo.heap.size + 1 + 1, wo.heap.size, wo.heap.size + 1, rfl, Lib.hid ?_⟩; with_reducible exact ouA_3 HZ.out _ _)
            | (refine ⟨wo.heap.size + 1, wo.heap.size + 1 + 1, wo.heap.size, rfl, Lib.hid ?_⟩; with_reducible exact ouA_4 HZ.out _ _)
            | (refine ⟨wo.heap.size + 1 + 1, wo.heap.size + 1, wo.heap.size, rfl, Lib.hid ?_⟩; with_reducible exact ouA_5 HZ.out _ _))
      case rest =>
        obtain ⟨rfl, bu, bl, bt, rfl, HO⟩ := hcut
        clear hZ HZ d2 c2 hq
        have HE1 := Lib.hid (HE.out.below HO.out.2.2.2.2.2)
        have c3 := HE1.out.cl
        rw [HBH.out] at c3
        go_wp2_with fail
        clear c3
        go_loopw [7, 31] (fun p7 q wr => ∃ i : Nat, i ≤ H ∧ q = .int .i64 i ∧ p7 = .bool (okK T st m way i) ∧ Hid (OuA wo wr m bu bl bt (outF T way i))) (fun _ q _ => H - (intOf q).toNat)
        case atStart => exact ⟨0, by omega, rfl, rfl, HO⟩
        case round =>
          obtain ⟨i, hi, rfl, hp7, HA⟩ := hrel
          obtain ⟨ok, hok⟩ : ∃ ok, okK T st m way i = ok := ⟨_, rfl⟩
          rw [hok] at hp7
          have HOK := Lib.hid hok
          clear hok
          subst hp7
          obtain ⟨wi, rfl⟩ : ∃ wi, wi = wr := ⟨_, rfl⟩
          have HEi := Lib.hid (HE.out.below HA.out.2.2.2.2.2)
          by_cases hiH : i < H
          · have hiH' : (i : Int) < (H : Int) := by omega
            obtain ⟨b, hb⟩ : ∃ b, bs[i]? = some b := ⟨_, List.getElem?_eq_getElem (by rw [HBH.out]; exact hiH)⟩
            obtain ⟨t, ht⟩ : ∃ t, T[i]? = some t := ⟨_, List.getElem?_eq_getElem (by rw [HTL.out]; exact hiH)⟩
            have HTG : Hid (T.getD i (0, noneT) = t) := Lib.hid (by rw [List.getD_eq_getElem?_getD, ht]; rfl)
            have HTB := Lib.hid (HEi.out.tab.2 i b t hb ht)
            have e1 := HEi.out.row.cellAt (i * 2) (by rw [HBH.out]; omega)
            have e2 := HEi.out.row.cellAt (i * 2 + 1) (by rw [HBH.out]; omega)
            rw [(tc_get hb).1] at e1
            rw [(tc_get hb).2] at e2
            have hlb := World.block_lt_of_cell? _ _ e1
            clear hb ht
            obtain ⟨bit, hbit⟩ : ∃ bit, way.testBit i = bit := ⟨_, rfl⟩
            have hsb : (bits .and .i64 ((way : Int) / 2 ^ i) 1 == 1) = bit := (bit_shr (by omega) (by omega)).trans hbit
            have HBIT := Lib.hid hbit
            clear hbit
            have HOKS : Hid (okK T st m way (i + 1) = (ok && allowT m (flipT bit t.2) st)) := Lib.hid (by rw [okK_succ, HOK.out, HTG.out, HBIT.out])
            have HOFS : Hid (outF T way (i + 1) = (over (flipT bit t.2).1 (outF T way i).1, over (flipT bit t.2).2 (outF T way i).2)) := Lib.hid (by rw [outF, HTG.out, HBIT.out])
            have HNB := Lib.hid (flipT_no t.2)
            have HFL := Lib.hid (fun W (h1 : MB W b.1 m t.2.1) (h2 : MB W b.2 m t.2.2) => flipped_any m b.1 b.2 t.2 W hm h1 h2)
            have hbw := (Below.refl wi.heap.size wi).alloc (Nat.le_refl _) (.cells #[.map (some b.1), .map (some b.2)] 101)
            have HBW := Lib.hid hbw
            have HM1 := Lib.hid (HTB.out.2.2.2.1.below hbw)
            have HM2 := Lib.hid (HTB.out.2.2.2.2.below hbw)
            have HNE := Lib.hid HTB.out.2.2.1
            have a1 : (wi.alloc (.cells #[.map (some b.1), .map (some b.2)] 101)).cell? ⟨wi.heap.size, 0, none⟩ = some (.map (some b.1)) := World.cell?_alloc_at _ _ _ _ rfl
            have a2 : (wi.alloc (.cells #[.map (some b.1), .map (some b.2)] 101)).cell? ⟨wi.heap.size, 1, none⟩ = some (.map (some b.2)) := World.cell?_alloc_at _ _ _ _ rfl
            have HA1 := Lib.hid a1
            have HA2 := Lib.hid a2
            have HFZ : Hid ((wi.alloc (.cells #[.map (some b.1), .map (some b.2)] 101)).heap[wi.heap.size]? = some (.cells #[.map (some b.1), .map (some b.2)] 101)) := Lib.hid (World.alloc_heap_new _ _)
            clear hbw
            go_upto_if 40 with fail
            generalize wi.alloc (.cells #[.map (some b.1), .map (some b.2)] 101) = wj at *
            go_cut [] from 41 to 42 (fun wx => ∃ d1 d2 : Nat, Hid (TieC wi wx wi.heap.size m d1 d2 (flipT bit t.2)))
            case first =>
              cases bit with
              | false =>
                go_wp2_with fail
                go_meet
                exact ⟨b.1, b.2, Lib.hid ⟨HA1.out, HA2.out, HNE.out, by rw [HNB.out]; exact HM1.out, by rw [HNB.out]; exact HM2.out, HBW.out⟩⟩
              | true =>
                go_wp2_with (go_at_call 80; refine (HFL.out _ HM1.out HM2.out).mono ?_; rintro e w5 ⟨⟨x1, x2, rfl, y1, y2, y3, y4, y5⟩, hb5⟩; have a5 := cell_below HA1.out hb5; have a6 := cell_below HA2.out hb5; have f5 : w5.frozen? ⟨wi.heap.size, 0, none⟩ = false := froz_block ((hb5.block _ (Array.getElem?_eq_some_iff.1 HFZ.out).1).trans HFZ.out); have f6 : w5.frozen? ⟨wi.heap.size, 1, none⟩ = false := froz_block ((hb5.block _ (Array.getElem?_eq_some_iff.1 HFZ.out).1).trans HFZ.out); have HY4 := Lib.hid y4; have HY5 := Lib.hid y5; have HB5 := Lib.hid (HBW.out.trans (hb5.mono HBW.out.size)); clear y4 y5 hb5)
                go_meet
                have hlt := (Array.getElem?_eq_some_iff.1 HFZ.out).1
                exact ⟨x1, x2, Lib.hid (TieC.flip a5 a6 (Nat.le_refl _) (by omega) (by omega) y3 HY4.out HY5.out HB5.out)⟩
            case rest =>
              obtain ⟨d1, d2, HTC⟩ := hcut
              obtain ⟨w1, rfl⟩ : ∃ w1, w1 = wc := ⟨_, rfl⟩
              have HEj := Lib.hid (HEi.out.below HTC.out.2.2.2.2.2)
              obtain ⟨t', ht'⟩ : ∃ t', flipT bit t.2 = t' := ⟨_, rfl⟩
              rw [ht'] at HTC HOKS HOFS
              have HAL := Lib.hid (fun W h1 h2 r1 r2 => allowed_any m d1 d2 t' v1 v2 v3 v4 l1 l2 W hm0 h1 h2 r1 r2 HN1.out HN2.out)
              have HAQ : Hid ((allowB m t'.1 (fun j => l1.getD j 0) && allowB m t'.2 (fun j => l2.getD j 0)) = allowT m t' st) := Lib.hid (by unfold allowT; rw [allowB_congr HS1.out, allowB_congr HS2.out])
              clear ht' e1 e2 hsb HFZ HM1 HM2 HA1 HA2 HFL HBW a1 a2
              go_upto_region 9 with fail
              go_cut [7] from 43 to 48 (fun p7 wx => p7 = .bool (okK T st m way (i + 1)) ∧ Hid (Below w1.heap.size w1 wx))
              case first =>
                cases ok with
                | false =>
                  go_wp2_with fail
                  go_meet
                  exact ⟨by rw [HOKS.out]; rfl, Lib.hid (Below.refl _ _)⟩
                | true =>
                  obtain ⟨a1, a2, _, _, _, _⟩ := HTC.out
                  have b1 := HEj.out.p1
                  have b2 := HEj.out.p2
                  have b3 := HEj.out.p3
                  have b4 := HEj.out.p4
                  go_wp2_with (go_at_call 81; refine (HAL.out _ HTC.out.2.2.2.1 HTC.out.2.2.2.2.1 HEj.out.r1 HEj.out.r2).mono ?_; rw [HAQ.out]; rintro e w5 ⟨rfl, hb5⟩; have HB5 := Lib.hid hb5; clear hb5)
                  go_meet
                  exact ⟨by rw [HOKS.out]; rfl, HB5⟩
              case rest =>
                obtain ⟨rfl, HBc⟩ := hcut
                obtain ⟨w2, rfl⟩ : ∃ w2, w2 = wc := ⟨_, rfl⟩
                obtain ⟨F1, F2⟩ := t'
                have HM1 := Lib.hid (HTC.out.2.2.2.1.below HBc.out)
                have HM2 := Lib.hid (HTC.out.2.2.2.2.1.below HBc.out)
                have T0 := Lib.hid (cell_below HTC.out.1 HBc.out)
                have T1 := Lib.hid (cell_below HTC.out.2.1 HBc.out)
                have HOA := Lib.hid (HA.out.below (HTC.out.2.2.2.2.2.trans (HBc.out.mono HTC.out.2.2.2.2.2.size)))
                have a1 := T0.out
                obtain ⟨⟨g1, g2, g3, g4, g5, g6⟩, _, _, _, _, _⟩ := HOA.out
                have lu := (HOA.out.2.1.lt bu rfl).2
                have ll := (HOA.out.2.2.1.lt bl rfl).2
                have lt0 := World.block_lt_of_cell? _ _ HOA.out.2.2.2.1
                have lti := World.block_lt_of_cell? _ _ T0.out
                have HWI := Lib.hid (World.block_lt_of_cell? _ _ HA.out.2.2.2.1)
                have HUI := Lib.hid (HA.out.2.1.lt bu rfl).2
                have HLI := Lib.hid (HA.out.2.2.1.lt bl rfl).2
                go_wp2_with (at_range; refine wp_mb_range _ rfl _ rfl d1 m F1 rfl HM1.out ?_; intro w5 hrg hgr hs5)
                try go_frame
                have HR5 := Lib.hid (OutR.start (bu := bu) hrg hgr HOA.out.2.1)
                clear hrg hgr a1
                go_loopw [] (fun wr => ∃ left : Nat → Bool, Hid (OutR w2 wr w2.heap.size bu d1 m wo.heap.size F1 left (outF T way i).1)) (fun wr => wr.rangeLeft d1 w2.heap.size)
                case atStart => exact ⟨fun j => (F1 j).isSome, HR5⟩
                case round =>
                  obtain ⟨left, HR⟩ := hrel
                  have a1 := HR.out.kp.cell HOA.out.2.2.2.1 (by dsimp only; omega) (by dsimp only; omega)
                  have c0 := HR.out.kp.cell T1.out (by dsimp only; omega) (by dsimp only; have := HUI.out; omega)
                  have HAT := Lib.hid HR.out.at
                  have HM2r := Lib.hid (HM2.out.kp HR.out.kp (by have := HM2.out.lt; omega) (fun e => own_noMap HOA.out.2.1 rfl HM2.out e.symm))
                  have hbR : bu ≠ w2.heap.size := by omega
                  go_wp2_with (first
                    | (at_next; refine wp_mb_nextF _ rfl _ rfl d1 w2.heap.size m F1 left ⟨bt, 0, none⟩ _ a1 (fun j => ⟨bu, j, none⟩) _ HAT.out.1 HAT.out.2 rfl HR.out.rg (fun hl0 => ?_) (fun x vx w6 hlx hfx hxm hrg6 hlt6 hg6 hs6 hen c46 c47 c48 => ?_))
                    | (at_range; refine wp_mb_range _ rfl _ rfl d2 m F2 rfl HM2r.out ?_; intro w8 hrg8 hgr8 hs8))
                  · try go_frame
                    obtain ⟨w3, rfl⟩ : ∃ w3, w3 = wr := ⟨_, rfl⟩
                    have HR3 := HR
                    have z3 := HR.out.kp.size
                    have HL3 := Lib.hid (own_kp HOA.out.2.2.1 HR.out.kp (fun e => by have : bl = w2.heap.size := Option.some.inj e; omega) (fun e => g4 (Option.some.inj e).symm))
                    have HR8 := Lib.hid (OutR.start (bu := bl) hrg8 hgr8 HL3.out)
                    have A3 := Lib.hid (HR.out.kp.cell HOA.out.2.2.2.2.1 (by dsimp only; omega) (by dsimp only; omega))
                    have HD3 := Lib.hid hl0
                    clear hrg8 hgr8 a1 c0 hl0
                    go_loopw [] (fun wr => ∃ left : Nat → Bool, Hid (OutR w3 wr w3.heap.size bl d2 m wo.heap.size F2 left (outF T way i).2)) (fun wr => wr.rangeLeft d2 w3.heap.size)
                    case atStart => exact ⟨fun j => (F2 j).isSome, HR8⟩
                    case round =>
                      obtain ⟨left2, HQ⟩ := hrel
                      have a1 := HQ.out.kp.cell A3.out (by dsimp only; omega) (by dsimp only; omega)
                      have HAT2 := Lib.hid HQ.out.at
                      have hbR2 : bl ≠ w3.heap.size := by omega
                      go_wp2_with (first
                        | (at_next; refine wp_mb_nextF _ rfl _ rfl d2 w3.heap.size m F2 left2 ⟨bt, 1, none⟩ _ a1 (fun j => ⟨bl, j, none⟩) _ HAT2.out.1 HAT2.out.2 rfl HQ.out.rg (fun hl2 => ?_) (fun x vx w6 hlx hfx hxm hrg6 hlt6 hg6 hs6 hen c46 c47 c48 => ?_)))
                      · have hfin := OuA.next HOA.out HR3.out HD3.out HQ.out hl2 (Nat.le_refl _) (Nat.le_refl _)
                        go_roundw
                        case rel => exact ⟨i + 1, by omega, by go_num, rfl, Lib.hid (by rw [HOFS.out]; exact hfin)⟩
                        case measure => simp [intOf]; omega
                      · obtain ⟨k1, k2⟩ := HQ.out.step hbR2 hrg6 hg6 hfx
                        go_roundw
                        case rel => exact ⟨fun i => left2 i && decide (i ≠ x), Lib.hid k1⟩
                        case measure => rw [k2]; exact hlt6
                  · obtain ⟨k1, k2⟩ := HR.out.step hbR hrg6 hg6 hfx
                    go_roundw
                    case rel => exact ⟨fun i => left i && decide (i ≠ x), Lib.hid k1⟩
                    case measure => rw [k2]; exact hlt6
          · obtain rfl : i = H := by omega
            have HEN := Lib.hid (HEND.out way)
            rw [HOK.out] at HEN
            cases ok with
            | false =>
              go_wp2_with fail
              go_roundw
              case rel =>
                refine ⟨way + 1, by omega, by go_num, Lib.hid ?_, Lib.hid ?_, HEi⟩
                · rw [range_snoc, ← HEN.out]; simp only [Bool.false_eq_true, if_false, List.append_nil]
                  exact HJ.out _ _ _ none HJk.out (below_grown HA.out.2.2.2.2.2 none) (fun r e => by cases e)
                · rw [range_snoc, ← HEN.out]; simp only [Bool.false_eq_true, if_false, List.append_nil]
                  exact HST.out
              case measure => simp [intOf]; omega
            | true =>
              obtain ⟨_, hu, hl', t0, t1, hbw⟩ := HA.out
              have hj := HJ.out _ _ _ none HJk.out (below_grown hbw none) (fun r e => by cases e)
              have hrx := (HRX.out (.agg #[.slice (some ⟨bu, 0, none⟩) m m, .slice (some ⟨bl, 0, none⟩) m m]) way wi).2 ⟨_, _, rfl, Rd.own hu, Rd.own hl', hkn, HEN.out.symm⟩
              obtain ⟨fn, tmps, assign, body, hy, hR⟩ := HY.out _ _ way wi hj hrx (by obtain ⟨post, hpo⟩ := range_cut hkn (okT T st m) HEN.out.symm; exact ⟨post, by rw [HOL.out]; exact hpo⟩)
              clear hu hl' hbw hj hrx
              go_upto_region 19 with fail
              refine (wpIn_wide (n := 0)).1 ?_
              gi_wp2
              refine ⟨rfl, hR.mono ?_⟩
              rintro e W3 (⟨rfl, hs, hJ3, hg3⟩ | ⟨rfl, hs, hJ3⟩)
              · gi_wp2
                go_wp2_with fail
                go_roundw
                case rel =>
                  refine ⟨way + 1, by omega, by go_num, Lib.hid ?_, Lib.hid ?_, Lib.hid (HEi.out.kept hg3 HX.out HO1.out HO2.out)⟩
                  · rw [range_snoc, ← HEN.out]; exact hJ3
                  · rw [range_snoc, ← HEN.out]
                    intro b hb
                    rcases List.mem_append.1 hb with hb | hb
                    · exact HST.out b hb
                    · simp at hb; subst hb; exact hs
                case measure => simp [intOf]; omega
              · gi_wp2
                go_wp2_with fail
                refine bodyPost_ret (results_none rfl _ _ _) rfl ?_
                obtain ⟨post, hpo⟩ := range_cut hkn (okT T st m) HEN.out.symm
                exact ⟨⟨_, rfl⟩, .inr ⟨_, way, post, by rw [HOL.out]; exact hpo, HST.out, hs, hJ3⟩⟩
    · obtain rfl : way = n2 := by omega
      go_wp2_with fail
      go_end0
      exact ⟨⟨_, rfl⟩, .inl ⟨by rw [HOL.out]; exact HST.out, by rw [HOL.out]; exact HJk.out⟩⟩
end Go.Proofs.Ytelnlmhelkcliaa
