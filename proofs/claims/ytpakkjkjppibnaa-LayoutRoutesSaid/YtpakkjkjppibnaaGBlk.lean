/- Layout: Far in one form; a list of cells appended in a region that draws its order; LayoutBlocks: plain. -/
import Derived.Test.YtpakkjkjppibnaaLLBounds2
namespace Go.Proofs.Ytpakkjkjppibnaa
open Go.RowKit

/-- what Far answers -/
def farF (w h mv bd : Int) (bl : List (Int × Int)) (to : Int × Int) : List Int × Int :=
  if validP w h mv bd bl then (if refOpenP w h bl to then (farP (grP w h mv bd bl) to, 0) else ([], 72)) else ([], 70)
theorem far_any (w h mv bd : Int) (bv : Value) (bl : List (Int × Int)) (to : Int × Int) (W : World) (hv : RdP W bv bl) :
    Calls Try.prog 14 #[.agg #[.int .i64 w, .int .i64 h, .int .i64 mv, .int .i64 bd, bv], .agg #[.int .i64 to.1, .int .i64 to.2]] W fun e w' => (∃ v, e = .returned (.tuple #[v, .int .i64 (farF w h mv bd bl to).2]) ∧ w'.ownsRow W.heap.size 3 1 v (farF w h mv bd bl to).1.length (ints (farF w h mv bd bl to).1)) ∧ Below W.heap.size W w' := by
  cases hb : validP w h mv bd bl with
  | false =>
    have e : farF w h mv bd bl to = ([], 70) := by unfold farF; rw [hb]; rfl
    rw [e]
    exact (far_bad w h mv bd bv bl to W hv hb).mono fun e w' hh => ⟨⟨_, hh.1, World.ownsRow_nil _ _ _ _⟩, hh.2⟩
  | true =>
    obtain ⟨n, m, rfl, rfl⟩ := valid_nat hb
    cases ho : refOpenP n m bl to with
    | false =>
      have e : farF n m mv bd bl to = ([], 72) := by unfold farF; rw [hb, ho]; rfl
      rw [e]
      exact (far_block n m mv bd bv bl to W hv hb ((open_eq hb to).trans ho)).mono fun e w' hh => ⟨⟨_, hh.1, World.ownsRow_nil _ _ _ _⟩, hh.2⟩
    | true =>
      have e : farF n m mv bd bl to = (farP (grK n m mv bd bl bl.length) to, 0) := by unfold farF; rw [hb, ho]; rfl
      rw [e]
      have hl : (farP (grK n m mv bd bl bl.length) to).length = n * m := farL_len _ _ _ _
      refine (far_ok n m mv bd bv bl to W hv hb ((open_eq hb to).trans ho)).mono fun e w' hh => ⟨?_, hh.2⟩
      obtain ⟨v, h1, h2⟩ := hh.1
      refine ⟨v, h1, ?_⟩
      rw [hl]; exact h2
theorem farP_at {g : Gr} {to : Int × Int} {i : Nat} (hi : i < g.w * g.h) : (farP g to).getD i 0 = farCell g (fieldP g to) to i := by
  unfold farP farL
  rw [List.getD_eq_getElem?_getD, List.getElem?_map, List.getElem?_range hi]; rfl
theorem farF_ok {w h mv bd : Int} {bl : List (Int × Int)} {to : Int × Int} (h0 : (farF w h mv bd bl to).2 = 0) : validP w h mv bd bl = true ∧ refOpenP w h bl to = true := by
  unfold farF at h0
  cases hb : validP w h mv bd bl with
  | false => rw [hb] at h0; cases h0
  | true =>
    cases ho : refOpenP w h bl to with
    | false => rw [hb, ho] at h0; cases h0
    | true => exact ⟨rfl, rfl⟩
theorem farF_run {w h : Nat} {mv bd : Int} {bl : List (Int × Int)} {to : Int × Int} (hb : validP w h mv bd bl = true) (ho : refOpenP w h bl to = true) : farF w h mv bd bl to = (farP (grK w h mv bd bl bl.length) to, 0) := by unfold farF; rw [hb, ho]; rfl
theorem farF_len {w h mv bd : Int} {bl : List (Int × Int)} {to : Int × Int} : (farF w h mv bd bl to).1.length ≤ 900 := by
  cases hb : validP w h mv bd bl with
  | false => unfold farF; rw [hb]; exact Nat.zero_le _
  | true =>
    obtain ⟨n, m, rfl, rfl⟩ := valid_nat hb
    cases ho : refOpenP n m bl to with
    | false => unfold farF; rw [hb, ho]; exact Nat.zero_le _
    | true =>
      rw [farF_run hb ho]
      change (farL _ _ _ _).length ≤ 900
      rw [farL_len]
      exact (grK_ok hb bl.length).cells.2

/-! ### one more blocked cell -/
theorem wk_mono {g g' : Gr} (hm : g'.move = g.move) (hbd : g'.bend = g.bend) (hop : ∀ c, openP g' c = true → openP g c = true) {to c : Int × Int} {d : Nat} {v : Int} (h : Wk g' to c d v) : Wk g to c d v := by
  induction h with
  | base d hd => exact Wk.base d hd
  | step c d v e h ho he ih =>
    have : stepP g' e d = stepP g e d := by unfold stepP; rw [hm, hbd]
    rw [this]
    exact Wk.step c d v e ih (hop _ ho) he
theorem more_blocks {w h mv bd : Int} {bl : List (Int × Int)} {to c : Int × Int} (h1 : (farF w h mv bd bl to).2 = 0) (h2 : (farF w h mv bd (bl ++ [c]) to).2 = 0) :
    (farF w h mv bd bl to).1.length = (farF w h mv bd (bl ++ [c]) to).1.length ∧ ∀ i, i < (farF w h mv bd bl to).1.length → 0 ≤ (farF w h mv bd (bl ++ [c]) to).1.getD i 0 → 0 ≤ (farF w h mv bd bl to).1.getD i 0 ∧ (farF w h mv bd bl to).1.getD i 0 ≤ (farF w h mv bd (bl ++ [c]) to).1.getD i 0 := by
  obtain ⟨hb1, ho1⟩ := farF_ok h1
  obtain ⟨hb2, ho2⟩ := farF_ok h2
  obtain ⟨n, m, rfl, rfl⟩ := valid_nat hb1
  rw [farF_run hb1 ho1, farF_run hb2 ho2]
  have hg1 := grK_ok hb1 bl.length
  have hg2 := grK_ok hb2 (bl ++ [c]).length
  have ht1 := (open_eq hb1 to).trans ho1
  have ht2 := (open_eq hb2 to).trans ho2
  have hop : ∀ x, openP (grK n m mv bd (bl ++ [c]) (bl ++ [c]).length) x = true → openP (grK n m mv bd bl bl.length) x = true := fun x hx => by
    rw [open_eq hb1]
    rw [open_eq hb2] at hx
    unfold refOpenP at hx ⊢
    simp at hx ⊢
    exact ⟨hx.1.1, hx.2⟩
  have hl1 : (farP (grK n m mv bd bl bl.length) to).length = n * m := farL_len _ _ _ _
  have hl2 : (farP (grK n m mv bd (bl ++ [c]) (bl ++ [c]).length) to).length = n * m := farL_len _ _ _ _
  have at1 : ∀ i, i < n * m → (farP (grK n m mv bd bl bl.length) to).getD i 0 = farCell (grK n m mv bd bl bl.length) (fieldP (grK n m mv bd bl bl.length) to) to i := fun i hi => farP_at hi
  have at2 : ∀ i, i < n * m → (farP (grK n m mv bd (bl ++ [c]) (bl ++ [c]).length) to).getD i 0 = farCell (grK n m mv bd (bl ++ [c]) (bl ++ [c]).length) (fieldP (grK n m mv bd (bl ++ [c]) (bl ++ [c]).length) to) to i := fun i hi => farP_at hi
  refine ⟨hl1.trans hl2.symm, fun i hi h0 => ?_⟩
  dsimp only at hi h0 ⊢
  rw [hl1] at hi
  rw [at1 i hi]
  rw [at2 i hi] at h0 ⊢
  have key := fun x v (hw : Way (grK n m mv bd (bl ++ [c]) (bl ++ [c]).length) to x v) => (show Way (grK n m mv bd bl bl.length) to x v from by
    obtain ⟨d, u, hd, ho, hk, hv⟩ := hw
    exact ⟨d, u, hd, hop _ ho, wk_mono (g := grK n m mv bd bl bl.length) (g' := grK n m mv bd (bl ++ [c]) (bl ++ [c]).length) rfl rfl hop hk, hv⟩)
  rcases far_spec hg2 ht2 i with ⟨e1, e2⟩ | ⟨_, _, e2⟩ | ⟨_, _, e2, _⟩ | ⟨e1, e2, e3, e4, _⟩
  · rw [e2]
    rcases far_spec hg1 ht1 i with ⟨f1, f2⟩ | ⟨f1, _⟩ | ⟨f1, _⟩ | ⟨f1, _⟩
    · omega
    · exact absurd e1 f1
    · exact absurd e1 f1
    · exact absurd e1 f1
  · omega
  · omega
  · rcases far_spec hg1 ht1 i with ⟨f1, f2⟩ | ⟨_, f2, _⟩ | ⟨_, _, _, f2⟩ | ⟨_, _, f3, _, f4⟩
    · exact absurd f1 e1
    · have := hop _ e2
      rw [show cellP (grK n m mv bd (bl ++ [c]) (bl ++ [c]).length) i = cellP (grK n m mv bd bl bl.length) i from rfl, f2] at this
      cases this
    · exact absurd (key _ _ e4) (f2 _)
    · exact ⟨f3, f4 _ (key _ _ e4)⟩

/-! ### append in a region that draws -/
theorem el_xy2 : ElemK Try.prog 22 26 (.agg #[.int .i64 0, .int .i64 0]) 2 16 :=
  ⟨by kernel_rfl, info_parts (by kernel_rfl), by rfl, by decide, by decide⟩
theorem stepA {ops : Array Oper} {o : Oper} {a : Act} {K : Act → World → Prop} {Q : Exit → Act → World → Prop} {E : Prop} {t e : TypeId} {z : Value} {bytes : Nat} (EO : ElemK Try.prog t e z 2 bytes) (hgd : o.guard = none) {s x : Operand}
    (ho : o.op = .call { callee := .builtin .append, args := #[s, x], argTypes := #[t, t] })
    {w0 W : World} {v y : Value} {n : Nat} {xs ys : List (Int × Int)} (hs : a.eval s = v) (hx : a.eval x = y)
    (hbel : Below w0.heap.size w0 W) (hown : W.ownsRow w0.heap.size e 2 v n (pairs xs)) (hy : RdP W y ys) (hn : (n + ys.length) * bytes ≤ 140737488355328) (hb1 : 0 < bytes)
    (h : ∀ v' w', w'.ownsRow w0.heap.size e 2 v' (n + ys.length) (pairs (xs ++ ys)) → W.grownBy w' v.ownBlock → Below w0.heap.size w0 w' → K (a.put o.dst v') w') :
    if Region.wanted o (yielded ops a.tmps) = true then Oper.wp Try.prog o a W K Q else E := by
  have hw : Region.wanted o (yielded ops a.tmps) = true := by simp [Region.wanted, hgd]
  rw [if_pos hw]
  obtain ⟨i, hi, hz, hsz, hby⟩ := EO.info
  have hn' : n + ys.length ≤ 140737488355328 := Nat.le_trans (Nat.le_mul_of_pos_right _ hb1) hn
  obtain ⟨ay, cap, rfl, hc, hm, hat, hcap⟩ := hy
  cases ay with
  | some ad =>
    obtain ⟨v', w', hr, h2, h3, _⟩ := run_append_own_at (P := Try.prog) W w0.heap.size t o.type e i z 2 bytes EO.und hi hz hsz hby EO.zc EO.pos v n (pairs xs) hown ad ys.length cap (pairs ys) (pairs_length ys) (fun j u hj => by
      rcases hat with hat | ⟨b, off, hb, hat⟩
      · rw [hat] at hj; simp at hj
      · obtain rfl := Option.some.inj hb
        have := hat j u hj
        rw [show (⟨b, off, none⟩ : Addr).add j = ⟨b, off + j, none⟩ from by unfold Addr.add; split <;> simp_all]
        exact this) (fun u hu => by
      obtain ⟨p, _, hp⟩ := List.mem_flatMap.1 hu
      simp at hp
      rcases hp with rfl | rfl <;> rfl) (by unfold maxLen; omega) hn hbel.size
    unfold Oper.wp execOp
    simp only [ho, resolve, invoke, builtin, Sem.run_bind, Sem.run_pure, Result.andThen_ok, List.map_toArray, List.map_cons, List.map_nil, hs, hx, hr]
    refine h v' w' ?_ h3 (hbel.grown h3 hbel.size (fun k e => (hown.lt k e).1))
    rw [pairs_append]; exact h2
  | none =>
    have h0 : ys = [] := by
      rcases hat with hat | ⟨b, off, hb, _⟩
      · cases ys with
        | nil => rfl
        | cons p l => simp [pairs] at hat
      · cases hb
    subst h0
    obtain rfl := hcap rfl
    have hr := run_append_owned_none (P := Try.prog) (w := W) w0.heap.size t o.type e i 2 EO.und hi v n (pairs xs) hown
    unfold Oper.wp execOp
    simp only [ho, resolve, invoke, builtin, Sem.run_bind, Sem.run_pure, Result.andThen_ok, List.map_toArray, List.map_cons, List.map_nil, hs, hx, List.length_nil, hr]
    refine h v W ?_ ⟨rfl, rfl, rfl, Nat.le_refl _, fun _ _ _ => rfl⟩ hbel
    simpa using hown
/-- onto an empty list -/
theorem stepA0 {ops : Array Oper} {o : Oper} {a : Act} {K : Act → World → Prop} {Q : Exit → Act → World → Prop} {E : Prop} {t e : TypeId} {z : Value} {bytes : Nat} (EO : ElemK Try.prog t e z 2 bytes) (hgd : o.guard = none) {s x : Operand}
    (ho : o.op = .call { callee := .builtin .append, args := #[s, x], argTypes := #[t, t] })
    {w0 W : World} {v y : Value} {ys : List (Int × Int)} (hs : a.eval s = v) (hx : a.eval x = y)
    (hbel : Below w0.heap.size w0 W) (hown : W.ownsRow w0.heap.size e 2 v 0 (pairs [])) (hy : RdP W y ys) (hn : ys.length * bytes ≤ 140737488355328) (hb1 : 0 < bytes)
    (h : ∀ v' w', w'.ownsRow w0.heap.size e 2 v' ys.length (pairs ys) → W.grownBy w' v.ownBlock → Below w0.heap.size w0 w' → K (a.put o.dst v') w') :
    if Region.wanted o (yielded ops a.tmps) = true then Oper.wp Try.prog o a W K Q else E :=
  stepA (n := 0) (xs := []) EO hgd ho hs hx hbel hown hy (by rw [Nat.zero_add]; exact hn) hb1 fun v' w' h1 h2 h3 => h v' w' (by rwa [Nat.zero_add, List.nil_append] at h1) h2 h3
theorem RdP.lit (W : World) (c : Int × Int) (t : TypeId) : RdP (W.alloc (.cells #[.int .i64 c.1, .int .i64 c.2] t)) (.slice (some ⟨W.heap.size, 0, none⟩) 1 1) [c] :=
  RdP.own (B := W.heap.size) (n := 1) (e := t) (own_lit2 W W.heap.size t #[.int .i64 c.1, .int .i64 c.2] 1 (Nat.le_refl _) rfl (by decide)) rfl
theorem RdP.grown {W w' : World} {r : Option Nat} {B n cap : Nat} {l : List (Int × Int)} (h : RdP W (.slice (some ⟨B, 0, none⟩) n cap) l) (hg : W.grownBy w' r) (hr : r ≠ some B) (hB : B < W.heap.size) : RdP w' (.slice (some ⟨B, 0, none⟩) n cap) l := by
  obtain ⟨a, c, he, h1, h2, h3, h4⟩ := h
  injection he with e1 e2 e3
  subst e1 e3
  refine ⟨_, cap, by rw [e2], h1, h2, ?_, h4⟩
  rcases h3 with h3 | ⟨b, off, hb, h3⟩
  · exact .inl h3
  · refine .inr ⟨b, off, hb, fun j u hj => ?_⟩
    have eb : B = b := by injection hb with hb; injection hb
    subst eb
    exact (World.cell?_of_block (hg.block _ hB (fun e => hr e.symm))).trans (h3 j u hj)
theorem alloc_size (w : World) (o : Obj) : (w.alloc o).heap.size = w.heap.size + 1 := by simp
theorem lit2a (w : World) (x y : Int) (t : TypeId) : RdP ((w.alloc (.cells #[] t)).alloc (.cells #[.int .i64 x, .int .i64 y] t)).drew (.slice (some ⟨w.heap.size + 1, 0, none⟩) 1 1) [(x, y)] := by
  have h := (RdP.lit (w.alloc (.cells #[] t)) (x, y) t).below (Below.refl _ _).drew
  rwa [alloc_size] at h
theorem lit2b (w : World) (x y : Int) (t : TypeId) : RdP ((w.alloc (.cells #[.int .i64 x, .int .i64 y] t)).alloc (.cells #[] t)).drew (.slice (some ⟨w.heap.size, 0, none⟩) 1 1) [(x, y)] :=
  ((RdP.lit w (x, y) t).below ((Below.refl _ _).alloc (Nat.le_refl _) _)).below (Below.refl _ _).drew
theorem own2a (w : World) (t : TypeId) : (w.alloc (.cells #[] t)).drew.ownsRow w.heap.size t 2 (.slice (some ⟨w.heap.size, 0, none⟩) 0 0) 0 (pairs []) :=
  own_below (own_lit2 w _ t #[] 0 (Nat.le_refl _) rfl (by decide)) (Below.refl _ _).drew
theorem own2b (w : World) (o : Obj) (t : TypeId) : ((w.alloc (.cells #[] t)).alloc o).drew.ownsRow w.heap.size t 2 (.slice (some ⟨w.heap.size, 0, none⟩) 0 0) 0 (pairs []) :=
  own_below ((own_lit2 w _ t #[] 0 (Nat.le_refl _) rfl (by decide)).alloc _) (Below.refl _ _).drew
theorem own2c (w : World) (o : Obj) (t : TypeId) : ((w.alloc o).alloc (.cells #[] t)).drew.ownsRow w.heap.size t 2 (.slice (some ⟨w.heap.size + 1, 0, none⟩) 0 0) 0 (pairs []) := by
  have h := own_below (own_lit2 (w.alloc o) w.heap.size t #[] 0 (by simp) rfl (by decide)) (Below.refl _ _).drew
  rwa [alloc_size] at h
theorem grownA {w w' : World} {x y : Int} {t : TypeId} (hg : ((w.alloc (.cells #[] t)).alloc (.cells #[.int .i64 x, .int .i64 y] t)).drew.grownBy w' (Value.slice (some ⟨w.heap.size, 0, none⟩) 0 0).ownBlock) : RdP w' (.slice (some ⟨w.heap.size + 1, 0, none⟩) 1 1) [(x, y)] :=
  RdP.grown (lit2a w x y t) hg (fun e => by
    have e2 : w.heap.size = w.heap.size + 1 := Option.some.inj e
    omega) (by show w.heap.size + 1 < ((w.alloc (.cells #[] t)).alloc (.cells #[.int .i64 x, .int .i64 y] t)).heap.size; rw [alloc_size, alloc_size]; omega)
theorem grownB {w w' : World} {x y : Int} {t : TypeId} (hg : ((w.alloc (.cells #[.int .i64 x, .int .i64 y] t)).alloc (.cells #[] t)).drew.grownBy w' (Value.slice (some ⟨w.heap.size + 1, 0, none⟩) 0 0).ownBlock) : RdP w' (.slice (some ⟨w.heap.size, 0, none⟩) 1 1) [(x, y)] :=
  RdP.grown (lit2b w x y t) hg (fun e => by
    have e2 : w.heap.size + 1 = w.heap.size := Option.some.inj e
    omega) (by show w.heap.size < ((w.alloc (.cells #[.int .i64 x, .int .i64 y] t)).alloc (.cells #[] t)).heap.size; rw [alloc_size, alloc_size]; omega)
end Go.Proofs.Ytpakkjkjppibnaa
