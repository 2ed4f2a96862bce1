/- Layout: the route, as the program computes it. -/
import Derived.Test.YtpakkjkjppibnaaGOpened
import Derived.Laws.StructEq
import Derived.OwnWalk
namespace Go.Proofs.Ytpakkjkjppibnaa
open Go.RowKit

/-! ### plain -/
theorem beginsP_spec (g : Gr) (o : List (List Int)) (c : Int × Int) (hlo : ∀ i d, -1 ≤ outGet o i d) (hm : 1 ≤ g.move) : ∀ k, (beginsP g o c k).1 < 0 ∨
    ∃ d, d < k ∧ (beginsP g o c k).2 = (d : Int) ∧ openP g (besideP c d) = true ∧ 0 ≤ outGet o (indexP g (besideP c d)).toNat d ∧ (beginsP g o c k).1 = g.move + outGet o (indexP g (besideP c d)).toNat d
  | 0 => .inl (by show (-1 : Int) < 0; decide)
  | k + 1 => by
    rw [beginsP_succ]
    have ih := beginsP_spec g o c hlo hm k
    unfold begStep
    have keep : (beginsP g o c k).1 < 0 ∨ ∃ d, d < k + 1 ∧ (beginsP g o c k).2 = (d : Int) ∧ openP g (besideP c d) = true ∧ 0 ≤ outGet o (indexP g (besideP c d)).toNat d ∧ (beginsP g o c k).1 = g.move + outGet o (indexP g (besideP c d)).toNat d := by
      rcases ih with h | ⟨d, h1, h2⟩
      · exact .inl h
      · exact .inr ⟨d, by omega, h2⟩
    split
    · next ho =>
      split
      · exact keep
      · next hv =>
        split
        · exact .inr ⟨k, by omega, rfl, ho, by omega, rfl⟩
        · split
          · exact .inr ⟨k, by omega, rfl, ho, by omega, rfl⟩
          · exact keep
    · exact keep
theorem beginsP_dir (g : Gr) (o : List (List Int)) (c : Int × Int) : ∀ k, ∃ d : Nat, (beginsP g o c k).2 = (d : Int) ∧ (d < k ∨ d = 0)
  | 0 => ⟨0, rfl, .inr rfl⟩
  | k + 1 => by
    rw [beginsP_succ]
    obtain ⟨d, h1, h2⟩ := beginsP_dir g o c k
    unfold begStep
    have keep : ∃ d : Nat, (beginsP g o c k).2 = (d : Int) ∧ (d < k + 1 ∨ d = 0) := ⟨d, h1, by omega⟩
    split
    · split
      · exact keep
      · split
        · exact ⟨k, rfl, .inl (by omega)⟩
        · split
          · exact ⟨k, rfl, .inl (by omega)⟩
          · exact keep
    · exact keep
/-- whether the route goes on in a direction -/
def hitD (g : Gr) (F : List (List Int)) (at' : Int × Int) (dir d : Nat) : Bool :=
  openP g (besideP at' d) && (decide (0 ≤ outGet F (indexP g (besideP at' d)).toNat d) && decide (outGet F (indexP g (besideP at' d)).toNat d + stepP g dir d = outGet F (indexP g at').toNat dir))
def findD (g : Gr) (F : List (List Int)) (at' : Int × Int) (dir : Nat) : Option Nat := (List.range 4).find? (hitD g F at' dir)
def walkP (g : Gr) (F : List (List Int)) (to : Int × Int) : Nat → List (Int × Int) → Int × Int → Nat → Option (List (Int × Int))
  | 0, _, _, _ => none
  | f + 1, path, at', dir => if at' = to then some path else
    match findD g F at' dir with
    | none => none
    | some d => walkP g F to f (path ++ [besideP at' d]) (besideP at' d) d
/-- path, cost and error; none: the fuel is out -/
def routeP (f : Nat) (w h mv bd : Int) (bl : List (Int × Int)) (fr to : Int × Int) : Option (List (Int × Int) × Int × Int) :=
  if validP w h mv bd bl then
    if openP (grP w h mv bd bl) fr && openP (grP w h mv bd bl) to then
      if fr = to then some ([fr], 0, 0)
      else
        if (beginsP (grP w h mv bd bl) (fieldP (grP w h mv bd bl) to) fr 4).1 < 0 then some ([], 0, 5)
        else (walkP (grP w h mv bd bl) (fieldP (grP w h mv bd bl) to) to f
          [fr, besideP fr (beginsP (grP w h mv bd bl) (fieldP (grP w h mv bd bl) to) fr 4).2.toNat]
          (besideP fr (beginsP (grP w h mv bd bl) (fieldP (grP w h mv bd bl) to) fr 4).2.toNat)
          (beginsP (grP w h mv bd bl) (fieldP (grP w h mv bd bl) to) fr 4).2.toNat).map fun p => (p, (beginsP (grP w h mv bd bl) (fieldP (grP w h mv bd bl) to) fr 4).1, 0)
    else some ([], 0, 72)
  else some ([], 0, 70)

theorem el_xy : ElemK Try.prog 22 26 (.agg #[.int .i64 0, .int .i64 0]) 2 16 :=
  ⟨by kernel_rfl, info_parts (by kernel_rfl), by rfl, by decide, by decide⟩
theorem eqXY (a b c d : Int) (W : World) : (Op.equalIn 10000 26 (.agg #[.int .i64 a, .int .i64 b]) (.agg #[.int .i64 c, .int .i64 d])).run Try.prog W = .ok (a == c && b == d) W := by
  have hu := Try.underlying26
  have hf : Try.prog.fieldsOf 26 = #[{ name := "X", type := 3, offset := 0, embedded := false, tag := "", pkgPath := "", byteOffset := 0 }, { name := "Y", type := 3, offset := 1, embedded := false, tag := "", pkgPath := "", byteOffset := 8 }] := by
    unfold Program.fieldsOf; rw [hu]
  rw [run_equalIn_agg W 9999 26 _ _ (by rw [hf]; exact hu) (by kernel_rfl), hf]
  have hi := Try.underlying3
  simp [Op.eqFields, part, isAgg, run_underlying hi, run_equalIn_int _ _ _ _ _ _ _ hi]
  by_cases h1 : a = c
  · by_cases h2 : b = d
    · simp [h1, h2]
    · simp [h1, h2]
  · simp [h1]

/-- a row of pairs of one's own -/
theorem own_lit2 (w : World) (B : Nat) (e : TypeId) (cur : Array Value) (n : Nat) (hb : B ≤ w.heap.size) (hn : cur.size = n * 2) (hm : n ≤ maxLen) :
    (w.alloc (.cells cur e)).ownsRow B e 2 (.slice (some ⟨w.heap.size, 0, none⟩) n n) n cur.toList := by
  refine ⟨by simp [hn], .inr ⟨w.heap.size, n, cur, rfl, hb, heap_alloc_new w _, Nat.le_refl _, hm, by simp [hn], ?_⟩⟩
  rw [← hn]; exact List.take_of_length_le (by simp)

set_option maxRecDepth 100000 in
theorem route_bad (w h mv bd : Int) (bv : Value) (bl : List (Int × Int)) (fr to : Int × Int) (W : World) (hv : RdP W bv bl) (hb : validP w h mv bd bl = false) :
    Calls Try.prog 17 #[.agg #[.int .i64 w, .int .i64 h, .int .i64 mv, .int .i64 bd, bv], .agg #[.int .i64 fr.1, .int .i64 fr.2], .agg #[.int .i64 to.1, .int .i64 to.2]] W fun e w' => e = .returned (.tuple #[.slice none 0 0, .int .i64 0, .int .i64 70]) ∧ Below W.heap.size W w' := by
  have hbW := Lib.hid ((((Below.refl W.heap.size W).alloc (Nat.le_refl _) (.cells #[.int .i64 w, .int .i64 h, .int .i64 mv, .int .i64 bd, bv] 24)).alloc (by simp) (.cells #[.int .i64 fr.1, .int .i64 fr.2] 26)).alloc (by simp; omega) (.cells #[.int .i64 to.1, .int .i64 to.2] 26))
  have HVA := Lib.hid (fun V (hV : Below W.heap.size W V) => opened_bad w h mv bd bv bl V (hv.below hV) hb)
  obtain ⟨a, cap, rfl, hc, hcm, _, _⟩ := hv
  obtain ⟨f1, f2⟩ := fr
  obtain ⟨t1, t2⟩ := to
  clear hb
  dsimp only at *
  go_enter Try.func17, Try.ntmps17
  go_wp2_with (go_at_call 38; (with_reducible refine (HVA.out _ hbW.out).mono ?_); rintro e w1 ⟨rfl, hb1⟩)
  go_ret3
  exact ⟨rfl, hbW.out.trans (hb1.mono (by simp; omega))⟩

/-- the variables of a call of Route (of Must, ..): a grid and two cells, boxed -/
def Boxes (V : World) (B : Nat) (f1 f2 t1 t2 : Int) : Prop := V.cell? ⟨B + 1, 0, none⟩ = some (.int .i64 f1) ∧ V.cell? ⟨B + 1, 1, none⟩ = some (.int .i64 f2) ∧ V.cell? ⟨B + 1 + 1, 0, none⟩ = some (.int .i64 t1) ∧ V.cell? ⟨B + 1 + 1, 1, none⟩ = some (.int .i64 t2)
theorem Boxes.below {V V' : World} {B : Nat} {f1 f2 t1 t2 : Int} (h : Boxes V B f1 f2 t1 t2) (hb : Below V.heap.size V V') : Boxes V' B f1 f2 t1 t2 :=
  ⟨cell_below h.1 hb, cell_below h.2.1 hb, cell_below h.2.2.1 hb, cell_below h.2.2.2 hb⟩
theorem Boxes.new (W : World) (o : Obj) (f1 f2 t1 t2 : Int) (t : TypeId) : Boxes (((W.alloc o).alloc (.cells #[.int .i64 f1, .int .i64 f2] t)).alloc (.cells #[.int .i64 t1, .int .i64 t2] t)) W.heap.size f1 f2 t1 t2 := by
  have e1 : (W.alloc o).heap.size = W.heap.size + 1 := by simp
  have e2 : ((W.alloc o).alloc (.cells #[.int .i64 f1, .int .i64 f2] t)).heap.size = W.heap.size + 1 + 1 := by simp
  refine ⟨cell_alloc ?_ _, cell_alloc ?_ _, ?_, ?_⟩
  · rw [← e1]; exact World.cell?_alloc_at _ _ _ _ rfl
  · rw [← e1]; exact World.cell?_alloc_at _ _ _ _ rfl
  · rw [← e2]; exact World.cell?_alloc_at _ _ _ _ rfl
  · rw [← e2]; exact World.cell?_alloc_at _ _ _ _ rfl

set_option maxRecDepth 100000 in
theorem route_block (w h : Nat) (mv bd : Int) (bv : Value) (bl : List (Int × Int)) (fr to : Int × Int) (W : World) (hv : RdP W bv bl) (hb : validP w h mv bd bl = true) (ho : (openP (grK w h mv bd bl bl.length) fr && openP (grK w h mv bd bl bl.length) to) = false) :
    Calls Try.prog 17 #[.agg #[.int .i64 w, .int .i64 h, .int .i64 mv, .int .i64 bd, bv], .agg #[.int .i64 fr.1, .int .i64 fr.2], .agg #[.int .i64 to.1, .int .i64 to.2]] W fun e w' => e = .returned (.tuple #[.slice none 0 0, .int .i64 0, .int .i64 72]) ∧ Below W.heap.size W w' := by
  have hbW := Lib.hid ((((Below.refl W.heap.size W).alloc (Nat.le_refl _) (.cells #[.int .i64 w, .int .i64 h, .int .i64 mv, .int .i64 bd, bv] 24)).alloc (by simp) (.cells #[.int .i64 fr.1, .int .i64 fr.2] 26)).alloc (by simp; omega) (.cells #[.int .i64 to.1, .int .i64 to.2] 26))
  have HBX := Lib.hid (Boxes.new W (.cells #[.int .i64 w, .int .i64 h, .int .i64 mv, .int .i64 bd, bv] 24) fr.1 fr.2 to.1 to.2 26)
  have HVA := Lib.hid (fun V (hV : Below W.heap.size W V) => opened_ok w h mv bd bv bl V (hv.below hV) hb)
  have HOA := Lib.hid (fun Bg sb V (hV : GridAt V Bg (grK w h mv bd bl bl.length) bv (some ⟨sb, 0, none⟩) (w * h)) => open_any Bg (grK w h mv bd bl bl.length) bv _ _ fr V hV)
  have HOB := Lib.hid (fun Bg sb V (hV : GridAt V Bg (grK w h mv bd bl bl.length) bv (some ⟨sb, 0, none⟩) (w * h)) => open_any Bg (grK w h mv bd bl bl.length) bv _ _ to V hV)
  obtain ⟨a, cap, rfl, hc, hcm, _, _⟩ := hv
  obtain ⟨f1, f2⟩ := fr
  obtain ⟨t1, t2⟩ := to
  clear hb
  dsimp only at *
  obtain ⟨x1, hx1⟩ : ∃ x, openP (grK w h mv bd bl bl.length) (f1, f2) = x := ⟨_, rfl⟩
  obtain ⟨x2, hx2⟩ : ∃ x, openP (grK w h mv bd bl bl.length) (t1, t2) = x := ⟨_, rfl⟩
  rw [hx1] at HOA ho
  rw [hx2] at HOB ho
  clear hx1 hx2
  cases x1 with
  | false =>
    clear ho
    go_enter Try.func17, Try.ntmps17
    go_wp2_with (first
      | (go_at_call 38; (with_reducible refine (HVA.out _ hbW.out).mono ?_); rintro e w1 ⟨Bg, sb, rfl, hg1, hb1⟩; have HG1 := Lib.hid hg1; have HB1 := Lib.hid (hbW.out.trans (hb1.mono (by simp; omega))); obtain ⟨c1, c2, c3, c4⟩ := HBX.out.below hb1; clear hg1 hb1)
      | (go_at_call 39; (with_reducible refine (HOA.out _ _ _ HG1.out).mono ?_); rintro e w2 ⟨rfl, hb2⟩))
    go_ret3
    exact ⟨rfl, HB1.out.trans (hb2.mono HB1.out.size)⟩
  | true =>
    obtain rfl : x2 = false := by simpa using ho
    clear ho
    go_enter Try.func17, Try.ntmps17
    go_wp2_with (first
      | (go_at_call 38; (with_reducible refine (HVA.out _ hbW.out).mono ?_); rintro e w1 ⟨Bg, sb, rfl, hg1, hb1⟩; have HG1 := Lib.hid hg1; have HB1 := Lib.hid (hbW.out.trans (hb1.mono (by simp; omega))); have HX1 := Lib.hid (HBX.out.below hb1); obtain ⟨c1, c2, c3, c4⟩ := HX1.out; clear hg1 hb1)
      | (go_at_call 39; (with_reducible refine (HOA.out _ _ _ HG1.out).mono ?_); rintro e w2 ⟨rfl, hb2⟩; have HG2 := Lib.hid (HG1.out.below hb2); have HB2 := Lib.hid (HB1.out.trans (hb2.mono HB1.out.size)); obtain ⟨d1, d2, d3, d4⟩ := HX1.out.below hb2; clear hb2)
      | (go_at_call 39; (with_reducible refine (HOB.out _ _ _ HG2.out).mono ?_); rintro e w3 ⟨rfl, hb3⟩))
    go_ret3
    exact ⟨rfl, HB2.out.trans (hb3.mono HB2.out.size)⟩
end Go.Proofs.Ytpakkjkjppibnaa
