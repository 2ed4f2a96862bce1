/- Layout: the library's heap over a list of places, plain: a twin of its own steps. -/
import Derived.Test.YtpakkjkjppibnaaBase
namespace Go.Proofs.Ytpakkjkjppibnaa

/-- a place: a cell, the direction by which a path has come, the cost that is left -/
abbrev Pl := Int × Int × Int
def plc (x : Pl) : List Value := [.int .i64 x.1, .int .i64 x.2.1, .int .i64 x.2.2]
def plcs (l : List Pl) : List Value := l.flatMap plc
theorem plcs_len (l : List Pl) : (plcs l).length = l.length * 3 := by
  induction l with
  | nil => rfl
  | cons x l ih => simp only [plcs, List.flatMap_cons, List.length_append] at ih ⊢; rw [ih]; simp [plc]; omega
theorem plcs_append (l r : List Pl) : plcs (l ++ r) = plcs l ++ plcs r := by simp [plcs]
theorem plcs_cell (l : List Pl) : ∀ u ∈ plcs l, u.oneCell' = true := fun u hu => by
  obtain ⟨x, _, h⟩ := List.mem_flatMap.1 hu
  simp [plc] at h
  rcases h with rfl | rfl | rfl <;> rfl

def plD : Pl := (0, 0, 0)
def lessP (l : List Pl) (i j : Nat) : Bool := decide ((l.getD i plD).2.2 < (l.getD j plD).2.2)
def swapP (l : List Pl) (i j : Nat) : List Pl := (l.set i (l.getD j plD)).set j (l.getD i plD)
def upP : Nat → List Pl → Nat → List Pl
  | 0, l, _ => l
  | f + 1, l, j => if j = 0 then l else if lessP l j ((j - 1) / 2) then upP f (swapP l ((j - 1) / 2) j) ((j - 1) / 2) else l
def kid (l : List Pl) (i n : Nat) : Nat := if 2 * i + 2 < n ∧ lessP l (2 * i + 2) (2 * i + 1) = true then 2 * i + 2 else 2 * i + 1
def downP : Nat → List Pl → Nat → Nat → List Pl
  | 0, l, _, _ => l
  | f + 1, l, i, n => if n ≤ 2 * i + 1 then l else if lessP l (kid l i n) i then downP f (swapP l i (kid l i n)) (kid l i n) n else l
def pushP (l : List Pl) (x : Pl) : List Pl := upP (l.length + 1) (l ++ [x]) l.length
def popL (l : List Pl) : List Pl := downP l.length (swapP l 0 (l.length - 1)) 0 (l.length - 1)
def popX (l : List Pl) : Pl := (popL l).getD (l.length - 1) plD
def popR (l : List Pl) : List Pl := (popL l).take (l.length - 1)
theorem swapP_len (l : List Pl) (i j : Nat) : (swapP l i j).length = l.length := by simp [swapP]
theorem upP_len : ∀ f l j, (upP f l j).length = l.length
  | 0, _, _ => rfl
  | f + 1, l, j => by
    unfold upP
    split
    · rfl
    · split
      · rw [upP_len, swapP_len]
      · rfl
theorem downP_len : ∀ f l i n, (downP f l i n).length = l.length
  | 0, _, _, _ => rfl
  | f + 1, l, i, n => by
    unfold downP
    split
    · rfl
    · split
      · rw [downP_len, swapP_len]
      · rfl
theorem pushP_len (l : List Pl) (x : Pl) : (pushP l x).length = l.length + 1 := by unfold pushP; rw [upP_len]; simp
theorem popL_len (l : List Pl) : (popL l).length = l.length := by unfold popL; rw [downP_len, swapP_len]
theorem popR_len (l : List Pl) : (popR l).length = l.length - 1 := by unfold popR; rw [List.length_take, popL_len]; omega
theorem kid_lt {l : List Pl} {i n : Nat} (h : ¬ n ≤ 2 * i + 1) : i < kid l i n ∧ kid l i n < n := by
  unfold kid
  split <;> omega

/-! ### the field -/
/-- the neighbour of a cell -/
def besideP (c : Int × Int) (d : Nat) : Int × Int := match d % 4 with | 0 => (c.1 + 1, c.2) | 1 => (c.1, c.2 + 1) | 2 => (c.1 - 1, c.2) | _ => (c.1, c.2 - 1)
structure Gr where
  w : Nat
  h : Nat
  move : Int
  bend : Int
  shut : List Bool
def onP (w h : Int) (c : Int × Int) : Bool := decide (0 ≤ c.1) && decide (c.1 ≤ w - 1) && (decide (0 ≤ c.2) && decide (c.2 ≤ h - 1))
def indexP (g : Gr) (c : Int × Int) : Int := c.2 * g.w + c.1
def cellP (g : Gr) (i : Nat) : Int × Int := (((i % g.w : Nat) : Int), ((i / g.w : Nat) : Int))
def openP (g : Gr) (c : Int × Int) : Bool := onP g.w g.h c && !(g.shut.getD (indexP g c).toNat false)
def stepP (g : Gr) (b d : Nat) : Int := if b = d then g.move else g.move + g.bend
def quad := List Int
def outGet (o : List (List Int)) (i d : Nat) : Int := (o.getD i []).getD d 0
def outSet (o : List (List Int)) (i d : Nat) (x : Int) : List (List Int) := o.set i ((o.getD i []).set d x)
/-- one turn of the field's loop -/
def turnP (g : Gr) (s : List Pl × List (List Int)) : List Pl × List (List Int) :=
  let p := popX s.1
  let l := popR s.1
  if 0 ≤ outGet s.2 p.1.toNat p.2.1.toNat then (l, s.2)
  else
    let o := outSet s.2 p.1.toNat p.2.1.toNat p.2.2
    let back := besideP (cellP g p.1.toNat) (p.2.1.toNat + 2)
    if openP g back then ((List.range 4).foldl (fun l (d : Nat) => pushP l (indexP g back, (d : Int), p.2.2 + stepP g d p.2.1.toNat)) l, o)
    else (l, o)
def loopP (g : Gr) : Nat → List Pl × List (List Int) → List Pl × List (List Int)
  | 0, s => s
  | f + 1, s => if s.1.length = 0 then s else loopP g f (turnP g s)
def startP (g : Gr) (to : Int × Int) : List Pl × List (List Int) := ((List.range 4).foldl (fun l (d : Nat) => pushP l (indexP g to, (d : Int), 0)) [], List.replicate (g.w * g.h) [-1, -1, -1, -1])
end Go.Proofs.Ytpakkjkjppibnaa
