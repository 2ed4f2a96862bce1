/- Layout: how long a grid's list may be that came in. -/
import Derived.Test.YtpakkjkjppibnaaGArgs
import Derived.SizedLaws
namespace Go.Proofs.Ytpakkjkjppibnaa
open Go.ChangeShapes Go.WideShapes Go.ChangeAt Go.RowKit

section
variable {H : Type} {enc : TypeId × Value → H} {w : World}
set_option maxRecDepth 100000 in
theorem grid_len {x0 x1 x2 x3 u : Value} {l : List (Int × Int)} {d : DataW H} {ps : List MemPlace} {ts : List TypeId} {ds : List (DataW H)} {j : Nat} (h : DataW.Trod enc Try.prog w 0 (fun _ => true) true 24 (.agg #[x0, x1, x2, x3, u]) d ps) (hR : RdP w u l)
    (hs : (DataW.weightsEach Try.prog ts ds).all (· ≤ reachBytes) = true) (ht : ts[j]? = some 24) (hd : ds[j]? = some d) : l.length ≤ 8796093022000 := by
  obtain ⟨a, cap, rfl, _, _, _, _⟩ := hR
  obtain ⟨fuel, hf⟩ := h
  obtain ⟨xs, n, _, hx, _, hxs, hfl⟩ := DataW.trod_struct Try.underlying24 hf
  have hc : Try.prog.cellsOf 3 = 1 := by kernel_rfl
  have hc1 : Try.prog.cellsOf 22 = 1 := by kernel_rfl
  obtain ⟨y4, hy4⟩ : ∃ y, xs[4]? = some y := ⟨_, List.getElem?_eq_getElem (by simp at hxs; omega)⟩
  have g4 := hfl 4 _ rfl
  rw [hy4] at g4
  have k4 : DataW.trod enc Try.prog w 0 (fun _ => true) true n 22 [.slice a l.length cap] = some y4 := by simpa [Value.cells, hc, hc1] using g4
  have hd2 : d = .agg (xs.map (·.1)) := by injection hx
  rcases Deep.open_slice Try.underlying22 k4 with ⟨hcs, _⟩ | ⟨b, len, cp, m, n', D, Pl, hcs, _, _, _, _, hy, _⟩
  · simp at hcs; omega
  · simp at hcs
    obtain ⟨_, hlen, _⟩ := hcs
    have hb : Try.prog.bytesOf 26 = 16 := by kernel_rfl
    have hw : (len + (m - len)) * 16 ∈ d.weights Try.prog 24 := by
      rw [hd2]
      simp only [DataW.weights, show Try.prog.underlying 24 = _ from Try.underlying24]
      refine DataW.weights_mem_each (j := 4) (t := 22) (d := y4.1) rfl (by rw [List.getElem?_map, hy4]; rfl) _ ?_
      rw [hy]
      simp only [DataW.weights, show Try.prog.underlying 22 = _ from Try.underlying22, hb]
      simp
    have := List.all_eq_true.1 hs _ (DataW.weights_mem_each ht hd _ hw)
    have h2 : (len + (m - len)) * 16 ≤ reachBytes := of_decide_eq_true this
    have h3 : reachBytes = 140737488351232 := rfl
    rw [h3] at h2
    omega
end
end Go.Proofs.Ytpakkjkjppibnaa
