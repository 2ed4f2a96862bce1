/- Heat: two arrays of two numbers compared. -/
import Derived.Test.YtnaoanmkepcinaaHSame
import Derived.ChangeKeysEq
namespace Go.Proofs.Ytnaoanmkepcinaa
open Go.RowKit

theorem eq2 (a b c d : Int) (W : World) : (Op.equalIn 10000 36 (.agg #[.int .i64 a, .int .i64 b]) (.agg #[.int .i64 c, .int .i64 d])).run Try.prog W = .ok (a == c && b == d) W := by
  obtain ⟨i, hi, _, hs, _⟩ := el_int.info
  have hc : Try.prog.cellsOf 3 = 1 := by kernel_rfl
  rw [run_equalIn_array W 9999 _ _ Try.underlying36 hi, hc]
  have hu := Try.underlying3
  simp [Op.eqItems, List.range, List.range.loop, part, isAgg, run_underlying hu, run_equalIn_int _ _ _ _ _ _ _ hu]
  by_cases h1 : a = c
  · by_cases h2 : b = d
    · simp [h1, h2]
    · simp [h1, h2]
  · simp [h1]
end Go.Proofs.Ytnaoanmkepcinaa
