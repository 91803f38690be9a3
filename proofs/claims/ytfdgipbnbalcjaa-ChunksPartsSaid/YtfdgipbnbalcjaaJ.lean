/- The walk of ChunksParts, whole. -/
import Derived.Test.YtfdgipbnbalcjaaT
import Derived.Test.YtfdgipbnbalcjaaU
import Derived.Test.YtfdgipbnbalcjaaI
namespace Go.Proofs.Ytfdgipbnbalcjaa
open Go.RowKit

theorem parts_walk (a b : Int) (t : Bool) (c d i : Int) (w : World) (ic : I64 c) (id : I64 d) :
    Calls Try.prog 3 #[.agg #[.int .i64 a, .int .i64 b, .bool t, .int .i64 c, .int .i64 d], .int .i64 i] w fun e w' => e = .returned (.bool true) ∧ Below w.heap.size w w' := by
  by_cases h : Ch.Right a b t c d
  · by_cases hi : i < 0 ∨ Ch.cnt a c * Ch.cnt b d ≤ i
    · exact parts_walk_oob a b t c d i w h hi
    · exact parts_walk_in a b t c d i w h (by omega) (by omega)
  · exact parts_walk_no a b t c d i w h ic id
end Go.Proofs.Ytfdgipbnbalcjaa
