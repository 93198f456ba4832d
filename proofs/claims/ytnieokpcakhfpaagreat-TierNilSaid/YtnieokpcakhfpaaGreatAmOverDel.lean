/-
  slices.Delete, in place, at packets: what it computes.
-/
import Derived.Test.YtnieokpcakhfpaaGreatAmDefs
namespace Go.AM
def delZero : List AV := [.int .i64 0, .int .i64 0, .str []]
def oDel (H : Heap) : List AV → Option (AV × Heap)
  | [.slice o st off len 3 tight, .int .i64 (.ofNat i), .int .i64 (.ofNat j)] => match H.get o with
    | some (.cells cs st') =>
      if st = st' ∧ off + len * 3 ≤ cs.length ∧ i ≤ j ∧ j ≤ len ∧ cs.all AV.isCell = true then
        (if i = j then some (.slice o st off len 3 tight, H)
        else some (.slice o st off (i + (len - j)) 3 false,
          (H.set o (.cells (splice cs (off + i * 3) ((cs.drop (off + j * 3)).take ((len - j) * 3))) st)).set o
            (.cells (splice (splice cs (off + i * 3) ((cs.drop (off + j * 3)).take ((len - j) * 3))) (off + (i + (len - j)) * 3) (zeros delZero (j - i))) st)))
      else none
    | _ => none
  | _ => none
end Go.AM
