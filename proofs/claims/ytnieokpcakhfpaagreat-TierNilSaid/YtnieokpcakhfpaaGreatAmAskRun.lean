/-
  coal.Ask, where its table holds one task, or none: what it computes.
-/
import Derived.Test.YtnieokpcakhfpaaGreatAmAskCode
namespace Go.AM
/-! Runs put together. -/
def seqR (f g : Run) : Run := fun A H => match f A H with
  | none => none
  | some (.normal, A', H') => g A' H'
  | some (o, A', H') => some (o, A', H')
def runFn (nt d : Nat) (ars : List ARes) (f : Run) (args : List AV) (H : Heap) : Option (AV × Heap) :=
  if args.length ≤ nt then
    match f ((Tr.blank d).fill 0 args) H with
    | some (.normal, A, H') | some (.ret, A, H') => (match results ars A H' with
      | some v => some (v, H')
      | none => none)
    | _ => none
  else none

namespace Ask
/-- The range over the table's tasks. -/
def mid (call : CallF) : Run := fun A H => match runIns call pre A H with
  | none => none
  | some (A2, H2) => match A2.get 32 with
    | .map o => match H2.get o with
      | some (.map []) => some (.normal, ((A2.set 33 (.vptr false [])).set 34 (.tup [.bool false])).set 35 (.bool false), H2)
      | some (.map [(k, v)]) => match runIns call vars ((((A2.set 33 (.vptr false [])).set 34 (.tup [.bool true, k, v])).set 35 (.bool true)).set 36 (.tup [k, v])) H2 with
        | none => none
        | some (A4, H4) => match exec ⟨call, fun _ => false⟩ rest A4 H4 with
          | some (.ret, A5, H5) => some (.ret, A5, H5)
          | _ => none
      | _ => none
    | _ => none

def run (call : CallF) : Run := seqR (exec ⟨call, fun _ => false⟩ h0) (seqR (exec ⟨call, fun _ => false⟩ h1) (seqR (exec ⟨call, fun _ => false⟩ h3) (seqR (mid call) (exec ⟨call, fun _ => false⟩ tail))))
end Ask
def oAsk (call : CallF) (H : Heap) (args : List AV) : Option (AV × Heap) := runFn 102 7 [.tmp 6, .tmp 7, .tmp 8] (Ask.run call) args H

end Go.AM
