/-
  Functions that are given by what they compute.
-/
import Derived.Test.YtnieokpcakhfpaaGreatAmDefs
namespace Go.AM
/-- The labels of a name. -/
def cutL : Nat → List UInt8 → Option (List (List UInt8))
  | _, [] => some []
  | 0, _ => none
  | n + 1, k :: rest => if k.toNat < 1 ∨ k.toNat > 63 ∨ k.toNat > rest.length then none else (cutL n (rest.drop k.toNat)).map ((rest.take k.toNat) :: ·)
def cut (s : List UInt8) : Option (List (List UInt8)) := if s.length > 254 then none else cutL s.length s
def oCut (H : Heap) : List AV → Option (AV × Heap)
  | [.str s] => match cut s with
    | none => some (.tup [.nils, .bool false], H)
    | some [] => some (.tup [.nils, .bool true], H)
    | some l => some (.tup [.slice H.next 0 0 l.length 1 false, .bool true], H.push (.cells (l.map .str) 0))
  | _ => none
def joinL : List (List UInt8) → Nat → List UInt8 → Option (List UInt8)
  | [], _, acc => if acc.length > 254 then none else some acc
  | x :: xs, n, acc => if x.isEmpty ∨ x.length > 63 ∨ acc.length > 254 then none else joinL xs n (acc ++ [UInt8.ofNat x.length] ++ x)
def strs : List AV → Option (List (List UInt8)) := mapO fun | .str s => some s | _ => none
def cellsOf : AV → Option (List AV)
  | .nils => some []
  | .vslice _ cs _ _ _ => some cs
  | _ => none
def joinA (l : List (List UInt8)) : AV :=
  match joinL l 0 [] with
  | some s => .tup [.str s, .int .i64 0]
  | none => .tup [.str [], .int .i64 1]
def oJoin : List AV → Option AV
  | [.nils] => some (joinA [])
  | [.vslice _ cs len esz _] => match strs cs with
    | some l => if esz = 1 ∧ len < 2 ^ 40 then some (joinA l) else none
    | none => none
  | _ => none
def wideL : Nat → Int → List UInt8
  | 0, _ => []
  | w + 1, n => wideL w (n / 256) ++ [UInt8.ofNat (n % 256).toNat]
def oWide : List AV → Option AV
  | [.int _ n, .int _ (.ofNat w)] => some (.str (wideL w n))
  | _ => none
/-- The numbers of all tasks, where there is one, or none. -/
def oNumbers (call : CallF) (H : Heap) : List AV → Option (AV × Heap)
  | [.ptr o st off] => match H.get o with
    | some (.cells cs st') => if st = st' then (match cs[off + 8]? with
      | some (.map m) => (match H.get m with
        | some (.map []) => (match call 352 H [.nils] with
          | some (_, H1) => some (.nils, H1)
          | none => none)
        | some (.map [(.int .i64 k, _)]) => (match call 352 (H.push (.cells [.int .i64 k] 0)) [.slice H.next 0 0 1 1 false] with
          | some (_, H1) => some (.slice H.next 0 0 1 1 false, H1)
          | none => none)
        | _ => none)
      | _ => none) else none
    | _ => none
  | _ => none
def oGet (call : CallF) : List AV → Option AV
  | [.vptr _ (_ :: _ :: .nils :: _), .agg [.str qn, .int .i64 _], .int .i64 now] =>
    if 0 ≤ now ∧ now ≤ 1099511627776 then (match call 120 Heap.empty [.str qn] with
      | some (.str _, _) => some (.tup [.int .i64 0, .agg [.str [], .int .i64 0, .int .i64 0, .str []], .bool false])
      | _ => none)
    else none
  | _ => none
/-- slices.Delete, in place. -/
def oDelete (zero : List AV) (H : Heap) : List AV → Option (AV × Heap)
  | [.slice o st off len esz tight, .int .i64 (.ofNat i), .int .i64 (.ofNat j)] => match H.get o with
    | some (.cells cs st') =>
      if st = st' ∧ off + len * esz ≤ cs.length ∧ i ≤ j ∧ j ≤ len ∧ esz = zero.length then
        (if i = j then some (.slice o st off len esz tight, H)
        else some (.slice o st off (len - (j - i)) esz false, H.set o (.cells (cs.take (off + i * esz) ++ (cs.drop (off + j * esz)).take ((len - j) * esz) ++ zeros zero (j - i) ++ cs.drop (off + len * esz)) st)))
      else none
    | _ => none
  | _ => none
end Go.AM
