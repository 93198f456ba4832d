/-
  An abstract machine for a part of the language: values, a small heap, code, and its run.
  It is a plain Lean function; AmSound proves that the model's run does what it says.
-/
import Derived.Orders
namespace Go.AM

inductive AV where
  | bool (b : Bool)
  | int (k : IntKind) (n : Int)
  | str (s : List UInt8)
  | nilp
  | ptr (o st off : Nat)
  | vptr (br : Bool) (cells : List AV)
  | nils
  | slice (o st off len esz : Nat) (tight : Bool)
  | vslice (br : Bool) (cells : List AV) (len esz : Nat) (tight : Bool)
  | nilm
  | map (o : Nat)
  | nilf
  | func (f : Nat) (cap : List AV)
  | agg (cells : List AV)
  | tup (vs : List AV)
  deriving Inhabited

inductive AObj where
  | cells (cs : List AV) (st : Nat)
  | map (es : List (AV × AV))
  | dead
  deriving Inhabited

structure Heap where
  next : Nat
  objs : List AObj

def Heap.empty : Heap := ⟨0, []⟩
def Heap.get (H : Heap) (o : Nat) : Option AObj := if o < H.next then H.objs[H.next - 1 - o]? else none
def Heap.set (H : Heap) (o : Nat) (x : AObj) : Heap := ⟨H.next, H.objs.set (H.next - 1 - o) x⟩
def Heap.push (H : Heap) (x : AObj) : Heap := ⟨H.next + 1, x :: H.objs⟩

inductive Opd where
  | t (i : Nat)
  | c (v : AV)

/-- What `==` compares: pointers, slices, maps, functions (with nil), bools, structs of plain fields. -/
inductive PK where
  | i | s | b
inductive EqK where
  | ptr | slc | mp | fn | bl | st (ks : List PK)
/-- What a map's keys are: one plain cell, or a struct of such. -/
inductive KK where
  | one (k : PK) | st (ks : List PK)
inductive LK where
  | slc | str | mp

inductive AOp where
  | mv (x : Opd)
  | pick (c a b : Opd)
  | alloc (zero : List AV)
  | box (imm : Bool) (x : Opd)
  | build (zero : List AV) (parts : List (Nat × Nat × Opd))
  | mkslice (imm : Bool) (zero : List AV) (esz len : Nat) (parts : List (Nat × Nat × Opd))
  | load (n : Nat) (ag : Bool) (x : Opd)
  | store (n : Nat) (x v : Opd)
  | nilchk (x : Opd)
  | bin (op : BinOp) (x y : Opd)
  | eq (neg : Bool) (k : EqK) (x y : Opd)
  | un (op : UnOp) (x : Opd)
  | conv (k : IntKind) (x : Opd)
  | s2b (imm : Bool) (x : Opd)
  | b2s (x : Opd)
  | s2s (x : Opd)
  | mkfunc (f : Nat) (caps : List Opd)
  | mkmap
  | mkslc (zero : List AV) (x y : Opd)
  | slice (esz : Nat) (x : Opd) (lo hi mx : Option Opd)
  | substr (x : Opd) (lo hi : Option Opd)
  | faddr (off : Nat) (x : Opd)
  | fld (off n : Nat) (ag : Bool) (x : Opd)
  | iaddr (esz : Nat) (x i : Opd)
  | idxs (x i : Opd)
  | idxa (n : Nat) (ag : Bool) (len : Nat) (x i : Opd)
  | lookup (kk : KK) (zero : AV) (ok : Bool) (m k : Opd)
  | mapset (kk : KK) (m k v : Opd)
  | ext (x : Opd) (i : Nat)
  | call (f : Nat) (args : List Opd)
  | calld (f : Opd) (args : List Opd)
  | append (esz : Nat) (x y : Opd)
  | len (k : LK) (x : Opd)
  | mins (xs : List Opd)
  | maxs (xs : List Opd)
  | delete (kk : KK) (m k : Opd)
  | clear (zero : List AV) (x : Opd)

structure AIns where
  dst : Option Nat
  guard : Option (Nat × Bool)
  op : AOp

inductive ACode where
  | skip
  | region (ins : List AIns)
  | draw (ins : List AIns) (pairs : List (Nat × Nat))
  | seq (a b : ACode)
  | cond (c : Opd) (a b : ACode)
  | block (id : Nat) (a : ACode)
  | loop (a : ACode)
  | exit (id : Nat)
  | ret
  | scope (a : ACode) (l : Nat) (rest : ACode)
  | label (l : Nat)
  | goto (l : Nat)

inductive ARes where
  | tmp (t : Nat)
  | cell (t n : Nat) (ag : Bool)

structure AFunc where
  ntmps : Nat
  depth : Nat
  results : List ARes
  body : ACode
  pure : Bool

abbrev CallF := Nat → Heap → List AV → Option (AV × Heap)

/-! Deep looks and turns. -/
mutual
def AV.closed : AV → Bool
  | .ptr .. | .slice .. | .map _ => false
  | .vptr _ cs => closedL cs
  | .vslice _ cs _ _ _ => closedL cs
  | .func _ cs => closedL cs
  | .agg cs => closedL cs
  | .tup cs => closedL cs
  | _ => true
def closedL : List AV → Bool
  | [] => true
  | v :: vs => v.closed && closedL vs
end

mutual
def AV.noBr : AV → Bool
  | .vptr br cs => !br && noBrL cs
  | .vslice br cs _ _ _ => !br && noBrL cs
  | .func _ cs => noBrL cs
  | .agg cs => noBrL cs
  | .tup cs => noBrL cs
  | _ => true
def noBrL : List AV → Bool
  | [] => true
  | v :: vs => v.noBr && noBrL vs
end

/-- All of `l` by `f`, or none. -/
def mapO {α β : Type} (f : α → Option β) : List α → Option (List β)
  | [] => some []
  | x :: xs => match f x with
    | none => none
    | some y => match mapO f xs with
      | none => none
      | some ys => some (y :: ys)

/-- A value without references into the heap: what they lead to in their place (`br`: it is only lent). -/
def cvt (br : Bool) (H : Heap) : Nat → AV → Option AV
  | 0, _ => none
  | n + 1, v => match v with
    | .ptr o st off => match H.get o with
      | some (.cells cs st') =>
        if st = st' then (mapO (cvt br H n) (cs.drop off)).map (.vptr br) else none
      | _ => none
    | .slice o st off len esz tight => match H.get o with
      | some (.cells cs st') =>
        if st = st' ∧ off + len * esz ≤ cs.length then (mapO (cvt br H n) ((cs.drop off).take (len * esz))).map (.vslice br · len esz tight) else none
      | _ => none
    | .map _ => none
    | .vptr b cs => (mapO (cvt br H n) cs).map (.vptr b)
    | .vslice b cs len esz t => (mapO (cvt br H n) cs).map (.vslice b · len esz t)
    | .func f cs => (mapO (cvt br H n) cs).map (.func f)
    | .agg cs => (mapO (cvt br H n) cs).map .agg
    | .tup cs => (mapO (cvt br H n) cs).map .tup
    | v => some v

def deep : Nat := 30
def sealV (H : Heap) (v : AV) : Option AV := if v.closed then some v else cvt false H deep v

/-- A call of a function that only reads what it is handed. -/
def callP (den : List AV → Option AV) (H : Heap) (args : List AV) : Option AV :=
  if closedL args then den args
  else match mapO (cvt true H deep) args with
    | none => none
    | some as => match den as with
      | none => none
      | some r => if r.noBr then some r else none

/-! Slots: a tree by the bits of the number. -/
inductive Tr where
  | lf (v : AV)
  | nd (a b : Tr)
def Tr.get : Tr → Nat → AV
  | .lf v, n => cond (Nat.beq n 0) v (.tup [])
  | .nd a b, n => cond (Nat.beq (n % 2) 0) (a.get (n / 2)) (b.get (n / 2))
def Tr.set : Tr → Nat → AV → Tr
  | .lf u, n, v => cond (Nat.beq n 0) (.lf v) (.lf u)
  | .nd a b, n, v => cond (Nat.beq (n % 2) 0) (.nd (a.set (n / 2) v) b) (.nd a (b.set (n / 2) v))
def Tr.blank : Nat → Tr
  | 0 => .lf (.tup [])
  | d + 1 => .nd (Tr.blank d) (Tr.blank d)
def Tr.fill : Tr → Nat → List AV → Tr
  | t, _, [] => t
  | t, i, v :: vs => Tr.fill (t.set i v) (i + 1) vs

/-! Operations. -/
def ev (A : Tr) : Opd → AV
  | .t i => A.get i
  | .c v => v

/-- May a value lie in one cell? -/
def AV.isCell : AV → Bool
  | .agg _ | .tup _ => false
  | _ => true
def AV.parts : AV → List AV
  | .agg cs => cs
  | v => [v]
/-- Cells laid over others from a place on. -/
def splice (cs : List AV) (off : Nat) (vs : List AV) : List AV := cs.take off ++ vs ++ cs.drop (off + vs.length)

def getPart (cs : List AV) (off n : Nat) (ag : Bool) : Option AV :=
  if ag then (if off + n ≤ cs.length then some (.agg ((cs.drop off).take n)) else none) else cs[off]?

def loadV (H : Heap) (n : Nat) (ag : Bool) : AV → Option AV
  | .ptr o st off => match H.get o with
    | some (.cells cs st') => if st = st' then getPart cs off n ag else none
    | _ => none
  | .vptr _ cs => getPart cs 0 n ag
  | _ => none

/-- The cells of a value that is to be stored in a variable of so many cells. -/
def storable (n : Nat) (v : AV) : Option (List AV) :=
  if v.parts.length = n ∧ v.parts.all AV.isCell then some v.parts else none

def storeV (H : Heap) (n : Nat) (p v : AV) : Option Heap :=
  match p with
  | .ptr o st off => match H.get o, storable n v with
    | some (.cells cs st'), some vs => if st = st' ∧ off + n ≤ cs.length then some (H.set o (.cells (splice cs off vs) st)) else none
    | _, _ => none
  | _ => none

def fillV (cs : List AV) : List (Nat × Nat × AV) → Option (List AV)
  | [] => some cs
  | (off, n, v) :: rest =>
    if v.parts.length = n ∧ off + n ≤ cs.length then fillV (splice cs off v.parts) rest else none

def bytesLess : List UInt8 → List UInt8 → Bool
  | _, [] => false
  | [], _ :: _ => true
  | a :: x, b :: y => a < b || (a == b && bytesLess x y)

def intBin (op : BinOp) (k : IntKind) (a b : Int) : Option AV :=
  match op with
  | .add => some (.int k (k.wrap (a + b)))
  | .sub => some (.int k (k.wrap (a - b)))
  | .mul => some (.int k (k.wrap (a * b)))
  | .quo => if b = 0 then none else some (.int k (k.wrap (a.tdiv b)))
  | .rem => if b = 0 then none else some (.int k (a.tmod b))
  | .and => some (.int k (k.wrap (BitVec.ofInt k.bits a &&& BitVec.ofInt k.bits b).toNat))
  | .or => some (.int k (k.wrap (BitVec.ofInt k.bits a ||| BitVec.ofInt k.bits b).toNat))
  | .xor => some (.int k (k.wrap (BitVec.ofInt k.bits a ^^^ BitVec.ofInt k.bits b).toNat))
  | .eql => some (.bool (a == b))
  | .neq => some (.bool (a != b))
  | .lss => some (.bool (a < b))
  | .leq => some (.bool (a ≤ b))
  | .gtr => some (.bool (a > b))
  | .geq => some (.bool (a ≥ b))
  | _ => none

def strBin (op : BinOp) (a b : List UInt8) : Option AV :=
  match op with
  | .add => if a.length + b.length < 2 ^ 40 then some (.str (a ++ b)) else none
  | .eql => some (.bool (a == b))
  | .neq => some (.bool (!(a == b)))
  | .lss => some (.bool (bytesLess a b))
  | .leq => some (.bool (bytesLess a b || a == b))
  | .gtr => some (.bool (!(bytesLess a b || a == b)))
  | .geq => some (.bool (!bytesLess a b))
  | _ => none

/-- Are two cells the same? (whole numbers, texts, bools) -/
def cellEq : PK → AV → AV → Option Bool
  | .i, .int k a, .int k' b => if k = k' then some (a == b) else none
  | .s, .str a, .str b => some (a == b)
  | .b, .bool a, .bool b => some (a == b)
  | _, _, _ => none
def cellsEq : List PK → List AV → List AV → Option Bool
  | [], [], [] => some true
  | k :: ks, a :: as, b :: bs => match cellEq k a b with
    | some true => cellsEq ks as bs
    | some false => if as.length = ks.length ∧ bs.length = ks.length then some false else none
    | none => none
  | _, _, _ => none

/-- `==` against nil, of bools and of structs. -/
def eqV : EqK → AV → AV → Option Bool
  | .ptr, .nilp, .nilp => some true
  | .ptr, .ptr .., .nilp | .ptr, .vptr .., .nilp | .ptr, .nilp, .ptr .. | .ptr, .nilp, .vptr .. => some false
  | .slc, .nils, .nils => some true
  | .slc, .slice .., .nils | .slc, .vslice .., .nils | .slc, .nils, .slice .. | .slc, .nils, .vslice .. => some false
  | .mp, .nilm, .nilm => some true
  | .mp, .map _, .nilm | .mp, .nilm, .map _ => some false
  | .fn, .nilf, .nilf => some true
  | .fn, .func .., .nilf | .fn, .nilf, .func .. => some false
  | .bl, .bool a, .bool b => some (a == b)
  | .st ks, .agg as, .agg bs => cellsEq ks as bs
  | _, _, _ => none

def binV (op : BinOp) (x y : AV) : Option AV :=
  match x, y with
  | .int k a, .int k' b =>
    match op with
    | .shl => if b < 0 then none else some (.int k (k.wrap (a * 2 ^ (min b.toNat k.bits))))
    | .shr => if b < 0 then none else some (.int k (a.fdiv (2 ^ (min b.toNat k.bits))))
    | _ => if k = k' then intBin op k a b else none
  | .str a, .str b => strBin op a b
  | _, _ => none

def unV (op : UnOp) (x : AV) : Option AV :=
  match op, x with
  | .neg, .int k n => some (.int k (k.wrap (0 - n)))
  | .not, .bool b => some (.bool (!b))
  | _, _ => none

def bytesOf : List UInt8 → List AV
  | [] => []
  | b :: bs => .int .u8 b.toNat :: bytesOf bs
def toBytes : List AV → Option (List UInt8)
  | [] => some []
  | .int .u8 n :: cs => match toBytes cs with
    | some bs => some (UInt8.ofNat n.toNat :: bs)
    | none => none
  | _ :: _ => none

/-- The cells of a slice's elements, and how many of those there are. -/
def elems (H : Heap) : AV → Option (List AV × Nat)
  | .nils => some ([], 0)
  | .slice o st off len esz _ => match H.get o with
    | some (.cells cs st') => if st = st' ∧ off + len * esz ≤ cs.length then some ((cs.drop off).take (len * esz), len) else none
    | _ => none
  | .vslice _ cs len _ _ => some (cs, len)
  | .str s => some (bytesOf s, s.length)
  | _ => none

def big : Nat := 2 ^ 32
def appendV (H : Heap) (esz : Nat) (x y : AV) : Option (AV × Heap) :=
  match elems H y with
  | none => none
  | some (new, n) =>
    if n * esz ≠ new.length ∨ esz = 0 then none else
    if n = 0 then (match x with
      | .nils => some (x, H)
      | .slice _ _ _ _ e _ => if e = esz then some (x, H) else none
      | .vslice _ _ _ e _ => if e = esz then some (x, H) else none
      | _ => none)
    else match x with
    | .nils => if n < big then some (.slice H.next 0 0 n esz false, H.push (.cells new 0)) else none
    | .slice o st off len e tight => match H.get o with
      | some (.cells cs st') =>
        if st = st' ∧ off + len * esz ≤ cs.length ∧ e = esz ∧ len + n < big ∧ new.all AV.isCell then
          let all := (cs.drop off).take (len * esz) ++ new
          if tight then some (.slice H.next 0 0 (len + n) esz false, H.push (.cells all 0))
          else some (.slice o (st + 1) 0 (len + n) esz false, H.set o (.cells all (st + 1)))
        else none
      | _ => none
    | .vslice _ cs len e tight =>
      if tight ∧ e = esz ∧ len + n < big then some (.slice H.next 0 0 (len + n) esz false, H.push (.cells (cs ++ new) 0)) else none
    | _ => none

def bound (x : AV) : Option Nat :=
  match x with
  | .int _ (.ofNat i) => some i
  | _ => none
def boundO (x : Option AV) (d : Nat) : Option Nat :=
  match x with
  | none => some d
  | some v => bound v

def substrV (x : AV) (lo hi : Option AV) : Option AV :=
  match x with
  | .str s => match boundO hi s.length, boundO lo 0 with
    | some h, some l => if l ≤ h ∧ h ≤ s.length then some (.str ((s.drop l).take (h - l))) else none
    | _, _ => none
  | _ => none

def sliceV (esz : Nat) (x : AV) (lo hi mx : Option AV) : Option AV :=
  match x with
  | .nils => match boundO hi 0, boundO lo 0, mx with
    | some h, some l, none => if l = 0 ∧ h = 0 then some .nils else none
    | some h, some l, some m => if l = 0 ∧ h = 0 ∧ bound m = some 0 ∧ hi.isSome then some .nils else none
    | _, _, _ => none
  | .slice o st off len e tight => match boundO hi len, boundO lo 0 with
    | some h, some l =>
      if l ≤ h ∧ h ≤ len ∧ e = esz then (match mx with
        | none => some (.slice o st (off + l * esz) (h - l) esz (tight && h == len))
        | some m => if bound m = some h ∧ hi.isSome then some (.slice o st (off + l * esz) (h - l) esz true) else none)
      else none
    | _, _ => none
  | .vslice br cs len e tight => match boundO hi len, boundO lo 0 with
    | some h, some l =>
      if l ≤ h ∧ h ≤ len ∧ e = esz then (match mx with
        | none => some (.vslice br ((cs.drop (l * esz)).take ((h - l) * esz)) (h - l) esz (tight && h == len))
        | some m => if bound m = some h ∧ hi.isSome then some (.vslice br ((cs.drop (l * esz)).take ((h - l) * esz)) (h - l) esz true) else none)
      else none
    | _, _ => none
  | _ => none

def faddrV (off : Nat) : AV → Option AV
  | .ptr o st b => some (.ptr o st (b + off))
  | .vptr br cs => if off ≤ cs.length then some (.vptr br (cs.drop off)) else none
  | _ => none

def iaddrV (esz : Nat) (x i : AV) : Option AV :=
  match bound i with
  | none => none
  | some i => match x with
    | .slice o st off len e _ => if i < len ∧ e = esz then some (.ptr o st (off + i * esz)) else none
    | .vslice br cs len e _ => if i < len ∧ e = esz then some (.vptr br (cs.drop (i * esz))) else none
    | _ => none

def sameKey : KK → AV → AV → Option Bool
  | .one k, a, b => cellEq k a b
  | .st ks, .agg as, .agg bs => cellsEq ks as bs
  | _, _, _ => none
/-- The place of a key among entries. -/
def findK (kk : KK) (k : AV) : List (AV × AV) → Option (Option (Nat × AV))
  | [] => some none
  | (k', v) :: es => match sameKey kk k k' with
    | some true => some (some (0, v))
    | some false => (match findK kk k es with
      | some (some (i, v)) => some (some (i + 1, v))
      | some none => some none
      | none => none)
    | none => none
/-- Is a value a key of its kind? -/
def isKey (kk : KK) (k : AV) : Bool := (sameKey kk k k).isSome

def entries (H : Heap) : AV → Option (List (AV × AV))
  | .nilm => some []
  | .map o => match H.get o with
    | some (.map es) => some es
    | _ => none
  | _ => none

def minV : List AV → Option AV
  | .int k a :: rest => go k a rest
  | _ => none
where
  go (k : IntKind) (a : Int) : List AV → Option AV
    | [] => some (.int k a)
    | .int k' b :: rest => if k = k' then go k (if b < a then b else a) rest else none
    | _ => none
def maxV : List AV → Option AV
  | .int k a :: rest => go k a rest
  | _ => none
where
  go (k : IntKind) (a : Int) : List AV → Option AV
    | [] => some (.int k a)
    | .int k' b :: rest => if k = k' then go k (if b > a then b else a) rest else none
    | _ => none

def lenV (H : Heap) : LK → AV → Option Nat
  | .slc, .nils => some 0
  | .slc, .slice _ _ _ len _ _ => some len
  | .slc, .vslice _ _ len _ _ => some len
  | .str, .str s => some s.length
  | .mp, .nilm => some 0
  | .mp, .map o => match H.get o with
    | some (.map es) => some es.length
    | _ => none
  | _, _ => none

def zeros (zero : List AV) : Nat → List AV
  | 0 => []
  | n + 1 => zero ++ zeros zero n

def lift (H : Heap) (v : Option AV) : Option (AV × Heap) :=
  match v with
  | some v => some (v, H)
  | none => none

def s_mv (A : Tr) (H : Heap) (x : Opd) : Option (AV × Heap) :=
  some (ev A x, H)
def s_pick (A : Tr) (H : Heap) (c : Opd) (a : Opd) (b : Opd) : Option (AV × Heap) :=
  match ev A c with
  | .bool t => some (if t then ev A a else ev A b, H)
  | _ => none
def s_alloc (A : Tr) (H : Heap) (zero : List AV) : Option (AV × Heap) :=
  some (.ptr H.next 0 0, H.push (.cells zero 0))
def s_box (A : Tr) (H : Heap) (imm : Bool) (x : Opd) : Option (AV × Heap) :=
  let v := ev A x
  if imm then some (.vptr false v.parts, H) else some (.ptr H.next 0 0, H.push (.cells v.parts 0))
def s_build (A : Tr) (H : Heap) (zero : List AV) (parts : List (Nat × Nat × Opd)) : Option (AV × Heap) :=
  match fillV zero (parts.map fun (o, n, x) => (o, n, ev A x)) with
  | some cs => some (.agg cs, H)
  | none => none
def s_mkslice (A : Tr) (H : Heap) (imm : Bool) (zero : List AV) (esz : Nat) (len : Nat) (parts : List (Nat × Nat × Opd)) : Option (AV × Heap) :=
  match fillV (zeros zero len) (parts.map fun (o, n, x) => (o, n, ev A x)) with
  | some cs =>
    if cs.length = len * esz then (if imm then some (.vslice false cs len esz true, H) else some (.slice H.next 0 0 len esz true, H.push (.cells cs 0)))
    else none
  | none => none
def s_load (A : Tr) (H : Heap) (n : Nat) (ag : Bool) (x : Opd) : Option (AV × Heap) :=
  lift H (loadV H n ag (ev A x))
def s_store (A : Tr) (H : Heap) (n : Nat) (x : Opd) (v : Opd) : Option (AV × Heap) :=
  match storeV H n (ev A x) (ev A v) with
  | some H' => some (.tup [], H')
  | none => none
def s_nilchk (A : Tr) (H : Heap) (x : Opd) : Option (AV × Heap) :=
  match ev A x with
  | .ptr o st off => some (.ptr o st off, H)
  | .vptr br cs => some (.vptr br cs, H)
  | .func f cs => some (.func f cs, H)
  | _ => none
def s_bin (A : Tr) (H : Heap) (op : BinOp) (x : Opd) (y : Opd) : Option (AV × Heap) :=
  lift H (binV op (ev A x) (ev A y))
def s_eq (A : Tr) (H : Heap) (neg : Bool) (k : EqK) (x : Opd) (y : Opd) : Option (AV × Heap) :=
  match eqV k (ev A x) (ev A y) with
  | some b => some (.bool (if neg then !b else b), H)
  | none => none
def s_un (A : Tr) (H : Heap) (op : UnOp) (x : Opd) : Option (AV × Heap) :=
  lift H (unV op (ev A x))
def s_conv (A : Tr) (H : Heap) (k : IntKind) (x : Opd) : Option (AV × Heap) :=
  match ev A x with
  | .int _ n => some (.int k (k.wrap n), H)
  | _ => none
def s_s2b (A : Tr) (H : Heap) (imm : Bool) (x : Opd) : Option (AV × Heap) :=
  match ev A x with
  | .str s =>
    if s.length < big then (if imm then some (.vslice false (bytesOf s) s.length 1 false, H) else some (.slice H.next 0 0 s.length 1 false, H.push (.cells (bytesOf s) 0)))
    else none
  | _ => none
def s_b2s (A : Tr) (H : Heap) (x : Opd) : Option (AV × Heap) :=
  match ev A x with
  | .str _ => none
  | v => match elems H v with
    | some (cs, n) => if n = cs.length then (match toBytes cs with
      | some bs => some (.str bs, H)
      | none => none) else none
    | none => none
def s_s2s (A : Tr) (H : Heap) (x : Opd) : Option (AV × Heap) :=
  match ev A x with
  | .str s => some (.str s, H)
  | _ => none
def s_mkfunc (A : Tr) (H : Heap) (f : Nat) (caps : List Opd) : Option (AV × Heap) :=
  some (.func f (caps.map (ev A)), H)
def s_mkmap (A : Tr) (H : Heap)  : Option (AV × Heap) :=
  some (.map H.next, H.push (.map []))
def s_substr (A : Tr) (H : Heap) (x : Opd) (lo : Option Opd) (hi : Option Opd) : Option (AV × Heap) :=
  lift H (substrV (ev A x) (lo.map (ev A)) (hi.map (ev A)))
def s_slice (A : Tr) (H : Heap) (esz : Nat) (x : Opd) (lo : Option Opd) (hi : Option Opd) (mx : Option Opd) : Option (AV × Heap) :=
  lift H (sliceV esz (ev A x) (lo.map (ev A)) (hi.map (ev A)) (mx.map (ev A)))
def s_faddr (A : Tr) (H : Heap) (off : Nat) (x : Opd) : Option (AV × Heap) :=
  lift H (faddrV off (ev A x))
def s_fld (A : Tr) (H : Heap) (off : Nat) (n : Nat) (ag : Bool) (x : Opd) : Option (AV × Heap) :=
  match ev A x with
  | .agg cs => lift H (getPart cs off n ag)
  | _ => none
def s_iaddr (A : Tr) (H : Heap) (esz : Nat) (x : Opd) (i : Opd) : Option (AV × Heap) :=
  lift H (iaddrV esz (ev A x) (ev A i))
def s_idxs (A : Tr) (H : Heap) (x : Opd) (i : Opd) : Option (AV × Heap) :=
  match ev A x, bound (ev A i) with
  | .str s, some i => (match s[i]? with
    | some b => some (.int .u8 b.toNat, H)
    | none => none)
  | _, _ => none
def s_idxa (A : Tr) (H : Heap) (n : Nat) (ag : Bool) (len : Nat) (x : Opd) (i : Opd) : Option (AV × Heap) :=
  match ev A x, bound (ev A i) with
  | .agg cs, some i => if i < len then lift H (getPart cs (i * n) n ag) else none
  | _, _ => none
def s_lookup (A : Tr) (H : Heap) (kk : KK) (zero : AV) (ok : Bool) (m : Opd) (k : Opd) : Option (AV × Heap) :=
  match entries H (ev A m) with
  | some es => if !isKey kk (ev A k) then none else (match findK kk (ev A k) es with
    | some (some (_, v)) => some (if ok then .tup [v, .bool true] else v, H)
    | some none => some (if ok then .tup [zero, .bool false] else zero, H)
    | none => none)
  | none => none
def s_mapset (A : Tr) (H : Heap) (kk : KK) (m : Opd) (k : Opd) (v : Opd) : Option (AV × Heap) :=
  match ev A m with
  | .map o => (match H.get o with
    | some (.map es) => if !isKey kk (ev A k) then none else (match findK kk (ev A k) es with
      | some (some (i, _)) => some (.tup [], H.set o (.map (es.modify i fun _ => (ev A k, ev A v))))
      | some none => some (.tup [], H.set o (.map (es ++ [(ev A k, ev A v)])))
      | none => none)
    | _ => none)
  | _ => none
def s_ext (A : Tr) (H : Heap) (x : Opd) (i : Nat) : Option (AV × Heap) :=
  match ev A x with
  | .tup vs => lift H vs[i]?
  | _ => none
def s_call (call : CallF) (A : Tr) (H : Heap) (f : Nat) (args : List Opd) : Option (AV × Heap) :=
  call f H (args.map (ev A))
def s_calld (call : CallF) (A : Tr) (H : Heap) (f : Opd) (args : List Opd) : Option (AV × Heap) :=
  match ev A f with
  | .func g cap => call g H (args.map (ev A) ++ cap)
  | _ => none
def s_append (A : Tr) (H : Heap) (esz : Nat) (x : Opd) (y : Opd) : Option (AV × Heap) :=
  appendV H esz (ev A x) (ev A y)
def s_len (A : Tr) (H : Heap) (k : LK) (x : Opd) : Option (AV × Heap) :=
  match lenV H k (ev A x) with
  | some n => some (.int .i64 n, H)
  | none => none
def s_mins (A : Tr) (H : Heap) (xs : List Opd) : Option (AV × Heap) :=
  lift H (minV (xs.map (ev A)))
def s_maxs (A : Tr) (H : Heap) (xs : List Opd) : Option (AV × Heap) :=
  lift H (maxV (xs.map (ev A)))
def s_delete (A : Tr) (H : Heap) (kk : KK) (m : Opd) (k : Opd) : Option (AV × Heap) :=
  match ev A m with
  | .map o => (match H.get o with
    | some (.map es) => if !isKey kk (ev A k) then none else (match findK kk (ev A k) es with
      | some (some (i, _)) => some (.tup [], H.set o (.map (es.eraseIdx i)))
      | some none => some (.tup [], H.set o (.map es))
      | none => none)
    | _ => none)
  | _ => none
def s_clear (A : Tr) (H : Heap) (zero : List AV) (x : Opd) : Option (AV × Heap) :=
  match ev A x with
  | .nils => some (.tup [], H)
  | .slice o st off len esz _ => if len = 0 then some (.tup [], H) else (match H.get o with
    | some (.cells cs st') =>
      if st = st' ∧ off + len * esz ≤ cs.length ∧ zero.length = esz ∧ zero.all AV.isCell then some (.tup [], H.set o (.cells (splice cs off (zeros zero len)) st)) else none
    | _ => none)
  | _ => none

/-- An operation's value, and the heap behind it. -/
def stepOp (call : CallF) (A : Tr) (H : Heap) : AOp → Option (AV × Heap)
  | .mv x => s_mv A H x
  | .pick c a b => s_pick A H c a b
  | .alloc zero => s_alloc A H zero
  | .box imm x => s_box A H imm x
  | .build zero parts => s_build A H zero parts
  | .mkslice imm zero esz len parts => s_mkslice A H imm zero esz len parts
  | .load n ag x => s_load A H n ag x
  | .store n x v => s_store A H n x v
  | .nilchk x => s_nilchk A H x
  | .bin op x y => s_bin A H op x y
  | .eq neg k x y => s_eq A H neg k x y
  | .un op x => s_un A H op x
  | .conv k x => s_conv A H k x
  | .s2b imm x => s_s2b A H imm x
  | .b2s x => s_b2s A H x
  | .s2s x => s_s2s A H x
  | .mkfunc f caps => s_mkfunc A H f caps
  | .mkmap  => s_mkmap A H 
  | .mkslc .. => none
  | .substr x lo hi => s_substr A H x lo hi
  | .slice esz x lo hi mx => s_slice A H esz x lo hi mx
  | .faddr off x => s_faddr A H off x
  | .fld off n ag x => s_fld A H off n ag x
  | .iaddr esz x i => s_iaddr A H esz x i
  | .idxs x i => s_idxs A H x i
  | .idxa n ag len x i => s_idxa A H n ag len x i
  | .lookup kk zero ok m k => s_lookup A H kk zero ok m k
  | .mapset kk m k v => s_mapset A H kk m k v
  | .ext x i => s_ext A H x i
  | .call f args => s_call call A H f args
  | .calld f args => s_calld call A H f args
  | .append esz x y => s_append A H esz x y
  | .len k x => s_len A H k x
  | .mins xs => s_mins A H xs
  | .maxs xs => s_maxs A H xs
  | .delete kk m k => s_delete A H kk m k
  | .clear zero x => s_clear A H zero x

/-! The same values. -/
mutual
def AV.same : AV → AV → Bool
  | .bool a, .bool b => a == b
  | .int k a, .int l b => decide (k = l) && a == b
  | .str a, .str b => a == b
  | .nilp, .nilp => true
  | .ptr o s f, .ptr o' s' f' => o == o' && s == s' && f == f'
  | .vptr x cs, .vptr y ds => x == y && sameL cs ds
  | .nils, .nils => true
  | .slice o s f l e t, .slice o' s' f' l' e' t' => o == o' && s == s' && f == f' && l == l' && e == e' && t == t'
  | .vslice x cs l e t, .vslice y ds l' e' t' => x == y && sameL cs ds && l == l' && e == e' && t == t'
  | .nilm, .nilm => true
  | .map o, .map o' => o == o'
  | .nilf, .nilf => true
  | .func f cs, .func g ds => f == g && sameL cs ds
  | .agg cs, .agg ds => sameL cs ds
  | .tup cs, .tup ds => sameL cs ds
  | _, _ => false
def sameL : List AV → List AV → Bool
  | [], [] => true
  | a :: as, b :: bs => a.same b && sameL as bs
  | _, _ => false
end
def sameE : List (AV × AV) → List (AV × AV) → Bool
  | [], [] => true
  | (a, b) :: as, (c, d) :: bs => a.same c && b.same d && sameE as bs
  | _, _ => false
def AObj.same : AObj → AObj → Bool
  | .cells a s, .cells b t => s == t && sameL a b
  | .map a, .map b => sameE a b
  | .dead, .dead => true
  | _, _ => false
def sameAt (H K : Heap) (o : Nat) : Bool :=
  match H.get o, K.get o with
  | some x, some y => x.same y
  | _, _ => false

/-! Footprints of operations, for regions that draw their order. -/
/-- What an operation touches: all of the heap; objects that it reads, that it writes; the number of the one that it makes. -/
structure Fp where
  all : Bool
  sees : Bool
  rd : List Nat
  wr : List Nat
  al : Option Nat
  /-- Of an operation that may touch everything: the heap before and after it. -/
  chg : Option (Heap × Heap) := none
def Fp.no : Fp := ⟨false, false, [], [], none, none⟩
def Fp.any : Fp := ⟨true, false, [], [], none, none⟩
def Fp.see : Fp := ⟨false, true, [], [], none, none⟩
def Fp.isNo (f : Fp) : Bool := !f.all && !f.sees && f.rd.isEmpty && f.wr.isEmpty && f.al.isNone
/-- It writes nothing and makes nothing. -/
def Fp.looks (f : Fp) : Bool := !f.all && f.wr.isEmpty && f.al.isNone
def objOf : AV → List Nat
  | .ptr o _ _ => [o]
  | .map o => [o]
  | .slice o _ _ _ _ _ => [o]
  | _ => []
def fp (isPure : Nat → Bool) (A : Tr) (n : Nat) : AOp → Fp
  | .load _ _ x => ⟨false, false, objOf (ev A x), [], none, none⟩
  | .b2s x => ⟨false, false, objOf (ev A x), [], none, none⟩
  | .len k x => (match k with | .mp => ⟨false, false, objOf (ev A x), [], none, none⟩ | _ => .no)
  | .lookup _ _ _ m _ => ⟨false, false, objOf (ev A m), [], none, none⟩
  | .store _ x _ => ⟨false, false, objOf (ev A x), objOf (ev A x), none, none⟩
  | .mapset _ m _ _ => ⟨false, false, objOf (ev A m), objOf (ev A m), none, none⟩
  | .delete _ m _ => ⟨false, false, objOf (ev A m), objOf (ev A m), none, none⟩
  | .clear _ x => ⟨false, false, objOf (ev A x), objOf (ev A x), none, none⟩
  | .alloc _ | .mkmap | .mkslc .. => ⟨false, false, [], [], some n, none⟩
  | .box imm _ => if imm then .no else ⟨false, false, [], [], some n, none⟩
  | .mkslice imm .. => if imm then .no else ⟨false, false, [], [], some n, none⟩
  | .s2b imm _ => if imm then .no else ⟨false, false, [], [], some n, none⟩
  | .append _ x y => ⟨false, false, objOf (ev A x) ++ objOf (ev A y), objOf (ev A x), some n, none⟩
  | .call f args => if isPure f then (if closedL (args.map (ev A)) then .no else .see) else .any
  | .calld .. => .any
  | _ => .no
def below (n : Option Nat) (l : List Nat) : Bool :=
  match n with
  | none => true
  | some n => l.all (decide <| · < n)
def apart (l m : List Nat) : Bool := l.all fun x => !m.contains x
/-- Does an operation that may touch everything leave what another one reads as it is? -/
def Fp.spares (f g : Fp) : Bool :=
  match f.chg with
  | some (H, K) => g.rd.all (sameAt H K)
  | none => false
/-- May an operation and a later one change places? -/
def Fp.swap (f g : Fp) : Bool :=
  f.isNo || g.isNo || (f.looks && g.looks) ||
  (f.all && g.looks && !g.sees && Fp.spares f g) || (g.all && f.looks && !f.sees && Fp.spares g f) ||
  (f.looks && !g.all && !g.sees && g.wr.isEmpty && below g.al f.rd) ||
  (!f.all && !g.all && !f.sees && !g.sees && !(f.al.isSome && g.al.isSome) && apart f.wr (g.rd ++ g.wr) && apart g.wr f.rd && below f.al (g.rd ++ g.wr) && below g.al (f.rd ++ f.wr))

/-! Runs. -/
inductive Out where
  | normal | exit (id : Nat) | goto (l : Nat) | ret

def put (A : Tr) (d : Option Nat) (v : AV) : Tr :=
  match d with
  | some d => A.set d v
  | none => A

def wanted (A : Tr) : Option (Nat × Bool) → Option Bool
  | none => some true
  | some (g, want) => match A.get g with
    | .bool b => some (b == want)
    | .tup [] => some false
    | _ => none

def stepIns (call : CallF) (i : AIns) (A : Tr) (H : Heap) : Option (Tr × Heap) :=
  match wanted A i.guard with
  | none => none
  | some false => some (put A i.dst (.tup []), H)
  | some true => match stepOp call A H i.op with
    | none => none
    | some (v, H') => some (put A i.dst v, H')

def runIns (call : CallF) : List AIns → Tr → Heap → Option (Tr × Heap)
  | [], A, H => some (A, H)
  | i :: is, A, H => match stepIns call i A H with
    | none => none
    | some (A', H') => runIns call is A' H'

/-- An instruction's footprint: from one heap to another. -/
def ifp (isPure : Nat → Bool) (A : Tr) (H K : Heap) (i : AIns) : Fp :=
  match wanted A i.guard with
  | some true => (match fp isPure A H.next i.op with
    | ⟨true, s, rd, wr, al, _⟩ => ⟨true, s, rd, wr, al, some (H, K)⟩
    | f => f)
  | _ => .no
/-- The footprints of a region's operations, in the order of the text. -/
def fps (isPure : Nat → Bool) (call : CallF) : List AIns → Tr → Heap → List Fp
  | [], _, _ => []
  | i :: is, A, H => match stepIns call i A H with
      | none => []
      | some (A', H') => ifp isPure A H H' i :: fps isPure call is A' H'

def pairsOk (l : List Fp) (pairs : List (Nat × Nat)) : Bool :=
  pairs.all fun (i, j) => Nat.blt j i || Fp.swap (l.getD i .any) (l.getD j .any)

def rounds : Nat := 2 ^ 40

abbrev Run := Tr → Heap → Option (Out × Tr × Heap)

def loopN (f : Run) : Nat → Run
  | 0, _, _ => none
  | n + 1, A, H => match f A H with
    | none => none
    | some (.normal, A', H') => loopN f n A' H'
    | some (o, A', H') => some (o, A', H')

/-- A scope: its body, and what stands behind its label, which is walked anew at each jump. -/
def jumpN (rest : Run) (l : Nat) : Nat → Option (Out × Tr × Heap) → Option (Out × Tr × Heap)
  | 0, _ => none
  | n + 1, r => match r with
    | some (.goto l', A, H) => if l' = l then jumpN rest l n (rest A H) else none
    | r => r

structure Env where
  call : CallF
  isPure : Nat → Bool

/-- A run of code. -/
def exec (E : Env) : ACode → Run
  | .skip, A, H => some (.normal, A, H)
  | .label _, A, H => some (.normal, A, H)
  | .region is, A, H => (match runIns E.call is A H with
      | none => none
      | some (A', H') => some (.normal, A', H'))
  | .draw is pairs, A, H => (match runIns E.call is A H with
      | none => none
      | some (A', H') => if pairsOk (fps E.isPure E.call is A H) pairs then some (.normal, A', H') else none)
  | .seq a b, A, H => (match exec E a A H with
      | none => none
      | some (.normal, A', H') => exec E b A' H'
      | some (o, A', H') => some (o, A', H'))
  | .cond c a b, A, H => (match ev A c with
      | .bool t => cond t (exec E a A H) (exec E b A H)
      | _ => none)
  | .block id a, A, H => (match exec E a A H with
      | none => none
      | some (.exit id', A', H') => if id' = id then some (.normal, A', H') else some (.exit id', A', H')
      | some (o, A', H') => some (o, A', H'))
  | .loop a, A, H => loopN (exec E a) rounds A H
  | .exit id, A, H => some (.exit id, A, H)
  | .ret, A, H => some (.ret, A, H)
  | .scope a l rest, A, H => jumpN (exec E rest) l rounds (exec E a A H)
  | .goto l, A, H => some (.goto l, A, H)

def resOf (A : Tr) (H : Heap) : ARes → Option AV
  | .tmp t => some (A.get t)
  | .cell t n ag => loadV H n ag (A.get t)

def results (rs : List ARes) (A : Tr) (H : Heap) : Option AV :=
  match mapO (resOf A H) rs with
  | some [v] => some v
  | some vs => some (.tup vs)
  | none => none

def runBody (E : Env) (fn : AFunc) (args : List AV) (H : Heap) : Option (AV × Heap) :=
  if args.length ≤ fn.ntmps then
    match exec E fn.body ((Tr.blank fn.depth).fill 0 args) H with
    | some (.normal, A, H') | some (.ret, A, H') => (match results fn.results A H' with
      | some v => some (v, H')
      | none => none)
    | _ => none
  else none

/-- A pure function's answer. -/
def den (E : Env) (fn : AFunc) (args : List AV) : Option AV :=
  match runBody E fn args Heap.empty with
  | some (v, H) => sealV H v
  | none => none

/-! The table of functions. -/
inductive Entry where
  | code (fn : AFunc)
  | spec (g : CallF → List AV → Option AV)
  | hspec (g : CallF → Heap → List AV → Option (AV × Heap))

def Entry.isPure : Entry → Bool
  | .code fn => fn.pure
  | .spec _ => true
  | .hspec _ => false

inductive Tab where
  | leaf
  | node (l : Tab) (k : Nat) (e : Entry) (r : Tab)
def Tab.get : Tab → Nat → Option Entry
  | .leaf, _ => none
  | .node l k e r, i => if i < k then l.get i else if i = k then some e else r.get i
def Tab.isPure (T : Tab) (f : Nat) : Bool :=
  match T.get f with
  | some e => e.isPure
  | none => false

def toH (H : Heap) (v : Option AV) : Option (AV × Heap) := lift H v

def arun (T : Tab) : Nat → CallF
  | 0 => fun _ _ _ => none
  | d + 1 => fun f H args =>
    match T.get f with
    | none => none
    | some (.code fn) =>
      if fn.pure then lift H (callP (den ⟨arun T d, T.isPure⟩ fn) H args)
      else runBody ⟨arun T d, T.isPure⟩ fn args H
    | some (.spec g) => lift H (callP (g (arun T d)) H args)
    | some (.hspec g) => g (arun T d) H args

end Go.AM
