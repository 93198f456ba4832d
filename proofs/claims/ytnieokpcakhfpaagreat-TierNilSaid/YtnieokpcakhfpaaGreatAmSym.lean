/-
  Runs of code whose answers from outside (calls, comparisons) are given by a script: what is left to show is that those are the answers.
-/
import Derived.Test.YtnieokpcakhfpaaGreatAmDefs
namespace Go.AM

/-- An operation with its slots read. -/
def fixO (A : Tr) (x : Opd) : Opd := .c (ev A x)
def fixOp (A : Tr) : AOp → AOp
  | .mv x => .mv (fixO A x)
  | .pick c a b => .pick (fixO A c) (fixO A a) (fixO A b)
  | .alloc zero => .alloc zero
  | .box imm x => .box imm (fixO A x)
  | .build zero parts => .build zero (parts.map fun (o, n, x) => (o, n, fixO A x))
  | .mkslice imm zero esz len parts => .mkslice imm zero esz len (parts.map fun (o, n, x) => (o, n, fixO A x))
  | .load n ag x => .load n ag (fixO A x)
  | .store n x v => .store n (fixO A x) (fixO A v)
  | .nilchk x => .nilchk (fixO A x)
  | .bin op x y => .bin op (fixO A x) (fixO A y)
  | .eq neg k x y => .eq neg k (fixO A x) (fixO A y)
  | .un op x => .un op (fixO A x)
  | .conv k x => .conv k (fixO A x)
  | .s2b imm x => .s2b imm (fixO A x)
  | .b2s x => .b2s (fixO A x)
  | .s2s x => .s2s (fixO A x)
  | .mkfunc f caps => .mkfunc f (caps.map (fixO A))
  | .mkmap  => .mkmap 
  | .mkslc zero x y => .mkslc zero (fixO A x) (fixO A y)
  | .slice esz x lo hi mx => .slice esz (fixO A x) (lo.map (fixO A)) (hi.map (fixO A)) (mx.map (fixO A))
  | .substr x lo hi => .substr (fixO A x) (lo.map (fixO A)) (hi.map (fixO A))
  | .faddr off x => .faddr off (fixO A x)
  | .fld off n ag x => .fld off n ag (fixO A x)
  | .iaddr esz x i => .iaddr esz (fixO A x) (fixO A i)
  | .idxs x i => .idxs (fixO A x) (fixO A i)
  | .idxa n ag len x i => .idxa n ag len (fixO A x) (fixO A i)
  | .lookup kk zero ok m k => .lookup kk zero ok (fixO A m) (fixO A k)
  | .mapset kk m k v => .mapset kk (fixO A m) (fixO A k) (fixO A v)
  | .ext x i => .ext (fixO A x) i
  | .call f args => .call f (args.map (fixO A))
  | .calld f args => .calld (fixO A f) (args.map (fixO A))
  | .append esz x y => .append esz (fixO A x) (fixO A y)
  | .len k x => .len k (fixO A x)
  | .mins xs => .mins (xs.map (fixO A))
  | .maxs xs => .maxs (xs.map (fixO A))
  | .delete kk m k => .delete kk (fixO A m) (fixO A k)
  | .clear zero x => .clear zero (fixO A x)
set_option linter.unusedSimpArgs false in
theorem fix_step (call : CallF) (A B : Tr) (H : Heap) (op : AOp) : stepOp call B H (fixOp A op) = stepOp call A H op := by
  have h1 : (fun x => ev B (fixO A x)) = ev A := rfl
  have h2 : ∀ l : List Opd, (l.map (fixO A)).map (ev B) = l.map (ev A) := fun l => by simp [List.map_map, Function.comp_def, h1]
  have h3 : ∀ l : Option Opd, (l.map (fixO A)).map (ev B) = l.map (ev A) := fun l => by cases l <;> rfl
  have h4 : ∀ l : List (Nat × Nat × Opd), (l.map fun (o, n, x) => (o, n, fixO A x)).map (fun (o, n, x) => (o, n, ev B x)) = l.map fun (o, n, x) => (o, n, ev A x) := fun l => by simp [List.map_map, Function.comp_def]; intros; rfl
  cases op <;> simp only [fixOp, stepOp] <;> first
    | rfl
    | (simp only [s_build, s_mkslice, s_mkfunc, s_substr, s_slice, s_call, s_calld, s_mins, s_maxs, h2, h3, h4]; done)
    | (simp only [s_build, s_mkslice, s_mkfunc, s_substr, s_slice, s_call, s_calld, s_mins, s_maxs, h2, h3, h4]; rfl)

/-- An answer: a value, and the heap behind it (none: as it was). -/
structure Ans where
  v : AV
  h : Option Heap := none
def Ans.heap (a : Ans) (H : Heap) : Heap :=
  match a.h with
  | some K => K
  | none => H

/-- What was asked, and what was answered. -/
inductive Q where
  | call (f : Nat) (H : Heap) (args : List AV) (v : AV) (H' : Heap)
  | bin (op : BinOp) (x y v : AV)
  | eq (neg : Bool) (k : EqK) (x y v : AV)
  | raw (H : Heap) (op : AOp) (v : AV) (H' : Heap)

def Q.holds (call : CallF) : Q → Prop
  | .call f H args v H' => call f H args = some (v, H')
  | .bin op x y v => binV op x y = some v
  | .eq neg k x y v => (match eqV k x y with
    | some b => some (.bool (if neg then !b else b))
    | none => none) = some v
  | .raw H op v H' => stepOp call (.lf .nilp) H op = some (v, H')

/-- Which functions' calls, and which slots' comparisons, are asked. -/
structure Sy where
  fs : List Nat
  ts : List Nat
def memN (n : Nat) : List Nat → Bool
  | [] => false
  | m :: l => Nat.beq n m || memN n l
def Sy.asks (y : Sy) (i : AIns) : Bool :=
  match i.op with
  | .call f _ => memN f y.fs
  | _ => match i.dst with
    | some d => memN d y.ts
    | none => false

def ask (A : Tr) (H : Heap) (a : Ans) : AOp → Heap × Q
  | .call f args => (a.heap H, .call f H (args.map (ev A)) a.v (a.heap H))
  | .bin op x y => (H, .bin op (ev A x) (ev A y) a.v)
  | .eq neg k x y => (H, .eq neg k (ev A x) (ev A y) a.v)
  | op => (a.heap H, .raw H (fixOp A op) a.v (a.heap H))

structure St where
  A : Tr
  H : Heap
  s : List Ans
  qs : List Q

def stepS (y : Sy) (call : CallF) (i : AIns) (z : St) : Option St :=
  match wanted z.A i.guard with
  | none => none
  | some false => some ⟨put z.A i.dst (.tup []), z.H, z.s, z.qs⟩
  | some true => cond (y.asks i)
    (match z.s with
      | [] => none
      | a :: s => some ⟨put z.A i.dst a.v, (ask z.A z.H a i.op).1, s, (ask z.A z.H a i.op).2 :: z.qs⟩)
    (match stepOp call z.A z.H i.op with
      | none => none
      | some (v, H') => some ⟨put z.A i.dst v, H', z.s, z.qs⟩)

/-- A run of a region, with the footprints (the last one first). -/
def runS (y : Sy) (isPure : Nat → Bool) (call : CallF) : List AIns → List Fp → St → Option (List Fp × St)
  | [], fs, z => some (fs, z)
  | i :: is, fs, z => match stepS y call i z with
    | none => none
    | some z' => runS y isPure call is (ifp isPure z.A z.H z'.H i :: fs) z'

abbrev RunS := St → Option (Out × St)
def loopS (f : RunS) : Nat → RunS
  | 0, _ => none
  | n + 1, z => match f z with
    | none => none
    | some (.normal, z') => loopS f n z'
    | some (o, z') => some (o, z')
def jumpS (rest : RunS) (l : Nat) : Nat → Option (Out × St) → Option (Out × St)
  | 0, _ => none
  | n + 1, r => match r with
    | some (.goto l', z) => if l' = l then jumpS rest l n (rest z) else none
    | r => r

def execS (y : Sy) (E : Env) : ACode → RunS
  | .skip, z => some (.normal, z)
  | .label _, z => some (.normal, z)
  | .region is, z => (match runS y E.isPure E.call is [] z with
      | none => none
      | some (_, z') => some (.normal, z'))
  | .draw is pairs, z => (match runS y E.isPure E.call is [] z with
      | none => none
      | some (fs, z') => if pairsOk fs.reverse pairs then some (.normal, z') else none)
  | .seq a b, z => (match execS y E a z with
      | none => none
      | some (.normal, z') => execS y E b z'
      | some (o, z') => some (o, z'))
  | .cond c a b, z => (match ev z.A c with
      | .bool t => cond t (execS y E a z) (execS y E b z)
      | _ => none)
  | .block id a, z => (match execS y E a z with
      | none => none
      | some (.exit id', z') => if id' = id then some (.normal, z') else some (.exit id', z')
      | some (o, z') => some (o, z'))
  | .loop a, z => loopS (execS y E a) rounds z
  | .exit id, z => some (.exit id, z)
  | .ret, z => some (.ret, z)
  | .scope a l rest, z => jumpS (execS y E rest) l rounds (execS y E a z)
  | .goto l, z => some (.goto l, z)

def bodyS (y : Sy) (E : Env) (fn : AFunc) (args : List AV) (H : Heap) (s : List Ans) : Option (AV × Heap × List Q) :=
  if args.length ≤ fn.ntmps then
    match execS y E fn.body ⟨(Tr.blank fn.depth).fill 0 args, H, s, []⟩ with
    | some (.normal, z) | some (.ret, z) => (match results fn.results z.A z.H with
      | some v => some (v, z.H, z.qs)
      | none => none)
    | _ => none
  else none

/-! The scripted run is the run, where the answers are right. -/
def All (call : CallF) (qs : List Q) : Prop := ∀ q ∈ qs, q.holds call
theorem All.nil (call : CallF) : All call [] := fun q h => by simp at h
theorem All.cons {call : CallF} {q : Q} {qs : List Q} (h : q.holds call) (h' : All call qs) : All call (q :: qs) := fun p hp => by
  rcases List.mem_cons.1 hp with rfl | hp
  · exact h
  · exact h' p hp
def SS (call : CallF) (F : RunS) (G : Run) : Prop := ∀ z o z', F z = some (o, z') → (∀ q ∈ z.qs, q ∈ z'.qs) ∧ (All call z'.qs → G z.A z.H = some (o, z'.A, z'.H))

variable {y : Sy}

theorem ask_sound {call : CallF} {A : Tr} {H : Heap} {a : Ans} (op : AOp) (h : (ask A H a op).2.holds call) : stepOp call A H op = some (a.v, (ask A H a op).1) := by
  cases op with
  | call f args => exact h
  | bin op x y =>
    simp only [ask, Q.holds] at h
    simp only [stepOp, s_bin, ask, h, lift]
  | eq neg k x y =>
    simp only [ask, Q.holds] at h
    simp only [stepOp, s_eq, ask]
    cases hb : eqV k (ev A x) (ev A y) with
    | none => rw [hb] at h; simp at h
    | some b =>
      rw [hb] at h
      simp only [Option.some.injEq] at h ⊢
      rw [h]
  | _ => rw [← fix_step call A (.lf .nilp)]; exact h

theorem stepS_sound {call : CallF} {i : AIns} {z z' : St} (h : stepS y call i z = some z') : (∀ q ∈ z.qs, q ∈ z'.qs) ∧ (All call z'.qs → stepIns call i z.A z.H = some (z'.A, z'.H)) := by
  unfold stepS at h
  unfold stepIns
  split at h
  · simp at h
  · simp at h; subst h
    exact ⟨fun q hq => hq, fun _ => by simp [*]⟩
  · rename_i hw
    cases ha : y.asks i <;> rw [ha] at h <;> simp only [cond] at h
    · split at h
      · simp at h
      · rename_i v H' hs
        simp at h; subst h
        exact ⟨fun q hq => hq, fun _ => by rw [hw]; simp only [hs]⟩
    · split at h
      · simp at h
      · rename_i a s hs
        simp at h; subst h
        refine ⟨fun q hq => List.mem_cons_of_mem _ hq, fun hall => ?_⟩
        have := ask_sound (call := call) i.op (hall _ List.mem_cons_self)
        rw [hw]; simp only [this]

theorem runS_sound {isPure : Nat → Bool} {call : CallF} : ∀ (is : List AIns) {fs fs' : List Fp} {z z' : St}, runS y isPure call is fs z = some (fs', z') →
    (∀ q ∈ z.qs, q ∈ z'.qs) ∧ (All call z'.qs → runIns call is z.A z.H = some (z'.A, z'.H) ∧ fs' = (fps isPure call is z.A z.H).reverse ++ fs)
  | [], fs, fs', z, z', h => by
    simp [runS] at h; obtain ⟨rfl, rfl⟩ := h
    exact ⟨fun q hq => hq, fun _ => ⟨rfl, by simp [fps]⟩⟩
  | i :: is, fs, fs', z, z', h => by
    simp only [runS] at h
    split at h
    · simp at h
    · rename_i z1 h1
      obtain ⟨a1, a2⟩ := stepS_sound h1
      obtain ⟨b1, b2⟩ := runS_sound is h
      refine ⟨fun q hq => b1 q (a1 q hq), fun hall => ?_⟩
      have c1 := a2 fun q hq => hall q (b1 q hq)
      obtain ⟨c2, c3⟩ := b2 hall
      refine ⟨by simp only [runIns, c1, c2], ?_⟩
      rw [c3]; simp only [fps, c1]; simp

theorem loopS_sound {call : CallF} {F : RunS} {G : Run} (h : SS call F G) : ∀ n, SS call (loopS F n) (loopN G n)
  | 0, z, o, z', hr => by simp [loopS] at hr
  | n + 1, z, o, z', hr => by
    simp only [loopS] at hr
    split at hr
    · simp at hr
    · rename_i z1 h1
      obtain ⟨a1, a2⟩ := h _ _ _ h1
      obtain ⟨b1, b2⟩ := loopS_sound h n _ _ _ hr
      refine ⟨fun q hq => b1 q (a1 q hq), fun hall => ?_⟩
      have c1 := a2 fun q hq => hall q (b1 q hq)
      simp only [loopN, c1]; exact b2 hall
    · rename_i o1 z1 hno h1
      simp at hr; obtain ⟨rfl, rfl⟩ := hr
      obtain ⟨a1, a2⟩ := h _ _ _ h1
      refine ⟨a1, fun hall => ?_⟩
      have c1 := a2 hall
      simp only [loopN, c1]
      all_goals (try (split <;> simp_all))

theorem jumpS_sound {call : CallF} {Fr : RunS} {Gr : Run} {l : Nat} (hr : SS call Fr Gr) : ∀ n {F : RunS} {G : Run}, SS call F G → SS call (fun z => jumpS Fr l n (F z)) (fun A H => jumpN Gr l n (G A H))
  | 0, F, G, _, z, o, z', h => by simp [jumpS] at h
  | n + 1, F, G, hF, z, o, z', h => by
    simp only [jumpS] at h
    split at h
    · rename_i l' z1 h1
      split at h
      · rename_i e
        obtain ⟨a1, a2⟩ := hF _ _ _ h1
        obtain ⟨b1, b2⟩ := jumpS_sound hr n hr _ _ _ h
        refine ⟨fun q hq => b1 q (a1 q hq), fun hall => ?_⟩
        have c1 := a2 fun q hq => hall q (b1 q hq)
        simp only [jumpN, c1, e, if_true]; exact b2 hall
      · simp at h
    · rename_i hno
      obtain ⟨a1, a2⟩ := hF _ _ _ h
      refine ⟨a1, fun hall => ?_⟩
      have c1 := a2 hall
      simp only [jumpN, c1]
      cases o with
      | goto l' => exact absurd h (hno l' z')
      | _ => rfl

theorem execS_sound {E : Env} : ∀ (c : ACode), SS E.call (execS y E c) (exec E c)
  | .skip, z, o, z', h => by simp [execS] at h; obtain ⟨rfl, rfl⟩ := h; exact ⟨fun _ h => h, fun _ => rfl⟩
  | .label l, z, o, z', h => by simp [execS] at h; obtain ⟨rfl, rfl⟩ := h; exact ⟨fun _ h => h, fun _ => rfl⟩
  | .region is, z, o, z', h => by
    simp only [execS] at h
    split at h
    · simp at h
    · rename_i fs z1 h1
      simp at h; obtain ⟨rfl, rfl⟩ := h
      obtain ⟨a1, a2⟩ := runS_sound is h1
      exact ⟨a1, fun hall => by simp only [exec, (a2 hall).1]⟩
  | .draw is pairs, z, o, z', h => by
    simp only [execS] at h
    split at h
    · simp at h
    · rename_i fs z1 h1
      split at h
      · rename_i hp
        simp at h; obtain ⟨rfl, rfl⟩ := h
        obtain ⟨a1, a2⟩ := runS_sound is h1
        refine ⟨a1, fun hall => ?_⟩
        obtain ⟨b1, b2⟩ := a2 hall
        rw [b2] at hp
        simp at hp
        simp only [exec, b1, hp, if_true]
      · simp at h
  | .seq a b, z, o, z', h => by
    simp only [execS] at h
    split at h
    · simp at h
    · rename_i z1 h1
      obtain ⟨a1, a2⟩ := execS_sound a _ _ _ h1
      obtain ⟨b1, b2⟩ := execS_sound b _ _ _ h
      refine ⟨fun q hq => b1 q (a1 q hq), fun hall => ?_⟩
      have c1 := a2 fun q hq => hall q (b1 q hq)
      simp only [exec, c1]; exact b2 hall
    · rename_i o1 z1 hno h1
      simp at h; obtain ⟨rfl, rfl⟩ := h
      obtain ⟨a1, a2⟩ := execS_sound a _ _ _ h1
      refine ⟨a1, fun hall => ?_⟩
      have c1 := a2 hall
      simp only [exec, c1]
      all_goals (try (split <;> simp_all))
  | .cond c a b, z, o, z', h => by
    simp only [execS] at h
    split at h
    · rename_i t ht
      cases t
      · obtain ⟨a1, a2⟩ := execS_sound b _ _ _ h
        exact ⟨a1, fun hall => by simp only [exec, ht]; exact a2 hall⟩
      · obtain ⟨a1, a2⟩ := execS_sound a _ _ _ h
        exact ⟨a1, fun hall => by simp only [exec, ht]; exact a2 hall⟩
    · simp at h
  | .block id a, z, o, z', h => by
    simp only [execS] at h
    split at h
    · simp at h
    · rename_i id' z1 h1
      obtain ⟨a1, a2⟩ := execS_sound a _ _ _ h1
      split at h
      · rename_i e
        simp at h; obtain ⟨rfl, rfl⟩ := h
        exact ⟨a1, fun hall => by simp only [exec, a2 hall, e, if_true]⟩
      · rename_i e
        simp at h; obtain ⟨rfl, rfl⟩ := h
        exact ⟨a1, fun hall => by simp only [exec, a2 hall, e, if_false]⟩
    · rename_i o1 z1 hno h1
      simp at h; obtain ⟨rfl, rfl⟩ := h
      obtain ⟨a1, a2⟩ := execS_sound a _ _ _ h1
      refine ⟨a1, fun hall => ?_⟩
      have c1 := a2 hall
      simp only [exec, c1]
      all_goals (try (split <;> simp_all))
  | .loop a, z, o, z', h => loopS_sound (execS_sound a) _ z o z' h
  | .exit id, z, o, z', h => by simp [execS] at h; obtain ⟨rfl, rfl⟩ := h; exact ⟨fun _ h => h, fun _ => rfl⟩
  | .ret, z, o, z', h => by simp [execS] at h; obtain ⟨rfl, rfl⟩ := h; exact ⟨fun _ h => h, fun _ => rfl⟩
  | .scope a l rest, z, o, z', h => jumpS_sound (F := execS y E a) (G := exec E a) (execS_sound rest) _ (execS_sound a) z o z' h
  | .goto l, z, o, z', h => by simp [execS] at h; obtain ⟨rfl, rfl⟩ := h; exact ⟨fun _ h => h, fun _ => rfl⟩

theorem bodyS_sound {E : Env} {fn : AFunc} {args : List AV} {H : Heap} {s : List Ans} {r : AV} {H' : Heap} {qs : List Q} (h : bodyS y E fn args H s = some (r, H', qs)) (hall : All E.call qs) : runBody E fn args H = some (r, H') := by
  unfold bodyS at h
  unfold runBody
  split at h
  · rename_i hl
    rw [if_pos hl]
    have fin : ∀ o z, execS y E fn.body ⟨(Tr.blank fn.depth).fill 0 args, H, s, []⟩ = some (o, z) → (o = .normal ∨ o = .ret) → (match results fn.results z.A z.H with | some v => some (v, z.H, z.qs) | none => none) = some (r, H', qs) →
        (match exec E fn.body ((Tr.blank fn.depth).fill 0 args) H with
        | some (.normal, A, H') | some (.ret, A, H') => (match results fn.results A H' with
          | some v => some (v, H')
          | none => none)
        | _ => none) = some (r, H') := by
      intro o z he ho hres
      split at hres
      · rename_i v hv
        simp at hres; obtain ⟨rfl, rfl, rfl⟩ := hres
        have := (execS_sound fn.body _ _ _ he).2 hall
        simp only at this
        rw [this]
        rcases ho with rfl | rfl <;> simp only [hv]
      · simp at hres
    split at h
    · rename_i z he; exact fin _ _ he (.inl rfl) h
    · rename_i z he; exact fin _ _ he (.inr rfl) h
    · simp at h
  · simp at h

/-! Slots as a function. -/
def mkT : Nat → (Nat → AV) → Tr
  | 0, f => .lf (f 0)
  | d + 1, f => .nd (mkT d fun n => f (2 * n)) (mkT d fun n => f (2 * n + 1))
def ovr (f : Nat → AV) : List (Nat × AV) → Nat → AV
  | [], n => f n
  | (m, v) :: l, n => cond (Nat.beq n m) v (ovr f l n)
end Go.AM
