/-
  The check that the abstract code is the program's own: operation by operation; what it yields.
-/
import Derived.Test.YtnieokpcakhfpaaGreatAmStepsCl
namespace Go.AM

variable (P : Program)

def all2 {α β : Type} (f : α → β → Bool) : List α → List β → Bool
  | [], [] => true
  | a :: as, b :: bs => f a b && all2 f as bs
  | _, _ => false

mutual
def okConst : AV → Value → Bool
  | .bool c, v => (match v with | .bool b => b == c | _ => false)
  | .int k' n', v => (match v with | .int k n => decide (k = k') && decide (n = n') | _ => false)
  | .str l, v => (match v with | .string s => decide (s.data.toList = l) | _ => false)
  | .nilp, v => (match v with | .pointer none => true | _ => false)
  | .nils, v => (match v with | .slice none 0 0 => true | _ => false)
  | .nilm, v => (match v with | .map none => true | _ => false)
  | .nilf, v => (match v with | .nilFunc => true | _ => false)
  | .agg cs, v => (match v with | .agg vs => okConsts cs vs.toList | _ => false)
  | _, _ => false
def okConsts : List AV → List Value → Bool
  | [], vs => vs.isEmpty
  | c :: cs, vs => (match vs with | v :: vs => okConst c v && okConsts cs vs | [] => false)
end

def okOpd : Operand → Opd → Bool
  | .tmp t, .t i => t == i
  | .const v, .c a => okConst a v
  | .func f, .c (.func g []) => f == g
  | _, _ => false
def okOpdO : Option Operand → Option Opd → Bool
  | none, none => true
  | some x, some y => okOpd x y
  | _, _ => false

def aggD : TypeDesc → Bool
  | .struct _ | .array _ _ => true
  | _ => false
def tyB (t : TypeId) (n : Nat) (ag : Bool) : Bool :=
  match P.info? t, P.underlying t with
  | some i, some d => i.size == n && aggD d == ag
  | _, _ => false
def szB (t : TypeId) (n : Nat) : Bool := tyB P t n true || tyB P t n false
def zeroB (t : TypeId) (zero : List AV) : Bool :=
  match P.info? t with
  | some i => match i.zero with
    | some z => okConsts zero z.cells.toList
    | none => false
  | none => false
def sliceB (t : TypeId) (esz : Nat) : Bool :=
  match P.underlying t with
  | some (.slice e) => szB P e esz
  | _ => false
def stringB (t : TypeId) : Bool :=
  match P.underlying t with
  | some .string => true
  | _ => false
def bytesB (t : TypeId) : Bool :=
  match P.underlying t with
  | some (.slice e) => (match P.underlying e with
    | some (.int .u8) => true
    | _ => false)
  | _ => false
def fdB (s : TypeId) (f off : Nat) : Bool :=
  match P.underlying s with
  | some (.struct fs) => (match fs[f]? with
    | some fl => fl.offset == off && (match P.info? fl.type with
      | some i => i.size != 0
      | none => false)
    | none => false)
  | _ => false
def fldB (s : TypeId) (f off n : Nat) (ag : Bool) : Bool :=
  match P.underlying s with
  | some (.struct fs) => (match fs[f]? with
    | some fl => fl.offset == off && tyB P fl.type n ag
    | none => false)
  | _ => false
def arrB (t : TypeId) (len n : Nat) (ag : Bool) : Bool :=
  match P.underlying t with
  | some (.array l e) => l == len && tyB P e n ag
  | _ => false
def elB (t u : TypeId) (esz : Nat) : Bool :=
  match P.underlying t, P.underlying u with
  | some (.slice e), some du => (match du with | .int _ => false | _ => true) && (match P.info? e with
    | some i => i.size == esz && decide (i.bytes ≤ 2 ^ 15) && (match i.zero with
      | some z => z.cells.size == esz
      | none => false)
    | none => false)
  | _, _ => false
def stB (t : TypeId) (ks : List PK) : Bool :=
  (match P.underlying t with
   | some (.struct _) => true
   | _ => false) && !P.stoodInHeld t && (P.fieldsOf t).size == ks.length &&
  all2 (fun (f : Field) k => f.name != "_" && plainDesc k (P.underlying f.type)) (P.fieldsOf t).toList ks &&
  (P.fieldsOf t).toList.map (·.offset) == List.range ks.length
def keyB (t : TypeId) : KK → Bool
  | .one k => plainDesc k (P.underlying t)
  | .st ks => stB P t ks
def mapB (t : TypeId) (kk : KK) : Bool :=
  match P.underlying t with
  | some (.map k _) => keyB P k kk
  | _ => false
def mapZeroB (t : TypeId) (zero : AV) : Bool :=
  match P.underlying t with
  | some (.map _ e) => (match P.info? e with
    | some i => (match i.zero with
      | some z => okConst zero z
      | none => false)
    | none => false)
  | _ => false
def eqB (t : TypeId) : EqK → Bool
  | .st ks => stB P t ks && !P.eqGuardType P.depth t
  | k => match P.underlying t with
    | some d => eqDesc k d
    | none => false
def lenB (t : TypeId) (k : LK) : Bool :=
  match P.underlying t with
  | some d => lenFits k d
  | none => false
def callB (f : FuncId) : Bool :=
  match P.funcs[f]? with
  | some fn => fn.body.isSome && !(fn.name == "runtime.NumGoroutine")
  | none => false
def someB (t : TypeId) : Bool := (P.underlying t).isSome

/-- The parts of a literal. -/
def partsB (place : Nat → Option (Nat × Nat)) : List (Nat × Operand) → List (Nat × Nat × Opd) → Bool
  | [], [] => true
  | (i, x) :: ps, (off, n, y) :: qs => (match place i with
    | some (o, m) => o == off && m == n
    | none => false) && okOpd x y && partsB place ps qs
  | _, _ => false
def fieldPlaces (fs : Array Field) : Option (List (Nat × Nat)) := mapO (fun (f : Field) => (P.info? f.type).map fun i => (f.offset, i.size)) fs.toList

def okOp (o : Op) (a : AOp) : Bool :=
  match a with
  | .mv y => (match o with | .move x | .assign x => okOpd x y | _ => false)
  | .pick c' a' b' => (match o with | .pick c a b => okOpd c c' && okOpd a a' && okOpd b b' | _ => false)
  | .alloc zero => (match o with | .alloc t => zeroB P t zero | _ => false)
  | .box _ y => (match o with | .box _ x => okOpd x y | _ => false)
  | .build zero qs => (match o with
    | .build t ps => zeroB P t zero && (match P.underlying t with
      | some (.struct fs) => (match fieldPlaces P fs with
        | some pl => partsB (pl[·]?) ps.toList qs
        | none => false)
      | some (.array _ e) => (match P.info? e with
        | some i => szB P e i.size && partsB (fun j => some (j * i.size, i.size)) ps.toList qs
        | none => false)
      | _ => false)
    | _ => false)
  | .mkslice _ zero esz len' qs => (match o with
    | .buildSlice t len ps => len == len' && decide (len * esz ≤ 2 ^ 24) && zero.length == esz && (match P.underlying t with
      | some (.slice e) => zeroB P e zero && szB P e esz && partsB (fun j => some (j * esz, esz)) ps.toList qs
      | _ => false)
    | _ => false)
  | .load n ag y => (match o with | .load t x => tyB P t n ag && okOpd x y | _ => false)
  | .store n y u => (match o with | .store t x v => szB P t n && okOpd x y && okOpd v u | _ => false)
  | .nilchk y => (match o with | .nilCheck x => okOpd x y | _ => false)
  | .bin op' x' y' => (match o with | .binOp op _ x y _ => decide (op = op') && okOpd x x' && okOpd y y' | _ => false)
  | .eq neg k x' y' => (match o with | .binOp op t x y _ => decide (op = if neg then .neq else .eql) && eqB P t k && okOpd x x' && okOpd y y' | _ => false)
  | .un op' y => (match o with | .unOp op _ x => decide (op = op') && okOpd x y | _ => false)
  | .conv k y => (match o with
    | .convert src dst x => someB P src && (match P.underlying dst with | some (.int k') => decide (k = k') | _ => false) && okOpd x y
    | _ => false)
  | .s2b _ y => (match o with | .convert src dst x => someB P src && bytesB P dst && okOpd x y | _ => false)
  | .b2s y => (match o with | .convert src dst x => bytesB P src && stringB P dst && okOpd x y | _ => false)
  | .s2s y => (match o with | .convert src dst x => someB P src && stringB P dst && okOpd x y | _ => false)
  | .mkfunc f caps' => (match o with | .makeFunc (.func g) first caps => f == g && first.toList.isEmpty && all2 okOpd caps.toList caps' | _ => false)
  | .mkmap => (match o with | .makeMap _ none => true | _ => false)
  | .mkslc .. => false
  | .slice esz y lo' hi' mx' => (match o with | .slice t x lo hi mx => sliceB P t esz && okOpd x y && okOpdO lo lo' && okOpdO hi hi' && okOpdO mx mx' | _ => false)
  | .substr y lo' hi' => (match o with | .slice t x lo hi none => stringB P t && okOpd x y && okOpdO lo lo' && okOpdO hi hi' | _ => false)
  | .faddr off y => (match o with | .fieldAddr s x f => fdB P s f off && okOpd x y | _ => false)
  | .fld off n ag y => (match o with | .field s x f => fldB P s f off n ag && okOpd x y | _ => false)
  | .iaddr esz y j => (match o with | .indexAddr t x i => sliceB P t esz && okOpd x y && okOpd i j | _ => false)
  | .idxs y j => (match o with | .index t x i => stringB P t && okOpd x y && okOpd i j | _ => false)
  | .idxa n ag len y j => (match o with | .index t x i => arrB P t len n ag && okOpd x y && okOpd i j | _ => false)
  | .lookup kk zero ok' m' k' => (match o with | .lookup t m k ok => mapB P t kk && mapZeroB P t zero && ok == ok' && okOpd m m' && okOpd k k' | _ => false)
  | .mapset kk m' k' v' => (match o with | .mapUpdate t m k v => mapB P t kk && okOpd m m' && okOpd k k' && okOpd v v' | _ => false)
  | .ext y i' => (match o with | .extract x i => i == i' && okOpd x y | _ => false)
  | .call f' args' => (match o with
    | .call ⟨.value (.func f), args, _⟩ => f == f' && callB P f && all2 okOpd args.toList args'
    | _ => false)
  | .calld g args' => (match o with
    | .call ⟨.value x, args, _⟩ => okOpd x g && all2 okOpd args.toList args'
    | _ => false)
  | .append esz x' y' => (match o with
    | .call ⟨.builtin .append, args, tys⟩ => (match args.toList, tys.toList with
      | [x, y], [t, u] => elB P t u esz && okOpd x x' && okOpd y y'
      | _, _ => false)
    | _ => false)
  | .len k y => (match o with
    | .call ⟨.builtin .len, args, tys⟩ => (match args.toList, tys.toList with
      | [x], [t] => lenB P t k && okOpd x y
      | _, _ => false)
    | _ => false)
  | .mins ys => (match o with | .call ⟨.builtin .min, args, _⟩ => all2 okOpd args.toList ys | _ => false)
  | .maxs ys => (match o with | .call ⟨.builtin .max, args, _⟩ => all2 okOpd args.toList ys | _ => false)
  | .delete kk m' k' => (match o with
    | .call ⟨.builtin .delete, args, tys⟩ => (match args.toList, tys.toList with
      | [m, k], [t, _] => mapB P t kk && okOpd m m' && okOpd k k'
      | _, _ => false)
    | _ => false)
  | .clear zero y => (match o with
    | .call ⟨.builtin .clear, args, tys⟩ => (match args.toList, tys.toList with
      | [x], [t] => (match P.underlying t with | some (.slice e) => zeroB P e zero | _ => false) && okOpd x y
      | _, _ => false)
    | _ => false)

/-! What the checks yield. -/
variable {P}

mutual
theorem okConst_vr (μ : Mu) : ∀ (a : AV) (v : Value), okConst a v = true → VR μ a v
  | .bool b, v, h => by
      simp only [okConst] at h; split at h
      · simp at h; subst h; simp [VR]
      · simp at h
  | .int k n, v, h => by
      simp only [okConst] at h; split at h
      · simp at h; obtain ⟨rfl, rfl⟩ := h; simp [VR]
      · simp at h
  | .str l, v, h => by
      simp only [okConst] at h; split at h
      · simp at h; subst h; simp [VR]
      · simp at h
  | .nilp, v, h => by
      simp only [okConst] at h; split at h
      · simp [VR]
      · simp at h
  | .nils, v, h => by
      simp only [okConst] at h; split at h
      · simp [VR]
      · simp at h
  | .nilm, v, h => by
      simp only [okConst] at h; split at h
      · simp [VR]
      · simp at h
  | .nilf, v, h => by
      simp only [okConst] at h; split at h
      · simp [VR]
      · simp at h
  | .agg cs, v, h => by
      simp only [okConst] at h; split at h
      · rename_i vs
        simp only [VR]
        exact ⟨vs.toList, by simp, okConsts_vr μ cs _ h⟩
      · simp at h
  | .ptr .., v, h => by simp [okConst] at h
  | .vptr .., v, h => by simp [okConst] at h
  | .slice .., v, h => by simp [okConst] at h
  | .vslice .., v, h => by simp [okConst] at h
  | .map _, v, h => by simp [okConst] at h
  | .func .., v, h => by simp [okConst] at h
  | .tup _, v, h => by simp [okConst] at h
theorem okConsts_vr (μ : Mu) : ∀ (as : List AV) (vs : List Value), okConsts as vs = true → VRL μ as vs
  | [], vs, h => by simp [okConsts] at h; simp [VRL, h]
  | a :: as, vs, h => by
      simp only [okConsts] at h; split at h
      · rename_i v vs
        simp at h
        simp only [VRL]
        exact ⟨v, vs, rfl, okConst_vr μ a v h.1, okConsts_vr μ as vs h.2⟩
      · simp at h
end

theorem tyB_ty {t : TypeId} {n : Nat} {ag : Bool} (h : tyB P t n ag = true) : Ty P t n ag := by
  unfold tyB at h
  split at h
  · rename_i i d h1 h2
    simp at h
    refine ⟨i, d, h1, h.1, h2, ?_⟩
    rw [← h.2]; cases d <;> rfl
  · simp at h
theorem szB_ty {t : TypeId} {n : Nat} (h : szB P t n = true) : ∃ ag, Ty P t n ag := by
  simp [szB] at h
  rcases h with h | h
  · exact ⟨_, tyB_ty h⟩
  · exact ⟨_, tyB_ty h⟩
theorem zeroB_zero {t : TypeId} {zero : List AV} (h : zeroB P t zero = true) : Zero P t zero := by
  unfold zeroB at h
  split at h
  · rename_i i h1
    split at h
    · rename_i z h2
      exact ⟨i, z, h1, h2, fun μ => okConsts_vr μ _ _ h⟩
    · simp at h
  · simp at h
theorem sliceB_ex {t : TypeId} {esz : Nat} (h : sliceB P t esz = true) : ∃ e ag, P.underlying t = some (.slice e) ∧ Ty P e esz ag := by
  unfold sliceB at h
  split at h
  · rename_i e h1
    obtain ⟨ag, h2⟩ := szB_ty h
    exact ⟨e, ag, h1, h2⟩
  · simp at h
theorem stringB_ex {t : TypeId} (h : stringB P t = true) : P.underlying t = some .string := by
  unfold stringB at h
  split at h
  · assumption
  · simp at h
theorem bytesB_ty {t : TypeId} (h : bytesB P t = true) : BytesTy P t := by
  unfold bytesB at h
  split at h
  · rename_i e h1
    split at h
    · rename_i h2; exact ⟨e, h1, h2⟩
    · simp at h
  · simp at h
theorem someB_ex {t : TypeId} (h : someB P t = true) : ∃ d, P.underlying t = some d := Option.isSome_iff_exists.1 h
theorem fdB_fd {s : TypeId} {f off : Nat} (h : fdB P s f off = true) : Fd P s f off := by
  unfold fdB at h
  split at h
  · rename_i fs h1
    split at h
    · rename_i fl h2
      simp at h
      obtain ⟨h3, h4⟩ := h
      split at h4
      · rename_i i h5
        exact ⟨fs, fl, i, h1, h2, h3, h5, by simpa using h4⟩
      · simp at h4
    · simp at h
  · simp at h
theorem fldB_ex {s : TypeId} {f off n : Nat} {ag : Bool} (h : fldB P s f off n ag = true) : ∃ fs fl, P.underlying s = some (.struct fs) ∧ fs[f]? = some fl ∧ fl.offset = off ∧ Ty P fl.type n ag := by
  unfold fldB at h
  split at h
  · rename_i fs h1
    split at h
    · rename_i fl h2
      simp at h
      exact ⟨fs, fl, h1, h2, h.1, tyB_ty h.2⟩
    · simp at h
  · simp at h
theorem arrB_ex {t : TypeId} {len n : Nat} {ag : Bool} (h : arrB P t len n ag = true) : ∃ e, P.underlying t = some (.array len e) ∧ Ty P e n ag := by
  unfold arrB at h
  split at h
  · rename_i l e h1
    simp at h
    obtain ⟨rfl, h2⟩ := h
    exact ⟨e, h1, tyB_ty h2⟩
  · simp at h
theorem elB_el {t u : TypeId} {esz : Nat} (h : elB P t u esz = true) : ∃ e, El P t u e esz := by
  unfold elB at h
  split at h
  · rename_i e du h1 h2
    simp only [Bool.and_eq_true] at h
    obtain ⟨h3, h4⟩ := h
    split at h4
    · rename_i i h5
      simp only [Bool.and_eq_true, beq_iff_eq, decide_eq_true_eq] at h4
      obtain ⟨⟨h6, h7⟩, h8⟩ := h4
      split at h8
      · rename_i z h9
        simp at h8
        refine ⟨e, i, z, du, h1, h2, ?_, h5, h6, h7, h9, h8⟩
        cases du <;> simp at h3 ⊢
      · simp at h8
    · simp at h4
  · simp at h
theorem all2_get {α β : Type} {f : α → β → Bool} : ∀ {as : List α} {bs : List β}, all2 f as bs = true → as.length = bs.length ∧ ∀ (j : Nat) (a : α) (b : β), as[j]? = some a → bs[j]? = some b → f a b = true
  | [], [], _ => ⟨rfl, fun j a b h _ => by simp at h⟩
  | a :: as, b :: bs, h => by
    simp [all2] at h
    obtain ⟨h1, h2⟩ := all2_get h.2
    exact ⟨by simp [h1], fun j x y hx hy => by
      cases j with
      | zero => simp at hx hy; subst hx; subst hy; exact h.1
      | succ j => exact h2 j x y (by simpa using hx) (by simpa using hy)⟩
  | [], _ :: _, h => by simp [all2] at h
  | _ :: _, [], h => by simp [all2] at h
theorem stB_flat {t : TypeId} {ks : List PK} (h : stB P t ks = true) : StFlat P t ks := by
  simp only [stB, Bool.and_eq_true] at h
  obtain ⟨⟨⟨⟨h1, h2⟩, h3⟩, h4⟩, h5⟩ := h
  have hu : P.underlying t = some (.struct (P.fieldsOf t)) := by
    unfold Program.fieldsOf
    split at h1
    · rename_i fs hf; simp [hf]
    · simp at h1
  obtain ⟨h6, h7⟩ := all2_get h4
  refine ⟨hu, by simpa using h2, by simpa using h3, fun j f k hf hk => ?_⟩
  have := h7 j f k (by simpa using hf) hk
  simp at this
  refine ⟨this.1, ?_, this.2⟩
  have ho : ((P.fieldsOf t).toList.map (·.offset))[j]? = some f.offset := by simp [hf]
  rw [beq_iff_eq.1 h5] at ho
  have hlt : j < ks.length := (List.getElem?_eq_some_iff.1 hk).1
  simp [hlt] at ho
  exact ho.symm
theorem keyB_fits {t : TypeId} {kk : KK} (h : keyB P t kk = true) : KeyFits P t kk := by
  cases kk with
  | one k => exact h
  | st ks => exact stB_flat h
theorem mapB_ty {t : TypeId} {kk : KK} (h : mapB P t kk = true) : MapTy P t kk := by
  unfold mapB at h
  split at h
  · rename_i k e h1; exact ⟨k, e, h1, keyB_fits h⟩
  · simp at h
theorem mapZeroB_zero {t : TypeId} {zero : AV} (h : mapZeroB P t zero = true) : MapZero P t zero := by
  unfold mapZeroB at h
  split at h
  · rename_i k e h1
    split at h
    · rename_i i h2
      split at h
      · rename_i z h3
        exact ⟨k, e, i, z, h1, h2, h3, fun μ => okConst_vr μ _ _ h⟩
      · simp at h
    · simp at h
  · simp at h
theorem eqB_fits {t : TypeId} {k : EqK} (h : eqB P t k = true) : EqFits P t k := by
  cases k with
  | st ks =>
    simp [eqB] at h
    exact ⟨stB_flat h.1, h.2⟩
  | _ =>
    simp only [eqB] at h
    split at h
    · rename_i d h1; exact ⟨d, h1, h⟩
    · simp at h

end Go.AM
