/-
  Equality against nil and of structs; bytes and texts; maps.
-/
import Derived.Test.YtnieokpcakhfpaaGreatAmSteps6
import Derived.Laws.StructEq
import Derived.MapKept
namespace Go.AM

variable {P : Program}

/-- A type whose values are one plain cell. -/
def plainDesc : PK → Option TypeDesc → Bool
  | .b, some .bool | .i, some (.int _) | .s, some .string => true
  | _, _ => false

theorem plain_isAgg {t : TypeId} {k : PK} (h : plainDesc k (P.underlying t) = true) (w : World) : (isAgg t).run P w = .ok false w := by
  cases hd : P.underlying t with
  | none => rw [hd] at h; cases k <;> simp [plainDesc] at h
  | some d =>
    rw [hd] at h
    unfold Go.isAgg
    rw [Sem.run_bind, run_underlying hd]
    cases k <;> cases d <;> simp [plainDesc] at h ⊢

theorem cell_eq_sound {μ : Mu} {w : World} {t : TypeId} {k : PK} (hp : plainDesc k (P.underlying t) = true) {a b : AV} {x y : Value} (hx : VR μ a x) (hy : VR μ b y) {r : Bool} (hr : cellEq k a b = some r) (n : Nat) :
    (Op.equalIn (n + 1) t x y).run P w = .ok r w := by
  cases hd : P.underlying t with
  | none => rw [hd] at hp; cases k <;> simp [plainDesc] at hp
  | some d =>
  rw [hd] at hp
  unfold cellEq at hr
  split at hr
  · split at hr
    · rename_i e; subst e
      simp at hr; subst hr
      simp only [VR] at hx hy; subst hx; subst hy
      cases d <;> simp [plainDesc] at hp
      simp [Op.equalIn, run_underlying hd]
    · simp at hr
  · simp at hr; subst hr
    simp only [VR] at hx hy; subst hx; subst hy
    cases d <;> simp [plainDesc] at hp
    simp [Op.equalIn, run_underlying hd, beq_toListBytes]
  · simp at hr; subst hr
    simp only [VR] at hx hy; subst hx; subst hy
    cases d <;> simp [plainDesc] at hp
    simp [Op.equalIn, run_underlying hd]
  · simp at hr

/-- A struct of plain fields, one cell each. -/
structure StFlat (P : Program) (t : TypeId) (ks : List PK) : Prop where
  fs : P.underlying t = some (.struct (P.fieldsOf t))
  held : P.stoodInHeld t = false
  size : (P.fieldsOf t).size = ks.length
  all : ∀ (j : Nat) (f : Field) (k : PK), (P.fieldsOf t)[j]? = some f → ks[j]? = some k → f.name ≠ "_" ∧ f.offset = j ∧ plainDesc k (P.underlying f.type) = true

theorem cellsEq_length : ∀ {ks : List PK} {as bs : List AV} {r : Bool}, cellsEq ks as bs = some r → as.length = ks.length ∧ bs.length = ks.length
  | [], [], [], _, _ => ⟨rfl, rfl⟩
  | k :: ks, a :: as, b :: bs, r, h => by
    simp only [cellsEq] at h
    split at h
    · have := cellsEq_length h; simp [this]
    · split at h
      · simp_all
      · simp at h
    · simp at h
  | [], [], _ :: _, _, h => by simp [cellsEq] at h
  | [], _ :: _, _, _, h => by simp [cellsEq] at h
  | _ :: _, [], _, _, h => by simp [cellsEq] at h
  | _ :: _, _ :: _, [], _, h => by simp [cellsEq] at h

theorem eqFields_sound {μ : Mu} {w : World} (xs0 ys0 : List Value) (n : Nat) : ∀ (fs : List Field) (ks : List PK) (off : Nat) (as bs : List AV) (xs ys : List Value),
      xs = xs0.drop off → ys = ys0.drop off → VRL μ as xs → VRL μ bs ys →
      fs.length = ks.length → (∀ (j : Nat) (f : Field) (k : PK), fs[j]? = some f → ks[j]? = some k → f.name ≠ "_" ∧ f.offset = off + j ∧ plainDesc k (P.underlying f.type) = true) →
      ∀ r : Bool, cellsEq ks as bs = some r → (Op.eqFields (n + 1) xs0.toArray ys0.toArray fs).run P w = .ok r w
  | [], ks, off, as, bs, xs, ys, _, _, _, _, hl, _, r, hr => by
    cases ks with
    | nil => 
      cases as <;> cases bs <;> simp [cellsEq] at hr
      subst hr; simp [Op.eqFields]
    | cons k ks => simp at hl
  | f :: fs, ks, off, as, bs, xs, ys, ex, ey, hx, hy, hl, hall, r, hr => by
    cases ks with
    | nil => simp at hl
    | cons k ks =>
    cases as with
    | nil => simp [cellsEq] at hr
    | cons a as =>
    cases bs with
    | nil => simp [cellsEq] at hr
    | cons b bs =>
    obtain ⟨hn, ho, hp⟩ := hall 0 f k (by simp) (by simp)
    simp only [Nat.add_zero] at ho
    simp only [VRL] at hx hy
    obtain ⟨x, xs', rfl, hx1, hx2⟩ := hx
    obtain ⟨y, ys', rfl, hy1, hy2⟩ := hy
    have gx : xs0[off]? = some x := by
      have := congrArg (·[0]?) ex; simp only [List.getElem?_cons_zero, List.getElem?_drop, Nat.add_zero] at this; exact this.symm
    have gy : ys0[off]? = some y := by
      have := congrArg (·[0]?) ey; simp only [List.getElem?_cons_zero, List.getElem?_drop, Nat.add_zero] at this; exact this.symm
    have hpx : (part f.type xs0.toArray f.offset).run P w = .ok x w := by simp [part, plain_isAgg hp, ho, gx]
    have hpy : (part f.type ys0.toArray f.offset).run P w = .ok y w := by simp [part, plain_isAgg hp, ho, gy]
    have ex' : xs' = xs0.drop (off + 1) := by
      have := congrArg List.tail ex; simpa [List.tail_drop] using this
    have ey' : ys' = ys0.drop (off + 1) := by
      have := congrArg List.tail ey; simpa [List.tail_drop] using this
    simp only [cellsEq] at hr
    simp only [Op.eqFields, ne_eq, hn, not_false_eq_true, if_true, Sem.run_bind, hpx, hpy, Result.andThen]
    split at hr
    · rename_i he
      have h1 := cell_eq_sound (P := P) (w := w) hp hx1 hy1 he n
      have ih := eqFields_sound (w := w) xs0 ys0 n fs ks (off + 1) as bs xs' ys' ex' ey' hx2 hy2 (by simpa using hl) (fun j g q hg hq => by
        obtain ⟨h2, h3, h4⟩ := hall (j + 1) g q (by simpa using hg) (by simpa using hq)
        exact ⟨h2, by omega, h4⟩) r hr
      simp [h1, ih]
    · rename_i he
      have h1 := cell_eq_sound (P := P) (w := w) hp hx1 hy1 he n
      split at hr
      · simp at hr; subst hr
        simp [h1]
      · simp at hr
    · simp at hr

theorem struct_eq_sound {μ : Mu} {w : World} {t : TypeId} {ks : List PK} (ht : StFlat P t ks) {as bs : List AV} {xv yv : Value} (hx : VR μ (.agg as) xv) (hy : VR μ (.agg bs) yv) {r : Bool} (hr : cellsEq ks as bs = some r) (n : Nat) :
    (Op.equalIn (n + 2) t xv yv).run P w = .ok r w := by
  simp only [VR] at hx hy
  obtain ⟨xs, rfl, hx⟩ := hx
  obtain ⟨ys, rfl, hy⟩ := hy
  rw [run_equalIn_struct w (n + 1) t _ _ ht.fs ht.held]
  exact eqFields_sound xs ys n _ ks 0 as bs xs ys (by simp) (by simp) hx hy (by simpa using ht.size) (fun j f k hf hk => by
    obtain ⟨h1, h2, h3⟩ := ht.all j f k (by simpa using hf) hk
    exact ⟨h1, by omega, h3⟩) r hr

def eqDesc : EqK → TypeDesc → Bool
  | .ptr, .pointer _ | .slc, .slice _ | .mp, .map _ _ | .fn, .func _ _ _ | .bl, .bool => true
  | _, _ => false
/-- What the comparison's kind asks of the type. -/
def EqFits (P : Program) (t : TypeId) (k : EqK) : Prop :=
  match k with
  | .st ks => StFlat P t ks ∧ P.eqGuardType P.depth t = false
  | k => ∃ d, P.underlying t = some d ∧ eqDesc k d = true

set_option maxHeartbeats 4000000 in
theorem eq_sound {μ : Mu} {w : World} {t : TypeId} {k : EqK} (ht : EqFits P t k) {x y : AV} {xv yv : Value} (hx : VR μ x xv) (hy : VR μ y yv) {r : Bool} (hr : eqV k x y = some r) (neg : Bool) (ox oy : Operand) :
    ((do eqGuard (if neg then .neq else .eql) t ox oy xv yv; binOp (if neg then .neq else .eql) t xv yv) : Sem Value).run P w = .ok (.bool (if neg then !r else r)) w := by
  have key : ∀ xv yv : Value, (∀ w, (eqGuard (if neg then .neq else .eql) t ox oy xv yv).run P w = .ok () w) → (∀ w, (Op.equal t xv yv).run P w = .ok r w) →
      (∀ w, (binOp (if neg then .neq else .eql) t xv yv).run P w = ((Op.equal t xv yv).run P w).andThen fun b w' => .ok (.bool (if neg then !b else b)) w') →
      ((do eqGuard (if neg then .neq else .eql) t ox oy xv yv; binOp (if neg then .neq else .eql) t xv yv) : Sem Value).run P w = .ok (.bool (if neg then !r else r)) w := by
    intro xv yv h1 h2 h3
    simp [h1, h3, h2]
  have deq : ∀ {xv yv : Value} {r : Bool}, (∀ d w, (Op.equalIn (d + 1) t xv yv).run P w = .ok r w) → ∀ w, (Op.equal t xv yv).run P w = .ok r w := fun h w => h 9999 w
  by_cases hst : ∃ ks, k = .st ks
  · obtain ⟨ks, rfl⟩ := hst
    obtain ⟨ht, hg⟩ := ht
    cases x <;> cases y <;> simp only [eqV] at hr <;> (try (simp at hr; done))
    simp only [VR] at hx hy
    obtain ⟨xs, rfl, hx⟩ := hx
    obtain ⟨ys, rfl, hy⟩ := hy
    refine key _ _ (fun w => run_eqGuard_agg w _ t ox oy _ _ hg) (fun w => ?_) (fun w => ?_)
    · exact struct_eq_sound (P := P) ht (μ := μ) (by simp only [VR]; exact ⟨xs, rfl, hx⟩) (by simp only [VR]; exact ⟨ys, rfl, hy⟩) hr 9998
    · cases neg <;> simp [binOp]
  · have ht' : ∃ d, P.underlying t = some d ∧ eqDesc k d = true := by
      cases k <;> first | exact ht | exact absurd ⟨_, rfl⟩ hst
    obtain ⟨d, hu, hd⟩ := ht'
    cases k <;> cases d <;> simp [eqDesc] at hd <;> cases x <;> cases y <;> simp [eqV] at hr <;> subst hr <;> simp only [VR] at hx hy <;>
      (try obtain ⟨_, _, _, _, rfl⟩ := hx) <;> (try obtain ⟨_, _, _, _, rfl⟩ := hy) <;> (try obtain ⟨_, _, rfl, _⟩ := hx) <;> (try obtain ⟨_, _, rfl, _⟩ := hy) <;>
      (try obtain ⟨_, _, _, _, _, _, rfl, _⟩ := hx) <;> (try obtain ⟨_, _, _, _, _, _, rfl, _⟩ := hy) <;> (try obtain ⟨_, _, _, rfl, _⟩ := hx) <;> (try obtain ⟨_, _, _, rfl, _⟩ := hy) <;>
      (try obtain ⟨_, _, rfl⟩ := hx) <;> (try obtain ⟨_, _, rfl⟩ := hy) <;> (try obtain ⟨_, rfl, _⟩ := hx) <;> (try obtain ⟨_, rfl, _⟩ := hy) <;>
      (try subst hx) <;> (try subst hy) <;>
      exact key _ _ (fun w => by cases neg <;> simp [eqGuard]) (fun w => deq (fun d w => by simp [Op.equalIn, run_underlying hu]) w) (fun w => by cases neg <;> simp [binOp])

end Go.AM
