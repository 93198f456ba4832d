/-
  Maps; bytes and texts; rows of zero values.
-/
import Derived.Test.YtnieokpcakhfpaaGreatAmSteps7
namespace Go.AM

variable {P : Program}

/-- What the keys' kind asks of the keys' type. -/
def KeyFits (P : Program) (t : TypeId) : KK → Prop
  | .one k => plainDesc k (P.underlying t) = true
  | .st ks => StFlat P t ks

theorem KeyFits.ex {t : TypeId} {kk : KK} (h : KeyFits P t kk) : ∃ d, P.underlying t = some d := by
  cases kk with
  | one k =>
    cases hd : P.underlying t with
    | none => unfold KeyFits at h; rw [hd] at h; cases k <;> simp [plainDesc] at h
    | some d => exact ⟨d, rfl⟩
  | st ks => exact ⟨_, h.fs⟩

theorem sameNow_sound {μ : Mu} {k : PK} {d : TypeDesc} (hp : plainDesc k (some d) = true) {a b : AV} {x y : Value} (hx : VR μ a x) (hy : VR μ b y) {r : Bool} (hr : cellEq k a b = some r) : Instr.sameNow d x y = some r := by
  unfold cellEq at hr
  split at hr
  · split at hr
    · rename_i e; subst e
      simp at hr; subst hr
      simp only [VR] at hx hy; subst hx; subst hy
      cases d <;> simp [plainDesc] at hp
      simp [Instr.sameNow]
    · simp at hr
  · simp at hr; subst hr
    simp only [VR] at hx hy; subst hx; subst hy
    cases d <;> simp [plainDesc] at hp
    simp [Instr.sameNow, beq_toListBytes]
  · simp at hr; subst hr
    simp only [VR] at hx hy; subst hx; subst hy
    cases d <;> simp [plainDesc] at hp
    simp [Instr.sameNow]
  · simp at hr

/-- What a search finds, in both. -/
inductive FR (μ : Mu) (n : Nat) : Option (Nat × AV) → Option (Nat × Value) → Prop where
  | none : FR μ n none none
  | some {i : Nat} {a : AV} {v : Value} (h : VR μ a v) : FR μ n (some (i, a)) (some (n + i, v))

theorem findNow_sound {μ : Mu} {k : PK} {d : TypeDesc} (hp : plainDesc k (some d) = true) {a : AV} {x : Value} (hx : VR μ a x) : ∀ (es : List (AV × AV)) (ents : List MapEntry) (n : Nat) (res : Option (Nat × AV)),
    ents.length = es.length → (∀ (j : Nat) (e : MapEntry) (p : AV × AV), ents[j]? = some e → es[j]? = some p → ER μ e p) → findK (.one k) a es = some res → ∃ res', Instr.findNow d x ents n = some res' ∧ FR μ n res res'
  | [], ents, n, res, hl, _, hr => by
    simp at hl; subst hl
    simp [findK] at hr; subst hr
    exact ⟨none, rfl, .none⟩
  | (k', v) :: es, ents, n, res, hl, he, hr => by
    cases ents with
    | nil => simp at hl
    | cons e ents =>
    obtain ⟨h1, h2⟩ := he 0 e (k', v) (by simp) (by simp)
    simp only [findK, sameKey] at hr
    split at hr
    · rename_i hc
      simp at hr; subst hr
      exact ⟨some (n, e.val), by simp [Instr.findNow, sameNow_sound hp hx h1 hc], .some (i := 0) h2⟩
    · rename_i hc
      split at hr
      · rename_i i v' hf
        simp at hr; subst hr
        obtain ⟨res', h3, h4⟩ := findNow_sound hp hx es ents (n + 1) _ (by simpa using hl) (fun j e p h h' => he (j + 1) e p (by simpa using h) (by simpa using h')) hf
        cases h4 with
        | some h4 =>
        exact ⟨_, by simp [Instr.findNow, sameNow_sound hp hx h1 hc, h3]; rfl, by rw [show n + 1 + i = n + (i + 1) from by omega]; exact .some h4⟩
      · rename_i hf
        simp at hr; subst hr
        obtain ⟨res', h3, h4⟩ := findNow_sound hp hx es ents (n + 1) _ (by simpa using hl) (fun j e p h h' => he (j + 1) e p (by simpa using h) (by simpa using h')) hf
        cases h4
        exact ⟨none, by simp [Instr.findNow, sameNow_sound hp hx h1 hc, h3], .none⟩
      · simp at hr
    · simp at hr

theorem findAsking_sound {μ : Mu} {w : World} {ks : List PK} {t : TypeId} (ht : StFlat P t ks) {as : List AV} {x : Value} (hx : VR μ (.agg as) x) : ∀ (es : List (AV × AV)) (ents : List MapEntry) (n : Nat) (res : Option (Nat × AV)),
    ents.length = es.length → (∀ (j : Nat) (e : MapEntry) (p : AV × AV), ents[j]? = some e → es[j]? = some p → ER μ e p) → findK (.st ks) (.agg as) es = some res → ∃ res', (Instr.findAsking t x ents n).run P w = .ok res' w ∧ FR μ n res res'
  | [], ents, n, res, hl, _, hr => by
    simp at hl; subst hl
    simp [findK] at hr; subst hr
    exact ⟨none, rfl, .none⟩
  | (k', v) :: es, ents, n, res, hl, he, hr => by
    cases ents with
    | nil => simp at hl
    | cons e ents =>
    obtain ⟨h1, h2⟩ := he 0 e (k', v) (by simp) (by simp)
    have heq : ∀ r : Bool, sameKey (.st ks) (.agg as) k' = some r → (Op.equal t x e.key).run P w = .ok r w := by
      intro r hc
      cases k' <;> simp only [sameKey] at hc <;> (try (simp at hc; done))
      exact struct_eq_sound (P := P) ht hx h1 hc 9998
    simp only [findK] at hr
    split at hr
    · rename_i hc
      simp at hr; subst hr
      exact ⟨some (n, e.val), by simp [Instr.findAsking, heq _ hc], .some (i := 0) h2⟩
    · rename_i hc
      split at hr
      · rename_i i v' hf
        simp at hr; subst hr
        obtain ⟨res', h3, h4⟩ := findAsking_sound (w := w) ht hx es ents (n + 1) _ (by simpa using hl) (fun j e p h h' => he (j + 1) e p (by simpa using h) (by simpa using h')) hf
        cases h4 with
        | some h4 =>
        exact ⟨_, by simp [Instr.findAsking, heq _ hc, h3]; rfl, by rw [show n + 1 + i = n + (i + 1) from by omega]; exact .some h4⟩
      · rename_i hf
        simp at hr; subst hr
        obtain ⟨res', h3, h4⟩ := findAsking_sound (w := w) ht hx es ents (n + 1) _ (by simpa using hl) (fun j e p h h' => he (j + 1) e p (by simpa using h) (by simpa using h')) hf
        cases h4
        exact ⟨none, by simp [Instr.findAsking, heq _ hc, h3], .none⟩
      · simp at hr
    · simp at hr

theorem find_sound {μ : Mu} {w : World} {kk : KK} {t : TypeId} (ht : KeyFits P t kk) {a : AV} {x : Value} (hx : VR μ a x) (hk : isKey kk a = true) {es : List (AV × AV)} {ents : List MapEntry} {res : Option (Nat × AV)}
    (hl : ents.length = es.length) (he : ∀ (j : Nat) (e : MapEntry) (p : AV × AV), ents[j]? = some e → es[j]? = some p → ER μ e p) (hr : findK kk a es = some res) : ∃ res', (Instr.findKey t x ents).run P w = .ok res' w ∧ FR μ 0 res res' := by
  obtain ⟨d, hd⟩ := ht.ex
  cases kk with
  | one k =>
    have hp : plainDesc k (some d) = true := by unfold KeyFits at ht; rw [hd] at ht; exact ht
    obtain ⟨res', h1, h2⟩ := findNow_sound hp hx es ents 0 res hl he hr
    exact ⟨res', by simp [Instr.findKey, run_underlying hd, h1], h2⟩
  | st ks =>
    have ht : StFlat P t ks := ht
    cases a <;> simp only [isKey, sameKey] at hk <;> (try (simp at hk; done))
    rename_i as
    obtain ⟨res', h1, h2⟩ := findAsking_sound (P := P) (w := w) ht hx es ents 0 res hl he hr
    cases ents with
    | nil =>
      have : es = [] := by simpa using hl.symm
      subst this
      simp [findK] at hr; subst hr
      exact ⟨none, by simp [Instr.findKey, run_underlying hd, Instr.findNow], .none⟩
    | cons e ents =>
      refine ⟨res', ?_, h2⟩
      have hn : Instr.findNow (.struct (P.fieldsOf t)) x (e :: ents) 0 = none := by
        simp only [VR] at hx
        obtain ⟨vs, rfl, _⟩ := hx
        simp [Instr.findNow, Instr.sameNow]
      simp [Instr.findKey, run_underlying ht.fs, hn, h1]

theorem checkCells_sound {w : World} {vs : List Value} {e : Bool} {n : Nat} : ∀ (fs : List Field) (ks : List PK) (off : Nat), fs.length = ks.length → off + ks.length = vs.length →
    (∀ (j : Nat) (f : Field) (k : PK), fs[j]? = some f → ks[j]? = some k → f.name ≠ "_" ∧ f.offset = off + j ∧ plainDesc k (P.underlying f.type) = true) →
    (forIn fs PUnit.unit (fun f (_ : PUnit) => (do if f.name ≠ "_" then Instr.checkKey e (n + 1) f.type (← part f.type vs.toArray f.offset)
                                                   pure (ForInStep.yield PUnit.unit) : Sem (ForInStep PUnit)))).run P w = .ok PUnit.unit w
  | [], ks, off, _, _, _ => by simp
  | f :: fs, ks, off, hl, hv, hall => by
    cases ks with
    | nil => simp at hl
    | cons k ks =>
    simp only [List.length_cons] at hl hv
    obtain ⟨hn, ho, hp⟩ := hall 0 f k (by simp) (by simp)
    simp only [Nat.add_zero] at ho
    have hpx : (part f.type vs.toArray f.offset).run P w = .ok (vs[off]'(by omega)) w := by simp [part, plain_isAgg hp, ho, show off < vs.length from by omega]
    have hck : ∀ v, (Instr.checkKey e (n + 1) f.type v).run P w = .ok () w := by
      intro v
      cases hd : P.underlying f.type with
      | none => rw [hd] at hp; cases k <;> simp [plainDesc] at hp
      | some d =>
        rw [hd] at hp
        unfold Instr.checkKey
        rw [Sem.run_bind, run_underlying hd]
        cases k <;> cases d <;> simp [plainDesc] at hp <;> cases v <;> rfl
    have ih := checkCells_sound (w := w) (vs := vs) (e := e) (n := n) fs ks (off + 1) (by simpa using hl) (by omega) (fun j g q hg hq => by
        obtain ⟨h2, h3, h4⟩ := hall (j + 1) g q (by simpa using hg) (by simpa using hq)
        exact ⟨h2, by omega, h4⟩)
    simp only [List.forIn_cons, Sem.run_bind, ne_eq, hn, not_false_eq_true, if_true, hpx, Result.andThen, hck, Sem.run_pure]
    exact ih

theorem check_sound {μ : Mu} {w : World} {kk : KK} {t : TypeId} (ht : KeyFits P t kk) {a : AV} {x : Value} (hx : VR μ a x) (hk : isKey kk a = true) (e : Bool) : (Instr.checkKey e 10000 t x).run P w = .ok () w := by
  cases kk with
  | one k =>
    obtain ⟨d, hd⟩ := ht.ex
    have hp : plainDesc k (some d) = true := by unfold KeyFits at ht; rw [hd] at ht; exact ht
    unfold Instr.checkKey
    rw [Sem.run_bind, run_underlying hd]
    cases k <;> cases d <;> simp [plainDesc] at hp <;> cases x <;> rfl
  | st ks =>
    have ht : StFlat P t ks := ht
    cases a <;> simp only [isKey, sameKey] at hk <;> (try (simp at hk; done))
    rename_i as
    obtain ⟨r, hr⟩ := Option.isSome_iff_exists.1 hk
    have hlen := (cellsEq_length hr).1
    simp only [VR] at hx
    obtain ⟨vs, rfl, hv⟩ := hx
    have hvl := hv.length
    have h := checkCells_sound (P := P) (w := w) (vs := vs) (e := e) (n := 9998) (P.fieldsOf t).toList ks 0 (by simpa using ht.size) (by omega) (fun j f k hf hk => by
      obtain ⟨h1, h2, h3⟩ := ht.all j f k (by simpa using hf) hk
      exact ⟨h1, by omega, h3⟩)
    unfold Instr.checkKey
    rw [Sem.run_bind, run_underlying ht.fs]
    simp only [Result.andThen]
    rw [← Array.forIn_toList]
    simpa using h

end Go.AM
