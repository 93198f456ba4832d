/-
  Addresses, slices, texts, numbers.
-/
import Derived.Test.YtnieokpcakhfpaaGreatAmSteps4
import GoSem.Dispatch
namespace Go.AM

variable {P : Program}

theorem bound_val {μ : Mu} {x : AV} {xv : Value} (hx : VR μ x xv) {i : Nat} (h : bound x = some i) : ∃ k, xv = .int k (i : Int) := by
  unfold bound at h
  split at h
  · rename_i k n
    simp at h; subst h
    simp only [VR] at hx; exact ⟨k, hx⟩
  · simp at h

theorem run_bound (k : IntKind) (i y : Nat) (code : BoundsCode) (h : i ≤ y) (w : World) : (Instr.sliceBound (.int k (i : Int)) y code).run P w = .ok i w := by
  have h1 : (0 : Int) ≤ (i : Int) ∧ (i : Int) ≤ (y : Int) := by omega
  simp [Instr.sliceBound, asIntOf, h]

/-- An operand that may be left out. -/
inductive VO (μ : Mu) : Option AV → Option Value → Prop where
  | none : VO μ none none
  | some {a : AV} {v : Value} (h : VR μ a v) : VO μ (some a) (some v)

theorem boundO_val {μ : Mu} {x : Option AV} {xv : Option Value} (hx : VO μ x xv) {d i : Nat} (h : boundO x d = some i) : (x = none ∧ xv = none ∧ i = d) ∨ ∃ a k, x = some a ∧ xv = some (.int k (i : Int)) := by
  cases hx with
  | none => simp [boundO] at h; exact .inl ⟨rfl, rfl, h.symm⟩
  | some hv =>
    simp [boundO] at h
    obtain ⟨k, rfl⟩ := bound_val hv h
    exact .inr ⟨_, k, rfl, rfl⟩

/-- The bounds of a slice expression of two indexes. -/
theorem run_bounds {μ : Mu} {lo hi : Option AV} {lov hiv : Option Value} (hlo : VO μ lo lov) (hhi : VO μ hi hiv) {len cap l h : Nat} (h1 : boundO hi len = some h) (h2 : boundO lo 0 = some l)
    (hlh : l ≤ h) (hle : h ≤ len) (hcap : len ≤ cap) (b : Bool) (w : World) : (Instr.sliceBounds b len cap lov hiv none).run P w = .ok (l, h, cap) w := by
  have hb1 := fun (k : IntKind) code => run_bound (P := P) k h cap code (by omega) w
  have hb2 := fun (k : IntKind) code => run_bound (P := P) k l h code hlh w
  rcases boundO_val hhi h1 with ⟨rfl, rfl, rfl⟩ | ⟨a, k, rfl, rfl⟩ <;> rcases boundO_val hlo h2 with ⟨rfl, rfl, rfl⟩ | ⟨a', k', rfl, rfl⟩ <;>
    simp [Instr.sliceBounds, hb1, hb2]
theorem run_bounds3 {μ : Mu} {lo hi : Option AV} {lov hiv : Option Value} (hlo : VO μ lo lov) (hhi : VO μ hi hiv) {len cap l h : Nat} (hs : hi.isSome = true) (h1 : boundO hi len = some h) (h2 : boundO lo 0 = some l)
    (hlh : l ≤ h) (hle : h ≤ len) (hcap : len ≤ cap) (km : IntKind) (b : Bool) (w : World) : (Instr.sliceBounds b len cap lov hiv (some (.int km (h : Int)))).run P w = .ok (l, h, h) w := by
  have hb0 := fun (k : IntKind) code => run_bound (P := P) k h cap code (by omega) w
  have hb1 := fun (k : IntKind) code => run_bound (P := P) k h h code (Nat.le_refl _) w
  have hb2 := fun (k : IntKind) code => run_bound (P := P) k l h code hlh w
  rcases boundO_val hhi h1 with ⟨rfl, rfl, rfl⟩ | ⟨a, k, rfl, rfl⟩
  · simp at hs
  · rcases boundO_val hlo h2 with ⟨rfl, rfl, rfl⟩ | ⟨a', k', rfl, rfl⟩ <;> simp [Instr.sliceBounds, hb0, hb1, hb2]

theorem substr_sound {μ : Mu} {w : World} {t : TypeId} (ht : P.underlying t = some .string) {x r : AV} {xv : Value} (hx : VR μ x xv) {lo hi : Option AV} {lov hiv : Option Value} (hlo : VO μ lo lov) (hhi : VO μ hi hiv)
    (hr : substrV x lo hi = some r) : ∃ rv, (Instr.sliceAt t xv lov hiv none).run P w = .ok rv w ∧ VR μ r rv := by
  unfold substrV at hr
  split at hr
  · rename_i s
    split at hr
    · rename_i h l h1 h2
      split at hr
      · rename_i hc
        simp at hr; subst hr
        simp only [VR] at hx; subst hx
        have hb := run_bounds (P := P) hlo hhi h1 h2 hc.1 hc.2 (Nat.le_refl _) false w
        have hsz : (⟨s.toArray⟩ : ByteArray).size = s.length := by simp [← ByteArray.size_data]
        refine ⟨.string ((⟨s.toArray⟩ : ByteArray).extract l h), by simp [Instr.sliceAt, Instr.slice, run_underlying ht, hsz, hb], ?_⟩
        simp only [VR]
        congr 1
        apply ByteArray.ext
        apply Array.ext'
        simp [ByteArray.data_extract]
      · simp at hr
    · simp at hr
  · simp at hr

theorem slice_sound {μ : Mu} {w : World} {t e : TypeId} {esz : Nat} {ag : Bool} (ht : P.underlying t = some (.slice e)) (he : Ty P e esz ag) {x r : AV} {xv : Value} (hx : VR μ x xv)
    {lo hi mx : Option AV} {lov hiv mxv : Option Value} (hlo : VO μ lo lov) (hhi : VO μ hi hiv) (hmx : VO μ mx mxv)
    (hr : sliceV esz x lo hi mx = some r) : ∃ rv, (Instr.sliceAt t xv lov hiv mxv).run P w = .ok rv w ∧ VR μ r rv := by
  unfold sliceV at hr
  split at hr
  · -- nil
    simp only [VR] at hx; subst hx
    split at hr
    · rename_i h l h1 h2 
      split at hr
      · rename_i hc
        obtain ⟨rfl, rfl⟩ := hc
        simp at hr; subst hr
        cases hmx
        have hb := run_bounds (P := P) hlo hhi h1 h2 (Nat.le_refl _) (Nat.le_refl _) (Nat.le_refl _) true w
        exact ⟨.slice none 0 0, by simp [Instr.sliceAt, Instr.slice, run_underlying ht, hb, he.sizeOf], by simp [VR]⟩
      · simp at hr
    · rename_i h l m h1 h2
      split at hr
      · rename_i hc
        obtain ⟨rfl, rfl, hm, hs⟩ := hc
        simp at hr; subst hr
        cases hmx with
        | some hmv =>
        obtain ⟨km, rfl⟩ := bound_val hmv hm
        have hb := run_bounds3 (P := P) hlo hhi hs h1 h2 (Nat.le_refl _) (Nat.le_refl _) (Nat.le_refl _) km true w
        simp only [Int.natCast_zero, Int.ofNat_zero, Int.cast_ofNat_Int] at hb ⊢
        exact ⟨.slice none 0 0, by simp [Instr.sliceAt, Instr.slice, run_underlying ht, hb, he.sizeOf], by simp [VR]⟩
      · simp at hr
    · simp at hr
  · -- an object
    rename_i o st off len e' tight
    split at hr
    · rename_i h l h1 h2
      split at hr
      · rename_i hc
        obtain ⟨hlh, hle, rfl⟩ := hc
        simp only [VR] at hx
        obtain ⟨b, base, n, i, cap, hl, rfl, hcap, htight, h3⟩ := hx
        split at hr
        · simp at hr; subst hr
          cases hmx
          have hb := run_bounds (P := P) hlo hhi h1 h2 hlh hle hcap true w
          refine ⟨_, by simp [Instr.sliceAt, Instr.slice, run_underlying ht, hb, he.sizeOf]; rfl, ?_⟩
          simp only [VR]
          by_cases hcl : cap = l
          · subst hcl
            exact ⟨b, base, n, i, 0, hl, by simp, by omega, fun hh => by simp at hh; omega, fun hh => by omega⟩
          · refine ⟨b, base, n, i + l * e', cap - l, hl, by simp [hcl, addr_add], by omega, fun hh => ?_, fun hh => ?_⟩
            · simp at hh
              have := htight hh.1; omega
            · obtain ⟨g1, g2⟩ := h3 (by omega)
              refine ⟨by omega, ?_⟩
              have : (cap - l) * e' + l * e' = cap * e' := by rw [← Nat.add_mul]; congr 1; omega
              omega
        · rename_i m
          split at hr
          · rename_i hm
            obtain ⟨hm1, hm2⟩ := hm
            simp at hr; subst hr
            cases hmx with
            | some hmv =>
            obtain ⟨km, rfl⟩ := bound_val hmv hm1
            have hb := run_bounds3 (P := P) hlo hhi hm2 h1 h2 hlh hle hcap km true w
            refine ⟨_, by simp [Instr.sliceAt, Instr.slice, run_underlying ht, hb, he.sizeOf]; rfl, ?_⟩
            simp only [VR]
            by_cases hcl : h = l
            · subst hcl
              exact ⟨b, base, n, i, 0, hl, by simp, by omega, fun hh => by omega, fun hh => by omega⟩
            · refine ⟨b, base, n, i + l * e', h - l, hl, by simp [hcl, addr_add], by omega, fun hh => rfl, fun hh => ?_⟩
              obtain ⟨g1, g2⟩ := h3 (by omega)
              refine ⟨by omega, ?_⟩
              have : (h - l) * e' + l * e' = h * e' := by rw [← Nat.add_mul]; congr 1; omega
              have : h * e' ≤ cap * e' := Nat.mul_le_mul_right _ (by omega)
              omega
          · simp at hr
      · simp at hr
    · simp at hr
  · -- cells that never change
    rename_i br cs len e' tight
    split at hr
    · rename_i h l h1 h2
      split at hr
      · rename_i hc
        obtain ⟨hlh, hle, rfl⟩ := hc
        simp only [VR] at hx
        obtain ⟨b, i, cap, rfl, hcap, htight, hcl0, hcs⟩ := hx
        have hlen : ((cs.drop (l * e')).take ((h - l) * e')).length = (h - l) * e' := by
          simp only [List.length_take, List.length_drop, hcl0]
          have h4 : (h - l) * e' + l * e' ≤ len * e' := by rw [← Nat.add_mul]; exact Nat.mul_le_mul_right _ (by omega)
          omega
        split at hr
        · simp at hr; subst hr
          cases hmx
          have hb := run_bounds (P := P) hlo hhi h1 h2 hlh hle hcap true w
          refine ⟨_, by simp [Instr.sliceAt, Instr.slice, run_underlying ht, hb, he.sizeOf]; rfl, ?_⟩
          simp only [VR]
          by_cases hcl : cap = l
          · subst hcl
            have h0 : h - cap = 0 := by omega
            refine ⟨b, i, 0, by simp, by omega, fun hh => by omega, hlen, ?_⟩
            rw [h0]; simp [VRC]
          · refine ⟨b, i + l * e', cap - l, by simp [hcl, addr_add], by omega, fun hh => ?_, hlen, (hcs.drop _).take _⟩
            simp at hh
            have := htight hh.1; omega
        · rename_i m
          split at hr
          · rename_i hm
            obtain ⟨hm1, hm2⟩ := hm
            simp at hr; subst hr
            cases hmx with
            | some hmv =>
            obtain ⟨km, rfl⟩ := bound_val hmv hm1
            have hb := run_bounds3 (P := P) hlo hhi hm2 h1 h2 hlh hle hcap km true w
            refine ⟨_, by simp [Instr.sliceAt, Instr.slice, run_underlying ht, hb, he.sizeOf]; rfl, ?_⟩
            simp only [VR]
            by_cases hcl : h = l
            · subst hcl
              refine ⟨b, i, 0, by simp, by omega, fun hh => by omega, hlen, ?_⟩
              simp [VRC]
            · exact ⟨b, i + l * e', h - l, by simp [hcl, addr_add], by omega, fun hh => rfl, hlen, (hcs.drop _).take _⟩
          · simp at hr
      · simp at hr
    · simp at hr
  · simp at hr

/-- A field of a struct: where it begins. -/
structure Fd (P : Program) (s : TypeId) (f off : Nat) : Prop where
  ex : ∃ fs fl i, P.underlying s = some (.struct fs) ∧ fs[f]? = some fl ∧ fl.offset = off ∧ P.info? fl.type = some i ∧ i.size ≠ 0

theorem faddr_sound {μ : Mu} {w : World} {s : TypeId} {f off : Nat} (h : Fd P s f off) {x r : AV} {xv : Value} (hx : VR μ x xv) (hr : faddrV off x = some r) :
    ∃ rv, (Instr.fieldAt s xv f).run P w = .ok rv w ∧ VR μ r rv := by
  obtain ⟨fs, fl, i, h1, h2, h3, h4, h5⟩ := h.ex
  have hsz : (sizeOf fl.type).run P w = .ok i.size w := by rw [run_sizeOf w h4]; simp [Program.cellsOf, h4]
  unfold faddrV at hr
  split at hr
  · rename_i o st b0
    simp at hr; subst hr
    simp only [VR] at hx
    obtain ⟨b, base, n, hl, rfl⟩ := hx
    refine ⟨_, by simp [Instr.fieldAt, run_underlying h1, h2, Instr.sureAddr, fieldPlace, hsz, h5, h3, addr_add]; rfl, ?_⟩
    simp only [VR]
    exact ⟨b, base, n, hl, by rw [Nat.add_assoc]⟩
  · rename_i br cs
    split at hr
    · simp at hr; subst hr
      simp only [VR] at hx
      obtain ⟨b, j, rfl, hc⟩ := hx
      refine ⟨_, by simp [Instr.fieldAt, run_underlying h1, h2, Instr.sureAddr, fieldPlace, hsz, h5, h3, addr_add]; rfl, ?_⟩
      simp only [VR]
      exact ⟨b, j + off, rfl, hc.drop _⟩
    · simp at hr
  · simp at hr

theorem iaddr_sound {μ : Mu} {w : World} {t e : TypeId} {esz : Nat} {ag : Bool} (ht : P.underlying t = some (.slice e)) (he : Ty P e esz ag) {x i r : AV} {xv iv : Value} (hx : VR μ x xv) (hi : VR μ i iv)
    (hr : iaddrV esz x i = some r) : ∃ rv, (Instr.indexAt t xv iv).run P w = .ok rv w ∧ VR μ r rv := by
  unfold iaddrV at hr
  split at hr
  · simp at hr
  · rename_i k hk
    obtain ⟨kd, rfl⟩ := bound_val hi hk
    split at hr
    · rename_i o st off len e' tight
      split at hr
      · rename_i hc
        obtain ⟨hlt, rfl⟩ := hc
        simp at hr; subst hr
        simp only [VR] at hx
        obtain ⟨b, base, n, j, cap, hl, rfl, hcap, _, h3⟩ := hx
        obtain ⟨rfl, _⟩ := h3 (by omega)
        refine ⟨_, by simp [Instr.indexAt, asIntOf, run_underlying ht, hlt, he.sizeOf, addr_add]; rfl, ?_⟩
        simp only [VR]
        exact ⟨b, base, n, hl, by rw [Nat.add_assoc]⟩
      · simp at hr
    · rename_i br cs len e' tight
      split at hr
      · rename_i hc
        obtain ⟨hlt, rfl⟩ := hc
        simp at hr; subst hr
        simp only [VR] at hx
        obtain ⟨b, j, cap, rfl, hcap, _, _, hcs⟩ := hx
        refine ⟨_, by simp [Instr.indexAt, asIntOf, run_underlying ht, hlt, he.sizeOf, addr_add]; rfl, ?_⟩
        simp only [VR]
        exact ⟨b, j + k * e', rfl, hcs.drop _⟩
      · simp at hr
    · simp at hr

theorem part_sound {μ : Mu} {w : World} {t : TypeId} {n : Nat} {ag : Bool} (ht : Ty P t n ag) {cs : List AV} {vs : List Value} (hv : VRL μ cs vs) {off : Nat} {r : AV} (hr : getPart cs off n ag = some r) :
    ∃ rv, (part t vs.toArray off).run P w = .ok rv w ∧ VR μ r rv := by
  unfold getPart at hr
  cases ag with
  | true =>
    simp only [if_true] at hr
    split at hr
    · simp at hr; subst hr
      refine ⟨.agg ((vs.drop off).take n).toArray, ?_, by simp only [VR]; exact ⟨_, rfl, (hv.drop _).take _⟩⟩
      simp [part, ht.isAgg, ht.sizeOf]
    · simp at hr
  | false =>
    simp only [Bool.false_eq_true, if_false] at hr
    obtain ⟨v, h1, h2⟩ := hv.get _ _ hr
    exact ⟨v, by simp [part, ht.isAgg, h1], h2⟩

theorem fld_sound {μ : Mu} {w : World} {s : TypeId} {f off n : Nat} {ag : Bool} {fs : Array Field} {fl : Field} (h1 : P.underlying s = some (.struct fs)) (h2 : fs[f]? = some fl) (h3 : fl.offset = off) (ht : Ty P fl.type n ag)
    {cs : List AV} {xv : Value} (hx : VR μ (.agg cs) xv) {r : AV} (hr : getPart cs off n ag = some r) : ∃ rv, (Instr.field s xv f).run P w = .ok rv w ∧ VR μ r rv := by
  simp only [VR] at hx
  obtain ⟨vs, rfl, hv⟩ := hx
  obtain ⟨rv, h4, h5⟩ := part_sound (P := P) (w := w) ht hv hr
  exact ⟨rv, by simp [Instr.field, run_underlying h1, h2, asAgg, h3, h4], h5⟩

theorem idxa_sound {μ : Mu} {w : World} {t e : TypeId} {n len : Nat} {ag : Bool} (h1 : P.underlying t = some (.array len e)) (ht : Ty P e n ag)
    {cs : List AV} {xv iv : Value} {i : AV} (hx : VR μ (.agg cs) xv) (hi : VR μ i iv) {k : Nat} (hk : bound i = some k) (hlt : k < len) {r : AV} (hr : getPart cs (k * n) n ag = some r) :
    ∃ rv, (Instr.index t xv iv).run P w = .ok rv w ∧ VR μ r rv := by
  obtain ⟨kd, rfl⟩ := bound_val hi hk
  simp only [VR] at hx
  obtain ⟨vs, rfl, hv⟩ := hx
  obtain ⟨rv, h4, h5⟩ := part_sound (P := P) (w := w) ht hv hr
  exact ⟨rv, by simp [Instr.index, asIntOf, run_underlying h1, hlt, ht.sizeOf, h4], h5⟩

theorem idxs_sound {μ : Mu} {w : World} {t : TypeId} (h1 : P.underlying t = some .string) {s : List UInt8} {xv iv : Value} {i : AV} (hx : VR μ (.str s) xv) (hi : VR μ i iv) {k : Nat} (hk : bound i = some k)
    {b : UInt8} (hb : s[k]? = some b) : (Instr.index t xv iv).run P w = .ok (.int .u8 b.toNat) w := by
  obtain ⟨kd, rfl⟩ := bound_val hi hk
  simp only [VR] at hx; subst hx
  have : (⟨s.toArray⟩ : ByteArray)[k]? = some b := by
    have hlt := (List.getElem?_eq_some_iff.1 hb).1
    have hv := (List.getElem?_eq_some_iff.1 hb).2
    rw [getElem?_pos _ _ (by simpa [ByteArray.size] using hlt)]
    simp [ByteArray.getElem_eq_getElem_data, hv]
  simp [Instr.index, asIntOf, run_underlying h1, this]

end Go.AM
