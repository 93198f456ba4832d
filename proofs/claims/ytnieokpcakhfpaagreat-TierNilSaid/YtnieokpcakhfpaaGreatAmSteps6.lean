/-
  Numbers, texts, equality, conversions, lengths.
-/
import Derived.Test.YtnieokpcakhfpaaGreatAmSteps5
import Derived.Laws.Strings
namespace Go.AM

variable {P : Program}

theorem bytesLess_eq (a b : List UInt8) : bytesLess a b = Op.bytesLess a b := by
  induction a generalizing b with
  | nil => cases b <;> rfl
  | cons x a ih => cases b with
    | nil => rfl
    | cons y b => simp [bytesLess, Op.bytesLess, ih]

theorem str_toList (s : List UInt8) : (⟨s.toArray⟩ : ByteArray).toList = s := by
  rw [ByteArray.toList_eq]

theorem int_sound {μ : Mu} {w : World} {op : BinOp} {k : IntKind} {a b : Int} {r : AV} (hr : intBin op k a b = some r) (t : TypeId) :
    ∃ rv, (binOp op t (.int k a) (.int k b)).run P w = .ok rv w ∧ VR μ r rv := by
  cases op <;> simp only [intBin] at hr <;> first
    | (simp at hr; done)
    | (simp at hr; subst hr; exact ⟨_, by simp [binOp, Op.intArith, Op.intBits, Op.intCmp]; rfl, by simp [VR]⟩)
    | (split at hr
       · simp at hr
       · rename_i h0
         simp at hr; subst hr
         exact ⟨_, by simp [binOp, Op.intDiv, h0]; rfl, by simp [VR]⟩)

theorem bin_sound {μ : Mu} {w : World} {op : BinOp} {x y r : AV} {xv yv : Value} (hx : VR μ x xv) (hy : VR μ y yv) (hr : binV op x y = some r) (t : TypeId) :
    ∃ rv, (binOp op t xv yv).run P w = .ok rv w ∧ VR μ r rv := by
  unfold binV at hr
  split at hr
  · rename_i k a k' b
    simp only [VR] at hx hy; subst hx; subst hy
    split at hr
    · split at hr
      · simp at hr
      · rename_i h0
        simp at hr; subst hr
        exact ⟨_, by simp [binOp, Op.shift, h0]; rfl, by simp [VR]⟩
    · split at hr
      · simp at hr
      · rename_i h0
        simp at hr; subst hr
        exact ⟨_, by simp [binOp, Op.shift, h0]; rfl, by simp [VR]⟩
    · split at hr
      · rename_i h1 h2 h3
        subst h3
        exact int_sound hr t
      · simp at hr
  · rename_i a b
    simp only [VR] at hx hy; subst hx; subst hy
    cases op
    case add =>
      simp only [strBin] at hr
      split at hr
      · rename_i hlt
        simp at hr; subst hr
        have hsz : ∀ s : List UInt8, (⟨s.toArray⟩ : ByteArray).size = s.length := fun s => by simp [← ByteArray.size_data]
        refine ⟨.string (⟨a.toArray⟩ ++ ⟨b.toArray⟩), ?_, ?_⟩
        · have : ¬ (9223372036854775807 < (a.length : Int) + (b.length : Int)) := by omega
          simp [binOp, Op.stringOp, hsz, IntKind.max, IntKind.signed, IntKind.bits, this]
        · simp only [VR]
          congr 1
      · simp at hr
    all_goals simp only [strBin] at hr
    all_goals first
      | (simp at hr; done)
      | (simp at hr; subst hr
         refine ⟨_, by simp [binOp, Op.stringOp]; rfl, ?_⟩
         simp [VR, bytesLess_eq])
  · simp at hr

theorem un_sound {μ : Mu} {w : World} {op : UnOp} {x r : AV} {xv : Value} (hx : VR μ x xv) (hr : unV op x = some r) :
    ∃ rv, (Op.unary op xv).run P w = .ok rv w ∧ VR μ r rv := by
  unfold unV at hr
  split at hr
  · simp only [VR] at hx; subst hx
    simp at hr; subst hr
    exact ⟨_, by simp [Op.unary, Op.intArith]; rfl, by simp [VR]⟩
  · simp only [VR] at hx; subst hx
    simp at hr; subst hr
    exact ⟨_, by simp [Op.unary]; rfl, by simp [VR]⟩
  · simp at hr

theorem conv_sound {μ : Mu} {w : World} {src dst : TypeId} {k : IntKind} (ds : TypeDesc) (h1 : P.underlying src = some ds) (h2 : P.underlying dst = some (.int k)) {k' : IntKind} {n : Int} {xv : Value} (hx : VR μ (.int k' n) xv) :
    (convert src dst xv).run P w = .ok (.int k (k.wrap n)) w := by
  simp only [VR] at hx; subst hx
  simp [convert, run_underlying h1, run_underlying h2, Conv.intToInt]
theorem s2s_sound {μ : Mu} {w : World} {src dst : TypeId} (ds : TypeDesc) (h1 : P.underlying src = some ds) (h2 : P.underlying dst = some .string) {s : List UInt8} {xv : Value} (hx : VR μ (.str s) xv) :
    (convert src dst xv).run P w = .ok xv w := by
  simp only [VR] at hx; subst hx
  cases ds <;> simp [convert, run_underlying h1, run_underlying h2]

def lenFits : LK → TypeDesc → Bool
  | .slc, .slice _ | .str, .string | .mp, .map _ _ => true
  | _, _ => false
theorem len_sound {μ : Mu} {H : Heap} {w : World} (hw : WR μ H w) {t ty : TypeId} {d : TypeDesc} (ht : P.underlying t = some d) {k : LK} (hk : lenFits k d = true)
    {x : AV} {xv : Value} (hx : VR μ x xv) {n : Nat} (hr : lenV H k x = some n) : (Builtin.len_ #[t] ty #[xv]).run P w = .ok (.int .i64 n) w := by
  unfold lenV at hr
  split at hr
  · simp at hr; subst hr
    simp only [VR] at hx; subst hx
    cases d <;> simp [lenFits] at hk
    simp [Builtin.len_, run_underlying ht, goInt]
  · simp at hr; subst hr
    simp only [VR] at hx
    obtain ⟨b, base, m, i, cap, _, rfl, _⟩ := hx
    cases d <;> simp [lenFits] at hk
    simp [Builtin.len_, run_underlying ht, goInt]
  · simp at hr; subst hr
    simp only [VR] at hx
    obtain ⟨b, i, cap, rfl, _⟩ := hx
    cases d <;> simp [lenFits] at hk
    simp [Builtin.len_, run_underlying ht, goInt]
  · rename_i s
    simp at hr; subst hr
    simp only [VR] at hx; subst hx
    cases d <;> simp [lenFits] at hk
    have hsz : (⟨s.toArray⟩ : ByteArray).size = s.length := by simp [← ByteArray.size_data]
    simp [Builtin.len_, run_underlying ht, goInt, hsz]
  · simp at hr; subst hr
    simp only [VR] at hx; subst hx
    cases d <;> simp [lenFits] at hk
    simp [Builtin.len_, run_underlying ht, goInt]
  · split at hr
    · rename_i o es ho
      simp at hr; subst hr
      simp only [VR] at hx
      obtain ⟨r, hl, rfl⟩ := hx
      obtain ⟨r', hl', hm⟩ := hw.maps _ _ ho
      rw [hl] at hl'; simp at hl'; subst hl'
      obtain ⟨ents, clock, h1, h2, _⟩ := hm.ex
      cases d <;> simp [lenFits] at hk
      have hg : (getObj r).run P w = .ok (.map ents clock) w := by simp [getObj, Sem.run, h1]
      simp [Builtin.len_, run_underlying ht, goInt, hg, h2]
    · simp at hr
  · simp at hr

theorem min_go {μ : Mu} {w : World} : ∀ {xs : List AV} {vs : List Value} {k : IntKind} {a : Int} {r : AV}, VRL μ xs vs → minV.go k a xs = some r →
    ∃ rv, (vs.foldlM Builtin.min2 (.int k a)).run P w = .ok rv w ∧ VR μ r rv
  | [], vs, k, a, r, hv, hr => by
    simp only [VRL] at hv; subst hv
    simp [minV.go] at hr; subst hr
    exact ⟨.int k a, by simp, by simp [VR]⟩
  | x :: xs, vs, k, a, r, hv, hr => by
    simp only [VRL] at hv
    obtain ⟨v, vs', rfl, h1, h2⟩ := hv
    cases x <;> simp only [minV.go] at hr <;> first | (simp at hr; done) | skip
    rename_i k' b
    split at hr
    · rename_i e; subst e
      simp only [VR] at h1; subst h1
      obtain ⟨rv, h3, h4⟩ := min_go (w := w) h2 hr
      exact ⟨rv, by simp [Builtin.min2, h3], h4⟩
    · simp at hr
theorem min_sound {μ : Mu} {w : World} {xs : List AV} {vs : List Value} {at_ : Array TypeId} {ty : TypeId} (hv : VRL μ xs vs) {r : AV} (hr : minV xs = some r) :
    ∃ rv, (Builtin.min_ at_ ty vs.toArray).run P w = .ok rv w ∧ VR μ r rv := by
  unfold minV at hr
  split at hr
  · rename_i k a rest
    simp only [VRL] at hv
    obtain ⟨v, vs', rfl, h1, h2⟩ := hv
    simp only [VR] at h1; subst h1
    obtain ⟨rv, h3, h4⟩ := min_go (P := P) (w := w) h2 hr
    exact ⟨rv, by simpa [Builtin.min_] using h3, h4⟩
  · simp at hr

theorem max_go {μ : Mu} {w : World} : ∀ {xs : List AV} {vs : List Value} {k : IntKind} {a : Int} {r : AV}, VRL μ xs vs → maxV.go k a xs = some r →
    ∃ rv, (vs.foldlM Builtin.max2 (.int k a)).run P w = .ok rv w ∧ VR μ r rv
  | [], vs, k, a, r, hv, hr => by
    simp only [VRL] at hv; subst hv
    simp [maxV.go] at hr; subst hr
    exact ⟨.int k a, by simp, by simp [VR]⟩
  | x :: xs, vs, k, a, r, hv, hr => by
    simp only [VRL] at hv
    obtain ⟨v, vs', rfl, h1, h2⟩ := hv
    cases x <;> simp only [maxV.go] at hr <;> first | (simp at hr; done) | skip
    rename_i k' b
    split at hr
    · rename_i e; subst e
      simp only [VR] at h1; subst h1
      obtain ⟨rv, h3, h4⟩ := max_go (w := w) h2 hr
      exact ⟨rv, by simp [Builtin.max2, h3], h4⟩
    · simp at hr
theorem max_sound {μ : Mu} {w : World} {xs : List AV} {vs : List Value} {at_ : Array TypeId} {ty : TypeId} (hv : VRL μ xs vs) {r : AV} (hr : maxV xs = some r) :
    ∃ rv, (Builtin.max_ at_ ty vs.toArray).run P w = .ok rv w ∧ VR μ r rv := by
  unfold maxV at hr
  split at hr
  · rename_i k a rest
    simp only [VRL] at hv
    obtain ⟨v, vs', rfl, h1, h2⟩ := hv
    simp only [VR] at h1; subst h1
    obtain ⟨rv, h3, h4⟩ := max_go (P := P) (w := w) h2 hr
    exact ⟨rv, by simpa [Builtin.max_] using h3, h4⟩
  · simp at hr

end Go.AM
