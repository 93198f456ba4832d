/-
  Functions, and the table of functions.
-/
import Derived.Test.YtnieokpcakhfpaaGreatAmSeal
namespace Go.AM

variable {P : Program}

theorem Tr.blank_dep : ∀ d, (Tr.blank d).dep d
  | 0 => rfl
  | d + 1 => ⟨d, rfl, Tr.blank_dep d, Tr.blank_dep d⟩
theorem Tr.blank_get : ∀ d i, (Tr.blank d).get i = .tup []
  | 0, i => by simp only [Tr.blank, Tr.get]; cases Nat.beq i 0 <;> rfl
  | d + 1, i => by
    simp only [Tr.blank, Tr.get]
    cases Nat.beq (i % 2) 0
    · exact Tr.blank_get d _
    · exact Tr.blank_get d _
theorem Tr.fill_spec : ∀ (vs : List AV) {t : Tr} {d k : Nat}, t.dep d → k + vs.length ≤ 2 ^ d → (t.fill k vs).dep d ∧ ∀ i, (t.fill k vs).get i = if k ≤ i then (vs[i - k]?).getD (t.get i) else t.get i
  | [], t, d, k, h, _ => ⟨h, fun i => by simp [Tr.fill]⟩
  | v :: vs, t, d, k, h, hk => by
    simp only [List.length_cons] at hk
    obtain ⟨h1, h2⟩ := Tr.fill_spec vs (t := t.set k v) (d := d) (k := k + 1) (Tr.set_dep h _ _) (by omega)
    refine ⟨h1, fun i => ?_⟩
    simp only [Tr.fill]
    rw [h2 i, Tr.get_set h _ _ _ (by omega)]
    by_cases e1 : k + 1 ≤ i
    · rw [if_pos e1, if_neg (by omega), if_pos (by omega), show i - k = (i - (k + 1)) + 1 by omega, List.getElem?_cons_succ]
    · rw [if_neg e1]
      by_cases e2 : i = k
      · subst e2; simp
      · rw [if_neg e2, if_neg (by omega)]

/-- Slots at the begin of a call. -/
theorem start_sound {nn d : Nat} {μ : Mu} {args : List AV} {vs : List Value} (hv : VRL μ args vs) (hn : args.length ≤ nn) (hd : nn ≤ 2 ^ d) :
    SR nn μ ((Tr.blank d).fill 0 args) { tmps := vs.toArray ++ Array.replicate (nn - vs.toArray.size) undef, defers := [] } := by
  obtain ⟨h1, h2⟩ := Tr.fill_spec args (k := 0) (Tr.blank_dep d) (by omega)
  have hl := hv.length
  refine ⟨⟨d, h1, hd⟩, by simp; omega, fun i => ?_, rfl⟩
  rw [h2 i, if_pos (Nat.zero_le _), Tr.blank_get, Nat.sub_zero]
  by_cases hi : i < args.length
  · have ha : args[i]? = some args[i] := List.getElem?_eq_getElem hi
    obtain ⟨v, hv1, hv2⟩ := hv.get i _ ha
    rw [ha]
    simp only [Option.getD_some, Array.getD_eq_getD_getElem?]
    rw [Array.getElem?_append_left (by simp; omega)]
    simp [hv1]; exact hv2
  · rw [List.getElem?_eq_none (by omega)]
    simp only [Option.getD_none, Array.getD_eq_getD_getElem?]
    rw [Array.getElem?_append_right (by simp; omega)]
    have : ((Array.replicate (nn - vs.toArray.size) undef)[i - vs.toArray.size]?).getD undef = undef := by
      rw [Array.getElem?_replicate]; split <;> rfl
    rw [this]
    exact vr_undef μ

/-! Results. -/
def okRes (P : Program) : ResultVar → ARes → Bool
  | .tmp t, .tmp t' => t == t'
  | .cell a ty, .cell t n ag => a == t && tyB P ty n ag
  | _, _ => false

def readRes (tmps : Array Value) : ResultVar → Sem Value
  | .tmp t => pure (tmps.getD t undef)
  | .cell a t => do loadVar t (← asAddr (tmps.getD a undef))
theorem results_eq (fn : Func) (tmps : Array Value) : Go.results fn tmps = (do
    let vs ← fn.results.mapM (readRes tmps)
    pure (if h : vs.size = 1 then vs[0] else .tuple vs)) := by
  unfold Go.results
  congr 1

theorem res_sound {nn : Nat} {μ : Mu} {A : Tr} {a : Act} {H : Heap} {w : World} (hs : SR nn μ A a) (hw : WR μ H w) {rv : ResultVar} {ar : ARes} (hok : okRes P rv ar = true) {r : AV} (hr : resOf A H ar = some r) :
    ∃ v, (readRes a.tmps rv).run P w = .ok v w ∧ VR μ r v := by
  cases rv <;> cases ar <;> simp only [okRes, Bool.and_eq_true, Bool.false_eq_true] at hok
  · simp at hok; subst hok
    simp only [resOf, Option.some.injEq] at hr
    subst hr
    exact ⟨_, by simp [readRes], slot_sound hs _⟩
  · obtain ⟨h1, h2⟩ := hok
    simp at h1; subst h1
    simp only [resOf] at hr
    obtain ⟨v, h3, h4⟩ := load_sound hw (tyB_ty h2) (slot_sound hs _) hr
    refine ⟨v, ?_, h4⟩
    rename_i ad ty n ag
    simp only [readRes]
    generalize a.tmps.getD ad undef = pv at h3 ⊢
    have hp : ∃ q, pv = .pointer (some q) := by
      cases pv <;> first
        | (rename_i q; cases q with
            | some q => exact ⟨q, rfl⟩
            | none => simp [Instr.loadAt, Instr.sureAddr, stuck] at h3)
        | (simp [Instr.loadAt, Instr.sureAddr, stuck] at h3)
    obtain ⟨q, rfl⟩ := hp
    simpa [Instr.loadAt, Instr.sureAddr, asAddr] using h3

theorem resL_sound {nn : Nat} {μ : Mu} {A : Tr} {a : Act} {H : Heap} {w : World} (hs : SR nn μ A a) (hw : WR μ H w) : ∀ {rvs : List ResultVar} {ars : List ARes}, all2 (okRes P) rvs ars = true → ∀ {rs : List AV}, mapO (resOf A H) ars = some rs →
    ∃ vs : List Value, (rvs.mapM (readRes a.tmps)).run P w = .ok vs w ∧ VRL μ rs vs
  | [], [], _, rs, hr => by
    simp [mapO] at hr; subst hr
    exact ⟨[], by simp, by simp [VRL]⟩
  | [], _ :: _, h, _, _ => by simp [all2] at h
  | _ :: _, [], h, _, _ => by simp [all2] at h
  | rv :: rvs, ar :: ars, h, rs, hr => by
    simp only [all2, Bool.and_eq_true] at h
    simp only [mapO] at hr
    split at hr
    · simp at hr
    · rename_i y hy
      split at hr
      · simp at hr
      · rename_i ys hys
        simp at hr; subst hr
        obtain ⟨v, h1, h2⟩ := res_sound hs hw h.1 hy
        obtain ⟨vs, h3, h4⟩ := resL_sound hs hw h.2 hys
        refine ⟨v :: vs, ?_, by simp only [VRL]; exact ⟨v, vs, rfl, h2, h4⟩⟩
        rw [List.mapM_cons]
        simp only [Sem.run_bind, h1, Result.andThen, h3, Sem.run_pure]

theorem results_sound {nn : Nat} {μ : Mu} {A : Tr} {a : Act} {H : Heap} {w : World} (hs : SR nn μ A a) (hw : WR μ H w) {fn : Func} {ars : List ARes} (hok : all2 (okRes P) fn.results.toList ars = true) {r : AV} (hr : results ars A H = some r) :
    ∃ v, (Go.results fn a.tmps).run P w = .ok v w ∧ VR μ r v := by
  unfold results at hr
  have go : ∀ rs, mapO (resOf A H) ars = some rs → ∃ vs : List Value, (Go.results fn a.tmps).run P w = .ok (if h : vs.toArray.size = 1 then vs.toArray[0] else .tuple vs.toArray) w ∧ VRL μ rs vs := fun rs h => by
    obtain ⟨vs, h1, h2⟩ := resL_sound hs hw hok h
    refine ⟨vs, ?_, h2⟩
    rw [results_eq, Array.mapM_eq_mapM_toList]
    simp only [Sem.run_bind, Sem.run_map, h1, Result.andThen, Sem.run_pure]
  split at hr
  · rename_i v hm
    simp at hr; subst hr
    obtain ⟨vs, h1, h2⟩ := go _ hm
    simp only [VRL] at h2
    obtain ⟨u, vs', rfl, h3, rfl⟩ := h2
    exact ⟨u, by simpa using h1, h3⟩
  · rename_i vs' hne hm
    simp at hr; subst hr
    obtain ⟨vs, h1, h2⟩ := go _ hm
    have hl := h2.length
    have : vs.toArray.size ≠ 1 := by
      simp only [List.size_toArray]
      intro e
      rw [hl] at e
      match vs', e, hne with
      | [v], _, hne => exact hne v rfl
    rw [dif_neg this] at h1
    exact ⟨_, h1, by simp only [VR]; exact ⟨vs, rfl, h2⟩⟩
  · simp at hr

/-! Functions. -/
def okFunc (P : Program) (f : Nat) (fn : AFunc) : Bool :=
  match P.funcs[f]? with
  | some F => (match F.body with
    | some b => F.name != "runtime.NumGoroutine" && fn.ntmps == F.ntmps && decide (F.ntmps ≤ 2 ^ fn.depth) && all2 (okRes P) F.results.toList fn.results && okCode P F.ntmps fn.body b
    | none => false)
  | none => false

theorem body_sound {E : Env} (hcall : CallSound P E.call) (hp : PureOk E.call E.isPure) (hm : P.follows .mixedOrders = true) {f : Nat} {fn : AFunc} (hok : okFunc P f fn = true) : HSound P f (fun H args => runBody E fn args H) := by
  intro H args r H' hr
  unfold okFunc at hok
  split at hok
  · rename_i F hF
    split at hok
    · rename_i b hb
      simp only [Bool.and_eq_true] at hok
      obtain ⟨⟨⟨⟨h1, h2⟩, h3⟩, h4⟩, h5⟩ := hok
      have h2 : fn.ntmps = F.ntmps := by simpa using h2
      have h3 : F.ntmps ≤ 2 ^ fn.depth := by simpa using h3
      refine ⟨⟨F, b, hF, hb, by simpa using h1⟩, fun μ w vs hw hv => ?_⟩
      simp only [runBody] at hr
      split at hr
      · rename_i hlen
        refine calls_of_wp hF hb ?_
        have hst := start_sound hv (by omega : args.length ≤ F.ntmps) h3
        have fin : ∀ {o : Out} {A : Tr} {H1 : Heap}, exec E fn.body ((Tr.blank fn.depth).fill 0 args) H = some (o, A, H1) → (o = .normal ∨ o = .ret) → (match results fn.results A H1 with | some v => some (v, H1) | none => none) = some (r, H') →
            b.wp P (bodyPost P F fun e w' => ∃ μ' v, e = .returned v ∧ VR μ' r v ∧ Stp μ H w μ' H' w') { tmps := vs.toArray ++ Array.replicate (F.ntmps - vs.toArray.size) undef, defers := [] } w := by
          intro o A H1 he ho hr
          split at hr
          · rename_i v hres
            simp at hr; obtain ⟨rfl, rfl⟩ := hr
            refine exec_sound hcall hp hm fn.body b h5 hst hw he fun μ' a' w' g1 g2 => ?_
            obtain ⟨x, h6, h7⟩ := results_sound g2 g1.wr h4 hres
            rcases ho with rfl | rfl <;> exact ⟨g2.defers, x, h6, μ', x, rfl, h7, g1⟩
          · simp at hr
        split at hr
        · rename_i A H1 he
          exact fin he (.inl rfl) hr
        · rename_i A H1 he
          exact fin he (.inr rfl) hr
        · simp at hr
      · simp at hr
    · simp at hok
  · simp at hok

theorem den_sound {E : Env} (hcall : CallSound P E.call) (hp : PureOk E.call E.isPure) (hm : P.follows .mixedOrders = true) {f : Nat} {fn : AFunc} (hok : okFunc P f fn = true) : DenSound P f (den E fn) := by
  intro as r hr
  unfold den at hr
  split at hr
  · rename_i v H1 hb
    obtain ⟨h1, h2⟩ := body_sound hcall hp hm hok Heap.empty as v H1 hb
    refine ⟨h1, fun μ w vs hw hv => Calls.mono (h2 μ w vs hw hv) fun e w' ⟨μ', x, he, hx, hs⟩ => ?_⟩
    obtain ⟨μ'', h3, h4⟩ := seal_sound hw hs hx hr
    exact ⟨μ'', x, he, h3, h4⟩
  · simp at hr

/-! The table. -/
def EntryOk (P : Program) (f : Nat) : Entry → Prop
  | .code fn => okFunc P f fn = true
  | .spec g => ∀ call, CallSound P call → DenSound P f (g call)
  | .hspec g => ∀ call, CallSound P call → HSound P f (g call)
def TabOk (P : Program) (T : Tab) : Prop := ∀ f e, T.get f = some e → EntryOk P f e

theorem tabOk_leaf : TabOk P .leaf := fun f e h => by simp [Tab.get] at h
theorem tabOk_node {l r : Tab} {k : Nat} {e : Entry} (hl : TabOk P l) (he : EntryOk P k e) (hr : TabOk P r) : TabOk P (.node l k e r) := fun f e' h => by
  simp only [Tab.get] at h
  split at h
  · exact hl f e' h
  · split at h
    · rename_i hk
      simp at h; subst h; subst hk; exact he
    · exact hr f e' h

theorem arun_sound {T : Tab} (hT : TabOk P T) (hm : P.follows .mixedOrders = true) : ∀ d, CallSound P (arun T d) ∧ PureOk (arun T d) T.isPure
  | 0 => ⟨fun f H args r H' h => by simp [arun] at h, fun f H args r H' _ h => by simp [arun] at h⟩
  | d + 1 => by
    obtain ⟨ih1, ih2⟩ := arun_sound hT hm d
    constructor
    · intro f H args r H' h
      simp only [arun] at h
      split at h
      · simp at h
      · rename_i fn he
        split at h
        · exact callP_sound (den_sound (E := ⟨arun T d, T.isPure⟩) ih1 ih2 hm (hT f _ he)) H args r H' h
        · exact body_sound (E := ⟨arun T d, T.isPure⟩) ih1 ih2 hm (hT f _ he) H args r H' h
      · rename_i g he
        exact callP_sound (hT f _ he _ ih1) H args r H' h
      · rename_i g he
        exact hT f _ he _ ih1 H args r H' h
    · intro f H args v H1 hpure h
      unfold Tab.isPure at hpure
      simp only [arun] at h ⊢
      split at h
      · simp at h
      · rename_i fn he
        rw [he] at hpure
        simp only [Entry.isPure] at hpure
        rw [if_pos hpure] at h
        obtain ⟨h1, h2⟩ := callP_pure h
        exact ⟨h1, fun K hK => by rw [if_pos hpure]; exact h2 K hK⟩
      · exact callP_pure h
      · rename_i g he
        rw [he] at hpure
        simp [Entry.isPure] at hpure

end Go.AM
