/-
  coal.Ask: where its table holds one task, or none.
-/
import Derived.Test.YtnieokpcakhfpaaGreatAmAskRun
import Derived.Test.YtnieokpcakhfpaaGreatAmMapRange
import Derived.Test.YtnieokpcakhfpaaGreatAmOvBase
import Derived.Test.YtnieokpcakhfpaaGreatProg
namespace Go.AM

variable {P : Program} {nn : Nat}

/-! Runs put together. -/
theorem Sound.seq {f g : Run} {c d : Code} (hf : Sound P nn f c) (hg : Sound P nn g d) : Sound P nn (seqR f g) (.seq c d) := by
  intro A A' a μ H H' w o hs hw hr Q hQ
  unfold seqR at hr
  refine wp_seq ?_
  split at hr
  · simp at hr
  · rename_i A1 H1 h1
    exact hf hs hw h1 fun μ' a' w' g1 g2 => hg g2 g1.wr hr fun μ'' a'' w'' g3 g4 => hQ μ'' a'' w'' (g1.trans g3) g4
  · rename_i o1 A1 H1 hno h1
    simp at hr
    obtain ⟨rfl, rfl, rfl⟩ := hr
    exact hf hs hw h1 fun μ' a' w' g1 g2 => then_exit hno (hQ μ' a' w' g1 g2)

theorem hsound_of_run {fid d : Nat} {F : Func} {b : Code} {f : Run} {ars : List ARes} (hF : P.funcs[fid]? = some F) (hb : F.body = some b) (hn : F.name ≠ "runtime.NumGoroutine") (hd : F.ntmps ≤ 2 ^ d)
    (hres : all2 (okRes P) F.results.toList ars = true) (hf : Sound P F.ntmps f b) : HSound P fid (fun H args => runFn F.ntmps d ars f args H) := by
  intro H args r H' hr
  refine ⟨⟨F, b, hF, hb, hn⟩, fun μ w vs hw hv => ?_⟩
  simp only [runFn] at hr
  split at hr
  · rename_i hlen
    refine calls_of_wp hF hb ?_
    have hst := start_sound hv hlen hd
    have fin : ∀ {o : Out} {A : Tr} {H1 : Heap}, f ((Tr.blank d).fill 0 args) H = some (o, A, H1) → (o = .normal ∨ o = .ret) → (match results ars A H1 with | some v => some (v, H1) | none => none) = some (r, H') →
        b.wp P (bodyPost P F fun e w' => ∃ μ' v, e = .returned v ∧ VR μ' r v ∧ Stp μ H w μ' H' w') { tmps := vs.toArray ++ Array.replicate (F.ntmps - vs.toArray.size) undef, defers := [] } w := by
      intro o A H1 he ho hr
      split at hr
      · rename_i v hv'
        simp at hr; obtain ⟨rfl, rfl⟩ := hr
        refine hf hst hw he fun μ' a' w' g1 g2 => ?_
        obtain ⟨x, h6, h7⟩ := results_sound g2 g1.wr hres hv'
        rcases ho with rfl | rfl <;> exact ⟨g2.defers, x, h6, μ', x, rfl, h7, g1⟩
      · simp at hr
    split at hr
    · rename_i A H1 he; exact fin he (.inl rfl) hr
    · rename_i A H1 he; exact fin he (.inr rfl) hr
    · simp at hr
  · simp at hr

/-! The body's parts. -/
def sL : Code → Code | .seq a _ => a | c => c
def sR : Code → Code | .seq _ b => b | c => c
def bd : Code → Code | .block _ c => c | .loop c => c | c => c
def rOps : Code → Array Oper | .region _ ops _ => ops | _ => #[]

namespace Ask
open Go.Proofs
noncomputable def B : Code := Tryz.f251.body.getD .skip
noncomputable def c0 : Code := sL B
noncomputable def c1 : Code := sL (sR B)
noncomputable def c3 : Code := sL (sR (sR B))
noncomputable def c4 : Code := sL (sR (sR (sR B)))
noncomputable def c12 : Code := sR (sR (sR (sR B)))
noncomputable def ops4 : Array Oper := rOps (sL c4)
noncomputable def lp : Code := bd (bd (sR c4))
noncomputable def ops5 : Array Oper := rOps (sL lp)
noncomputable def b1 : Code := bd (sR (sR lp))
noncomputable def ops6 : Array Oper := rOps (sL b1)
noncomputable def crest : Code := sR b1

theorem shape : Tryz.f251.body = some (.seq c0 (.seq c1 (.seq c3 (.seq (.seq (.region 4 ops4 false) (.block 0 (.loop (.seq (.region 5 ops5 false) (.seq (.cond (.tmp 35) .skip (.exit 0)) (.block 1 (.seq (.region 6 ops6 false) crest))))))) c12)))) := by kernel_rfl

theorem ok0 : okCode Tryz.prog 102 h0 c0 = true := by kernel_rfl
theorem ok1 : okCode Tryz.prog 102 h1 c1 = true := by kernel_rfl
theorem ok3 : okCode Tryz.prog 102 h3 c3 = true := by kernel_rfl
theorem ok12 : okCode Tryz.prog 102 tail c12 = true := by kernel_rfl
theorem okr : okCode Tryz.prog 102 rest crest = true := by kernel_rfl
theorem okpre : okList Tryz.prog 102 ops4 0 pre = true := by kernel_rfl
theorem okvars : okList Tryz.prog 102 ops6 1 vars = true := by kernel_rfl
theorem len4 : ops4.size = 5 := by kernel_rfl
theorem len5 : ops5.size = 2 := by kernel_rfl
theorem len6 : ops6.size = 5 := by kernel_rfl
theorem op4 : (ops4[4]?).map (fun o => (o.dst, o.op, o.guard)) = some (some 33, .range 380 (.tmp 32), none) := by kernel_rfl
theorem op50 : (ops5[0]?).map (fun o => (o.dst, o.op, o.guard)) = some (some 34, .next (.tmp 33) false, none) := by kernel_rfl
theorem op51 : (ops5[1]?).map (fun o => (o.dst, o.op, o.guard)) = some (some 35, .extract (.tmp 34) 0, none) := by kernel_rfl
theorem op60 : (ops6[0]?).map (fun o => (o.dst, o.op, o.guard)) = some (some 36, .entry (.tmp 33), none) := by kernel_rfl

theorem pureNo (call : CallF) : PureOk call (fun _ => false) := fun f H args v H1 h => by simp at h

theorem op_of {ops : Array Oper} {k : Nat} {d : Option Tmp} {op : Op} (h : (ops[k]?).map (fun o => (o.dst, o.op, o.guard)) = some (d, op, none)) : ∃ ty pos aft, ops[k]? = some ⟨d, op, ty, pos, aft, none⟩ := by
  simp only [Option.map_eq_some_iff] at h
  obtain ⟨o, h1, h2⟩ := h
  obtain ⟨d', op', ty, pos, aft, g⟩ := o
  simp at h2
  obtain ⟨rfl, rfl, rfl⟩ := h2
  exact ⟨ty, pos, aft, h1⟩
theorem eval_put (a : Act) (d : Nat) (v : Value) (hd : d < a.tmps.size) : (a.put (some d) v).eval (.tmp d) = v := by
  simp [Act.eval, Act.put, hd]
theorem eval_put_ne (a : Act) (d e : Nat) (v : Value) (hd : d ≠ e) : (a.put (some d) v).eval (.tmp e) = a.eval (.tmp e) := by
  simp [Act.eval, Act.put, Array.getElem?_setIfInBounds_ne hd]

set_option maxHeartbeats 1000000 in
theorem mid_sound {call : CallF} (hcall : CallSound Tryz.prog call) (hm : Tryz.prog.follows .mixedOrders = true) :
    Sound Tryz.prog 102 (mid call) (.seq (.region 4 ops4 false) (.block 0 (.loop (.seq (.region 5 ops5 false) (.seq (.cond (.tmp 35) .skip (.exit 0)) (.block 1 (.seq (.region 6 ops6 false) crest))))))) := by
  intro A A' a μ H H' w o hs hw hr Q hQ
  unfold mid at hr
  split at hr
  · simp at hr
  rename_i A2 H2 hpre
  obtain ⟨t4, p4, f4, ho4⟩ := op_of op4
  obtain ⟨t5, p5, f5, ho5⟩ := op_of op50
  obtain ⟨t51, p51, f51, ho51⟩ := op_of op51
  obtain ⟨t6, p6, f6, ho6⟩ := op_of op60
  refine wp_seq (wp_region ?_)
  rw [len4, List.range_eq_range', show (5 : Nat) = pre.length + 1 from rfl]
  refine run_wp_then hcall pre 0 (okList_get pre 0 okpre) hs hw hpre fun μ' a' w' g1 g2 => ?_
  show wpOps _ _ _ [4] a' w'
  split at hr
  case h_2 => simp at hr
  rename_i o' hA32
  have hv32 := slot_sound g2 32
  rw [hA32] at hv32
  simp only [VR] at hv32
  obtain ⟨bm, hbm, hv32⟩ := hv32
  have he32 : a'.eval (.tmp 32) = .map (some bm) := by
    rw [← hv32]; simp [Act.eval, Array.getD_eq_getD_getElem?]
  have hsz := g2.size
  have lt : ∀ (k : Nat), k < 102 → ∀ i, some k = some i → i < 102 := fun k hk i h => by simp at h; omega
  -- the map
  have key : ∀ (es : List (AV × AV)), H2.get o' = some (.map es) → ∃ ents clock, w'.heap[bm]? = some (.map ents clock) ∧ ents.size = es.length ∧ Births ents clock ∧ ∀ (j : Nat) (e : MapEntry) (p : AV × AV), ents[j]? = some e → es[j]? = some p → ER μ' e p := fun es ho => by
    obtain ⟨r, h1, h2⟩ := g1.wr.maps _ _ ho
    rw [hbm] at h1; simp at h1; subst h1
    exact h2.ex
  have hrange : ∀ ents clock, w'.heap[bm]? = some (.map ents clock) → (execOp a'.eval ⟨some 33, .range 380 (.tmp 32), t4, p4, f4, none⟩).run Tryz.prog w' = .ok (.value (.pointer (some ⟨w'.heap.size, 0, none⟩))) (w'.alloc (.mapIter (some bm) clock #[] clock)) := fun ents clock hb => by
    simp [execOp, he32, run_range_map w' 380 _ _ bm ents clock Tryz.underlying380 hb, Result.andThen]
  have e33 : (a'.put (some 33) (.pointer (some ⟨w'.heap.size, 0, none⟩))).eval (.tmp 33) = .pointer (some ⟨w'.heap.size, 0, none⟩) := eval_put _ _ _ (by omega)
  have s33 : SR 102 μ' (A2.set 33 (.vptr false [])) (a'.put (some 33) (.pointer (some ⟨w'.heap.size, 0, none⟩))) :=
    put_sound g2 (some 33) (lt 33 (by omega)) (by simp only [VR, VRC]; exact ⟨_, _, rfl, trivial⟩)
  split at hr
  · -- none
    rename_i ho
    simp at hr
    obtain ⟨rfl, rfl, rfl⟩ := hr
    obtain ⟨ents, clock, hb, hl, _, _⟩ := key _ ho
    have he : ents = #[] := Array.eq_empty_of_size_eq_zero (by simpa using hl)
    subst he
    refine wpOps_value ho4 rfl (hrange _ _ hb) ?_
    show (Code.block 0 _).wp _ _ _ _
    refine wp_block (LoopWp.wp (LoopWp.step (wp_seq (wp_region ?_))))
    rw [len5]
    show wpOps _ _ _ [0, 1] _ _
    refine wpOps_value ho5 rfl (v := .tuple #[.bool false]) (w' := w'.alloc (.mapIter (some bm) clock #[] clock)) ?_ ?_
    · simp only [execOp, e33, Sem.run_bind, next_none w' _ bm clock clock hb, Result.andThen]
      rfl
    have e34 : ((a'.put (some 33) (.pointer (some ⟨w'.heap.size, 0, none⟩))).put (some 34) (.tuple #[.bool false])).eval (.tmp 34) = .tuple #[.bool false] := eval_put _ _ _ (by simp [Act.put]; omega)
    refine wpOps_value ho51 rfl (v := .bool false) (w' := w'.alloc (.mapIter (some bm) clock #[] clock)) ?_ ?_
    · simp only [execOp, e34]; rfl
    have s34 := put_sound s33 (some 34) (lt 34 (by omega)) (r := .tup [.bool false]) (v := .tuple #[.bool false]) (by simp only [VR, VRL]; exact ⟨[_], rfl, _, _, rfl, rfl, rfl⟩)
    have s35 := put_sound s34 (some 35) (lt 35 (by omega)) (r := .bool false) (v := .bool false) (by simp [VR])
    show (Code.seq _ _).wp _ _ _ _
    refine wp_seq (wp_cond_false (eval_put _ _ _ (by simp [Act.put]; omega)) (wp_exit ?_))
    simp only [Exit.then, Exit.inBlock, if_true]
    exact hQ μ' _ _ (g1.trans (stp_aside g1.wr _)) s35
  · -- one
    rename_i k v ho
    split at hr
    · simp at hr
    rename_i A4 H4 hvars
    split at hr
    case h_2 => simp at hr
    rename_i A5 H5 hrest
    simp at hr
    obtain ⟨rfl, rfl, rfl⟩ := hr
    obtain ⟨ents, clock, hb, hl, hbo, her⟩ := key _ ho
    obtain ⟨e, rfl⟩ : ∃ e, ents = #[e] := by
      simp at hl
      exact ⟨ents[0], by apply Array.ext (by simp [hl]); intro i h1 h2; simp at h2; subst h2; rfl⟩
    have hold : e.born < clock := hbo.1 0 e (by simp)
    obtain ⟨hk, hv⟩ := her 0 e (k, v) (by simp) (by simp)
    refine wpOps_value ho4 rfl (hrange _ _ hb) ?_
    show (Code.block 0 _).wp _ _ _ _
    refine wp_block (LoopWp.wp (LoopWp.step (wp_seq (wp_region ?_))))
    rw [len5]
    show wpOps _ _ _ [0, 1] _ _
    refine wpOps_value ho5 rfl (v := .tuple #[.bool true, e.key, e.val]) (w' := w'.alloc (.mapIter (some bm) clock (#[].push e.born) clock)) ?_ ?_
    · simp only [execOp, e33, Sem.run_bind, next_one w' _ bm clock clock clock e hb hold, Result.andThen]
      rfl
    have e34 : ((a'.put (some 33) (.pointer (some ⟨w'.heap.size, 0, none⟩))).put (some 34) (.tuple #[.bool true, e.key, e.val])).eval (.tmp 34) = .tuple #[.bool true, e.key, e.val] := eval_put _ _ _ (by simp [Act.put]; omega)
    refine wpOps_value ho51 rfl (v := .bool true) (w' := w'.alloc (.mapIter (some bm) clock (#[].push e.born) clock)) ?_ ?_
    · simp only [execOp, e34]; rfl
    have s34 := put_sound s33 (some 34) (lt 34 (by omega)) (r := .tup [.bool true, k, v]) (v := .tuple #[.bool true, e.key, e.val]) (by simp only [VR, VRL]; exact ⟨[_, _, _], rfl, _, _, rfl, rfl, _, _, rfl, hk, _, _, rfl, hv, rfl⟩)
    have s35 := put_sound s34 (some 35) (lt 35 (by omega)) (r := .bool true) (v := .bool true) (by simp [VR])
    show (Code.seq _ _).wp _ _ _ _
    refine wp_seq (wp_cond_true (eval_put _ _ _ (by simp [Act.put]; omega)) (wp_skip ?_))
    show (Code.block 1 _).wp _ _ _ _
    refine wp_block (wp_seq (wp_region ?_))
    rw [len6, show List.range 5 = 0 :: List.range' 1 (vars.length + 0) from rfl]
    refine wpOps_value ho6 rfl (v := .tuple #[e.key, e.val]) (w' := w'.alloc (.mapIter (some bm) clock (#[].push e.born) clock)) ?_ ?_
    · have e33' : (((a'.put (some 33) (.pointer (some ⟨w'.heap.size, 0, none⟩))).put (some 34) (.tuple #[.bool true, e.key, e.val])).put (some 35) (.bool true)).eval (.tmp 33) = .pointer (some ⟨w'.heap.size, 0, none⟩) := by
        rw [eval_put_ne _ _ _ _ (by omega), eval_put_ne _ _ _ _ (by omega), e33]
      simp only [execOp, e33', Sem.run_bind, run_entry_map w' bm clock #[] #[e] clock e hb (by simp) (by simp), Result.andThen]
      rfl
    have s36 := put_sound s35 (some 36) (lt 36 (by omega)) (r := .tup [k, v]) (v := .tuple #[e.key, e.val]) (by simp only [VR, VRL]; exact ⟨[_, _], rfl, _, _, rfl, hk, _, _, rfl, hv, rfl⟩)
    have st := g1.trans (stp_aside g1.wr (.mapIter (some bm) clock (#[].push e.born) clock))
    refine run_wp_then hcall vars 1 (okList_get vars 1 okvars) s36 st.wr hvars fun μ2 a2 w2 k1 k2 => ?_
    show Code.wp _ crest _ _ _
    refine exec_sound (E := ⟨call, fun _ => false⟩) hcall (pureNo call) hm rest crest okr k2 k1.wr hrest fun μ3 a3 w3 k3 k4 => ?_
    exact hQ μ3 a3 w3 ((st.trans k1).trans k3) k4
  · simp at hr

end Ask

open Go.Proofs in
theorem ok_251 : EntryOk Tryz.prog 251 (.hspec oAsk) := by
  intro call hcall
  have hm : Tryz.prog.follows .mixedOrders = true := by kernel_rfl
  have e (ac : ACode) (c : Code) (h : okCode Tryz.prog 102 ac c = true) : Sound Tryz.prog 102 (exec ⟨call, fun _ => false⟩ ac) c := exec_sound (E := ⟨call, fun _ => false⟩) hcall (Ask.pureNo call) hm ac c h
  refine hsound_of_run (F := Tryz.f251) Tryz.func251 Ask.shape (by decide) (by decide) (by kernel_rfl) ?_
  refine Sound.seq ?_ (Sound.seq ?_ (Sound.seq ?_ (Sound.seq ?_ ?_)))
  · exact e _ _ Ask.ok0
  · exact e _ _ Ask.ok1
  · exact e _ _ Ask.ok3
  · exact Ask.mid_sound hcall hm
  · exact e _ _ Ask.ok12
end Go.AM
