/-
  Every operation that is no call.
-/
import Derived.Test.YtnieokpcakhfpaaGreatAmRun1
namespace Go.AM

variable {P : Program} {nn : Nat}

set_option maxHeartbeats 1000000 in
theorem step_does {call : CallF} {o : Oper} {ao : AOp} (hok : okOp P o.op ao = true) (hnc : ao.isCall = false) {A : Tr} {a : Act} {μ : Mu} {H H' : Heap} {w : World} (hs : SR nn μ A a) (hw : WR μ H w) {r : AV}
    (hr : stepOp call A H ao = some (r, H')) : Does P o a μ H w r H' := by
  obtain ⟨dst, op, type, pos, after, guard⟩ := o
  simp only at hok
  cases ao with
  | call f args => simp [AOp.isCall] at hnc
  | calld f args => simp [AOp.isCall] at hnc
  | mv y =>
    simp only [stepOp, s_mv, Option.some.injEq, Prod.mk.injEq] at hr
    obtain ⟨rfl, rfl⟩ := hr
    cases op <;> simp only [okOp, Bool.false_eq_true] at hok
    all_goals exact Does.same hw rfl (ev_sound hs hok)
  | pick c' a' b' =>
    cases op <;> simp only [okOp, Bool.false_eq_true, Bool.and_eq_true] at hok
    rename_i c x y
    obtain ⟨⟨h1, h2⟩, h3⟩ := hok
    simp only [stepOp, s_pick] at hr
    split at hr
    · rename_i t ht
      simp at hr
      obtain ⟨rfl, rfl⟩ := hr
      have hc := ev_sound hs h1
      rw [ht] at hc; simp only [VR] at hc
      refine Does.same hw (rv := if t then a.eval x else a.eval y) ?_ ?_
      · simp [execOp, hc, asBool]
      · cases t
        · exact ev_sound hs h3
        · exact ev_sound hs h2
    · simp at hr
  | alloc zero =>
    cases op <;> simp only [okOp, Bool.false_eq_true] at hok
    simp only [stepOp, s_alloc, Option.some.injEq, Prod.mk.injEq] at hr
    obtain ⟨rfl, rfl⟩ := hr
    obtain ⟨μ', w', rv, h1, h2, h3⟩ := alloc_sound (P := P) hw (zeroB_zero hok)
    exact ⟨μ', w', rv, .inl (by simp [execOp, h1]), h2, h3⟩
  | box imm y =>
    cases op <;> simp only [okOp, Bool.false_eq_true] at hok
    rename_i t x
    simp only [stepOp, s_box] at hr
    cases imm
    · simp at hr; obtain ⟨rfl, rfl⟩ := hr
      obtain ⟨μ', w', rv, h1, h2, h3⟩ := box_sound (P := P) hw t (ev_sound hs hok)
      exact ⟨μ', w', rv, .inl (by simp [execOp, h1]), h2, h3⟩
    · simp at hr; obtain ⟨rfl, rfl⟩ := hr
      obtain ⟨μ', w', rv, h1, h2, h3⟩ := box_imm_sound (P := P) hw t (ev_sound hs hok)
      exact ⟨μ', w', rv, .inl (by simp [execOp, h1]), h2, h3⟩
  | build zero qs =>
    cases op <;> simp only [okOp, Bool.false_eq_true, Bool.and_eq_true] at hok
    rename_i t ps
    obtain ⟨hz, hok⟩ := hok
    simp only [stepOp, s_build] at hr
    split at hr
    · rename_i cs hf
      simp at hr; obtain ⟨rfl, rfl⟩ := hr
      split at hok
      · rename_i fs hu
        split at hok
        · rename_i pl hpl
          obtain ⟨rv, h1, h2⟩ := struct_build_sound (P := P) hw (zeroB_zero hz) hu (pl := pl.toArray) (run_places hpl) (vs := ps.map fun (i, x) => (i, a.eval x)) (by simpa using parts_sound hs hok) hf
          exact Does.same hw (by simp [execOp, h1]) h2
        · simp at hok
      · rename_i n e hu
        split at hok
        · rename_i i hi
          simp only [Bool.and_eq_true] at hok
          obtain ⟨ag, hty⟩ := szB_ty hok.1
          obtain ⟨rv, h1, h2⟩ := array_build_sound (P := P) hw (zeroB_zero hz) hu hty (vs := ps.map fun (i, x) => (i, a.eval x)) (by simpa using parts_sound hs hok.2) hf
          exact Does.same hw (by simp [execOp, h1]) h2
        · simp at hok
      · simp at hok
    · simp at hr
  | mkslice imm zero esz len' qs =>
    cases op <;> simp only [okOp, Bool.false_eq_true, Bool.and_eq_true] at hok
    rename_i t len ps
    obtain ⟨⟨⟨h1, h2⟩, h3⟩, hok⟩ := hok
    simp at h1 h2 h3; subst h1
    split at hok
    · rename_i e hu
      simp only [Bool.and_eq_true] at hok
      obtain ⟨⟨hz, hsz⟩, hp⟩ := hok
      obtain ⟨ag, hty⟩ := szB_ty hsz
      simp only [stepOp, s_mkslice] at hr
      split at hr
      · rename_i cs hf
        split at hr
        · rename_i hcl
          obtain ⟨μ', w', rv, g1, g2, g3⟩ := slice_build_sound (P := P) hw imm (zeroB_zero hz) h3 hu hty h2 (vs := ps.map fun (i, x) => (i, a.eval x)) (by simpa using parts_sound hs hp) hf hcl
          refine ⟨μ', w', rv, .inl (by simp [execOp, g1]), ?_⟩
          cases imm
          · simp at hr; obtain ⟨rfl, rfl⟩ := hr
            exact ⟨by simpa using g2, by simpa using g3⟩
          · simp at hr; obtain ⟨rfl, rfl⟩ := hr
            exact ⟨by simpa using g2, by simpa using g3⟩
        · simp at hr
      · simp at hr
    · simp at hok
  | load n ag y =>
    cases op <;> simp only [okOp, Bool.false_eq_true, Bool.and_eq_true] at hok
    simp only [stepOp, s_load] at hr
    obtain ⟨h1, rfl⟩ := lift_some hr
    obtain ⟨rv, h2, h3⟩ := load_sound (P := P) hw (tyB_ty hok.1) (ev_sound hs hok.2) h1
    exact Does.same hw (by simp [execOp, h2]) h3
  | store n y u =>
    cases op <;> simp only [okOp, Bool.false_eq_true, Bool.and_eq_true] at hok
    obtain ⟨⟨h1, h2⟩, h3⟩ := hok
    obtain ⟨ag, hty⟩ := szB_ty h1
    simp only [stepOp, s_store] at hr
    split at hr
    · rename_i H1 hst
      simp at hr; obtain ⟨rfl, rfl⟩ := hr
      obtain ⟨μ', w', g1, g2⟩ := store_sound (P := P) hw hty (ev_sound hs h2) (ev_sound hs h3) hst
      exact ⟨μ', w', undef, .inr ⟨by simp [execOp, g1], rfl⟩, g2, vr_undef _⟩
    · simp at hr
  | nilchk y =>
    cases op <;> simp only [okOp, Bool.false_eq_true] at hok
    rename_i x
    have hx := ev_sound hs hok
    simp only [stepOp, s_nilchk] at hr
    split at hr
    · rename_i o st off he
      simp at hr; obtain ⟨rfl, rfl⟩ := hr
      rw [he] at hx
      have hx' := hx
      simp only [VR] at hx'
      obtain ⟨b, base, n, _, hv⟩ := hx'
      exact Does.same hw (rv := a.eval x) (by simp [execOp, hv]) hx
    · rename_i br cs he
      simp at hr; obtain ⟨rfl, rfl⟩ := hr
      rw [he] at hx
      have hx' := hx
      simp only [VR] at hx'
      obtain ⟨b, i, hv, _⟩ := hx'
      exact Does.same hw (rv := a.eval x) (by simp [execOp, hv]) hx
    · rename_i f cs he
      simp at hr; obtain ⟨rfl, rfl⟩ := hr
      rw [he] at hx
      have hx' := hx
      simp only [VR] at hx'
      obtain ⟨vs, hv, _⟩ := hx'
      exact Does.same hw (rv := a.eval x) (by simp [execOp, hv]) hx
    · simp at hr
  | bin op' x' y' =>
    cases op <;> simp only [okOp, Bool.false_eq_true, Bool.and_eq_true] at hok
    rename_i op1 t x y t'
    obtain ⟨⟨h1, h2⟩, h3⟩ := hok
    simp at h1; subst h1
    simp only [stepOp, s_bin] at hr
    obtain ⟨h4, rfl⟩ := lift_some hr
    have hx := ev_sound hs h2
    have hy := ev_sound hs h3
    obtain ⟨rv, h5, h6⟩ := bin_sound (P := P) (w := w) hx hy h4 t
    refine Does.same hw ?_ h6
    have hg : (eqGuard op1 t x y (a.eval x) (a.eval y)).run P w = .ok () w := by
      unfold binV at h4
      split at h4
      · rename_i e1 e2; rw [e1] at hx; simp only [VR] at hx; rw [hx]; cases op1 <;> simp [eqGuard]
      · rename_i e1 e2; rw [e1] at hx; simp only [VR] at hx; rw [hx]; cases op1 <;> simp [eqGuard]
      · simp at h4
    simp [execOp, hg, h5]
  | eq neg k x' y' =>
    cases op <;> simp only [okOp, Bool.false_eq_true, Bool.and_eq_true] at hok
    rename_i op1 t x y t'
    obtain ⟨⟨⟨h1, h2⟩, h3⟩, h4⟩ := hok
    simp at h1; subst h1
    simp only [stepOp, s_eq] at hr
    split at hr
    · rename_i b hb
      simp at hr; obtain ⟨rfl, rfl⟩ := hr
      have h5 := eq_sound (P := P) (w := w) (eqB_fits h2) (ev_sound hs h3) (ev_sound hs h4) hb neg x y
      refine Does.same hw (rv := .bool (if neg then !b else b)) ?_ (by simp [VR])
      have h6 : ∀ s : Sem Value, s.run P w = .ok (.bool (if neg then !b else b)) w → (do pure (Next.value (← s)) : Sem Next).run P w = .ok (.value (.bool (if neg then !b else b))) w := fun s h => by
        rw [Sem.run_bind, h]; rfl
      exact h6 _ h5
    · simp at hr
  | un op' y =>
    cases op <;> simp only [okOp, Bool.false_eq_true, Bool.and_eq_true] at hok
    obtain ⟨h1, h2⟩ := hok
    simp at h1; subst h1
    simp only [stepOp, s_un] at hr
    obtain ⟨h4, rfl⟩ := lift_some hr
    obtain ⟨rv, h5, h6⟩ := un_sound (P := P) (w := w) (ev_sound hs h2) h4
    exact Does.same hw (by simp [execOp, h5]) h6
  | conv k y =>
    cases op <;> simp only [okOp, Bool.false_eq_true, Bool.and_eq_true] at hok
    rename_i src dst x
    obtain ⟨⟨h1, h2⟩, h3⟩ := hok
    obtain ⟨ds, h1⟩ := someB_ex h1
    split at h2
    · rename_i k' h4
      simp at h2; subst h2
      simp only [stepOp, s_conv] at hr
      split at hr
      · rename_i k'' n he
        simp at hr; obtain ⟨rfl, rfl⟩ := hr
        have hx := ev_sound hs h3
        rw [he] at hx
        exact Does.same hw (by simp [execOp, conv_sound (P := P) (w := w) ds h1 h4 hx]; rfl) (by simp [VR])
      · simp at hr
    · simp at h2
  | s2b imm y =>
    cases op <;> simp only [okOp, Bool.false_eq_true, Bool.and_eq_true] at hok
    obtain ⟨⟨h1, h2⟩, h3⟩ := hok
    obtain ⟨ds, h1⟩ := someB_ex h1
    simp only [stepOp, s_s2b] at hr
    split at hr
    · rename_i s he
      split at hr
      · have hx := ev_sound hs h3
        rw [he] at hx
        obtain ⟨μ', w', rv, g1, g2, g3⟩ := s2b_sound (P := P) hw h1 (bytesB_ty h2) hx imm
        refine ⟨μ', w', rv, .inl (by simp [execOp, g1]), ?_⟩
        cases imm
        · simp at hr; obtain ⟨rfl, rfl⟩ := hr
          exact ⟨by simpa using g2, by simpa using g3⟩
        · simp at hr; obtain ⟨rfl, rfl⟩ := hr
          exact ⟨by simpa using g2, by simpa using g3⟩
      · simp at hr
    · simp at hr
  | b2s y =>
    cases op <;> simp only [okOp, Bool.false_eq_true, Bool.and_eq_true] at hok
    obtain ⟨⟨h1, h2⟩, h3⟩ := hok
    simp only [stepOp, s_b2s] at hr
    split at hr
    · simp at hr
    · rename_i v hno
      split at hr
      · rename_i cs n he
        split at hr
        · rename_i hn
          split at hr
          · rename_i bs hb
            simp at hr; obtain ⟨rfl, rfl⟩ := hr
            have hx := ev_sound hs h3
            obtain ⟨rv, g1, g2⟩ := b2s_sound (P := P) hw (bytesB_ty h1) (stringB_ex h2) hx (fun s e => hno s e) he hn hb
            exact Does.same hw (by simp [execOp, g1]) g2
          · simp at hr
        · simp at hr
      · simp at hr
  | s2s y =>
    cases op <;> simp only [okOp, Bool.false_eq_true, Bool.and_eq_true] at hok
    obtain ⟨⟨h1, h2⟩, h3⟩ := hok
    obtain ⟨ds, h1⟩ := someB_ex h1
    simp only [stepOp, s_s2s] at hr
    split at hr
    · rename_i s he
      simp at hr; obtain ⟨rfl, rfl⟩ := hr
      have hx := ev_sound hs h3
      rw [he] at hx
      exact Does.same hw (by simp [execOp, s2s_sound (P := P) (w := w) ds h1 (stringB_ex h2) hx]) hx
    · simp at hr
  | mkfunc f caps' =>
    cases op <;> simp only [okOp, Bool.false_eq_true, Bool.and_eq_true] at hok
    rename_i fn first caps
    cases fn <;> simp only [Bool.false_eq_true, Bool.and_eq_true] at hok
    obtain ⟨⟨h1, h2⟩, h3⟩ := hok
    simp at h1; subst h1
    have h2' : first = #[] := by simpa using h2
    subst h2'
    simp only [stepOp, s_mkfunc, Option.some.injEq, Prod.mk.injEq] at hr
    obtain ⟨rfl, rfl⟩ := hr
    refine Does.same hw (rv := .func (.func f) #[] (caps.map a.eval)) (by simp [execOp, Instr.makeFunc]) ?_
    simp only [VR]
    exact ⟨(caps.map a.eval).toList, by simp only [Array.toArray_toList], by simpa using evs_sound hs h3⟩
  | mkmap =>
    cases op <;> simp only [okOp, Bool.false_eq_true] at hok
    rename_i t rsv
    cases rsv <;> simp at hok
    simp only [stepOp, s_mkmap, Option.some.injEq, Prod.mk.injEq] at hr
    obtain ⟨rfl, rfl⟩ := hr
    refine ⟨_, _, .map (some w.heap.size), .inl ?_, stp_newmap hw 0, by simp [VR, Mu.mat]⟩
    rfl
  | mkslc zero x y => simp [okOp] at hok
  | slice esz y lo' hi' mx' =>
    cases op <;> simp only [okOp, Bool.false_eq_true, Bool.and_eq_true] at hok
    obtain ⟨⟨⟨⟨h1, h2⟩, h3⟩, h4⟩, h5⟩ := hok
    obtain ⟨e, ag, hu, hty⟩ := sliceB_ex h1
    simp only [stepOp, s_slice] at hr
    obtain ⟨h6, rfl⟩ := lift_some hr
    obtain ⟨rv, g1, g2⟩ := slice_sound (P := P) (w := w) hu hty (ev_sound hs h2) (evO_sound hs h3) (evO_sound hs h4) (evO_sound hs h5) h6
    exact Does.same hw (by simp [execOp, g1]) g2
  | substr y lo' hi' =>
    cases op <;> simp only [okOp, Bool.false_eq_true] at hok
    rename_i t x lo hi mx
    cases mx <;> simp only [Bool.false_eq_true, Bool.and_eq_true] at hok
    obtain ⟨⟨⟨h1, h2⟩, h3⟩, h4⟩ := hok
    simp only [stepOp, s_substr] at hr
    obtain ⟨h6, rfl⟩ := lift_some hr
    obtain ⟨rv, g1, g2⟩ := substr_sound (P := P) (w := w) (stringB_ex h1) (ev_sound hs h2) (evO_sound hs h3) (evO_sound hs h4) h6
    exact Does.same hw (by simp [execOp, g1]) g2
  | faddr off y =>
    cases op <;> simp only [okOp, Bool.false_eq_true, Bool.and_eq_true] at hok
    simp only [stepOp, s_faddr] at hr
    obtain ⟨h6, rfl⟩ := lift_some hr
    obtain ⟨rv, g1, g2⟩ := faddr_sound (P := P) (w := w) (fdB_fd hok.1) (ev_sound hs hok.2) h6
    exact Does.same hw (by simp [execOp, g1]) g2
  | fld off n ag y =>
    cases op <;> simp only [okOp, Bool.false_eq_true, Bool.and_eq_true] at hok
    obtain ⟨fs, fl, h1, h2, h3, h4⟩ := fldB_ex hok.1
    simp only [stepOp, s_fld] at hr
    split at hr
    · rename_i cs he
      obtain ⟨h6, rfl⟩ := lift_some hr
      have hx := ev_sound hs hok.2
      rw [he] at hx
      obtain ⟨rv, g1, g2⟩ := fld_sound (P := P) (w := w) h1 h2 h3 h4 hx h6
      exact Does.same hw (by simp [execOp, g1]) g2
    · simp at hr
  | iaddr esz y j =>
    cases op <;> simp only [okOp, Bool.false_eq_true, Bool.and_eq_true] at hok
    obtain ⟨⟨h1, h2⟩, h3⟩ := hok
    obtain ⟨e, ag, hu, hty⟩ := sliceB_ex h1
    simp only [stepOp, s_iaddr] at hr
    obtain ⟨h6, rfl⟩ := lift_some hr
    obtain ⟨rv, g1, g2⟩ := iaddr_sound (P := P) (w := w) hu hty (ev_sound hs h2) (ev_sound hs h3) h6
    exact Does.same hw (by simp [execOp, g1]) g2
  | idxs y j =>
    cases op <;> simp only [okOp, Bool.false_eq_true, Bool.and_eq_true] at hok
    obtain ⟨⟨h1, h2⟩, h3⟩ := hok
    simp only [stepOp, s_idxs] at hr
    split at hr
    · rename_i s i he hb
      split at hr
      · rename_i b hg
        simp at hr; obtain ⟨rfl, rfl⟩ := hr
        have hx := ev_sound hs h2
        rw [he] at hx
        exact Does.same hw (by simp [execOp, idxs_sound (P := P) (w := w) (stringB_ex h1) hx (ev_sound hs h3) hb hg]; rfl) (by simp [VR])
      · simp at hr
    · simp at hr
  | idxa n ag len y j =>
    cases op <;> simp only [okOp, Bool.false_eq_true, Bool.and_eq_true] at hok
    obtain ⟨⟨h1, h2⟩, h3⟩ := hok
    obtain ⟨e, hu, hty⟩ := arrB_ex h1
    simp only [stepOp, s_idxa] at hr
    split at hr
    · rename_i cs i he hb
      split at hr
      · rename_i hlt
        obtain ⟨h6, rfl⟩ := lift_some hr
        have hx := ev_sound hs h2
        rw [he] at hx
        obtain ⟨rv, g1, g2⟩ := idxa_sound (P := P) (w := w) hu hty hx (ev_sound hs h3) hb hlt h6
        exact Does.same hw (by simp [execOp, g1]) g2
      · simp at hr
    · simp at hr
  | lookup kk zero ok' m' k' =>
    cases op <;> simp only [okOp, Bool.false_eq_true, Bool.and_eq_true] at hok
    rename_i t0 x0 i0 ok0
    obtain ⟨⟨⟨⟨h1, h2⟩, h3⟩, h4⟩, h5⟩ := hok
    simp at h3; subst h3
    simp only [stepOp, s_lookup] at hr
    split at hr
    · rename_i es he
      split at hr
      · simp at hr
      · rename_i hk
        simp at hk
        split at hr
        · rename_i i v hf
          simp only [Option.some.injEq, Prod.mk.injEq] at hr
          obtain ⟨rfl, rfl⟩ := hr
          obtain ⟨rv, g1, g2⟩ := lookup_sound (P := P) hw (mapB_ty h1) (mapZeroB_zero h2) (ev_sound hs h4) (ev_sound hs h5) he hk hf ok0
          exact Does.same hw (by simp [execOp, g1]) g2
        · rename_i hf
          simp only [Option.some.injEq, Prod.mk.injEq] at hr
          obtain ⟨rfl, rfl⟩ := hr
          obtain ⟨rv, g1, g2⟩ := lookup_sound (P := P) hw (mapB_ty h1) (mapZeroB_zero h2) (ev_sound hs h4) (ev_sound hs h5) he hk hf ok0
          exact Does.same hw (by simp [execOp, g1]) g2
        · simp at hr
    · simp at hr
  | mapset kk m' k' v' =>
    cases op <;> simp only [okOp, Bool.false_eq_true, Bool.and_eq_true] at hok
    obtain ⟨⟨⟨h1, h2⟩, h3⟩, h4⟩ := hok
    simp only [stepOp, s_mapset] at hr
    split at hr
    · rename_i o he
      have hm := ev_sound hs h2
      rw [he] at hm
      split at hr
      · rename_i es ho
        split at hr
        · simp at hr
        · rename_i hk
          simp at hk
          split at hr
          · rename_i i v hf
            simp at hr; obtain ⟨rfl, rfl⟩ := hr
            obtain ⟨μ', w', g1, g2⟩ := mapset_sound (P := P) hw (mapB_ty h1) hm (ev_sound hs h3) (ev_sound hs h4) ho hk hf
            exact ⟨μ', w', undef, .inr ⟨by simp [execOp, g1], rfl⟩, g2, vr_undef _⟩
          · rename_i hf
            simp at hr; obtain ⟨rfl, rfl⟩ := hr
            obtain ⟨μ', w', g1, g2⟩ := mapset_sound (P := P) hw (mapB_ty h1) hm (ev_sound hs h3) (ev_sound hs h4) ho hk hf
            exact ⟨μ', w', undef, .inr ⟨by simp [execOp, g1], rfl⟩, g2, vr_undef _⟩
          · simp at hr
      · simp at hr
    · simp at hr
  | ext y i' =>
    cases op <;> simp only [okOp, Bool.false_eq_true, Bool.and_eq_true] at hok
    obtain ⟨h1, h2⟩ := hok
    simp at h1; subst h1
    simp only [stepOp, s_ext] at hr
    split at hr
    · rename_i vs he
      obtain ⟨h6, rfl⟩ := lift_some hr
      have hx := ev_sound hs h2
      rw [he] at hx; simp only [VR] at hx
      obtain ⟨us, hv, hl⟩ := hx
      obtain ⟨u, h7, h8⟩ := hl.get _ _ h6
      exact Does.same hw (rv := u) (by simp [execOp, hv, Instr.extract, h7]) h8
    · simp at hr
  | append esz x' y' =>
    simp only [okOp] at hok
    split at hok
    case h_2 => simp at hok
    rename_i args tys
    split at hok
    · rename_i x y t u e1 e2
      simp only [Bool.and_eq_true] at hok
      obtain ⟨⟨h1, h2⟩, h3⟩ := hok
      obtain ⟨e, hel⟩ := elB_el h1
      simp only [stepOp, s_append] at hr
      obtain ⟨μ', w', rv, g1, g2, g3⟩ := append_sound (P := P) (ty := type) hw hel (ev_sound hs h2) (ev_sound hs h3) hr
      have ea : args = #[x, y] := by apply Array.ext'; simpa using e1
      have et : tys = #[t, u] := by apply Array.ext'; simpa using e2
      subst ea; subst et
      exact ⟨μ', w', rv, .inl (by simp [execOp, resolve, invoke, builtin, g1]), g2, g3⟩
    · simp at hok
  | len k y =>
    simp only [okOp] at hok
    split at hok
    case h_2 => simp at hok
    rename_i args tys
    split at hok
    · rename_i x t e1 e2
      simp only [Bool.and_eq_true, lenB] at hok
      obtain ⟨h1, h2⟩ := hok
      split at h1
      · rename_i d hd
        simp only [stepOp, s_len] at hr
        split at hr
        · rename_i n hn
          simp at hr; obtain ⟨rfl, rfl⟩ := hr
          have g1 := len_sound (P := P) (ty := type) hw hd h1 (ev_sound hs h2) hn
          have ea : args = #[x] := by apply Array.ext'; simpa using e1
          have et : tys = #[t] := by apply Array.ext'; simpa using e2
          subst ea; subst et
          exact Does.same hw (rv := .int .i64 n) (by simp [execOp, resolve, invoke, builtin, g1]) (by simp [VR])
        · simp at hr
      · simp at h1
    · simp at hok
  | mins ys =>
    simp only [okOp] at hok
    split at hok
    case h_2 => simp at hok
    rename_i args tys
    simp only [stepOp, s_mins] at hr
    obtain ⟨h6, rfl⟩ := lift_some hr
    obtain ⟨rv, g1, g2⟩ := min_sound (P := P) (w := w) (at_ := tys) (ty := type) (evs_sound hs hok) h6
    have e1 : (args.toList.map a.eval).toArray = args.map a.eval := by apply Array.ext'; simp
    rw [e1] at g1
    exact Does.same hw (by simp [execOp, resolve, invoke, builtin, g1]) g2
  | maxs ys =>
    simp only [okOp] at hok
    split at hok
    case h_2 => simp at hok
    rename_i args tys
    simp only [stepOp, s_maxs] at hr
    obtain ⟨h6, rfl⟩ := lift_some hr
    obtain ⟨rv, g1, g2⟩ := max_sound (P := P) (w := w) (at_ := tys) (ty := type) (evs_sound hs hok) h6
    have e1 : (args.toList.map a.eval).toArray = args.map a.eval := by apply Array.ext'; simp
    rw [e1] at g1
    exact Does.same hw (by simp [execOp, resolve, invoke, builtin, g1]) g2
  | delete kk m' k' =>
    simp only [okOp] at hok
    split at hok
    case h_2 => simp at hok
    rename_i args tys
    split at hok
    · rename_i m k t u e1 e2
      simp only [Bool.and_eq_true] at hok
      obtain ⟨⟨h1, h2⟩, h3⟩ := hok
      have ea : args = #[m, k] := by apply Array.ext'; simpa using e1
      have et : tys = #[t, u] := by apply Array.ext'; simpa using e2
      subst ea; subst et
      simp only [stepOp, s_delete] at hr
      split at hr
      · rename_i o he
        have hm := ev_sound hs h2
        rw [he] at hm
        split at hr
        · rename_i es ho
          split at hr
          · simp at hr
          · rename_i hk
            simp at hk
            split at hr
            · rename_i i v hf
              simp at hr; obtain ⟨rfl, rfl⟩ := hr
              obtain ⟨μ', w', g1, g2⟩ := delete_sound (P := P) (ty := type) (u := u) hw (mapB_ty h1) hm (ev_sound hs h3) ho hk hf
              exact ⟨μ', w', .tuple #[], .inl (by simp [execOp, resolve, invoke, builtin, g1]), g2, vr_undef _⟩
            · rename_i hf
              simp at hr; obtain ⟨rfl, rfl⟩ := hr
              obtain ⟨μ', w', g1, g2⟩ := delete_sound (P := P) (ty := type) (u := u) hw (mapB_ty h1) hm (ev_sound hs h3) ho hk hf
              exact ⟨μ', w', .tuple #[], .inl (by simp [execOp, resolve, invoke, builtin, g1]), g2, vr_undef _⟩
            · simp at hr
        · simp at hr
      · simp at hr
    · simp at hok
  | clear zero y =>
    simp only [okOp] at hok
    split at hok
    case h_2 => simp at hok
    rename_i args tys
    split at hok
    · rename_i x t e1 e2
      simp only [Bool.and_eq_true] at hok
      obtain ⟨h1, h2⟩ := hok
      have ea : args = #[x] := by apply Array.ext'; simpa using e1
      have et : tys = #[t] := by apply Array.ext'; simpa using e2
      subst ea; subst et
      split at h1
      · rename_i e hu
        have hx := ev_sound hs h2
        simp only [stepOp, s_clear] at hr
        split at hr
        · rename_i he
          simp at hr; obtain ⟨rfl, rfl⟩ := hr
          rw [he] at hx; simp only [VR] at hx
          exact Does.same hw (rv := .tuple #[]) (by simp [execOp, resolve, invoke, builtin, Builtin.clear_, run_underlying hu, hx]) (vr_undef _)
        · rename_i o st off len esz tight he
          rw [he] at hx
          split at hr
          · rename_i h0
            simp at hr; obtain ⟨rfl, rfl⟩ := hr
            subst h0
            simp only [VR] at hx
            obtain ⟨b, base, n, i, cap, _, hv, _⟩ := hx
            exact Does.same hw (rv := .tuple #[]) (by simp [execOp, resolve, invoke, builtin, Builtin.clear_, run_underlying hu, hv]) (vr_undef _)
          · rename_i h0
            split at hr
            · rename_i cs st' ho
              split at hr
              · rename_i hc
                obtain ⟨rfl, h3, h4, h5⟩ := hc
                simp at hr; obtain ⟨rfl, rfl⟩ := hr
                obtain ⟨μ', w', g1, g2⟩ := clear_sound (P := P) (ty := type) hw hu (zeroB_zero h1) hx h0 ho h3 h4 h5
                exact ⟨μ', w', .tuple #[], .inl (by simp [execOp, resolve, invoke, builtin, g1]), g2, vr_undef _⟩
              · simp at hr
            · simp at hr
        · simp at hr
      · simp at h1
    · simp at hok

end Go.AM
