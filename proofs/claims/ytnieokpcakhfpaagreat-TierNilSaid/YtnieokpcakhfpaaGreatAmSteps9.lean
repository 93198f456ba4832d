/-
  Maps written and read; bytes.
-/
import Derived.Test.YtnieokpcakhfpaaGreatAmSteps8
namespace Go.AM

variable {P : Program}

structure MapTy (P : Program) (t : TypeId) (kk : KK) : Prop where
  ex : ∃ k e, P.underlying t = some (.map k e) ∧ KeyFits P k kk
structure MapZero (P : Program) (t : TypeId) (zero : AV) : Prop where
  ex : ∃ k e i z, P.underlying t = some (.map k e) ∧ P.info? e = some i ∧ i.zero = some z ∧ ∀ μ, VR μ zero z

theorem getObj_map {w : World} {r : Nat} {es : Array MapEntry} {clock : Nat} (hb : w.heap[r]? = some (.map es clock)) : (getObj r).run P w = .ok (.map es clock) w := by simp [getObj, Sem.run, hb]
theorem setObj_map {w : World} {r : Nat} {es : Array MapEntry} {clock : Nat} (o : Obj) (hb : w.heap[r]? = some (.map es clock)) : (setObj r o).run P w = .ok () (wset w r o) := by simp [setObj, Sem.run, hb, wset]

theorem lookup_sound {μ : Mu} {H : Heap} {w : World} (hw : WR μ H w) {t : TypeId} {kk : KK} (ht : MapTy P t kk) {zero : AV} (hz : MapZero P t zero) {m k : AV} {mv kv : Value} (hm : VR μ m mv) (hkv : VR μ k kv)
    {es : List (AV × AV)} (he : entries H m = some es) (hk : isKey kk k = true) {res : Option (Nat × AV)} (hr : findK kk k es = some res) (ok : Bool) :
    ∃ rv, (Instr.lookup t mv kv ok).run P w = .ok rv w ∧
      VR μ (match res with | some (_, v) => if ok then .tup [v, .bool true] else v | none => if ok then .tup [zero, .bool false] else zero) rv := by
  obtain ⟨kt, et, hu, hf⟩ := ht.ex
  obtain ⟨kt', et', i, z, hu', hi, hzz, hzv⟩ := hz.ex
  rw [hu] at hu'; simp at hu'
  obtain ⟨rfl, rfl⟩ := hu'
  have hck := fun b => check_sound (P := P) (w := w) hf hkv hk b
  have fin : ∀ (res' : Option (Nat × Value)), FR μ 0 res res' → ((Instr.lookup t mv kv ok).run P w = (match res' with
        | some (_, v) => .ok (if ok then .tuple #[v, .bool true] else v) w
        | none => .ok (if ok then .tuple #[z, .bool false] else z) w)) → ∃ rv, (Instr.lookup t mv kv ok).run P w = .ok rv w ∧
      VR μ (match res with | some (_, v) => if ok then .tup [v, .bool true] else v | none => if ok then .tup [zero, .bool false] else zero) rv := by
    intro res' h2 hrun
    rw [hrun]
    cases h2 with
    | none =>
      cases ok
      · exact ⟨z, by simp, by simpa using hzv μ⟩
      · exact ⟨.tuple #[z, .bool false], by simp, by simp only [if_true, VR, VRL]; exact ⟨[z, .bool false], rfl, _, _, rfl, hzv μ, _, _, rfl, rfl, rfl⟩⟩
    | @some i a v h =>
      cases ok
      · exact ⟨v, by simp, by simpa using h⟩
      · exact ⟨.tuple #[v, .bool true], by simp, by simp only [if_true, VR, VRL]; exact ⟨[v, .bool true], rfl, _, _, rfl, h, _, _, rfl, rfl, rfl⟩⟩
  unfold entries at he
  split at he
  · simp at he; subst he
    simp only [VR] at hm; subst hm
    obtain ⟨res', h1, h2⟩ := find_sound (P := P) (w := w) hf hkv hk (ents := []) rfl (by simp) hr
    refine fin res' h2 ?_
    cases res' <;> simp [Instr.lookup, run_underlying hu, hck, h1, zeroValue, typeInfo, hi, hzz]
  · rename_i o
    split at he
    · rename_i es' ho
      simp at he; subst he
      simp only [VR] at hm
      obtain ⟨r, hl, rfl⟩ := hm
      obtain ⟨r', hl', hma⟩ := hw.maps _ _ ho
      rw [hl] at hl'; simp at hl'; subst hl'
      obtain ⟨ents, clock, g1, g2, _, g3⟩ := hma.ex
      obtain ⟨res', h1, h2⟩ := find_sound (P := P) (w := w) hf hkv hk (ents := ents.toList) (by simpa using g2) (fun j e p h h' => g3 j e p (by simpa using h) h') hr
      refine fin res' h2 ?_
      cases res' <;> simp [Instr.lookup, run_underlying hu, getObj_map g1, hck, h1, zeroValue, typeInfo, hi, hzz]
    · simp at he
  · simp at he

theorem cellEq_same {k : PK} {a b : AV} (h : cellEq k a b = some true) : a = b := by
  unfold cellEq at h
  split at h <;> (try (simp at h; done))
  · split at h <;> simp_all
  · simp at h; simp [h]
  · simp at h; simp [h]
theorem cellsEq_same : ∀ {ks : List PK} {as bs : List AV}, cellsEq ks as bs = some true → as = bs ∧ ∀ a ∈ as, ∃ k, cellEq k a a = some true
  | [], [], [], _ => ⟨rfl, by simp⟩
  | k :: ks, a :: as, b :: bs, h => by
    simp only [cellsEq] at h
    split at h
    · rename_i hc
      have e := cellEq_same hc
      subst e
      obtain ⟨h1, h2⟩ := cellsEq_same h
      exact ⟨by rw [h1], fun x hx => by
        cases hx with
        | head => exact ⟨k, hc⟩
        | tail _ hx => exact h2 x hx⟩
    · split at h <;> simp at h
    · simp at h
  | [], [], _ :: _, h => by simp [cellsEq] at h
  | [], _ :: _, _, h => by simp [cellsEq] at h
  | _ :: _, [], _, h => by simp [cellsEq] at h
  | _ :: _, _ :: _, [], h => by simp [cellsEq] at h

theorem sameBits_cell {μ : Mu} {k : PK} {a : AV} (h : cellEq k a a = some true) {x y : Value} (hx : VR μ a x) (hy : VR μ a y) (n : Nat) : Instr.sameBits n x y = true := by
  unfold cellEq at h
  split at h <;> (try (simp at h; done)) <;> simp only [VR] at hx hy <;> subst hx <;> subst hy <;> cases n <;> simp [Instr.sameBits, beq_toListBytes]

theorem sameBits_key {μ : Mu} {kk : KK} {a b : AV} (h : sameKey kk a b = some true) {x y : Value} (hx : VR μ a x) (hy : VR μ b y) : Instr.sameBits 10000 y x = true := by
  cases kk with
  | one k =>
    have h : cellEq k a b = some true := h
    have e := cellEq_same h
    subst e
    exact sameBits_cell h hy hx _
  | st ks =>
    cases a <;> cases b <;> simp only [sameKey] at h <;> (try (simp at h; done))
    rename_i as bs
    obtain ⟨rfl, h2⟩ := cellsEq_same h
    simp only [VR] at hx hy
    obtain ⟨vs, rfl, hv⟩ := hx
    obtain ⟨us, rfl, hu⟩ := hy
    have key : ∀ (as : List AV) (vs us : List Value), (∀ a ∈ as, ∃ k, cellEq k a a = some true) → VRL μ as vs → VRL μ as us → us.length = vs.length ∧ (us.zip vs).all (fun (x, y) => Instr.sameBits 9999 x y) = true := by
      intro as
      induction as with
      | nil => intro vs us _ h1 h2; simp only [VRL] at h1 h2; subst h1; subst h2; simp
      | cons a as ih =>
        intro vs us hh h1 h2
        simp only [VRL] at h1 h2
        obtain ⟨v, vs', rfl, h3, h4⟩ := h1
        obtain ⟨u, us', rfl, h5, h6⟩ := h2
        obtain ⟨k, hk⟩ := hh a (by simp)
        obtain ⟨h7, h8⟩ := ih vs' us' (fun x hx => hh x (by simp [hx])) h4 h6
        exact ⟨by simp [h7], by simp only [List.zip_cons_cons, List.all_cons, h8, Bool.and_true]; exact sameBits_cell hk h5 h3 _⟩
    obtain ⟨h7, h8⟩ := key as vs us h2 hv hu
    show (us.toArray.size == vs.toArray.size && (us.toArray.toList.zip vs.toArray.toList).all fun (x, y) => Instr.sameBits 9999 x y) = true
    simp [h7]
    simpa using h8

theorem findK_at {kk : KK} {k : AV} : ∀ {es : List (AV × AV)} {i : Nat} {v : AV}, findK kk k es = some (some (i, v)) → ∃ k', es[i]? = some (k', v) ∧ sameKey kk k k' = some true
  | [], i, v, h => by simp [findK] at h
  | (k', v') :: es, i, v, h => by
    simp only [findK] at h
    split at h
    · rename_i hc
      simp at h; obtain ⟨rfl, rfl⟩ := h
      exact ⟨k', by simp, hc⟩
    · split at h
      · rename_i j v'' hf
        simp at h; obtain ⟨rfl, rfl⟩ := h
        obtain ⟨k'', h1, h2⟩ := findK_at hf
        exact ⟨k'', by simpa using h1, h2⟩
      · simp at h
      · simp at h
    · simp at h

theorem mapset_sound {μ : Mu} {H : Heap} {w : World} (hw : WR μ H w) {t : TypeId} {kk : KK} (ht : MapTy P t kk) {o : Nat} {k v : AV} {mv kv vv : Value} (hm : VR μ (.map o) mv) (hkv : VR μ k kv) (hv : VR μ v vv)
    {es : List (AV × AV)} (ho : H.get o = some (.map es)) (hk : isKey kk k = true) {res : Option (Nat × AV)} (hr : findK kk k es = some res) :
    ∃ μ' w', (Instr.mapUpdate t mv kv vv).run P w = .ok () w' ∧ Stp μ H w μ' (H.set o (.map (match res with | some (i, _) => es.modify i fun _ => (k, v) | none => es ++ [(k, v)]))) w' := by
  obtain ⟨kt, et, hu, hf⟩ := ht.ex
  simp only [VR] at hm
  obtain ⟨r, hl, rfl⟩ := hm
  obtain ⟨r', hl', hma⟩ := hw.maps _ _ ho
  rw [hl] at hl'; simp at hl'; subst hl'
  obtain ⟨ents, clock, h1, h2, hbo, h3⟩ := hma.ex
  obtain ⟨res', h4, h5⟩ := find_sound (P := P) (w := w) hf hkv hk (ents := ents.toList) (by simpa using h2) (fun j e p h h' => h3 j e p (by simpa using h) h') hr
  have hck := fun b => check_sound (P := P) (w := w) hf hkv hk b
  cases h5 with
  | none =>
    refine ⟨_, wset w r (.map (ents.push { key := kv, val := vv, born := clock }) (clock + 1)), ?_, stp_setmap hw ho hl _ _ (clock + 1) (by simp [h2]) (hbo.push _ rfl) (fun j e p he hp => ?_)⟩
    · simp [Instr.mapUpdate, run_underlying hu, getObj_map h1, hck, h4, setObj_map _ h1]
    · rw [Array.getElem?_push] at he
      rw [List.getElem?_append] at hp
      split at he
      · rename_i e1
        simp at he; subst he
        rw [if_neg (by omega), show j - es.length = 0 from by omega] at hp
        simp at hp; subst hp
        exact ⟨hkv, hv⟩
      · have := (Array.getElem?_eq_some_iff.1 he).1
        rw [if_pos (by omega)] at hp
        exact h3 j e p he hp
  | @some i a v0 h =>
    obtain ⟨k', hki, hsame⟩ := findK_at hr
    have hlt : i < ents.size := by rw [h2]; exact (List.getElem?_eq_some_iff.1 hki).1
    have hei : ents[i]? = some ents[i] := Array.getElem?_eq_getElem hlt
    have hbits := sameBits_key hsame hkv (h3 i _ _ hei hki).1
    refine ⟨_, wset w r (.map (ents.modify i fun e => { e with key := kv, val := vv }) clock), ?_, stp_setmap hw ho hl _ _ clock (by simp [h2]) (hbo.modify _ _ fun _ => rfl) (fun j e p he hp => ?_)⟩
    · simp [Instr.mapUpdate, run_underlying hu, getObj_map h1, hck, h4, Instr.keyThatStays, hlt, hbits, setObj_map _ h1]
    · rw [Array.getElem?_modify] at he
      rw [List.getElem?_modify] at hp
      by_cases e1 : i = j
      · subst e1
        simp [hlt] at he
        simp [hki] at hp
        subst he; subst hp
        exact ⟨hkv, hv⟩
      · simp [e1] at he hp
        exact h3 j e p he hp

theorem delete_sound {μ : Mu} {H : Heap} {w : World} (hw : WR μ H w) {t ty : TypeId} {kk : KK} (ht : MapTy P t kk) {u : TypeId} {o : Nat} {k : AV} {mv kv : Value} (hm : VR μ (.map o) mv) (hkv : VR μ k kv)
    {es : List (AV × AV)} (ho : H.get o = some (.map es)) (hk : isKey kk k = true) {res : Option (Nat × AV)} (hr : findK kk k es = some res) :
    ∃ μ' w', (Builtin.delete_ #[t, u] ty #[mv, kv]).run P w = .ok (.tuple #[]) w' ∧ Stp μ H w μ' (H.set o (.map (match res with | some (i, _) => es.eraseIdx i | none => es))) w' := by
  obtain ⟨kt, et, hu, hf⟩ := ht.ex
  simp only [VR] at hm
  obtain ⟨r, hl, rfl⟩ := hm
  obtain ⟨r', hl', hma⟩ := hw.maps _ _ ho
  rw [hl] at hl'; simp at hl'; subst hl'
  obtain ⟨ents, clock, h1, h2, hbo, h3⟩ := hma.ex
  obtain ⟨res', h4, h5⟩ := find_sound (P := P) (w := w) hf hkv hk (ents := ents.toList) (by simpa using h2) (fun j e p h h' => h3 j e p (by simpa using h) h') hr
  have hck := fun b => check_sound (P := P) (w := w) hf hkv hk b
  cases h5 with
  | none =>
    refine ⟨_, wset w r (.map ents clock), ?_, stp_setmap hw ho hl _ _ clock h2 hbo h3⟩
    simp [Builtin.delete_, run_underlying hu, getObj_map h1, hck, h4, setObj_map _ h1]
  | @some i a v0 h =>
    obtain ⟨k', hki, hsame⟩ := findK_at hr
    have hlt : i < ents.size := by rw [h2]; exact (List.getElem?_eq_some_iff.1 hki).1
    refine ⟨_, wset w r (.map (ents.eraseIdxIfInBounds i) clock), ?_, stp_setmap hw ho hl _ _ clock (by
      have hlt' : i < es.length := by omega
      rw [Array.eraseIdxIfInBounds, dif_pos hlt, Array.size_eraseIdx, List.length_eraseIdx, if_pos hlt', h2]) (by rw [Array.eraseIdxIfInBounds, dif_pos hlt]; exact hbo.erase _ hlt) (fun j e p he hp => ?_)⟩
    · simp [Builtin.delete_, run_underlying hu, getObj_map h1, hck, h4, setObj_map _ h1]
    · simp only [Array.eraseIdxIfInBounds, hlt, dif_pos] at he
      rw [Array.getElem?_eraseIdx] at he
      rw [List.getElem?_eraseIdx] at hp
      split at he
      · rw [if_pos ‹_›] at hp; exact h3 j e p he hp
      · rw [if_neg ‹_›] at hp; exact h3 _ e p he hp

end Go.AM
