/-
  Bytes and texts; rows made by make; clear.
-/
import Derived.Test.YtnieokpcakhfpaaGreatAmSteps9
namespace Go.AM

variable {P : Program}

structure BytesTy (P : Program) (t : TypeId) : Prop where
  ex : ∃ e, P.underlying t = some (.slice e) ∧ P.underlying e = some (.int .u8)

theorem freeze_push (w : World) (arr : Array Value) (el : TypeId) : (wpush w (.cells arr el (0, 0))).freeze ⟨w.heap.size, arr.size, none⟩ 1 = wpush w (.cells arr el (arr.size, arr.size + 1)) := by
  unfold World.freeze wpush
  simp only [Nat.one_ne_zero, if_false]
  congr 1
  apply Array.ext_getElem?
  intro k
  rw [Array.getElem?_modify, Array.getElem?_push, Array.getElem?_push]
  by_cases hk : k = w.heap.size
  · subst hk; simp
  · rw [if_neg hk, if_neg (by omega), if_neg hk]

theorem run_s2b {src dst : TypeId} {ds : TypeDesc} (hsrc : P.underlying src = some ds) (ht : BytesTy P dst) {w : World} (s : List UInt8) :
    ∃ (e : TypeId) (cap : Nat) (arr : Array Value), (convert src dst (.string ⟨s.toArray⟩)).run P w = .ok (.slice (some ⟨w.heap.size, 0, none⟩) s.length cap) (wpush (wdraw w (w.drawn + 1)) (.cells arr e (arr.size, arr.size + 1))) ∧
      s.length ≤ cap ∧ arr.size = cap ∧ ∀ (μ : Mu) (j : Nat) (c : AV), (bytesOf s)[j]? = some c → ∃ v, arr[j]? = some v ∧ VR μ c v := by
  obtain ⟨e, h1, h2⟩ := ht.ex
  have hsz : (⟨s.toArray⟩ : ByteArray).size = s.length := by simp [← ByteArray.size_data]
  have hge : s.length ≤ (Question.appendCap s.length 0 e).cut (w.tape w.drawn (.appendCap s.length 0 e)) := by simp only [Question.cut]; omega
  generalize hcap : (Question.appendCap s.length 0 e).cut (w.tape w.drawn (.appendCap s.length 0 e)) = cap at hge
  let arr : Array Value := (s.map fun b => Value.int .u8 b.toNat).toArray ++ Array.replicate (cap - s.length) (.int .u8 0)
  have hasz : arr.size = cap := by simp [arr]; omega
  refine ⟨e, cap, arr, ?_, hge, hasz, fun μ j c hj => ?_⟩
  · have hstr : (convert src dst (.string ⟨s.toArray⟩)).run P w = (Conv.stringToBytes e ⟨s.toArray⟩).run P w := by
      cases ds <;> simp [convert, run_underlying hsrc, run_underlying h1, run_underlying h2]
    rw [hstr]
    have hf := freeze_push (wdraw w (w.drawn + 1)) arr e
    have hchoose : (choose (.appendCap s.length 0 e)).run P w = .ok cap (wdraw w (w.drawn + 1)) := by
      simp [choose, Sem.run, Question.forced, hcap, wdraw]
    have harr : (Array.map (fun b : UInt8 => Value.int .u8 (b.toNat : Int)) s.toArray ++ Array.replicate (cap - s.length) (.int .u8 0)) = arr := by simp [arr]
    unfold Conv.stringToBytes
    rw [hsz, Sem.run_bind, hchoose]
    simp only [Result.andThen, harr]
    rw [Sem.run_bind, run_alloc]
    simp only [Result.andThen]
    have hshape : (wpush (wdraw w (w.drawn + 1)) (.cells arr e)).shape? (wdraw w (w.drawn + 1)).heap.size = some (e, arr.size) := by
      unfold World.shape?; rw [wpush_get]
    have hm : (markStringish ⟨(wdraw w (w.drawn + 1)).heap.size, 0, none⟩).run P (wpush (wdraw w (w.drawn + 1)) (.cells arr e)) = .ok () (wpush (wdraw w (w.drawn + 1)) (.cells arr e (arr.size, arr.size + 1))) := by
      unfold markStringish
      rw [Sem.run_bind, run_shape, hshape]
      simp only [Result.andThen]
      rw [run_freeze, hf]
    rw [Sem.run_bind, hm]
    rfl
  · obtain ⟨v, g1, g2⟩ := (vrl_bytes μ s).get j c hj
    refine ⟨v, ?_, g2⟩
    have hlt := (List.getElem?_eq_some_iff.1 g1).1
    simp only [arr]
    rw [Array.getElem?_append_left (by simpa using hlt)]
    simpa using g1

theorem s2b_sound {μ : Mu} {H : Heap} {w : World} (hw : WR μ H w) {src dst : TypeId} {ds : TypeDesc} (hsrc : P.underlying src = some ds) (ht : BytesTy P dst) {s : List UInt8} {xv : Value} (hx : VR μ (.str s) xv) (imm : Bool) :
    ∃ μ' w' rv, (convert src dst xv).run P w = .ok rv w' ∧ Stp μ H w μ' (if imm then H else H.push (.cells (bytesOf s) 0)) w' ∧
      VR μ' (if imm then .vslice false (bytesOf s) s.length 1 false else .slice H.next 0 0 s.length 1 false) rv := by
  simp only [VR] at hx; subst hx
  obtain ⟨e, cap, arr, h1, h2, h3, h4⟩ := run_s2b hsrc ht (w := w) s
  have hd := Stp.draw hw (w.drawn + 1)
  cases imm with
  | true =>
    obtain ⟨μ', hs, hc⟩ := imm_new hd.wr e (arr.size, arr.size + 1) (h4 μ)
    refine ⟨μ', _, _, h1, by rw [if_pos rfl]; exact hd.trans hs, ?_⟩
    simp only [if_true, VR]
    exact ⟨_, _, _, rfl, h2, fun h => by simp at h, by simp [bytesOf_length], by simpa using hc⟩
  | false =>
    have hs := stp_new hd.wr (bytesOf s) arr e (arr.size, arr.size + 1) (by rw [bytesOf_length]; omega) (fun i hi h => by omega) (h4 μ)
    refine ⟨_, _, _, h1, by rw [if_neg (by simp)]; exact hd.trans hs, ?_⟩
    simp only [Bool.false_eq_true, if_false, VR]
    exact ⟨w.heap.size, 0, arr.size, 0, cap, by simp [Mu.at], rfl, h2, fun h => by simp at h, fun _ => ⟨rfl, by simp [h3]⟩⟩

theorem toBytes_vals {μ : Mu} : ∀ {cs : List AV} {vs : List Value} {bs : List UInt8}, VRL μ cs vs → toBytes cs = some bs → ∃ ns : List Int, vs = ns.map (Value.int .u8) ∧ bs = ns.map fun n => UInt8.ofNat n.toNat
  | [], vs, bs, h, hb => by
    simp only [VRL] at h; subst h
    simp [toBytes] at hb; subst hb
    exact ⟨[], rfl, rfl⟩
  | c :: cs, vs, bs, h, hb => by
    simp only [VRL] at h
    obtain ⟨v, vs', rfl, h1, h2⟩ := h
    by_cases hc : ∃ n, c = .int .u8 n
    · obtain ⟨n, rfl⟩ := hc
      simp only [toBytes] at hb
      split at hb
      · rename_i bs' hb'
        simp at hb; subst hb
        obtain ⟨ns, rfl, rfl⟩ := toBytes_vals h2 hb'
        simp only [VR] at h1; subst h1
        exact ⟨n :: ns, rfl, rfl⟩
      · simp at hb
    · rw [toBytes] at hb
      · simp at hb
      · exact fun n h => hc ⟨n, h⟩

theorem run_pushes {w : World} (f : Value → ByteArray → Sem (ForInStep ByteArray)) (hf : ∀ n s, f (.int .u8 n) s = pure (ForInStep.yield (s.push (UInt8.ofNat n.toNat)))) : ∀ (ns : List Int) (acc : ByteArray),
    (forIn (ns.map (Value.int .u8)) acc f).run P w = .ok ⟨acc.data ++ (ns.map fun n => UInt8.ofNat n.toNat).toArray⟩ w
  | [], acc => by simp
  | n :: ns, acc => by
    simp only [List.map_cons, List.forIn_cons, Sem.run_bind, hf, Sem.run_pure, Result.andThen]
    rw [run_pushes f hf ns]
    congr 1
    apply ByteArray.ext
    apply Array.ext'
    simp [ByteArray.push]

theorem b2s_sound {μ : Mu} {H : Heap} {w : World} (hw : WR μ H w) {src dst : TypeId} (hs : BytesTy P src) (hd : P.underlying dst = some .string) {x : AV} {xv : Value} (hx : VR μ x xv) (hno : ∀ s, x ≠ .str s)
    {cs : List AV} {n : Nat} (he : elems H x = some (cs, n)) (hn : n = cs.length) {bs : List UInt8} (hb : toBytes cs = some bs) :
    ∃ rv, (convert src dst xv).run P w = .ok rv w ∧ VR μ (.str bs) rv := by
  obtain ⟨e, h1, h2⟩ := hs.ex
  obtain ⟨news, hv, hlen, hcells⟩ := elems_sound (P := P) (esz := 1) hw hx he (by omega)
  have hcells := hcells w.drawn
  have hcv : (convert src dst xv).run P w = (Conv.bytesToString xv).run P w := by
    cases x <;> simp only [elems] at he <;> (try (simp at he; done)) <;> simp only [VR] at hx
    · exact absurd rfl (hno _)
    · subst hx; simp [convert, run_underlying h1, run_underlying h2, run_underlying hd]
    · obtain ⟨_, _, _, _, _, _, rfl, _⟩ := hx
      simp [convert, run_underlying h1, run_underlying h2, run_underlying hd]
    · obtain ⟨_, _, _, rfl, _⟩ := hx
      simp [convert, run_underlying h1, run_underlying h2, run_underlying hd]
  rw [hcv]
  obtain ⟨ns, rfl, rfl⟩ := toBytes_vals hv hb
  refine ⟨.string ⟨(ns.map fun n => UInt8.ofNat n.toNat).toArray⟩, ?_, by simp only [VR]⟩
  have hw0 : wdraw w w.drawn = w := rfl
  rw [hw0] at hcells
  have hsl : (∃ a l c, xv = .slice (some a) l c ∧ n = l) ∨ (xv = .slice none 0 0 ∧ n = 0) := by
    cases x <;> simp only [elems] at he <;> (try (simp at he; done)) <;> simp only [VR] at hx
    · exact absurd rfl (hno _)
    · simp at he; exact .inr ⟨hx, he.2.symm⟩
    · obtain ⟨_, _, _, _, _, _, rfl, _⟩ := hx
      split at he
      · split at he
        · simp at he; exact .inl ⟨_, _, _, rfl, he.2.symm⟩
        · simp at he
      · simp at he
    · obtain ⟨_, _, _, rfl, _⟩ := hx
      simp at he; exact .inl ⟨_, _, _, rfl, he.2.symm⟩
  rcases hsl with ⟨a, l, c, rfl, rfl⟩ | ⟨rfl, rfl⟩
  · simp only [Builtin.firstCells, Nat.mul_one] at hcells
    simp only [Conv.bytesToString, Sem.run_bind, hcells, Result.andThen]
    rw [← Array.forIn_toList]
    rw [run_pushes (P := P) (w := w) _ (fun n s => rfl) ns ByteArray.empty]
    simp
  · have : cs = [] := List.eq_nil_of_length_eq_zero hn.symm
    subst this
    simp only [VRL, List.map_eq_nil_iff] at hv; subst hv
    simp [Conv.bytesToString]; rfl

theorem wrap_small (n : Nat) (h : n < 2 ^ 62) : IntKind.i64.wrap (n : Int) = n := by
  unfold IntKind.wrap
  simp [IntKind.bits, IntKind.signed]
  omega

end Go.AM
