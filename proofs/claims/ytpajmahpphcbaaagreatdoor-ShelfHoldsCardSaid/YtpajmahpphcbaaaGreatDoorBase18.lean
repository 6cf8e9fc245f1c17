/- Words for walking Go functions: maps that are copied, gone through, whose keys are told; bytes that are copied; no program is named here. -/
import Derived.Test.YtpajmahpphcbaaaGreatDoorBase17
import Derived.Shelf.SlMaps.Clone
namespace Kot
open Go Go.RowKit
section
variable {α : Type} {C : Ctx} {Q : α → Post} {T : Option α} {e : Env} {hp : HL} {L : List HP} {ops l : List Oper} {d : Nat} {v : Value} {o : Op} {ty : TypeId} {ps : String} {es : Array Edge}
  {dst : Option Nat} {gd : Option (Nat × Bool)} {G : Env → HL → List HP → Prop} {F : World → Prop} {fa : Nat → Nat} {S : List Nat} {m : HMap}
theorem meN {t t' tk te mb : Nat} {x y : Operand} (ht : C.P.underlying t = some (.map tk te)) (hx : ev e x = .map (some mb)) (hy : ev e y = .map none) :
    Pur C F ⟨dst, .binOp .eql t x y t', ty, ps, es, gd⟩ e (.bool false) := bin hx hy (fun w => by
  have := Go.Proofs.run_eql_map_nil_sl (P := C.P) w t tk te (some mb) ht
  simp [eqGuard, this])
theorem exMC {f t i mb : Nat} {xs : Array Operand} {ts : Array TypeId} {fn : Func} (hN : Nat.blt d C.N = true)
    (hf : C.P.funcs[f]? = some fn) (h1 : (fn.name == "runtime.NumGoroutine") = false) (h2 : fn.body.isNone = true) (h3 : Extern.findNext fn = none) (h4 : Extern.find fn = some Extern.MapsClone.clone)
    (ha : xs.toList.map (ev e) = [.iface t (.map (some mb))]) (hL : L[i]? = some (mpi mb fa S m)) (k : ∀ b, G (upd e d (.iface t (.map (some b)))) hp (mpi b fa S m :: L)) :
    OpJ C ⟨some d, .call ⟨.value (.func f), xs, ts⟩, ty, ps, es, gd⟩ e hp L G :=
  ⟨fun a w hA hw next Q' hnx => by
    have hargs : Array.map (ev e) xs = #[.iface t (.map (some mb))] := by
      cases xs with
      | mk l => simpa using ha
    obtain ⟨en, clock, hg, ok, ho⟩ := own_mpi hw hL
    have := run_callFunc_extern hf h1 h2 h3 h4 #[.iface t (.map (some mb))] w
    rw [Go.Proofs.run_maps_clone_sl w t hg] at this
    have hx : (execOp a.eval ⟨some d, .call ⟨.value (.func f), xs, ts⟩, ty, ps, es, gd⟩).run C.P w = .ok (.value (.iface t (.map (some w.heap.size)))) (w.alloc (.map en clock)) := by
      simpa [execOp, hA.eval, resolve, ev, Deferred.ofValue, invoke, hargs, Result.andThen] using this
    simp only [Oper.wp, hx, Oper.upon]
    refine hnx _ _ _ _ _ (k _) (hA.put hN _) ?_
    have h5 := hw.new (.map en clock)
    exact to_mpi (i := 0) (L := pt w.heap.size (.map en clock) :: L) (by simpa using h5) (by simp) ok⟩
theorem taM {t xT tk te : Nat} {x : Operand} {u : Value} (ht : C.P.underlying t = some (.map tk te)) (hx : ev e x = .iface t u) : Pur C F ⟨dst, .typeAssert x xT t false, ty, ps, es, gd⟩ e u :=
  op (fun w => by
    have := Go.Proofs.run_typeAssert_map_sl (P := C.P) w t xT tk te u ht
    simp [execOp, hx, this])
theorem slN {t t' el : Nat} {x y : Operand} {a : Option Addr} {n c : Nat} (ht : ∀ w, (underlying t).run C.P w = .ok (.slice el) w) (hx : ev e x = .slice a n c) (hy : ev e y = .slice none 0 0) :
    Pur C F ⟨dst, .binOp .eql t x y t', ty, ps, es, gd⟩ e (.bool a.isNone) := bin hx hy (fun w => by
  obtain ⟨q, hq⟩ : ∃ q, Op.maxDepth = q + 1 := ⟨9999, rfl⟩
  cases a <;> simp [eqGuard, binOp, Op.equal, Op.equalIn, hq, ht])
end
/-! ### what lies below stays -/
theorem own_below' {X w w' : World} {hp : HL} {L : List HP} (h : Own X hp L w) (hb : Below w.heap.size w w') : Own X hp L w' := by
  obtain ⟨hh, hs, ⟨hn, hm⟩, hl⟩ := h.lt
  exact ⟨⟨hh, hs, hn, fun x hx => by rw [hb.block _ (hl x hx)]; exact hm x hx⟩, hb.os.trans h.os, hb.tape.trans h.tape, hb.output.trans h.output⟩
theorem own_above {X w w' : World} {hp : HL} {L : List HP} {b : Nat} {o : Obj} (h : Own X hp L w) (hb : Below w.heap.size w w') (hge : w.heap.size ≤ b) (hc : w'.heap[b]? = some o) : Own X ((b, o) :: hp) L w' := by
  obtain ⟨hh, hs, ⟨hn, hm⟩, hl⟩ := h.lt
  refine ⟨⟨hh, hs, ?_, fun x hx => ?_⟩, hb.os.trans h.os, hb.tape.trans h.tape, hb.output.trans h.output⟩
  · rw [List.cons_append, List.map_cons, List.nodup_cons]
    refine ⟨fun hx => ?_, hn⟩
    obtain ⟨x, hx, he⟩ := List.mem_map.1 hx
    have := hl x hx
    omega
  · rcases List.mem_cons.1 hx with rfl | hx
    · exact hc
    · rw [hb.block _ (hl x hx)]; exact hm x hx
/-! ### a map that is gone through, in whatever order -/
def mpr (b mb : Nat) (fa : Nat → Nat) (S : List Nat) (m rem : HMap) (cur : Option (List UInt8 × Int)) : HP := fun h => ∃ es clock seen, h = [(b, .mapIter (some mb) clock seen clock), (mb, .map es clock)] ∧ MOk fa S m es.toList clock ∧
  (∃ m0 : HMap, (leftOf es seen).toList.map (fun e : MapEntry => (e.key, e.val)) = m0.map (fun k => (str k.1, hpv fa k.2)) ∧ m0.Perm rem) ∧
  (∀ z, cur = some z → ∃ e ∈ es.toList, seen.back? = some e.born ∧ (e.key, e.val) = (str z.1, hpv fa z.2))
theorem leftOf_nil (es : Array MapEntry) : leftOf es #[] = es := by simp [leftOf]
section
variable {α σ : Type} {C : Ctx} {Q : α → Post} {T : Option α} {e : Env} {hp : HL} {L : List HP} {ops l : List Oper} {c : Code} {d : Nat} {v : Value} {o : Op} {ty : TypeId} {ps : String} {es : Array Edge}
  {dst : Option Nat} {gd : Option (Nat × Bool)} {G : Env → HL → List HP → Prop} {F : World → Prop} {fa : Nat → Nat} {S : List Nat} {m rem : HMap} {cur : Option (List UInt8 × Int)}
def joinR (K : HMap → σ → Option α) (St : HMap → σ → Env → HL → List HP → Prop) (rem : HMap) (Q : α → Post) : α → Post := fun r x e hp L =>
  match x with
  | .normal => ∃ rem' s, rem'.length < rem.length ∧ St rem' s e hp L ∧ K rem' s = some r
  | x => Q r x e hp L
theorem jnR {K : HMap → σ → Option α} {St : HMap → σ → Env → HL → List HP → Prop} (rem' : HMap) (s : σ) (hl : rem'.length < rem.length) (h : St rem' s e hp L) : XJ (joinR K St rem Q) (K rem' s) .normal e hp L := ⟨fun _ hr => ⟨rem', s, hl, h, hr⟩⟩
theorem jeR {K : HMap → σ → Option α} {St : HMap → σ → Env → HL → List HP → Prop} {id : Nat} (h : XJ Q T (.exit id) e hp L) : XJ (joinR K St rem Q) T (.exit id) e hp L := ⟨h.go⟩
theorem loopR {s : σ} (K : HMap → σ → Option α) (St : HMap → σ → Env → HL → List HP → Prop) (round : ∀ rem s e hp L, St rem s e hp L → SJ C (joinR K St rem Q) (K rem s) c e hp L) (h : St rem s e hp L) : SJ C Q (K rem s) (.loop c) e hp L := by
  let F : Nat → HMap × σ → Option α := fun n x => bif decide (x.1.length < n) then K x.1 x.2 else none
  have h1 : SJ C Q (F (rem.length + 1) (rem, s)) (.loop c) e hp L := by
    refine loop F (fun x => St x.1 x.2) (fun x => by simp [F]) (fun n x e hp L hs => ⟨fun r hr a w ha hw => ?_⟩) h
    simp only [F] at hr
    by_cases hlt : x.1.length < n + 1
    · rw [decide_eq_true hlt, cond_true] at hr
      refine Code.wp_mono ?_ ((round x.1 x.2 e hp L hs).go r hr a w ha hw)
      rintro z a w ⟨e', hp', L', hA, hO, hq⟩
      refine ⟨e', hp', L', hA, hO, ?_⟩
      cases z with
      | normal =>
        obtain ⟨rem', s', hl, hst, hk⟩ := hq
        refine ⟨(rem', s'), hst, ?_⟩
        simp only [F]
        rw [decide_eq_true (by omega : rem'.length < n), cond_true]; exact hk
      | _ => exact hq
    · rw [decide_eq_false hlt, cond_false] at hr; cases hr
  have e1 : F (rem.length + 1) (rem, s) = K rem s := by
    simp only [F]; rw [decide_eq_true (Nat.lt_succ_self _), cond_true]
  rwa [e1] at h1
theorem rgM {t tk te mb : Nat} {x : Operand} (i : Nat) (hN : Nat.blt d C.N = true) (hx : ev e x = .map (some mb)) (hL : L[i]? = some (mpi mb fa S m)) (ht : C.P.underlying t = some (.map tk te))
    (k : ∀ b, G (upd e d (.pointer (some ⟨b, 0, none⟩))) hp (mpr b mb fa S m m none :: L.eraseIdx i)) : OpJ C ⟨some d, .range t x, ty, ps, es, gd⟩ e hp L G :=
  ⟨fun a w ha hw next Q' hn => by
    have hw' := own_front hw hL
    obtain ⟨hh, ⟨h1, h2, rfl, ⟨en, clock, rfl, ok⟩, hs⟩, hsat⟩ := hw'.ex
    have hg : w.heap[mb]? = some (.map en clock) := hsat.2 (mb, _) (by simp)
    have hr : (execOp a.eval ⟨some d, .range t x, ty, ps, es, gd⟩).run C.P w = .ok (.value (.pointer (some ⟨w.heap.size, 0, none⟩))) (w.alloc (.mapIter (some mb) clock #[] clock)) := by
      have := run_range_map (P := C.P) w t tk te mb en clock ht hg
      simp [execOp, ha.eval, hx, this]
    simp only [Oper.wp, hr, Oper.upon]
    refine hn _ _ _ _ _ (k w.heap.size) (ha.put hN _) ?_
    have hO : Own C.X hp (pt mb (.map en clock) :: L.eraseIdx i) w := ⟨⟨_, ⟨_, h2, rfl, rfl, hs⟩, hsat⟩, hw'.os, hw'.tape, hw'.output⟩
    have h3 := hO.new (.mapIter (some mb) clock #[] clock)
    refine own_shut (Ls := [pt w.heap.size (.mapIter (some mb) clock #[] clock), pt mb (.map en clock)]) (fun h hs => ?_) h3
    obtain ⟨k1, k2, rfl, hk1, k3, k4, rfl, hk3, hk4⟩ := hs
    have e1 : k1 = [(w.heap.size, .mapIter (some mb) clock #[] clock)] := hk1
    have e2 : k3 = [(mb, .map en clock)] := hk3
    have e3 : k4 = [] := hk4
    subst e1 e2 e3
    obtain ⟨⟨m0, me, hpm⟩, -, -⟩ := id ok
    exact ⟨en, clock, #[], rfl, ok, ⟨m0, by rw [leftOf_nil]; exact me.ents, hpm⟩, fun z hz => nomatch hz⟩⟩
theorem run_nextM {P : Program} (w : World) (ty : TypeId) (b mb since : Nat) (seen : Array Nat) (en : Array MapEntry) (hi : w.heap[b]? = some (.mapIter (some mb) since seen since)) (hb : w.heap[mb]? = some (.map en since)) (hold : ∀ x ∈ en.toList, x.born < since) :
    ((leftOf en seen).size = 0 ∧ (Instr.next (.pointer (some ⟨b, 0, none⟩)) false ty).run P w = .ok (.tuple #[.bool false]) w) ∨
    ∃ z ∈ (leftOf en seen).toList, ∃ w1 : World, (w1.heap = w.heap ∧ w1.os = w.os ∧ w1.tape = w.tape ∧ w1.output = w.output) ∧ (Instr.next (.pointer (some ⟨b, 0, none⟩)) false ty).run P w = .ok (.tuple #[.bool true, z.key, z.val]) { w1 with heap := w1.heap.setIfInBounds b (.mapIter (some mb) since (seen.push z.born) since) } := by
  simp only [Instr.next, getObj, Sem.run_bind, Sem.run, hi, hb, Result.andThen, next_test_false seen en since since hold (Nat.le_refl _), Bool.false_eq_true, if_false]
  unfold leftOf
  have hmem : ∀ x ∈ (Array.filter (fun e => !seen.contains e.born) en).toList, x.born < since := fun x hx => hold x (by simp at hx ⊢; exact hx.1)
  generalize Array.filter (fun e => !seen.contains e.born) en = L at hmem ⊢
  have e1 : L.filter (fun x => decide (x.born < since)) = L := Array.filter_eq_self.2 (fun x hx => by simpa using hmem x (by simpa using hx))
  have e2 : L.filter (fun x => decide (x.born ≥ since)) = #[] := by
    rw [Array.filter_eq_empty_iff]
    intro x hx
    have := hmem x (by simpa using hx)
    simp
    omega
  simp only [e1, e2, Array.append_empty]
  by_cases h0 : L.size = 0
  · left
    have : L = #[] := Array.eq_empty_of_size_eq_zero h0
    subst this
    refine ⟨rfl, ?_⟩
    simp [choose, Sem.run, Question.forced]
  · right
    have hne : L.isEmpty = false := by simp [Array.isEmpty, h0]
    simp only [hne, Bool.false_eq_true, if_false, Array.empty_append, Array.size_map]
    have hch : ∃ (j : Nat) (w1 : World), j < L.size ∧ (w1.heap = w.heap ∧ w1.os = w.os ∧ w1.tape = w.tape ∧ w1.output = w.output) ∧ (choose (Question.mapNext L.size)).run P w = .ok j w1 := by
      by_cases hf : L.size ≤ 1
      · exact ⟨0, w, by omega, ⟨rfl, rfl, rfl, rfl⟩, by simp [choose, Sem.run, Question.forced, hf]⟩
      · exact ⟨_, w.drew, Nat.mod_lt _ (by omega), ⟨rfl, rfl, rfl, rfl⟩, by
          simp only [choose, Sem.run, Question.forced, decide_eq_true_eq, hf, if_false, Question.cut]
          rfl⟩
    obtain ⟨j, w1, hj, hal, hrun⟩ := hch
    refine ⟨L[j], by simp, w1, hal, ?_⟩
    have hset : ∀ (o' : Obj), (setObj b o').run P w1 = .ok () { w1 with heap := w1.heap.setIfInBounds b o' } := fun o' => by
      simp only [setObj, Sem.run]
      rw [hal.1, hi]
    simp only [hrun, Array.getElem?_map, Array.getElem?_eq_getElem hj, Option.map_some, Sem.run_bind, hset, Result.andThen]
    rfl
theorem cons_erase_perm {β : Type} : ∀ {l : List β} {i : Nat} {z : β}, l[i]? = some z → l.Perm (z :: l.eraseIdx i)
  | [], _, _, h => by simp at h
  | a :: l, 0, z, h => by simp only [List.getElem?_cons_zero, Option.some.injEq] at h; subst h; exact List.Perm.refl _
  | a :: l, i + 1, z, h => by
    have := cons_erase_perm (l := l) (i := i) (z := z) (by simpa using h)
    exact (this.cons a).trans (List.Perm.swap _ _ _)
theorem map_erase {β γ : Type} (f : β → γ) : ∀ (l : List β) (i : Nat), (l.eraseIdx i).map f = (l.map f).eraseIdx i
  | [], _ => by simp
  | a :: l, 0 => rfl
  | a :: l, i + 1 => by simp [map_erase f l i]
theorem perm_erase_of {m0 rem : HMap} (hp : m0.Perm rem) {i : Nat} {z : List UInt8 × Int} (hi : m0[i]? = some z) : (m0.eraseIdx i).Perm (rem.erase z) ∧ z ∈ rem := by
  have hz : z ∈ m0 := List.mem_of_getElem? hi
  refine ⟨?_, hp.mem_iff.1 hz⟩
  have hlt := (List.getElem?_eq_some_iff.1 hi).1
  have h1 : m0.Perm (z :: m0.eraseIdx i) := by
    exact cons_erase_perm hi
  have h2 := List.perm_cons_erase (hp.mem_iff.1 hz)
  exact List.Perm.cons_inv ((h1.symm.trans hp).trans h2)
theorem leftOf_push {en : Array MapEntry} {seen : Array Nat} {z : MapEntry} (hn : (en.toList.map MapEntry.born).Nodup) (hz : z ∈ (leftOf en seen).toList) : ∃ i, (leftOf en seen).toList[i]? = some z ∧ (leftOf en (seen.push z.born)).toList = (leftOf en seen).toList.eraseIdx i := by
  obtain ⟨i, hi⟩ := List.getElem?_of_mem hz
  refine ⟨i, hi, ?_⟩
  have e1 : (leftOf en (seen.push z.born)).toList = (leftOf en seen).toList.filter (fun x => !(x.born == z.born)) := by
    simp only [leftOf, Array.toList_filter, List.filter_filter]
    apply List.filter_congr
    intro x _
    simp only [Array.contains_push]
    cases hx : (x.born == z.born) <;> simp
  rw [e1]
  have hnl : ((leftOf en seen).toList.map MapEntry.born).Nodup := by
    simp only [leftOf, Array.toList_filter]
    exact (List.Sublist.map _ List.filter_sublist).nodup hn
  generalize (leftOf en seen).toList = l at hi hnl hz
  clear e1 hz
  induction l generalizing i with
  | nil => simp at hi
  | cons a l ih =>
    obtain ⟨h1, h2⟩ := List.nodup_cons.1 hnl
    cases i with
    | zero =>
      simp only [List.getElem?_cons_zero, Option.some.injEq] at hi
      subst hi
      rw [List.filter_cons_of_neg (by simp), List.eraseIdx_cons_zero]
      exact List.filter_eq_self.2 (fun x hx => by
        have : x.born ≠ a.born := fun h => h1 (by rw [← h]; exact List.mem_map.2 ⟨x, hx, rfl⟩)
        simpa using this)
    | succ i =>
      simp only [List.getElem?_cons_succ] at hi
      have hne : a.born ≠ z.born := fun h => h1 (by rw [h]; exact List.mem_map.2 ⟨z, List.mem_of_getElem? hi, rfl⟩)
      rw [List.filter_cons_of_pos (by simpa using hne), List.eraseIdx_cons_succ, ih i hi h2]
theorem nxM {b mb : Nat} {x : Operand} (i : Nat) (hN : Nat.blt d C.N = true) (hx : ev e x = .pointer (some ⟨b, 0, none⟩)) (hL : L[i]? = some (mpr b mb fa S m rem cur))
    (k0 : rem = [] → G (upd e d (.tuple #[.bool false])) hp L) (k1 : ∀ z ∈ rem, G (upd e d (.tuple #[.bool true, str z.1, hpv fa z.2])) hp (L.set i (mpr b mb fa S m (rem.erase z) (some z)))) :
    OpJ C ⟨some d, .next x false, ty, ps, es, gd⟩ e hp L G :=
  ⟨fun a w ha hw next Q' hn => by
    have hi := lt_of_get hL
    have hw' := own_front hw hL
    obtain ⟨hh, ⟨g1, g2, rfl, ⟨en, clock, seen, rfl, ok, ⟨m0, hm0, hpm⟩, hcur⟩, hs⟩, hsat⟩ := hw'.ex
    have hO : Own C.X hp (pt b (.mapIter (some mb) clock seen clock) :: pt mb (.map en clock) :: L.eraseIdx i) w :=
      ⟨⟨_, ⟨[_], _, rfl, rfl, [_], g2, rfl, rfl, hs⟩, hsat⟩, hw'.os, hw'.tape, hw'.output⟩
    have hgi : w.heap[b]? = some (.mapIter (some mb) clock seen clock) := hO.get (i := 0) rfl
    have hgm : w.heap[mb]? = some (.map en clock) := hO.get (i := 1) rfl
    obtain ⟨⟨m1, me, hpm1⟩, -, -⟩ := id ok
    have hex : ∀ r w', (Instr.next (.pointer (some ⟨b, 0, none⟩)) false ty).run C.P w = .ok r w' → (execOp a.eval ⟨some d, .next x false, ty, ps, es, gd⟩).run C.P w = .ok (.value r) w' := fun r w' h => by
      simp [execOp, ha.eval, hx, h]
    rcases run_nextM (P := C.P) w ty b mb clock seen en hgi hgm me.lt with ⟨h0, hr⟩ | ⟨z, hz, w1, ⟨q1, q2, q3, q4⟩, hr⟩
    · simp only [Oper.wp, hex _ _ hr, Oper.upon]
      refine hn _ _ _ _ _ (k0 ?_) (ha.put hN _) hw
      have h2 : (leftOf en seen).toList = [] := by
        apply List.eq_nil_of_length_eq_zero; simpa using h0
      rw [h2] at hm0
      have : m0 = [] := by simpa using hm0.symm
      subst this
      exact List.nil_perm.1 hpm
    · simp only [Oper.wp, hex _ _ hr, Oper.upon]
      obtain ⟨j, hj, hpush⟩ := leftOf_push me.borns hz
      have hjm : m0[j]? = some (m0[j]'(by
          have h1 := (List.getElem?_eq_some_iff.1 hj).1
          have h2 := congrArg List.length hm0
          simp at h2 h1
          omega)) := List.getElem?_eq_getElem _
      generalize m0[j]'_ = zz at hjm
      have hkv : (z.key, z.val) = (str zz.1, hpv fa zz.2) := by
        have h1 := congrArg (fun l => l[j]?) hm0
        simp only [List.getElem?_map, hj, hjm, Option.map_some, Option.some.injEq] at h1
        exact h1
      obtain ⟨hpe, hzr⟩ := perm_erase_of hpm hjm
      have hk : z.key = str zz.1 := congrArg Prod.fst hkv
      have hv : z.val = hpv fa zz.2 := congrArg Prod.snd hkv
      rw [hk, hv]
      refine hn _ _ _ _ _ (k1 zz hzr) (ha.put hN _) ?_
      have hO1 : Own C.X hp (pt b (.mapIter (some mb) clock seen clock) :: pt mb (.map en clock) :: L.eraseIdx i) w1 := hO.same q2 q3 q4 q1
      have hb : b < w1.heap.size := by
        have := hO1.get (i := 0) rfl
        rcases Nat.lt_or_ge b w1.heap.size with h' | h'
        · exact h'
        · rw [Array.getElem?_eq_none h'] at this; cases this
      have hO2 := hO1.set (i := 0) (w' := { w1 with heap := w1.heap.setIfInBounds b (.mapIter (some mb) clock (seen.push z.born) clock) }) (o' := .mapIter (some mb) clock (seen.push z.born) clock) rfl rfl rfl rfl
        (by simp [Array.getElem?_setIfInBounds, hb]) (fun k hk => by
          simp only [Array.getElem?_setIfInBounds]
          rw [if_neg (fun h => hk h.symm)])
      have hO3 := own_shut (Ls := [pt b (.mapIter (some mb) clock (seen.push z.born) clock), pt mb (.map en clock)]) (A := mpr b mb fa S m (rem.erase zz) (some zz)) (fun h hs => by
        obtain ⟨k1, k2, rfl, hk1, k3, k4, rfl, hk3, hk4⟩ := hs
        have e1 : k1 = [(b, .mapIter (some mb) clock (seen.push z.born) clock)] := hk1
        have e2 : k3 = [(mb, .map en clock)] := hk3
        have e3 : k4 = [] := hk4
        subst e1 e2 e3
        refine ⟨en, clock, _, rfl, ok, ⟨m0.eraseIdx j, ?_, hpe⟩, fun y hy => ?_⟩
        · rw [hpush, map_erase, hm0, map_erase]
        · cases hy
          exact ⟨z, by
            have : z ∈ (leftOf en seen).toList := hz
            simp only [leftOf, Array.toList_filter] at this
            exact (List.mem_filter.1 this).1, by simp, hkv⟩) hO2
      have h5 := own_back i hO3
      have e5 : (L.eraseIdx i).take i ++ mpr b mb fa S m (rem.erase zz) (some zz) :: (L.eraseIdx i).drop i = L.set i (mpr b mb fa S m (rem.erase zz) (some zz)) := by
        rw [List.eraseIdx_eq_take_drop_succ, List.set_eq_take_append_cons_drop, if_pos hi]
        have h3 : (List.take i L).length = i := by simp; omega
        rw [List.take_append_of_le_length (by omega), List.drop_append_of_le_length (by omega)]
        simp [List.take_take]
      rwa [e5] at h5⟩
theorem enM {b mb : Nat} {x : Operand} {z : List UInt8 × Int} (i : Nat) (hx : ev e x = .pointer (some ⟨b, 0, none⟩)) (hL : L[i]? = some (mpr b mb fa S m rem (some z))) :
    Pur C (Own C.X hp L) ⟨dst, .entry x, ty, ps, es, gd⟩ e (.tuple #[str z.1, hpv fa z.2]) :=
  ⟨fun w hw => by
    have hw' := own_front hw hL
    obtain ⟨hh, ⟨g1, g2, rfl, ⟨en, clock, seen, rfl, ok, -, hcur⟩, hs⟩, hsat⟩ := hw'.ex
    have hgi : w.heap[b]? = some (.mapIter (some mb) clock seen clock) := hsat.2 (b, _) (by simp)
    have hgm : w.heap[mb]? = some (.map en clock) := hsat.2 (mb, _) (by simp)
    obtain ⟨⟨m1, me, -⟩, -, -⟩ := id ok
    obtain ⟨q, hq, hbk, hkv⟩ := hcur z rfl
    have hf : en.find? (fun y => y.born == q.born) = some q := by rw [← Array.find?_toList]; exact find_born q en.toList me.borns hq
    have hk : q.key = str z.1 := congrArg Prod.fst hkv
    have hv : q.val = hpv fa z.2 := congrArg Prod.snd hkv
    have : (Instr.entry (.pointer (some ⟨b, 0, none⟩))).run C.P w = .ok (.tuple #[str z.1, hpv fa z.2]) w := by
      simp only [Instr.entry, getObj, Sem.run_bind, Sem.run, hgi, hgm, Result.andThen, hbk, bne_self_eq_false, Bool.false_eq_true, if_false, hf, hk, hv]
      rfl
    simp [execOp, hx, this]⟩
theorem MrE {X : World} {J : HL → List HP → Prop} {b mb : Nat} (c : Cv X J) (i : Nat) (hi : L[i]? = some (mpr b mb fa S m rem cur)) (k : J hp (mpi mb fa S m :: L.eraseIdx i)) : J hp L :=
  c.cv (fun w hw => by
    obtain ⟨-, -, h1⟩ := own_open (ι := Unit) (φ := fun _ => True) (Ls := fun _ => [fun h => ∃ o, h = [(b, o)], mpi mb fa S m]) (fun h hh => by
      obtain ⟨en, clock, seen, rfl, ok, -, -⟩ := hh
      exact ⟨(), trivial, [_], [_], rfl, ⟨_, rfl⟩, [_], [], rfl, ⟨en, clock, rfl, ok⟩, rfl⟩) (own_front hw hi)
    exact h1.drop) k
end
theorem lget_fget {fs : List HFile} {n : Int} (h0 : 0 ≤ n) (h : n.toNat < fs.length) : lget fs n = some (fget fs n.toNat) := by
  unfold lget fget
  rw [if_pos h0, List.getElem?_eq_getElem h]; rfl
theorem mpi_ins {mb : Nat} {fa : Nat → Nat} {S : List Nat} {m : HMap} : ∀ h, mpi mb fa S m h → msorted m ∧ ∀ e ∈ m, 0 ≤ e.2 ∧ e.2.toNat ∈ S := fun h ⟨_, _, _, ok⟩ => ⟨ok.sorted, ok.ins⟩
theorem uni_lt {T : HT} {fa : Nat → Nat} {S : List Nat} {fs : List HFile} : ∀ h, uni T fa S fs h → S.Nodup ∧ ∀ i ∈ S, i < fs.length := fun h hh => ⟨hh.2.1, hh.2.2⟩
theorem sl_seesS {τ : Type} {X : World} {hp : HL} {L : List HP} {i t k : Nat} {g : SG3} {f : τ → List Value} {xs : List τ} (hf : ∀ x, (f x).length = k + 1) (hi : L[i]? = some (sl (sg g) t (k + 1) (xs.flatMap f))) : Sees X hp L (k + 1) (sg g) xs.length (xs.flatMap f) := by
  refine ⟨flatMap_len hf xs, fun w hw => ?_⟩
  have hw' := own_front hw hi
  obtain ⟨hh, ⟨h1, h2, rfl, ⟨a, n, cap, hv, hl, hcap, hc⟩, hs⟩, hsat⟩ := hw'.ex
  have hn : n = xs.length := by
    rw [flatMap_len hf] at hl
    exact (Nat.eq_of_mul_eq_mul_right (Nat.succ_pos k) hl).symm
  subst hn
  refine ⟨a, cap, hv, ?_⟩
  rcases hc with ⟨rfl, h0, rfl, rfl⟩ | ⟨b, off, cs, rfl, rfl, hsz, hcs⟩
  · left
    have : xs = [] := List.eq_nil_of_length_eq_zero h0
    subst this; rfl
  · refine .inr ⟨_, rfl, fun j v hj => ?_⟩
    have hlt := (List.getElem?_eq_some_iff.1 hj).1
    have hb : w.heap[b]? = some (.cells cs t (0, 0)) := hsat.2 (b, _) (by simp)
    rw [add_add _ rfl]
    simp only [World.cell?, hb]
    have := hcs j hlt
    rw [hj] at this
    simp [this]
theorem sl_sees {τ : Type} {P : Program} {X : World} {hp : HL} {L : List HP} {i t k : Nat} {g : SG3} {f : τ → List Value} {xs : List τ} (hf : ∀ x, (f x).length = k + 1) (hi : L[i]? = some (sl (sg g) t (k + 1) (xs.flatMap f))) : SeesV P X hp L (k + 1) (sg g) xs.length (xs.flatMap f) := SeesV.of (sl_seesS hf hi)
def subg (g : SG3) (lo hi : Int) (k : Nat) : SG3 := (if g.2.2 = lo.toNat then g.1 else g.1.map (·.add (lo.toNat * k)), hi.toNat - lo.toNat, g.2.2 - lo.toNat)
section
variable {C : Ctx} {e : Env} {hp : HL} {L : List HP} {ty : TypeId} {ps : String} {es : Array Edge} {dst : Option Nat} {gd : Option (Nat × Bool)} {x : Operand}
theorem own_slg {τ : Type} {X : World} {w : World} {i t k : Nat} {g : SG3} {f : τ → List Value} {xs : List τ} (hf : ∀ x, (f x).length = k + 1) (hw : Own X hp L w) (hi : L[i]? = some (sl (sg g) t (k + 1) (xs.flatMap f))) :
    g.2.1 = xs.length ∧ xs.length ≤ g.2.2 ∧ (xs = [] ∨ ∃ b off cs, g.1 = some ⟨b, off, none⟩ ∧ w.heap[b]? = some (.cells cs t (0, 0)) ∧ ∀ j, j < (xs.flatMap f).length → cs[off + j]? = (xs.flatMap f)[j]?) := by
  have hw' := own_front hw hi
  obtain ⟨hh, ⟨h1, h2, rfl, ⟨a, n, cap, hv, hl, hcap, hc⟩, hs⟩, hsat⟩ := hw'.ex
  have hn : n = xs.length := by
    rw [flatMap_len hf] at hl
    exact (Nat.eq_of_mul_eq_mul_right (Nat.succ_pos k) hl).symm
  subst hn
  simp only [sg, Value.slice.injEq] at hv
  obtain ⟨hv1, hv2, hv3⟩ := hv
  refine ⟨hv2, by omega, ?_⟩
  rcases hc with ⟨_, h0, _, _⟩ | ⟨b, off, cs, ha, rfl, hsz, hcs⟩
  · exact .inl (List.eq_nil_of_length_eq_zero h0)
  · exact .inr ⟨b, off, cs, hv1.trans ha, hsat.2 (b, _) (by simp), hcs⟩
theorem slOv {τ : Type} {i u t k : Nat} {g : SG3} {f : τ → List Value} {xs z : List τ} {lo hi' : Option Operand} {a b : Int} (hf : ∀ x, (f x).length = k + 1) (hx : ev e x = sg g) (hi : L[i]? = some (sl (sg g) u (k + 1) (xs.flatMap f)))
    (ht : ∀ w, (underlying t).run C.P w = .ok (.slice u) w) (hs : ∀ w, (Go.sizeOf u).run C.P w = .ok (k + 1) w) (hlo : optI e lo 0 = some a) (hhi : optI e hi' xs.length = some b) (hz : lsub xs a b = some z) :
    Pur C (Own C.X hp L) ⟨dst, .slice t x lo hi' none, ty, ps, es, gd⟩ e (sg (subg g a b (k + 1))) := ⟨fun w hw => by
  obtain ⟨g1, g2, g3, rfl⟩ := lsub_spec hz
  obtain ⟨h1, h2, -⟩ := own_slg hf hw hi
  obtain ⟨p, n, cap⟩ := g
  simp only at h1 h2
  subst h1
  have r2 := run_bound (P := C.P) (w := w) (code := .sliceAcap) (y := cap) hhi ⟨by omega, by omega⟩ ⟨by omega, by omega⟩
  have r1 := run_bound (P := C.P) (w := w) (code := .sliceB) (y := b.toNat) hlo ⟨by omega, by omega⟩ ⟨g1, by omega⟩
  have htx := ht w
  have hsx := hs w
  cases lo <;> cases hi' <;> simp only [Option.map_none, Option.map_some, Int.toNat_natCast, Int.toNat_zero] at r1 r2 ⊢ <;>
    simp_all [execOp, Instr.sliceAt, Instr.slice, Instr.sliceBounds, sg, subg]⟩
end
theorem sl_seesV {τ : Type} {P : Program} {X : World} {hp : HL} {L : List HP} {i t k : Nat} {g : SG3} {f : τ → List Value} {xs z : List τ} {a b : Int} (hf : ∀ x, (f x).length = k + 1) (hi : L[i]? = some (sl (sg g) t (k + 1) (xs.flatMap f))) (hz : lsub xs a b = some z) :
    SeesV P X hp L (k + 1) (sg (subg g a b (k + 1))) z.length (z.flatMap f) := by
  obtain ⟨g1, g2, g3, rfl⟩ := lsub_spec hz
  have hlen : ((xs.take b.toNat).drop a.toNat).length = b.toNat - a.toNat := by simp; omega
  refine SeesV.of ⟨flatMap_len hf _, fun w hw => ?_⟩
  obtain ⟨h1, h2, h3⟩ := own_slg hf hw hi
  refine ⟨_, _, by rw [hlen]; rfl, ?_⟩
  by_cases h0 : b.toNat - a.toNat = 0
  · left
    have : (xs.take b.toNat).drop a.toNat = [] := List.eq_nil_of_length_eq_zero (by omega)
    rw [this]; rfl
  · right
    rcases h3 with rfl | ⟨bb, off, cs, hg, hb, hcs⟩
    · simp at g3; omega
    · have e1 : (subg g a b (k + 1)).1 = some ((⟨bb, off, none⟩ : Addr).add (a.toNat * (k + 1))) := by
        simp only [subg]; rw [if_neg (by omega), hg]; rfl
      rw [e1]
      refine ⟨_, rfl, fun j v hj => ?_⟩
      have hlt := (List.getElem?_eq_some_iff.1 hj).1
      rw [flatMap_drop hf, flatMap_take hf] at hj hlt
      rw [List.length_drop, List.length_take] at hlt
      rw [List.getElem?_drop, List.getElem?_take] at hj
      split at hj
      · rw [← hcs _ (by omega)] at hj
        rw [add_add2, add_add _ rfl]
        simp only [World.cell?, hb]
        simpa [Nat.add_assoc] using hj
      · cases hj
theorem hpvP (fa : Nat → Nat) (n : Int) : ∃ p, hpv fa n = .pointer p := by unfold hpv; split <;> exact ⟨_, rfl⟩
/-! ### calls of function values -/
section
variable {β : Type} {C : Ctx} {U : Option β} {r : β} {e : Env} {hp : HL} {L : List HP} {ty : TypeId} {ps : String} {es : Array Edge} {gd : Option (Nat × Bool)} {G : Env → HL → List HP → Prop}
    {d f : Nat} {o : Operand} {xs : Array Operand} {ts : Array TypeId} {first caps args : List Value}
theorem callW {R : β → Value → HL → List HP → Prop} (hN : Nat.blt d C.N = true) (hv : ev e o = .func (.func f) first.toArray caps.toArray)
    (hc : ∀ args w, (callFunc f args).run C.P w = .ok (.enter f args) w) (ha : first ++ xs.toList.map (ev e) ++ caps = args)
    (h : DJ C.P C.X U f args hp L R) (hr : U = some r) (k : ∀ v hp' L', R r v hp' L' → G (upd e d v) hp' L') :
    OpJ C ⟨some d, .call ⟨.value o, xs, ts⟩, ty, ps, es, gd⟩ e hp L G :=
  ⟨fun a w hA hw next Q' hn => by
    have hargs : first.toArray ++ Array.map (ev e) xs ++ caps.toArray = args.toArray := by rw [← ha]; cases xs; simp
    have hx : (execOp a.eval ⟨some d, .call ⟨.value o, xs, ts⟩, ty, ps, es, gd⟩).run C.P w = .ok (.enter f args.toArray) w := by
      simp only [execOp, hA.eval, resolve, hv, Deferred.ofValue]
      simp [invoke, hc, ← hargs]
    simp only [Oper.wp, hx, Oper.upon]
    refine ((h.go r hr).go w hw).mono ?_
    rintro x w' ⟨v, hp', L', rfl, hR, hO⟩
    exact hn _ _ _ _ _ (k v hp' L' hR) (hA.put hN _) hO⟩
theorem callWE {ι : β → Type} {V : (b : β) → ι b → Value} {Φ : (b : β) → ι b → HL → Prop} {M : (b : β) → ι b → List HP} (hN : Nat.blt d C.N = true) (hv : ev e o = .func (.func f) first.toArray caps.toArray) (hc : ∀ args w, (callFunc f args).run C.P w = .ok (.enter f args) w) (ha : first ++ xs.toList.map (ev e) ++ caps = args)
    (h : DJ C.P C.X U f args hp L (fun r => Ex (V r) (Φ r) hp (M r))) (hr : U = some r) (k : ∀ s hp', sub hp hp' → Φ r s hp' → G (upd e d (V r s)) hp' (M r s)) :
    OpJ C ⟨some d, .call ⟨.value o, xs, ts⟩, ty, ps, es, gd⟩ e hp L G :=
  callW hN hv hc ha h hr (fun v hp' L' hR => by obtain ⟨s, rfl, h1, h2, rfl⟩ := hR; exact k s hp' h1 h2)
theorem mkF {dst : Option Nat} {F : World → Prop} {fn : Fn} {xs cs : Array Operand} : Pur C F ⟨dst, .makeFunc fn xs cs, ty, ps, es, gd⟩ e (.func fn (xs.toList.map (ev e)).toArray (cs.toList.map (ev e)).toArray) := op (fun w => by
  cases xs; cases cs
  simp [execOp, Instr.makeFunc])
end
end Kot
