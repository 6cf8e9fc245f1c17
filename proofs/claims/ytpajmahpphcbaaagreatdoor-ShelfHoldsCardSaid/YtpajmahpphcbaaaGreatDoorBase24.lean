/- Words for walking Go functions: a row that is filled from the front; bytes that are copied into a part of a row; no program is named here. -/
import Derived.Test.YtpajmahpphcbaaaGreatDoorBase23
namespace Kot
open Go
def bufg (g : SG3) (n : Nat) : SG3 := (g.1, n, n)
def buf (g : SG3) (t : TypeId) (n : Nat) (l : List Value) : HP := fun h => ∃ b cs, g = (some ⟨b, 0, none⟩, n, n) ∧ h = [(b, .cells cs t (0, 0))] ∧ n ≤ cs.size ∧ l.length ≤ n ∧ ∀ j, j < l.length → cs[j]? = l[j]?
section
variable {C : Ctx} {F : World → Prop} {e : Env} {hp h : HL} {L : List HP} {ty : TypeId} {ps : String} {es : Array Edge} {dst : Option Nat} {gd : Option (Nat × Bool)} {x y : Operand} {t t' : Nat} {G : Env → HL → List HP → Prop} {d : Nat}
theorem slB {i u n : Nat} {g : SG3} {z : Operand} {m : Int} {τ : Type} {f : τ → List Value} (hN : Nat.blt d C.N = true) (hx : ev e x = sg g) (hi : L[i]? = some (raw (sg g) u n)) (hy : ev e y = .int .i64 m) (hz : ev e z = .int .i64 m) (hm : m.toNat = n) (h0 : decide (m < 0) = false)
    (ht : ∀ w, (underlying t).run C.P w = .ok (.slice u) w) (hs : ∀ w, (Go.sizeOf u).run C.P w = .ok 1 w)
    (k : G (upd e d (sg (bufg g n))) hp (L.set i (buf (bufg g n) u n (([] : List τ).flatMap f)))) : OpJ C ⟨some d, .slice t x none (some y) (some z), ty, ps, es, gd⟩ e hp L G :=
  OpJ.run hN (fun w hw => by
    obtain ⟨hh, ⟨h1, h2, rfl, ⟨b, cs, hv, _, hn⟩, hs2⟩, hsat⟩ := (own_front hw hi).ex
    obtain ⟨g1, g2, g3⟩ := g
    simp only [sg, Value.slice.injEq] at hv
    obtain ⟨rfl, rfl, rfl⟩ := hv
    have hm0 : 0 ≤ m := by have := of_decide_eq_false h0; omega
    obtain ⟨q, rfl⟩ := Int.eq_ofNat_of_zero_le hm0
    simp only [Int.toNat_natCast] at hm
    subst hm
    refine ⟨w, ?_, own_set hw hi ?_⟩
    · simp [execOp, hx, hy, hz, sg, bufg, Instr.sliceAt, Instr.slice, Instr.sliceBounds, Instr.sliceBound, asIntOf, ht, hs, hn]
      try (intro _; simp [Addr.add])
    · rintro h ⟨b', cs', hv, rfl, hn'⟩
      simp only [sg, Value.slice.injEq, Option.some.injEq, Addr.mk.injEq] at hv
      obtain ⟨⟨rfl, _⟩, _, hsz⟩ := hv
      exact ⟨b, cs', rfl, rfl, hn', Nat.zero_le _, fun j hj => by simp at hj⟩) k
theorem own_buf {X : World} {w : World} {i u n : Nat} {g : SG3} {l : List Value} (hw : Own X hp L w) (hi : L[i]? = some (buf g u n l)) : ∃ b, g = (some ⟨b, 0, none⟩, n, n) ∧ l.length ≤ n := by
  obtain ⟨hh, ⟨h1, h2, rfl, ⟨b, cs, hg, _, _, hl, _⟩, hs2⟩, hsat⟩ := (own_front hw hi).ex
  exact ⟨b, hg, hl⟩
theorem slBv {i u n : Nat} {g : SG3} {τ : Type} {f : τ → List Value} {xs : List τ} {lo : Operand} {a : Int} (hf : ∀ x, (f x).length = 1) (hx : ev e x = sg g) (hi : L[i]? = some (buf g u n (xs.flatMap f))) (hlo : ev e lo = .int .i64 a) (ha : (!decide (a = (xs.length : Int))) = false)
    (ht : ∀ w, (underlying t).run C.P w = .ok (.slice u) w) (hs : ∀ w, (Go.sizeOf u).run C.P w = .ok 1 w) :
    Pur C (Own C.X hp L) ⟨dst, .slice t x (some lo) none none, ty, ps, es, gd⟩ e (sg (subg g a n 1)) := ⟨fun w hw => by
  obtain ⟨b, rfl, hl⟩ := own_buf hw hi
  have ha' : a = (xs.length : Int) := by simpa using ha
  subst ha'
  rw [flatMap_len hf] at hl
  have hl' : xs.length ≤ n := by omega
  simp [execOp, hx, hlo, sg, subg, Instr.sliceAt, Instr.slice, Instr.sliceBounds, Instr.sliceBound, asIntOf, ht, hs, hl']⟩
theorem subg_buf0 {g : SG3} {n : Nat} {b : Nat} (h : g = (some ⟨b, 0, none⟩, n, n)) : subg g (0 : Int) n 1 = g := by
  subst h
  unfold subg
  simp [Addr.add]
theorem cpB {τ : Type} {f : τ → List Value} {xs ys : List τ} {j u n : Nat} {g : SG3} {v : Value} {a : Int} {ts : Array TypeId} (hN : Nat.blt d C.N = true) (hx : ev e x = sg (subg g a n 1)) (hy : ev e y = v) (hi : L[j]? = some (buf g u n (xs.flatMap f))) (hf : ∀ x, (f x).length = 1) (h1 : ∀ x, ∀ v ∈ f x, v.oneCell' = true)
    (ha : (!decide (a = (xs.length : Int))) = false) (hfit : (!decide (xs.length + ys.length ≤ n)) = false) (hS : SeesV C.P C.X hp L 1 v ys.length (ys.flatMap f)) (h0 : ts[0]? = some t) (ht : ∀ w, (underlying t).run C.P w = .ok (.slice u) w) (hs : ∀ w, (Go.sizeOf u).run C.P w = .ok 1 w)
    (kk : G (upd e d (.int .i64 ys.length)) hp (L.set j (buf g u n ((xs ++ ys).flatMap f)))) : OpJ C ⟨some d, .call ⟨.builtin .copy, #[x, y], ts⟩, ty, ps, es, gd⟩ e hp L G := by
  have hfit' : xs.length + ys.length ≤ n := by simpa using hfit
  have ha' : a = (xs.length : Int) := by simpa using ha
  subst ha'
  refine OpJ.run hN (fun w hw => ?_) kk
  obtain ⟨hlen, hfx⟩ := hS.go w hw w rfl
  obtain ⟨hh, ⟨h1', h2', rfl, ⟨b, cs, rfl, rfl, hsz, hl, hcs⟩, hs2⟩, hsat⟩ := (own_front hw hi).ex
  rw [flatMap_len hf] at hl
  have hmin : Nat.min ys.length (n - xs.length) = ys.length := Nat.min_eq_left (by omega)
  have hw0 : Own C.X hp ((pt b (.cells cs u (0, 0)) :: L.eraseIdx j).set 0 (pt b (.cells cs u (0, 0)))) w := ⟨⟨_, ⟨[(b, .cells cs u (0, 0))], h2', rfl, rfl, hs2⟩, hsat⟩, hw.os, hw.tape, hw.output⟩
  have hyl : (ys.flatMap f).length = ys.length := by rw [flatMap_len hf]; omega
  have hxl : (xs.flatMap f).length = xs.length := by rw [flatMap_len hf]; omega
  by_cases hz : ys = []
  · subst hz
    refine ⟨w, ?_, own_set hw hi (fun h hh => by simpa using hh)⟩
    have hm0 : Nat.min 0 (n - xs.length) = 0 := Nat.zero_min _
    simp only [List.length_nil, List.flatMap_nil] at hlen hfx
    simp [execOp, resolve, invoke, builtin, hx, hy, sg, subg, Builtin.copy_, h0, ht, hs, hlen, hm0, hfx, goInt]
    by_cases hc : n = xs.length <;> simp [hc, storeCells]
  · have hne : n ≠ xs.length := by
      have : 0 < ys.length := List.length_pos_iff.2 hz
      omega
    obtain ⟨w', cs', hr, ho, hsz', hlo, hup, hhi⟩ := run_storeCells2 (P := C.P) (ys.flatMap f) 0 xs.length cs w hw0 (by simp) (fun v hv => by obtain ⟨x, _, hx⟩ := List.mem_flatMap.1 hv; exact h1 x v hx) (by omega)
    refine ⟨w', ?_, ?_⟩
    · have hadd : (⟨b, 0, none⟩ : Addr).add xs.length = ⟨b, xs.length, none⟩ := by
        unfold Addr.add; split
        · rename_i h; simp [h]
        · simp
      simp [execOp, resolve, invoke, builtin, hx, hy, sg, subg, Builtin.copy_, h0, ht, hs, hlen, hmin, hfx, goInt, hne, hadd, hr]
    · refine own_upd hw hi fun _ => ?_
      obtain ⟨hh', ⟨k1, k2, rfl, hk1, hk2⟩, hsat'⟩ := ho.ex
      have : k1 = [(b, .cells cs' u (0, 0))] := hk1
      subst this
      refine ⟨⟨_, ⟨[(b, .cells cs' u (0, 0))], k2, rfl, ⟨b, cs', rfl, rfl, by omega, by rw [flatMap_len hf]; simp; omega, fun q hq => ?_⟩, hk2⟩, hsat'⟩, ho.os, ho.tape, ho.output⟩
      rw [List.flatMap_append] at hq ⊢
      rw [List.length_append, hxl, hyl] at hq
      by_cases hql : q < xs.length
      · rw [hlo q (by omega), hcs q (by omega), List.getElem?_append_left (by omega)]
      · have := hhi (q - xs.length) (by omega)
        rw [Nat.add_zero, Nat.add_sub_of_le (by omega)] at this
        rw [this, List.getElem?_append_right (by omega), hxl]
theorem cpB0 {τ : Type} {f : τ → List Value} {ys : List τ} {j u n : Nat} {g : SG3} {v : Value} {ts : Array TypeId} (hN : Nat.blt d C.N = true) (hx : ev e x = sg g) (hy : ev e y = v) (hi : L[j]? = some (buf g u n (([] : List τ).flatMap f))) (hf : ∀ x, (f x).length = 1) (h1 : ∀ x, ∀ v ∈ f x, v.oneCell' = true)
    (hfit : (!decide (([] : List τ).length + ys.length ≤ n)) = false) (hS : SeesV C.P C.X hp L 1 v ys.length (ys.flatMap f)) (h0 : ts[0]? = some t) (ht : ∀ w, (underlying t).run C.P w = .ok (.slice u) w) (hs : ∀ w, (Go.sizeOf u).run C.P w = .ok 1 w)
    (kk : G (upd e d (.int .i64 ys.length)) hp (L.set j (buf g u n ((([] : List τ) ++ ys).flatMap f)))) : OpJ C ⟨some d, .call ⟨.builtin .copy, #[x, y], ts⟩, ty, ps, es, gd⟩ e hp L G := by
  refine ⟨fun a w ha hw next Q' hn => ?_⟩
  obtain ⟨b, hg, -⟩ := own_buf hw hi
  exact (cpB (a := 0) hN (by rw [subg_buf0 hg]; exact hx) hy hi hf h1 (by simp) hfit hS h0 ht hs kk).go a w ha hw next Q' hn
def cpw {τ : Type} (xs : List τ) (a : Int) (ys : List τ) : List τ := xs.take a.toNat ++ ys ++ xs.drop (a.toNat + ys.length)
theorem cpw_len {τ : Type} {xs z ys : List τ} {a b : Int} (hz : lsub xs a b = some z) (h : ys.length ≤ z.length) : (cpw xs a ys).length = xs.length := by
  obtain ⟨g1, g2, g3, rfl⟩ := lsub_spec hz
  have hl : ((xs.take b.toNat).drop a.toNat).length = b.toNat - a.toNat := by simp; omega
  rw [hl] at h
  unfold cpw
  simp
  omega
theorem cpP {τ : Type} {f : τ → List Value} {xs ys z : List τ} {j k u : Nat} {g : SG3} {v : Value} {a b : Int} {ts : Array TypeId} (hN : Nat.blt d C.N = true) (hx : ev e x = sg (subg g a b (k + 1))) (hy : ev e y = v) (hi : L[j]? = some (sl (sg g) u (k + 1) (xs.flatMap f))) (hf : ∀ x, (f x).length = k + 1) (h1 : ∀ x, ∀ v ∈ f x, v.oneCell' = true)
    (hz : lsub xs a b = some z) (hfit : (!decide (ys.length ≤ z.length)) = false) (hS : SeesV C.P C.X hp L (k + 1) v ys.length (ys.flatMap f)) (h0 : ts[0]? = some t) (ht : ∀ w, (underlying t).run C.P w = .ok (.slice u) w) (hs : ∀ w, (Go.sizeOf u).run C.P w = .ok (k + 1) w)
    (kk : G (upd e d (.int .i64 ys.length)) hp (L.set j (sl (sg g) u (k + 1) ((cpw xs a ys).flatMap f)))) : OpJ C ⟨some d, .call ⟨.builtin .copy, #[x, y], ts⟩, ty, ps, es, gd⟩ e hp L G := by
  have hfit' : ys.length ≤ z.length := by simpa using hfit
  have hcl := cpw_len (ys := ys) hz hfit'
  obtain ⟨g1, g2, g3, rfl⟩ := lsub_spec hz
  have hzl : ((xs.take b.toNat).drop a.toNat).length = b.toNat - a.toNat := by simp; omega
  rw [hzl] at hfit'
  refine OpJ.run hN (fun w hw => ?_) kk
  obtain ⟨hlen, hfx⟩ := hS.go w hw w rfl
  obtain ⟨e1, e2, -⟩ := own_slg hf hw hi
  have hmin : Nat.min ys.length (b.toNat - a.toNat) = ys.length := Nat.min_eq_left (by omega)
  by_cases hy0 : ys = []
  · subst hy0
    have hcx : cpw xs a ([] : List τ) = xs := by unfold cpw; simp
    refine ⟨w, ?_, by rw [hcx, set_same hi]; exact hw⟩
    have hm0 : Nat.min 0 (b.toNat - a.toNat) = 0 := Nat.zero_min _
    simp only [List.length_nil, List.flatMap_nil] at hlen hfx
    simp only [execOp, resolve, invoke, builtin, List.map_toArray, List.map_cons, List.map_nil, hx, hy, sg, subg]
    cases hp1 : (if g.2.2 = a.toNat then g.1 else g.1.map (·.add (a.toNat * (k + 1)))) <;> simp [Builtin.copy_, h0, ht, hs, hlen, hm0, hfx, goInt, storeCells]
  · have hpos : 0 < ys.length := List.length_pos_iff.2 hy0
    have hxne : xs.flatMap f ≠ [] := fun h => by
      have := congrArg List.length h; rw [flatMap_len hf] at this
      rcases Nat.mul_eq_zero.1 this with h | h <;> omega
    obtain ⟨b0, off, cs, n, cap, hv, hb, hsz, hl, hcap, hcs, hput⟩ := sl_some (own_front hw hi) hxne
    obtain ⟨p, gn, gc⟩ := g
    simp only [sg, Value.slice.injEq] at hv
    obtain ⟨rfl, rfl, rfl⟩ := hv
    simp only at e1 e2
    subst e1
    have hw0 : Own C.X hp ((pt b0 (.cells cs u (0, 0)) :: L.eraseIdx j).set 0 (pt b0 (.cells cs u (0, 0)))) w := by
      obtain ⟨hh, ⟨h1', h2', rfl, ⟨a', n', cap', hv, hlen', hcap', hc⟩, hs2⟩, hsat⟩ := (own_front hw hi).ex
      simp only [sg, Value.slice.injEq] at hv
      obtain ⟨rfl, rfl, rfl⟩ := hv
      rcases hc with ⟨hq, _⟩ | ⟨b', off', cs', hq, rfl, _⟩
      · cases hq
      · cases hq
        have hb' := hsat.2 (b0, .cells cs' u (0, 0)) (by simp)
        simp only at hb'
        rw [hb] at hb'
        cases hb'
        exact ⟨⟨_, ⟨[(b0, .cells cs u (0, 0))], h2', rfl, rfl, hs2⟩, hsat⟩, hw.os, hw.tape, hw.output⟩
    have hyl : (ys.flatMap f).length = ys.length * (k + 1) := flatMap_len hf ys
    have hmul : a.toNat * (k + 1) + ys.length * (k + 1) ≤ xs.length * (k + 1) := by rw [← Nat.add_mul]; exact Nat.mul_le_mul_right _ (by omega)
    have hbig : off + a.toNat * (k + 1) + 0 + (ys.flatMap f).length ≤ cs.size := by
      have : xs.length * (k + 1) ≤ gc * (k + 1) := Nat.mul_le_mul_right _ hcap
      omega
    obtain ⟨w', cs', hr, ho, hsz', hlo, hup, hhi⟩ := run_storeCells2 (P := C.P) (ys.flatMap f) 0 (off + a.toNat * (k + 1)) cs w hw0 (by simp) (fun v hv => by obtain ⟨x, _, hx⟩ := List.mem_flatMap.1 hv; exact h1 x v hx) hbig
    refine ⟨w', ?_, ?_⟩
    · have hne : ¬ gc = a.toNat := by omega
      have hadd : (⟨b0, off, none⟩ : Addr).add (a.toNat * (k + 1)) = ⟨b0, off + a.toNat * (k + 1), none⟩ := by
        unfold Addr.add; split
        · rename_i h; simp [h]
        · rfl
      simp only [execOp, resolve, invoke, builtin, List.map_toArray, List.map_cons, List.map_nil, hx, hy, sg, subg, if_neg hne, Option.map_some, hadd]
      simp [Builtin.copy_, h0, ht, hs, hlen, hmin, hfx, goInt, hr]
    · refine own_upd hw hi fun _ => ?_
      obtain ⟨hh', ⟨k1, k2, rfl, hk1, hk2⟩, hsat'⟩ := ho.ex
      have : k1 = [(b0, .cells cs' u (0, 0))] := hk1
      subst this
      refine ⟨⟨_, ⟨[(b0, .cells cs' u (0, 0))], k2, rfl, ⟨_, _, _, rfl, by rw [flatMap_len hf, hcl], hcap, .inr ⟨b0, off, cs', rfl, rfl, by rw [hsz']; exact hsz, fun q hq => ?_⟩⟩, hk2⟩, hsat'⟩, ho.os, ho.tape, ho.output⟩
      rw [flatMap_len hf, hcl] at hq
      have htl : ((xs.take a.toNat).flatMap f).length = a.toNat * (k + 1) := by rw [flatMap_len hf, List.length_take, Nat.min_eq_left (by omega)]
      unfold cpw
      rw [List.flatMap_append, List.flatMap_append]
      by_cases hq1 : q < a.toNat * (k + 1)
      · rw [hlo _ (by omega), hcs q (by rw [flatMap_len hf]; omega), List.append_assoc, List.getElem?_append_left (by omega), flatMap_take hf, List.getElem?_take, if_pos hq1]
      · by_cases hq2 : q < a.toNat * (k + 1) + ys.length * (k + 1)
        · have := hhi (q - a.toNat * (k + 1)) (by omega)
          rw [show off + a.toNat * (k + 1) + 0 + (q - a.toNat * (k + 1)) = off + q by omega] at this
          rw [this, List.append_assoc, List.getElem?_append_right (by omega), htl, List.getElem?_append_left (by omega)]
        · rw [hup _ (by omega), hcs q (by rw [flatMap_len hf]; omega), List.getElem?_append_right (by rw [List.length_append]; omega), flatMap_drop hf, List.getElem?_drop, List.length_append, htl, hyl, Nat.add_mul]
          congr 1; omega
theorem lenRf {τ : Type} {i u u' : Nat} {v : Value} {gs : List SG3} {xs : List τ} (hl : gs.length = xs.length) (hx : ev e x = v) (hi : L[i]? = some (sl v u 1 (gs.flatMap fun q => [sg q]))) (ht : ∀ w, (underlying t).run C.P w = .ok (.slice u') w) :
    Pur C (Own C.X hp L) ⟨dst, .call ⟨.builtin .len, #[x], #[t]⟩, ty, ps, es, gd⟩ e (.int .i64 xs.length) := by
  have := lenO (C := C) (hp := hp) (dst := dst) (ty := ty) (ps := ps) (es := es) (gd := gd) (f := fun q : SG3 => [sg q]) (k := 0) hx hi (fun _ => rfl) ht
  rw [hl] at this; exact this
end
theorem slQR {C : Ctx} {F : World → Prop} {e : Env} {h : HL} {ty : TypeId} {ps : String} {es : Array Edge} {dst : Option Nat} {gd : Option (Nat × Bool)} {x : Operand} {τ : Type} {R : HL → τ → List Value → Prop} {k t el : Nat} {v : Value} {xs z : List τ} {lo hi : Option Operand} {a b : Int} (hx : ev e x = v) (H : RdL h (k + 1) R v xs)
    (ht : ∀ w, (underlying t).run C.P w = .ok (.slice el) w) (hs : ∀ w, (Go.sizeOf el).run C.P w = .ok (k + 1) w) (hlo : optI e lo 0 = some a) (hhi : optI e hi xs.length = some b) (hz : lsub xs a b = some z) :
    PurX C F ⟨dst, .slice t x lo hi none, ty, ps, es, gd⟩ e sg (fun g => RdL h (k + 1) R (sg g) z) := by
  obtain ⟨ll, hS, hl, hR⟩ := H
  obtain ⟨g1, g2, g3, rfl⟩ := lsub_spec hz
  have hk : ∀ c ∈ ll, c.length = k + 1 := fun c hc => by
    obtain ⟨i, hi, rfl⟩ := List.mem_iff_getElem.1 hc
    exact (hR i (xs[i]'(by omega)) _ (List.getElem?_eq_getElem _) (List.getElem?_eq_getElem hi)).2
  let xs' : List {c : List Value // c.length = k + 1} := ll.pmap (fun c hc => ⟨c, hc⟩) hk
  have hm : xs'.map Subtype.val = ll := by simp [xs', List.map_pmap]
  have hlen : xs'.length = xs.length := by simp [xs', hl]
  have hfl : xs'.flatMap Subtype.val = ll.flatten := by rw [List.flatMap_def, hm]
  have H' : RdL h (k + 1) (One (Subtype.val : {c : List Value // c.length = k + 1} → List Value)) v xs' := RdL.of (fun x => x.2) (by rw [hfl]; exact hS)
  have hz' : lsub xs' a b = some ((xs'.take b.toNat).drop a.toNat) := by
    unfold lsub
    rw [if_pos (by omega)]
  obtain ⟨g, h1, h2⟩ := (slP (F := F) (dst := dst) (ty := ty) (ps := ps) (es := es) (gd := gd) (fun x => x.2) hx H' ht hs hlo (by rw [hlen]; exact hhi) hz').go
  have hzl : ((xs'.take b.toNat).drop a.toNat).length = ((xs.take b.toNat).drop a.toNat).length := by simp [hlen]
  refine ⟨(g.1, ((xs.take b.toNat).drop a.toNat).length, g.2), ?_, (ll.take b.toNat).drop a.toNat, ?_, by simp [hl], fun i y c hy hc => ?_⟩
  · rw [← hzl]; exact h1
  · have h3 := h2.flat
    rw [List.flatMap_def, List.map_drop, List.map_take, hm, hzl] at h3
    exact h3
  · rw [List.getElem?_drop, List.getElem?_take] at hy hc
    split at hy
    · rename_i hlt
      rw [if_pos hlt] at hc
      exact hR _ _ _ hy hc
    · cases hy
theorem own_dropn {X : World} {hp : HL} {w : World} : ∀ (n : Nat) {L : List HP}, Own X hp L w → Own X hp (L.drop n) w
  | 0, _, h => h
  | n + 1, [], h => h
  | n + 1, _ :: _, h => own_dropn n h.drop
theorem djD {β γ ιA ιB : Type} {P : Program} {X : World} {U : Option β} {f : Nat} {args : List Value} {hp : HL} {L : List HP} {o : β → Option γ} {VA : β → ιA → Value} {ΦA : β → ιA → HL → Prop} {MA : β → ιA → List HP} {VB : β → γ → ιB → Value} {ΦB : β → γ → ιB → HL → Prop} {MB : β → γ → ιB → List HP} {W : β → Value × ιA → Value}
    (h : DJ P X U f args hp L (fun r => OptR (o r) (Ex (VA r) (ΦA r) hp (MA r)) (fun y => Ex (VB r y) (ΦB r y) hp (MB r y)))) (pr : ιB → ιA) (pv : ιB → Value) (n : Nat) (h1 : ∀ r s, VA r s = W r (.pointer none, s)) (h2 : ∀ r y s, VB r y s = W r (pv s, pr s))
    (h3 : ∀ r y s k, ΦB r y s k → ΦA r (pr s) k) (h4 : ∀ r y s, (MB r y s).drop n = MA r (pr s)) : DJ P X U f args hp L (fun r => Ex (W r) (fun s k => ΦA r s.2 k) hp (fun s => MA r s.2)) := by
  refine ⟨fun r hr => ⟨fun w hw => Calls.mono ((h.go r hr).go w hw) ?_⟩⟩
  rintro x w' ⟨v, hp', L', rfl, hR, hO⟩
  cases ho : o r with
  | none =>
    rw [ho] at hR
    obtain ⟨s, rfl, e1, e2, rfl⟩ := hR
    exact ⟨_, hp', _, rfl, ⟨(.pointer none, s), h1 r s, e1, e2, rfl⟩, hO⟩
  | some y =>
    rw [ho] at hR
    obtain ⟨s, rfl, e1, e2, rfl⟩ := hR
    exact ⟨_, hp', _, rfl, ⟨(pv s, pr s), h2 r y s, e1, h3 r y s hp' e2, rfl⟩, by have := own_dropn n hO; rw [h4 r y s] at this; exact this⟩
theorem BufS {X : World} {hp : HL} {L : List HP} {J : HL → List HP → Prop} {τ : Type} {f : τ → List Value} {xs : List τ} {n i u : Nat} {g : SG3} (c : Cv X J) (hi : L[i]? = some (buf g u n (xs.flatMap f))) (hf : ∀ x, (f x).length = 1) (hn : (!decide (xs.length = n)) = false)
    (k : J hp (L.set i (sl (sg g) u 1 (xs.flatMap f)))) : J hp L :=
  c.cv (fun w hw => own_set hw hi (fun h => by
    rintro ⟨b, cs, rfl, rfl, hsz, hl, hcs⟩
    have hn' : xs.length = n := by simpa using hn
    subst hn'
    exact ⟨_, _, _, rfl, flatMap_len hf xs, Nat.le_refl _, .inr ⟨b, 0, cs, rfl, rfl, (by show 0 + xs.length * (0 + 1) ≤ cs.size; omega), fun j hj => by rw [Nat.zero_add]; exact hcs j hj⟩⟩)) k
end Kot
