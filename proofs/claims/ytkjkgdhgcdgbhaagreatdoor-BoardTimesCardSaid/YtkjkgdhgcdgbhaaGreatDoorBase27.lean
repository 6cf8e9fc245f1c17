/- Words for walking Go functions: functions as values, Uj of pointers, Uj of Uj; no program is named here. -/
import Derived.Test.YtkjkgdhgcdgbhaaGreatDoorBase25
namespace Kot
open Go
def fv (x : Int) : Value := .func (.func x.toNat) #[] #[]
def Ss (x : Int) : List Value := [fv x]
theorem NA {x : Int} {n : Nat} (h : (x == (n : Int)) = true) : fv x = .func (.func n) ([] : List Value).toArray ([] : List Value).toArray := by
  have : x = (n : Int) := by simpa using h
  subst this; rfl
section
variable {β : Type} {C : NR} {U : Option β} {r : β} {e : JU} {hp : HL} {L : List HP} {ty : TypeId} {ps : String} {es : Array Edge} {gd : Option (Nat × Bool)} {G : JU → HL → List HP → Prop}
    {d f : Nat} {o : Operand} {xs : Array Operand} {ts : Array TypeId} {first caps args : List Value}
end
section
variable {α : Type} {C : NR} {Q : α → LB} {T : Option α} {e : JU} {hp : HL} {L : List HP} {ops l : List Oper} {ty : TypeId} {ps : String} {es : Array Edge} {d f : Nat} {xs : Array Operand} {ts : Array TypeId} {args first caps : List Value} {o : Operand}
theorem ZL {C' : NR} {fn : Func} {z : Exit} (hf : fn.results = #[]) (hz : Ty z) {e' : JU} (h : LJ C Q T ops l (JI e' d (.tuple #[])) hp L) :
    XJ (Vq C' fn (fun r v hp' L' => Sl C (Q r) ops l (JI e' d v) hp' L')) T z e hp L := ⟨fun r hr => by
  have := (r0 (C := C') (e := e) (R := fun (r : α) (v : Value) hp' L' => Sl C (Q r) ops l (JI e' d v) hp' L') (x := r) hf hz (h.go r hr)).go r rfl
  exact this⟩
theorem ZK {C' : NR} {fn : Func} {a b : ResultVar} {v u : Value} {z : Exit} (hf : fn.results = #[a, b]) (hz : Ty z) (ha : Tm C' e hp L a v) (hb : Tm C' e hp L b u) {e' : JU} (h : LJ C Q T ops l (JI e' d (.tuple #[v, u])) hp L) :
    XJ (Vq C' fn (fun r v hp' L' => Sl C (Q r) ops l (JI e' d v) hp' L')) T z e hp L := ⟨fun r hr => by
  have := (q2 (R := fun (r : α) v hp' L' => Sl C (Q r) ops l (JI e' d v) hp' L') (x := r) (L2 := L) hf hz (fun _ h => h) ha hb (h.go r hr)).go r rfl
  exact this⟩
end
section
variable {C : NR} {F : World → Prop} {e : JU} {ty : TypeId} {ps : String} {es : Array Edge} {dst : Option Nat} {gd : Option (Nat × Bool)} {x y : Operand} {t : Nat}
theorem Ur {cs : List Value} {v : Value} {i n el : Nat} {k : IntKind} (hx : ev e x = .agg cs.toArray) (hy : ev e y = .int k (i : Nat)) (hv : cs[i]? = some v) (hn : Nat.blt i n = true)
    (ht : ∀ w, (underlying t).run C.P w = .ok (.array n el) w) (hs : ∀ w, (Go.sizeOf el).run C.P w = .ok 1 w) (ha : ∀ w, (isAgg el).run C.P w = .ok false w) : NG C F ⟨dst, .index t x y, ty, ps, es, gd⟩ e v := op (fun w => by
  have hl : i < n := by simpa using hn
  simp [execOp, hx, hy, Instr.index, asIntOf, ht, hs, hl, part, ha, hv])
theorem ixW {τ : Type} {f : τ → Value} {zs : List τ} {z : τ} {i : Int} {n el : Nat} {k : IntKind} (hx : ev e x = .agg (zs.map f).toArray) (hy : ev e y = .int k i) (hz : IE zs i = some z) (hn : Nat.beq zs.length n = true)
    (ht : ∀ w, (underlying t).run C.P w = .ok (.array n el) w) (hs : ∀ w, (Go.sizeOf el).run C.P w = .ok 1 w) (ha : ∀ w, (isAgg el).run C.P w = .ok false w) : NG C F ⟨dst, .index t x y, ty, ps, es, gd⟩ e (f z) := op (fun w => by
  obtain ⟨h0, hlt, hzz⟩ := Pd hz
  have hn' := Nat.eq_of_beq_eq_true hn
  have h1 : i < (n : Int) := by omega
  simp [execOp, hx, hy, Instr.index, asIntOf, ht, hs, h0, h1, part, ha, hzz])
theorem JC {b off n el i : Nat} {j : Int} {k : IntKind} (hx : ev e x = .pointer (some ⟨b, off, none⟩)) (hy : ev e y = .int k j) (hj : (j == (i : Int)) = true) (hn : Nat.blt i n = true)
    (ht : ∀ w, (underlying t).run C.P w = .ok (.array n el) w) (hs : ∀ w, (Go.sizeOf el).run C.P w = .ok 1 w) : NG C F ⟨dst, .indexAddr t x y, ty, ps, es, gd⟩ e (.pointer (some ⟨b, off + i, none⟩)) := op (fun w => by
  have hl : i < n := by simpa using hn
  have hj' : j = (i : Int) := by simpa using hj
  subst hj'
  have : (⟨b, off, none⟩ : Addr).add i = ⟨b, off + i, none⟩ := by
    unfold Addr.add; split
    · rename_i h; simp [h]
    · rfl
  simp [execOp, hx, hy, Instr.indexAt, Instr.sureAddr, asIntOf, ht, hs, hl, this])
theorem iaR {b off n el m : Nat} {i : Int} {ki : IntKind} (hx : ev e x = .pointer (some ⟨b, off, none⟩)) (hy : ev e y = .int ki i) (hz : (!MZ i n) = false)
    (ht : ∀ w, (underlying t).run C.P w = .ok (.array n el) w) (hs : ∀ w, (Go.sizeOf el).run C.P w = .ok m w) : NG C F ⟨dst, .indexAddr t x y, ty, ps, es, gd⟩ e (.pointer (some ⟨b, off + i.toNat * m, none⟩)) := by
  obtain ⟨h0, h1, _⟩ := O6 hz
  refine op (fun w => ?_)
  have : (⟨b, off, none⟩ : Addr).add (i.toNat * m) = ⟨b, off + i.toNat * m, none⟩ := by
    unfold Addr.add; split
    · rename_i h; simp [h]
    · rfl
  simp [execOp, hx, hy, Instr.indexAt, Instr.sureAddr, asIntOf, ht, hs, h0, h1, this]
theorem Aab {i j : Int} {n m : Nat} (h1 : (!MZ i n) = false) (h2 : (!MZ j m) = false) : (!MZ (i * m + j) (n * m)) = false := by
  obtain ⟨a0, a1, _⟩ := O6 h1
  obtain ⟨b0, b1, _⟩ := O6 h2
  have h3 : 0 ≤ i * m := Int.mul_nonneg a0 (by omega)
  have h4 : (i + 1) * m ≤ (n : Int) * m := Int.mul_le_mul_of_nonneg_right (by omega) (by omega)
  have h5 : (i + 1) * (m : Int) = i * m + m := by rw [Int.add_mul, Int.one_mul]
  unfold MZ
  simp only [Bool.not_eq_eq_eq_not, Bool.not_false, Bool.and_eq_true, decide_eq_true_eq]
  push_cast
  omega
theorem Aaa {b off n m el : Nat} {i j : Int} {ki : IntKind} (hx : ev e x = .pointer (some ⟨b, off + i.toNat * m, none⟩)) (hy : ev e y = .int ki j) (h1 : (!MZ i n) = false) (h2 : (!MZ j m) = false)
    (ht : ∀ w, (underlying t).run C.P w = .ok (.array m el) w) (hs : ∀ w, (Go.sizeOf el).run C.P w = .ok 1 w) : NG C F ⟨dst, .indexAddr t x y, ty, ps, es, gd⟩ e (.pointer (some ⟨b, off + (i * m + j).toNat, none⟩)) := by
  obtain ⟨a0, a1, _⟩ := O6 h1
  obtain ⟨b0, b1, _⟩ := O6 h2
  have e1 : (i * (m : Int) + j).toNat = i.toNat * m + j.toNat := by
    have h3 : 0 ≤ i * m := Int.mul_nonneg a0 (by omega)
    have h4 : (i * (m : Int)).toNat = i.toNat * m := by
      obtain ⟨k, rfl⟩ := Int.eq_ofNat_of_zero_le a0
      have h5 : ((k : Int) * (m : Int)) = ((k * m : Nat) : Int) := by push_cast; rfl
      rw [h5, Int.toNat_natCast, Int.toNat_natCast]
    omega
  refine op (fun w => ?_)
  have : (⟨b, off + i.toNat * m, none⟩ : Addr).add j.toNat = ⟨b, off + (i * m + j).toNat, none⟩ := by
    rw [e1]
    unfold Addr.add; split
    · rename_i h; simp [h]
    · simp [Nat.add_assoc]
  simp [execOp, hx, hy, Instr.indexAt, Instr.sureAddr, asIntOf, ht, hs, b0, b1, this]
end
/-! ### bytes that are copied into an array of a block -/
theorem U3 : ∀ {S : List Sg} {o n : Nat} {f : Nat → Value}, UZ S o = some (n, f) → ∃ A B, A.length = o ∧ ∀ g, DL (U2 S o g) = A ++ (List.range n).map g ++ B ∧ DL S = A ++ (List.range n).map f ++ B
  | [], _, _, _, h => nomatch h
  | .c u :: r, 0, _, _, h => nomatch h
  | .c u :: r, o + 1, n, f, h => by
    obtain ⟨A, B, h1, h2⟩ := U3 (S := r) (o := o) h
    exact ⟨u :: A, B, by simp [h1], fun g => ⟨by simp only [U2, DL, (h2 g).1, List.cons_append], by simp only [DL, (h2 g).2, List.cons_append]⟩⟩
  | .a m q :: r, o, n, f, h => by
    simp only [UZ] at h
    cases hb : Nat.beq o 0 with
    | true =>
      rw [hb, cond_true] at h
      injection h with h; injection h with h1 h2
      subst h1; subst h2
      have : o = 0 := Nat.eq_of_beq_eq_true hb
      subst this
      exact ⟨[], DL r, rfl, fun g => ⟨by simp [U2, DL], by simp [DL]⟩⟩
    | false =>
      rw [hb, cond_false] at h
      cases hc : Nat.blt o m with
      | true => rw [hc, cond_true] at h; cases h
      | false =>
        rw [hc, cond_false] at h
        have hlt : ¬ o < m := by intro hh; have : Nat.blt o m = true := by simpa using hh
                                 rw [hc] at this; cases this
        obtain ⟨A, B, h1, h2⟩ := U3 (S := r) (o := o - m) h
        exact ⟨(List.range m).map q ++ A, B, by simp [h1]; omega, fun g => ⟨by simp only [U2, hb, hc, cond_false, DL, (h2 g).1, List.append_assoc], by simp only [DL, (h2 g).2, List.append_assoc]⟩⟩
section
variable {C : NR} {e : JU} {hp : HL} {L : List HP} {ty : TypeId} {ps : String} {es : Array Edge} {gd : Option (Nat × Bool)} {G : JU → HL → List HP → Prop} {x y : Operand} {t d : Nat}
theorem Aaf {F : World → Prop} {dst : Option Nat} {b off n el : Nat} (hx : ev e x = .pointer (some ⟨b, off, none⟩)) (ht : ∀ w, (underlying t).run C.P w = .ok (.array n el) w) (hs : ∀ w, (Go.sizeOf el).run C.P w = .ok 1 w) (hn : Nat.beq n 0 = false) :
    NG C F ⟨dst, .slice t x none none none, ty, ps, es, gd⟩ e (.slice (some ⟨b, off, none⟩) n n) := by
  have h0 : n ≠ 0 := fun h => by subst h; cases hn
  refine op (fun w => ?_)
  have ha : (⟨b, off, none⟩ : Addr).add 0 = ⟨b, off, none⟩ := by unfold Addr.add; simp
  simp [execOp, Instr.sliceAt, Instr.sureAddr, Instr.sliceBounds, hx, ht, hs, h0, ha]
theorem Aat {b off n j u : Nat} {S : List Sg} {tb : TypeId} {f0 : Nat → Value} {ys : List Int} {v : Value} {ts : Array TypeId} (hN : Nat.blt d C.N = true) (hx : ev e x = .slice (some ⟨b, off, none⟩) n n) (hy : ev e y = v) (hL : L[j]? = some (blk b tb (DL S)))
    (hS : UZ S off = some (n, f0)) (hV : OW C.P C.X hp L 1 v ys.length (ys.flatMap (vi .u8))) (hfit : (!decide (ys.length = n)) = false) (h0 : ts[0]? = some t) (ht : ∀ w, (underlying t).run C.P w = .ok (.slice u) w) (hs : ∀ w, (Go.sizeOf u).run C.P w = .ok 1 w)
    (kk : G (JI e d (.int .i64 n)) hp (L.set j (blk b tb (DL (U2 S off (fun q => .int .u8 (ys.getD q 0))))))) : EE C ⟨some d, .call ⟨.builtin .copy, #[x, y], ts⟩, ty, ps, es, gd⟩ e hp L G := by
  have hfit' : ys.length = n := by simpa using hfit
  subst hfit'
  have hfit' : ys.length = ys.length := rfl
  have hj : j < L.length := by
    rcases Nat.lt_or_ge j L.length with h | h
    · exact h
    · rw [List.getElem?_eq_none h] at hL; cases hL
  obtain ⟨A, B, hA, hsp⟩ := U3 hS
  have hfl : ys.flatMap (vi .u8) = (List.range ys.length).map (fun q => Value.int .u8 (ys.getD q 0)) := by
    rw [Xc]
    apply List.ext_getElem?; intro m
    rw [List.getElem?_map, List.getElem?_map]
    by_cases hm : m < ys.length
    · rw [List.getElem?_eq_getElem (by omega : m < ys.length), List.getElem?_range hm, Option.map_some, Option.map_some, List.getD_eq_getElem?_getD, List.getElem?_eq_getElem (by omega : m < ys.length)]; rfl
    · rw [List.getElem?_eq_none (by omega), List.getElem?_eq_none (by simp; omega)]; rfl
  refine EE.run hN (fun w hw => ?_) kk
  obtain ⟨hlen, hfx⟩ := hV.go w hw w rfl
  have hmin : Nat.min ys.length ys.length = ys.length := Nat.min_self _
  have hset : L.set j (pt b (.cells (DL S).toArray tb (0, 0))) = L := by
    apply List.ext_getElem?; intro m
    by_cases hm : j = m
    · subst hm; rw [List.getElem?_set_self', hL]; rfl
    · rw [List.getElem?_set_ne hm]
  have hlS : (DL S).length = off + ys.length + B.length := by rw [(hsp (fun _ => default)).2]; simp [hA]; omega
  have hlF : (ys.flatMap (vi .u8)).length = ys.length := by rw [hfl]; simp
  obtain ⟨w', cs', hr, ho, hsz, hlo, hup, hmid⟩ := SC (P := C.P) (X := C.X) (hp := hp) (L := L) (i := j) (b := b) (t := tb) (ys.flatMap (vi .u8)) 0 off (DL S).toArray w (by rw [hset]; exact hw) hj
    (fun v hv => by obtain ⟨x, _, hx⟩ := List.mem_flatMap.1 hv; rw [List.mem_singleton.1 hx]; rfl) (by simp only [List.size_toArray]; omega)
  refine ⟨w', ?_, ?_⟩
  · simp [execOp, resolve, invoke, builtin, hx, hy, Builtin.copy_, h0, ht, hs, hlen, hmin, hfx, goInt, hr]
  · have hcs : cs' = (DL (U2 S off (fun q => .int .u8 (ys.getD q 0)))).toArray := by
      apply Array.ext_getElem?; intro m
      have e1 : (DL (U2 S off (fun q => Value.int .u8 (ys.getD q 0)))).toArray[m]? = (A ++ (List.range ys.length).map (fun q => Value.int .u8 (ys.getD q 0)) ++ B)[m]? := by rw [← (hsp _).1]; simp
      have e2 : (DL S).toArray[m]? = (A ++ (List.range ys.length).map f0 ++ B)[m]? := by rw [← (hsp (fun _ => default)).2]; simp
      rw [e1]
      by_cases h1 : m < off
      · rw [hlo m (by omega), e2, List.append_assoc, List.append_assoc, List.getElem?_append_left (by omega), List.getElem?_append_left (by omega)]
      · by_cases h2 : off + ys.length ≤ m
        · rw [hup m (by omega), e2, List.getElem?_append_right (by simp; omega), List.getElem?_append_right (by simp; omega)]
          simp
        · have h3 := hmid (m - off) (by omega)
          rw [show off + 0 + (m - off) = m by omega] at h3
          rw [h3, hfl, List.append_assoc, List.getElem?_append_right (by omega), hA, List.getElem?_append_left (by simp; omega)]
    rw [hcs] at ho
    exact ho
end
/-! ### records within blocks with arrays -/
def V8 (S : List Sg) : Nat → Nat → Option (List Value)
  | _, 0 => some []
  | o, n + 1 => match UF S o, V8 S (o + 1) n with
    | some v, some l => some (v :: l)
    | _, _ => none
def Y0 : List Sg → Nat → List Value → List Sg
  | S, _, [] => S
  | S, o, v :: vs => Y0 (Wu S o v) (o + 1) vs
theorem Va {S : List Sg} : ∀ {n o : Nat} {vs : List Value}, V8 S o n = some vs → vs.length = n ∧ ∀ i, i < n → (DL S)[o + i]? = vs[i]?
  | 0, o, vs, h => by cases h; exact ⟨rfl, fun i hi => by omega⟩
  | n + 1, o, vs, h => by
    simp only [V8] at h
    cases h1 : UF S o with
    | none => rw [h1] at h; cases h
    | some v =>
      cases h2 : V8 S (o + 1) n with
      | none => rw [h1, h2] at h; cases h
      | some l =>
        rw [h1, h2] at h; cases h
        obtain ⟨k1, k2⟩ := Va h2
        refine ⟨by simp [k1], fun i hi => ?_⟩
        cases i with
        | zero => exact Um h1
        | succ i => rw [show o + (i + 1) = o + 1 + i by omega, k2 i (by omega)]; rfl
theorem Ul : ∀ (vs : List Value) (S : List Sg) (o : Nat), Me (DL S) o vs = DL (Y0 S o vs)
  | [], _, _ => rfl
  | v :: vs, S, o => by rw [Me, UL, Ul vs]; rfl
section
variable {C : NR} {F : World → Prop} {e : JU} {hp h : HL} {L : List HP} {ty : TypeId} {ps : String} {es : Array Edge} {dst : Option Nat} {gd : Option (Nat × Bool)} {G : JU → HL → List HP → Prop} {x y : Operand} {t : Nat}
theorem RP {n b off : Nat} {S : List Sg} {vs : List Value} {tb : TypeId} (ha : ∀ w, (isAgg t).run C.P w = .ok true w) (hs : ∀ w, (Go.sizeOf t).run C.P w = .ok (n + 1) w)
    (hx : ev e x = .pointer (some ⟨b, off, none⟩)) (hk : Kn F b (.cells (DL S).toArray tb (0, 0))) (hv : V8 S off (n + 1) = some vs) :
    NG C F ⟨dst, .load t x, ty, ps, es, gd⟩ e (.agg vs.toArray) := by
  obtain ⟨h1, h2⟩ := Va hv
  have hlen : off + (n + 1) ≤ (DL S).length := by
    have := h2 n (by omega)
    rw [List.getElem?_eq_getElem (by omega : n < vs.length)] at this
    have := (List.getElem?_eq_some_iff.1 this).1
    omega
  have e1 : ((DL S).drop off).take (n + 1) = vs := by
    apply List.ext_getElem?; intro i
    rw [List.getElem?_take]
    by_cases hi : i < n + 1
    · rw [if_pos hi, List.getElem?_drop, h2 i hi]
    · rw [if_neg hi, List.getElem?_eq_none (by omega)]
  have := GK (dst := dst) (ty := ty) (ps := ps) (es := es) (gd := gd) ha hs hx hk (Nat.ble_eq_true_of_le hlen)
  rw [e1] at this
  exact this
theorem Un {n j b off : Nat} {tb : TypeId} {S : List Sg} {vs old : List Value} (hs : ∀ w, (Go.sizeOf t).run C.P w = .ok (n + 1) w)
    (hx : ev e x = .pointer (some ⟨b, off, none⟩)) (hy : (ev e y).cells = vs.toArray) (hL : L[j]? = some (blk b tb (DL S))) (h1 : (vs.all Value.oneCell' && Nat.beq vs.length (n + 1)) = true) (hg : V8 S off (n + 1) = some old)
    (k : G e hp (L.set j (blk b tb (DL (Y0 S off vs))))) : EE C ⟨none, .store t x y, ty, ps, es, gd⟩ e hp L G := by
  obtain ⟨k1, k2⟩ := Va hg
  have hlen : off + (n + 1) ≤ (DL S).length := by
    have := k2 n (by omega)
    rw [List.getElem?_eq_getElem (by omega : n < old.length)] at this
    have := (List.getElem?_eq_some_iff.1 this).1
    omega
  refine FD hs hx hy hL ?_ ?_
  · rw [h1, Bool.true_and]; exact Nat.ble_eq_true_of_le hlen
  · rw [Ul]; exact k
/-! ### tables of Uj -/
theorem iaT {g n el m : Nat} {i : Int} {ki : IntKind} (hx : ev e x = .pointer (some ⟨g, 0, none⟩)) (hy : ev e y = .int ki i) (hz : (!MZ i n) = false)
    (ht : ∀ w, (underlying t).run C.P w = .ok (.array n el) w) (hs : ∀ w, (Go.sizeOf el).run C.P w = .ok m w) : NG C F ⟨dst, .indexAddr t x y, ty, ps, es, gd⟩ e (.pointer (some ⟨g, i.toNat * m, none⟩)) := by
  have := iaR (C := C) (F := F) (dst := dst) (ty := ty) (ps := ps) (es := es) (gd := gd) hx hy hz ht hs
  rwa [Nat.zero_add] at this
theorem ldT {τ : Type} {f : τ → Value} {xs zs : List τ} {g m : Nat} {i : Int} (ha : ∀ w, (isAgg t).run C.P w = .ok true w) (hs : ∀ w, (Go.sizeOf t).run C.P w = .ok m w) (hx : ev e x = .pointer (some ⟨g, i.toNat * m, none⟩)) (hk : ZN F h)
    (H : GT h g (fun z => [f z]) xs) (h0 : (decide (i < 0)) = false) (hz : Si xs (i * (m : Nat)) (i * (m : Nat) + (m : Nat)) = some zs) : NG C F ⟨dst, .load t x, ty, ps, es, gd⟩ e (.agg (zs.map f).toArray) :=
  ⟨fun w hw => by
    obtain ⟨h1, h2, h3, rfl⟩ := Ti hz
    have hi : 0 ≤ i := by simpa using h0
    obtain ⟨k, rfl⟩ := Int.eq_ofNat_of_zero_le hi
    have e1 : ((k : Int) * (m : Int)) = ((k * m : Nat) : Int) := by push_cast; rfl
    rw [e1] at h3 ⊢
    have e2 : (((k * m : Nat) : Int) + (m : Int)).toNat = k * m + m := by omega
    have hl : (((xs.take (k * m + m)).drop (k * m)).map f).length = m := by simp; omega
    rw [e2, Int.toNat_natCast]
    rw [Int.toNat_natCast] at hx
    have hr := run_loadCells_list (P := C.P) w ⟨g, k * m, none⟩ (((xs.take (k * m + m)).drop (k * m)).map f) (fun j v hj => by
      rw [List.getElem?_map, List.getElem?_drop, List.getElem?_take] at hj
      split at hj
      · obtain ⟨z, hz, rfl⟩ := Option.map_eq_some_iff.1 hj
        have := VQ.cell (i := 0) (hk.go w hw) (H (k * m + j) z hz) rfl
        have ea : (⟨g, k * m, none⟩ : Addr).add j = (⟨g, k * m + j, none⟩ : Addr).add 0 := by
          unfold Addr.add
          split
          · rename_i hh; simp [hh]
          · simp
        rw [ea]; exact this
      · cases hj)
    rw [hl] at hr
    simp [execOp, hx, Instr.loadAt, Instr.sureAddr, loadVar, ha, hs, hr]⟩
theorem Yl {τ : Type} {xs zs : List τ} {i : Int} {m : Nat} (hz : Si xs i (i + (m : Nat)) = some zs) : Nat.beq zs.length m = true := by
  obtain ⟨h1, h2, h3, rfl⟩ := Ti hz
  have : ((xs.take (i + (m : Int)).toNat).drop i.toNat).length = m := by simp; omega
  rw [this]; exact Nat.beq_refl m
theorem Aa1 {τ : Type} {f : τ → List Value} {xs : List τ} {z : τ} {g m el : Nat} {i j : Int} {ki : IntKind} (hx : ev e x = .pointer (some ⟨g, i.toNat * m, none⟩)) (hy : ev e y = .int ki j) (H : GT h g f xs) (h0 : (decide (i < 0)) = false) (hj : (!MZ j m) = false)
    (hz : IE xs (i * (m : Nat) + j) = some z) (ht : ∀ w, (underlying t).run C.P w = .ok (.array m el) w) (hs : ∀ w, (Go.sizeOf el).run C.P w = .ok 1 w) :
    Vk C F ⟨dst, .indexAddr t x y, ty, ps, es, gd⟩ e (fun p : Addr => .pointer (some p)) (fun p => VQ h p (f z)) := by
  obtain ⟨j0, j1, _⟩ := O6 hj
  have hi : 0 ≤ i := by simpa using h0
  obtain ⟨k, rfl⟩ := Int.eq_ofNat_of_zero_le hi
  obtain ⟨q, rfl⟩ := Int.eq_ofNat_of_zero_le j0
  have e1 : ((k : Int) * (m : Int) + (q : Int)) = ((k * m + q : Nat) : Int) := by push_cast; rfl
  rw [e1] at hz
  obtain ⟨_, hlt, hzz⟩ := Pd hz
  rw [Int.toNat_natCast] at hzz
  refine ⟨⟨g, k * m + q, none⟩, ⟨fun w _ => ?_⟩, H _ _ hzz⟩
  rw [Int.toNat_natCast] at hx
  have : (⟨g, k * m, none⟩ : Addr).add q = ⟨g, k * m + q, none⟩ := by
    unfold Addr.add; split
    · rename_i hh; simp [hh]
    · rfl
  have hq : q < m := by omega
  simp [execOp, hx, hy, Instr.indexAt, Instr.sureAddr, asIntOf, ht, hs, hq, this]
end
/-! ### values with arrays, stored -/
def UG : List Sg → Nat
  | [] => 0
  | .c _ :: r => UG r + 1
  | .a n _ :: r => UG r + n
theorem Ll : ∀ S : List Sg, (DL S).length = UG S
  | [] => rfl
  | .c v :: r => by simp only [DL, UG, List.length_cons, Ll r]
  | .a n f :: r => by simp only [DL, UG, List.length_append, List.length_map, List.length_range, Ll r]; omega
theorem Lv : ∀ S R : List Sg, DL (S ++ R) = DL S ++ DL R
  | [], _ => rfl
  | .c v :: r, R => by rw [List.cons_append, DL, DL, Lv r R, List.cons_append]
  | .a n f :: r, R => by rw [List.cons_append, DL, DL, Lv r R, List.append_assoc]
def YN : List Sg → Prop
  | [] => True
  | .c v :: r => v.oneCell' = true ∧ YN r
  | .a _ f :: r => (∀ q, (f q).oneCell' = true) ∧ YN r
theorem VI : ∀ {S : List Sg}, YN S → (DL S).all Value.oneCell' = true
  | [], _ => rfl
  | .c v :: r, h => by simp only [DL, List.all_cons, h.1, VI h.2, Bool.and_self]
  | .a n f :: r, h => by
    simp only [DL, List.all_append, VI h.2, Bool.and_true, List.all_eq_true]
    intro v hv
    obtain ⟨q, _, rfl⟩ := List.mem_map.1 hv
    exact h.1 q
theorem UB : ∀ (vs P Q R : List Value), vs.length = Q.length → Me (P ++ Q ++ R) P.length vs = P ++ vs ++ R
  | [], P, Q, R, h => by rw [List.length_eq_zero_iff.1 h.symm, Me]
  | v :: vs, P, q :: Q, R, h => by
    have e1 : (P ++ q :: Q ++ R).set P.length v = (P ++ [v]) ++ Q ++ R := by
      rw [List.append_assoc, List.set_append_right _ _ (Nat.le_refl _), Nat.sub_self]; simp
    have := UB vs (P ++ [v]) Q R (by simpa using h)
    rw [List.length_append, List.length_singleton] at this
    rw [Me, e1, this]; simp
section
variable {C : NR} {F : World → Prop} {e : JU} {hp h : HL} {L : List HP} {ty : TypeId} {ps : String} {es : Array Edge} {dst : Option Nat} {gd : Option (Nat × Bool)} {G : JU → HL → List HP → Prop} {x y : Operand} {t : Nat}
theorem WW {n j b off : Nat} {tb : TypeId} (A S1 S2 B : List Sg) (hs : ∀ w, (Go.sizeOf t).run C.P w = .ok n w)
    (hx : ev e x = .pointer (some ⟨b, off, none⟩)) (hy : (ev e y).cells = (DL S2).toArray) (hL : L[j]? = some (blk b tb (DL (A ++ (S1 ++ B))))) (hA : Nat.beq (UG A) off = true) (h1 : Nat.beq (UG S1) n = true) (h2 : Nat.beq (UG S2) n = true) (ho : YN S2)
    (k : G e hp (L.set j (blk b tb (DL (A ++ (S2 ++ B)))))) : EE C ⟨none, .store t x y, ty, ps, es, gd⟩ e hp L G := by
  have a1 := Nat.eq_of_beq_eq_true hA
  have a2 := Nat.eq_of_beq_eq_true h1
  have a3 := Nat.eq_of_beq_eq_true h2
  refine FD (n := n) hs hx hy hL ?_ ?_
  · rw [VI ho, Bool.true_and, Ll, h2, Bool.true_and]
    refine Nat.ble_eq_true_of_le ?_
    rw [Lv, Lv, List.length_append, List.length_append, Ll, Ll]; omega
  · have : Me (DL (A ++ (S1 ++ B))) off (DL S2) = DL (A ++ (S2 ++ B)) := by
      rw [Lv, Lv, Lv, Lv, ← List.append_assoc, ← List.append_assoc]
      have := UB (DL S2) (DL A) (DL S1) (DL B) (by rw [Ll, Ll]; omega)
      rw [Ll, a1] at this
      exact this
    rw [this]; exact k
theorem ldG {n b off : Nat} {tb : TypeId} (A S1 B : List Sg) (ha : ∀ w, (isAgg t).run C.P w = .ok true w) (hs : ∀ w, (Go.sizeOf t).run C.P w = .ok n w)
    (hx : ev e x = .pointer (some ⟨b, off, none⟩)) (hk : Kn F b (.cells (DL (A ++ (S1 ++ B))).toArray tb (0, 0))) (hA : Nat.beq (UG A) off = true) (h1 : Nat.beq (UG S1) n = true) :
    NG C F ⟨dst, .load t x, ty, ps, es, gd⟩ e (.agg (DL S1).toArray) := by
  have a1 := Nat.eq_of_beq_eq_true hA
  have a2 := Nat.eq_of_beq_eq_true h1
  have := GK (dst := dst) (ty := ty) (ps := ps) (es := es) (gd := gd) ha hs hx hk (Nat.ble_eq_true_of_le (by rw [Lv, Lv, List.length_append, List.length_append, Ll, Ll]; omega))
  have e1 : ((DL (A ++ (S1 ++ B))).drop off).take n = DL S1 := by
    rw [Lv, Lv, List.drop_append_of_le_length (by rw [Ll]; omega), List.drop_of_length_le (by rw [Ll]; omega), List.nil_append, List.take_append_of_le_length (by rw [Ll]; omega), List.take_of_length_le (by rw [Ll]; omega)]
  rw [e1] at this
  exact this
theorem Sb {b off n el i m : Nat} {j : Int} {k : IntKind} (hx : ev e x = .pointer (some ⟨b, off, none⟩)) (hy : ev e y = .int k j) (hj : (j == (i : Int)) = true) (hn : Nat.blt i n = true)
    (ht : ∀ w, (underlying t).run C.P w = .ok (.array n el) w) (hs : ∀ w, (Go.sizeOf el).run C.P w = .ok m w) : NG C F ⟨dst, .indexAddr t x y, ty, ps, es, gd⟩ e (.pointer (some ⟨b, off + i * m, none⟩)) := op (fun w => by
  have hl : i < n := by simpa using hn
  have hj' : j = (i : Int) := by simpa using hj
  subst hj'
  have : (⟨b, off, none⟩ : Addr).add (i * m) = ⟨b, off + i * m, none⟩ := by
    unfold Addr.add; split
    · rename_i h; simp [h]
    · rfl
  simp [execOp, hx, hy, Instr.indexAt, Instr.sureAddr, asIntOf, ht, hs, hl, this])
end
theorem rcG {a t i b off tb n : Nat} {C : NR} {e : JU} {hp : HL} {L : List HP} (A S1 B : List Sg) (hx : e a = .pointer (some ⟨b, off, none⟩)) (hA : ∀ w, (isAgg t).run C.P w = .ok true w) (hs : ∀ w, (Go.sizeOf t).run C.P w = .ok n w) (hL : L[i]? = some (blk b tb (DL (A ++ (S1 ++ B)))))
    (h0 : Nat.beq (UG A) off = true) (h1 : Nat.beq (UG S1) n = true) : Tm C e hp L (.cell a t) (.agg (DL S1).toArray) := by
  have a1 := Nat.eq_of_beq_eq_true h0
  have a2 := Nat.eq_of_beq_eq_true h1
  have := HZ (C := C) (e := e) (hp := hp) hx hA hs hL (Nat.ble_eq_true_of_le (by rw [Lv, Lv, List.length_append, List.length_append, Ll, Ll]; omega))
  have e1 : ((DL (A ++ (S1 ++ B))).drop off).take n = DL S1 := by
    rw [Lv, Lv, List.drop_append_of_le_length (by rw [Ll]; omega), List.drop_of_length_le (by rw [Ll]; omega), List.nil_append, List.take_append_of_le_length (by rw [Ll]; omega), List.take_of_length_le (by rw [Ll]; omega)]
  rw [e1] at this
  exact this
end Kot
