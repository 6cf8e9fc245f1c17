/- Words for walking Go functions: arrays in blocks, told by functions of their places; texts out of bytes. -/
import Derived.Test.YtpajmahpphcbaaaGreatDoorBase8
import Derived.Laws.BytesArg
import Derived.Laws.IdiomStrings
namespace Kot
open Go

inductive Sg where
  | c (v : Value)
  | a (n : Nat) (f : Nat → Value)
def segs : List Sg → List Value
  | [] => []
  | .c v :: r => v :: segs r
  | .a n f :: r => (List.range n).map f ++ segs r
theorem map_upd {n o : Nat} {f : Nat → Value} {w : Value} (ho : o < n) : ((List.range n).map f).set o w = (List.range n).map (fun j => bif Nat.beq j o then w else f j) := by
  apply List.ext_getElem?
  intro i
  rw [List.getElem?_set]
  by_cases hio : o = i
  · subst hio
    simp [ho, Nat.beq_refl]
  · have hb : Nat.beq i o = false := by
      cases hh : Nat.beq i o with
      | false => rfl
      | true => exact absurd (Nat.eq_of_beq_eq_true hh).symm hio
    rw [if_neg hio]
    by_cases hi : i < n
    · simp [hi, hb]
    · rw [List.getElem?_eq_none (by simpa using hi), List.getElem?_eq_none (by simpa using hi)]
def sarr : List Sg → Nat → Option (Nat × (Nat → Value))
  | [], _ => none
  | .c _ :: r, o => match o with
    | 0 => none
    | o + 1 => sarr r o
  | .a n f :: r, o => bif Nat.beq o 0 then some (n, f) else bif Nat.blt o n then none else sarr r (o - n)
def srep : List Sg → Nat → (Nat → Value) → List Sg
  | [], _, _ => []
  | .c v :: r, o, g => match o with
    | 0 => .c v :: r
    | o + 1 => .c v :: srep r o g
  | .a n f :: r, o, g => bif Nat.beq o 0 then .a n g :: r else bif Nat.blt o n then .a n f :: r else .a n f :: srep r (o - n) g
theorem sarr_get : ∀ {S : List Sg} {o n i : Nat} {f : Nat → Value}, sarr S o = some (n, f) → i < n → (segs S)[o + i]? = some (f i)
  | [], _, _, _, _, h, _ => nomatch h
  | .c u :: r, 0, _, _, _, h, _ => nomatch h
  | .c u :: r, o + 1, n, i, f, h, hi => by
    rw [show o + 1 + i = (o + i) + 1 by omega]
    simpa [segs] using sarr_get (S := r) (o := o) h hi
  | .a m g :: r, o, n, i, f, h, hi => by
    simp only [sarr] at h
    cases hb : Nat.beq o 0 with
    | true =>
      rw [hb, cond_true] at h
      injection h with h; injection h with h1 h2
      subst h1; subst h2
      have : o = 0 := Nat.eq_of_beq_eq_true hb
      subst this
      rw [segs, List.getElem?_append_left (by simpa using hi)]
      simp [hi]
    | false =>
      rw [hb, cond_false] at h
      cases hc : Nat.blt o m with
      | true => rw [hc, cond_true] at h; cases h
      | false =>
        rw [hc, cond_false] at h
        have hlt : ¬ o < m := by intro hh; have : Nat.blt o m = true := by simpa using hh
                                 rw [hc] at this; cases this
        rw [segs, List.getElem?_append_right (by simp; omega)]
        simp only [List.length_map, List.length_range]
        rw [show o + i - m = (o - m) + i by omega]
        exact sarr_get h hi
theorem srep_set : ∀ {S : List Sg} {o n i : Nat} {f : Nat → Value} {w : Value}, sarr S o = some (n, f) → i < n → (segs S).set (o + i) w = segs (srep S o (fun j => bif Nat.beq j i then w else f j))
  | [], _, _, _, _, _, h, _ => nomatch h
  | .c u :: r, 0, _, _, _, _, h, _ => nomatch h
  | .c u :: r, o + 1, n, i, f, w, h, hi => by
    rw [show o + 1 + i = (o + i) + 1 by omega]
    simp only [segs, srep, List.set_cons_succ, srep_set (S := r) (o := o) h hi]
  | .a m g :: r, o, n, i, f, w, h, hi => by
    simp only [sarr] at h
    simp only [srep]
    cases hb : Nat.beq o 0 with
    | true =>
      rw [hb, cond_true] at h
      injection h with h; injection h with h1 h2
      subst h1; subst h2
      have : o = 0 := Nat.eq_of_beq_eq_true hb
      subst this
      rw [cond_true, segs, List.set_append_left _ _ (by simpa using hi), Nat.zero_add, map_upd hi]; rfl
    | false =>
      rw [hb, cond_false] at h
      cases hc : Nat.blt o m with
      | true => rw [hc, cond_true] at h; cases h
      | false =>
        rw [hc, cond_false] at h
        have hlt : ¬ o < m := by intro hh; have : Nat.blt o m = true := by simpa using hh
                                 rw [hc] at this; cases this
        rw [cond_false, cond_false, segs, List.set_append_right _ _ (by simp; omega)]
        simp only [List.length_map, List.length_range, segs]
        rw [show o + i - m = (o - m) + i by omega, srep_set h hi]
def aset {α : Type} (x : Nat → α) (i : Nat) (z : α) : Nat → α := fun j => bif Nat.beq j i then z else x j
theorem aset_map {α : Type} (V : α → Value) (x : Nat → α) (i : Nat) (z : α) : (fun j => bif Nat.beq j i then V z else V (x j)) = fun j => V (aset x i z j) := by
  funext j; simp only [aset]; cases Nat.beq j i <;> rfl
def awin {α : Type} (x : Nat → α) (lo hi : Nat) : List α := (List.range (hi - lo)).map fun j => x (lo + j)
def inA (i : Int) (n : Nat) : Bool := decide (0 ≤ i) && decide (i < (n : Int))
theorem inA_spec {i : Int} {n : Nat} (h : (!inA i n) = false) : 0 ≤ i ∧ i < (n : Int) ∧ i.toNat < n := by
  simp [inA] at h; omega

section
variable {α : Type} {C : Ctx} {F : World → Prop} {e : Env} {hp h : HL} {L : List HP} {ty : TypeId} {ps : String} {es : Array Edge} {dst : Option Nat} {gd : Option (Nat × Bool)} {G : Env → HL → List HP → Prop} {x y : Operand} {t : Nat}
theorem iaA {b off n el : Nat} {i : Int} {ki : IntKind} (hx : ev e x = .pointer (some ⟨b, off, none⟩)) (hy : ev e y = .int ki i) (hz : (!inA i n) = false)
    (ht : ∀ w, (underlying t).run C.P w = .ok (.array n el) w) (hs : ∀ w, (Go.sizeOf el).run C.P w = .ok 1 w) : Pur C F ⟨dst, .indexAddr t x y, ty, ps, es, gd⟩ e (.pointer (some ⟨b, off + i.toNat, none⟩)) := by
  obtain ⟨h0, h1, _⟩ := inA_spec hz
  refine op (fun w => ?_)
  have : (⟨b, off, none⟩ : Addr).add i.toNat = ⟨b, off + i.toNat, none⟩ := by
    unfold Addr.add; split
    · rename_i h; simp [h]
    · rfl
  simp [execOp, hx, hy, Instr.indexAt, Instr.sureAddr, asIntOf, ht, hs, h0, h1, this]
theorem stA {τ : Type} {V : τ → Value} {X : Nat → τ} {b off n j : Nat} {i : Int} {S : List Sg} {tb : TypeId} {z : τ} (hs : ∀ w, (Go.sizeOf t).run C.P w = .ok 1 w) (hx : ev e x = .pointer (some ⟨b, off + i.toNat, none⟩)) (hy : ev e y = V z)
    (h1 : (V z).cells = #[V z]) (h2 : (V z).oneCell' = true) (hL : L[j]? = some (blk b tb (segs S))) (hS : sarr S off = some (n, fun q => V (X q))) (hz : (!inA i n) = false)
    (k : G e hp (L.set j (blk b tb (segs (srep S off (fun q => V (aset X i.toNat z q))))))) : OpJ C ⟨none, .store t x y, ty, ps, es, gd⟩ e hp L G := by
  refine st hs hx hy h1 h2 hL (sarr_get hS (inA_spec hz).2.2) ?_
  rw [srep_set hS (inA_spec hz).2.2, aset_map]
  exact k
/-! ### texts of bytes -/
def bstr (l : List Int) : List UInt8 := l.map fun n => UInt8.ofNat n.toNat
theorem foldl_bstr : ∀ (l : List Int) (s : ByteArray), l.foldl (fun r n => r.push (UInt8.ofNat n.toNat)) s = ⟨s.data ++ (bstr l).toArray⟩
  | [], s => by simp [bstr]
  | n :: l, s => by rw [List.foldl_cons, foldl_bstr l]; simp [bstr, ByteArray.push]
theorem conv_bytes {P : Program} {w : World} {t t' el n cap : Nat} {a : Option Addr} {l : List Int} (hs : P.underlying t = some (.slice el)) (he : P.underlying el = some (.int .u8)) (hd : P.underlying t' = some .string)
    (hl : l.length = n) (hc : l = [] ∨ ∃ p, a = some p ∧ ∀ j v, (l.map (Value.int .u8))[j]? = some v → w.cell? (p.add j) = some v) : (convert t t' (.slice a n cap)).run P w = .ok (str (bstr l)) w := by
  rw [run_convert_bytes_string w t t' el a n cap hs he hd]
  cases a with
  | none =>
    rcases hc with rfl | ⟨p, hp, _⟩
    · simp [Conv.bytesToString, str, bstr]; rfl
    · cases hp
  | some p =>
    have hh : (loadCells p n).run P w = .ok (l.map (Value.int .u8)).toArray w := by
      have := run_loadCells_list (P := P) w p (l.map (Value.int .u8)) (fun j v hj => by
        rcases hc with rfl | ⟨p', hp, hc⟩
        · simp at hj
        · injection hp with hp; subst hp; exact hc j v hj)
      simpa [hl] using this
    rw [run_bytesToString w p n cap l hh, foldl_bstr]
    simp [str]
theorem flat_vi (k : IntKind) : ∀ l : List Int, l.flatMap (vi k) = l.map (Value.int k)
  | [] => rfl
  | n :: l => by rw [List.flatMap_cons, flat_vi k l]; rfl
theorem cvBS {v : Value} {n : Nat} {l : List Int} {t' el : Nat} (hx : ev e x = v) (H : Sees C.X hp L 1 v n (l.flatMap (vi .u8))) (hs : C.P.underlying t = some (.slice el)) (he : C.P.underlying el = some (.int .u8)) (hd : C.P.underlying t' = some .string) :
    Pur C (Own C.X hp L) ⟨dst, .convert t t' x, ty, ps, es, gd⟩ e (str (bstr l)) := ⟨fun w hw => by
  obtain ⟨hl, h2⟩ := H
  obtain ⟨a, cap, hv, h3⟩ := h2 w hw
  rw [flat_vi] at hl h3
  have := conv_bytes (P := C.P) (w := w) (cap := cap) (a := a) hs he hd (l := l) (by simpa using hl) (h3.imp (fun h => by simpa using h) (fun h => h))
  simp [execOp, hx, hv, this]⟩
def awo (n : Nat) (i : Int) : Nat := bif Nat.beq n i.toNat then 0 else i.toNat
theorem awo_addr {b n : Nat} {i : Int} : (if n = i.toNat then (⟨b, 0, none⟩ : Addr) else (⟨b, 0, none⟩ : Addr).add (i.toNat * 1)) = ⟨b, awo n i, none⟩ := by
  unfold awo
  cases h : Nat.beq n i.toNat with
  | true => rw [if_pos (Nat.eq_of_beq_eq_true h)]; rfl
  | false =>
    have : ¬ n = i.toNat := fun hh => by rw [hh, Nat.beq_refl] at h; cases h
    rw [if_neg this, Nat.mul_one]
    unfold Addr.add; split
    · rename_i h0; simp [h0]
    · simp
theorem slA {b n el : Nat} {lo' hi' : Option Operand} {i j : Int} (hx : ev e x = .pointer (some ⟨b, 0, none⟩)) (ht : ∀ w, (underlying t).run C.P w = .ok (.array n el) w) (hs : ∀ w, (Go.sizeOf el).run C.P w = .ok 1 w)
    (hlo : optI e lo' 0 = some i) (hhi : optI e hi' n = some j) (hz : (!(decide (0 ≤ i) && decide (i ≤ j) && decide (j ≤ (n : Int)))) = false) :
    Pur C F ⟨dst, .slice t x lo' hi' none, ty, ps, es, gd⟩ e (.slice (some ⟨b, awo n i, none⟩) (j.toNat - i.toNat) (n - i.toNat)) := by
  have hh : 0 ≤ i ∧ i ≤ j ∧ j ≤ (n : Int) := by simp at hz; omega
  obtain ⟨g1, g2, g3⟩ := hh
  refine op (fun w => ?_)
  have r2 := run_bound (P := C.P) (w := w) (code := .sliceAlen) (y := n) hhi ⟨by omega, by omega⟩ ⟨by omega, g3⟩
  have r1 := run_bound (P := C.P) (w := w) (code := .sliceB) (y := j.toNat) hlo ⟨by omega, by omega⟩ ⟨g1, by omega⟩
  have htx := ht w
  have hsx := hs w
  have hw := awo_addr (b := b) (n := n) (i := i)
  cases lo' <;> cases hi' <;> simp only [Option.map_none, Option.map_some, Int.toNat_natCast, Int.toNat_zero] at r1 r2 ⊢ <;>
    simp_all [execOp, Instr.sliceAt, Instr.sureAddr, Instr.sliceBounds]
theorem seesA {X : World} {k b tb n : Nat} {S : List Sg} {f : Nat → Int} {i j : Int} (hL : L[k]? = some (blk b tb (segs S))) (hS : sarr S 0 = some (n, fun q => .int .u8 (f q))) (hz : (!(decide (0 ≤ i) && decide (i ≤ j) && decide (j ≤ (n : Int)))) = false) (cap : Nat) :
    Sees X hp L 1 (.slice (some ⟨b, awo n i, none⟩) (j.toNat - i.toNat) cap) (j.toNat - i.toNat) ((awin f i.toNat j.toNat).flatMap (vi .u8)) := by
  have hh : 0 ≤ i ∧ i ≤ j ∧ j ≤ (n : Int) := by simp at hz; omega
  obtain ⟨g1, g2, g3⟩ := hh
  rw [flat_vi]
  refine ⟨by simp [awin], fun w hw => ⟨_, _, rfl, ?_⟩⟩
  by_cases h0 : j.toNat - i.toNat = 0
  · left; simp [awin, h0]
  · right
    have hne : Nat.beq n i.toNat = false := by
      cases h : Nat.beq n i.toNat with
      | false => rfl
      | true => have := Nat.eq_of_beq_eq_true h; omega
    refine ⟨_, rfl, fun q v hq => ?_⟩
    have hlt : q < j.toNat - i.toNat := by
      have := (List.getElem?_eq_some_iff.1 hq).1
      simpa [awin] using this
    have hv : v = .int .u8 (f (i.toNat + q)) := by
      simp [awin, hlt] at hq
      exact hq.symm
    have hg := sarr_get hS (show i.toNat + q < n by omega)
    have hc := cell_blk (hw.get hL) hg
    rw [hv]
    have e1 : (⟨b, awo n i, none⟩ : Addr).add q = ⟨b, 0 + (i.toNat + q), none⟩ := by
      simp only [awo, hne, cond_false]
      unfold Addr.add; split
      · rename_i h; simp [h]
      · simp
    rw [e1]; exact hc
end
end Kot
