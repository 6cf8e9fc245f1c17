/- Words for walking Go functions: states of joins and loops, guards, pointers held against nil, whole structs; no program is named here. -/
import Derived.Test.YtkjkgdhgcdgbhaaGreatDoorBase4
namespace Kot
open Go
def Hg {σ ι : Type} (sl : σ → ι → List (Nat × Value)) (Φ : σ → ι → HL → Prop) (hp : HL) (M : σ → ι → List HP) : σ → JU → HL → List HP → Prop :=
  fun s e h L => ∃ (e0 : JU) (g : ι), e = XB e0 (sl s g) ∧ sub hp h ∧ Φ s g h ∧ L = M s g
section
variable {α σ ι : Type} {C : NR} {Q : α → LB} {T : Option α} {c y : Code} {e : JU} {hp h : HL} {L : List HP} {ops l : List Oper}
  {K : σ → Option α} {S1 : σ → ι → List (Nat × Value)} {Φ : σ → ι → HL → Prop} {M : σ → ι → List HP}
theorem Hg.mk {s : σ} {g : ι} (hA : WY e (S1 s g)) (hs : sub hp h) (hΦ : Φ s g h) (hL : L = M s g) : Hg S1 Φ hp M s e h L := ⟨e, g, U0 hA, hs, hΦ, hL⟩
theorem EU {s : σ} {g : ι} (hA : WY e (S1 s g)) (hs : sub hp h) (hΦ : Φ s g h) (hL : L = M s g) : XJ (UR K (Hg S1 Φ hp M) Q) (K s) .normal e h L :=
  jn s ⟨e, g, U0 hA, hs, hΦ, hL⟩
theorem Hg.all (k : ∀ s g e0 h, sub hp h → Φ s g h → SJ C Q (K s) y (XB e0 (S1 s g)) h (M s g)) : ∀ s e h L, Hg S1 Φ hp M s e h L → SJ C Q (K s) y e h L := by
  rintro s _ h _ ⟨e0, g, rfl, h1, h2, rfl⟩; exact k s g e0 h h1 h2
theorem NP {F : Nat → σ → Option α} {n : Nat} {s : σ} (h0 : ∀ s, F 0 s = none) (round : ∀ n s g e0 h, sub hp h → Φ s g h → SJ C (UR (F n) (Hg S1 Φ hp M) Q) (F (n + 1) s) c (XB e0 (S1 s g)) h (M s g)) (hi : Hg S1 Φ hp M s e h L) : SJ C Q (F n s) (.loop c) e h L :=
  loop F (Hg S1 Φ hp M) h0 (by rintro n s _ h _ ⟨e0, g, rfl, h1, h2, rfl⟩; exact round n s g e0 h h1 h2) hi
end
section
variable {α : Type} {C : NR} {Q : α → LB} {T A B : Option α} {e : JU} {hp : HL} {L : List HP} {ops l : List Oper} {ty : TypeId} {ps : String} {es : Array Edge} {d t t' : Nat} {x y : Operand} {p q : Bool} {F : World → Prop} {dst : Option Nat} {gd : Option (Nat × Bool)} {G : JU → HL → List HP → Prop}
theorem X9 {P : Program} {X} {w : World} {i b off n : Nat} {tb : TypeId} {cs : List Value} (hw : JH X hp L w) (hL : L[i]? = some (blk b tb cs)) (hn : Nat.ble (off + n) cs.length = true) :
    (loadCells ⟨b, off, none⟩ n).run P w = .ok ((cs.drop off).take n).toArray w := by
  have hn' := Nat.le_of_ble_eq_true hn
  have hl : ((cs.drop off).take n).length = n := by simp; omega
  have := run_loadCells_list (P := P) w ⟨b, off, none⟩ ((cs.drop off).take n) (fun j v hj => by
    rw [Tg _ rfl]
    rw [List.getElem?_take] at hj
    split at hj
    · rw [List.getElem?_drop] at hj; exact RV (hw.get hL) hj
    · cases hj)
  rwa [hl] at this
theorem XA {P : Program} {w : World} {b off n : Nat} {tb : TypeId} {cs : List Value} (hb : w.heap[b]? = some (.cells cs.toArray tb (0, 0))) (hn : Nat.ble (off + n) cs.length = true) :
    (loadCells ⟨b, off, none⟩ n).run P w = .ok ((cs.drop off).take n).toArray w := by
  have hn' := Nat.le_of_ble_eq_true hn
  have hl : ((cs.drop off).take n).length = n := by simp; omega
  have := run_loadCells_list (P := P) w ⟨b, off, none⟩ ((cs.drop off).take n) (fun j v hj => by
    rw [Tg _ rfl]
    rw [List.getElem?_take] at hj
    split at hj
    · rw [List.getElem?_drop] at hj; exact RV hb hj
    · cases hj)
  rwa [hl] at this
theorem GK {n b off : Nat} {tb : TypeId} {cs : List Value} (ha : ∀ w, (isAgg t).run C.P w = .ok true w) (hs : ∀ w, (Go.sizeOf t).run C.P w = .ok n w)
    (hx : ev e x = .pointer (some ⟨b, off, none⟩)) (hk : Kn F b (.cells cs.toArray tb (0, 0))) (hn : Nat.ble (off + n) cs.length = true) :
    NG C F ⟨dst, .load t x, ty, ps, es, gd⟩ e (.agg ((cs.drop off).take n).toArray) :=
  ⟨fun w hw => by
    have := XA (P := C.P) (hk.go w hw) hn
    simp [execOp, hx, Instr.loadAt, Instr.sureAddr, loadVar, ha, hs, this]⟩
def Me (cs : List Value) (off : Nat) : List Value → List Value
  | [] => cs
  | v :: vs => Me (cs.set off v) (off + 1) vs
theorem UY {P : Program} {X : World} {i b : Nat} {tb : TypeId} : ∀ (vs : List Value) (j off : Nat) (L : List HP) (cs : List Value) (w : World), JH X hp L w → L[i]? = some (blk b tb cs) → (vs.all Value.oneCell') = true → off + j + vs.length ≤ cs.length →
    ∃ w', (storeCells ⟨b, off, none⟩ vs j).run P w = .ok () w' ∧ JH X hp (L.set i (blk b tb (Me cs (off + j) vs))) w'
  | [], j, off, L, cs, w, hw, hL, _, _ => ⟨w, rfl, by
      have : L.set i (blk b tb (Me cs (off + j) [])) = L := by
        apply List.ext_getElem?; intro m
        by_cases hm : i = m
        · subst hm; rw [List.getElem?_set_self' , hL]; rfl
        · rw [List.getElem?_set_ne hm]
      rwa [this]⟩
  | v :: vs, j, off, L, cs, w, hw, hL, h1, h2 => by
    simp only [List.length_cons] at h2
    simp only [List.all_cons, Bool.and_eq_true] at h1
    have hv : cs[off + j]? = some (cs[off + j]'(by omega)) := List.getElem?_eq_getElem _
    have hc := RV (hw.get hL) hv
    obtain ⟨hf, ho⟩ := UA (v := v) hw hL hv
    have hlt : i < L.length := by
      rcases Nat.lt_or_ge i L.length with h | h
      · exact h
      · rw [List.getElem?_eq_none h] at hL; cases hL
    obtain ⟨w', hr, ho'⟩ := UY (b := b) (tb := tb) (i := i) vs (j + 1) off (L.set i (blk b tb (cs.set (off + j) v))) (cs.set (off + j) v) _ ho (by simp [hlt]) h1.2 (by rw [List.length_set]; omega)
    refine ⟨w', ?_, ?_⟩
    · simp only [storeCells, Sem.run_bind, Tg ⟨b, off, none⟩ rfl, run_store _ _ _ _ _ h1.1, hc, hf]
      simpa using hr
    · simpa [List.set_set, Me, Nat.add_assoc] using ho'
theorem FD {n i b off : Nat} {tb : TypeId} {cs vs : List Value} (hs : ∀ w, (Go.sizeOf t).run C.P w = .ok n w)
    (hx : ev e x = .pointer (some ⟨b, off, none⟩)) (hy : (ev e y).cells = vs.toArray) (hL : L[i]? = some (blk b tb cs)) (hn : (vs.all Value.oneCell' && Nat.beq vs.length n && Nat.ble (off + n) cs.length) = true)
    (k : G e hp (L.set i (blk b tb (Me cs off vs)))) : EE C ⟨none, .store t x y, ty, ps, es, gd⟩ e hp L G := by
  simp only [Bool.and_eq_true] at hn
  have hn1 : vs.length = n := Nat.eq_of_beq_eq_true hn.1.2
  have hn2 : off + n ≤ cs.length := Nat.le_of_ble_eq_true hn.2
  refine EE.skip (fun w hw => ?_) k
  obtain ⟨w', hr, ho⟩ := UY (P := C.P) vs 0 off L cs w hw hL hn.1.1 (by omega)
  refine ⟨w', ?_, by simpa using ho⟩
  simp [execOp, hx, Instr.storeAt, Instr.sureAddr, storeVar, hs, hy, hn1, hr]
theorem n0 {c : Bool} (h : c = false → LJ C Q T ops l e hp L) : LJ C Q (bif c then none else T) ops l e hp L := by
  cases c
  · exact h rfl
  · exact Aa8
theorem S9 {cd : Code} {c : Bool} (h : c = false → SJ C Q T cd e hp L) : SJ C Q (bif c then none else T) cd e hp L := by
  cases c
  · exact h rfl
  · exact Aa9
theorem ZJ {c u z : Operand} {v : Value} (hc : ev e c = .bool p) (hp : p = true) (hu : ev e u = v) : NG C F ⟨dst, .pick c u z, ty, ps, es, gd⟩ e v := Ui (by rw [hc, hp]) hu
theorem ZI {c u z : Operand} {v : Value} (hc : ev e c = .bool p) (hp : p = false) (hz : ev e z = v) : NG C F ⟨dst, .pick c u z, ty, ps, es, gd⟩ e v := U9 (by rw [hc, hp]) hz
/-! ### pointers against nil, bools -/
variable {el : TypeId} {z : Addr}
theorem VL (ht : ∀ w, (underlying t).run C.P w = .ok (.pointer el) w) (hx : ev e x = .pointer none) (hy : ev e y = .pointer none) :
    NG C F ⟨dst, .binOp .eql t x y t', ty, ps, es, gd⟩ e (.bool true) := UC hx hy (fun w => by obtain ⟨n, hn⟩ : ∃ n, Op.maxDepth = n + 1 := ⟨9999, rfl⟩; simp [eqGuard, binOp, Op.equal, Op.equalIn, hn, ht])
theorem Na (ht : ∀ w, (underlying t).run C.P w = .ok (.pointer el) w) (hx : ev e x = .pointer (some z)) (hy : ev e y = .pointer none) :
    NG C F ⟨dst, .binOp .eql t x y t', ty, ps, es, gd⟩ e (.bool false) := UC hx hy (fun w => by obtain ⟨n, hn⟩ : ∃ n, Op.maxDepth = n + 1 := ⟨9999, rfl⟩; simp [eqGuard, binOp, Op.equal, Op.equalIn, hn, ht])
theorem YQ (ht : ∀ w, (underlying t).run C.P w = .ok (.pointer el) w) (hx : ev e x = .pointer none) (hy : ev e y = .pointer none) :
    NG C F ⟨dst, .binOp .neq t x y t', ty, ps, es, gd⟩ e (.bool false) := UC hx hy (fun w => by obtain ⟨n, hn⟩ : ∃ n, Op.maxDepth = n + 1 := ⟨9999, rfl⟩; simp [eqGuard, binOp, Op.equal, Op.equalIn, hn, ht])
theorem SS (ht : ∀ w, (underlying t).run C.P w = .ok (.pointer el) w) (hx : ev e x = .pointer (some z)) (hy : ev e y = .pointer none) :
    NG C F ⟨dst, .binOp .neq t x y t', ty, ps, es, gd⟩ e (.bool true) := UC hx hy (fun w => by obtain ⟨n, hn⟩ : ∃ n, Op.maxDepth = n + 1 := ⟨9999, rfl⟩; simp [eqGuard, binOp, Op.equal, Op.equalIn, hn, ht])
theorem beq (ht : ∀ w, (underlying t).run C.P w = .ok .bool w) (hx : ev e x = .bool p) (hy : ev e y = .bool q) :
    NG C F ⟨dst, .binOp .eql t x y t', ty, ps, es, gd⟩ e (.bool (p == q)) := UC hx hy (fun w => by obtain ⟨n, hn⟩ : ∃ n, Op.maxDepth = n + 1 := ⟨9999, rfl⟩; simp [eqGuard, binOp, Op.equal, Op.equalIn, hn, ht])
theorem bne (ht : ∀ w, (underlying t).run C.P w = .ok .bool w) (hx : ev e x = .bool p) (hy : ev e y = .bool q) :
    NG C F ⟨dst, .binOp .neq t x y t', ty, ps, es, gd⟩ e (.bool (!(p == q))) := UC hx hy (fun w => by obtain ⟨n, hn⟩ : ∃ n, Op.maxDepth = n + 1 := ⟨9999, rfl⟩; simp [eqGuard, binOp, Op.equal, Op.equalIn, hn, ht])
end
section
variable {α : Type} {C : NR} {fn : Func} {R : α → Value → HL → List HP → Prop} {T : Option α} {e : JU} {hp : HL} {L L2 : List HP}
structure Tm (C : NR) (e : JU) (hp : HL) (L : List HP) (x : ResultVar) (v : Value) : Prop where
  go : ∀ a w, Nu C.N e a → JH C.X hp L w → (match x with
    | .tmp t => pure (a.tmps.getD t undef)
    | .cell b t => do loadVar t (← asAddr (a.tmps.getD b undef)) : Sem Value).run C.P w = .ok v w
theorem rt {t : Nat} {v : Value} (h : e t = v) : Tm C e hp L (.tmp t) v := ⟨fun a w ha _ => by simp [ha.get, h]⟩
theorem HZ {a t i b off tb n : Nat} {cs : List Value} (hx : e a = .pointer (some ⟨b, off, none⟩)) (hA : ∀ w, (isAgg t).run C.P w = .ok true w) (hs : ∀ w, (Go.sizeOf t).run C.P w = .ok n w) (hL : L[i]? = some (blk b tb cs)) (hn : Nat.ble (off + n) cs.length = true) :
    Tm C e hp L (.cell a t) (.agg ((cs.drop off).take n).toArray) :=
  ⟨fun ac w ha hw => by
    have := X9 (P := C.P) hw hL hn
    simp [ha.get, hx, asAddr, loadVar, hA, hs, this]⟩
theorem TT {X hp L} : ∀ w, JH X hp L w → JH X hp L w := fun _ h => h
theorem I7 {X hp L} {A : HP} : ∀ w, JH X hp (A :: L) w → JH X hp L w := fun _ h => h.drop
theorem q1 {a : ResultVar} {x : α} {v : Value} {z : Exit} (hf : fn.results = #[a]) (hz : Ty z) (hdr : ∀ w, JH C.X hp L w → JH C.X hp L2 w) (ha : Tm C e hp L a v) (h : R x v hp L2) : XJ (Vq C fn R) (some x) z e hp L := ⟨fun r hr => by
  cases hr; exact ⟨hz, _, L2, fun a' w hA hO => by
    obtain ⟨f, hf0⟩ : ∃ f : ResultVar → Sem Value, f = (fun rv => match rv with
      | .tmp t => pure (a'.tmps.getD t undef)
      | .cell b t => do loadVar t (← asAddr (a'.tmps.getD b undef))) := ⟨_, rfl⟩
    have e0 : results fn a'.tmps = (do let vs ← fn.results.mapM f; pure (if h : vs.size = 1 then vs[0] else .tuple vs)) := by subst hf0; rfl
    have h1 : (f a).run C.P w = .ok v w := by subst hf0; exact ha.go a' w hA hO
    rw [e0, hf]
    simp [h1], hdr, h⟩⟩
theorem q2 {a b : ResultVar} {x : α} {v u : Value} {z : Exit} (hf : fn.results = #[a, b]) (hz : Ty z) (hdr : ∀ w, JH C.X hp L w → JH C.X hp L2 w) (ha : Tm C e hp L a v) (hb : Tm C e hp L b u) (h : R x (.tuple #[v, u]) hp L2) : XJ (Vq C fn R) (some x) z e hp L := ⟨fun r hr => by
  cases hr; exact ⟨hz, _, L2, fun a' w hA hO => by
    obtain ⟨f, hf0⟩ : ∃ f : ResultVar → Sem Value, f = (fun rv => match rv with
      | .tmp t => pure (a'.tmps.getD t undef)
      | .cell b t => do loadVar t (← asAddr (a'.tmps.getD b undef))) := ⟨_, rfl⟩
    have e0 : results fn a'.tmps = (do let vs ← fn.results.mapM f; pure (if h : vs.size = 1 then vs[0] else .tuple vs)) := by subst hf0; rfl
    have h1 : (f a).run C.P w = .ok v w := by subst hf0; exact ha.go a' w hA hO
    have h2 : (f b).run C.P w = .ok u w := by subst hf0; exact hb.go a' w hA hO
    rw [e0, hf]
    simp [h1, h2], hdr, h⟩⟩
theorem q3 {a b c : ResultVar} {x : α} {v u t : Value} {z : Exit} (hf : fn.results = #[a, b, c]) (hz : Ty z) (hdr : ∀ w, JH C.X hp L w → JH C.X hp L2 w) (ha : Tm C e hp L a v) (hb : Tm C e hp L b u) (hc : Tm C e hp L c t) (h : R x (.tuple #[v, u, t]) hp L2) : XJ (Vq C fn R) (some x) z e hp L := ⟨fun r hr => by
  cases hr; exact ⟨hz, _, L2, fun a' w hA hO => by
    obtain ⟨f, hf0⟩ : ∃ f : ResultVar → Sem Value, f = (fun rv => match rv with
      | .tmp t => pure (a'.tmps.getD t undef)
      | .cell b t => do loadVar t (← asAddr (a'.tmps.getD b undef))) := ⟨_, rfl⟩
    have e0 : results fn a'.tmps = (do let vs ← fn.results.mapM f; pure (if h : vs.size = 1 then vs[0] else .tuple vs)) := by subst hf0; rfl
    have h1 : (f a).run C.P w = .ok v w := by subst hf0; exact ha.go a' w hA hO
    have h2 : (f b).run C.P w = .ok u w := by subst hf0; exact hb.go a' w hA hO
    have h3 : (f c).run C.P w = .ok t w := by subst hf0; exact hc.go a' w hA hO
    rw [e0, hf]
    simp [h1, h2, h3], hdr, h⟩⟩
theorem q4 {a b c d : ResultVar} {x : α} {v u t s : Value} {z : Exit} (hf : fn.results = #[a, b, c, d]) (hz : Ty z) (hdr : ∀ w, JH C.X hp L w → JH C.X hp L2 w) (ha : Tm C e hp L a v) (hb : Tm C e hp L b u) (hc : Tm C e hp L c t) (hd : Tm C e hp L d s) (h : R x (.tuple #[v, u, t, s]) hp L2) : XJ (Vq C fn R) (some x) z e hp L := ⟨fun r hr => by
  cases hr; exact ⟨hz, _, L2, fun a' w hA hO => by
    obtain ⟨f, hf0⟩ : ∃ f : ResultVar → Sem Value, f = (fun rv => match rv with
      | .tmp t => pure (a'.tmps.getD t undef)
      | .cell b t => do loadVar t (← asAddr (a'.tmps.getD b undef))) := ⟨_, rfl⟩
    have e0 : results fn a'.tmps = (do let vs ← fn.results.mapM f; pure (if h : vs.size = 1 then vs[0] else .tuple vs)) := by subst hf0; rfl
    have h1 : (f a).run C.P w = .ok v w := by subst hf0; exact ha.go a' w hA hO
    have h2 : (f b).run C.P w = .ok u w := by subst hf0; exact hb.go a' w hA hO
    have h3 : (f c).run C.P w = .ok t w := by subst hf0; exact hc.go a' w hA hO
    have h4 : (f d).run C.P w = .ok s w := by subst hf0; exact hd.go a' w hA hO
    rw [e0, hf]
    simp [h1, h2, h3, h4], hdr, h⟩⟩
end
section
variable {α : Type} {C : NR} {Q : α → LB} {T A B : Option α} {e : JU} {hp : HL} {L : List HP} {ops l : List Oper} {ty : TypeId} {ps : String} {es : Array Edge} {d t t' : Nat} {x y : Operand} {p q : Bool} {F : World → Prop} {dst : Option Nat} {gd : Option (Nat × Bool)} {G : JU → HL → List HP → Prop}
theorem ZT {k el : Nat} (hN : Nat.blt d C.N = true) (ht : ∀ w, (underlying t).run C.P w = .ok (.slice el) w) (hs : ∀ w, (Go.sizeOf el).run C.P w = .ok k w)
    (K : ∀ b, G (JI e d (.slice (some ⟨b, 0, none⟩) 0 0)) hp (blk b el [] :: L)) : EE C ⟨some d, .buildSlice t 0 #[], ty, ps, es, gd⟩ e hp L G := by
  refine ⟨fun a w ha hw next Q' hn => ?_⟩
  have : (execOp a.eval ⟨some d, .buildSlice t 0 #[], ty, ps, es, gd⟩).run C.P w = .ok (.value (.slice (some ⟨w.heap.size, 0, none⟩) 0 0)) (w.alloc (.cells #[] el (0, 0))) := by
    simp [execOp, Instr.buildSlice, ht, hs, Instr.fill, newRow]
    congr 2
    apply Array.eq_empty_of_size_eq_zero; simp
  simp only [Oper.wp, this, Oper.upon]
  exact hn _ _ _ _ _ (K _) (ha.put hN _) (hw.new _)
end
end Kot
