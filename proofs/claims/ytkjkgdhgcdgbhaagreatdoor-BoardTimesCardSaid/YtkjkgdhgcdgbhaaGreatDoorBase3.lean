/- Words for walking Go functions: joins, loops, what is let go; slices that are only read, slices that grow; no program is named here. -/
import Derived.Test.YtkjkgdhgcdgbhaaGreatDoorBase2
namespace Kot
open Go
/-! ### joins and loops -/
def UR {α σ : Type} (K : σ → Option α) (St : σ → JU → HL → List HP → Prop) (Q : α → LB) : α → LB := fun r x e hp L =>
  match x with
  | .normal => ∃ s, St s e hp L ∧ K s = some r
  | x => Q r x e hp L
section
variable {α σ : Type} {C : NR} {Q : α → LB} {T : Option α} {x y c : Code} {e : JU} {hp : HL} {L : List HP} {ops l : List Oper}
  {K : σ → Option α} {St : σ → JU → HL → List HP → Prop}
theorem Jy {K : σ → Option α} {St : σ → JU → HL → List HP → Prop} (hx : SJ C (UR K St Q) T x e hp L)
    (hy : ∀ s e hp L, St s e hp L → SJ C Q (K s) y e hp L) : SJ C Q T (.seq x y) e hp L := by
  refine ⟨fun r hr a w ha hw => wp_seq (Code.wp_mono ?_ (hx.go r hr a w ha hw))⟩
  rintro z a w ⟨e', hp', L', hA, hO, hq⟩
  cases z with
  | normal => obtain ⟨s, hs, hk⟩ := hq; exact (hy s e' hp' L' hs).go r hk a w hA hO
  | _ => exact ⟨e', hp', L', hA, hO, hq⟩
theorem jn (s : σ) (h : St s e hp L) : XJ (UR K St Q) (K s) .normal e hp L := ⟨fun _ hr => ⟨s, h, hr⟩⟩
theorem jr (h : XJ Q T .ret e hp L) : XJ (UR K St Q) T .ret e hp L := ⟨h.go⟩
theorem je {id : Nat} (h : XJ Q T (.exit id) e hp L) : XJ (UR K St Q) T (.exit id) e hp L := ⟨h.go⟩
theorem Wi {p : Nat → Prop} (h : ∃ n, p n) : ∃ n, p n ∧ ∀ m, p m → n ≤ m := by
  obtain ⟨n, hn⟩ := h
  induction n using Nat.strongRecOn with
  | _ n ih =>
    by_cases hh : ∃ m, m < n ∧ p m
    · obtain ⟨m, hm, hp⟩ := hh; exact ih m hm hp
    · exact ⟨n, hn, fun m hm => Nat.le_of_not_lt fun hlt => hh ⟨m, hlt, hm⟩⟩
theorem loop {n : Nat} {s : σ} (F : Nat → σ → Option α) (St : σ → JU → HL → List HP → Prop) (h0 : ∀ s, F 0 s = none) (round : ∀ n s e hp L, St s e hp L → SJ C (UR (F n) St Q) (F (n + 1) s) c e hp L) (h : St s e hp L) : SJ C Q (F n s) (.loop c) e hp L := by
  refine ⟨fun r hr a w ha hw => ?_⟩
  let I : Nat → Act → World → Prop := fun n a w => ∃ s e hp L, Nu C.N e a ∧ JH C.X hp L w ∧ St s e hp L ∧ F n s = some r
  open Classical in
  let μ : Act → World → Nat := fun a w => if h : ∃ n, I n a w then Classical.choose (Wi h) else 0
  refine wp_loop (fun a w => ∃ n, I n a w) μ ⟨n, s, e, hp, L, ha, hw, h, hr⟩ ?_
  intro a w hI
  have hm : μ a w = Classical.choose (Wi hI) := by simp only [μ]; rw [dif_pos hI]
  have hsp := Classical.choose_spec (Wi hI)
  rw [← hm] at hsp
  obtain ⟨⟨s, e, hp, L, hA, hO, hs, hF⟩, _⟩ := hsp
  generalize hk : μ a w = k at *
  cases k with
  | zero => rw [h0] at hF; cases hF
  | succ k =>
    refine Code.wp_mono ?_ ((round k s e hp L hs).go r hF a w hA hO)
    rintro z a' w' ⟨e', hp', L', hA', hO', hq⟩
    cases z with
    | normal =>
      obtain ⟨s', hs', hF'⟩ := hq
      have hI' : ∃ n, I n a' w' := ⟨k, s', e', hp', L', hA', hO', hs', hF'⟩
      refine ⟨hI', ?_⟩
      have h1 : μ a' w' = Classical.choose (Wi hI') := by simp only [μ]; rw [dif_pos hI']
      have h2 := (Classical.choose_spec (Wi hI')).2 k ⟨s', e', hp', L', hA', hO', hs', hF'⟩
      rw [← h1] at h2
      omega
    | _ => exact ⟨e', hp', L', hA', hO', hq⟩
def XB (e : JU) : List (Nat × Value) → JU
  | [] => e
  | (d, v) :: r => JI (XB e r) d v
def WY (e : JU) : List (Nat × Value) → Prop
  | [] => True
  | (d, v) :: r => e d = v ∧ WY e r
theorem U0 {e : JU} : ∀ {l : List (Nat × Value)}, WY e l → e = XB e l
  | [], _ => rfl
  | (d, v) :: r, h => by
    have ih := U0 h.2
    funext n
    simp only [XB, JI]
    cases hb : Nat.beq n d with
    | true => have := Nat.eq_of_beq_eq_true hb; subst this; exact h.1
    | false => rw [cond_false, ← ih]
/-! ### what is let go, what comes first -/
theorem LK {X hp L w} {i : Nat} {A : HP} (h : JH X hp L w) (hi : L[i]? = some A) : JH X hp (A :: L.eraseIdx i) w := by
  obtain ⟨hh, hs, hn, hm⟩ := h.ex
  have key : ∀ {L : List HP} {hh : HL} {i : Nat} {A : HP}, Ut L hh → L[i]? = some A → ∃ h2, Ut (A :: L.eraseIdx i) h2 ∧ h2.Perm hh := by
    intro L
    induction L with
    | nil => intro hh i A _ hi; simp at hi
    | cons B L ih =>
      intro hh i A hs hi
      cases i with
      | zero => simp only [List.getElem?_cons_zero, Option.some.injEq] at hi; subst hi; exact ⟨hh, hs, List.Perm.refl _⟩
      | succ i =>
        obtain ⟨h1, h2, rfl, hb, hs⟩ := hs
        obtain ⟨k, ⟨k1, k2, rfl, ha, hk⟩, hp⟩ := ih hs (by simpa using hi)
        refine ⟨k1 ++ (h1 ++ k2), ⟨k1, h1 ++ k2, rfl, ha, h1, k2, rfl, hb, hk⟩, ?_⟩
        refine List.Perm.trans ?_ (List.Perm.append_left h1 hp)
        rw [← List.append_assoc, ← List.append_assoc]
        exact List.Perm.append_right _ List.perm_append_comm
  obtain ⟨h2, hs2, hp2⟩ := key hs hi
  have hpp : (hp ++ h2).Perm (hp ++ hh) := List.Perm.append_left _ hp2
  exact ⟨⟨h2, hs2, ((hpp.map _).nodup_iff).2 hn, fun x hx => hm x (hpp.mem_iff.1 hx)⟩, h.os, h.tape, h.output⟩
theorem Wp {X hp w} {A : HP} {L : List HP} (n : Nat) (h : JH X hp (A :: L) w) : JH X hp (L.take n ++ A :: L.drop n) w := by
  obtain ⟨hh, hs, hn, hm⟩ := h.ex
  have key : ∀ (n : Nat) {L : List HP} {A : HP} {hh : HL}, Ut (A :: L) hh → ∃ h2, Ut (L.take n ++ A :: L.drop n) h2 ∧ h2.Perm hh := by
    intro n
    induction n with
    | zero => intro L A hh hs; exact ⟨hh, by simpa using hs, List.Perm.refl _⟩
    | succ n ih =>
      intro L A hh hs
      cases L with
      | nil => exact ⟨hh, by simpa using hs, List.Perm.refl _⟩
      | cons B L =>
        obtain ⟨h1, h2, rfl, ha, h3, h4, rfl, hb, hs⟩ := hs
        obtain ⟨k, hk, hp⟩ := ih (L := L) (A := A) (hh := h1 ++ h4) ⟨h1, h4, rfl, ha, hs⟩
        refine ⟨h3 ++ k, ⟨h3, k, rfl, hb, hk⟩, ?_⟩
        refine List.Perm.trans (List.Perm.append_left h3 hp) ?_
        rw [← List.append_assoc, ← List.append_assoc]
        exact List.Perm.append_right _ List.perm_append_comm
  obtain ⟨h2, hs2, hp2⟩ := key n hs
  have hpp : (hp ++ h2).Perm (hp ++ hh) := List.Perm.append_left _ hp2
  exact ⟨⟨h2, hs2, ((hpp.map _).nodup_iff).2 hn, fun x hx => hm x (hpp.mem_iff.1 hx)⟩, h.os, h.tape, h.output⟩
theorem LJ.cv {L' : List HP} {hp' : HL} (hc : ∀ w, JH C.X hp L w → JH C.X hp' L' w) (k : LJ C Q T ops l e hp' L') : LJ C Q T ops l e hp L :=
  ⟨fun r hr a w ha hw => k.go r hr a w ha (hc w hw)⟩
theorem SJ.cv {L' : List HP} {hp' : HL} (hc : ∀ w, JH C.X hp L w → JH C.X hp' L' w) (k : SJ C Q T c e hp' L') : SJ C Q T c e hp L :=
  ⟨fun r hr a w ha hw => k.go r hr a w ha (hc w hw)⟩
theorem LJ.cx {ι : Type} {L' : ι → List HP} {hp' : ι → HL} {Φ : ι → Prop} (hc : ∀ w, JH C.X hp L w → ∃ i, Φ i ∧ JH C.X (hp' i) (L' i) w) (k : ∀ i, Φ i → LJ C Q T ops l e (hp' i) (L' i)) : LJ C Q T ops l e hp L :=
  ⟨fun r hr a w ha hw => let ⟨i, hi, ho⟩ := hc w hw; (k i hi).go r hr a w ha ho⟩
theorem SJ.cx {ι : Type} {L' : ι → List HP} {hp' : ι → HL} {Φ : ι → Prop} (hc : ∀ w, JH C.X hp L w → ∃ i, Φ i ∧ JH C.X (hp' i) (L' i) w) (k : ∀ i, Φ i → SJ C Q T c e (hp' i) (L' i)) : SJ C Q T c e hp L :=
  ⟨fun r hr a w ha hw => let ⟨i, hi, ho⟩ := hc w hw; (k i hi).go r hr a w ha ho⟩
theorem dr {A : HP} (i : Nat) (hi : L[i]? = some A) (k : LJ C Q T ops l e hp (L.eraseIdx i)) : LJ C Q T ops l e hp L := LJ.cv (fun _ h => (LK h hi).drop) k
end
/-! ### a let -/
section
variable {α : Type} {C : NR} {Q : α → LB} {e : JU} {hp : HL} {L : List HP} {ops l : List Oper} {ty : TypeId} {ps : String} {es : Array Edge} {d : Nat} {x : Operand} {k : IntKind} {a : Int} {p : Bool}
theorem PE {K : Int → Option α} (hN : Nat.blt d C.N = true) (hx : ev e x = .int k a) (h : ∀ z, LJ C Q (K z) ops l (JI e d (.int k z)) hp L) :
    LJ C Q (bnd a K) ops (⟨some d, .assign x, ty, ps, es, none⟩ :: l) e hp L := U1 hN Bc (by rw [hx]; exact h a)
theorem Zk {K : Bool → Option α} (hN : Nat.blt d C.N = true) (hx : ev e x = .bool p) (h : ∀ z, LJ C Q (K z) ops l (JI e d (.bool z)) hp L) :
    LJ C Q (bnd p K) ops (⟨some d, .assign x, ty, ps, es, none⟩ :: l) e hp L := U1 hN Bc (by rw [hx]; exact h p)
end
/-! ### slices that are only read -/
def XD (hp : HL) (k : Nat) (v : Value) (l : List Value) : Prop :=
  ∃ a n cap, v = .slice a n cap ∧ l.length = n * k ∧ n ≤ cap ∧ (l = [] ∨ ∃ b off cs t fr, a = some ⟨b, off, none⟩ ∧ (b, Obj.cells cs t fr) ∈ hp ∧ ∀ i, i < l.length → cs[off + i]? = l[i]?)
def VQ (hp : HL) (p : Addr) (l : List Value) : Prop :=
  ∃ b off cs t fr, p = ⟨b, off, none⟩ ∧ (b, Obj.cells cs t fr) ∈ hp ∧ ∀ i, i < l.length → cs[off + i]? = l[i]?
def DN {τ : Type} (hp : HL) (k : Nat) (R : HL → τ → List Value → Prop) (v : Value) (xs : List τ) : Prop :=
  ∃ ll : List (List Value), XD hp k v ll.flatten ∧ ll.length = xs.length ∧ ∀ (i : Nat) (x : τ) (c : List Value), xs[i]? = some x → ll[i]? = some c → R hp x c ∧ c.length = k
def sub (h h' : HL) : Prop := ∀ x ∈ h, x ∈ h'
theorem YT (g h : HL) : sub h (g ++ h) := fun x hx => by simp [hx]
theorem XD.mono {h h' k v l} (H : XD h k v l) (s : sub h h') : XD h' k v l := by
  obtain ⟨a, n, cap, hv, hl, hcp, hc⟩ := H
  exact ⟨a, n, cap, hv, hl, hcp, hc.imp id fun ⟨b, off, cs, t, fr, h1, h2, h3⟩ => ⟨b, off, cs, t, fr, h1, s _ h2, h3⟩⟩
theorem VQ.mono {h h' p l} (H : VQ h p l) (s : sub h h') : VQ h' p l := by
  obtain ⟨b, off, cs, t, fr, h1, h2, h3⟩ := H
  exact ⟨b, off, cs, t, fr, h1, s _ h2, h3⟩
def Xm {τ : Type} (R : HL → τ → List Value → Prop) : Prop := ∀ h h' x c, R h x c → sub h h' → R h' x c
theorem DN.mono {τ h h' k v} {R : HL → τ → List Value → Prop} {xs : List τ} (hR : Xm R) (H : DN h k R v xs) (s : sub h h') : DN h' k R v xs := by
  obtain ⟨ll, h1, h2, h3⟩ := H
  exact ⟨ll, h1.mono s, h2, fun i x c hx hc => ⟨hR _ _ _ _ (h3 i x c hx hc).1 s, (h3 i x c hx hc).2⟩⟩
def Bo {τ : Type} (f : τ → List Value) : HL → τ → List Value → Prop := fun _ x c => c = f x
theorem Bo.mono {τ : Type} (f : τ → List Value) : Xm (Bo f) := fun _ _ _ _ h _ => h
def vi (k : IntKind) (n : Int) : List Value := [.int k n]
def vb (b : Bool) : List Value := [.bool b]
def vs (l : List UInt8) : List Value := [str l]
theorem Sa {k : Nat} : ∀ {ll : List (List Value)}, (∀ c ∈ ll, c.length = k) → ll.flatten.length = ll.length * k
  | [], _ => by simp
  | c :: ll, h => by
    have h1 := h c (by simp)
    have ih := Sa (ll := ll) (fun c hc => h c (by simp [hc]))
    simp only [List.flatten_cons, List.length_append, List.length_cons, ih, h1, Nat.succ_mul]; omega
theorem SN {k : Nat} : ∀ {ll : List (List Value)} {i : Nat} {c : List Value}, (∀ c ∈ ll, c.length = k) → ll[i]? = some c → ∀ j, j < k → ll.flatten[i * k + j]? = c[j]?
  | [], i, c, _, hi, _, _ => by simp at hi
  | d :: ll, 0, c, h, hi, j, hj => by
    simp only [List.getElem?_cons_zero, Option.some.injEq] at hi; subst hi
    have := h d (by simp)
    simp only [List.flatten_cons, Nat.zero_mul, Nat.zero_add]
    rw [List.getElem?_append_left (by omega)]
  | d :: ll, i + 1, c, h, hi, j, hj => by
    have h1 := h d (by simp)
    have ih := SN (ll := ll) (i := i) (c := c) (fun c hc => h c (by simp [hc])) (by simpa using hi) j hj
    rw [List.flatten_cons, List.getElem?_append_right (by rw [h1, Nat.succ_mul]; omega), ← ih]
    congr 1; rw [h1, Nat.succ_mul]; omega
theorem DN.all {τ hp k v} {R : HL → τ → List Value → Prop} {xs : List τ} {ll : List (List Value)} (_ : XD hp k v ll.flatten) (h2 : ll.length = xs.length)
    (h3 : ∀ (i : Nat) (x : τ) (c : List Value), xs[i]? = some x → ll[i]? = some c → R hp x c ∧ c.length = k) : ∀ c ∈ ll, c.length = k := by
  intro c hc
  obtain ⟨i, hi, rfl⟩ := List.mem_iff_getElem.1 hc
  exact (h3 i (xs[i]'(by omega)) ll[i] (List.getElem?_eq_getElem _) (List.getElem?_eq_getElem _)).2
theorem DN.len {τ hp k v} {R : HL → τ → List Value → Prop} {xs : List τ} (H : DN hp k R v xs) (hk : 0 < k) : ∃ a cap, v = .slice a xs.length cap := by
  obtain ⟨ll, hS, h2, h3⟩ := H
  have hall := DN.all hS h2 h3
  obtain ⟨a, n, cap, hv, hl, _, _⟩ := hS
  have : n = xs.length := by
    rw [Sa hall, h2] at hl
    exact (Nat.eq_of_mul_eq_mul_right hk hl).symm
  subst this
  exact ⟨a, cap, hv⟩
theorem DN.get {τ hp k v} {R : HL → τ → List Value → Prop} {xs : List τ} {i : Nat} {x : τ} (H : DN hp k R v xs) (hk : 0 < k) (hi : xs[i]? = some x) :
    ∃ a cap c, v = .slice (some a) xs.length cap ∧ R hp x c ∧ c.length = k ∧ VQ hp (a.add (i * k)) c := by
  obtain ⟨a0, cap0, hv0⟩ := H.len hk
  obtain ⟨ll, hS, h2, h3⟩ := H
  have hall := DN.all hS h2 h3
  have hlt : i < xs.length := by
    rcases Nat.lt_or_ge i xs.length with h | h
    · exact h
    · rw [List.getElem?_eq_none h] at hi; cases hi
  have hc : ll[i]? = some (ll[i]'(by omega)) := List.getElem?_eq_getElem _
  have h4 := h3 i x _ hi hc
  have hfl := Sa hall
  obtain ⟨a, n, cap, hv, hl, _, hm⟩ := hS
  rw [hv0] at hv
  injection hv with e1 e2 e3
  subst e1 e2 e3
  have hbig : (i + 1) * k ≤ ll.length * k := Nat.mul_le_mul_right k (by omega)
  rcases hm with hm | ⟨b, off, cs, t, fr, rfl, hmem, hcs⟩
  · exfalso
    have : ll.flatten.length = 0 := by rw [hm]; rfl
    rw [hfl] at this
    rw [Nat.succ_mul] at hbig; omega
  · refine ⟨⟨b, off, none⟩, cap0, _, hv0, h4.1, h4.2, b, off + i * k, cs, t, fr, ?_, hmem, fun j hj => ?_⟩
    · unfold Addr.add; split
      · rename_i h; simp [h]
      · rfl
    · rw [h4.2] at hj
      rw [← SN hall hc j hj, ← hcs (i * k + j) (by rw [hfl]; rw [Nat.succ_mul] at hbig; omega), Nat.add_assoc]
def IE {τ : Type} (xs : List τ) (i : Int) : Option τ := if 0 ≤ i then xs[i.toNat]? else none
section
variable {C : NR} {F : World → Prop} {e : JU} {hp h : HL} {L : List HP} {ty : TypeId} {ps : String} {es : Array Edge} {dst : Option Nat} {gd : Option (Nat × Bool)} {t : Nat} {x y : Operand}
theorem Pd {τ : Type} {xs : List τ} {i : Int} {z : τ} (h : IE xs i = some z) : 0 ≤ i ∧ i < (xs.length : Int) ∧ xs[i.toNat]? = some z := by
  unfold IE at h
  split at h
  · rename_i h0
    refine ⟨h0, ?_, h⟩
    rcases Nat.lt_or_ge i.toNat xs.length with h1 | h1
    · omega
    · rw [List.getElem?_eq_none h1] at h; cases h
  · cases h
theorem UI {τ : Type} {f : τ → List Value} {k : Nat} {v : Value} {xs : List τ} {z : τ} {i : Int} {ki : IntKind} {el : TypeId}
    (hx : ev e x = v) (H : DN h (k + 1) (Bo f) v xs) (hz : IE xs i = some z) (hy : ev e y = .int ki i) (ht : ∀ w, (underlying t).run C.P w = .ok (.slice el) w) (hs : ∀ w, (Go.sizeOf el).run C.P w = .ok (k + 1) w) :
    Vk C F ⟨dst, .indexAddr t x y, ty, ps, es, gd⟩ e (fun p : Addr => .pointer (some p)) (fun p => VQ h p (f z)) := by
  obtain ⟨h0, hlt, hzz⟩ := Pd hz
  obtain ⟨a, cap, c, hv, hR, hc, hP⟩ := H.get (Nat.succ_pos k) hzz
  cases hR
  exact ⟨_, ⟨fun w _ => by simp [execOp, hx, hy, hv, Instr.indexAt, asIntOf, ht, hs, h0, hlt]⟩, hP⟩
theorem VQ.cell {w : World} {p l} {i : Nat} {v : Value} (hk : ∀ x ∈ h, w.heap[x.1]? = some x.2) (H : VQ h p l) (hi : l[i]? = some v) : w.cell? (p.add i) = some v := by
  obtain ⟨b, off, cs, t, fr, rfl, hm, hc⟩ := H
  have hlt : i < l.length := by
    rcases Nat.lt_or_ge i l.length with h | h
    · exact h
    · rw [List.getElem?_eq_none h] at hi; cases hi
  have := hk _ hm
  have ha : (⟨b, off, none⟩ : Addr).add i = ⟨b, off + i, none⟩ := by
    unfold Addr.add; split
    · rename_i h; simp [h]
    · rfl
  rw [ha]
  simp only at this
  simp [World.cell?, this, hc i hlt, hi]
theorem Ug {p : Addr} {v : Value} {cs : List Value} (ha : ∀ w, (isAgg t).run C.P w = .ok false w) (hx : ev e x = .pointer (some p)) (hk : ZN F h) (H : VQ h p cs) (hv : cs[0]? = some v) :
    NG C F ⟨dst, .load t x, ty, ps, es, gd⟩ e v :=
  ⟨fun w hw => by
    have hc := VQ.cell (hk.go w hw) H hv
    have hc' : w.cell? p = some v := by simpa [Addr.add] using hc
    simp [execOp, hx, Instr.loadAt, Instr.sureAddr, loadVar, ha, hc']⟩
theorem Aad {n : Nat} {p : Addr} {cs : List Value} (ha : ∀ w, (isAgg t).run C.P w = .ok true w) (hs : ∀ w, (Go.sizeOf t).run C.P w = .ok n w)
    (hx : ev e x = .pointer (some p)) (hk : ZN F h) (H : VQ h p cs) (hn : Nat.ble n cs.length = true) : NG C F ⟨dst, .load t x, ty, ps, es, gd⟩ e (.agg (cs.take n).toArray) :=
  ⟨fun w hw => by
    have hn' := Nat.le_of_ble_eq_true hn
    have hl : (cs.take n).length = n := by simp; omega
    have hr := run_loadCells_list (P := C.P) w p (cs.take n) (fun j v hj => VQ.cell (hk.go w hw) H (by
      rw [List.getElem?_take] at hj; split at hj
      · exact hj
      · cases hj))
    rw [hl] at hr
    simp [execOp, hx, Instr.loadAt, Instr.sureAddr, loadVar, ha, hs, hr]⟩
theorem faP {f : Nat} {p : Addr} {fs : Array Field} {fd : Field} {n : Nat} {cs : List Value} (hx : ev e x = .pointer (some p)) (H : VQ h p cs)
    (ht : ∀ w, (underlying t).run C.P w = .ok (.struct fs) w) (hf : fs[f]? = some fd) (hs : ∀ w, (Go.sizeOf fd.type).run C.P w = .ok (n + 1) w) :
    Vk C F ⟨dst, .fieldAddr t x f, ty, ps, es, gd⟩ e (fun q : Addr => .pointer (some q)) (fun q => VQ h q (cs.drop fd.offset)) := by
  obtain ⟨b, off, cl, t', fr, rfl, hm, hc⟩ := H
  refine ⟨_, fa hx ht hf hs, b, off + fd.offset, cl, t', fr, rfl, hm, fun i hi => ?_⟩
  rw [List.length_drop] at hi
  rw [List.getElem?_drop, ← hc _ (by omega), Nat.add_assoc]
end
/-! ### slices that grow: their cells are owned -/
def sl (v : Value) (t : TypeId) (k : Nat) (l : List Value) : HP := fun h =>
  ∃ a n cap, v = .slice a n cap ∧ l.length = n * k ∧ n ≤ cap ∧
    ((a = none ∧ n = 0 ∧ cap = 0 ∧ h = []) ∨ ∃ b off cs, a = some ⟨b, off, none⟩ ∧ h = [(b, .cells cs t (0, 0))] ∧ off + cap * k ≤ cs.size ∧ ∀ i, i < l.length → cs[off + i]? = l[i]?)
theorem Sq {X hp L w} {h : HL} {A : HP} (hA : A h) (ho : ∃ hh, Ut L hh ∧ Dz (hp ++ (h ++ hh)) w) (h1 : w.os = X.os) (h2 : w.tape = X.tape) (h3 : w.output = X.output) : JH X hp (A :: L) w := by
  obtain ⟨hh, hs, hsat⟩ := ho
  exact ⟨⟨h ++ hh, ⟨h, hh, rfl, hA, hs⟩, hsat⟩, h1, h2, h3⟩
theorem Yz {X hp L w} (h : JH X hp L w) (t : TypeId) (k : Nat) : JH X hp (sl (.slice none 0 0) t k [] :: L) w := by
  obtain ⟨hh, hs, hsat⟩ := h.ex
  exact Sq (h := []) ⟨none, 0, 0, rfl, by simp, Nat.le_refl _, .inl ⟨rfl, rfl, rfl, rfl⟩⟩ ⟨hh, hs, by simpa using hsat⟩ h.os h.tape h.output
theorem Yw {X hp L w} {b t k n : Nat} {l : List Value} (h : JH X hp (blk b t l :: L) w) (hl : l.length = n * k) : JH X hp (sl (.slice (some ⟨b, 0, none⟩) n n) t k l :: L) w := by
  obtain ⟨hh, ⟨h1, h2, rfl, ha, hs⟩, hsat⟩ := h.ex
  have : h1 = [(b, .cells l.toArray t (0, 0))] := ha
  subst this
  exact Sq ⟨_, n, n, rfl, hl, Nat.le_refl _, .inr ⟨b, 0, _, rfl, rfl, by simp [hl], fun i _ => by simp⟩⟩ ⟨h2, hs, hsat⟩ h.os h.tape h.output
theorem YS {X hp L w} {v : Value} {t k : Nat} {l : List Value} (h : JH X hp (sl v t k l :: L) w) : ∃ g, XD (g ++ hp) k v l ∧ JH X (g ++ hp) L w := by
  obtain ⟨hh, ⟨h1, h2, rfl, ⟨a, n, cap, rfl, hl, hcap, hc⟩, hs⟩, hsat⟩ := h.ex
  rcases hc with ⟨rfl, rfl, rfl, rfl⟩ | ⟨b, off, cs, rfl, rfl, hsz, hcs⟩
  · refine ⟨[], ⟨_, _, _, rfl, hl, hcap, .inl (List.length_eq_zero_iff.1 (by simpa using hl))⟩, ⟨h2, hs, by simpa using hsat⟩, h.os, h.tape, h.output⟩
  · refine ⟨[(b, .cells cs t (0, 0))], ⟨_, _, _, rfl, hl, hcap, .inr ⟨b, off, cs, t, (0, 0), rfl, by simp, hcs⟩⟩, ⟨h2, hs, ?_⟩, h.os, h.tape, h.output⟩
    obtain ⟨hn, hm⟩ := hsat
    have hp1 : (hp ++ ([(b, Obj.cells cs t (0, 0))] ++ h2)).Perm ([(b, Obj.cells cs t (0, 0))] ++ hp ++ h2) := by
      rw [← List.append_assoc]; exact List.Perm.append_right _ List.perm_append_comm
    exact ⟨((hp1.map _).nodup_iff).1 hn, fun x hx => hm x (hp1.mem_iff.2 hx)⟩
/-! ### append -/
def TU (X : World) (hp : HL) (L : List HP) (k : Nat) (x : Value) (n : Nat) (l : List Value) : Prop :=
  l.length = n * k ∧ ∀ w, JH X hp L w → ∃ a cap, x = .slice a n cap ∧ (l = [] ∨ ∃ p, a = some p ∧ ∀ j v, l[j]? = some v → w.cell? (p.add j) = some v)
theorem TU.blk {X hp L} {i b t k n : Nat} {l : List Value} (hi : L[i]? = some (blk b t l)) (hl : l.length = n * k) (cap : Nat) : TU X hp L k (.slice (some ⟨b, 0, none⟩) n cap) n l :=
  ⟨hl, fun w hw => ⟨_, _, rfl, .inr ⟨_, rfl, fun j v hj => by
    have := RV (hw.get hi) hj
    unfold Addr.add; split
    · rename_i h; subst h; exact this
    · simpa using this⟩⟩⟩
theorem TU.rd {X hp L} {k : Nat} {x : Value} {l : List Value} (H : XD hp k x l) : ∃ n, TU X hp L k x n l := by
  obtain ⟨a, n, cap, hv, hl, _, hc⟩ := H
  refine ⟨n, hl, fun w hw => ⟨a, cap, hv, ?_⟩⟩
  rcases hc with rfl | ⟨b, off, cs, t, fr, rfl, hm, hcs⟩
  · exact .inl rfl
  · exact .inr ⟨_, rfl, fun j v hj => VQ.cell (fun x hx => hw.old (b := x.1) (o := x.2) hx) ⟨b, off, cs, t, fr, rfl, hm, hcs⟩ hj⟩
theorem TU.rdl {X hp L τ} {k : Nat} {x : Value} {f : τ → List Value} {xs : List τ} (H : DN hp (k + 1) (Bo f) x xs) : TU X hp L (k + 1) x xs.length (xs.flatMap f) := by
  obtain ⟨ll, hS, h2, h3⟩ := H
  have hall := DN.all hS h2 h3
  have he : xs.map f = ll := by
    apply List.ext_getElem?
    intro i
    rw [List.getElem?_map]
    cases hx : xs[i]? with
    | none =>
      have : xs.length ≤ i := List.getElem?_eq_none_iff.1 hx
      rw [List.getElem?_eq_none (by omega)]; rfl
    | some x =>
      have hlt : i < xs.length := by
        rcases Nat.lt_or_ge i xs.length with h | h
        · exact h
        · rw [List.getElem?_eq_none h] at hx; cases hx
      have hc : ll[i]? = some (ll[i]'(by omega)) := List.getElem?_eq_getElem _
      rw [hc, (h3 i x _ hx hc).1]; rfl
  rw [List.flatMap_def, he]
  obtain ⟨n, hn⟩ := TU.rd (X := X) (L := L) hS
  have : n = xs.length := by
    have := hn.1
    rw [Sa hall, h2] at this
    exact (Nat.eq_of_mul_eq_mul_right (Nat.succ_pos k) this).symm
  subst this
  exact hn
theorem Vh (z : Array Value) (n : Nat) : (Builtin.zeroCells z n).size = n * z.size := by simp [Builtin.zeroCells]
theorem SX {P : Program} {X hp} {L : List HP} {i b : Nat} {t : TypeId} : ∀ (vs : List Value) (j off : Nat) (cs : Array Value) (w : World), JH X hp (L.set i (pt b (.cells cs t (0, 0)))) w → i < L.length →
    (∀ v ∈ vs, v.oneCell' = true) → off + j + vs.length ≤ cs.size →
    ∃ w' cs', (storeCells ⟨b, off, none⟩ vs j).run P w = .ok () w' ∧ JH X hp (L.set i (pt b (.cells cs' t (0, 0)))) w' ∧ cs'.size = cs.size ∧
      (∀ m, m < off + j → cs'[m]? = cs[m]?) ∧ ∀ m, m < vs.length → cs'[off + j + m]? = vs[m]?
  | [], j, off, cs, w, hw, _, _, _ => ⟨w, cs, rfl, hw, rfl, fun _ _ => rfl, fun m hm => by simp at hm⟩
  | v :: vs, j, off, cs, w, hw, hi, h1, h2 => by
    have hL : (L.set i (pt b (Obj.cells cs t (0, 0))))[i]? = some (pt b (.cells cs t (0, 0))) := by simp [hi]
    have hg := hw.get hL
    have hadd : (⟨b, off, none⟩ : Addr).add j = ⟨b, off + j, none⟩ := by
      unfold Addr.add; split
      · rename_i h; simp [h]
      · rfl
    simp only [List.length_cons] at h2
    have hc : w.cell? ⟨b, off + j, none⟩ = some (cs[off + j]'(by omega)) := by
      simp [World.cell?, hg]
    have hf : w.frozen? ⟨b, off + j, none⟩ = false := by simp [World.frozen?, hg]
    have hw1 : JH X hp (L.set i (pt b (.cells (cs.setIfInBounds (off + j) v) t (0, 0)))) (w.setCell ⟨b, off + j, none⟩ v) := by
      have := hw.set (w' := w.setCell ⟨b, off + j, none⟩ v) (o' := .cells (cs.setIfInBounds (off + j) v) t (0, 0)) hL rfl rfl rfl (by simp [World.setCell, Array.getElem?_modify, hg])
        (fun k hk => by simp [World.setCell, Array.getElem?_modify]; omega)
      simpa [List.set_set] using this
    obtain ⟨w', cs', hr, ho, hs, hlo, hhi⟩ := SX vs (j + 1) off (cs.setIfInBounds (off + j) v) _ hw1 hi (fun v hv => h1 v (by simp [hv])) (by simp; omega)
    refine ⟨w', cs', ?_, ho, by simpa using hs, fun m hm => ?_, fun m hm => ?_⟩
    · simp only [storeCells, Sem.run_bind, hadd, run_store _ _ _ _ _ (h1 v (by simp)), hc, hf]
      simpa using hr
    · rw [hlo m (by omega)]; simp [Array.getElem?_setIfInBounds]; omega
    · cases m with
      | zero => rw [Nat.add_zero, hlo _ (by omega)]; simp [Array.getElem?_setIfInBounds]; omega
      | succ m =>
        have := hhi m (by simp at hm; omega)
        simp only [List.getElem?_cons_succ]
        rw [← this]; congr 1; omega
theorem Vw (need : Nat) : ∀ (r c : Nat), c ≤ 2 * need + 510 → Builtin.growBy need r c ≤ 2 * need + 510
  | 0, c, h => h
  | r + 1, c, h => by
    unfold Builtin.growBy; split
    · exact h
    · exact Vw need r _ (by omega)
theorem WN {need cap : Nat} (h : cap < need) : Builtin.nextslicecap need cap ≤ 2 * need + 510 := by
  unfold Builtin.nextslicecap; split
  · omega
  · split
    · omega
    · exact Vw _ _ _ (by omega)
theorem SV {P : Program} {w : World} {k n : Nat} {a : Option Addr} {cap : Nat} {l : List Value} (hl : l.length = n * k)
    (h : l = [] ∨ ∃ p, a = some p ∧ ∀ j v, l[j]? = some v → w.cell? (p.add j) = some v) : (Builtin.firstCells k n (.slice a n cap)).run P w = .ok l.toArray w := by
  cases a with
  | none =>
    rcases h with rfl | ⟨p, hp, _⟩
    · simp [Builtin.firstCells]
    · cases hp
  | some p =>
    rcases h with rfl | ⟨q, hq, hc⟩
    · simp at hl
      have h0 : n * k = 0 := by rw [← hl]
      simp only [Builtin.firstCells, h0]
      rfl
    · injection hq with hq; subst hq
      have := run_loadCells_list (P := P) w p l hc
      rw [hl] at this
      simpa [Builtin.firstCells] using this
def lim (n : Nat) : Option Unit := if n ≤ 1073741824 then some () else none
structure OW (P : Program) (X : World) (hp : HL) (L : List HP) (k : Nat) (x : Value) (n : Nat) (l : List Value) : Prop where
  len : l.length = n * k
  go : ∀ w, JH X hp L w → ∀ w', w'.heap = w.heap → (Builtin.lenOf x).run P w' = .ok n w' ∧ (Builtin.firstCells k n x).run P w' = .ok l.toArray w'
theorem Xr {w w' : World} (h : w'.heap = w.heap) (a : Addr) : w'.cell? a = w.cell? a := by simp [World.cell?, h]
theorem OW.of {P : Program} {X hp L} {k n : Nat} {x : Value} {l : List Value} (h : TU X hp L k x n l) : OW P X hp L k x n l :=
  ⟨h.1, fun w hw w' he => by
    obtain ⟨a, cap, rfl, hc⟩ := h.2 w hw
    refine ⟨rfl, SV h.1 ?_⟩
    rcases hc with hc | ⟨p, hp, hc⟩
    · exact .inl hc
    · exact .inr ⟨p, hp, fun j v hj => by rw [Xr he]; exact hc j v hj⟩⟩
def Yn (d : TypeDesc) : Prop := (∃ u, d = .slice u) ∨ d = .string
theorem WV {P : Program} {X hp} {L : List HP} {w : World} {i t k n m by_ ts tx : Nat} {v x z : Value} {l l2 : List Value} {ty : TypeId} {inf : TypeInfo} {dx : TypeDesc}
    (hw : JH X hp L w) (hi : L[i]? = some (sl v t (k + 1) l)) (hm : l.length = m * (k + 1)) (hS : OW P X hp L (k + 1) x n l2) (h1 : ∀ v ∈ l2, v.oneCell' = true)
    (ht : ∀ w, (underlying ts).run P w = .ok (.slice t) w) (hx : ∀ w, (underlying tx).run P w = .ok dx w) (hdx : Yn dx)
    (hz : ∀ w, (zeroValue t).run P w = .ok z w) (hzs : z.cells.size = k + 1) (hs : ∀ w, (Go.sizeOf t).run P w = .ok (k + 1) w) (hin : ∀ w, (typeInfo t).run P w = .ok inf w) (hby : inf.bytes = by_) (hb : Nat.ble by_ 65536 = true) (hlim : m + n ≤ 1073741824) :
    ∃ v' w', (Builtin.append_ #[ts, tx] ty #[v, x]).run P w = .ok v' w' ∧ JH X hp (L.set i (sl v' t (k + 1) (l ++ l2))) w' := by
  obtain ⟨hl2, hSw⟩ := hS
  obtain ⟨hlen, hfx⟩ := hSw w hw w rfl
  obtain ⟨hlen', hfx'⟩ := hSw w hw w.drew rfl
  have hby' := Nat.le_of_ble_eq_true hb
  -- the owned part, by itself
  have hw' := LK hw hi
  obtain ⟨hh, ⟨g1, g2, rfl, ⟨a, n0, cap, rfl, hl, hcap, hc⟩, hs2⟩, hsat⟩ := hw'.ex
  have hmn : n0 = m := by rw [hl] at hm; exact Nat.eq_of_mul_eq_mul_right (Nat.succ_pos k) hm
  subst hmn
  -- put it WA
  have WA : ∀ {w' : World} {A : HP}, JH X hp (A :: L.eraseIdx i) w' → JH X hp (L.set i A) w' := by
    intro w' A h
    have hlt : i < L.length := by
      rcases Nat.lt_or_ge i L.length with h | h
      · exact h
      · rw [List.getElem?_eq_none h] at hi; cases hi
    have h2 := Wp i h
    have e : (L.eraseIdx i).take i ++ A :: (L.eraseIdx i).drop i = L.set i A := by
      rw [List.eraseIdx_eq_take_drop_succ, List.set_eq_take_append_cons_drop, if_pos hlt]
      have h3 : (List.take i L).length = i := by simp; omega
      rw [List.take_append_of_le_length (by omega), List.drop_append_of_le_length (by omega)]
      simp [List.take_take]
    rwa [e] at h2
  simp only [Builtin.append_]
  by_cases hroom : n0 + n ≤ cap
  · -- within the capacity
    rcases hc with ⟨rfl, rfl, rfl, rfl⟩ | ⟨b, off, cs, rfl, rfl, hsz, hcs⟩
    · have hn0 : n = 0 := by omega
      subst hn0
      have : l2 = [] := List.length_eq_zero_iff.1 (by simpa using hl2)
      subst this
      refine ⟨.slice none 0 0, w, by rcases hdx with ⟨u, rfl⟩ | rfl <;> simp [ht, hx, hs, hlen, hfx], WA ?_⟩
      have : l = [] := List.length_eq_zero_iff.1 (by simpa using hl)
      subst this
      exact Sq (h := []) ⟨none, 0, 0, rfl, by simp, Nat.le_refl _, .inl ⟨rfl, rfl, rfl, rfl⟩⟩ ⟨g2, hs2, hsat⟩ hw.os hw.tape hw.output
    · have hw0 : JH X hp ((pt b (.cells cs t (0, 0)) :: L.eraseIdx i).set 0 (pt b (.cells cs t (0, 0)))) w :=
        Sq (h := [(b, .cells cs t (0, 0))]) rfl ⟨g2, hs2, hsat⟩ hw.os hw.tape hw.output
      have hmul : n0 * (k + 1) + n * (k + 1) ≤ cap * (k + 1) := by rw [← Nat.add_mul]; exact Nat.mul_le_mul_right _ hroom
      obtain ⟨w', cs', hr, ho, hsz', hlo, hhi⟩ := SX (P := P) l2 0 (off + n0 * (k + 1)) cs w hw0 (by simp) h1 (by omega)
      have ha : (⟨b, off, none⟩ : Addr).add (n0 * (k + 1)) = ⟨b, off + n0 * (k + 1), none⟩ := by
        unfold Addr.add; split
        · rename_i h; simp [h]
        · rfl
      refine ⟨.slice (some ⟨b, off, none⟩) (n0 + n) cap, w', by rcases hdx with ⟨u, rfl⟩ | rfl <;> simp [ht, hx, hs, hlen, hfx, hroom, ha, hr], WA ?_⟩
      obtain ⟨hh', ⟨k1, k2, rfl, hk1, hk2⟩, hsat'⟩ := ho.ex
      have : k1 = [(b, .cells cs' t (0, 0))] := hk1
      subst this
      refine Sq (h := [(b, .cells cs' t (0, 0))]) ⟨_, _, _, rfl, by simp [hl, hl2, Nat.add_mul], hroom, .inr ⟨b, off, cs', rfl, rfl, by omega, fun j hj => ?_⟩⟩ ⟨k2, hk2, hsat'⟩ ho.os ho.tape ho.output
      rw [List.length_append] at hj
      by_cases hjl : j < l.length
      · rw [List.getElem?_append_left hjl, ← hcs j hjl, hlo _ (by omega)]
      · rw [List.getElem?_append_right (by omega), ← hhi (j - l.length) (by omega)]; congr 1; omega
  · -- anew
    have hcapl := WN (need := n0 + n) (cap := cap) (by omega)
    have hbig : ¬ Builtin.nextslicecap (n0 + n) cap * inf.bytes > 2 ^ 48 := by
      have : Builtin.nextslicecap (n0 + n) cap * inf.bytes ≤ (2 * 1073741824 + 510) * 65536 := Nat.mul_le_mul (by omega) (by omega)
      omega
    have hov : ¬ ((n0 : Int) + (n : Int) > IntKind.i64.max ∧ inf.bytes = 0) := by
      intro h; have := h.1; simp [IntKind.max, IntKind.bits, IntKind.signed] at this; omega
    have hfo : (Builtin.firstCells (k + 1) n0 (.slice a n0 cap)).run P w.drew = .ok l.toArray w.drew := by
      refine SV hl ?_
      rcases hc with ⟨rfl, rfl, rfl, rfl⟩ | ⟨b, off, cs, rfl, rfl, hsz, hcs⟩
      · exact .inl (List.length_eq_zero_iff.1 (by simpa using hl))
      · refine .inr ⟨_, rfl, fun j v hj => ?_⟩
        have hlt : j < l.length := by
          rcases Nat.lt_or_ge j l.length with h | h
          · exact h
          · rw [List.getElem?_eq_none h] at hj; cases hj
        have hb := hsat.2 (b, .cells cs t (0, 0)) (by simp)
        have ha : (⟨b, off, none⟩ : Addr).add j = ⟨b, off + j, none⟩ := by
          unfold Addr.add; split
          · rename_i h; simp [h]
          · rfl
        rw [ha]
        simp only at hb
        have hb' : w.drew.heap[b]? = some (.cells cs t (0, 0)) := hb
        simp [World.cell?, hb', hcs j hlt, hj]
    have hforced : ∀ q, (Question.appendCap (n0 + n) cap t).forced = q → q = false := fun q h => by rw [← h]; rfl
    generalize hnc : (Question.appendCap (n0 + n) cap t).cut (w.tape w.drawn (Question.appendCap (n0 + n) cap t)) = nc
    have hncl : n0 + n ≤ nc := by rw [← hnc]; simp [Question.cut]
    refine ⟨.slice (some ⟨w.heap.size, 0, none⟩) (n0 + n) nc, w.drew.alloc (.cells (l.toArray ++ l2.toArray ++ Builtin.zeroCells z.cells (nc - (n0 + n))) t (0, 0)), ?_, WA ?_⟩
    · have hov' : ¬ (9223372036854775807 < (n0 : Int) + (n : Int) ∧ inf.bytes = 0) := by
        intro h; omega
      have hbig' : ¬ 281474976710656 < Builtin.nextslicecap (n0 + n) cap * inf.bytes := by omega
      have hfr : (Question.appendCap (n0 + n) cap t).forced = false := rfl
      have e : (l ++ l2).toArray = l.toArray ++ l2.toArray := by simp
      rcases hdx with ⟨u, rfl⟩ | rfl
      all_goals simp [ht, hx, hs, hlen, hroom, hin, hov', hbig', hfr, hnc, hfo, hfx', hz, newRow]
      all_goals rw [e, Array.append_assoc]
    · have hw1 : JH X hp (L.eraseIdx i) w.drew := (hw'.drop).same rfl rfl rfl rfl
      have hw2 := hw1.new (.cells (l.toArray ++ l2.toArray ++ Builtin.zeroCells z.cells (nc - (n0 + n))) t (0, 0))
      obtain ⟨hh', ⟨k1, k2, rfl, hk1, hk2⟩, hsat'⟩ := hw2.ex
      have : k1 = [(w.heap.size, .cells (l.toArray ++ l2.toArray ++ Builtin.zeroCells z.cells (nc - (n0 + n))) t (0, 0))] := hk1
      subst this
      refine Sq (h := [(w.heap.size, .cells (l.toArray ++ l2.toArray ++ Builtin.zeroCells z.cells (nc - (n0 + n))) t (0, 0))]) ⟨_, _, _, rfl, by simp [hl, hl2, Nat.add_mul], hncl, .inr ⟨_, 0, _, rfl, rfl, ?_, fun j hj => ?_⟩⟩ ⟨k2, hk2, hsat'⟩ hw2.os hw2.tape hw2.output
      · simp only [Array.size_append, List.size_toArray, Vh, hl, hl2, hzs]
        rw [Nat.zero_add, ← Nat.add_mul, ← Nat.add_mul]
        exact Nat.mul_le_mul_right _ (by omega)
      · rw [Nat.zero_add, Array.getElem?_append_left (by simpa using hj)]; simp
theorem Wk {n : Nat} {u : Unit} (h : lim n = some u) : n ≤ 1073741824 := by
  unfold lim at h; split at h
  · assumption
  · cases h
section
variable {C : NR} {e : JU} {hp : HL} {L : List HP} {ty : TypeId} {ps : String} {es : Array Edge} {d : Nat} {gd : Option (Nat × Bool)} {G : JU → HL → List HP → Prop} {x y : Operand}
theorem apd {i t k n m ts tx : Nat} {v z w0 : Value} {c c2 : List Value} {inf : TypeInfo} {un : Unit} {dx : TypeDesc} (hN : Nat.blt d C.N = true)
    (hv : ev e x = v) (hw : ev e y = w0) (hi : L[i]? = some (sl v t (k + 1) c)) (hm : c.length = m * (k + 1)) (hS : OW C.P C.X hp L (k + 1) w0 n c2) (h1 : ∀ v ∈ c2, v.oneCell' = true) (hl : lim (m + n) = some un)
    (ht : ∀ w, (underlying ts).run C.P w = .ok (.slice t) w) (hx : ∀ w, (underlying tx).run C.P w = .ok dx w) (hdx : Yn dx)
    (hz : ∀ w, (zeroValue t).run C.P w = .ok z w) (hzs : z.cells.size = k + 1) (hs : ∀ w, (Go.sizeOf t).run C.P w = .ok (k + 1) w) (hin : ∀ w, (typeInfo t).run C.P w = .ok inf w) (hb : Nat.ble inf.bytes 65536 = true)
    (h : ∀ v' w, JH C.X hp (L.set i (sl v' t (k + 1) (c ++ c2))) w → G (JI e d v') hp (L.set i (sl v' t (k + 1) (c ++ c2)))) :
    EE C ⟨some d, .call ⟨.builtin .append, #[x, y], #[ts, tx]⟩, ty, ps, es, gd⟩ e hp L G :=
  ⟨fun a w ha hO next Q' hn => by
    obtain ⟨v', w', hr', hO'⟩ := WV (P := C.P) (ty := ty) hO hi hm hS h1 ht hx hdx hz hzs hs hin rfl hb (Wk hl)
    have hx' : (execOp a.eval ⟨some d, .call ⟨.builtin .append, #[x, y], #[ts, tx]⟩, ty, ps, es, gd⟩).run C.P w = .ok (.value v') w' := by
      simp [execOp, ha.eval, resolve, invoke, builtin, hv, hw, hr']
    simp only [Oper.wp, hx', Oper.upon]
    exact hn _ _ _ _ _ (h v' w' hO') (ha.put hN _) hO'⟩
end
end Kot
