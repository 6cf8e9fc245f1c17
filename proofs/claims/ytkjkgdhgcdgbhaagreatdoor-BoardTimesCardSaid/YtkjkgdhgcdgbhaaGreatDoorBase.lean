/- Words for walking Go functions: owned cells, kept memory, environments; no program is named here. -/
import Derived.Below
import Derived.Laws.Cells
import Derived.Laws.Alloc2
namespace Kot
open Go
abbrev HL := List (Nat × Obj)
abbrev HP := HL → Prop
abbrev JU := Nat → Value
def pt (b : Nat) (o : Obj) : HP := fun h => h = [(b, o)]
def blk (b : Nat) (t : TypeId) (l : List Value) : HP := pt b (.cells l.toArray t (0, 0))
def Ut : List HP → HL → Prop
  | [], h => h = []
  | A :: L, h => ∃ h1 h2, h = h1 ++ h2 ∧ A h1 ∧ Ut L h2
def Dz (h : HL) (w : World) : Prop := (h.map Prod.fst).Nodup ∧ ∀ x ∈ h, w.heap[x.1]? = some x.2
structure JH (X : World) (hp : HL) (L : List HP) (w : World) : Prop where
  ex : ∃ h, Ut L h ∧ Dz (hp ++ h) w
  os : w.os = X.os
  tape : w.tape = X.tape
  output : w.output = X.output
def JI (e : JU) (d : Nat) (v : Value) : JU := fun n => bif Nat.beq n d then v else e n
def YZ (l : List Value) : JU := fun n => l.getD n undef
def ev (e : JU) : Operand → Value
  | .tmp t => e t
  | .const v => v
  | .global g => .pointer (some ⟨g, 0, none⟩)
  | .func f => .func (.func f) #[] #[]
structure Nu (N : Nat) (e : JU) (a : Act) : Prop where
  size : a.tmps.size = N
  defers : a.defers = []
  get : ∀ n, a.tmps.getD n undef = e n
theorem Nu.eval {N e a} (h : Nu N e a) : a.eval = ev e := by
  funext o; cases o <;> simp [Act.eval, ev, h.get]
theorem Nu.put {N e a} {d : Nat} (h : Nu N e a) (hd : Nat.blt d N = true) (v : Value) : Nu N (JI e d v) (a.put (some d) v) := by
  have hd' : d < N := by simpa using hd
  refine ⟨by simp [Act.put, h.size], by simp [Act.put, h.defers], fun n => ?_⟩
  simp only [Act.put, JI]
  by_cases hn : n = d
  · subst hn
    simp [Array.getD, h.size, hd', Nat.beq_refl]
  · have hb : Nat.beq n d = false := by
      cases hh : Nat.beq n d with
      | false => rfl
      | true => exact absurd (Nat.eq_of_beq_eq_true hh) hn
    rw [hb, cond_false, ← h.get n]
    simp only [Array.getD, Array.size_setIfInBounds]
    split
    · rename_i hlt
      simp only [Array.getInternal_eq_getElem]
      rw [Array.getElem_setIfInBounds_ne _ (fun h => hn h.symm)]
    · rfl
theorem Nu.Yt {N e a} (h : Nu N e a) (v : Value) : Nu N e (a.put none v) := h
structure NR where
  P : Program
  X : World
  N : Nat
abbrev LB := Exit → JU → HL → List HP → Prop
def Yj (C : NR) (Q : LB) : Exit → Act → World → Prop := fun x a w => ∃ e hp L, Nu C.N e a ∧ JH C.X hp L w ∧ Q x e hp L
def S (C : NR) (Q : LB) (c : Code) (e : JU) (hp : HL) (L : List HP) : Prop :=
  ∀ a w, Nu C.N e a → JH C.X hp L w → c.wp C.P (Yj C Q) a w
def Sl (C : NR) (Q : LB) (ops : List Oper) (l : List Oper) (e : JU) (hp : HL) (L : List HP) : Prop :=
  ∀ a w, Nu C.N e a → JH C.X hp L w → wpList C.P ops.toArray (Yj C Q) l a w
structure SJ {α : Type} (C : NR) (Q : α → LB) (T : Option α) (c : Code) (e : JU) (hp : HL) (L : List HP) : Prop where
  go : ∀ r, T = some r → S C (Q r) c e hp L
structure LJ {α : Type} (C : NR) (Q : α → LB) (T : Option α) (ops l : List Oper) (e : JU) (hp : HL) (L : List HP) : Prop where
  go : ∀ r, T = some r → Sl C (Q r) ops l e hp L
structure XJ {α : Type} (Q : α → LB) (T : Option α) (x : Exit) (e : JU) (hp : HL) (L : List HP) : Prop where
  go : ∀ r, T = some r → Q r x e hp L
def Aah (C : NR) (y : Code) (Q : LB) : LB
  | .normal, e, hp, L => S C Q y e hp L
  | x, e, hp, L => Q x e hp L
def VB (id : Nat) (Q : LB) : LB
  | .exit id', e, hp, L => if id' = id then Q .normal e hp L else Q (.exit id') e hp L
  | x, e, hp, L => Q x e hp L
def QY {α : Type} (C : NR) (y : Code) (Q : α → LB) : α → LB := fun r => Aah C y (Q r)
def UM {α : Type} (id : Nat) (Q : α → LB) : α → LB := fun r => VB id (Q r)
section
variable {α : Type} {C : NR} {Q : α → LB} {T A B : Option α} {x y c : Code} {e : JU} {hp : HL} {L : List HP} {ops l : List Oper}
theorem seq (h : SJ C (QY C y Q) T x e hp L) : SJ C Q T (.seq x y) e hp L := by
  refine ⟨fun r hr a w ha hw => wp_seq (Code.wp_mono ?_ (h.go r hr a w ha hw))⟩
  rintro z a w ⟨e', hp', L', hA, hO, hq⟩
  cases z with
  | normal => exact hq a w hA hO
  | _ => exact ⟨e', hp', L', hA, hO, hq⟩
theorem block {id : Nat} (h : SJ C (UM id Q) T x e hp L) : SJ C Q T (.block id x) e hp L := by
  refine ⟨fun r hr a w ha hw => wp_block (Code.wp_mono ?_ (h.go r hr a w ha hw))⟩
  rintro z a w ⟨e', hp', L', hA, hO, hq⟩
  cases z with
  | exit id' =>
    simp only [Exit.inBlock]
    simp only [UM, VB] at hq
    split
    · rename_i hi; rw [if_pos hi] at hq; exact ⟨e', hp', L', hA, hO, hq⟩
    · rename_i hi; rw [if_neg hi] at hq; exact ⟨e', hp', L', hA, hO, hq⟩
  | _ => exact ⟨e', hp', L', hA, hO, hq⟩
theorem Qr {o : Operand} {b : Bool} (hb : ev e o = .bool b) (h1 : SJ C Q A x e hp L) (h2 : SJ C Q B y e hp L) :
    SJ C Q (bif b then A else B) (.cond o x y) e hp L := by
  refine ⟨fun r hr a w ha hw => wp_cond (t := b) (by rw [ha.eval, hb]) ?_⟩
  cases b
  · exact h2.go r hr a w ha hw
  · exact h1.go r hr a w ha hw
theorem I5 {o : Operand} (hb : ev e o = .bool true) (h1 : SJ C Q T x e hp L) : SJ C Q T (.cond o x y) e hp L :=
  ⟨fun r hr a w ha hw => wp_cond (t := true) (by rw [ha.eval, hb]) (h1.go r hr a w ha hw)⟩
theorem HV {o : Operand} (hb : ev e o = .bool false) (h1 : SJ C Q T y e hp L) : SJ C Q T (.cond o x y) e hp L :=
  ⟨fun r hr a w ha hw => wp_cond (t := false) (by rw [ha.eval, hb]) (h1.go r hr a w ha hw)⟩
theorem H9 (h : XJ Q T .normal e hp L) : SJ C Q T .skip e hp L := ⟨fun r hr _ _ ha hw => wp_skip ⟨e, hp, L, ha, hw, h.go r hr⟩⟩
theorem ext {id : Nat} (h : XJ Q T (.exit id) e hp L) : SJ C Q T (.exit id) e hp L := ⟨fun r hr _ _ ha hw => wp_exit ⟨e, hp, L, ha, hw, h.go r hr⟩⟩
theorem ret (h : XJ Q T .ret e hp L) : SJ C Q T .ret e hp L := ⟨fun r hr _ _ ha hw => wp_ret ⟨e, hp, L, ha, hw, h.go r hr⟩⟩
theorem DR {id : Nat} (h : LJ C Q T l l e hp L) : SJ C Q T (.region id l.toArray false) e hp L :=
  ⟨fun r hr a w ha hw => wp_region_lit (h.go r hr a w ha hw)⟩
theorem Bn (h : XJ Q T .normal e hp L) : LJ C Q T ops [] e hp L := ⟨fun r hr _ _ ha hw => wpList_nil ⟨e, hp, L, ha, hw, h.go r hr⟩⟩
theorem nn (h : SJ C Q T y e hp L) : XJ (QY C y Q) T .normal e hp L := ⟨fun r hr => h.go r hr⟩
theorem pr (h : XJ Q T .ret e hp L) : XJ (QY C y Q) T .ret e hp L := ⟨h.go⟩
theorem pe {id : Nat} (h : XJ Q T (.exit id) e hp L) : XJ (QY C y Q) T (.exit id) e hp L := ⟨h.go⟩
theorem br {id : Nat} (h : XJ Q T .ret e hp L) : XJ (UM id Q) T .ret e hp L := ⟨h.go⟩
theorem bn {id : Nat} (h : XJ Q T .normal e hp L) : XJ (UM id Q) T .normal e hp L := ⟨h.go⟩
theorem be {id : Nat} (h : XJ Q T .normal e hp L) : XJ (UM id Q) T (.exit id) e hp L := ⟨fun r hr => by
  show VB id (Q r) (.exit id) e hp L
  simp only [VB, if_true]; exact h.go r hr⟩
theorem Aa8 : LJ C Q none ops l e hp L := ⟨fun _ h => by cases h⟩
theorem Aa9 : SJ C Q none c e hp L := ⟨fun _ h => by cases h⟩
theorem tk {β : Type} {U : Option β} {K : β → Option α} (h : ∀ z, U = some z → LJ C Q (K z) ops l e hp L) : LJ C Q (U.bind K) ops l e hp L :=
  ⟨fun r hr => let ⟨z, h1, h2⟩ := Option.bind_eq_some_iff.1 hr; (h z h1).go r h2⟩
theorem K5 {β : Type} {U : Option β} {K : β → Option α} (h : ∀ z, U = some z → SJ C Q (K z) c e hp L) : SJ C Q (U.bind K) c e hp L :=
  ⟨fun r hr => let ⟨z, h1, h2⟩ := Option.bind_eq_some_iff.1 hr; (h z h1).go r h2⟩
theorem tb {b : Bool} (h1 : b = true → LJ C Q A ops l e hp L) (h2 : b = false → LJ C Q B ops l e hp L) : LJ C Q (bif b then A else B) ops l e hp L := by
  cases b
  · exact h2 rfl
  · exact h1 rfl
theorem Rz {b : Bool} (h1 : b = true → SJ C Q A c e hp L) (h2 : b = false → SJ C Q B c e hp L) : SJ C Q (bif b then A else B) c e hp L := by
  cases b
  · exact h2 rfl
  · exact h1 rfl
end
/-! ### operations -/
structure EE (C : NR) (o : Oper) (e : JU) (hp : HL) (L : List HP) (G : JU → HL → List HP → Prop) : Prop where
  go : ∀ a w, Nu C.N e a → JH C.X hp L w → ∀ (next : Act → World → Prop) (Q' : Exit → Act → World → Prop),
    (∀ e' hp' L' a' w', G e' hp' L' → Nu C.N e' a' → JH C.X hp' L' w' → next a' w') → o.wp C.P a w next Q'
structure NG (C : NR) (F : World → Prop) (o : Oper) (e : JU) (v : Value) : Prop where
  go : ∀ w, F w → (execOp (ev e) o).run C.P w = .ok (.value v) w
structure Vk {ι : Type} (C : NR) (F : World → Prop) (o : Oper) (e : JU) (V : ι → Value) (Φ : ι → Prop) : Prop where
  go : ∃ i, NG C F o e (V i) ∧ Φ i
section
variable {α : Type} {C : NR} {Q : α → LB} {T : Option α} {e : JU} {hp : HL} {L : List HP} {ops l : List Oper} {d : Nat} {v : Value} {o : Op} {ty : TypeId} {ps : String} {es : Array Edge}
  {dst : Option Nat} {gd : Option (Nat × Bool)} {G : JU → HL → List HP → Prop}
theorem EE.of (hN : Nat.blt d C.N = true) (h : NG C (JH C.X hp L) ⟨some d, o, ty, ps, es, gd⟩ e v) (k : G (JI e d v) hp L) : EE C ⟨some d, o, ty, ps, es, gd⟩ e hp L G :=
  ⟨fun a w ha hw next Q' hn => by
    simp only [Oper.wp, ha.eval, h.go w hw, Oper.upon]
    exact hn _ _ _ _ _ k (ha.put hN v) hw⟩
theorem EE.Vi {ι : Type} {V : ι → Value} {Φ : ι → Prop} (hN : Nat.blt d C.N = true) (h : Vk C (JH C.X hp L) ⟨some d, o, ty, ps, es, gd⟩ e V Φ) (k : ∀ i, Φ i → G (JI e d (V i)) hp L) : EE C ⟨some d, o, ty, ps, es, gd⟩ e hp L G :=
  let ⟨i, h1, h2⟩ := h.go; EE.of hN h1 (k i h2)
theorem EE.run {v : Value} {hp' : HL} {L' : List HP} (hN : Nat.blt d C.N = true) (hv : ∀ w, JH C.X hp L w → ∃ w', (execOp (ev e) ⟨some d, o, ty, ps, es, gd⟩).run C.P w = .ok (.value v) w' ∧ JH C.X hp' L' w')
    (k : G (JI e d v) hp' L') : EE C ⟨some d, o, ty, ps, es, gd⟩ e hp L G :=
  ⟨fun a w ha hw next Q' hn => by
    obtain ⟨w', h1, h2⟩ := hv w hw
    simp only [Oper.wp, ha.eval, h1, Oper.upon]
    exact hn _ _ _ _ _ k (ha.put hN v) h2⟩
theorem EE.skip {hp' : HL} {L' : List HP} (hv : ∀ w, JH C.X hp L w → ∃ w', (execOp (ev e) ⟨none, o, ty, ps, es, gd⟩).run C.P w = .ok .skip w' ∧ JH C.X hp' L' w')
    (k : G e hp' L') : EE C ⟨none, o, ty, ps, es, gd⟩ e hp L G :=
  ⟨fun a w ha hw next Q' hn => by
    obtain ⟨w', h1, h2⟩ := hv w hw
    simp only [Oper.wp, ha.eval, h1, Oper.upon]
    exact hn _ _ _ _ _ k (ha.Yt _) h2⟩
theorem O1 (h : EE C ⟨dst, o, ty, ps, es, none⟩ e hp L (LJ C Q T ops l)) : LJ C Q T ops (⟨dst, o, ty, ps, es, none⟩ :: l) e hp L :=
  ⟨fun r hr a w ha hw => wpList_plain rfl fun K hK => h.go a w ha hw _ _ fun _ _ _ _ _ hk ha' hw' => hK _ _ (hk.go r hr _ _ ha' hw')⟩
theorem U1 (hN : Nat.blt d C.N = true) (h : NG C (JH C.X hp L) ⟨some d, o, ty, ps, es, none⟩ e v) (k : LJ C Q T ops l (JI e d v) hp L) : LJ C Q T ops (⟨some d, o, ty, ps, es, none⟩ :: l) e hp L := O1 (EE.of hN h k)
theorem X1 {ι : Type} {V : ι → Value} {Φ : ι → Prop} (hN : Nat.blt d C.N = true) (h : Vk C (JH C.X hp L) ⟨some d, o, ty, ps, es, none⟩ e V Φ) (k : ∀ i, Φ i → LJ C Q T ops l (JI e d (V i)) hp L) : LJ C Q T ops (⟨some d, o, ty, ps, es, none⟩ :: l) e hp L := O1 (EE.Vi hN h k)
theorem Vg {e : JU} {a : Act} {N : Nat} {j dj : Nat} {oj : Oper} (ha : Nu N e a) (hj : ops[j]? = some oj) (hd : oj.dst = some dj) :
    (∀ b, e dj = .bool b → yielded ops.toArray a.tmps j = some b) ∧ (e dj = undef → yielded ops.toArray a.tmps j = none) := by
  have := ha.get dj
  simp only [yielded, List.getElem?_toArray, hj, Option.bind_some, hd]
  simp only [Array.getD_eq_getD_getElem?] at this
  cases h : a.tmps[dj]? with
  | none => rw [h] at this; simp only [Option.getD_none] at this; exact ⟨fun b hb => (by rw [hb] at this; cases this), fun _ => rfl⟩
  | some v => rw [h] at this; simp only [Option.getD_some] at this; subst this; exact ⟨fun b hb => (by rw [hb]), fun hb => (by rw [hb]; rfl)⟩
variable {j dj : Nat} {oj : Oper} {want b : Bool}
structure Vj (e : JU) (ops : List Oper) (j : Nat) (want : Bool) (y : Bool) : Prop where
  go : ∀ {N a}, Nu N e a → (yielded ops.toArray a.tmps j == some want) = y
theorem CW {y : Bool} (hj : ops[j]? = some oj) (hd : oj.dst = some dj) (hb : e dj = .bool b) (hne : (b == want) = y) : Vj e ops j want y :=
  ⟨fun ha => by rw [(Vg ha hj hd).1 b hb]; simpa using hne⟩
theorem MO (hj : ops[j]? = some oj) (hd : oj.dst = some dj) (hb : e dj = undef) : Vj e ops j want false :=
  ⟨fun ha => by rw [(Vg ha hj hd).2 hb]; rfl⟩
theorem I6 {p y : Bool} (hj : ops[j]? = some oj) (hd : oj.dst = some dj) (hb : e dj = .bool p) (hp : p = b) (hne : (b == want) = y) : Vj e ops j want y := by
  subst hp; exact CW hj hd hb hne
theorem gT (h : Vj e ops j want true) (k : LJ C Q T ops (⟨dst, o, ty, ps, es, none⟩ :: l) e hp L) : LJ C Q T ops (⟨dst, o, ty, ps, es, some (j, want)⟩ :: l) e hp L := by
  refine ⟨fun r hr a w ha hw => ?_⟩
  have h1 := h.go ha
  have h := k.go r hr a w ha hw
  unfold wpList at h ⊢
  rw [if_pos (by simp [Region.wanted])] at h
  rw [if_pos (by simpa [Region.wanted] using h1)]
  exact h
theorem gF (hN : Nat.blt d C.N = true) (h : Vj e ops j want false) (k : LJ C Q T ops l (JI e d undef) hp L) : LJ C Q T ops (⟨some d, o, ty, ps, es, some (j, want)⟩ :: l) e hp L := by
  refine ⟨fun r hr a w ha hO => ?_⟩
  unfold wpList
  rw [if_neg (by have := h.go ha; simpa [Region.wanted] using this)]
  exact k.go r hr _ w (ha.put hN _) hO
end
/-! ### owned memory -/
theorem TQ : ∀ {L : List HP} {h : HL} {i : Nat} {A : HP}, Ut L h → L[i]? = some A →
    ∃ h1 h2 h3, h = h1 ++ (h2 ++ h3) ∧ A h2 ∧ ∀ A' h2', A' h2' → Ut (L.set i A') (h1 ++ (h2' ++ h3))
  | [], _, _, _, _, hi => by simp at hi
  | B :: L, h, 0, A, hs, hi => by
    simp only [List.getElem?_cons_zero, Option.some.injEq] at hi
    subst hi
    obtain ⟨h1, h2, rfl, ha, hs⟩ := hs
    exact ⟨[], h1, h2, rfl, ha, fun A' h2' ha' => ⟨h2', h2, rfl, ha', hs⟩⟩
  | B :: L, h, i + 1, A, hs, hi => by
    obtain ⟨h1, h2, rfl, hb, hs⟩ := hs
    obtain ⟨k1, k2, k3, rfl, ha, hk⟩ := TQ hs (by simpa using hi)
    exact ⟨h1 ++ k1, k2, k3, by simp, ha, fun A' h2' ha' => ⟨h1, k1 ++ (h2' ++ k3), by simp, hb, hk A' h2' ha'⟩⟩
theorem JH.get {X hp L w} {i b : Nat} {o : Obj} (h : JH X hp L w) (hi : L[i]? = some (pt b o)) : w.heap[b]? = some o := by
  obtain ⟨hh, hs, _, hm⟩ := h.ex
  obtain ⟨h1, h2, h3, rfl, ha, _⟩ := TQ hs hi
  have : h2 = [(b, o)] := ha
  subst this
  exact hm (b, o) (by simp)
theorem JH.old {X hp L w} {b : Nat} {o : Obj} (h : JH X hp L w) (hi : (b, o) ∈ hp) : w.heap[b]? = some o := by
  obtain ⟨hh, _, _, hm⟩ := h.ex
  exact hm (b, o) (by simp [hi])
theorem JH.set {X hp L w w'} {i b : Nat} {o o' : Obj} (h : JH X hp L w) (hi : L[i]? = some (pt b o))
    (h1 : w'.os = w.os) (h2 : w'.tape = w.tape) (h3 : w'.output = w.output) (hb : w'.heap[b]? = some o') (hk : ∀ k, k ≠ b → w'.heap[k]? = w.heap[k]?) :
    JH X hp (L.set i (pt b o')) w' := by
  obtain ⟨hh, hs, hn, hm⟩ := h.ex
  obtain ⟨k1, k2, k3, rfl, ha, hset⟩ := TQ hs hi
  have : k2 = [(b, o)] := ha
  subst this
  refine ⟨⟨k1 ++ ([(b, o')] ++ k3), hset _ _ rfl, by simpa using hn, fun x hx => ?_⟩, h1.trans h.os, h2.trans h.tape, h3.trans h.output⟩
  by_cases hxb : x.1 = b
  · have : x = (b, o') := by
      rcases x with ⟨x1, x2⟩
      simp only at hxb; subst hxb
      simp only [List.map_append, List.map_cons, List.nodup_append, List.nodup_cons] at hn
      simp only [List.mem_append, List.mem_cons, Prod.mk.injEq, List.not_mem_nil, or_false] at hx
      rcases hx with hx | hx | ⟨_, rfl⟩ | hx
      · have h5 : x1 ∈ List.map Prod.fst hp := List.mem_map.2 ⟨_, hx, rfl⟩
        exact absurd rfl (hn.2.2 x1 h5 x1 (by simp))
      · have h5 : x1 ∈ List.map Prod.fst k1 := List.mem_map.2 ⟨_, hx, rfl⟩
        exact absurd rfl (hn.2.1.2.2 x1 h5 x1 (by simp))
      · rfl
      · have h5 : x1 ∈ List.map Prod.fst k3 := List.mem_map.2 ⟨_, hx, rfl⟩
        have h6 := hn.2.1.2.1
        exact absurd rfl (h6.2.2 x1 (by simp) x1 h5)
    subst this; exact hb
  · rw [hk _ hxb]
    refine hm x ?_
    simp only [List.mem_append, List.mem_cons, List.not_mem_nil, or_false] at hx ⊢
    rcases hx with hx | hx | hx | hx
    · exact .inl hx
    · exact .inr (.inl hx)
    · exact absurd (by rw [hx]) hxb
    · exact .inr (.inr (.inr hx))
theorem JH.same {X hp L w w'} (h : JH X hp L w) (h1 : w'.os = w.os) (h2 : w'.tape = w.tape) (h3 : w'.output = w.output) (hk : w'.heap = w.heap) : JH X hp L w' := by
  obtain ⟨hh, hs, hn, hm⟩ := h.ex
  exact ⟨⟨hh, hs, hn, fun x hx => by rw [hk]; exact hm x hx⟩, h1.trans h.os, h2.trans h.tape, h3.trans h.output⟩
theorem JH.lt {X hp L w} (h : JH X hp L w) : ∃ hh, Ut L hh ∧ Dz (hp ++ hh) w ∧ ∀ x ∈ hp ++ hh, x.1 < w.heap.size := by
  obtain ⟨hh, hs, hn, hm⟩ := h.ex
  refine ⟨hh, hs, ⟨hn, hm⟩, fun x hx => ?_⟩
  have := hm x hx
  rcases Nat.lt_or_ge x.1 w.heap.size with h' | h'
  · exact h'
  · rw [Array.getElem?_eq_none h'] at this; cases this
theorem JH.new {X hp L w} (h : JH X hp L w) (o : Obj) : JH X hp (pt w.heap.size o :: L) (w.alloc o) := by
  obtain ⟨hh, hs, ⟨hn, hm⟩, hl⟩ := h.lt
  refine ⟨⟨(w.heap.size, o) :: hh, ⟨[(w.heap.size, o)], hh, rfl, rfl, hs⟩, ?_, fun x hx => ?_⟩, h.os, h.tape, h.output⟩
  · simp only [List.map_append, List.map_cons, List.nodup_append, List.nodup_cons] at hn ⊢
    refine ⟨hn.1, ⟨fun hx => ?_, hn.2.1⟩, fun a ha b hb => ?_⟩
    · obtain ⟨x, hx, e⟩ := List.mem_map.1 hx
      have := hl x (by simp [hx]); omega
    · rcases List.mem_cons.1 hb with rfl | hb
      · obtain ⟨x, hx, e⟩ := List.mem_map.1 ha
        have := hl x (by simp [hx]); omega
      · exact hn.2.2 a ha b hb
  · simp only [World.alloc, Array.getElem?_push]
    have hx' : x ∈ (w.heap.size, o) :: (hp ++ hh) := by
      simp only [List.mem_append, List.mem_cons] at hx ⊢
      rcases hx with hx | hx | hx
      · exact .inr (.inl hx)
      · exact .inl hx
      · exact .inr (.inr hx)
    rcases List.mem_cons.1 hx' with rfl | hx'
    · simp
    · have := hl x hx'
      rw [if_neg (by omega)]; exact hm x hx'
theorem JH.drop {X hp L w} {A : HP} (h : JH X hp (A :: L) w) : JH X hp L w := by
  obtain ⟨hh, ⟨h1, h2, rfl, ha, hs⟩, hn, hm⟩ := h.ex
  refine ⟨⟨h2, hs, ?_, fun x hx => hm x ?_⟩, h.os, h.tape, h.output⟩
  · refine List.Nodup.sublist ?_ hn
    exact List.Sublist.map _ (List.Sublist.append (List.Sublist.refl _) (List.sublist_append_right _ _))
  · simp only [List.mem_append] at hx ⊢
    rcases hx with hx | hx
    · exact .inl hx
    · exact .inr (.inr hx)
/-! ### operations with memory; the program's own facts come in as equations -/
structure Kn (F : World → Prop) (b : Nat) (ob : Obj) : Prop where
  go : ∀ w, F w → w.heap[b]? = some ob
structure ZN (F : World → Prop) (h : HL) : Prop where
  go : ∀ w, F w → ∀ x ∈ h, w.heap[x.1]? = some x.2
theorem kn {X hp L} {b : Nat} {ob : Obj} (i : Nat) (h : L[i]? = some (pt b ob)) : Kn (JH X hp L) b ob := ⟨fun _ hw => hw.get h⟩
theorem Wh {X hp L} : ZN (JH X hp L) hp := ⟨fun _ hw x hx => hw.old (b := x.1) (o := x.2) hx⟩
def ZM (fb : HL) (h : HL) : World → Prop := fun w => (∀ x ∈ fb, w.heap[x.1]? = some x.2) ∧ ∀ x ∈ h, w.heap[x.1]? = some x.2
theorem kf {fb h} {b : Nat} {ob : Obj} (i : Nat) (hi : fb[i]? = some (b, ob)) : Kn (ZM fb h) b ob := ⟨fun _ hw => hw.1 _ (List.mem_of_getElem? hi)⟩
theorem WM {fb h} : ZN (ZM fb h) h := ⟨fun _ hw => hw.2⟩
section
variable {C : NR} {F : World → Prop} {e : JU} {hp : HL} {L : List HP} {ty : TypeId} {ps : String} {es : Array Edge} {dst : Option Nat} {gd : Option (Nat × Bool)} {G : JU → HL → List HP → Prop}
theorem mv {x : Operand} : NG C F ⟨dst, .move x, ty, ps, es, gd⟩ e (ev e x) := ⟨fun _ _ => rfl⟩
theorem Bc {x : Operand} : NG C F ⟨dst, .assign x, ty, ps, es, gd⟩ e (ev e x) := ⟨fun _ _ => rfl⟩
theorem nc {x : Operand} {p : Addr} (hx : ev e x = .pointer (some p)) : NG C F ⟨dst, .nilCheck x, ty, ps, es, gd⟩ e (.pointer (some p)) :=
  ⟨fun w _ => by simp only [execOp, hx]; rfl⟩
theorem op {op : Op} {v : Value} (hv : ∀ w, (execOp (ev e) ⟨dst, op, ty, ps, es, gd⟩).run C.P w = .ok (.value v) w) : NG C F ⟨dst, op, ty, ps, es, gd⟩ e v := ⟨fun w _ => hv w⟩
theorem UC {b : BinOp} {t t' : Nat} {x y : Operand} {u z v : Value} (hx : ev e x = u) (hy : ev e y = z)
    (hg : ∀ w, (do eqGuard b t x y u z; binOp b t u z : Sem Value).run C.P w = .ok v w) : NG C F ⟨dst, .binOp b t x y t', ty, ps, es, gd⟩ e v :=
  ⟨fun w _ => by subst hx hy; simp only [execOp]; rw [Sem.run_bind, hg]; rfl⟩
theorem fa {t f b off : Nat} {x : Operand} {fs : Array Field} {fd : Field} {n : Nat} (hx : ev e x = .pointer (some ⟨b, off, none⟩))
    (ht : ∀ w, (underlying t).run C.P w = .ok (.struct fs) w) (hf : fs[f]? = some fd) (hs : ∀ w, (Go.sizeOf fd.type).run C.P w = .ok (n + 1) w) :
    NG C F ⟨dst, .fieldAddr t x f, ty, ps, es, gd⟩ e (.pointer (some ⟨b, off + fd.offset, none⟩)) :=
  ⟨fun w _ => by
    simp only [execOp, hx, Instr.fieldAt, Sem.run_bind, ht, Result.andThen_ok, hf, Instr.sureAddr, fieldPlace, hs]
    simp only [Addr.add]
    split <;> simp_all⟩
theorem RV {w : World} {b off : Nat} {t : TypeId} {cs : List Value} {v : Value} (h : w.heap[b]? = some (.cells cs.toArray t (0, 0))) (hv : cs[off]? = some v) :
    w.cell? ⟨b, off, none⟩ = some v := by
  simp [World.cell?, h, hv]
theorem ld {t b off : Nat} {x : Operand} {t' : TypeId} {cs : List Value} {v : Value} (ha : ∀ w, (isAgg t).run C.P w = .ok false w)
    (hx : ev e x = .pointer (some ⟨b, off, none⟩)) (hk : Kn F b (.cells cs.toArray t' (0, 0))) (hv : cs[off]? = some v) : NG C F ⟨dst, .load t x, ty, ps, es, gd⟩ e v :=
  ⟨fun w hw => by
    have hc := RV (hk.go w hw) hv
    simp [execOp, hx, Instr.loadAt, Instr.sureAddr, loadVar, ha, hc]⟩
theorem UA {X hp w} {L : List HP} {b off i : Nat} {t : TypeId} {cs : List Value} {v v0 : Value} (hw : JH X hp L w) (hL : L[i]? = some (blk b t cs)) (hv : cs[off]? = some v0) :
    w.frozen? ⟨b, off, none⟩ = false ∧ JH X hp (L.set i (blk b t (cs.set off v))) (w.setCell ⟨b, off, none⟩ v) := by
  have hg := hw.get hL
  refine ⟨by simp [World.frozen?, hg], hw.set hL rfl rfl rfl ?_ ?_⟩
  · simp [World.setCell, Array.getElem?_modify, hg, List.setIfInBounds_toArray]
  · intro k hk; simp [World.setCell, Array.getElem?_modify]; omega
theorem st {t i b off : Nat} {x y : Operand} {t' : TypeId} {cs : List Value} {v v0 : Value} (hs : ∀ w, (Go.sizeOf t).run C.P w = .ok 1 w)
    (hx : ev e x = .pointer (some ⟨b, off, none⟩)) (hy : ev e y = v) (h1 : v.cells = #[v]) (h2 : v.oneCell' = true) (hL : L[i]? = some (blk b t' cs)) (hv : cs[off]? = some v0)
    (k : G e hp (L.set i (blk b t' (cs.set off v)))) : EE C ⟨none, .store t x y, ty, ps, es, gd⟩ e hp L G :=
  EE.skip (fun w hw => by
    have hc := RV (hw.get hL) hv
    obtain ⟨hf, ho⟩ := UA (v := v) hw hL hv
    refine ⟨_, ?_, ho⟩
    simp [execOp, hx, hy, Instr.storeAt, Instr.sureAddr, storeVar, hs, h1, storeCells, Addr.add, run_store _ _ _ _ _ h2, hc, hf]) k
theorem box {t d : Nat} {x : Operand} {cs : List Value} (hN : Nat.blt d C.N = true) (hx : (ev e x).cells = cs.toArray)
    (k : ∀ b, G (JI e d (.pointer (some ⟨b, 0, none⟩))) hp (blk b t cs :: L)) : EE C ⟨some d, .box t x, ty, ps, es, gd⟩ e hp L G :=
  ⟨fun a w ha hw next Q' hn => by
    have : (execOp a.eval ⟨some d, .box t x, ty, ps, es, gd⟩).run C.P w = .ok (.value (.pointer (some ⟨w.heap.size, 0, none⟩))) (w.alloc (.cells cs.toArray t (0, 0))) := by
      simp [execOp, ha.eval, Instr.box, newVar, newRow, hx]
    simp only [Oper.wp, this, Oper.upon]
    exact hn _ _ _ _ _ (k _) (ha.put hN _) (hw.new _)⟩
theorem MI {t d : Nat} {z : Value} {cs : List Value} (hN : Nat.blt d C.N = true) (hz : ∀ w, (zeroValue t).run C.P w = .ok z w) (hx : z.cells = cs.toArray)
    (k : ∀ b, G (JI e d (.pointer (some ⟨b, 0, none⟩))) hp (blk b t cs :: L)) : EE C ⟨some d, .alloc t, ty, ps, es, gd⟩ e hp L G :=
  ⟨fun a w ha hw next Q' hn => by
    have : (execOp a.eval ⟨some d, .alloc t, ty, ps, es, gd⟩).run C.P w = .ok (.value (.pointer (some ⟨w.heap.size, 0, none⟩))) (w.alloc (.cells cs.toArray t (0, 0))) := by
      simp [execOp, Instr.alloc, newVar, newRow, hx, hz]
    simp only [Oper.wp, this, Oper.upon]
    exact hn _ _ _ _ _ (k _) (ha.put hN _) (hw.new _)⟩
end
/-! ### functions -/
structure Aaq (P : Program) (X : World) (f : FuncId) (args : List Value) (hp : HL) (L : List HP) (R : Value → HL → List HP → Prop) : Prop where
  go : ∀ w, JH X hp L w → Calls P f args.toArray w fun x w' => ∃ v hp' L', x = .returned v ∧ R v hp' L' ∧ JH X hp' L' w'
structure DJ {α : Type} (P : Program) (X : World) (T : Option α) (f : FuncId) (args : List Value) (hp : HL) (L : List HP) (R : α → Value → HL → List HP → Prop) : Prop where
  go : ∀ r, T = some r → Aaq P X f args hp L (R r)
def Vq {α : Type} (C : NR) (fn : Func) (R : α → Value → HL → List HP → Prop) : α → LB := fun r x e hp L =>
  (x = .normal ∨ x = .ret) ∧ ∃ v L', (∀ a w, Nu C.N e a → JH C.X hp L w → (results fn a.tmps).run C.P w = .ok v w) ∧ (∀ w, JH C.X hp L w → JH C.X hp L' w) ∧ R r v hp L'
theorem fn {α : Type} {P : Program} {X : World} {f : FuncId} {fn : Func} {c : Code} {args : List Value} {hp : HL} {L : List HP} {R : α → Value → HL → List HP → Prop} {T : Option α} {N : Nat}
    (hf : P.funcs[f]? = some fn) (hb : fn.body = some c) (hN : fn.ntmps = N) (hn : Nat.ble args.length N = true)
    (h : SJ ⟨P, X, N⟩ (Vq ⟨P, X, N⟩ fn R) T c (YZ args) hp L) : DJ P X T f args hp L R := by
  refine ⟨fun r hr => ⟨fun w hw => ?_⟩⟩
  subst hN
  have hn' : args.length ≤ fn.ntmps := Nat.le_of_ble_eq_true hn
  refine calls_of_wp hf hb (Code.wp_mono ?_ (h.go r hr _ w ⟨by simp; omega, rfl, fun n => ?_⟩ hw))
  · rintro x a w ⟨e, hp', L', hA, hO, hx, v, L2, hv, hd, hR⟩
    rcases hx with rfl | rfl
    · exact ⟨hA.defers, v, hv a w hA hO, v, hp', L2, rfl, hR, hd w hO⟩
    · exact ⟨hA.defers, v, hv a w hA hO, v, hp', L2, rfl, hR, hd w hO⟩
  · simp only [YZ, Array.getD_eq_getD_getElem?, List.getD_eq_getElem?_getD, List.size_toArray]
    by_cases hlt : n < args.length
    · rw [Array.getElem?_append_left (by simpa using hlt)]; simp
    · rw [Array.getElem?_append_right (by simpa using hlt)]
      simp only [List.size_toArray]
      rw [List.getElem?_eq_none (by omega)]
      by_cases h2 : n - args.length < fn.ntmps - args.length
      · rw [Array.getElem?_replicate, if_pos h2]; rfl
      · rw [Array.getElem?_replicate, if_neg h2]
section
variable {α : Type} {C : NR} {fn : Func} {R : α → Value → HL → List HP → Prop} {T : Option α} {e : JU} {hp : HL} {L : List HP}
def Ty (z : Exit) : Prop := z = .normal ∨ z = .ret
theorem en : Ty .normal := .inl rfl
theorem er : Ty .ret := .inr rfl
theorem r0 {x : α} {z : Exit} (hf : fn.results = #[]) (hz : Ty z) (h : R x (.tuple #[]) hp L) : XJ (Vq C fn R) (some x) z e hp L := ⟨fun r hr => by
  cases hr; exact ⟨hz, _, _, fun a w _ _ => results_none hf _ _ _, fun _ h => h, h⟩⟩
end
theorem call {β : Type} {C : NR} {U : Option β} {r : β} {e : JU} {hp : HL} {L : List HP} {ty : TypeId} {ps : String} {es : Array Edge} {gd : Option (Nat × Bool)} {G : JU → HL → List HP → Prop}
    {d f : Nat} {xs : Array Operand} {ts : Array TypeId} {args : List Value} {R : β → Value → HL → List HP → Prop} (hN : Nat.blt d C.N = true)
    (hc : ∀ args w, (callFunc f args).run C.P w = .ok (.enter f args) w) (ha : xs.toList.map (ev e) = args)
    (h : DJ C.P C.X U f args hp L R) (hr : U = some r) (k : ∀ v hp' L', R r v hp' L' → G (JI e d v) hp' L') :
    EE C ⟨some d, .call ⟨.value (.func f), xs, ts⟩, ty, ps, es, gd⟩ e hp L G :=
  ⟨fun a w hA hw next Q' hn => by
    have hargs : Array.map (ev e) xs = args.toArray := by rw [← ha]; cases xs; simp
    have hx : (execOp a.eval ⟨some d, .call ⟨.value (.func f), xs, ts⟩, ty, ps, es, gd⟩).run C.P w = .ok (.enter f args.toArray) w := by
      simp [execOp, hA.eval, resolve, ev, Deferred.ofValue, invoke, hargs, hc]
    simp only [Oper.wp, hx, Oper.upon]
    refine ((h.go r hr).go w hw).mono ?_
    rintro x w' ⟨v, hp', L', rfl, hR, hO⟩
    exact hn _ _ _ _ _ (k v hp' L' hR) (hA.put hN _) hO⟩
def Is (v : Value) (hp : HL) (L : List HP) : Value → HL → List HP → Prop := fun v' hp' L' => v' = v ∧ hp' = hp ∧ L' = L
theorem is {v : Value} {hp : HL} {L : List HP} : Is v hp L v hp L := ⟨rfl, rfl, rfl⟩
section
variable {β : Type} {C : NR} {U : Option β} {r : β} {e : JU} {hp : HL} {L : List HP} {ty : TypeId} {ps : String} {es : Array Edge} {gd : Option (Nat × Bool)} {G : JU → HL → List HP → Prop}
    {d f : Nat} {xs : Array Operand} {ts : Array TypeId} {args : List Value} {V : β → Value} {H : β → HL} {M : β → List HP}
theorem YX (hN : Nat.blt d C.N = true) (hc : ∀ args w, (callFunc f args).run C.P w = .ok (.enter f args) w) (ha : xs.toList.map (ev e) = args)
    (h : DJ C.P C.X U f args hp L (fun r => Is (V r) (H r) (M r))) (hr : U = some r) (k : G (JI e d (V r)) (H r) (M r)) :
    EE C ⟨some d, .call ⟨.value (.func f), xs, ts⟩, ty, ps, es, gd⟩ e hp L G :=
  call hN hc ha h hr (fun v hp' L' hR => by obtain ⟨rfl, rfl, rfl⟩ := hR; exact k)
end
end Kot
