/- Words for walking Go functions: regions whose order is open; what is let go, kept, brought to the front, wherever; no program is named here. -/
import Derived.Test.YtkjkgdhgcdgbhaaGreatDoorBase5
import Derived.OrdersHeld
namespace Kot
open Go
structure FK (X : World) (S : World → Prop) (hp : HL) (L : List HP) : Prop where
  go : ∀ w, JH X hp L w → S w
section
variable {α : Type} (C : NR)
def nq (q : LB) : Exit → Act → World → Prop := fun x a w => x = .normal ∧ Yj C q .normal a w
structure AJ (S : World → Prop) (Q : α → LB) (T : Option α) (ops : List Oper) (n : Nat) (ls : List Bool) (e : JU) (hp : HL) (L : List HP) : Prop where
  go : ∀ r, T = some r → Region.noSelect ops.toArray = true → ∀ a w, Nu C.N e a → JH C.X hp L w → S w → wpAnyH C.P .any ops.toArray (nq C (Q r)) S n ls.toArray a w
structure OB (S : World → Prop) (Q : α → LB) (T : Option α) (ops : List Oper) (n : Nat) (ls : List Bool) (e : JU) (hp : HL) (L : List HP) (i : Nat) : Prop where
  go : ∀ r, T = some r → Region.noSelect ops.toArray = true → ∀ a w, Nu C.N e a → JH C.X hp L w → S w →
    wpOp C.P ops.toArray (nq C (Q r)) i (fun a' w' => S w' ∧ wpAnyH C.P .any ops.toArray (nq C (Q r)) S n (ls.set i true).toArray a' w') a w
def XG (P : Nat → Prop) : List Nat → Prop
  | [] => True
  | i :: r => P i ∧ XG P r
theorem XG.mem {P : Nat → Prop} : ∀ {l : List Nat}, XG P l → ∀ i ∈ l, P i
  | j :: l, h, i, hi => by
    rcases List.mem_cons.1 hi with rfl | hi
    · exact h.1
    · exact XG.mem h.2 i hi
end
section
variable {α : Type} {C : NR} {S : World → Prop} {Q : α → LB} {T A B : Option α} {ops : List Oper} {n : Nat} {ls : List Bool} {e : JU} {hp h0 : HL} {L : List HP} {fb : HL}
  {d : Nat} {v : Value} {o : Op} {ty : TypeId} {ps : String} {es : Array Edge} {dst : Option Nat} {i j : Nat} {want : Bool}
theorem ad (hr : Region.ready .any ops.toArray ls.toArray = []) (h : XJ Q T .normal e hp L) : AJ C S Q T ops n ls e hp L :=
  ⟨fun r hT _ _ _ ha hw _ => wpAnyH_done hr ⟨rfl, e, hp, L, ha, hw, h.go r hT⟩ n⟩
def TM (ops : List Oper) (ls : List Bool) (i : Nat) : Bool := Region.free .any ops.toArray ls.toArray i && (Region.ready .any ops.toArray ls.toArray).contains i
theorem U4 {oi : Oper} {e' : JU} {v : Value} (hi : ops[i]? = some oi) (hc : TM ops ls i = true) (hy : ∀ a, Nu C.N e a → YieldsIf C.P ops.toArray S oi v a)
    (hp' : ∀ a, Nu C.N e a → Nu C.N e' (a.put oi.dst v)) (k : AJ C S Q T ops n (ls.set i true) e' hp L) : AJ C S Q T ops (n + 1) ls e hp L := by
  simp only [TM, Bool.and_eq_true] at hc
  refine ⟨fun r hT hs a w ha hw hS => ?_⟩
  refine wpAnyH_take (by simpa using hi) hs hc.1 hc.2 (fun c a w h => by cases h.1) (hy a ha) hS ?_
  have := k.go r hT hs _ w (hp' a ha) hw hS
  simpa using this
theorem AU (i : Nat) (hi : ops[i]? = some ⟨some d, o, ty, ps, es, none⟩) (hc : TM ops ls i = true) (hN : Nat.blt d C.N = true) (h : NG C S ⟨some d, o, ty, ps, es, none⟩ e v)
    (k : AJ C S Q T ops n (ls.set i true) (JI e d v) hp L) : AJ C S Q T ops (n + 1) ls e hp L :=
  U4 hi hc (fun a ha => .inl ⟨rfl, fun w hw => by rw [ha.eval]; exact h.go w hw⟩) (fun a ha => ha.put hN v) k
theorem AX {ι : Type} {V : ι → Value} {Φ : ι → Prop} (i : Nat) (hi : ops[i]? = some ⟨some d, o, ty, ps, es, none⟩) (hc : TM ops ls i = true) (hN : Nat.blt d C.N = true) (h : Vk C S ⟨some d, o, ty, ps, es, none⟩ e V Φ)
    (k : ∀ x, Φ x → AJ C S Q T ops n (ls.set i true) (JI e d (V x)) hp L) : AJ C S Q T ops (n + 1) ls e hp L :=
  let ⟨x, h1, h2⟩ := h.go; AU i hi hc hN h1 (k x h2)
theorem AUg (i : Nat) (hi : ops[i]? = some ⟨some d, o, ty, ps, es, some (j, want)⟩) (hc : TM ops ls i = true) (hN : Nat.blt d C.N = true) (hg : Vj e ops j want true) (h : NG C S ⟨some d, o, ty, ps, es, some (j, want)⟩ e v)
    (k : AJ C S Q T ops n (ls.set i true) (JI e d v) hp L) : AJ C S Q T ops (n + 1) ls e hp L :=
  U4 hi hc (fun a ha => .inl ⟨by simpa [Region.wanted] using hg.go ha, fun w hw => by rw [ha.eval]; exact h.go w hw⟩) (fun a ha => ha.put hN v) k
theorem AFg (i : Nat) (hi : ops[i]? = some ⟨some d, o, ty, ps, es, some (j, want)⟩) (hc : TM ops ls i = true) (hN : Nat.blt d C.N = true) (hg : Vj e ops j want false)
    (k : AJ C S Q T ops n (ls.set i true) (JI e d undef) hp L) : AJ C S Q T ops (n + 1) ls e hp L :=
  U4 hi hc (fun a ha => .inr ⟨by simpa [Region.wanted] using hg.go ha, rfl⟩) (fun a ha => ha.put hN _) k
theorem ab {rs : List Nat} (hr : Region.ready .any ops.toArray ls.toArray = rs) (hne : rs.isEmpty = false) (h : XG (OB C S Q T ops n ls e hp L) rs) : AJ C S Q T ops (n + 1) ls e hp L :=
  ⟨fun r hT hs a w ha hw hS => wpAnyH_all hr (fun h0 => by rw [h0] at hne; cases hne) fun i hi => by
    have := (h.mem i hi).go r hT hs a w ha hw hS
    simpa using this⟩
theorem ob (hi : ops[i]? = some ⟨dst, o, ty, ps, es, none⟩) (h : EE C ⟨dst, o, ty, ps, es, none⟩ e hp L (fun e' hp' L' => FK C.X S hp' L' ∧ AJ C S Q T ops n (ls.set i true) e' hp' L')) : OB C S Q T ops n ls e hp L i :=
  ⟨fun r hT hs a w ha hw hS => by
    unfold wpOp
    simp only [List.getElem?_toArray, hi]
    rw [if_pos (by simp [Region.wanted])]
    exact .inl (h.go a w ha hw _ _ fun e' hp' L' a' w' hk ha' hw' => ⟨hk.1.go w' hw', hk.2.go r hT hs a' w' ha' hw' (hk.1.go w' hw')⟩)⟩
theorem obg (hi : ops[i]? = some ⟨dst, o, ty, ps, es, some (j, want)⟩) (hg : Vj e ops j want true) (h : EE C ⟨dst, o, ty, ps, es, some (j, want)⟩ e hp L (fun e' hp' L' => FK C.X S hp' L' ∧ AJ C S Q T ops n (ls.set i true) e' hp' L')) : OB C S Q T ops n ls e hp L i :=
  ⟨fun r hT hs a w ha hw hS => by
    unfold wpOp
    simp only [List.getElem?_toArray, hi]
    rw [if_pos (by simpa [Region.wanted] using hg.go ha)]
    exact .inl (h.go a w ha hw _ _ fun e' hp' L' a' w' hk ha' hw' => ⟨hk.1.go w' hw', hk.2.go r hT hs a' w' ha' hw' (hk.1.go w' hw')⟩)⟩
def Xl (L : List HP) : HL → Prop
  | [] => True
  | x :: r => (∃ i : Nat, L[i]? = some (pt x.1 x.2)) ∧ Xl L r
theorem Xl.own {X hp w} : ∀ {fb : HL}, Xl L fb → JH X hp L w → ∀ x ∈ fb, w.heap[x.1]? = some x.2
  | y :: fb, h, hw, x, hx => by
    rcases List.mem_cons.1 hx with rfl | hx
    · obtain ⟨i, hi⟩ := h.1; exact hw.get hi
    · exact Xl.own h.2 hw x hx
theorem fk {X} (hs : sub h0 hp) (hb : Xl L fb) : FK X (ZM fb h0) hp L := ⟨fun w hw => ⟨hb.own hw, fun x hx => hw.old (b := x.1) (o := x.2) (hs x hx)⟩⟩
theorem rd {id : Nat} {l : List Oper} (n : Nat) (hn : l.length = n) (fb : HL) (hm : C.P.follows .mixedOrders = true) (hs : Region.noSelect l.toArray = true) (hb : Xl L fb)
    (h : AJ C (ZM fb hp) Q T l n (List.replicate n false) e hp L) : SJ C Q T (.region id l.toArray true) e hp L :=
  ⟨fun r hT a w ha hw => by
    subst hn
    have hw' : JH C.X hp L { w with drawn := w.drawn + 1 } := hw.same rfl rfl rfl rfl
    have h1 := h.go r hT hs a _ ha hw' ((fk (sub.refl _) hb).go _ hw')
    refine Code.wp_mono (Q := nq C (Q r)) (fun x a w hq => ?_) (wp_region_held (S := ZM fb hp) hm ?_)
    · obtain ⟨rfl, hq⟩ := hq; exact hq
    · simpa using h1⟩
end
/-! ### what is let go, kept, brought to the front, wherever -/
structure Cv (X : World) (J : HL → List HP → Prop) : Prop where
  cx : ∀ {ι : Type} {hp : HL} {L : List HP} {hp' : ι → HL} {L' : ι → List HP} {Φ : ι → Prop}, (∀ w, JH X hp L w → ∃ i, Φ i ∧ JH X (hp' i) (L' i) w) → (∀ i, Φ i → J (hp' i) (L' i)) → J hp L
theorem Cv.cv {X J} {hp hp' : HL} {L L' : List HP} (c : Cv X J) (h : ∀ w, JH X hp L w → JH X hp' L' w) (k : J hp' L') : J hp L :=
  c.cx (ι := Unit) (Φ := fun _ => True) (hp' := fun _ => hp') (L' := fun _ => L') (fun w hw => ⟨(), trivial, h w hw⟩) (fun _ _ => k)
section
variable {α : Type} {C : NR} {S : World → Prop} {Q : α → LB} {T : Option α} {ops l : List Oper} {n : Nat} {ls : List Bool} {e : JU} {cd : Code} {ob : Oper} {G : JU → HL → List HP → Prop}
theorem cL : Cv C.X (LJ C Q T ops l e) := ⟨fun hc k => LJ.cx hc k⟩
theorem cS : Cv C.X (SJ C Q T cd e) := ⟨fun hc k => SJ.cx hc k⟩
theorem cA : Cv C.X (AJ C S Q T ops n ls e) := ⟨fun hc k => ⟨fun r hT hs a w ha hw hS => let ⟨i, hi, ho⟩ := hc w hw; (k i hi).go r hT hs a w ha ho hS⟩⟩
theorem cO : Cv C.X (fun hp L => EE C ob e hp L G) := ⟨fun hc k => ⟨fun a w ha hw next Q' hn => let ⟨i, hi, ho⟩ := hc w hw; (k i hi).go a w ha ho next Q' hn⟩⟩
end
section
variable {X : World} {J : HL → List HP → Prop} {hp : HL} {L : List HP} {A : HP}
theorem Dr (c : Cv X J) (i : Nat) (hi : L[i]? = some A) (k : J hp (L.eraseIdx i)) : J hp L := c.cv (fun _ h => (LK h hi).drop) k
theorem Fr (c : Cv X J) (i : Nat) (hi : L[i]? = some A) (k : J hp (A :: L.eraseIdx i)) : J hp L := c.cv (fun _ h => LK h hi) k
theorem Kp {τ : Type} {f : τ → List Value} {xs : List τ} {t k : Nat} {v : Value} (c : Cv X J) (i : Nat) (hi : L[i]? = some (sl v t k (xs.flatMap f))) (hf : ∀ x, (f x).length = k)
    (h : ∀ hp', sub hp hp' → DN hp' k (Bo f) v xs → J hp' (L.eraseIdx i)) : J hp L :=
  c.cx (ι := HL) (L' := fun _ => L.eraseIdx i) (hp' := id) (Φ := fun hp' => sub hp hp' ∧ XD hp' k v (xs.flatMap f)) (fun w hw => Yx (LK hw hi)) (fun hp' hh => h hp' hh.1 (DN.of hf hh.2))
theorem Gn (c : Cv X J) (t k : Nat) (h : J hp (sl (.slice none 0 0) t k [] :: L)) : J hp L := c.cv (fun _ hw => Yz hw t k) h
theorem Gb {τ : Type} {f : τ → List Value} {xs : List τ} {b t k : Nat} (c : Cv X J) (hf : ∀ x, (f x).length = k) (h : J hp (sl (.slice (some ⟨b, 0, none⟩) xs.length xs.length) t k (xs.flatMap f) :: L)) :
    J hp (blk b t (xs.flatMap f) :: L) := c.cv (fun _ hw => Yw hw (Kq hf xs)) h
end
end Kot
