/- Words for walking Go functions: maps of texts whose elements are pointers to files, or nil; no program is named here. -/
import Derived.Test.YtkjkgdhgcdgbhaaGreatDoorBase15
import Derived.Laws.IdiomRangeMap
import Derived.Laws.Externs
import GoSem.Instr.MapUpdate
import GoSem.Instr.MakeMap
import GoSem.Builtin.Delete
namespace Kot
open Go
/-! ### plain maps: their keys rise -/
theorem Uh : ∀ (x y : List UInt8), Op.bytesLess x y = decide (x < y)
  | [], [] => by simp [Op.bytesLess]
  | _ :: _, [] => by simp [Op.bytesLess]
  | [], _ :: _ => by simp [Op.bytesLess]
  | a :: x, b :: y => by
    rw [Op.bytesLess, Uh x y]
    by_cases h1 : a < b
    · simp [h1, List.cons_lt_cons_iff]
    · by_cases h2 : a = b <;> simp [h1, h2, List.cons_lt_cons_iff]
abbrev Ov := List (List UInt8 × Int)
def Xn (m : Ov) (k : List UInt8) : Ov := m.filter (fun e => !(e.1 == k))
def X4 : Ov → List UInt8 → Int → Ov
  | [], k, x => [(k, x)]
  | e :: m, k, x => bif Op.bytesLess k e.1 then (k, x) :: e :: m else e :: X4 m k x
def YN (m : Ov) (k : List UInt8) (x : Int) : Ov := X4 (Xn m k) k x
def SA (m : Ov) : Prop := m.Pairwise (fun a b => a.1 < b.1)
theorem Uu : ∀ (m : Ov) (k : List UInt8) (x : Int), (X4 m k x).Perm ((k, x) :: m)
  | [], k, x => List.Perm.refl _
  | e :: m, k, x => by
    rw [X4]
    cases Op.bytesLess k e.1
    · exact ((Uu m k x).cons e).trans (List.Perm.swap _ _ _)
    · exact List.Perm.refl _
theorem Vx (m : Ov) (k : List UInt8) (x : Int) : (YN m k x).Perm ((k, x) :: Xn m k) := Uu _ _ _
theorem VZ {m : Ov} (h : SA m) (k : List UInt8) : SA (Xn m k) := List.Pairwise.filter _ h
theorem UA : ∀ {m : Ov} {k : List UInt8} {x : Int}, SA m → (∀ e ∈ m, e.1 ≠ k) → SA (X4 m k x)
  | [], k, x, _, _ => List.pairwise_singleton _ _
  | e :: m, k, x, h, hk => by
    obtain ⟨h1, h2⟩ := List.pairwise_cons.1 h
    rw [X4, Uh]
    by_cases hlt : k < e.1
    · rw [decide_eq_true hlt, cond_true]
      refine List.pairwise_cons.2 ⟨fun b hb => ?_, h⟩
      rcases List.mem_cons.1 hb with rfl | hb
      · exact hlt
      · exact List.lt_trans hlt (h1 b hb)
    · rw [decide_eq_false hlt, cond_false]
      have hne : e.1 ≠ k := hk e (by simp)
      have hgt : e.1 < k := by
        by_cases hh : e.1 < k
        · exact hh
        · exact absurd (List.le_antisymm (show e.1 ≤ k from hlt) (show k ≤ e.1 from hh)) hne
      refine List.pairwise_cons.2 ⟨fun b hb => ?_, UA h2 (fun z hz => hk z (by simp [hz]))⟩
      rcases List.mem_cons.1 ((Uu m k x).mem_iff.1 hb) with rfl | hb
      · exact hgt
      · exact h1 b hb
theorem Wh {m : Ov} (h : SA m) (k : List UInt8) (x : Int) : SA (YN m k x) :=
  UA (VZ h k) (fun e he => by
    have := (List.mem_filter.1 he).2
    simpa using this)
/-! ### as they lie: in any order -/
def XF (fa : Nat → Nat) (x : Int) : Value := if x < 0 then .pointer none else .pointer (some ⟨fa x.toNat, 0, none⟩)
structure ZD (fa : Nat → Nat) (m : Ov) (es : List MapEntry) (clock : Nat) : Prop where
  Aab : es.map (fun e : MapEntry => (e.key, e.val)) = m.map fun k => (str k.1, XF fa k.2)
  keys : (m.map Prod.fst).Nodup
  XM : (es.map MapEntry.born).Nodup
  lt : ∀ e ∈ es, e.born < clock
def Ve : Ov → List UInt8 → Nat → Option (Nat × Int)
  | [], _, _ => none
  | e :: m, k, i => bif k == e.1 then some (i, e.2) else Ve m k (i + 1)
def Sa : Ov → List UInt8 → Int → Ov
  | [], k, x => [(k, x)]
  | e :: m, k, x => bif k == e.1 then (k, x) :: m else e :: Sa m k x
def Xc : Ov → List UInt8 → Ov
  | [], _ => []
  | e :: m, k => bif k == e.1 then m else e :: Xc m k
theorem UU : ∀ {m : Ov} (_ : (m.map Prod.fst).Nodup) (k : List UInt8), Xc m k = Xn m k
  | [], _, _ => rfl
  | e :: m, hn, k => by
    obtain ⟨h1, h2⟩ := List.nodup_cons.1 hn
    have ih := UU h2 k
    unfold Xn at ih ⊢
    rw [Xc]
    by_cases he : k = e.1
    · subst he
      have : m.filter (fun z => !(z.1 == e.1)) = m := List.filter_eq_self.2 (fun z hz => by
        have : z.1 ≠ e.1 := fun h => h1 (List.mem_map.2 ⟨z, hz, h⟩)
        simpa using this)
      rw [List.filter_cons_of_neg (by simp), this]; simp
    · have hne : (k == e.1) = false := by simpa using he
      rw [hne, cond_false, List.filter_cons_of_pos (by simpa using (fun h => he h.symm)), ih]
theorem UT : ∀ {m : Ov} (_ : (m.map Prod.fst).Nodup) (k : List UInt8) (x : Int), (Sa m k x).Perm ((k, x) :: Xn m k)
  | [], _, k, x => List.Perm.refl _
  | e :: m, hn, k, x => by
    obtain ⟨h1, h2⟩ := List.nodup_cons.1 hn
    rw [← UU hn, Sa, Xc]
    cases he : (k == e.1)
    · simp only [cond_false]
      have := UT h2 k x
      rw [← UU h2] at this
      exact (this.cons e).trans (List.Perm.swap _ _ _)
    · simp only [cond_true]; exact List.Perm.refl _
theorem Xx {m0 m : Ov} (hn : (m0.map Prod.fst).Nodup) (hp : m0.Perm m) (k : List UInt8) (x : Int) : (Sa m0 k x).Perm (YN m k x) :=
  (UT hn k x).trans ((((hp.filter _)).cons _).trans (Vx m k x).symm)
theorem ZD.put {fa : Nat → Nat} {m : Ov} {es : List MapEntry} {clock : Nat} (ok : ZD fa m es clock) (k : List UInt8) (x : Int) :
    match Ve m k 0 with
    | some z => ZD fa (Sa m k x) (es.modify z.1 fun e : MapEntry => { e with key := str k, val := XF fa x }) clock ∧ (es[z.1]?).map MapEntry.key = some (str k)
    | none => ZD fa (Sa m k x) (es ++ [({ key := str k, val := XF fa x, born := clock } : MapEntry)]) (clock + 1) := by
  have key : ∀ (m : Ov) (es : List MapEntry) (i : Nat), es.map (fun e : MapEntry => (e.key, e.val)) = m.map (fun k => (str k.1, XF fa k.2)) →
      match Ve m k i with
      | some z => ∃ j, z.1 = i + j ∧ (es.modify j fun e : MapEntry => { e with key := str k, val := XF fa x }).map (fun e : MapEntry => (e.key, e.val)) = (Sa m k x).map (fun k => (str k.1, XF fa k.2)) ∧ (Sa m k x).map Prod.fst = m.map Prod.fst ∧ (es[j]?).map MapEntry.key = some (str k)
      | none => (es ++ [({ key := str k, val := XF fa x, born := clock } : MapEntry)]).map (fun e : MapEntry => (e.key, e.val)) = (Sa m k x).map (fun k => (str k.1, XF fa k.2)) ∧ (Sa m k x).map Prod.fst = m.map Prod.fst ++ [k] ∧ k ∉ m.map Prod.fst := by
    intro m
    induction m with
    | nil =>
      intro es i h
      have : es = [] := by simpa using h
      subst this
      simp [Ve, Sa]
    | cons y m ih =>
      intro es i h
      cases es with
      | nil => simp at h
      | cons e es =>
        simp only [List.map_cons, List.cons.injEq, Prod.mk.injEq] at h
        simp only [Ve, Sa]
        cases hq : (k == y.1) with
        | true =>
          have hk : k = y.1 := eq_of_beq hq
          simp only [cond_true]
          exact ⟨0, rfl, by simp [h.2], by simp [hk], by simp [h.1.1, hk]⟩
        | false =>
          simp only [cond_false]
          have hne : k ≠ y.1 := fun h => by rw [h] at hq; simp at hq
          have := ih es (i + 1) h.2
          cases hf : Ve m k (i + 1) with
          | none =>
            rw [hf] at this
            obtain ⟨h1, h2, h3⟩ := this
            refine ⟨?_, ?_, ?_⟩
            · simp only [List.cons_append, List.map_cons, h1, h.1.1, h.1.2]
            · simp only [List.map_cons, h2, List.cons_append]
            · simp only [List.map_cons, List.mem_cons, not_or]; exact ⟨hne, h3⟩
          | some z =>
            rw [hf] at this
            obtain ⟨j, h1, h2, h3, h4⟩ := this
            refine ⟨j + 1, by omega, ?_, ?_, ?_⟩
            · simp only [List.modify_succ_cons, List.map_cons, h2, h.1.1, h.1.2]
            · simp only [List.map_cons, h3]
            · simpa using h4
  have := key m es 0 ok.Aab
  cases hf : Ve m k 0 with
  | none =>
    rw [hf] at this
    obtain ⟨h1, h2, h3⟩ := this
    refine ⟨h1, ?_, ?_, ?_⟩
    · rw [h2, List.nodup_append]
      exact ⟨ok.keys, by simp, fun a ha b hb => by rw [List.mem_singleton.1 hb]; exact fun h => h3 (by rw [← h]; exact ha)⟩
    · rw [List.map_append, List.nodup_append]
      refine ⟨ok.XM, by simp, fun a ha b hb => ?_⟩
      simp only [List.map_cons, List.map_nil, List.mem_singleton] at hb
      obtain ⟨e, he, rfl⟩ := List.mem_map.1 ha
      have := ok.lt e he
      omega
    · intro e he
      rcases List.mem_append.1 he with he | he
      · have := ok.lt e he; omega
      · rw [List.mem_singleton.1 he]; exact Nat.lt_succ_self _
  | some z =>
    rw [hf] at this
    obtain ⟨j, h1, h2, h3, h4⟩ := this
    rw [Nat.zero_add] at h1
    simp only
    rw [h1]
    have hb : (es.modify j fun e : MapEntry => { e with key := str k, val := XF fa x }).map MapEntry.born = es.map MapEntry.born := by
      apply List.ext_getElem?
      intro n
      simp only [List.getElem?_map, List.getElem?_modify]
      split
      · cases es[n]? <;> rfl
      · cases es[n]? <;> rfl
    refine ⟨⟨h2, by rw [h3]; exact ok.keys, by rw [hb]; exact ok.XM, fun e he => ?_⟩, h4⟩
    have : e.born ∈ es.map MapEntry.born := by rw [← hb]; exact List.mem_map.2 ⟨e, he, rfl⟩
    obtain ⟨e', he', h5⟩ := List.mem_map.1 this
    rw [← h5]; exact ok.lt e' he'
/-! ### a map that is owned: its keys rise, its elements are numbers of S -/
structure YX (fa : Nat → Nat) (S : List Nat) (m : Ov) (es : List MapEntry) (clock : Nat) : Prop where
  en : ∃ m0 : Ov, ZD fa m0 es clock ∧ m0.Perm m
  sorted : SA m
  ins : ∀ e ∈ m, 0 ≤ e.2 ∧ e.2.toNat ∈ S
theorem YX.nil {fa : Nat → Nat} {S : List Nat} : YX fa S [] [] 0 := ⟨⟨[], ⟨rfl, List.nodup_nil, List.nodup_nil, fun e he => nomatch he⟩, List.Perm.refl _⟩, List.Pairwise.nil, fun e he => nomatch he⟩
theorem Xo {fa fa' : Nat → Nat} {x : Int} (h : 0 ≤ x → fa x.toNat = fa' x.toNat) : XF fa x = XF fa' x := by
  unfold XF
  split
  · rfl
  · rw [h (by omega)]
theorem YX.mono {fa fa' : Nat → Nat} {S S' : List Nat} {m : Ov} {es : List MapEntry} {clock : Nat} (ok : YX fa S m es clock) (h : ∀ i ∈ S, fa i = fa' i) (hs : ∀ i ∈ S, i ∈ S') : YX fa' S' m es clock := by
  obtain ⟨⟨m0, en, hp⟩, h2, h3⟩ := ok
  refine ⟨⟨m0, ⟨?_, en.keys, en.XM, en.lt⟩, hp⟩, h2, fun e he => ⟨(h3 e he).1, hs _ (h3 e he).2⟩⟩
  rw [en.Aab]
  refine List.map_congr_left fun e he => ?_
  rw [Xo (fa' := fa') fun _ => h _ (h3 e (hp.mem_iff.1 he)).2]
theorem YX.put {fa : Nat → Nat} {S : List Nat} {m : Ov} {es : List MapEntry} {clock : Nat} (ok : YX fa S m es clock) (k : List UInt8) {x : Int} (hx : 0 ≤ x) (hS : x.toNat ∈ S) {m0 : Ov} (hp : m0.Perm m) (hn : (m0.map Prod.fst).Nodup)
    {es' : List MapEntry} {clock' : Nat} (en : ZD fa (Sa m0 k x) es' clock') : YX fa S (YN m k x) es' clock' :=
  ⟨⟨_, en, Xx hn hp k x⟩, Wh ok.sorted k x, fun e he => by
    rcases List.mem_cons.1 ((Vx m k x).mem_iff.1 he) with rfl | he
    · exact ⟨hx, hS⟩
    · exact ok.ins e (List.mem_filter.1 he).1⟩
section
variable {α : Type} {C : Oj} {Q : α → LK} {T : Option α} {e : JV} {hp : HL} {L : List HP} {ops l : List Oper} {d : Nat} {v : Value} {o : Op} {ty : TypeId} {ps : String} {es : Array Edge}
  {dst : Option Nat} {gd : Option (Nat × Bool)} {G : JV → HL → List HP → Prop} {F : World → Prop} {fa : Nat → Nat} {S : List Nat} {m : Ov}
/-! pointers to files -/
end
end Kot
