/- Words for walking Go functions: maps of texts whose elements are pointers to files, or nil; no program is named here. -/
import Derived.Test.YtkjkgdhgcdgbhaaGreatDoorBase15
import Derived.Laws.IdiomRangeMap
import Derived.Laws.Externs
import GoSem.Instr.MapUpdate
import GoSem.Instr.MakeMap
import GoSem.Builtin.Delete
namespace Kot
open Go
/-! ### plain maps: their keys rise -/
theorem TZ : ∀ (x y : List UInt8), Op.bytesLess x y = decide (x < y)
  | [], [] => by simp [Op.bytesLess]
  | _ :: _, [] => by simp [Op.bytesLess]
  | [], _ :: _ => by simp [Op.bytesLess]
  | a :: x, b :: y => by
    rw [Op.bytesLess, TZ x y]
    by_cases h1 : a < b
    · simp [h1, List.cons_lt_cons_iff]
    · by_cases h2 : a = b <;> simp [h1, h2, List.cons_lt_cons_iff]
abbrev Ou := List (List UInt8 × Int)
def X3 (m : Ou) (k : List UInt8) : Ou := m.filter (fun e => !(e.1 == k))
def X4 : Ou → List UInt8 → Int → Ou
  | [], k, x => [(k, x)]
  | e :: m, k, x => bif Op.bytesLess k e.1 then (k, x) :: e :: m else e :: X4 m k x
def YJ (m : Ou) (k : List UInt8) (x : Int) : Ou := X4 (X3 m k) k x
def S8 (m : Ou) : Prop := m.Pairwise (fun a b => a.1 < b.1)
theorem Ux : ∀ (m : Ou) (k : List UInt8) (x : Int), (X4 m k x).Perm ((k, x) :: m)
  | [], k, x => List.Perm.refl _
  | e :: m, k, x => by
    rw [X4]
    cases Op.bytesLess k e.1
    · exact ((Ux m k x).cons e).trans (List.Perm.swap _ _ _)
    · exact List.Perm.refl _
theorem V2 (m : Ou) (k : List UInt8) (x : Int) : (YJ m k x).Perm ((k, x) :: X3 m k) := Ux _ _ _
theorem Wn {m : Ou} (h : S8 m) (k : List UInt8) : S8 (X3 m k) := List.Pairwise.filter _ h
theorem U8 : ∀ {m : Ou} {k : List UInt8} {x : Int}, S8 m → (∀ e ∈ m, e.1 ≠ k) → S8 (X4 m k x)
  | [], k, x, _, _ => List.pairwise_singleton _ _
  | e :: m, k, x, h, hk => by
    obtain ⟨h1, h2⟩ := List.pairwise_cons.1 h
    rw [X4, TZ]
    by_cases hlt : k < e.1
    · rw [decide_eq_true hlt, cond_true]
      refine List.pairwise_cons.2 ⟨fun b hb => ?_, h⟩
      rcases List.mem_cons.1 hb with rfl | hb
      · exact hlt
      · exact List.lt_trans hlt (h1 b hb)
    · rw [decide_eq_false hlt, cond_false]
      have hne : e.1 ≠ k := hk e (by simp)
      have hgt : e.1 < k := by
        by_cases hh : e.1 < k
        · exact hh
        · exact absurd (List.le_antisymm (show e.1 ≤ k from hlt) (show k ≤ e.1 from hh)) hne
      refine List.pairwise_cons.2 ⟨fun b hb => ?_, U8 h2 (fun z hz => hk z (by simp [hz]))⟩
      rcases List.mem_cons.1 ((Ux m k x).mem_iff.1 hb) with rfl | hb
      · exact hgt
      · exact h1 b hb
theorem Wo {m : Ou} (h : S8 m) (k : List UInt8) (x : Int) : S8 (YJ m k x) :=
  U8 (Wn h k) (fun e he => by
    have := (List.mem_filter.1 he).2
    simpa using this)
/-! ### as they lie: in any order -/
def XE (fa : Nat → Nat) (x : Int) : Value := if x < 0 then .pointer none else .pointer (some ⟨fa x.toNat, 0, none⟩)
structure ZE (fa : Nat → Nat) (m : Ou) (es : List MapEntry) (clock : Nat) : Prop where
  ZU : es.map (fun e : MapEntry => (e.key, e.val)) = m.map fun k => (str k.1, XE fa k.2)
  keys : (m.map Prod.fst).Nodup
  XW : (es.map MapEntry.born).Nodup
  lt : ∀ e ∈ es, e.born < clock
def UU : Ou → List UInt8 → Nat → Option (Nat × Int)
  | [], _, _ => none
  | e :: m, k, i => bif k == e.1 then some (i, e.2) else UU m k (i + 1)
def Sj : Ou → List UInt8 → Int → Ou
  | [], k, x => [(k, x)]
  | e :: m, k, x => bif k == e.1 then (k, x) :: m else e :: Sj m k x
def Xi : Ou → List UInt8 → Ou
  | [], _ => []
  | e :: m, k => bif k == e.1 then m else e :: Xi m k
theorem UT : ∀ {m : Ou} (_ : (m.map Prod.fst).Nodup) (k : List UInt8), Xi m k = X3 m k
  | [], _, _ => rfl
  | e :: m, hn, k => by
    obtain ⟨h1, h2⟩ := List.nodup_cons.1 hn
    have ih := UT h2 k
    unfold X3 at ih ⊢
    rw [Xi]
    by_cases he : k = e.1
    · subst he
      have : m.filter (fun z => !(z.1 == e.1)) = m := List.filter_eq_self.2 (fun z hz => by
        have : z.1 ≠ e.1 := fun h => h1 (List.mem_map.2 ⟨z, hz, h⟩)
        simpa using this)
      rw [List.filter_cons_of_neg (by simp), this]; simp
    · have hne : (k == e.1) = false := by simpa using he
      rw [hne, cond_false, List.filter_cons_of_pos (by simpa using (fun h => he h.symm)), ih]
theorem UW : ∀ {m : Ou} (_ : (m.map Prod.fst).Nodup) (k : List UInt8) (x : Int), (Sj m k x).Perm ((k, x) :: X3 m k)
  | [], _, k, x => List.Perm.refl _
  | e :: m, hn, k, x => by
    obtain ⟨h1, h2⟩ := List.nodup_cons.1 hn
    rw [← UT hn, Sj, Xi]
    cases he : (k == e.1)
    · simp only [cond_false]
      have := UW h2 k x
      rw [← UT h2] at this
      exact (this.cons e).trans (List.Perm.swap _ _ _)
    · simp only [cond_true]; exact List.Perm.refl _
theorem X5 {m0 m : Ou} (hn : (m0.map Prod.fst).Nodup) (hp : m0.Perm m) (k : List UInt8) (x : Int) : (Sj m0 k x).Perm (YJ m k x) :=
  (UW hn k x).trans ((((hp.filter _)).cons _).trans (V2 m k x).symm)
theorem ZE.put {fa : Nat → Nat} {m : Ou} {es : List MapEntry} {clock : Nat} (ok : ZE fa m es clock) (k : List UInt8) (x : Int) :
    match UU m k 0 with
    | some z => ZE fa (Sj m k x) (es.modify z.1 fun e : MapEntry => { e with key := str k, val := XE fa x }) clock ∧ (es[z.1]?).map MapEntry.key = some (str k)
    | none => ZE fa (Sj m k x) (es ++ [({ key := str k, val := XE fa x, born := clock } : MapEntry)]) (clock + 1) := by
  have key : ∀ (m : Ou) (es : List MapEntry) (i : Nat), es.map (fun e : MapEntry => (e.key, e.val)) = m.map (fun k => (str k.1, XE fa k.2)) →
      match UU m k i with
      | some z => ∃ j, z.1 = i + j ∧ (es.modify j fun e : MapEntry => { e with key := str k, val := XE fa x }).map (fun e : MapEntry => (e.key, e.val)) = (Sj m k x).map (fun k => (str k.1, XE fa k.2)) ∧ (Sj m k x).map Prod.fst = m.map Prod.fst ∧ (es[j]?).map MapEntry.key = some (str k)
      | none => (es ++ [({ key := str k, val := XE fa x, born := clock } : MapEntry)]).map (fun e : MapEntry => (e.key, e.val)) = (Sj m k x).map (fun k => (str k.1, XE fa k.2)) ∧ (Sj m k x).map Prod.fst = m.map Prod.fst ++ [k] ∧ k ∉ m.map Prod.fst := by
    intro m
    induction m with
    | nil =>
      intro es i h
      have : es = [] := by simpa using h
      subst this
      simp [UU, Sj]
    | cons y m ih =>
      intro es i h
      cases es with
      | nil => simp at h
      | cons e es =>
        simp only [List.map_cons, List.cons.injEq, Prod.mk.injEq] at h
        simp only [UU, Sj]
        cases hq : (k == y.1) with
        | true =>
          have hk : k = y.1 := eq_of_beq hq
          simp only [cond_true]
          exact ⟨0, rfl, by simp [h.2], by simp [hk], by simp [h.1.1, hk]⟩
        | false =>
          simp only [cond_false]
          have hne : k ≠ y.1 := fun h => by rw [h] at hq; simp at hq
          have := ih es (i + 1) h.2
          cases hf : UU m k (i + 1) with
          | none =>
            rw [hf] at this
            obtain ⟨h1, h2, h3⟩ := this
            refine ⟨?_, ?_, ?_⟩
            · simp only [List.cons_append, List.map_cons, h1, h.1.1, h.1.2]
            · simp only [List.map_cons, h2, List.cons_append]
            · simp only [List.map_cons, List.mem_cons, not_or]; exact ⟨hne, h3⟩
          | some z =>
            rw [hf] at this
            obtain ⟨j, h1, h2, h3, h4⟩ := this
            refine ⟨j + 1, by omega, ?_, ?_, ?_⟩
            · simp only [List.modify_succ_cons, List.map_cons, h2, h.1.1, h.1.2]
            · simp only [List.map_cons, h3]
            · simpa using h4
  have := key m es 0 ok.ZU
  cases hf : UU m k 0 with
  | none =>
    rw [hf] at this
    obtain ⟨h1, h2, h3⟩ := this
    refine ⟨h1, ?_, ?_, ?_⟩
    · rw [h2, List.nodup_append]
      exact ⟨ok.keys, by simp, fun a ha b hb => by rw [List.mem_singleton.1 hb]; exact fun h => h3 (by rw [← h]; exact ha)⟩
    · rw [List.map_append, List.nodup_append]
      refine ⟨ok.XW, by simp, fun a ha b hb => ?_⟩
      simp only [List.map_cons, List.map_nil, List.mem_singleton] at hb
      obtain ⟨e, he, rfl⟩ := List.mem_map.1 ha
      have := ok.lt e he
      omega
    · intro e he
      rcases List.mem_append.1 he with he | he
      · have := ok.lt e he; omega
      · rw [List.mem_singleton.1 he]; exact Nat.lt_succ_self _
  | some z =>
    rw [hf] at this
    obtain ⟨j, h1, h2, h3, h4⟩ := this
    rw [Nat.zero_add] at h1
    simp only
    rw [h1]
    have hb : (es.modify j fun e : MapEntry => { e with key := str k, val := XE fa x }).map MapEntry.born = es.map MapEntry.born := by
      apply List.ext_getElem?
      intro n
      simp only [List.getElem?_map, List.getElem?_modify]
      split
      · cases es[n]? <;> rfl
      · cases es[n]? <;> rfl
    refine ⟨⟨h2, by rw [h3]; exact ok.keys, by rw [hb]; exact ok.XW, fun e he => ?_⟩, h4⟩
    have : e.born ∈ es.map MapEntry.born := by rw [← hb]; exact List.mem_map.2 ⟨e, he, rfl⟩
    obtain ⟨e', he', h5⟩ := List.mem_map.1 this
    rw [← h5]; exact ok.lt e' he'
/-! ### a map that is owned: its keys rise, its elements are numbers of S -/
structure YV (fa : Nat → Nat) (S : List Nat) (m : Ou) (es : List MapEntry) (clock : Nat) : Prop where
  en : ∃ m0 : Ou, ZE fa m0 es clock ∧ m0.Perm m
  sorted : S8 m
  ins : ∀ e ∈ m, 0 ≤ e.2 ∧ e.2.toNat ∈ S
theorem YV.nil {fa : Nat → Nat} {S : List Nat} : YV fa S [] [] 0 := ⟨⟨[], ⟨rfl, List.nodup_nil, List.nodup_nil, fun e he => nomatch he⟩, List.Perm.refl _⟩, List.Pairwise.nil, fun e he => nomatch he⟩
theorem Xy {fa fa' : Nat → Nat} {x : Int} (h : 0 ≤ x → fa x.toNat = fa' x.toNat) : XE fa x = XE fa' x := by
  unfold XE
  split
  · rfl
  · rw [h (by omega)]
theorem YV.mono {fa fa' : Nat → Nat} {S S' : List Nat} {m : Ou} {es : List MapEntry} {clock : Nat} (ok : YV fa S m es clock) (h : ∀ i ∈ S, fa i = fa' i) (hs : ∀ i ∈ S, i ∈ S') : YV fa' S' m es clock := by
  obtain ⟨⟨m0, en, hp⟩, h2, h3⟩ := ok
  refine ⟨⟨m0, ⟨?_, en.keys, en.XW, en.lt⟩, hp⟩, h2, fun e he => ⟨(h3 e he).1, hs _ (h3 e he).2⟩⟩
  rw [en.ZU]
  refine List.map_congr_left fun e he => ?_
  rw [Xy (fa' := fa') fun _ => h _ (h3 e (hp.mem_iff.1 he)).2]
theorem YV.put {fa : Nat → Nat} {S : List Nat} {m : Ou} {es : List MapEntry} {clock : Nat} (ok : YV fa S m es clock) (k : List UInt8) {x : Int} (hx : 0 ≤ x) (hS : x.toNat ∈ S) {m0 : Ou} (hp : m0.Perm m) (hn : (m0.map Prod.fst).Nodup)
    {es' : List MapEntry} {clock' : Nat} (en : ZE fa (Sj m0 k x) es' clock') : YV fa S (YJ m k x) es' clock' :=
  ⟨⟨_, en, X5 hn hp k x⟩, Wo ok.sorted k x, fun e he => by
    rcases List.mem_cons.1 ((V2 m k x).mem_iff.1 he) with rfl | he
    · exact ⟨hx, hS⟩
    · exact ok.ins e (List.mem_filter.1 he).1⟩
section
variable {α : Type} {C : NR} {Q : α → LB} {T : Option α} {e : JU} {hp : HL} {L : List HP} {ops l : List Oper} {d : Nat} {v : Value} {o : Op} {ty : TypeId} {ps : String} {es : Array Edge}
  {dst : Option Nat} {gd : Option (Nat × Bool)} {G : JU → HL → List HP → Prop} {F : World → Prop} {fa : Nat → Nat} {S : List Nat} {m : Ou}
/-! pointers to files -/
end
end Kot
