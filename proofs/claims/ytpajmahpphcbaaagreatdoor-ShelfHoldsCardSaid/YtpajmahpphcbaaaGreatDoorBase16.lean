/- Words for walking Go functions: maps of texts whose elements are pointers to files, or nil; no program is named here. -/
import Derived.Test.YtpajmahpphcbaaaGreatDoorBase15
import Derived.Laws.IdiomRangeMap
import Derived.Laws.Externs
import GoSem.Instr.MapUpdate
import GoSem.Instr.MakeMap
import GoSem.Builtin.Delete
namespace Kot
open Go
/-! ### plain maps: their keys rise -/
theorem bytesLess_lt : ∀ (x y : List UInt8), Op.bytesLess x y = decide (x < y)
  | [], [] => by simp [Op.bytesLess]
  | _ :: _, [] => by simp [Op.bytesLess]
  | [], _ :: _ => by simp [Op.bytesLess]
  | a :: x, b :: y => by
    rw [Op.bytesLess, bytesLess_lt x y]
    by_cases h1 : a < b
    · simp [h1, List.cons_lt_cons_iff]
    · by_cases h2 : a = b <;> simp [h1, h2, List.cons_lt_cons_iff]
abbrev HMap := List (List UInt8 × Int)
def mget (m : HMap) (k : List UInt8) : Int := match m.find? (fun e => e.1 == k) with
  | some e => e.2
  | none => -1
def mdel (m : HMap) (k : List UInt8) : HMap := m.filter (fun e => !(e.1 == k))
def mins : HMap → List UInt8 → Int → HMap
  | [], k, x => [(k, x)]
  | e :: m, k, x => bif Op.bytesLess k e.1 then (k, x) :: e :: m else e :: mins m k x
def mput (m : HMap) (k : List UInt8) (x : Int) : HMap := mins (mdel m k) k x
def msorted (m : HMap) : Prop := m.Pairwise (fun a b => a.1 < b.1)
theorem mins_perm : ∀ (m : HMap) (k : List UInt8) (x : Int), (mins m k x).Perm ((k, x) :: m)
  | [], k, x => List.Perm.refl _
  | e :: m, k, x => by
    rw [mins]
    cases Op.bytesLess k e.1
    · exact ((mins_perm m k x).cons e).trans (List.Perm.swap _ _ _)
    · exact List.Perm.refl _
theorem mput_perm (m : HMap) (k : List UInt8) (x : Int) : (mput m k x).Perm ((k, x) :: mdel m k) := mins_perm _ _ _
theorem mdel_sorted {m : HMap} (h : msorted m) (k : List UInt8) : msorted (mdel m k) := List.Pairwise.filter _ h
theorem mins_sorted : ∀ {m : HMap} {k : List UInt8} {x : Int}, msorted m → (∀ e ∈ m, e.1 ≠ k) → msorted (mins m k x)
  | [], k, x, _, _ => List.pairwise_singleton _ _
  | e :: m, k, x, h, hk => by
    obtain ⟨h1, h2⟩ := List.pairwise_cons.1 h
    rw [mins, bytesLess_lt]
    by_cases hlt : k < e.1
    · rw [decide_eq_true hlt, cond_true]
      refine List.pairwise_cons.2 ⟨fun b hb => ?_, h⟩
      rcases List.mem_cons.1 hb with rfl | hb
      · exact hlt
      · exact List.lt_trans hlt (h1 b hb)
    · rw [decide_eq_false hlt, cond_false]
      have hne : e.1 ≠ k := hk e (by simp)
      have hgt : e.1 < k := by
        by_cases hh : e.1 < k
        · exact hh
        · exact absurd (List.le_antisymm (show e.1 ≤ k from hlt) (show k ≤ e.1 from hh)) hne
      refine List.pairwise_cons.2 ⟨fun b hb => ?_, mins_sorted h2 (fun z hz => hk z (by simp [hz]))⟩
      rcases List.mem_cons.1 ((mins_perm m k x).mem_iff.1 hb) with rfl | hb
      · exact hgt
      · exact h1 b hb
theorem mput_sorted {m : HMap} (h : msorted m) (k : List UInt8) (x : Int) : msorted (mput m k x) :=
  mins_sorted (mdel_sorted h k) (fun e he => by
    have := (List.mem_filter.1 he).2
    simpa using this)
theorem msorted_nodup {m : HMap} (h : msorted m) : (m.map Prod.fst).Nodup := by
  refine List.pairwise_map.2 (h.imp fun {a b} hab => ?_)
  intro he
  rw [he] at hab
  exact List.lt_irrefl _ hab
theorem mget_mem {m : HMap} (hn : (m.map Prod.fst).Nodup) {k : List UInt8} {x : Int} (h : (k, x) ∈ m) : mget m k = x := by
  induction m with
  | nil => cases h
  | cons e m ih =>
    obtain ⟨h1, h2⟩ := List.nodup_cons.1 hn
    unfold mget
    by_cases he : e.1 = k
    · rw [List.find?_cons_of_pos (by simp [he])]
      rcases List.mem_cons.1 h with rfl | h
      · rfl
      · exact absurd (by rw [he]; exact List.mem_map.2 ⟨_, h, rfl⟩) h1
    · rw [List.find?_cons_of_neg (by simp [he])]
      rcases List.mem_cons.1 h with rfl | h
      · exact absurd rfl he
      · exact ih h2 h
theorem mget_none {m : HMap} {k : List UInt8} (h : ∀ e ∈ m, e.1 ≠ k) : mget m k = -1 := by
  unfold mget
  rw [List.find?_eq_none.2 (fun e he => by simpa using h e he)]
theorem mget_perm {m m' : HMap} (hn : (m.map Prod.fst).Nodup) (hp : m.Perm m') (k : List UInt8) : mget m k = mget m' k := by
  have hn' := (hp.map Prod.fst).nodup_iff.1 hn
  by_cases h : ∃ e ∈ m, e.1 = k
  · obtain ⟨e, he, rfl⟩ := h
    rw [mget_mem hn (show (e.1, e.2) ∈ m from he), mget_mem hn' (show (e.1, e.2) ∈ m' from hp.mem_iff.1 he)]
  · have h1 : ∀ e ∈ m, e.1 ≠ k := fun e he hk => h ⟨e, he, hk⟩
    rw [mget_none h1, mget_none (fun e he => h1 e (hp.mem_iff.2 he))]
theorem mget_in {m : HMap} {k : List UInt8} : mget m k = -1 ∨ (k, mget m k) ∈ m := by
  unfold mget
  cases h : m.find? (fun e => e.1 == k) with
  | none => exact .inl rfl
  | some e =>
    right
    have h1 := List.mem_of_find?_eq_some h
    have h2 : e.1 = k := by simpa using List.find?_some h
    rw [← h2]; exact h1
/-! ### as they lie: in any order -/
def hpv (fa : Nat → Nat) (x : Int) : Value := if x < 0 then .pointer none else .pointer (some ⟨fa x.toNat, 0, none⟩)
def InS (S : List Nat) (x : Int) : Prop := x < 0 ∨ x.toNat ∈ S
structure MEn (fa : Nat → Nat) (m : HMap) (es : List MapEntry) (clock : Nat) : Prop where
  ents : es.map (fun e : MapEntry => (e.key, e.val)) = m.map fun k => (str k.1, hpv fa k.2)
  keys : (m.map Prod.fst).Nodup
  borns : (es.map MapEntry.born).Nodup
  lt : ∀ e ∈ es, e.born < clock
def mfind : HMap → List UInt8 → Nat → Option (Nat × Int)
  | [], _, _ => none
  | e :: m, k, i => bif k == e.1 then some (i, e.2) else mfind m k (i + 1)
def mput0 : HMap → List UInt8 → Int → HMap
  | [], k, x => [(k, x)]
  | e :: m, k, x => bif k == e.1 then (k, x) :: m else e :: mput0 m k x
def mdel0 : HMap → List UInt8 → HMap
  | [], _ => []
  | e :: m, k => bif k == e.1 then m else e :: mdel0 m k
theorem mdel0_eq : ∀ {m : HMap} (_ : (m.map Prod.fst).Nodup) (k : List UInt8), mdel0 m k = mdel m k
  | [], _, _ => rfl
  | e :: m, hn, k => by
    obtain ⟨h1, h2⟩ := List.nodup_cons.1 hn
    have ih := mdel0_eq h2 k
    unfold mdel at ih ⊢
    rw [mdel0]
    by_cases he : k = e.1
    · subst he
      have : m.filter (fun z => !(z.1 == e.1)) = m := List.filter_eq_self.2 (fun z hz => by
        have : z.1 ≠ e.1 := fun h => h1 (List.mem_map.2 ⟨z, hz, h⟩)
        simpa using this)
      rw [List.filter_cons_of_neg (by simp), this]; simp
    · have hne : (k == e.1) = false := by simpa using he
      rw [hne, cond_false, List.filter_cons_of_pos (by simpa using (fun h => he h.symm)), ih]
theorem mput0_perm : ∀ {m : HMap} (_ : (m.map Prod.fst).Nodup) (k : List UInt8) (x : Int), (mput0 m k x).Perm ((k, x) :: mdel m k)
  | [], _, k, x => List.Perm.refl _
  | e :: m, hn, k, x => by
    obtain ⟨h1, h2⟩ := List.nodup_cons.1 hn
    rw [← mdel0_eq hn, mput0, mdel0]
    cases he : (k == e.1)
    · simp only [cond_false]
      have := mput0_perm h2 k x
      rw [← mdel0_eq h2] at this
      exact (this.cons e).trans (List.Perm.swap _ _ _)
    · simp only [cond_true]; exact List.Perm.refl _
theorem mput0_put {m0 m : HMap} (hn : (m0.map Prod.fst).Nodup) (hp : m0.Perm m) (k : List UInt8) (x : Int) : (mput0 m0 k x).Perm (mput m k x) :=
  (mput0_perm hn k x).trans ((((hp.filter _)).cons _).trans (mput_perm m k x).symm)
theorem mdel0_del {m0 m : HMap} (hn : (m0.map Prod.fst).Nodup) (hp : m0.Perm m) (k : List UInt8) : (mdel0 m0 k).Perm (mdel m k) := by
  rw [mdel0_eq hn]; exact hp.filter _
theorem mfind_get : ∀ {m : HMap} {k : List UInt8} {i : Nat}, (mfind m k i).map Prod.snd = (m.find? (fun e => e.1 == k)).map Prod.snd
  | [], _, _ => rfl
  | e :: m, k, i => by
    rw [mfind]
    by_cases h : k = e.1
    · rw [List.find?_cons_of_pos (by simp [h])]; simp [h]
    · have : (k == e.1) = false := by simpa using h
      rw [this, cond_false, List.find?_cons_of_neg (by simpa using (fun hh => h hh.symm))]
      exact mfind_get
theorem mget_eq {fa : Nat → Nat} {m : HMap} {k : List UInt8} : (match (mfind m k 0).map fun x => (x.1, hpv fa x.2) with | some x => x.2 | none => Value.pointer none) = hpv fa (mget m k) := by
  have h := mfind_get (m := m) (k := k) (i := 0)
  unfold mget
  cases h1 : mfind m k 0 with
  | none =>
    rw [h1] at h
    cases h2 : m.find? (fun e => e.1 == k) with
    | none => rfl
    | some z => rw [h2] at h; cases h
  | some z =>
    rw [h1] at h
    cases h2 : m.find? (fun e => e.1 == k) with
    | none => rw [h2] at h; cases h
    | some y => rw [h2] at h; simp only [Option.map_some, Option.some.injEq] at h; simp [h]
theorem beqStr (a b : List UInt8) : ((⟨a.toArray⟩ : ByteArray) == ⟨b.toArray⟩) = (a == b) := by
  show (a.toArray == b.toArray) = (a == b)
  simp
theorem findNow_ok {fa : Nat → Nat} {k : List UInt8} : ∀ {m : HMap} {es : List MapEntry} {i : Nat}, es.map (fun e : MapEntry => (e.key, e.val)) = m.map (fun k => (str k.1, hpv fa k.2)) →
    Instr.findNow .string (str k) es i = some ((mfind m k i).map fun x => (x.1, hpv fa x.2))
  | [], [], i, _ => rfl
  | [], _ :: _, i, h => by simp at h
  | _ :: _, [], i, h => by simp at h
  | x :: m, e :: es, i, h => by
    simp only [List.map_cons, List.cons.injEq, Prod.mk.injEq] at h
    have ih := findNow_ok (k := k) (i := i + 1) h.2
    have hs : Instr.sameNow .string (str k) e.key = some (k == x.1) := by
      rw [h.1.1]
      show some _ = _
      rw [beqStr]
    simp only [Instr.findNow, hs, mfind]
    cases k == x.1 with
    | true => simp [h.1.2]
    | false => exact ih
theorem run_findKey {P : Program} {w : World} {t : TypeId} (hk : P.underlying t = some .string) {fa : Nat → Nat} {m : HMap} {es : List MapEntry} {k : List UInt8} (h : es.map (fun e : MapEntry => (e.key, e.val)) = m.map (fun k => (str k.1, hpv fa k.2))) :
    (Instr.findKey t (str k) es).run P w = .ok ((mfind m k 0).map fun x => (x.1, hpv fa x.2)) w := by
  have hu : (underlying t).run P w = .ok .string w := run_underlying hk w
  simp [Instr.findKey, hu, findNow_ok h]
theorem run_checkKey {P : Program} {w : World} {t : TypeId} (hk : P.underlying t = some .string) (b : Bool) (k : List UInt8) : (Instr.checkKey b 10000 t (str k)).run P w = .ok () w := by
  have hu : (underlying t).run P w = .ok .string w := run_underlying hk w
  show (Instr.checkKey b (9999 + 1) t (str k)).run P w = .ok () w
  unfold Instr.checkKey
  rw [Sem.run_bind, hu]
  rfl
theorem MEn.put {fa : Nat → Nat} {m : HMap} {es : List MapEntry} {clock : Nat} (ok : MEn fa m es clock) (k : List UInt8) (x : Int) :
    match mfind m k 0 with
    | some z => MEn fa (mput0 m k x) (es.modify z.1 fun e : MapEntry => { e with key := str k, val := hpv fa x }) clock ∧ (es[z.1]?).map MapEntry.key = some (str k)
    | none => MEn fa (mput0 m k x) (es ++ [({ key := str k, val := hpv fa x, born := clock } : MapEntry)]) (clock + 1) := by
  have key : ∀ (m : HMap) (es : List MapEntry) (i : Nat), es.map (fun e : MapEntry => (e.key, e.val)) = m.map (fun k => (str k.1, hpv fa k.2)) →
      match mfind m k i with
      | some z => ∃ j, z.1 = i + j ∧ (es.modify j fun e : MapEntry => { e with key := str k, val := hpv fa x }).map (fun e : MapEntry => (e.key, e.val)) = (mput0 m k x).map (fun k => (str k.1, hpv fa k.2)) ∧ (mput0 m k x).map Prod.fst = m.map Prod.fst ∧ (es[j]?).map MapEntry.key = some (str k)
      | none => (es ++ [({ key := str k, val := hpv fa x, born := clock } : MapEntry)]).map (fun e : MapEntry => (e.key, e.val)) = (mput0 m k x).map (fun k => (str k.1, hpv fa k.2)) ∧ (mput0 m k x).map Prod.fst = m.map Prod.fst ++ [k] ∧ k ∉ m.map Prod.fst := by
    intro m
    induction m with
    | nil =>
      intro es i h
      have : es = [] := by simpa using h
      subst this
      simp [mfind, mput0]
    | cons y m ih =>
      intro es i h
      cases es with
      | nil => simp at h
      | cons e es =>
        simp only [List.map_cons, List.cons.injEq, Prod.mk.injEq] at h
        simp only [mfind, mput0]
        cases hq : (k == y.1) with
        | true =>
          have hk : k = y.1 := eq_of_beq hq
          simp only [cond_true]
          exact ⟨0, rfl, by simp [h.2], by simp [hk], by simp [h.1.1, hk]⟩
        | false =>
          simp only [cond_false]
          have hne : k ≠ y.1 := fun h => by rw [h] at hq; simp at hq
          have := ih es (i + 1) h.2
          cases hf : mfind m k (i + 1) with
          | none =>
            rw [hf] at this
            obtain ⟨h1, h2, h3⟩ := this
            refine ⟨?_, ?_, ?_⟩
            · simp only [List.cons_append, List.map_cons, h1, h.1.1, h.1.2]
            · simp only [List.map_cons, h2, List.cons_append]
            · simp only [List.map_cons, List.mem_cons, not_or]; exact ⟨hne, h3⟩
          | some z =>
            rw [hf] at this
            obtain ⟨j, h1, h2, h3, h4⟩ := this
            refine ⟨j + 1, by omega, ?_, ?_, ?_⟩
            · simp only [List.modify_succ_cons, List.map_cons, h2, h.1.1, h.1.2]
            · simp only [List.map_cons, h3]
            · simpa using h4
  have := key m es 0 ok.ents
  cases hf : mfind m k 0 with
  | none =>
    rw [hf] at this
    obtain ⟨h1, h2, h3⟩ := this
    refine ⟨h1, ?_, ?_, ?_⟩
    · rw [h2, List.nodup_append]
      exact ⟨ok.keys, by simp, fun a ha b hb => by rw [List.mem_singleton.1 hb]; exact fun h => h3 (by rw [← h]; exact ha)⟩
    · rw [List.map_append, List.nodup_append]
      refine ⟨ok.borns, by simp, fun a ha b hb => ?_⟩
      simp only [List.map_cons, List.map_nil, List.mem_singleton] at hb
      obtain ⟨e, he, rfl⟩ := List.mem_map.1 ha
      have := ok.lt e he
      omega
    · intro e he
      rcases List.mem_append.1 he with he | he
      · have := ok.lt e he; omega
      · rw [List.mem_singleton.1 he]; exact Nat.lt_succ_self _
  | some z =>
    rw [hf] at this
    obtain ⟨j, h1, h2, h3, h4⟩ := this
    rw [Nat.zero_add] at h1
    simp only
    rw [h1]
    have hb : (es.modify j fun e : MapEntry => { e with key := str k, val := hpv fa x }).map MapEntry.born = es.map MapEntry.born := by
      apply List.ext_getElem?
      intro n
      simp only [List.getElem?_map, List.getElem?_modify]
      split
      · cases es[n]? <;> rfl
      · cases es[n]? <;> rfl
    refine ⟨⟨h2, by rw [h3]; exact ok.keys, by rw [hb]; exact ok.borns, fun e he => ?_⟩, h4⟩
    have : e.born ∈ es.map MapEntry.born := by rw [← hb]; exact List.mem_map.2 ⟨e, he, rfl⟩
    obtain ⟨e', he', h5⟩ := List.mem_map.1 this
    rw [← h5]; exact ok.lt e' he'
theorem MEn.del {fa : Nat → Nat} {m : HMap} {es : List MapEntry} {clock : Nat} (ok : MEn fa m es clock) (k : List UInt8) :
    match mfind m k 0 with
    | some z => MEn fa (mdel0 m k) (es.eraseIdx z.1) clock
    | none => mdel0 m k = m := by
  have key : ∀ (m : HMap) (es : List MapEntry) (i : Nat), es.map (fun e : MapEntry => (e.key, e.val)) = m.map (fun k => (str k.1, hpv fa k.2)) →
      match mfind m k i with
      | some z => ∃ j, z.1 = i + j ∧ (es.eraseIdx j).map (fun e : MapEntry => (e.key, e.val)) = (mdel0 m k).map (fun k => (str k.1, hpv fa k.2)) ∧ ((mdel0 m k).map Prod.fst).Sublist (m.map Prod.fst)
      | none => mdel0 m k = m := by
    intro m
    induction m with
    | nil => intro es i h; rfl
    | cons y m ih =>
      intro es i h
      cases es with
      | nil => simp at h
      | cons e es =>
        simp only [List.map_cons, List.cons.injEq, Prod.mk.injEq] at h
        simp only [mfind, mdel0]
        cases hq : (k == y.1) with
        | true =>
          simp only [cond_true]
          exact ⟨0, rfl, by simpa using h.2, by simp⟩
        | false =>
          simp only [cond_false]
          have := ih es (i + 1) h.2
          cases hf : mfind m k (i + 1) with
          | none => rw [hf] at this; rw [this]
          | some z =>
            rw [hf] at this
            obtain ⟨j, h1, h2, h3⟩ := this
            exact ⟨j + 1, by omega, by simp only [List.eraseIdx_cons_succ, List.map_cons, h2, h.1.1, h.1.2], by simpa using h3⟩
  have := key m es 0 ok.ents
  cases hf : mfind m k 0 with
  | none => rw [hf] at this; exact this
  | some z =>
    rw [hf] at this
    obtain ⟨j, h1, h2, h3⟩ := this
    rw [Nat.zero_add] at h1
    simp only
    rw [h1]
    refine ⟨h2, h3.nodup ok.keys, (((List.eraseIdx_sublist es j).map MapEntry.born)).nodup ok.borns, fun e he => ok.lt e (List.mem_of_mem_eraseIdx he)⟩
/-! ### a map that is owned: its keys rise, its elements are numbers of S -/
structure MOk (fa : Nat → Nat) (S : List Nat) (m : HMap) (es : List MapEntry) (clock : Nat) : Prop where
  en : ∃ m0 : HMap, MEn fa m0 es clock ∧ m0.Perm m
  sorted : msorted m
  ins : ∀ e ∈ m, 0 ≤ e.2 ∧ e.2.toNat ∈ S
def mpi (mb : Nat) (fa : Nat → Nat) (S : List Nat) (m : HMap) : HP := fun h => ∃ es clock, h = [(mb, .map es clock)] ∧ MOk fa S m es.toList clock
theorem MOk.inS {fa : Nat → Nat} {S : List Nat} {m : HMap} {es : List MapEntry} {clock : Nat} (ok : MOk fa S m es clock) (k : List UInt8) : InS S (mget m k) := by
  rcases mget_in (m := m) (k := k) with h | h
  · rw [h]; exact .inl (by omega)
  · exact .inr (ok.ins _ h).2
theorem MOk.nil {fa : Nat → Nat} {S : List Nat} : MOk fa S [] [] 0 := ⟨⟨[], ⟨rfl, List.nodup_nil, List.nodup_nil, fun e he => nomatch he⟩, List.Perm.refl _⟩, List.Pairwise.nil, fun e he => nomatch he⟩
theorem hpv_congr {fa fa' : Nat → Nat} {x : Int} (h : 0 ≤ x → fa x.toNat = fa' x.toNat) : hpv fa x = hpv fa' x := by
  unfold hpv
  split
  · rfl
  · rw [h (by omega)]
theorem MOk.mono {fa fa' : Nat → Nat} {S S' : List Nat} {m : HMap} {es : List MapEntry} {clock : Nat} (ok : MOk fa S m es clock) (h : ∀ i ∈ S, fa i = fa' i) (hs : ∀ i ∈ S, i ∈ S') : MOk fa' S' m es clock := by
  obtain ⟨⟨m0, en, hp⟩, h2, h3⟩ := ok
  refine ⟨⟨m0, ⟨?_, en.keys, en.borns, en.lt⟩, hp⟩, h2, fun e he => ⟨(h3 e he).1, hs _ (h3 e he).2⟩⟩
  rw [en.ents]
  refine List.map_congr_left fun e he => ?_
  rw [hpv_congr (fa' := fa') fun _ => h _ (h3 e (hp.mem_iff.1 he)).2]
theorem MOk.put {fa : Nat → Nat} {S : List Nat} {m : HMap} {es : List MapEntry} {clock : Nat} (ok : MOk fa S m es clock) (k : List UInt8) {x : Int} (hx : 0 ≤ x) (hS : x.toNat ∈ S) {m0 : HMap} (hp : m0.Perm m) (hn : (m0.map Prod.fst).Nodup)
    {es' : List MapEntry} {clock' : Nat} (en : MEn fa (mput0 m0 k x) es' clock') : MOk fa S (mput m k x) es' clock' :=
  ⟨⟨_, en, mput0_put hn hp k x⟩, mput_sorted ok.sorted k x, fun e he => by
    rcases List.mem_cons.1 ((mput_perm m k x).mem_iff.1 he) with rfl | he
    · exact ⟨hx, hS⟩
    · exact ok.ins e (List.mem_filter.1 he).1⟩
section
variable {α : Type} {C : Ctx} {Q : α → Post} {T : Option α} {e : Env} {hp : HL} {L : List HP} {ops l : List Oper} {d : Nat} {v : Value} {o : Op} {ty : TypeId} {ps : String} {es : Array Edge}
  {dst : Option Nat} {gd : Option (Nat × Bool)} {G : Env → HL → List HP → Prop} {F : World → Prop} {fa : Nat → Nat} {S : List Nat} {m : HMap}
theorem own_mpi {X : World} {w : World} {i mb : Nat} (hw : Own X hp L w) (hL : L[i]? = some (mpi mb fa S m)) :
    ∃ en clock, w.heap[mb]? = some (.map en clock) ∧ MOk fa S m en.toList clock ∧ Own X hp (L.set i (pt mb (.map en clock))) w := by
  obtain ⟨hh, hs, hsat⟩ := hw.ex
  obtain ⟨h1, h2, h3, rfl, ⟨en, clock, rfl, ok⟩, hset⟩ := star_split hs hL
  exact ⟨en, clock, hsat.2 (mb, _) (by simp), ok, ⟨_, hset (pt mb (.map en clock)) _ rfl, hsat⟩, hw.os, hw.tape, hw.output⟩
theorem to_mpi {X : World} {w : World} {i mb : Nat} {en : Array MapEntry} {clock : Nat} (hw : Own X hp (L.set i (pt mb (.map en clock))) w) (hi : i < L.length) (ok : MOk fa S m en.toList clock) : Own X hp (L.set i (mpi mb fa S m)) w := by
  obtain ⟨hh, hs, hsat⟩ := hw.ex
  have hL : (L.set i (pt mb (.map en clock)))[i]? = some (pt mb (.map en clock)) := by simp [hi]
  obtain ⟨h1, h2, h3, rfl, ha, hset⟩ := star_split hs hL
  have hb : h2 = [(mb, .map en clock)] := ha
  subst hb
  have := hset (mpi mb fa S m) [(mb, .map en clock)] ⟨en, clock, rfl, ok⟩
  rw [List.set_set] at this
  exact ⟨⟨_, this, hsat⟩, hw.os, hw.tape, hw.output⟩
theorem set_map {P : Program} {X : World} {w : World} {i mb : Nat} {en en' : Array MapEntry} {clock clock' : Nat} (hw : Own X hp (L.set i (pt mb (.map en clock))) w) (hi : i < L.length) :
    (setObj mb (.map en' clock')).run P w = .ok () { w with heap := w.heap.setIfInBounds mb (.map en' clock') } ∧ Own X hp (L.set i (pt mb (.map en' clock'))) { w with heap := w.heap.setIfInBounds mb (.map en' clock') } := by
  have hL : (L.set i (pt mb (.map en clock)))[i]? = some (pt mb (.map en clock)) := by simp [hi]
  have hg := hw.get hL
  have hb : mb < w.heap.size := by
    rcases Nat.lt_or_ge mb w.heap.size with h' | h'
    · exact h'
    · rw [Array.getElem?_eq_none h'] at hg; cases hg
  refine ⟨by simp [setObj, Sem.run, hg], ?_⟩
  have := hw.set (o' := .map en' clock') (w' := { w with heap := w.heap.setIfInBounds mb (.map en' clock') }) hL rfl rfl rfl (by simp [Array.getElem?_setIfInBounds, hb]) (fun k hk => by
    simp only [Array.getElem?_setIfInBounds]
    rw [if_neg (fun h => hk h.symm)])
  rwa [List.set_set] at this
theorem lt_of_get {A : HP} {i : Nat} (h : L[i]? = some A) : i < L.length := by
  rcases Nat.lt_or_ge i L.length with h' | h'
  · exact h'
  · rw [List.getElem?_eq_none h'] at h; cases h
theorem mlk {mb t tk te : Nat} {x y : Operand} {k : List UInt8} (i : Nat) (hN : Nat.blt d C.N = true) (hx : ev e x = .map (some mb)) (hy : ev e y = str k) (hL : L[i]? = some (mpi mb fa S m))
    (ht : C.P.underlying t = some (.map tk te)) (hk : C.P.underlying tk = some .string) (hz : ∀ w, (zeroValue te).run C.P w = .ok (.pointer none) w)
    (kk : InS S (mget m k) → G (upd e d (hpv fa (mget m k))) hp L) : OpJ C ⟨some d, .lookup t x y false, ty, ps, es, gd⟩ e hp L G :=
  ⟨fun a w ha hw next Q' hn => by
    obtain ⟨en, clock, hg, ok, -⟩ := own_mpi hw hL
    obtain ⟨⟨m0, me, hpm⟩, -, -⟩ := id ok
    have hu : (underlying t).run C.P w = .ok (.map tk te) w := run_underlying ht w
    have h1 := run_checkKey (w := w) hk en.isEmpty k
    have h2 := run_findKey (w := w) hk (k := k) me.ents
    have hget : (getObj mb).run C.P w = .ok (.map en clock) w := by simp [getObj, Sem.run, hg]
    have hr : (execOp a.eval ⟨some d, .lookup t x y false, ty, ps, es, gd⟩).run C.P w = .ok (.value (hpv fa (mget m k))) w := by
      simp only [execOp, ha.eval, hx, hy, Instr.lookup]
      rw [← mget_perm me.keys hpm k, ← mget_eq]
      cases hf : mfind m0 k 0 with
      | none =>
        rw [hf] at h2
        simp [hu, hget, h1, h2, hz]
      | some z =>
        rw [hf] at h2
        simp [hu, hget, h1, h2]
    simp only [Oper.wp, hr, Oper.upon]
    exact hn _ _ _ _ _ (kk (ok.inS k)) (ha.put hN _) hw⟩
theorem mup {mb t tk te : Nat} {x y z : Operand} {k : List UInt8} {n : Int} (i : Nat) (hx : ev e x = .map (some mb)) (hy : ev e y = str k) (hz : ev e z = hpv fa n) (hL : L[i]? = some (mpi mb fa S m)) (h0 : decide (n < 0) = false) (hS : InS S n)
    (ht : C.P.underlying t = some (.map tk te)) (hk : C.P.underlying tk = some .string) (kk : G e hp (L.set i (mpi mb fa S (mput m k n)))) : OpJ C ⟨none, .mapUpdate t x y z, ty, ps, es, gd⟩ e hp L G :=
  OpJ.skip (fun w hw => by
    obtain ⟨en, clock, hg, ok, ho⟩ := own_mpi hw hL
    obtain ⟨⟨m0, me, hpm⟩, -, -⟩ := id ok
    have hn0 : 0 ≤ n := by have := of_decide_eq_false h0; omega
    have hn1 : n.toNat ∈ S := by
      rcases hS with h | h
      · omega
      · exact h
    have hi := lt_of_get hL
    have hu : (underlying t).run C.P w = .ok (.map tk te) w := run_underlying ht w
    have h1 := run_checkKey (w := w) hk false k
    have h2 := run_findKey (w := w) hk (k := k) me.ents
    have hget : (getObj mb).run C.P w = .ok (.map en clock) w := by simp [getObj, Sem.run, hg]
    have hput := me.put k n
    cases hf : mfind m0 k 0 with
    | none =>
      rw [hf] at h2 hput
      obtain ⟨hset, ho'⟩ := set_map (P := C.P) (en' := en.push { key := str k, val := hpv fa n, born := clock }) (clock' := clock + 1) ho hi
      refine ⟨_, ?_, to_mpi ho' hi (ok.put k hn0 hn1 hpm me.keys (by rw [Array.toList_push]; exact hput))⟩
      simp [execOp, hx, hy, hz, Instr.mapUpdate, hu, hget, h1, h2, hset]
    | some q =>
      rw [hf] at h2 hput
      obtain ⟨hset, ho'⟩ := set_map (P := C.P) (en' := en.modify q.1 fun e => { e with key := str k, val := hpv fa n }) (clock' := clock) ho hi
      refine ⟨_, ?_, to_mpi ho' hi (ok.put k hn0 hn1 hpm me.keys (by rw [Array.toList_modify]; exact hput.1))⟩
      have hke : ((en[q.1]?).map MapEntry.key).getD (str k) = str k := by
        have h3 := hput.2
        rw [Array.getElem?_toList] at h3
        rw [h3]; rfl
      have hst : (Instr.keyThatStays (str k) (str k)).run C.P w = .ok (str k) w := by simp [Instr.keyThatStays, Instr.sameBits, str, beqStr]
      simp [execOp, hx, hy, hz, Instr.mapUpdate, hu, hget, h1, h2, hke, hst, hset]) kk
theorem mdl {mb t tk te : Nat} {x y : Operand} {ts : Array TypeId} {k : List UInt8} (i : Nat) (hx : ev e x = .map (some mb)) (hy : ev e y = str k) (hL : L[i]? = some (mpi mb fa S m)) (h0 : ts[0]? = some t)
    (ht : C.P.underlying t = some (.map tk te)) (hk : C.P.underlying tk = some .string) (kk : G e hp (L.set i (mpi mb fa S (mdel m k)))) : OpJ C ⟨none, .call ⟨.builtin .delete, #[x, y], ts⟩, ty, ps, es, gd⟩ e hp L G :=
  ⟨fun a w ha hw next Q' hn => by
    obtain ⟨en, clock, hg, ok, ho⟩ := own_mpi hw hL
    obtain ⟨⟨m0, me, hpm⟩, -, -⟩ := id ok
    have hi := lt_of_get hL
    have hu : (underlying t).run C.P w = .ok (.map tk te) w := run_underlying ht w
    have h1 := run_checkKey (w := w) hk en.isEmpty k
    have h2 := run_findKey (w := w) hk (k := k) me.ents
    have hget : (getObj mb).run C.P w = .ok (.map en clock) w := by simp [getObj, Sem.run, hg]
    have hdel := me.del k
    have hins : ∀ z ∈ mdel m k, 0 ≤ z.2 ∧ z.2.toNat ∈ S := fun z hz => ok.ins z (List.mem_filter.1 hz).1
    cases hf : mfind m0 k 0 with
    | none =>
      rw [hf] at h2 hdel
      obtain ⟨hset, ho'⟩ := set_map (P := C.P) (en' := en) (clock' := clock) ho hi
      have hr : (execOp a.eval ⟨none, .call ⟨.builtin .delete, #[x, y], ts⟩, ty, ps, es, gd⟩).run C.P w = .ok (.value (.tuple #[])) { w with heap := w.heap.setIfInBounds mb (.map en clock) } := by
        simp [execOp, resolve, invoke, builtin, ha.eval, hx, hy, Builtin.delete_, h0, hu, hget, h1, h2, hset]
      simp only [Oper.wp, hr, Oper.upon]
      refine hn _ _ _ _ _ kk (ha.put_none _) (to_mpi ho' hi ⟨⟨_, me, ?_⟩, mdel_sorted ok.sorted k, hins⟩)
      rw [← hdel]; exact mdel0_del me.keys hpm k
    | some q =>
      rw [hf] at h2 hdel
      obtain ⟨hset, ho'⟩ := set_map (P := C.P) (en' := en.eraseIdxIfInBounds q.1) (clock' := clock) ho hi
      have hr : (execOp a.eval ⟨none, .call ⟨.builtin .delete, #[x, y], ts⟩, ty, ps, es, gd⟩).run C.P w = .ok (.value (.tuple #[])) { w with heap := w.heap.setIfInBounds mb (.map (en.eraseIdxIfInBounds q.1) clock) } := by
        simp [execOp, resolve, invoke, builtin, ha.eval, hx, hy, Builtin.delete_, h0, hu, hget, h1, h2, hset]
      simp only [Oper.wp, hr, Oper.upon]
      refine hn _ _ _ _ _ kk (ha.put_none _) (to_mpi ho' hi ⟨⟨_, ?_, mdel0_del me.keys hpm k⟩, mdel_sorted ok.sorted k, hins⟩)
      have : (en.eraseIdxIfInBounds q.1).toList = en.toList.eraseIdx q.1 := by simp
      rw [this]; exact hdel⟩
theorem mkM {t : Nat} (fa : Nat → Nat) (S : List Nat) (hN : Nat.blt d C.N = true) (k : ∀ b, G (upd e d (.map (some b))) hp (mpi b fa S [] :: L)) : OpJ C ⟨some d, .makeMap t none, ty, ps, es, gd⟩ e hp L G :=
  ⟨fun a w ha hw next Q' hn => by
    have : (execOp a.eval ⟨some d, .makeMap t none, ty, ps, es, gd⟩).run C.P w = .ok (.value (.map (some w.heap.size))) (w.alloc (.map #[] 0)) := by
      simp [execOp, Instr.makeMap]
    simp only [Oper.wp, this, Oper.upon]
    refine hn _ _ _ _ _ (k _) (ha.put hN _) ?_
    have h1 := hw.new (.map #[] 0)
    exact to_mpi (i := 0) (L := pt w.heap.size (.map #[] 0) :: L) (by simpa using h1) (by simp) MOk.nil⟩
/-! pointers to files -/
theorem hpv_neg {x : Int} (h : x < 0) : hpv fa x = .pointer none := if_pos h
theorem hpv_pos {x : Int} (h : ¬ x < 0) : hpv fa x = .pointer (some ⟨fa x.toNat, 0, none⟩) := if_neg h
theorem peH {t t' el : Nat} {x y : Operand} {n : Int} (ht : ∀ w, (underlying t).run C.P w = .ok (.pointer el) w) (hx : ev e x = hpv fa n) (hy : ev e y = .pointer none) :
    Pur C F ⟨dst, .binOp .eql t x y t', ty, ps, es, gd⟩ e (.bool (decide (n < 0))) := by
  by_cases h : n < 0
  · rw [hpv_neg h] at hx; rw [decide_eq_true h]; exact peNN ht hx hy
  · rw [hpv_pos h] at hx; rw [decide_eq_false h]; exact pePN ht hx hy
theorem pnH {t t' el : Nat} {x y : Operand} {n : Int} (ht : ∀ w, (underlying t).run C.P w = .ok (.pointer el) w) (hx : ev e x = hpv fa n) (hy : ev e y = .pointer none) :
    Pur C F ⟨dst, .binOp .neq t x y t', ty, ps, es, gd⟩ e (.bool (!decide (n < 0))) := by
  by_cases h : n < 0
  · rw [hpv_neg h] at hx; rw [decide_eq_true h]; exact pnNN ht hx hy
  · rw [hpv_pos h] at hx; rw [decide_eq_false h]; exact pnPN ht hx hy
theorem ncH {x : Operand} {n : Int} (hx : ev e x = hpv fa n) (h0 : decide (n < 0) = false) : Pur C F ⟨dst, .nilCheck x, ty, ps, es, gd⟩ e (.pointer (some ⟨fa n.toNat, 0, none⟩)) := by
  rw [hpv_pos (of_decide_eq_false h0)] at hx
  exact nc hx
end
end Kot
