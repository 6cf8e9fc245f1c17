/- Words for walking Go functions: a map from files to their copies; no program is named here. -/
import Derived.Test.YtgfjecngfmachaaBase18
import Derived.LaidEqlPtr
namespace Kot
open Go Go.RowKit
section
variable {X : World} {hp : HL} {L : List HP} {w : World} {T : HT} {fa fb : Nat → Nat} {S D : List Nat} {fs : List HFile}
theorem own_ne {A : HP} {b b' : Nat} {o o' : Obj} (hw : Own X hp (pt b o :: A :: pt b' o' :: L) w) : b ≠ b' := by
  obtain ⟨hh, ⟨h1, h2, rfl, h3, h4, h5, rfl, h6, h7, h8, rfl, h9, h10⟩, hn, _⟩ := hw.ex
  have e1 : h1 = [(b, o)] := h3
  have e2 : h7 = [(b', o')] := h9
  subst e1 e2
  rintro rfl
  have h11 := (List.nodup_append.1 (by simpa using hn)).2.1
  simp at h11
theorem own_uni_file {i n : Nat} (hw : Own X hp L w) (hi : L[i]? = some (uni T fa S fs)) (hn : n ∈ S) : ∃ g : SG3, Own X hp (blk (fa n) T.f [sg g, .int .i64 (fget fs n).safe] :: sl (sg g) T.b 1 ((fget fs n).p.flatMap (vi .u8)) :: ((S.erase n).map (fun i => fileP T (fa i) (fget fs i)) ++ L.eraseIdx i)) w ∧ S.Nodup ∧ ∀ i ∈ S, i < fs.length := by
  obtain ⟨-, ⟨hnd, hlt⟩, hw2⟩ := own_open (ι := Unit) (Ls := fun _ => S.map fun i => fileP T (fa i) (fget fs i)) (φ := fun _ => S.Nodup ∧ ∀ i ∈ S, i < fs.length) (fun h hh => ⟨(), ⟨hh.2.1, hh.2.2⟩, hh.1⟩) (own_front hw hi)
  have hp1 : (S.map fun i => fileP T (fa i) (fget fs i)).Perm (fileP T (fa n) (fget fs n) :: (S.erase n).map fun i => fileP T (fa i) (fget fs i)) := (List.perm_cons_erase hn).map (fun i => fileP T (fa i) (fget fs i))
  obtain ⟨g, -, hw4⟩ := own_open (ι := SG3) (Ls := fun g => [blk (fa n) T.f [sg g, .int .i64 (fget fs n).safe], sl (sg g) T.b 1 ((fget fs n).p.flatMap (vi .u8))]) (φ := fun _ => True) (fun h ⟨g, hg⟩ => ⟨g, trivial, hg⟩) (own_perm (hp1.append_right (L.eraseIdx i)) hw2)
  exact ⟨g, hw4, hnd, hlt⟩
theorem own_uni_blk {i n : Nat} (hw : Own X hp L w) (hi : L[i]? = some (uni T fa S fs)) (hn : n ∈ S) : ∃ cs t, w.heap[fa n]? = some (.cells cs t (0, 0)) := by
  obtain ⟨g, h, -⟩ := own_uni_file hw hi hn
  exact ⟨_, _, h.get (i := 0) rfl⟩
theorem own_uni_inj {i : Nat} (hw : Own X hp L w) (hi : L[i]? = some (uni T fa S fs)) : ∀ n ∈ S, ∀ m ∈ S, fa n = fa m → n = m := by
  intro n hn m hm he
  by_cases hnm : n = m
  · exact hnm
  · exfalso
    obtain ⟨g, h, hnd, -⟩ := own_uni_file hw hi hn
    have hm' : m ∈ S.erase n := (List.mem_erase_of_ne (fun h => hnm h.symm)).2 hm
    have hp1 : ((S.erase n).map fun i => fileP T (fa i) (fget fs i)).Perm (fileP T (fa m) (fget fs m) :: ((S.erase n).erase m).map fun i => fileP T (fa i) (fget fs i)) := (List.perm_cons_erase hm').map (fun i => fileP T (fa i) (fget fs i))
    have h2 := own_perm ((hp1.append_right (L.eraseIdx i)).cons (sl (sg g) T.b 1 ((fget fs n).p.flatMap (vi .u8))) |>.cons (blk (fa n) T.f [sg g, .int .i64 (fget fs n).safe])) h
    have h3 := own_perm (B := fileP T (fa m) (fget fs m) :: blk (fa n) T.f [sg g, .int .i64 (fget fs n).safe] :: sl (sg g) T.b 1 ((fget fs n).p.flatMap (vi .u8)) :: (((S.erase n).erase m).map (fun i => fileP T (fa i) (fget fs i)) ++ L.eraseIdx i)) (((List.Perm.swap _ _ _).cons _).trans (List.Perm.swap _ _ _)) h2
    obtain ⟨g', -, h4⟩ := own_open (ι := SG3) (Ls := fun g => [blk (fa m) T.f [sg g, .int .i64 (fget fs m).safe], sl (sg g) T.b 1 ((fget fs m).p.flatMap (vi .u8))]) (φ := fun _ => True) (fun h ⟨g, hg⟩ => ⟨g, trivial, hg⟩) h3
    exact own_ne h4 he.symm
theorem own_uniH_blk {i n q : Nat} (hw : Own X hp L w) (hi : L[i]? = some (uniH T fa S fs n)) (hq : q ∈ S) (hne : q ≠ n) : ∃ cs t, w.heap[fa q]? = some (.cells cs t (0, 0)) := by
  obtain ⟨-, -, hw2⟩ := own_open (ι := Unit) (Ls := fun _ => (S.erase n).map fun i => fileP T (fa i) (fget fs i)) (φ := fun _ => True) (fun h hh => ⟨(), trivial, hh.1⟩) (own_front hw hi)
  have hq' : q ∈ S.erase n := (List.mem_erase_of_ne hne).2 hq
  have hp1 : ((S.erase n).map fun i => fileP T (fa i) (fget fs i)).Perm (fileP T (fa q) (fget fs q) :: ((S.erase n).erase q).map fun i => fileP T (fa i) (fget fs i)) := (List.perm_cons_erase hq').map (fun i => fileP T (fa i) (fget fs i))
  obtain ⟨g, -, hw4⟩ := own_open (ι := SG3) (Ls := fun g => [blk (fa q) T.f [sg g, .int .i64 (fget fs q).safe], sl (sg g) T.b 1 ((fget fs q).p.flatMap (vi .u8))]) (φ := fun _ => True) (fun h ⟨g, hg⟩ => ⟨g, trivial, hg⟩) (own_perm (hp1.append_right (L.eraseIdx i)) hw2)
  exact ⟨_, _, hw4.get (i := 0) rfl⟩
/-- what the files' places are -/
theorem UniInj {J : HL → List HP → Prop} (c : Cv X J) (i : Nat) (hi : L[i]? = some (uni T fa S fs)) (k : (∀ n ∈ S, ∀ m ∈ S, fa n = fa m → n = m) → J hp L) : J hp L :=
  c.cx (ι := Unit) (Φ := fun _ => ∀ n ∈ S, ∀ m ∈ S, fa n = fa m → n = m) (hp' := fun _ => hp) (L' := fun _ => L) (fun w hw => ⟨(), own_uni_inj hw hi, hw⟩) (fun _ h => k h)
/-- a copy among the copies -/
theorem UniPut {J : HL → List HP → Prop} {n a : Nat} {g : SG3} (c : Cv X J) (hn : n < fs.length) (hD : n ∉ D)
    (k : J hp (uni T (updf fb n a) (D ++ [n]) fs :: L)) : J hp (blk a T.f [sg g, .int .i64 (fget fs n).safe] :: sl (sg g) T.b 1 ((fget fs n).p.flatMap (vi .u8)) :: uni T fb D fs :: L) := by
  refine c.cv (fun w hw => ?_) k
  have hw1 := own_shut (Ls := [blk a T.f [sg g, .int .i64 (fget fs n).safe], sl (sg g) T.b 1 ((fget fs n).p.flatMap (vi .u8))]) (A := fileP T a (fget fs n)) (fun h hs => ⟨g, hs⟩) hw
  obtain ⟨-, ⟨hnd, hlt⟩, hw3⟩ := own_open (ι := Unit) (Ls := fun _ => D.map fun i => fileP T (fb i) (fget fs i)) (φ := fun _ => D.Nodup ∧ ∀ i ∈ D, i < fs.length) (fun h hh => ⟨(), ⟨hh.2.1, hh.2.2⟩, hh.1⟩) (own_perm (List.Perm.swap _ _ _) hw1)
  have hmap : D.map (fun i => fileP T (fb i) (fget fs i)) = D.map (fun i => fileP T (updf fb n a i) (fget fs i)) := List.map_congr_left fun i hi => by
    rw [updf_old (fun h => hD (by rw [← h]; exact hi))]
  rw [hmap] at hw3
  have hw4 : Own X hp (((D ++ [n]).map fun i => fileP T (updf fb n a i) (fget fs i)) ++ L) w := by
    rw [List.map_append, List.append_assoc]
    have e1 : [n].map (fun i => fileP T (updf fb n a i) (fget fs i)) = [fileP T a (fget fs n)] := by simp [updf_new]
    rw [e1]; exact hw3
  exact own_shut (fun h hs => ⟨hs, List.nodup_append.2 ⟨hnd, by simp, fun x hx y hy => by rw [List.mem_singleton.1 hy]; exact fun h => hD (by rw [← h]; exact hx)⟩, fun i hi => by
    rcases List.mem_append.1 hi with hi | hi
    · exact hlt i hi
    · rw [List.mem_singleton.1 hi]; exact hn⟩) hw4
end
/-! ### the map of copies -/
def pv (b : Nat) : Value := .pointer (some ⟨b, 0, none⟩)
def sen (sb : Nat) (fa fb : Nat → Nat) (D : List Nat) : HP := fun h => ∃ es clock, h = [(sb, .map es clock)] ∧ es.toList.map (fun e : MapEntry => (e.key, e.val)) = D.map (fun i => (pv (fa i), pv (fb i)))
def senV (fb : Nat → Nat) (D : List Nat) (x : Int) : Value := if 0 ≤ x ∧ x.toNat ∈ D then pv (fb x.toNat) else .pointer none
section
variable {P : Program} {w : World} {t te : TypeId} {j : TypeInfo} {fa fb : Nat → Nat} {D : List Nat} {n : Nat}
theorem run_eqPtr (hp : P.underlying t = some (.pointer te)) (hte : P.info? te = some j) (hsz : j.size ≠ 0) {a b : Nat} (ha : ∃ cs t, w.heap[a]? = some (.cells cs t (0, 0))) (hb : ∃ cs t, w.heap[b]? = some (.cells cs t (0, 0))) :
    (Op.equal t (pv a) (pv b)).run P w = .ok (a == b) w := by
  obtain ⟨ca, ta, ha⟩ := ha
  obtain ⟨cb, tb, hb⟩ := hb
  by_cases h : a = b
  · subst h
    have := run_eql_ptr_same (P := P) w (tp := t) (te := te) ⟨a, 0, none⟩ hp hte
    simp only [binOp, Sem.run_bind] at this
    cases hr : (Op.equal t (pv a) (pv a)).run P w with
    | ok v w' => unfold pv at hr; rw [hr] at this; simp [Result.andThen] at this; rw [this.1, this.2]; simp
    | _ => unfold pv at hr; rw [hr] at this; simp [Result.andThen] at this
  · have := run_eql_ptr_other (P := P) w (tp := t) (te := te) (a := ⟨a, 0, none⟩) (b := ⟨b, 0, none⟩) hp hte hsz (fun h' => h (congrArg Addr.block h')) ha hb
    simp only [binOp, Sem.run_bind] at this
    have hab : (a == b) = false := by simpa using h
    cases hr : (Op.equal t (pv a) (pv b)).run P w with
    | ok v w' => unfold pv at hr; rw [hr] at this; simp [Result.andThen] at this; rw [this.1, this.2, hab]
    | _ => unfold pv at hr; rw [hr] at this; simp [Result.andThen] at this
theorem run_findAsk (hp : P.underlying t = some (.pointer te)) (hte : P.info? te = some j) (hsz : j.size ≠ 0) (hn : ∃ cs t, w.heap[fa n]? = some (.cells cs t (0, 0))) : ∀ (D : List Nat) (es : List MapEntry) (i : Nat), es.map (fun e : MapEntry => (e.key, e.val)) = D.map (fun i => (pv (fa i), pv (fb i))) →
    (∀ d ∈ D, ∃ cs t, w.heap[fa d]? = some (.cells cs t (0, 0))) → (∀ d ∈ D, fa n = fa d → n = d) →
    ∃ r, (Instr.findAsking t (pv (fa n)) es i).run P w = .ok r w ∧ r.map Prod.snd = (if n ∈ D then some (pv (fb n)) else none)
  | [], es, i, h, _, _ => by
    have : es = [] := by simpa using h
    subst this
    exact ⟨none, rfl, by simp⟩
  | d :: D, [], i, h, _, _ => by simp at h
  | d :: D, e :: es, i, h, hb, hne => by
    simp only [List.map_cons, List.cons.injEq, Prod.mk.injEq] at h
    have he := run_eqPtr hp hte hsz hn (hb d (by simp))
    obtain ⟨r, hr, hs⟩ := run_findAsk hp hte hsz hn D es (i + 1) h.2 (fun d hd => hb d (by simp [hd])) (fun d hd => hne d (by simp [hd]))
    by_cases hnd : n = d
    · subst hnd
      refine ⟨some (i, e.val), ?_, by simp [h.1.2]⟩
      simp [Instr.findAsking, h.1.1, he]
    · have hf : (fa n == fa d) = false := by simpa using fun h => hnd (hne d (by simp) h)
      refine ⟨r, ?_, by simpa [hnd] using hs⟩
      simp [Instr.findAsking, h.1.1, he, hf, hr]
theorem run_findAskN (hp : P.underlying t = some (.pointer te)) : ∀ (D : List Nat) (es : List MapEntry) (i : Nat), es.map (fun e : MapEntry => (e.key, e.val)) = D.map (fun i => (pv (fa i), pv (fb i))) → (Instr.findAsking t (.pointer none) es i).run P w = .ok none w
  | [], es, i, h => by
    have : es = [] := by simpa using h
    subst this; rfl
  | d :: D, [], i, h => by simp at h
  | d :: D, e :: es, i, h => by
    simp only [List.map_cons, List.cons.injEq, Prod.mk.injEq] at h
    have he : (Op.equal t (.pointer none) (pv (fa d))).run P w = .ok false w := by
      obtain ⟨n, hn⟩ : ∃ n, Op.maxDepth = n + 1 := ⟨9999, rfl⟩
      simp [Op.equal, hn, Op.equalIn, run_underlying hp, pv]
    simp [Instr.findAsking, h.1.1, he, run_findAskN hp D es (i + 1) h.2]
theorem run_findSen (hp : P.underlying t = some (.pointer te)) {k : Value} {es : List MapEntry} {r : Option (Nat × Value)} (h : (Instr.findAsking t k es).run P w = .ok r w) (hk : ∃ p, k = .pointer p) (he : es = [] → r = none) : (Instr.findKey t k es).run P w = .ok r w := by
  obtain ⟨p, rfl⟩ := hk
  have hu : (underlying t).run P w = .ok (.pointer te) w := run_underlying hp w
  cases es with
  | nil => simp [Instr.findKey, Instr.findNow, he rfl, hu]
  | cons e es =>
    have : Instr.findNow (.pointer te) (.pointer p) (e :: es) 0 = none := by simp [Instr.findNow, Instr.sameNow]
    simp [Instr.findKey, hu, this, h]
theorem run_checkPtr (hp : P.underlying t = some (.pointer te)) (b : Bool) (p : Option Addr) : (Instr.checkKey b 10000 t (.pointer p)).run P w = .ok () w := by
  have hu : (underlying t).run P w = .ok (.pointer te) w := run_underlying hp w
  show (Instr.checkKey b (9999 + 1) t (.pointer p)).run P w = .ok () w
  unfold Instr.checkKey
  rw [Sem.run_bind, hu]
  rfl
end
section
variable {α : Type} {C : Ctx} {e : Env} {hp : HL} {L : List HP} {d : Nat} {ty : TypeId} {ps : String} {es : Array Edge} {dst : Option Nat} {gd : Option (Nat × Bool)} {G : Env → HL → List HP → Prop} {fa fb : Nat → Nat} {D : List Nat} {sb : Nat} {m : Int}
/-- every place that is asked for is there, and is its own -/
structure Asks (C : Ctx) (hp : HL) (L : List HP) (fa : Nat → Nat) (D : List Nat) (m : Int) : Prop where
  me : 0 ≤ m → ∀ w, Own C.X hp L w → ∃ cs t, w.heap[fa m.toNat]? = some (.cells cs t (0, 0))
  all : 0 ≤ m → ∀ w, Own C.X hp L w → ∀ q ∈ D, ∃ cs t, w.heap[fa q]? = some (.cells cs t (0, 0))
  inj : 0 ≤ m → ∀ q ∈ D, fa m.toNat = fa q → m.toNat = q
theorem own_sen {w : World} {X : World} {i : Nat} (hw : Own X hp L w) (hL : L[i]? = some (sen sb fa fb D)) : ∃ en clock, w.heap[sb]? = some (.map en clock) ∧ en.toList.map (fun e : MapEntry => (e.key, e.val)) = D.map (fun i => (pv (fa i), pv (fb i))) ∧ Own X hp (L.set i (pt sb (.map en clock))) w := by
  obtain ⟨hh, hs, hsat⟩ := hw.ex
  obtain ⟨h1, h2, h3, rfl, ⟨en, clock, rfl, ok⟩, hset⟩ := star_split hs hL
  exact ⟨en, clock, hsat.2 (sb, _) (by simp), ok, ⟨_, hset (pt sb (.map en clock)) _ rfl, hsat⟩, hw.os, hw.tape, hw.output⟩
theorem sen_find {P : Program} {w : World} {t te : TypeId} {j : TypeInfo} {en : List MapEntry} (hp' : P.underlying t = some (.pointer te)) (hte : P.info? te = some j) (hsz : j.size ≠ 0) (hE : en.map (fun e : MapEntry => (e.key, e.val)) = D.map (fun i => (pv (fa i), pv (fb i))))
    (h1 : 0 ≤ m → ∃ cs t, w.heap[fa m.toNat]? = some (.cells cs t (0, 0))) (h2 : 0 ≤ m → ∀ q ∈ D, ∃ cs t, w.heap[fa q]? = some (.cells cs t (0, 0))) (h3 : 0 ≤ m → ∀ q ∈ D, fa m.toNat = fa q → m.toNat = q) :
    ∃ r, (Instr.findKey t (hpv fa m) en).run P w = .ok r w ∧ (match r with | some x => x.2 | none => Value.pointer none) = senV fb D m ∧ (m.toNat ∉ D → r = none) := by
  by_cases hm : 0 ≤ m
  · rw [hpv_pos (by omega)]
    obtain ⟨r, hr, hs⟩ := run_findAsk (fb := fb) hp' hte hsz (h1 hm) D en 0 hE (h2 hm) (h3 hm)
    refine ⟨r, run_findSen hp' hr ⟨_, rfl⟩ (fun he => by
      subst he
      have : D = [] := by simpa using hE.symm
      subst this
      simpa using hs), ?_, fun hD => ?_⟩
    · unfold senV
      by_cases hD : m.toNat ∈ D
      · rw [if_pos ⟨hm, hD⟩]
        rw [if_pos hD] at hs
        cases r with
        | none => simp at hs
        | some x => simpa using hs
      · rw [if_neg (fun h => hD h.2)]
        rw [if_neg hD] at hs
        cases r with
        | none => rfl
        | some x => simp at hs
    · rw [if_neg hD] at hs
      cases r with
      | none => rfl
      | some x => simp at hs
  · rw [hpv_neg (by omega)]
    exact ⟨none, run_findSen hp' (run_findAskN hp' D en 0 hE) ⟨_, rfl⟩ (fun _ => rfl), by unfold senV; rw [if_neg (fun h => hm h.1)], fun _ => rfl⟩
theorem slk {t tk te tj : Nat} {j : TypeInfo} {x y : Operand} (i : Nat) (hN : Nat.blt d C.N = true) (hx : ev e x = .map (some sb)) (hy : ev e y = hpv fa m) (hL : L[i]? = some (sen sb fa fb D)) (ht : C.P.underlying t = some (.map tk te)) (hk : C.P.underlying tk = some (.pointer tj)) (hj : C.P.info? tj = some j) (hsz : j.size ≠ 0)
    (hz : ∀ w, (zeroValue te).run C.P w = .ok (.pointer none) w) (hA : Asks C hp L fa D m) (kk : G (upd e d (senV fb D m)) hp L) : OpJ C ⟨some d, .lookup t x y false, ty, ps, es, gd⟩ e hp L G :=
  ⟨fun a w ha hw next Q' hn => by
    obtain ⟨en, clock, hg, hE, -⟩ := own_sen hw hL
    have hu : (underlying t).run C.P w = .ok (.map tk te) w := run_underlying ht w
    have hget : (getObj sb).run C.P w = .ok (.map en clock) w := by simp [getObj, Sem.run, hg]
    obtain ⟨r, h2, h3, -⟩ := sen_find (P := C.P) (w := w) (m := m) hk hj hsz hE (fun h => hA.me h w hw) (fun h => hA.all h w hw) hA.inj
    obtain ⟨p, hp'⟩ := hpvP fa m
    have h1 : (Instr.checkKey en.isEmpty 10000 tk (hpv fa m)).run C.P w = .ok () w := by rw [hp']; exact run_checkPtr hk _ _
    have hr : (execOp a.eval ⟨some d, .lookup t x y false, ty, ps, es, gd⟩).run C.P w = .ok (.value (senV fb D m)) w := by
      simp only [execOp, ha.eval, hx, hy, Instr.lookup]
      rw [← h3]
      cases r with
      | none => simp [hu, hget, h1, h2, hz]
      | some z => simp [hu, hget, h1, h2]
    simp only [Oper.wp, hr, Oper.upon]
    exact hn _ _ _ _ _ kk (ha.put hN _) hw⟩
theorem sup {t tk te tj a : Nat} {j : TypeInfo} {x y z : Operand} (i : Nat) (hx : ev e x = .map (some sb)) (hy : ev e y = hpv fa m) (hz : ev e z = pv a) (hL : L[i]? = some (sen sb fa fb D)) (ht : C.P.underlying t = some (.map tk te)) (hk : C.P.underlying tk = some (.pointer tj)) (hj : C.P.info? tj = some j) (hsz : j.size ≠ 0)
    (hA : Asks C hp L fa D m) (hm : 0 ≤ m) (hD : m.toNat ∉ D) (kk : G e hp (L.set i (sen sb fa (updf fb m.toNat a) (D ++ [m.toNat])))) : OpJ C ⟨none, .mapUpdate t x y z, ty, ps, es, gd⟩ e hp L G :=
  OpJ.skip (fun w hw => by
    obtain ⟨en, clock, hg, hE, ho⟩ := own_sen hw hL
    have hi := lt_of_get hL
    have hu : (underlying t).run C.P w = .ok (.map tk te) w := run_underlying ht w
    have hget : (getObj sb).run C.P w = .ok (.map en clock) w := by simp [getObj, Sem.run, hg]
    obtain ⟨r, h2, -, h3⟩ := sen_find (P := C.P) (w := w) (m := m) hk hj hsz hE (fun h => hA.me h w hw) (fun h => hA.all h w hw) hA.inj
    obtain rfl := h3 hD
    obtain ⟨p, hp'⟩ := hpvP fa m
    have h1 : (Instr.checkKey false 10000 tk (hpv fa m)).run C.P w = .ok () w := by rw [hp']; exact run_checkPtr hk _ _
    obtain ⟨hset, ho'⟩ := set_map (P := C.P) (en' := en.push { key := hpv fa m, val := pv a, born := clock }) (clock' := clock + 1) ho hi
    refine ⟨{ w with heap := w.heap.setIfInBounds sb (.map (en.push { key := hpv fa m, val := pv a, born := clock }) (clock + 1)) }, by simp [execOp, hx, hy, hz, Instr.mapUpdate, hu, hget, h1, h2, hset], ?_⟩
    obtain ⟨hh, hs, hsat⟩ := ho'.ex
    have hL' : (L.set i (pt sb (.map (en.push { key := hpv fa m, val := pv a, born := clock }) (clock + 1))))[i]? = some (pt sb (.map (en.push { key := hpv fa m, val := pv a, born := clock }) (clock + 1))) := by simp [hi]
    obtain ⟨g1, g2, g3, rfl, hb, hst⟩ := star_split hs hL'
    have hb' : g2 = [(sb, .map (en.push { key := hpv fa m, val := pv a, born := clock }) (clock + 1))] := hb
    subst hb'
    have := hst (sen sb fa (updf fb m.toNat a) (D ++ [m.toNat])) [(sb, .map (en.push { key := hpv fa m, val := pv a, born := clock }) (clock + 1))] ⟨_, _, rfl, ?_⟩
    · rw [List.set_set] at this
      exact ⟨⟨_, this, hsat⟩, ho'.os, ho'.tape, ho'.output⟩
    · rw [Array.toList_push, List.map_append, hE, List.map_append]
      congr 1
      · exact List.map_congr_left fun q hq => by rw [updf_old (fun h => hD (by rw [← h]; exact hq))]
      · simp only [List.map_cons, List.map_nil, updf_new]
        rw [hpv_pos (by omega)]; rfl) kk
theorem mkSen {t : Nat} (fa fb : Nat → Nat) (hN : Nat.blt d C.N = true) (k : ∀ b, G (upd e d (.map (some b))) hp (sen b fa fb [] :: L)) : OpJ C ⟨some d, .makeMap t none, ty, ps, es, gd⟩ e hp L G :=
  ⟨fun a w ha hw next Q' hn => by
    have : (execOp a.eval ⟨some d, .makeMap t none, ty, ps, es, gd⟩).run C.P w = .ok (.value (.map (some w.heap.size))) (w.alloc (.map #[] 0)) := by
      simp [execOp, Instr.makeMap]
    simp only [Oper.wp, this, Oper.upon]
    refine hn _ _ _ _ _ (k _) (ha.put hN _) ?_
    have h1 := hw.new (.map #[] 0)
    exact own_set (i := 0) (A := pt w.heap.size (.map #[] 0)) (B := sen w.heap.size fa fb []) h1 rfl (fun h hh => ⟨#[], 0, hh, rfl⟩)⟩
end
theorem UniNil {X : World} {J : HL → List HP → Prop} {hp : HL} {L : List HP} {T : HT} {fb : Nat → Nat} {fs : List HFile} (c : Cv X J) (k : J hp (uni T fb [] fs :: L)) : J hp L :=
  c.cv (fun _ hw => own_shut (Ls := []) (fun _ hs => ⟨hs, List.nodup_nil, fun _ hi => nomatch hi⟩) hw) k
theorem jnT {α σ : Type} {Q : α → Post} {T : Option α} {e : Env} {hp : HL} {L : List HP} {K : σ → Option α} {St : σ → Env → HL → List HP → Prop} (s : σ) (hT : K s = T) (h : St s e hp L) : XJ (joinJ K St Q) T .normal e hp L := hT ▸ jn s h
end Kot
