/- Words for walking Go functions: slices of slices that are all owned; no program is named here. -/
import Derived.Test.YtpajmahpphcbaaaGreatDoorBase18
import Derived.Test.YtpajmahpphcbaaaGreatDoorBase21
namespace Kot
open Go
def rowsI (tb : Nat) : List SG3 → List (List Int) → List HP
  | g :: gs, x :: xs => sl (sg g) tb 1 (x.flatMap (vi .u8)) :: rowsI tb gs xs
  | _, _ => []
def rows (g : SG3) (t tb : Nat) (xs : List (List Int)) : HP := fun h => ∃ gs : List SG3, gs.length = xs.length ∧ Star (sl (sg g) t 1 (gs.map sg) :: rowsI tb gs xs) h
section
variable {X : World} {hp : HL} {L : List HP} {w : World} {g : SG3} {t tb : Nat} {xs : List (List Int)}
theorem own_rows (hw : Own X hp (rows g t tb xs :: L) w) : ∃ gs : List SG3, gs.length = xs.length ∧ Own X hp (sl (sg g) t 1 (gs.map sg) :: (rowsI tb gs xs ++ L)) w := by
  obtain ⟨hh, ⟨h1, h2, rfl, ⟨gs, hl, hs⟩, h4⟩, hsat⟩ := hw.ex
  refine ⟨gs, hl, ⟨h1 ++ h2, ?_, hsat⟩, hw.os, hw.tape, hw.output⟩
  have : Star ((sl (sg g) t 1 (gs.map sg) :: rowsI tb gs xs) ++ L) (h1 ++ h2) := star_append.2 ⟨h1, h2, rfl, hs, h4⟩
  exact this
theorem rows_own {gs : List SG3} (hl : gs.length = xs.length) (hw : Own X hp (sl (sg g) t 1 (gs.map sg) :: (rowsI tb gs xs ++ L)) w) : Own X hp (rows g t tb xs :: L) w := by
  obtain ⟨hh, hs, hsat⟩ := hw.ex
  have hs' : Star ((sl (sg g) t 1 (gs.map sg) :: rowsI tb gs xs) ++ L) hh := hs
  obtain ⟨h1, h2, rfl, h3, h4⟩ := star_append.1 hs'
  exact ⟨⟨h1 ++ h2, ⟨h1, h2, rfl, ⟨gs, hl, h3⟩, h4⟩, hsat⟩, hw.os, hw.tape, hw.output⟩
theorem rowsI_app : ∀ {gs : List SG3} {xs : List (List Int)} {q : SG3} {x : List Int}, gs.length = xs.length → rowsI tb (gs ++ [q]) (xs ++ [x]) = rowsI tb gs xs ++ [sl (sg q) tb 1 (x.flatMap (vi .u8))]
  | [], [], q, x, _ => rfl
  | g :: gs, y :: xs, q, x, h => by
    simp only [List.cons_append, rowsI]
    rw [rowsI_app (by simpa using h)]
  | [], _ :: _, _, _, h => by simp at h
  | _ :: _, [], _, _, h => by simp at h
theorem flat_sg : ∀ (gs : List SG3), (gs.map fun q => [sg q]).flatten = gs.map sg
  | [] => rfl
  | g :: gs => by simp only [List.map_cons, List.flatten_cons, flat_sg gs]; rfl
theorem keepI : ∀ {gs : List SG3} {xs : List (List Int)} {hp : HL}, gs.length = xs.length → Own X hp (rowsI tb gs xs ++ L) w → ∃ hp', sub hp hp' ∧ Own X hp' L w ∧ ∀ (i : Nat) (q : SG3) (x : List Int), gs[i]? = some q → xs[i]? = some x → RdL hp' 1 (One (vi .u8)) (sg q) x
  | [], [], hp, _, hw => ⟨hp, sub.refl _, hw, fun i q x h => by simp at h⟩
  | g :: gs, y :: xs, hp, hl, hw => by
    obtain ⟨h1, ⟨s1, r1⟩, o1⟩ := sl_keep' hw
    obtain ⟨h2, s2, o2, k2⟩ := keepI (gs := gs) (xs := xs) (by simpa using hl) o1
    refine ⟨h2, s1.trans s2, o2, fun i q x hq hx => ?_⟩
    cases i with
    | zero =>
      simp at hq hx; subst hq hx
      have r0 : RdL h1 1 (One (vi .u8)) (sg g) y := RdL.of (fun _ => rfl) r1
      exact r0.mono (One.mono _) s2
    | succ i => exact k2 i q x (by simpa using hq) (by simpa using hx)
  | [], _ :: _, _, h, _ => by simp at h
  | _ :: _, [], _, h, _ => by simp at h
theorem rows_keep (hw : Own X hp (rows g t tb xs :: L) w) : ∃ hp', (sub hp hp' ∧ RdL hp' 1 (Rsl 1 (One (vi .u8))) (sg g) xs) ∧ Own X hp' L w := by
  obtain ⟨gs, hl, h1⟩ := own_rows hw
  obtain ⟨p1, ⟨s1, r1⟩, o1⟩ := sl_keep' h1
  obtain ⟨p2, s2, o2, k2⟩ := keepI hl o1
  refine ⟨p2, ⟨s1.trans s2, gs.map fun q => [sg q], ?_, by simpa using hl, fun i x c hx hc => ?_⟩, o2⟩
  · rw [flat_sg]; exact r1.mono s2
  · rw [List.getElem?_map] at hc
    cases hq : gs[i]? with
    | none => rw [hq] at hc; cases hc
    | some q =>
      rw [hq] at hc
      simp only [Option.map_some, Option.some.injEq] at hc
      subst hc
      exact ⟨⟨q, rfl, k2 i q x hq hx⟩, rfl⟩
theorem rows_nil (hw : Own X hp L w) (t tb : Nat) : Own X hp (rows (none, 0, 0) t tb [] :: L) w := rows_own (gs := []) rfl (sl_nil hw t 1)
theorem rowsI_get : ∀ {gs : List SG3} {xs : List (List Int)} {i : Nat} {q : SG3} {x : List Int}, gs[i]? = some q → xs[i]? = some x → (rowsI tb gs xs)[i]? = some (sl (sg q) tb 1 (x.flatMap (vi .u8)))
  | [], _, i, q, x, h, _ => by simp at h
  | _ :: _, [], i, q, x, _, h => by simp at h
  | g :: gs, y :: xs, 0, q, x, h, h2 => by simp at h h2; subst h h2; rfl
  | g :: gs, y :: xs, i + 1, q, x, h, h2 => by
    rw [rowsI, List.getElem?_cons_succ]
    exact rowsI_get (by simpa using h) (by simpa using h2)
theorem rowsI_set : ∀ {gs : List SG3} {xs : List (List Int)} {i : Nat} {q : SG3} {x : List Int}, gs[i]? = some q → rowsI tb gs (xs.set i x) = (rowsI tb gs xs).set i (sl (sg q) tb 1 (x.flatMap (vi .u8)))
  | [], _, i, q, x, h => by simp at h
  | g :: gs, [], i, q, x, h => by simp [rowsI]
  | g :: gs, y :: xs, 0, q, x, h => by simp at h; subst h; rfl
  | g :: gs, y :: xs, i + 1, q, x, h => by
    simp only [List.set_cons_succ, rowsI]
    rw [rowsI_set (by simpa using h)]
def rowsR (tb : Nat) (gs : List SG3) (xs : List (List Int)) (i : Nat) : HP := fun h => Star ((rowsI tb gs xs).eraseIdx i) h
theorem flatm_sg (gs : List SG3) : (gs.flatMap fun q => [sg q]) = gs.map sg := by rw [List.flatMap_def]; exact flat_sg gs
theorem perm_at {β : Type} : ∀ {l : List β} {i : Nat} {a : β}, l[i]? = some a → l.Perm (a :: l.eraseIdx i)
  | [], i, a, h => by simp at h
  | b :: l, 0, a, h => by simp at h; subst h; exact List.Perm.refl _
  | b :: l, i + 1, a, h => by
    have := perm_at (l := l) (i := i) (by simpa using h)
    exact (this.cons b).trans (List.Perm.swap _ _ _)
theorem own_row {i : Nat} {x : List Int} (hz : xs[i]? = some x) (hw : Own X hp (rows g t tb xs :: L) w) :
    ∃ z : List SG3 × SG3, (z.1.length = xs.length ∧ z.1[i]? = some z.2) ∧ Own X hp (sl (sg g) t 1 (z.1.flatMap fun q => [sg q]) :: sl (sg z.2) tb 1 (x.flatMap (vi .u8)) :: rowsR tb z.1 xs i :: L) w := by
  obtain ⟨gs, hl, h1⟩ := own_rows hw
  have hlt : i < gs.length := by rw [hl]; exact (List.getElem?_eq_some_iff.1 hz).1
  refine ⟨(gs, gs[i]), ⟨hl, List.getElem?_eq_getElem hlt⟩, ?_⟩
  have hp1 := perm_at (rowsI_get (tb := tb) (List.getElem?_eq_getElem hlt) hz)
  have h2 : Own X hp (sl (sg g) t 1 (gs.map sg) :: (sl (sg gs[i]) tb 1 (x.flatMap (vi .u8)) :: ((rowsI tb gs xs).eraseIdx i ++ L))) w := own_perm ((hp1.append_right L).cons _) h1
  obtain ⟨hh, ⟨a1, a2, rfl, ha, b1, b2, rfl, hb, hc⟩, hsat⟩ := h2.ex
  obtain ⟨c1, c2, rfl, hc1, hc2⟩ := star_append.1 hc
  exact ⟨⟨_, ⟨a1, _, rfl, by rw [flatm_sg]; exact ha, b1, _, rfl, hb, c1, c2, rfl, hc1, hc2⟩, hsat⟩, h2.os, h2.tape, h2.output⟩
theorem row_own {i : Nat} {x : List Int} {gs : List SG3} {q : SG3} (hl : gs.length = xs.length) (hq : gs[i]? = some q) (hw : Own X hp (sl (sg g) t 1 (gs.flatMap fun q => [sg q]) :: sl (sg q) tb 1 (x.flatMap (vi .u8)) :: rowsR tb gs xs i :: L) w) :
    Own X hp (rows g t tb (xs.set i x) :: L) w := by
  have hlt : i < gs.length := (List.getElem?_eq_some_iff.1 hq).1
  obtain ⟨hh, ⟨a1, a2, rfl, ha, b1, b2, rfl, hb, c1, c2, rfl, hc1, hc2⟩, hsat⟩ := hw.ex
  refine rows_own (gs := gs) (by simpa using hl) ?_
  have hr : rowsI tb gs (xs.set i x) = (rowsI tb gs xs).set i (sl (sg q) tb 1 (x.flatMap (vi .u8))) := rowsI_set hq
  have hx : i < xs.length := by omega
  have hlen : (rowsI tb gs xs)[i]? = some (sl (sg q) tb 1 (xs[i].flatMap (vi .u8))) := rowsI_get hq (List.getElem?_eq_getElem hx)
  have hlt2 := (List.getElem?_eq_some_iff.1 hlen).1
  have hget : ((rowsI tb gs xs).set i (sl (sg q) tb 1 (x.flatMap (vi .u8))))[i]? = some (sl (sg q) tb 1 (x.flatMap (vi .u8))) := by rw [List.getElem?_set_self hlt2]
  have hp1 := perm_at hget
  rw [List.eraseIdx_set_eq] at hp1
  rw [hr]
  refine own_perm ((hp1.symm.append_right L).cons _) ⟨⟨_, ⟨a1, _, rfl, by rw [← flatm_sg]; exact ha, b1, _, rfl, hb, star_append.2 ⟨c1, c2, rfl, hc1, hc2⟩⟩, hsat⟩, hw.os, hw.tape, hw.output⟩
section
variable {J : HL → List HP → Prop}
theorem KpR (c : Cv X J) (n : Nat) (hi : L[n]? = some (rows g t tb xs)) (h : ∀ hp', sub hp hp' → RdL hp' 1 (Rsl 1 (One (vi .u8))) (sg g) xs → J hp' (L.eraseIdx n)) : J hp L :=
  c.cx (ι := HL) (L' := fun _ => L.eraseIdx n) (hp' := id) (Φ := fun hp' => sub hp hp' ∧ RdL hp' 1 (Rsl 1 (One (vi .u8))) (sg g) xs) (fun w hw => rows_keep (own_front hw hi)) (fun hp' hh => h hp' hh.1 hh.2)
theorem RowFo {i : Int} {x : List Int} (c : Cv X J) (n : Nat) (hi : L[n]? = some (rows g t tb xs)) (hz : lget xs i = some x)
    (k : ∀ (gs : List SG3) (q : SG3), gs.length = xs.length → lget gs i = some q → J hp (sl (sg g) t 1 (gs.flatMap fun q => [sg q]) :: sl (sg q) tb 1 (x.flatMap (vi .u8)) :: rowsR tb gs xs i.toNat :: L.eraseIdx n)) : J hp L :=
  c.cx (ι := List SG3 × SG3) (L' := fun z => sl (sg g) t 1 (z.1.flatMap fun q => [sg q]) :: sl (sg z.2) tb 1 (x.flatMap (vi .u8)) :: rowsR tb z.1 xs i.toNat :: L.eraseIdx n) (hp' := fun _ => hp) (Φ := fun z => z.1.length = xs.length ∧ z.1[i.toNat]? = some z.2)
    (fun w hw => own_row (lget_spec hz).2.2 (own_front hw hi)) (fun z hz2 => k z.1 z.2 hz2.1 (by unfold lget; rw [if_pos (lget_spec hz).1]; exact hz2.2))
theorem RowUf {i : Int} {x : List Int} {gs : List SG3} {q : SG3} (c : Cv X J) (hl : gs.length = xs.length) (hq : lget gs i = some q) (k : J hp (rows g t tb (xs.set i.toNat x) :: L)) :
    J hp (sl (sg g) t 1 (gs.flatMap fun q => [sg q]) :: sl (sg q) tb 1 (x.flatMap (vi .u8)) :: rowsR tb gs xs i.toNat :: L) :=
  c.cv (fun _ hw => row_own hl (lget_spec hq).2.2 hw) k
theorem RowN (c : Cv X J) (t tb : Nat) (k : J hp (rows (none, 0, 0) t tb [] :: L)) : J hp L := c.cv (fun _ hw => rows_nil hw t tb) k
def rowsA (tb : Nat) (gs : List SG3) (xs : List (List Int)) : HP := fun h => Star (rowsI tb gs xs) h
theorem own_rowsA (hw : Own X hp (rows g t tb xs :: L) w) : ∃ gs : List SG3, gs.length = xs.length ∧ Own X hp (sl (sg g) t 1 (gs.flatMap fun q => [sg q]) :: rowsA tb gs xs :: L) w := by
  obtain ⟨gs, hl, h1⟩ := own_rows hw
  obtain ⟨hh, ⟨a1, a2, rfl, ha, hb⟩, hsat⟩ := h1.ex
  obtain ⟨c1, c2, rfl, hc1, hc2⟩ := star_append.1 hb
  exact ⟨gs, hl, ⟨_, ⟨a1, _, rfl, by rw [flatm_sg]; exact ha, c1, c2, rfl, hc1, hc2⟩, hsat⟩, h1.os, h1.tape, h1.output⟩
theorem rowsA_app {gs : List SG3} {q : SG3} {x : List Int} (hl : gs.length = xs.length) (hw : Own X hp (sl (sg g) t 1 ((gs ++ [q]).flatMap fun q => [sg q]) :: sl (sg q) tb 1 (x.flatMap (vi .u8)) :: rowsA tb gs xs :: L) w) :
    Own X hp (rows g t tb (xs ++ [x]) :: L) w := by
  obtain ⟨hh, ⟨a1, a2, rfl, ha, b1, b2, rfl, hb, c1, c2, rfl, hc1, hc2⟩, hsat⟩ := hw.ex
  refine rows_own (gs := gs ++ [q]) (by simpa using hl) ?_
  rw [rowsI_app hl]
  have hpm : (sl (sg q) tb 1 (x.flatMap (vi .u8)) :: (rowsI tb gs xs ++ L)).Perm (rowsI tb gs xs ++ [sl (sg q) tb 1 (x.flatMap (vi .u8))] ++ L) := by
    rw [List.append_assoc]
    exact (List.perm_middle (l₁ := rowsI tb gs xs) (a := sl (sg q) tb 1 (x.flatMap (vi .u8))) (l₂ := L)).symm
  refine own_perm (hpm.cons _) ⟨⟨_, ⟨a1, _, rfl, by rw [← flatm_sg]; exact ha, b1, _, rfl, hb, star_append.2 ⟨c1, c2, rfl, hc1, hc2⟩⟩, hsat⟩, hw.os, hw.tape, hw.output⟩
section
variable {J : HL → List HP → Prop}
theorem RowA (c : Cv X J) (k : ∀ gs : List SG3, gs.length = xs.length → J hp (sl (sg g) t 1 (gs.flatMap fun q => [sg q]) :: rowsA tb gs xs :: L)) : J hp (rows g t tb xs :: L) :=
  c.cx (ι := List SG3) (L' := fun gs => sl (sg g) t 1 (gs.flatMap fun q => [sg q]) :: rowsA tb gs xs :: L) (hp' := fun _ => hp) (Φ := fun gs => gs.length = xs.length) (fun w hw => own_rowsA hw) (fun gs h => k gs h)
theorem RowC {gs : List SG3} {q : SG3} {x : List Int} (c : Cv X J) (hl : gs.length = xs.length) (k : J hp (rows g t tb (xs ++ [x]) :: L)) : J hp (sl (sg g) t 1 ((gs ++ [q]).flatMap fun q => [sg q]) :: sl (sg q) tb 1 (x.flatMap (vi .u8)) :: rowsA tb gs xs :: L) :=
  c.cv (fun _ hw => rowsA_app hl hw) k
end
end
section
variable {J : HL → List HP → Prop}
theorem set_same {β : Type} {l : List β} {i : Nat} {x : β} (h : l[i]? = some x) : l.set i x = l := by
  apply List.ext_getElem?
  intro j
  by_cases hj : i = j
  · subst hj; rw [List.getElem?_set_self', h]; rfl
  · rw [List.getElem?_set_ne hj]
theorem RowUf0 {i : Int} {x : List Int} {gs : List SG3} {q : SG3} (c : Cv X J) (hl : gs.length = xs.length) (hq : lget gs i = some q) (hz : lget xs i = some x) (k : J hp (rows g t tb xs :: L)) :
    J hp (sl (sg g) t 1 (gs.flatMap fun q => [sg q]) :: sl (sg q) tb 1 (x.flatMap (vi .u8)) :: rowsR tb gs xs i.toNat :: L) :=
  RowUf c hl hq (by rw [set_same (lget_spec hz).2.2]; exact k)
end
theorem lenRw {C : Ctx} {e : Env} {L : List HP} {dst : Option Nat} {ty t' u n : Nat} {ps : String} {es : Array Edge} {gd : Option (Nat × Bool)} {x : Operand} (hx : ev e x = sg g) (hi : L[n]? = some (rows g t tb xs)) (ht : ∀ w, (underlying t').run C.P w = .ok (.slice u) w) :
    Pur C (Own C.X hp L) ⟨dst, .call ⟨.builtin .len, #[x], #[t']⟩, ty, ps, es, gd⟩ e (.int .i64 xs.length) := ⟨fun w hw => by
  obtain ⟨gs, hl, h1⟩ := own_rows (own_front hw hi)
  obtain ⟨a, m, cap, hv, hlen, _⟩ := sl_val (j := 0) h1 rfl
  have hm : m = xs.length := by simp at hlen; omega
  subst hm
  rw [hv] at hx
  simp [execOp, resolve, invoke, builtin, hx, Builtin.len_, ht, goInt]⟩
end
end Kot
