/- Words for walking Go functions: slices of records that each hold a slice, all of it owned; no program is named here. -/
import Derived.Test.YtpajmahpphcbaaaGreatDoorBase24
namespace Kot
open Go
def rowsG {τ : Type} (c : τ → SG3 → List Value) (d : τ → List Int) (g : SG3) (t tb k : Nat) (xs : List τ) : HP := fun h => ∃ zs : List (τ × SG3), zs.map Prod.fst = xs ∧ Star (sl (sg g) t (k + 1) (zs.flatMap fun p => c p.1 p.2) :: rowsI tb (zs.map Prod.snd) (xs.map d)) h
section
variable {τ : Type} {c : τ → SG3 → List Value} {d : τ → List Int} {X : World} {hp : HL} {L : List HP} {w : World} {g : SG3} {t tb k : Nat} {xs : List τ} {zs : List (τ × SG3)}
theorem own_rowsG (hw : Own X hp (rowsG c d g t tb k xs :: L) w) : ∃ zs : List (τ × SG3), zs.map Prod.fst = xs ∧ Own X hp (sl (sg g) t (k + 1) (zs.flatMap fun p => c p.1 p.2) :: (rowsI tb (zs.map Prod.snd) (xs.map d) ++ L)) w := by
  obtain ⟨hh, ⟨h1, h2, rfl, ⟨zs, hl, hs⟩, h4⟩, hsat⟩ := hw.ex
  refine ⟨zs, hl, ⟨h1 ++ h2, ?_, hsat⟩, hw.os, hw.tape, hw.output⟩
  have : Star ((sl (sg g) t (k + 1) (zs.flatMap fun p => c p.1 p.2) :: rowsI tb (zs.map Prod.snd) (xs.map d)) ++ L) (h1 ++ h2) := star_append.2 ⟨h1, h2, rfl, hs, h4⟩
  exact this
theorem rowsG_own (hl : zs.map Prod.fst = xs) (hw : Own X hp (sl (sg g) t (k + 1) (zs.flatMap fun p => c p.1 p.2) :: (rowsI tb (zs.map Prod.snd) (xs.map d) ++ L)) w) : Own X hp (rowsG c d g t tb k xs :: L) w := by
  obtain ⟨hh, hs, hsat⟩ := hw.ex
  have hs' : Star ((sl (sg g) t (k + 1) (zs.flatMap fun p => c p.1 p.2) :: rowsI tb (zs.map Prod.snd) (xs.map d)) ++ L) hh := hs
  obtain ⟨h1, h2, rfl, h3, h4⟩ := star_append.1 hs'
  exact ⟨⟨h1 ++ h2, ⟨h1, h2, rfl, ⟨zs, hl, h3⟩, h4⟩, hsat⟩, hw.os, hw.tape, hw.output⟩
theorem rowsG_nil (hw : Own X hp L w) (t tb k : Nat) : Own X hp (rowsG c d (none, 0, 0) t tb k [] :: L) w := rowsG_own (zs := []) rfl (sl_nil hw t (k + 1))
theorem rowsG_keep {R : HL → τ → List Value → Prop} (hf : ∀ x q, (c x q).length = k + 1) (hR : ∀ h x q, RdL h 1 (One (vi .u8)) (sg q) (d x) → R h x (c x q)) (hw : Own X hp (rowsG c d g t tb k xs :: L) w) : ∃ hp', (sub hp hp' ∧ RdL hp' (k + 1) R (sg g) xs) ∧ Own X hp' L w := by
  obtain ⟨zs, hl, h1⟩ := own_rowsG hw
  subst hl
  obtain ⟨p1, ⟨s1, r1⟩, o1⟩ := sl_keep' h1
  obtain ⟨p2, s2, o2, k2⟩ := keepI (by simp) o1
  refine ⟨p2, ⟨s1.trans s2, zs.map fun p => c p.1 p.2, ?_, by simp, fun i x e hx hc => ?_⟩, o2⟩
  · rw [← List.flatMap_def]; exact r1.mono s2
  · rw [List.getElem?_map] at hc hx
    cases hz : zs[i]? with
    | none => rw [hz] at hc; cases hc
    | some p =>
      rw [hz] at hc hx
      simp only [Option.map_some, Option.some.injEq] at hc hx
      subst hc hx
      refine ⟨hR _ _ _ (k2 i p.2 (d p.1) (by rw [List.getElem?_map, hz]; rfl) (by rw [List.map_map, List.getElem?_map, hz]; rfl)), hf _ _⟩
theorem rowsI_set2 : ∀ {gs : List SG3} {ys : List (List Int)} {i : Nat} {q : SG3} {y : List Int}, i < gs.length → i < ys.length → rowsI tb (gs.set i q) (ys.set i y) = (rowsI tb gs ys).set i (sl (sg q) tb 1 (y.flatMap (vi .u8)))
  | [], _, i, q, y, h, _ => by simp at h
  | _ :: _, [], i, q, y, _, h => by simp at h
  | a :: gs, b :: ys, 0, q, y, _, _ => rfl
  | a :: gs, b :: ys, i + 1, q, y, h, h2 => by
    simp only [List.set_cons_succ, rowsI]
    rw [rowsI_set2 (by simpa using h) (by simpa using h2)]
theorem own_rowG {i : Nat} {x : τ} (hz : xs[i]? = some x) (hw : Own X hp (rowsG c d g t tb k xs :: L) w) :
    ∃ z : List (τ × SG3) × SG3, (z.1.map Prod.fst = xs ∧ z.1[i]? = some (x, z.2)) ∧ Own X hp (sl (sg g) t (k + 1) (z.1.flatMap fun p => c p.1 p.2) :: sl (sg z.2) tb 1 ((d x).flatMap (vi .u8)) :: rowsR tb (z.1.map Prod.snd) (xs.map d) i :: L) w := by
  obtain ⟨zs, hl, h1⟩ := own_rowsG hw
  subst hl
  rw [List.getElem?_map] at hz
  cases hzi : zs[i]? with
  | none => rw [hzi] at hz; cases hz
  | some p =>
    rw [hzi] at hz
    simp only [Option.map_some, Option.some.injEq] at hz
    subst hz
    refine ⟨(zs, p.2), ⟨rfl, by simpa using hzi⟩, ?_⟩
    have hp1 := perm_at (rowsI_get (tb := tb) (gs := zs.map Prod.snd) (xs := (zs.map Prod.fst).map d) (i := i) (q := p.2) (x := d p.1) (by rw [List.getElem?_map, hzi]; rfl) (by rw [List.map_map, List.getElem?_map, hzi]; rfl))
    have h2 := own_perm ((hp1.append_right L).cons _) h1
    obtain ⟨hh, ⟨a1, a2, rfl, ha, b1, b2, rfl, hb, hc⟩, hsat⟩ := h2.ex
    obtain ⟨c1, c2, rfl, hc1, hc2⟩ := star_append.1 hc
    exact ⟨⟨_, ⟨a1, _, rfl, ha, b1, _, rfl, hb, c1, c2, rfl, hc1, hc2⟩, hsat⟩, h2.os, h2.tape, h2.output⟩
theorem rowG_own {i : Nat} {x x' : τ} {q q' : SG3} {l : List Int} (hl : zs.map Prod.fst = xs) (hq : zs[i]? = some (x, q)) (hc : c x' q' = c x q') (hd : d x' = l)
    (hw : Own X hp (sl (sg g) t (k + 1) ((zs.set i (x, q')).flatMap fun p => c p.1 p.2) :: sl (sg q') tb 1 (l.flatMap (vi .u8)) :: rowsR tb (zs.map Prod.snd) (xs.map d) i :: L) w) : Own X hp (rowsG c d g t tb k (xs.set i x') :: L) w := by
  subst hl hd
  have hlt : i < zs.length := (List.getElem?_eq_some_iff.1 hq).1
  obtain ⟨hh, ⟨a1, a2, rfl, ha, b1, b2, rfl, hb, c1, c2, rfl, hc1, hc2⟩, hsat⟩ := hw.ex
  refine rowsG_own (zs := zs.set i (x', q')) (by rw [List.map_set]) ?_
  have e1 : (zs.set i (x', q')).flatMap (fun p => c p.1 p.2) = (zs.set i (x, q')).flatMap (fun p => c p.1 p.2) := by
    rw [List.flatMap_def, List.flatMap_def, List.map_set, List.map_set]
    simp only [hc]
  have e2 : rowsI tb ((zs.set i (x', q')).map Prod.snd) (((zs.map Prod.fst).set i x').map d) = (rowsI tb (zs.map Prod.snd) ((zs.map Prod.fst).map d)).set i (sl (sg q') tb 1 ((d x').flatMap (vi .u8))) := by
    rw [List.map_set, List.map_set, rowsI_set2 (by simpa using hlt) (by simpa using hlt)]
  have hget0 := rowsI_get (tb := tb) (gs := zs.map Prod.snd) (xs := (zs.map Prod.fst).map d) (i := i) (q := q) (x := d x) (by rw [List.getElem?_map, hq]; rfl) (by rw [List.map_map, List.getElem?_map, hq]; rfl)
  have hlt2 := (List.getElem?_eq_some_iff.1 hget0).1
  have hp1 := perm_at (List.getElem?_set_self (a := sl (sg q') tb 1 ((d x').flatMap (vi .u8))) hlt2)
  rw [List.eraseIdx_set_eq] at hp1
  rw [e1, e2]
  exact own_perm ((hp1.symm.append_right L).cons _) ⟨⟨_, ⟨a1, _, rfl, ha, b1, _, rfl, hb, star_append.2 ⟨c1, c2, rfl, hc1, hc2⟩⟩, hsat⟩, hw.os, hw.tape, hw.output⟩
theorem rowG_own0 {i : Nat} {x : τ} {q : SG3} (hl : zs.map Prod.fst = xs) (hq : zs[i]? = some (x, q))
    (hw : Own X hp (sl (sg g) t (k + 1) (zs.flatMap fun p => c p.1 p.2) :: sl (sg q) tb 1 ((d x).flatMap (vi .u8)) :: rowsR tb (zs.map Prod.snd) (xs.map d) i :: L) w) : Own X hp (rowsG c d g t tb k xs :: L) w := by
  have := rowG_own (c := c) (d := d) (x' := x) (q' := q) hl hq rfl rfl (by rw [set_same hq]; exact hw)
  rwa [set_same (by rw [← hl, List.getElem?_map, hq]; rfl)] at this
section
variable {J : HL → List HP → Prop}
theorem KpG {R : HL → τ → List Value → Prop} (cv : Cv X J) (n : Nat) (hi : L[n]? = some (rowsG c d g t tb k xs)) (hf : ∀ x q, (c x q).length = k + 1) (hR : ∀ h x q, RdL h 1 (One (vi .u8)) (sg q) (d x) → R h x (c x q)) (h : ∀ hp', sub hp hp' → RdL hp' (k + 1) R (sg g) xs → J hp' (L.eraseIdx n)) : J hp L :=
  cv.cx (ι := HL) (L' := fun _ => L.eraseIdx n) (hp' := id) (Φ := fun hp' => sub hp hp' ∧ RdL hp' (k + 1) R (sg g) xs) (fun w hw => rowsG_keep hf hR (own_front hw hi)) (fun hp' hh => h hp' hh.1 hh.2)
theorem RowGFo {i : Int} {x : τ} (cv : Cv X J) (n : Nat) (hi : L[n]? = some (rowsG c d g t tb k xs)) (hz : lget xs i = some x)
    (kk : ∀ (zs : List (τ × SG3)) (q : SG3), zs.map Prod.fst = xs → lget zs i = some (x, q) → J hp (sl (sg g) t (k + 1) (zs.flatMap fun p => c p.1 p.2) :: sl (sg q) tb 1 ((d x).flatMap (vi .u8)) :: rowsR tb (zs.map Prod.snd) (xs.map d) i.toNat :: L.eraseIdx n)) : J hp L :=
  cv.cx (ι := List (τ × SG3) × SG3) (L' := fun z => sl (sg g) t (k + 1) (z.1.flatMap fun p => c p.1 p.2) :: sl (sg z.2) tb 1 ((d x).flatMap (vi .u8)) :: rowsR tb (z.1.map Prod.snd) (xs.map d) i.toNat :: L.eraseIdx n) (hp' := fun _ => hp) (Φ := fun z => z.1.map Prod.fst = xs ∧ z.1[i.toNat]? = some (x, z.2))
    (fun w hw => own_rowG (lget_spec hz).2.2 (own_front hw hi)) (fun z hz2 => kk z.1 z.2 hz2.1 (by unfold lget; rw [if_pos (lget_spec hz).1]; exact hz2.2))
theorem RowGUf {i : Int} {x x' : τ} {q q' : SG3} {l : List Int} (cv : Cv X J) (hl : zs.map Prod.fst = xs) (hq : lget zs i = some (x, q)) (hc : c x' q' = c x q') (hd : d x' = l) (kk : J hp (rowsG c d g t tb k (xs.set i.toNat x') :: L)) :
    J hp (sl (sg g) t (k + 1) ((zs.set i.toNat (x, q')).flatMap fun p => c p.1 p.2) :: sl (sg q') tb 1 (l.flatMap (vi .u8)) :: rowsR tb (zs.map Prod.snd) (xs.map d) i.toNat :: L) :=
  cv.cv (fun _ hw => rowG_own hl (lget_spec hq).2.2 hc hd hw) kk
theorem RowGUf0 {i : Int} {x : τ} {q : SG3} (cv : Cv X J) (hl : zs.map Prod.fst = xs) (hq : lget zs i = some (x, q)) (kk : J hp (rowsG c d g t tb k xs :: L)) :
    J hp (sl (sg g) t (k + 1) (zs.flatMap fun p => c p.1 p.2) :: sl (sg q) tb 1 ((d x).flatMap (vi .u8)) :: rowsR tb (zs.map Prod.snd) (xs.map d) i.toNat :: L) :=
  cv.cv (fun _ hw => rowG_own0 hl (lget_spec hq).2.2 hw) kk
theorem RowGN (cv : Cv X J) (c : τ → SG3 → List Value) (d : τ → List Int) (t tb k : Nat) (kk : J hp (rowsG c d (none, 0, 0) t tb k [] :: L)) : J hp L := cv.cv (fun _ hw => rowsG_nil hw t tb k) kk
theorem RowGA (cv : Cv X J) (kk : ∀ zs : List (τ × SG3), zs.map Prod.fst = xs → J hp (sl (sg g) t (k + 1) (zs.flatMap fun p => c p.1 p.2) :: rowsA tb (zs.map Prod.snd) (xs.map d) :: L)) : J hp (rowsG c d g t tb k xs :: L) :=
  cv.cx (ι := List (τ × SG3)) (L' := fun zs => sl (sg g) t (k + 1) (zs.flatMap fun p => c p.1 p.2) :: rowsA tb (zs.map Prod.snd) (xs.map d) :: L) (hp' := fun _ => hp) (Φ := fun zs => zs.map Prod.fst = xs) (fun w hw => by
    obtain ⟨zs, hl, h1⟩ := own_rowsG hw
    obtain ⟨hh, ⟨a1, a2, rfl, ha, hb⟩, hsat⟩ := h1.ex
    obtain ⟨c1, c2, rfl, hc1, hc2⟩ := star_append.1 hb
    exact ⟨zs, hl, ⟨_, ⟨a1, _, rfl, ha, c1, c2, rfl, hc1, hc2⟩, hsat⟩, h1.os, h1.tape, h1.output⟩) (fun zs h => kk zs h)
theorem rowsGA_app {q : SG3} {x : τ} (hl : zs.map Prod.fst = xs) (hw : Own X hp (sl (sg g) t (k + 1) ((zs ++ [(x, q)]).flatMap fun p => c p.1 p.2) :: sl (sg q) tb 1 ((d x).flatMap (vi .u8)) :: rowsA tb (zs.map Prod.snd) (xs.map d) :: L) w) :
    Own X hp (rowsG c d g t tb k (xs ++ [x]) :: L) w := by
  obtain ⟨hh, ⟨a1, a2, rfl, ha, b1, b2, rfl, hb, c1, c2, rfl, hc1, hc2⟩, hsat⟩ := hw.ex
  refine rowsG_own (zs := zs ++ [(x, q)]) (by simp [hl]) ?_
  have e : rowsI tb ((zs ++ [(x, q)]).map Prod.snd) ((xs ++ [x]).map d) = rowsI tb (zs.map Prod.snd) (xs.map d) ++ [sl (sg q) tb 1 ((d x).flatMap (vi .u8))] := by
    rw [List.map_append, List.map_append]
    exact rowsI_app (by rw [← hl]; simp)
  rw [e]
  have hpm : (sl (sg q) tb 1 ((d x).flatMap (vi .u8)) :: (rowsI tb (zs.map Prod.snd) (xs.map d) ++ L)).Perm (rowsI tb (zs.map Prod.snd) (xs.map d) ++ [sl (sg q) tb 1 ((d x).flatMap (vi .u8))] ++ L) := by
    rw [List.append_assoc]
    exact (List.perm_middle (l₁ := rowsI tb (zs.map Prod.snd) (xs.map d)) (a := sl (sg q) tb 1 ((d x).flatMap (vi .u8))) (l₂ := L)).symm
  exact own_perm (hpm.cons _) ⟨⟨_, ⟨a1, _, rfl, ha, b1, _, rfl, hb, star_append.2 ⟨c1, c2, rfl, hc1, hc2⟩⟩, hsat⟩, hw.os, hw.tape, hw.output⟩
theorem RowGC {q : SG3} {x : τ} (cv : Cv X J) (hl : zs.map Prod.fst = xs) (kk : J hp (rowsG c d g t tb k (xs ++ [x]) :: L)) : J hp (sl (sg g) t (k + 1) ((zs ++ [(x, q)]).flatMap fun p => c p.1 p.2) :: sl (sg q) tb 1 ((d x).flatMap (vi .u8)) :: rowsA tb (zs.map Prod.snd) (xs.map d) :: L) :=
  cv.cv (fun _ hw => rowsGA_app hl hw) kk
end
theorem lenG {C : Ctx} {e : Env} {dst : Option Nat} {ty t' u n : Nat} {ps : String} {es : Array Edge} {gd : Option (Nat × Bool)} {x : Operand} (hx : ev e x = sg g) (hi : L[n]? = some (rowsG c d g t tb k xs)) (hf : ∀ x q, (c x q).length = k + 1) (ht : ∀ w, (underlying t').run C.P w = .ok (.slice u) w) :
    Pur C (Own C.X hp L) ⟨dst, .call ⟨.builtin .len, #[x], #[t']⟩, ty, ps, es, gd⟩ e (.int .i64 xs.length) := ⟨fun w hw => by
  obtain ⟨zs, hl, h1⟩ := own_rowsG (own_front hw hi)
  have := (lenO (C := C) (dst := dst) (ty := ty) (ps := ps) (es := es) (gd := gd) (i := 0) (f := fun p : τ × SG3 => c p.1 p.2) (xs := zs) hx rfl (fun p => hf p.1 p.2) ht).go w h1
  rw [show zs.length = xs.length by rw [← hl]; simp] at this
  exact this⟩
theorem IfV.nz {T : TypeId} {c : Int} (h : (c == 0) = false) : IfV (Kot.errV T c) false := by rw [← h]; exact IfV.errV
end
end Kot
