/- Words of Uj whose tables are laid. -/
import Derived.Test.YtkjkgdhgcdgbhaaGreatDoorBase7
import Derived.Test.YtkjkgdhgcdgbhaaGreatDoorBase10
import Derived.Lib.LaidU8
import Derived.Lay
import Derived.Stop.LaidErr
namespace Kot
open Go Go.ChangeShapes Go.WideShapes Go.ChangeAt Go.RowKit
theorem Ql {P : Program} {W : World} {name : String} {k : IntKind} {zs : List Int} {g : Nat} {t e : TypeId} {n : Nat} (h : Lib.VarReads P W name (Lib.tabData k zs))
    (hg : P.globalNamed name = some g) (hty : (P.globals[g]?).map (·.type) = some t) (ht : P.underlying t = some (.array n e)) (he : P.underlying e = some (.int k)) (hce : P.cellsOf e = 1) (hct : P.cellsOf t = n) :
    GT (Sm W) g (vi k) zs := by
  obtain ⟨g', t', cs, fuel, p, hg', ht', hvar, hd⟩ := h
  obtain rfl := Option.some.inj (hg.symm.trans hg')
  obtain rfl := Option.some.inj (hty.symm.trans ht')
  have hc := Lib.cells_of_tab ht he hce hct hd
  intro i z hz
  simp only [World.var?, hg, Option.bind_some] at hvar
  split at hvar
  · rename_i c t fr hb
    cases hvar
    refine ⟨g, i, cs, _, _, rfl, SQ.2 hb, fun j hj => ?_⟩
    simp only [vi, List.length_cons, List.length_nil] at hj
    have : j = 0 := by omega
    subst this
    rw [Nat.add_zero, ← Array.getElem?_toList, hc]
    simp [vi, hz]
  · cases hvar
theorem Vl {H : Type} {enc : TypeId × Value → H} {P : Program} {w : World} {base : Nat} {sp : Nat → Bool} {held : Bool} {fuel : Nat} {t e2 e : TypeId} {n m : Nat} {k : IntKind} {cs : List Value} {Uj : List (List Int)} {p : List MemPlace}
    (ht : P.underlying t = some (.array n e2)) (he2 : P.underlying e2 = some (.array m e)) (he : P.underlying e = some (.int k)) (hce : P.cellsOf e = 1) (hce2 : P.cellsOf e2 = m) (hct : P.cellsOf t = n * m)
    (h : DataW.trod enc P w base sp held fuel t cs = some (.agg (Uj.map (Lib.tabData k)), p)) : ∀ (j : Nat) (z : Int), Uj.flatten[j]? = some z → cs[j]? = some (Value.int k z) := by
  cases fuel with
  | zero => simp [DataW.trod] at h
  | succ fuel =>
    simp only [DataW.trod, ht, hce2, hct] at h
    split at h
    · rename_i hl
      obtain ⟨xs, hm, hx⟩ := Option.map_eq_some_iff.1 h
      have hxs : xs.map (·.1) = Uj.map (Lib.tabData k) := by
        have := congrArg Prod.fst hx
        simpa using this
      have hxl : xs.length = n := by simpa using Lib.mapM_length hm
      have hzl : Uj.length = n := by
        have := congrArg List.length hxs
        simp at this
        omega
      have row : ∀ i (r : List Int), Uj[i]? = some r → (cs.drop (i * m)).take m = r.map fun z => Value.int k z := by
        intro i r hr
        have hi : i < n := by
          rcases Nat.lt_or_ge i Uj.length with h' | h'
          · omega
          · rw [List.getElem?_eq_none h'] at hr; cases hr
        obtain ⟨b, hb, hf⟩ := Lib.mapM_at hm i i (by simp [hi])
        have h2 : (xs.map (·.1))[i]? = some b.1 := by simp [hb]
        rw [hxs, List.getElem?_map, hr, Option.map_some, Option.some.injEq] at h2
        obtain ⟨b1, b2⟩ := b
        simp only at h2
        subst h2
        exact Lib.cells_of_tab he2 he hce hce2 hf
      have gen : ∀ (rs : List (List Int)) (i0 j : Nat) (z : Int), (∀ i r, rs[i]? = some r → Uj[i0 + i]? = some r) → rs.flatten[j]? = some z → (cs.drop (i0 * m))[j]? = some (Value.int k z) := by
        intro rs
        induction rs with
        | nil => intro _ j z _ hz; simp at hz
        | cons r rs ih =>
          intro i0 j z hr hz
          have h0 := row i0 r (hr 0 r rfl)
          have hlen : r.length = m ∨ (r.length < m ∧ cs.length ≤ i0 * m + r.length) := by
            have := congrArg List.length h0
            simp at this
            omega
          rw [List.flatten_cons] at hz
          by_cases hj : j < r.length
          · rw [List.getElem?_append_left hj] at hz
            have h1 := congrArg (·[j]?) h0
            simp only [List.getElem?_take, List.getElem?_map, hz, Option.map_some] at h1
            split at h1
            · exact h1
            · cases h1
          · rw [List.getElem?_append_right (by omega)] at hz
            rcases hlen with hlen | ⟨hlen, hcs⟩
            · have := ih (i0 + 1) (j - r.length) z (fun i r' h' => by rw [show i0 + 1 + i = i0 + (i + 1) by omega]; exact hr (i + 1) r' h') hz
              rw [List.getElem?_drop] at this ⊢
              rw [← this, Nat.succ_mul]
              congr 1
              omega
            · exfalso
              have hn : i0 < n := by
                have := hr 0 r rfl
                rcases Nat.lt_or_ge (i0 + 0) Uj.length with h' | h'
                · omega
                · rw [List.getElem?_eq_none h'] at this; cases this
              have : (i0 + 1) * m ≤ n * m := Nat.mul_le_mul_right m hn
              rw [Nat.succ_mul] at this
              omega
      intro j z hz
      have := gen Uj 0 j z (fun i r h' => by rw [Nat.zero_add]; exact h') hz
      simpa using this
    · cases h
theorem VD {P : Program} {W : World} {name : String} {k : IntKind} {Uj : List (List Int)} {zs : List Int} {g : Nat} {t e2 e : TypeId} {n m : Nat} (h : Lib.VarReads P W name (.agg (Uj.map (Lib.tabData k))))
    (hz : Uj.flatten = zs) (hg : P.globalNamed name = some g) (hty : (P.globals[g]?).map (·.type) = some t) (ht : P.underlying t = some (.array n e2)) (he2 : P.underlying e2 = some (.array m e)) (he : P.underlying e = some (.int k)) (hce : P.cellsOf e = 1) (hce2 : P.cellsOf e2 = m) (hct : P.cellsOf t = n * m) :
    GT (Sm W) g (vi k) zs := by
  subst hz
  obtain ⟨g', t', cs, fuel, p, hg', ht', hvar, hd⟩ := h
  obtain rfl := Option.some.inj (hg.symm.trans hg')
  obtain rfl := Option.some.inj (hty.symm.trans ht')
  have hc := Vl ht he2 he hce hce2 hct hd
  intro i z hz
  simp only [World.var?, hg, Option.bind_some] at hvar
  split at hvar
  · rename_i c t fr hb
    cases hvar
    refine ⟨g, i, cs, _, _, rfl, SQ.2 hb, fun j hj => ?_⟩
    simp only [vi, List.length_cons, List.length_nil] at hj
    have : j = 0 := by omega
    subst this
    rw [Nat.add_zero, ← Array.getElem?_toList, hc i z hz]
    rfl
  · cases hvar
end Kot
