/- Words of rows whose tables are laid. -/
import Derived.Test.YtpajmahpphcbaaaGreatDoorBase7
import Derived.Test.YtpajmahpphcbaaaGreatDoorBase10
import Derived.Lib.LaidU8
import Derived.Lay
import Derived.Stop.LaidErr
namespace Kot
open Go Go.ChangeShapes Go.WideShapes Go.ChangeAt Go.RowKit
theorem gt_of_reads {P : Program} {W : World} {name : String} {k : IntKind} {zs : List Int} {g : Nat} {t e : TypeId} {n : Nat} (h : Lib.VarReads P W name (Lib.tabData k zs))
    (hg : P.globalNamed name = some g) (hty : (P.globals[g]?).map (·.type) = some t) (ht : P.underlying t = some (.array n e)) (he : P.underlying e = some (.int k)) (hce : P.cellsOf e = 1) (hct : P.cellsOf t = n) :
    GT (oldH W) g (vi k) zs := by
  obtain ⟨g', t', cs, fuel, p, hg', ht', hvar, hd⟩ := h
  obtain rfl := Option.some.inj (hg.symm.trans hg')
  obtain rfl := Option.some.inj (hty.symm.trans ht')
  have hc := Lib.cells_of_tab ht he hce hct hd
  intro i z hz
  simp only [World.var?, hg, Option.bind_some] at hvar
  split at hvar
  · rename_i c t fr hb
    cases hvar
    refine ⟨g, i, cs, _, _, rfl, mem_oldH.2 hb, fun j hj => ?_⟩
    simp only [vi, List.length_cons, List.length_nil] at hj
    have : j = 0 := by omega
    subst this
    rw [Nat.add_zero, ← Array.getElem?_toList, hc]
    simp [vi, hz]
  · cases hvar
end Kot
