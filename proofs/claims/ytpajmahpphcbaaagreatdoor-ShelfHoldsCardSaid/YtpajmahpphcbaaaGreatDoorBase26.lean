/- Words of rows of which one laid variable holds a type's handle. -/
import Derived.Test.YtpajmahpphcbaaaGreatDoorBase11
import Derived.LaidHandle
import Derived.LaidSub
namespace Kot
open Go Go.ChangeShapes Go.WideShapes Go.ChangeAt Go.RowKit
theorem hd_of_laid {P : Program} {W : World} {n : String} {d : DataW Unit} {nm : List UInt8} {g u ty N k : Nat} (h : handlesMet P [(n, d)] W) (hf : d.funcsIn? = none) (hn : d.handleName? = some nm) (hg : P.globalNamed n = some g)
    (hr : (P.cutTypes.find? (·.1 == "internal/reflectlite.rtype")).map (·.2) = some u) (hsz : P.types.size = N) (h1 : ((List.range N).filter fun t => P.rowNamed t nm) = [ty]) (hh : typeHandle P ty = .pointer (some ⟨k, ty, none⟩)) :
    RdP (oldH W) ⟨g, 0, none⟩ [.iface u (.agg #[.pointer (some ⟨k, ty, none⟩)])] := by
  have hx := h _ (List.mem_singleton.2 rfl)
  rw [hf] at hx
  obtain ⟨name, u', ty', e1, e2, e3, e4, hv⟩ := hx
  obtain rfl := Option.some.inj (hn.symm.trans e1)
  obtain rfl := Option.some.inj (hr.symm.trans e2)
  have hm : ty' ∈ (List.range N).filter fun t => P.rowNamed t nm := List.mem_filter.2 ⟨List.mem_range.2 (by rw [← hsz]; exact e3), e4⟩
  rw [h1] at hm
  obtain rfl := List.mem_singleton.1 hm
  rw [hh] at hv
  simp only [World.var?, hg, Option.bind_some] at hv
  split at hv
  · rename_i c t fr hb
    cases hv
    refine ⟨g, 0, #[.iface u (.agg #[.pointer (some ⟨k, ty', none⟩)])], _, _, rfl, mem_oldH.2 hb, fun j hj => ?_⟩
    simp only [List.length_cons, List.length_nil] at hj
    have : j = 0 := by omega
    subst this
    rfl
  · cases hv
noncomputable def hdWorld (P : Program) (os : Os) (g u ty : Nat) : World :=
  let w0 := World.holding P os ⟨#[], #[], []⟩
  { w0 with heap := w0.heap.modify g fun
      | .cells _ t frozen => .cells #[.iface u (.agg #[typeHandle P ty])] t frozen
      | o => o }
noncomputable def hdLaid (P : Program) (os : Os) (g u ty : Nat) (laid : List (String × DataW Unit)) : World := (hdWorld P os g u ty).layVars P laid
theorem hdLaid_os (P : Program) (os : Os) (g u ty : Nat) (laid : List (String × DataW Unit)) : (hdLaid P os g u ty laid).os = os := World.layVars_os _ _ _
theorem laidMet_hdLaid {P : Program} {os : Os} {g u ty : Nat} {laid : List (String × DataW Unit)} (args : Array Value)
    (hf : (hdWorld P os g u ty).layFits P laid [] = true)
    (hi : (hdWorld P os g u ty).layIfaces P laid (hdLaid P os g u ty laid) = true) :
    laidMet P laid ((hdLaid P os g u ty laid).forCall (fun _ _ => 0) ⟨#[], args, []⟩).memory := by
  have e1 : (laid.filter fun x => (laid.map (·.1)).contains x.1) = laid := List.filter_eq_self.2 fun x hx => List.contains_iff_mem.2 (List.mem_map.2 ⟨x, hx, rfl⟩)
  have e2 : (laid.filter fun x => !(laid.map (·.1)).contains x.1) = [] := List.filter_eq_nil_iff.2 fun x hx => by rw [List.contains_iff_mem.2 (List.mem_map.2 ⟨x, hx, rfl⟩)]; simp
  have h : laidMet P laid (hdLaid P os g u ty laid) := laidMet_layVars (w0 := hdWorld P os g u ty) (laid.map (·.1)) [] (by rw [e1]; rfl) (by rw [e1]; exact hf) (by rw [e1]; exact hi) (by rw [e2]; exact LaidIn.none)
  exact h.of_heap (by simp [World.memory, World.forCall, Input.heap])
end Kot
