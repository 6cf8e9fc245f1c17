/- The plain law of HostNil. -/
import Derived.Test.YtgfjecngfmachaaHostWhole
namespace Go.Proofs.Ytgfjecngfmachaa
open Kot Go
set_option maxRecDepth 100000
set_option linter.unusedSimpArgs false
set_option linter.unusedSectionVars false
abbrev nA : List UInt8 := [97]
abbrev more : List Int := [109, 111, 114, 101]
section
variable (p : List Int)
def v0 : HS := ⟨[], [], [], [], 100, -1, -1, 0⟩
def v1 : HS := ⟨[⟨[], 0⟩], [(nA, 0)], [], [⟨nA, 0, []⟩], 100, -1, -1, 0⟩
def v2 (q : List Int) (r : Int) : HS := ⟨[⟨q, 0⟩], [(nA, 0)], [], [⟨nA, 0, []⟩], 100, -1, -1, r⟩
theorem n1 : host_Host_Create.f v0 nA = some (0, v1) := rfl
variable (hp : p.length ≤ 20)
include hp
theorem n2 : host_Host_Append.f v1 nA p = some (0, v2 p 0) := by
  have := append_calm (h := v1) (num_w _ _ _ _ _ _ (by decide) (by decide)) rfl rfl (n := nA) (i := 0) (f := ⟨[], 0⟩) (p := p) (u := 0) rfl rfl rfl (by decide) (by show (100 : Int) ≤ 1000000; decide) (by show (p.length : Int) ≤ 100 - 0; omega) (by simp; omega)
  exact this
theorem n3 (r : Int) : Inv 2 (v2 p r) := by
  have I := append_inv (create_inv (new_inv 100 (by decide) (by decide)) (by decide) n1) (by decide) (by omega) (n2 p hp)
  exact I.cp (by decide) _ rfl rfl rfl rfl (num_w _ _ _ _ _ _ (by decide) (by decide))
theorem n4 (r : Int) : host_Host_Append.f (v2 p r) nA more = some (0, v2 (p ++ more) r) := by
  have := append_calm (h := v2 p r) (num_w _ _ _ _ _ _ (by decide) (by decide)) rfl rfl (n := nA) (i := 0) (f := ⟨p, 0⟩) (p := more) (u := p.length) rfl rfl (by
    show IntKind.wrap .i64 (0 + (p.length : Int)) = _
    rw [wrapI (by omega) (by omega)]; omega) (by omega) (by show (100 : Int) ≤ 1000000; decide) (by show (4 : Int) ≤ 100 - p.length; omega) (by simp; omega)
  exact this
theorem n5 (r : Int) : host_Host_Read.f (v2 p r) nA = some (p, 0, v2 p (IntKind.wrap .i64 (r + (p.length : Int)))) :=
  read_calm (n3 p hp r) (by decide) rfl (e := (nA, 0)) (by simp [v2]) (f := ⟨p, 0⟩) rfl
omit hp
theorem n6 (q : List Int) (r : Int) : host_Host_Remove.f (v2 q r) [98] = some (4, v2 q r) := rfl
theorem n7 (r r2 : Int) : host_Same.f (v2 p r) (v2 (p ++ more) r2) = some false := by
  have hl : (bstr p == bstr (p ++ more)) = false := beq_false_of_ne (fun h => by
    have := congrArg List.length h
    simp [bstr] at this)
  show some ((true && (bstr p == bstr (p ++ more))) && true) = _
  rw [hl]; rfl
include hp
theorem nil_end (n : Int) (r : Int) : ((host_Host_Copy.f (v2 p r)).bind fun r5669 => (host_Host_Append.f r5669 nA more).bind fun r5680 => (host_Host_Remove.f r5680.2 [98]).bind fun r5686 => (host_Host_Read.f (v2 p r) nA).bind fun r5692 => (kotatsuref01_Same.f r5692.1 p).bind fun r5702 => bif r5702 then ((host_Same.f r5692.2.2 r5686.2).bind fun r5709 => bif !r5709 then ((host_Same_n1.f r5692.2.2).bind fun r5712 => bif !r5712 then ((host_New.f n).bind fun r5717 => bnd ((List.foldl (usedS r5717.files) 0 r5717.l) == 0) fun x5734 => some x5734) else (some false)) else (some false)) else (some false)) = some true := by
  rw [copy_ok (n3 p hp r) (by decide), Option.bind_some, n4 p hp r, Option.bind_some, n6, Option.bind_some, n5 p hp r, Option.bind_some]
  simp only [same_ok p p (by omega), decide_true, Option.bind_some, cond_true, n7]
  rfl
theorem l5_ok (n : Int) (r : Int) : ∀ (d i f : Nat) (l : List Int), i + d = p.length → d < f → l.length = p.length → kotatsulaw01_HostNil.l5 n p (p, 0, v2 p r) f (l, (i : Int)) = some true
  | 0, i, f + 1, l, hk, _, hl => by
    simp only [kotatsulaw01_HostNil.l5]
    rw [ltF (by omega), cond_false]
    exact nil_end p hp n r
  | d + 1, i, f + 1, l, hk, hf, hl => by
    simp only [kotatsulaw01_HostNil.l5]
    rw [ltT (by omega), cond_true, lget_lt (by omega), Option.bind_some, Option.bind_some, wrap1 (by omega)]
    exact l5_ok n r d (i + 1) f _ (by omega) (by omega) (by simpa using hl)
theorem l2_ok (n : Int) : ∀ (d i f : Nat) (l : List Int), i + d = p.length → d < f → l.length = p.length → kotatsulaw01_HostNil.l2 n p p (0, v2 p 0) f (l, (i : Int)) = some true
  | 0, i, f + 1, l, hk, _, hl => by
    simp only [kotatsulaw01_HostNil.l2]
    rw [ltF (by omega), cond_false]
    show (host_Host_Read.f (v2 p 0) nA).bind _ = _
    rw [n5 p hp 0, Option.bind_some]
    exact l5_ok p hp n _ p.length 0 _ p (by omega) (by simp) rfl
  | d + 1, i, f + 1, l, hk, hf, hl => by
    simp only [kotatsulaw01_HostNil.l2]
    rw [ltT (by omega), cond_true, lget_lt (by omega), Option.bind_some, Option.bind_some, wrap1 (by omega)]
    exact l2_ok n d (i + 1) f _ (by omega) (by omega) (by simpa using hl)
end
theorem text_ok (s : List UInt8) : ∃ t, kotatsuref01_Text.f s 40 = some t := by
  unfold kotatsuref01_Text.f lsub
  rw [if_pos (by omega)]
  exact ⟨_, rfl⟩
theorem kotatsulaw01_HostNil.pure : ∀ (a0 : List UInt8), a0.length ≤ maxLen → ∀ (a1 : List Int), (a1.length ≤ maxLen ∧ ∀ a ∈ a1, (Lit.int .u8 a).wf = true) → ∀ (a2 : Int), (Lit.int .i64 a2).wf = true → ∀ (a3 : List Int), (a3.length ≤ maxLen ∧ ∀ a ∈ a3, (Lit.int .i64 a).wf = true) → kotatsulaw01_HostNil.f a0 a1 a2 a3 = some true := by
  intro s _ p hp n _ tails _
  obtain ⟨t, ht⟩ := text_ok s
  unfold kotatsulaw01_HostNil.f
  rw [awake_true, Option.bind_some, ht, cut_ok _ _ (len_of hp.1) (by omega)]
  simp only [Bool.not_true, cond_false, Option.bind_some]
  have h1 : (p.take (20 : Int).toNat).length ≤ 20 := by rw [List.length_take]; exact Nat.min_le_left _ _
  generalize p.take (20 : Int).toNat = p at *
  show kotatsulaw01_HostNil.j1 n p () = some true
  unfold kotatsulaw01_HostNil.j1
  rw [show host_New.f 100 = some v0 from rfl, Option.bind_some, n1, Option.bind_some, join1 _ (by omega), Option.bind_some]
  show (host_Host_Append.f v1 nA p).bind _ = _
  rw [n2 p h1, Option.bind_some]
  exact l2_ok p h1 n p.length 0 _ p (by omega) (by simp) rfl
end Go.Proofs.Ytgfjecngfmachaa
