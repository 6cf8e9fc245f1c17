/- The plain laws of layer 9: tables. -/
import Derived.Test.YtpbcbfbichfioaaDoorCodePure
namespace Go.Proofs.YtpbcbfbichfioaaDoor
open Kot Go
set_option linter.unusedVariables false
set_option maxRecDepth 100000
theorem nm_ok : ∀ i : Fin 256, kotatsuref08_Name.f (i.val : Int) = some (nm i.val) := by decide +kernel
theorem own_ok (o m : Fin 256) : kotatsulaw09_own.f (mkC o m) = some (mkR o m) := by
  have h1 : IntKind.wrap .i64 (o.val : Int) = (o.val : Int) := wrapI (by omega) (by omega)
  have h2 : IntKind.wrap .i64 (m.val : Int) = (m.val : Int) := wrapI (by omega) (by omega)
  simp only [kotatsulaw09_own.f, mkC, h1, h2, nm_ok o, Option.bind_some, mkR]
/-! ### the laws -/
theorem kotatsulaw09_CodeTables.pure : ∀ (a0 : Int), (Lit.int .u8 a0).wf = true → kotatsulaw09_CodeTables.f a0 = some true := by
  intro a0 h0
  obtain ⟨n, rfl⟩ := byte_of h0
  revert n
  decide +kernel

def code_Code.W (s : code_Code) : Prop := (Lit.int .u8 s.f_Op).wf = true ∧ (Lit.int .u8 s.f_Mode).wf = true
theorem kotatsulaw09_CodeBytes.pure : ∀ (a0 : code_Code), code_Code.W a0 → kotatsulaw09_CodeBytes.f a0 = some true := by
  intro a0 h0
  obtain ⟨o, m, rfl⟩ := code_of a0 h0
  simp only [kotatsulaw09_CodeBytes.f, awake_true, byteC, own_ok, byteR, Option.bind_some, Bool.not_true, cond_false]
  cases h : fb o m with
  | none => rfl
  | some b =>
    obtain ⟨hb, hc⟩ := fb_spec o m b h
    have h1 : decide ((b : Int) < 0) = false := by simp
    have h2 : IntKind.wrap .i64 (b : Int) = (b : Int) := wrapI (by omega) (by omega)
    simp only [h1, h2, cond_false, cond_true, beq_self_eq_true, of_ok b hb, hc, Option.bind_some, Bool.and_true, Bool.true_and]

def lhs (b : Nat) (x t : Bool) : Option Int := bif (ofC b).f_Op == 69 then some 0 else code_Code_Steps.j1 (ofC b) x t ()
def rhs (b : Nat) (x t : Bool) : Option Int := bif (ofR b).f_Name == ([74, 65, 77] : List UInt8) then some 0 else kotatsuref09_Steps.j1 (ofR b) x t ()
theorem steps_chk : ∀ b : Fin 256, ∀ x t : Bool, lhs b.val x t = rhs b.val x t ∧ (lhs b.val x t).isSome = true := by decide +kernel
theorem size_chk : ∀ m : Fin 256, code_Code_Size.f ⟨0, (m.val : Int)⟩ = kotatsuref09_Size.f (m.val : Int) ∧ (kotatsuref09_Size.f (m.val : Int)).isSome = true := by decide +kernel
theorem steps_all (o m : Fin 256) (x t : Bool) : kotatsulaw09_CodeSteps.j1 x t ((o.val : Int), (m.val : Int)) = some true := by
  have hs : code_Code_Size.f (mkC o m) = kotatsuref09_Size.f (m.val : Int) := (size_chk m).1
  obtain ⟨z, hz⟩ := Option.isSome_iff_exists.1 (size_chk m).2
  have h2 : IntKind.wrap .i64 (m.val : Int) = (m.val : Int) := wrapI (by omega) (by omega)
  have key : ∃ n, code_Code_Steps.f (mkC o m) x t = some n ∧ kotatsuref09_Steps.f (mkR o m) x t = some n := by
    simp only [code_Code_Steps.f, kotatsuref09_Steps.f, byteC, byteR, Option.bind_some]
    cases h : fb o m with
    | none => exact ⟨0, rfl, rfl⟩
    | some b =>
      obtain ⟨hb, hc⟩ := fb_spec o m b h
      have hr : mkR o m = ofR b := by simp only [ofR, hc]; rfl
      have h1 : decide ((b : Int) < 0) = false := by simp
      simp only [h1, Bool.not_true, cond_false, hr, ← hc]
      obtain ⟨n, hn⟩ := Option.isSome_iff_exists.1 (steps_chk ⟨b, hb⟩ x t).2
      exact ⟨n, hn, (steps_chk ⟨b, hb⟩ x t).1.symm.trans hn⟩
  obtain ⟨n, k1, k2⟩ := key
  show (code_Code_Steps.f (mkC o m) x t).bind _ = _
  rw [k1]
  show (kotatsulaw09_own.f (mkC o m)).bind _ = _
  rw [own_ok]
  show (kotatsuref09_Steps.f (mkR o m) x t).bind _ = _
  rw [k2]
  show (bif n == n then ((code_Code_Size.f (mkC o m)).bind fun _ => (kotatsuref09_Size.f (IntKind.wrap .i64 (m.val : Int))).bind _) else _) = _
  rw [hs, h2, hz]
  simp
theorem kotatsulaw09_CodeSteps.pure : ∀ (a0 : code_Code), code_Code.W a0 → ∀ (a1 : Int), (Lit.int .u8 a1).wf = true → ∀ (a2 : Bool), ∀ (a3 : Bool), ∀ (a4 : Bool), kotatsulaw09_CodeSteps.f a0 a1 a2 a3 a4 = some true := by
  intro a0 h0 a1 h1 a2 a3 a4
  obtain ⟨o, m, rfl⟩ := code_of a0 h0
  obtain ⟨b, rfl⟩ := byte_of h1
  simp only [kotatsulaw09_CodeSteps.f, awake_true, Option.bind_some, Bool.not_true, cond_false, of_ok b.val b.isLt]
  cases a4 with
  | true =>
    have := ofC_lt b
    exact steps_all ⟨opL.getD b.val 0, by omega⟩ ⟨mdL.getD b.val 0, by omega⟩ a2 a3
  | false => exact steps_all o m a2 a3

theorem kinds_loop (a1 : Int) : ∀ (k i : Nat), i + k = 256 → kotatsulaw09_CodeKinds.l2 a1 (k + 2) (i : Int) = some (fnd (fun i => (ofC i).f_Op == Int.tmod a1 70) k i).isSome
  | 0, i, h => by
    obtain rfl : i = 256 := by omega
    rfl
  | k + 1, i, h => by
    have h1 : decide ((i : Int) < 256) = true := by simp; omega
    simp only [kotatsulaw09_CodeKinds.l2, h1, cond_true, wrapU8 i (by omega), of_ok i (by omega), Option.bind_some, fnd, wrapS i (by omega)]
    cases hp : (ofC i).f_Op == Int.tmod a1 70 with
    | true => rfl
    | false => simp only [cond_false]; exact kinds_loop a1 k (i + 1) (by omega)
theorem kinds_all : ∀ k : Fin 70, (fnd (fun i => (ofC i).f_Op == (k.val : Int)) 256 0).isSome = true := by decide +kernel
theorem kotatsulaw09_CodeKinds.pure : ∀ (a0 : Int), (Lit.int .u8 a0).wf = true → ∀ (a1 : Int), (Lit.int .u8 a1).wf = true → kotatsulaw09_CodeKinds.f a0 a1 = some true := by
  intro a0 h0 a1 h1
  obtain ⟨b, rfl⟩ := byte_of h0
  obtain ⟨k, rfl⟩ := byte_of h1
  have ht : Int.tmod (k.val : Int) 70 = ((k.val % 70 : Nat) : Int) := rfl
  have hj : kotatsulaw09_CodeKinds.j1 (k.val : Int) () = some true := by
    have := kinds_loop (k.val : Int) 256 0 rfl
    rw [ht, kinds_all ⟨k.val % 70, Nat.mod_lt _ (by decide)⟩] at this
    exact this
  simp only [kotatsulaw09_CodeKinds.f, awake_true, hj, Option.bind_some, Bool.not_true, cond_false]
  clear hj ht h0 h1 k
  revert b
  decide +kernel
end Go.Proofs.YtpbcbfbichfioaaDoor
