/- The plain law of HostPlays. -/
import Derived.Test.YtgfjecngfmachaaHostPure7
namespace Go.Proofs.Ytgfjecngfmachaa
open Kot Go
theorem i64_of {a : Int} (h : (Lit.int .i64 a).wf = true) : -9223372036854775808 ≤ a ∧ a ≤ 9223372036854775807 := by simpa [Lit.wf, IntKind.min, IntKind.max, IntKind.signed, IntKind.bits] using h
theorem u8_of {a : Int} (h : (Lit.int .u8 a).wf = true) : 0 ≤ a ∧ a ≤ 255 := by simpa [Lit.wf, IntKind.min, IntKind.max, IntKind.signed, IntKind.bits] using h
theorem u16_of {a : Int} (h : (Lit.int .u16 a).wf = true) : 0 ≤ a ∧ a ≤ 65535 := by simpa [Lit.wf, IntKind.min, IntKind.max, IntKind.signed, IntKind.bits] using h
theorem len_of {n : Nat} (h : n ≤ maxLen) : n ≤ 9223372036854775807 := h
def kotatsulaw01_Act.W (s : kotatsulaw01_Act) : Prop := (Lit.int .u8 s.f_Do).wf = true ∧ (Lit.int .u8 s.f_Name).wf = true ∧ (Lit.int .u8 s.f_To).wf = true ∧ (s.f_P.length ≤ maxLen ∧ ∀ a ∈ s.f_P, (Lit.int .u8 a).wf = true) ∧ (Lit.int .i64 s.f_N).wf = true ∧ (s.f_Tails.length ≤ maxLen ∧ ∀ a ∈ s.f_Tails, (Lit.int .i64 a).wf = true)
theorem act_of {a : kotatsulaw01_Act} (h : a.W) : ActOk a := ⟨u8_of h.1, u8_of h.2.1, u8_of h.2.2.1, len_of h.2.2.2.1.1, i64_of h.2.2.2.2.1, len_of h.2.2.2.2.2.1⟩
theorem kotatsulaw01_HostPlays.pure : ∀ (a0 : Int), (Lit.int .u16 a0).wf = true → ∀ (a1 : List kotatsulaw01_Act), (a1.length ≤ maxLen ∧ ∀ a ∈ a1, kotatsulaw01_Act.W a) → kotatsulaw01_HostPlays.f a0 a1 = some true :=
  fun n hn acts h => plays_ok n (u16_of hn).1 (u16_of hn).2 acts (len_of h.1) (fun a ha => act_of (h.2 a ha))
end Go.Proofs.Ytgfjecngfmachaa
