/- What the hosts' laws compute, in plain words: lists and numbers. -/
import Derived.Test.YtgfjecngfmachaaF
namespace Go.Proofs.Ytgfjecngfmachaa
open Kot Go
set_option maxRecDepth 100000
theorem wrapI {i : Int} (h1 : -9223372036854775808 ≤ i) (h2 : i ≤ 9223372036854775807) : IntKind.wrap .i64 i = i := by
  rw [IntKind.wrap_i64]; omega
theorem wrap1 {i : Nat} (h : i < 9223372036854775807) : IntKind.wrap .i64 ((i : Int) + 1) = ((i + 1 : Nat) : Int) := by rw [wrapI (by omega) (by omega)]; rfl
theorem lget_nat {τ : Type} (xs : List τ) (i : Nat) : lget xs (i : Int) = xs[i]? := by simp [lget]
theorem lget_lt {τ : Type} {xs : List τ} {i : Nat} (h : i < xs.length) : lget xs (i : Int) = some xs[i] := by rw [lget_nat, List.getElem?_eq_getElem h]
theorem lim_ok {n : Nat} (h : n ≤ 1073741824) : lim n = some () := by simp [lim, h]
theorem ltT {a b : Int} (h : a < b) : decide (a < b) = true := decide_eq_true h
theorem ltF {a b : Int} (h : b ≤ a) : decide (a < b) = false := decide_eq_false (by omega)
theorem awake_true : kotatsulaw01_awake.f = some true := by decide +kernel
/-! ### Cut, Same, Join -/
theorem cut_loop (p : List Int) (n : Int) (hp : p.length ≤ 9223372036854775807) (hn : n ≤ 1073741824) : ∀ (m k f : Nat), k + m = p.length → m < f → kotatsuref01_Cut.l1 p n f (p.take (min k n.toNat), (k : Int)) = some (p.take n.toNat)
  | 0, k, f + 1, hk, _ => by
    simp only [kotatsuref01_Cut.l1]
    rw [ltF (by omega), cond_false]
    congr 1
    rcases Nat.le_total n.toNat k with h | h
    · rw [Nat.min_eq_right h]
    · rw [Nat.min_eq_left h, List.take_of_length_le (by omega), List.take_of_length_le (by omega)]
  | m + 1, k, f + 1, hk, hf => by
    simp only [kotatsuref01_Cut.l1]
    rw [ltT (by omega), cond_true, lget_lt (by omega), Option.bind_some]
    have ih := cut_loop p n hp hn m (k + 1) f (by omega) (by omega)
    by_cases hkn : (k : Int) < n
    · rw [ltT hkn, cond_true, lim_ok (by simp; omega), Option.bind_some, wrap1 (by omega), ← ih]
      congr 2
      rw [Nat.min_eq_left (by omega), Nat.min_eq_left (by omega), List.take_append_getElem]
    · rw [ltF (by omega), cond_false, wrap1 (by omega), ← ih, Nat.min_eq_right (by omega), Nat.min_eq_right (by omega)]
theorem cut_ok (p : List Int) (n : Int) (hp : p.length ≤ 9223372036854775807) (hn : n ≤ 1073741824) : kotatsuref01_Cut.f p n = some (p.take n.toNat) := by
  have := cut_loop p n hp hn p.length 0 (((p.length : Int) - 0 : Int).toNat + 2) (by omega) (by omega)
  simpa [kotatsuref01_Cut.f] using this
theorem same_loop (a b : List Int) (hl : a.length = b.length) (hp : a.length ≤ 9223372036854775807) : ∀ (m k f : Nat), k + m = a.length → m < f → kotatsuref01_Same.l1 a b f (k : Int) = some (decide (a.drop k = b.drop k))
  | 0, k, f + 1, hk, _ => by
    simp only [kotatsuref01_Same.l1]
    rw [ltF (by omega), cond_false, List.drop_eq_nil_of_le (by omega), List.drop_eq_nil_of_le (by omega), decide_eq_true rfl]
  | m + 1, k, f + 1, hk, hf => by
    simp only [kotatsuref01_Same.l1]
    rw [ltT (by omega), cond_true, lget_lt (by omega), Option.bind_some, lget_lt (by omega), Option.bind_some, wrap1 (by omega), same_loop a b hl hp m (k + 1) f (by omega) (by omega)]
    rw [List.drop_eq_getElem_cons (l := a) (i := k) (by omega), List.drop_eq_getElem_cons (l := b) (i := k) (by omega)]
    by_cases h : a[k] = b[k]
    · rw [show (a[k] != b[k]) = false by simp [h], cond_false, h]
      simp only [List.cons.injEq, true_and]
    · rw [show (a[k] != b[k]) = true by simp [h], cond_true]
      simp only [List.cons.injEq, h, false_and, decide_false]
theorem same_ok (a b : List Int) (hp : a.length ≤ 9223372036854775807) : kotatsuref01_Same.f a b = some (decide (a = b)) := by
  unfold kotatsuref01_Same.f
  by_cases hl : a.length = b.length
  · have := same_loop a b hl hp a.length 0 (((a.length : Int) - 0 : Int).toNat + 2) (by omega) (by omega)
    simp only [Int.natCast_zero, List.drop_zero] at this
    rw [show ((a.length : Int) != (b.length : Int)) = false by simp [hl], cond_false, this]
  · rw [show ((a.length : Int) != (b.length : Int)) = true by simp; omega, cond_true, decide_eq_false (fun h => hl (by rw [h]))]
theorem join2 (a b : List Int) (hl : a.length + b.length ≤ 1073741824) : kotatsuref01_Join.f [a, b] = some (a ++ b) := by
  have e : kotatsuref01_Join.f [a, b] = (lim (([] : List Int).length + a.length)).bind fun _ => (lim ((([] : List Int) ++ a).length + b.length)).bind fun _ => some (([] ++ a) ++ b) := rfl
  rw [e, lim_ok (by simp; omega), Option.bind_some, lim_ok (by simpa using hl), Option.bind_some, List.nil_append]
theorem join1 (a : List Int) (hl : a.length ≤ 1073741824) : kotatsuref01_Join.f [a] = some a := by
  have e : kotatsuref01_Join.f [a] = (lim (([] : List Int).length + a.length)).bind fun _ => some ([] ++ a) := rfl
  rw [e, lim_ok (by simpa using hl), Option.bind_some, List.nil_append]
/-! ### the two hosts' fails -/
def failsE (h : HS) (w : Bool) : Int := bif w && h.arm == 0 then 9 else bif h.fault == 0 then 8 else 0
def failsH (h : HS) (w : Bool) : HS := { h with arm := bif w && decide (0 < h.arm) then h.arm - 1 else h.arm, fault := bif decide (0 < h.fault) then h.fault - 1 else -1 }
structure Num (h : HS) : Prop where
  a1 : -1 ≤ h.arm
  a2 : h.arm ≤ 9223372036854775807
  f1 : -1 ≤ h.fault
  f2 : h.fault ≤ 9223372036854775807
  l1 : 0 ≤ h.limit
  l2 : h.limit ≤ 9223372036854775807
theorem dn_eq {n : Int} (h1 : -1 ≤ n) (h2 : n ≤ 9223372036854775807) : dn n = (n == 0, bif decide (0 < n) then n - 1 else n) := by
  unfold dn
  by_cases h : 0 < n
  · rw [decide_eq_true h, cond_true, cond_true, wrapI (by omega) (by omega), show (n == 0) = false by simp; omega]
  · rw [decide_eq_false h, cond_false, cond_false]
theorem fails_ok {h : HS} (H : Num h) (w : Bool) : host_Host_fails.f h w = some (failsE h w, failsH h w) := by
  have d1 := dn_eq H.a1 H.a2
  have d2 := dn_eq H.f1 H.f2
  have d3 := H.f1
  obtain ⟨fs, l, s, wt, lm, ar, fl, rd⟩ := h
  simp only at d1 d2 d3
  unfold host_Host_fails.f host_Host_fails.j1 failsE failsH
  simp only [d1, d2]
  rcases Int.lt_or_le 0 fl with h1 | h1
  · rw [show (fl == 0) = false by simp; omega, decide_eq_true h1]
    cases w <;> cases h2 : ar == 0 <;> simp_all
  · by_cases h3 : fl = 0
    · subst h3
      cases w <;> cases h2 : ar == 0 <;> simp_all
    · have h4 : fl = -1 := by omega
      subst h4
      cases w <;> cases h2 : ar == 0 <;> simp_all
theorem failsH_num {h : HS} (H : Num h) (w : Bool) : Num (failsH h w) := by
  obtain ⟨a1, a2, f1, f2, l1, l2⟩ := H
  have k1 : -1 ≤ (bif w && decide (0 < h.arm) then h.arm - 1 else h.arm) ∧ (bif w && decide (0 < h.arm) then h.arm - 1 else h.arm) ≤ 9223372036854775807 := by
    cases hb : (w && decide (0 < h.arm)) <;> simp only [cond_true, cond_false] <;> simp at hb <;> omega
  have k2 : -1 ≤ (bif decide (0 < h.fault) then h.fault - 1 else -1) ∧ (bif decide (0 < h.fault) then h.fault - 1 else -1) ≤ 9223372036854775807 := by
    by_cases hb : 0 < h.fault <;> simp [hb] <;> omega
  exact ⟨k1.1, k1.2, k2.1, k2.2, l1, l2⟩
end Go.Proofs.Ytgfjecngfmachaa
