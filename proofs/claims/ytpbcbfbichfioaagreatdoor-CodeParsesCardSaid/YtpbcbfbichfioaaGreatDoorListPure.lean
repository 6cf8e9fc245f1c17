/- Plain laws of layer 9: what the program tells, it reads again. -/
import Derived.Test.YtpbcbfbichfioaaGreatDoorLinePure
namespace Go.Proofs.YtpbcbfbichfioaaGreatDoor
open Kot Go
set_option linter.unusedVariables false
set_option linter.unusedSimpArgs false
set_option maxRecDepth 100000

theorem shr8 (n : Nat) : shr .u16 (n : Int) 8 = ((n / 256 : Nat) : Int) := by
  show Int.fdiv (n : Int) (2 ^ (min (8 : Int).toNat 16)) = _
  have : (2 : Int) ^ (min (8 : Int).toNat 16) = 256 := rfl
  rw [this, Int.fdiv_eq_ediv_of_nonneg _ (by decide)]
  rfl
theorem wrapU8m (i : Int) : IntKind.wrap .u8 i = i % 256 := by
  have e1 : (2 : Int) ^ 8 = 256 := rfl
  simp only [IntKind.wrap, IntKind.bits, IntKind.signed, Bool.false_and, e1]
  simp
theorem bytes_byte (o m : Fin 256) (b : Nat) (hf : fb o m = some b) : code_Code_Byte.f (mkC o m) = some ((b : Int), true) := by rw [byteC, hf]
theorem m10_not {m : Fin 256} (h : m.val ≠ 10) : (((m.val : Nat) : Int) == 10) = false := by simp; omega
theorem bytes2 (o m : Fin 256) (b n : Nat) (a : Int) (hf : fb o m = some b) (hm : m.val < 12) (h10 : m.val ≠ 10) (h3 : szN m.val ≠ 3) : code_Code_bytes.f (mkC o m) (n : Int) a = some ([(b : Int), IntKind.wrap .u8 (n : Int)], 0) := by
  have t3 : (((szN m.val : Nat) : Int) == 3) = false := by simp; omega
  have t10 : (((mkC o m).f_Mode) == 10) = false := m10_not h10
  simp only [code_Code_bytes.f, bytes_byte o m b hf, Option.bind_some, Bool.not_true, cond_false, t10, szc o m hm, t3]
theorem bytes3 (o m : Fin 256) (b n : Nat) (a : Int) (hf : fb o m = some b) (hm : m.val < 12) (h10 : m.val ≠ 10) (h3 : szN m.val = 3) : code_Code_bytes.f (mkC o m) (n : Int) a = some ([(b : Int), IntKind.wrap .u8 (n : Int), IntKind.wrap .u8 (shr .u16 (n : Int) 8)], 0) := by
  have t3 : (((szN m.val : Nat) : Int) == 3) = true := by rw [h3]; rfl
  have t10 : (((mkC o m).f_Mode) == 10) = false := m10_not h10
  simp only [code_Code_bytes.f, bytes_byte o m b hf, Option.bind_some, Bool.not_true, cond_false, t10, szc o m hm, t3, cond_true]
/-- how far a branch is -/
def farN (n a : Nat) : Nat := (n + 131070 - a) % 65536
theorem far_code (n a : Nat) (hn : n < 65536) (ha : a < 65536) : IntKind.wrap .u16 ((IntKind.wrap .u16 ((n : Int) - (a : Int))) - 2) = ((farN n a : Nat) : Int) := by
  rw [wrapU16m, wrapU16m]
  unfold farN
  omega
theorem bytes10 (o : Fin 256) (b n a : Nat) (hf : fb o ⟨10, by omega⟩ = some b) (hn : n < 65536) (ha : a < 65536) : code_Code_bytes.f (mkC o ⟨10, by omega⟩) (n : Int) (a : Int) =
    bif decide (128 ≤ farN n a) && decide (farN n a < 65408) then some ([], 11) else some ([(b : Int), IntKind.wrap .u8 ((farN n a : Nat) : Int)], 0) := by
  have t10 : (((mkC o ⟨10, by omega⟩).f_Mode) == 10) = true := rfl
  have e1 : decide ((128 : Int) ≤ ((farN n a : Nat) : Int)) = decide (128 ≤ farN n a) := by simp only [decide_eq_decide]; omega
  have e2 : decide (((farN n a : Nat) : Int) < 65408) = decide (farN n a < 65408) := by simp only [decide_eq_decide]; omega
  simp only [code_Code_bytes.f, bytes_byte o _ b hf, Option.bind_some, Bool.not_true, cond_false, t10, cond_true, far_code n a hn ha, bnd, e1, e2]
  cases decide (128 ≤ farN n a) <;> cases decide (farN n a < 65408) <;> rfl
theorem bytesS_eq (o : Fin 256) (m : Nat) (hm : m < 256) (n : Nat) (a : Int) : bytesS o m n a = code_Code_bytes.f (mkC o ⟨m, hm⟩) (n : Int) a := by
  have : (⟨m % 256, Nat.mod_lt _ (by decide)⟩ : Fin 256) = ⟨m, hm⟩ := Fin.ext (Nat.mod_eq_of_lt hm)
  unfold bytesS; rw [this]
theorem rel_far (a : Nat) (ha : a < 65536) (z : Nat) (hz : z < 256) : farN (relN a z) a = z + (bif decide (z < 128) then 0 else 65280) := by
  unfold farN relN
  by_cases h : z < 128
  · rw [decide_eq_true h, cond_true]; omega
  · rw [decide_eq_false h, cond_false]; omega
theorem want_of {m : Nat} (h10 : m ≠ 10) : wantN m = if szN m = 3 then 4 else 2 := by
  unfold wantN
  have : (m == 10) = false := by simpa using h10
  rw [this, Bool.or_false]
  by_cases h : szN m = 3
  · rw [h]; rfl
  · have : (szN m == 3) = false := by simpa using h
    rw [this, if_neg h]; rfl

/-- what the program tells of some bytes, it reads as the first of them -/
theorem text_parse (b : Fin 256) (rest : List (Fin 256)) (a : Nat) (ha : a < 65536) : ∃ (s : List UInt8) (n : Nat), code_Text.f ((b :: rest).map fun z => (z.val : Int)) (a : Int) = some (s, (n : Int)) ∧ 1 ≤ n ∧ n ≤ rest.length + 1 ∧ n ≤ 3 ∧
    code_Parse.f s (a : Int) = some (((b :: rest).map fun z => (z.val : Int)).take n, 0) := by
  obtain ⟨x, hx, hf⟩ := fb_of b
  have hl0 : ((((b.val : Int) :: rest.map fun z => (z.val : Int)).length : Int) == 0) = false := by simp; omega
  have hsz : code_Code_Size.f (mkC (oB b) (mB b)) = some ((szN (mB b).val : Nat) : Int) := szc _ _ (mB_lt b)
  have hb := byteC (oB b) (mB b)
  rw [hf] at hb
  have hbyte : ∃ (s : List UInt8) (n : Nat), ((code_hex.f (IntKind.wrap .u16 (b.val : Int)) 2).bind fun q => (lim (([66, 89, 84, 69, 32] : List UInt8).length + q.length)).bind fun _ => some (([66, 89, 84, 69, 32] : List UInt8) ++ q, (1 : Int))) = some (s, (n : Int)) ∧ 1 ≤ n ∧ n ≤ rest.length + 1 ∧ n ≤ 3 ∧
      code_Parse.f s (a : Int) = some (((b :: rest).map fun z => (z.val : Int)).take n, 0) := by
    have h1 := hexc b.val 2 (by omega) (.inl rfl)
    rw [wrapU16 (i := (b.val : Int)) (by omega) (by omega)]
    refine ⟨[66, 89, 84, 69, 32] ++ (36 :: hexL 2 b.val), 1, ?_, by omega, by omega, by omega, parse_byte b a⟩
    refine (congrArg (fun q => Option.bind q _) h1).trans ?_
    rw [Option.bind_some, lim_ok (by simp [hexL_len]), Option.bind_some]; rfl
  simp only [code_Text.f, List.map_cons, hl0, cond_false, lg0, Option.bind_some, of_ok b.val b.isLt]
  rw [ofC_mk, hsz]
  simp only [Option.bind_some, hb]
  cases hne : ((x : Int) != (b.val : Int)) with
  | true => simp only [cond_true]; exact hbyte
  | false =>
    simp only [cond_false]
    have hxb : x = b.val := by have : (x : Int) = (b.val : Int) := by simpa using hne
                               omega
    subst hxb
    cases hlt : decide ((((b.val : Int) :: rest.map fun z => (z.val : Int)).length : Int) < ((szN (mB b).val : Nat) : Int)) with
    | true => simp only [cond_true]; exact hbyte
    | false =>
      simp only [cond_false]
      have hlen : szN (mB b).val ≤ rest.length + 1 := by
        have := of_decide_eq_false hlt
        simp at this; omega
      have ho := oB_lt b
      have hm := mB_lt b
      generalize hoo : oB b = o at *
      generalize hmm : mB b = m at *
      have hfN : fbN o m.val = some b.val := by
        unfold fbN
        rw [dif_pos m.isLt]; exact hf
      by_cases h0 : m.val = 0
      · obtain rfl : m = ⟨0, Nat.zero_lt_succ _⟩ := Fin.ext h0
        refine ⟨nm o.val, 1, ?_, by omega, by omega, by omega, ?_⟩
        · show (code_Code_line.f (mkC o ⟨0, _⟩) 0 0).bind _ = _
          rw [line0_ok o ⟨0, by omega⟩ 0 0 ho rfl]; rfl
        · rw [parse_alone o ho, show fbN o 0 = some b.val from hfN]; rfl
      obtain ⟨z, rest, rfl⟩ : ∃ z t, rest = z :: t := by
        cases rest with
        | nil =>
          have hmm : m.val = 1 ∨ m.val = 2 ∨ m.val = 3 ∨ m.val = 4 ∨ m.val = 5 ∨ m.val = 6 ∨ m.val = 7 ∨ m.val = 8 ∨ m.val = 9 ∨ m.val = 10 ∨ m.val = 11 := by omega
          rcases hmm with h | h | h | h | h | h | h | h | h | h | h <;> rw [h] at hlen <;> simp [szN] at hlen
        | cons z t => exact ⟨z, t, rfl⟩
      by_cases h10 : m.val = 10
      · obtain rfl : m = ⟨10, by decide⟩ := Fin.ext h10
        have hfrm : nm o.val ++ 32 :: form 10 (relN a z.val) = (((nm o.val ++ [32]) ++ (drsF 10).1) ++ (36 :: hexL 4 (relN a z.val))) ++ (drsF 10).2 := by
          unfold form
          rw [show wantN 10 = 4 from rfl]; simp
        refine ⟨nm o.val ++ 32 :: form 10 (relN a z.val), 2, ?_, by omega, by simp, by omega, ?_⟩
        · show (code_Code_line.f (mkC o ⟨10, _⟩) (IntKind.wrap .u16 ((IntKind.wrap .u16 ((a : Int) + 2)) + (IntKind.wrap .u16 (IntKind.wrap .i8 (z.val : Int))))) ((4 : Nat) : Int)).bind _ = _
          rw [rel_code, line_ok o ⟨10, by omega⟩ _ 4 ho (by simp) (by simp) (rel_lt _ _) (.inr rfl), Option.bind_some, hfrm]
          rfl
        · rw [parse_form o ho 10 _ _ (by omega) (by omega) (rel_lt _ _) (by rw [hfN]; simp), bytesS_eq o 10 (by omega), bytes10 o b.val _ a hf (rel_lt _ _) ha, rel_far a ha z.val z.isLt]
          have hz := z.isLt
          have hw : IntKind.wrap .u8 ((z.val + (bif decide (z.val < 128) then 0 else 65280) : Nat) : Int) = (z.val : Int) := by
            rw [wrapU8m]
            by_cases h : z.val < 128
            · rw [decide_eq_true h, cond_true]; omega
            · rw [decide_eq_false h, cond_false]; omega
          have hc : (decide (128 ≤ z.val + (bif decide (z.val < 128) then 0 else 65280)) && decide (z.val + (bif decide (z.val < 128) then 0 else 65280) < 65408)) = false := by
            by_cases h : z.val < 128
            · rw [decide_eq_true h, cond_true]; simp; omega
            · rw [decide_eq_false h, cond_false]; simp; omega
          rw [hc, hw]; rfl
      have m10 : (((m.val : Nat) : Int) == 10) = false := by simp; omega
      by_cases h3 : szN m.val = 3
      · obtain ⟨y, rest, rfl⟩ : ∃ y t, rest = y :: t := by
          cases rest with
          | nil => rw [h3] at hlen; simp at hlen
          | cons z t => exact ⟨z, t, rfl⟩
        have hw4 : wantN m.val = 4 := by rw [want_of h10, if_pos h3]
        have hfrm : nm o.val ++ 32 :: form m.val (z.val + 256 * y.val) = (((nm o.val ++ [32]) ++ (drsF m.val).1) ++ (36 :: hexL 4 (z.val + 256 * y.val))) ++ (drsF m.val).2 := by
          unfold form
          rw [hw4]; simp
        refine ⟨nm o.val ++ 32 :: form m.val (z.val + 256 * y.val), 3, ?_, by omega, by simp, by omega, ?_⟩
        · have t3 : (((szN m.val : Nat) : Int) == 3) = true := by rw [h3]; rfl
          simp only [code_Text.j1, mkC, m10, cond_false, t3, cond_true, List.map_cons, lg1, lg2, Option.bind_some]
          have hl := line_ok o m (z.val + 256 * y.val) 4 ho hm h0 (by omega) (.inr rfl)
          rw [word z.val y.val z.isLt y.isLt]
          refine (congrArg (fun q => Option.bind q _) hl).trans ?_
          rw [Option.bind_some, hfrm, h3]
          try rfl
        · rw [parse_form o ho m.val _ _ hm h0 (by rw [hw4]; omega) (by rw [hfN]; simp), bytesS_eq o m.val m.isLt, bytes3 o m b.val _ _ hf hm h10 h3]
          have e1 : IntKind.wrap .u8 ((z.val + 256 * y.val : Nat) : Int) = (z.val : Int) := by rw [wrapU8m]; omega
          have e2 : IntKind.wrap .u8 (shr .u16 ((z.val + 256 * y.val : Nat) : Int) 8) = (y.val : Int) := by rw [shr8, wrapU8m]; omega
          rw [e1, e2]; rfl
      · have hw2 : wantN m.val = 2 := by rw [want_of h10, if_neg h3]
        have h2 : szN m.val = 2 := by
          have hmm : m.val = 1 ∨ m.val = 2 ∨ m.val = 3 ∨ m.val = 4 ∨ m.val = 5 ∨ m.val = 6 ∨ m.val = 7 ∨ m.val = 8 ∨ m.val = 9 ∨ m.val = 11 := by omega
          rcases hmm with h | h | h | h | h | h | h | h | h | h <;> rw [h] at h3 ⊢ <;> first | rfl | exact absurd rfl h3
        have hfrm : nm o.val ++ 32 :: form m.val z.val = (((nm o.val ++ [32]) ++ (drsF m.val).1) ++ (36 :: hexL 2 z.val)) ++ (drsF m.val).2 := by
          unfold form
          rw [hw2]; simp
        refine ⟨nm o.val ++ 32 :: form m.val z.val, 2, ?_, by omega, by simp, by omega, ?_⟩
        · have t3 : (((szN m.val : Nat) : Int) == 3) = false := by rw [h2]; rfl
          have t2 : (((szN m.val : Nat) : Int) == 2) = true := by rw [h2]; rfl
          simp only [code_Text.j1, mkC, m10, cond_false, t3, t2, cond_true, List.map_cons, lg1, Option.bind_some]
          have hl := line_ok o m z.val 2 ho hm h0 (by omega) (.inl rfl)
          rw [wrapU16 (i := (z.val : Int)) (by omega) (by omega)]
          refine (congrArg (fun q => Option.bind q _) hl).trans ?_
          rw [Option.bind_some, hfrm, h2]
          try rfl
        · rw [parse_form o ho m.val _ _ hm h0 (by rw [hw2]; omega) (by rw [hfN]; simp), bytesS_eq o m.val m.isLt, bytes2 o m b.val _ _ hf hm h10 h3]
          have e1 : IntKind.wrap .u8 (z.val : Int) = (z.val : Int) := wrapU8 z.val z.isLt
          rw [e1]; rfl
end Go.Proofs.YtpbcbfbichfioaaGreatDoor
