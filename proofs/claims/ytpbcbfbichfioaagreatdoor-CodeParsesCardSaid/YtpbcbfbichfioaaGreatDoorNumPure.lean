/- Plain laws of layer 9: numbers that are read. -/
import Derived.Test.YtpbcbfbichfioaaGreatDoorHexPure
namespace Go.Proofs.YtpbcbfbichfioaaGreatDoor
open Kot Go
set_option linter.unusedVariables false
set_option linter.unusedSimpArgs false
set_option maxRecDepth 100000

/-! ### digits that are read -/
def lw (z : Int) : Int := bor .u8 z 32
def dvI (z : Int) : Option Int := bif decide (48 ≤ z) && decide (z ≤ 57) then some (IntKind.wrap .u8 (z - 48)) else (bif decide (97 ≤ lw z) && decide (lw z ≤ 122) then some (IntKind.wrap .u8 ((IntKind.wrap .u8 (lw z - 97)) + 10)) else none)
theorem dv_lt : ∀ z : Fin 256, (match dvI (z.val : Int) with | some d => decide (0 ≤ d) && decide (d ≤ 35) | none => true) = true := by decide +kernel
theorem dv_up : ∀ d : Fin 16, dvI ((upC d.val).toNat : Int) = some (d.val : Int) := by decide +kernel
/-- the value, and the error's number -/
def puL : List UInt8 → Nat → Int × Int
  | [], n => ((n : Int), 0)
  | c :: l, n => match dvI (c.toNat : Int) with
    | none => (0, 2)
    | some d => if 16 ≤ d then (0, 2) else if 65535 < n * 16 + d.toNat then (65535, 1) else puL l (n * 16 + d.toNat)
theorem pu14 (s : List UInt8) (st1 : Bool) (n i : Nat) (d : Int) (K : Bool × Int × Int → Option (Int × Int)) (h0 : 0 ≤ d) (h35 : d ≤ 35) (hn : n ≤ 65535) (hi : i ≤ 1000) :
    internal_strconv_ParseUint.j14 (s, 16) 1152921504606846976 65535 (st1, (n : Int), (i : Int)) K d = if 16 ≤ d then some (0, 2) else if 65535 < n * 16 + d.toNat then some (65535, 1) else K (st1, ((n * 16 + d.toNat : Nat) : Int), ((i + 1 : Nat) : Int)) := by
  obtain ⟨m, rfl⟩ := Int.eq_ofNat_of_zero_le h0
  have e1 : IntKind.wrap .u8 16 = 16 := rfl
  have e2 : IntKind.wrap .u64 16 = 16 := rfl
  have e3 : IntKind.wrap .u64 ((n : Int) * 16) = ((n * 16 : Nat) : Int) := by rw [wrapU64 (by omega) (by omega)]; omega
  have e4 : IntKind.wrap .u64 (m : Int) = (m : Int) := wrapU64 (by omega) (by omega)
  have e5 : IntKind.wrap .u64 (((n * 16 : Nat) : Int) + (m : Int)) = ((n * 16 + m : Nat) : Int) := by rw [wrapU64 (by omega) (by omega)]; omega
  have c1 : decide ((1152921504606846976 : Int) ≤ (n : Int)) = false := by simp; omega
  have c2 : decide (((n * 16 + m : Nat) : Int) < ((n * 16 : Nat) : Int)) = false := by simp; omega
  simp only [internal_strconv_ParseUint.j14, e1, e2, e3, e4, e5, c1, c2, bnd, cond_false, wrapA i (by omega), Int.toNat_natCast]
  by_cases h16 : 16 ≤ (m : Int)
  · rw [decide_eq_true h16, if_pos h16]; rfl
  · rw [decide_eq_false h16, if_neg h16, cond_false]
    by_cases hr : 65535 < n * 16 + m
    · have : decide ((65535 : Int) < ((n * 16 + m : Nat) : Int)) = true := by simp; omega
      rw [this, if_pos hr]; rfl
    · have : decide ((65535 : Int) < ((n * 16 + m : Nat) : Int)) = false := by simp; omega
      rw [this, if_neg hr]; rfl
theorem pu_step (s : List UInt8) (n i : Nat) (c : UInt8) (K : Bool × Int × Int → Option (Int × Int)) (hn : n ≤ 65535) (hi : i ≤ 1000) :
    (bif (c.toNat : Int) == 95 then internal_strconv_ParseUint.j15 (s, 16) 1152921504606846976 65535 (false, (n : Int), (i : Int)) K (c.toNat : Int) ((16 : Int) == 0) else internal_strconv_ParseUint.j15 (s, 16) 1152921504606846976 65535 (false, (n : Int), (i : Int)) K (c.toNat : Int) false) =
      match dvI (c.toNat : Int) with
      | none => some (0, 2)
      | some d => if 16 ≤ d then some (0, 2) else if 65535 < n * 16 + d.toNat then some (65535, 1) else K (false, ((n * 16 + d.toNat : Nat) : Int), ((i + 1 : Nat) : Int)) := by
  have hb := dv_lt ⟨c.toNat, c.toNat_lt⟩
  simp only at hb
  have h0 : ((16 : Int) == 0) = false := rfl
  rw [h0]
  have hsame : ∀ (q : Bool) (X : Option (Int × Int)), (bif q then X else X) = X := fun q X => by cases q <;> rfl
  rw [hsame]
  simp only [internal_strconv_ParseUint.j15, cond_false]
  generalize hz : (c.toNat : Int) = z at *
  unfold dvI at *
  cases p1 : decide (48 ≤ z) with
  | true =>
    cases p2 : decide (z ≤ 57) with
    | true =>
      simp only [p1, p2, Bool.and_true, cond_true, Bool.and_eq_true, decide_eq_true_eq] at hb ⊢
      simp only [internal_strconv_ParseUint.j16, cond_true]
      exact pu14 s false n i _ K hb.1 hb.2 hn hi
    | false =>
      simp only [p1, p2, Bool.and_false, cond_false, cond_true] at hb ⊢
      simp only [internal_strconv_ParseUint.j16, cond_false, internal_strconv_lower.f, Option.bind_some, bnd]
      show (bif decide (97 ≤ lw z) then _ else _) = _
      cases p3 : decide (97 ≤ lw z) with
      | false => rfl
      | true =>
        simp only [cond_true]
        show (bif decide (lw z ≤ 122) then _ else _) = _
        cases p4 : decide (lw z ≤ 122) with
        | false => rfl
        | true =>
          simp only [p3, p4, Bool.and_true, cond_true, Bool.and_eq_true, decide_eq_true_eq] at hb ⊢
          exact pu14 s false n i _ K hb.1 hb.2 hn hi
  | false =>
    simp only [p1, Bool.false_and, cond_false] at hb ⊢
    simp only [internal_strconv_ParseUint.j16, cond_false, internal_strconv_lower.f, Option.bind_some, bnd]
    show (bif decide (97 ≤ lw z) then _ else _) = _
    cases p3 : decide (97 ≤ lw z) with
    | false => rfl
    | true =>
      simp only [cond_true]
      show (bif decide (lw z ≤ 122) then _ else _) = _
      cases p4 : decide (lw z ≤ 122) with
      | false => rfl
      | true =>
        simp only [p3, p4, Bool.and_true, cond_true, Bool.and_eq_true, decide_eq_true_eq] at hb ⊢
        exact pu14 s false n i _ K hb.1 hb.2 hn hi
theorem sbytes_get {s : List UInt8} {i : Nat} {c : UInt8} (h : s[i]? = some c) : (sbytes s)[i]? = some (c.toNat : Int) := by
  unfold sbytes; rw [List.getElem?_map, h]; rfl
theorem pu_loop (s : List UInt8) (hl : s.length ≤ 1000) : ∀ (d i f n : Nat), i + d = s.length → d < f → n ≤ 65535 →
    internal_strconv_ParseUint.l7 s 16 (s, 16) 1152921504606846976 65535 f (false, (n : Int), (i : Int)) = some (puL (s.drop i) n)
  | 0, i, f, n, h, hf, hn => by
    obtain ⟨f, rfl⟩ : ∃ f', f = f' + 1 := ⟨f - 1, by omega⟩
    have h1 : decide ((i : Int) < ((sbytes s).length : Int)) = false := by rw [sbytes_len]; simp; omega
    simp only [internal_strconv_ParseUint.l7, h1, cond_false]
    rw [List.drop_eq_nil_of_le (by omega)]; rfl
  | d + 1, i, f, n, h, hf, hn => by
    obtain ⟨f, rfl⟩ : ∃ f', f = f' + 1 := ⟨f - 1, by omega⟩
    have h1 : decide ((i : Int) < ((sbytes s).length : Int)) = true := by rw [sbytes_len]; simp; omega
    have hz : s[i]? = some (s[i]'(by omega)) := List.getElem?_eq_getElem _
    generalize s[i]'(by omega) = c at hz
    simp only [internal_strconv_ParseUint.l7, h1, cond_true, lget_ok (sbytes_get hz), Option.bind_some]
    rw [pu_step s n i c _ hn (by omega), drop_get hz]
    simp only [puL]
    cases hd : dvI (c.toNat : Int) with
    | none => rfl
    | some d' =>
      simp only
      by_cases h16 : 16 ≤ d'
      · rw [if_pos h16, if_pos h16]
      · rw [if_neg h16, if_neg h16]
        by_cases hr : 65535 < n * 16 + d'.toNat
        · rw [if_pos hr, if_pos hr]
        · rw [if_neg hr, if_neg hr]
          exact pu_loop s hl d (i + 1) f _ (by omega) (by omega) (by omega)
theorem pu_bound : ∀ (l : List UInt8) (n : Nat) (v e : Int), n ≤ 65535 → puL l n = (v, e) → ∃ m : Nat, v = (m : Int) ∧ m ≤ 65535 ∧ (e = 0 ∨ e = 1 ∨ e = 2) ∧ (e = 0 → m < (n + 1) * 16 ^ l.length)
  | [], n, v, e, hn, h => by
    simp only [puL, Prod.mk.injEq] at h
    exact ⟨n, h.1.symm, hn, .inl h.2.symm, fun _ => by simp⟩
  | c :: l, n, v, e, hn, h => by
    have hb := dv_lt ⟨c.toNat, c.toNat_lt⟩
    simp only [puL] at h hb
    cases hd : dvI (c.toNat : Int) with
    | none => rw [hd] at h; simp only [Prod.mk.injEq] at h; exact ⟨0, h.1.symm, by omega, .inr (.inr h.2.symm), fun h0 => by omega⟩
    | some d =>
      rw [hd] at h hb
      simp only [Bool.and_eq_true, decide_eq_true_eq] at h hb
      by_cases h16 : 16 ≤ d
      · rw [if_pos h16] at h; simp only [Prod.mk.injEq] at h; exact ⟨0, h.1.symm, by omega, .inr (.inr h.2.symm), fun h0 => by omega⟩
      · rw [if_neg h16] at h
        by_cases hr : 65535 < n * 16 + d.toNat
        · rw [if_pos hr] at h; simp only [Prod.mk.injEq] at h; exact ⟨65535, h.1.symm, by omega, .inr (.inl h.2.symm), fun h0 => by omega⟩
        · rw [if_neg hr] at h
          obtain ⟨m, h1, h2, h3, h4⟩ := pu_bound l _ v e (by omega) h
          refine ⟨m, h1, h2, h3, fun h0 => ?_⟩
          have h5 := h4 h0
          rw [List.length_cons, Nat.pow_succ]
          have h6 : (n * 16 + d.toNat + 1) * 16 ^ l.length ≤ ((n + 1) * 16) * 16 ^ l.length := Nat.mul_le_mul_right _ (by omega)
          have h7 : (n + 1) * (16 ^ l.length * 16) = ((n + 1) * 16) * 16 ^ l.length := by rw [Nat.mul_comm (16 ^ l.length) 16, Nat.mul_assoc]
          omega
theorem clone_ok (s : List UInt8) (hl : s.length ≤ 1000) : internal_stringslite_Clone.f s = some s := by
  cases s with
  | nil => rfl
  | cons c l =>
    have e1 : (((c :: l).length : Int) == 0) = false := by simp; omega
    have e2 : decide (((c :: l).length : Int) < 0) = false := by simp; omega
    have e3 : (!decide ((sbytes (c :: l)).length = (List.replicate (((c :: l).length : Int)).toNat (0 : Int)).length)) = false := by rw [sbytes_len]; simp
    have e4 : lget (sbytes (c :: l)) 0 = some (c.toNat : Int) := rfl
    have e5 : (sbytes (c :: l)).isEmpty = false := rfl
    simp only [internal_stringslite_Clone.f, e1, e2, e3, e4, e5, cond_false, Option.bind_some]
    rw [lim_ok (by simp at hl ⊢; omega), Option.bind_some, lim_ok (by rw [sbytes_len]; omega), Option.bind_some, bstr_sbytes]
theorem pu_f (s : List UInt8) (hl : s.length ≤ 1000) (hne : s ≠ []) : internal_strconv_ParseUint.f s 16 16 = some (puL s 0) := by
  have hloop := pu_loop s hl s.length 0 ((((sbytes s).length : Int) - 0 : Int).toNat + 2) 0 (by omega) (by rw [sbytes_len]; omega) (by omega)
  rw [List.drop_zero] at hloop
  have hq : (s == ([] : List UInt8)) = false := by simp [hne]
  have c1 : decide ((2 : Int) ≤ 16) = true := by decide
  have c2 : decide ((16 : Int) ≤ 36) = true := by decide
  have c3 : ((16 : Int) == 0) = false := by decide
  have c4 : decide ((16 : Int) < 0) = false := by decide
  have c5 : decide ((64 : Int) < 16) = false := by decide
  have c6 : ((16 : Int) == 10) = false := by decide
  have e0 : decide (IntKind.wrap .u64 16 < 0) = false := by decide
  have e1 : IntKind.wrap .u64 ((shl .u64 1 (IntKind.wrap .u64 16)) - 1) = 65535 := by decide +kernel
  simp only [internal_strconv_ParseUint.f, internal_strconv_ParseUint.j2, internal_strconv_ParseUint.j1, internal_strconv_ParseUint.j5, internal_strconv_ParseUint.j6, hq, c1, c2, c3, c4, c5, c6, e0, e1, beq_self_eq_true, cond_false, cond_true, bnd]
  exact hloop
theorem puint (s : List UInt8) (hl : s.length ≤ 1000) : ∃ v e : Int, internal_strconv_ParseUint.f s 16 16 = some (v, e) ∧ strconv_ParseUint.f s 16 16 = some (v, e == 0) ∧ (s ≠ [] → puL s 0 = (v, e)) ∧ (s = [] → e = 2) ∧ ∃ m : Nat, v = (m : Int) ∧ m ≤ 65535 ∧ (e = 0 ∨ e = 1 ∨ e = 2) ∧ (e = 0 → m < 16 ^ s.length) := by
  have fin : ∀ v e : Int, internal_strconv_ParseUint.f s 16 16 = some (v, e) → (e = 0 ∨ e = 1 ∨ e = 2) → strconv_ParseUint.f s 16 16 = some (v, e == 0) := fun v e h he => by
    simp only [strconv_ParseUint.f, h, Option.bind_some]
    rcases he with rfl | rfl | rfl
    · rfl
    · have : strconv_toError_e4.f ([80, 97, 114, 115, 101, 85, 105, 110, 116] : List UInt8) s 16 16 1 = some false := by
        show (strconv_rangeError.f _ s).bind _ = _
        simp only [strconv_rangeError.f, clone_ok s hl, Option.bind_some]
      show (strconv_toError_e4.f _ s 16 16 1).bind _ = _
      rw [this]; rfl
    · have : strconv_toError_e4.f ([80, 97, 114, 115, 101, 85, 105, 110, 116] : List UInt8) s 16 16 2 = some false := by
        show (strconv_syntaxError.f _ s).bind _ = _
        simp only [strconv_syntaxError.f, clone_ok s hl, Option.bind_some]
      show (strconv_toError_e4.f _ s 16 16 2).bind _ = _
      rw [this]; rfl
  cases hs : s with
  | nil =>
    subst hs
    refine ⟨0, 2, rfl, fin 0 2 rfl (.inr (.inr rfl)), fun h => absurd rfl h, fun _ => rfl, 0, rfl, by omega, .inr (.inr rfl), fun h => by omega⟩
  | cons c l =>
    rw [← hs]
    have hne : s ≠ [] := fun h => by rw [h] at hs; cases hs
    have hq : (s == ([] : List UInt8)) = false := by simp [hne]
    cases hp : puL s 0 with
    | mk v e =>
      have h1 : internal_strconv_ParseUint.f s 16 16 = some (v, e) := by
        exact (pu_f s hl hne).trans (by rw [hp])
      obtain ⟨m, a1, a2, a3, a4⟩ := pu_bound s 0 v e (by omega) hp
      exact ⟨v, e, h1, fin v e h1 a3, fun _ => rfl, fun h => absurd h hne, m, a1, a2, a3, fun h => by simpa using a4 h⟩
theorem pu_hex2 (n : Nat) (h : n < 256) : puL (hexL 2 n) 0 = ((n : Int), 0) := by
  have d1 := dv_up ⟨n / 16 % 16, Nat.mod_lt _ (by decide)⟩
  have d2 := dv_up ⟨n % 16, Nat.mod_lt _ (by decide)⟩
  simp only at d1 d2
  rw [hexL2']
  simp only [puL, d1, d2, Int.toNat_natCast]
  rw [if_neg (by omega), if_neg (by omega), if_neg (by omega), if_neg (by omega)]
  simp only [Prod.mk.injEq, and_true]; omega
theorem pu_hex4 (n : Nat) (h : n < 65536) : puL (hexL 4 n) 0 = ((n : Int), 0) := by
  have d1 := dv_up ⟨n / 16 / 16 / 16 % 16, Nat.mod_lt _ (by decide)⟩
  have d2 := dv_up ⟨n / 16 / 16 % 16, Nat.mod_lt _ (by decide)⟩
  have d3 := dv_up ⟨n / 16 % 16, Nat.mod_lt _ (by decide)⟩
  have d4 := dv_up ⟨n % 16, Nat.mod_lt _ (by decide)⟩
  simp only at d1 d2 d3 d4
  rw [hexL4']
  simp only [puL, d1, d2, d3, d4, Int.toNat_natCast]
  rw [if_neg (by omega), if_neg (by omega), if_neg (by omega), if_neg (by omega), if_neg (by omega), if_neg (by omega), if_neg (by omega), if_neg (by omega)]
  simp only [Prod.mk.injEq, and_true]; omega

/-! ### a sign, and its digits -/
theorem number_all (s : List UInt8) (hl : s.length ≤ 500) : ∃ (x k : Int) (b : Bool), code_number.f s = some (x, k, b) ∧ (b = true → ∃ d n : Nat, (d = 2 ∨ d = 4) ∧ n < 16 ^ d ∧ s = 36 :: hexL d n ∧ x = (n : Int) ∧ k = (d : Int)) := by
  cases s with
  | nil => exact ⟨0, 0, false, rfl, fun h => by cases h⟩
  | cons c l =>
    have hq : ((c :: l) == ([] : List UInt8)) = false := rfl
    simp only [code_number.f, hq, cond_false]
    have e0 : lget (c :: l) 0 = some c := rfl
    rw [e0, Option.bind_some]
    cases hc : ((c.toNat : Int) != 36) with
    | true => exact ⟨0, 0, false, rfl, fun h => by cases h⟩
    | false =>
      have hc' : c = 36 := by
        have : (c.toNat : Int) = 36 := by simpa using hc
        have h2 : c.toNat = 36 := by omega
        rw [← UInt8.ofNat_toNat (x := c), h2]; rfl
      subst hc'
      have hsub : lsub ((36 : UInt8) :: l) 1 ((((36 : UInt8) :: l).length : Nat) : Int) = some l := by
        have := lsub_ok (xs := (36 : UInt8) :: l) (i := 1) (j := ((36 : UInt8) :: l).length) (by simp) (Nat.le_refl _)
        rw [List.take_length] at this
        exact this
      have hk : IntKind.wrap .i64 ((((36 : UInt8) :: l).length : Int) - 1) = (l.length : Int) := by
        simp only [List.length_cons] at hl ⊢
        rw [wrapI (by omega) (by omega)]; omega
      obtain ⟨v, e, _, h2, h3, h4, m, rfl, h5, h6, h7⟩ := puint l (by simp at hl; omega)
      have hw : IntKind.wrap .u16 (m : Int) = (m : Int) := wrapU16 (by omega) (by omega)
      simp only [cond_false, code_number.j1, hsub, Option.bind_some, h2, hk, hw, bnd]
      cases he : (e == 0) with
      | false => exact ⟨m, l.length, false, rfl, fun h => by cases h⟩
      | true =>
        have he0 : e = 0 := by simpa using he
        simp only [cond_true]
        cases h3l : ((((36 : UInt8) :: l).length : Int) == 3) with
        | true =>
          have hll : l.length = 2 := by simp at h3l; omega
          have hm : m < 16 ^ 2 := by have := h7 he0; rw [hll] at this; exact this
          have hh : code_hex.f (m : Int) (l.length : Int) = some (36 :: hexL 2 m) := by rw [hll]; exact hex_ok m 2 (by omega) (by omega) (by omega) hm
          simp only [cond_true, hh, Option.bind_some]
          exact ⟨m, l.length, _, rfl, fun h => ⟨2, m, .inl rfl, hm, (by simpa using h : 36 :: hexL 2 m = 36 :: l).symm, rfl, by rw [hll]⟩⟩
        | false =>
          simp only [cond_false]
          cases h5l : ((((36 : UInt8) :: l).length : Int) == 5) with
          | true =>
            have hll : l.length = 4 := by simp at h5l; omega
            have hm : m < 16 ^ 4 := by have := h7 he0; rw [hll] at this; exact this
            have hh : code_hex.f (m : Int) (l.length : Int) = some (36 :: hexL 4 m) := by rw [hll]; exact hex_ok m 4 (by omega) (by omega) (by omega) hm
            simp only [cond_true, hh, Option.bind_some]
            exact ⟨m, l.length, _, rfl, fun h => ⟨4, m, .inr rfl, hm, (by simpa using h : 36 :: hexL 4 m = 36 :: l).symm, rfl, by rw [hll]⟩⟩
          | false => exact ⟨m, l.length, false, rfl, fun h => by cases h⟩
theorem number_ok (d n : Nat) (hd : d = 2 ∨ d = 4) (hn : n < 16 ^ d) : code_number.f (36 :: hexL d n) = some ((n : Int), (d : Int), true) := by
  have hb : n < 65536 := by rcases hd with rfl | rfl <;> simp at hn <;> omega
  have hlen := hexL_len d n
  have hq : ((36 :: hexL d n) == ([] : List UInt8)) = false := rfl
  have e0 : lget (36 :: hexL d n) 0 = some 36 := rfl
  have e1 : (((36 : UInt8).toNat : Int) != 36) = false := rfl
  have hsub : lsub (36 :: hexL d n) 1 (((36 :: hexL d n).length : Nat) : Int) = some (hexL d n) := by
    have := lsub_ok (xs := 36 :: hexL d n) (i := 1) (j := (36 :: hexL d n).length) (by simp) (Nat.le_refl _)
    rw [List.take_length] at this
    exact this
  have hk : IntKind.wrap .i64 (((36 :: hexL d n).length : Int) - 1) = (d : Int) := by
    rw [List.length_cons, hlen]
    rw [wrapI (by omega) (by omega)]; omega
  have hw : IntKind.wrap .u16 (n : Int) = (n : Int) := wrapU16 (by omega) (by omega)
  have hne : hexL d n ≠ [] := fun h => by rw [h] at hlen; simp at hlen; omega
  have hpu : puL (hexL d n) 0 = ((n : Int), 0) := by
    rcases hd with rfl | rfl
    · exact pu_hex2 n (by simpa using hn)
    · exact pu_hex4 n (by simpa using hn)
  obtain ⟨v, e, _, h2, h3, _⟩ := puint (hexL d n) (by omega)
  have h4 := h3 hne
  rw [hpu] at h4
  simp only [Prod.mk.injEq] at h4
  obtain ⟨rfl, rfl⟩ := h4
  have hh := hex_ok n d hb (by omega) (by omega) hn
  simp only [code_number.f, hq, cond_false, e0, Option.bind_some, e1, code_number.j1, hsub, h2, hk, hw, bnd, beq_self_eq_true, cond_true, hh]
  rcases hd with rfl | rfl
  · have : (((36 :: hexL 2 n).length : Int) == 3) = true := by rw [List.length_cons, hlen]; rfl
    simp only [this, cond_true]
  · have t1 : (((36 :: hexL 4 n).length : Int) == 3) = false := by rw [List.length_cons, hlen]; rfl
    have t2 : (((36 :: hexL 4 n).length : Int) == 5) = true := by rw [List.length_cons, hlen]; rfl
    simp only [t1, t2, cond_true, cond_false]
end Go.Proofs.YtpbcbfbichfioaaGreatDoor
