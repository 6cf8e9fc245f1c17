/- Plain laws of layer 9: the digits of a number, by the library and by the document. -/
import Derived.Test.YtpbcbfbichfioaaGreatDoorCodePure
namespace Go.Proofs.YtpbcbfbichfioaaGreatDoor
open Kot Go
set_option linter.unusedVariables false
set_option maxRecDepth 100000

theorem lim_ok {n : Nat} (h : n ≤ 1073741824) : lim n = some () := by unfold lim; rw [if_pos h]
theorem lget_ok {τ : Type} {xs : List τ} {i : Nat} {z : τ} (h : xs[i]? = some z) : lget xs (i : Int) = some z := by simp [lget, h]
theorem lsub_ok {τ : Type} {xs : List τ} {i j : Nat} (h1 : i ≤ j) (h2 : j ≤ xs.length) : lsub xs (i : Int) (j : Int) = some ((xs.take j).drop i) := by
  unfold lsub
  rw [if_pos ⟨by omega, by omega, by omega⟩]
  simp
theorem wrapU64 {i : Int} (h1 : 0 ≤ i) (h2 : i < 18446744073709551616) : IntKind.wrap .u64 i = i := by
  have e1 : (2 : Int) ^ 64 = 18446744073709551616 := rfl
  have e2 : (2 : Int) ^ (64 - 1) = 9223372036854775808 := rfl
  simp only [IntKind.wrap, IntKind.bits, IntKind.signed, Bool.false_and, e1, e2]
  have : i % 18446744073709551616 = i := Int.emod_eq_of_lt h1 h2
  simp [this]
theorem wrapU16 {i : Int} (h1 : 0 ≤ i) (h2 : i < 65536) : IntKind.wrap .u16 i = i := by
  have e1 : (2 : Int) ^ 16 = 65536 := rfl
  simp only [IntKind.wrap, IntKind.bits, IntKind.signed, Bool.false_and, e1]
  have : i % 65536 = i := Int.emod_eq_of_lt h1 h2
  simp [this]
theorem wrapU16m (i : Int) : IntKind.wrap .u16 i = i % 65536 := by
  have e1 : (2 : Int) ^ 16 = 65536 := rfl
  simp only [IntKind.wrap, IntKind.bits, IntKind.signed, Bool.false_and, e1]
  simp
theorem wrapP (i : Nat) (h : i ≤ 100000) : IntKind.wrap .i64 ((i : Int) - 1) = (i : Int) - 1 := wrapI (by omega) (by omega)
theorem wrapA (i : Nat) (h : i ≤ 100000) : IntKind.wrap .i64 ((i : Int) + 1) = ((i + 1 : Nat) : Int) := by rw [wrapI (by omega) (by omega)]; rfl

def lowC (d : Nat) : UInt8 := csf340c0.getD d 0
def upT : List UInt8 := [48, 49, 50, 51, 52, 53, 54, 55, 56, 57, 65, 66, 67, 68, 69, 70]
def upC (d : Nat) : UInt8 := upT.getD d 0
def up (c : UInt8) : UInt8 := bif decide (97 ≤ c.toNat) && decide (c.toNat ≤ 122) then UInt8.ofNat (c.toNat - 32) else c
theorem up_low : ∀ d : Fin 16, up (lowC d.val) = upC d.val := by decide +kernel
theorem low_get : ∀ d : Fin 16, lget csf340c0 (d.val : Int) = some (lowC d.val) := by decide +kernel
theorem low_asc : ∀ d : Fin 16, (lowC d.val).toNat < 128 := by decide +kernel

/-! ### the library's digits -/
def digL : Nat → Nat → List UInt8
  | 0, u => [lowC u]
  | k + 1, u => if u < 16 then [lowC u] else digL k (u / 16) ++ [lowC (u % 16)]
theorem band15 (u : Nat) (h : u < 18446744073709551616) : band .u64 (u : Int) 15 = ((u % 16 : Nat) : Int) := by
  have h1 : (BitVec.ofInt 64 (u : Int) &&& BitVec.ofInt 64 15).toNat = u % 16 := by
    rw [show BitVec.ofInt 64 (u : Int) = BitVec.ofNat 64 u from BitVec.ofInt_natCast 64 u, show BitVec.ofInt 64 15 = BitVec.ofNat 64 15 from rfl, BitVec.toNat_and, BitVec.toNat_ofNat, BitVec.toNat_ofNat]
    rw [Nat.mod_eq_of_lt (by simpa using h), show 15 % 2 ^ 64 = 2 ^ 4 - 1 from rfl, Nat.and_two_pow_sub_one_eq_mod]
  show IntKind.wrap .u64 (((BitVec.ofInt 64 (u : Int) &&& BitVec.ofInt 64 15).toNat : Nat) : Int) = _
  rw [h1]
  exact wrapU64 (by omega) (by omega)
theorem shr4 (u : Nat) : shr .u64 (u : Int) 4 = ((u / 16 : Nat) : Int) := by
  show Int.fdiv (u : Int) (2 ^ (min (4 : Int).toNat 64)) = _
  have : (2 : Int) ^ (min (4 : Int).toNat 64) = 16 := rfl
  rw [this, Int.fdiv_eq_ediv_of_nonneg _ (by decide)]
  rfl
theorem awin_cons (arr : Nat → Int) (i : Nat) (z : Int) (h1 : 1 ≤ i) (h2 : i ≤ 65) : awin (aset arr (i - 1) z) (i - 1) 65 = z :: awin arr i 65 := by
  unfold awin
  have e : 65 - (i - 1) = (65 - i) + 1 := by omega
  rw [e, List.range_succ_eq_map, List.map_cons, List.map_map]
  congr 1
  · simp [aset]
  · apply List.map_congr_left
    intro j _
    simp only [Function.comp, aset]
    have : Nat.beq (i - 1 + j.succ) (i - 1) = false := by
      cases hb : Nat.beq (i - 1 + j.succ) (i - 1) with
      | false => rfl
      | true => have := Nat.eq_of_beq_eq_true hb; omega
    rw [this, cond_false]
    congr 1; omega
theorem fbits_end (arr : Nat → Int) (i : Nat) (h1 : 1 ≤ i) (h2 : i ≤ 65) (c : UInt8) : internal_strconv_formatBits.j3 false false ((aset arr (IntKind.wrap .i64 ((i : Int) - 1)).toNat (c.toNat : Int)), IntKind.wrap .i64 ((i : Int) - 1)) = some ([], bstr ((c.toNat : Int) :: awin arr i 65)) := by
  rw [wrapP i (by omega)]
  have e1 : ((i : Int) - 1).toNat = i - 1 := by omega
  have e2 : (!(decide (0 ≤ (i : Int) - 1) && decide ((i : Int) - 1 ≤ 65) && decide ((65 : Int) ≤ 65))) = false := by
    have a1 : decide (0 ≤ (i : Int) - 1) = true := by simp; omega
    have a2 : decide ((i : Int) - 1 ≤ 65) = true := by simp; omega
    rw [a1, a2]; rfl
  simp only [internal_strconv_formatBits.j3, cond_false, e2, e1]
  rw [show ((65 : Int)).toNat = 65 from rfl, awin_cons arr i _ h1 h2]
theorem inA_ok (i : Nat) (h1 : 1 ≤ i) (h2 : i ≤ 65) : (!inA (IntKind.wrap .i64 ((i : Int) - 1)) 65) = false := by
  rw [wrapP i (by omega)]
  have a1 : decide (0 ≤ (i : Int) - 1) = true := by simp; omega
  have a2 : decide ((i : Int) - 1 < ((65 : Nat) : Int)) = true := by simp; omega
  unfold inA
  rw [a1, a2]; rfl
theorem fbits_last (arr : Nat → Int) (u i f : Nat) (hu : u < 16) (h1 : 1 ≤ i) (h2 : i ≤ 65) : internal_strconv_formatBits.l4 16 false false 4 15 (f + 1) (arr, (u : Int), (i : Int)) = some ([], bstr (((lowC u).toNat : Int) :: awin arr i 65)) := by
  have h3 : decide (IntKind.wrap .u64 16 ≤ (u : Int)) = false := by
    rw [show IntKind.wrap .u64 16 = 16 from rfl]; simp; omega
  have h4 : lget csf340c0 (u : Int) = some (lowC u) := low_get ⟨u, hu⟩
  simp only [internal_strconv_formatBits.l4, h3, cond_false, h4, Option.bind_some, inA_ok i h1 h2]
  exact fbits_end arr i h1 h2 (lowC u)
theorem fbits : ∀ (k u i f : Nat) (arr : Nat → Int), u < 16 ^ (k + 1) → u < 65536 → k + 1 ≤ i → i ≤ 65 → k < f →
    internal_strconv_formatBits.l4 16 false false 4 15 f (arr, (u : Int), (i : Int)) = some ([], bstr ((digL k u).map (fun c => (c.toNat : Int)) ++ awin arr i 65))
  | 0, u, i, f, arr, h, hb, h1, h2, hf => by
    obtain ⟨f, rfl⟩ : ∃ f', f = f' + 1 := ⟨f - 1, by omega⟩
    exact fbits_last arr u i f (by simpa using h) h1 h2
  | k + 1, u, i, f, arr, h, hb, h1, h2, hf => by
    obtain ⟨f, rfl⟩ : ∃ f', f = f' + 1 := ⟨f - 1, by omega⟩
    by_cases hu : u < 16
    · simp only [digL, if_pos hu]
      exact fbits_last arr u i f hu (by omega) h2
    · have h3 : decide (IntKind.wrap .u64 16 ≤ (u : Int)) = true := by
        rw [show IntKind.wrap .u64 16 = 16 from rfl]; simp; omega
      have h4 : lget csf340c0 ((u % 16 : Nat) : Int) = some (lowC (u % 16)) := low_get ⟨u % 16, Nat.mod_lt _ (by decide)⟩
      have h5 : decide (IntKind.wrap .u64 4 < 0) = false := by decide
      simp only [internal_strconv_formatBits.l4, h3, cond_true, cond_false, band15 u (by omega), h4, Option.bind_some, inA_ok i (by omega) h2, h5, bnd]
      rw [show IntKind.wrap .u64 4 = 4 from rfl, shr4, wrapP i (by omega)]
      have e1 : ((i : Int) - 1).toNat = i - 1 := by omega
      have e2 : ((i : Int) - 1) = ((i - 1 : Nat) : Int) := by omega
      rw [e1, e2, fbits k (u / 16) (i - 1) f _ (by rw [Nat.pow_succ] at h; omega) (by omega) (by omega) (by omega) (by omega), awin_cons arr i _ (by omega) h2]
      simp only [digL, if_neg hu, List.map_append, List.map_cons, List.map_nil, List.append_assoc, List.cons_append, List.nil_append]
theorem bstr_map (l : List UInt8) : bstr (l.map fun c => (c.toNat : Int)) = l := by
  induction l with
  | nil => rfl
  | cons c l ih => simp only [bstr, List.map_cons] at *; rw [ih]; simp
theorem fuint_k (k u : Nat) (h : u < 16 ^ (k + 1)) (hb : u < 65536) (hk : k < 5) (hf : k < ((u : Int) - (IntKind.wrap .u64 16) : Int).toNat + 2) : strconv_FormatUint.f (u : Int) 16 = some (digL k u) := by
  have h1 := fbits k u 65 (((u : Int) - (IntKind.wrap .u64 16) : Int).toNat + 2) (fun _ => (0 : Int)) h hb (by omega) (by omega) hf
  have h2 : internal_strconv_formatBits.f [] (u : Int) 16 false false = some ([], digL k u) := by
    have t1 : math_bits_TrailingZeros.f (IntKind.wrap .u64 16) = some 4 := by decide +kernel
    have t2 : internal_strconv_isPowerOfTwo.f 16 = some true := by decide +kernel
    have t3 : IntKind.wrap .u64 (IntKind.wrap .u64 16 - 1) = 15 := by decide
    have d1 : decide ((16 : Int) < 2) = false := by decide
    have d2 : ((16 : Int) == 10) = false := by decide
    have d3 : decide ((36 : Int) < 16) = false := by decide
    simp only [internal_strconv_formatBits.f, internal_strconv_formatBits.j1, internal_strconv_formatBits.j2, d1, d2, d3, cond_false, cond_true, t1, t2, t3, Option.bind_some, bnd]
    refine h1.trans ?_
    have : awin (fun _ => (0 : Int)) 65 65 = [] := rfl
    rw [this, List.append_nil, bstr_map]
  have d2 : ((16 : Int) == 10) = false := by decide
  simp only [strconv_FormatUint.f, internal_strconv_FormatUint.f, d2, cond_false, h2, Option.bind_some]
theorem fuint (u : Nat) (hb : u < 65536) : ∃ k, k < 4 ∧ u < 16 ^ (k + 1) ∧ (∀ d, 1 ≤ d → u < 16 ^ d → k < d) ∧ strconv_FormatUint.f (u : Int) 16 = some (digL k u) := by
  have e : IntKind.wrap .u64 16 = 16 := rfl
  have q : ∀ k, k < 4 → u < 16 ^ (k + 1) → (k = 0 ∨ 16 ^ k ≤ u) → ∃ k, k < 4 ∧ u < 16 ^ (k + 1) ∧ (∀ d, 1 ≤ d → u < 16 ^ d → k < d) ∧ strconv_FormatUint.f (u : Int) 16 = some (digL k u) := fun k hk h1 h2 => by
    refine ⟨k, hk, h1, fun d hd1 hd2 => ?_, fuint_k k u h1 hb (by omega) ?_⟩
    · rcases h2 with rfl | h2
      · exact hd1
      · rcases Nat.lt_or_ge k d with h | h
        · exact h
        · exact absurd (Nat.le_trans (Nat.pow_le_pow_right (by decide) h) h2) (by omega)
    · rw [e]
      rcases h2 with rfl | h2
      · omega
      · have : k = 0 ∨ k = 1 ∨ k = 2 ∨ k = 3 := by omega
        rcases this with rfl | rfl | rfl | rfl <;> simp at h2 <;> omega
  by_cases h1 : u < 16
  · exact q 0 (by decide) (by simpa using h1) (.inl rfl)
  · by_cases h2 : u < 256
    · exact q 1 (by decide) (by simpa using h2) (.inr (by simp; omega))
    · by_cases h3 : u < 4096
      · exact q 2 (by decide) (by simpa using h3) (.inr (by simp; omega))
      · exact q 3 (by decide) (by simpa using hb) (.inr (by simp; omega))

/-! ### upper letters -/
def isLow (c : UInt8) : Bool := decide (97 ≤ c.toNat) && decide (c.toNat ≤ 122)
theorem up_not {c : UInt8} (h : isLow c = false) : up c = c := by unfold up; unfold isLow at h; rw [h]; rfl
theorem up_all {l : List UInt8} (h : l.any isLow = false) : l.map up = l := by
  induction l with
  | nil => rfl
  | cons c l ih =>
    simp only [List.any_cons, Bool.or_eq_false_iff] at h
    rw [List.map_cons, up_not h.1, ih h.2]
theorem sbytes_app (a b : List UInt8) : sbytes (a ++ b) = sbytes a ++ sbytes b := by simp [sbytes]
theorem bstr_sbytes (l : List UInt8) : bstr (sbytes l) = l := bstr_map l
theorem sbytes_len (l : List UInt8) : (sbytes l).length = l.length := by simp [sbytes]
theorem drop_get {τ : Type} {l : List τ} {i : Nat} {z : τ} (h : l[i]? = some z) : l.drop i = z :: l.drop (i + 1) := by
  have hi := (List.getElem?_eq_some_iff.1 h).1
  rw [List.drop_eq_getElem_cons hi]
  congr 1
  rw [List.getElem?_eq_getElem hi] at h
  exact Option.some.inj h
theorem take_get {τ : Type} {l : List τ} {i : Nat} {z : τ} (h : l[i]? = some z) : l.take (i + 1) = l.take i ++ [z] := by
  rw [List.take_add_one, h]; rfl
theorem up_byte : ∀ c : Fin 256, isLow (UInt8.ofNat c.val) = true → IntKind.wrap .u8 (((UInt8.ofNat c.val).toNat : Int) - 32) = ((up (UInt8.ofNat c.val)).toNat : Int) := by decide +kernel
theorem up_byte' (c : UInt8) (h : isLow c = true) : IntKind.wrap .u8 ((c.toNat : Int) - 32) = ((up c).toNat : Int) := by
  have := up_byte ⟨c.toNat, c.toNat_lt⟩
  simp only [UInt8.ofNat_toNat] at this
  exact this h
theorem upper_find (s : List UInt8) (hl : s.length ≤ 1000) (ha : ∀ c ∈ s, c.toNat < 128) : ∀ (d i f : Nat) (b : Bool), i + d = s.length → d < f → strings_ToUpper.l2 s f (b, (i : Int)) = strings_ToUpper.j1 s (true, b || (s.drop i).any isLow)
  | 0, i, f, b, h, hf => by
    obtain ⟨f, rfl⟩ : ∃ f', f = f' + 1 := ⟨f - 1, by omega⟩
    have h1 : decide ((i : Int) < (s.length : Int)) = false := by simp; omega
    simp only [strings_ToUpper.l2, h1, cond_false]
    rw [List.drop_eq_nil_of_le (by omega)]
    simp
  | d + 1, i, f, b, h, hf => by
    obtain ⟨f, rfl⟩ : ∃ f', f = f' + 1 := ⟨f - 1, by omega⟩
    have h1 : decide ((i : Int) < (s.length : Int)) = true := by simp; omega
    have hz : s[i]? = some (s[i]'(by omega)) := List.getElem?_eq_getElem _
    generalize hc : s[i]'(by omega) = c at hz
    have hac : decide (128 ≤ (c.toNat : Int)) = false := by
      have := ha c (List.mem_of_getElem? hz)
      simp; omega
    have ih := fun b => upper_find s hl ha d (i + 1) f b (by omega) (by omega)
    simp only [strings_ToUpper.l2, h1, cond_true, lget_ok hz, Option.bind_some, hac, cond_false, wrapA i (by omega)]
    rw [drop_get hz, List.any_cons]
    cases b with
    | true => simp only [cond_true, ih, Bool.true_or]
    | false =>
      simp only [cond_false]
      have e1 : isLow c = (decide (97 ≤ (c.toNat : Int)) && decide ((c.toNat : Int) ≤ 122)) := by
        unfold isLow
        congr 1 <;> simp [decide_eq_decide] <;> omega
      cases hd : decide (97 ≤ (c.toNat : Int)) with
      | true => simp only [cond_true, ih]; rw [e1, hd, Bool.true_and, Bool.false_or]
      | false => simp only [cond_false, ih]; rw [e1, hd, Bool.false_and]; simp
theorem up_asc {l : List UInt8} : (l.map up).length = l.length := by simp
theorem upper_build (s : List UInt8) (hl : s.length ≤ 1000) (hne : s ≠ []) : ∀ (d i pos f : Nat) (buf : List Int), i + d = s.length → pos ≤ i → d < f → buf = sbytes ((s.take pos).map up) → ((s.take i).drop pos).any isLow = false →
    strings_ToUpper.l3 s f (buf, (pos : Int), (i : Int)) = some (s.map up)
  | 0, i, pos, f, buf, h, hp, hf, hb, hn => by
    obtain ⟨f, rfl⟩ : ∃ f', f = f' + 1 := ⟨f - 1, by omega⟩
    have h1 : decide ((i : Int) < (s.length : Int)) = false := by simp; omega
    simp only [strings_ToUpper.l3, h1, cond_false]
    have hi : i = s.length := by omega
    subst hi
    rw [List.take_length] at hn
    have hcut : (s.take pos).map up ++ s.drop pos = s.map up := by
      rw [← up_all hn, ← List.map_append, List.take_append_drop]
    have hlen0 : s.length ≠ 0 := fun h0 => hne (List.length_eq_zero_iff.1 h0)
    by_cases hps : pos < s.length
    · have h2 : decide ((pos : Int) < (s.length : Int)) = true := by simp; omega
      have hsub := lsub_ok (xs := s) (i := pos) (j := s.length) (by omega) (Nat.le_refl _)
      rw [List.take_length] at hsub
      have e2 : sbytes ((s.take pos).map up) ++ sbytes (s.drop pos) = sbytes (s.map up) := by rw [← sbytes_app, hcut]
      have h3 : (sbytes (s.map up)).isEmpty = false := by
        cases hq : sbytes (s.map up) with
        | nil => have := congrArg List.length hq; rw [sbytes_len] at this; simp at this; exact absurd this hne
        | cons => rfl
      simp only [h2, cond_true, hsub, Option.bind_some, strings_Builder_WriteString_d0s0O.f, strings_Builder_copyCheck_d0s0O.f, hb]
      rw [lim_ok (by rw [sbytes_len, sbytes_len]; simp; omega), Option.bind_some, Option.bind_some]
      simp only [strings_Builder_String_d0s0O.f, e2, h3, cond_false]
      rw [lim_ok (by rw [sbytes_len]; simp; omega), Option.bind_some, Option.bind_some, bstr_sbytes]
    · have h2 : decide ((pos : Int) < (s.length : Int)) = false := by simp; omega
      have hpe : pos = s.length := by omega
      subst hpe
      rw [List.take_length] at hb
      have h3 : (sbytes (s.map up)).isEmpty = false := by
        cases hq : sbytes (s.map up) with
        | nil => have := congrArg List.length hq; rw [sbytes_len] at this; simp at this; exact absurd this hne
        | cons => rfl
      simp only [h2, cond_false, strings_Builder_String_d0s0O.f, hb, h3]
      rw [lim_ok (by rw [sbytes_len]; simp; omega), Option.bind_some, Option.bind_some, bstr_sbytes]
  | d + 1, i, pos, f, buf, h, hp, hf, hb, hn => by
    obtain ⟨f, rfl⟩ : ∃ f', f = f' + 1 := ⟨f - 1, by omega⟩
    have h1 : decide ((i : Int) < (s.length : Int)) = true := by simp; omega
    have hz : s[i]? = some (s[i]'(by omega)) := List.getElem?_eq_getElem _
    generalize hc : s[i]'(by omega) = c at hz
    have e1 : isLow c = (decide (97 ≤ (c.toNat : Int)) && decide ((c.toNat : Int) ≤ 122)) := by
      unfold isLow
      congr 1 <;> simp [decide_eq_decide] <;> omega
    have key : ∀ q, q = isLow c → strings_ToUpper.j6 s (buf, (pos : Int), (i : Int)) (strings_ToUpper.l3 s f) c q = some (s.map up) := fun q hq => by
      subst hq
      cases hlc : isLow c with
      | false =>
        simp only [strings_ToUpper.j6, cond_false, wrapA i (by omega)]
        refine upper_build s hl hne d (i + 1) pos f buf (by omega) (by omega) (by omega) hb ?_
        rw [take_get hz, List.drop_append_of_le_length (by simp; omega), List.any_append, hn]
        simp [hlc]
      | true =>
        have hx := up_byte' c hlc
        have hfin : ((s.take pos).map up ++ (s.take i).drop pos) ++ [up c] = (s.take (i + 1)).map up := by
          rw [take_get hz, List.map_append]
          congr 1
          rw [← up_all hn, ← List.map_append]
          congr 1
          have : (s.take i).take pos = s.take pos := by rw [List.take_take]; congr 1; omega
          rw [← this, List.take_append_drop]
        simp only [strings_ToUpper.j6, cond_true, bnd, hx]
        have hgo : ∀ b2, b2 = sbytes ((s.take (i + 1)).map up) → strings_ToUpper.l3 s f (b2, IntKind.wrap .i64 ((i : Int) + 1), IntKind.wrap .i64 ((i : Int) + 1)) = some (s.map up) := fun b2 hb2 => by
          rw [wrapA i (by omega)]
          refine upper_build s hl hne d (i + 1) (i + 1) f b2 (by omega) (Nat.le_refl _) (by omega) hb2 ?_
          rw [List.drop_eq_nil_of_le (by simp; omega)]; rfl
        have one : sbytes [up c] = [((up c).toNat : Int)] := rfl
        by_cases hpi : pos < i
        · have h2 : decide ((pos : Int) < (i : Int)) = true := by simp; omega
          simp only [h2, cond_true, lsub_ok (xs := s) (i := pos) (j := i) (by omega) (by omega), Option.bind_some, strings_Builder_WriteString_d0s0O.f, strings_Builder_WriteByte_d0s0O.f, strings_Builder_copyCheck_d0s0O.f, hb]
          rw [lim_ok (by rw [sbytes_len, sbytes_len]; simp; omega), Option.bind_some, Option.bind_some, lim_ok (by simp [sbytes_len]; omega), Option.bind_some, Option.bind_some]
          apply hgo
          rw [← hfin, sbytes_app, sbytes_app, one]
        · have h2 : decide ((pos : Int) < (i : Int)) = false := by simp; omega
          have hpe : pos = i := by omega
          subst hpe
          simp only [h2, cond_false, strings_Builder_WriteByte_d0s0O.f, strings_Builder_copyCheck_d0s0O.f, hb, Option.bind_some]
          rw [lim_ok (by simp [sbytes_len]; omega), Option.bind_some, Option.bind_some]
          apply hgo
          rw [← hfin, sbytes_app, sbytes_app, one]
          have : (s.take pos).drop pos = [] := List.drop_eq_nil_of_le (by simp; omega)
          rw [this]; simp [sbytes]
    simp only [strings_ToUpper.l3, h1, cond_true, lget_ok hz, Option.bind_some]
    cases hd : decide (97 ≤ (c.toNat : Int)) with
    | true => simp only [cond_true]; exact key _ (by rw [e1, hd, Bool.true_and])
    | false => simp only [cond_false]; exact key _ (by rw [e1, hd, Bool.false_and])
theorem upper (s : List UInt8) (hl : s.length ≤ 1000) (ha : ∀ c ∈ s, c.toNat < 128) : strings_ToUpper.f s = some (s.map up) := by
  have h1 := upper_find s hl ha s.length 0 (((s.length : Int) - 0 : Int).toNat + 2) false (by omega) (by omega)
  refine h1.trans ?_
  rw [List.drop_zero, Bool.false_or]
  cases hq : s.any isLow with
  | false =>
    simp only [strings_ToUpper.j1, cond_true, Bool.not_false]
    rw [up_all hq]
  | true =>
    have hne : s ≠ [] := fun h => by rw [h] at hq; cases hq
    have hpos : 0 < s.length := List.length_pos_iff.2 hne
    have e0 : decide ((s.length : Int) < 0) = false := by simp
    have e1 : decide (IntKind.wrap .i64 (0 - 0) < (s.length : Int)) = true := by
      rw [show IntKind.wrap .i64 (0 - 0) = 0 from rfl]; simp; omega
    have e3 : IntKind.wrap .i64 (IntKind.wrap .i64 (2 * 0) + (s.length : Int)) = (s.length : Int) := by
      rw [show IntKind.wrap .i64 (2 * 0) = 0 from rfl, Int.zero_add, wrapI (by omega) (by omega)]
    simp only [strings_ToUpper.j1, cond_true, Bool.not_true, cond_false, strings_Builder_Grow_d0nN.f, strings_Builder_copyCheck_d0nN.f, Option.bind_some, e0, strings_Builder_Grow_d0nN.j1, e1, strings_Builder_grow_d0s0N.f, e3]
    rw [lim_ok (by simp; omega), Option.bind_some, Option.bind_some, Option.bind_some]
    exact upper_build s hl hne s.length 0 0 (((s.length : Int) - 0 : Int).toNat + 2) [] (by omega) (by omega) (by omega) rfl rfl

/-! ### digits, all of them -/
def hexL : Nat → Nat → List UInt8
  | 0, _ => []
  | d + 1, n => hexL d (n / 16) ++ [upC (n % 16)]
theorem hexL_len : ∀ d n, (hexL d n).length = d
  | 0, _ => rfl
  | d + 1, n => by simp [hexL, hexL_len d]
theorem hexL_zero : ∀ d, hexL d 0 = List.replicate d 48
  | 0 => rfl
  | d + 1 => by
    rw [hexL, show 0 / 16 = 0 from rfl, hexL_zero d, List.replicate_succ']
    rfl
theorem hexL2' (n : Nat) : hexL 2 n = [upC (n / 16 % 16), upC (n % 16)] := by simp [hexL]
theorem hexL4' (n : Nat) : hexL 4 n = [upC (n / 16 / 16 / 16 % 16), upC (n / 16 / 16 % 16), upC (n / 16 % 16), upC (n % 16)] := by simp [hexL]
theorem hex_pad : ∀ (k d u : Nat), u < 16 ^ (k + 1) → k < d → List.replicate (d - (digL k u).length) 48 ++ (digL k u).map up = hexL d u ∧ 1 ≤ (digL k u).length ∧ (digL k u).length ≤ k + 1 := by
  have small : ∀ d u, u < 16 → 1 ≤ d → List.replicate (d - [lowC u].length) 48 ++ [lowC u].map up = hexL d u := fun d u hu hd => by
    obtain ⟨d, rfl⟩ : ∃ d', d = d' + 1 := ⟨d - 1, by omega⟩
    have h0 : u / 16 = 0 := by omega
    have h1 : u % 16 = u := by omega
    have h2 : up (lowC u) = upC u := up_low ⟨u, hu⟩
    rw [hexL, h0, h1, hexL_zero]
    simp [h2]
  intro k
  induction k with
  | zero => intro d u h hd; exact ⟨small d u (by simpa using h) (by omega), by simp [digL], by simp [digL]⟩
  | succ k ih =>
    intro d u h hd
    by_cases hu : u < 16
    · simp only [digL, if_pos hu]
      exact ⟨small d u hu (by omega), by simp, by simp⟩
    · obtain ⟨d, rfl⟩ : ∃ d', d = d' + 1 := ⟨d - 1, by omega⟩
      have h1 := ih d (u / 16) (by rw [Nat.pow_succ] at h; omega) (by omega)
      have h2 : up (lowC (u % 16)) = upC (u % 16) := up_low ⟨u % 16, Nat.mod_lt _ (by decide)⟩
      simp only [digL, if_neg hu, List.length_append, List.map_append, List.length_cons, List.length_nil]
      refine ⟨?_, by omega, by omega⟩
      rw [hexL, ← h1.1]
      simp [h2]
theorem dig_asc : ∀ (k u : Nat), u < 16 ^ (k + 1) → ∀ c ∈ digL k u, c.toNat < 128 := by
  intro k
  induction k with
  | zero =>
    intro u h c hc
    simp only [digL, List.mem_singleton] at hc
    subst hc
    exact low_asc ⟨u, by simpa using h⟩
  | succ k ih =>
    intro u h c hc
    by_cases hu : u < 16
    · simp only [digL, if_pos hu, List.mem_singleton] at hc
      subst hc
      exact low_asc ⟨u, hu⟩
    · simp only [digL, if_neg hu, List.mem_append, List.mem_singleton] at hc
      rcases hc with hc | rfl
      · exact ih (u / 16) (by rw [Nat.pow_succ] at h; omega) c hc
      · exact low_asc ⟨u % 16, Nat.mod_lt _ (by decide)⟩
theorem rep0 : ∀ k : Fin 5, strings_Repeat.f ([48] : List UInt8) (k.val : Int) = some (List.replicate k.val 48) := by decide +kernel
theorem hex_ok (u d : Nat) (hb : u < 65536) (hd : 1 ≤ d) (hd4 : d ≤ 4) (h : u < 16 ^ d) : code_hex.f (u : Int) (d : Int) = some (36 :: hexL d u) := by
  obtain ⟨k, hk, hu, hmin, hf⟩ := fuint u hb
  obtain ⟨hp, hl1, hl2⟩ := hex_pad k d u hu (hmin d hd h)
  have hkd := hmin d hd h
  have hup := upper (digL k u) (by omega) (dig_asc k u hu)
  have hr := rep0 ⟨d - (digL k u).length, by omega⟩
  have e1 : IntKind.wrap .i64 ((d : Int) - (((digL k u).map up).length : Int)) = ((d - (digL k u).length : Nat) : Int) := by
    rw [List.length_map, wrapI (by omega) (by omega)]; omega
  simp only [code_hex.f, wrapU64 (i := (u : Int)) (by omega) (by omega), hf, Option.bind_some, hup, e1]
  rw [hr, Option.bind_some, lim_ok (by simp; omega), Option.bind_some, lim_ok (by simp; omega), Option.bind_some, ← hp]
  simp
end Go.Proofs.YtpbcbfbichfioaaGreatDoor
