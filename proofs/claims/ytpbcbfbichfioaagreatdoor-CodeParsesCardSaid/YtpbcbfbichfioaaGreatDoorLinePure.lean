/- Plain laws of layer 9: lines, as the program reads and writes them. -/
import Derived.Test.YtpbcbfbichfioaaGreatDoorNumPure
namespace Go.Proofs.YtpbcbfbichfioaaGreatDoor
open Kot Go
set_option linter.unusedVariables false
set_option linter.unusedSimpArgs false
set_option maxRecDepth 100000

theorem lg0 {τ : Type} {a : τ} {l : List τ} : lget (a :: l) 0 = some a := rfl
theorem lg1 {τ : Type} {a b : τ} {l : List τ} : lget (a :: b :: l) 1 = some b := rfl
theorem lg2 {τ : Type} {a b c : τ} {l : List τ} : lget (a :: b :: c :: l) 2 = some c := rfl
theorem fnd_none {P : Nat → Bool} : ∀ (k i j : Nat), fnd P k i = none → i ≤ j → j < i + k → P j = false
  | 0, _, _, _, h1, h2 => by omega
  | k + 1, i, j, h, h1, h2 => by
    simp only [fnd] at h
    cases hp : P i with
    | true => rw [hp] at h; cases h
    | false =>
      rw [hp, cond_false] at h
      by_cases hj : j = i
      · rw [hj]; exact hp
      · exact fnd_none k (i + 1) j h (by omega) (by omega)
def oB (b : Fin 256) : Fin 256 := ⟨opL.getD b.val 0, by have := (ofC_lt b).1; omega⟩
def mB (b : Fin 256) : Fin 256 := ⟨mdL.getD b.val 0, by have := (ofC_lt b).2; omega⟩
theorem ofC_mk (b : Fin 256) : ofC b.val = mkC (oB b) (mB b) := rfl
theorem ofR_mk (b : Fin 256) : ofR b.val = mkR (oB b) (mB b) := rfl
theorem fb_of (b : Fin 256) : ∃ x, x < 256 ∧ fb (oB b) (mB b) = some x := by
  cases h : fb (oB b) (mB b) with
  | some x => exact ⟨x, (fb_spec _ _ _ h).1, rfl⟩
  | none =>
    unfold fb at h
    cases hc : ((((oB b).val : Nat) : Int) == 0) && (((((mB b).val : Nat) : Int) == 0) && true) with
    | true => rw [hc] at h; cases h
    | false =>
      rw [hc, cond_false] at h
      have := fnd_none 256 0 b.val h (by omega) (by omega)
      simp only [isC, ofC_mk, beq_self_eq_true, Bool.and_true] at this
      cases this
theorem nm_alu : ∀ o : Fin 70, alu_Name.f (o.val : Int) = some (nm o.val) := by decide +kernel
theorem nm_len : ∀ o : Fin 70, (nm o.val).length = 3 := by decide +kernel
theorem oB_lt (b : Fin 256) : (oB b).val < 70 := (ofC_lt b).1
theorem mB_lt (b : Fin 256) : (mB b).val < 12 := (ofC_lt b).2
theorem hexL2 (n : Nat) : hexL 2 n = [upC (n / 16 % 16), upC (n % 16)] := by simp [hexL]
theorem hexL4 (n : Nat) : hexL 4 n = [upC (n / 16 / 16 / 16 % 16), upC (n / 16 / 16 % 16), upC (n / 16 % 16), upC (n % 16)] := by simp [hexL]
theorem hex42 (p q : Nat) (hp : p < 256) (hq : q < 256) : hexL 4 (p + 256 * q) = hexL 2 q ++ hexL 2 p := by
  rw [hexL4, hexL2, hexL2]
  have e1 : (p + 256 * q) / 16 / 16 = q := by omega
  have e2 : (p + 256 * q) / 16 % 16 = p / 16 % 16 := by omega
  have e3 : (p + 256 * q) % 16 = p % 16 := by omega
  rw [e1, e2, e3]; rfl
theorem word (p q : Nat) (hp : p < 256) (hq : q < 256) : bor .u16 (IntKind.wrap .u16 (p : Int)) (shl .u16 (IntKind.wrap .u16 (q : Int)) 8) = ((p + 256 * q : Nat) : Int) := by
  rw [wrapU16 (i := (p : Int)) (by omega) (by omega), wrapU16 (i := (q : Int)) (by omega) (by omega)]
  have e1 : shl .u16 (q : Int) 8 = ((256 * q : Nat) : Int) := by
    show IntKind.wrap .u16 ((q : Int) * 2 ^ (min (8 : Int).toNat 16)) = _
    rw [show (2 : Int) ^ (min (8 : Int).toNat 16) = 256 from rfl, wrapU16 (by omega) (by omega)]; omega
  rw [e1]
  show IntKind.wrap .u16 (((BitVec.ofInt 16 (p : Int) ||| BitVec.ofInt 16 ((256 * q : Nat) : Int)).toNat : Nat) : Int) = _
  rw [show BitVec.ofInt 16 (p : Int) = BitVec.ofNat 16 p from BitVec.ofInt_natCast 16 p, show BitVec.ofInt 16 ((256 * q : Nat) : Int) = BitVec.ofNat 16 (256 * q) from BitVec.ofInt_natCast 16 _, BitVec.toNat_or, BitVec.toNat_ofNat, BitVec.toNat_ofNat]
  rw [Nat.mod_eq_of_lt (by omega), Nat.mod_eq_of_lt (by omega), Nat.or_comm]
  have := Nat.two_pow_add_eq_or_of_lt (b := p) (i := 8) (by omega) q
  rw [show 2 ^ 8 = 256 from rfl] at this
  rw [← this, wrapU16 (by omega) (by omega)]; omega
/-- where a branch leads -/
def relN (at_ z : Nat) : Nat := (at_ + 2 + z + (bif decide (z < 128) then 0 else 65280)) % 65536
theorem i8u16 : ∀ z : Fin 256, IntKind.wrap .u16 (IntKind.wrap .i8 (z.val : Int)) = ((z.val + (bif decide (z.val < 128) then 0 else 65280) : Nat) : Int) := by decide +kernel
theorem rel_code (at_ : Nat) (z : Fin 256) : IntKind.wrap .u16 ((IntKind.wrap .u16 ((at_ : Int) + 2)) + (IntKind.wrap .u16 (IntKind.wrap .i8 (z.val : Int)))) = ((relN at_ z.val : Nat) : Int) := by
  rw [i8u16, wrapU16m, wrapU16m]
  unfold relN
  generalize (bif decide (z.val < 128) then 0 else 65280) = q
  omega
theorem rel_lt (at_ z : Nat) : relN at_ z < 65536 := Nat.mod_lt _ (by decide)

theorem hexc (n d : Nat) (h : n < 16 ^ d) (hd : d = 2 ∨ d = 4) : code_hex.f (n : Int) (d : Int) = some (36 :: hexL d n) := by
  have hb : n < 65536 := by rcases hd with rfl | rfl <;> simp at h <;> omega
  exact hex_ok n d hb (by omega) (by omega) h

def drsF (m : Nat) : List UInt8 × List UInt8 := (code_dress.f (m : Int)).getD ([], [])
theorem drs_ok : ∀ m : Fin 12, code_dress.f (m.val : Int) = some (drsF m.val) ∧ (drsF m.val).1.length ≤ 3 ∧ (drsF m.val).2.length ≤ 3 := by decide +kernel
theorem line_ok (o m : Fin 256) (n d : Nat) (ho : o.val < 70) (hm : m.val < 12) (hm0 : m.val ≠ 0) (h : n < 16 ^ d) (hd : d = 2 ∨ d = 4) :
    code_Code_line.f (mkC o m) (n : Int) (d : Int) = some ((((nm o.val ++ [32]) ++ (drsF m.val).1) ++ (36 :: hexL d n)) ++ (drsF m.val).2) := by
  have e0 : ((m.val : Int) == 0) = false := by simp; omega
  obtain ⟨h1, h2, h3⟩ := drs_ok ⟨m.val, hm⟩
  have h4 := nm_alu ⟨o.val, ho⟩
  have h5 := nm_len ⟨o.val, ho⟩
  simp only at h1 h2 h3 h4 h5
  simp only [code_Code_line.f, mkC, e0, cond_false, h1, h4, Option.bind_some, hexc n d h hd]
  rw [lim_ok (by simp [h5]), Option.bind_some, lim_ok (by simp [h5]; omega), Option.bind_some, lim_ok (by simp [h5, hexL_len]; omega), Option.bind_some, lim_ok (by simp [h5, hexL_len]; omega), Option.bind_some]
theorem line0_ok (o m : Fin 256) (n d : Int) (ho : o.val < 70) (hm0 : m.val = 0) : code_Code_line.f (mkC o m) n d = some (nm o.val) := by
  have e0 : ((m.val : Int) == 0) = true := by simp; omega
  have h4 := nm_alu ⟨o.val, ho⟩
  simp only at h4
  simp only [code_Code_line.f, mkC, e0, cond_true, h4, Option.bind_some]

def szN (m : Nat) : Nat := [1, 2, 2, 2, 2, 3, 3, 3, 2, 2, 2, 3].getD m 0
theorem drsV1 : drsF 1 = ([35], []) := by decide +kernel
theorem drsV2 : drsF 2 = ([], []) := by decide +kernel
theorem drsV3 : drsF 3 = ([], [44, 88]) := by decide +kernel
theorem drsV4 : drsF 4 = ([], [44, 89]) := by decide +kernel
theorem drsV5 : drsF 5 = ([], []) := by decide +kernel
theorem drsV6 : drsF 6 = ([], [44, 88]) := by decide +kernel
theorem drsV7 : drsF 7 = ([], [44, 89]) := by decide +kernel
theorem drsV8 : drsF 8 = ([40], [44, 88, 41]) := by decide +kernel
theorem drsV9 : drsF 9 = ([40], [41, 44, 89]) := by decide +kernel
theorem drsV10 : drsF 10 = ([], []) := by decide +kernel
theorem drsV11 : drsF 11 = ([40], [41]) := by decide +kernel

theorem szc_ok : ∀ m : Fin 12, ∀ o : Fin 1, code_Code_Size.f ⟨0, (m.val : Int)⟩ = some ((szN m.val : Nat) : Int) := by decide +kernel
theorem szc (o m : Fin 256) (hm : m.val < 12) : code_Code_Size.f (mkC o m) = some ((szN m.val : Nat) : Int) := szc_ok ⟨m.val, hm⟩ 0

/-! ### beginnings and ends -/
theorem lsub_all {s : List UInt8} {i : Nat} (h : i ≤ s.length) : lsub s (i : Int) (s.length : Int) = some (s.drop i) := by
  have := lsub_ok (xs := s) (i := i) (j := s.length) h (Nat.le_refl _)
  rwa [List.take_length] at this
theorem lsub_take {s : List UInt8} {j : Nat} (h : j ≤ s.length) : lsub s 0 (j : Int) = some (s.take j) := by
  have := lsub_ok (xs := s) (i := 0) (j := j) (Nat.zero_le _) h
  simpa using this
theorem cutP_all (s p : List UInt8) : ∃ t b, strings_CutPrefix.f s p = some (t, b) ∧ t.length ≤ s.length ∧ (b = true → s = p ++ t) := by
  simp only [strings_CutPrefix.f, internal_stringslite_CutPrefix.f, internal_stringslite_HasPrefix.f]
  by_cases h : p.length ≤ s.length
  · have h1 : decide ((p.length : Int) ≤ (s.length : Int)) = true := by simp; omega
    simp only [h1, cond_true, lsub_take h, Option.bind_some, lsub_all h]
    cases hq : (s.take p.length == p) with
    | true =>
      refine ⟨s.drop p.length, true, rfl, by simp, fun _ => ?_⟩
      have : s.take p.length = p := by simpa using hq
      rw [← this, List.length_take, Nat.min_eq_left h, List.take_append_drop]
    | false => exact ⟨s, false, rfl, Nat.le_refl _, fun h => by cases h⟩
  · have h1 : decide ((p.length : Int) ≤ (s.length : Int)) = false := by simp; omega
    simp only [h1, cond_false, Option.bind_some]
    exact ⟨s, false, rfl, Nat.le_refl _, fun h => by cases h⟩
theorem cutP_ok (p t : List UInt8) : strings_CutPrefix.f (p ++ t) p = some (t, true) := by
  have h : p.length ≤ (p ++ t).length := by simp
  have h1 : decide ((p.length : Int) ≤ ((p ++ t).length : Int)) = true := by simp; omega
  have h2 : (p ++ t).take p.length = p := by simp
  have h3 : (p ++ t).drop p.length = t := by simp
  simp only [strings_CutPrefix.f, internal_stringslite_CutPrefix.f, internal_stringslite_HasPrefix.f, h1, cond_true, lsub_take h, Option.bind_some, lsub_all h, h2, h3, beq_self_eq_true, Bool.not_true, cond_false]
theorem cutS_all (s p : List UInt8) (hl : s.length ≤ 1000) : ∃ t b, strings_CutSuffix.f s p = some (t, b) ∧ t.length ≤ s.length ∧ (b = true → s = t ++ p) := by
  simp only [strings_CutSuffix.f, internal_stringslite_CutSuffix.f, internal_stringslite_HasSuffix.f]
  by_cases h : p.length ≤ s.length
  · have h1 : decide ((p.length : Int) ≤ (s.length : Int)) = true := by simp; omega
    have h2 : IntKind.wrap .i64 ((s.length : Int) - (p.length : Int)) = ((s.length - p.length : Nat) : Int) := by rw [wrapI (by omega) (by omega)]; omega
    simp only [h1, cond_true, h2, lsub_all (s := s) (i := s.length - p.length) (by omega), Option.bind_some, lsub_take (s := s) (j := s.length - p.length) (by omega)]
    cases hq : (s.drop (s.length - p.length) == p) with
    | true =>
      refine ⟨s.take (s.length - p.length), true, rfl, by simp, fun _ => ?_⟩
      have : s.drop (s.length - p.length) = p := by simpa using hq
      conv => lhs; rw [← List.take_append_drop (s.length - p.length) s, this]
    | false => exact ⟨s, false, rfl, Nat.le_refl _, fun h => by cases h⟩
  · have h1 : decide ((p.length : Int) ≤ (s.length : Int)) = false := by simp; omega
    simp only [h1, cond_false, Option.bind_some]
    exact ⟨s, false, rfl, Nat.le_refl _, fun h => by cases h⟩
theorem cutS_ok (t p : List UInt8) (hl : (t ++ p).length ≤ 1000) : strings_CutSuffix.f (t ++ p) p = some (t, true) := by
  have h1 : decide ((p.length : Int) ≤ ((t ++ p).length : Int)) = true := by simp; omega
  have h2 : IntKind.wrap .i64 (((t ++ p).length : Int) - (p.length : Int)) = (t.length : Int) := by
    simp only [List.length_append] at hl ⊢
    rw [wrapI (by omega) (by omega)]; omega
  have h3 : (t ++ p).drop t.length = p := by simp
  have h4 : (t ++ p).take t.length = t := by simp
  simp only [strings_CutSuffix.f, internal_stringslite_CutSuffix.f, internal_stringslite_HasSuffix.f, h1, cond_true, h2, lsub_all (s := t ++ p) (i := t.length) (by simp), Option.bind_some, lsub_take (s := t ++ p) (j := t.length) (by simp), h3, h4, beq_self_eq_true, Bool.not_true, cond_false]
theorem undress_all (s : List UInt8) (m : Nat) (hm : m < 12) (hl : s.length ≤ 100) : ∃ t b, code_undress.f s (m : Int) = some (t, b) ∧ t.length ≤ s.length ∧ (b = true → s = (drsF m).1 ++ t ++ (drsF m).2) := by
  obtain ⟨h1, _, _⟩ := drs_ok ⟨m, hm⟩
  simp only at h1
  obtain ⟨t, b, h2, h3, h4⟩ := cutP_all s (drsF m).1
  obtain ⟨u, c, h5, h6, h7⟩ := cutS_all t (drsF m).2 (by omega)
  simp only [code_undress.f, h1, Option.bind_some, h2, h5]
  cases b with
  | true => exact ⟨u, c, rfl, by omega, fun hc => by rw [h4 rfl, h7 hc, List.append_assoc]⟩
  | false => exact ⟨u, false, rfl, by omega, fun h => by cases h⟩
theorem undress_ok (t : List UInt8) (m : Nat) (hm : m < 12) (hl : t.length ≤ 100) : code_undress.f ((drsF m).1 ++ t ++ (drsF m).2) (m : Int) = some (t, true) := by
  obtain ⟨h1, h2, h3⟩ := drs_ok ⟨m, hm⟩
  simp only at h1 h2 h3
  simp only [code_undress.f, h1, Option.bind_some, List.append_assoc, cutP_ok, cutS_ok t (drsF m).2 (by simp; omega), cond_true]

/-! ### where a line is cut -/
theorem ib_none : ∀ (l : List UInt8), (32 : UInt8) ∉ l → Lib.indexByte l 32 = -1
  | [], _ => rfl
  | c :: l, h => by
    have hc : (c == 32) = false := by
      cases hq : c == 32 with
      | false => rfl
      | true => exact absurd (by rw [eq_of_beq hq]; exact List.mem_cons_self) h
    have ih := ib_none l fun hm => h (List.mem_cons_of_mem _ hm)
    unfold Lib.indexByte
    rw [hc, ih]; rfl
theorem ib_some : ∀ (a b : List UInt8), (32 : UInt8) ∉ a → Lib.indexByte (a ++ 32 :: b) 32 = (a.length : Int)
  | [], b, _ => rfl
  | c :: l, b, h => by
    have hc : (c == 32) = false := by
      cases hq : c == 32 with
      | false => rfl
      | true => exact absurd (by rw [eq_of_beq hq]; exact List.mem_cons_self) h
    have ih := ib_some l b fun hm => h (List.mem_cons_of_mem _ hm)
    rw [List.cons_append]
    unfold Lib.indexByte
    have h1 : ((l.length : Int) == -1) = false := by simp
    rw [hc, ih, h1]
    simp
theorem ib_32 (s : List UInt8) : ib s (((32 : UInt8).toNat : Nat) : Int) = Lib.indexByte s 32 := rfl
theorem index_ok (s : List UInt8) : internal_stringslite_Index.f s [32] = some (Lib.indexByte s 32) := by
  have e0 : ((([32] : List UInt8).length : Int) == 0) = false := rfl
  have e1 : ((([32] : List UInt8).length : Int) == 1) = true := rfl
  have e2 : lget ([32] : List UInt8) 0 = some 32 := rfl
  simp only [internal_stringslite_Index.f, e0, cond_false, internal_stringslite_Index.j2, e1, cond_true, e2, Option.bind_some, internal_stringslite_IndexByte.f, ib_32]
  cases hq : ([32] : List UInt8) == s with
  | false => rfl
  | true => have := eq_of_beq hq; subst this; rfl
theorem cut_no (s : List UInt8) (h : (32 : UInt8) ∉ s) : strings_Cut.f s [32] = some (s, [], false) := by
  simp only [strings_Cut.f, internal_stringslite_Cut.f, index_ok, Option.bind_some, ib_none s h]
  rfl
theorem cut_yes (a b : List UInt8) (h : (32 : UInt8) ∉ a) (hl : (a ++ 32 :: b).length ≤ 1000) : strings_Cut.f (a ++ 32 :: b) [32] = some (a, b, true) := by
  have h1 : decide (0 ≤ (a.length : Int)) = true := by simp
  have h2 : IntKind.wrap .i64 ((a.length : Int) + (([32] : List UInt8).length : Int)) = ((a.length + 1 : Nat) : Int) := by
    simp only [List.length_append, List.length_cons] at hl
    rw [show (([32] : List UInt8).length : Int) = 1 from rfl, wrapI (by omega) (by omega)]; rfl
  have h3 : (a ++ 32 :: b).take a.length = a := by simp
  have h4 : (a ++ 32 :: b).drop (a.length + 1) = b := by
    rw [show a ++ 32 :: b = (a ++ [32]) ++ b by simp, show a.length + 1 = (a ++ [32]).length by simp, List.drop_left]
  simp only [strings_Cut.f, internal_stringslite_Cut.f, index_ok, Option.bind_some, ib_some a b h, h1, cond_true, h2, lsub_take (s := a ++ 32 :: b) (j := a.length) (by simp), lsub_all (s := a ++ 32 :: b) (i := a.length + 1) (by simp), h3, h4]
theorem split_mem {c : UInt8} : ∀ {s : List UInt8}, c ∈ s → ∃ a b, s = a ++ c :: b ∧ c ∉ a
  | d :: s, h => by
    by_cases hd : d = c
    · exact ⟨[], s, by rw [hd]; rfl, by simp⟩
    · obtain ⟨a, b, h1, h2⟩ := split_mem (s := s) (by rcases List.mem_cons.1 h with h | h; exact absurd h.symm hd; exact h)
      exact ⟨d :: a, b, by rw [h1]; rfl, by simp [h2]; exact fun h => hd h.symm⟩
theorem split_uniq {c : UInt8} : ∀ {a a' b b' : List UInt8}, c ∉ a → c ∉ a' → a ++ c :: b = a' ++ c :: b' → a = a' ∧ b = b'
  | [], [], _, _, _, _, h => ⟨rfl, by simpa using h⟩
  | [], d :: a', _, _, _, h2, h => by simp at h; exact absurd (by rw [h.1]; exact List.mem_cons_self) h2
  | d :: a, [], _, _, h1, _, h => by simp at h; exact absurd (by rw [← h.1]; exact List.mem_cons_self) h1
  | d :: a, d' :: a', b, b', h1, h2, h => by
    simp only [List.cons_append, List.cons.injEq] at h
    obtain ⟨h3, h4⟩ := split_uniq (a := a) (a' := a') (fun hm => h1 (List.mem_cons_of_mem _ hm)) (fun hm => h2 (List.mem_cons_of_mem _ hm)) h.2
    exact ⟨by rw [h.1, h3], h4⟩

/-! ### operands -/
def wantN (m : Nat) : Nat := bif szN m == 3 || m == 10 then 4 else 2
def form (m n : Nat) : List UInt8 := (drsF m).1 ++ (36 :: hexL (wantN m) n) ++ (drsF m).2
def isHx (c : UInt8) : Bool := upT.contains c
theorem upC_hx : ∀ d : Fin 16, isHx (upC d.val) = true := by decide +kernel
theorem hexL_hx : ∀ (d n : Nat), ∀ c ∈ hexL d n, isHx c = true
  | 0, _, c, h => by simp [hexL] at h
  | d + 1, n, c, h => by
    rw [hexL, List.mem_append] at h
    rcases h with h | h
    · exact hexL_hx d _ c h
    · rw [List.mem_singleton] at h; subst h; exact upC_hx ⟨n % 16, Nat.mod_lt _ (by decide)⟩
theorem back_hx : ∀ m : Fin 12, (match (drsF m.val).2 with | [] => true | c :: _ => !isHx c) = true ∧ (36 : UInt8) ∉ (drsF m.val).1 := by decide +kernel
theorem hx_split : ∀ {a a' b b' : List UInt8}, (∀ c ∈ a, isHx c = true) → (∀ c ∈ a', isHx c = true) → (match b with | [] => true | c :: _ => !isHx c) = true → (match b' with | [] => true | c :: _ => !isHx c) = true → a ++ b = a' ++ b' → a = a' ∧ b = b'
  | [], [], _, _, _, _, _, _, h => ⟨rfl, by simpa using h⟩
  | [], d :: a', b, b', _, h2, h3, _, h => by
    simp only [List.nil_append, List.cons_append] at h
    subst h
    simp [h2 d (by simp)] at h3
  | d :: a, [], b, b', h1, _, _, h4, h => by
    simp only [List.nil_append, List.cons_append] at h
    subst h
    simp [h1 d (by simp)] at h4
  | d :: a, d' :: a', b, b', h1, h2, h3, h4, h => by
    simp only [List.cons_append, List.cons.injEq] at h
    obtain ⟨h5, h6⟩ := hx_split (a := a) (a' := a') (fun c hc => h1 c (List.mem_cons_of_mem _ hc)) (fun c hc => h2 c (List.mem_cons_of_mem _ hc)) h3 h4 h.2
    exact ⟨by rw [h.1, h5], h6⟩
theorem want_24 (m : Nat) : wantN m = 2 ∨ wantN m = 4 := by unfold wantN; cases szN m == 3 || m == 10 <;> simp
theorem hexL_inj {d n n' : Nat} (hd : d = 2 ∨ d = 4) (h1 : n < 16 ^ d) (h2 : n' < 16 ^ d) (h : hexL d n = hexL d n') : n = n' := by
  rcases hd with rfl | rfl
  · have a := pu_hex2 n (by simpa using h1)
    rw [h, pu_hex2 n' (by simpa using h2)] at a
    simp only [Prod.mk.injEq, and_true] at a; omega
  · have a := pu_hex4 n (by simpa using h1)
    rw [h, pu_hex4 n' (by simpa using h2)] at a
    simp only [Prod.mk.injEq, and_true] at a; omega
theorem drs_inj : ∀ m m' : Fin 12, m.val ≠ 0 → m'.val ≠ 0 → drsF m.val = drsF m'.val → wantN m.val = wantN m'.val → m.val = m'.val ∨ (m.val = 5 ∧ m'.val = 10) ∨ (m.val = 10 ∧ m'.val = 5) := by decide +kernel
theorem form_inj {m m' n n' : Nat} (hm : m < 12) (hm' : m' < 12) (h0 : m ≠ 0) (h0' : m' ≠ 0) (hn : n < 16 ^ wantN m) (hn' : n' < 16 ^ wantN m') (h : form m n = form m' n') :
    n = n' ∧ (m = m' ∨ (m = 5 ∧ m' = 10) ∨ (m = 10 ∧ m' = 5)) := by
  obtain ⟨b1, f1⟩ := back_hx ⟨m, hm⟩
  obtain ⟨b2, f2⟩ := back_hx ⟨m', hm'⟩
  simp only at b1 f1 b2 f2
  simp only [form, List.append_assoc, List.cons_append] at h
  obtain ⟨h1, h2⟩ := split_uniq f1 f2 h
  obtain ⟨h3, h4⟩ := hx_split (hexL_hx _ _) (hexL_hx _ _) b1 b2 h2
  have h5 : wantN m = wantN m' := by have := congrArg List.length h3; rwa [hexL_len, hexL_len] at this
  have h6 : drsF m = drsF m' := Prod.ext h1 h4
  rw [← h5] at h3 hn'
  exact ⟨hexL_inj (want_24 m) hn hn' h3, drs_inj ⟨m, hm⟩ ⟨m', hm'⟩ h0 h0' h6 h5⟩

/-! ### the loop over the modes -/
def fbN (o : Fin 256) (m : Nat) : Option Nat := if h : m < 256 then fb o ⟨m, h⟩ else none
theorem branch_or : ∀ o : Fin 70, fbN ⟨o.val, by omega⟩ 5 = none ∨ fbN ⟨o.val, by omega⟩ 10 = none := by decide +kernel
/-- the bytes of a code, and its number -/
def bytesS (o : Fin 256) (m n : Nat) (a : Int) : Option ((List Int) × Int) := code_Code_bytes.f (mkC o ⟨m % 256, Nat.mod_lt _ (by decide)⟩) (n : Int) a
theorem mode_step (o : Fin 256) (rest : List UInt8) (a : Int) (nmx : List UInt8) (k f : Nat) (hk : k ≤ 11) (hl : rest.length ≤ 100) :
    (∃ n, n < 16 ^ wantN k ∧ rest = form k n ∧ fbN o k ≠ none ∧ code_Parse.l2 a (nmx, rest, true) ((o.val : Int), true) (f + 1) (k : Int) = bytesS o k n a) ∨
    ((∀ n, n < 16 ^ wantN k → rest = form k n → fbN o k = none) ∧ code_Parse.l2 a (nmx, rest, true) ((o.val : Int), true) (f + 1) (k : Int) = code_Parse.l2 a (nmx, rest, true) ((o.val : Int), true) f ((k + 1 : Nat) : Int)) := by
  have hk2 : decide ((k : Int) ≤ 11) = true := by simp; omega
  have hmk : (⟨(o.val : Int), (k : Int)⟩ : code_Code) = mkC o ⟨k, by omega⟩ := rfl
  have hb : code_Code_Byte.f (mkC o ⟨k, by omega⟩) = some (match fbN o k with | some b => ((b : Int), true) | none => (0, false)) := by
    have := byteC o ⟨k, by omega⟩
    unfold fbN
    rw [dif_pos (show k < 256 by omega)]
    exact this
  have hsz := szc o ⟨k, by omega⟩ (show k < 12 by omega)
  have hnx : IntKind.wrap .u8 ((k : Int) + 1) = ((k + 1 : Nat) : Int) := wrapU8 (k + 1) (by omega)
  have hbytes : ∀ n : Nat, (code_Code_bytes.f (⟨(o.val : Int), (k : Int)⟩ : code_Code) (n : Int) a).bind (fun r => some (r.1, r.2)) = bytesS o k n a := fun n => by
    have : (⟨k % 256, Nat.mod_lt _ (by decide)⟩ : Fin 256) = ⟨k, by omega⟩ := Fin.ext (Nat.mod_eq_of_lt (by omega))
    unfold bytesS
    rw [this, hmk]
    cases code_Code_bytes.f (mkC o ⟨k, _⟩) (n : Int) a with
    | none => rfl
    | some r => rfl
  have hw : ∀ (r1 : List UInt8 × Bool) (r2 : Int × Int × Bool), (bif ((szN k : Nat) : Int) == 3 then (code_Parse.j5 a ((o.val : Int), true) (k : Int) (code_Parse.l2 a (nmx, rest, true) ((o.val : Int), true) f) r1 r2 4) else (bif (k : Int) == 10 then (code_Parse.j5 a ((o.val : Int), true) (k : Int) (code_Parse.l2 a (nmx, rest, true) ((o.val : Int), true) f) r1 r2 4) else (code_Parse.j5 a ((o.val : Int), true) (k : Int) (code_Parse.l2 a (nmx, rest, true) ((o.val : Int), true) f) r1 r2 2))) =
      code_Parse.j5 a ((o.val : Int), true) (k : Int) (code_Parse.l2 a (nmx, rest, true) ((o.val : Int), true) f) r1 r2 ((wantN k : Nat) : Int) := fun r1 r2 => by
    have c1 : (((szN k : Nat) : Int) == 3) = (szN k == 3) := by
      cases hq : szN k == 3 with
      | true => have := eq_of_beq hq; rw [this]; rfl
      | false =>
        have : szN k ≠ 3 := fun h => by rw [h] at hq; cases hq
        simp; omega
    have c2 : (((k : Nat) : Int) == 10) = (k == 10) := by
      cases hq : k == 10 with
      | true => have := eq_of_beq hq; subst this; rfl
      | false =>
        have : k ≠ 10 := fun h => by rw [h] at hq; cases hq
        simp; omega
    rw [c1, c2]
    unfold wantN
    cases szN k == 3 <;> cases k == 10 <;> rfl
  obtain ⟨t, b, h1, h2, h3⟩ := undress_all rest k (by omega) hl
  obtain ⟨x, dg, ok, h4, h5⟩ := number_all t (by omega)
  have step : code_Parse.l2 a (nmx, rest, true) ((o.val : Int), true) (f + 1) (k : Int) = code_Parse.j5 a ((o.val : Int), true) (k : Int) (code_Parse.l2 a (nmx, rest, true) ((o.val : Int), true) f) (t, b) (x, dg, ok) ((wantN k : Nat) : Int) := by
    simp only [code_Parse.l2, hk2, cond_true, h1, Option.bind_some, h4, hmk, hsz]
    exact hw (t, b) (x, dg, ok)
  rw [step]
  have no : ∀ q : Bool, q = false → (b = true → ok = true → dg = ((wantN k : Nat) : Int) → fbN o k ≠ none → q = true) → (∀ n, n < 16 ^ wantN k → rest = form k n → fbN o k = none) := fun q hq himp n hn hr => by
    subst hr
    have h6 := undress_ok (36 :: hexL (wantN k) n) k (by omega) (by have := want_24 k; simp [hexL_len]; omega)
    have h7 : code_undress.f (form k n) (k : Int) = some (36 :: hexL (wantN k) n, true) := h6
    rw [h7] at h1
    simp only [Option.some.injEq, Prod.mk.injEq] at h1
    obtain ⟨rfl, rfl⟩ := h1
    rw [number_ok (wantN k) n (want_24 k) hn] at h4
    simp only [Option.some.injEq, Prod.mk.injEq] at h4
    obtain ⟨rfl, rfl, rfl⟩ := h4
    cases hf : fbN o k with
    | none => rfl
    | some z => have := himp rfl rfl rfl (by rw [hf]; simp); rw [this] at hq; cases hq
  simp only [code_Parse.j5, hmk, hb, Option.bind_some, hnx]
  cases b with
  | false => exact .inr ⟨no false rfl (fun h => by cases h), rfl⟩
  | true =>
    simp only [cond_true]
    cases ok with
    | false => exact .inr ⟨no false rfl (fun _ h => by cases h), rfl⟩
    | true =>
      simp only [cond_true]
      cases hdw : (dg == ((wantN k : Nat) : Int)) with
      | false => exact .inr ⟨no false rfl (fun _ _ h => by rw [h] at hdw; simp at hdw), rfl⟩
      | true =>
        simp only [cond_true]
        cases hf : fbN o k with
        | none => exact .inr ⟨fun _ _ _ => rfl, rfl⟩
        | some z =>
          obtain ⟨d, n, hd, hn, hs, hx, hdd⟩ := h5 rfl
          have hdg : dg = ((wantN k : Nat) : Int) := by simpa using hdw
          have hdk : d = wantN k := by omega
          subst hdk
          refine .inl ⟨n, hn, ?_, by simp, ?_⟩
          · rw [h3 rfl, hs]; rfl
          · subst hx
            exact hbytes n
theorem modes_none (o : Fin 256) (rest : List UInt8) (a : Int) (nmx : List UInt8) (hl : rest.length ≤ 100) : ∀ (d k f : Nat), k + d = 12 → d < f → (∀ m n, k ≤ m → m < 12 → n < 16 ^ wantN m → rest = form m n → fbN o m = none) →
    code_Parse.l2 a (nmx, rest, true) ((o.val : Int), true) f (k : Int) = some ([], 12)
  | 0, k, f, h, hf, _ => by
    obtain ⟨f, rfl⟩ : ∃ f', f = f' + 1 := ⟨f - 1, by omega⟩
    obtain rfl : k = 12 := by omega
    rfl
  | d + 1, k, f, h, hf, hno => by
    obtain ⟨f, rfl⟩ : ∃ f', f = f' + 1 := ⟨f - 1, by omega⟩
    rcases mode_step o rest a nmx k f (by omega) hl with ⟨n, h1, h2, h3, _⟩ | ⟨_, h4⟩
    · exact absurd (hno k n (Nat.le_refl _) (by omega) h1 h2) h3
    · rw [h4]
      exact modes_none o rest a nmx hl d (k + 1) f (by omega) (by omega) fun m n hm => hno m n (by omega)
theorem modes_one (o : Fin 256) (ho : o.val < 70) (m n : Nat) (a : Int) (nmx : List UInt8) (hm : m < 12) (h0 : m ≠ 0) (hn : n < 16 ^ wantN m) (hfb : fbN o m ≠ none) : ∀ (d k f : Nat), k + d = m → d + 1 < f → k ≠ 0 →
    code_Parse.l2 a (nmx, form m n, true) ((o.val : Int), true) f (k : Int) = bytesS o m n a := by
  have hl : (form m n).length ≤ 100 := by
    obtain ⟨_, h2, h3⟩ := drs_ok ⟨m, hm⟩
    simp only at h2 h3
    have := want_24 m
    simp only [form, List.length_append, List.length_cons, hexL_len]; omega
  have other : ∀ k n', k < 12 → k ≠ 0 → n' < 16 ^ wantN k → form m n = form k n' → fbN o k ≠ none → k = m ∧ n' = n := fun k n' hk hk0 hn' he hf => by
    obtain ⟨h1, h2⟩ := form_inj hm hk h0 hk0 hn hn' he
    rcases h2 with h2 | ⟨rfl, rfl⟩ | ⟨rfl, rfl⟩
    · exact ⟨h2.symm, h1.symm⟩
    · rcases branch_or ⟨o.val, ho⟩ with h | h
      · exact absurd h hfb
      · exact absurd h hf
    · rcases branch_or ⟨o.val, ho⟩ with h | h
      · exact absurd h hf
      · exact absurd h hfb
  intro d
  induction d with
  | zero =>
    intro k f h hf hk0
    obtain ⟨f, rfl⟩ : ∃ f', f = f' + 1 := ⟨f - 1, by omega⟩
    obtain rfl : k = m := by omega
    rcases mode_step o (form k n) a nmx k f (by omega) hl with ⟨n', h1, h2, h3, h4⟩ | ⟨h5, _⟩
    · obtain ⟨_, rfl⟩ := other k n' (by omega) hk0 h1 h2 h3
      exact h4
    · exact absurd (h5 n hn rfl) hfb
  | succ d ih =>
    intro k f h hf hk0
    obtain ⟨f, rfl⟩ : ∃ f', f = f' + 1 := ⟨f - 1, by omega⟩
    rcases mode_step o (form m n) a nmx k f (by omega) hl with ⟨n', h1, h2, h3, _⟩ | ⟨_, h4⟩
    · have := (other k n' (by omega) hk0 h1 h2 h3).1
      omega
    · rw [h4]
      exact ih (k + 1) f (by omega) (by omega) (by omega)

/-! ### lines that are read -/
theorem find_ok : ∀ o : Fin 70, alu_Find.f (nm o.val) = some ((o.val : Int), true) := by decide +kernel
theorem nm_no32 : ∀ o : Fin 70, (32 : UInt8) ∉ nm o.val ∧ (nm o.val == ([66, 89, 84, 69] : List UInt8)) = false := by decide +kernel
/-- an operation and what it works on -/
theorem parse_form (o : Fin 256) (ho : o.val < 70) (m n : Nat) (a : Int) (hm : m < 12) (h0 : m ≠ 0) (hn : n < 16 ^ wantN m) (hfb : fbN o m ≠ none) : code_Parse.f (nm o.val ++ 32 :: form m n) a = bytesS o m n a := by
  obtain ⟨h1, h2⟩ := nm_no32 ⟨o.val, ho⟩
  have h3 := find_ok ⟨o.val, ho⟩
  have h4 := nm_len ⟨o.val, ho⟩
  simp only at h1 h2 h3 h4
  obtain ⟨_, q2, q3⟩ := drs_ok ⟨m, hm⟩
  simp only at q2 q3
  have hw := want_24 m
  have hl : (form m n).length ≤ 100 := by simp only [form, List.length_append, List.length_cons, hexL_len]; omega
  have hc := cut_yes (nm o.val) (form m n) h1 (by simp only [List.length_append, List.length_cons, h4]; omega)
  obtain ⟨x, dg, ok, h5, _⟩ := number_all (form m n) (by omega)
  simp only [code_Parse.f, hc, Option.bind_some, h5, h2, cond_false, code_Parse.j1, h3, Bool.not_true]
  exact modes_one o ho m n a (nm o.val) hm h0 hn hfb (m - 1) 1 _ (by omega) (by simp; omega) (by decide)
/-- an operation alone -/
theorem parse_alone (o : Fin 256) (ho : o.val < 70) (a : Int) : code_Parse.f (nm o.val) a = match fbN o 0 with | some b => some ([(b : Int)], 0) | none => some ([], 12) := by
  obtain ⟨h1, h2⟩ := nm_no32 ⟨o.val, ho⟩
  have h3 := find_ok ⟨o.val, ho⟩
  simp only at h1 h2 h3
  have hb : code_Code_Byte.f (⟨(o.val : Int), 0⟩ : code_Code) = some (match fbN o 0 with | some b => ((b : Int), true) | none => (0, false)) := byteC o ⟨0, by omega⟩
  have hn : code_number.f ([] : List UInt8) = some (0, 0, false) := rfl
  simp only [code_Parse.f, cut_no _ h1, Option.bind_some, hn, h2, cond_false, code_Parse.j1, h3, Bool.not_true, Bool.not_false, cond_true, hb]
  cases fbN o 0 <;> rfl
/-- a byte alone -/
theorem parse_byte (b : Fin 256) (a : Int) : code_Parse.f ([66, 89, 84, 69] ++ 32 :: 36 :: hexL 2 b.val) a = some ([(b.val : Int)], 0) := by
  have hc := cut_yes [66, 89, 84, 69] (36 :: hexL 2 b.val) (by decide) (by simp [hexL_len])
  have hn := number_ok 2 b.val (.inl rfl) (by omega)
  have e : (([66, 89, 84, 69] : List UInt8) == ([66, 89, 84, 69] : List UInt8)) = true := rfl
  have e2 : (((2 : Nat) : Int) == 2) = true := rfl
  simp only [code_Parse.f, hc, Option.bind_some, hn, e, e2, cond_true, wrapU8 b.val b.isLt]
end Go.Proofs.YtpbcbfbichfioaaGreatDoor
