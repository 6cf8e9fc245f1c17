/- Plain laws of layer 9: lines of text. -/
import Derived.Test.YtpbcbfbichfioaaDoorHexPure
namespace Go.Proofs.YtpbcbfbichfioaaDoor
open Kot Go
set_option linter.unusedVariables false
set_option linter.unusedSimpArgs false
set_option maxRecDepth 100000

theorem lg0 {τ : Type} {a : τ} {l : List τ} : lget (a :: l) 0 = some a := rfl
theorem lg1 {τ : Type} {a b : τ} {l : List τ} : lget (a :: b :: l) 1 = some b := rfl
theorem lg2 {τ : Type} {a b c : τ} {l : List τ} : lget (a :: b :: c :: l) 2 = some c := rfl
theorem fnd_none {P : Nat → Bool} : ∀ (k i j : Nat), fnd P k i = none → i ≤ j → j < i + k → P j = false
  | 0, _, _, _, h1, h2 => by omega
  | k + 1, i, j, h, h1, h2 => by
    simp only [fnd] at h
    cases hp : P i with
    | true => rw [hp] at h; cases h
    | false =>
      rw [hp, cond_false] at h
      by_cases hj : j = i
      · rw [hj]; exact hp
      · exact fnd_none k (i + 1) j h (by omega) (by omega)
def oB (b : Fin 256) : Fin 256 := ⟨opL.getD b.val 0, by have := (ofC_lt b).1; omega⟩
def mB (b : Fin 256) : Fin 256 := ⟨mdL.getD b.val 0, by have := (ofC_lt b).2; omega⟩
theorem ofC_mk (b : Fin 256) : ofC b.val = mkC (oB b) (mB b) := rfl
theorem ofR_mk (b : Fin 256) : ofR b.val = mkR (oB b) (mB b) := rfl
theorem fb_of (b : Fin 256) : ∃ x, x < 256 ∧ fb (oB b) (mB b) = some x := by
  cases h : fb (oB b) (mB b) with
  | some x => exact ⟨x, (fb_spec _ _ _ h).1, rfl⟩
  | none =>
    unfold fb at h
    cases hc : ((((oB b).val : Nat) : Int) == 0) && (((((mB b).val : Nat) : Int) == 0) && true) with
    | true => rw [hc] at h; cases h
    | false =>
      rw [hc, cond_false] at h
      have := fnd_none 256 0 b.val h (by omega) (by omega)
      simp only [isC, ofC_mk, beq_self_eq_true, Bool.and_true] at this
      cases this
theorem nm_alu : ∀ o : Fin 70, alu_Name.f (o.val : Int) = some (nm o.val) := by decide +kernel
theorem nm_len : ∀ o : Fin 70, (nm o.val).length = 3 := by decide +kernel
theorem oB_lt (b : Fin 256) : (oB b).val < 70 := (ofC_lt b).1
theorem mB_lt (b : Fin 256) : (mB b).val < 12 := (ofC_lt b).2
theorem hexL2 (n : Nat) : hexL 2 n = [upC (n / 16 % 16), upC (n % 16)] := by simp [hexL]
theorem hexL4 (n : Nat) : hexL 4 n = [upC (n / 16 / 16 / 16 % 16), upC (n / 16 / 16 % 16), upC (n / 16 % 16), upC (n % 16)] := by simp [hexL]
theorem hex42 (p q : Nat) (hp : p < 256) (hq : q < 256) : hexL 4 (p + 256 * q) = hexL 2 q ++ hexL 2 p := by
  rw [hexL4, hexL2, hexL2]
  have e1 : (p + 256 * q) / 16 / 16 = q := by omega
  have e2 : (p + 256 * q) / 16 % 16 = p / 16 % 16 := by omega
  have e3 : (p + 256 * q) % 16 = p % 16 := by omega
  rw [e1, e2, e3]; rfl
theorem word (p q : Nat) (hp : p < 256) (hq : q < 256) : bor .u16 (IntKind.wrap .u16 (p : Int)) (shl .u16 (IntKind.wrap .u16 (q : Int)) 8) = ((p + 256 * q : Nat) : Int) := by
  rw [wrapU16 (i := (p : Int)) (by omega) (by omega), wrapU16 (i := (q : Int)) (by omega) (by omega)]
  have e1 : shl .u16 (q : Int) 8 = ((256 * q : Nat) : Int) := by
    show IntKind.wrap .u16 ((q : Int) * 2 ^ (min (8 : Int).toNat 16)) = _
    rw [show (2 : Int) ^ (min (8 : Int).toNat 16) = 256 from rfl, wrapU16 (by omega) (by omega)]; omega
  rw [e1]
  show IntKind.wrap .u16 (((BitVec.ofInt 16 (p : Int) ||| BitVec.ofInt 16 ((256 * q : Nat) : Int)).toNat : Nat) : Int) = _
  rw [show BitVec.ofInt 16 (p : Int) = BitVec.ofNat 16 p from BitVec.ofInt_natCast 16 p, show BitVec.ofInt 16 ((256 * q : Nat) : Int) = BitVec.ofNat 16 (256 * q) from BitVec.ofInt_natCast 16 _, BitVec.toNat_or, BitVec.toNat_ofNat, BitVec.toNat_ofNat]
  rw [Nat.mod_eq_of_lt (by omega), Nat.mod_eq_of_lt (by omega), Nat.or_comm]
  have := Nat.two_pow_add_eq_or_of_lt (b := p) (i := 8) (by omega) q
  rw [show 2 ^ 8 = 256 from rfl] at this
  rw [← this, wrapU16 (by omega) (by omega)]; omega
/-- where a branch leads -/
def relN (at_ z : Nat) : Nat := (at_ + 2 + z + (bif decide (z < 128) then 0 else 65280)) % 65536
theorem i8u16 : ∀ z : Fin 256, IntKind.wrap .u16 (IntKind.wrap .i8 (z.val : Int)) = ((z.val + (bif decide (z.val < 128) then 0 else 65280) : Nat) : Int) := by decide +kernel
theorem rel_code (at_ : Nat) (z : Fin 256) : IntKind.wrap .u16 ((IntKind.wrap .u16 ((at_ : Int) + 2)) + (IntKind.wrap .u16 (IntKind.wrap .i8 (z.val : Int)))) = ((relN at_ z.val : Nat) : Int) := by
  rw [i8u16, wrapU16m, wrapU16m]
  unfold relN
  generalize (bif decide (z.val < 128) then 0 else 65280) = q
  omega
theorem rel_lt (at_ z : Nat) : relN at_ z < 65536 := Nat.mod_lt _ (by decide)

theorem hexc (n d : Nat) (h : n < 16 ^ d) (hd : d = 2 ∨ d = 4) : code_hex.f (n : Int) (d : Int) = some (36 :: hexL d n) := by
  have hb : n < 65536 := by rcases hd with rfl | rfl <;> simp at h <;> omega
  exact hex_ok n d hb (by omega) (by omega) h

def drsF (m : Nat) : List UInt8 × List UInt8 := (code_dress.f (m : Int)).getD ([], [])
theorem drs_ok : ∀ m : Fin 12, code_dress.f (m.val : Int) = some (drsF m.val) ∧ (drsF m.val).1.length ≤ 3 ∧ (drsF m.val).2.length ≤ 3 := by decide +kernel
theorem line_ok (o m : Fin 256) (n d : Nat) (ho : o.val < 70) (hm : m.val < 12) (hm0 : m.val ≠ 0) (h : n < 16 ^ d) (hd : d = 2 ∨ d = 4) :
    code_Code_line.f (mkC o m) (n : Int) (d : Int) = some ((((nm o.val ++ [32]) ++ (drsF m.val).1) ++ (36 :: hexL d n)) ++ (drsF m.val).2) := by
  have e0 : ((m.val : Int) == 0) = false := by simp; omega
  obtain ⟨h1, h2, h3⟩ := drs_ok ⟨m.val, hm⟩
  have h4 := nm_alu ⟨o.val, ho⟩
  have h5 := nm_len ⟨o.val, ho⟩
  simp only at h1 h2 h3 h4 h5
  simp only [code_Code_line.f, mkC, e0, cond_false, h1, h4, Option.bind_some, hexc n d h hd]
  rw [lim_ok (by simp [h5]), Option.bind_some, lim_ok (by simp [h5]; omega), Option.bind_some, lim_ok (by simp [h5, hexL_len]; omega), Option.bind_some, lim_ok (by simp [h5, hexL_len]; omega), Option.bind_some]
theorem line0_ok (o m : Fin 256) (n d : Int) (ho : o.val < 70) (hm0 : m.val = 0) : code_Code_line.f (mkC o m) n d = some (nm o.val) := by
  have e0 : ((m.val : Int) == 0) = true := by simp; omega
  have h4 := nm_alu ⟨o.val, ho⟩
  simp only at h4
  simp only [code_Code_line.f, mkC, e0, cond_true, h4, Option.bind_some]

def szN (m : Nat) : Nat := [1, 2, 2, 2, 2, 3, 3, 3, 2, 2, 2, 3].getD m 0
theorem sz_ok : ∀ m : Fin 12, kotatsuref09_Size.f (m.val : Int) = some ((szN m.val : Nat) : Int) := by decide +kernel
theorem rhexi (z : Fin 256) : kotatsuref09_Hex.f (IntKind.wrap .i64 (z.val : Int)) 2 = some (hexL 2 z.val) := by
  rw [wrapI (by omega) (by omega)]
  exact rhex_ok z.val 2 (by omega) (by omega)

theorem drsV1 : drsF 1 = ([35], []) := by decide +kernel
theorem drsV2 : drsF 2 = ([], []) := by decide +kernel
theorem drsV3 : drsF 3 = ([], [44, 88]) := by decide +kernel
theorem drsV4 : drsF 4 = ([], [44, 89]) := by decide +kernel
theorem drsV5 : drsF 5 = ([], []) := by decide +kernel
theorem drsV6 : drsF 6 = ([], [44, 88]) := by decide +kernel
theorem drsV7 : drsF 7 = ([], [44, 89]) := by decide +kernel
theorem drsV8 : drsF 8 = ([40], [44, 88, 41]) := by decide +kernel
theorem drsV9 : drsF 9 = ([40], [41, 44, 89]) := by decide +kernel
theorem drsV10 : drsF 10 = ([], []) := by decide +kernel
theorem drsV11 : drsF 11 = ([40], [41]) := by decide +kernel
theorem ref_j2 (o : Fin 256) (m : Nat) (hm : m < 12) (h0 : m ≠ 0) (h10 : m ≠ 10) (p : List Int) (a n : Int) (one two : List UInt8) (h1 : one.length ≤ 4) (h2 : two.length ≤ 8) (hn : (nm ((o.val : Nat) : Int)).length = 3) :
    kotatsuref09_Text.j2 p a (mkR o ⟨m, by omega⟩) n one two = some ((nm o.val ++ [32]) ++ (((drsF m).1 ++ (bif szN m == 3 then two else [36] ++ one)) ++ (drsF m).2), n) := by
  have hmm : m = 1 ∨ m = 2 ∨ m = 3 ∨ m = 4 ∨ m = 5 ∨ m = 6 ∨ m = 7 ∨ m = 8 ∨ m = 9 ∨ m = 11 := by omega
  rcases hmm with rfl | rfl | rfl | rfl | rfl | rfl | rfl | rfl | rfl | rfl
  · show Option.bind (lim _) _ = _
    rw [drsV1]
    repeat (rw [lim_ok (by simp only [List.length_append, List.length_cons, List.length_nil, mkR, hn]; omega), Option.bind_some])
    simp [szN, mkR]
  · show Option.bind (lim _) _ = _
    rw [drsV2]
    repeat (rw [lim_ok (by simp only [List.length_append, List.length_cons, List.length_nil, mkR, hn]; omega), Option.bind_some])
    simp [szN, mkR]
  · show Option.bind (lim _) _ = _
    rw [drsV3]
    repeat (rw [lim_ok (by simp only [List.length_append, List.length_cons, List.length_nil, mkR, hn]; omega), Option.bind_some])
    simp [szN, mkR]
  · show Option.bind (lim _) _ = _
    rw [drsV4]
    repeat (rw [lim_ok (by simp only [List.length_append, List.length_cons, List.length_nil, mkR, hn]; omega), Option.bind_some])
    simp [szN, mkR]
  · show Option.bind (lim _) _ = _
    rw [drsV5]
    repeat (rw [lim_ok (by simp only [List.length_append, List.length_cons, List.length_nil, mkR, hn]; omega), Option.bind_some])
    simp [szN, mkR]
  · show Option.bind (lim _) _ = _
    rw [drsV6]
    repeat (rw [lim_ok (by simp only [List.length_append, List.length_cons, List.length_nil, mkR, hn]; omega), Option.bind_some])
    simp [szN, mkR]
  · show Option.bind (lim _) _ = _
    rw [drsV7]
    repeat (rw [lim_ok (by simp only [List.length_append, List.length_cons, List.length_nil, mkR, hn]; omega), Option.bind_some])
    simp [szN, mkR]
  · show Option.bind (lim _) _ = _
    rw [drsV8]
    repeat (rw [lim_ok (by simp only [List.length_append, List.length_cons, List.length_nil, mkR, hn]; omega), Option.bind_some])
    simp [szN, mkR]
  · show Option.bind (lim _) _ = _
    rw [drsV9]
    repeat (rw [lim_ok (by simp only [List.length_append, List.length_cons, List.length_nil, mkR, hn]; omega), Option.bind_some])
    simp [szN, mkR]
  · show Option.bind (lim _) _ = _
    rw [drsV11]
    repeat (rw [lim_ok (by simp only [List.length_append, List.length_cons, List.length_nil, mkR, hn]; omega), Option.bind_some])
    simp [szN, mkR]
theorem ref_rel (o : Fin 256) (b z : Fin 256) (t : List Int) (a : Nat) (ha : a < 65536) (one two : List UInt8) (hn : (nm ((o.val : Nat) : Int)).length = 3) (n : Int) :
    kotatsuref09_Text.j2 ((b.val : Int) :: (z.val : Int) :: t) (a : Int) (mkR o ⟨10, by omega⟩) n one two = some ((nm o.val ++ [32]) ++ ([36] ++ hexL 4 (relN a z.val)), n) := by
  have hz : IntKind.wrap .i64 (z.val : Int) = (z.val : Int) := wrapI (by omega) (by omega)
  have hr : kotatsuref09_Hex.f ((relN a z.val : Nat) : Int) 4 = some (hexL 4 (relN a z.val)) := rhex_ok (relN a z.val) 4 (by omega) (rel_lt _ _)
  have h2 : IntKind.wrap .i64 ((a : Int) + 2) = (a : Int) + 2 := wrapI (by omega) (by omega)
  have c10 : ∀ k : Int, ((((⟨10, by omega⟩ : Fin 256).val : Nat) : Int) == k) = ((10 : Int) == k) := fun k => rfl
  have d1 : ((10 : Int) == 1) = false := rfl
  have d2 : ((10 : Int) == 2) = false := rfl
  have d3 : ((10 : Int) == 3) = false := rfl
  have d4 : ((10 : Int) == 4) = false := rfl
  have d5 : ((10 : Int) == 5) = false := rfl
  have d6 : ((10 : Int) == 6) = false := rfl
  have d7 : ((10 : Int) == 7) = false := rfl
  have d8 : ((10 : Int) == 8) = false := rfl
  have d9 : ((10 : Int) == 9) = false := rfl
  have d10 : ((10 : Int) == 10) = true := rfl
  simp only [kotatsuref09_Text.j2, mkR, c10, d1, d2, d3, d4, d5, d6, d7, d8, d9, d10, cond_false, cond_true, lg1, Option.bind_some, hz, bnd]
  by_cases hlt : z.val < 128
  · have e1 : decide (127 < (z.val : Int)) = false := by simp; omega
    have e2 : Int.tmod (IntKind.wrap .i64 ((IntKind.wrap .i64 ((IntKind.wrap .i64 ((a : Int) + 2)) + (z.val : Int))) + 65536)) 65536 = ((relN a z.val : Nat) : Int) := by
      rw [h2, wrapI (i := (a : Int) + 2 + (z.val : Int)) (by omega) (by omega), wrapI (by omega) (by omega)]
      have : (a : Int) + 2 + (z.val : Int) + 65536 = ((a + 2 + z.val + 65536 : Nat) : Int) := by omega
      rw [this, show (65536 : Int) = ((65536 : Nat) : Int) from rfl, ← Int.ofNat_tmod]
      unfold relN
      rw [decide_eq_true hlt, cond_true]
      omega
    simp only [e1, cond_false, e2, hr, Option.bind_some]
    rw [lim_ok (by simp only [List.length_append, List.length_cons, List.length_nil, hexL_len]; omega), Option.bind_some, lim_ok (by simp only [List.length_append, List.length_cons, List.length_nil, hn]; omega), Option.bind_some,
      lim_ok (by simp only [List.length_append, List.length_cons, List.length_nil, hn, hexL_len]; omega), Option.bind_some]
  · have e1 : decide (127 < (z.val : Int)) = true := by simp; omega
    have e2 : Int.tmod (IntKind.wrap .i64 ((IntKind.wrap .i64 ((IntKind.wrap .i64 ((a : Int) + 2)) + (IntKind.wrap .i64 ((z.val : Int) - 256)))) + 65536)) 65536 = ((relN a z.val : Nat) : Int) := by
      rw [h2, wrapI (i := (z.val : Int) - 256) (by omega) (by omega), wrapI (i := (a : Int) + 2 + ((z.val : Int) - 256)) (by omega) (by omega), wrapI (by omega) (by omega)]
      have : (a : Int) + 2 + ((z.val : Int) - 256) + 65536 = ((a + 2 + z.val + 65280 : Nat) : Int) := by omega
      rw [this, show (65536 : Int) = ((65536 : Nat) : Int) from rfl, ← Int.ofNat_tmod]
      unfold relN
      rw [decide_eq_false hlt, cond_false]
    simp only [e1, cond_true, e2, hr, Option.bind_some]
    rw [lim_ok (by simp only [List.length_append, List.length_cons, List.length_nil, hexL_len]; omega), Option.bind_some, lim_ok (by simp only [List.length_append, List.length_cons, List.length_nil, hn]; omega), Option.bind_some,
      lim_ok (by simp only [List.length_append, List.length_cons, List.length_nil, hn, hexL_len]; omega), Option.bind_some]

/-- both tell the same of a code and what follows it -/
theorem text_same (o : Fin 256) (m : Nat) (hm : m < 12) (ho : o.val < 70) (b : Fin 256) (rest : List (Fin 256)) (a : Nat) (ha : a < 65536) (hlen : szN m ≤ rest.length + 1) :
    ∃ r, code_Text.j1 ((b.val : Int) :: rest.map (fun z => (z.val : Int))) (a : Int) (mkC o ⟨m, by omega⟩) ((szN m : Nat) : Int) () = some r ∧ kotatsuref09_Text.j1 ((b.val : Int) :: rest.map (fun z => (z.val : Int))) (a : Int) (mkR o ⟨m, by omega⟩) ((szN m : Nat) : Int) () = some r := by
  have hn := nm_len ⟨o.val, ho⟩
  simp only at hn
  by_cases h0 : m = 0
  · subst h0
    refine ⟨(nm o.val, 1), ?_, rfl⟩
    show (code_Code_line.f (mkC o ⟨0, _⟩) 0 0).bind _ = _
    rw [line0_ok o ⟨0, by omega⟩ 0 0 ho rfl]; rfl
  obtain ⟨z, rest, rfl⟩ : ∃ z t, rest = z :: t := by
    cases rest with
    | nil =>
      have hmm : m = 1 ∨ m = 2 ∨ m = 3 ∨ m = 4 ∨ m = 5 ∨ m = 6 ∨ m = 7 ∨ m = 8 ∨ m = 9 ∨ m = 10 ∨ m = 11 := by omega
      rcases hmm with rfl | rfl | rfl | rfl | rfl | rfl | rfl | rfl | rfl | rfl | rfl <;> simp [szN] at hlen
    | cons z t => exact ⟨z, t, rfl⟩
  have s1 : (((szN m : Nat) : Int) == 1) = false := by
    have hmm : m = 1 ∨ m = 2 ∨ m = 3 ∨ m = 4 ∨ m = 5 ∨ m = 6 ∨ m = 7 ∨ m = 8 ∨ m = 9 ∨ m = 10 ∨ m = 11 := by omega
    rcases hmm with rfl | rfl | rfl | rfl | rfl | rfl | rfl | rfl | rfl | rfl | rfl <;> rfl
  by_cases h10 : m = 10
  · subst h10
    refine ⟨((nm o.val ++ [32]) ++ ([36] ++ hexL 4 (relN a z.val)), 2), ?_, ?_⟩
    · show (code_Code_line.f (mkC o ⟨10, _⟩) (IntKind.wrap .u16 ((IntKind.wrap .u16 ((a : Int) + 2)) + (IntKind.wrap .u16 (IntKind.wrap .i8 (z.val : Int))))) ((4 : Nat) : Int)).bind _ = _
      rw [rel_code, line_ok o ⟨10, by omega⟩ _ 4 ho (by simp) (by simp) (rel_lt _ _) (.inr rfl), Option.bind_some, drsV10]
      simp [szN]
    · show (kotatsuref09_Hex.f (IntKind.wrap .i64 (z.val : Int)) 2).bind _ = _
      rw [rhexi, Option.bind_some, lim_ok (by simp [hexL_len]), Option.bind_some]
      exact ref_rel o b z (rest.map fun z => (z.val : Int)) a ha (hexL 2 z.val) ([36] ++ hexL 2 z.val) hn ((szN 10 : Nat) : Int)
  have m10 : (((m : Nat) : Int) == 10) = false := by simp; omega
  by_cases h3 : szN m = 3
  · obtain ⟨y, rest, rfl⟩ : ∃ y t, rest = y :: t := by
      cases rest with
      | nil => rw [h3] at hlen; simp at hlen
      | cons z t => exact ⟨z, t, rfl⟩
    refine ⟨((nm o.val ++ [32]) ++ (((drsF m).1 ++ (36 :: (hexL 2 y.val ++ hexL 2 z.val))) ++ (drsF m).2), 3), ?_, ?_⟩
    · have t3 : (((szN m : Nat) : Int) == 3) = true := by rw [h3]; rfl
      simp only [code_Text.j1, mkC, m10, cond_false, t3, cond_true, List.map_cons, lg1, lg2, Option.bind_some]
      have hl := line_ok o ⟨m, by omega⟩ (z.val + 256 * y.val) 4 ho hm h0 (by omega) (.inr rfl)
      rw [word z.val y.val z.isLt y.isLt]
      refine (congrArg (fun q => Option.bind q _) hl).trans ?_
      rw [hex42 z.val y.val z.isLt y.isLt]
      simp [h3]
    · have t3 : (((szN m : Nat) : Int) == 3) = true := by rw [h3]; rfl
      simp only [kotatsuref09_Text.j1, s1, cond_false, t3, cond_true, List.map_cons, lg1, lg2, Option.bind_some, rhexi]
      rw [lim_ok (by simp [hexL_len]), Option.bind_some, lim_ok (by simp [hexL_len]), Option.bind_some, lim_ok (by simp [hexL_len]), Option.bind_some]
      rw [ref_j2 o m hm h0 h10 _ _ _ _ _ (by simp [hexL_len]) (by simp [hexL_len]) hn]
      simp [h3]
  · have h2 : szN m = 2 := by
      have hmm : m = 1 ∨ m = 2 ∨ m = 3 ∨ m = 4 ∨ m = 5 ∨ m = 6 ∨ m = 7 ∨ m = 8 ∨ m = 9 ∨ m = 11 := by omega
      rcases hmm with rfl | rfl | rfl | rfl | rfl | rfl | rfl | rfl | rfl | rfl <;> first | rfl | exact absurd rfl h3
    refine ⟨((nm o.val ++ [32]) ++ (((drsF m).1 ++ (36 :: hexL 2 z.val)) ++ (drsF m).2), 2), ?_, ?_⟩
    · have t3 : (((szN m : Nat) : Int) == 3) = false := by rw [h2]; rfl
      have t2 : (((szN m : Nat) : Int) == 2) = true := by rw [h2]; rfl
      simp only [code_Text.j1, mkC, m10, cond_false, t3, t2, cond_true, List.map_cons, lg1, Option.bind_some]
      have hl := line_ok o ⟨m, by omega⟩ z.val 2 ho hm h0 (by omega) (.inl rfl)
      rw [wrapU16 (i := (z.val : Int)) (by omega) (by omega)]
      refine (congrArg (fun q => Option.bind q _) hl).trans ?_
      simp [h2]
    · have t3 : (((szN m : Nat) : Int) == 3) = false := by rw [h2]; rfl
      simp only [kotatsuref09_Text.j1, s1, cond_false, t3, List.map_cons, lg1, Option.bind_some, rhexi]
      rw [lim_ok (by simp [hexL_len]), Option.bind_some]
      rw [ref_j2 o m hm h0 h10 _ _ _ _ _ (by simp [hexL_len]) (by simp [hexL_len]) hn]
      simp [h2]

theorem text_all (p : List (Fin 256)) (a : Nat) (ha : a < 65536) : ∃ r, code_Text.f (p.map fun z => (z.val : Int)) (a : Int) = some r ∧ kotatsuref09_Text.f (p.map fun z => (z.val : Int)) (a : Int) = some r := by
  cases p with
  | nil => exact ⟨([], 0), rfl, rfl⟩
  | cons b rest =>
    obtain ⟨x, hx, hf⟩ := fb_of b
    have hl0 : ((((b :: rest).map fun z => (z.val : Int)).length : Int) == 0) = false := by simp; omega
    have hwb : IntKind.wrap .i64 (b.val : Int) = (b.val : Int) := wrapI (by omega) (by omega)
    have hsz : code_Code_Size.f (mkC (oB b) (mB b)) = some ((szN (mB b).val : Nat) : Int) := (size_chk (mB b)).1.trans (sz_ok ⟨(mB b).val, mB_lt b⟩)
    have hrs : kotatsuref09_Size.f (mkR (oB b) (mB b)).f_Mode = some ((szN (mB b).val : Nat) : Int) := sz_ok ⟨(mB b).val, mB_lt b⟩
    have hb := byteC (oB b) (mB b)
    have hrb := byteR (oB b) (mB b)
    rw [hf] at hb hrb
    have hbyte : ∃ r, ((code_hex.f (IntKind.wrap .u16 (b.val : Int)) 2).bind fun q => (lim (([66, 89, 84, 69, 32] : List UInt8).length + q.length)).bind fun _ => some (([66, 89, 84, 69, 32] : List UInt8) ++ q, (1 : Int))) = some r ∧
        ((kotatsuref09_Hex.f (b.val : Int) 2).bind fun q => (lim (([66, 89, 84, 69, 32, 36] : List UInt8).length + q.length)).bind fun _ => some (([66, 89, 84, 69, 32, 36] : List UInt8) ++ q, (1 : Int))) = some r := by
      have h1 := hexc b.val 2 (by omega) (.inl rfl)
      have h2 := rhex_ok b.val 2 (by omega) (by omega)
      rw [wrapU16 (i := (b.val : Int)) (by omega) (by omega)]
      refine ⟨([66, 89, 84, 69, 32] ++ (36 :: hexL 2 b.val), 1), ?_, ?_⟩
      · refine (congrArg (fun q => Option.bind q _) h1).trans ?_
        rw [Option.bind_some, lim_ok (by simp [hexL_len]), Option.bind_some]
      · refine (congrArg (fun q => Option.bind q _) h2).trans ?_
        rw [Option.bind_some, lim_ok (by simp [hexL_len]), Option.bind_some]; rfl
    simp only [code_Text.f, kotatsuref09_Text.f, hl0, cond_false, List.map_cons, lg0, Option.bind_some, hwb, of_ok b.val b.isLt, ofR_ok b.val b.isLt]
    rw [ofC_mk, ofR_mk, hsz, hrs]
    simp only [Option.bind_some, hb, hrb]
    cases hne : ((x : Int) != (b.val : Int)) with
    | true => simp only [cond_true]; exact hbyte
    | false =>
      simp only [cond_false]
      cases hlt : decide ((((b.val : Int) :: rest.map fun z => (z.val : Int)).length : Int) < ((szN (mB b).val : Nat) : Int)) with
      | true => simp only [cond_true]; exact hbyte
      | false =>
        simp only [cond_false]
        have hlen : szN (mB b).val ≤ rest.length + 1 := by
          have := of_decide_eq_false hlt
          simp at this; omega
        exact text_same (oB b) (mB b).val (mB_lt b) (oB_lt b) b rest a ha hlen

/-! ### the first bytes of some -/
theorem cut_loop (a0 : List Int) (k : Nat) (hl : a0.length ≤ 9223372036854775807) (hk : k ≤ 1000) : ∀ (d i f : Nat), i + d = a0.length → d < f → kotatsuref01_Cut.l1 a0 (k : Int) f ((a0.take i).take k, (i : Int)) = some (a0.take k)
  | 0, i, f, h, hf => by
    obtain ⟨f, rfl⟩ : ∃ f', f = f' + 1 := ⟨f - 1, by omega⟩
    have h1 : decide ((i : Int) < (a0.length : Int)) = false := by simp; omega
    simp only [kotatsuref01_Cut.l1, h1, cond_false]
    have : a0.take i = a0 := List.take_of_length_le (by omega)
    rw [this]
  | d + 1, i, f, h, hf => by
    obtain ⟨f, rfl⟩ : ∃ f', f = f' + 1 := ⟨f - 1, by omega⟩
    have h1 : decide ((i : Int) < (a0.length : Int)) = true := by simp; omega
    have hz : a0[i]? = some (a0[i]'(by omega)) := List.getElem?_eq_getElem _
    generalize a0[i]'(by omega) = z at hz
    have hw : IntKind.wrap .i64 ((i : Int) + 1) = ((i + 1 : Nat) : Int) := by rw [wrapI (by omega) (by omega)]; rfl
    simp only [kotatsuref01_Cut.l1, h1, cond_true, lget_ok hz, Option.bind_some, hw]
    have ih := cut_loop a0 k hl hk d (i + 1) f (by omega) (by omega)
    by_cases hik : i < k
    · have h2 : decide ((i : Int) < (k : Int)) = true := by simp; omega
      simp only [h2, cond_true]
      rw [lim_ok (by simp; omega), Option.bind_some]
      have e : (a0.take i).take k ++ [z] = (a0.take (i + 1)).take k := by
        rw [List.take_take, List.take_take, Nat.min_eq_right (by omega), Nat.min_eq_right (by omega), take_get hz]
      rw [e]; exact ih
    · have h2 : decide ((i : Int) < (k : Int)) = false := by simp; omega
      simp only [h2, cond_false]
      have e : (a0.take i).take k = (a0.take (i + 1)).take k := by
        rw [List.take_take, List.take_take, Nat.min_eq_left (by omega), Nat.min_eq_left (by omega)]
      rw [e]; exact ih
theorem cut_ok (a0 : List Int) (k : Nat) (hl : a0.length ≤ 9223372036854775807) (hk : k ≤ 1000) : kotatsuref01_Cut.f a0 (k : Int) = some (a0.take k) := by
  have := cut_loop a0 k hl hk a0.length 0 (((a0.length : Int) - 0 : Int).toNat + 2) (by omega) (by omega)
  have e : (a0.take 0).take k = [] := by simp
  rw [e] at this
  exact this
theorem bytes_of : ∀ (l : List Int), (∀ a ∈ l, (Lit.int .u8 a).wf = true) → ∃ p : List (Fin 256), l = p.map fun z => (z.val : Int)
  | [], _ => ⟨[], rfl⟩
  | a :: l, h => by
    obtain ⟨n, hn⟩ := byte_of (h a (by simp))
    obtain ⟨p, hp⟩ := bytes_of l fun b hb => h b (by simp [hb])
    exact ⟨n :: p, by rw [hn, hp]; rfl⟩
theorem word_of {a : Int} (h : (Lit.int .u16 a).wf = true) : ∃ n : Nat, n < 65536 ∧ a = (n : Int) := by
  have h1 : 0 ≤ a ∧ a ≤ 65535 := by simpa [Lit.wf, IntKind.min, IntKind.max, IntKind.signed, IntKind.bits] using h
  exact ⟨a.toNat, by omega, by omega⟩
theorem maxLen_le {n : Nat} (h : n ≤ maxLen) : n ≤ 9223372036854775807 := by unfold maxLen at h; omega
theorem kotatsulaw09_CodeTexts.pure : ∀ (a0 : List Int), (a0.length ≤ maxLen ∧ ∀ a ∈ a0, (Lit.int .u8 a).wf = true) → ∀ (a1 : Int), (Lit.int .u16 a1).wf = true → kotatsulaw09_CodeTexts.f a0 a1 = some true := by
  intro a0 h0 a1 h1
  obtain ⟨n, hn, rfl⟩ := word_of h1
  obtain ⟨p, hp⟩ := bytes_of (a0.take 4) fun a ha => h0.2 a (List.mem_of_mem_take ha)
  have hc := cut_ok a0 4 (maxLen_le h0.1) (by omega)
  obtain ⟨r, h2, h3⟩ := text_all p n hn
  have hw : IntKind.wrap .i64 (n : Int) = (n : Int) := wrapI (by omega) (by omega)
  simp only [kotatsulaw09_CodeTexts.f, awake_true, Option.bind_some, Bool.not_true, cond_false]
  show (kotatsuref01_Cut.f a0 ((4 : Nat) : Int)).bind _ = _
  rw [hc, hp]
  simp only [Option.bind_some, h2, hw, h3, beq_self_eq_true, cond_true]
end Go.Proofs.YtpbcbfbichfioaaDoor
