/- Plain laws of layer 9: lines that are none, and the parts of the document's reading. -/
import Derived.Test.YtpbcbfbichfioaaGreatDoorListPure
namespace Go.Proofs.YtpbcbfbichfioaaGreatDoor
open Kot Go
set_option linter.unusedVariables false
set_option linter.unusedSimpArgs false
set_option maxRecDepth 100000

/-! ### the program, at lines that are none -/
theorem find_loop (x : List UInt8) : ∀ (d i f : Nat), i + d = 70 → d < f → (∀ j : Nat, j < i → nm (j : Int) ≠ x) →
    (∃ o : Fin 256, o.val < 70 ∧ x = nm o.val ∧ alu_Find.l1 x f (i : Int) = some ((o.val : Int), true)) ∨ ((∀ j : Nat, j < 70 → nm (j : Int) ≠ x) ∧ alu_Find.l1 x f (i : Int) = some (0, false))
  | d, i, 0, _, hf, _ => absurd hf (by omega)
  | 0, i, f + 1, h, hf, hj => by
    obtain rfl : i = 70 := by omega
    exact .inr ⟨hj, rfl⟩
  | d + 1, i, f + 1, h, hf, hj => by
    have e : decide ((i : Int) < 70) = true := by simp; omega
    have hn := nm_alu ⟨i, by omega⟩
    simp only at hn
    simp only [alu_Find.l1, e, cond_true, wrapU8 i (by omega), hn, Option.bind_some]
    cases hq : (nm (i : Int) == x) with
    | true =>
      refine .inl ⟨⟨i, by omega⟩, (show i < 70 by omega), ?_, rfl⟩
      exact (eq_of_beq hq).symm
    | false =>
      simp only [cond_false]
      rw [wrapA i (by omega)]
      refine find_loop x d (i + 1) f (by omega) (by omega) fun j hj' => ?_
      rcases Nat.lt_succ_iff_lt_or_eq.mp hj' with h1 | rfl
      · exact hj j h1
      · intro h2; rw [h2] at hq; simp at hq
theorem find_all (x : List UInt8) : (∃ o : Fin 256, o.val < 70 ∧ x = nm o.val ∧ alu_Find.f x = some ((o.val : Int), true)) ∨ ((∀ j : Nat, j < 70 → nm (j : Int) ≠ x) ∧ alu_Find.f x = some (0, false)) :=
  find_loop x 70 0 ((70 - 0 : Int).toNat + 2) (by omega) (by decide) (fun j hj => absurd hj (by omega))
/-- no line -/
def NoLine (s : List UInt8) : Prop := (∀ b : Fin 256, s ≠ [66, 89, 84, 69] ++ 32 :: 36 :: hexL 2 b.val) ∧ (∀ o : Fin 256, o.val < 70 → s ≠ nm o.val) ∧ (∀ (o : Fin 256) (m n : Nat), o.val < 70 → 1 ≤ m → m < 12 → n < 16 ^ wantN m → s = nm o.val ++ 32 :: form m n → fbN o m = none)
theorem code_none (s : List UInt8) (a : Int) (hl : s.length ≤ 100) (H : NoLine s) : code_Parse.f s a = some ([], 12) := by
  obtain ⟨hA, hB, hC⟩ := H
  by_cases h32 : (32 : UInt8) ∈ s
  · obtain ⟨x, r, rfl, hx⟩ := split_mem h32
    have hc := cut_yes x r hx (by omega)
    have hxr : x.length + r.length ≤ 99 := by simp at hl; omega
    obtain ⟨v, k, ok, h4, h5⟩ := number_all r (by omega)
    have hj : code_Parse.j1 a (x, r, true) () = some ([], 12) := by
      simp only [code_Parse.j1]
      rcases find_all x with ⟨o, ho, rfl, hf⟩ | ⟨_, hf⟩
      · simp only [hf, Option.bind_some, Bool.not_true, cond_false]
        exact modes_none o r a (nm o.val) (by omega) 11 1 _ rfl (by decide) fun m n h1 h2 h3 h4 => hC o m n ho h1 h2 h3 (by rw [h4])
      · simp only [hf, Option.bind_some, Bool.not_false, cond_true]
    simp only [code_Parse.f, hc, Option.bind_some, h4]
    cases hb : (x == ([66, 89, 84, 69] : List UInt8)) with
    | false => simp only [cond_false, hj]
    | true =>
      simp only [cond_true]
      cases ok with
      | false => simp only [cond_false, hj]
      | true =>
        simp only [cond_true]
        obtain ⟨d, n, hd, hn, hs, hv, hk⟩ := h5 rfl
        cases h2 : (k == 2) with
        | false => simp only [cond_false, hj]
        | true =>
          exfalso
          have hk2 : k = 2 := by simpa using h2
          have hd2 : d = 2 := by omega
          subst hd2
          have hx4 := eq_of_beq hb
          exact hA ⟨n, by simpa using hn⟩ (by rw [hx4, hs])
  · have hn : code_number.f ([] : List UInt8) = some (0, 0, false) := rfl
    have hj : code_Parse.j1 a (s, [], false) () = some ([], 12) := by
      simp only [code_Parse.j1]
      rcases find_all s with ⟨o, ho, rfl, hf⟩ | ⟨_, hf⟩
      · exact absurd rfl (hB o ho)
      · simp only [hf, Option.bind_some, Bool.not_false, cond_true]
    simp only [code_Parse.f, cut_no _ h32, Option.bind_some, hn, cond_false, hj]
    cases (s == ([66, 89, 84, 69] : List UInt8)) <;> rfl

/-! ### the document's digits -/
def hxK (c : UInt8) : Nat → Nat → Int → Int
  | 0, _, k => k
  | r + 1, d, k => hxK c r (d + 1) (bif ((upC d).toNat : Int) == (c.toNat : Int) then (d : Int) else k)
def hxI (c : UInt8) : Int := hxK c 16 0 (-1)
theorem hx_dec : ∀ c : Fin 256, (isHx (UInt8.ofNat c.val) = true → 0 ≤ hxI (UInt8.ofNat c.val) ∧ hxI (UInt8.ofNat c.val) < 16 ∧ upC (hxI (UInt8.ofNat c.val)).toNat = UInt8.ofNat c.val) ∧ (isHx (UInt8.ofNat c.val) = false → hxI (UInt8.ofNat c.val) = -1) := by decide +kernel
theorem hx_all (c : UInt8) : (isHx c = true → 0 ≤ hxI c ∧ hxI c < 16 ∧ upC (hxI c).toNat = c) ∧ (isHx c = false → hxI c = -1) := by
  have := hx_dec ⟨c.toNat, c.toNat_lt⟩
  simpa using this
theorem up_get : ∀ d : Fin 16, lget ([48, 49, 50, 51, 52, 53, 54, 55, 56, 57, 65, 66, 67, 68, 69, 70] : List UInt8) (d.val : Int) = some (upC d.val) := by decide +kernel
def dFin (n i : Int) (K : (Int × Int) → Option (Int × Bool)) (k : Int) : Option (Int × Bool) := bif decide (k < 0) then some (0, false) else K (IntKind.wrap .i64 ((IntKind.wrap .i64 (16 * n)) + k), IntKind.wrap .i64 (i + 1))
theorem dig_in (s : List UInt8) (n i : Int) (c : UInt8) (K : (Int × Int) → Option (Int × Bool)) (hc : lget s i = some c) : ∀ (r d f : Nat) (k : Int), d + r = 16 → r < f → 
    kotatsuref09_digits.l4 s (n, i) K f (k, (d : Int)) = dFin n i K (hxK c r d k)
  | r, d, 0, _, _, hf => absurd hf (by omega)
  | 0, d, f + 1, k, h, hf => by
    have e : decide ((d : Int) < 16) = false := by simp; omega
    simp only [kotatsuref09_digits.l4, e, cond_false, hxK, bnd, dFin]
    rfl
  | r + 1, d, f + 1, k, h, hf => by
    have e : decide ((d : Int) < 16) = true := by simp; omega
    have hg := up_get ⟨d, by omega⟩
    simp only at hg
    simp only [kotatsuref09_digits.l4, e, cond_true, hg, Option.bind_some, hc, hxK]
    rw [wrapA d (by omega)]
    cases ((upC d).toNat : Int) == (c.toNat : Int) with
    | true => exact dig_in s n i c K hc r (d + 1) f (d : Int) (by omega) (by omega)
    | false => exact dig_in s n i c K hc r (d + 1) f k (by omega) (by omega)
/-- the number of digits; none: one of them is none -/
def dg : List UInt8 → Nat → Option Nat
  | [], n => some n
  | c :: t, n => bif isHx c then dg t (16 * n + (hxI c).toNat) else none
theorem dig_loop (s : List UInt8) (hl : s.length ≤ 100) : ∀ (t : List UInt8) (i j n f : Nat), t.length < f → (s.drop i).take t.length = t → i + t.length = j → j ≤ s.length → t.length ≤ 6 → n + 1 ≤ 16 ^ (6 - t.length) →
    kotatsuref09_digits.l1 s (j : Int) f ((n : Int), (i : Int)) = some (match dg t n with | some x => ((x : Int), true) | none => (0, false))
  | t, i, j, n, 0, hf, _, _, _, _, _ => absurd hf (by omega)
  | [], i, j, n, f + 1, hf, ht, hi, hj, h6, hn => by
    have e : decide ((i : Int) < (j : Int)) = false := by simp at hi ⊢; omega
    simp only [kotatsuref09_digits.l1, e, cond_false, dg]
  | c :: t, i, j, n, f + 1, hf, ht, hi, hj, h6, hn => by
    have hlen : (c :: t).length = t.length + 1 := rfl
    have e : decide ((i : Int) < (j : Int)) = true := by simp; omega
    have hdr : s.drop i = c :: s.drop (i + 1) := by
      have hz : s[i]? = some (s[i]'(by omega)) := by simp
      have h1 := drop_get hz
      rw [h1, hlen, List.take_succ_cons] at ht
      rw [h1, (List.cons.inj ht).1]
    have hc : lget s (i : Int) = some c := lget_ok (by
      have : (s.drop i)[0]? = some c := by rw [hdr]; rfl
      simpa using this)
    have ht' : (s.drop (i + 1)).take t.length = t := by
      rw [hdr, hlen, List.take_succ_cons] at ht
      exact (List.cons.inj ht).2
    have hin := dig_in s (n : Int) (i : Int) c (kotatsuref09_digits.l1 s (j : Int) f) hc 16 0 ((16 - 0 : Int).toNat + 2) (-1) rfl (by decide)
    simp only [kotatsuref09_digits.l1, e, cond_true]
    refine hin.trans ?_
    show (bif decide (hxI c < 0) then _ else kotatsuref09_digits.l1 s (j : Int) f (IntKind.wrap .i64 ((IntKind.wrap .i64 (16 * (n : Int))) + hxI c), IntKind.wrap .i64 ((i : Int) + 1))) = _
    have hx := hx_all c
    cases hq : isHx c with
    | false =>
      rw [hx.2 hq]
      simp only [dg, hq, cond_false]
      rfl
    | true =>
      obtain ⟨k1, k2, _⟩ := hx.1 hq
      have e0 : decide (hxI c < 0) = false := by simp; omega
      have hp : 16 * (16 ^ (6 - (t.length + 1))) = 16 ^ (6 - t.length) := by
        have : 6 - t.length = (6 - (t.length + 1)) + 1 := by omega
        rw [this, Nat.pow_succ, Nat.mul_comm]
      have hb : 16 ^ (6 - t.length) ≤ 16 ^ 6 := Nat.pow_le_pow_right (by decide) (by omega)
      rw [hlen] at hn
      have hw : IntKind.wrap .i64 ((IntKind.wrap .i64 (16 * (n : Int))) + hxI c) = ((16 * n + (hxI c).toNat : Nat) : Int) := by
        have hb' : (16 : Nat) ^ 6 = 16777216 := rfl
        rw [wrapI (i := 16 * (n : Int)) (by omega) (by omega), wrapI (by omega) (by omega)]
        omega
      rw [e0, cond_false, hw, wrapA i (by omega)]
      simp only [dg, hq, cond_true]
      exact dig_loop s hl t (i + 1) j _ f (by omega) ht' (by omega) hj (by omega) (by omega)
theorem dig_ok (s t : List UInt8) (i j : Nat) (hl : s.length ≤ 100) (ht : (s.drop i).take t.length = t) (hi : i + t.length = j) (hj : j ≤ s.length) (h6 : t.length ≤ 5) :
    kotatsuref09_digits.f s (i : Int) (j : Int) = some (match dg t 0 with | some x => ((x : Int), true) | none => (0, false)) :=
  dig_loop s hl t i j 0 _ (by omega) ht hi hj (by omega) (Nat.one_le_pow _ _ (by decide))
theorem dg_some : ∀ (t : List UInt8) (n : Nat), (∀ c ∈ t, isHx c = true) → ∃ x, dg t n = some x
  | [], n, _ => ⟨n, rfl⟩
  | c :: t, n, h => by
    simp only [dg, h c (by simp), cond_true]
    exact dg_some t _ fun d hd => h d (by simp [hd])
theorem dg_none : ∀ (t : List UInt8) (n : Nat), dg t n = none ∨ ∀ c ∈ t, isHx c = true
  | [], n => .inr (by simp)
  | c :: t, n => by
    cases hq : isHx c with
    | false => left; simp only [dg, hq, cond_false]
    | true =>
      rcases dg_none t (16 * n + (hxI c).toNat) with h | h
      · left; simp only [dg, hq, cond_true]; exact h
      · right
        intro d hd
        rcases List.mem_cons.1 hd with rfl | hd
        · exact hq
        · exact h d hd
theorem dg2 (t : List UInt8) (h2 : t.length = 2) (h : ∀ c ∈ t, isHx c = true) : ∃ x, x < 256 ∧ dg t 0 = some x ∧ t = hexL 2 x := by
  match t, h2 with
  | [p, q], _ =>
    obtain ⟨a1, a2, a3⟩ := (hx_all p).1 (h p (by simp))
    obtain ⟨b1, b2, b3⟩ := (hx_all q).1 (h q (by simp))
    refine ⟨16 * (hxI p).toNat + (hxI q).toNat, by omega, ?_, ?_⟩
    · simp [dg, h p (by simp), h q (by simp)]
    · rw [hexL2, show (16 * (hxI p).toNat + (hxI q).toNat) / 16 % 16 = (hxI p).toNat by omega, show (16 * (hxI p).toNat + (hxI q).toNat) % 16 = (hxI q).toNat by omega, a3, b3]
theorem dg4 (t : List UInt8) (h4 : t.length = 4) (h : ∀ c ∈ t, isHx c = true) : ∃ x, x < 65536 ∧ dg t 0 = some x ∧ t = hexL 4 x := by
  match t, h4 with
  | [p, q, r, s], _ =>
    obtain ⟨a1, a2, a3⟩ := (hx_all p).1 (h p (by simp))
    obtain ⟨b1, b2, b3⟩ := (hx_all q).1 (h q (by simp))
    obtain ⟨c1, c2, c3⟩ := (hx_all r).1 (h r (by simp))
    obtain ⟨d1, d2, d3⟩ := (hx_all s).1 (h s (by simp))
    refine ⟨16 * (16 * (16 * (hxI p).toNat + (hxI q).toNat) + (hxI r).toNat) + (hxI s).toNat, by omega, ?_, ?_⟩
    · simp [dg, h p (by simp), h q (by simp), h r (by simp), h s (by simp)]
    · have ha : (hxI p).toNat < 16 := by omega
      have hb : (hxI q).toNat < 16 := by omega
      have hc : (hxI r).toNat < 16 := by omega
      have hd : (hxI s).toNat < 16 := by omega
      generalize (hxI p).toNat = P at *
      generalize (hxI q).toNat = Q at *
      generalize (hxI r).toNat = R at *
      generalize (hxI s).toNat = S at *
      rw [hexL4, show (16 * (16 * (16 * P + Q) + R) + S) / 16 / 16 / 16 % 16 = P by omega, show (16 * (16 * (16 * P + Q) + R) + S) / 16 / 16 % 16 = Q by omega, show (16 * (16 * (16 * P + Q) + R) + S) / 16 % 16 = R by omega, show (16 * (16 * (16 * P + Q) + R) + S) % 16 = S by omega, a3, b3, c3, d3]
theorem dgW (t : List UInt8) (w : Nat) (hw : w = 2 ∨ w = 4) (ht : t.length = w) (h : ∀ c ∈ t, isHx c = true) : ∃ x, x < 16 ^ w ∧ dg t 0 = some x ∧ t = hexL w x := by
  rcases hw with rfl | rfl
  · exact dg2 t ht h
  · exact dg4 t ht h

/-! ### the document's modes -/
def MF : List (List UInt8) → Nat → List UInt8 → Int
  | [], _, _ => -1
  | l :: L, i, X => bif !(l == ([] : List UInt8)) then (bif l == X then (i : Int) else MF L (i + 1) X) else MF L (i + 1) X
theorem mode_loop (fr bk : List UInt8) (h : fr.length + bk.length ≤ 100) (All : List (List UInt8)) (hA : All.length = 12) : ∀ (L : List (List UInt8)) (i f : Nat), All.drop i = L → i + L.length = 12 → L.length < f →
    kotatsuref09_mode.l2 fr bk All f (i : Int) = some (MF L i ((fr ++ [124]) ++ bk))
  | L, i, 0, _, _, hf => absurd hf (by omega)
  | [], i, f + 1, hd, hi, hf => by
    have e : decide ((i : Int) < (All.length : Int)) = false := by simp at hi ⊢; omega
    simp only [kotatsuref09_mode.l2, e, cond_false, MF]
  | l :: L, i, f + 1, hd, hi, hf => by
    have hlen : (l :: L).length = L.length + 1 := rfl
    have e : decide ((i : Int) < (All.length : Int)) = true := by simp; omega
    have hget : All[i]? = some l := by
      have : (All.drop i)[0]? = some l := by rw [hd]; rfl
      simpa using this
    have hdn : All.drop (i + 1) = L := by
      have : (All.drop i).drop 1 = L := by rw [hd]; rfl
      rw [List.drop_drop] at this; exact this
    have ih := mode_loop fr bk h All hA L (i + 1) f hdn (by omega) (by omega)
    have l1 : lim (fr.length + ([124] : List UInt8).length) = some () := lim_ok (by simp; omega)
    have l2 : lim ((fr ++ ([124] : List UInt8)).length + bk.length) = some () := lim_ok (by simp; omega)
    simp only [kotatsuref09_mode.l2, e, cond_true, lget_ok hget, Option.bind_some, l1, l2, wrapA i (show i ≤ 100000 by omega), ih, MF]
    cases (l == ([] : List UInt8)) <;> cases (l == ((fr ++ [124]) ++ bk)) <;> rfl
theorem bar_uniq {fr bk p q : List UInt8} (h : (fr ++ [124]) ++ bk = p ++ 124 :: q) (hp : (124 : UInt8) ∉ p) (hq : (124 : UInt8) ∉ q) : fr = p ∧ bk = q := by
  have h1 : fr ++ 124 :: bk = p ++ 124 :: q := by simpa using h
  have hc : List.count 124 fr + List.count 124 bk = 0 := by
    have := congrArg (List.count (124 : UInt8)) h1
    simp only [List.count_append, List.count_cons_self] at this
    rw [List.count_eq_zero.2 hp, List.count_eq_zero.2 hq] at this
    omega
  have hf : (124 : UInt8) ∉ fr := List.count_eq_zero.1 (by omega)
  exact split_uniq hf hp h1
theorem drs_bar : ∀ k : Fin 12, (124 : UInt8) ∉ (drsF k.val).1 ∧ (124 : UInt8) ∉ (drsF k.val).2 := by decide +kernel
theorem mode_spec (fr bk : List UInt8) (w : Nat) (hw : w = 2 ∨ w = 4) (h : fr.length + bk.length ≤ 100) :
    (kotatsuref09_mode.f fr bk (w : Int) = some (-1) ∧ ∀ k, 1 ≤ k → k < 12 → k ≠ 10 → wantN k = w → ¬(fr = (drsF k).1 ∧ bk = (drsF k).2)) ∨
    ∃ k, 1 ≤ k ∧ k < 12 ∧ k ≠ 10 ∧ wantN k = w ∧ kotatsuref09_mode.f fr bk (w : Int) = some (k : Int) ∧ fr = (drsF k).1 ∧ bk = (drsF k).2 := by
  have hit : ∀ k, k < 12 → ((drsF k).1 ++ 124 :: (drsF k).2 == ((fr ++ [124]) ++ bk)) = true → fr = (drsF k).1 ∧ bk = (drsF k).2 := fun k hk he => by
    obtain ⟨b1, b2⟩ := drs_bar ⟨k, hk⟩
    exact bar_uniq (eq_of_beq he).symm b1 b2
  have miss : ∀ k, k < 12 → ((drsF k).1 ++ 124 :: (drsF k).2 == ((fr ++ [124]) ++ bk)) = false → ¬(fr = (drsF k).1 ∧ bk = (drsF k).2) := fun k hk he => by
    rintro ⟨rfl, rfl⟩
    simp at he
  rcases hw with rfl | rfl
  · have hm : kotatsuref09_mode.f fr bk ((2 : Nat) : Int) = some (MF [[], [35, 124], [124], [124, 44, 88], [124, 44, 89], [], [], [], [40, 124, 44, 88, 41], [40, 124, 41, 44, 89], [], []] 0 ((fr ++ [124]) ++ bk)) :=
      mode_loop fr bk h _ rfl _ 0 _ rfl rfl (by decide)
    rw [hm]
    have m1 := miss 1 (by decide); have m2 := miss 2 (by decide); have m3 := miss 3 (by decide); have m4 := miss 4 (by decide); have m8 := miss 8 (by decide); have m9 := miss 9 (by decide)
    have t1 := hit 1 (by decide); have t2 := hit 2 (by decide); have t3 := hit 3 (by decide); have t4 := hit 4 (by decide); have t8 := hit 8 (by decide); have t9 := hit 9 (by decide)
    simp only [drsV1, drsV2, drsV3, drsV4, drsV8, drsV9, List.cons_append, List.nil_append] at m1 m2 m3 m4 m8 m9 t1 t2 t3 t4 t8 t9
    cases h1 : (([35, 124] : List UInt8) == ((fr ++ [124]) ++ bk)) with
    | true => refine .inr ⟨1, by omega, by omega, by omega, rfl, ?_, by rw [drsV1]; exact t1 h1⟩; simp only [MF, h1]; rfl
    | false =>
    cases h2 : (([124] : List UInt8) == ((fr ++ [124]) ++ bk)) with
    | true => refine .inr ⟨2, by omega, by omega, by omega, rfl, ?_, by rw [drsV2]; exact t2 h2⟩; simp only [MF, h1, h2]; rfl
    | false =>
    cases h3 : (([124, 44, 88] : List UInt8) == ((fr ++ [124]) ++ bk)) with
    | true => refine .inr ⟨3, by omega, by omega, by omega, rfl, ?_, by rw [drsV3]; exact t3 h3⟩; simp only [MF, h1, h2, h3]; rfl
    | false =>
    cases h4 : (([124, 44, 89] : List UInt8) == ((fr ++ [124]) ++ bk)) with
    | true => refine .inr ⟨4, by omega, by omega, by omega, rfl, ?_, by rw [drsV4]; exact t4 h4⟩; simp only [MF, h1, h2, h3, h4]; rfl
    | false =>
    cases h8 : (([40, 124, 44, 88, 41] : List UInt8) == ((fr ++ [124]) ++ bk)) with
    | true => refine .inr ⟨8, by omega, by omega, by omega, rfl, ?_, by rw [drsV8]; exact t8 h8⟩; simp only [MF, h1, h2, h3, h4, h8]; rfl
    | false =>
    cases h9 : (([40, 124, 41, 44, 89] : List UInt8) == ((fr ++ [124]) ++ bk)) with
    | true => refine .inr ⟨9, by omega, by omega, by omega, rfl, ?_, by rw [drsV9]; exact t9 h9⟩; simp only [MF, h1, h2, h3, h4, h8, h9]; rfl
    | false =>
      refine .inl ⟨by simp only [MF, h1, h2, h3, h4, h8, h9]; rfl, fun k k1 k2 k3 k4 => ?_⟩
      have hk : k = 1 ∨ k = 2 ∨ k = 3 ∨ k = 4 ∨ k = 5 ∨ k = 6 ∨ k = 7 ∨ k = 8 ∨ k = 9 ∨ k = 11 := by omega
      rcases hk with rfl | rfl | rfl | rfl | rfl | rfl | rfl | rfl | rfl | rfl
      · rw [drsV1]; exact m1 h1
      · rw [drsV2]; exact m2 h2
      · rw [drsV3]; exact m3 h3
      · rw [drsV4]; exact m4 h4
      · exact absurd k4 (by decide)
      · exact absurd k4 (by decide)
      · exact absurd k4 (by decide)
      · rw [drsV8]; exact m8 h8
      · rw [drsV9]; exact m9 h9
      · exact absurd k4 (by decide)
  · have hm : kotatsuref09_mode.f fr bk ((4 : Nat) : Int) = some (MF [[], [], [], [], [], [124], [124, 44, 88], [124, 44, 89], [], [], [], [40, 124, 41]] 0 ((fr ++ [124]) ++ bk)) :=
      mode_loop fr bk h _ rfl _ 0 _ rfl rfl (by decide)
    rw [hm]
    have m5 := miss 5 (by decide); have m6 := miss 6 (by decide); have m7 := miss 7 (by decide); have m11 := miss 11 (by decide)
    have t5 := hit 5 (by decide); have t6 := hit 6 (by decide); have t7 := hit 7 (by decide); have t11 := hit 11 (by decide)
    simp only [drsV5, drsV6, drsV7, drsV11, List.cons_append, List.nil_append] at m5 m6 m7 m11 t5 t6 t7 t11
    cases h5 : (([124] : List UInt8) == ((fr ++ [124]) ++ bk)) with
    | true => refine .inr ⟨5, by omega, by omega, by omega, rfl, ?_, by rw [drsV5]; exact t5 h5⟩; simp only [MF, h5]; rfl
    | false =>
    cases h6 : (([124, 44, 88] : List UInt8) == ((fr ++ [124]) ++ bk)) with
    | true => refine .inr ⟨6, by omega, by omega, by omega, rfl, ?_, by rw [drsV6]; exact t6 h6⟩; simp only [MF, h5, h6]; rfl
    | false =>
    cases h7 : (([124, 44, 89] : List UInt8) == ((fr ++ [124]) ++ bk)) with
    | true => refine .inr ⟨7, by omega, by omega, by omega, rfl, ?_, by rw [drsV7]; exact t7 h7⟩; simp only [MF, h5, h6, h7]; rfl
    | false =>
    cases h11 : (([40, 124, 41] : List UInt8) == ((fr ++ [124]) ++ bk)) with
    | true => refine .inr ⟨11, by omega, by omega, by omega, rfl, ?_, by rw [drsV11]; exact t11 h11⟩; simp only [MF, h5, h6, h7, h11]; rfl
    | false =>
      refine .inl ⟨by simp only [MF, h5, h6, h7, h11]; rfl, fun k k1 k2 k3 k4 => ?_⟩
      have hk : k = 1 ∨ k = 2 ∨ k = 3 ∨ k = 4 ∨ k = 5 ∨ k = 6 ∨ k = 7 ∨ k = 8 ∨ k = 9 ∨ k = 11 := by omega
      rcases hk with rfl | rfl | rfl | rfl | rfl | rfl | rfl | rfl | rfl | rfl
      · exact absurd k4 (by decide)
      · exact absurd k4 (by decide)
      · exact absurd k4 (by decide)
      · exact absurd k4 (by decide)
      · rw [drsV5]; exact m5 h5
      · rw [drsV6]; exact m6 h6
      · rw [drsV7]; exact m7 h7
      · exact absurd k4 (by decide)
      · exact absurd k4 (by decide)
      · rw [drsV11]; exact m11 h11

/-! ### the document's names -/
def NL : List (List UInt8) := (kotatsuref08_Names.f).getD []
theorem names_ok : kotatsuref08_Names.f = some NL := rfl
theorem NL_ok : NL.length = 70 ∧ ∀ i : Fin 70, NL[i.val]? = some (nm i.val) := by decide +kernel
theorem kind_dec : ∀ i : Fin 70, (match kotatsuref08_Kind.f (i.val : Int) with | some k => k != 0 | none => false) = true := by decide +kernel
theorem kind_loop (z : List UInt8) : ∀ (d i f : Nat), i + d = 70 → d < f → (∀ j : Nat, j < i → nm (j : Int) ≠ z) →
    (∃ o : Fin 256, o.val < 70 ∧ z = nm o.val ∧ ∃ k, k ≠ 0 ∧ kotatsuref09_kind.l1 z NL f (i : Int) = some k) ∨ ((∀ j : Nat, j < 70 → nm (j : Int) ≠ z) ∧ kotatsuref09_kind.l1 z NL f (i : Int) = some 0)
  | d, i, 0, _, hf, _ => absurd hf (by omega)
  | 0, i, f + 1, h, hf, hj => by
    obtain rfl : i = 70 := by omega
    have e : decide (((70 : Nat) : Int) < (NL.length : Int)) = false := by rw [NL_ok.1]; rfl
    exact .inr ⟨hj, by simp only [kotatsuref09_kind.l1, e, cond_false]⟩
  | d + 1, i, f + 1, h, hf, hj => by
    have e : decide ((i : Int) < (NL.length : Int)) = true := by rw [NL_ok.1]; simp; omega
    have hn := NL_ok.2 ⟨i, by omega⟩
    have hk := kind_dec ⟨i, by omega⟩
    simp only at hn hk
    simp only [kotatsuref09_kind.l1, e, cond_true, lget_ok hn, Option.bind_some]
    cases hq : (nm (i : Int) == z) with
    | true =>
      refine .inl ⟨⟨i, by omega⟩, (show i < 70 by omega), (eq_of_beq hq).symm, ?_⟩
      cases hv : kotatsuref08_Kind.f (i : Int) with
      | none => rw [hv] at hk; cases hk
      | some k =>
        rw [hv] at hk
        exact ⟨k, by simpa using hk, rfl⟩
    | false =>
      simp only [cond_false]
      rw [wrapA i (by omega)]
      refine kind_loop z d (i + 1) f (by omega) (by omega) fun j hj' => ?_
      rcases Nat.lt_succ_iff_lt_or_eq.mp hj' with h1 | rfl
      · exact hj j h1
      · intro h2; rw [h2] at hq; simp at hq
theorem kind_all (z : List UInt8) : (∃ o : Fin 256, o.val < 70 ∧ z = nm o.val ∧ ∃ k, k ≠ 0 ∧ kotatsuref09_kind.f z = some k) ∨ ((∀ j : Nat, j < 70 → nm (j : Int) ≠ z) ∧ kotatsuref09_kind.f z = some 0) := by
  simp only [kotatsuref09_kind.f, names_ok, Option.bind_some]
  exact kind_loop z 70 0 (((NL.length : Int) - 0 : Int).toNat + 2) (by omega) (by rw [NL_ok.1]; decide) (fun j hj => absurd hj (by omega))
end Go.Proofs.YtpbcbfbichfioaaGreatDoor
