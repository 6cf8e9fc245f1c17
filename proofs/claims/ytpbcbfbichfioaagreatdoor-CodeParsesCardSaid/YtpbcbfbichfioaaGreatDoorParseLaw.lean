/- Plain laws of layer 9: whatever the line, the program's bytes are the document's. -/
import Derived.Test.YtpbcbfbichfioaaGreatDoorParsePure
namespace Go.Proofs.YtpbcbfbichfioaaGreatDoor
open Kot Go
set_option linter.unusedVariables false
set_option linter.unusedSimpArgs false
set_option maxRecDepth 100000

/-- hexadecimal digits ahead, at most k -/
theorem pre_of : ∀ (k : Nat) (tl : List UInt8), ∃ pre bk, tl = pre ++ bk ∧ (∀ c ∈ pre, isHx c = true) ∧ pre.length ≤ k ∧ (pre.length = k ∨ bk = [] ∨ ∃ c t, bk = c :: t ∧ isHx c = false)
  | 0, tl => ⟨[], tl, rfl, by simp, by simp, .inl rfl⟩
  | k + 1, [] => ⟨[], [], rfl, by simp, by simp, .inr (.inl rfl)⟩
  | k + 1, c :: tl => by
    cases hq : isHx c with
    | false => exact ⟨[], c :: tl, rfl, by simp, by simp, .inr (.inr ⟨c, tl, rfl, hq⟩)⟩
    | true =>
      obtain ⟨pre, bk, h1, h2, h3, h4⟩ := pre_of k tl
      refine ⟨c :: pre, bk, by rw [h1]; rfl, ?_, by simpa using h3, ?_⟩
      · intro d hd
        rcases List.mem_cons.1 hd with rfl | hd
        · exact hq
        · exact h2 d hd
      · rcases h4 with h | h
        · exact .inl (by simp [h])
        · exact .inr h
theorem pre_uniq {pre bk q : List UInt8} {w n : Nat} (hq : (match q with | [] => true | c :: _ => !isHx c) = true) (h : pre ++ bk = hexL w n ++ q) (hw : w = 2 ∨ w = 4) (hp : ∀ c ∈ pre, isHx c = true) (h4 : pre.length ≤ 4) (hb : pre.length = 4 ∨ bk = [] ∨ ∃ c t, bk = c :: t ∧ isHx c = false) :
    pre = hexL w n ∧ bk = q := by
  rcases hb with hb | hb | ⟨c, t, rfl, hc⟩
  · rcases hw with rfl | rfl
    · exfalso
      match pre, hb with
      | [p1, p2, p3, p4], _ =>
        rw [hexL2] at h
        simp only [List.cons_append, List.nil_append, List.cons.injEq] at h
        have h3 := hp p3 (by simp)
        rw [← h.2.2] at hq
        simp [h3] at hq
    · exact List.append_inj h (by rw [hb, hexL_len])
  · subst hb
    exact hx_split hp (hexL_hx _ _) rfl hq h
  · exact hx_split hp (hexL_hx _ _) (by simp [hc]) hq h
theorem nm_inj : ∀ {o o' : Fin 256}, o.val < 70 → nm o.val = nm o'.val → o = o' := fun {o o'} ho h => by
  have := nm_eq ⟨o.val, ho⟩ o'
  simp only at this
  rw [h] at this
  simp only [beq_self_eq_true] at this
  have h2 : (o.val : Int) = (o'.val : Int) := eq_of_beq this.symm
  exact Fin.ext (by omega)
theorem nm_byt : ∀ o : Fin 70, nm o.val ≠ ([66, 89, 84] : List UInt8) := by decide +kernel
theorem form_len : ∀ m : Fin 12, (drsF m.val).1.length + wantN m.val + (drsF m.val).2.length ≤ 6 := by decide +kernel

/-! ### the document's walk along a line -/
theorem l6_at (s z : List UInt8) (a : Int) (hl : s.length ≤ 100) : ∀ (fr : List UInt8) (i f : Nat) (tl : List UInt8), (36 : UInt8) ∉ fr → s.drop i = fr ++ tl → (tl = [] ∨ ∃ t, tl = 36 :: t) → fr.length < f → i ≤ s.length →
    kotatsuref09_Parse.l6 s a z f (i : Int) = kotatsuref09_Parse.j5 s a z ((i + fr.length : Nat) : Int)
  | fr, i, 0, tl, _, _, _, hf, _ => absurd hf (by omega)
  | [], i, f + 1, tl, h36, hd, ht, hf, hi => by
    rcases ht with rfl | ⟨t, rfl⟩
    · have hlen : s.length ≤ i := by
        have := congrArg List.length hd
        simp at this; omega
      have e : decide ((i : Int) < (s.length : Int)) = false := by simp; omega
      simp only [kotatsuref09_Parse.l6, e, cond_false]; rfl
    · have hlen : i < s.length := by
        have := congrArg List.length hd
        simp at this; omega
      have e : decide ((i : Int) < (s.length : Int)) = true := by simp; omega
      have hg : lget s (i : Int) = some 36 := lget_ok (by
        have : (s.drop i)[0]? = some 36 := by rw [hd]; rfl
        simpa using this)
      have e2 : (((36 : UInt8).toNat : Int) != 36) = false := rfl
      simp only [kotatsuref09_Parse.l6, e, cond_true, hg, Option.bind_some, e2, cond_false]; rfl
  | c :: fr, i, f + 1, tl, h36, hd, ht, hf, hi => by
    have hlen : i < s.length := by
      have := congrArg List.length hd
      simp at this; omega
    have e : decide ((i : Int) < (s.length : Int)) = true := by simp; omega
    have hg : lget s (i : Int) = some c := lget_ok (by
      have : (s.drop i)[0]? = some c := by rw [hd]; rfl
      simpa using this)
    have hc : c ≠ 36 := fun h => h36 (by rw [h]; simp)
    have e2 : ((c.toNat : Int) != 36) = true := by
      have : c.toNat ≠ 36 := fun h => hc (UInt8.toNat_inj.1 h)
      simp; omega
    have hd' : s.drop (i + 1) = fr ++ tl := by
      have : (s.drop i).drop 1 = fr ++ tl := by rw [hd]; rfl
      rw [List.drop_drop] at this; exact this
    simp only [kotatsuref09_Parse.l6, e, cond_true, hg, Option.bind_some, e2, cond_true]
    rw [wrapA i (by omega), l6_at s z a hl fr (i + 1) f tl (fun h => h36 (by simp [h])) hd' ht (by simp at hf; omega) (by omega)]
    rw [show i + 1 + fr.length = i + (c :: fr).length by simp; omega]
theorem l9_at (s z : List UInt8) (a : Int) (hl : s.length ≤ 100) (from_ : Nat) (bk : List UInt8) (w : Nat) (hw : w ≤ 4) (hb : w = 4 ∨ bk = [] ∨ ∃ c t, bk = c :: t ∧ isHx c = false) : ∀ (pre : List UInt8) (i f : Nat), (∀ c ∈ pre, isHx c = true) → s.drop i = pre ++ bk → i + pre.length = from_ + 1 + w → from_ + 1 ≤ i → pre.length < f → i ≤ s.length →
    kotatsuref09_Parse.l9 s a z (from_ : Int) f (i : Int) = kotatsuref09_Parse.j8 s a z (from_ : Int) ((from_ + 1 + w : Nat) : Int)
  | pre, i, 0, _, _, _, _, hf, _ => absurd hf (by omega)
  | [], i, f + 1, hp, hd, hi, hi2, hf, his => by
    have hiw : i = from_ + 1 + w := by simpa using hi
    rcases hb with hb | rfl | ⟨c, t, rfl, hc⟩
    · have hw5 : IntKind.wrap .i64 ((from_ : Int) + 5) = (from_ : Int) + 5 := wrapI (by omega) (by omega)
      have e : decide ((i : Int) < IntKind.wrap .i64 ((from_ : Int) + 5)) = false := by rw [hw5]; simp; omega
      simp only [kotatsuref09_Parse.l9, e, cond_false]
      rw [← hiw]
      cases decide ((i : Int) < (s.length : Int)) <;> rfl
    · have hlen : s.length ≤ i := by
        have := congrArg List.length hd
        simp at this; omega
      have e : decide ((i : Int) < (s.length : Int)) = false := by simp; omega
      simp only [kotatsuref09_Parse.l9, e, cond_false]
      rw [hiw]
    · have hlen : i < s.length := by
        have := congrArg List.length hd
        simp at this; omega
      have e : decide ((i : Int) < (s.length : Int)) = true := by simp; omega
      have ht1 : (s.drop i).take 1 = [c] := by rw [hd]; rfl
      have hdg := dig_ok s [c] i (i + 1) hl ht1 rfl (by omega) (by simp)
      have hdn : dg [c] 0 = none := by simp only [dg, hc, cond_false]
      rw [hdn] at hdg
      have hj : kotatsuref09_Parse.j12 s a z (from_ : Int) (i : Int) (kotatsuref09_Parse.l9 s a z (from_ : Int) f) () = kotatsuref09_Parse.j8 s a z (from_ : Int) (i : Int) := by
        simp only [kotatsuref09_Parse.j12]
        rw [wrapA i (by omega), hdg]; rfl
      simp only [kotatsuref09_Parse.l9, e, cond_true, hj]
      rw [← hiw]
      cases decide ((i : Int) < IntKind.wrap .i64 ((from_ : Int) + 5)) <;> rfl
  | c :: pre, i, f + 1, hp, hd, hi, hi2, hf, his => by
    have hlc : (c :: pre).length = pre.length + 1 := rfl
    have hlen : i < s.length := by
      have := congrArg List.length hd
      simp at this; omega
    have e : decide ((i : Int) < (s.length : Int)) = true := by simp; omega
    have hw5 : IntKind.wrap .i64 ((from_ : Int) + 5) = (from_ : Int) + 5 := wrapI (by omega) (by omega)
    have e2 : decide ((i : Int) < IntKind.wrap .i64 ((from_ : Int) + 5)) = true := by rw [hw5]; simp; omega
    have ht1 : (s.drop i).take 1 = [c] := by rw [hd]; rfl
    have hdg := dig_ok s [c] i (i + 1) hl ht1 rfl (by omega) (by simp)
    have hdn : dg [c] 0 = some (16 * 0 + (hxI c).toNat) := by simp only [dg, hp c (by simp), cond_true]
    rw [hdn] at hdg
    have hd' : s.drop (i + 1) = pre ++ bk := by
      have : (s.drop i).drop 1 = pre ++ bk := by rw [hd]; rfl
      rw [List.drop_drop] at this; exact this
    have ih := l9_at s z a hl from_ bk w hw hb pre (i + 1) f (fun d hd => hp d (by simp [hd])) hd' (by omega) (by omega) (by omega) (by omega)
    simp only [kotatsuref09_Parse.l9, e, cond_true, e2, kotatsuref09_Parse.j12]
    rw [wrapA i (by omega), hdg]
    exact ih

/-- the code of a line in the document's reading -/
theorem j13_ok (o : Fin 256) (ho : o.val < 70) (fr pre bk : List UInt8) (c3 : UInt8) (x w a : Nat) (ha : a < 65536) (hw : w = 2 ∨ w = 4) (hx : x < 16 ^ w) (hpre : pre = hexL w x) (s : List UInt8) (hs : s = nm o.val ++ c3 :: (fr ++ 36 :: (pre ++ bk))) (hl : s.length ≤ 14) :
    (kotatsuref09_Parse.j13 s (a : Int) (nm o.val) ((4 + fr.length : Nat) : Int) ((4 + fr.length + 1 + w : Nat) : Int) ((x : Int), true) (w : Int) () = some ([], 12) ∧ ∀ k, 1 ≤ k → k < 12 → wantN k = w → fr = (drsF k).1 ∧ bk = (drsF k).2 → fbN o k = none) ∨
    ∃ m, 1 ≤ m ∧ m < 12 ∧ wantN m = w ∧ fbN o m ≠ none ∧ fr = (drsF m).1 ∧ bk = (drsF m).2 ∧
      kotatsuref09_Parse.j13 s (a : Int) (nm o.val) ((4 + fr.length : Nat) : Int) ((4 + fr.length + 1 + w : Nat) : Int) ((x : Int), true) (w : Int) () = bytesS o m x (a : Int) := by
  have hnl : (nm o.val).length = 3 := nm_len ⟨o.val, ho⟩
  have hpl : pre.length = w := by rw [hpre, hexL_len]
  have hsl : s.length = 4 + fr.length + 1 + w + bk.length := by rw [hs]; simp [hnl, hpl]; omega
  have s1 : lsub s 4 ((4 + fr.length : Nat) : Int) = some fr := by
    refine (lsub_ok (i := 4) (j := 4 + fr.length) (by omega) (by omega)).trans ?_
    congr 1
    have e : s = ((nm o.val ++ [c3]) ++ fr) ++ (36 :: (pre ++ bk)) := by rw [hs]; simp
    have e4 : (nm o.val ++ [c3]).length = 4 := by simp [hnl]
    have e5 : ((nm o.val ++ [c3]) ++ fr).length = 4 + fr.length := by rw [List.length_append, e4]
    rw [e, List.take_left' e5, List.drop_left' e4]
  have s2 : lsub s ((4 + fr.length + 1 + w : Nat) : Int) (s.length : Int) = some bk := by
    rw [lsub_all (by omega)]
    congr 1
    have e : s = (nm o.val ++ c3 :: (fr ++ 36 :: pre)) ++ bk := by rw [hs]; simp
    have e4 : (nm o.val ++ c3 :: (fr ++ 36 :: pre)).length = 4 + fr.length + 1 + w := by simp [hnl, hpl]; omega
    rw [e, ← e4, List.drop_left]
  have hbyte : ∀ k : Nat, k < 12 → kotatsuref09_Byte.f (⟨nm o.val, (k : Int)⟩ : kotatsuref09_Code) = some (match fbN o k with | some b => (b : Int) | none => -1) := fun k hk => by
    have := byteR o ⟨k, by omega⟩
    unfold fbN
    rw [dif_pos (show k < 256 by omega)]
    exact this
  have hx16 : x < 65536 := by rcases hw with rfl | rfl <;> omega
  have tail : ∀ k : Nat, k < 12 → k ≠ 10 → 1 ≤ k → wantN k = w → kotatsuref09_Parse.j14 (nm o.val) ((x : Int), true) (w : Int) (k : Int) () = match fbN o k with | some b => bytesS o k x (a : Int) | none => some ([], 12) := fun k hk h10 h1 hkw => by
    have e0 : decide ((k : Int) < 0) = false := by simp
    simp only [kotatsuref09_Parse.j14, e0, cond_false, hbyte k hk, Option.bind_some]
    cases hf : fbN o k with
    | none => rfl
    | some b =>
      have e1 : decide ((b : Int) < 0) = false := by simp
      have hfb : fb o ⟨k, by omega⟩ = some b := by unfold fbN at hf; rw [dif_pos (show k < 256 by omega)] at hf; exact hf
      obtain ⟨hb256, _⟩ := fb_spec _ _ _ hfb
      simp only [e1, cond_false, kotatsuref09_Parse.j16, hbyte k hk, hf, Option.bind_some]
      rw [bytesS_eq o k (by omega), wrapU8 b hb256]
      rcases hw with rfl | rfl
      · have h3 : szN k ≠ 3 := by intro h; rw [want_of h10, if_pos h] at hkw; omega
        rw [bytes2 o ⟨k, by omega⟩ b x a hfb hk h10 h3]; rfl
      · have h3 : szN k = 3 := by
          rw [want_of h10] at hkw
          by_cases h : szN k = 3
          · exact h
          · rw [if_neg h] at hkw; omega
        rw [bytes3 o ⟨k, by omega⟩ b x a hfb hk h10 h3]
        have t1 : IntKind.wrap .u8 (Int.tmod (x : Int) 256) = IntKind.wrap .u8 (x : Int) := by
          rw [Int.tmod_eq_emod_of_nonneg (by omega), wrapU8m, wrapU8m]; omega
        have t2 : quo .i64 (x : Int) 256 = ((x / 256 : Nat) : Int) := by
          unfold quo
          rw [Int.tdiv_eq_ediv_of_nonneg (by omega), wrapI (by omega) (by omega)]; rfl
        have e4 : (((4 : Nat) : Int) == 2) = false := rfl
        rw [e4, cond_false, t1, t2, shr8]
  rcases mode_spec fr bk w hw (by omega) with ⟨hm, hno⟩ | ⟨k, k1, k2, k3, k4, hm, hfr, hbk⟩
  · left
    constructor
    · have e5 : ((-1 : Int) == 5) = false := rfl
      simp only [kotatsuref09_Parse.j13, s1, s2, Option.bind_some, hm, e5, cond_false, kotatsuref09_Parse.j15, kotatsuref09_Parse.j14]
      rfl
    · intro k k1 k2 k4 hk
      by_cases h10 : k = 10
      · subst h10
        have h5 : fr = (drsF 5).1 ∧ bk = (drsF 5).2 := by rw [drsV5]; rw [drsV10] at hk; exact hk
        exact absurd h5 (hno 5 (by decide) (by decide) (by decide) k4)
      · exact absurd hk (hno k k1 k2 h10 k4)
  · by_cases h5 : k = 5
    · subst h5
      have e5 : (((5 : Nat) : Int) == 5) = true := rfl
      have hb10 := hbyte 10 (by decide)
      cases hf : fbN o 10 with
      | some b =>
        right
        have hfb : fb o ⟨10, by omega⟩ = some b := hf
        obtain ⟨hb256, _⟩ := fb_spec _ _ _ hfb
        have hw4 : w = 4 := by rw [← k4]; rfl
        refine ⟨10, by decide, by decide, by rw [hw4]; rfl, by rw [hf]; simp, by rw [hfr, drsV5, drsV10], by rw [hbk, drsV5, drsV10], ?_⟩
        rw [hf] at hb10
        have e0 : decide ((0 : Int) ≤ (b : Int)) = true := by simp
        have hfar : Int.tmod (IntKind.wrap .i64 ((IntKind.wrap .i64 ((IntKind.wrap .i64 ((x : Int) - (a : Int))) - 2)) + 131072)) 65536 = ((farN x a : Nat) : Int) := by
          rw [wrapI (i := (x : Int) - (a : Int)) (by omega) (by omega), wrapI (i := (x : Int) - (a : Int) - 2) (by omega) (by omega), wrapI (by omega) (by omega), Int.tmod_eq_emod_of_nonneg (by omega)]
          unfold farN; omega
        have hb10' : kotatsuref09_Byte.f (⟨nm o.val, 10⟩ : kotatsuref09_Code) = some (b : Int) := hb10
        simp only [kotatsuref09_Parse.j13, s1, s2, Option.bind_some, hm, e5, cond_true, hb10', e0, kotatsuref09_Parse.j15, hfar, bnd]
        rw [bytesS_eq o 10 (by omega), bytes10 o b x a hfb hx16 ha, wrapU8 b hb256]
        have d1 : decide ((127 : Int) < ((farN x a : Nat) : Int)) = decide (128 ≤ farN x a) := by simp only [decide_eq_decide]; omega
        have d2 : decide (((farN x a : Nat) : Int) < 65408) = decide (farN x a < 65408) := by simp only [decide_eq_decide]; omega
        have d3 : IntKind.wrap .u8 (Int.tmod ((farN x a : Nat) : Int) 256) = IntKind.wrap .u8 ((farN x a : Nat) : Int) := by
          rw [Int.tmod_eq_emod_of_nonneg (by omega), wrapU8m, wrapU8m]; omega
        rw [d1, d2, d3]
        cases decide (128 ≤ farN x a) <;> cases decide (farN x a < 65408) <;> rfl
      | none =>
        rw [hf] at hb10
        have hb10' : kotatsuref09_Byte.f (⟨nm o.val, 10⟩ : kotatsuref09_Code) = some (-1) := hb10
        have e0 : decide ((0 : Int) ≤ (-1 : Int)) = false := rfl
        have hj : kotatsuref09_Parse.j13 s (a : Int) (nm o.val) ((4 + fr.length : Nat) : Int) ((4 + fr.length + 1 + w : Nat) : Int) ((x : Int), true) (w : Int) () = kotatsuref09_Parse.j14 (nm o.val) ((x : Int), true) (w : Int) ((5 : Nat) : Int) () := by
          simp only [kotatsuref09_Parse.j13, s1, s2, Option.bind_some, hm, e5, cond_true, hb10', e0, kotatsuref09_Parse.j15, cond_false]
        rw [hj, tail 5 k2 k3 k1 k4]
        cases hf5 : fbN o 5 with
        | some b => exact .inr ⟨5, k1, k2, k4, by rw [hf5]; simp, hfr, hbk, rfl⟩
        | none =>
          refine .inl ⟨rfl, fun m m1 m2 m4 hm' => ?_⟩
          have hd : drsF m = drsF 5 := Prod.ext (by rw [← hm'.1, hfr]) (by rw [← hm'.2, hbk])
          rcases drs_inj ⟨m, m2⟩ ⟨5, by decide⟩ (by simp; omega) (by decide) hd (by rw [show wantN (⟨m, m2⟩ : Fin 12).val = w from m4, ← k4]) with h | h | h
          · simp only at h; rw [h]; exact hf5
          · simp only at h; omega
          · simp only at h; rw [h.1]; exact hf
    · have e5 : ((k : Int) == 5) = false := by simp; omega
      have hj : kotatsuref09_Parse.j13 s (a : Int) (nm o.val) ((4 + fr.length : Nat) : Int) ((4 + fr.length + 1 + w : Nat) : Int) ((x : Int), true) (w : Int) () = kotatsuref09_Parse.j14 (nm o.val) ((x : Int), true) (w : Int) (k : Int) () := by
        simp only [kotatsuref09_Parse.j13, s1, s2, Option.bind_some, hm, e5, cond_false, kotatsuref09_Parse.j15]
      rw [hj, tail k k2 k3 k1 k4]
      cases hf5 : fbN o k with
      | some b => exact .inr ⟨k, k1, k2, k4, by rw [hf5]; simp, hfr, hbk, rfl⟩
      | none =>
        refine .inl ⟨rfl, fun m m1 m2 m4 hm' => ?_⟩
        have hd : drsF m = drsF k := Prod.ext (by rw [← hm'.1, hfr]) (by rw [← hm'.2, hbk])
        rcases drs_inj ⟨m, m2⟩ ⟨k, k2⟩ (by simp; omega) (by simp; omega) hd (by show wantN m = wantN k; rw [m4, k4]) with h | h | h
        · simp only at h; rw [h]; exact hf5
        · simp only at h; omega
        · simp only at h; omega
end Go.Proofs.YtpbcbfbichfioaaGreatDoor
