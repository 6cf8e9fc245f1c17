/- Plain laws of layer 9: whatever the line, the program's bytes are the document's, and told as that line again. -/
import Derived.Test.YtpbcbfbichfioaaGreatDoorParseLaw
namespace Go.Proofs.YtpbcbfbichfioaaGreatDoor
open Kot Go
set_option linter.unusedVariables false
set_option linter.unusedSimpArgs false
set_option maxRecDepth 100000

/-! ### bytes are told as their line -/
theorem text_alone (o m : Fin 256) (b : Nat) (ho : o.val < 70) (h0 : m.val = 0) (hf : fb o m = some b) (a : Nat) : code_Text.f [(b : Int)] (a : Int) = some (nm o.val, 1) := by
  obtain ⟨hb, hof⟩ := fb_spec o m b hf
  have hl0 : ((([(b : Int)] : List Int).length : Int) == 0) = false := rfl
  have hsz : code_Code_Size.f (mkC o m) = some ((szN m.val : Nat) : Int) := szc _ _ (by omega)
  have hbc := byteC o m
  rw [hf] at hbc
  have hne : ((b : Int) != (b : Int)) = false := by simp
  have hlt : decide (((([(b : Int)] : List Int).length : Nat) : Int) < ((szN m.val : Nat) : Int)) = false := by rw [h0]; rfl
  simp only [code_Text.f, hl0, cond_false, lg0, Option.bind_some, of_ok b hb]
  rw [hof, hsz]
  simp only [Option.bind_some, hbc, hne, cond_false, hlt]
  have m10 : (((m.val : Nat) : Int) == 10) = false := by simp; omega
  have t3 : (((szN m.val : Nat) : Int) == 3) = false := by rw [h0]; rfl
  have t2 : (((szN m.val : Nat) : Int) == 2) = false := by rw [h0]; rfl
  have hl := line0_ok o m 0 0 ho h0
  simp only [code_Text.j1, mkC, m10, cond_false, t3, t2]
  refine (congrArg (fun q => Option.bind q _) hl).trans ?_
  rw [Option.bind_some, h0]; rfl
theorem text_two (o m : Fin 256) (b z : Nat) (ho : o.val < 70) (hm : m.val < 12) (h10 : m.val ≠ 10) (h2 : szN m.val = 2) (hf : fb o m = some b) (hz : z < 256) (a : Nat) : code_Text.f [(b : Int), (z : Int)] (a : Int) = some (nm o.val ++ 32 :: form m.val z, 2) := by
  obtain ⟨hb, hof⟩ := fb_spec o m b hf
  have h0 : m.val ≠ 0 := by intro h; rw [h] at h2; exact absurd h2 (by decide)
  have hl0 : ((([(b : Int), (z : Int)] : List Int).length : Int) == 0) = false := rfl
  have hsz : code_Code_Size.f (mkC o m) = some ((szN m.val : Nat) : Int) := szc _ _ hm
  have hbc := byteC o m
  rw [hf] at hbc
  have hne : ((b : Int) != (b : Int)) = false := by simp
  have hlt : decide (((([(b : Int), (z : Int)] : List Int).length : Nat) : Int) < ((szN m.val : Nat) : Int)) = false := by rw [h2]; rfl
  simp only [code_Text.f, hl0, cond_false, lg0, Option.bind_some, of_ok b hb]
  rw [hof, hsz]
  simp only [Option.bind_some, hbc, hne, cond_false, hlt]
  have m10 : (((m.val : Nat) : Int) == 10) = false := by simp; omega
  have t3 : (((szN m.val : Nat) : Int) == 3) = false := by rw [h2]; rfl
  have t2 : (((szN m.val : Nat) : Int) == 2) = true := by rw [h2]; rfl
  have hw2 : wantN m.val = 2 := by rw [want_of h10, if_neg (by omega)]
  have hfrm : nm o.val ++ 32 :: form m.val z = (((nm o.val ++ [32]) ++ (drsF m.val).1) ++ (36 :: hexL 2 z)) ++ (drsF m.val).2 := by
    unfold form
    rw [hw2]; simp
  have hl := line_ok o m z 2 ho hm h0 (by omega) (.inl rfl)
  simp only [code_Text.j1, mkC, m10, cond_false, t3, t2, cond_true, lg1, Option.bind_some]
  rw [wrapU16 (i := (z : Int)) (by omega) (by omega)]
  refine (congrArg (fun q => Option.bind q _) hl).trans ?_
  rw [Option.bind_some, hfrm, h2]; rfl
theorem text_three (o m : Fin 256) (b z y : Nat) (ho : o.val < 70) (hm : m.val < 12) (h10 : m.val ≠ 10) (h3 : szN m.val = 3) (hf : fb o m = some b) (hz : z < 256) (hy : y < 256) (a : Nat) : code_Text.f [(b : Int), (z : Int), (y : Int)] (a : Int) = some (nm o.val ++ 32 :: form m.val (z + 256 * y), 3) := by
  obtain ⟨hb, hof⟩ := fb_spec o m b hf
  have h0 : m.val ≠ 0 := by intro h; rw [h] at h3; exact absurd h3 (by decide)
  have hl0 : ((([(b : Int), (z : Int), (y : Int)] : List Int).length : Int) == 0) = false := rfl
  have hsz : code_Code_Size.f (mkC o m) = some ((szN m.val : Nat) : Int) := szc _ _ hm
  have hbc := byteC o m
  rw [hf] at hbc
  have hne : ((b : Int) != (b : Int)) = false := by simp
  have hlt : decide (((([(b : Int), (z : Int), (y : Int)] : List Int).length : Nat) : Int) < ((szN m.val : Nat) : Int)) = false := by rw [h3]; rfl
  simp only [code_Text.f, hl0, cond_false, lg0, Option.bind_some, of_ok b hb]
  rw [hof, hsz]
  simp only [Option.bind_some, hbc, hne, cond_false, hlt]
  have m10 : (((m.val : Nat) : Int) == 10) = false := by simp; omega
  have t3 : (((szN m.val : Nat) : Int) == 3) = true := by rw [h3]; rfl
  have hw4 : wantN m.val = 4 := by rw [want_of h10, if_pos h3]
  have hfrm : nm o.val ++ 32 :: form m.val (z + 256 * y) = (((nm o.val ++ [32]) ++ (drsF m.val).1) ++ (36 :: hexL 4 (z + 256 * y))) ++ (drsF m.val).2 := by
    unfold form
    rw [hw4]; simp
  have hl := line_ok o m (z + 256 * y) 4 ho hm h0 (by omega) (.inr rfl)
  simp only [code_Text.j1, mkC, m10, cond_false, t3, cond_true, lg1, lg2, Option.bind_some]
  rw [word z y hz hy]
  refine (congrArg (fun q => Option.bind q _) hl).trans ?_
  rw [Option.bind_some, hfrm, h3]; rfl
theorem text_rel (o : Fin 256) (b : Nat) (z : Fin 256) (ho : o.val < 70) (hf : fb o ⟨10, by decide⟩ = some b) (a : Nat) : code_Text.f [(b : Int), (z.val : Int)] (a : Int) = some (nm o.val ++ 32 :: form 10 (relN a z.val), 2) := by
  obtain ⟨hb, hof⟩ := fb_spec o _ b hf
  have hl0 : ((([(b : Int), (z.val : Int)] : List Int).length : Int) == 0) = false := rfl
  have hsz : code_Code_Size.f (mkC o ⟨10, by decide⟩) = some ((szN 10 : Nat) : Int) := szc _ _ (by decide)
  have hbc := byteC o ⟨10, by decide⟩
  rw [hf] at hbc
  have hne : ((b : Int) != (b : Int)) = false := by simp
  have hlt : decide (((([(b : Int), (z.val : Int)] : List Int).length : Nat) : Int) < ((szN 10 : Nat) : Int)) = false := rfl
  have hfrm : nm o.val ++ 32 :: form 10 (relN a z.val) = (((nm o.val ++ [32]) ++ (drsF 10).1) ++ (36 :: hexL 4 (relN a z.val))) ++ (drsF 10).2 := by
    unfold form
    rw [show wantN 10 = 4 from rfl]; simp
  simp only [code_Text.f, hl0, cond_false, lg0, Option.bind_some, of_ok b hb]
  rw [hof, hsz]
  simp only [Option.bind_some, hbc, hne, cond_false, hlt]
  show (code_Code_line.f (mkC o ⟨10, _⟩) (IntKind.wrap .u16 ((IntKind.wrap .u16 ((a : Int) + 2)) + (IntKind.wrap .u16 (IntKind.wrap .i8 (z.val : Int))))) ((4 : Nat) : Int)).bind _ = _
  rw [rel_code, line_ok o ⟨10, by decide⟩ _ 4 ho (by decide) (by decide) (rel_lt _ _) (.inr rfl), Option.bind_some, hfrm]
  rfl

/-- what is told of what was read -/
def Told (s : List UInt8) (p : List Int) (e : Int) (a : Nat) : Prop := (e ≠ 0 ∧ p = []) ∨ (3 ≤ s.length ∧ e = 0 ∧ p.length ≤ 3 ∧ (s.take 3 = [66, 89, 84] ∨ code_Text.f p (a : Int) = some (s, (p.length : Int))))
theorem rel_back (n a : Nat) (hn : n < 65536) (ha : a < 65536) (h : ¬(128 ≤ farN n a ∧ farN n a < 65408)) : relN a (farN n a % 256) = n := by
  unfold relN farN at *
  by_cases hz : (n + 131070 - a) % 65536 < 128
  · rw [decide_eq_true (by omega), cond_true]; omega
  · have h3 : 65408 ≤ (n + 131070 - a) % 65536 := by
      rcases Nat.lt_or_ge ((n + 131070 - a) % 65536) 65408 with h4 | h4
      · exact (h ⟨by omega, h4⟩).elim
      · exact h4
    rw [decide_eq_false (by omega), cond_false]; omega
theorem form_told (o : Fin 256) (ho : o.val < 70) (m n a : Nat) (h1 : 1 ≤ m) (hm : m < 12) (hn : n < 16 ^ wantN m) (ha : a < 65536) (hf : fbN o m ≠ none) :
    ∃ p e, bytesS o m n (a : Int) = some (p, e) ∧ Told (nm o.val ++ 32 :: form m n) p e a := by
  have hnl : (nm o.val).length = 3 := nm_len ⟨o.val, ho⟩
  have hlen : 3 ≤ (nm o.val ++ 32 :: form m n).length := by simp [hnl]
  obtain ⟨b, hb⟩ := Option.ne_none_iff_exists'.1 hf
  have hfb : fb o ⟨m, by omega⟩ = some b := by unfold fbN at hb; rw [dif_pos (show m < 256 by omega)] at hb; exact hb
  rw [bytesS_eq o m (by omega)]
  by_cases h10 : m = 10
  · subst h10
    have hn16 : n < 65536 := hn
    rw [bytes10 o b n a hfb hn16 ha]
    cases hc : (decide (128 ≤ farN n a) && decide (farN n a < 65408)) with
    | true => exact ⟨[], 11, rfl, .inl ⟨by decide, rfl⟩⟩
    | false =>
      refine ⟨_, _, rfl, .inr ⟨hlen, rfl, by simp, .inr ?_⟩⟩
      have hw : IntKind.wrap .u8 ((farN n a : Nat) : Int) = (((⟨farN n a % 256, Nat.mod_lt _ (by decide)⟩ : Fin 256).val : Nat) : Int) := by
        rw [wrapU8m]; rfl
      have hr : relN a (farN n a % 256) = n := rel_back n a hn16 ha fun h => by
        rw [decide_eq_true h.1, decide_eq_true h.2] at hc; cases hc
      rw [hw, text_rel o b _ ho hfb a]
      show some (nm o.val ++ 32 :: form 10 (relN a (farN n a % 256)), _) = _
      rw [hr]; rfl
  · by_cases h3 : szN m = 3
    · rw [bytes3 o ⟨m, by omega⟩ b n a hfb hm h10 h3]
      have hw4 : wantN m = 4 := by rw [want_of h10, if_pos h3]
      rw [hw4] at hn
      have e1 : IntKind.wrap .u8 (n : Int) = ((n % 256 : Nat) : Int) := by rw [wrapU8m]; omega
      have e2 : IntKind.wrap .u8 (shr .u16 (n : Int) 8) = ((n / 256 : Nat) : Int) := by rw [shr8, wrapU8m]; omega
      refine ⟨_, _, rfl, .inr ⟨hlen, rfl, by simp, .inr ?_⟩⟩
      rw [e1, e2, text_three o ⟨m, by omega⟩ b _ _ ho hm h10 h3 hfb (by omega) (by omega) a]
      show some (nm o.val ++ 32 :: form m (n % 256 + 256 * (n / 256)), _) = _
      rw [Nat.mod_add_div]; rfl
    · rw [bytes2 o ⟨m, by omega⟩ b n a hfb hm h10 h3]
      have hw2 : wantN m = 2 := by rw [want_of h10, if_neg h3]
      rw [hw2] at hn
      have h2 : szN m = 2 := by
        have hmm : m = 1 ∨ m = 2 ∨ m = 3 ∨ m = 4 ∨ m = 5 ∨ m = 6 ∨ m = 7 ∨ m = 8 ∨ m = 9 ∨ m = 11 := by omega
        rcases hmm with h | h | h | h | h | h | h | h | h | h <;> rw [h] at h3 ⊢ <;> first | rfl | exact absurd rfl h3
      have e1 : IntKind.wrap .u8 (n : Int) = (n : Int) := wrapU8 n (by omega)
      refine ⟨_, _, rfl, .inr ⟨hlen, rfl, by simp, .inr ?_⟩⟩
      rw [e1, text_two o ⟨m, by omega⟩ b _ ho hm h10 h2 hfb (by omega) a]
      rfl

/-! ### whatever the line -/
theorem noline_len (s : List UInt8) (h : s.length < 3 ∨ 11 < s.length) : NoLine s := by
  refine ⟨fun b hs => ?_, fun o ho hs => ?_, fun o m n ho h1 h2 h3 hs => ?_⟩
  · rw [hs] at h; simp [hexL_len] at h
  · have := nm_len ⟨o.val, ho⟩
    simp only at this
    rw [hs, this] at h; omega
  · have h4 := nm_len ⟨o.val, ho⟩
    have h5 := form_len ⟨m, h2⟩
    simp only at h4 h5
    have hfl : (form m n).length ≤ 7 := by simp only [form, List.length_append, List.length_cons, hexL_len]; omega
    rw [hs, List.length_append, List.length_cons, h4] at h
    omega
theorem noline_name (s : List UInt8) (hA : ∀ b : Fin 256, s ≠ [66, 89, 84, 69] ++ 32 :: 36 :: hexL 2 b.val) (hz : ∀ o : Fin 256, o.val < 70 → s.take 3 ≠ nm o.val) : NoLine s := by
  refine ⟨hA, fun o ho hs => ?_, fun o m n ho h1 h2 h3 hs => ?_⟩
  · have h4 := nm_len ⟨o.val, ho⟩
    simp only at h4
    exact hz o ho (by rw [hs, ← h4, List.take_length])
  · have h4 := nm_len ⟨o.val, ho⟩
    simp only at h4
    exact absurd (by rw [hs, ← h4, List.take_left]) (hz o ho)
theorem byt_no (s : List UInt8) (h : s.take 3 = [66, 89, 84]) (o : Fin 256) (ho : o.val < 70) : s.take 3 ≠ nm o.val := by
  rw [h]; exact fun h => nm_byt ⟨o.val, ho⟩ h.symm
/-- a line with an operation's name ahead -/
theorem ref_named (o : Fin 256) (ho : o.val < 70) (t s : List UInt8) (hs : s = nm o.val ++ t) (hl : s.length ≤ 14) (a : Nat) (ha : a < 65536) :
    ∃ p e, code_Parse.f s (a : Int) = some (p, e) ∧ kotatsuref09_Parse.j3 s (a : Int) () = some (p, e) ∧ Told s p e a := by
  have hnl : (nm o.val).length = 3 := nm_len ⟨o.val, ho⟩
  have htk : s.take 3 = nm o.val := by rw [hs, ← hnl, List.take_left]
  have hsl : s.length = 3 + t.length := by rw [hs, List.length_append, hnl]
  have s0 : lsub s 0 3 = some (nm o.val) := (lsub_take (j := 3) (by omega)).trans (by rw [htk])
  have hnb : ∀ b : Fin 256, s ≠ [66, 89, 84, 69] ++ 32 :: 36 :: hexL 2 b.val := fun b h => by
    rw [h] at htk
    exact nm_byt ⟨o.val, ho⟩ htk.symm
  obtain ⟨k, hk0, hk⟩ : ∃ k, k ≠ 0 ∧ kotatsuref09_kind.f (nm o.val) = some k := by
    rcases kind_all (nm o.val) with ⟨_, _, _, h⟩ | ⟨h, _⟩
    · exact h
    · exact absurd rfl (h o.val ho)
  have ek : (k == 0) = false := by simpa using hk0
  cases t with
  | nil =>
    have hsn : s = nm o.val := by rw [hs]; simp
    have hb0 : kotatsuref09_Byte.f (⟨nm o.val, 0⟩ : kotatsuref09_Code) = some (match fbN o 0 with | some b => (b : Int) | none => -1) := byteR o ⟨0, by omega⟩
    have e3 : ((s.length : Int) == 3) = true := by rw [hsl]; rfl
    have hc := parse_alone o ho (a : Int)
    rw [← hsn] at hc
    cases hf : fbN o 0 with
    | none =>
      rw [hf] at hc hb0
      have hb0' : kotatsuref09_Byte.f (⟨nm o.val, 0⟩ : kotatsuref09_Code) = some (-1) := hb0
      refine ⟨[], 12, hc, ?_, .inl ⟨by decide, rfl⟩⟩
      simp only [kotatsuref09_Parse.j3, s0, Option.bind_some, hk, ek, cond_false, e3, cond_true, hb0']
      rfl
    | some b =>
      rw [hf] at hc hb0
      have hfb : fb o ⟨0, by omega⟩ = some b := hf
      obtain ⟨hb256, _⟩ := fb_spec _ _ _ hfb
      have e1 : decide ((b : Int) < 0) = false := by simp
      have hb0' : kotatsuref09_Byte.f (⟨nm o.val, 0⟩ : kotatsuref09_Code) = some (b : Int) := hb0
      refine ⟨[(b : Int)], 0, hc, ?_, .inr ⟨by omega, rfl, by simp, .inr ?_⟩⟩
      · simp only [kotatsuref09_Parse.j3, s0, Option.bind_some, hk, ek, cond_false, e3, cond_true, hb0', e1, wrapU8 b hb256]
      · rw [text_alone o ⟨0, by omega⟩ b ho rfl hfb a, hsn]; rfl
  | cons c3 t =>
    have hsl' : s.length = 4 + t.length := by rw [hsl]; simp; omega
    have e3 : ((s.length : Int) == 3) = false := by simp; omega
    have hd4 : s.drop 4 = t := by
      have e : s = (nm o.val ++ [c3]) ++ t := by rw [hs]; simp
      have e4 : (nm o.val ++ [c3]).length = 4 := by simp [hnl]
      rw [e, List.drop_left' e4]
    have hg3 : lget s 3 = some c3 := lget_ok (i := 3) (by rw [hs, List.getElem?_append_right (by omega), hnl]; rfl)
    have hB : ∀ o' : Fin 256, o'.val < 70 → s ≠ nm o'.val := fun o' ho' h => by
      have := nm_len ⟨o'.val, ho'⟩
      simp only at this
      rw [h, this] at hsl'; omega
    -- the form that a line would have
    have hC : ∀ (o' : Fin 256) (m n : Nat), o'.val < 70 → 1 ≤ m → m < 12 → s = nm o'.val ++ 32 :: form m n → o = o' ∧ c3 = 32 ∧ t = form m n := fun o' m n ho' h1 h2 h => by
      have h4 := nm_len ⟨o'.val, ho'⟩
      simp only at h4
      rw [hs] at h
      obtain ⟨h5, h6⟩ := List.append_inj h (by rw [hnl, h4])
      simp only [List.cons.injEq] at h6
      exact ⟨nm_inj ho h5, h6.1, h6.2⟩
    have hj3 : ∀ r, kotatsuref09_Parse.l6 s (a : Int) (nm o.val) (((s.length : Int) - 4 : Int).toNat + 2) 4 = r → kotatsuref09_Parse.j3 s (a : Int) () = r := fun r h => by
      simp only [kotatsuref09_Parse.j3, s0, Option.bind_some, hk, ek, cond_false, e3, h]
    by_cases h36 : (36 : UInt8) ∈ t
    · obtain ⟨fr, tl, htt, hfr⟩ := split_mem h36
      obtain ⟨pre, bk, htl, hpx, hpl, hpb⟩ := pre_of 4 tl
      have htlen : t.length = fr.length + 1 + pre.length + bk.length := by rw [htt, htl]; simp; omega
      have hl6 := l6_at s (nm o.val) (a : Int) (by omega) fr 4 (((s.length : Int) - 4 : Int).toNat + 2) (36 :: tl) hfr (by rw [hd4, htt]) (.inr ⟨tl, rfl⟩) (by omega) (by omega)
      by_cases hc32 : c3 = 32
      · subst hc32
        have e32 : ((((32 : UInt8).toNat : Nat) : Int) != 32) = false := rfl
        have ele : decide ((s.length : Int) ≤ ((4 + fr.length : Nat) : Int)) = false := by simp; omega
        have hdl : s.drop (4 + fr.length + 1) = pre ++ bk := by
          have : (s.drop 4).drop (fr.length + 1) = pre ++ bk := by
            rw [hd4, htt, htl]
            have e : fr ++ 36 :: (pre ++ bk) = (fr ++ [36]) ++ (pre ++ bk) := by simp
            rw [e, List.drop_left' (by simp)]
          rw [List.drop_drop] at this
          rw [← this]; congr 1
        have hl9 := l9_at s (nm o.val) (a : Int) (by omega) (4 + fr.length) bk pre.length hpl hpb pre (4 + fr.length + 1) (((s.length : Int) - (IntKind.wrap .i64 (((4 + fr.length : Nat) : Int) + 1)) : Int).toNat + 2) hpx hdl rfl (by omega) (by rw [wrapA (4 + fr.length) (by omega)]; omega) (by omega)
        have hj5 : kotatsuref09_Parse.l6 s (a : Int) (nm o.val) (((s.length : Int) - 4 : Int).toNat + 2) 4 = kotatsuref09_Parse.j8 s (a : Int) (nm o.val) ((4 + fr.length : Nat) : Int) ((4 + fr.length + 1 + pre.length : Nat) : Int) := by
          refine hl6.trans ?_
          simp only [kotatsuref09_Parse.j5, hg3, Option.bind_some, e32, cond_false, ele, kotatsuref09_Parse.j7]
          rw [← hl9, wrapA (4 + fr.length) (by omega)]
        have htake : (s.drop (4 + fr.length + 1)).take pre.length = pre := by rw [hdl, List.take_left]
        have hdg := dig_ok s pre (4 + fr.length + 1) (4 + fr.length + 1 + pre.length) (by omega) htake rfl (by omega) (by omega)
        obtain ⟨x, hx⟩ := dg_some pre 0 hpx
        have hsize : IntKind.wrap .i64 ((IntKind.wrap .i64 (((4 + fr.length + 1 + pre.length : Nat) : Int) - ((4 + fr.length : Nat) : Int))) - 1) = ((pre.length : Nat) : Int) := by
          rw [wrapI (i := ((4 + fr.length + 1 + pre.length : Nat) : Int) - ((4 + fr.length : Nat) : Int)) (by omega) (by omega), wrapI (by omega) (by omega)]; omega
        have hj8 : kotatsuref09_Parse.j8 s (a : Int) (nm o.val) ((4 + fr.length : Nat) : Int) ((4 + fr.length + 1 + pre.length : Nat) : Int) = (bif ((pre.length : Nat) : Int) != 2 then (bif ((pre.length : Nat) : Int) != 4 then (some (([] : List Int), 12)) else (kotatsuref09_Parse.j13 s (a : Int) (nm o.val) ((4 + fr.length : Nat) : Int) ((4 + fr.length + 1 + pre.length : Nat) : Int) ((x : Int), true) ((pre.length : Nat) : Int) ())) else (kotatsuref09_Parse.j13 s (a : Int) (nm o.val) ((4 + fr.length : Nat) : Int) ((4 + fr.length + 1 + pre.length : Nat) : Int) ((x : Int), true) ((pre.length : Nat) : Int) ())) := by
          rw [hx] at hdg
          simp only [kotatsuref09_Parse.j8, wrapA (4 + fr.length) (by omega), hdg, Option.bind_some, hsize, bnd]
        by_cases hw : pre.length = 2 ∨ pre.length = 4
        · obtain ⟨x', hx', hdx, hpe⟩ := dgW pre pre.length hw rfl hpx
          rw [hx] at hdx
          obtain rfl := Option.some.inj hdx
          have hj13 : kotatsuref09_Parse.j3 s (a : Int) () = kotatsuref09_Parse.j13 s (a : Int) (nm o.val) ((4 + fr.length : Nat) : Int) ((4 + fr.length + 1 + pre.length : Nat) : Int) ((x : Int), true) ((pre.length : Nat) : Int) () := by
            refine hj3 _ (hj5.trans (hj8.trans ?_))
            rcases hw with h | h <;> rw [h] <;> rfl
          rw [hj13]
          rcases j13_ok o ho fr pre bk 32 x pre.length a ha hw hx' hpe s (by rw [hs, htt, htl]) hl with ⟨h1, h2⟩ | ⟨m, m1, m2, m3, m4, m5, m6, m7⟩
          · refine ⟨[], 12, code_none s _ (by omega) ⟨hnb, hB, fun o' m n ho' k1 k2 k3 hf => ?_⟩, h1, .inl ⟨by decide, rfl⟩⟩
            obtain ⟨rfl, -, htf⟩ := hC o' m n ho' k1 k2 hf
            rw [htt, htl] at htf
            obtain ⟨b1, f1⟩ := back_hx ⟨m, k2⟩
            simp only at b1 f1
            simp only [form, List.append_assoc, List.cons_append] at htf
            obtain ⟨g1, g2⟩ := split_uniq hfr f1 htf
            obtain ⟨g3, g4⟩ := pre_uniq b1 g2 (want_24 m) hpx hpl hpb
            exact h2 m k1 k2 (by rw [g3, hexL_len]) ⟨g1, g4⟩
          · have hform : s = nm o.val ++ 32 :: form m x := by
              rw [hs, htt, htl]
              unfold form
              rw [m3, ← hpe, ← m5, ← m6]; simp
            have hcode := parse_form o ho m x (a : Int) m2 (by omega) (by rw [m3]; exact hx') m4
            rw [← hform] at hcode
            obtain ⟨p, e, h1, h2⟩ := form_told o ho m x a m1 m2 (by rw [m3]; exact hx') ha m4
            rw [← hform] at h2
            exact ⟨p, e, by rw [hcode, h1], by rw [m7, h1], h2⟩
        · refine ⟨[], 12, code_none s _ (by omega) ⟨hnb, hB, fun o' m n ho' k1 k2 k3 hf => ?_⟩, ?_, .inl ⟨by decide, rfl⟩⟩
          · exfalso
            obtain ⟨rfl, -, htf⟩ := hC o' m n ho' k1 k2 hf
            rw [htt, htl] at htf
            obtain ⟨b1, f1⟩ := back_hx ⟨m, k2⟩
            simp only at b1 f1
            simp only [form, List.append_assoc, List.cons_append] at htf
            obtain ⟨g1, g2⟩ := split_uniq hfr f1 htf
            obtain ⟨g3, g4⟩ := pre_uniq b1 g2 (want_24 m) hpx hpl hpb
            exact hw (by rw [g3, hexL_len]; exact want_24 m)
          · refine hj3 _ (hj5.trans (hj8.trans ?_))
            have e2 : (((pre.length : Nat) : Int) != 2) = true := by simp; omega
            have e4 : (((pre.length : Nat) : Int) != 4) = true := by simp; omega
            rw [e2, cond_true, e4, cond_true]
      · refine ⟨[], 12, code_none s _ (by omega) ⟨hnb, hB, fun o' m n ho' k1 k2 k3 hf => absurd (hC o' m n ho' k1 k2 hf).2.1 hc32⟩, ?_, .inl ⟨by decide, rfl⟩⟩
        refine hj3 _ (hl6.trans ?_)
        have e32 : ((c3.toNat : Int) != 32) = true := by
          have : c3.toNat ≠ 32 := fun h => hc32 (UInt8.toNat_inj.1 h)
          simp; omega
        simp only [kotatsuref09_Parse.j5, hg3, Option.bind_some, e32, cond_true]
    · refine ⟨[], 12, code_none s _ (by omega) ⟨hnb, hB, fun o' m n ho' k1 k2 k3 hf => ?_⟩, ?_, .inl ⟨by decide, rfl⟩⟩
      · exfalso
        obtain ⟨-, -, htf⟩ := hC o' m n ho' k1 k2 hf
        exact h36 (by rw [htf]; simp [form])
      · have hl6 := l6_at s (nm o.val) (a : Int) (by omega) t 4 (((s.length : Int) - 4 : Int).toNat + 2) [] h36 (by rw [hd4]; simp) (.inl rfl) (by omega) (by omega)
        refine hj3 _ (hl6.trans ?_)
        have ele : decide ((s.length : Int) ≤ ((4 + t.length : Nat) : Int)) = true := by simp; omega
        simp only [kotatsuref09_Parse.j5, hg3, Option.bind_some, ele, cond_true]
        cases ((c3.toNat : Int) != 32) <;> rfl
theorem parse_same (s : List UInt8) (hl : s.length ≤ 14) (a : Nat) (ha : a < 65536) :
    ∃ p e, code_Parse.f s (a : Int) = some (p, e) ∧ kotatsuref09_Parse.f s (a : Int) = some (p, e) ∧ Told s p e a := by
  by_cases h3 : s.length < 3
  · have e : decide ((s.length : Int) < 3) = true := by simp; omega
    refine ⟨[], 12, code_none s _ (by omega) (noline_len s (.inl h3)), ?_, .inl ⟨by decide, rfl⟩⟩
    simp only [kotatsuref09_Parse.f, e, cond_true]
  have e3 : decide ((s.length : Int) < 3) = false := by simp; omega
  by_cases h11 : 11 < s.length
  · have e : decide ((11 : Int) < (s.length : Int)) = true := by simp; omega
    refine ⟨[], 12, code_none s _ (by omega) (noline_len s (.inr h11)), ?_, .inl ⟨by decide, rfl⟩⟩
    simp only [kotatsuref09_Parse.f, e3, cond_false, e, cond_true]
  have e11 : decide ((11 : Int) < (s.length : Int)) = false := by simp; omega
  have hf : kotatsuref09_Parse.f s (a : Int) = kotatsuref09_Parse.j1 s (a : Int) () := by simp only [kotatsuref09_Parse.f, e3, cond_false, e11]
  rw [hf]
  have t6 : 6 ≤ s.length → lsub s 0 6 = some (s.take 6) := fun h => lsub_take (j := 6) h
  have t36 : (s.take 6).take 3 = s.take 3 := by rw [List.take_take]; rfl
  have named : (∀ b : Fin 256, s ≠ [66, 89, 84, 69] ++ 32 :: 36 :: hexL 2 b.val) → ∃ p e, code_Parse.f s (a : Int) = some (p, e) ∧ kotatsuref09_Parse.j3 s (a : Int) () = some (p, e) ∧ Told s p e a := fun hA => by
    rcases kind_all (s.take 3) with ⟨o, ho, hz, _⟩ | ⟨hno, hk⟩
    · exact ref_named o ho (s.drop 3) s (by rw [← hz, List.take_append_drop]) hl a ha
    · have s0 : lsub s 0 3 = some (s.take 3) := lsub_take (j := 3) (by omega)
      refine ⟨[], 12, code_none s _ (by omega) (noline_name s hA fun o ho h => hno o.val ho h.symm), ?_, .inl ⟨by decide, rfl⟩⟩
      simp only [kotatsuref09_Parse.j3, s0, Option.bind_some, hk]; rfl
  by_cases h7 : s.length = 7
  · have e7 : ((s.length : Int) == 7) = true := by rw [h7]; rfl
    have e8 : ((s.length : Int) == 8) = false := by rw [h7]; rfl
    have hA : ∀ b : Fin 256, s ≠ [66, 89, 84, 69] ++ 32 :: 36 :: hexL 2 b.val := fun b h => by
      rw [h] at h7; simp [hexL_len] at h7
    simp only [kotatsuref09_Parse.j1, e7, cond_true, t6 (by omega), Option.bind_some, kotatsuref09_Parse.j2, e8, cond_false, kotatsuref09_Parse.j4]
    cases hq : (s.take 6 == ([66, 89, 84, 69, 32, 36] : List UInt8)) with
    | false => simp only [cond_false]; exact named hA
    | true =>
      have h6 := eq_of_beq hq
      have hb3 : s.take 3 = [66, 89, 84] := by rw [← t36, h6]; rfl
      exact ⟨[], 12, code_none s _ (by omega) (noline_name s hA (byt_no s hb3)), rfl, .inl ⟨by decide, rfl⟩⟩
  · have e7 : ((s.length : Int) == 7) = false := by simp; omega
    by_cases h8 : s.length = 8
    · have e8 : ((s.length : Int) == 8) = true := by rw [h8]; rfl
      simp only [kotatsuref09_Parse.j1, e7, cond_false, kotatsuref09_Parse.j2, e8, cond_true, t6 (by omega), Option.bind_some]
      cases hq : (s.take 6 == ([66, 89, 84, 69, 32, 36] : List UInt8)) with
      | false =>
        simp only [kotatsuref09_Parse.j4, cond_false]
        refine named fun b h => ?_
        rw [h] at hq
        cases hq
      | true =>
        have h6 := eq_of_beq hq
        have hb3 : s.take 3 = [66, 89, 84] := by rw [← t36, h6]; rfl
        have hl2 : (s.drop 6).length = 2 := by simp [h8]
        have htk : (s.drop 6).take (s.drop 6).length = s.drop 6 := List.take_length
        have hdg := dig_ok s (s.drop 6) 6 8 (by omega) htk (by omega) (by omega) (by omega)
        have hdg' : kotatsuref09_digits.f s 6 8 = some (match dg (s.drop 6) 0 with | some x => ((x : Int), true) | none => (0, false)) := hdg
        simp only [kotatsuref09_Parse.j4, cond_true, hdg', Option.bind_some]
        have hsd : s = [66, 89, 84, 69, 32, 36] ++ s.drop 6 := by rw [← h6, List.take_append_drop]
        by_cases hall : ∀ c ∈ s.drop 6, isHx c = true
        · obtain ⟨x, hx, hdx, hpe⟩ := dg2 _ hl2 hall
          have hb : s = [66, 89, 84, 69] ++ 32 :: 36 :: hexL 2 x := by rw [hsd, hpe]; rfl
          have hc := parse_byte ⟨x, hx⟩ (a : Int)
          refine ⟨[(x : Int)], 0, by rw [hb]; exact hc, ?_, .inr ⟨by omega, rfl, by simp, .inl hb3⟩⟩
          rw [hdx]
          simp only [Bool.not_true, cond_false, wrapU8 x hx]
        · have hdn : dg (s.drop 6) 0 = none := by
            rcases dg_none (s.drop 6) 0 with h | h
            · exact h
            · exact absurd h hall
          refine ⟨[], 12, code_none s _ (by omega) (noline_name s (fun b h => hall ?_) (byt_no s hb3)), ?_, .inl ⟨by decide, rfl⟩⟩
          · rw [h]
            exact hexL_hx 2 b.val
          · rw [hdn]; rfl
    · have e8 : ((s.length : Int) == 8) = false := by simp; omega
      simp only [kotatsuref09_Parse.j1, e7, cond_false, kotatsuref09_Parse.j2, e8, kotatsuref09_Parse.j4]
      refine named fun b h => h8 ?_
      rw [h]; simp [hexL_len]

/-! ### the law -/
theorem same_loop (l : List Int) (hl : l.length ≤ 1000) : ∀ (d i f : Nat), i + d = l.length → d < f → kotatsuref01_Same.l1 l l f (i : Int) = some true
  | d, i, 0, _, hf => absurd hf (by omega)
  | 0, i, f + 1, h, hf => by
    have e : decide ((i : Int) < (l.length : Int)) = false := by simp; omega
    simp only [kotatsuref01_Same.l1, e, cond_false]
  | d + 1, i, f + 1, h, hf => by
    have e : decide ((i : Int) < (l.length : Int)) = true := by simp; omega
    obtain ⟨z, hz⟩ : ∃ z, l[i]? = some z := ⟨l[i]'(by omega), by simp⟩
    have hne : (z != z) = false := by simp
    simp only [kotatsuref01_Same.l1, e, cond_true, lget_ok hz, Option.bind_some, hne, cond_false]
    rw [wrapA i (by omega)]
    exact same_loop l hl d (i + 1) f (by omega) (by omega)
theorem same_ok (l : List Int) (hl : l.length ≤ 1000) : kotatsuref01_Same.f l l = some true := by
  have e : ((l.length : Int) != (l.length : Int)) = false := by simp
  simp only [kotatsuref01_Same.f, e, cond_false]
  exact same_loop l hl l.length 0 _ (by omega) (by omega)
theorem word_of {a : Int} (h : (Lit.int .u16 a).wf = true) : ∃ n : Nat, n < 65536 ∧ a = (n : Int) := by
  have h1 : 0 ≤ a ∧ a ≤ 65535 := by simpa [Lit.wf, IntKind.min, IntKind.max, IntKind.signed, IntKind.bits] using h
  exact ⟨a.toNat, by omega, by omega⟩
theorem kotatsulaw09_CodeParses.pure : ∀ (a0 : List UInt8), a0.length ≤ maxLen → ∀ (a1 : Int), (Lit.int .u16 a1).wf = true → kotatsulaw09_CodeParses.f a0 a1 = some true := by
  intro a0 h0 a1 h1
  obtain ⟨a, ha, rfl⟩ := word_of h1
  have ht : kotatsuref01_Text.f a0 14 = some (a0.take 14) := by
    have e : min (a0.length : Int) 14 = ((min a0.length 14 : Nat) : Int) := by omega
    simp only [kotatsuref01_Text.f, e]
    rw [lsub_take (Nat.min_le_left _ _), Option.bind_some, Nat.min_comm, List.take_eq_take_min.symm]
  have hl : (a0.take 14).length ≤ 14 := by simp; omega
  generalize a0.take 14 = s at ht hl
  obtain ⟨p, e, hc, hr, ht'⟩ := parse_same s hl a ha
  have hw : IntKind.wrap .i64 (a : Int) = (a : Int) := wrapI (by omega) (by omega)
  have hne : (e != e) = false := by simp
  have hpl : p.length ≤ 1000 := by
    rcases ht' with ⟨-, rfl⟩ | ⟨-, -, h, -⟩
    · simp
    · omega
  simp only [kotatsulaw09_CodeParses.f, awake_true, Option.bind_some, Bool.not_true, cond_false, ht, hc, hw, hr, hne, same_ok p hpl, kotatsulaw09_CodeParses.j1]
  rcases ht' with ⟨he, -⟩ | ⟨h3, rfl, -, h4⟩
  · have e0 : (e != 0) = true := by simpa using he
    rw [e0, cond_true]
  · have e0 : ((0 : Int) != 0) = false := rfl
    have s0 : lsub s 0 3 = some (s.take 3) := lsub_take (j := 3) (by omega)
    rw [e0, cond_false, s0, Option.bind_some]
    cases hq : (s.take 3 == ([66, 89, 84] : List UInt8)) with
    | true => rfl
    | false =>
      rcases h4 with h4 | h4
      · rw [h4] at hq; cases hq
      · simp only [cond_false, kotatsulaw09_CodeParses.j2, h4, Option.bind_some, beq_self_eq_true, cond_true]
end Go.Proofs.YtpbcbfbichfioaaGreatDoor
