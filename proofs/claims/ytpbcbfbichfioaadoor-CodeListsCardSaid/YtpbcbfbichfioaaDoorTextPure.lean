/- Plain laws of layer 9: lines of text. -/
import Derived.Test.YtpbcbfbichfioaaDoorLinePure
import Derived.Test.YtpbcbfbichfioaaDoorCodeLaws
namespace Go.Proofs.YtpbcbfbichfioaaDoor
open Kot Go
set_option linter.unusedVariables false
set_option linter.unusedSimpArgs false
set_option maxRecDepth 100000

/-! ### the document's digits -/
theorem quo16 (u : Nat) (h : u < 65536) : quo .i64 (u : Int) 16 = ((u / 16 : Nat) : Int) := by
  show IntKind.wrap .i64 (Int.tdiv (u : Int) 16) = _
  rw [show Int.tdiv (u : Int) 16 = ((u / 16 : Nat) : Int) from rfl, wrapI (by omega) (by omega)]
theorem upT_get : ∀ d : Fin 16, lsub ([48, 49, 50, 51, 52, 53, 54, 55, 56, 57, 65, 66, 67, 68, 69, 70] : List UInt8) (d.val : Int) (IntKind.wrap .i64 ((d.val : Int) + 1)) = some [upC d.val] := by decide +kernel
theorem rhex : ∀ (d k u : Nat), d < k → d ≤ 10 → u < 65536 → kotatsuref09_Hex.r k (u : Int) (d : Int) = some (hexL d u)
  | 0, k, u, h, _, _ => by
    obtain ⟨k, rfl⟩ : ∃ k', k = k' + 1 := ⟨k - 1, by omega⟩
    rfl
  | d + 1, k, u, h, h10, hu => by
    obtain ⟨k, rfl⟩ : ∃ k', k = k' + 1 := ⟨k - 1, by omega⟩
    have e0 : (((d + 1 : Nat) : Int) == 0) = false := by simp; omega
    have e1 : IntKind.wrap .i64 (((d + 1 : Nat) : Int) - 1) = (d : Int) := by rw [wrapI (by omega) (by omega)]; omega
    have e2 : Int.tmod (u : Int) 16 = ((u % 16 : Nat) : Int) := rfl
    have e3 := upT_get ⟨u % 16, Nat.mod_lt _ (by decide)⟩
    simp only [kotatsuref09_Hex.r, e0, cond_false, quo16 u hu, e1, rhex d k (u / 16) (by omega) (by omega) (by omega), Option.bind_some, e2]
    rw [e3, Option.bind_some, lim_ok (by rw [hexL_len]; simp; omega), Option.bind_some]
    rfl
theorem rhex_ok (u d : Nat) (hd : d ≤ 10) (hu : u < 65536) : kotatsuref09_Hex.f (u : Int) (d : Int) = some (hexL d u) := rhex d 1000 u (by omega) hd hu
theorem sz_ok : ∀ m : Fin 12, kotatsuref09_Size.f (m.val : Int) = some ((szN m.val : Nat) : Int) := by decide +kernel
theorem rhexi (z : Fin 256) : kotatsuref09_Hex.f (IntKind.wrap .i64 (z.val : Int)) 2 = some (hexL 2 z.val) := by
  rw [wrapI (by omega) (by omega)]
  exact rhex_ok z.val 2 (by omega) (by omega)

theorem ref_j2 (o : Fin 256) (m : Nat) (hm : m < 12) (h0 : m ≠ 0) (h10 : m ≠ 10) (p : List Int) (a n : Int) (one two : List UInt8) (h1 : one.length ≤ 4) (h2 : two.length ≤ 8) (hn : (nm ((o.val : Nat) : Int)).length = 3) :
    kotatsuref09_Text.j2 p a (mkR o ⟨m, by omega⟩) n one two = some ((nm o.val ++ [32]) ++ (((drsF m).1 ++ (bif szN m == 3 then two else [36] ++ one)) ++ (drsF m).2), n) := by
  have hmm : m = 1 ∨ m = 2 ∨ m = 3 ∨ m = 4 ∨ m = 5 ∨ m = 6 ∨ m = 7 ∨ m = 8 ∨ m = 9 ∨ m = 11 := by omega
  rcases hmm with rfl | rfl | rfl | rfl | rfl | rfl | rfl | rfl | rfl | rfl
  · show Option.bind (lim _) _ = _
    rw [drsV1]
    repeat (rw [lim_ok (by simp only [List.length_append, List.length_cons, List.length_nil, mkR, hn]; omega), Option.bind_some])
    simp [szN, mkR]
  · show Option.bind (lim _) _ = _
    rw [drsV2]
    repeat (rw [lim_ok (by simp only [List.length_append, List.length_cons, List.length_nil, mkR, hn]; omega), Option.bind_some])
    simp [szN, mkR]
  · show Option.bind (lim _) _ = _
    rw [drsV3]
    repeat (rw [lim_ok (by simp only [List.length_append, List.length_cons, List.length_nil, mkR, hn]; omega), Option.bind_some])
    simp [szN, mkR]
  · show Option.bind (lim _) _ = _
    rw [drsV4]
    repeat (rw [lim_ok (by simp only [List.length_append, List.length_cons, List.length_nil, mkR, hn]; omega), Option.bind_some])
    simp [szN, mkR]
  · show Option.bind (lim _) _ = _
    rw [drsV5]
    repeat (rw [lim_ok (by simp only [List.length_append, List.length_cons, List.length_nil, mkR, hn]; omega), Option.bind_some])
    simp [szN, mkR]
  · show Option.bind (lim _) _ = _
    rw [drsV6]
    repeat (rw [lim_ok (by simp only [List.length_append, List.length_cons, List.length_nil, mkR, hn]; omega), Option.bind_some])
    simp [szN, mkR]
  · show Option.bind (lim _) _ = _
    rw [drsV7]
    repeat (rw [lim_ok (by simp only [List.length_append, List.length_cons, List.length_nil, mkR, hn]; omega), Option.bind_some])
    simp [szN, mkR]
  · show Option.bind (lim _) _ = _
    rw [drsV8]
    repeat (rw [lim_ok (by simp only [List.length_append, List.length_cons, List.length_nil, mkR, hn]; omega), Option.bind_some])
    simp [szN, mkR]
  · show Option.bind (lim _) _ = _
    rw [drsV9]
    repeat (rw [lim_ok (by simp only [List.length_append, List.length_cons, List.length_nil, mkR, hn]; omega), Option.bind_some])
    simp [szN, mkR]
  · show Option.bind (lim _) _ = _
    rw [drsV11]
    repeat (rw [lim_ok (by simp only [List.length_append, List.length_cons, List.length_nil, mkR, hn]; omega), Option.bind_some])
    simp [szN, mkR]
theorem ref_rel (o : Fin 256) (b z : Fin 256) (t : List Int) (a : Nat) (ha : a < 65536) (one two : List UInt8) (hn : (nm ((o.val : Nat) : Int)).length = 3) (n : Int) :
    kotatsuref09_Text.j2 ((b.val : Int) :: (z.val : Int) :: t) (a : Int) (mkR o ⟨10, by omega⟩) n one two = some ((nm o.val ++ [32]) ++ ([36] ++ hexL 4 (relN a z.val)), n) := by
  have hz : IntKind.wrap .i64 (z.val : Int) = (z.val : Int) := wrapI (by omega) (by omega)
  have hr : kotatsuref09_Hex.f ((relN a z.val : Nat) : Int) 4 = some (hexL 4 (relN a z.val)) := rhex_ok (relN a z.val) 4 (by omega) (rel_lt _ _)
  have h2 : IntKind.wrap .i64 ((a : Int) + 2) = (a : Int) + 2 := wrapI (by omega) (by omega)
  have c10 : ∀ k : Int, ((((⟨10, by omega⟩ : Fin 256).val : Nat) : Int) == k) = ((10 : Int) == k) := fun k => rfl
  have d1 : ((10 : Int) == 1) = false := rfl
  have d2 : ((10 : Int) == 2) = false := rfl
  have d3 : ((10 : Int) == 3) = false := rfl
  have d4 : ((10 : Int) == 4) = false := rfl
  have d5 : ((10 : Int) == 5) = false := rfl
  have d6 : ((10 : Int) == 6) = false := rfl
  have d7 : ((10 : Int) == 7) = false := rfl
  have d8 : ((10 : Int) == 8) = false := rfl
  have d9 : ((10 : Int) == 9) = false := rfl
  have d10 : ((10 : Int) == 10) = true := rfl
  simp only [kotatsuref09_Text.j2, mkR, c10, d1, d2, d3, d4, d5, d6, d7, d8, d9, d10, cond_false, cond_true, lg1, Option.bind_some, hz, bnd]
  by_cases hlt : z.val < 128
  · have e1 : decide (127 < (z.val : Int)) = false := by simp; omega
    have e2 : Int.tmod (IntKind.wrap .i64 ((IntKind.wrap .i64 ((IntKind.wrap .i64 ((a : Int) + 2)) + (z.val : Int))) + 65536)) 65536 = ((relN a z.val : Nat) : Int) := by
      rw [h2, wrapI (i := (a : Int) + 2 + (z.val : Int)) (by omega) (by omega), wrapI (by omega) (by omega)]
      have : (a : Int) + 2 + (z.val : Int) + 65536 = ((a + 2 + z.val + 65536 : Nat) : Int) := by omega
      rw [this, show (65536 : Int) = ((65536 : Nat) : Int) from rfl, ← Int.ofNat_tmod]
      unfold relN
      rw [decide_eq_true hlt, cond_true]
      omega
    simp only [e1, cond_false, e2, hr, Option.bind_some]
    rw [lim_ok (by simp only [List.length_append, List.length_cons, List.length_nil, hexL_len]; omega), Option.bind_some, lim_ok (by simp only [List.length_append, List.length_cons, List.length_nil, hn]; omega), Option.bind_some,
      lim_ok (by simp only [List.length_append, List.length_cons, List.length_nil, hn, hexL_len]; omega), Option.bind_some]
  · have e1 : decide (127 < (z.val : Int)) = true := by simp; omega
    have e2 : Int.tmod (IntKind.wrap .i64 ((IntKind.wrap .i64 ((IntKind.wrap .i64 ((a : Int) + 2)) + (IntKind.wrap .i64 ((z.val : Int) - 256)))) + 65536)) 65536 = ((relN a z.val : Nat) : Int) := by
      rw [h2, wrapI (i := (z.val : Int) - 256) (by omega) (by omega), wrapI (i := (a : Int) + 2 + ((z.val : Int) - 256)) (by omega) (by omega), wrapI (by omega) (by omega)]
      have : (a : Int) + 2 + ((z.val : Int) - 256) + 65536 = ((a + 2 + z.val + 65280 : Nat) : Int) := by omega
      rw [this, show (65536 : Int) = ((65536 : Nat) : Int) from rfl, ← Int.ofNat_tmod]
      unfold relN
      rw [decide_eq_false hlt, cond_false]
    simp only [e1, cond_true, e2, hr, Option.bind_some]
    rw [lim_ok (by simp only [List.length_append, List.length_cons, List.length_nil, hexL_len]; omega), Option.bind_some, lim_ok (by simp only [List.length_append, List.length_cons, List.length_nil, hn]; omega), Option.bind_some,
      lim_ok (by simp only [List.length_append, List.length_cons, List.length_nil, hn, hexL_len]; omega), Option.bind_some]

/-- both tell the same of a code and what follows it -/
theorem text_same (o : Fin 256) (m : Nat) (hm : m < 12) (ho : o.val < 70) (b : Fin 256) (rest : List (Fin 256)) (a : Nat) (ha : a < 65536) (hlen : szN m ≤ rest.length + 1) :
    ∃ r, code_Text.j1 ((b.val : Int) :: rest.map (fun z => (z.val : Int))) (a : Int) (mkC o ⟨m, by omega⟩) ((szN m : Nat) : Int) () = some r ∧ kotatsuref09_Text.j1 ((b.val : Int) :: rest.map (fun z => (z.val : Int))) (a : Int) (mkR o ⟨m, by omega⟩) ((szN m : Nat) : Int) () = some r := by
  have hn := nm_len ⟨o.val, ho⟩
  simp only at hn
  by_cases h0 : m = 0
  · subst h0
    refine ⟨(nm o.val, 1), ?_, rfl⟩
    show (code_Code_line.f (mkC o ⟨0, _⟩) 0 0).bind _ = _
    rw [line0_ok o ⟨0, by omega⟩ 0 0 ho rfl]; rfl
  obtain ⟨z, rest, rfl⟩ : ∃ z t, rest = z :: t := by
    cases rest with
    | nil =>
      have hmm : m = 1 ∨ m = 2 ∨ m = 3 ∨ m = 4 ∨ m = 5 ∨ m = 6 ∨ m = 7 ∨ m = 8 ∨ m = 9 ∨ m = 10 ∨ m = 11 := by omega
      rcases hmm with rfl | rfl | rfl | rfl | rfl | rfl | rfl | rfl | rfl | rfl | rfl <;> simp [szN] at hlen
    | cons z t => exact ⟨z, t, rfl⟩
  have s1 : (((szN m : Nat) : Int) == 1) = false := by
    have hmm : m = 1 ∨ m = 2 ∨ m = 3 ∨ m = 4 ∨ m = 5 ∨ m = 6 ∨ m = 7 ∨ m = 8 ∨ m = 9 ∨ m = 10 ∨ m = 11 := by omega
    rcases hmm with rfl | rfl | rfl | rfl | rfl | rfl | rfl | rfl | rfl | rfl | rfl <;> rfl
  by_cases h10 : m = 10
  · subst h10
    refine ⟨((nm o.val ++ [32]) ++ ([36] ++ hexL 4 (relN a z.val)), 2), ?_, ?_⟩
    · show (code_Code_line.f (mkC o ⟨10, _⟩) (IntKind.wrap .u16 ((IntKind.wrap .u16 ((a : Int) + 2)) + (IntKind.wrap .u16 (IntKind.wrap .i8 (z.val : Int))))) ((4 : Nat) : Int)).bind _ = _
      rw [rel_code, line_ok o ⟨10, by omega⟩ _ 4 ho (by simp) (by simp) (rel_lt _ _) (.inr rfl), Option.bind_some, drsV10]
      simp [szN]
    · show (kotatsuref09_Hex.f (IntKind.wrap .i64 (z.val : Int)) 2).bind _ = _
      rw [rhexi, Option.bind_some, lim_ok (by simp [hexL_len]), Option.bind_some]
      exact ref_rel o b z (rest.map fun z => (z.val : Int)) a ha (hexL 2 z.val) ([36] ++ hexL 2 z.val) hn ((szN 10 : Nat) : Int)
  have m10 : (((m : Nat) : Int) == 10) = false := by simp; omega
  by_cases h3 : szN m = 3
  · obtain ⟨y, rest, rfl⟩ : ∃ y t, rest = y :: t := by
      cases rest with
      | nil => rw [h3] at hlen; simp at hlen
      | cons z t => exact ⟨z, t, rfl⟩
    refine ⟨((nm o.val ++ [32]) ++ (((drsF m).1 ++ (36 :: (hexL 2 y.val ++ hexL 2 z.val))) ++ (drsF m).2), 3), ?_, ?_⟩
    · have t3 : (((szN m : Nat) : Int) == 3) = true := by rw [h3]; rfl
      simp only [code_Text.j1, mkC, m10, cond_false, t3, cond_true, List.map_cons, lg1, lg2, Option.bind_some]
      have hl := line_ok o ⟨m, by omega⟩ (z.val + 256 * y.val) 4 ho hm h0 (by omega) (.inr rfl)
      rw [word z.val y.val z.isLt y.isLt]
      refine (congrArg (fun q => Option.bind q _) hl).trans ?_
      rw [hex42 z.val y.val z.isLt y.isLt]
      simp [h3]
    · have t3 : (((szN m : Nat) : Int) == 3) = true := by rw [h3]; rfl
      simp only [kotatsuref09_Text.j1, s1, cond_false, t3, cond_true, List.map_cons, lg1, lg2, Option.bind_some, rhexi]
      rw [lim_ok (by simp [hexL_len]), Option.bind_some, lim_ok (by simp [hexL_len]), Option.bind_some, lim_ok (by simp [hexL_len]), Option.bind_some]
      rw [ref_j2 o m hm h0 h10 _ _ _ _ _ (by simp [hexL_len]) (by simp [hexL_len]) hn]
      simp [h3]
  · have h2 : szN m = 2 := by
      have hmm : m = 1 ∨ m = 2 ∨ m = 3 ∨ m = 4 ∨ m = 5 ∨ m = 6 ∨ m = 7 ∨ m = 8 ∨ m = 9 ∨ m = 11 := by omega
      rcases hmm with rfl | rfl | rfl | rfl | rfl | rfl | rfl | rfl | rfl | rfl <;> first | rfl | exact absurd rfl h3
    refine ⟨((nm o.val ++ [32]) ++ (((drsF m).1 ++ (36 :: hexL 2 z.val)) ++ (drsF m).2), 2), ?_, ?_⟩
    · have t3 : (((szN m : Nat) : Int) == 3) = false := by rw [h2]; rfl
      have t2 : (((szN m : Nat) : Int) == 2) = true := by rw [h2]; rfl
      simp only [code_Text.j1, mkC, m10, cond_false, t3, t2, cond_true, List.map_cons, lg1, Option.bind_some]
      have hl := line_ok o ⟨m, by omega⟩ z.val 2 ho hm h0 (by omega) (.inl rfl)
      rw [wrapU16 (i := (z.val : Int)) (by omega) (by omega)]
      refine (congrArg (fun q => Option.bind q _) hl).trans ?_
      simp [h2]
    · have t3 : (((szN m : Nat) : Int) == 3) = false := by rw [h2]; rfl
      simp only [kotatsuref09_Text.j1, s1, cond_false, t3, List.map_cons, lg1, Option.bind_some, rhexi]
      rw [lim_ok (by simp [hexL_len]), Option.bind_some]
      rw [ref_j2 o m hm h0 h10 _ _ _ _ _ (by simp [hexL_len]) (by simp [hexL_len]) hn]
      simp [h2]

theorem text_all (p : List (Fin 256)) (a : Nat) (ha : a < 65536) : ∃ r, code_Text.f (p.map fun z => (z.val : Int)) (a : Int) = some r ∧ kotatsuref09_Text.f (p.map fun z => (z.val : Int)) (a : Int) = some r := by
  cases p with
  | nil => exact ⟨([], 0), rfl, rfl⟩
  | cons b rest =>
    obtain ⟨x, hx, hf⟩ := fb_of b
    have hl0 : ((((b :: rest).map fun z => (z.val : Int)).length : Int) == 0) = false := by simp; omega
    have hwb : IntKind.wrap .i64 (b.val : Int) = (b.val : Int) := wrapI (by omega) (by omega)
    have hsz : code_Code_Size.f (mkC (oB b) (mB b)) = some ((szN (mB b).val : Nat) : Int) := (size_chk (mB b)).1.trans (sz_ok ⟨(mB b).val, mB_lt b⟩)
    have hrs : kotatsuref09_Size.f (mkR (oB b) (mB b)).f_Mode = some ((szN (mB b).val : Nat) : Int) := sz_ok ⟨(mB b).val, mB_lt b⟩
    have hb := byteC (oB b) (mB b)
    have hrb := byteR (oB b) (mB b)
    rw [hf] at hb hrb
    have hbyte : ∃ r, ((code_hex.f (IntKind.wrap .u16 (b.val : Int)) 2).bind fun q => (lim (([66, 89, 84, 69, 32] : List UInt8).length + q.length)).bind fun _ => some (([66, 89, 84, 69, 32] : List UInt8) ++ q, (1 : Int))) = some r ∧
        ((kotatsuref09_Hex.f (b.val : Int) 2).bind fun q => (lim (([66, 89, 84, 69, 32, 36] : List UInt8).length + q.length)).bind fun _ => some (([66, 89, 84, 69, 32, 36] : List UInt8) ++ q, (1 : Int))) = some r := by
      have h1 := hexc b.val 2 (by omega) (.inl rfl)
      have h2 := rhex_ok b.val 2 (by omega) (by omega)
      rw [wrapU16 (i := (b.val : Int)) (by omega) (by omega)]
      refine ⟨([66, 89, 84, 69, 32] ++ (36 :: hexL 2 b.val), 1), ?_, ?_⟩
      · refine (congrArg (fun q => Option.bind q _) h1).trans ?_
        rw [Option.bind_some, lim_ok (by simp [hexL_len]), Option.bind_some]
      · refine (congrArg (fun q => Option.bind q _) h2).trans ?_
        rw [Option.bind_some, lim_ok (by simp [hexL_len]), Option.bind_some]; rfl
    simp only [code_Text.f, kotatsuref09_Text.f, hl0, cond_false, List.map_cons, lg0, Option.bind_some, hwb, of_ok b.val b.isLt, ofR_ok b.val b.isLt]
    rw [ofC_mk, ofR_mk, hsz, hrs]
    simp only [Option.bind_some, hb, hrb]
    cases hne : ((x : Int) != (b.val : Int)) with
    | true => simp only [cond_true]; exact hbyte
    | false =>
      simp only [cond_false]
      cases hlt : decide ((((b.val : Int) :: rest.map fun z => (z.val : Int)).length : Int) < ((szN (mB b).val : Nat) : Int)) with
      | true => simp only [cond_true]; exact hbyte
      | false =>
        simp only [cond_false]
        have hlen : szN (mB b).val ≤ rest.length + 1 := by
          have := of_decide_eq_false hlt
          simp at this; omega
        exact text_same (oB b) (mB b).val (mB_lt b) (oB_lt b) b rest a ha hlen

/-! ### the first bytes of some -/
theorem cut_loop (a0 : List Int) (k : Nat) (hl : a0.length ≤ 9223372036854775807) (hk : k ≤ 1000) : ∀ (d i f : Nat), i + d = a0.length → d < f → kotatsuref01_Cut.l1 a0 (k : Int) f ((a0.take i).take k, (i : Int)) = some (a0.take k)
  | 0, i, f, h, hf => by
    obtain ⟨f, rfl⟩ : ∃ f', f = f' + 1 := ⟨f - 1, by omega⟩
    have h1 : decide ((i : Int) < (a0.length : Int)) = false := by simp; omega
    simp only [kotatsuref01_Cut.l1, h1, cond_false]
    have : a0.take i = a0 := List.take_of_length_le (by omega)
    rw [this]
  | d + 1, i, f, h, hf => by
    obtain ⟨f, rfl⟩ : ∃ f', f = f' + 1 := ⟨f - 1, by omega⟩
    have h1 : decide ((i : Int) < (a0.length : Int)) = true := by simp; omega
    have hz : a0[i]? = some (a0[i]'(by omega)) := List.getElem?_eq_getElem _
    generalize a0[i]'(by omega) = z at hz
    have hw : IntKind.wrap .i64 ((i : Int) + 1) = ((i + 1 : Nat) : Int) := by rw [wrapI (by omega) (by omega)]; rfl
    simp only [kotatsuref01_Cut.l1, h1, cond_true, lget_ok hz, Option.bind_some, hw]
    have ih := cut_loop a0 k hl hk d (i + 1) f (by omega) (by omega)
    by_cases hik : i < k
    · have h2 : decide ((i : Int) < (k : Int)) = true := by simp; omega
      simp only [h2, cond_true]
      rw [lim_ok (by simp; omega), Option.bind_some]
      have e : (a0.take i).take k ++ [z] = (a0.take (i + 1)).take k := by
        rw [List.take_take, List.take_take, Nat.min_eq_right (by omega), Nat.min_eq_right (by omega), take_get hz]
      rw [e]; exact ih
    · have h2 : decide ((i : Int) < (k : Int)) = false := by simp; omega
      simp only [h2, cond_false]
      have e : (a0.take i).take k = (a0.take (i + 1)).take k := by
        rw [List.take_take, List.take_take, Nat.min_eq_left (by omega), Nat.min_eq_left (by omega)]
      rw [e]; exact ih
theorem cut_ok (a0 : List Int) (k : Nat) (hl : a0.length ≤ 9223372036854775807) (hk : k ≤ 1000) : kotatsuref01_Cut.f a0 (k : Int) = some (a0.take k) := by
  have := cut_loop a0 k hl hk a0.length 0 (((a0.length : Int) - 0 : Int).toNat + 2) (by omega) (by omega)
  have e : (a0.take 0).take k = [] := by simp
  rw [e] at this
  exact this
theorem bytes_of : ∀ (l : List Int), (∀ a ∈ l, (Lit.int .u8 a).wf = true) → ∃ p : List (Fin 256), l = p.map fun z => (z.val : Int)
  | [], _ => ⟨[], rfl⟩
  | a :: l, h => by
    obtain ⟨n, hn⟩ := byte_of (h a (by simp))
    obtain ⟨p, hp⟩ := bytes_of l fun b hb => h b (by simp [hb])
    exact ⟨n :: p, by rw [hn, hp]; rfl⟩
theorem word_of {a : Int} (h : (Lit.int .u16 a).wf = true) : ∃ n : Nat, n < 65536 ∧ a = (n : Int) := by
  have h1 : 0 ≤ a ∧ a ≤ 65535 := by simpa [Lit.wf, IntKind.min, IntKind.max, IntKind.signed, IntKind.bits] using h
  exact ⟨a.toNat, by omega, by omega⟩
theorem maxLen_le {n : Nat} (h : n ≤ maxLen) : n ≤ 9223372036854775807 := by unfold maxLen at h; omega
theorem kotatsulaw09_CodeTexts.pure : ∀ (a0 : List Int), (a0.length ≤ maxLen ∧ ∀ a ∈ a0, (Lit.int .u8 a).wf = true) → ∀ (a1 : Int), (Lit.int .u16 a1).wf = true → kotatsulaw09_CodeTexts.f a0 a1 = some true := by
  intro a0 h0 a1 h1
  obtain ⟨n, hn, rfl⟩ := word_of h1
  obtain ⟨p, hp⟩ := bytes_of (a0.take 4) fun a ha => h0.2 a (List.mem_of_mem_take ha)
  have hc := cut_ok a0 4 (maxLen_le h0.1) (by omega)
  obtain ⟨r, h2, h3⟩ := text_all p n hn
  have hw : IntKind.wrap .i64 (n : Int) = (n : Int) := wrapI (by omega) (by omega)
  simp only [kotatsulaw09_CodeTexts.f, awake_true, Option.bind_some, Bool.not_true, cond_false]
  show (kotatsuref01_Cut.f a0 ((4 : Nat) : Int)).bind _ = _
  rw [hc, hp]
  simp only [Option.bind_some, h2, hw, h3, beq_self_eq_true, cond_true]
end Go.Proofs.YtpbcbfbichfioaaDoor
