/- Plain laws of layer 9: branches lead where they shall, and bytes are read again as they were told. -/
import Derived.Test.YtpbcbfbichfioaaDoorListPure
import Derived.Test.YtpbcbfbichfioaaDoorTextPure
namespace Go.Proofs.YtpbcbfbichfioaaDoor
open Kot Go
set_option linter.unusedVariables false
set_option linter.unusedSimpArgs false
set_option maxRecDepth 100000

theorem same_loop (l : List Int) (hl : l.length ≤ 1000) : ∀ (d i f : Nat), i + d = l.length → d < f → kotatsuref01_Same.l1 l l f (i : Int) = some true
  | d, i, 0, _, hf => absurd hf (by omega)
  | 0, i, f + 1, h, hf => by
    have e : decide ((i : Int) < (l.length : Int)) = false := by simp; omega
    simp only [kotatsuref01_Same.l1, e, cond_false]
  | d + 1, i, f + 1, h, hf => by
    have e : decide ((i : Int) < (l.length : Int)) = true := by simp; omega
    obtain ⟨z, hz⟩ : ∃ z, l[i]? = some z := ⟨l[i]'(by omega), by simp⟩
    have hne : (z != z) = false := by simp
    simp only [kotatsuref01_Same.l1, e, cond_true, lget_ok hz, Option.bind_some, hne, cond_false]
    rw [wrapA i (by omega)]
    exact same_loop l hl d (i + 1) f (by omega) (by omega)
theorem same_ok (l : List Int) (hl : l.length ≤ 1000) : kotatsuref01_Same.f l l = some true := by
  have e : ((l.length : Int) != (l.length : Int)) = false := by simp
  simp only [kotatsuref01_Same.f, e, cond_false]
  exact same_loop l hl l.length 0 _ (by omega) (by omega)
theorem join2 (a b : List Int) (h : a.length + b.length ≤ 1000) : kotatsuref01_Join.f [a, b] = some (a ++ b) := by
  have l1 : lim (([] : List Int).length + a.length) = some () := lim_ok (by simp; omega)
  have l2 : lim (([] ++ a).length + b.length) = some () := lim_ok (by simp; omega)
  have e0 : decide ((0 : Int) < ((2 : Nat) : Int)) = true := rfl
  have e1 : decide (IntKind.wrap .i64 (0 + 1) < ((2 : Nat) : Int)) = true := rfl
  have e2 : decide (IntKind.wrap .i64 (IntKind.wrap .i64 (0 + 1) + 1) < ((2 : Nat) : Int)) = false := rfl
  have g1 : lget [a, b] (IntKind.wrap .i64 (0 + 1)) = some b := rfl
  have hn : (([a, b].length : Int) - 0).toNat + 2 = 4 := rfl
  unfold kotatsuref01_Join.f
  rw [hn]
  simp only [kotatsuref01_Join.l1, List.length_cons, List.length_nil, Nat.zero_add, e0, cond_true, lg0, Option.bind_some]
  simp only [List.length_nil, Nat.zero_add] at l1
  rw [l1]
  simp only [Option.bind_some, Nat.reduceAdd, e1, cond_true, g1]
  rw [l2]
  simp only [Option.bind_some, e2, cond_false, List.nil_append]

theorem op_ok : ∀ k : Fin 8, kotatsuref08_Name.f (IntKind.wrap .i64 (IntKind.wrap .u8 (52 + (k.val : Int)))) = some (nm (52 + k.val)) ∧ IntKind.wrap .u8 (52 + (k.val : Int)) = ((52 + k.val : Nat) : Int) ∧ (fbN ⟨52 + k.val, by omega⟩ 10).isSome = true := by decide +kernel
theorem rel_hit (n a : Nat) (hn : n < 65536) (ha : a < 65536) (h : 128 ≤ farN n a → farN n a < 65408 → False) : ∃ z, z < 256 ∧ relN a z = n := by
  unfold farN at h
  refine ⟨farN n a % 256, by omega, ?_⟩
  unfold relN farN
  by_cases hz : (n + 131070 - a) % 65536 < 128
  · rw [decide_eq_true (by omega), cond_true]; omega
  · have h3 : 65408 ≤ (n + 131070 - a) % 65536 := by
      rcases Nat.lt_or_ge ((n + 131070 - a) % 65536) 65408 with h4 | h4
      · exact (h (by omega) h4).elim
      · exact h4
    rw [decide_eq_false (by omega), cond_false]; omega
theorem branch_loop (n a b : Nat) (hn : n < 65536) (ha : a < 65536) (p : List Int × Int) (hp : p = bif decide (128 ≤ farN n a) && decide (farN n a < 65408) then ([], 11) else ([(b : Int), IntKind.wrap .u8 ((farN n a : Nat) : Int)], 0)) :
    ∀ (d i f : Nat), i + d = 256 → d < f → (∀ j, j < i → relN a j ≠ n) → kotatsulaw09_CodeBranches.l1 (a : Int) (n : Int) ((b : Int), true) p f (i : Int) = some true
  | d, i, 0, _, hf, _ => absurd hf (by omega)
  | 0, i, f + 1, h, hf, hj => by
    have e : decide ((i : Int) < 256) = false := by simp; omega
    have hc : (decide (128 ≤ farN n a) && decide (farN n a < 65408)) = true := by
      cases hd : (decide (128 ≤ farN n a) && decide (farN n a < 65408)) with
      | true => rfl
      | false =>
        exfalso
        obtain ⟨z, hz, h2⟩ := rel_hit n a hn ha (fun h1 h2 => by rw [decide_eq_true h1, decide_eq_true h2] at hd; exact absurd hd (by decide))
        exact hj z (by omega) h2
    rw [hc, cond_true] at hp
    subst hp
    simp only [kotatsulaw09_CodeBranches.l1, e, cond_false]
    rfl
  | d + 1, i, f + 1, h, hf, hj => by
    have e : decide ((i : Int) < 256) = true := by simp; omega
    have hr := rel_code a ⟨i, by omega⟩
    simp only [kotatsulaw09_CodeBranches.l1, e, cond_true]
    rw [hr]
    cases hq : ((((relN a i : Nat) : Int)) == (n : Int)) with
    | false =>
      rw [cond_false, wrapA i (by omega)]
      refine branch_loop n a b hn ha p hp d (i + 1) f (by omega) (by omega) fun j hj' => ?_
      rcases Nat.lt_succ_iff_lt_or_eq.mp hj' with h1 | rfl
      · exact hj j h1
      · intro h2; rw [h2] at hq; simp at hq
    | true =>
      have hrn : relN a i = n := by have : ((relN a i : Nat) : Int) = (n : Int) := by simpa using hq
                                    omega
      have hfar : farN n a = i + (bif decide (i < 128) then 0 else 65280) := by rw [← hrn]; exact rel_far a ha i (by omega)
      have hw : IntKind.wrap .u8 ((farN n a : Nat) : Int) = (i : Int) := by
        rw [wrapU8m, hfar]
        by_cases h : i < 128
        · rw [decide_eq_true h, cond_true]; omega
        · rw [decide_eq_false h, cond_false]; omega
      have hc : (decide (128 ≤ farN n a) && decide (farN n a < 65408)) = false := by
        rw [hfar]
        by_cases h : i < 128
        · rw [decide_eq_true h, cond_true]; simp; omega
        · rw [decide_eq_false h, cond_false]; simp; omega
      rw [hc, cond_false, hw] at hp
      subst hp
      have hwi : IntKind.wrap .u8 (i : Int) = (i : Int) := wrapU8 i (by omega)
      rw [cond_true]
      show (bif ((0 : Int) == 0) then ((kotatsuref01_Same.f [(b : Int), (i : Int)] [(b : Int), IntKind.wrap .u8 (i : Int)]).bind fun r => some r) else some false) = some true
      rw [hwi, same_ok _ (by simp)]; rfl
theorem kotatsulaw09_CodeBranches.pure : ∀ (a0 : Int), (Lit.int .u8 a0).wf = true → ∀ (a1 : Int), (Lit.int .u16 a1).wf = true → ∀ (a2 : Int), (Lit.int .u16 a2).wf = true → kotatsulaw09_CodeBranches.f a0 a1 a2 = some true := by
  intro a0 h0 a1 h1 a2 h2
  obtain ⟨a, ha, rfl⟩ := word_of h1
  obtain ⟨n, hn, rfl⟩ := word_of h2
  obtain ⟨b0, rfl⟩ := byte_of h0
  have hk : Int.tmod (b0.val : Int) 8 = (((⟨b0.val % 8, by omega⟩ : Fin 8).val : Nat) : Int) := by
    show Int.tmod (b0.val : Int) 8 = ((b0.val % 8 : Nat) : Int)
    rw [Int.tmod_eq_emod_of_nonneg (by omega)]; rfl
  generalize (⟨b0.val % 8, by omega⟩ : Fin 8) = k at hk
  obtain ⟨hnm, hw, hfb⟩ := op_ok k
  have hko := k.isLt
  let o : Fin 256 := ⟨52 + k.val, by omega⟩
  obtain ⟨b, hb⟩ : ∃ b, fbN o 10 = some b := Option.isSome_iff_exists.mp hfb
  have hf : fb o ⟨10, by omega⟩ = some b := hb
  have hby : code_Code_Byte.f (⟨IntKind.wrap .u8 (52 + (Int.tmod (b0.val : Int) 8)), 10⟩ : code_Code) = some ((b : Int), true) := by
    rw [hk, hw]; exact bytes_byte o ⟨10, by omega⟩ b hf
  have hnl : (nm (52 + k.val)).length = 3 := nm_len ⟨52 + k.val, by omega⟩
  have hx : kotatsuref09_Hex.f (IntKind.wrap .i64 (n : Int)) 4 = some (hexL 4 n) := by
    rw [wrapI (by omega) (by omega)]; exact rhex_ok n 4 (by omega) hn
  have hpar : code_Parse.f ((nm (52 + k.val) ++ ([32, 36] : List UInt8)) ++ hexL 4 n) (a : Int) = some (bif decide (128 ≤ farN n a) && decide (farN n a < 65408) then ([], 11) else ([(b : Int), IntKind.wrap .u8 ((farN n a : Nat) : Int)], 0)) := by
    have e : (nm (52 + k.val) ++ ([32, 36] : List UInt8)) ++ hexL 4 n = nm o.val ++ 32 :: form 10 n := by
      unfold form
      rw [show wantN 10 = 4 from rfl, drsV10]; simp [o]
    rw [e, parse_form o (show 52 + k.val < 70 by omega) 10 n (a : Int) (by omega) (by omega) (by rw [show wantN 10 = 4 from rfl]; exact hn) (by rw [hb]; simp), bytesS_eq o 10 (by omega), bytes10 o b n a hf hn ha]
    cases (decide (128 ≤ farN n a) && decide (farN n a < 65408)) <;> rfl
  have haw : kotatsulaw09_awake.f = some true := awake_true
  rw [hk] at hby
  simp only [kotatsulaw09_CodeBranches.f, haw, Option.bind_some, Bool.not_true, cond_false, hk, hby, hnm, hx, hpar]
  rw [lim_ok (by simp [hnl]), Option.bind_some, lim_ok (by simp [hnl, hexL_len]), Option.bind_some]
  exact branch_loop n a b hn ha _ rfl 256 0 _ (by omega) (by decide) (fun j hj => absurd hj (by omega))

/-- lines that tell bytes -/
def Good : List (List UInt8) → List (Fin 256) → Nat → Prop
  | [], p, a => p = []
  | s :: L, p, a => ∃ n, 1 ≤ n ∧ n ≤ p.length ∧ code_Parse.f s (a : Int) = some ((p.map fun z => (z.val : Int)).take n, 0) ∧ Good L (p.drop n) ((a + n) % 65536)
theorem wrapU16a (a n : Nat) (hn : n < 65536) : IntKind.wrap .u16 ((a : Int) + IntKind.wrap .u16 (n : Int)) = (((a + n) % 65536 : Nat) : Int) := by
  rw [wrapU16 (i := (n : Int)) (by omega) (by omega), wrapU16m]; omega
theorem list_loop : ∀ (k : Nat) (p : List (Fin 256)) (a f : Nat) (acc : List (List UInt8)), p.length ≤ k → k < f → acc.length + k ≤ 1000 → a < 65536 →
    ∃ L, Good L p a ∧ L.length ≤ k ∧ code_List.l1 f (acc, p.map (fun z => (z.val : Int)), (a : Int)) = some (acc ++ L)
  | k, p, a, 0, _, _, hf, _, _ => absurd hf (by omega)
  | k, [], a, f + 1, acc, h, hf, hacc, ha => ⟨[], rfl, by simp, by simp [code_List.l1]⟩
  | 0, b :: rest, a, f + 1, acc, h, hf, hacc, ha => absurd h (by simp)
  | k + 1, b :: rest, a, f + 1, acc, h, hf, hacc, ha => by
    obtain ⟨s, n, ht, hn1, hn2, hn3, hp⟩ := text_parse b rest a ha
    have hlen : (b :: rest).length = rest.length + 1 := rfl
    have hd : ((b :: rest).drop n).length ≤ k := by rw [List.length_drop]; omega
    obtain ⟨L, hg, hL, hr⟩ := list_loop k ((b :: rest).drop n) ((a + n) % 65536) f (acc ++ [s]) hd (by omega) (by simp; omega) (Nat.mod_lt _ (by decide))
    refine ⟨s :: L, ⟨n, hn1, by omega, hp, hg⟩, by simp; omega, ?_⟩
    have e : decide (0 < ((((b :: rest).map fun z => (z.val : Int)).length : Nat) : Int)) = true := by simp
    have hs : lsub ((b :: rest).map fun z => (z.val : Int)) (n : Int) (((b :: rest).map fun z => (z.val : Int)).length : Int) = some (((b :: rest).drop n).map fun z => (z.val : Int)) := by
      rw [lsub_ok (by simp; omega) (by simp), List.take_length, List.map_drop]
    simp only [code_List.l1, e, cond_true, ht, Option.bind_some]
    rw [lim_ok (by simp; omega), Option.bind_some, hs, Option.bind_some, bnd, wrapU16a a n (by omega), hr]
    simp
theorem lists_loop (t : List Int) (ht : t.length ≤ 1000) (All : List (List UInt8)) (hA : All.length ≤ 1000) : ∀ (L : List (List UInt8)) (p : List (Fin 256)) (a i f : Nat) (back : List Int), All.drop i = L → i + L.length = All.length → L.length < f → Good L p a → a < 65536 → back ++ p.map (fun z => (z.val : Int)) = t →
    kotatsulaw09_CodeLists.l1 t All f (back, (a : Int), (i : Int)) = some true
  | L, p, a, i, 0, _, _, _, hf, _, _, _ => absurd hf (by omega)
  | [], p, a, i, f + 1, back, hd, hi, hf, hg, ha, hb => by
    have e : decide ((i : Int) < (All.length : Int)) = false := by simp at hi ⊢; omega
    have hp : p = [] := hg
    subst hp
    simp only [List.map_nil, List.append_nil] at hb
    subst hb
    simp only [kotatsulaw09_CodeLists.l1, e, cond_false]
    rw [same_ok _ ht]; rfl
  | s :: L, p, a, i, f + 1, back, hd, hi, hf, hg, ha, hb => by
    have hll : (s :: L).length = L.length + 1 := rfl
    have e : decide ((i : Int) < (All.length : Int)) = true := by simp; omega
    obtain ⟨n, hn1, hn2, hp, hg⟩ := hg
    have hget : All[i]? = some s := by
      have : (All.drop i)[0]? = some s := by rw [hd]; rfl
      simpa using this
    have hdn : All.drop (i + 1) = L := by
      have : (All.drop i).drop 1 = L := by rw [hd]; rfl
      rw [List.drop_drop] at this; exact this
    have hbl : back.length + p.length ≤ 1000 := by rw [← hb] at ht; simpa using ht
    have hl : ((p.map fun z => (z.val : Int)).take n).length = n := by simp; omega
    have e0 : ((((p.map fun z => (z.val : Int)).take n).length : Int) == 0) = false := by rw [hl]; simp; omega
    simp only [kotatsulaw09_CodeLists.l1, e, cond_true, lget_ok hget, Option.bind_some, hp, e0, cond_false]
    have e1 : (((0 : Int)) != 0) = false := rfl
    rw [e1, cond_false, join2 _ _ (by rw [hl]; omega), Option.bind_some, bnd, hl, wrapU16a a n (by omega), wrapA i (by omega)]
    refine lists_loop t ht All hA L (p.drop n) ((a + n) % 65536) (i + 1) f _ hdn (by omega) (by omega) hg (Nat.mod_lt _ (by decide)) ?_
    rw [← hb, List.append_assoc, List.map_drop, List.take_append_drop]
theorem kotatsulaw09_CodeLists.pure : ∀ (a0 : List Int), (a0.length ≤ maxLen ∧ ∀ a ∈ a0, (Lit.int .u8 a).wf = true) → ∀ (a1 : Int), (Lit.int .u16 a1).wf = true → kotatsulaw09_CodeLists.f a0 a1 = some true := by
  intro a0 h0 a1 h1
  obtain ⟨a, ha, rfl⟩ := word_of h1
  obtain ⟨p, rfl⟩ := bytes_of a0 h0.2
  have hl : (p.map fun z => (z.val : Int)).length ≤ 9223372036854775807 := maxLen_le h0.1
  have hc := cut_ok (p.map fun z => (z.val : Int)) 40 hl (by omega)
  have hm : (p.map fun z => (z.val : Int)).take 40 = (p.take 40).map fun z => (z.val : Int) := (List.map_take ..).symm
  rw [hm] at hc
  have hpl : (p.take 40).length ≤ 40 := by simp; omega
  generalize p.take 40 = q at hc hpl
  have haw : kotatsulaw09_awake.f = some true := awake_true
  obtain ⟨L, hg, hL, hr⟩ := list_loop q.length q a (((((q.map fun z => (z.val : Int)).length : Int) - 0).toNat) + 2) [] (Nat.le_refl _) (by simp; try omega) (by simp; try omega) ha
  have hlist : code_List.f (q.map fun z => (z.val : Int)) (a : Int) = some L := hr
  have hc' : kotatsuref01_Cut.f (p.map fun z => (z.val : Int)) 40 = some (q.map fun z => (z.val : Int)) := hc
  simp only [kotatsulaw09_CodeLists.f, haw, Option.bind_some, Bool.not_true, cond_false, hc', hlist]
  exact lists_loop _ (by simp; omega) L (by omega) L q a 0 _ [] rfl (by omega) (by omega) hg ha rfl
end Go.Proofs.YtpbcbfbichfioaaDoor
