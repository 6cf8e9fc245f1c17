/- The plain law of ShelfNil. -/
import Derived.Test.YtpajmahpphcbaaaGreatDoorShAll
import Derived.KernelRfl
namespace Go.Proofs.YtpajmahpphcbaaaGreatDoor
open Kot Go
set_option maxRecDepth 100000
/-! ### the document's write -/
theorem rw_right (v : kotatsuref03_Write) (s0 : 0 ≤ v.f_Side) (a0 : 0 ≤ v.f_At) (a1 : v.f_At ≤ 100000) (d : v.f_Data.length ≤ 4096) :
    kotatsuref03_Right.f v = some (decide (v.f_Side < 8 ∧ v.f_At < 65536 ∧ 0 < v.f_Data.length ∧ v.f_At + v.f_Data.length ≤ 65536)) := by
  unfold kotatsuref03_Right.f
  simp only [bnd]
  rw [decide_eq_true s0, cond_true, decide_eq_true a0, cond_true, decide_eq_true (show (v.f_Data.length : Int) ≤ 4096 by omega), cond_true, wrapI (by omega) (by omega)]
  by_cases h1 : v.f_Side < 8
  · rw [decide_eq_true h1, cond_true]
    by_cases h2 : v.f_At < 65536
    · rw [decide_eq_true h2, cond_true]
      by_cases h3 : 0 < v.f_Data.length
      · rw [decide_eq_true (by omega), cond_true]
        by_cases h4 : v.f_At + v.f_Data.length ≤ 65536
        · rw [decide_eq_true h4, decide_eq_true ⟨h1, h2, h3, h4⟩]
        · rw [decide_eq_false h4, decide_eq_false (fun h => h4 h.2.2.2)]
      · rw [decide_eq_false (by omega), cond_false, decide_eq_false (fun h => h3 h.2.2.1)]
    · rw [decide_eq_false h2, cond_false, decide_eq_false (fun h => h2 h.2.1)]
  · rw [decide_eq_false h1, cond_false, decide_eq_false (fun h => h1 h.1)]
theorem rap_copy (x : List (List Int)) (h : OkS x) (l : List kotatsuref03_Write) : ∀ (d i f : Nat), i + d = x.length → d < f → kotatsuref03_Apply.l1 x l f (x.take i, (i : Int)) = kotatsuref03_Apply.l16 l ((((l.length : Int) - 0 : Int).toNat + 2)) (x, 0)
  | 0, i, f + 1, hk, _ => by
    have h8 := h.l8
    simp only [kotatsuref03_Apply.l1]
    rw [ltF (by omega), cond_false, List.take_of_length_le (by omega)]
  | d + 1, i, f + 1, hk, hf => by
    have h8 := h.l8
    have hi : i < x.length := by omega
    have hq := h.q _ (List.getElem_mem hi)
    simp only [kotatsuref03_Apply.l1]
    rw [ltT (by omega), cond_true, lget_lt hi, Option.bind_some, rjoin_ok _ (by simp) (by simp [lens]; omega), Option.bind_some, lim_ok (by simp; omega), Option.bind_some, wrap1 (by omega)]
    have e : x.take i ++ [[x[i]].flatten] = x.take (i + 1) := by
      rw [List.take_add_one, List.getElem?_eq_getElem hi]; simp
    rw [e]
    exact rap_copy x h l d (i + 1) f (by omega) (by omega)
theorem set_cpw {z d : List Int} {a k : Nat} (h : a + d.length ≤ z.length) (hk : k < d.length) : (cpw z (a : Int) (d.take k)).set (a + k) d[k] = cpw z (a : Int) (d.take (k + 1)) := by
  have hl : (d.take k).length = k := by rw [List.length_take]; omega
  have hl2 : (d.take (k + 1)).length = k + 1 := by rw [List.length_take]; omega
  unfold cpw
  rw [Int.toNat_natCast, hl, hl2, List.take_add_one, List.getElem?_eq_getElem hk, Option.toList_some]
  have e1 : z.drop (a + k) = z[a + k] :: z.drop (a + (k + 1)) := by rw [show a + (k + 1) = (a + k) + 1 by omega]; exact List.drop_eq_getElem_cons (by omega)
  rw [e1]
  have e2 : (z.take a ++ d.take k ++ z[a + k] :: z.drop (a + (k + 1))).set (a + k) d[k] = (z.take a ++ d.take k) ++ (z[a + k] :: z.drop (a + (k + 1))).set 0 d[k] := by
    rw [List.set_append_right _ _ (by simp; omega)]
    congr 2
    simp; omega
  rw [e2, List.set_cons_zero]
  simp only [List.append_assoc, List.cons_append, List.nil_append]
theorem rap_put (s : (List (List Int)) × Int) (k0 : ((List (List Int)) × Int) → Option ((List (List Int)) × Bool)) (v : kotatsuref03_Write) (x : List (List Int)) (i : Nat) (a : Nat) (hi : i < x.length) (hs : v.f_Side = (i : Int)) (ha : v.f_At = (a : Int)) (hd : a + v.f_Data.length ≤ x[i].length) (hb : x[i].length ≤ 65536) : ∀ (d k f : Nat), k + d = v.f_Data.length → d < f →
    kotatsuref03_Apply.l22 s k0 v f (x.set i (cpw x[i] (a : Int) (v.f_Data.take k)), (k : Int)) = k0 (x.set i (cpw x[i] (a : Int) v.f_Data), IntKind.wrap .i64 (s.2 + 1))
  | 0, k, f + 1, hk, _ => by
    simp only [kotatsuref03_Apply.l22]
    rw [ltF (by omega), cond_false, List.take_of_length_le (by omega)]
  | d + 1, k, f + 1, hk, hf => by
    have hkl : k < v.f_Data.length := by omega
    have htl : (v.f_Data.take k).length = k := by rw [List.length_take]; omega
    have hcl : (cpw x[i] (a : Int) (v.f_Data.take k)).length = x[i].length := cpw_len' (by rw [Int.toNat_natCast]; omega)
    have hi2 : i < (x.set i (cpw x[i] (a : Int) (v.f_Data.take k))).length := by rw [List.length_set]; exact hi
    simp only [kotatsuref03_Apply.l22]
    rw [ltT (by omega), cond_true, lget_lt hkl, Option.bind_some, hs, lget_lt hi2, Option.bind_some, List.getElem_set_self, ha, wrapI (by omega) (by omega), show ((a : Int) + (k : Int)) = ((a + k : Nat) : Int) by omega, lget_lt (by omega : a + k < (cpw x[i] (a : Int) (v.f_Data.take k)).length), Option.bind_some, wrap1 (by omega), Int.toNat_natCast, Int.toNat_natCast, List.set_set, set_cpw hd hkl]
    exact rap_put s k0 v x i a hi hs ha hd hb d (k + 1) f (by omega) (by omega)
theorem rapply_ok (x : List (List Int)) (h : OkS x) (w : scroll_Write) (hw : WNum w) (hd : w.f_Data.length ≤ 30) :
    (Good (shape x) w → kotatsuref03_Apply.f x [⟨w.f_Side, min w.f_At 100000, w.f_Data⟩] = some (put x w, true)) ∧ (¬ Good (shape x) w → kotatsuref03_Apply.f x [⟨w.f_Side, min w.f_At 100000, w.f_Data⟩] = some ([], false)) := by
  obtain ⟨s0, s1, a0, a1, dl⟩ := hw
  have h8 := h.l8
  have e0 : kotatsuref03_Apply.f x [⟨w.f_Side, min w.f_At 100000, w.f_Data⟩] = kotatsuref03_Apply.l16 [⟨w.f_Side, min w.f_At 100000, w.f_Data⟩] 3 (x, 0) := rap_copy x h [⟨w.f_Side, min w.f_At 100000, w.f_Data⟩] x.length 0 _ (by omega) (by omega)
  have hr := rw_right ⟨w.f_Side, min w.f_At 100000, w.f_Data⟩ s0 (by show 0 ≤ min w.f_At 100000; omega) (by show min w.f_At 100000 ≤ 100000; omega) (by show w.f_Data.length ≤ 4096; omega)
  rw [e0]
  simp only [kotatsuref03_Apply.l16]
  have g0 : lget ([⟨w.f_Side, min w.f_At 100000, w.f_Data⟩] : List kotatsuref03_Write) 0 = some ⟨w.f_Side, min w.f_At 100000, w.f_Data⟩ := rfl
  rw [show decide ((0 : Int) < ((([⟨w.f_Side, min w.f_At 100000, w.f_Data⟩] : List kotatsuref03_Write).length : Nat) : Int)) = true from rfl, cond_true, g0, Option.bind_some, hr, Option.bind_some]
  simp only []
  by_cases hc : w.f_Side < 8 ∧ min w.f_At 100000 < 65536 ∧ 0 < w.f_Data.length ∧ min w.f_At 100000 + w.f_Data.length ≤ 65536
  · have hW : WOk w := ⟨s0, hc.1, a0, by omega, by omega, by omega, by omega⟩
    have hm : min w.f_At 100000 = w.f_At := by omega
    rw [decide_eq_true hc, Bool.not_true, cond_false, hm]
    by_cases hx : (x.length : Int) ≤ w.f_Side
    · rw [decide_eq_true hx, cond_true]
      refine ⟨fun ⟨_, n, hn, _⟩ => ?_, fun _ => rfl⟩
      rw [shape_get, List.getElem?_eq_none (by omega)] at hn
      cases hn
    · have hi : w.f_Side.toNat < x.length := by omega
      have hse : w.f_Side = ((w.f_Side.toNat : Nat) : Int) := by omega
      have hae : w.f_At = ((w.f_At.toNat : Nat) : Int) := by omega
      have hq := h.q _ (List.getElem_mem hi)
      have lg0 : lget x w.f_Side = some x[w.f_Side.toNat] := by
        have := lget_lt hi
        rwa [← hse] at this
      rw [decide_eq_false hx, cond_false, lg0, Option.bind_some, wrapI (by omega) (by omega)]
      by_cases hf : (x[w.f_Side.toNat].length : Int) < w.f_At + w.f_Data.length
      · rw [decide_eq_true hf, cond_true]
        refine ⟨fun ⟨_, n, hn, hn2⟩ => ?_, fun _ => rfl⟩
        rw [shape_get, List.getElem?_eq_getElem hi] at hn
        simp only [Option.map_some, Option.some.injEq] at hn
        omega
      · rw [decide_eq_false hf, cond_false]
        refine ⟨fun _ => ?_, fun hn => absurd ⟨hW, _, by rw [shape_get, List.getElem?_eq_getElem hi]; rfl, by omega⟩ hn⟩
        unfold kotatsuref03_Apply.j21
        have := rap_put (x, 0) (kotatsuref03_Apply.l16 [⟨w.f_Side, w.f_At, w.f_Data⟩] 2) ⟨w.f_Side, w.f_At, w.f_Data⟩ x w.f_Side.toNat w.f_At.toNat hi hse hae (by show w.f_At.toNat + w.f_Data.length ≤ _; omega) hq w.f_Data.length 0 (((w.f_Data.length : Int) - 0 : Int).toNat + 2) (by simp) (by omega)
        have e1 : x.set w.f_Side.toNat (cpw x[w.f_Side.toNat] ((w.f_At.toNat : Nat) : Int) (w.f_Data.take 0)) = x := by
          rw [List.take_zero]
          unfold cpw
          simp
        rw [show ((⟨w.f_Side, w.f_At, w.f_Data⟩ : kotatsuref03_Write).f_Data.take 0) = w.f_Data.take 0 from rfl, e1] at this
        refine this.trans ?_
        have e2 : x.set w.f_Side.toNat (cpw x[w.f_Side.toNat] ((w.f_At.toNat : Nat) : Int) w.f_Data) = put x w := by
          unfold put
          rw [← hae, List.getD_eq_getElem?_getD, List.getElem?_eq_getElem hi, Option.getD_some]
        rw [e2]
        rfl
  · rw [decide_eq_false hc, Bool.not_false, cond_true]
    refine ⟨fun ⟨hW, _⟩ => absurd ⟨hW.s1, ?_, ?_, ?_⟩ hc, fun _ => rfl⟩
    · have := hW.a1; omega
    · have := hW.d1; omega
    · have := hW.e; have := hW.a1; omega
/-! ### what there is no shelf of -/
theorem nil_right : ∀ n : Fin 256, shelf_right.f (List.replicate n.val ([] : List Int)) = some (decide (1 ≤ n.val) && decide (n.val ≤ 8)) := by decide +kernel
def hK : HS := ⟨[], [], [], [], 1000, -1, -1, 0⟩
theorem nil_make (top : Int) : ∀ n : Nat, 1 ≤ n → n ≤ 8 → (shelf_Make.f hK (List.replicate n ([] : List Int)) top).map (fun r => r.2.1) = some 0
  | 0, h, _ => by omega
  | 1, _, _ => by kernel_rfl
  | 2, _, _ => by kernel_rfl
  | 3, _, _ => by kernel_rfl
  | 4, _, _ => by kernel_rfl
  | 5, _, _ => by kernel_rfl
  | 6, _, _ => by kernel_rfl
  | 7, _, _ => by kernel_rfl
  | 8, _, _ => by kernel_rfl
  | _ + 9, _, h => by omega
theorem nil_make2 (top : Int) (n : Nat) (hn : n < 256) : ∃ e : Int, (shelf_Make.f hK (List.replicate n ([] : List Int)) top).map (fun r => r.2.1) = some e ∧ (e == 0) = (decide (1 ≤ n) && decide (n ≤ 8)) := by
  by_cases h : 1 ≤ n ∧ n ≤ 8
  · exact ⟨0, nil_make top n h.1 h.2, by rw [decide_eq_true h.1, decide_eq_true h.2]; rfl⟩
  · have hr := nil_right ⟨n, hn⟩
    simp only at hr
    have hf : (decide (1 ≤ n) && decide (n ≤ 8)) = false := by
      rw [← Bool.decide_and]; exact decide_eq_false h
    refine ⟨1, ?_, by rw [hf]; rfl⟩
    unfold shelf_Make.f
    rw [hr, hf, Option.bind_some, Bool.not_false, cond_true]
    rfl
theorem nil_great (top : Int) : shelf_Make.f nuH [List.replicate (65537 : Int).toNat (0 : Int)] top = some (none, 1, nuH) := by
  have hr : shelf_right.f [List.replicate (65537 : Int).toNat (0 : Int)] = some false := by
    unfold shelf_right.f
    rw [show (((([List.replicate (65537 : Int).toNat (0 : Int)] : List (List Int)).length : Nat) : Int) - 0 : Int).toNat + 2 = 2 + 1 from rfl]
    simp only [shelf_right.l1]
    have g0 : lget ([List.replicate (65537 : Int).toNat (0 : Int)] : List (List Int)) 0 = some (List.replicate (65537 : Int).toNat (0 : Int)) := rfl
    rw [show decide ((0 : Int) < ((([List.replicate (65537 : Int).toNat (0 : Int)] : List (List Int)).length : Nat) : Int)) = true from rfl, cond_true, g0, Option.bind_some, List.length_replicate, show decide ((65536 : Int) < (((65537 : Int).toNat : Nat) : Int)) = true from rfl, cond_true]
  unfold shelf_Make.f
  rw [hr, Option.bind_some, Bool.not_false, cond_true]
theorem nil_twice {n m : Nat} {top : Int} {h : HS} {s : shelf_Shelf} (U : Use n m top h s) (hn : n ≤ 20) (t2 : Int) : shelf_Make.f h [[1]] t2 = some (none, 10, h) := by
  obtain ⟨b, g, ib, il, x, l, R, C, hb, hg⟩ := U.run
  have ok : OkS [[1]] := ⟨by decide, by decide, by decide⟩
  unfold shelf_Make.f
  rw [sright_ok _ ok, Option.bind_some, Bool.not_true, cond_false, copied_ok _ ok, Option.bind_some, Option.bind_some]
  have : ([98, 97, 115, 101] : List UInt8) = kB := rfl
  rw [there_ok R.S.P.I (by omega), this, R.S.cur.1, decide_eq_false (by omega), Option.bind_some, Bool.not_false, cond_true]
theorem sameo_loop0 (p : List Int) (hp : p.length ≤ 100000) : ∀ (d i f : Nat), i + d = p.length → d < f → kotatsuref01_Same_o0.l1 p p f (i : Int) = some true
  | 0, i, f + 1, hk, _ => by
    simp only [kotatsuref01_Same_o0.l1]
    rw [ltF (by omega), cond_false]
  | d + 1, i, f + 1, hk, hf => by
    simp only [kotatsuref01_Same_o0.l1]
    rw [ltT (by omega), cond_true, lget_lt (by omega), Option.bind_some, Option.bind_some, bne_self_eq_false, cond_false, wrap1 (by omega)]
    exact sameo_loop0 p hp d (i + 1) f (by omega) (by omega)
theorem same_loop0 (x : List (List Int)) (h : OkS x) : ∀ (d i f : Nat), i + d = x.length → d < f → kotatsuref04_Same_r0.l1 x x f (i : Int) = some true
  | 0, i, f + 1, hk, _ => by
    simp only [kotatsuref04_Same_r0.l1]
    rw [ltF (by omega), cond_false]
  | d + 1, i, f + 1, hk, hf => by
    have h8 := h.l8
    have hi : i < x.length := by omega
    have hq := h.q _ (List.getElem_mem hi)
    have hs : kotatsuref01_Same_o0.f x[i] x[i] = some true := by
      unfold kotatsuref01_Same_o0.f
      rw [bne_self_eq_false, cond_false]
      exact sameo_loop0 x[i] (by omega) x[i].length 0 _ (by omega) (by omega)
    simp only [kotatsuref04_Same_r0.l1]
    rw [ltT (by omega), cond_true, lget_lt hi, Option.bind_some, Option.bind_some, hs, Option.bind_some, Bool.not_true, cond_false, wrap1 (by omega)]
    exact same_loop0 x h d (i + 1) f (by omega) (by omega)
theorem same_ok0 (x : List (List Int)) (h : OkS x) : kotatsuref04_Same_r0.f x x = some true := by
  unfold kotatsuref04_Same_r0.f
  rw [bne_self_eq_false, cond_false]
  exact same_loop0 x h x.length 0 _ (by omega) (by omega)
/-! ### the law -/
theorem nil_end (a0 : scroll_Write) (a1 : Int) (a2 : Int) (d : List Int) (h1 : 0 ≤ a1) (h2 : a1 < 256) (hw : WNum ⟨a0.f_Side, a0.f_At, d⟩) (hd : d.length ≤ 30) : kotatsulaw04_ShelfNil.j3 a0 a1 a2 d = some true := by
  obtain ⟨r, e, B⟩ := begin_ok [a1] (by show 1 ≤ 9223372036854775807; decide) (fun n hn => by rw [List.mem_singleton.1 hn]; exact ⟨h1, h2⟩) 100 (by decide) (by decide)
  have U := Use.beg B
  obtain ⟨t, ht⟩ := B.s0
  have hrf := B.rf
  have c1 := nil_twice U (by decide) a2
  obtain ⟨x, ib, il, hx, R, C⟩ := B.ex
  obtain ⟨ge, s', c2, R', hh⟩ := write_ok R ⟨a0.f_Side, a0.f_At, d⟩ hw (by rw [hx]; show 0 < 30; decide)
  have hfs : r.1.f_safe = x := by rw [hx]
  have hfa : r.1.f_all = x := by rw [hx]
  have oa := R'.oka
  have okx : OkS x := R.S.ok
  have sd := sd_ok s' r.2.1 oa
  have sm := same_ok0 _ oa
  obtain ⟨ra, rb⟩ := rapply_ok x okx ⟨a0.f_Side, a0.f_At, d⟩ hw hd
  have hsh := R'.shAll
  have hx0 : x = List.replicate 9 0 :: t := by rw [← hfs]; exact ht
  obtain ⟨p0, pt, hp, hpl⟩ : ∃ (p0 : List Int) (pt : List (List Int)), s'.f_all = p0 :: pt ∧ p0.length = 9 := by
    rw [hx0] at hsh
    cases hs : s'.f_all with
    | nil => rw [hs] at hsh; cases hsh
    | cons p pt => rw [hs] at hsh; exact ⟨p, pt, rfl, by simpa [shape] using (List.cons.inj hsh).1⟩
  have g1 : lget s'.f_all 0 = some p0 := by rw [hp]; rfl
  obtain ⟨z, g2⟩ : ∃ z, lget p0 0 = some z := by
    cases p0 with
    | nil => cases hpl
    | cons z q => exact ⟨z, rfl⟩
  unfold kotatsulaw04_ShelfNil.j3
  rw [e, Option.bind_some]
  unfold shelf_Shelf_Host_d0beRPO.f
  rw [Option.bind_some, c1, Option.bind_some]
  simp only []
  rw [c2, Option.bind_some, sd, Option.bind_some, g1, Option.bind_some, g2, Option.bind_some, Option.bind_some, B.ok, cond_true]
  simp only [show ((10 : Int) == 10) = true from rfl, cond_true]
  rw [wrapI (by have := hw.s1; have := hw.s0; simp only at *; omega) (by have := hw.s1; have := hw.s0; simp only at *; omega), wrapI (by have := hw.a0; simp only at *; omega) (by have := hw.a0; simp only at *; omega)]
  unfold kotatsuref04_Write_d0bOOePPN.f
  rw [hrf, hfs]
  rcases hh with ⟨rfl, rfl, hG⟩ | ⟨rfl, hG, rfl⟩
  · rw [rb hG, Option.bind_some]
    simp only [Bool.not_false, cond_true, Option.bind_some, show ((1 : Int) == 1) = true from rfl]
    rw [hfa] at sm ⊢
    rw [sm, Option.bind_some]
  · rw [ra hG, Option.bind_some]
    simp only [Bool.not_true, cond_false]
    rw [lim_ok (by decide), Option.bind_some, lim_ok (by decide), Option.bind_some]
    simp only [Option.bind_some, show ((0 : Int) == 0) = true from rfl, cond_true]
    have sm2 : kotatsuref04_Same_r0.f (put r.1.f_all ⟨a0.f_Side, a0.f_At, d⟩) (put r.1.f_all ⟨a0.f_Side, a0.f_At, d⟩) = some true := sm
    rw [hfa] at sm2 ⊢
    rw [sm2, Option.bind_some]
def scroll_Write.W (s : scroll_Write) : Prop := (Lit.int .u8 s.f_Side).wf = true ∧ (Lit.int .u32 s.f_At).wf = true ∧ (s.f_Data.length ≤ maxLen ∧ ∀ a ∈ s.f_Data, (Lit.int .u8 a).wf = true)
theorem u32_of {a : Int} (h : (Lit.int .u32 a).wf = true) : 0 ≤ a ∧ a ≤ 4294967295 := by simpa [Lit.wf, IntKind.min, IntKind.max, IntKind.signed, IntKind.bits] using h
theorem kotatsulaw04_ShelfNil.pure : ∀ (a0 : scroll_Write), scroll_Write.W a0 → ∀ (a1 : Int), (Lit.int .u8 a1).wf = true → ∀ (a2 : Int), (Lit.int .i64 a2).wf = true → kotatsulaw04_ShelfNil.f a0 a1 a2 = some true := by
  intro w hw n hn top ht
  obtain ⟨w1, w2, w3, w4⟩ := hw
  have u1 := u8_of w1
  have u2 := u32_of w2
  have u3 := u8_of hn
  have hl : (w.f_Data.take 30).length ≤ 30 := by rw [List.length_take]; omega
  have hwn : WNum ⟨w.f_Side, w.f_At, w.f_Data.take 30⟩ := ⟨u1.1, by show w.f_Side < 256; omega, u2.1, by show w.f_At < 4294967296; omega, by show (w.f_Data.take 30).length ≤ 100000; omega⟩
  have hend := nil_end w n top (w.f_Data.take 30) u3.1 (by omega) hwn hl
  obtain ⟨e, m1, m2⟩ := nil_make2 top n.toNat (by omega)
  obtain ⟨r, q1, q2⟩ := Option.map_eq_some_iff.1 m1
  have hnn : n = ((n.toNat : Nat) : Int) := by omega
  have hc := cut_ok w.f_Data (len_of w3) 30 (by decide)
  unfold kotatsulaw04_ShelfNil.f
  rw [awake_ok, Option.bind_some, Bool.not_true, cond_false, show kotatsuref01_Cut.f w.f_Data 30 = some (w.f_Data.take 30) from hc, Option.bind_some]
  unfold shelf_Make_n0.f shelf_Open_n0.f
  rw [Option.bind_some, Option.bind_some, show host_New.f 100 = some ⟨[], [], [], [], 100, -1, -1, 0⟩ from rfl, Option.bind_some]
  have ho : shelf_Open.f ⟨[], [], [], [], 100, -1, -1, 0⟩ top = some (none, 4, ⟨[], [], [], [], 100, -1, -1, 0⟩) := by kernel_rfl
  rw [ho, Option.bind_some, show host_New.f 1000 = some hK from rfl, Option.bind_some, decide_eq_false (by omega), cond_false, lim_ok (by omega), Option.bind_some, q1, Option.bind_some]
  unfold kotatsulaw04_ShelfNil.j1
  rw [show host_New.f 1000000 = some nuH from rfl, Option.bind_some, show decide (65537 < 0) = false from rfl, cond_false, lim_ok (by decide), Option.bind_some, nil_great, Option.bind_some]
  unfold kotatsulaw04_ShelfNil.j2
  rw [q2, m2]
  have n4 : ((4 : Int) != 4) = false := rfl
  have n1 : ((1 : Int) != 1) = false := rfl
  have z0 : (IntKind.wrap .i64 (IntKind.wrap .i64 (IntKind.wrap .i64 (IntKind.wrap .i64 (((([] : List (List Int)).length : Nat) : Int) + ((([] : List (List Int)).length : Nat) : Int)) + 0) + IntKind.wrap .i64 0) + 0) != 0) = false := rfl
  by_cases h1 : 1 ≤ n
  · have e8 : (!((decide (1 ≤ n.toNat) && decide (n.toNat ≤ 8)) == decide (n ≤ 8))) = false := by
      rw [decide_eq_true (by omega : 1 ≤ n.toNat), Bool.true_and, show decide (n.toNat ≤ 8) = decide (n ≤ 8) from decide_eq_decide.2 (by omega)]
      cases decide (n ≤ 8) <;> rfl
    simp only [n4, n1, cond_false, decide_eq_true h1, cond_true, e8, shelf_Shelf_Write_n0.f, shelf_Shelf_Sync_n0.f, shelf_Shelf_Checkpoint_n0.f, shelf_Shelf_Sides_n0.f, shelf_Shelf_Safe_n0.f, shelf_Shelf_Pending_n0.f, shelf_Shelf_Gen_n0.f, shelf_Shelf_Log_n0.f, shelf_Shelf_Host_n0.f, Option.bind_some, z0, hend]
  · have e8 : (!((decide (1 ≤ n.toNat) && decide (n.toNat ≤ 8)) == false)) = false := by
      rw [decide_eq_false (by omega : ¬ 1 ≤ n.toNat)]; rfl
    simp only [n4, n1, cond_false, decide_eq_false h1, e8, shelf_Shelf_Write_n0.f, shelf_Shelf_Sync_n0.f, shelf_Shelf_Checkpoint_n0.f, shelf_Shelf_Sides_n0.f, shelf_Shelf_Safe_n0.f, shelf_Shelf_Pending_n0.f, shelf_Shelf_Gen_n0.f, shelf_Shelf_Log_n0.f, shelf_Shelf_Host_n0.f, Option.bind_some, z0, hend]
end Go.Proofs.YtpajmahpphcbaaaGreatDoor
