/- The plain law of ShelfFails. -/
import Derived.Test.YtpajmahpphcbaaaGreatDoorShAll
namespace Go.Proofs.YtpajmahpphcbaaaGreatDoor
open Kot Go
set_option maxRecDepth 100000
theorem sg_ok (s : shelf_Shelf) (h : HS) (hx : OkS s.f_safe) : shelf_Shelf_Safe_d0beRPO.f s h = some s.f_safe := by
  unfold shelf_Shelf_Safe_d0beRPO.f
  rw [copied_ok _ hx, Option.bind_some]
section
variable {b : Nat} {h : HS} {g ib il : Nat} {x : List (List Int)} {l : List Pay} {s : shelf_Shelf}
/-- the first call of a sync fails -/
theorem sync_fails (R : Run b h g ib il x l s) (hw : s.f_wait ≠ []) {hF hG : HS} {e : Int} (he : e ≠ 0) (hA : ∀ p : List Int, 0 < p.length → p.length ≤ 100000 → host_Host_Append.f hF (lg g) p = some (e, hG)) :
    shelf_Shelf_Sync_d0beRPO.f s hF = some (e, ⟨s.f_all, s.f_safe, s.f_wait, s.f_top, s.f_gen, IntKind.wrap .u32 (s.f_tries + 1), s.f_size⟩, hG) := by
  have t0 := R.t0
  have t1 := R.t1
  have hwl := R.wl
  have hml := merge_len s.f_wait
  have hpos : 0 < s.f_wait.length := List.length_pos_iff.2 hw
  have hmw : ∀ w ∈ merge s.f_wait, Good (shape x) w := merge_good R.ws
  have hne := merge_ne hw
  have hlk := lg_ok R.S.gl
  have hg : shelf_Shelf_group_d0beRPO.f s hF = some (e, ⟨s.f_all, s.f_safe, s.f_wait, s.f_top, s.f_gen, IntKind.wrap .u32 (s.f_tries + 1), s.f_size⟩, hG) := by
    unfold shelf_Shelf_group_d0beRPO.f
    rw [merge_ok _ (by omega) (fun w hw => (R.ws w hw).1), Option.bind_some]
    unfold shelf_Shelf_group_d0beRPO.j1
    rw [show s.f_tries = ((s.f_tries.toNat : Nat) : Int) by omega, sbytes_ok (by omega) (by omega) (fun w hw => (hmw w hw).1), Option.bind_some]
    rw [show ((s.f_tries.toNat : Nat) : Int) = s.f_tries by omega]
    cases hm : merge s.f_wait with
    | nil => exact absurd hm hne
    | cons w ws =>
      have hw1 := (hmw w (by rw [hm]; exact List.mem_cons_self ..)).1
      have hd := hw1.d2
      have hfr : (Pay.item s.f_tries.toNat 0 w).fr.length = w.f_Data.length + 22 := by
        rw [Pay.fr_len]
        simp only [Pay.b, List.length_cons, List.length_append, lay4_len]
        omega
      have hap := hA (Pay.item s.f_tries.toNat 0 w).fr (by omega) (by omega)
      have e0 : (grp s.f_tries.toNat (w :: ws)).map Pay.fr = (Pay.item s.f_tries.toNat 0 w).fr :: ((recs s.f_tries.toNat (0 + 1) ws) ++ [Pay.mark s.f_tries.toNat (w :: ws).length]).map Pay.fr := rfl
      rw [e0]
      generalize ((recs s.f_tries.toNat (0 + 1) ws) ++ [Pay.mark s.f_tries.toNat (w :: ws).length]).map Pay.fr = rest
      have g0 : lget ((Pay.item s.f_tries.toNat 0 w).fr :: rest) 0 = some (Pay.item s.f_tries.toNat 0 w).fr := rfl
      have gf : (((((Pay.item s.f_tries.toNat 0 w).fr :: rest).length : Int) - 0 : Int).toNat + 2) = ((((Pay.item s.f_tries.toNat 0 w).fr :: rest).length : Int) - 0 : Int).toNat + 1 + 1 := rfl
      rw [gf]
      simp only [shelf_Shelf_group_d0beRPO.l2]
      rw [decide_eq_true (by simp only [List.length_cons]; omega), cond_true, g0, Option.bind_some, R.gen, hlk.1, Option.bind_some, hap, Option.bind_some]
      have : (e != 0) = true := by simpa using he
      simp only [this, cond_true]
  unfold shelf_Shelf_Sync_d0beRPO.f
  rw [ltT (by omega), cond_true, hg, Option.bind_some]
  have : (e != 0) = true := by simpa using he
  rw [this, cond_true]
end
/-- a write is tried again -/
theorem Use.again {n m : Nat} {top : Int} {h : HS} {s : shelf_Shelf} (U : Use n m top h s) : Use n m top h ⟨s.f_all, s.f_safe, s.f_wait, s.f_top, s.f_gen, IntKind.wrap .u32 (s.f_tries + 1), s.f_size⟩ := by
  obtain ⟨⟨b, g, ib, il, x, l, R, C, hb, hg⟩, wl, ws, tp, sz⟩ := U
  have h1 : 0 ≤ IntKind.wrap .u32 (s.f_tries + 1) ∧ IntKind.wrap .u32 (s.f_tries + 1) < 4294967296 := by rw [IntKind.wrap_u32]; omega
  exact ⟨⟨b, g, ib, il, x, l, ⟨R.S, R.gen, R.size, R.safe, R.all, R.shp, R.ws, R.wl, h1.1, h1.2, R.lo, R.ll, R.fin, R.sz⟩, C, hb, hg⟩, wl, ws, tp, sz⟩
/-- behind the call that failed -/
theorem fails_end {n m : Nat} {h : HS} {s : shelf_Shelf} (U : Use n m 400 h s) (hn : n ≤ 20) (hm : m ≤ 30) (hw : s.f_wait ≠ []) {hF hG : HS} {e : Int} (he : e ≠ 0) (r23388 : Int × shelf_Shelf × HS) (hr : r23388.2.1 = s)
    (hA : ∀ g : Nat, mget h.l (lg g) ≥ 0 → ∀ p : List Int, 0 < p.length → p.length ≤ 100000 → host_Host_Append.f hF (lg g) p = some (e, hG))
    (hB : (host_Host_Arm.f hG (-1)).bind (fun r => host_Host_Limit.f r 1000000) = some h) :
    kotatsulaw04_ShelfFails.j8 r23388 s.f_all s.f_safe (hF, e) = some true := by
  have ok : OkS s.f_safe := by obtain ⟨b, g, ib, il, x, l, R, C, hb, hg⟩ := U.run; exact R.oks
  have oa : OkS s.f_all := by obtain ⟨b, g, ib, il, x, l, R, C, hb, hg⟩ := U.run; exact R.oka
  have c1 : shelf_Shelf_Sync_d0beRPO.f s hF = some (e, ⟨s.f_all, s.f_safe, s.f_wait, s.f_top, s.f_gen, IntKind.wrap .u32 (s.f_tries + 1), s.f_size⟩, hG) := by
    obtain ⟨b, g, ib, il, x, l, R, C, hb, hg⟩ := U.run
    exact sync_fails R hw he (hA g (by rw [R.S.cur.2]; omega))
  have U1 := U.again
  obtain ⟨s2, h2, c2, U2, w2, a2, f2⟩ := use_sync U1 (by omega) hm (by decide)
  obtain ⟨b, g, ib, il, x, l, h3, h4, e0, ok3, hb, hg, c3, c4, R4⟩ := use_open U2 (by omega) 0 [] (by decide) 400
  have hpos : 0 < s.f_wait.length := List.length_pos_iff.2 hw
  have hs2 : s2.f_safe = s.f_all := f2
  have p1 : ((s.f_wait.length : Int) == 0) = false := by simpa using hw
  have sd1 := sd_ok ⟨s.f_all, s.f_safe, s.f_wait, s.f_top, s.f_gen, IntKind.wrap .u32 (s.f_tries + 1), s.f_size⟩ hG oa
  have sf1 := sg_ok ⟨s.f_all, s.f_safe, s.f_wait, s.f_top, s.f_gen, IntKind.wrap .u32 (s.f_tries + 1), s.f_size⟩ hG ok
  have sm1 := same_ok _ oa
  have sm2 := same_ok _ ok
  have e1 : (e != e) = false := by simp
  have sd2 := sd_ok ⟨s2.f_safe, s2.f_safe, [], 400, (g : Int), 0, s2.f_size⟩ h4 (by show OkS s2.f_safe; rw [hs2]; exact oa)
  rw [hs2] at c4 sd2
  unfold kotatsulaw04_ShelfFails.j8
  rw [hr]
  simp only [c1, Option.bind_some, e1, cond_false, shelf_Shelf_Pending_d0beRPO.f, p1, sd1, sm1, sf1, sm2, Bool.not_true]
  unfold kotatsulaw04_ShelfFails.j9
  obtain ⟨r1, q1, q2⟩ := Option.bind_eq_some_iff.1 hB
  simp only [q1, Option.bind_some, q2, c2, show ((0 : Int) != 0) = false from rfl, cond_false, shelf_Shelf_Pending_d0beRPO.f, w2, List.length_nil, show (((0 : Nat) : Int) != 0) = false from rfl]
  unfold kotatsulaw04_ShelfFails.j10
  simp only [c3, Option.bind_some, c4, optb, show ((0 : Int) == 0) = true from rfl, cond_true, sd2, sm1]
/-- a write keeps the safe sides -/
theorem write_safe {n m : Nat} {top : Int} {h : HS} {s : shelf_Shelf} (U : Use n m top h s) (hm : m < 30) (w : scroll_Write) (hw : WNum w) (hd : w.f_Data.length ≤ 12) :
    ∃ (e : Int) (s' : shelf_Shelf), shelf_Shelf_Write_d0beRPO.f s h w = some (e, s', h) ∧ Use n (m + 1) top h s' ∧ s'.f_safe = s.f_safe ∧ (Good (shape s.f_safe) w → e = 0 ∧ s'.f_wait ≠ []) := by
  have U0 := U
  obtain ⟨⟨b, g, ib, il, x, l, R, C, hb, hg⟩, wl, ws, tp, sz⟩ := U
  obtain ⟨e, s', c1, R', hh⟩ := write_ok R w hw (by omega)
  obtain ⟨e2, s2, c2, U2⟩ := use_write U0 hm w hw hd
  rw [c1] at c2
  obtain ⟨rfl, h3⟩ := Prod.mk.inj (Option.some.inj c2)
  obtain ⟨rfl, _⟩ := Prod.mk.inj h3
  refine ⟨e, s', c1, U2, ?_, fun hG => ?_⟩
  · rcases hh with ⟨_, rfl, _⟩ | ⟨_, _, rfl⟩ <;> rfl
  · rcases hh with ⟨_, _, h4⟩ | ⟨h4, _, rfl⟩
    · rw [R.shp] at hG; exact absurd hG h4
    · exact ⟨h4, by simp⟩
theorem fails_last (a1 : Int) (a2 a3 : Bool) {n m : Nat} {h : HS} {s : shelf_Shelf} (U : Use n m 400 h s) (hn : n ≤ 20) (hm : m < 30) (t : List (List Int)) (hs : s.f_safe = List.replicate 9 0 :: t) (a0 : List kotatsulaw04_Act) (f i : Nat) (hi : a0.length ≤ i) :
    kotatsulaw04_ShelfFails.l1 a0 a1 a2 a3 (f + 1) (h, s.f_all, s.f_wait, s.f_safe, s.f_top, s.f_gen, s.f_tries, s.f_size, (i : Int)) = some true := by
  obtain ⟨e, s1, c1, U1, hs1, hG⟩ := write_safe U hm ⟨0, 0, [a1]⟩ ⟨Int.le_refl _, by show (0 : Int) < 256; decide, Int.le_refl _, by show (0 : Int) < 4294967296; decide, by show 1 ≤ 100000; decide⟩ (by show 1 ≤ 12; decide)
  obtain ⟨rfl, hw⟩ := hG ⟨⟨Int.le_refl _, by show (0 : Int) < 8; decide, Int.le_refl _, by show (0 : Int) < 65536; decide, Nat.le_refl _, by show 1 ≤ 4096; decide, by show (0 : Int) + 1 ≤ 65536; decide⟩, 9, by rw [hs]; rfl, by show 0 + 1 ≤ 9; decide⟩
  have ok : OkS s1.f_safe := by obtain ⟨b, g, ib, il, x, l, R, C, hb, hg⟩ := U1.run; exact R.oks
  have oa : OkS s1.f_all := by obtain ⟨b, g, ib, il, x, l, R, C, hb, hg⟩ := U1.run; exact R.oka
  obtain ⟨I, NN⟩ : Inv 200 h ∧ NF h := by obtain ⟨b, g, ib, il, x, l, R, C, hb, hg⟩ := U1.run; exact ⟨R.S.P.I.mono (by omega), R.S.P.n⟩
  have c1' : shelf_Shelf_Write_d0beRPO.f ⟨s.f_all, s.f_safe, s.f_wait, s.f_top, s.f_gen, s.f_tries, s.f_size⟩ h ⟨0, 0, [a1]⟩ = _ := c1
  have sd1 := sd_ok s1 h oa
  have sf1 := sg_ok s1 h ok
  have hu := used_le I h.l 0 I.lok.2.1 (by have := I.lok.2.2; omega) (Int.le_refl _) (by have := I.lok.2.2; omega)
  simp only [kotatsulaw04_ShelfFails.l1]
  rw [decide_eq_false (by omega), cond_false]
  simp only [c1', Option.bind_some, show ((0 : Int) != 0) = false from rfl, cond_false, sd1, sf1, shelf_Shelf_Host_d0beRPO.f]
  obtain ⟨fs, l, sa, wt, lm, ar, fl, rd⟩ := h
  obtain ⟨n1, n2, n3⟩ := NN
  simp only at n1 n2 n3
  subst n1 n2 n3
  cases a3
  · rw [cond_false]
    cases a2
    · rw [cond_false]
      exact fails_end U1 hn (by omega) hw (hF := ⟨fs, l, sa, wt, 1000000, 0, -1, rd⟩) (hG := ⟨fs, l, sa, wt, 1000000, 0, -1, rd⟩) (e := 9) (by decide) _ rfl (fun g _ p _ _ => rfl) rfl
    · rw [cond_true]
      exact fails_end U1 hn (by omega) hw (hF := ⟨fs, l, sa, wt, 1000000, -1, 0, rd⟩) (hG := ⟨fs, l, sa, wt, 1000000, -1, -1, rd⟩) (e := 8) (by decide) _ rfl (fun g _ p _ _ => rfl) rfl
  · rw [cond_true]
    simp only at hu
    refine fails_end U1 hn (by omega) hw (hF := ⟨fs, l, sa, wt, max (List.foldl (usedS fs) 0 l) 0, -1, -1, rd⟩) (hG := ⟨fs, l, sa, wt, max (List.foldl (usedS fs) 0 l) 0, -1, -1, rd⟩) (e := 7) (by decide) _ rfl (fun g hg p hp1 hp2 => ?_) rfl
    simp only at hg
    have e0 : host_Host_Append.f ⟨fs, l, sa, wt, max (List.foldl (usedS fs) 0 l) 0, -1, -1, rd⟩ (lg g) p = bif decide ((mget l (lg g)) < 0) then (some (4, ⟨fs, l, sa, wt, max (List.foldl (usedS fs) 0 l) 0, -1, -1, rd⟩)) else (bif decide (IntKind.wrap .i64 (max (List.foldl (usedS fs) 0 l) 0 - (List.foldl (usedS fs) 0 l)) < (p.length : Int)) then (some (7, ⟨fs, l, sa, wt, max (List.foldl (usedS fs) 0 l) 0, -1, -1, rd⟩)) else _) := rfl
    rw [e0, decide_eq_false (by omega), cond_false, show max (List.foldl (usedS fs) 0 l) 0 - (List.foldl (usedS fs) 0 l) = 0 by omega, show IntKind.wrap .i64 0 = 0 from rfl, decide_eq_true (by omega), cond_true]
theorem fails_loop (a0 : List kotatsulaw04_Act) (ha : ∀ a ∈ a0, AOk a) (hl : a0.length ≤ 9223372036854775807) (a1 : Int) (a2 a3 : Bool) (t : List (List Int)) : ∀ (d i f : Nat) (h : HS) (s : shelf_Shelf), i + d = a0.length → d < f → Use 0 (min i 8) 400 h s → s.f_safe = List.replicate 9 0 :: t →
    kotatsulaw04_ShelfFails.l1 a0 a1 a2 a3 f (h, s.f_all, s.f_wait, s.f_safe, s.f_top, s.f_gen, s.f_tries, s.f_size, (i : Int)) = some true
  | 0, i, f + 1, h, s, hk, _, U, hs => fails_last a1 a2 a3 U (by omega) (by omega) t hs a0 f i (by omega)
  | d + 1, i, f + 1, h, s, hk, hf, U, hs => by
    have hi : i < a0.length := by omega
    simp only [kotatsulaw04_ShelfFails.l1]
    rw [ltT (by omega), cond_true, lget_lt hi, Option.bind_some, wrap1 (by omega)]
    by_cases h8 : i < 8
    · obtain ⟨w, v, ew, hw, hd⟩ := wr_ok _ (ha _ (List.getElem_mem hi))
      obtain ⟨e, s1, c1, U1, hs1, _⟩ := write_safe U (by omega) w hw hd
      have c1' : shelf_Shelf_Write_d0beRPO.f ⟨s.f_all, s.f_safe, s.f_wait, s.f_top, s.f_gen, s.f_tries, s.f_size⟩ h w = _ := c1
      rw [ltT (by omega), cond_true, ew, Option.bind_some, c1', Option.bind_some]
      exact fails_loop a0 ha hl a1 a2 a3 t d (i + 1) f h s1 (by omega) (by omega) (U1.mono (by omega) (by omega)) (hs1.trans hs)
    · rw [ltF (by omega), cond_false]
      exact fails_loop a0 ha hl a1 a2 a3 t d (i + 1) f h s (by omega) (by omega) (U.mono (by omega) (by omega)) hs
theorem kotatsulaw04_ShelfFails.pure : ∀ (a0 : List kotatsulaw04_Act), (a0.length ≤ maxLen ∧ ∀ a ∈ a0, kotatsulaw04_Act.W a) → ∀ (a1 : Int), (Lit.int .u8 a1).wf = true → ∀ (a2 : Bool), ∀ (a3 : Bool), kotatsulaw04_ShelfFails.f a0 a1 a2 a3 = some true := by
  intro acts hacts n hn io full
  obtain ⟨r, e, B⟩ := begin_ok [20] (by decide) (by decide) 400 (by decide) (by decide)
  obtain ⟨t, ht⟩ := B.s0
  unfold kotatsulaw04_ShelfFails.f
  rw [awake_ok, Option.bind_some, Bool.not_true, cond_false, e, Option.bind_some, B.ok, Bool.not_true, cond_false]
  exact fails_loop acts (fun a h => aok (hacts.2 a h)) (len_of hacts.1) n io full t acts.length 0 _ r.2.1 r.1 (by omega) (by omega) (Use.beg B) ht
end Go.Proofs.YtpajmahpphcbaaaGreatDoor
