/- The plain law of ShelfTwice. -/
import Derived.Test.YtpajmahpphcbaaaGreatDoorShAll
namespace Go.Proofs.YtpajmahpphcbaaaGreatDoor
open Kot Go
set_option maxRecDepth 100000
theorem sf_ok (s : shelf_Shelf) (h : HS) (hx : OkS s.f_safe) : shelf_Shelf_Safe_d0beRPO.f s h = some s.f_safe := by
  unfold shelf_Shelf_Safe_d0beRPO.f
  rw [copied_ok _ hx, Option.bind_some]
theorem twice_loop (a1 : List kotatsulaw04_Act) (ha : ∀ a ∈ a1, AOk a) (hl : a1.length ≤ 9223372036854775807) (keep : Int) (tails : List Int) (ht : tails.length ≤ 9223372036854775807) : ∀ (d i f : Nat) (h : HS) (s : shelf_Shelf), i + d = a1.length → d < f → Use (min i 10) (min i 10) 200 h s →
    kotatsulaw04_ShelfTwice.l1 a1 keep tails f (h, s.f_all, s.f_wait, s.f_safe, s.f_top, s.f_gen, s.f_tries, s.f_size, (i : Int)) = some true
  | 0, i, f + 1, h, s, hk, _, U => by
    simp only [kotatsulaw04_ShelfTwice.l1]
    rw [ltF (by omega), cond_false]
    obtain ⟨b, g, ib, il, x, l, h1, h2, e0, ok, hb, hg, c1, c2, R2⟩ := use_open U (by omega) keep tails ht 200
    obtain ⟨c3, R3⟩ := open_ok R2.S (by omega) R2.lo R2.ll R2.fin R2.sz 200
    rw [← R2.safe, ← R2.size] at c3 R3
    generalize hh3 : rdS (rdS h2 ib) il = h3 at c3 R3
    have hlen := R3.S.P.I.lok.2.2
    obtain ⟨h4, i3, i4, b', c4, hb', R4, _, _⟩ := check_ok R3 (by omega) (by omega)
    have hlen4 := R4.S.P.I.lok.2.2
    obtain ⟨j1, j2, S5⟩ := crash_sy R4.S (by omega) keep tails
    obtain ⟨c5, R5⟩ := open_ok S5 (by omega) R4.lo R4.ll R4.fin R4.sz 200
    rw [← R4.safe, ← R4.size] at c5
    have sd : ∀ (a : List (List Int)) (wt : List scroll_Write) (tp g t z : Int) (h : HS), shelf_Shelf_Sides_d0beRPO.f ⟨s.f_safe, a, wt, tp, g, t, z⟩ h = some s.f_safe := fun a wt tp g t z h => sd_ok _ _ ok
    have sf : shelf_Shelf_Safe_d0beRPO.f ⟨s.f_all, s.f_safe, s.f_wait, s.f_top, s.f_gen, s.f_tries, s.f_size⟩ h = some s.f_safe := sf_ok _ _ ok
    have sm := same_ok _ ok
    have n0 : ((0 : Int) != 0) = false := rfl
    have z0 : ((0 : Int) == 0) = true := rfl
    have hc := crash_ok R4.S.P.I (by omega) keep tails ht
    dsimp only at c3 c4 c5
    unfold shelf_Shelf_Host_d0beRPO.f kotatsulaw04_ShelfTwice.j4 shelf_Shelf_Gen_d0beRPO.f
    simp only [Option.bind_some, c1, c2, optb, c3, n0, z0, cond_false, cond_true, sd, sf, sm, Bool.not_true, c4, hc, c5, bnd]
    rw [wrapU (by omega) (by omega)]
    have : (((g + 1 : Nat) : Int) == (g : Int) + 1) = true := by simp
    rw [this]
  | d + 1, i, f + 1, h, s, hk, hf, U => by
    have hi : i < a1.length := by omega
    simp only [kotatsulaw04_ShelfTwice.l1]
    rw [ltT (by omega), cond_true, lget_lt hi, Option.bind_some, wrap1 (by omega)]
    by_cases h10 : i < 10
    · obtain ⟨w, v, ew, hw, hd⟩ := wr_ok _ (ha _ (List.getElem_mem hi))
      obtain ⟨e, s1, c1, U1⟩ := use_write U (by omega) w hw hd
      rw [ltT (by omega), cond_true, ew, Option.bind_some]
      have c1' : shelf_Shelf_Write_d0beRPO.f ⟨s.f_all, s.f_safe, s.f_wait, s.f_top, s.f_gen, s.f_tries, s.f_size⟩ h w = _ := c1
      rw [c1', Option.bind_some]
      cases hdo : (Int.tmod (a1[i]).f_Do 2) == 0
      · rw [cond_false]
        exact twice_loop a1 ha hl keep tails ht d (i + 1) f h s1 (by omega) (by omega) (U1.mono (by omega) (by omega))
      · obtain ⟨s2, h2, c2, U2, _⟩ := use_sync U1 (by omega) (by omega) (by decide)
        rw [cond_true, c2, Option.bind_some]
        simp only [show ((0 : Int) != 0) = false from rfl, cond_false]
        exact twice_loop a1 ha hl keep tails ht d (i + 1) f h2 s2 (by omega) (by omega) (U2.mono (by omega) (by omega))
    · rw [ltF (by omega), cond_false]
      exact twice_loop a1 ha hl keep tails ht d (i + 1) f h s (by omega) (by omega) (U.mono (by omega) (by omega))
theorem kotatsulaw04_ShelfTwice.pure : ∀ (a0 : List Int), (a0.length ≤ maxLen ∧ ∀ a ∈ a0, (Lit.int .u8 a).wf = true) → ∀ (a1 : List kotatsulaw04_Act), (a1.length ≤ maxLen ∧ ∀ a ∈ a1, kotatsulaw04_Act.W a) → ∀ (a2 : Int), (Lit.int .i64 a2).wf = true → ∀ (a3 : List Int), (a3.length ≤ maxLen ∧ ∀ a ∈ a3, (Lit.int .i64 a).wf = true) → kotatsulaw04_ShelfTwice.f a0 a1 a2 a3 = some true := by
  intro sizes hs acts hacts keep hk tails ht
  obtain ⟨r, e, B⟩ := begin_ok sizes (len_of hs.1) (bytes_of hs.2) 200 (by decide) (by decide)
  unfold kotatsulaw04_ShelfTwice.f
  rw [awake_ok, Option.bind_some, Bool.not_true, cond_false, e, Option.bind_some, B.ok, Bool.not_true, cond_false]
  exact twice_loop acts (fun a h => aok (hacts.2 a h)) (len_of hacts.1) keep tails (len_of ht.1) acts.length 0 _ r.2.1 r.1 (by omega) (by omega) (Use.beg B)
end Go.Proofs.YtpajmahpphcbaaaGreatDoor
