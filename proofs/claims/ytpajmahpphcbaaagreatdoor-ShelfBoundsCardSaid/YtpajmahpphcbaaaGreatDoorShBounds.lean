/- The plain law of ShelfBounds. -/
import Derived.Test.YtpajmahpphcbaaaGreatDoorShAll
namespace Go.Proofs.YtpajmahpphcbaaaGreatDoor
open Kot Go
set_option maxRecDepth 100000
theorem size_nf {b : Nat} {h : HS} (I : Inv b h) (n : NF h) {k : List UInt8} {i : Nat} {f : HFile} (hg : mget h.l k = (i : Int)) (hf : h.files[i]? = some f) : host_Host_Size.f h k = some ((f.p.length : Int), 0, h) := by
  unfold host_Host_Size.f
  obtain ⟨hi, he⟩ := List.getElem?_eq_some_iff.1 hf
  rw [fails_nf I n, Option.bind_some]
  simp only [show ((0 : Int) != 0) = false from rfl, cond_false]
  rw [hg, decide_eq_false (by omega), cond_false, cond_false, lget_lt hi, he, Option.bind_some]
theorem two_of {τ : Type} {a b : τ} (hab : a ≠ b) : ∀ {l : List τ}, l.length ≤ 2 → a ∈ l → b ∈ l → l = [a, b] ∨ l = [b, a]
  | [], _, h, _ => nomatch h
  | [x], _, h1, h2 => absurd ((List.mem_singleton.1 h1).trans (List.mem_singleton.1 h2).symm) hab
  | [x, y], _, h1, h2 => by
    simp only [List.mem_cons, List.not_mem_nil, or_false] at h1 h2
    rcases h1 with rfl | rfl <;> rcases h2 with rfl | rfl
    · exact absurd rfl hab
    · exact .inl rfl
    · exact .inr rfl
    · exact absurd rfl hab
  | _ :: _ :: _ :: _, h, _, _ => by simp at h
theorem key_mem {m : HMap} {k : List UInt8} {i : Nat} (h : mget m k = (i : Int)) : k ∈ m.map Prod.fst := by
  refine Classical.byContradiction fun hn => ?_
  have : mget m k = -1 := mget_none (fun e he hk => hn (hk ▸ List.mem_map_of_mem he))
  omega
variable {b : Nat} {h : HS} {g ib il : Nat} {x : List (List Int)} {l : List Pay}
theorem Sy.names (S : Sy b h g ib il x l) (hc : Clean h g) : h.l.map Prod.fst = [kB, lg g] ∨ h.l.map Prod.fst = [lg g, kB] := by
  have h2 := S.two hc
  obtain ⟨c1, c2⟩ := S.cur
  exact two_of (fun e => lg_neB S.gl e.symm) (by simpa using h2) (key_mem c1) (key_mem c2)
/-- the sizes of all files, and what comes behind them -/
theorem bounds_sum (S : Sy b h g ib il x l) (hb : b ≤ 390) (hc : Clean h g) (s11958 : HS × (List (List Int)) × (List scroll_Write) × (List (List Int)) × Int × Int × Int × Int × Int) (k12464 : (HS × (List (List Int)) × (List scroll_Write) × (List (List Int)) × Int × Int × Int × Int × Int) → Option Bool) (s12487 : HS × (List (List Int)) × (List scroll_Write) × (List (List Int)) × Int × Int × Int × Int × Int × Bool) (y : shelf_Shelf) (h2 : HS)
    (oy : OkS y.f_all) (e1 : y.f_all = s12487.2.1) (hr : h2.reads = ((baseB g x).length : Int) + ((frs l).length : Int)) :
    kotatsulaw04_ShelfBounds.l7 s11958 k12464 s12487 (some y, 0, h2) y (h.l.map Prod.fst) ((((h.l.map Prod.fst).length : Int) - 0 : Int).toNat + 2) (h, 0, 0) =
      k12464 (h, s12487.2.1, s12487.2.2.1, s12487.2.2.2.1, s12487.2.2.2.2.1, s12487.2.2.2.2.2.1, s12487.2.2.2.2.2.2.1, s12487.2.2.2.2.2.2.2.1, IntKind.wrap .i64 (s11958.2.2.2.2.2.2.2.2 + 1)) := by
  obtain ⟨c1, c2⟩ := S.cur
  have z1 := size_nf S.P.I S.P.n c1 S.fb
  have z2 := size_nf S.P.I S.P.n c2 S.fl
  have b1 := (S.P.I.fp _ (List.mem_of_getElem? S.fb)).1
  have b2 := (S.P.I.fp _ (List.mem_of_getElem? S.fl)).1
  have b1' : (baseB g x).length ≤ 2400 := b1
  have b2' : (frs l).length ≤ 2400 := b2
  have w1 : ∀ n : Nat, n ≤ 5000 → IntKind.wrap .i64 (n : Int) = (n : Int) := fun n hn => wrapI (by omega) (by omega)
  have fin : ∀ (u : Int) (nm : List (List UInt8)) (f : Nat), host_Host_Names.f h = some nm → nm.length = 2 → u = ((baseB g x).length : Int) + ((frs l).length : Int) → kotatsulaw04_ShelfBounds.l7 s11958 k12464 s12487 (some y, 0, h2) y nm (f + 1) (h, u, 2) = k12464 (h, s12487.2.1, s12487.2.2.1, s12487.2.2.2.1, s12487.2.2.2.2.1, s12487.2.2.2.2.2.1, s12487.2.2.2.2.2.2.1, s12487.2.2.2.2.2.2.2.1, IntKind.wrap .i64 (s11958.2.2.2.2.2.2.2.2 + 1)) := fun u nm f hn h2' hu => by
    simp only [kotatsulaw04_ShelfBounds.l7]
    rw [ltF (by omega), cond_false]
    simp only [show ((0 : Int) != 0) = false from rfl, cond_false]
    rw [sd_ok _ _ oy, Option.bind_some, sd_ok _ _ (by show OkS s12487.2.1; rw [← e1]; exact oy), Option.bind_some]
    simp only [e1]
    rw [same_ok _ (by rw [← e1]; exact oy), Option.bind_some, Bool.not_true, cond_false]
    unfold host_Host_Reads.f shelf_Shelf_Host_d0beRPO.f
    rw [Option.bind_some, hr, hu, decide_eq_false (by omega), cond_false, Option.bind_some, hn, Option.bind_some]
    have : ((nm.length : Int) != 2) = false := by rw [h2']; rfl
    rw [this, cond_false]
  have nmk : ∀ nm, h.l.map Prod.fst = nm → host_Host_Names.f h = some nm := fun nm e => by rw [names_ok S.P.I (by omega), e]
  have go : ∀ (k1 k2 : List UInt8) (n1 n2 : Nat), host_Host_Size.f h k1 = some ((n1 : Int), 0, h) → host_Host_Size.f h k2 = some ((n2 : Int), 0, h) → n1 ≤ 2400 → n2 ≤ 2400 → h.l.map Prod.fst = [k1, k2] → (n1 : Int) + (n2 : Int) = ((baseB g x).length : Int) + ((frs l).length : Int) → kotatsulaw04_ShelfBounds.l7 s11958 k12464 s12487 (some y, 0, h2) y [k1, k2] 4 (h, 0, 0) = k12464 (h, s12487.2.1, s12487.2.2.1, s12487.2.2.2.1, s12487.2.2.2.2.1, s12487.2.2.2.2.2.1, s12487.2.2.2.2.2.2.1, s12487.2.2.2.2.2.2.2.1, IntKind.wrap .i64 (s11958.2.2.2.2.2.2.2.2 + 1)) := fun k1 k2 n1 n2 q1 q2 m1 m2 e hs => by
    have f0 := fin ((n1 : Int) + (n2 : Int)) [k1, k2] 1 (nmk _ e) rfl hs
    rw [← f0]
    have g0 : lget [k1, k2] 0 = some k1 := rfl
    have g1 : lget [k1, k2] 1 = some k2 := rfl
    have e2 : kotatsulaw04_ShelfBounds.l7 s11958 k12464 s12487 (some y, 0, h2) y [k1, k2] 3 (h, (n1 : Int), 1) = kotatsulaw04_ShelfBounds.l7 s11958 k12464 s12487 (some y, 0, h2) y [k1, k2] 2 (h, (n1 : Int) + (n2 : Int), 2) := by
      conv => lhs; unfold kotatsulaw04_ShelfBounds.l7
      simp only [List.length_cons, List.length_nil, show decide ((1 : Int) < ((0 + 1 + 1 : Nat) : Int)) = true from rfl, cond_true, g1, Option.bind_some, q2, bnd, show IntKind.wrap .i64 ((1 : Int) + 1) = 2 from rfl]
      unfold shelf_Shelf_Host_d0beRPO.f
      rw [Option.bind_some, wrapI (by omega) (by omega)]
    rw [← e2]
    conv => lhs; unfold kotatsulaw04_ShelfBounds.l7
    simp only [List.length_cons, List.length_nil, show decide ((0 : Int) < ((0 + 1 + 1 : Nat) : Int)) = true from rfl, cond_true, g0, Option.bind_some, q1, bnd, show IntKind.wrap .i64 ((0 : Int) + 1) = 1 from rfl]
    unfold shelf_Shelf_Host_d0beRPO.f
    rw [Option.bind_some, Int.zero_add, wrapI (by omega) (by omega)]
  rcases S.names hc with e | e
  · rw [e]
    exact go _ _ _ _ z1 z2 b1 b2 e rfl
  · rw [e]
    exact go _ _ _ _ z2 z1 b2 b1 e (Int.add_comm _ _)
theorem bounds_loop (a0 : Int) (h0 : 0 ≤ a0) (a1 : List kotatsulaw04_Act) (ha : ∀ a ∈ a1, AOk a) (hl : a1.length ≤ 9223372036854775807) : ∀ (d i f : Nat) (h : HS) (s : shelf_Shelf), i + d = a1.length → d < f → Use (min i 30) (min i 30) (Int.tmod a0 300) h s →
    kotatsulaw04_ShelfBounds.l1 a0 a1 f (h, s.f_all, s.f_wait, s.f_safe, s.f_top, s.f_gen, s.f_tries, s.f_size, (i : Int)) = some true
  | 0, i, f + 1, h, s, hk, _, U => by
    simp only [kotatsulaw04_ShelfBounds.l1]
    rw [ltF (by omega), cond_false]
  | d + 1, i, f + 1, h, s, hk, hf, U => by
    have hi : i < a1.length := by omega
    have t0 : 0 ≤ Int.tmod a0 300 := Int.tmod_nonneg _ h0
    have t1 : Int.tmod a0 300 < 300 := Int.tmod_lt_of_pos _ (by decide)
    simp only [kotatsulaw04_ShelfBounds.l1]
    rw [ltT (by omega), cond_true, lget_lt hi, Option.bind_some]
    by_cases h30 : 30 ≤ i
    · rw [decide_eq_true (by omega), cond_true]
    · rw [decide_eq_false (by omega), cond_false]
      obtain ⟨w, v, ew, hw, hd⟩ := wr_ok _ (ha _ (List.getElem_mem hi))
      obtain ⟨e, s1, c1, U1⟩ := use_write U (by omega) w hw hd
      have c1' : shelf_Shelf_Write_d0beRPO.f ⟨s.f_all, s.f_safe, s.f_wait, s.f_top, s.f_gen, s.f_tries, s.f_size⟩ h w = _ := c1
      rw [ew, Option.bind_some, c1', Option.bind_some, wrap1 (by omega)]
      cases hdo : (Int.tmod (a1[i]).f_Do 3) == 0
      · rw [cond_false]
        exact bounds_loop a0 h0 a1 ha hl d (i + 1) f h s1 (by omega) (by omega) (U1.mono (by omega) (by omega))
      · obtain ⟨s2, h2, c2, U2, w2, a2, f2⟩ := use_sync U1 (by omega) (by omega) (by omega)
        have hsz := U2.sz
        obtain ⟨b, g, ib, il, x, l, R, C, hb, hg⟩ := U2.run
        rw [cond_true, c2, Option.bind_some]
        unfold shelf_Shelf_Log_d0beRPO.f
        simp only [show ((0 : Int) != 0) = false from rfl, cond_false, Option.bind_some]
        rw [wrapI (i := Int.tmod a0 300) (by omega) (by omega), decide_eq_false (by omega), cond_false]
        obtain ⟨i1, i2, S1⟩ := crash_sy R.S (by omega) 0 []
        obtain ⟨c4, R4⟩ := open_ok S1 (by omega) R.lo R.ll R.fin R.sz (Int.tmod a0 300)
        rw [← R.safe, ← R.size] at c4 R4
        have c3 := crash_ok R.S.P.I (by omega) 0 [] (by decide)
        have hrd : (rdS (rdS (crH h2 0 []) i1) i2).reads = ((baseB g x).length : Int) + ((frs l).length : Int) := by
          have b1 : (baseB g x).length ≤ 2400 := (R.S.P.I.fp _ (List.mem_of_getElem? R.S.fb)).1
          have b2 : (frs l).length ≤ 2400 := (R.S.P.I.fp _ (List.mem_of_getElem? R.S.fl)).1
          show IntKind.wrap .i64 (IntKind.wrap .i64 (0 + ((fget (crH h2 0 []).files i1).p.length : Int)) + ((fget (crH h2 0 []).files i2).p.length : Int)) = _
          rw [fget_some S1.fb, fget_some S1.fl]
          show IntKind.wrap .i64 (IntKind.wrap .i64 (0 + ((baseB g x).length : Int)) + ((frs l).length : Int)) = _
          rw [wrapI (i := 0 + ((baseB g x).length : Int)) (by omega) (by omega), wrapI (by omega) (by omega), Int.zero_add]
        unfold kotatsulaw04_ShelfBounds.j6 shelf_Shelf_Host_d0beRPO.f
        simp only [Option.bind_some]
        rw [c3, Option.bind_some, wrapI (i := Int.tmod a0 300) (by omega) (by omega), c4, Option.bind_some]
        simp only [optb]
        rw [names_ok R.S.P.I (by omega), Option.bind_some]
        rw [bounds_sum R.S (by omega) C _ _ _ _ _ R.oks (by show s2.f_safe = s2.f_all; rw [f2, a2]) hrd]
        simp only []
        rw [wrap1 (by omega)]
        exact bounds_loop a0 h0 a1 ha hl d (i + 1) f h2 s2 (by omega) (by omega) (U2.mono (by omega) (by omega))
theorem kotatsulaw04_ShelfBounds.pure : ∀ (a0 : Int), (Lit.int .u16 a0).wf = true → ∀ (a1 : List kotatsulaw04_Act), (a1.length ≤ maxLen ∧ ∀ a ∈ a1, kotatsulaw04_Act.W a) → kotatsulaw04_ShelfBounds.f a0 a1 = some true := by
  intro top ht acts hacts
  have htt := u16_of ht
  have t0 : 0 ≤ Int.tmod top 300 := Int.tmod_nonneg _ htt.1
  have t1 : Int.tmod top 300 < 300 := Int.tmod_lt_of_pos _ (by decide)
  obtain ⟨r, e, B⟩ := begin_ok [30] (by decide) (by decide) (Int.tmod top 300) t0 (by omega)
  unfold kotatsulaw04_ShelfBounds.f
  rw [awake_ok, Option.bind_some, Bool.not_true, cond_false, e, Option.bind_some, B.ok, Bool.not_true, cond_false]
  exact bounds_loop top htt.1 acts (fun a h => aok (hacts.2 a h)) (len_of hacts.1) acts.length 0 _ r.2.1 r.1 (by omega) (by omega) (Use.beg B)
end Go.Proofs.YtpajmahpphcbaaaGreatDoor
