/- The plain law of HostFails. -/
import Derived.Test.YtgfjecngfmachaaHostSafe
namespace Go.Proofs.Ytgfjecngfmachaa
open Kot Go
set_option maxRecDepth 100000
set_option linter.unusedSimpArgs false
set_option linter.unusedSectionVars false
abbrev nOne : List UInt8 := [111, 110, 101]
abbrev nNone : List UInt8 := [110, 111, 110, 101]
theorem nm_one : ¬ NmL nOne := by unfold NmL; decide
theorem nm_none : ¬ NmL nNone := by unfold NmL; decide
/-- a host whose counters stand at so much -/
def cnt (h : HS) (io : Bool) (k : Nat) : HS := bif io then { h with fault := (k : Int) } else { h with arm := (k : Int) }
section
variable {h : HS} (I : Inv 8 h) (C : Calm 1000 h) (N : NmAll NmL h)
include I C N
theorem cnt_num (io : Bool) (k : Nat) (hk : k ≤ 3) : Num (cnt h io k) := by
  obtain ⟨a1, a2, f1, f2, l1, l2⟩ := I.num
  cases io
  · exact ⟨by show -1 ≤ (k : Int); omega, by show (k : Int) ≤ _; omega, f1, f2, l1, l2⟩
  · exact ⟨a1, a2, by show -1 ≤ (k : Int); omega, by show (k : Int) ≤ _; omega, l1, l2⟩
theorem cnt_inv (io : Bool) (k : Nat) (hk : k ≤ 3) : Inv 8 (cnt h io k) := by
  have hn := cnt_num I C N io k hk
  cases io
  · exact I.cp (by decide) _ rfl rfl rfl rfl hn
  · exact I.cp (by decide) _ rfl rfl rfl rfl hn
theorem cnt_l (io : Bool) (k : Nat) : (cnt h io k).l = h.l ∧ (cnt h io k).files = h.files ∧ (cnt h io k).safe = h.safe ∧ (cnt h io k).wait = h.wait ∧ (cnt h io k).reads = h.reads := by cases io <;> exact ⟨rfl, rfl, rfl, rfl, rfl⟩
theorem cnt_fails (io : Bool) (k : Nat) (hk : k ≤ 2) : host_Host_fails.f (cnt h io (k + 1)) true = some (0, cnt h io k) := by
  rw [fails_ok (cnt_num I C N io (k + 1) (by omega))]
  have ha := C.arm
  have hf := C.flt
  obtain ⟨fs, l, s, w, lm, ar, fl, rd⟩ := h
  simp only at ha hf
  subst ha hf
  have hk3 : k = 0 ∨ k = 1 ∨ k = 2 := by omega
  rcases hk3 with rfl | rfl | rfl <;> cases io <;> rfl
theorem cnt_remove (io : Bool) (k : Nat) (hk : k ≤ 2) : host_Host_Remove.f (cnt h io (k + 1)) nNone = some (4, cnt h io k) := by
  unfold host_Host_Remove.f
  rw [cnt_fails I C N io k hk, Option.bind_some]
  simp only [show ((0 : Int) != 0) = false from rfl, cond_false]
  rw [(cnt_l I C N io k).1, mget_nm N.1 nm_none]; rfl
theorem cnt_create (io : Bool) (n : List UInt8) : host_Host_Create.f (cnt h io 0) n = some (bif io then 8 else 9, bif io then h else cnt h io 0) := by
  unfold host_Host_Create.f
  rw [fails_ok (cnt_num I C N io 0 (by omega))]
  have ha := C.arm
  have hf := C.flt
  obtain ⟨fs, l, s, w, lm, ar, fl, rd⟩ := h
  simp only at ha hf
  subst ha hf
  cases io <;> rfl
theorem now_nm (P : List UInt8 → Prop) : ∀ (w : List HChg) (s : HMap), (∀ e ∈ s, P e.1) → (∀ c ∈ w, P c.name) → ∀ e ∈ now s w, P e.1
  | [], s, hs, _ => hs
  | c :: w, s, hs, hw => now_nm P w (app s c) (app_nm hs (hw c (by simp))) (fun d hd => hw d (by simp [hd]))
theorem last_remove (x : HS) (X : Inv 9 x) (hx : ∀ e ∈ x.safe, e.1 ≠ nNone) (hw : ∀ c ∈ x.wait, c.name ≠ nNone) : ∃ k, host_Host_Crash.f x 100 [] = some k ∧ (host_Host_Remove.f k nNone).map Prod.fst = some 4 := by
  refine ⟨_, crash_ok X (by decide) 100 [] (by decide), ?_⟩
  have J := crash_inv X (by decide) 100 []
  have hm : mget (crH x 100 []).l nNone = -1 := mget_none (fun e he hh => by
    obtain ⟨-, -, z, hz, hze⟩ := crL_mem _ _ _ he
    exact now_nm I C N (fun n => n ≠ nNone) _ _ hx (fun c hc => hw c (List.mem_of_mem_take hc)) z hz (hze.trans hh))
  unfold host_Host_Remove.f
  rw [fails_calmW J.num rfl rfl, Option.bind_some]
  simp only [show ((0 : Int) != 0) = false from rfl, cond_false]
  rw [hm]; rfl
theorem nm_ne {n : List UInt8} (h : NmL n) : n ≠ nNone := fun hh => nm_none (hh ▸ h)
theorem fails_j25 (io : Bool) (e : Int) : kotatsulaw01_HostFails.j25 io (e, bif io then h else cnt h io 0) () = some true := by
  unfold kotatsulaw01_HostFails.j25
  cases io
  · obtain ⟨k, hk1, hk2⟩ := last_remove I C N (cnt h false 0) ((cnt_inv I C N false 0 (by omega)).mono (by decide)) (fun e he => nm_ne I C N (N.2.1 e he)) (fun c hc => nm_ne I C N (N.2.2 c hc))
    show (host_Host_Create.f (cnt h false 0) nOne).bind _ = _
    rw [cnt_create I C N false nOne, Option.bind_some]
    show (host_Host_Crash.f (cnt h false 0) 100 []).bind _ = _
    rw [hk1, Option.bind_some]
    obtain ⟨r, hr, hr4⟩ := Option.map_eq_some_iff.1 hk2
    show (host_Host_Remove.f k nNone).bind _ = _
    rw [hr, Option.bind_some, hr4]; rfl
  · obtain ⟨h1, c1, I1, C1, g1, f1⟩ := create_st I (by decide) C (n := nOne) (by decide) (mget_nm N.1 nm_one)
    have N1 := (create_fr (S := fun n => n = nOne) I.num rfl c1).nm (fun n => n ≠ nNone) (fun n hn => by rw [hn]; decide) ⟨fun e he => nm_ne I C N (N.1 e he), fun e he => nm_ne I C N (N.2.1 e he), fun e he => nm_ne I C N (N.2.2 e he)⟩
    obtain ⟨k, hk1, hk2⟩ := last_remove I C N h1 I1 N1.2.1 N1.2.2
    show (host_Host_Create.f h nOne).bind _ = _
    rw [c1, Option.bind_some]
    show (host_Host_Crash.f h1 100 []).bind _ = _
    rw [hk1, Option.bind_some]
    obtain ⟨r, hr, hr4⟩ := Option.map_eq_some_iff.1 hk2
    show (host_Host_Remove.f k nNone).bind _ = _
    rw [hr, Option.bind_some, hr4]; rfl
theorem fails_j24 (io : Bool) (q : Int) : kotatsulaw01_HostFails.j24 io (h, (refOf h).f_Files, (refOf h).f_Steps, (refOf h).f_Limit, (refOf h).f_Arm, (refOf h).f_Fault, (refOf h).f_Reads, q) (cnt h io 0) (bif io then 8 else 9, bif io then h else cnt h io 0) (bif io then 8 else 9) = some true := by
  have hc := cnt_l I C N io 0
  have J := cnt_inv I C N io 0 (by omega)
  have J2 : Inv 8 (bif io then h else cnt h io 0) := by cases io; exact J; exact I
  have h2 : (cnt h io 0).l = (bif io then h else cnt h io 0).l ∧ (cnt h io 0).files = (bif io then h else cnt h io 0).files := by cases io <;> exact ⟨rfl, rfl⟩
  unfold kotatsulaw01_HostFails.j24
  rw [show ((bif io then (8 : Int) else 9) != (bif io then 8 else 9)) = false by simp, cond_false, same_host J2 _ h2.1 h2.2, Option.bind_some]
  show (bif false then _ else (kotatsulaw01_like_d1OO.f (cnt h io 0) (refOf h)).bind _) = _
  rw [cond_false, like_ok J (by decide) I hc.2.1.symm hc.1.symm hc.2.2.2.2.symm, Option.bind_some]
  exact fails_j25 I C N io _
theorem l19_ok (n : Int) (io : Bool) (q : Int) (k : Nat) (hk : IntKind.wrap .i64 (Int.tmod n 3) = (k : Int)) (hk3 : k ≤ 2) : ∀ (d i f : Nat), i + d = k → d < f →
    kotatsulaw01_HostFails.l19 n io (h, (refOf h).f_Files, (refOf h).f_Steps, (refOf h).f_Limit, (refOf h).f_Arm, (refOf h).f_Fault, (refOf h).f_Reads, q) f (cnt h io d, (i : Int)) = some true
  | 0, i, f + 1, hi, _ => by
    simp only [kotatsulaw01_HostFails.l19]
    rw [hk, ltF (by omega), cond_false, copy_ok (cnt_inv I C N io 0 (by omega)) (by decide), Option.bind_some]
    show (host_Host_Create.f (cnt h io 0) nOne).bind _ = _
    rw [cnt_create I C N io nOne, Option.bind_some]
    have := fails_j24 I C N io q
    cases io
    · exact this
    · exact this
  | d + 1, i, f + 1, hi, hf => by
    simp only [kotatsulaw01_HostFails.l19]
    rw [hk, ltT (by omega), cond_true]
    show (host_Host_Remove.f (cnt h io (d + 1)) nNone).bind _ = _
    rw [cnt_remove I C N io d (by omega), Option.bind_some, wrap1 (by omega)]
    exact l19_ok n io q k hk hk3 d (i + 1) f (by omega) (by omega)
end
theorem fails_loop (n : Int) (hn : 0 ≤ n ∧ n ≤ 255) (io : Bool) (acts : List kotatsulaw01_Act) (hal : acts.length ≤ 9223372036854775807) (hA : ∀ a ∈ acts, ActOk a) : ∀ (d i f : Nat) (h : HS), Inv (min i 8) h → Calm 1000 h → NmAll NmL h → i + d = acts.length → d < f →
    kotatsulaw01_HostFails.l1 n acts io f (h, (refOf h).f_Files, (refOf h).f_Steps, (refOf h).f_Limit, (refOf h).f_Arm, (refOf h).f_Fault, (refOf h).f_Reads, (i : Int)) = some true
  | 0, i, f + 1, h, I, C, N, hk, _ => by
    have I8 : Inv 8 h := I.mono (by omega)
    obtain ⟨k, hk1, hk2⟩ : ∃ k : Nat, Int.tmod n 3 = (k : Int) ∧ k ≤ 2 := ⟨(Int.tmod n 3).toNat, by rw [Int.tmod_eq_emod_of_nonneg hn.1]; omega, by rw [Int.tmod_eq_emod_of_nonneg hn.1]; omega⟩
    have hkw : IntKind.wrap .i64 (Int.tmod n 3) = (k : Int) := by rw [hk1]; exact wrapI (by omega) (by omega)
    have key := l19_ok I8 C N n io (i : Int) k hkw hk2 k 0 ((((k : Nat) : Int) - 0 : Int).toNat + 2) (by omega) (by omega)
    simp only [kotatsulaw01_HostFails.l1]
    rw [ltF (by omega), cond_false]
    unfold kotatsulaw01_HostFails.j18
    rw [hkw]
    have hmax : max (k : Int) (-1) = (k : Int) := by omega
    have e1 : host_Host_Fault.f h (k : Int) = some { h with fault := (k : Int) } := by unfold host_Host_Fault.f; rw [hmax]
    have e2 : host_Host_Arm.f h (k : Int) = some { h with arm := (k : Int) } := by unfold host_Host_Arm.f; rw [hmax]
    rw [e1, e2, Option.bind_some, Option.bind_some]
    cases io
    · exact key
    · exact key
  | d + 1, i, f + 1, h, I, C, N, hk, hf => by
    simp only [kotatsulaw01_HostFails.l1]
    rw [ltT (by omega), cond_true, lget_lt (by omega), Option.bind_some, wrap1 (by omega)]
    have hskip : kotatsulaw01_HostFails.l1 n acts io f (h, (refOf h).f_Files, (refOf h).f_Steps, (refOf h).f_Limit, (refOf h).f_Arm, (refOf h).f_Fault, (refOf h).f_Reads, ((i + 1 : Nat) : Int)) = some true :=
      fails_loop n hn io acts hal hA d (i + 1) f h (I.mono (by omega)) C N (by omega) (by omega)
    by_cases h12 : i < 8
    · rw [decide_eq_true (show (i : Int) < 8 by omega), cond_true]
      by_cases h8 : Int.tmod acts[i].f_Do 12 < 8
      · obtain ⟨h', h1, I', F⟩ := do_both' I (by omega) acts[i] (hA _ (List.getElem_mem _))
        have F := F h8
        rw [decide_eq_true h8, cond_true]
        show (kotatsulaw01_do_d1OO.f h (refOf h) acts[i]).bind _ = _
        rw [h1, Option.bind_some]
        exact fails_loop n hn io acts hal hA d (i + 1) f h' (I'.mono (by omega)) (F.calm C) (F.nm NmL (fun _ h => h) N) (by omega) (by omega)
      · rw [decide_eq_false h8, cond_false]; exact hskip
    · rw [decide_eq_false (show ¬ (i : Int) < 8 by omega), cond_false]; exact hskip
theorem kotatsulaw01_HostFails.pure : ∀ (a0 : Int), (Lit.int .u8 a0).wf = true → ∀ (a1 : List kotatsulaw01_Act), (a1.length ≤ maxLen ∧ ∀ a ∈ a1, kotatsulaw01_Act.W a) → ∀ (a2 : Bool), kotatsulaw01_HostFails.f a0 a1 a2 = some true := by
  intro n hn acts hA io
  unfold kotatsulaw01_HostFails.f
  rw [awake_true, Option.bind_some]
  exact fails_loop n (u8_of hn) io acts (len_of hA.1) (fun a ha => act_of (hA.2 a ha)) acts.length 0 _ _ ((new_inv 1000 (by decide) (by decide)).mono (by decide)) ⟨rfl, rfl, rfl⟩ (nm_new _ _) (by omega) (by omega)
end Go.Proofs.Ytgfjecngfmachaa
