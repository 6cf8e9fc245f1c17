/- The plain laws of HostSafe. -/
import Derived.Test.YtgfjecngfmachaaHostNil
namespace Go.Proofs.Ytgfjecngfmachaa
open Kot Go
set_option maxRecDepth 100000
set_option linter.unusedSimpArgs false
set_option linter.unusedSectionVars false
theorem mget_mput (m : HMap) (hs : msorted m) (k : List UInt8) (x : Int) : mget (mput m k x) k = x :=
  mget_mem (msorted_nodup (mput_sorted hs k x)) ((mput_perm m k x).mem_iff.2 (by simp))
theorem mget_nm {m : HMap} {k : List UInt8} (h : ∀ e ∈ m, NmL e.1) (hk : ¬ NmL k) : mget m k = -1 := mget_none (fun e he hh => hk (hh ▸ h e he))
theorem used_le (fs : List HFile) (B : Nat) (hB : B ≤ 100000) (hf : ∀ f ∈ fs, f.p.length ≤ B) : ∀ (l : HMap) (n : Int), l.length ≤ 1000 → 0 ≤ n → n + l.length * B ≤ 1000000000 → 0 ≤ l.foldl (usedS fs) n ∧ l.foldl (usedS fs) n ≤ n + l.length * B
  | [], n, _, h0, _ => by simp; exact h0
  | e :: l, n, hl, h0, h1 => by
    have hb : (fget fs e.2.toNat).p.length ≤ B := by
      unfold fget
      cases h : fs[e.2.toNat]? with
      | none => simp
      | some f => exact hf f (List.mem_of_getElem? h)
    have e1 : ((e :: l).length : Int) * B = l.length * B + B := by simp [Int.add_mul]
    rw [e1] at h1 ⊢
    have hlb : (0 : Int) ≤ l.length * B := Int.mul_nonneg (by omega) (by omega)
    have hu : usedS fs n e = n + (fget fs e.2.toNat).p.length := by unfold usedS; exact wrapI (by omega) (by omega)
    have ih := used_le fs B hB hf l (usedS fs n e) (by simp at hl; omega) (by rw [hu]; omega) (by rw [hu]; omega)
    rw [List.foldl_cons]
    rw [hu] at ih ⊢
    omega
theorem crL_at (tails : List Int) (fs : List HFile) : ∀ (m : HMap) (i : Nat) (e : List UInt8 × Int), e ∈ m → ∃ d : Nat, (e.1, ((i + d : Nat) : Int)) ∈ crL i m ∧ (crFs tails fs i m)[d]? = some (crF tails fs (i + d) e)
  | [], i, e, h => nomatch h
  | z :: m, i, e, h => by
    rcases List.mem_cons.1 h with rfl | h
    · exact ⟨0, by rw [crL]; exact List.mem_cons_self, rfl⟩
    · obtain ⟨d, h1, h2⟩ := crL_at tails fs m (i + 1) e h
      refine ⟨d + 1, ?_, ?_⟩
      · rw [crL, show i + (d + 1) = i + 1 + d by omega]; exact List.mem_cons_of_mem _ h1
      · rw [crFs, List.getElem?_cons_succ, h2, show i + (d + 1) = i + 1 + d by omega]
theorem used_inv {b : Nat} {h : HS} (I : Inv b h) (hb : b ≤ 20) : 0 ≤ h.l.foldl (usedS h.files) 0 ∧ h.l.foldl (usedS h.files) 0 ≤ 20 * 800 := by
  have hl := I.lok.2.2
  have := used_le h.files 800 (by decide) (fun f hf => by have := (I.fp f hf).1; omega) h.l 0 (by omega) (by decide) (by omega)
  omega
abbrev nKeep : List UInt8 := [107, 101, 101, 112]
structure Calm (lm : Int) (h : HS) : Prop where
  arm : h.arm = -1
  flt : h.fault = -1
  lim : h.limit = lm
theorem Fr.calm {S : List UInt8 → Prop} {lm : Int} {h h' : HS} (F : Fr S h h') (C : Calm lm h) : Calm lm h' := ⟨F.arm C.arm, F.flt C.flt, F.lim.trans C.lim⟩
theorem create_calm {b : Nat} {h : HS} (I : Inv b h) (hb : b ≤ 90) (ha : h.arm = -1) (hf : h.fault = -1) {n : List UInt8} (hr : rightB n = true) (hg : mget h.l n = -1) :
    host_Host_Create.f h n = some (0, { h with files := h.files ++ [⟨[], 0⟩], l := mput h.l n h.files.length, wait := h.wait ++ [⟨n, h.files.length, []⟩] }) := by
  unfold host_Host_Create.f
  have hw := I.wl
  rw [fails_calmW I.num ha hf, Option.bind_some, right_ok, Option.bind_some, hr]
  simp only [show ((0 : Int) != 0) = false from rfl, cond_false, Bool.not_true]
  rw [hg, hdo_ok]
  · have e : app h.l ⟨n, (h.files.length : Int), []⟩ = mput h.l n h.files.length := by
      unfold app; rw [show (([] : List UInt8) == []) = true from rfl, cond_true, decide_eq_false (show ¬ ((h.files.length : Int) < 0) by omega), cond_false]
    simp only [e]; rfl
  · show h.wait.length ≤ 1000; omega
theorem create_st {b : Nat} {lm : Int} {h : HS} (I : Inv b h) (hb : b ≤ 90) (C : Calm lm h) {n : List UInt8} (hr : rightB n = true) (hg : mget h.l n = -1) :
    ∃ h1, host_Host_Create.f h n = some (0, h1) ∧ Inv (b + 1) h1 ∧ Calm lm h1 ∧ mget h1.l n = ((h.files.length : Nat) : Int) ∧ h1.files[h.files.length]? = some ⟨[], 0⟩ := by
  have c1 := create_calm I hb C.arm C.flt hr hg
  exact ⟨_, c1, create_inv I hb c1, ⟨C.arm, C.flt, C.lim⟩, mget_mput h.l I.lok.1 n _, by simp⟩
theorem append_st {b : Nat} {lm : Int} {h : HS} (I : Inv b h) (hb : b ≤ 20) (C : Calm lm h) (hlm : 16040 ≤ lm ∧ lm ≤ 1000000) {n : List UInt8} {i : Nat} {f : HFile} {p : List Int} (hp : p.length ≤ 40) (hg : mget h.l n = (i : Int)) (hfi : h.files[i]? = some f) :
    ∃ h1, host_Host_Append.f h n p = some (0, h1) ∧ Inv (b + 1) h1 ∧ Calm lm h1 ∧ mget h1.l n = (i : Int) ∧ h1.files[i]? = some ⟨f.p ++ p, f.safe⟩ ∧ h1.l = h.l ∧ h1.safe = h.safe ∧ h1.wait = h.wait := by
  have u := used_inv I hb
  have hf := (I.fp f (List.mem_of_getElem? hfi)).1
  have hlt : i < h.files.length := (List.getElem?_eq_some_iff.1 hfi).1
  have hl := C.lim
  have c := append_calm I.num C.arm C.flt (n := n) (i := i) (f := f) (p := p) hg hfi rfl u.1 (by omega) (by omega) (by omega)
  exact ⟨_, c, append_inv I (by omega) hp c, ⟨C.arm, C.flt, C.lim⟩, hg, by simp [hlt], rfl, rfl, rfl⟩
theorem sync_st {b : Nat} {lm : Int} {h : HS} (I : Inv b h) (hb : b ≤ 90) (C : Calm lm h) {n : List UInt8} {i : Nat} {f : HFile} (hg : mget h.l n = (i : Int)) (hfi : h.files[i]? = some f) :
    ∃ h1, host_Host_Sync.f h n = some (0, h1) ∧ Inv (b + 1) h1 ∧ Calm lm h1 ∧ mget h1.l n = (i : Int) ∧ h1.files[i]? = some ⟨f.p, f.p.length⟩ ∧ h1.safe = h1.l ∧ h1.wait = [] := by
  have hlt : i < h.files.length := (List.getElem?_eq_some_iff.1 hfi).1
  have c := sync_calm I.num C.arm C.flt (n := n) (i := i) (f := f) hg hfi
  exact ⟨_, c, sync_inv I hb c, ⟨C.arm, C.flt, C.lim⟩, hg, by simp [hlt], rfl, rfl⟩
theorem nm_keep : ¬ NmL nKeep := by unfold NmL; decide
section
variable (a b : List Int) (ha : a.length ≤ 40) (hb : b.length ≤ 40) (keep : Int) (tails : List Int) (ht : tails.length ≤ 9223372036854775807)
include ha hb ht
theorem safe_j4 (x : HS) (I : Inv 16 x) (hw : x.wait = []) (hs : x.safe = x.l) (i : Nat) (hg : mget x.l nKeep = (i : Int)) (hfi : x.files[i]? = some ⟨a ++ b, a.length⟩) : kotatsulaw01_HostSafe.j4 keep tails a b x = some true := by
  have hmem : (nKeep, (i : Int)) ∈ x.l := by
    rcases mget_in (m := x.l) (k := nKeep) with h1 | h1
    · omega
    · rwa [hg] at h1
  have hnow : now x.safe (x.wait.take keep.toNat) = x.l := by rw [hw, hs, List.take_nil]; rfl
  obtain ⟨d, hd1, hd2⟩ := crL_at tails x.files x.l 0 _ hmem
  have I2 := crash_inv I (by decide) keep tails
  unfold kotatsulaw01_HostSafe.j4
  rw [copy_ok I (by decide), Option.bind_some, crash_ok I (by decide) keep tails ht, Option.bind_some]
  have hcr : crH x keep tails = ⟨crFs tails x.files 0 x.l, crL 0 x.l, crL 0 x.l, [], max x.limit 0, -1, -1, 0⟩ := by unfold crH; rw [hnow]
  have hlt : i < x.files.length := (List.getElem?_eq_some_iff.1 hfi).1
  have hfg : fget x.files i = ⟨a ++ b, a.length⟩ := by unfold fget; rw [hfi]; rfl
  have hmo := more_ok (f := ⟨a ++ b, a.length⟩) tails (0 + d) ⟨by simp, by simp; omega⟩
  generalize hmm : moreN tails (0 + d) ⟨a ++ b, a.length⟩ = m at hmo
  have hf : crF tails x.files (0 + d) (nKeep, (i : Int)) = ⟨(a ++ b).take (a.length + m.toNat), a.length + m⟩ := by
    unfold crF
    simp only [Int.toNat_natCast, hfg, hmm]
    rw [show ((a.length : Int) + m).toNat = a.length + m.toNat by omega]
  rw [hf] at hd2
  simp only [List.length_append] at hmo
  have hread := read_calm I2 (by decide) (by rw [hcr]) (e := (nKeep, ((0 + d : Nat) : Int))) (by rw [hcr]; exact hd1) (f := ⟨(a ++ b).take (a.length + m.toNat), a.length + m⟩) (by rw [hcr]; simpa using hd2)
  have hlen : ((a ++ b).take (a.length + m.toNat)).length = a.length + m.toNat := by rw [List.length_take, List.length_append]; omega
  show (host_Host_Read.f (crH x keep tails) nKeep).bind _ = _
  rw [hread, Option.bind_some]
  simp only [show ((0 : Int) == 0) = true from rfl, cond_true, hlen]
  rw [wrapI (by omega) (by omega), decide_eq_true (by omega), cond_true, decide_eq_true (by omega), cond_true, join2 _ _ (by omega), Option.bind_some]
  have hsub : lsub (a ++ b) 0 ((a.length + m.toNat : Nat) : Int) = some ((a ++ b).take (a.length + m.toNat)) := by
    unfold lsub
    rw [if_pos (by rw [List.length_append]; omega), Int.toNat_natCast]; rfl
  rw [hsub, Option.bind_some, same_ok _ _ (by omega), decide_eq_true rfl, Option.bind_some, cond_true, same_host I x rfl rfl, Option.bind_some, cond_true]
  show (some (IntKind.wrap .i64 ((crH x keep tails).reads + _))).bind _ = _
  rw [Option.bind_some, hcr, wrapI (by show _ ≤ 0 + _; omega) (by show 0 + _ ≤ _; omega)]
  simp
theorem safe_end (h : HS) (I : Inv 12 h) (C : Calm 100000 h) (hn : ∀ e ∈ h.l, NmL e.1) :
    ((host_Host_Create.f h nKeep).bind fun r6298 => bif r6298.1 != 0 then (some false) else ((host_Host_Append.f r6298.2 nKeep a).bind fun r6305 => bif r6305.1 != 0 then (some false) else ((host_Host_Sync.f r6305.2 nKeep).bind fun r6312 => bif r6312.1 != 0 then (some false) else ((host_Host_Append.f r6312.2 nKeep b).bind fun r6319 => bif r6319.1 != 0 then (some false) else (kotatsulaw01_HostSafe.j4 keep tails a b r6319.2))))) = some true := by
  obtain ⟨h1, c1, I1, C1, g1, f1⟩ := create_st I (by decide) C (n := nKeep) (by decide) (mget_nm hn nm_keep)
  obtain ⟨h2, c2, I2, C2, g2, f2, -⟩ := append_st I1 (by decide) C1 (by decide) ha g1 f1
  obtain ⟨h3, c3, I3, C3, g3, f3, s3, w3⟩ := sync_st I2 (by decide) C2 g2 f2
  obtain ⟨h4, c4, I4, C4, g4, f4, l4, s4, w4⟩ := append_st I3 (by decide) C3 (by decide) hb g3 f3
  rw [c1, Option.bind_some]
  simp only [show ((0 : Int) != 0) = false from rfl, cond_false]
  rw [c2, Option.bind_some]
  simp only [show ((0 : Int) != 0) = false from rfl, cond_false]
  rw [c3, Option.bind_some]
  simp only [show ((0 : Int) != 0) = false from rfl, cond_false]
  rw [c4, Option.bind_some]
  simp only [show ((0 : Int) != 0) = false from rfl, cond_false]
  exact safe_j4 a b ha hb keep tails ht h4 I4 (w4.trans w3) (s4.trans (s3.trans l4.symm)) _ g4 (by simpa using f4)
theorem safe_loop (acts : List kotatsulaw01_Act) (hal : acts.length ≤ 9223372036854775807) (hA : ∀ a ∈ acts, ActOk a) : ∀ (d i f : Nat) (h : HS), Inv (min i 12) h → Calm 100000 h → NmAll NmL h → i + d = acts.length → d < f →
    kotatsulaw01_HostSafe.l1 acts keep tails a b f (h, (refOf h).f_Files, (refOf h).f_Steps, (refOf h).f_Limit, (refOf h).f_Arm, (refOf h).f_Fault, (refOf h).f_Reads, (i : Int)) = some true
  | 0, i, f + 1, h, I, C, N, hk, _ => by
    simp only [kotatsulaw01_HostSafe.l1]
    rw [ltF (by omega), cond_false]
    exact safe_end a b ha hb keep tails ht h (I.mono (by omega)) C N.1
  | d + 1, i, f + 1, h, I, C, N, hk, hf => by
    simp only [kotatsulaw01_HostSafe.l1]
    rw [ltT (by omega), cond_true, lget_lt (by omega), Option.bind_some, wrap1 (by omega)]
    have hskip : kotatsulaw01_HostSafe.l1 acts keep tails a b f (h, (refOf h).f_Files, (refOf h).f_Steps, (refOf h).f_Limit, (refOf h).f_Arm, (refOf h).f_Fault, (refOf h).f_Reads, ((i + 1 : Nat) : Int)) = some true :=
      safe_loop acts hal hA d (i + 1) f h (I.mono (by omega)) C N (by omega) (by omega)
    by_cases h12 : i < 12
    · rw [decide_eq_true (show (i : Int) < 12 by omega), cond_true]
      by_cases h8 : Int.tmod acts[i].f_Do 12 < 8
      · obtain ⟨h', h1, I', F⟩ := do_both' I (by omega) acts[i] (hA _ (List.getElem_mem _))
        have F := F h8
        rw [decide_eq_true h8, cond_true]
        show (kotatsulaw01_do_d1OO.f h (refOf h) acts[i]).bind _ = _
        rw [h1, Option.bind_some]
        exact safe_loop acts hal hA d (i + 1) f h' (I'.mono (by omega)) (F.calm C) (F.nm NmL (fun _ h => h) N) (by omega) (by omega)
      · rw [decide_eq_false h8, cond_false]; exact hskip
    · rw [decide_eq_false (show ¬ (i : Int) < 12 by omega), cond_false]; exact hskip
end
theorem nm_new (P : List UInt8 → Prop) (n : Int) : NmAll P ⟨[], [], [], [], n, -1, -1, 0⟩ := ⟨(fun _ h => nomatch h), (fun _ h => nomatch h), (fun _ h => nomatch h)⟩
theorem kotatsulaw01_HostSafe.pure : ∀ (a0 : List kotatsulaw01_Act), (a0.length ≤ maxLen ∧ ∀ a ∈ a0, kotatsulaw01_Act.W a) → ∀ (a1 : List Int), (a1.length ≤ maxLen ∧ ∀ a ∈ a1, (Lit.int .u8 a).wf = true) → ∀ (a2 : List Int), (a2.length ≤ maxLen ∧ ∀ a ∈ a2, (Lit.int .u8 a).wf = true) → ∀ (a3 : Int), (Lit.int .i64 a3).wf = true → ∀ (a4 : List Int), (a4.length ≤ maxLen ∧ ∀ a ∈ a4, (Lit.int .i64 a).wf = true) → kotatsulaw01_HostSafe.f a0 a1 a2 a3 a4 = some true := by
  intro acts hA a ha b hb keep _ tails ht
  unfold kotatsulaw01_HostSafe.f
  rw [awake_true, Option.bind_some, cut_ok _ _ (len_of ha.1) (by omega), cut_ok _ _ (len_of hb.1) (by omega)]
  simp only [Bool.not_true, cond_false, Option.bind_some]
  have h1 : (a.take (40 : Int).toNat).length ≤ 40 := by rw [List.length_take]; exact Nat.min_le_left _ _
  have h2 : (b.take (40 : Int).toNat).length ≤ 40 := by rw [List.length_take]; exact Nat.min_le_left _ _
  generalize a.take (40 : Int).toNat = a at *
  generalize b.take (40 : Int).toNat = b at *
  exact safe_loop a b h1 h2 keep tails (len_of ht.1) acts (len_of hA.1) (fun a ha => act_of (hA.2 a ha)) acts.length 0 _ _ ((new_inv 100000 (by decide) (by decide)).mono (by decide)) ⟨rfl, rfl, rfl⟩ (nm_new _ _) (by omega) (by omega)
end Go.Proofs.Ytgfjecngfmachaa
