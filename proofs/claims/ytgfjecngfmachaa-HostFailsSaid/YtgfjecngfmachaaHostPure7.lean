/- The two hosts are alike, whatever is done to them. -/
import Derived.Test.YtgfjecngfmachaaHostPure6
namespace Go.Proofs.Ytgfjecngfmachaa
open Kot Go
set_option maxRecDepth 100000
set_option linter.unusedSimpArgs false
set_option linter.unusedSectionVars false
section
variable {b : Nat} {h : HS} (I : Inv b h) (hb : b ≤ 100)
include I
theorem same_host (x : HS) (hl : x.l = h.l) (hf : x.files = h.files) : host_Same.f h x = some true := by
  unfold host_Same.f
  rw [hl, hf, show ((h.l.length : Int) != (h.l.length : Int)) = false by simp, cond_false]
  congr 1
  refine List.all_eq_true.2 fun e he => ?_
  obtain ⟨k1, k2, k3⟩ := I.lok
  have hg : mget h.l e.1 = e.2 := mget_mem (msorted_nodup k1) he
  unfold okE sameF
  rw [hg, decide_eq_false (by have := (k2 e he).1; omega)]; simp
theorem fails_calm (hf : h.fault = -1) : host_Host_fails.f h false = some (0, h) := by
  rw [fails_ok I.num]
  obtain ⟨fs, l, s, w, lm, ar, fl, rd⟩ := h
  simp only at hf
  subst hf
  rfl
include hb
theorem read_calm (hf : h.fault = -1) {e : List UInt8 × Int} (he : e ∈ h.l) {f : HFile} (hlt : h.files[e.2.toNat]? = some f) : host_Host_Read.f h e.1 = some (f.p, 0, { h with reads := IntKind.wrap .i64 (h.reads + (f.p.length : Int)) }) := by
  obtain ⟨k1, k2, k3⟩ := I.lok
  have hg : mget h.l e.1 = ((e.2.toNat : Nat) : Int) := by
    have h1 : mget h.l e.1 = e.2 := mget_mem (msorted_nodup k1) he
    have := (k2 e he).1
    rw [h1]; omega
  have hp := (I.fp f (List.mem_of_getElem? hlt)).1
  unfold host_Host_Read.f
  rw [fails_calm I hf, Option.bind_some]
  simp only [show ((0 : Int) != 0) = false from rfl, cond_false]
  rw [hg, decide_eq_false (show ¬ (((e.2.toNat : Nat) : Int) < 0) by omega)]
  simp only [cond_false]
  rw [lget_nat, hlt, Option.bind_some, lim_ok (by simp; omega), Option.bind_some, Option.bind_some]
theorem copy_ok : host_Host_Copy.f h = some h := by
  unfold host_Host_Copy.f
  have : okC h = true := by
    unfold okC
    have hw := I.wl
    rw [decide_eq_true (show h.wait.length ≤ 1073741823 by omega), Bool.and_true, List.all_eq_true]
    exact fun f hf => decide_eq_true (by have := (I.fp f hf).1; omega)
  rw [this]; rfl
theorem names_ok : host_Host_Names.f h = some (h.l.map Prod.fst) := by
  obtain ⟨k1, k2, k3⟩ := I.lok
  have hk : keysOk h.l = true := by
    unfold keysOk
    rw [decide_eq_true (by omega), Bool.true_and, List.all_eq_true]
    exact fun e he => decide_eq_true (k2 e he).2.2.2
  unfold host_Host_Names.f
  rw [hk]; rfl
theorem Inv.cp (x : HS) (h1 : x.files = h.files) (h2 : x.l = h.l) (h3 : x.safe = h.safe) (h4 : x.wait = h.wait) (hn : Num x) : Inv b x :=
  ⟨hn, by rw [h2, h3, h4]; exact I.hl, by rw [h1]; exact I.fl, by rw [h3, h4]; exact I.wl, by rw [h3]; exact I.srt, by rw [h3, h1]; exact I.oks, by rw [h4, h1]; exact I.okw, by rw [h1]; exact I.fp⟩
variable {k : HS} (K : Inv b k) (e1 : k.files = h.files) (e2 : k.l = h.l)
include K e1 e2
theorem like_l5 : ∀ (d i f : Nat) (x : HS), Inv b x → x.fault = -1 → x.files = h.files → x.l = h.l → i + d = h.l.length → d < f → kotatsulaw01_like_d1OO.l5 h (refOf k) (h.l.map nameR) f (x, (i : Int)) = some true
  | 0, i, f + 1, x, X, hf, h1, h2, hk, _ => by
    simp only [kotatsulaw01_like_d1OO.l5, List.length_map]
    rw [ltF (by omega), cond_false, same_host I x h2 h1]; rfl
  | d + 1, i, f + 1, x, X, hf, h1, h2, hk, hfu => by
    have hll := I.lok.2.2
    have he := I.lok.2.1 h.l[i] (List.getElem_mem _)
    have hlt : h.l[i].2.toNat < h.files.length := by have := he.2.1; have := he.1; omega
    have hr := read_calm X hb hf (e := h.l[i]) (by rw [h2]; exact List.getElem_mem _) (f := h.files[h.l[i].2.toNat]) (by rw [h1]; exact List.getElem?_eq_getElem hlt)
    have hp := (I.fp h.files[h.l[i].2.toNat] (List.getElem_mem _)).1
    simp only [kotatsulaw01_like_d1OO.l5, List.length_map]
    rw [ltT (by omega), cond_true, getR nameR h.l i (by omega), Option.bind_some]
    show (host_Host_Read.f x h.l[i].1).bind _ = _
    rw [hr, Option.bind_some]
    simp only [show ((0 : Int) != 0) = false from rfl, cond_false]
    show (lget (k.files.map fileR) h.l[i].2).bind _ = _
    rw [e1, show lget (h.files.map fileR) h.l[i].2 = some (fileR h.files[h.l[i].2.toNat]) from (by rw [← getR fileR _ _ hlt]; congr 1; have := he.1; omega), Option.bind_some]
    show (kotatsuref01_Same.f h.files[h.l[i].2.toNat].p h.files[h.l[i].2.toNat].p).bind _ = _
    rw [same_ok _ _ (by omega), Option.bind_some, decide_eq_true rfl]
    simp only [Bool.not_true, cond_false]
    rw [wrap1 (by omega)]
    exact like_l5 d (i + 1) f _ (X.cp hb _ rfl rfl rfl rfl (X.num.cp rfl rfl rfl)) hf h1 h2 (by omega) (by omega)
theorem like_l2 : ∀ (d i f : Nat), i + d = h.l.length → d < f → kotatsulaw01_like_d1OO.l2 h (refOf k) (h.l.map nameR) (h.l.map Prod.fst) f (i : Int) = some true
  | 0, i, f + 1, hk, _ => by
    simp only [kotatsulaw01_like_d1OO.l2, List.length_map]
    rw [ltF (by omega), cond_false, copy_ok I hb, Option.bind_some]
    show kotatsulaw01_like_d1OO.l5 h (refOf k) (h.l.map nameR) _ (_, ((0 : Nat) : Int)) = some true
    exact like_l5 I hb K e1 e2 h.l.length 0 _ _ (I.cp hb _ rfl rfl rfl rfl ⟨I.num.1, I.num.2, Int.le_refl (-1), (by decide : (-1 : Int) ≤ 9223372036854775807), I.num.5, I.num.6⟩) rfl rfl rfl (by omega) (by omega)
  | d + 1, i, f + 1, hk, hfu => by
    have hll := I.lok.2.2
    simp only [kotatsulaw01_like_d1OO.l2, List.length_map]
    rw [ltT (by omega), cond_true, getR Prod.fst h.l i (by omega), Option.bind_some, getR nameR h.l i (by omega), Option.bind_some]
    show (bif !(h.l[i].1 == h.l[i].1) then _ else _) = _
    rw [show (h.l[i].1 == h.l[i].1) = true by simp, Bool.not_true, cond_false, wrap1 (by omega)]
    exact like_l2 d (i + 1) f (by omega) (by omega)
theorem like_ok (e3 : k.reads = h.reads) : kotatsulaw01_like_d1OO.f h (refOf k) = some true := by
  unfold kotatsulaw01_like_d1OO.f
  rw [K.steps hb, Option.bind_some, names_ok I hb, Option.bind_some, e2, show (((h.l.map Prod.fst).length : Int) != ((h.l.map nameR).length : Int)) = false by simp, cond_false, K.used hb, Option.bind_some, e1, e2,
    show (h.l.foldl (usedS h.files) 0 != h.l.foldl (usedS h.files) 0) = false by simp, cond_false]
  show (some h.reads).bind _ = _
  rw [Option.bind_some]
  show (bif h.reads != k.reads then _ else _) = _
  rw [e3, show (h.reads != h.reads) = false by simp, cond_false]
  exact like_l2 I hb K e1 e2 h.l.length 0 _ (by omega) (by simp)
end
theorem new_inv (n : Int) (h1 : 0 ≤ n) (h2 : n ≤ 9223372036854775807) : Inv 0 ⟨[], [], [], [], max n 0, -1, -1, 0⟩ :=
  ⟨⟨Int.le_refl (-1), (by decide : (-1 : Int) ≤ 9223372036854775807), Int.le_refl (-1), (by decide : (-1 : Int) ≤ 9223372036854775807), by show 0 ≤ max n 0; omega, by show max n 0 ≤ _; omega⟩, rfl, Nat.le_refl _, Nat.le_refl _, List.Pairwise.nil, (fun e he => nomatch he), (fun e he => nomatch he), (fun e he => nomatch he)⟩
theorem plays_loop (acts : List kotatsulaw01_Act) (ha : acts.length ≤ 9223372036854775807) (hA : ∀ a ∈ acts, ActOk a) : ∀ (d i f : Nat) (h : HS), Inv i h → i + d = acts.length → d < f → i ≤ 40 →
    kotatsulaw01_HostPlays.l1 acts f (h, (refOf h).f_Files, (refOf h).f_Steps, (refOf h).f_Limit, (refOf h).f_Arm, (refOf h).f_Fault, (refOf h).f_Reads, (i : Int)) = some true
  | 0, i, f + 1, h, I, hk, _, _ => by
    simp only [kotatsulaw01_HostPlays.l1]
    rw [ltF (by omega), cond_false]
  | d + 1, i, f + 1, h, I, hk, hf, hi => by
    simp only [kotatsulaw01_HostPlays.l1]
    rw [ltT (by omega), cond_true, lget_lt (by omega), Option.bind_some]
    by_cases h40 : 40 ≤ i
    · rw [decide_eq_true (by omega)]; rfl
    · obtain ⟨h', h1, I'⟩ := do_both I (by omega) acts[i] (hA _ (List.getElem_mem _))
      rw [decide_eq_false (by omega), cond_false]
      show (kotatsulaw01_do_d1OO.f h (refOf h) acts[i]).bind _ = _
      rw [h1, Option.bind_some]
      simp only [Bool.not_true, cond_false]
      rw [like_ok I' (by omega) I' rfl rfl rfl, Option.bind_some]
      simp only [Bool.not_true, cond_false]
      rw [wrap1 (by omega)]
      exact plays_loop acts ha hA d (i + 1) f h' I' (by omega) (by omega) (by omega)
theorem plays_ok (n : Int) (h0 : 0 ≤ n) (h1 : n ≤ 65535) (acts : List kotatsulaw01_Act) (ha : acts.length ≤ 9223372036854775807) (hA : ∀ a ∈ acts, ActOk a) : kotatsulaw01_HostPlays.f n acts = some true := by
  unfold kotatsulaw01_HostPlays.f
  rw [awake_true, Option.bind_some, wrapI (by omega) (by omega)]
  exact plays_loop acts ha hA acts.length 0 _ _ (new_inv n h0 (by omega)) (by omega) (by omega) (by omega)
end Go.Proofs.Ytgfjecngfmachaa
