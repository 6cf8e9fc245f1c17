/- What may be found behind a crash: the host's and the document's. -/
import Derived.Test.YtgfjecngfmachaaHostPure4
namespace Go.Proofs.Ytgfjecngfmachaa
open Kot Go
set_option maxRecDepth 100000
set_option linter.unusedSimpArgs false
set_option linter.unusedSectionVars false
def moreN (tails : List Int) (i : Nat) (f : HFile) : Int := bif decide (0 < (tails.length : Int)) then max 0 (min (tails.getD (i % tails.length) 0) ((f.p.length : Int) - f.safe)) else 0
def crF (tails : List Int) (fs : List HFile) (i : Nat) (e : List UInt8 × Int) : HFile :=
  let f := fget fs e.2.toNat
  ⟨f.p.take (f.safe + moreN tails i f).toNat, f.safe + moreN tails i f⟩
def crFs (tails : List Int) (fs : List HFile) : Nat → HMap → List HFile
  | _, [] => []
  | i, e :: m => crF tails fs i e :: crFs tails fs (i + 1) m
def crL : Nat → HMap → HMap
  | _, [] => []
  | i, e :: m => (e.1, (i : Int)) :: crL (i + 1) m
def crH (h : HS) (keep : Int) (tails : List Int) : HS :=
  let m := now h.safe (h.wait.take keep.toNat)
  ⟨crFs tails h.files 0 m, crL 0 m, crL 0 m, [], max h.limit 0, -1, -1, 0⟩
theorem more_ok {f : HFile} (tails : List Int) (i : Nat) (h : 0 ≤ f.safe ∧ f.safe ≤ f.p.length) : 0 ≤ moreN tails i f ∧ moreN tails i f + f.safe ≤ f.p.length := by
  unfold moreN
  cases decide (0 < (tails.length : Int)) <;> simp only [cond_true, cond_false] <;> omega
theorem fget_lt {fs : List HFile} {i : Nat} (h : i < fs.length) : fget fs i = fs[i] := by unfold fget; rw [List.getElem?_eq_getElem h]; rfl
theorem tmodN (i n : Nat) : Int.tmod (i : Int) (n : Int) = ((i % n : Nat) : Int) := by rw [Int.tmod_eq_emod_of_nonneg (by omega)]; rfl
theorem mins_last {m : HMap} {k : List UInt8} {x : Int} (h : ∀ e ∈ m, e.1 < k) : mins m k x = m ++ [(k, x)] := by
  induction m with
  | nil => rfl
  | cons e m ih =>
    have he := h e (by simp)
    rw [mins, bytesLess_lt, decide_eq_false (List.lt_asymm he), cond_false, ih (fun z hz => h z (by simp [hz]))]; rfl
theorem mput_last {m : HMap} {k : List UInt8} {x : Int} (h : ∀ e ∈ m, e.1 < k) : mput m k x = m ++ [(k, x)] := by
  have : mdel m k = m := List.filter_eq_self.2 (fun e he => by
    have := h e he
    have hne : e.1 ≠ k := fun hh => List.lt_irrefl _ (hh ▸ this)
    simp [hne])
  unfold mput
  rw [this, mins_last h]
section
variable {b : Nat} {h : HS} (I : Inv b h) (hb : b ≤ 100)
include I hb
theorem crash_l1 (keep : Int) (tails : List Int) : ∀ (d i f : Nat), i + d = h.wait.length → d < f → host_Host_Crash.l1 h keep tails f (now h.safe (h.wait.take (min i keep.toNat)), (i : Int)) =
    ((host_New.f h.limit).bind fun r => ((bif keysOk (now h.safe (h.wait.take keep.toNat)) then some (List.map Prod.fst (now h.safe (h.wait.take keep.toNat))) else none)).bind fun r2 => host_Host_Crash.l10 h tails (now h.safe (h.wait.take keep.toNat), (h.wait.length : Int)) r2 (((r2.length : Int) - 0 : Int).toNat + 2) (r, 0))
  | 0, i, f + 1, hk, _ => by
    simp only [host_Host_Crash.l1]
    have e : h.wait.take (min i keep.toNat) = h.wait.take keep.toNat := by
      rcases Nat.le_total i keep.toNat with h | h
      · rw [Nat.min_eq_left h, List.take_of_length_le (by omega), List.take_of_length_le (by omega)]
      · rw [Nat.min_eq_right h]
    obtain rfl : i = h.wait.length := by omega
    rw [ltF (by omega), cond_false, e]
  | d + 1, i, f + 1, hk, hf => by
    have hw := I.wl
    simp only [host_Host_Crash.l1]
    rw [ltT (by omega), cond_true, lget_lt (by omega), Option.bind_some, wrap1 (by omega), apply_ok, Option.bind_some, ← crash_l1 keep tails d (i + 1) f (by omega) (by omega)]
    by_cases hkn : (i : Int) < keep
    · rw [ltT hkn, cond_true, Nat.min_eq_left (by omega), Nat.min_eq_left (by omega), ← now_add, List.take_append_getElem]
    · rw [ltF (by omega), cond_false, Nat.min_eq_right (by omega), Nat.min_eq_right (by omega)]
theorem crash_l10 (m : HMap) (q : Int) (tails : List Int) (lm : Int) (ht : tails.length ≤ 9223372036854775807) (hs : msorted m) (hm : ∀ e ∈ m, OkN h.files.length e) (hl : m.length ≤ 1000) : ∀ (d i f : Nat) (F : List HFile) (L : HMap), i + d = m.length → d < f → F.length = i → (∀ e ∈ L, ∀ z ∈ m.drop i, e.1 < z.1) →
    host_Host_Crash.l10 h tails (m, q) (m.map Prod.fst) f (⟨F, L, [], [], lm, -1, -1, 0⟩, (i : Int)) = some ⟨F ++ crFs tails h.files i (m.drop i), L ++ crL i (m.drop i), L ++ crL i (m.drop i), [], lm, -1, -1, 0⟩
  | 0, i, f + 1, F, L, hk, _, _, _ => by
    simp only [host_Host_Crash.l10, List.length_map]
    rw [ltF (by omega), cond_false, List.drop_eq_nil_of_le (by omega)]; simp [crFs, crL]
  | d + 1, i, f + 1, F, L, hk, hf, hF, hL => by
    have hi : i < m.length := by omega
    have he := hm m[i] (List.getElem_mem _)
    have hlt : m[i].2.toNat < h.files.length := by have := he.2.1; have := he.1; omega
    have hg : mget m m[i].1 = ((m[i].2.toNat : Nat) : Int) := by
      have h1 : mget m m[i].1 = m[i].2 := mget_mem (msorted_nodup hs) (List.getElem_mem hi)
      rw [h1]; have := he.1; omega
    have hfi := I.fp h.files[m[i].2.toNat] (List.getElem_mem _)
    have hmo := more_ok tails i ⟨hfi.2.1, hfi.2.2⟩
    have hd : m.drop i = m[i] :: m.drop (i + 1) := List.drop_eq_getElem_cons hi
    have hLk : ∀ e ∈ L, e.1 < m[i].1 := fun e hee => hL e hee _ (by rw [hd]; exact List.mem_cons_self)
    have hL2 : ∀ e ∈ L ++ [(m[i].1, (F.length : Int))], ∀ z ∈ m.drop (i + 1), e.1 < z.1 := fun e hee z hz => by
      rcases List.mem_append.1 hee with hee | hee
      · exact hL e hee z (by rw [hd]; exact List.mem_cons_of_mem _ hz)
      · rw [List.mem_singleton.1 hee]
        have : msorted (m.drop i) := List.Pairwise.drop hs
        rw [hd] at this
        exact (List.pairwise_cons.1 this).1 z hz
    have key : host_Host_Crash.j13 h (m, q) (⟨F, L, [], [], lm, -1, -1, 0⟩, (i : Int)) (host_Host_Crash.l10 h tails (m, q) (m.map Prod.fst) f) m[i].1 (moreN tails i h.files[m[i].2.toNat]) = some ⟨F ++ crFs tails h.files i (m.drop i), L ++ crL i (m.drop i), L ++ crL i (m.drop i), [], lm, -1, -1, 0⟩ := by
      unfold host_Host_Crash.j13
      rw [hg, decide_eq_false (show ¬ (((m[i].2.toNat : Nat) : Int) < 0) by omega), cond_false, lget_lt hlt, Option.bind_some, wrapI (by omega) (by omega)]
      have hsub : lsub h.files[m[i].2.toNat].p 0 (h.files[m[i].2.toNat].safe + moreN tails i h.files[m[i].2.toNat]) = some (h.files[m[i].2.toNat].p.take (h.files[m[i].2.toNat].safe + moreN tails i h.files[m[i].2.toNat]).toNat) := by
        unfold lsub
        rw [if_pos (by omega)]; rfl
      rw [hsub, Option.bind_some, lim_ok (by simp; omega), Option.bind_some, Option.bind_some, wrap1 (by omega), mput_last hLk,
        crash_l10 m q tails lm ht hs hm hl d (i + 1) f _ _ (by omega) (by omega) (by simp; omega) hL2, hd]
      simp only [crFs, crL, List.append_assoc, List.singleton_append, crF, fget_lt hlt, hF]
    simp only [host_Host_Crash.l10, List.length_map]
    rw [ltT (by omega), cond_true, getR Prod.fst m i hi, Option.bind_some]
    by_cases hta : (0 : Int) < tails.length
    · have hmi : i % tails.length < tails.length := Nat.mod_lt _ (by omega)
      rw [ltT hta, cond_true, hg, decide_eq_false (show ¬ (((m[i].2.toNat : Nat) : Int) < 0) by omega), cond_false, lget_lt hlt, Option.bind_some, show ((tails.length : Int) == 0) = false from beq_false_of_ne (by omega), cond_false, tmodN, lget_lt hmi, Option.bind_some, wrapI (by omega) (by omega), ← key]
      congr 1
      unfold moreN
      rw [ltT hta, cond_true, List.getD_eq_getElem?_getD, List.getElem?_eq_getElem hmi]; rfl
    · rw [ltF (by omega), cond_false, ← key]
      congr 1
      unfold moreN
      rw [ltF (by omega), cond_false]
theorem crash_ok (keep : Int) (tails : List Int) (ht : tails.length ≤ 9223372036854775807) : host_Host_Crash.f h keep tails = some (crH h keep tails) := by
  obtain ⟨k1, k2, k3⟩ := I.atK keep.toNat
  have := crash_l1 I hb keep tails h.wait.length 0 (((h.wait.length : Int) - 0 : Int).toNat + 2) (by omega) (by omega)
  rw [Nat.zero_min, List.take_zero] at this
  unfold host_Host_Crash.f
  refine this.trans ?_
  have hk : keysOk (now h.safe (h.wait.take keep.toNat)) = true := by
    unfold keysOk
    rw [decide_eq_true (by omega), Bool.true_and, List.all_eq_true]
    exact fun e he => decide_eq_true (k2 e he).2.2.2
  simp only [host_New.f, hk, cond_true, Option.bind_some]
  have := crash_l10 I hb (now h.safe (h.wait.take keep.toNat)) (h.wait.length : Int) tails (max h.limit 0) ht k1 k2 (by omega) (now h.safe (h.wait.take keep.toNat)).length 0 ((((now h.safe (h.wait.take keep.toNat)).map Prod.fst).length - 0 : Int).toNat + 2) [] [] (by omega) (by simp) rfl (by simp)
  simpa [crH] using this
theorem rcrash_l2 (m : HMap) (r : kotatsuref01_Host) (tails : List Int) (ht : tails.length ≤ 9223372036854775807) (hm : ∀ e ∈ m, OkN h.files.length e) (hl : m.length ≤ 1000) : ∀ (d i f : Nat) (F : List HFile) (L : HMap), i + d = m.length → d < f → F.length = i → L.length = i →
    kotatsuref01_Crash_d0OO.l2 (refOf h) tails r (m.map nameR) f (F.map fileR, L.map nameR, (i : Int)) = some ⟨(F ++ crFs tails h.files i (m.drop i)).map fileR, [(L ++ crL i (m.drop i)).map nameR], r.f_Limit, r.f_Arm, r.f_Fault, r.f_Reads⟩
  | 0, i, f + 1, F, L, hk, _, _, _ => by
    simp only [kotatsuref01_Crash_d0OO.l2, List.length_map]
    rw [ltF (by omega), cond_false, List.drop_eq_nil_of_le (by omega)]; simp [crFs, crL]
  | d + 1, i, f + 1, F, L, hk, hf, hF, hL => by
    have hi : i < m.length := by omega
    have he := hm m[i] (List.getElem_mem _)
    have hlt : m[i].2.toNat < h.files.length := by have := he.2.1; have := he.1; omega
    have hfi := I.fp h.files[m[i].2.toNat] (List.getElem_mem _)
    have hmo := more_ok tails i ⟨hfi.2.1, hfi.2.2⟩
    have hd : m.drop i = m[i] :: m.drop (i + 1) := List.drop_eq_getElem_cons hi
    have key : kotatsuref01_Crash_d0OO.j12 (F.map fileR, L.map nameR, (i : Int)) (kotatsuref01_Crash_d0OO.l2 (refOf h) tails r (m.map nameR) f) (nameR m[i]) (fileR h.files[m[i].2.toNat]) (moreN tails i h.files[m[i].2.toNat]) = some ⟨(F ++ crFs tails h.files i (m.drop i)).map fileR, [(L ++ crL i (m.drop i)).map nameR], r.f_Limit, r.f_Arm, r.f_Fault, r.f_Reads⟩ := by
      unfold kotatsuref01_Crash_d0OO.j12
      show (kotatsuref01_Cut.f h.files[m[i].2.toNat].p (IntKind.wrap .i64 (h.files[m[i].2.toNat].safe + moreN tails i h.files[m[i].2.toNat]))).bind _ = _
      rw [wrapI (by omega) (by omega), cut_ok _ _ (by omega) (by omega), Option.bind_some, lim_ok (by simp; omega), Option.bind_some, lim_ok (by simp; omega), Option.bind_some, wrap1 (by omega)]
      have hlen : ((h.files[m[i].2.toNat].p.take (h.files[m[i].2.toNat].safe + moreN tails i h.files[m[i].2.toNat]).toNat).length : Int) = h.files[m[i].2.toNat].safe + moreN tails i h.files[m[i].2.toNat] := by
        rw [List.length_take]; omega
      rw [hlen]
      have := rcrash_l2 m r tails ht hm hl d (i + 1) f (F ++ [crF tails h.files i m[i]]) (L ++ [(m[i].1, (i : Int))]) (by omega) (by omega) (by simp; omega) (by simp; omega)
      rw [hd]
      simp only [crFs, crL]
      rw [List.append_assoc, List.append_assoc, List.singleton_append, List.singleton_append] at this
      rw [← this, List.map_append, List.map_append]
      congr 3
      simp only [crF, fget_lt hlt]; rfl
    simp only [kotatsuref01_Crash_d0OO.l2, List.length_map]
    rw [ltT (by omega), cond_true, getR nameR m i hi, Option.bind_some]
    show (lget (h.files.map fileR) m[i].2).bind _ = _
    rw [show m[i].2 = ((m[i].2.toNat : Nat) : Int) by have := he.1; omega, getR fileR _ _ hlt, Option.bind_some]
    by_cases hta : (0 : Int) < tails.length
    · have hmi : i % tails.length < tails.length := Nat.mod_lt _ (by omega)
      rw [ltT hta, cond_true, show ((tails.length : Int) == 0) = false from beq_false_of_ne (by omega), cond_false, tmodN, lget_lt hmi, Option.bind_some, wrapI (by show _ ≤ (h.files[m[i].2.toNat].p.length : Int) - h.files[m[i].2.toNat].safe; omega) (by show (h.files[m[i].2.toNat].p.length : Int) - h.files[m[i].2.toNat].safe ≤ _; omega), ← key]
      congr 1
      unfold moreN
      rw [ltT hta, cond_true, List.getD_eq_getElem?_getD, List.getElem?_eq_getElem hmi]; rfl
    · rw [ltF (by omega), cond_false, ← key]
      congr 1
      unfold moreN
      rw [ltF (by omega), cond_false]
theorem rcrash_ok (keep : Int) (tails : List Int) (ht : tails.length ≤ 9223372036854775807) : kotatsuref01_Crash_d0OO.f (refOf h) keep tails = some (refOf (crH h keep tails)) := by
  obtain ⟨k1, k2, k3⟩ := I.atK keep.toNat
  have hw := I.wl
  unfold kotatsuref01_Crash_d0OO.f
  show (some _).bind _ = _
  rw [Option.bind_some]
  show (lget (steps h.safe h.wait) (max 0 (min keep (IntKind.wrap .i64 (((steps h.safe h.wait).length : Int) - 1))))).bind _ = _
  rw [steps_len, wrapI (by omega) (by omega), show max 0 (min keep (((h.wait.length + 1 : Nat) : Int) - 1)) = ((min keep.toNat h.wait.length : Nat) : Int) by omega, lget_nat, steps_get _ _ _ (by omega), Option.bind_some]
  have e : h.wait.take (min keep.toNat h.wait.length) = h.wait.take keep.toNat := by
    rcases Nat.le_total keep.toNat h.wait.length with h | h
    · rw [Nat.min_eq_left h]
    · rw [Nat.min_eq_right h, List.take_of_length_le (Nat.le_refl _), List.take_of_length_le h]
  rw [e]
  have := rcrash_l2 I hb (now h.safe (h.wait.take keep.toNat)) ⟨[], [[]], max h.limit 0, -1, -1, 0⟩ tails ht k2 (by omega) (now h.safe (h.wait.take keep.toNat)).length 0 ((((now h.safe (h.wait.take keep.toNat)).map nameR).length - 0 : Int).toNat + 2) [] [] (by omega) (by simp) rfl rfl
  exact this

omit I hb
theorem crFs_len (tails : List Int) (fs : List HFile) : ∀ (m : HMap) (i : Nat), (crFs tails fs i m).length = m.length
  | [], _ => rfl
  | e :: m, i => by rw [crFs, List.length_cons, crFs_len, List.length_cons]
theorem crL_len : ∀ (m : HMap) (i : Nat), (crL i m).length = m.length
  | [], _ => rfl
  | e :: m, i => by rw [crL, List.length_cons, crL_len, List.length_cons]
theorem crL_keys : ∀ (m : HMap) (i : Nat), (crL i m).map Prod.fst = m.map Prod.fst
  | [], _ => rfl
  | e :: m, i => by rw [crL, List.map_cons, crL_keys, List.map_cons]
theorem crL_sorted {m : HMap} (hs : msorted m) (i : Nat) : msorted (crL i m) := by
  have : ((crL i m).map Prod.fst).Pairwise (fun a b => a < b) := by rw [crL_keys]; exact List.pairwise_map.2 hs
  exact List.pairwise_map.1 this
theorem crL_mem : ∀ (m : HMap) (i : Nat) (e : List UInt8 × Int), e ∈ crL i m → (i : Int) ≤ e.2 ∧ e.2 < ((i + m.length : Nat) : Int) ∧ ∃ z ∈ m, z.1 = e.1
  | [], i, e, h => nomatch h
  | z :: m, i, e, h => by
    rw [crL] at h
    rcases List.mem_cons.1 h with rfl | h
    · exact ⟨Int.le_refl _, by simp; omega, z, by simp, rfl⟩
    · obtain ⟨h1, h2, y, hy, hye⟩ := crL_mem m (i + 1) e h
      exact ⟨by omega, by simp; omega, y, by simp [hy], hye⟩
theorem crFs_mem (tails : List Int) (fs : List HFile) : ∀ (m : HMap) (i : Nat) (f : HFile), f ∈ crFs tails fs i m → ∃ (j : Nat), ∃ e ∈ m, f = crF tails fs j e
  | [], i, f, h => nomatch h
  | z :: m, i, f, h => by
    rw [crFs] at h
    rcases List.mem_cons.1 h with rfl | h
    · exact ⟨i, z, by simp, rfl⟩
    · obtain ⟨j, e, he, hf⟩ := crFs_mem tails fs m (i + 1) f h
      exact ⟨j, e, by simp [he], hf⟩
include I hb
theorem crash_inv (keep : Int) (tails : List Int) : Inv b (crH h keep tails) := by
  obtain ⟨k1, k2, k3⟩ := I.atK keep.toNat
  have hn := I.num
  have z1 : (-1 : Int) ≤ 9223372036854775807 := by decide
  refine ⟨⟨Int.le_refl _, z1, Int.le_refl _, z1, by show 0 ≤ max h.limit 0; omega, by show max h.limit 0 ≤ _; have := hn.l2; omega⟩, rfl, by show (crFs _ _ _ _).length ≤ b; rw [crFs_len]; exact k3, by show (crL _ _).length + 0 ≤ b; rw [crL_len]; exact k3, crL_sorted k1 0, fun e he => ?_, (fun c hc => nomatch hc), fun f hf => ?_⟩
  · obtain ⟨h1, h2, z, hz, hze⟩ := crL_mem _ _ _ he
    have := k2 z hz
    refine ⟨by simpa using h1, ?_, by rw [← hze]; exact this.2.2.1, by rw [← hze]; exact this.2.2.2⟩
    show e.2 < ((crFs _ _ _ _).length : Int)
    rw [crFs_len]; simpa using h2
  · obtain ⟨j, e, he, rfl⟩ := crFs_mem _ _ _ _ _ hf
    have ke := k2 e he
    have hlt : e.2.toNat < h.files.length := by have := ke.2.1; have := ke.1; omega
    have hfi := I.fp h.files[e.2.toNat] (List.getElem_mem _)
    have hmo := more_ok tails j ⟨hfi.2.1, hfi.2.2⟩
    simp only [crF, fget_lt hlt, List.length_take]
    omega
end
end Go.Proofs.Ytgfjecngfmachaa
