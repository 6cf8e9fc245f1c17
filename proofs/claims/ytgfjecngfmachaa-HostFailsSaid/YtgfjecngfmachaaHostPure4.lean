/- The host's calls and the document's: they answer alike. -/
import Derived.Test.YtgfjecngfmachaaHostPure3
namespace Go.Proofs.Ytgfjecngfmachaa
open Kot Go
set_option maxRecDepth 100000
set_option linter.unusedSimpArgs false
set_option linter.unusedSectionVars false
theorem now_add (s : HMap) (w : List HChg) (c : HChg) : now s (w ++ [c]) = app (now s w) c := by simp [now]
theorem hdo_ok (c : HChg) (k : HS) (hk : k.wait.length ≤ 1000) : host_Host_do.f k c = some { k with l := app k.l c, wait := k.wait ++ [c] } := by
  unfold host_Host_do.f
  rw [apply_ok, Option.bind_some, lim_ok (by simp; omega)]; rfl
section
variable {b : Nat} {h : HS} (I : Inv b h) (hb : b ≤ 100)
include I
theorem Inv.grow (x : HS) (h1 : x.files = h.files) (h2 : x.l = h.l) (h3 : x.safe = h.safe) (h4 : x.wait = h.wait) (hn : Num x) : Inv (b + 1) x :=
  ⟨hn, by rw [h2, h3, h4]; exact I.hl, by rw [h1]; have := I.fl; omega, by rw [h3, h4]; have := I.wl; omega, by rw [h3]; exact I.srt, by rw [h3, h1]; exact I.oks, by rw [h4, h1]; exact I.okw, by rw [h1]; exact fun f hf => ⟨by have := (I.fp f hf).1; omega, (I.fp f hf).2⟩⟩
/-- a change, and new files -/
theorem Inv.chg (c : HChg) (fs : List HFile) (hfs : fs.length ≤ 1) (hp : ∀ f ∈ fs, f.p = [] ∧ f.safe = 0) (hc : OkW (h.files ++ fs).length c) : Inv (b + 1) { h with files := h.files ++ fs, l := app h.l c, wait := h.wait ++ [c] } :=
  ⟨I.num.cp rfl rfl rfl, by show app h.l c = now h.safe (h.wait ++ [c]); rw [now_add, ← I.hl], by have := I.fl; show (h.files ++ fs).length ≤ _; simp; omega, by have := I.wl; show h.safe.length + (h.wait ++ [c]).length ≤ _; simp; omega, I.srt,
    fun e he => (I.oks e he).mono (by show _ ≤ (h.files ++ fs).length; simp),
    fun d hd => by
      rcases List.mem_append.1 hd with hd | hd
      · exact (I.okw d hd).mono (by show _ ≤ (h.files ++ fs).length; simp)
      · rw [List.mem_singleton.1 hd]; exact hc,
    fun f hf => by
      rcases List.mem_append.1 hf with hf | hf
      · exact ⟨by have := (I.fp f hf).1; omega, (I.fp f hf).2⟩
      · obtain ⟨h1, h2⟩ := hp f hf
        simp [h1, h2]⟩
include hb
theorem create_both (n to : List UInt8) (p : List Int) : ∃ e h', host_Host_Create.f h n = some (e, h') ∧ kotatsuref01_Do_d0OO.f (refOf h) 0 n to p = some (e, refOf h') ∧ Inv (b + 1) h' := by
  have I1 := I.fails true
  unfold host_Host_Create.f
  rw [do_pre I, fails_ok I.num, show (((0 : Int) != 2) && ((0 : Int) != 3)) = true from rfl, do_j1 I1 hb]
  simp only [Option.bind_some, right_ok]
  generalize failsH h true = k at *
  cases he : failsE h true != 0
  · cases hr : rightB n
    · exact ⟨_, _, rfl, rfl, I1.mono (by omega)⟩
    · by_cases hg : mget k.l n < 0
      · have hx := rightB_ne hr
        rw [decide_eq_true hg, decide_eq_false (by omega)]
        simp only [cond_false, cond_true, Bool.not_true, show ((0 : Int) == 0) = true from rfl]
        have hw := I1.wl
        rw [hdo_ok]
        rotate_left
        · show k.wait.length ≤ 1000; omega
        exact ⟨_, _, rfl, rfl, I1.chg _ [⟨[], 0⟩] (by simp) (by simp) ⟨by simp; omega, hx.1, hx.2⟩⟩
      · rw [decide_eq_false hg, decide_eq_true (by omega)]
        exact ⟨_, _, rfl, rfl, I1.mono (by omega)⟩
  · exact ⟨_, _, rfl, rfl, I1.mono (by omega)⟩

theorem j2_none (c : Int) (n to : List UInt8) (p : List Int) (i : Int) (hi : i < 0) : kotatsuref01_Do_d0OO.j2 c n to p (tup (refOf h)) (h.l.map nameR) i () = some (4, refOf h) := by
  unfold kotatsuref01_Do_d0OO.j2
  rw [decide_eq_true hi]; rfl
theorem set_map (fs : List HFile) (i : Nat) (f : HFile) : (fs.map fileR).set i (fileR f) = (fs.set i f).map fileR := by rw [List.map_set]
/-- a file's bytes are others -/
theorem Inv.put (i : Nat) (f : HFile) (hf : f.p.length ≤ 40 * (b + 1) ∧ 0 ≤ f.safe ∧ f.safe ≤ f.p.length) : Inv (b + 1) { h with files := h.files.set i f } :=
  ⟨I.num.cp rfl rfl rfl, I.hl, by have := I.fl; show (h.files.set i f).length ≤ _; simp; omega, by have := I.wl; show h.safe.length + h.wait.length ≤ _; omega, I.srt, by simpa using I.oks, by simpa using I.okw,
    fun g hg => by
      rcases List.mem_or_eq_of_mem_set hg with hg | rfl
      · exact ⟨by have := (I.fp g hg).1; omega, (I.fp g hg).2⟩
      · exact hf⟩
theorem append_both (n to : List UInt8) (p : List Int) (hp : p.length ≤ 40) : ∃ e h', host_Host_Append.f h n p = some (e, h') ∧ kotatsuref01_Do_d0OO.f (refOf h) 1 n to p = some (e, refOf h') ∧ Inv (b + 1) h' := by
  have I1 := I.fails true
  unfold host_Host_Append.f
  rw [do_pre I, fails_ok I.num, show (((1 : Int) != 2) && ((1 : Int) != 3)) = true from rfl, do_j1 I1 hb]
  simp only [Option.bind_some, show ((1 : Int) == 0) = false from rfl, show ((1 : Int) == 5) = false from rfl, cond_false]
  generalize failsH h true = k at *
  cases he : failsE h true != 0
  · simp only [cond_false]
    rcases I1.get n with hg | ⟨g1, g2, g3, g4, g5⟩
    · rw [hg, decide_eq_true (by omega), j2_none I1 hb _ _ _ _ _ (by omega)]
      exact ⟨_, _, rfl, rfl, I1.mono (by omega)⟩
    · obtain ⟨i, hi⟩ : ∃ i : Nat, mget k.l n = (i : Int) := ⟨(mget k.l n).toNat, by omega⟩
      have hlt : i < k.files.length := by omega
      have hf := I1.fp k.files[i] (List.getElem_mem _)
      rw [hi, decide_eq_false (show ¬ ((i : Int) < 0) by omega)]
      simp only [cond_false]
      unfold kotatsuref01_Do_d0OO.j2
      rw [decide_eq_false (show ¬ ((i : Int) < 0) by omega)]
      simp only [cond_false, cond_true, show ((1 : Int) == 1) = true from rfl]
      show ∃ e h', _ ∧ (kotatsuref01_Used_d0OO.f (refOf k)).bind _ = _ ∧ _
      rw [I1.used hb, Option.bind_some]
      show ∃ e h', (bif decide (IntKind.wrap .i64 (k.limit - k.l.foldl (usedS k.files) 0) < (p.length : Int)) then _ else _) = _ ∧ (bif decide (IntKind.wrap .i64 (k.limit - k.l.foldl (usedS k.files) 0) < (p.length : Int)) then _ else _) = _ ∧ _
      cases decide (IntKind.wrap .i64 (k.limit - k.l.foldl (usedS k.files) 0) < (p.length : Int))
      · simp only [cond_false]
        rw [lget_lt hlt, Option.bind_some, lim_ok (by omega), Option.bind_some]
        show ∃ e h', _ ∧ (lget (k.files.map fileR) (i : Int)).bind _ = _ ∧ _
        rw [getR fileR _ _ hlt, Option.bind_some]
        show ∃ e h', _ ∧ (kotatsuref01_Join.f [k.files[i].p, p]).bind _ = _ ∧ _
        rw [join2 _ _ (by omega), Option.bind_some]
        show ∃ e h', _ ∧ (lget (k.files.map fileR) (i : Int)).bind _ = _ ∧ _
        rw [getR fileR _ _ hlt, Option.bind_some]
        refine ⟨_, _, rfl, ?_, I1.put hb i ⟨k.files[i].p ++ p, k.files[i].safe⟩ (by simp; omega)⟩
        show some ((0 : Int), (⟨(k.files.map fileR).set i (fileR ⟨k.files[i].p ++ p, k.files[i].safe⟩), _, _, _, _, _⟩ : kotatsuref01_Host)) = _
        rw [set_map I1 hb]; rfl
      · exact ⟨_, _, rfl, rfl, I1.mono (by omega)⟩
  · exact ⟨_, _, rfl, rfl, I1.mono (by omega)⟩

theorem read_both (n to : List UInt8) (p : List Int) : ∃ q e h', host_Host_Read.f h n = some (q, e, h') ∧ kotatsuref01_Do_d0OO.f (refOf h) 2 n to p = some (e, refOf h') ∧ Inv (b + 1) h' ∧ (e ≠ 0 → q = []) ∧ (e = 0 → ∃ (i : Nat) (f : HFile), mget h'.l n = (i : Int) ∧ h'.files[i]? = some f ∧ q = f.p) := by
  have I1 := I.fails false
  unfold host_Host_Read.f
  rw [do_pre I, fails_ok I.num, show (((2 : Int) != 2) && ((2 : Int) != 3)) = false from rfl, do_j1 I1 hb]
  simp only [Option.bind_some, show ((2 : Int) == 0) = false from rfl, show ((2 : Int) == 5) = false from rfl, cond_false]
  generalize failsH h false = k at *
  cases he : failsE h false != 0
  · simp only [cond_false]
    rcases I1.get n with hg | ⟨g1, g2, g3, g4, g5⟩
    · rw [hg, decide_eq_true (by omega), j2_none I1 hb _ _ _ _ _ (by omega)]
      exact ⟨_, _, _, rfl, rfl, I1.mono (by omega), fun _ => rfl, fun h => by cases h⟩
    · obtain ⟨i, hi⟩ : ∃ i : Nat, mget k.l n = (i : Int) := ⟨(mget k.l n).toNat, by omega⟩
      have hlt : i < k.files.length := by omega
      have hf := I1.fp k.files[i] (List.getElem_mem _)
      rw [hi, decide_eq_false (show ¬ ((i : Int) < 0) by omega)]
      simp only [cond_false]
      unfold kotatsuref01_Do_d0OO.j2
      rw [decide_eq_false (show ¬ ((i : Int) < 0) by omega)]
      simp only [cond_false, cond_true, show ((2 : Int) == 1) = false from rfl, show ((2 : Int) == 2) = true from rfl]
      rw [lget_lt hlt, Option.bind_some, lim_ok (by simp; omega), Option.bind_some, Option.bind_some]
      show ∃ q e h', _ ∧ (lget (k.files.map fileR) (i : Int)).bind _ = _ ∧ _
      rw [getR fileR _ _ hlt, Option.bind_some]
      exact ⟨_, _, _, rfl, rfl, I1.grow _ rfl rfl rfl rfl (I1.num.cp rfl rfl rfl), fun h => absurd rfl h, fun _ => ⟨i, k.files[i], hi, List.getElem?_eq_getElem hlt, rfl⟩⟩
  · exact ⟨_, _, _, rfl, rfl, I1.mono (by omega), fun _ => rfl, fun h => by rw [h] at he; cases he⟩
theorem size_both (n to : List UInt8) (p : List Int) : ∃ q e h', host_Host_Size.f h n = some (q, e, h') ∧ kotatsuref01_Do_d0OO.f (refOf h) 3 n to p = some (e, refOf h') ∧ Inv (b + 1) h' ∧ (e ≠ 0 → q = 0) ∧ (e = 0 → ∃ (i : Nat) (f : HFile), mget h'.l n = (i : Int) ∧ h'.files[i]? = some f ∧ q = (f.p.length : Int)) := by
  have I1 := I.fails false
  unfold host_Host_Size.f
  rw [do_pre I, fails_ok I.num, show (((3 : Int) != 2) && ((3 : Int) != 3)) = false from rfl, do_j1 I1 hb]
  simp only [Option.bind_some, show ((3 : Int) == 0) = false from rfl, show ((3 : Int) == 5) = false from rfl, cond_false]
  generalize failsH h false = k at *
  cases he : failsE h false != 0
  · simp only [cond_false]
    rcases I1.get n with hg | ⟨g1, g2, g3, g4, g5⟩
    · rw [hg, decide_eq_true (by omega), j2_none I1 hb _ _ _ _ _ (by omega)]
      exact ⟨_, _, _, rfl, rfl, I1.mono (by omega), fun _ => rfl, fun h => by cases h⟩
    · obtain ⟨i, hi⟩ : ∃ i : Nat, mget k.l n = (i : Int) := ⟨(mget k.l n).toNat, by omega⟩
      have hlt : i < k.files.length := by omega
      rw [hi, decide_eq_false (show ¬ ((i : Int) < 0) by omega)]
      simp only [cond_false]
      unfold kotatsuref01_Do_d0OO.j2
      rw [decide_eq_false (show ¬ ((i : Int) < 0) by omega)]
      rw [lget_lt hlt, Option.bind_some]
      exact ⟨_, _, _, rfl, rfl, I1.mono (by omega), fun h => absurd rfl h, fun _ => ⟨i, k.files[i], hi, List.getElem?_eq_getElem hlt, rfl⟩⟩
  · exact ⟨_, _, _, rfl, rfl, I1.mono (by omega), fun _ => rfl, fun h => by rw [h] at he; cases he⟩
theorem sync_both (n to : List UInt8) (p : List Int) : ∃ e h', host_Host_Sync.f h n = some (e, h') ∧ kotatsuref01_Do_d0OO.f (refOf h) 4 n to p = some (e, refOf h') ∧ Inv (b + 1) h' := by
  have I1 := I.fails true
  unfold host_Host_Sync.f
  rw [do_pre I, fails_ok I.num, show (((4 : Int) != 2) && ((4 : Int) != 3)) = true from rfl, do_j1 I1 hb]
  simp only [Option.bind_some, show ((4 : Int) == 0) = false from rfl, show ((4 : Int) == 5) = false from rfl, cond_false]
  generalize failsH h true = k at *
  cases he : failsE h true != 0
  · simp only [cond_false]
    rcases I1.get n with hg | ⟨g1, g2, g3, g4, g5⟩
    · rw [hg, decide_eq_true (by omega), j2_none I1 hb _ _ _ _ _ (by omega)]
      exact ⟨_, _, rfl, rfl, I1.mono (by omega)⟩
    · obtain ⟨i, hi⟩ : ∃ i : Nat, mget k.l n = (i : Int) := ⟨(mget k.l n).toNat, by omega⟩
      have hlt : i < k.files.length := by omega
      have hf := I1.fp k.files[i] (List.getElem_mem _)
      rw [hi, decide_eq_false (show ¬ ((i : Int) < 0) by omega)]
      simp only [cond_false]
      unfold kotatsuref01_Do_d0OO.j2
      rw [decide_eq_false (show ¬ ((i : Int) < 0) by omega)]
      simp only [cond_false, cond_true, show ((4 : Int) == 1) = false from rfl, show ((4 : Int) == 2) = false from rfl, show ((4 : Int) == 4) = true from rfl]
      rw [lget_lt hlt, Option.bind_some]
      show ∃ e h', _ ∧ (lget (k.files.map fileR) (i : Int)).bind _ = _ ∧ _
      rw [getR fileR _ _ hlt, Option.bind_some]
      show ∃ e h', _ ∧ (lget (k.files.map fileR) (i : Int)).bind _ = _ ∧ _
      rw [getR fileR _ _ hlt, Option.bind_some]
      have I2 := I1.put hb i ⟨k.files[i].p, k.files[i].p.length⟩ (by simp; omega)
      refine ⟨_, _, rfl, ?_, ⟨I2.num.cp rfl rfl rfl, rfl, I2.fl, by have := I1.lok.2.2; show k.l.length + 0 ≤ _; omega, I1.lok.1, fun e he => (I1.lok.2.1 e he).mono (by show _ ≤ (k.files.set _ _).length; simp), (fun c hc => nomatch hc), I2.fp⟩⟩
      show some ((0 : Int), (⟨(k.files.map fileR).set i (fileR ⟨k.files[i].p, k.files[i].p.length⟩), _, _, _, _, _⟩ : kotatsuref01_Host)) = _
      rw [set_map I1 hb]; rfl
  · exact ⟨_, _, rfl, rfl, I1.mono (by omega)⟩
theorem rename_both (n to : List UInt8) (p : List Int) : ∃ e h', host_Host_Rename.f h n to = some (e, h') ∧ kotatsuref01_Do_d0OO.f (refOf h) 5 n to p = some (e, refOf h') ∧ Inv (b + 1) h' := by
  have I1 := I.fails true
  unfold host_Host_Rename.f
  rw [do_pre I, fails_ok I.num, show (((5 : Int) != 2) && ((5 : Int) != 3)) = true from rfl, do_j1 I1 hb]
  simp only [Option.bind_some, right_ok, show ((5 : Int) == 0) = false from rfl, show ((5 : Int) == 5) = true from rfl, cond_false, cond_true]
  generalize failsH h true = k at *
  cases he : failsE h true != 0
  · simp only [cond_false]
    cases hr : rightB to
    · exact ⟨_, _, rfl, rfl, I1.mono (by omega)⟩
    · have hx := rightB_ne hr
      simp only [Bool.not_true, cond_false]
      rcases I1.get n with hg | ⟨g1, g2, g3, g4, g5⟩
      · rw [hg, decide_eq_true (by omega), j2_none I1 hb _ _ _ _ _ (by omega)]
        exact ⟨_, _, rfl, rfl, I1.mono (by omega)⟩
      · rw [decide_eq_false (show ¬ (mget k.l n < 0) by omega)]
        simp only [cond_false]
        unfold kotatsuref01_Do_d0OO.j2
        rw [decide_eq_false (show ¬ (mget k.l n < 0) by omega)]
        simp only [cond_false, cond_true, show ((5 : Int) == 1) = false from rfl, show ((5 : Int) == 2) = false from rfl, show ((5 : Int) == 4) = false from rfl, show ((5 : Int) == 5) = true from rfl]
        cases hne : n == to
        · simp only [Bool.not_false, cond_true]
          have hw := I1.wl
          have hl := I1.lok.2.2
          have hd := mdel_len k.l n
          rw [hdo_ok, without_ok _ _ (by omega), Option.bind_some, Option.bind_some, with_ok _ _ _ (by omega), Option.bind_some, lim_ok (by simp [tup, refOf, steps_len]; omega), Option.bind_some]
          rotate_left
          · show k.wait.length ≤ 1000; omega
          have I2 := I1.chg ⟨to, mget k.l n, n⟩ [] (by simp) (by simp) ⟨by simp; omega, hx.1, hx.2⟩
          simp only [List.append_nil] at I2
          refine ⟨_, _, rfl, ?_, I2⟩
          have e : app k.l ⟨to, mget k.l n, n⟩ = mput (mdel k.l n) to (mget k.l n) := by
            unfold app; rw [show (n == ([] : List UInt8)) = false by simpa using g4, cond_false, decide_eq_false (show ¬ (mget k.l n < 0) by omega), cond_false]
          simp only [refOf, tup, steps_add, ← I1.hl, e]
        · exact ⟨_, _, rfl, rfl, I1.mono (by omega)⟩
  · exact ⟨_, _, rfl, rfl, I1.mono (by omega)⟩
theorem remove_both (n to : List UInt8) (p : List Int) : ∃ e h', host_Host_Remove.f h n = some (e, h') ∧ kotatsuref01_Do_d0OO.f (refOf h) 6 n to p = some (e, refOf h') ∧ Inv (b + 1) h' := by
  have I1 := I.fails true
  unfold host_Host_Remove.f
  rw [do_pre I, fails_ok I.num, show (((6 : Int) != 2) && ((6 : Int) != 3)) = true from rfl, do_j1 I1 hb]
  simp only [Option.bind_some, show ((6 : Int) == 0) = false from rfl, show ((6 : Int) == 5) = false from rfl, cond_false]
  generalize failsH h true = k at *
  cases he : failsE h true != 0
  · simp only [cond_false]
    rcases I1.get n with hg | ⟨g1, g2, g3, g4, g5⟩
    · rw [hg, decide_eq_true (by omega), j2_none I1 hb _ _ _ _ _ (by omega)]
      exact ⟨_, _, rfl, rfl, I1.mono (by omega)⟩
    · rw [decide_eq_false (show ¬ (mget k.l n < 0) by omega)]
      simp only [cond_false]
      unfold kotatsuref01_Do_d0OO.j2
      rw [decide_eq_false (show ¬ (mget k.l n < 0) by omega)]
      simp only [cond_false, cond_true, show ((6 : Int) == 1) = false from rfl, show ((6 : Int) == 2) = false from rfl, show ((6 : Int) == 4) = false from rfl, show ((6 : Int) == 5) = false from rfl, show ((6 : Int) == 6) = true from rfl]
      have hw := I1.wl
      have hl := I1.lok.2.2
      rw [hdo_ok, without_ok _ _ (by omega), Option.bind_some, Option.bind_some, lim_ok (by simp [tup, refOf, steps_len]; omega), Option.bind_some]
      rotate_left
      · show k.wait.length ≤ 1000; omega
      have I2 := I1.chg ⟨n, -1, []⟩ [] (by simp) (by simp) ⟨by simp; omega, g4, g5⟩
      simp only [List.append_nil] at I2
      refine ⟨_, _, rfl, ?_, I2⟩
      have e : app k.l ⟨n, -1, []⟩ = mdel k.l n := rfl
      simp only [refOf, tup, steps_add, ← I1.hl, e]
  · exact ⟨_, _, rfl, rfl, I1.mono (by omega)⟩
end
end Go.Proofs.Ytgfjecngfmachaa
