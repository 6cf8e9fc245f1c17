/- An act on both hosts; are they alike? -/
import Derived.Test.YtgfjecngfmachaaHostPure5
namespace Go.Proofs.Ytgfjecngfmachaa
open Kot Go
set_option maxRecDepth 100000
set_option linter.unusedSimpArgs false
set_option linter.unusedSectionVars false
def nameC (o : Option (List UInt8)) : Bool := match o with
  | some n => decide (n.length = 0 ∨ n.length = 1 ∨ n.length = 34)
  | none => false
theorem name_chk : ∀ b : Fin 256, nameC (kotatsulaw01_name.f (b.val : Int)) = true := by decide +kernel
theorem name_ok {k : Int} (h1 : 0 ≤ k) (h2 : k ≤ 255) : ∃ n, kotatsulaw01_name.f k = some n ∧ (n.length = 0 ∨ n.length = 1 ∨ n.length = 34) := by
  obtain ⟨b, rfl⟩ : ∃ b : Fin 256, k = (b.val : Int) := ⟨⟨k.toNat, by omega⟩, by simp; omega⟩
  have := name_chk b
  cases h : kotatsulaw01_name.f (b.val : Int) with
  | none => rw [h] at this; cases this
  | some n => rw [h] at this; exact ⟨n, rfl, of_decide_eq_true this⟩
structure ActOk (a : kotatsulaw01_Act) : Prop where
  d : 0 ≤ a.f_Do ∧ a.f_Do ≤ 255
  n : 0 ≤ a.f_Name ∧ a.f_Name ≤ 255
  t : 0 ≤ a.f_To ∧ a.f_To ≤ 255
  p : a.f_P.length ≤ 9223372036854775807
  N : -9223372036854775808 ≤ a.f_N ∧ a.f_N ≤ 9223372036854775807
  T : a.f_Tails.length ≤ 9223372036854775807
theorem law_j1 {n to : List UInt8} {c : Int} {h' : HS} {x x' : kotatsuref01_Host} {p q : List Int} {e : Int} {l : List kotatsuref01_Name} {k : Int} (hc : 0 ≤ c) (hDo : kotatsuref01_Do_d0OO.f x c n to p = some (e, x')) (hNow : kotatsuref01_Now_d0OO.f x' = some l) (hFind : kotatsuref01_Find.f l n = some k)
    (h0 : (e ≠ 0 ∨ (c ≠ 2 ∧ c ≠ 3)) → q = []) (h1 : e = 0 → c = 2 ∨ c = 3 → ∃ z, lget x'.f_Files k = some z ∧ q.length = z.f_P.length) :
    kotatsulaw01_do_d1OO.j1 n to c (h', x.f_Files, x.f_Steps, x.f_Limit, x.f_Arm, x.f_Fault, x.f_Reads, p, e, q) = some (h', x', true) := by
  unfold kotatsulaw01_do_d1OO.j1
  rw [ltF hc, cond_false]
  show (kotatsuref01_Do_d0OO.f x c n to p).bind _ = _
  rw [hDo, Option.bind_some, hNow, Option.bind_some, hFind, Option.bind_some]
  by_cases he : e = 0
  · subst he
    simp only [show ((0 : Int) == 0) = true from rfl, cond_true, bnd]
    by_cases h2 : c = 2
    · obtain ⟨z, hz, hq⟩ := h1 rfl (.inl h2)
      rw [hz, Option.bind_some, hq, h2]; simp
    · by_cases h3 : c = 3
      · obtain ⟨z, hz, hq⟩ := h1 rfl (.inr h3)
        rw [hz, Option.bind_some, hq, h3]; simp
      · rw [h0 (.inr ⟨h2, h3⟩), beq_false_of_ne h2, beq_false_of_ne h3]; rfl
  · rw [h0 (.inl he)]
    simp [beq_false_of_ne he, bnd]
/-- all names of a host -/
def NmAll (P : List UInt8 → Prop) (h : HS) : Prop := (∀ e ∈ h.l, P e.1) ∧ (∀ e ∈ h.safe, P e.1) ∧ (∀ c ∈ h.wait, P c.name)
/-- what stays, whatever a call does -/
structure Fr (S : List UInt8 → Prop) (h h' : HS) : Prop where
  lim : h'.limit = h.limit
  arm : h.arm = -1 → h'.arm = -1
  flt : h.fault = -1 → h'.fault = -1
  nm : ∀ P : List UInt8 → Prop, (∀ n, S n → P n) → NmAll P h → NmAll P h'
theorem fr_fails (S : List UInt8 → Prop) (h : HS) (w : Bool) : Fr S h (failsH h w) :=
  ⟨rfl, fun ha => by unfold failsH; simp only [ha]; cases w <;> rfl, fun hf => by unfold failsH; simp only [hf]; rfl, fun P _ H => H⟩
theorem app_nm {P : List UInt8 → Prop} {m : HMap} {c : HChg} (hm : ∀ e ∈ m, P e.1) (hc : P c.name) : ∀ e ∈ app m c, P e.1 := fun e he => by
  rcases app_mem he with h | ⟨_, rfl⟩
  · exact hm e h
  · exact hc
theorem fr_do {S : List UInt8 → Prop} {h k h' : HS} {c : HChg} (F : Fr S h k) (fs : List HFile) (hx : host_Host_do.f { k with files := fs } c = some h') (hc : S c.name) : Fr S h h' := by
  unfold host_Host_do.f at hx
  rw [apply_ok, Option.bind_some] at hx
  unfold lim at hx
  split at hx
  · cases hx
    exact ⟨F.lim, F.arm, F.flt, fun P hP H => by
      obtain ⟨h1, h2, h3⟩ := F.nm P hP H
      exact ⟨app_nm h1 (hP _ hc), h2, fun d hd => by
        rcases List.mem_append.1 hd with hd | hd
        · exact h3 d hd
        · rw [List.mem_singleton.1 hd]; exact hP _ hc⟩⟩
  · cases hx
theorem fr_files {S : List UInt8 → Prop} {h k : HS} (F : Fr S h k) (fs : List HFile) : Fr S h { k with files := fs } := ⟨F.lim, F.arm, F.flt, F.nm⟩
theorem create_fr {S : List UInt8 → Prop} {h h' : HS} {n : List UInt8} {e : Int} (H : Num h) (hn : S n) (hx : host_Host_Create.f h n = some (e, h')) : Fr S h h' := by
  unfold host_Host_Create.f at hx
  rw [fails_ok H, Option.bind_some, right_ok, Option.bind_some] at hx
  have F := fr_fails S h true
  revert hx
  cases failsE h true != 0
  · cases rightB n
    · intro hx; cases hx; exact F
    · cases hg : decide (mget (failsH h true).l n < 0)
      · intro hx; simp only [cond_false, Bool.not_true, hg, Bool.not_false, cond_true] at hx; cases hx; exact F
      · intro hx
        simp only [cond_false, Bool.not_true, hg] at hx
        cases hd : host_Host_do.f { failsH h true with files := (failsH h true).files ++ [⟨[], 0⟩] } ⟨n, (failsH h true).files.length, []⟩ with
        | none => rw [hd] at hx; cases hx
        | some k => rw [hd] at hx; cases hx; exact fr_do F _ hd hn
  · intro hx; cases hx; exact F
theorem append_fr {S : List UInt8 → Prop} {h h' : HS} {n : List UInt8} {p : List Int} {e : Int} (H : Num h) (hx : host_Host_Append.f h n p = some (e, h')) : Fr S h h' := by
  unfold host_Host_Append.f at hx
  rw [fails_ok H, Option.bind_some] at hx
  have F := fr_fails S h true
  revert hx
  generalize failsH h true = k at *
  cases failsE h true != 0
  · cases hg : decide (mget k.l n < 0)
    · simp only [cond_false]
      cases decide (IntKind.wrap .i64 (k.limit - List.foldl (usedS k.files) 0 k.l) < (p.length : Int))
      · intro hx
        simp only [cond_false] at hx
        cases hl : lget k.files (mget k.l n) with
        | none => rw [hl] at hx; cases hx
        | some z =>
          rw [hl, Option.bind_some] at hx
          unfold lim at hx
          split at hx
          · cases hx; exact fr_files F _
          · cases hx
      · intro hx; cases hx; exact F
    · intro hx; cases hx; exact F
  · intro hx; cases hx; exact F
theorem read_fr {S : List UInt8 → Prop} {h h' : HS} {n : List UInt8} {q : List Int} {e : Int} (H : Num h) (hx : host_Host_Read.f h n = some (q, e, h')) : Fr S h h' := by
  unfold host_Host_Read.f at hx
  rw [fails_ok H, Option.bind_some] at hx
  have F := fr_fails S h false
  revert hx
  generalize failsH h false = k at *
  cases failsE h false != 0
  · cases hg : decide (mget k.l n < 0)
    · simp only [cond_false]
      intro hx
      cases hl : lget k.files (mget k.l n) with
      | none => rw [hl] at hx; cases hx
      | some z =>
        rw [hl, Option.bind_some] at hx
        unfold lim at hx
        split at hx
        · cases hx; exact ⟨F.lim, F.arm, F.flt, F.nm⟩
        · cases hx
    · intro hx; cases hx; exact F
  · intro hx; cases hx; exact F
theorem size_fr {S : List UInt8 → Prop} {h h' : HS} {n : List UInt8} {q : Int} {e : Int} (H : Num h) (hx : host_Host_Size.f h n = some (q, e, h')) : Fr S h h' := by
  unfold host_Host_Size.f at hx
  rw [fails_ok H, Option.bind_some] at hx
  have F := fr_fails S h false
  revert hx
  generalize failsH h false = k at *
  cases failsE h false != 0
  · cases hg : decide (mget k.l n < 0)
    · simp only [cond_false]
      intro hx
      cases hl : lget k.files (mget k.l n) with
      | none => rw [hl] at hx; cases hx
      | some z => rw [hl, Option.bind_some] at hx; cases hx; exact F
    · intro hx; cases hx; exact F
  · intro hx; cases hx; exact F
theorem sync_fr {S : List UInt8 → Prop} {h h' : HS} {n : List UInt8} {e : Int} (H : Num h) (hx : host_Host_Sync.f h n = some (e, h')) : Fr S h h' := by
  unfold host_Host_Sync.f at hx
  rw [fails_ok H, Option.bind_some] at hx
  have F := fr_fails S h true
  revert hx
  generalize failsH h true = k at *
  cases failsE h true != 0
  · cases hg : decide (mget k.l n < 0)
    · simp only [cond_false]
      intro hx
      cases hl : lget k.files (mget k.l n) with
      | none => rw [hl] at hx; cases hx
      | some z =>
        rw [hl, Option.bind_some] at hx; cases hx
        exact ⟨F.lim, F.arm, F.flt, fun P hP H => ⟨(F.nm P hP H).1, (F.nm P hP H).1, fun c hc => nomatch hc⟩⟩
    · intro hx; cases hx; exact F
  · intro hx; cases hx; exact F
theorem rename_fr {S : List UInt8 → Prop} {h h' : HS} {n to : List UInt8} {e : Int} (H : Num h) (hn : S to) (hx : host_Host_Rename.f h n to = some (e, h')) : Fr S h h' := by
  unfold host_Host_Rename.f at hx
  rw [fails_ok H, Option.bind_some, right_ok, Option.bind_some] at hx
  have F := fr_fails S h true
  revert hx
  generalize failsH h true = k at *
  cases failsE h true != 0
  · cases rightB to
    · intro hx; cases hx; exact F
    · cases hg : decide (mget k.l n < 0)
      · simp only [cond_false, Bool.not_true]
        cases n == to
        · intro hx
          simp only [Bool.not_false, cond_true] at hx
          cases hd : host_Host_do.f k ⟨to, mget k.l n, n⟩ with
          | none => rw [hd] at hx; cases hx
          | some k2 => rw [hd] at hx; cases hx; exact fr_do F k.files hd hn
        · intro hx; cases hx; exact F
      · intro hx; cases hx; exact F
  · intro hx; cases hx; exact F
theorem remove_fr {S : List UInt8 → Prop} {h h' : HS} {n : List UInt8} {e : Int} (H : Num h) (hn : S n) (hx : host_Host_Remove.f h n = some (e, h')) : Fr S h h' := by
  unfold host_Host_Remove.f at hx
  rw [fails_ok H, Option.bind_some] at hx
  have F := fr_fails S h true
  revert hx
  generalize failsH h true = k at *
  cases failsE h true != 0
  · cases hg : decide (mget k.l n < 0)
    · simp only [cond_false]
      intro hx
      cases hd : host_Host_do.f k ⟨n, -1, []⟩ with
      | none => rw [hd] at hx; cases hx
      | some k2 => rw [hd] at hx; cases hx; exact fr_do F k.files hd hn
    · intro hx; cases hx; exact F
  · intro hx; cases hx; exact F
def NmL (n : List UInt8) : Prop := n.length = 0 ∨ n.length = 1 ∨ n.length = 34
section
variable {b : Nat} {h : HS} (I : Inv b h) (hb : b ≤ 90) (a : kotatsulaw01_Act) (A : ActOk a)
include I hb
theorem law_j1' {n to : List UInt8} {c : Int} {h' : HS} {p q : List Int} {e : Int} (hc : 0 ≤ c) (I' : Inv (b + 1) h') (hDo : kotatsuref01_Do_d0OO.f (refOf h) c n to p = some (e, refOf h'))
    (h0 : (e ≠ 0 ∨ (c ≠ 2 ∧ c ≠ 3)) → q = []) (h1 : e = 0 → c = 2 ∨ c = 3 → ∃ (i : Nat) (f : HFile), mget h'.l n = (i : Int) ∧ h'.files[i]? = some f ∧ q.length = f.p.length) :
    kotatsulaw01_do_d1OO.j1 n to c (h', (refOf h).f_Files, (refOf h).f_Steps, (refOf h).f_Limit, (refOf h).f_Arm, (refOf h).f_Fault, (refOf h).f_Reads, p, e, q) = some (h', refOf h', true) := by
  refine law_j1 hc hDo (I'.steps (by omega)) (I'.find (by omega) n) h0 fun he hc => ?_
  obtain ⟨i, f, h1, h2, h3⟩ := h1 he hc
  refine ⟨fileR f, ?_, h3⟩
  rw [h1, lget_nat]
  show (h'.files.map fileR)[i]? = _
  rw [List.getElem?_map, h2]; rfl
include A
theorem do_both' : ∃ h', kotatsulaw01_do_d1OO.f h (refOf h) a = some (h', refOf h', true) ∧ Inv (b + 1) h' ∧ (Int.tmod a.f_Do 12 < 8 → Fr NmL h h') := by
  obtain ⟨n, hn, hnl⟩ := name_ok A.n.1 A.n.2
  obtain ⟨to, ht, htl⟩ := name_ok A.t.1 A.t.2
  have hp : (a.f_P.take (40 : Int).toNat).length ≤ 40 := by rw [List.length_take]; exact Nat.min_le_left _ _
  unfold kotatsulaw01_do_d1OO.f
  rw [hn, Option.bind_some, ht, Option.bind_some, cut_ok _ _ A.p (by omega), Option.bind_some]
  show ∃ h', _ ∧ _
  generalize a.f_P.take (40 : Int).toNat = p at *
  have hd := A.d
  obtain ⟨k, hk, hk2⟩ : ∃ k : Nat, Int.tmod a.f_Do 12 = (k : Int) ∧ k < 12 := ⟨(Int.tmod a.f_Do 12).toNat, by rw [Int.tmod_eq_emod_of_nonneg hd.1]; omega, by rw [Int.tmod_eq_emod_of_nonneg hd.1]; omega⟩
  unfold kotatsulaw01_do_d1OO.j2
  rw [hk]
  have hk3 : k = 0 ∨ k = 1 ∨ k = 2 ∨ k = 3 ∨ k = 4 ∨ k = 5 ∨ k = 6 ∨ k = 7 ∨ k = 8 ∨ k = 9 ∨ k = 10 ∨ k = 11 := by omega
  rcases hk3 with rfl | rfl | rfl | rfl | rfl | rfl | rfl | rfl | rfl | rfl | rfl | rfl
  · obtain ⟨e, h', h1, h2, h3⟩ := create_both I (by omega) n to p
    refine ⟨h', ?_, h3, fun _ => create_fr I.num hnl h1⟩
    show (host_Host_Create.f h n).bind _ = _
    rw [h1, Option.bind_some]
    exact law_j1' I hb (by decide) h3 h2 (fun _ => rfl) (fun _ h => by omega)
  · obtain ⟨e, h', h1, h2, h3⟩ := append_both I (by omega) n to p hp
    refine ⟨h', ?_, h3, fun _ => append_fr I.num h1⟩
    show (host_Host_Append.f h n p).bind _ = _
    rw [h1, Option.bind_some]
    exact law_j1' I hb (by decide) h3 h2 (fun _ => rfl) (fun _ h => by omega)
  · obtain ⟨e, h', h1, h2, h3⟩ := append_both I (by omega) n to p hp
    refine ⟨h', ?_, h3, fun _ => append_fr I.num h1⟩
    show (host_Host_Append.f h n p).bind _ = _
    rw [h1, Option.bind_some]
    exact law_j1' I hb (by decide) h3 h2 (fun _ => rfl) (fun _ h => by omega)
  · obtain ⟨q, e, h', h1, h2, h3, h4, h5⟩ := read_both I (by omega) n to p
    refine ⟨h', ?_, h3, fun _ => read_fr I.num h1⟩
    show (host_Host_Read.f h n).bind _ = _
    rw [h1, Option.bind_some]
    refine law_j1' I hb (by decide) h3 h2 (fun hh => h4 (by rcases hh with hh | hh; exact hh; exact absurd rfl hh.1)) (fun he _ => ?_)
    obtain ⟨i, f, g1, g2, g3⟩ := h5 he
    exact ⟨i, f, g1, g2, by rw [g3]⟩
  · obtain ⟨q, e, h', h1, h2, h3, h4, h5⟩ := size_both I (by omega) n to p
    refine ⟨h', ?_, h3, fun _ => size_fr I.num h1⟩
    show (host_Host_Size.f h n).bind _ = _
    have hq : max 0 (min q 5000) = q ∧ 0 ≤ q := by
      by_cases he : e = 0
      · obtain ⟨i, f, g1, g2, g3⟩ := h5 he
        have := (h3.fp f (List.mem_of_getElem? g2)).1
        omega
      · rw [h4 he]; decide
    rw [h1, Option.bind_some, hq.1, ltF hq.2, cond_false, lim_ok, Option.bind_some]
    · refine law_j1' I hb (by decide) h3 h2 (fun hh => ?_) (fun he _ => ?_)
      · rcases hh with hh | hh
        · rw [h4 hh]; rfl
        · exact absurd rfl hh.2
      · obtain ⟨i, f, g1, g2, g3⟩ := h5 he
        exact ⟨i, f, g1, g2, by rw [List.length_replicate]; omega⟩
    · by_cases he : e = 0
      · obtain ⟨i, f, g1, g2, g3⟩ := h5 he
        have := (h3.fp f (List.mem_of_getElem? g2)).1
        omega
      · rw [h4 he]; decide
  · obtain ⟨e, h', h1, h2, h3⟩ := sync_both I (by omega) n to p
    refine ⟨h', ?_, h3, fun _ => sync_fr I.num h1⟩
    show (host_Host_Sync.f h n).bind _ = _
    rw [h1, Option.bind_some]
    exact law_j1' I hb (by decide) h3 h2 (fun _ => rfl) (fun _ h => by omega)
  · obtain ⟨e, h', h1, h2, h3⟩ := rename_both I (by omega) n to p
    refine ⟨h', ?_, h3, fun _ => rename_fr I.num htl h1⟩
    show (host_Host_Rename.f h n to).bind _ = _
    rw [h1, Option.bind_some]
    exact law_j1' I hb (by decide) h3 h2 (fun _ => rfl) (fun _ h => by omega)
  · obtain ⟨e, h', h1, h2, h3⟩ := remove_both I (by omega) n to p
    refine ⟨h', ?_, h3, fun _ => remove_fr I.num hnl h1⟩
    show (host_Host_Remove.f h n).bind _ = _
    rw [h1, Option.bind_some]
    exact law_j1' I hb (by decide) h3 h2 (fun _ => rfl) (fun _ h => by omega)
  · have hN := A.N
    exact ⟨_, rfl, I.grow _ rfl rfl rfl rfl ⟨by show -1 ≤ max a.f_N (-1); omega, by show max a.f_N (-1) ≤ _; omega, I.num.3, I.num.4, I.num.5, I.num.6⟩, fun hh => absurd hh (by decide)⟩
  · have hN := A.N
    exact ⟨_, rfl, I.grow _ rfl rfl rfl rfl ⟨I.num.1, I.num.2, by show -1 ≤ max a.f_N (-1); omega, by show max a.f_N (-1) ≤ _; omega, I.num.5, I.num.6⟩, fun hh => absurd hh (by decide)⟩
  · refine ⟨crH h a.f_N a.f_Tails, ?_, (crash_inv I (by omega) _ _).mono (by omega), fun hh => absurd hh (by decide)⟩
    show (host_Host_Crash.f h a.f_N a.f_Tails).bind _ = _
    rw [crash_ok I (by omega) _ _ A.T, Option.bind_some, rcrash_ok I (by omega) _ _ A.T, Option.bind_some]; rfl
  · have hN := A.N
    exact ⟨_, rfl, I.grow _ rfl rfl rfl rfl ⟨I.num.1, I.num.2, I.num.3, I.num.4, by show 0 ≤ max a.f_N 0; omega, by show max a.f_N 0 ≤ _; omega⟩, fun hh => absurd hh (by decide)⟩
theorem do_both : ∃ h', kotatsulaw01_do_d1OO.f h (refOf h) a = some (h', refOf h', true) ∧ Inv (b + 1) h' := by
  obtain ⟨h', h1, h2, -⟩ := do_both' I hb a A
  exact ⟨h', h1, h2⟩
end
end Go.Proofs.Ytgfjecngfmachaa
