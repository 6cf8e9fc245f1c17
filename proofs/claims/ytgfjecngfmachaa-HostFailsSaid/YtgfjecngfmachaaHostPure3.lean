/- The host's calls and the document's: they answer alike. -/
import Derived.Test.YtgfjecngfmachaaHostPure2
namespace Go.Proofs.Ytgfjecngfmachaa
open Kot Go
set_option maxRecDepth 100000
def OkN (n : Nat) (e : List UInt8 × Int) : Prop := 0 ≤ e.2 ∧ e.2 < n ∧ e.1 ≠ [] ∧ e.1.length ≤ 1048576
def OkW (n : Nat) (c : HChg) : Prop := c.f < n ∧ c.name ≠ [] ∧ c.name.length ≤ 1048576
structure Inv (b : Nat) (h : HS) : Prop where
  num : Num h
  hl : h.l = now h.safe h.wait
  fl : h.files.length ≤ b
  wl : h.safe.length + h.wait.length ≤ b
  srt : msorted h.safe
  oks : ∀ e ∈ h.safe, OkN h.files.length e
  okw : ∀ c ∈ h.wait, OkW h.files.length c
  fp : ∀ f ∈ h.files, f.p.length ≤ 40 * b ∧ 0 ≤ f.safe ∧ f.safe ≤ f.p.length
theorem Num.cp {h x : HS} (H : Num h) (h1 : x.arm = h.arm) (h2 : x.fault = h.fault) (h3 : x.limit = h.limit) : Num x := ⟨h1 ▸ H.1, h1 ▸ H.2, h2 ▸ H.3, h2 ▸ H.4, h3 ▸ H.5, h3 ▸ H.6⟩
theorem OkN.mono {n m : Nat} {e : List UInt8 × Int} (H : OkN n e) (h : n ≤ m) : OkN m e := ⟨H.1, by have := H.2.1; omega, H.2.2⟩
theorem OkW.mono {n m : Nat} {c : HChg} (H : OkW n c) (h : n ≤ m) : OkW m c := ⟨by have := H.1; omega, H.2⟩
theorem Inv.mono {b c : Nat} {h : HS} (H : Inv b h) (hb : b ≤ c) : Inv c h :=
  ⟨H.num, H.hl, by have := H.fl; omega, by have := H.wl; omega, H.srt, H.oks, H.okw, fun f hf => ⟨by have := (H.fp f hf).1; omega, (H.fp f hf).2⟩⟩
theorem app_sorted {m : HMap} (h : msorted m) (c : HChg) : msorted (app m c) := by
  unfold app
  cases c.frm == [] <;> cases decide (c.f < 0) <;> simp only [cond_true, cond_false]
  · exact mput_sorted (mdel_sorted h _) _ _
  · exact mdel_sorted (mdel_sorted h _) _
  · exact mput_sorted h _ _
  · exact mdel_sorted h _
theorem mdel_mem {m : HMap} {k : List UInt8} {e : List UInt8 × Int} (h : e ∈ mdel m k) : e ∈ m := (List.mem_filter.1 h).1
theorem mput_mem {m : HMap} {k : List UInt8} {x : Int} {e : List UInt8 × Int} (h : e ∈ mput m k x) : e = (k, x) ∨ e ∈ m := by
  rcases List.mem_cons.1 ((mput_perm m k x).mem_iff.1 h) with h | h
  · exact .inl h
  · exact .inr (mdel_mem h)
theorem app_mem {m : HMap} {c : HChg} {e : List UInt8 × Int} (h : e ∈ app m c) : e ∈ m ∨ (0 ≤ c.f ∧ e = (c.name, c.f)) := by
  unfold app at h
  by_cases hc : c.f < 0
  · rw [decide_eq_true hc] at h
    cases hf : c.frm == [] <;> simp only [hf, cond_true, cond_false] at h
    · exact .inl (mdel_mem (mdel_mem h))
    · exact .inl (mdel_mem h)
  · rw [decide_eq_false hc] at h
    cases hf : c.frm == [] <;> simp only [hf, cond_true, cond_false] at h
    · rcases mput_mem h with h | h
      · exact .inr ⟨by omega, h⟩
      · exact .inl (mdel_mem h)
    · rcases mput_mem h with h | h
      · exact .inr ⟨by omega, h⟩
      · exact .inl h
theorem mput_len (m : HMap) (k : List UInt8) (x : Int) : (mput m k x).length ≤ m.length + 1 := by
  have := (mput_perm m k x).length_eq
  have := mdel_len m k
  simp at *; omega
theorem app_len (m : HMap) (c : HChg) : (app m c).length ≤ m.length + 1 := by
  unfold app
  have a1 := mdel_len m c.frm
  have a2 := mdel_len (mdel m c.frm) c.name
  have a3 := mdel_len m c.name
  have a4 := mput_len m c.name c.f
  have a5 := mput_len (mdel m c.frm) c.name c.f
  cases c.frm == [] <;> cases decide (c.f < 0) <;> simp only [cond_true, cond_false] <;> omega
theorem now_ok (n : Nat) : ∀ (w : List HChg) (s : HMap), msorted s → (∀ e ∈ s, OkN n e) → (∀ c ∈ w, OkW n c) → msorted (now s w) ∧ (∀ e ∈ now s w, OkN n e) ∧ (now s w).length ≤ s.length + w.length
  | [], s, h1, h2, _ => ⟨h1, h2, by simp [now]⟩
  | c :: w, s, h1, h2, h3 => by
    have hc := h3 c (by simp)
    obtain ⟨k1, k2, k3⟩ := now_ok n w (app s c) (app_sorted h1 c) (fun e he => by
      rcases app_mem he with h | ⟨h, rfl⟩
      · exact h2 e h
      · exact ⟨h, hc.1, hc.2⟩) (fun d hd => h3 d (by simp [hd]))
    have := app_len s c
    exact ⟨k1, k2, by simp only [List.length_cons]; have : now s (c :: w) = now (app s c) w := rfl; rw [this]; omega⟩
section
variable {b : Nat} {h : HS} (I : Inv b h)
include I
theorem Inv.atK (k : Nat) : msorted (now h.safe (h.wait.take k)) ∧ (∀ e ∈ now h.safe (h.wait.take k), OkN h.files.length e) ∧ (now h.safe (h.wait.take k)).length ≤ b := by
  obtain ⟨h1, h2, h3⟩ := now_ok h.files.length (h.wait.take k) h.safe I.srt I.oks (fun c hc => I.okw c (List.mem_of_mem_take hc))
  have := I.wl
  have : (h.wait.take k).length ≤ h.wait.length := by simp; omega
  exact ⟨h1, h2, by omega⟩
theorem Inv.lok : msorted h.l ∧ (∀ e ∈ h.l, OkN h.files.length e) ∧ h.l.length ≤ b := by
  have := I.atK h.wait.length
  rwa [List.take_length, ← I.hl] at this
theorem Inv.get (n : List UInt8) : (mget h.l n = -1) ∨ (0 ≤ mget h.l n ∧ mget h.l n < h.files.length ∧ (n, mget h.l n) ∈ h.l ∧ n ≠ [] ∧ n.length ≤ 1048576) := by
  rcases mget_in (m := h.l) (k := n) with h1 | h1
  · exact .inl h1
  · have := I.lok.2.1 _ h1
    exact .inr ⟨this.1, this.2.1, h1, this.2.2⟩
theorem Inv.fails (w : Bool) : Inv b (failsH h w) := ⟨failsH_num I.num w, I.hl, I.fl, I.wl, I.srt, I.oks, I.okw, I.fp⟩
variable (hb : b ≤ 100)
include hb
theorem Inv.steps : kotatsuref01_Now_d0OO.f (refOf h) = some (h.l.map nameR) := by
  have hw := I.wl
  unfold kotatsuref01_Now_d0OO.f refOf
  simp only [steps_len]
  rw [wrapI (by omega) (by omega), show ((h.wait.length + 1 : Nat) : Int) - 1 = ((h.wait.length : Nat) : Int) by omega, lget_nat, steps_get _ _ _ (Nat.le_refl _), List.take_length, ← I.hl]; rfl
theorem Inv.find (n : List UInt8) : kotatsuref01_Find.f (h.l.map nameR) n = some (mget h.l n) := find_ok _ _ (by have := I.lok.2.2; omega)
omit I hb in
theorem used_loop (l : HMap) (hl : l.length ≤ 1000) (hok : ∀ e ∈ l, OkN h.files.length e) : ∀ (d i f : Nat) (n : Int), i + d = l.length → d < f → kotatsuref01_Used_d0OO.l1 (refOf h) (l.map nameR) f (n, (i : Int)) = some ((l.drop i).foldl (usedS h.files) n)
  | 0, i, f + 1, n, hk, _ => by
    simp only [kotatsuref01_Used_d0OO.l1, List.length_map]
    rw [ltF (by omega), cond_false, List.drop_eq_nil_of_le (by omega)]; rfl
  | d + 1, i, f + 1, n, hk, hf => by
    simp only [kotatsuref01_Used_d0OO.l1, List.length_map]
    have he := hok l[i] (List.getElem_mem _)
    have hlt : l[i].2.toNat < h.files.length := by have := he.2.1; have := he.1; omega
    rw [ltT (by omega), cond_true, getR nameR l i (by omega), Option.bind_some, wrap1 (by omega)]
    show (lget (h.files.map fileR) l[i].2).bind _ = _
    rw [show l[i].2 = ((l[i].2.toNat : Nat) : Int) by have := he.1; omega, getR fileR _ _ hlt, Option.bind_some, used_loop l hl hok d (i + 1) f _ (by omega) (by omega), List.drop_eq_getElem_cons (l := l) (i := i) (by omega), List.foldl_cons]
    congr 2
    unfold usedS fget
    rw [List.getElem?_eq_getElem hlt]; rfl
theorem Inv.used : kotatsuref01_Used_d0OO.f (refOf h) = some (h.l.foldl (usedS h.files) 0) := by
  unfold kotatsuref01_Used_d0OO.f
  rw [I.steps hb, Option.bind_some]
  have := used_loop h.l (by have := I.lok.2.2; omega) I.lok.2.1 h.l.length 0 (((h.l.length : Int) - 0 : Int).toNat + 2) 0 (by omega) (by omega)
  simpa using this
omit I hb
def rightB (n : List UInt8) : Bool := decide (0 < n.length ∧ n.length ≤ 32)
theorem right_ok (n : List UInt8) : host_right.f n = some (rightB n) := by
  unfold host_right.f rightB
  by_cases h1 : 0 < n.length
  · rw [decide_eq_true (show (1 : Int) ≤ n.length by omega), cond_true]
    congr 1
    rw [decide_eq_decide]; omega
  · rw [decide_eq_false (show ¬(1 : Int) ≤ n.length by omega), cond_false, decide_eq_false (by omega)]
theorem good_ok (n : List UInt8) : kotatsuref01_good.f n = some (rightB n) := by
  unfold kotatsuref01_good.f rightB
  by_cases h1 : 0 < n.length
  · rw [decide_eq_true (show (0 : Int) < n.length by omega), cond_true]
    congr 1
    rw [decide_eq_decide]; omega
  · rw [decide_eq_false (show ¬(0 : Int) < n.length by omega), cond_false, decide_eq_false (by omega)]
theorem rightB_ne {n : List UInt8} (h : rightB n = true) : n ≠ [] ∧ n.length ≤ 1048576 := by
  have := of_decide_eq_true h
  exact ⟨fun h => by subst h; simp at this, by omega⟩
def tup (x : kotatsuref01_Host) : List kotatsuref01_File × List (List kotatsuref01_Name) × Int × Int × Int × Int := (x.f_Files, x.f_Steps, x.f_Limit, x.f_Arm, x.f_Fault, x.f_Reads)
theorem do_pre (I : Inv b h) (c : Int) (n to : List UInt8) (p : List Int) : kotatsuref01_Do_d0OO.f (refOf h) c n to p = bif failsE h (c != 2 && c != 3) != 0 then some (failsE h (c != 2 && c != 3), refOf (failsH h (c != 2 && c != 3))) else kotatsuref01_Do_d0OO.j1 c n to p (tup (refOf (failsH h (c != 2 && c != 3)))) := by
  unfold kotatsuref01_Do_d0OO.f
  cases hc : c != 2 <;> simp only [rfails_ok I.num] <;> rfl
theorem do_j1 (I : Inv b h) (hb : b ≤ 100) (c : Int) (n to : List UInt8) (p : List Int) : kotatsuref01_Do_d0OO.j1 c n to p (tup (refOf h)) =
    bif c == 0 then (bif !rightB n then some (1, refOf h) else bif decide (0 ≤ mget h.l n) then some (10, refOf h) else some (0, refOf { h with files := h.files ++ [⟨[], 0⟩], l := app h.l ⟨n, h.files.length, []⟩, wait := h.wait ++ [⟨n, h.files.length, []⟩] }))
    else bif c == 5 then (bif !rightB to then some (1, refOf h) else kotatsuref01_Do_d0OO.j2 c n to p (tup (refOf h)) (h.l.map nameR) (mget h.l n) ()) else kotatsuref01_Do_d0OO.j2 c n to p (tup (refOf h)) (h.l.map nameR) (mget h.l n) () := by
  unfold kotatsuref01_Do_d0OO.j1
  show (kotatsuref01_Now_d0OO.f (refOf h)).bind _ = _
  rw [I.steps hb, Option.bind_some, I.find hb, Option.bind_some, good_ok, good_ok, Option.bind_some, Option.bind_some]
  cases c == 0
  · rfl
  · simp only [cond_true]
    cases rightB n
    · rfl
    · simp only [Bool.not_true, cond_false]
      cases hg : decide (0 ≤ mget h.l n)
      · simp only [cond_false]
        have hf := I.fl
        have hw := I.wl
        have hl := I.lok.2.2
        rw [lim_ok (by simp [tup, refOf]; omega), Option.bind_some, show (((tup (refOf h)).1 ++ [(⟨[], 0⟩ : kotatsuref01_File)]).length : Int) - 1 = (h.files.length : Int) by simp [tup, refOf], wrapI (by omega) (by omega), with_ok _ _ _ (by omega), Option.bind_some, lim_ok (by simp [tup, refOf, steps_len]; omega), Option.bind_some]
        have e : app h.l ⟨n, (h.files.length : Int), []⟩ = mput h.l n h.files.length := by
          unfold app; rw [show (([] : List UInt8) == []) = true from rfl, cond_true, decide_eq_false (by simp), cond_false]
        simp only [refOf, tup, steps_add, List.map_append, ← I.hl, e]
        rfl
      · rfl
end
end Go.Proofs.Ytgfjecngfmachaa
