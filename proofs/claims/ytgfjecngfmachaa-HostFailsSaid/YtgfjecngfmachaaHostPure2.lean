/- The document's host, told by the program's: names, files, steps. -/
import Derived.Test.YtgfjecngfmachaaHostPure
namespace Go.Proofs.Ytgfjecngfmachaa
open Kot Go
set_option maxRecDepth 100000
def nameR (e : List UInt8 × Int) : kotatsuref01_Name := ⟨e.1, e.2⟩
def fileR (f : HFile) : kotatsuref01_File := ⟨f.p, f.safe⟩
def app (m : HMap) (c : HChg) : HMap :=
  let m := bif c.frm == [] then m else mdel m c.frm
  bif decide (c.f < 0) then mdel m c.name else mput m c.name c.f
theorem apply_ok (c : HChg) (m : HMap) : host_change_apply.f c m = some (app m c) := by
  unfold host_change_apply.f app
  cases c.frm == [] <;> cases h : decide (c.f < 0) <;> simp [h]
def now (s : HMap) (w : List HChg) : HMap := w.foldl app s
def steps : HMap → List HChg → List (List kotatsuref01_Name)
  | s, [] => [s.map nameR]
  | s, c :: w => s.map nameR :: steps (app s c) w
theorem steps_len : ∀ (s : HMap) (w : List HChg), (steps s w).length = w.length + 1
  | _, [] => rfl
  | s, c :: w => by simp [steps, steps_len]
theorem steps_get : ∀ (s : HMap) (w : List HChg) (k : Nat), k ≤ w.length → (steps s w)[k]? = some ((now s (w.take k)).map nameR)
  | s, [], k, h => by obtain rfl : k = 0 := by simpa using h
                      rfl
  | s, c :: w, 0, h => rfl
  | s, c :: w, k + 1, h => by
    rw [steps, List.getElem?_cons_succ, steps_get (app s c) w k (by simpa using h)]; rfl
theorem steps_add : ∀ (s : HMap) (w : List HChg) (c : HChg), steps s (w ++ [c]) = steps s w ++ [(app (now s w) c).map nameR]
  | s, [], c => rfl
  | s, d :: w, c => by rw [List.cons_append, steps, steps_add, steps, List.cons_append]; rfl
def refOf (h : HS) : kotatsuref01_Host := ⟨h.files.map fileR, steps h.safe h.wait, h.limit, h.arm, h.fault, h.reads⟩
theorem rfails_ok {h : HS} (H : Num h) (w : Bool) : kotatsuref01_fails_d0OO.f (refOf h) w = some (failsE h w, refOf (failsH h w)) := by
  obtain ⟨a1, a2, f1, f2, l1, l2⟩ := H
  obtain ⟨fs, l, s, wt, lm, ar, fl, rd⟩ := h
  simp only at a1 a2 f1 f2
  unfold kotatsuref01_fails_d0OO.f kotatsuref01_fails_d0OO.j1 kotatsuref01_fails_d0OO.j2 failsE failsH refOf
  simp only [wrapI (i := fl - 1) (by omega) (by omega)]
  have k : max (fl - 1) (-1) = bif decide (0 < fl) then fl - 1 else -1 := by
    by_cases h : 0 < fl <;> simp [h] <;> omega
  rw [k]
  rcases Int.lt_or_le 0 ar with h1 | h1
  · rw [decide_eq_true h1, show (ar == 0) = false by simp; omega, wrapI (by omega) (by omega)]
    cases w <;> cases fl == 0 <;> rfl
  · rw [decide_eq_false (by omega)]
    cases w <;> cases fl == 0 <;> cases ar == 0 <;> rfl
theorem getR {τ ρ : Type} (f : τ → ρ) (l : List τ) (i : Nat) (h : i < l.length) : lget (l.map f) (i : Int) = some (f l[i]) := by rw [lget_nat, List.getElem?_map, List.getElem?_eq_getElem h]; rfl
theorem find_loop (m : HMap) (k : List UInt8) (hp : m.length ≤ 1000000) : ∀ (d i f : Nat), i + d = m.length → d < f → kotatsuref01_Find.l1 (m.map nameR) k f (i : Int) = some (mget (m.drop i) k)
  | 0, i, f + 1, hk, _ => by
    simp only [kotatsuref01_Find.l1, List.length_map]
    rw [ltF (by omega), cond_false, List.drop_eq_nil_of_le (by omega)]; rfl
  | d + 1, i, f + 1, hk, hf => by
    simp only [kotatsuref01_Find.l1, List.length_map]
    rw [ltT (by omega), cond_true, getR nameR m i (by omega), Option.bind_some, wrap1 (by omega), find_loop m k hp d (i + 1) f (by omega) (by omega), List.drop_eq_getElem_cons (l := m) (i := i) (by omega)]
    unfold mget
    rw [List.find?_cons]
    show (bif m[i].1 == k then _ else _) = _
    cases h : m[i].1 == k <;> rfl
theorem find_ok (m : HMap) (k : List UInt8) (hp : m.length ≤ 1000000) : kotatsuref01_Find.f (m.map nameR) k = some (mget m k) := by
  have := find_loop m k hp m.length 0 (((m.length : Int) - 0 : Int).toNat + 2) (by omega) (by omega)
  simpa [kotatsuref01_Find.f] using this
theorem without_loop (m : HMap) (k : List UInt8) (hp : m.length ≤ 1000000) : ∀ (d i f : Nat) (acc : HMap), i + d = m.length → d < f → acc.length ≤ i → kotatsuref01_Without.l1 (m.map nameR) k f (acc.map nameR, (i : Int)) = some ((acc ++ mdel (m.drop i) k).map nameR)
  | 0, i, f + 1, acc, hk, _, _ => by
    simp only [kotatsuref01_Without.l1, List.length_map]
    rw [ltF (by omega), cond_false, List.drop_eq_nil_of_le (by omega)]; simp [mdel]
  | d + 1, i, f + 1, acc, hk, hf, ha => by
    simp only [kotatsuref01_Without.l1, List.length_map]
    rw [ltT (by omega), cond_true, getR nameR m i (by omega), Option.bind_some, wrap1 (by omega), List.drop_eq_getElem_cons (l := m) (i := i) (by omega), without_loop m k hp d (i + 1) f acc (by omega) (by omega) (by omega)]
    have e := without_loop m k hp d (i + 1) f (acc ++ [m[i]]) (by omega) (by omega) (by simpa using ha)
    rw [List.map_append] at e
    unfold mdel
    rw [List.filter_cons]
    show (bif !(m[i].1 == k) then _ else _) = _
    cases h : m[i].1 == k
    · rw [Bool.not_false, cond_true, lim_ok (by simp; omega), Option.bind_some, if_pos rfl]
      refine e.trans ?_
      rw [List.append_assoc]; rfl
    · rfl
theorem without_ok (m : HMap) (k : List UInt8) (hp : m.length ≤ 1000000) : kotatsuref01_Without.f (m.map nameR) k = some ((mdel m k).map nameR) := by
  have := without_loop m k hp m.length 0 (((m.length : Int) - 0 : Int).toNat + 2) [] (by omega) (by omega) (by simp)
  simpa [kotatsuref01_Without.f] using this
theorem with_loop1 (m : HMap) (k : List UInt8) (x : Int) (hp : m.length ≤ 1000000) : ∀ (d i f : Nat) (acc : List kotatsuref01_Name), i + d = m.length → d < f → acc.length ≤ 2 * i → kotatsuref01_With.l1 k x (m.map nameR) f (acc, true, (i : Int)) = some (acc ++ (m.drop i).map nameR)
  | 0, i, f + 1, acc, hk, _, _ => by
    simp only [kotatsuref01_With.l1, List.length_map]
    rw [ltF (by omega), cond_false, List.drop_eq_nil_of_le (by omega)]; simp
  | d + 1, i, f + 1, acc, hk, hf, ha => by
    simp only [kotatsuref01_With.l1, List.length_map]
    rw [ltT (by omega), cond_true, getR nameR m i (by omega), Option.bind_some, wrap1 (by omega), List.drop_eq_getElem_cons (l := m) (i := i) (by omega), Bool.not_true, cond_false, lim_ok (by simp; omega), Option.bind_some,
      with_loop1 m k x hp d (i + 1) f (acc ++ [nameR m[i]]) (by omega) (by omega) (by simp; omega), List.append_assoc]; rfl
theorem with_loop (m : HMap) (k : List UInt8) (x : Int) (hp : m.length ≤ 1000000) : ∀ (d i f : Nat) (acc : List kotatsuref01_Name), i + d = m.length → d < f → acc.length ≤ i → kotatsuref01_With.l1 k x (m.map nameR) f (acc, false, (i : Int)) = some (acc ++ (mins (m.drop i) k x).map nameR)
  | 0, i, f + 1, acc, hk, _, _ => by
    simp only [kotatsuref01_With.l1, List.length_map]
    rw [ltF (by omega), cond_false, List.drop_eq_nil_of_le (by omega), Bool.not_false, cond_true, lim_ok (by simp; omega)]; rfl
  | d + 1, i, f + 1, acc, hk, hf, ha => by
    simp only [kotatsuref01_With.l1, List.length_map]
    rw [ltT (by omega), cond_true, getR nameR m i (by omega), Option.bind_some, wrap1 (by omega), List.drop_eq_getElem_cons (l := m) (i := i) (by omega), Bool.not_false, cond_true]
    show (bif Op.bytesLess k m[i].1 then _ else _) = _
    rw [mins]
    cases h : Op.bytesLess k m[i].1
    · rw [cond_false, cond_false, lim_ok (by simp; omega), Option.bind_some, with_loop m k x hp d (i + 1) f (acc ++ [nameR m[i]]) (by omega) (by omega) (by simpa using ha), List.append_assoc]; rfl
    · rw [cond_true, cond_true, lim_ok (by simp; omega), Option.bind_some, lim_ok (by simp; omega), Option.bind_some,
        with_loop1 m k x hp d (i + 1) f (acc ++ [(⟨k, x⟩ : kotatsuref01_Name)] ++ [nameR m[i]]) (by omega) (by omega) (by simp; omega), List.append_assoc, List.append_assoc]; rfl
theorem mdel_len (m : HMap) (k : List UInt8) : (mdel m k).length ≤ m.length := List.length_filter_le _ _
theorem with_ok (m : HMap) (k : List UInt8) (x : Int) (hp : m.length ≤ 1000000) : kotatsuref01_With.f (m.map nameR) k x = some ((mput m k x).map nameR) := by
  unfold kotatsuref01_With.f mput
  rw [without_ok m k hp, Option.bind_some]
  have := with_loop (mdel m k) k x (by have := mdel_len m k; omega) (mdel m k).length 0 ((((mdel m k).length : Int) - 0 : Int).toNat + 2) [] (by omega) (by omega) (by simp)
  simpa using this
end Go.Proofs.Ytgfjecngfmachaa
