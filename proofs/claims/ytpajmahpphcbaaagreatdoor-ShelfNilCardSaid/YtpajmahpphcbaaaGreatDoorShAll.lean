import Derived.Test.YtpajmahpphcbaaaGreatDoorF
import Derived.KernelRfl
/- ShBytes, ShSides, ShLog, ShRead, ShBase, ShHost, ShOps, ShTurn, ShSync, ShRun, ShSyn, ShOpen, ShRef, ShBegin, ShActs -/
/- Bytes of the shelf's files, in plain words: numbers in four bytes, rows that are joined, frames. -/
namespace Go.Proofs.YtpajmahpphcbaaaGreatDoor
open Kot Go
set_option maxRecDepth 100000
theorem wrapI {i : Int} (h1 : -9223372036854775808 ≤ i) (h2 : i ≤ 9223372036854775807) : IntKind.wrap .i64 i = i := by
  rw [IntKind.wrap_i64]; omega
theorem wrap1 {i : Nat} (h : i < 9223372036854775807) : IntKind.wrap .i64 ((i : Int) + 1) = ((i + 1 : Nat) : Int) := by rw [wrapI (by omega) (by omega)]; rfl
theorem wrapU {i : Int} (h1 : 0 ≤ i) (h2 : i < 4294967296) : IntKind.wrap .u32 i = i := by
  rw [IntKind.wrap_u32]; omega
theorem lget_nat {τ : Type} (xs : List τ) (i : Nat) : lget xs (i : Int) = xs[i]? := by simp [lget]
theorem lget_lt {τ : Type} {xs : List τ} {i : Nat} (h : i < xs.length) : lget xs (i : Int) = some xs[i] := by rw [lget_nat, List.getElem?_eq_getElem h]
theorem lim_ok {n : Nat} (h : n ≤ 1073741824) : lim n = some () := by simp [lim, h]
theorem ltT {a b : Int} (h : a < b) : decide (a < b) = true := decide_eq_true h
theorem ltF {a b : Int} (h : b ≤ a) : decide (a < b) = false := decide_eq_false (by omega)
theorem lsub_nat {τ : Type} {xs : List τ} {i j : Nat} (h : i ≤ j) (h2 : j ≤ xs.length) : lsub xs (i : Int) (j : Int) = some ((xs.take j).drop i) := by
  unfold lsub
  rw [if_pos (by omega)]
  simp
/-! ### numbers -/
def lay4 (n : Nat) : List Int := [((n % 256 : Nat) : Int), ((n / 256 % 256 : Nat) : Int), ((n / 65536 % 256 : Nat) : Int), ((n / 16777216 % 256 : Nat) : Int)]
theorem lay4_len (n : Nat) : (lay4 n).length = 4 := rfl
theorem wrapU8 (n : Nat) : IntKind.wrap .u8 (n : Int) = ((n % 256 : Nat) : Int) := by rw [IntKind.wrap_u8]; omega
theorem shrN (n k p : Nat) (hk : k ≤ 32) (hp : 2 ^ k = p) : shr .u32 (n : Int) (k : Int) = ((n / p : Nat) : Int) := by
  have e : (min ((k : Int).toNat) (IntKind.bits .u32)) = k := by
    have : IntKind.bits .u32 = 32 := rfl
    rw [this]; simp; omega
  subst hp
  unfold shr
  rw [e, show ((2 : Int) ^ k) = ((2 ^ k : Nat) : Int) by simp, Int.fdiv_eq_ediv_of_nonneg _ (Int.natCast_nonneg _)]; rfl
theorem lay_eq (n : Nat) : ([IntKind.wrap .u8 (n : Int), IntKind.wrap .u8 (shr .u32 (n : Int) 8), IntKind.wrap .u8 (shr .u32 (n : Int) 16), IntKind.wrap .u8 (shr .u32 (n : Int) 24)] : List Int) = lay4 n := by
  show [_, IntKind.wrap .u8 (shr .u32 (n : Int) ((8 : Nat) : Int)), IntKind.wrap .u8 (shr .u32 (n : Int) ((16 : Nat) : Int)), IntKind.wrap .u8 (shr .u32 (n : Int) ((24 : Nat) : Int))] = _
  rw [shrN n 8 256 (by decide) rfl, shrN n 16 65536 (by decide) rfl, shrN n 24 16777216 (by decide) rfl, wrapU8, wrapU8, wrapU8, wrapU8]; rfl
theorem seal_lay_ok (n : Nat) : seal_lay.f (n : Int) = some (lay4 n) := by unfold seal_lay.f; rw [lay_eq]
theorem shelf_lay_ok (n : Nat) : shelf_lay.f (n : Int) = some (lay4 n) := by unfold shelf_lay.f; rw [lay_eq]
/-! ### sums -/
theorem long_l4 (s : Int × Int) (k : (Int × Int) → Option Int) : ∀ (d i f : Nat) (x : Int), i + d = 8 → d < f → ∃ y, seal_Long.l4 s k f (x, (i : Int)) = k (y, IntKind.wrap .i64 (s.2 + 1))
  | 0, i, f + 1, x, hk, _ => by
    refine ⟨x, ?_⟩
    simp only [seal_Long.l4]
    rw [ltF (by omega), cond_false]
  | d + 1, i, f + 1, x, hk, hf => by
    simp only [seal_Long.l4, bnd]
    rw [ltT (by omega), cond_true, wrap1 (by omega)]
    exact long_l4 s k d (i + 1) f _ (by omega) (by omega)
theorem long_l1 (p : List Int) (hp : p.length ≤ 1073741824) : ∀ (d i f : Nat) (x : Int), i + d = p.length → d < f → ∃ y : Nat, y < 4294967296 ∧ seal_Long.l1 p f (x, (i : Int)) = some (y : Int)
  | 0, i, f + 1, x, hk, _ => by
    simp only [seal_Long.l1]
    rw [ltF (by omega), cond_false]
    obtain ⟨h1, h2⟩ : 0 ≤ bnot .u32 x ∧ bnot .u32 x < 4294967296 := by
      unfold bnot bxor; rw [IntKind.wrap_u32]; omega
    exact ⟨(bnot .u32 x).toNat, by omega, by rw [Int.toNat_of_nonneg h1]⟩
  | d + 1, i, f + 1, x, hk, hf => by
    simp only [seal_Long.l1, bnd]
    rw [ltT (by omega), cond_true, lget_lt (by omega), Option.bind_some]
    obtain ⟨y, hy⟩ := long_l4 (x, (i : Int)) (seal_Long.l1 p f) 8 0 ((8 - 0 : Int).toNat + 2) (bxor .u32 x (IntKind.wrap .u32 p[i])) (by omega) (by decide)
    simp only [Int.natCast_zero] at hy
    rw [hy, wrap1 (by omega)]
    exact long_l1 p hp d (i + 1) f y (by omega) (by omega)
def crc (p : List Int) : Nat := ((seal_Long.f p).getD 0).toNat
theorem long_ok (p : List Int) (hp : p.length ≤ 1073741824) : seal_Long.f p = some (crc p : Int) ∧ crc p < 4294967296 := by
  obtain ⟨y, h1, h2⟩ := long_l1 p hp p.length 0 (((p.length : Int) - 0 : Int).toNat + 2) 4294967295 (by omega) (by omega)
  have : seal_Long.f p = some (y : Int) := h2
  have e : crc p = y := by unfold crc; rw [this]; simp
  rw [e]; exact ⟨this, h1⟩
/-! ### rows that are joined -/
def lens (l : List (List Int)) : Nat := (l.map List.length).sum
theorem flat_len (l : List (List Int)) : l.flatten.length = lens l := by rw [List.length_flatten]; rfl
theorem lens_take (l : List (List Int)) (i : Nat) (h : i < l.length) : lens (l.take (i + 1)) = lens (l.take i) + l[i].length := by
  unfold lens
  rw [List.take_add_one, List.getElem?_eq_getElem h, Option.toList_some, List.map_append, List.sum_append, List.map_singleton, List.sum_singleton]
theorem lens_take_le (l : List (List Int)) (i : Nat) : lens (l.take i) ≤ lens l := by
  have : lens l = lens (l.take i) + lens (l.drop i) := by
    unfold lens
    rw [← List.sum_append, ← List.map_append, List.take_append_drop]
  omega
theorem join_l5 (s : Int × Int) (N : Nat) (z : List (List Int)) (a : List Int) (hz : z.length ≤ 1000000) (hN : N ≤ 1073741824) (hs : s.1 = (N : Int)) (htot : a.length + lens z = N) : ∀ (d i f : Nat), i + d = z.length → d < f →
    bytes_Join.l5 [] s z f (a ++ (z.take i).flatten, ((a ++ (z.take i).flatten).length : Int), (i : Int)) = some (a ++ z.flatten)
  | 0, i, f + 1, hk, _ => by
    simp only [bytes_Join.l5]
    rw [ltF (by omega), cond_false, List.take_of_length_le (by omega), hs]
    have e : (a ++ z.flatten).length = N := by rw [List.length_append, flat_len]; omega
    rw [e, show ((N : Int)).toNat = N by omega]
    simp
  | d + 1, i, f + 1, hk, hf => by
    simp only [bytes_Join.l5, bnd]
    have hi : i < z.length := by omega
    have e1 : (a ++ (z.take i).flatten).length = a.length + lens (z.take i) := by rw [List.length_append, flat_len]
    have e2 := lens_take z i hi
    have e3 := lens_take_le z (i + 1)
    have e4 : (a ++ (z.take (i + 1)).flatten) = (a ++ (z.take i).flatten) ++ z[i] := by
      rw [List.take_add_one, List.getElem?_eq_getElem hi, Option.toList_some, List.flatten_append, List.flatten_singleton, List.append_assoc]
    rw [ltT (by omega), cond_true, lget_lt hi, Option.bind_some]
    have hnil : (a ++ (z.take i).flatten) ++ ([] : List Int) = a ++ (z.take i).flatten := List.append_nil _
    rw [hnil]
    have hNN : s.1.toNat = N := by rw [hs]; omega
    rw [hNN]
    have g1 : (!decide (((a ++ (z.take i).flatten).length : Int) = ((a ++ (z.take i).flatten).length : Int))) = false := by simp
    have g2 : (!decide ((a ++ (z.take i).flatten).length + ([] : List Int).length ≤ N)) = false := by rw [decide_eq_true (by simp only [List.length_nil]; omega)]; rfl
    have g0 : (!decide True) = false := by simp
    rw [g0, cond_false, g2, cond_false]
    have g3 : IntKind.wrap .i64 (((a ++ (z.take i).flatten).length : Int) + (([] : List Int).length : Int)) = ((a ++ (z.take i).flatten).length : Int) := by rw [List.length_nil, wrapI (by omega) (by omega)]; simp
    have g4 : (!decide ((a ++ (z.take i).flatten).length + z[i].length ≤ N)) = false := by rw [decide_eq_true (by omega)]; rfl
    rw [g3, g1, cond_false, g4, cond_false]
    have g5 : IntKind.wrap .i64 (((a ++ (z.take i).flatten).length : Int) + (z[i].length : Int)) = ((a ++ (z.take (i + 1)).flatten).length : Int) := by
      have e5 : ((a ++ (z.take i).flatten) ++ z[i]).length = (a ++ (z.take i).flatten).length + z[i].length := List.length_append
      rw [e4, wrapI (by omega) (by omega), e5]; omega
    rw [g5, wrap1 (by omega), ← e4]
    exact join_l5 s N z a hz hN hs htot d (i + 1) f (by omega) (by omega)
theorem join_l2 (l : List (List Int)) (h2 : 2 ≤ l.length) (hl : l.length ≤ 1000000) (hN : lens l ≤ 1073741824) : ∀ (d i f : Nat), i + d = l.length → d < f → bytes_Join.l2 l [] f ((lens (l.take i) : Int), (i : Int)) = some l.flatten
  | 0, i, f + 1, hk, _ => by
    simp only [bytes_Join.l2]
    have hs : (lens (l.take i)) = lens l := by rw [List.take_of_length_le (by omega)]
    rw [ltF (by omega), cond_false, hs, decide_eq_false (by omega), cond_false, show ((lens l : Nat) : Int).toNat = lens l by omega, lim_ok hN, Option.bind_some, cond_false]
    match l, h2 with
    | a :: b :: r, _ =>
      have hla : lens (a :: b :: r) = a.length + lens (b :: r) := rfl
      rw [show lget (a :: b :: r) 0 = some a from rfl, Option.bind_some]
      have g1 : (!decide (([] : List Int).length + a.length ≤ lens (a :: b :: r))) = false := by rw [decide_eq_true (by simp; omega)]; rfl
      rw [g1, cond_false]
      have g2 : lsub (a :: b :: r) 1 ((a :: b :: r).length : Int) = some (b :: r) := by
        have := lsub_nat (xs := a :: b :: r) (i := 1) (j := (a :: b :: r).length) (by simp) (Nat.le_refl _)
        rw [List.take_length] at this; exact this
      rw [g2, Option.bind_some]
      have := join_l5 ((lens (a :: b :: r) : Int), (i : Int)) (lens (a :: b :: r)) (b :: r) a (by simp at hl ⊢; omega) hN rfl (by omega) (b :: r).length 0 ((((b :: r).length : Int) - 0 : Int).toNat + 2) (by omega) (by omega)
      simp only [List.take_zero, List.flatten_nil, List.append_nil, Int.natCast_zero] at this
      rw [List.nil_append]
      exact this
  | d + 1, i, f + 1, hk, hf => by
    have hi : i < l.length := by omega
    have e1 := lens_take l i hi
    have e2 := lens_take_le l (i + 1)
    simp only [bytes_Join.l2, bnd]
    rw [ltT (by omega), cond_true, lget_lt hi, Option.bind_some, wrapI (by omega) (by omega), decide_eq_false (by omega), cond_false, wrap1 (by omega), wrapI (by omega) (by omega)]
    rw [show ((lens (l.take i) : Nat) : Int) + (l[i].length : Int) = ((lens (l.take (i + 1)) : Nat) : Int) by omega]
    exact join_l2 l h2 hl hN d (i + 1) f (by omega) (by omega)
theorem join_ok (l : List (List Int)) (h2 : 2 ≤ l.length) (hl : l.length ≤ 1000000) (hN : lens l ≤ 1073741824) : bytes_Join.f l [] = some l.flatten := by
  unfold bytes_Join.f bytes_Join.j1
  have g1 : ((l.length : Int) == 0) = false := beq_false_of_ne (by omega)
  have g2 : ((l.length : Int) == 1) = false := beq_false_of_ne (by omega)
  rw [g1, cond_false, g2, cond_false]
  simp only [List.length_nil]
  rw [ltF (by omega), cond_false]
  exact join_l2 l h2 hl hN l.length 0 _ (by omega) (by omega)
/-! ### frames -/
def frame (p : List Int) : List Int := lay4 p.length ++ (lay4 (crc (lay4 p.length ++ p)) ++ p)
theorem frame_len (p : List Int) : (frame p).length = p.length + 8 := by
  unfold frame; simp [lay4_len]; omega
theorem frame_ok (p : List Int) (hp : p.length ≤ 16777216) : seal_Frame.f p = some (frame p) := by
  unfold seal_Frame.f
  rw [wrapU (by omega) (by omega), seal_lay_ok, Option.bind_some, lim_ok (by simp [lay4_len]), Option.bind_some, Option.bind_some, lim_ok (by simp [lay4_len]; omega), Option.bind_some]
  obtain ⟨h1, h2⟩ := long_ok (lay4 p.length ++ p) (by simp [lay4_len]; omega)
  rw [h1, Option.bind_some, seal_lay_ok, Option.bind_some, join_ok _ (by simp) (by simp) (by simp [lens, lay4_len]; omega), Option.bind_some]
  unfold frame; simp
end Go.Proofs.YtpajmahpphcbaaaGreatDoor

/- Sides and writes to them, in plain words. -/
namespace Go.Proofs.YtpajmahpphcbaaaGreatDoor
open Kot Go
set_option maxRecDepth 100000
structure OkS (x : List (List Int)) : Prop where
  l1 : 1 ≤ x.length
  l8 : x.length ≤ 8
  q : ∀ s ∈ x, s.length ≤ 65536
theorem right_loop (x : List (List Int)) (h : OkS x) : ∀ (d i f : Nat), i + d = x.length → d < f → shelf_right.l1 x f (i : Int) = some true
  | 0, i, f + 1, hk, _ => by
    have h1 := h.l1
    have h8 := h.l8
    simp only [shelf_right.l1]
    rw [ltF (by omega), cond_false]
    have e1 : decide ((1 : Int) ≤ (x.length : Int)) = true := decide_eq_true (by omega)
    have e2 : decide ((x.length : Int) ≤ 8) = true := decide_eq_true (by omega)
    rw [e1, cond_true, e2]
  | d + 1, i, f + 1, hk, hf => by
    have hi : i < x.length := by omega
    have := h.q x[i] (List.getElem_mem _)
    have h8 := h.l8
    simp only [shelf_right.l1]
    rw [ltT (by omega), cond_true, lget_lt hi, Option.bind_some, decide_eq_false (by omega), cond_false, wrap1 (by omega)]
    exact right_loop x h d (i + 1) f (by omega) (by omega)
theorem sright_ok (x : List (List Int)) (h : OkS x) : shelf_right.f x = some true := right_loop x h x.length 0 _ (by omega) (by omega)
theorem copied_loop (x : List (List Int)) (h : OkS x) : ∀ (d i f : Nat), i + d = x.length → d < f → shelf_copied.l1 x f (x.take i, (i : Int)) = some x
  | 0, i, f + 1, hk, _ => by
    simp only [shelf_copied.l1]
    rw [ltF (by omega), cond_false, List.take_of_length_le (by omega)]
  | d + 1, i, f + 1, hk, hf => by
    have hi : i < x.length := by omega
    have := h.q x[i] (List.getElem_mem _)
    have h8 := h.l8
    simp only [shelf_copied.l1]
    rw [ltT (by omega), cond_true, lget_lt hi, Option.bind_some, lim_ok (by simp; omega), Option.bind_some, Option.bind_some, lim_ok (by simp; omega), Option.bind_some, wrap1 (by omega), List.take_append_getElem]
    exact copied_loop x h d (i + 1) f (by omega) (by omega)
theorem copied_ok (x : List (List Int)) (h : OkS x) : shelf_copied.f x = some x := copied_loop x h x.length 0 _ (by omega) (by omega)
theorem copied_r0_loop (x : List (List Int)) (h : OkS x) : ∀ (d i f : Nat), i + d = x.length → d < f → shelf_copied_r0.l1 x f (x.take i, (i : Int)) = some x
  | 0, i, f + 1, hk, _ => by
    simp only [shelf_copied_r0.l1]
    rw [ltF (by omega), cond_false, List.take_of_length_le (by omega)]
  | d + 1, i, f + 1, hk, hf => by
    have hi : i < x.length := by omega
    have := h.q x[i] (List.getElem_mem _)
    have h8 := h.l8
    simp only [shelf_copied_r0.l1]
    rw [ltT (by omega), cond_true, lget_lt hi, Option.bind_some, lim_ok (by simp; omega), Option.bind_some, Option.bind_some, lim_ok (by simp; omega), Option.bind_some, wrap1 (by omega), List.take_append_getElem]
    exact copied_r0_loop x h d (i + 1) f (by omega) (by omega)
theorem copied_r0_ok (x : List (List Int)) (h : OkS x) : shelf_copied_r0.f x = some x := copied_r0_loop x h x.length 0 _ (by omega) (by omega)
/-! ### writes -/
structure WOk (w : scroll_Write) : Prop where
  s0 : 0 ≤ w.f_Side
  s1 : w.f_Side < 8
  a0 : 0 ≤ w.f_At
  a1 : w.f_At < 65536
  d1 : 1 ≤ w.f_Data.length
  d2 : w.f_Data.length ≤ 4096
  e : w.f_At + w.f_Data.length ≤ 65536
theorem wright_ok (w : scroll_Write) (h : WOk w) : scroll_Write_Right.f w = some true := by
  obtain ⟨s0, s1, a0, a1, d1, d2, e⟩ := h
  unfold scroll_Write_Right.f
  simp only [bnd]
  rw [decide_eq_true s1, cond_true, decide_eq_true a1, cond_true, decide_eq_true (by omega), cond_true, decide_eq_true (by omega), cond_true, wrapI (i := w.f_At) (by omega) (by omega), wrapI (by omega) (by omega), decide_eq_true e]
def shape (x : List (List Int)) : List Nat := x.map List.length
def Fit (sh : List Nat) (w : scroll_Write) : Prop := ∃ n, sh[w.f_Side.toNat]? = some n ∧ w.f_At.toNat + w.f_Data.length ≤ n
def put (x : List (List Int)) (w : scroll_Write) : List (List Int) := x.set w.f_Side.toNat (cpw (x.getD w.f_Side.toNat []) w.f_At w.f_Data)
def puts (x : List (List Int)) (l : List scroll_Write) : List (List Int) := l.foldl put x
theorem shape_get (x : List (List Int)) (i : Nat) : (shape x)[i]? = (x[i]?).map List.length := by unfold shape; rw [List.getElem?_map]
theorem Fit.get {x : List (List Int)} {w : scroll_Write} (h : Fit (shape x) w) : ∃ s, x[w.f_Side.toNat]? = some s ∧ w.f_At.toNat + w.f_Data.length ≤ s.length := by
  obtain ⟨n, h1, h2⟩ := h
  rw [shape_get] at h1
  cases hx : x[w.f_Side.toNat]? with
  | none => rw [hx] at h1; cases h1
  | some s => rw [hx] at h1; cases h1; exact ⟨s, rfl, h2⟩
theorem cpw_len' {s d : List Int} {a : Int} (h : a.toNat + d.length ≤ s.length) : (cpw s a d).length = s.length := by
  unfold cpw; simp; omega
theorem put_shape {x : List (List Int)} {w : scroll_Write} (h : Fit (shape x) w) : shape (put x w) = shape x := by
  obtain ⟨s, h1, h2⟩ := h.get
  unfold shape put
  rw [List.map_set, List.getD_eq_getElem?_getD, h1, Option.getD_some, cpw_len' h2]
  apply set_same
  rw [List.getElem?_map, h1]; rfl
theorem puts_shape : ∀ {l : List scroll_Write} {x : List (List Int)}, (∀ w ∈ l, Fit (shape x) w) → shape (puts x l) = shape x
  | [], _, _ => rfl
  | w :: l, x, h => by
    have h1 := put_shape (h w (by simp))
    show shape (puts (put x w) l) = _
    rw [puts_shape (fun v hv => by rw [h1]; exact h v (by simp [hv])), h1]
theorem puts_app (x : List (List Int)) (l m : List scroll_Write) : puts x (l ++ m) = puts (puts x l) m := by unfold puts; rw [List.foldl_append]
def get (x : List (List Int)) (s p : Nat) : Option Int := (x[s]?).bind fun r => r[p]?
/-! ### Apply -/
theorem OkS.shape {x y : List (List Int)} (h : OkS x) (e : shape y = shape x) : OkS y := by
  have hlen : y.length = x.length := by
    have := congrArg List.length e
    unfold Go.Proofs.YtpajmahpphcbaaaGreatDoor.shape at this
    simpa using this
  refine ⟨by rw [hlen]; exact h.l1, by rw [hlen]; exact h.l8, fun r hr => ?_⟩
  have : r.length ∈ Go.Proofs.YtpajmahpphcbaaaGreatDoor.shape y := List.mem_map.2 ⟨r, hr, rfl⟩
  rw [e] at this
  obtain ⟨r', hr', he⟩ := List.mem_map.1 this
  rw [← he]; exact h.q r' hr'
end Go.Proofs.YtpajmahpphcbaaaGreatDoor

/- The shelf's log: writes that are merged, records and marks, and how they are read again; in plain words. -/
namespace Go.Proofs.YtpajmahpphcbaaaGreatDoor
open Kot Go
set_option maxRecDepth 100000
/-! ### Merge -/
def Good (sh : List Nat) (w : scroll_Write) : Prop := WOk w ∧ Fit sh w
end Go.Proofs.YtpajmahpphcbaaaGreatDoor

/- The shelf's log: records and marks in their frames, and how they are read again; in plain words. -/
namespace Go.Proofs.YtpajmahpphcbaaaGreatDoor
open Kot Go
set_option maxRecDepth 100000
inductive Pay where
  | item (g i : Nat) (w : scroll_Write)
  | mark (g n : Nat)
def Pay.b : Pay → List Int
  | .item g i w => 1 :: (lay4 g ++ (lay4 i ++ (w.f_Side :: (lay4 w.f_At.toNat ++ w.f_Data))))
  | .mark g n => 2 :: (lay4 g ++ lay4 n)
def Pay.Ok : Pay → Prop
  | .item g i w => g < 4294967296 ∧ i < 4294967296 ∧ WOk w
  | .mark g n => g < 4294967296 ∧ n < 4294967296
theorem Pay.item_len (g i : Nat) (w : scroll_Write) : (Pay.item g i w).b.length = 14 + w.f_Data.length := by simp [Pay.b, lay4_len]; omega
theorem Pay.mark_len (g n : Nat) : (Pay.mark g n).b.length = 9 := by simp [Pay.b, lay4_len]
theorem Pay.len {p : Pay} (h : p.Ok) : p.b.length ≤ 5000 := by
  cases p with
  | item g i w => rw [Pay.item_len]; have := h.2.2.d2; omega
  | mark g n => rw [Pay.mark_len]; omega
def Pay.fr (p : Pay) : List Int := frame p.b
def frs (l : List Pay) : List Int := (l.map Pay.fr).flatten
/-! ### reading -/
structure RS where
  out : List scroll_Group
  num : Nat
  ws : List scroll_Write
  at' : Nat
  last : Nat
def rstep (s : RS) (p : Pay) : RS := match p with
  | .item g i w =>
    let t : List scroll_Write × Nat := if g ≠ s.num ∨ i ≠ s.ws.length then ([], g) else (s.ws, s.num)
    ⟨s.out, t.2, if i = t.1.length then t.1 ++ [w] else t.1, s.at' + p.fr.length, s.last⟩
  | .mark g n => if 0 < n ∧ g = s.num ∧ n = s.ws.length then ⟨s.out ++ [⟨(s.num : Int), s.ws⟩], 0, [], s.at' + p.fr.length, s.at' + p.fr.length⟩ else ⟨s.out, 0, [], s.at' + p.fr.length, s.last⟩
def rall (s : RS) (l : List Pay) : RS := l.foldl rstep s
def RS.t (s : RS) : (List scroll_Group) × (List scroll_Write) × Int × Int × Int := (s.out, s.ws, (s.num : Int), (s.at' : Int), (s.last : Int))
structure RSOk (s : RS) : Prop where
  o : s.out.length ≤ 1000000
  w : s.ws.length ≤ 1000000
  n : s.num < 4294967296
def rs0 : RS := ⟨[], 0, [], 0, 0⟩
end Go.Proofs.YtpajmahpphcbaaaGreatDoor

/- The shelf's base: it is read again; what a cut log tells; in plain words. -/
namespace Go.Proofs.YtpajmahpphcbaaaGreatDoor
open Kot Go
set_option maxRecDepth 100000
def pl (x : List (List Int)) : List Int := (x.map fun s => lay4 s.length ++ s).flatten
def baseP (g : Nat) (x : List (List Int)) : List Int := lay4 g ++ ((x.length : Int) :: pl x)
def baseB (g : Nat) (x : List (List Int)) : List Int := frame (baseP g x)
theorem pl_cons (s : List Int) (x : List (List Int)) : pl (s :: x) = lay4 s.length ++ (s ++ pl x) := by simp [pl]
theorem pl_app (x y : List (List Int)) : pl (x ++ y) = pl x ++ pl y := by simp [pl]
theorem pl_len : ∀ (x : List (List Int)), (∀ s ∈ x, s.length ≤ 65536) → (pl x).length ≤ 65540 * x.length
  | [], _ => by simp [pl]
  | s :: x, h => by
    have h1 := pl_len x (fun r hr => h r (by simp [hr]))
    have h2 := h s (by simp)
    rw [pl_cons]; simp [lay4_len]; omega
theorem baseP_len {g : Nat} {x : List (List Int)} (h : OkS x) : (baseP g x).length ≤ 600000 := by
  have := pl_len x h.q
  have := h.l8
  unfold baseP; simp [lay4_len]; omega
theorem base_loop (g : Nat) (x : List (List Int)) (h : OkS x) : ∀ (d i f : Nat), i + d = x.length → d < f → shelf_Base.l1 x f (lay4 g ++ ((x.length : Int) :: pl (x.take i)), (i : Int)) = some (baseB g x)
  | 0, i, f + 1, hk, _ => by
    simp only [shelf_Base.l1]
    have hb := baseP_len (g := g) h
    rw [ltF (by omega), cond_false, List.take_of_length_le (by omega)]
    show (seal_Frame.f (baseP g x)).bind _ = _
    rw [frame_ok _ (by omega), Option.bind_some]; rfl
  | d + 1, i, f + 1, hk, hf => by
    have hi : i < x.length := by omega
    have hq := h.q x[i] (List.getElem_mem _)
    have h8 := h.l8
    have hp := pl_len (x.take i) (fun s hs => h.q s (List.mem_of_mem_take hs))
    have hti : (x.take i).length ≤ x.length := by rw [List.length_take]; omega
    simp only [shelf_Base.l1]
    rw [ltT (by omega), cond_true, lget_lt hi, Option.bind_some, wrapU (by omega) (by omega), shelf_lay_ok, Option.bind_some, lim_ok (by simp [lay4_len]; simp at hp hti; omega), Option.bind_some, lim_ok (by simp [lay4_len]; simp at hp hti; omega), Option.bind_some, wrap1 (by omega)]
    have e : ((lay4 g ++ ((x.length : Int) :: pl (x.take i))) ++ lay4 x[i].length) ++ x[i] = lay4 g ++ ((x.length : Int) :: pl (x.take (i + 1))) := by
      rw [List.take_add_one, List.getElem?_eq_getElem hi, Option.toList_some, pl_app, pl_cons]
      simp [pl]
    rw [e]
    exact base_loop g x h d (i + 1) f (by omega) (by omega)
theorem base_ok (g : Nat) (x : List (List Int)) (h : OkS x) : shelf_Base.f (g : Int) x = some (baseB g x) := by
  have h8 := h.l8
  unfold shelf_Base.f
  rw [shelf_lay_ok, Option.bind_some, lim_ok (by simp [lay4_len]), Option.bind_some, wrapU8, Nat.mod_eq_of_lt (by omega)]
  have := base_loop g x h x.length 0 (((x.length : Int) - 0 : Int).toNat + 2) (by omega) (by omega)
  exact this
/-! ### a log that was cut -/
def sidesOf (b : List (List Int)) (l : List Pay) : List (List Int) := (rall rs0 l).out.foldl (fun x g => puts x g.f_Writes) b
end Go.Proofs.YtpajmahpphcbaaaGreatDoor

/- A host in plain words: what its calls do, and what may be found behind a crash. -/
namespace Go.Proofs.YtpajmahpphcbaaaGreatDoor
open Kot Go
set_option maxRecDepth 100000
set_option linter.unusedSimpArgs false
set_option linter.unusedSectionVars false
def failsE (h : HS) (w : Bool) : Int := bif w && h.arm == 0 then 9 else bif h.fault == 0 then 8 else 0
def failsH (h : HS) (w : Bool) : HS := { h with arm := bif w && decide (0 < h.arm) then h.arm - 1 else h.arm, fault := bif decide (0 < h.fault) then h.fault - 1 else -1 }
structure Num (h : HS) : Prop where
  a1 : -1 ≤ h.arm
  a2 : h.arm ≤ 9223372036854775807
  f1 : -1 ≤ h.fault
  f2 : h.fault ≤ 9223372036854775807
  l1 : 0 ≤ h.limit
  l2 : h.limit ≤ 9223372036854775807
theorem dn_eq {n : Int} (h1 : -1 ≤ n) (h2 : n ≤ 9223372036854775807) : dn n = (n == 0, bif decide (0 < n) then n - 1 else n) := by
  unfold dn
  by_cases h : 0 < n
  · rw [decide_eq_true h, cond_true, cond_true, wrapI (by omega) (by omega), show (n == 0) = false by simp; omega]
  · rw [decide_eq_false h, cond_false, cond_false]
theorem fails_ok {h : HS} (H : Num h) (w : Bool) : host_Host_fails.f h w = some (failsE h w, failsH h w) := by
  have d1 := dn_eq H.a1 H.a2
  have d2 := dn_eq H.f1 H.f2
  have d3 := H.f1
  obtain ⟨fs, l, s, wt, lm, ar, fl, rd⟩ := h
  simp only at d1 d2 d3
  unfold host_Host_fails.f host_Host_fails.j1 failsE failsH
  simp only [d1, d2]
  rcases Int.lt_or_le 0 fl with h1 | h1
  · rw [show (fl == 0) = false by simp; omega, decide_eq_true h1]
    cases w <;> cases h2 : ar == 0 <;> simp_all
  · by_cases h3 : fl = 0
    · subst h3
      cases w <;> cases h2 : ar == 0 <;> simp_all
    · have h4 : fl = -1 := by omega
      subst h4
      cases w <;> cases h2 : ar == 0 <;> simp_all
def app (m : HMap) (c : HChg) : HMap :=
  let m := bif c.frm == [] then m else mdel m c.frm
  bif decide (c.f < 0) then mdel m c.name else mput m c.name c.f
theorem apply_ok (c : HChg) (m : HMap) : host_change_apply.f c m = some (app m c) := by
  unfold host_change_apply.f app
  cases c.frm == [] <;> cases h : decide (c.f < 0) <;> simp [h]
def now (s : HMap) (w : List HChg) : HMap := w.foldl app s
theorem mdel_len (m : HMap) (k : List UInt8) : (mdel m k).length ≤ m.length := List.length_filter_le _ _
def OkN (n : Nat) (e : List UInt8 × Int) : Prop := 0 ≤ e.2 ∧ e.2 < n ∧ e.1 ≠ [] ∧ e.1.length ≤ 1048576
def OkW (n : Nat) (c : HChg) : Prop := c.f < n ∧ c.name ≠ [] ∧ c.name.length ≤ 1048576
structure InvS (M b : Nat) (h : HS) : Prop where
  num : Num h
  hl : h.l = now h.safe h.wait
  fl : h.files.length ≤ b
  wl : h.safe.length + h.wait.length ≤ b
  srt : msorted h.safe
  oks : ∀ e ∈ h.safe, OkN h.files.length e
  okw : ∀ c ∈ h.wait, OkW h.files.length c
  fp : ∀ f ∈ h.files, f.p.length ≤ M ∧ 0 ≤ f.safe ∧ f.safe ≤ f.p.length
abbrev Inv (b : Nat) (h : HS) : Prop := InvS 2400 b h
theorem Num.cp {h x : HS} (H : Num h) (h1 : x.arm = h.arm) (h2 : x.fault = h.fault) (h3 : x.limit = h.limit) : Num x := ⟨h1 ▸ H.1, h1 ▸ H.2, h2 ▸ H.3, h2 ▸ H.4, h3 ▸ H.5, h3 ▸ H.6⟩
theorem OkN.mono {n m : Nat} {e : List UInt8 × Int} (H : OkN n e) (h : n ≤ m) : OkN m e := ⟨H.1, by have := H.2.1; omega, H.2.2⟩
theorem OkW.mono {n m : Nat} {c : HChg} (H : OkW n c) (h : n ≤ m) : OkW m c := ⟨by have := H.1; omega, H.2⟩
theorem InvS.mono {M b c : Nat} {h : HS} (H : InvS M b h) (hb : b ≤ c) : InvS M c h :=
  ⟨H.num, H.hl, by have := H.fl; omega, by have := H.wl; omega, H.srt, H.oks, H.okw, H.fp⟩
theorem app_sorted {m : HMap} (h : msorted m) (c : HChg) : msorted (app m c) := by
  unfold app
  cases c.frm == [] <;> cases decide (c.f < 0) <;> simp only [cond_true, cond_false]
  · exact mput_sorted (mdel_sorted h _) _ _
  · exact mdel_sorted (mdel_sorted h _) _
  · exact mput_sorted h _ _
  · exact mdel_sorted h _
theorem mdel_mem {m : HMap} {k : List UInt8} {e : List UInt8 × Int} (h : e ∈ mdel m k) : e ∈ m := (List.mem_filter.1 h).1
theorem mput_mem {m : HMap} {k : List UInt8} {x : Int} {e : List UInt8 × Int} (h : e ∈ mput m k x) : e = (k, x) ∨ e ∈ m := by
  rcases List.mem_cons.1 ((mput_perm m k x).mem_iff.1 h) with h | h
  · exact .inl h
  · exact .inr (mdel_mem h)
theorem app_mem {m : HMap} {c : HChg} {e : List UInt8 × Int} (h : e ∈ app m c) : e ∈ m ∨ (0 ≤ c.f ∧ e = (c.name, c.f)) := by
  unfold app at h
  by_cases hc : c.f < 0
  · rw [decide_eq_true hc] at h
    cases hf : c.frm == [] <;> simp only [hf, cond_true, cond_false] at h
    · exact .inl (mdel_mem (mdel_mem h))
    · exact .inl (mdel_mem h)
  · rw [decide_eq_false hc] at h
    cases hf : c.frm == [] <;> simp only [hf, cond_true, cond_false] at h
    · rcases mput_mem h with h | h
      · exact .inr ⟨by omega, h⟩
      · exact .inl (mdel_mem h)
    · rcases mput_mem h with h | h
      · exact .inr ⟨by omega, h⟩
      · exact .inl h
theorem mput_len (m : HMap) (k : List UInt8) (x : Int) : (mput m k x).length ≤ m.length + 1 := by
  have := (mput_perm m k x).length_eq
  have := mdel_len m k
  simp at *; omega
theorem app_len (m : HMap) (c : HChg) : (app m c).length ≤ m.length + 1 := by
  unfold app
  have a1 := mdel_len m c.frm
  have a2 := mdel_len (mdel m c.frm) c.name
  have a3 := mdel_len m c.name
  have a4 := mput_len m c.name c.f
  have a5 := mput_len (mdel m c.frm) c.name c.f
  cases c.frm == [] <;> cases decide (c.f < 0) <;> simp only [cond_true, cond_false] <;> omega
theorem now_ok (n : Nat) : ∀ (w : List HChg) (s : HMap), msorted s → (∀ e ∈ s, OkN n e) → (∀ c ∈ w, OkW n c) → msorted (now s w) ∧ (∀ e ∈ now s w, OkN n e) ∧ (now s w).length ≤ s.length + w.length
  | [], s, h1, h2, _ => ⟨h1, h2, by simp [now]⟩
  | c :: w, s, h1, h2, h3 => by
    have hc := h3 c (by simp)
    obtain ⟨k1, k2, k3⟩ := now_ok n w (app s c) (app_sorted h1 c) (fun e he => by
      rcases app_mem he with h | ⟨h, rfl⟩
      · exact h2 e h
      · exact ⟨h, hc.1, hc.2⟩) (fun d hd => h3 d (by simp [hd]))
    have := app_len s c
    exact ⟨k1, k2, by simp only [List.length_cons]; have : now s (c :: w) = now (app s c) w := rfl; rw [this]; omega⟩
section
variable {M b : Nat} {h : HS} (I : InvS M b h)
include I
theorem InvS.atK (k : Nat) : msorted (now h.safe (h.wait.take k)) ∧ (∀ e ∈ now h.safe (h.wait.take k), OkN h.files.length e) ∧ (now h.safe (h.wait.take k)).length ≤ b := by
  obtain ⟨h1, h2, h3⟩ := now_ok h.files.length (h.wait.take k) h.safe I.srt I.oks (fun c hc => I.okw c (List.mem_of_mem_take hc))
  have := I.wl
  have : (h.wait.take k).length ≤ h.wait.length := by simp; omega
  exact ⟨h1, h2, by omega⟩
theorem InvS.lok : msorted h.l ∧ (∀ e ∈ h.l, OkN h.files.length e) ∧ h.l.length ≤ b := by
  have := I.atK h.wait.length
  rwa [List.take_length, ← I.hl] at this
theorem InvS.get (n : List UInt8) : (mget h.l n = -1) ∨ (0 ≤ mget h.l n ∧ mget h.l n < h.files.length ∧ (n, mget h.l n) ∈ h.l ∧ n ≠ [] ∧ n.length ≤ 1048576) := by
  rcases mget_in (m := h.l) (k := n) with h1 | h1
  · exact .inl h1
  · have := I.lok.2.1 _ h1
    exact .inr ⟨this.1, this.2.1, h1, this.2.2⟩
end
def rightB (n : List UInt8) : Bool := decide (0 < n.length ∧ n.length ≤ 32)
theorem right_ok (n : List UInt8) : host_right.f n = some (rightB n) := by
  unfold host_right.f rightB
  by_cases h1 : 0 < n.length
  · rw [decide_eq_true (show (1 : Int) ≤ n.length by omega), cond_true]
    congr 1
    rw [decide_eq_decide]; omega
  · rw [decide_eq_false (show ¬(1 : Int) ≤ n.length by omega), cond_false, decide_eq_false (by omega)]
theorem rightB_ne {n : List UInt8} (h : rightB n = true) : n ≠ [] ∧ n.length ≤ 1048576 := by
  have := of_decide_eq_true h
  exact ⟨fun h => by subst h; simp at this, by omega⟩
theorem now_add (s : HMap) (w : List HChg) (c : HChg) : now s (w ++ [c]) = app (now s w) c := by simp [now]
theorem hdo_ok (c : HChg) (k : HS) (hk : k.wait.length ≤ 1000000) : host_Host_do.f k c = some { k with l := app k.l c, wait := k.wait ++ [c] } := by
  unfold host_Host_do.f
  rw [apply_ok, Option.bind_some, lim_ok (by simp; omega)]; rfl
theorem fget_lt {fs : List HFile} {i : Nat} (h : i < fs.length) : fget fs i = fs[i] := by unfold fget; rw [List.getElem?_eq_getElem h]; rfl
section
variable {M b : Nat} {h : HS} (I : InvS M b h) (hM : M ≤ 1000000) (hb : b ≤ 100000)
include I hM hb
omit I hM hb
include I hM hb
end
end Go.Proofs.YtpajmahpphcbaaaGreatDoor

/- A host on which nothing fails: what its calls do; in plain words. -/
namespace Go.Proofs.YtpajmahpphcbaaaGreatDoor
open Kot Go
set_option maxRecDepth 100000
set_option linter.unusedSectionVars false
theorem mget_mput (m : HMap) (hs : msorted m) (k : List UInt8) (x : Int) : mget (mput m k x) k = x :=
  mget_mem (msorted_nodup (mput_sorted hs k x)) ((mput_perm m k x).mem_iff.2 (by simp))
theorem mget_mdel_ne (m : HMap) {k q : List UInt8} (h : q ≠ k) : mget (mdel m k) q = mget m q := by
  have go : ∀ m : HMap, (mdel m k).find? (fun e => e.1 == q) = m.find? (fun e => e.1 == q) := fun m => by
    induction m with
    | nil => rfl
    | cons e m ih =>
      unfold mdel at ih ⊢
      rw [List.filter_cons]
      by_cases hk : e.1 = k
      · have : e.1 ≠ q := fun hh => h (hh ▸ hk)
        rw [if_neg (by simp [hk]), ih, List.find?_cons, show (e.1 == q) = false by simpa using this]
      · rw [if_pos (by simp [hk]), List.find?_cons, List.find?_cons, ih]
  unfold mget
  rw [go]
theorem mget_mdel (m : HMap) (k : List UInt8) : mget (mdel m k) k = -1 := mget_none (fun e he => by
  have := (List.mem_filter.1 he).2
  simpa using this)
theorem mget_mput_ne (m : HMap) (hs : msorted m) {k q : List UInt8} (h : q ≠ k) (x : Int) : mget (mput m k x) q = mget m q := by
  rw [mget_perm (msorted_nodup (mput_sorted hs k x)) (mput_perm m k x) q]
  have : mget ((k, x) :: mdel m k) q = mget (mdel m k) q := by
    unfold mget
    rw [List.find?_cons, show ((k, x).1 == q) = false by simp; exact fun e => h e.symm]
  rw [this, mget_mdel_ne m h]
theorem InvS.chg {M b : Nat} {h : HS} (I : InvS M b h) (c : HChg) (fs : List HFile) (hfs : fs.length ≤ 1) (hp : ∀ f ∈ fs, f.p = [] ∧ f.safe = 0) (hc : OkW (h.files ++ fs).length c) : InvS M (b + 1) { h with files := h.files ++ fs, l := app h.l c, wait := h.wait ++ [c] } :=
  ⟨I.num.cp rfl rfl rfl, by show app h.l c = now h.safe (h.wait ++ [c]); rw [now_add, ← I.hl], by have := I.fl; show (h.files ++ fs).length ≤ _; simp; omega, by have := I.wl; show h.safe.length + (h.wait ++ [c]).length ≤ _; simp; omega, I.srt,
    fun e he => (I.oks e he).mono (by show _ ≤ (h.files ++ fs).length; simp),
    fun d hd => by
      rcases List.mem_append.1 hd with hd | hd
      · exact (I.okw d hd).mono (by show _ ≤ (h.files ++ fs).length; simp)
      · rw [List.mem_singleton.1 hd]; exact hc,
    fun f hf => by
      rcases List.mem_append.1 hf with hf | hf
      · exact I.fp f hf
      · obtain ⟨h1, h2⟩ := hp f hf
        simp [h1, h2]⟩
structure NF (h : HS) : Prop where
  arm : h.arm = -1
  fault : h.fault = -1
  lim : h.limit = 1000000
theorem failsH_nf {h : HS} (n : NF h) (w : Bool) : failsH h w = h ∧ failsE h w = 0 := by
  obtain ⟨fs, l, s, wt, lm, ar, fl, rd⟩ := h
  obtain ⟨h1, h2, _⟩ := n
  simp only at h1 h2
  subst h1 h2
  cases w <;> exact ⟨rfl, rfl⟩
section
variable {b : Nat} {h : HS} (I : Inv b h) (n : NF h)
include I n
theorem fails_nf (w : Bool) : host_Host_fails.f h w = some (0, h) := by
  rw [fails_ok I.num, (failsH_nf n w).1, (failsH_nf n w).2]
variable (hb : b ≤ 400)
include hb
def crS (h : HS) (k : List UInt8) : HS := { h with files := h.files ++ [⟨[], 0⟩], l := app h.l ⟨k, h.files.length, []⟩, wait := h.wait ++ [⟨k, h.files.length, []⟩] }
theorem create_nf {k : List UInt8} (hk : rightB k = true) (hg : mget h.l k < 0) : host_Host_Create.f h k = some (0, crS h k) ∧ Inv (b + 1) (crS h k) ∧ NF (crS h k) := by
  have hx := rightB_ne hk
  have hw := I.wl
  refine ⟨?_, I.chg ⟨k, h.files.length, []⟩ [⟨[], 0⟩] (by simp) (by simp) ⟨by simp; omega, hx.1, hx.2⟩, ⟨n.arm, n.fault, n.lim⟩⟩
  unfold host_Host_Create.f
  rw [fails_nf I n, Option.bind_some]
  simp only [show ((0 : Int) != 0) = false from rfl, cond_false]
  rw [right_ok, Option.bind_some, hk, decide_eq_true hg]
  simp only [Bool.not_true, cond_false]
  rw [hdo_ok]
  rotate_left
  · show h.wait.length ≤ 1000000; omega
  rfl
theorem crS_l (k : List UInt8) : (crS h k).l = mput h.l k h.files.length := by
  show app h.l ⟨k, h.files.length, []⟩ = _
  unfold app
  rw [show (([] : List UInt8) == []) = true from rfl, cond_true, decide_eq_false (by simp), cond_false]
def rmS (h : HS) (k : List UInt8) : HS := { h with l := app h.l ⟨k, -1, []⟩, wait := h.wait ++ [⟨k, -1, []⟩] }
theorem remove_nf {k : List UInt8} (hg : ¬ mget h.l k < 0) : host_Host_Remove.f h k = some (0, rmS h k) ∧ Inv (b + 1) (rmS h k) ∧ NF (rmS h k) := by
  have hw := I.wl
  rcases I.get k with g0 | ⟨g1, g2, g3, g4, g5⟩
  · rw [g0] at hg; exact absurd (by decide) hg
  have I2 := I.chg ⟨k, -1, []⟩ [] (by simp) (by simp) ⟨by simp; omega, g4, g5⟩
  simp only [List.append_nil] at I2
  refine ⟨?_, I2, ⟨n.arm, n.fault, n.lim⟩⟩
  unfold host_Host_Remove.f
  rw [fails_nf I n, Option.bind_some]
  simp only [show ((0 : Int) != 0) = false from rfl, cond_false]
  rw [decide_eq_false hg, cond_false, hdo_ok]
  rotate_left
  · show h.wait.length ≤ 1000000; omega
  rfl
def rnS (h : HS) (k q : List UInt8) : HS := { h with l := app h.l ⟨q, mget h.l k, k⟩, wait := h.wait ++ [⟨q, mget h.l k, k⟩] }
theorem rename_nf {k q : List UInt8} (hq : rightB q = true) (hg : ¬ mget h.l k < 0) (hne : k ≠ q) : host_Host_Rename.f h k q = some (0, rnS h k q) ∧ Inv (b + 1) (rnS h k q) ∧ NF (rnS h k q) := by
  have hw := I.wl
  have hx := rightB_ne hq
  rcases I.get k with g0 | ⟨g1, g2, g3, g4, g5⟩
  · rw [g0] at hg; exact absurd (by decide) hg
  have I2 := I.chg ⟨q, mget h.l k, k⟩ [] (by simp) (by simp) ⟨by simp; omega, hx.1, hx.2⟩
  simp only [List.append_nil] at I2
  refine ⟨?_, I2, ⟨n.arm, n.fault, n.lim⟩⟩
  unfold host_Host_Rename.f
  rw [fails_nf I n, Option.bind_some]
  simp only [show ((0 : Int) != 0) = false from rfl, cond_false]
  rw [right_ok, Option.bind_some, hq, decide_eq_false hg, show (k == q) = false by simpa using hne]
  simp only [Bool.not_true, cond_false, Bool.not_false, cond_true]
  rw [hdo_ok]
  rotate_left
  · show h.wait.length ≤ 1000000; omega
  rfl
theorem rnS_l {k q : List UInt8} (hg : ¬ mget h.l k < 0) : (rnS h k q).l = mput (mdel h.l k) q (mget h.l k) := by
  rcases I.get k with g0 | ⟨g1, g2, g3, g4, g5⟩
  · rw [g0] at hg; exact absurd (by decide) hg
  show app h.l ⟨q, mget h.l k, k⟩ = _
  unfold app
  rw [show (k == ([] : List UInt8)) = false by simpa using g4, cond_false, decide_eq_false hg, cond_false]
omit n hb in
theorem used_le : ∀ (l : HMap) (z : Int), (∀ e ∈ l, OkN h.files.length e) → l.length ≤ 400 → 0 ≤ z → z + l.length * 2400 ≤ 2000000 → 0 ≤ l.foldl (usedS h.files) z ∧ l.foldl (usedS h.files) z ≤ z + l.length * 2400
  | [], z, _, _, h0, _ => by simp; exact h0
  | e :: l, z, hok, hl, h0, h1 => by
    have he := hok e (by simp)
    have hlt : e.2.toNat < h.files.length := by have := he.2.1; have := he.1; omega
    have hf := I.fp h.files[e.2.toNat] (List.getElem_mem _)
    simp only [List.length_cons] at hl h1
    have e1 : usedS h.files z e = z + (h.files[e.2.toNat].p.length : Int) := by
      unfold usedS
      rw [fget_lt hlt, wrapI (by omega) (by omega)]
    have ih := used_le l (usedS h.files z e) (fun d hd => hok d (by simp [hd])) (by omega) (by rw [e1]; omega) (by rw [e1]; omega)
    rw [List.foldl_cons, List.length_cons]
    rw [e1] at ih ⊢
    omega
def apS (h : HS) (i : Nat) (p : List Int) : HS := { h with files := h.files.set i ⟨(fget h.files i).p ++ p, (fget h.files i).safe⟩ }
omit n hb I in
theorem InvS.putf {M b : Nat} {h : HS} (I : InvS M b h) (i : Nat) (f : HFile) (hf : f.p.length ≤ M ∧ 0 ≤ f.safe ∧ f.safe ≤ f.p.length) : InvS M b { h with files := h.files.set i f } :=
  ⟨I.num.cp rfl rfl rfl, I.hl, by have := I.fl; show (h.files.set i f).length ≤ _; simp; omega, I.wl, I.srt, by simpa using I.oks, by simpa using I.okw,
    fun g hg => by
      rcases List.mem_or_eq_of_mem_set hg with hg | rfl
      · exact I.fp g hg
      · exact hf⟩
theorem append_nf {k : List UInt8} {i : Nat} {p : List Int} (hg : mget h.l k = (i : Int)) (hp : (fget h.files i).p.length + p.length ≤ 2400) : host_Host_Append.f h k p = some (0, apS h i p) ∧ Inv b (apS h i p) ∧ NF (apS h i p) := by
  rcases I.get k with g0 | ⟨g1, g2, g3, g4, g5⟩
  · rw [g0] at hg; omega
  have hlt : i < h.files.length := by omega
  have hf := I.fp h.files[i] (List.getElem_mem _)
  have hlk := I.lok.2.2
  have hu := used_le I h.l 0 I.lok.2.1 (by omega) (Int.le_refl _) (by omega)
  rw [fget_lt hlt] at hp
  have e : apS h i p = { h with files := h.files.set i ⟨h.files[i].p ++ p, h.files[i].safe⟩ } := by unfold apS; rw [fget_lt hlt]
  refine ⟨?_, by rw [e]; exact I.putf i _ (by simp; omega), ⟨n.arm, n.fault, n.lim⟩⟩
  unfold host_Host_Append.f
  rw [fails_nf I n, Option.bind_some]
  simp only [show ((0 : Int) != 0) = false from rfl, cond_false]
  have hl := n.lim
  rw [hg, decide_eq_false (show ¬ ((i : Int) < 0) by omega), cond_false, wrapI (by omega) (by omega), decide_eq_false (by omega), cond_false, cond_false, lget_lt hlt, Option.bind_some, lim_ok (by omega), Option.bind_some, e]
  rfl
def syS (h : HS) (i : Nat) : HS := { h with files := h.files.set i ⟨(fget h.files i).p, (fget h.files i).p.length⟩, safe := h.l, wait := [] }
theorem sync_nf {k : List UInt8} {i : Nat} (hg : mget h.l k = (i : Int)) : host_Host_Sync.f h k = some (0, syS h i) ∧ Inv b (syS h i) ∧ NF (syS h i) := by
  rcases I.get k with g0 | ⟨g1, g2, g3, g4, g5⟩
  · rw [g0] at hg; omega
  have hlt : i < h.files.length := by omega
  have hf := I.fp h.files[i] (List.getElem_mem _)
  have e : syS h i = { h with files := h.files.set i ⟨h.files[i].p, h.files[i].p.length⟩, safe := h.l, wait := [] } := by unfold syS; rw [fget_lt hlt]
  have I2 := I.putf i ⟨h.files[i].p, h.files[i].p.length⟩ (by simp; omega)
  refine ⟨?_, by rw [e]; exact ⟨I2.num.cp rfl rfl rfl, rfl, I2.fl, by have := I.lok.2.2; show h.l.length + 0 ≤ _; omega, I.lok.1, fun e he => (I.lok.2.1 e he).mono (by show _ ≤ (h.files.set _ _).length; simp), (fun c hc => nomatch hc), I2.fp⟩, ⟨n.arm, n.fault, n.lim⟩⟩
  unfold host_Host_Sync.f
  rw [fails_nf I n, Option.bind_some]
  simp only [show ((0 : Int) != 0) = false from rfl, cond_false]
  rw [hg, decide_eq_false (show ¬ ((i : Int) < 0) by omega), cond_false, cond_false, lget_lt hlt, Option.bind_some, e]
  rfl
end
section
variable {M b : Nat} {h : HS} (I : InvS M b h) (hb : b ≤ 100000)
include I hb
theorem names_ok : host_Host_Names.f h = some (h.l.map Prod.fst) := by
  have hl := I.lok
  have hk : keysOk h.l = true := by
    unfold keysOk
    rw [decide_eq_true (by omega), Bool.true_and, List.all_eq_true]
    exact fun e he => decide_eq_true (hl.2.1 e he).2.2.2
  unfold host_Host_Names.f
  rw [hk, cond_true, Option.bind_some]
theorem there_ok (s : shelf_Shelf) (k : List UInt8) : shelf_Shelf_there_d0beRPO.f s h k = some (!decide (mget h.l k < 0)) := by
  have hl := I.lok
  unfold shelf_Shelf_there_d0beRPO.f
  rw [names_ok I hb, Option.bind_some]
  have go : ∀ (m : HMap), (∀ e ∈ m, 0 ≤ e.2) → m.length ≤ 1000000 → ∀ (pre : HMap) (f : Nat), m.length < f → pre.length + m.length ≤ 1000000 → shelf_Shelf_there_d0beRPO.l1 k ((pre ++ m).map Prod.fst) f (pre.length : Int) = some (!decide (mget m k < 0)) := fun m => by
    induction m with
    | nil =>
      intro _ _ pre f hf hp
      cases f with
      | zero => simp at hf
      | succ f =>
        simp only [shelf_Shelf_there_d0beRPO.l1, List.append_nil, List.length_map]
        rw [ltF (by omega), cond_false]; rfl
    | cons e m ih =>
      intro h0 hm pre f hf hp
      simp only [List.length_cons] at hf hm
      cases f with
      | zero => omega
      | succ f =>
        simp only [shelf_Shelf_there_d0beRPO.l1, List.length_map]
        have hlen : (pre ++ e :: m).length = pre.length + (m.length + 1) := by simp
        rw [ltT (by omega), cond_true, show lget ((pre ++ e :: m).map Prod.fst) (pre.length : Int) = some e.1 by rw [lget_nat, List.getElem?_map, List.getElem?_append_right (Nat.le_refl _)]; simp, Option.bind_some]
        by_cases hk : e.1 = k
        · rw [show (e.1 == k) = true by simp [hk], cond_true]
          have : mget (e :: m) k = e.2 := by unfold mget; rw [List.find?_cons, show (e.1 == k) = true by simp [hk]]
          rw [this, decide_eq_false (by have := h0 e (by simp); omega)]; rfl
        · rw [show (e.1 == k) = false by simp [hk], cond_false, wrap1 (by omega)]
          have := ih (fun d hd => h0 d (by simp [hd])) (by omega) (pre ++ [e]) f (by omega) (by simp at hp ⊢; omega)
          simp only [List.append_assoc, List.singleton_append, List.length_append, List.length_singleton] at this
          rw [this]
          have : mget (e :: m) k = mget m k := by unfold mget; rw [List.find?_cons, show (e.1 == k) = false by simp [hk]]
          rw [this]
  by_cases hpos : h.l.length ≤ 999999
  · have := go h.l (fun e he => (hl.2.1 e he).1) (by omega) [] ((((h.l.map Prod.fst).length : Int) - 0 : Int).toNat + 2) (by simp) (by simp; omega)
    simpa using this
  · omega
end
end Go.Proofs.YtpajmahpphcbaaaGreatDoor

/- A generation that is laid on a host on which nothing fails; in plain words. -/
namespace Go.Proofs.YtpajmahpphcbaaaGreatDoor
open Kot Go
set_option maxRecDepth 100000
set_option linter.unusedSectionVars false
abbrev kB : List UInt8 := [98, 97, 115, 101]
abbrev kT : List UInt8 := [116, 109, 112]
abbrev kL : List UInt8 := [108, 111, 103, 46]
def lg (g : Nat) : List UInt8 := (shelf_LogName.f (g : Int)).getD []
def lgC (g : Nat) : Bool := (shelf_LogName.f (g : Int)).isSome && (rightB (lg g) && ((lg g).take 4 == kL))
theorem lg_chk : ∀ g : Fin 100, lgC g.val = true := by decide +kernel
theorem lg_ok {g : Nat} (h : g < 100) : shelf_LogName.f (g : Int) = some (lg g) ∧ rightB (lg g) = true ∧ (lg g).take 4 = kL := by
  have := lg_chk ⟨g, h⟩
  unfold lgC at this
  simp only [Bool.and_eq_true, beq_iff_eq] at this
  obtain ⟨h1, h2, h3⟩ := this
  refine ⟨?_, h2, h3⟩
  unfold lg
  cases hs : shelf_LogName.f (g : Int) with
  | none => rw [hs] at h1; cases h1
  | some z => rfl
theorem lg_neB {g : Nat} (h : g < 100) : lg g ≠ kB := fun e => by
  have := (lg_ok h).2.2
  rw [e] at this
  exact absurd this (by decide)
theorem lg_neT {g : Nat} (h : g < 100) : lg g ≠ kT := fun e => by
  have := (lg_ok h).2.2
  rw [e] at this
  exact absurd this (by decide)
def Nm (k : List UInt8) : Prop := k = kB ∨ k.take 4 = kL
theorem nm_neT {k : List UInt8} (h : Nm k) : k ≠ kT := fun e => by
  subst e
  rcases h with h | h
  · exact absurd h (by decide)
  · exact absurd h (by decide)
theorem nm_lg {g : Nat} (h : g < 100) : Nm (lg g) := .inr (lg_ok h).2.2
theorem nm_app {P : List UInt8 → Prop} {m : HMap} {c : HChg} (hm : ∀ e ∈ m, P e.1) (hc : P c.name) : ∀ e ∈ app m c, P e.1 := fun e he => by
  rcases app_mem he with h | ⟨_, h⟩
  · exact hm e h
  · rw [h]; exact hc
theorem nm_now {P : List UInt8 → Prop} : ∀ (w : List HChg) (m : HMap), (∀ e ∈ m, P e.1) → (∀ c ∈ w, P c.name) → ∀ e ∈ now m w, P e.1
  | [], m, hm, _ => hm
  | c :: w, m, hm, hc => nm_now w (app m c) (nm_app hm (hc c (by simp))) (fun d hd => hc d (by simp [hd]))
structure Pre (b : Nat) (h : HS) : Prop where
  I : Inv b h
  n : NF h
  s : ∀ e ∈ h.safe, Nm e.1
  w : ∀ c ∈ h.wait, Nm c.name
theorem Pre.l {b : Nat} {h : HS} (P : Pre b h) : ∀ e ∈ h.l, Nm e.1 := by
  rw [P.I.hl]; exact nm_now h.wait h.safe P.s P.w
theorem Pre.noT {b : Nat} {h : HS} (P : Pre b h) : mget h.l kT = -1 := mget_none (fun e he => nm_neT (P.l e he))
theorem Pre.mono {b c : Nat} {h : HS} (P : Pre b h) (hb : b ≤ c) : Pre c h := ⟨P.I.mono hb, P.n, P.s, P.w⟩
structure Sy (b : Nat) (h : HS) (g ib il : Nat) (x : List (List Int)) (l : List Pay) : Prop where
  P : Pre b h
  gl : g < 100
  ok : OkS x
  fb : h.files[ib]? = some ⟨baseB g x, (baseB g x).length⟩
  fl : h.files[il]? = some ⟨frs l, (frs l).length⟩
  all : ∀ k, mget (now h.safe (h.wait.take k)) kB = (ib : Int) ∧ mget (now h.safe (h.wait.take k)) (lg g) = (il : Int)
  ne : ib ≠ il
theorem Sy.cur {b : Nat} {h : HS} {g ib il : Nat} {x : List (List Int)} {l : List Pay} (S : Sy b h g ib il x l) : mget h.l kB = (ib : Int) ∧ mget h.l (lg g) = (il : Int) := by
  have := S.all h.wait.length
  rwa [List.take_length, ← S.P.I.hl] at this
theorem clear_ok {b : Nat} {h : HS} (P : Pre b h) (hb : b ≤ 390) (s : shelf_Shelf) {g : Nat} (hg : g < 100) : ∃ h1, shelf_Shelf_clear_d0beRPO.f s h [kT, lg g] = some (0, s, h1) ∧ Pre (b + 1) h1 ∧ mget h1.l (lg g) < 0 ∧ h1.l.length ≤ h.l.length ∧ ∀ e ∈ h1.l, e ∈ h.l := by
  have e0 : shelf_Shelf_clear_d0beRPO.f s h [kT, lg g] = shelf_Shelf_clear_d0beRPO.l1 s [kT, lg g] 4 (h, 0) := rfl
  rw [e0]
  simp only [shelf_Shelf_clear_d0beRPO.l1]
  have l0 : lget [kT, lg g] 0 = some kT := rfl
  have l1 : lget [kT, lg g] 1 = some (lg g) := rfl
  simp only [List.length_cons, List.length_nil, show decide ((0 : Int) < ((0 + 1 + 1 : Nat) : Int)) = true from rfl, cond_true, l0, Option.bind_some]
  rw [there_ok P.I (by omega), P.noT, show decide ((-1 : Int) < 0) = true from rfl]
  simp only [Bool.not_true, Option.bind_some, Bool.not_false, cond_true, show IntKind.wrap .i64 ((0 : Int) + 1) = 1 from rfl, show decide ((1 : Int) < ((0 + 1 + 1 : Nat) : Int)) = true from rfl, l1]
  rw [there_ok P.I (by omega)]
  by_cases hm : mget h.l (lg g) < 0
  · rw [decide_eq_true hm]
    simp only [Bool.not_true, Option.bind_some, Bool.not_false, cond_true, show IntKind.wrap .i64 ((1 : Int) + 1) = 2 from rfl, show decide ((2 : Int) < ((0 + 1 + 1 : Nat) : Int)) = false from rfl, cond_false]
    exact ⟨h, rfl, P.mono (by omega), hm, Nat.le_refl _, fun _ he => he⟩
  · rw [decide_eq_false hm]
    obtain ⟨r1, r2, r3⟩ := remove_nf P.I P.n (by omega) hm
    simp only [Option.bind_some, Bool.not_false, Bool.not_true, cond_false, r1, show ((0 : Int) == 0) = true from rfl, cond_true, show IntKind.wrap .i64 ((1 : Int) + 1) = 2 from rfl, show decide ((2 : Int) < ((0 + 1 + 1 : Nat) : Int)) = false from rfl]
    refine ⟨_, rfl, ⟨r2, r3, P.s, fun c hc => ?_⟩, ?_, mdel_len _ _, fun _ he => mdel_mem he⟩
    · rcases List.mem_append.1 hc with hc | hc
      · exact P.w c hc
      · rw [List.mem_singleton.1 hc]; exact nm_lg hg
    · show mget (mdel h.l (lg g)) (lg g) < 0
      rw [mget_mdel]; decide
theorem set_get {τ : Type} {l : List τ} {i j : Nat} {x : τ} (h : i ≠ j) : (l.set i x)[j]? = l[j]? := List.getElem?_set_ne h
theorem fget_some {fs : List HFile} {i : Nat} {f : HFile} (h : fs[i]? = some f) : fget fs i = f := by unfold fget; rw [h]; rfl
theorem lay_ok {b : Nat} {h : HS} (P : Pre b h) (hb : b ≤ 380) (s : shelf_Shelf) {g : Nat} (hg : g < 100) (hx : OkS s.f_safe) (hB : (baseB g s.f_safe).length ≤ 2400) :
    ∃ (h' : HS) (it i2 : Nat), shelf_Shelf_lay_d0beRPO.f s h (g : Int) = some (0, s, h') ∧ Inv (b + 4) h' ∧ NF h' ∧ mget h'.l kB = (it : Int) ∧ mget h'.l (lg g) = (i2 : Int) ∧ it ≠ i2 ∧ h'.files[it]? = some ⟨baseB g s.f_safe, (baseB g s.f_safe).length⟩ ∧ h'.files[i2]? = some ⟨[], 0⟩ ∧ (∀ e ∈ h'.l, Nm e.1) ∧ (h'.l.length ≤ h.l.length + 3 ∧ ∀ e ∈ h'.l, e.1 = kB ∨ e.1 = lg g ∨ e ∈ h.l) := by
  have hlk := lg_ok hg
  obtain ⟨h1, c1, P1, m1, f1, sb1⟩ := clear_ok P (by omega) s hg
  obtain ⟨c2, I2, N2⟩ := create_nf (k := kT) P1.I P1.n (by omega) (by decide) (by rw [P1.noT]; decide)
  have srt1 := P1.I.lok.1
  have l2 : (crS h1 kT).l = mput h1.l kT h1.files.length := crS_l P1.I P1.n (by omega) kT
  have g2 : mget (crS h1 kT).l kT = ((h1.files.length : Nat) : Int) := by rw [l2, mget_mput _ srt1]
  have fl2 : (crS h1 kT).files = h1.files ++ [(⟨[], 0⟩ : HFile)] := rfl
  have ft2 : fget (crS h1 kT).files h1.files.length = (⟨[], 0⟩ : HFile) := fget_some (by rw [fl2]; simp)
  obtain ⟨c3, I3, N3⟩ := append_nf (p := baseB g s.f_safe) I2 N2 (by omega) g2 (by rw [ft2]; simpa using hB)
  have fl3 : (apS (crS h1 kT) h1.files.length (baseB g s.f_safe)).files = (h1.files ++ [(⟨[], 0⟩ : HFile)]).set h1.files.length (⟨baseB g s.f_safe, 0⟩ : HFile) := by
    unfold apS; rw [ft2]; rfl
  have fl3' : (apS (crS h1 kT) h1.files.length (baseB g s.f_safe)).files = h1.files ++ [(⟨baseB g s.f_safe, 0⟩ : HFile)] := by
    rw [fl3, List.set_append_right _ _ (Nat.le_refl _), Nat.sub_self]; rfl
  have g3 : mget (apS (crS h1 kT) h1.files.length (baseB g s.f_safe)).l kT = ((h1.files.length : Nat) : Int) := g2
  obtain ⟨c4, I4, N4⟩ := sync_nf I3 N3 (by omega) g3
  generalize hh3 : apS (crS h1 kT) h1.files.length (baseB g s.f_safe) = h3 at *
  have l3 : h3.l = mput h1.l kT h1.files.length := by rw [← hh3]; exact l2
  have ft3 : fget h3.files h1.files.length = (⟨baseB g s.f_safe, 0⟩ : HFile) := fget_some (by rw [fl3']; simp)
  have fl4 : (syS h3 h1.files.length).files = h1.files ++ [(⟨baseB g s.f_safe, (baseB g s.f_safe).length⟩ : HFile)] := by
    unfold syS; rw [ft3, fl3']
    show (h1.files ++ [_]).set _ _ = _
    rw [List.set_append_right _ _ (Nat.le_refl _), Nat.sub_self]; rfl
  generalize hh4 : syS h3 h1.files.length = h4 at *
  have l4 : h4.l = mput h1.l kT h1.files.length := by rw [← hh4]; exact l3
  have srt4 := I4.lok.1
  have n4 : mget h4.l (lg g) < 0 := by rw [l4, mget_mput_ne _ srt1 (lg_neT hg)]; exact m1
  obtain ⟨c5, I5, N5⟩ := create_nf I4 N4 (by omega) hlk.2.1 n4
  have l5 : (crS h4 (lg g)).l = mput h4.l (lg g) h4.files.length := crS_l I4 N4 (by omega) (lg g)
  have g5 : mget (crS h4 (lg g)).l (lg g) = ((h4.files.length : Nat) : Int) := by rw [l5, mget_mput _ srt4]
  have fl5 : (crS h4 (lg g)).files = h4.files ++ [(⟨[], 0⟩ : HFile)] := rfl
  obtain ⟨c6, I6, N6⟩ := sync_nf I5 N5 (by omega) g5
  have ft5 : fget (crS h4 (lg g)).files h4.files.length = (⟨[], 0⟩ : HFile) := fget_some (by rw [fl5]; simp)
  have fl6 : (syS (crS h4 (lg g)) h4.files.length).files = h4.files ++ [(⟨[], 0⟩ : HFile)] := by
    unfold syS; rw [ft5]
    show (h4.files ++ [_]).set _ _ = _
    rw [List.set_append_right _ _ (Nat.le_refl _), Nat.sub_self]; rfl
  generalize hh6 : syS (crS h4 (lg g)) h4.files.length = h6 at *
  have l6 : h6.l = mput h4.l (lg g) h4.files.length := by rw [← hh6]; exact l5
  have srt6 := I6.lok.1
  have g6t : mget h6.l kT = ((h1.files.length : Nat) : Int) := by rw [l6, mget_mput_ne _ srt4 (fun e => lg_neT hg e.symm), l4, mget_mput _ srt1]
  have g6l : mget h6.l (lg g) = ((h4.files.length : Nat) : Int) := by rw [l6, mget_mput _ srt4]
  obtain ⟨c7, I7, N7⟩ := rename_nf (k := kT) (q := kB) I6 N6 (by omega) (by decide) (by rw [g6t]; omega) (by decide)
  have l7 : (rnS h6 kT kB).l = mput (mdel h6.l kT) kB (mget h6.l kT) := rnS_l I6 N6 (by omega) (by rw [g6t]; omega)
  have hlen4 : h4.files.length = h1.files.length + 1 := by rw [fl4]; simp
  refine ⟨rnS h6 kT kB, h1.files.length, h4.files.length, ?_, I7.mono (by omega), N7, ?_, ?_, by omega, ?_, ?_, fun e he => ?_, ?_, fun e he => ?_⟩
  · unfold shelf_Shelf_lay_d0beRPO.f
    rw [hlk.1, Option.bind_some, c1, Option.bind_some]
    simp only [show ((0 : Int) == 0) = true from rfl, Bool.not_true, cond_false]
    rw [c2, Option.bind_some]
    simp only [show ((0 : Int) == 0) = true from rfl, cond_true]
    rw [base_ok g s.f_safe hx, Option.bind_some, c3, Option.bind_some]
    simp only [show ((0 : Int) == 0) = true from rfl, cond_true]
    rw [c4, Option.bind_some]
    simp only [show ((0 : Int) == 0) = true from rfl, cond_true, Option.bind_some]
    unfold shelf_each_f196x63.f
    rw [c5, Option.bind_some]
    simp only [show ((0 : Int) == 0) = true from rfl, cond_true]
    rw [c6, Option.bind_some]
    simp only [show ((0 : Int) == 0) = true from rfl, cond_true, Option.bind_some, Bool.not_true, cond_false]
    rw [c7, Option.bind_some]
    simp only [show ((0 : Int) == 0) = true from rfl, cond_true]
  · rw [l7, mget_mput _ (mdel_sorted srt6 _), g6t]
  · rw [l7, mget_mput_ne _ (mdel_sorted srt6 _) (lg_neB hg), mget_mdel_ne _ (lg_neT hg), g6l]
  · show h6.files[h1.files.length]? = _
    rw [fl6, fl4, List.getElem?_append_left (by simp), List.getElem?_append_right (Nat.le_refl _)]; simp
  · show h6.files[h4.files.length]? = _
    rw [fl6, List.getElem?_append_right (Nat.le_refl _)]; simp
  · rw [l7] at he
    rcases mput_mem he with rfl | he
    · exact .inl rfl
    · have hne : e.1 ≠ kT := by have := (List.mem_filter.1 he).2; simpa using this
      have he6 := mdel_mem he
      rw [l6] at he6
      rcases mput_mem he6 with rfl | he6
      · exact nm_lg hg
      · have he4 := he6
        rw [l4] at he4
        rcases mput_mem he4 with rfl | he4
        · exact absurd rfl hne
        · exact P1.l e he4
  · rw [l7]
    have a1 := mput_len (mdel h6.l kT) kB (mget h6.l kT)
    have a2 := mdel_len h6.l kT
    have a3 := mput_len h4.l (lg g) h4.files.length
    have a4 := mput_len h1.l kT h1.files.length
    rw [← l6] at a3
    rw [← l4] at a4
    omega
  · rw [l7] at he
    rcases mput_mem he with rfl | he
    · exact .inl rfl
    · have hne : e.1 ≠ kT := by have := (List.mem_filter.1 he).2; simpa using this
      have he6 := mdel_mem he
      rw [l6] at he6
      rcases mput_mem he6 with rfl | he6
      · exact .inr (.inl rfl)
      · have he4 := he6
        rw [l4] at he4
        rcases mput_mem he4 with rfl | he4
        · exact absurd rfl hne
        · exact .inr (.inr (sb1 e he4))
theorem turn_ok {b : Nat} {h : HS} (P : Pre b h) (hb : b ≤ 380) (s : shelf_Shelf) {g : Nat} (hg : g < 100) (hx : OkS s.f_safe) (hB : (baseB g s.f_safe).length ≤ 2400) :
    ∃ (h' : HS) (it i2 : Nat), shelf_Shelf_turn_d0beRPO.f s h (g : Int) = some (0, ⟨s.f_all, s.f_safe, s.f_wait, s.f_top, (g : Int), 0, 0⟩, h') ∧ Sy (b + 4) h' g it i2 s.f_safe [] ∧ h'.wait = [] ∧ h'.safe = h'.l ∧ h'.l.length ≤ h.l.length + 3 ∧ ∀ e ∈ h'.l, e.1 = kB ∨ e.1 = lg g ∨ e ∈ h.l := by
  obtain ⟨h1, it, i2, c1, I1, N1, m1, m2, hne, f1, f2, nm, hll⟩ := lay_ok P hb s hg hx hB
  obtain ⟨c2, I2, N2⟩ := sync_nf I1 N1 (by omega) m1
  have ft : fget h1.files it = (⟨baseB g s.f_safe, (baseB g s.f_safe).length⟩ : HFile) := fget_some f1
  have hlt : it < h1.files.length := (List.getElem?_eq_some_iff.1 f1).1
  refine ⟨syS h1 it, it, i2, ?_, ⟨⟨I2, N2, nm, (fun c hc => nomatch hc)⟩, hg, hx, ?_, ?_, fun k => ?_, hne⟩, rfl, rfl, hll⟩
  · unfold shelf_Shelf_turn_d0beRPO.f
    rw [c1, Option.bind_some]
    simp only [show ((0 : Int) == 0) = true from rfl, Bool.not_true, cond_false]
    rw [c2, Option.bind_some]
  · show (h1.files.set it _)[it]? = _
    rw [List.getElem?_set_self hlt, ft]
  · show (h1.files.set it _)[i2]? = _
    rw [set_get hne, f2]; rfl
  · show mget (now h1.l ([].take k)) _ = _ ∧ mget (now h1.l ([].take k)) _ = _
    rw [List.take_nil]
    exact ⟨m1, m2⟩
end Go.Proofs.YtpajmahpphcbaaaGreatDoor

/- A shelf on a host on which nothing fails: checkpoints and syncs; in plain words. -/
namespace Go.Proofs.YtpajmahpphcbaaaGreatDoor
open Kot Go
set_option maxRecDepth 100000
set_option linter.unusedSectionVars false
/-! ### sweep -/
def bad (g : Nat) (k : List UInt8) : Prop := k.take 4 = kL ∧ k ≠ lg g
instance (g : Nat) (k : List UInt8) : Decidable (bad g k) := by unfold bad; exact inferInstance
end Go.Proofs.YtpajmahpphcbaaaGreatDoor

/- A shelf that runs on a host on which nothing fails; in plain words. -/
namespace Go.Proofs.YtpajmahpphcbaaaGreatDoor
open Kot Go
set_option maxRecDepth 100000
set_option linter.unusedSectionVars false
def Pay.Gd (sh : List Nat) : Pay → Prop
  | .item _ _ w => Good sh w
  | .mark _ _ => True
theorem baseB_len (g : Nat) (x : List (List Int)) : (baseB g x).length = (pl x).length + 13 := by
  unfold baseB; rw [frame_len]; unfold baseP; simp [lay4_len]; omega
structure Run (b : Nat) (h : HS) (g ib il : Nat) (x : List (List Int)) (l : List Pay) (s : shelf_Shelf) : Prop where
  S : Sy b h g ib il x l
  gen : s.f_gen = (g : Int)
  size : s.f_size = ((frs l).length : Int)
  safe : s.f_safe = sidesOf x l
  all : s.f_all = puts s.f_safe s.f_wait
  shp : shape s.f_safe = shape x
  ws : ∀ w ∈ s.f_wait, Good (shape x) w
  wl : s.f_wait.length ≤ 30
  t0 : 0 ≤ s.f_tries
  t1 : s.f_tries < 4294967296
  lo : ∀ p ∈ l, p.Ok ∧ p.Gd (shape x)
  ll : l.length < 900
  fin : (rall rs0 l).last = (frs l).length
  sz : (pl x).length ≤ 1000
section
variable {b : Nat} {h : HS} {g ib il : Nat} {x : List (List Int)} {l : List Pay} {s : shelf_Shelf}
theorem Run.oks (R : Run b h g ib il x l s) : OkS s.f_safe := R.S.ok.shape R.shp
theorem Run.shAll (R : Run b h g ib il x l s) : shape s.f_all = shape x := by
  rw [R.all, puts_shape (fun w hw => by rw [R.shp]; exact (R.ws w hw).2), R.shp]
theorem Run.oka (R : Run b h g ib il x l s) : OkS s.f_all := R.S.ok.shape R.shAll
end
/-! ### a group goes to the log -/
section
variable {b : Nat} {h : HS} {g ib il : Nat} {x : List (List Int)} {l : List Pay} {s : shelf_Shelf}
def wsum (ws : List scroll_Write) : Nat := (ws.map fun w => w.f_Data.length + 22).sum
end
end Go.Proofs.YtpajmahpphcbaaaGreatDoor

/- Syncs and writes of a shelf on a host on which nothing fails; in plain words. -/
namespace Go.Proofs.YtpajmahpphcbaaaGreatDoor
open Kot Go
set_option maxRecDepth 100000
set_option linter.unusedSectionVars false
def Clean (h : HS) (g : Nat) : Prop := ∀ e ∈ h.l, ¬ bad g e.1
section
variable {b : Nat} {h : HS} {g ib il : Nat} {x : List (List Int)} {l : List Pay} {s : shelf_Shelf}
structure Done (b : Nat) (h : HS) (g : Nat) (s s' : shelf_Shelf) (b' : Nat) (h' : HS) (g' : Nat) : Prop where
  run : ∃ (ib il : Nat) (x : List (List Int)) (l : List Pay), Run b' h' g' ib il x l s'
  cl : Clean h' g'
  gle : g' ≤ g + 1
  ble : b' ≤ b + 9
  all : s'.f_all = s.f_all
  safe : s'.f_safe = s.f_all
  wait : s'.f_wait = []
  top : s'.f_top = s.f_top
  size : s'.f_size ≤ max 0 s.f_top
structure WNum (w : scroll_Write) : Prop where
  s0 : 0 ≤ w.f_Side
  s1 : w.f_Side < 256
  a0 : 0 ≤ w.f_At
  a1 : w.f_At < 4294967296
  d : w.f_Data.length ≤ 100000
theorem write_ok (R : Run b h g ib il x l s) (w : scroll_Write) (hw : WNum w) (hl : s.f_wait.length < 30) :
    ∃ (e : Int) (s' : shelf_Shelf), shelf_Shelf_Write_d0beRPO.f s h w = some (e, s', h) ∧ Run b h g ib il x l s' ∧ ((e = 1 ∧ s' = s ∧ ¬ Good (shape x) w) ∨ (e = 0 ∧ Good (shape x) w ∧ s' = ⟨put s.f_all w, s.f_safe, s.f_wait ++ [w], s.f_top, s.f_gen, s.f_tries, s.f_size⟩)) := by
  obtain ⟨s0, s1, a0, a1, dl⟩ := hw
  have ho := R.oka
  have h8 := ho.l8
  have hsh := R.shAll
  unfold shelf_Shelf_Write_d0beRPO.f
  by_cases hW : WOk w
  · rw [wright_ok w hW, Option.bind_some, Bool.not_true, cond_false, wrapI (i := w.f_Side) (by omega) (by omega)]
    have hWW := hW
    obtain ⟨q0, q1, q2, q3, q4, q5, q6⟩ := hW
    by_cases hS : (s.f_all.length : Int) ≤ w.f_Side
    · rw [decide_eq_true hS, cond_true]
      refine ⟨1, s, rfl, R, .inl ⟨rfl, rfl, fun hG => ?_⟩⟩
      obtain ⟨n, hn, _⟩ := hG.2
      rw [← hsh, shape_get] at hn
      rw [List.getElem?_eq_none (by omega)] at hn
      cases hn
    · have hlt : w.f_Side.toNat < s.f_all.length := by omega
      have hrow := ho.q s.f_all[w.f_Side.toNat] (List.getElem_mem _)
      have e1 : lget s.f_all w.f_Side = some s.f_all[w.f_Side.toNat] := by
        have := lget_lt hlt
        rwa [show ((w.f_Side.toNat : Nat) : Int) = w.f_Side by omega] at this
      rw [decide_eq_false hS, cond_false, e1, Option.bind_some, wrapI (i := w.f_At) (by omega) (by omega), wrapI (by omega) (by omega)]
      by_cases hF : ((s.f_all[w.f_Side.toNat].length : Nat) : Int) < w.f_At + (w.f_Data.length : Int)
      · rw [decide_eq_true hF, cond_true]
        refine ⟨1, s, rfl, R, .inl ⟨rfl, rfl, fun hG => ?_⟩⟩
        obtain ⟨n, hn, hn2⟩ := hG.2
        rw [← hsh, shape_get, List.getElem?_eq_getElem hlt] at hn
        cases hn
        omega
      · rw [decide_eq_false hF, cond_false]
        have hG : Good (shape x) w := ⟨hWW, s.f_all[w.f_Side.toNat].length, by rw [← hsh, shape_get, List.getElem?_eq_getElem hlt]; rfl, by omega⟩
        unfold shelf_Shelf_Write_d0beRPO.j1
        have e2 := lsub_nat (xs := s.f_all[w.f_Side.toNat]) (i := w.f_At.toNat) (j := s.f_all[w.f_Side.toNat].length) (by omega) (Nat.le_refl _)
        rw [show ((w.f_At.toNat : Nat) : Int) = w.f_At by omega, List.take_length] at e2
        have e3 : (!decide (w.f_Data.length ≤ (s.f_all[w.f_Side.toNat].drop w.f_At.toNat).length)) = false := by rw [decide_eq_true (by simp; omega)]; rfl
        rw [e1, Option.bind_some, e2, Option.bind_some, e3, cond_false, lim_ok (by simp; omega), Option.bind_some, Option.bind_some, lim_ok (by omega), Option.bind_some]
        have e4 : s.f_all.set w.f_Side.toNat (cpw s.f_all[w.f_Side.toNat] w.f_At w.f_Data) = put s.f_all w := by
          unfold put; rw [List.getD_eq_getElem?_getD, List.getElem?_eq_getElem hlt, Option.getD_some]
        rw [e4]
        refine ⟨0, _, rfl, ⟨R.S, R.gen, R.size, R.safe, ?_, R.shp, fun v hv => ?_, by simp; omega, R.t0, R.t1, R.lo, R.ll, R.fin, R.sz⟩, .inr ⟨rfl, hG, rfl⟩⟩
        · show put s.f_all w = puts s.f_safe (s.f_wait ++ [w])
          rw [puts_app, ← R.all]; rfl
        · rcases List.mem_append.1 hv with hv | hv
          · exact R.ws v hv
          · rw [List.mem_singleton.1 hv]; exact hG
  · have hr : scroll_Write_Right.f w = some false := by
      unfold scroll_Write_Right.f
      simp only [bnd]
      by_cases h1 : w.f_Side < 8
      · rw [decide_eq_true h1, cond_true]
        by_cases h2 : w.f_At < 65536
        · rw [decide_eq_true h2, cond_true]
          by_cases h3 : (1 : Int) ≤ (w.f_Data.length : Int)
          · rw [decide_eq_true h3, cond_true]
            by_cases h4 : (w.f_Data.length : Int) ≤ 4096
            · rw [decide_eq_true h4, cond_true, wrapI (i := w.f_At) (by omega) (by omega), wrapI (by omega) (by omega), decide_eq_false (fun h5 => hW ⟨s0, h1, a0, h2, by omega, by omega, h5⟩)]
            · rw [decide_eq_false h4, cond_false]
          · rw [decide_eq_false h3, cond_false]
        · rw [decide_eq_false h2, cond_false]
      · rw [decide_eq_false h1, cond_false]
    rw [hr, Option.bind_some, Bool.not_false, cond_true]
    exact ⟨1, s, rfl, R, .inl ⟨rfl, rfl, fun hG => hW hG.1⟩⟩
end
end Go.Proofs.YtpajmahpphcbaaaGreatDoor

/- A crash behind a sync, and a shelf that is opened; in plain words. -/
namespace Go.Proofs.YtpajmahpphcbaaaGreatDoor
open Kot Go
set_option maxRecDepth 100000
set_option linter.unusedSectionVars false
section
variable {b : Nat} {h : HS} {g ib il : Nat} {x : List (List Int)} {l : List Pay} {s : shelf_Shelf}
/-! ### Open -/
end
end Go.Proofs.YtpajmahpphcbaaaGreatDoor

/- The document's shelf is made: it answers; in plain words. -/
namespace Go.Proofs.YtpajmahpphcbaaaGreatDoor
open Kot Go
set_option maxRecDepth 100000
/-! ### bytes of the document's -/
theorem rjoin_loop (l : List (List Int)) (hl : l.length ≤ 1000000) (hN : lens l ≤ 1073741824) : ∀ (d i f : Nat), i + d = l.length → d < f → kotatsuref01_Join.l1 l f ((l.take i).flatten, (i : Int)) = some l.flatten
  | 0, i, f + 1, hk, _ => by
    simp only [kotatsuref01_Join.l1]
    rw [ltF (by omega), cond_false, List.take_of_length_le (by omega)]
  | d + 1, i, f + 1, hk, hf => by
    have hi : i < l.length := by omega
    have e2 := lens_take l i hi
    have e3 := lens_take_le l (i + 1)
    simp only [kotatsuref01_Join.l1]
    rw [ltT (by omega), cond_true, lget_lt hi, Option.bind_some, lim_ok (by rw [flat_len]; omega), Option.bind_some, wrap1 (by omega)]
    have e4 : (l.take i).flatten ++ l[i] = (l.take (i + 1)).flatten := by
      rw [List.take_add_one, List.getElem?_eq_getElem hi, Option.toList_some, List.flatten_append, List.flatten_singleton]
    rw [e4]
    exact rjoin_loop l hl hN d (i + 1) f (by omega) (by omega)
theorem rjoin_ok (l : List (List Int)) (hl : l.length ≤ 1000000) (hN : lens l ≤ 1073741824) : kotatsuref01_Join.f l = some l.flatten := by
  have := rjoin_loop l hl hN l.length 0 (((l.length : Int) - 0 : Int).toNat + 2) (by omega) (by omega)
  exact this
theorem rlay_ex (n : Int) : ∃ q, kotatsuref02_Lay.f n 4 = some q ∧ q.length = 4 := by
  refine ⟨[IntKind.wrap .u8 (Int.tmod n 256), IntKind.wrap .u8 (Int.tmod (quo .u64 n 256) 256), IntKind.wrap .u8 (Int.tmod (quo .u64 (quo .u64 n 256) 256) 256), IntKind.wrap .u8 (Int.tmod (quo .u64 (quo .u64 (quo .u64 n 256) 256) 256) 256)], ?_, rfl⟩
  kernel_rfl
theorem rbits_l4 (s : (List Int) × Int) (k : ((List Int) × Int) → Option (List Int)) : ∀ (d i f : Nat) (acc : List Int) (z : Int), i + d = 8 → d < f → acc.length ≤ 1000000 + i → ∃ a, a.length = acc.length + d ∧ kotatsuref02_bits.l4 s k f (acc, z, (i : Int)) = k (a, IntKind.wrap .i64 (s.2 + 1))
  | 0, i, f + 1, acc, z, hk, _, _ => by
    refine ⟨acc, rfl, ?_⟩
    simp only [kotatsuref02_bits.l4]
    rw [ltF (by omega), cond_false]
  | d + 1, i, f + 1, acc, z, hk, hf, ha => by
    simp only [kotatsuref02_bits.l4]
    rw [ltT (by omega), cond_true, lim_ok (by simp; omega), Option.bind_some, wrap1 (by omega)]
    obtain ⟨a, h1, h2⟩ := rbits_l4 s k d (i + 1) f (acc ++ [Int.tmod z 2]) (quo .i64 z 2) (by omega) (by omega) (by simp; omega)
    exact ⟨a, by rw [h1]; simp; omega, h2⟩
theorem rbits_ex (p : List Int) (hp : p.length ≤ 100000) : ∀ (d i f : Nat) (acc : List Int), i + d = p.length → d < f → acc.length = 8 * i → ∃ a, a.length = 8 * p.length ∧ kotatsuref02_bits.l1 p f (acc, (i : Int)) = some a
  | 0, i, f + 1, acc, hk, _, ha => by
    refine ⟨acc, by omega, ?_⟩
    simp only [kotatsuref02_bits.l1]
    rw [ltF (by omega), cond_false]
  | d + 1, i, f + 1, acc, hk, hf, ha => by
    simp only [kotatsuref02_bits.l1]
    rw [ltT (by omega), cond_true, lget_lt (by omega), Option.bind_some]
    obtain ⟨a, h1, h2⟩ := rbits_l4 (acc, (i : Int)) (kotatsuref02_bits.l1 p f) 8 0 ((8 - 0 : Int).toNat + 2) acc (IntKind.wrap .i64 p[i]) (by omega) (by decide) (by omega)
    simp only [Int.natCast_zero] at h2
    rw [h2, wrap1 (by omega)]
    exact rbits_ex p hp d (i + 1) f a (by omega) (by omega) (by omega)
theorem rlong_ex (r : List Int) (hr : r.length ≤ 1000000) : ∀ (d i f : Nat) (z : Int), i + d = r.length → d < f → ∃ a, kotatsuref02_Long.l1 r f (z, (i : Int)) = some a
  | 0, i, f + 1, z, hk, _ => by
    simp only [kotatsuref02_Long.l1, bnd]
    rw [ltF (by omega), cond_false]
    exact ⟨_, rfl⟩
  | d + 1, i, f + 1, z, hk, hf => by
    simp only [kotatsuref02_Long.l1, bnd]
    rw [ltT (by omega), cond_true, lget_lt (by omega), Option.bind_some, wrap1 (by omega)]
    cases h : (Int.tmod (IntKind.wrap .u64 (z + (IntKind.wrap .u64 r[i]))) 2) == 1
    · rw [cond_false]; exact rlong_ex r hr d (i + 1) f _ (by omega) (by omega)
    · rw [cond_true]; exact rlong_ex r hr d (i + 1) f _ (by omega) (by omega)
theorem rframe_ex (p : List Int) (hp : p.length ≤ 90000) : ∃ q, kotatsuref02_Frame.f p = some q ∧ q.length = p.length + 8 := by
  unfold kotatsuref02_Frame.f
  obtain ⟨q1, h1, l1⟩ := rlay_ex (IntKind.wrap .u64 (p.length : Int))
  rw [h1, Option.bind_some, rjoin_ok _ (by simp) (by simp [lens]; omega), Option.bind_some]
  obtain ⟨a, h2, l2⟩ := rbits_ex ([q1, p] : List (List Int)).flatten (by simp; omega) ([q1, p] : List (List Int)).flatten.length 0 (((([q1, p] : List (List Int)).flatten.length : Int) - 0 : Int).toNat + 2) [] (by omega) (by omega) rfl
  unfold kotatsuref02_Long.f
  have hb : kotatsuref02_bits.f ([q1, p] : List (List Int)).flatten = some a := l2
  have h2' : a.length = 8 * (q1.length + p.length) := by rw [h2]; simp
  rw [hb, Option.bind_some]
  obtain ⟨c, h3⟩ := rlong_ex a (by omega) a.length 0 (((a.length : Int) - 0 : Int).toNat + 2) 4294967295 (by omega) (by omega)
  simp only [Int.natCast_zero] at h3
  rw [h3, Option.bind_some]
  obtain ⟨q2, h4, l4⟩ := rlay_ex (IntKind.wrap .u64 c)
  rw [h4, Option.bind_some, rjoin_ok _ (by simp) (by simp [lens]; omega), Option.bind_some]
  exact ⟨_, rfl, by simp; omega⟩
theorem rbase_l2 (x : List (List Int)) (h : OkS x) (hsz : (pl x).length ≤ 1000) : ∀ (d i f : Nat) (acc : List Int), i + d = x.length → d < f → acc.length = 5 + (pl (x.take i)).length → ∃ q, kotatsuref04_Base.l2 x f (acc, (i : Int)) = some q ∧ q.length ≤ 2000
  | 0, i, f + 1, acc, hk, _, ha => by
    simp only [kotatsuref04_Base.l2]
    rw [List.take_of_length_le (by omega)] at ha
    rw [ltF (by omega), cond_false]
    obtain ⟨q, h1, h2⟩ := rframe_ex acc (by omega)
    rw [h1, Option.bind_some]
    exact ⟨q, rfl, by omega⟩
  | d + 1, i, f + 1, acc, hk, hf, ha => by
    have hi : i < x.length := by omega
    have hpl : (pl (x.take (i + 1))).length = (pl (x.take i)).length + 4 + x[i].length := by
      rw [List.take_add_one, List.getElem?_eq_getElem hi, Option.toList_some, pl_app, pl_cons]; simp [pl, lay4_len]; omega
    have hple : (pl (x.take (i + 1))).length ≤ (pl x).length := by
      have : pl x = pl (x.take (i + 1)) ++ pl (x.drop (i + 1)) := by rw [← pl_app, List.take_append_drop]
      rw [this]; simp
    simp only [kotatsuref04_Base.l2]
    obtain ⟨q1, h1, l1⟩ := rlay_ex (IntKind.wrap .u64 (x[i].length : Int))
    have h8 := h.l8
    rw [ltT (by omega), cond_true, lget_lt hi, Option.bind_some, h1, Option.bind_some, rjoin_ok _ (by simp) (by simp [lens]; omega), Option.bind_some, wrap1 (by omega)]
    exact rbase_l2 x h hsz d (i + 1) f _ (by omega) (by omega) (by simp; omega)
theorem rbase_ex (x : List (List Int)) (h : OkS x) (hsz : (pl x).length ≤ 1000) : ∃ q, kotatsuref04_Base.f 1 x = some q ∧ q.length ≤ 2000 := by
  have h1 := h.l1
  have h8 := h.l8
  unfold kotatsuref04_Base.f
  obtain ⟨q0, e0, l0⟩ := rlay_ex (IntKind.wrap .u64 1)
  rw [e0, Option.bind_some, lim_ok (by simp; omega), Option.bind_some]
  have hf : (((x.length : Int) - 0 : Int).toNat + 2) = (x.length + 1) + 1 := by omega
  rw [hf]
  simp only [kotatsuref04_Base.l1]
  have hpl : (pl (x.take 1)).length = 4 + x[0].length := by
    have : x.take 1 = [x[0]] := by
      rw [List.take_add_one, List.getElem?_eq_getElem (by omega : 0 < x.length)]; rfl
    rw [this, pl_cons]; simp [pl, lay4_len]
  have hple : (pl (x.take 1)).length ≤ (pl x).length := by
    have : pl x = pl (x.take 1) ++ pl (x.drop 1) := by rw [← pl_app, List.take_append_drop]
    rw [this]; simp
  obtain ⟨q1, e1, l1⟩ := rlay_ex (IntKind.wrap .u64 (x[0].length : Int))
  rw [ltT (by omega), cond_true, show lget x 0 = some x[0] from lget_lt (i := 0) (by omega), Option.bind_some, e1, Option.bind_some, rjoin_ok _ (by simp) (by simp [lens]; omega), Option.bind_some]
  exact rbase_l2 x h hsz (x.length - 1) 1 (x.length + 1) _ (by omega) (by omega) (by simp; omega)
/-! ### its host -/
def rx0 : kotatsuref01_Host := ⟨[], [[]], 1000000, -1, -1, 0⟩
abbrev kL1 : List UInt8 := [108, 111, 103, 46, 49]
def rx1 : kotatsuref01_Host := ⟨[⟨[], 0⟩], [[], [⟨kT, 0⟩]], 1000000, -1, -1, 0⟩
def rx2 (P : List Int) : kotatsuref01_Host := ⟨[⟨P, 0⟩], [[], [⟨kT, 0⟩]], 1000000, -1, -1, 0⟩
def rx3 (P : List Int) : kotatsuref01_Host := ⟨[⟨P, P.length⟩], [[⟨kT, 0⟩]], 1000000, -1, -1, 0⟩
def rx4 (P : List Int) : kotatsuref01_Host := ⟨[⟨P, P.length⟩, ⟨[], 0⟩], [[⟨kT, 0⟩], [⟨kL1, 1⟩, ⟨kT, 0⟩]], 1000000, -1, -1, 0⟩
def rx5 (P : List Int) : kotatsuref01_Host := ⟨[⟨P, P.length⟩, ⟨[], 0⟩], [[⟨kL1, 1⟩, ⟨kT, 0⟩]], 1000000, -1, -1, 0⟩
def rx6 (P : List Int) : kotatsuref01_Host := ⟨[⟨P, P.length⟩, ⟨[], 0⟩], [[⟨kL1, 1⟩, ⟨kT, 0⟩], [⟨kB, 0⟩, ⟨kL1, 1⟩]], 1000000, -1, -1, 0⟩
def rx7 (P : List Int) : kotatsuref01_Host := ⟨[⟨P, P.length⟩, ⟨[], 0⟩], [[⟨kB, 0⟩, ⟨kL1, 1⟩]], 1000000, -1, -1, 0⟩
theorem rd1 : kotatsuref01_Do_d0OO.f rx0 0 kT [] [] = some (0, rx1) := by kernel_rfl
theorem rd2 (P : List Int) (hP : P.length ≤ 2000) : kotatsuref01_Do_d0OO.f rx1 1 kT [] P = some (0, rx2 P) := by
  have e : kotatsuref01_Do_d0OO.f rx1 1 kT [] P = bif decide ((1000000 : Int) < (P.length : Int)) then some (7, rx1) else (kotatsuref01_Join.f [[], P]).bind fun r => some (0, ⟨[⟨r, 0⟩], [[], [⟨kT, 0⟩]], 1000000, -1, -1, 0⟩) := by kernel_rfl
  rw [e, decide_eq_false (by omega), cond_false, rjoin_ok _ (by simp) (by simp [lens]; omega), Option.bind_some]
  simp [rx2]
theorem rd3 (P : List Int) : kotatsuref01_Do_d0OO.f (rx2 P) 4 kT [] [] = some (0, rx3 P) := by kernel_rfl
theorem rd4 (P : List Int) : kotatsuref01_Do_d0OO.f (rx3 P) 0 kL1 [] [] = some (0, rx4 P) := by kernel_rfl
theorem rd5 (P : List Int) : kotatsuref01_Do_d0OO.f (rx4 P) 4 kL1 [] [] = some (0, rx5 P) := by kernel_rfl
theorem rd6 (P : List Int) : kotatsuref01_Do_d0OO.f (rx5 P) 5 kT kB [] = some (0, rx6 P) := by kernel_rfl
theorem rd7 (P : List Int) : kotatsuref01_Do_d0OO.f (rx6 P) 4 kB [] [] = some (0, rx7 P) := by kernel_rfl
end Go.Proofs.YtpajmahpphcbaaaGreatDoor

/- Both shelves are made, as the statements begin; in plain words. -/
namespace Go.Proofs.YtpajmahpphcbaaaGreatDoor
open Kot Go
set_option maxRecDepth 100000
/-! ### the program's -/
def nuH : HS := ⟨[], [], [], [], 1000000, -1, -1, 0⟩
theorem nu_pre : Pre 0 nuH :=
  ⟨⟨⟨by decide, by decide, by decide, by decide, by decide, by decide⟩, rfl, by decide, by decide, (by unfold msorted; exact List.Pairwise.nil), (fun e he => nomatch he), (fun c hc => nomatch hc), (fun f hf => nomatch hf)⟩, ⟨rfl, rfl, rfl⟩, (fun e he => nomatch he), (fun c hc => nomatch hc)⟩
theorem make_ok (x : List (List Int)) (hx : OkS x) (hz : (pl x).length ≤ 1000) (top : Int) :
    ∃ (h : HS) (ib il : Nat), shelf_Make.f nuH x top = some (some ⟨x, x, [], top, 1, 0, 0⟩, 0, h) ∧ Run 4 h 1 ib il x [] ⟨x, x, [], top, 1, 0, 0⟩ ∧ Clean h 1 ∧ h.wait = [] ∧ h.safe = h.l := by
  obtain ⟨h, ib, il, c1, S, dn1, dn2, _, nm⟩ := turn_ok nu_pre (by decide) ⟨x, x, [], top, 0, 0, 0⟩ (g := 1) (by decide) hx (by rw [baseB_len]; show (pl x).length + 13 ≤ 2400; omega)
  refine ⟨h, ib, il, ?_, ⟨S, rfl, rfl, rfl, rfl, rfl, (fun w hw => nomatch hw), Nat.zero_le _, Int.le_refl _, (by show (0 : Int) < 4294967296; decide), (fun p hp => nomatch hp), by decide, rfl, hz⟩, fun e he hb => ?_, dn1, dn2⟩
  · unfold shelf_Make.f
    rw [sright_ok x hx, Option.bind_some, Bool.not_true, cond_false, copied_ok x hx, Option.bind_some, Option.bind_some]
    have : ([98, 97, 115, 101] : List UInt8) = kB := rfl
    rw [there_ok nu_pre.I (by decide), this, show (!decide (mget nuH.l kB < 0)) = false from rfl, Option.bind_some, cond_false]
    have c1' : shelf_Shelf_turn_d0beRPO.f ⟨x, x, [], top, 0, 0, 0⟩ nuH 1 = _ := c1
    rw [c1', Option.bind_some]
    rfl
  · rcases nm e he with h1 | h1 | h1
    · exact absurd hb.1 (by rw [h1]; decide)
    · exact hb.2 h1
    · exact nomatch h1
/-! ### the document's -/
theorem rright_loop (x : List (List Int)) (h : OkS x) : ∀ (d i f : Nat), i + d = x.length → d < f → kotatsuref04_Right.l1 x f (i : Int) = some true
  | 0, i, f + 1, hk, _ => by
    have h1 := h.l1
    have h8 := h.l8
    simp only [kotatsuref04_Right.l1]
    rw [ltF (by omega), cond_false, ltT (by omega), cond_true, ltT (by omega)]
  | d + 1, i, f + 1, hk, hf => by
    have h8 := h.l8
    have hi : i < x.length := by omega
    have hq := h.q _ (List.getElem_mem hi)
    simp only [kotatsuref04_Right.l1]
    rw [ltT (by omega), cond_true, lget_lt hi, Option.bind_some, ltF (by omega), cond_false, wrap1 (by omega)]
    exact rright_loop x h d (i + 1) f (by omega) (by omega)
theorem rcopied_loop (x : List (List Int)) (h : OkS x) : ∀ (d i f : Nat), i + d = x.length → d < f → kotatsuref04_copied.l1 x f (x.take i, (i : Int)) = some x
  | 0, i, f + 1, hk, _ => by
    have h8 := h.l8
    simp only [kotatsuref04_copied.l1]
    rw [ltF (by omega), cond_false, List.take_of_length_le (by omega)]
  | d + 1, i, f + 1, hk, hf => by
    have h8 := h.l8
    have hi : i < x.length := by omega
    have hq := h.q _ (List.getElem_mem hi)
    simp only [kotatsuref04_copied.l1]
    rw [ltT (by omega), cond_true, lget_lt hi, Option.bind_some, rjoin_ok _ (by simp) (by simp [lens]; omega), Option.bind_some, lim_ok (by simp; omega), Option.bind_some, wrap1 (by omega)]
    have e : x.take i ++ [[x[i]].flatten] = x.take (i + 1) := by
      rw [List.take_add_one, List.getElem?_eq_getElem hi]; simp
    rw [e]
    exact rcopied_loop x h d (i + 1) f (by omega) (by omega)
theorem rcopied_ok (x : List (List Int)) (h : OkS x) : kotatsuref04_copied.f x = some x := rcopied_loop x h x.length 0 _ (by omega) (by omega)
def rsteps (P : List Int) : List kotatsuref04_Step :=
  [⟨0, kT, [], []⟩, ⟨1, kT, [], P⟩, ⟨4, kT, [], []⟩, ⟨0, kL1, [], []⟩, ⟨4, kL1, [], []⟩, ⟨5, kT, kB, []⟩, ⟨4, kB, [], []⟩]
theorem rrun_step {P : List Int} {n i : Nat} {x y : kotatsuref01_Host} {s : kotatsuref04_Step} (hs : (rsteps P)[i]? = some s) (hd : kotatsuref01_Do_d0OO.f x s.f_Call s.f_Name s.f_To s.f_P = some (0, y)) :
    kotatsuref04_run_d0OO.l1 (rsteps P) (n + 1) (x.f_Files, x.f_Steps, x.f_Limit, x.f_Arm, x.f_Fault, x.f_Reads, (i : Int)) = kotatsuref04_run_d0OO.l1 (rsteps P) n (y.f_Files, y.f_Steps, y.f_Limit, y.f_Arm, y.f_Fault, y.f_Reads, ((i + 1 : Nat) : Int)) := by
  have hl := (List.getElem?_eq_some_iff.1 hs)
  obtain ⟨hi, he⟩ := hl
  have h7 : (rsteps P).length = 7 := rfl
  have hi' : i < 7 := h7 ▸ hi
  simp only [kotatsuref04_run_d0OO.l1]
  rw [ltT (by omega), cond_true, lget_lt hi, he, Option.bind_some]
  have hd' : kotatsuref01_Do_d0OO.f ⟨x.f_Files, x.f_Steps, x.f_Limit, x.f_Arm, x.f_Fault, x.f_Reads⟩ s.f_Call s.f_Name s.f_To s.f_P = some (0, y) := hd
  rw [hd', Option.bind_some, wrap1 (by omega)]
  rfl
theorem rrun_ok (P : List Int) (hP : P.length ≤ 2000) : kotatsuref04_run_d0OO.f rx0 (rsteps P) = some (7, 0, rx7 P) := by
  have e0 : kotatsuref04_run_d0OO.f rx0 (rsteps P) = kotatsuref04_run_d0OO.l1 (rsteps P) 9 (rx0.f_Files, rx0.f_Steps, rx0.f_Limit, rx0.f_Arm, rx0.f_Fault, rx0.f_Reads, ((0 : Nat) : Int)) := rfl
  rw [e0, rrun_step (s := ⟨0, kT, [], []⟩) rfl rd1, rrun_step (s := ⟨1, kT, [], P⟩) rfl (rd2 P hP), rrun_step (s := ⟨4, kT, [], []⟩) rfl (rd3 P), rrun_step (s := ⟨0, kL1, [], []⟩) rfl (rd4 P), rrun_step (s := ⟨4, kL1, [], []⟩) rfl (rd5 P), rrun_step (s := ⟨5, kT, kB, []⟩) rfl (rd6 P), rrun_step (s := ⟨4, kB, [], []⟩) rfl (rd7 P)]
  rfl
theorem rturn_ok (x : List (List Int)) (hx : OkS x) (hz : (pl x).length ≤ 1000) (top : Int) : ∃ P, P.length ≤ 2000 ∧ kotatsuref04_turn_d0bOOePPN.f ⟨x, x, [], top, 0, 0, 0⟩ rx0 1 = some (0, ⟨x, x, [], top, 1, 0, 0⟩, rx7 P) := by
  obtain ⟨P, h1, h2⟩ := rbase_ex x hx hz
  refine ⟨P, h2, ?_⟩
  have e0 : kotatsuref04_turn_d0bOOePPN.f ⟨x, x, [], top, 0, 0, 0⟩ rx0 1 = (kotatsuref04_Base.f 1 x).bind fun p => (kotatsuref04_run_d0OO.f rx0 (rsteps p)).bind fun r => bif decide (6 ≤ r.1) then some (r.2.1, (⟨x, x, [], top, 1, 0, 0⟩ : kotatsuref04_Shelf), r.2.2) else some (r.2.1, (⟨x, x, [], top, 0, 0, 0⟩ : kotatsuref04_Shelf), r.2.2) := by kernel_rfl
  rw [e0, h1, Option.bind_some, rrun_ok P h2, Option.bind_some]
  rfl
theorem rmake_ok (x : List (List Int)) (hx : OkS x) (hz : (pl x).length ≤ 1000) (top : Int) : ∃ P, kotatsuref04_Make_d0OO.f rx0 x top = some (some ⟨x, x, [], top, 1, 0, 0⟩, 0, rx7 P) := by
  obtain ⟨P, _, h1⟩ := rturn_ok x hx hz top
  refine ⟨P, ?_⟩
  unfold kotatsuref04_Make_d0OO.f
  have hr : kotatsuref04_Right.f x = some true := rright_loop x hx x.length 0 _ (by omega) (by omega)
  rw [hr, Option.bind_some, Bool.not_true, cond_false, show kotatsuref01_Now_d0OO.f rx0 = some [] from rfl, Option.bind_some, show kotatsuref01_Find.f [] ([98, 97, 115, 101] : List UInt8) = some (-1) from rfl, Option.bind_some, show decide ((0 : Int) ≤ -1) = false from rfl, cond_false, rcopied_ok x hx, Option.bind_some, Option.bind_some, h1, Option.bind_some]
  rfl
/-! ### both -/
structure Beg (top : Int) (r : shelf_Shelf × HS × kotatsuref04_Shelf × kotatsuref01_Host × Bool) : Prop where
  ex : ∃ (x : List (List Int)) (ib il : Nat), r.1 = ⟨x, x, [], top, 1, 0, 0⟩ ∧ Run 4 r.2.1 1 ib il x [] r.1 ∧ Clean r.2.1 1
  dn : r.2.1.wait = [] ∧ r.2.1.safe = r.2.1.l
  sh : ∀ z ∈ r.1.f_safe, z.length ≤ 40
  s3 : r.1.f_safe.length ≤ 3
  s0 : ∃ t, r.1.f_safe = List.replicate 9 0 :: t
  ok : r.2.2.2.2 = true
  rf : r.2.2.1.f_All = r.1.f_safe
theorem pl_small : ∀ (x : List (List Int)), (∀ z ∈ x, z.length ≤ 40) → (pl x).length ≤ 44 * x.length
  | [], _ => by decide
  | z :: x, h => by
    have := pl_small x (fun y hy => h y (List.mem_cons_of_mem _ hy))
    have h1 := h z (List.mem_cons_self ..)
    rw [pl_cons]
    simp only [List.length_append, lay4_len, List.length_cons]
    omega
theorem begin_end (top : Int) (ht : 0 ≤ top) (ht2 : top < 65536) (x : List (List Int)) (h1 : 1 ≤ x.length) (h3 : x.length ≤ 3) (hq : ∀ z ∈ x, z.length ≤ 40) (t : List (List Int)) (h0 : x = List.replicate 9 0 :: t) :
    ∃ r, ((host_New.f 1000000).bind fun r10752 => (shelf_Make.f r10752 x (IntKind.wrap .i64 top)).bind fun r10762 => optb (r10762.1) (none) fun y10764 => ((kotatsuref01_New.f 1000000).bind fun r10783 => (kotatsuref04_Make_d0OO.f r10783 x (IntKind.wrap .i64 top)).bind fun r10792 => optb (r10792.1) (none) fun y10794 => (bif r10762.2.1 == 0 then (some (y10764, r10762.2.2, (⟨y10794.f_All, y10794.f_Safe, ([] : List kotatsuref03_Write), y10794.f_Top, y10794.f_Gen, y10794.f_Tries, y10794.f_Size⟩ : kotatsuref04_Shelf), r10792.2.2, r10792.2.1 == 0)) else (some (y10764, r10762.2.2, (⟨y10794.f_All, y10794.f_Safe, ([] : List kotatsuref03_Write), y10794.f_Top, y10794.f_Gen, y10794.f_Tries, y10794.f_Size⟩ : kotatsuref04_Shelf), r10792.2.2, false))))) = some r ∧ Beg top r := by
  have hx : OkS x := ⟨h1, by omega, fun z hz => by have := hq z hz; omega⟩
  have hz : (pl x).length ≤ 1000 := by have := pl_small x hq; omega
  obtain ⟨h, ib, il, e1, R, C, dn⟩ := make_ok x hx hz top
  obtain ⟨P, e2⟩ := rmake_ok x hx hz top
  rw [show host_New.f 1000000 = some nuH from rfl, Option.bind_some, wrapI (by omega) (by omega), e1, Option.bind_some]
  simp only [optb]
  rw [show kotatsuref01_New.f 1000000 = some rx0 from rfl, Option.bind_some, e2, Option.bind_some]
  refine ⟨_, rfl, ⟨x, ib, il, rfl, R, C⟩, dn, hq, h3, ⟨t, h0⟩, rfl, rfl⟩
theorem begin_loop (a0 : List Int) (ha : a0.length ≤ 9223372036854775807) (hr : ∀ n ∈ a0, 0 ≤ n ∧ n < 256) (top : Int) (ht : 0 ≤ top) (ht2 : top < 65536) : ∀ (d i f : Nat) (x : List (List Int)), i + d = a0.length → d < f → x.length ≤ i + 1 → x.length ≤ 3 → (∀ z ∈ x, z.length ≤ 40) → (∃ t, x = List.replicate 9 0 :: t) →
    ∃ r, kotatsulaw04_begin.l1 a0 top f (x, (i : Int)) = some r ∧ Beg top r
  | 0, i, f + 1, x, hk, _, _, h3, hq, ⟨t, h0⟩ => by
    simp only [kotatsulaw04_begin.l1]
    rw [ltF (by omega), cond_false]
    exact begin_end top ht ht2 x (by rw [h0]; simp) h3 hq t h0
  | d + 1, i, f + 1, x, hk, hf, hi1, h3, hq, ⟨t, h0⟩ => by
    have hi : i < a0.length := by omega
    obtain ⟨n1, n2⟩ := hr _ (List.getElem_mem hi)
    simp only [kotatsulaw04_begin.l1]
    rw [ltT (by omega), cond_true, lget_lt hi, Option.bind_some, wrap1 (by omega)]
    by_cases h2 : i < 2
    · have m1 : 0 ≤ Int.tmod a0[i] 40 := Int.tmod_nonneg _ n1
      have m2 : Int.tmod a0[i] 40 < 40 := Int.tmod_lt_of_pos _ (by decide)
      rw [ltT (by omega), cond_true, ltF (by omega), cond_false, lim_ok (by omega), Option.bind_some, lim_ok (by omega), Option.bind_some]
      refine begin_loop a0 ha hr top ht ht2 d (i + 1) f _ (by omega) (by omega) (by simp; omega) (by simp; omega) (fun z hz => ?_) ⟨t ++ [List.replicate (Int.tmod a0[i] 40).toNat (0 : Int)], by rw [h0]; rfl⟩
      rcases List.mem_append.1 hz with hz | hz
      · exact hq z hz
      · rw [List.mem_singleton.1 hz, List.length_replicate]; omega
    · rw [ltF (by omega), cond_false]
      exact begin_loop a0 ha hr top ht ht2 d (i + 1) f x (by omega) (by omega) (by omega) h3 hq ⟨t, h0⟩
theorem begin_ok (a0 : List Int) (ha : a0.length ≤ 9223372036854775807) (hr : ∀ n ∈ a0, 0 ≤ n ∧ n < 256) (top : Int) (ht : 0 ≤ top) (ht2 : top < 65536) : ∃ r, kotatsulaw04_begin.f a0 top = some r ∧ Beg top r := by
  unfold kotatsulaw04_begin.f
  rw [show decide (9 < 0) = false from rfl, cond_false, lim_ok (by decide), Option.bind_some]
  exact begin_loop a0 ha hr top ht ht2 a0.length 0 _ _ (by omega) (by omega) (by simp) (by simp) (fun z hz => by rw [List.mem_singleton.1 hz]; decide) ⟨[], rfl⟩
/-! ### an act's write -/
theorem cut_loop (p : List Int) (hp : p.length ≤ 9223372036854775807) (n : Nat) (hn : n ≤ 1000) : ∀ (d i f : Nat), i + d = p.length → d < f → kotatsuref01_Cut.l1 p (n : Int) f ((p.take n).take i, (i : Int)) = some (p.take n)
  | 0, i, f + 1, hk, _ => by
    simp only [kotatsuref01_Cut.l1]
    rw [ltF (by omega), cond_false, List.take_of_length_le (by rw [List.length_take]; omega)]
  | d + 1, i, f + 1, hk, hf => by
    have hi : i < p.length := by omega
    simp only [kotatsuref01_Cut.l1]
    rw [ltT (by omega), cond_true, lget_lt hi, Option.bind_some, wrap1 (by omega)]
    by_cases h : i < n
    · rw [ltT (by omega), cond_true, lim_ok (by simp; omega), Option.bind_some]
      have e : (p.take n).take i ++ [p[i]] = (p.take n).take (i + 1) := by
        rw [List.take_add_one (l := p.take n), List.getElem?_take, if_pos h, List.getElem?_eq_getElem hi]; rfl
      rw [e]
      exact cut_loop p hp n hn d (i + 1) f (by omega) (by omega)
    · rw [ltF (by omega), cond_false]
      have e : (p.take n).take i = (p.take n).take (i + 1) := by
        rw [List.take_take, List.take_take, Nat.min_eq_right (by omega), Nat.min_eq_right (by omega)]
      rw [e]
      exact cut_loop p hp n hn d (i + 1) f (by omega) (by omega)
theorem cut_ok (p : List Int) (hp : p.length ≤ 9223372036854775807) (n : Nat) (hn : n ≤ 1000) : kotatsuref01_Cut.f p (n : Int) = some (p.take n) := by
  have := cut_loop p hp n hn p.length 0 (((p.length : Int) - 0 : Int).toNat + 2) (by omega) (by omega)
  rwa [List.take_zero] at this
theorem sd_ok (s : shelf_Shelf) (h : HS) (hx : OkS s.f_all) : shelf_Shelf_Sides_d0beRPO.f s h = some s.f_all := by
  unfold shelf_Shelf_Sides_d0beRPO.f
  rw [copied_r0_ok _ hx, Option.bind_some]
theorem awake_ok : kotatsulaw04_awake.f = some true := by decide +kernel
end Go.Proofs.YtpajmahpphcbaaaGreatDoor

/- The acts that come in, and a write with its sync; in plain words. -/
namespace Go.Proofs.YtpajmahpphcbaaaGreatDoor
open Kot Go
set_option maxRecDepth 100000
theorem u8_of {a : Int} (h : (Lit.int .u8 a).wf = true) : 0 ≤ a ∧ a ≤ 255 := by simpa [Lit.wf, IntKind.min, IntKind.max, IntKind.signed, IntKind.bits] using h
theorem len_of {n : Nat} (h : n ≤ maxLen) : n ≤ 9223372036854775807 := h
structure Use (n m : Nat) (tp : Int) (h : HS) (s : shelf_Shelf) : Prop where
  run : ∃ (b g ib il : Nat) (x : List (List Int)) (l : List Pay), Run b h g ib il x l s ∧ Clean h g ∧ b ≤ 4 + 9 * n ∧ g ≤ 1 + n
  wl : s.f_wait.length ≤ m
  ws : wsum s.f_wait ≤ 34 * m
  top : s.f_top = tp
  sz : s.f_size ≤ max 0 tp
theorem Use.beg {top : Int} {r : shelf_Shelf × HS × kotatsuref04_Shelf × kotatsuref01_Host × Bool} (B : Beg top r) : Use 0 0 top r.2.1 r.1 := by
  obtain ⟨x, ib, il, e, R, C⟩ := B.ex
  refine ⟨⟨4, 1, ib, il, x, [], R, C, by decide, by decide⟩, ?_, ?_, ?_, ?_⟩ <;> rw [e]
  · exact Nat.le_refl _
  · exact Nat.le_refl _
  · show (0 : Int) ≤ max 0 top; omega
theorem Use.mono {n m n' m' : Nat} {top : Int} {h : HS} {s : shelf_Shelf} (U : Use n m top h s) (hn : n ≤ n') (hm : m ≤ m') : Use n' m' top h s := by
  obtain ⟨⟨b, g, ib, il, x, l, R, C, hb, hg⟩, wl, ws, tp, sz⟩ := U
  exact ⟨⟨b, g, ib, il, x, l, R, C, by omega, by omega⟩, by omega, by omega, tp, sz⟩
end Go.Proofs.YtpajmahpphcbaaaGreatDoor

