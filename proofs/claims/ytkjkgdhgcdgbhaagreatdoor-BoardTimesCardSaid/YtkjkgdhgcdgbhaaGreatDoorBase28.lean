/- Short words: runs of operations in one step, so that texts stay small; no program is named here. -/
import Derived.Test.YtkjkgdhgcdgbhaaGreatDoorBase27
namespace Kot
open Go
universe u
theorem Z {α : Sort u} {a : α} : a = a := rfl
structure T1 (P : Program) (t : TypeId) : Prop where
  s : ∀ w, (Go.sizeOf t).run P w = .ok 1 w
  a : ∀ w, (isAgg t).run P w = .ok false w
section
variable {α : Type} {C : NR} {Q : α → LB} {T A B : Option α} {c y' : Code} {e : JU} {hp : HL} {L : List HP} {ops l : List Oper} {d d2 d3 d4 : Nat} {t t' t3 : TypeId}
  {ty ty2 ty3 ty4 : TypeId} {ps ps2 ps3 ps4 : String} {es es2 es3 es4 : Array Edge} {x y z u : Operand} {f b off : Nat} {fs : Array Field} {fd : Field} {S : List Sg} {cs : List Value} {v v0 : Value} {tb : TypeId} {a n : Int} {k k' : IntKind} {p q : Bool} {pp : Addr}
theorem Ao (hN : Nat.blt d C.N = true) (K : LJ C Q T ops l (JI e d (ev e x)) hp L) : LJ C Q T ops (⟨some d, .move x, ty, ps, es, none⟩ :: l) e hp L := U1 hN mv K
theorem Py (h : (ev e x, Nat.blt d C.N) = (.pointer (some pp), true)) (K : LJ C Q T ops l (JI e d (.pointer (some pp))) hp L) : LJ C Q T ops (⟨some d, .nilCheck x, ty, ps, es, none⟩ :: l) e hp L :=
  U1 (Prod.mk.inj h).2 (nc (Prod.mk.inj h).1) K
theorem Ea {n : Nat} (hu : ∀ w, (underlying t).run C.P w = .ok (.struct fs) w) (h : (ev e x, fs[f]?, fd.type, Nat.blt d C.N) = (.pointer (some ⟨b, off, none⟩), some fd, t3, true)) (hs : ∀ w, (Go.sizeOf t3).run C.P w = .ok (n + 1) w)
    (K : LJ C Q T ops l (JI e d (.pointer (some ⟨b, off + fd.offset, none⟩))) hp L) : LJ C Q T ops (⟨some d, .fieldAddr t x f, ty, ps, es, none⟩ :: l) e hp L := by
  obtain ⟨h1, h⟩ := Prod.mk.inj h
  obtain ⟨h2, h⟩ := Prod.mk.inj h
  obtain ⟨h3, h4⟩ := Prod.mk.inj h
  subst h3
  exact U1 h4 (fa h1 hu h2 hs) K
theorem GU {n : Nat} (hu : ∀ w, (underlying t).run C.P w = .ok (.struct fs) w) (h : (ev e x, ev (JI e d (.pointer (some ⟨b, off, none⟩))) y, fs[f]?, fd.type, Nat.blt d C.N && Nat.blt d2 C.N) = (.pointer (some ⟨b, off, none⟩), .pointer (some ⟨b, off, none⟩), some fd, t3, true)) (hs : ∀ w, (Go.sizeOf t3).run C.P w = .ok (n + 1) w)
    (K : LJ C Q T ops l (JI (JI e d (.pointer (some ⟨b, off, none⟩))) d2 (.pointer (some ⟨b, off + fd.offset, none⟩))) hp L) : LJ C Q T ops (⟨some d, .nilCheck x, ty, ps, es, none⟩ :: ⟨some d2, .fieldAddr t y f, ty2, ps2, es2, none⟩ :: l) e hp L := by
  obtain ⟨h1, h⟩ := Prod.mk.inj h
  obtain ⟨h2, h⟩ := Prod.mk.inj h
  obtain ⟨h3, h⟩ := Prod.mk.inj h
  obtain ⟨h4, h5⟩ := Prod.mk.inj h
  simp only [Bool.and_eq_true] at h5
  subst h4
  exact U1 h5.1 (nc h1) (U1 h5.2 (fa h2 hu h3 hs) K)
theorem lfL (j : Nat) (hu : ∀ w, (underlying t).run C.P w = .ok (.struct fs) w)
    (h : (ev e x, ev (JI e d (.pointer (some ⟨b, off, none⟩))) y, fs[f]?, ev (JI (JI e d (.pointer (some ⟨b, off, none⟩))) d2 (.pointer (some ⟨b, off + fd.offset, none⟩))) z, L[j]?, cs[off + fd.offset]?, fd.type, Nat.blt d C.N && (Nat.blt d2 C.N && Nat.blt d3 C.N))
      = (.pointer (some ⟨b, off, none⟩), .pointer (some ⟨b, off, none⟩), some fd, .pointer (some ⟨b, off + fd.offset, none⟩), some (blk b tb cs), some v, t3, true)) (hs : T1 C.P t3)
    (K : LJ C Q T ops l (JI (JI (JI e d (.pointer (some ⟨b, off, none⟩))) d2 (.pointer (some ⟨b, off + fd.offset, none⟩))) d3 v) hp L) : LJ C Q T ops (⟨some d, .nilCheck x, ty, ps, es, none⟩ :: ⟨some d2, .fieldAddr t y f, ty2, ps2, es2, none⟩ :: ⟨some d3, .load t3 z, ty3, ps3, es3, none⟩ :: l) e hp L := by
  obtain ⟨h1, h⟩ := Prod.mk.inj h
  obtain ⟨h2, h⟩ := Prod.mk.inj h
  obtain ⟨h3, h⟩ := Prod.mk.inj h
  obtain ⟨h4, h⟩ := Prod.mk.inj h
  obtain ⟨h5, h⟩ := Prod.mk.inj h
  obtain ⟨h6, h⟩ := Prod.mk.inj h
  obtain ⟨h7, h8⟩ := Prod.mk.inj h
  simp only [Bool.and_eq_true] at h8
  subst h7
  exact U1 h8.1 (nc h1) (U1 h8.2.1 (fa h2 hu h3 hs.s) (U1 h8.2.2 (ld hs.a h4 (kn j h5) h6) K))
theorem lfS (j : Nat) (hu : ∀ w, (underlying t).run C.P w = .ok (.struct fs) w)
    (h : (ev e x, ev (JI e d (.pointer (some ⟨b, off, none⟩))) y, fs[f]?, ev (JI (JI e d (.pointer (some ⟨b, off, none⟩))) d2 (.pointer (some ⟨b, off + fd.offset, none⟩))) z, L[j]?, UF S (off + fd.offset), fd.type, Nat.blt d C.N && (Nat.blt d2 C.N && Nat.blt d3 C.N))
      = (.pointer (some ⟨b, off, none⟩), .pointer (some ⟨b, off, none⟩), some fd, .pointer (some ⟨b, off + fd.offset, none⟩), some (blk b tb (DL S)), some v, t3, true)) (hs : T1 C.P t3)
    (K : LJ C Q T ops l (JI (JI (JI e d (.pointer (some ⟨b, off, none⟩))) d2 (.pointer (some ⟨b, off + fd.offset, none⟩))) d3 v) hp L) : LJ C Q T ops (⟨some d, .nilCheck x, ty, ps, es, none⟩ :: ⟨some d2, .fieldAddr t y f, ty2, ps2, es2, none⟩ :: ⟨some d3, .load t3 z, ty3, ps3, es3, none⟩ :: l) e hp L := by
  obtain ⟨h1, h⟩ := Prod.mk.inj h
  obtain ⟨h2, h⟩ := Prod.mk.inj h
  obtain ⟨h3, h⟩ := Prod.mk.inj h
  obtain ⟨h4, h⟩ := Prod.mk.inj h
  obtain ⟨h5, h⟩ := Prod.mk.inj h
  obtain ⟨h6, h⟩ := Prod.mk.inj h
  obtain ⟨h7, h8⟩ := Prod.mk.inj h
  simp only [Bool.and_eq_true] at h8
  subst h7
  exact U1 h8.1 (nc h1) (U1 h8.2.1 (fa h2 hu h3 hs.s) (U1 h8.2.2 (Ja hs.a h4 (kn j h5) h6) K))
theorem IK (j : Nat) (hu : ∀ w, (underlying t).run C.P w = .ok (.struct fs) w)
    (h : (ev (JI e d4 (ev e u)) x, ev (JI (JI e d4 (ev e u)) d (.pointer (some ⟨b, off, none⟩))) y, fs[f]?, ev (JI (JI (JI e d4 (ev e u)) d (.pointer (some ⟨b, off, none⟩))) d2 (.pointer (some ⟨b, off + fd.offset, none⟩))) z, L[j]?, cs[off + fd.offset]?, fd.type, Nat.blt d C.N && (Nat.blt d2 C.N && Nat.blt d3 C.N), Nat.blt d4 C.N)
      = (.pointer (some ⟨b, off, none⟩), .pointer (some ⟨b, off, none⟩), some fd, .pointer (some ⟨b, off + fd.offset, none⟩), some (blk b tb cs), some v, t3, true, true)) (hs : T1 C.P t3)
    (K : LJ C Q T ops l (JI (JI (JI (JI e d4 (ev e u)) d (.pointer (some ⟨b, off, none⟩))) d2 (.pointer (some ⟨b, off + fd.offset, none⟩))) d3 v) hp L) : LJ C Q T ops (⟨some d4, .move u, ty4, ps4, es4, none⟩ :: ⟨some d, .nilCheck x, ty, ps, es, none⟩ :: ⟨some d2, .fieldAddr t y f, ty2, ps2, es2, none⟩ :: ⟨some d3, .load t3 z, ty3, ps3, es3, none⟩ :: l) e hp L := by
  simp only [Prod.mk.injEq] at h
  obtain ⟨h1, h2, h3, h4, h5, h6, h7, h8, h9⟩ := h
  exact Ao h9 (lfL j hu (by simp only [Prod.mk.injEq]; exact ⟨h1, h2, h3, h4, h5, h6, h7, h8⟩) hs K)
theorem CQ (j : Nat) (hu : ∀ w, (underlying t).run C.P w = .ok (.struct fs) w)
    (h : (ev (JI e d4 (ev e u)) x, ev (JI (JI e d4 (ev e u)) d (.pointer (some ⟨b, off, none⟩))) y, fs[f]?, ev (JI (JI (JI e d4 (ev e u)) d (.pointer (some ⟨b, off, none⟩))) d2 (.pointer (some ⟨b, off + fd.offset, none⟩))) z, L[j]?, UF S (off + fd.offset), fd.type, Nat.blt d C.N && (Nat.blt d2 C.N && Nat.blt d3 C.N), Nat.blt d4 C.N)
      = (.pointer (some ⟨b, off, none⟩), .pointer (some ⟨b, off, none⟩), some fd, .pointer (some ⟨b, off + fd.offset, none⟩), some (blk b tb (DL S)), some v, t3, true, true)) (hs : T1 C.P t3)
    (K : LJ C Q T ops l (JI (JI (JI (JI e d4 (ev e u)) d (.pointer (some ⟨b, off, none⟩))) d2 (.pointer (some ⟨b, off + fd.offset, none⟩))) d3 v) hp L) : LJ C Q T ops (⟨some d4, .move u, ty4, ps4, es4, none⟩ :: ⟨some d, .nilCheck x, ty, ps, es, none⟩ :: ⟨some d2, .fieldAddr t y f, ty2, ps2, es2, none⟩ :: ⟨some d3, .load t3 z, ty3, ps3, es3, none⟩ :: l) e hp L := by
  simp only [Prod.mk.injEq] at h
  obtain ⟨h1, h2, h3, h4, h5, h6, h7, h8, h9⟩ := h
  exact Ao h9 (lfS j hu (by simp only [Prod.mk.injEq]; exact ⟨h1, h2, h3, h4, h5, h6, h7, h8⟩) hs K)
theorem Nh (j : Nat) (hu : ∀ w, (underlying t).run C.P w = .ok (.struct fs) w)
    (h : (ev e x, ev (JI e d (.pointer (some ⟨b, off, none⟩))) y, fs[f]?, ev (JI (JI e d (.pointer (some ⟨b, off, none⟩))) d2 (.pointer (some ⟨b, off + fd.offset, none⟩))) z, ev (JI (JI e d (.pointer (some ⟨b, off, none⟩))) d2 (.pointer (some ⟨b, off + fd.offset, none⟩))) u, v.cells, v.oneCell', L[j]?, cs[off + fd.offset]?, fd.type, Nat.blt d C.N && Nat.blt d2 C.N)
      = (.pointer (some ⟨b, off, none⟩), .pointer (some ⟨b, off, none⟩), some fd, .pointer (some ⟨b, off + fd.offset, none⟩), v, #[v], true, some (blk b tb cs), some v0, t3, true)) (hs : T1 C.P t3)
    (K : LJ C Q T ops l (JI (JI e d (.pointer (some ⟨b, off, none⟩))) d2 (.pointer (some ⟨b, off + fd.offset, none⟩))) hp (L.set j (blk b tb (cs.set (off + fd.offset) v)))) : LJ C Q T ops (⟨some d, .nilCheck x, ty, ps, es, none⟩ :: ⟨some d2, .fieldAddr t y f, ty2, ps2, es2, none⟩ :: ⟨none, .store t3 z u, ty3, ps3, es3, none⟩ :: l) e hp L := by
  simp only [Prod.mk.injEq, Bool.and_eq_true] at h
  obtain ⟨h1, h2, h3, h4, h5, h6, h7, h8, h9, h10, h11⟩ := h
  subst h10
  exact U1 h11.1 (nc h1) (U1 h11.2 (fa h2 hu h3 hs.s) (O1 (st hs.s h4 h5 h6 h7 h8 h9 K)))
theorem Ji (j : Nat) (hu : ∀ w, (underlying t).run C.P w = .ok (.struct fs) w)
    (h : (ev e x, ev (JI e d (.pointer (some ⟨b, off, none⟩))) y, fs[f]?, ev (JI (JI e d (.pointer (some ⟨b, off, none⟩))) d2 (.pointer (some ⟨b, off + fd.offset, none⟩))) z, ev (JI (JI e d (.pointer (some ⟨b, off, none⟩))) d2 (.pointer (some ⟨b, off + fd.offset, none⟩))) u, v.cells, v.oneCell', L[j]?, UF S (off + fd.offset), fd.type, Nat.blt d C.N && Nat.blt d2 C.N)
      = (.pointer (some ⟨b, off, none⟩), .pointer (some ⟨b, off, none⟩), some fd, .pointer (some ⟨b, off + fd.offset, none⟩), v, #[v], true, some (blk b tb (DL S)), some v0, t3, true)) (hs : T1 C.P t3)
    (K : LJ C Q T ops l (JI (JI e d (.pointer (some ⟨b, off, none⟩))) d2 (.pointer (some ⟨b, off + fd.offset, none⟩))) hp (L.set j (blk b tb (DL (Wu S (off + fd.offset) v))))) : LJ C Q T ops (⟨some d, .nilCheck x, ty, ps, es, none⟩ :: ⟨some d2, .fieldAddr t y f, ty2, ps2, es2, none⟩ :: ⟨none, .store t3 z u, ty3, ps3, es3, none⟩ :: l) e hp L := by
  simp only [Prod.mk.injEq, Bool.and_eq_true] at h
  obtain ⟨h1, h2, h3, h4, h5, h6, h7, h8, h9, h10, h11⟩ := h
  subst h10
  exact U1 h11.1 (nc h1) (U1 h11.2 (fa h2 hu h3 hs.s) (O1 (TP hs.s h4 h5 h6 h7 h8 h9 K)))
/-! ### numbers -/
theorem D5 (h : (ev e x, ev e y, Nat.blt d C.N) = (.int k a, .int k n, true)) (K : LJ C Q T ops l (JI e d (.int k (k.wrap (a + n)))) hp L) : LJ C Q T ops (⟨some d, .binOp .add t x y t', ty, ps, es, none⟩ :: l) e hp L := by
  simp only [Prod.mk.injEq] at h; exact U1 h.2.2 (Rs h.1 h.2.1) K
theorem Lx (h : (ev e x, ev e y, Nat.blt d C.N) = (.int k a, .int k n, true)) (K : LJ C Q T ops l (JI e d (.int k (k.wrap (a - n)))) hp L) : LJ C Q T ops (⟨some d, .binOp .sub t x y t', ty, ps, es, none⟩ :: l) e hp L := by
  simp only [Prod.mk.injEq] at h; exact U1 h.2.2 (Rt h.1 h.2.1) K
theorem Sk (h : (ev e x, ev e y, Nat.blt d C.N) = (.int k a, .int k n, true)) (K : LJ C Q T ops l (JI e d (.int k (k.wrap (a * n)))) hp L) : LJ C Q T ops (⟨some d, .binOp .mul t x y t', ty, ps, es, none⟩ :: l) e hp L := by
  simp only [Prod.mk.injEq] at h; exact U1 h.2.2 (Wd h.1 h.2.1) K
theorem Ed (h : (ev e x, ev e y, Nat.blt d C.N) = (.int k a, .int k n, true)) (K : LJ C Q T ops l (JI e d (.int k (Bv k a n))) hp L) : LJ C Q T ops (⟨some d, .binOp .and t x y t', ty, ps, es, none⟩ :: l) e hp L := by
  simp only [Prod.mk.injEq] at h; exact U1 h.2.2 (Ma h.1 h.2.1) K
theorem Sn (h : (ev e x, ev e y, Nat.blt d C.N) = (.int k a, .int k n, true)) (K : LJ C Q T ops l (JI e d (.int k (M5 k a n))) hp L) : LJ C Q T ops (⟨some d, .binOp .or t x y t', ty, ps, es, none⟩ :: l) e hp L := by
  simp only [Prod.mk.injEq] at h; exact U1 h.2.2 (UQ h.1 h.2.1) K
theorem FY (h : (ev e x, ev e y, Nat.blt d C.N) = (.int k a, .int k n, true)) (K : LJ C Q T ops l (JI e d (.bool (a == n))) hp L) : LJ C Q T ops (⟨some d, .binOp .eql t x y t', ty, ps, es, none⟩ :: l) e hp L := by
  simp only [Prod.mk.injEq] at h; exact U1 h.2.2 (Xd h.1 h.2.1) K
theorem N7 (h : (ev e x, ev e y, Nat.blt d C.N) = (.int k a, .int k n, true)) (K : LJ C Q T ops l (JI e d (.bool (a != n))) hp L) : LJ C Q T ops (⟨some d, .binOp .neq t x y t', ty, ps, es, none⟩ :: l) e hp L := by
  simp only [Prod.mk.injEq] at h; exact U1 h.2.2 (Xz h.1 h.2.1) K
theorem Lt (h : (ev e x, ev e y, Nat.blt d C.N) = (.int k a, .int k n, true)) (K : LJ C Q T ops l (JI e d (.bool (decide (a < n)))) hp L) : LJ C Q T ops (⟨some d, .binOp .lss t x y t', ty, ps, es, none⟩ :: l) e hp L := by
  simp only [Prod.mk.injEq] at h; exact U1 h.2.2 (ilt h.1 h.2.1) K
theorem Xg (h : (ev e x, ev e y, Nat.blt d C.N) = (.int k a, .int k n, true)) (K : LJ C Q T ops l (JI e d (.bool (decide (a ≤ n)))) hp L) : LJ C Q T ops (⟨some d, .binOp .leq t x y t', ty, ps, es, none⟩ :: l) e hp L := by
  simp only [Prod.mk.injEq] at h; exact U1 h.2.2 (ile h.1 h.2.1) K
theorem TL (h : (ev e x, ev e y, Nat.blt d C.N) = (.int k a, .int k n, true)) (K : LJ C Q T ops l (JI e d (.bool (decide (n < a)))) hp L) : LJ C Q T ops (⟨some d, .binOp .gtr t x y t', ty, ps, es, none⟩ :: l) e hp L := by
  simp only [Prod.mk.injEq] at h; exact U1 h.2.2 (igt h.1 h.2.1) K
theorem Uw (h : (ev e x, ev e y, Nat.blt d C.N) = (.int k a, .int k n, true)) (K : LJ C Q T ops l (JI e d (.bool (decide (n ≤ a)))) hp L) : LJ C Q T ops (⟨some d, .binOp .geq t x y t', ty, ps, es, none⟩ :: l) e hp L := by
  simp only [Prod.mk.injEq] at h; exact U1 h.2.2 (ige h.1 h.2.1) K
theorem Yu (h : (ev e x, ev e y, (n == 0), Nat.blt d C.N) = (.int k a, .int k n, false, true)) (K : LJ C Q T ops l (JI e d (.int k (quo k a n))) hp L) : LJ C Q T ops (⟨some d, .binOp .quo t x y t', ty, ps, es, none⟩ :: l) e hp L := by
  simp only [Prod.mk.injEq] at h; exact U1 h.2.2.2 (Aa4 h.1 h.2.1 h.2.2.1) K
theorem Qb (h : (ev e x, ev e y, (n == 0), Nat.blt d C.N) = (.int k a, .int k n, false, true)) (K : LJ C Q T ops l (JI e d (.int k (a.tmod n))) hp L) : LJ C Q T ops (⟨some d, .binOp .rem t x y t', ty, ps, es, none⟩ :: l) e hp L := by
  simp only [Prod.mk.injEq] at h; exact U1 h.2.2.2 (Aac h.1 h.2.1 h.2.2.1) K
theorem SE (h : (ev e x, ev e y, decide (n < 0), Nat.blt d C.N) = (.int k a, .int k' n, false, true)) (K : LJ C Q T ops l (JI e d (.int k (shl k a n))) hp L) : LJ C Q T ops (⟨some d, .binOp .shl t x y t', ty, ps, es, none⟩ :: l) e hp L := by
  simp only [Prod.mk.injEq] at h; exact U1 h.2.2.2 (VE h.1 h.2.1 h.2.2.1) K
theorem Pq (h : (ev e x, ev e y, decide (n < 0), Nat.blt d C.N) = (.int k a, .int k' n, false, true)) (K : LJ C Q T ops l (JI e d (.int k (shr k a n))) hp L) : LJ C Q T ops (⟨some d, .binOp .shr t x y t', ty, ps, es, none⟩ :: l) e hp L := by
  simp only [Prod.mk.injEq] at h; exact U1 h.2.2.2 (WK h.1 h.2.1 h.2.2.1) K
theorem Ow (h : (ev e x, Nat.blt d C.N) = (.bool p, true)) (K : LJ C Q T ops l (JI e d (.bool (!p))) hp L) : LJ C Q T ops (⟨some d, .unOp .not t x, ty, ps, es, none⟩ :: l) e hp L := by
  simp only [Prod.mk.injEq] at h; exact U1 h.2 (Yk h.1) K
theorem Oo {sd : TypeDesc} (hs : ∀ w, (underlying t).run C.P w = .ok sd w) (hd : ∀ w, (underlying t').run C.P w = .ok (.int k') w) (h : (ev e x, Nat.blt d C.N) = (.int k a, true)) (K : LJ C Q T ops l (JI e d (.int k' (k'.wrap a))) hp L) : LJ C Q T ops (⟨some d, .convert t t' x, ty, ps, es, none⟩ :: l) e hp L := by
  simp only [Prod.mk.injEq] at h; exact U1 h.2 (RZ hs hd h.1) K
theorem Gi {c u z : Operand} (hp' : p = true) (h : (ev e c, ev e u, Nat.blt d C.N) = (.bool p, v, true)) (K : LJ C Q T ops l (JI e d v) hp L) : LJ C Q T ops (⟨some d, .pick c u z, ty, ps, es, none⟩ :: l) e hp L := by
  simp only [Prod.mk.injEq] at h; exact U1 h.2.2 (ZJ h.1 hp' h.2.1) K
theorem FP {c u z : Operand} (hp' : p = false) (h : (ev e c, ev e z, Nat.blt d C.N) = (.bool p, v, true)) (K : LJ C Q T ops l (JI e d v) hp L) : LJ C Q T ops (⟨some d, .pick c u z, ty, ps, es, none⟩ :: l) e hp L := by
  simp only [Prod.mk.injEq] at h; exact U1 h.2.2 (ZI h.1 hp' h.2.1) K
theorem OA {i : Nat} {vs : List Value} (h : (ev e x, vs[i]?, Nat.blt d C.N) = (.tuple vs.toArray, some v, true)) (K : LJ C Q T ops l (JI e d v) hp L) : LJ C Q T ops (⟨some d, .extract x i, ty, ps, es, none⟩ :: l) e hp L := by
  simp only [Prod.mk.injEq] at h; exact U1 h.2.2 (xt h.1 h.2.1) K
/-! ### guards -/
variable {j dj : Nat} {oj : Oper} {want w2 : Bool} {o : Op} {dst : Option Nat}
theorem B6 (hpb : p = q) (h : (ops[j]?, oj.dst, e dj, (q == want)) = (some oj, some dj, .bool p, true)) (K : LJ C Q T ops (⟨dst, o, ty, ps, es, none⟩ :: l) e hp L) : LJ C Q T ops (⟨dst, o, ty, ps, es, some (j, want)⟩ :: l) e hp L := by
  simp only [Prod.mk.injEq] at h; exact gT (I6 h.1 h.2.1 h.2.2.1 hpb h.2.2.2) K
def X6 (j dj : Nat) (want : Bool) (N : Nat) : Nat → List Oper → JU → Option (List Oper × JU)
  | 0, l, e => some (l, e)
  | n + 1, o :: l, e => match o.dst, o.guard with
    | some d, some (i, w) => bif Nat.beq i j && (w == want) && Nat.blt d N && !(Nat.beq dj d) then X6 j dj want N n l (JI e d undef) else none
    | _, _ => none
  | _ + 1, [], _ => none
theorem YL {hp : HL} {L : List HP} {dj : Nat} {oj : Oper} {p q want : Bool} (hpb : p = q) (hj : ops[j]? = some oj) (hd : oj.dst = some dj) (hq : (q == want) = false) {l' : List Oper} {e' : JU} (K : LJ C Q T ops l' e' hp L) (n : Nat) : ∀ (l : List Oper) (e : JU), e dj = .bool p → X6 j dj want C.N n l e = some (l', e') → LJ C Q T ops l e hp L := by
  induction n with
  | zero =>
    intro l e _ h
    simp only [X6, Option.some.injEq, Prod.mk.injEq] at h
    rw [h.1, h.2]; exact K
  | succ n ih =>
    intro l e he h
    cases l with
    | nil => simp [X6] at h
    | cons o l =>
      obtain ⟨dst, o, ty, ps, es, gd⟩ := o
      simp only [X6] at h
      cases dst with
      | none => simp at h
      | some d =>
        cases gd with
        | none => simp at h
        | some g =>
          obtain ⟨i, w⟩ := g
          simp only at h
          cases hc : (Nat.beq i j && (w == want) && Nat.blt d C.N && !(Nat.beq dj d)) with
          | false => rw [hc, cond_false] at h; cases h
          | true =>
            rw [hc, cond_true] at h
            simp only [Bool.and_eq_true, Bool.not_eq_true'] at hc
            obtain ⟨⟨⟨h1, h2⟩, h3⟩, h4⟩ := hc
            have e1 := Nat.eq_of_beq_eq_true h1
            have e2 : w = want := by simpa using h2
            subst e1 e2
            exact gF h3 (I6 hj hd he hpb hq) (ih l (JI e d undef) (by simp only [JI, h4, cond_false]; exact he) h)
theorem LM (n : Nat) {dj : Nat} {oj : Oper} {want : Bool} {l' : List Oper} {e' : JU} (hpb : p = q) (h : (ops[j]?, oj.dst, e dj, (q == want), X6 j dj want C.N n (⟨some d, o, ty, ps, es, some (j, want)⟩ :: l) e) = (some oj, some dj, .bool p, false, some (l', e'))) (K : LJ C Q T ops l' e' hp L) : LJ C Q T ops (⟨some d, o, ty, ps, es, some (j, want)⟩ :: l) e hp L := by
  simp only [Prod.mk.injEq] at h; exact YL hpb h.1 h.2.1 h.2.2.2.1 K n _ e h.2.2.1 h.2.2.2.2
end
/-! ### ends of regions, and what follows -/
section
variable {α : Type} {C : NR} {Q : α → LB} {T A B : Option α} {c x y z w : Code} {e : JU} {hp : HL} {L L2 : List HP} {ops l : List Oper} {id id2 : Nat} {o : Operand} {b : Bool} {fn : Func} {R : α → Value → HL → List HP → Prop} {v : Value} {t : Nat} {r : α}
theorem nx (K : SJ C Q T y e hp L) : LJ C (QY C y Q) T ops [] e hp L := Bn (nn K)
theorem Eb (K : LJ C (QY C z Q) T l l e hp L) : LJ C (QY C (.seq (.region id l.toArray false) z) Q) T ops [] e hp L := Bn (nn (seq (DR K)))
theorem NB (K : LJ C Q T l l e hp L) : LJ C (QY C (.region id l.toArray false) Q) T ops [] e hp L := Bn (nn (DR K))
theorem DW (hb : ev e o = .bool b) (h1 : SJ C Q A x e hp L) (h2 : SJ C Q B y e hp L) : LJ C (QY C (.cond o x y) Q) (bif b then A else B) ops [] e hp L := Bn (nn (Qr hb h1 h2))
theorem sr (K : LJ C (QY C y Q) T l l e hp L) : SJ C Q T (.seq (.region id l.toArray false) y) e hp L := seq (DR K)
theorem I4 (K : LJ C (QY C y (QY C z Q)) T l l e hp L) : SJ C Q T (.seq (.seq (.region id l.toArray false) y) z) e hp L := seq (seq (DR K))
theorem Ml (K : SJ C Q T y e hp L) : SJ C (QY C y Q) T .skip e hp L := H9 (nn K)
theorem Ot (K : LJ C (QY C z Q) T l l e hp L) : SJ C (QY C (.seq (.region id l.toArray false) z) Q) T .skip e hp L := H9 (nn (seq (DR K)))
theorem EX (hf : (fn.results, e t) = (#[.tmp t], v)) (h : R r v hp L) : XJ (Vq C fn R) (some r) .ret e hp L := by
  simp only [Prod.mk.injEq] at hf; exact q1 hf.1 er TT (rt hf.2) h
end
/-! ### the order of what is owned -/
section
variable {X : World} {J : HL → List HP → Prop} {hp : HL} {L : List HP}
def VX : List Nat → List HP → Option (List HP)
  | [], L => some L
  | i :: is, L => match L[i]? with
    | some _ => VX is (L.eraseIdx i)
    | none => none
theorem VY {L' : List HP} {w : World} : ∀ (is : List Nat) (L : List HP), VX is L = some L' → JH X hp L w → JH X hp L' w
  | [], L, h, k => by simp only [VX, Option.some.injEq] at h; rw [← h]; exact k
  | i :: is, L, h, k => by
    simp only [VX] at h
    cases hi : L[i]? with
    | none => rw [hi] at h; cases h
    | some A => rw [hi] at h; exact VY is _ h (LK k hi).drop
theorem QZ (c : Cv X J) (is : List Nat) {L' : List HP} (h : VX is L = some L') (k : J hp L') : J hp L := c.cv (fun _ hw => VY is L h hw) k
end
section
variable {X : World} {J : HL → List HP → Prop} {hp : HL} {L : List HP}
theorem JH.perm {X : World} {w : World} {L L' : List HP} (h : L.Perm L') (hw : JH X hp L w) : JH X hp L' w := by
  obtain ⟨a, hs, hn, hm⟩ := hw.ex
  obtain ⟨b, hs', hb'⟩ := XC h hs
  have hb := hb'.symm
  have hp' := List.Perm.append_left hp hb
  exact ⟨⟨b, hs', (List.Perm.nodup_iff (hp'.map Prod.fst)).1 hn, fun x hx => hm x (hp'.mem_iff.2 hx)⟩, hw.os, hw.tape, hw.output⟩
def V5 {τ : Type} (M : List τ) : List Nat → List τ → Option (List τ)
  | [], R => some R
  | i :: is, R => match M[i]?, V5 M is R with
    | some A, some l => some (A :: l)
    | _, _ => none
def Yb {τ : Type} : Nat → List τ → List τ
  | 0, L => L
  | n + 1, _ :: L => Yb n L
  | _ + 1, [] => []
theorem VW {τ : Type} : ∀ (n : Nat) (L : List τ), Yb n L = L.drop n
  | 0, _ => rfl
  | n + 1, [] => rfl
  | n + 1, _ :: L => VW n L
def Yq (m : Nat) (is : List Nat) : Bool := List.isPerm is (List.range m)
theorem V6 {τ : Type} {M : List τ} : ∀ (is : List Nat) (R l : List τ), V5 M is R = some l → ∃ P, is.mapM (fun i => M[i]?) = some P ∧ l = P ++ R
  | [], R, l, h => by simp only [V5, Option.some.injEq] at h; exact ⟨[], rfl, by rw [h]; rfl⟩
  | i :: is, R, l, h => by
    simp only [V5] at h
    cases hi : M[i]? with
    | none => rw [hi] at h; simp at h
    | some A =>
      cases hp : V5 M is R with
      | none => rw [hi, hp] at h; simp at h
      | some l' =>
        rw [hi, hp] at h
        simp only [Option.some.injEq] at h
        obtain ⟨P, h1, h2⟩ := V6 is R l' hp
        exact ⟨A :: P, by simp [List.mapM_cons, hi, h1], by rw [← h, h2]; rfl⟩
theorem WQ {m : Nat} {is : List Nat} (h : Yq m is = true) : is.Perm (List.range m) := List.isPerm_iff.1 h
theorem Wm {τ : Type} {M : List τ} : ∀ (is : List Nat) (P : List τ), is.mapM (fun i => M[i]?) = some P → P.map some = is.map (fun i => M[i]?)
  | [], P, h => by simp at h; subst h; rfl
  | i :: is, P, h => by
    simp only [List.mapM_cons] at h
    cases hi : M[i]? with
    | none => rw [hi] at h; simp at h
    | some A =>
      rw [hi] at h
      cases hP : is.mapM (fun i => M[i]?) with
      | none => rw [hP] at h; simp at h
      | some P' =>
        rw [hP] at h
        simp at h
        subst h
        simp [Wm is P' hP, hi]
theorem Vn {τ : Type} {P Q : List τ} (h : (P.map some).Perm (Q.map some)) : P.Perm Q := by
  have := h.filterMap id
  simpa [List.filterMap_map] using this
theorem Pm (c : Cv X J) (is : List Nat) {L' : List HP} (h : (V5 L is (Yb is.length L), Yq is.length is, Nat.ble is.length L.length) = (some L', true, true)) (k : J hp L') : J hp L := c.cv (fun w hw => by
  simp only [Prod.mk.injEq] at h
  obtain ⟨h1, h2, h3⟩ := h
  obtain ⟨P, h4, h5⟩ := V6 _ _ _ h1
  have hle := Nat.le_of_ble_eq_true h3
  rw [VW] at h5
  have hp1 : (P.map some).Perm ((L.take is.length).map some) := by
    rw [Wm _ _ h4]
    have e1 : (L.take is.length).map some = (List.range is.length).map (fun i => L[i]?) := by
      apply List.ext_getElem?
      intro i
      simp only [List.getElem?_map, List.getElem?_take, List.getElem?_range']
      by_cases hi : i < is.length
      · have : i < L.length := by omega
        simp [hi, this]
      · simp [hi]
    rw [e1]
    exact (WQ h2).map _
  have hp2 := Vn hp1
  rw [h5]
  refine hw.perm ?_
  have : L = L.take is.length ++ L.drop is.length := (List.take_append_drop _ _).symm
  exact (this ▸ List.Perm.refl L : L.Perm (L.take is.length ++ L.drop is.length)).trans ((List.Perm.append_right _ hp2).symm)) k
end
/-! ### calls -/
section
variable {α β : Type} {C : NR} {Q : α → LB} {U : Option β} {K : β → Option α} {e : JU} {hp : HL} {L : List HP} {ops l : List Oper} {ty : TypeId} {ps : String} {es : Array Edge}
    {d f : Nat} {xs : Array Operand} {ts : Array TypeId} {args : List Value} {c : Code} {T : Option α}
theorem cI {V : β → Value} {H : β → HL} {M : β → List HP} (hc : ∀ args w, (callFunc f args).run C.P w = .ok (.enter f args) w) (ha : (xs.toList.map (ev e), Nat.blt d C.N) = (args, true))
    (h : DJ C.P C.X U f args hp L (fun r => Is (V r) (H r) (M r))) (k : ∀ r, LJ C Q (K r) ops l (JI e d (V r)) (H r) (M r)) :
    LJ C Q (U.bind K) ops (⟨some d, .call ⟨.value (.func f), xs, ts⟩, ty, ps, es, none⟩ :: l) e hp L := by
  simp only [Prod.mk.injEq] at ha; exact tk fun r hr => O1 (YX ha.2 hc ha.1 h hr (k r))
theorem cE {ι : β → Type} {V : (b : β) → ι b → Value} {Φ : (b : β) → ι b → HL → Prop} {M : (b : β) → ι b → List HP} (hc : ∀ args w, (callFunc f args).run C.P w = .ok (.enter f args) w) (ha : (xs.toList.map (ev e), Nat.blt d C.N) = (args, true))
    (h : DJ C.P C.X U f args hp L (fun r => Ex (V r) (Φ r) hp (M r))) (k : ∀ r s hp', sub hp hp' → Φ r s hp' → LJ C Q (K r) ops l (JI e d (V r s)) hp' (M r s)) :
    LJ C Q (U.bind K) ops (⟨some d, .call ⟨.value (.func f), xs, ts⟩, ty, ps, es, none⟩ :: l) e hp L := by
  simp only [Prod.mk.injEq] at ha; exact tk fun r hr => O1 (RU ha.2 hc ha.1 h hr (k r))
end
/-! ### regions whose order is open: what only reckons, by a list of places -/
section
variable {α : Type} {C : NR} {S : World → Prop} {Q : α → LB} {T : Option α} {ops : List Oper} {n : Nat} {ls : List Bool} {e : JU} {hp : HL} {L : List HP}
  {d : Nat} {v : Value} {o : Op} {ty : TypeId} {ps : String} {es : Array Edge} {i j : Nat} {is : List Nat} {want : Bool}
def V4 (ops : List Oper) : List Bool → List Nat → Bool
  | _, [] => true
  | ls, i :: is => TM ops ls i && V4 ops (ls.set i true) is
structure AQ (C : NR) (S : World → Prop) (Q : α → LB) (T : Option α) (ops : List Oper) (n : Nat) (ls : List Bool) (is : List Nat) (e : JU) (hp : HL) (L : List HP) : Prop where
  go : V4 ops ls is = true → AJ C S Q T ops n ls e hp L
theorem aq (is : List Nat) (h : V4 ops ls is = true) (k : AQ C S Q T ops n ls is e hp L) : AJ C S Q T ops n ls e hp L := k.go h
theorem az (k : AJ C S Q T ops n ls e hp L) : AQ C S Q T ops n ls [] e hp L := ⟨fun _ => k⟩
theorem aU (hi : (ops[i]?, Nat.blt d C.N) = (some ⟨some d, o, ty, ps, es, none⟩, true)) (h : NG C S ⟨some d, o, ty, ps, es, none⟩ e v)
    (k : AQ C S Q T ops n (ls.set i true) is (JI e d v) hp L) : AQ C S Q T ops (n + 1) ls (i :: is) e hp L := ⟨fun hs => by
  simp only [Prod.mk.injEq] at hi
  simp only [V4, Bool.and_eq_true] at hs
  exact AU i hi.1 hs.1 hi.2 h (k.go hs.2)⟩
theorem Tx (hi : (ops[i]?, Nat.blt d C.N) = (some ⟨some d, o, ty, ps, es, some (j, want)⟩, true)) (hg : Vj e ops j want true) (h : NG C S ⟨some d, o, ty, ps, es, some (j, want)⟩ e v)
    (k : AQ C S Q T ops n (ls.set i true) is (JI e d v) hp L) : AQ C S Q T ops (n + 1) ls (i :: is) e hp L := ⟨fun hs => by
  simp only [Prod.mk.injEq] at hi
  simp only [V4, Bool.and_eq_true] at hs
  exact AUg i hi.1 hs.1 hi.2 hg h (k.go hs.2)⟩
theorem aF (hi : (ops[i]?, Nat.blt d C.N) = (some ⟨some d, o, ty, ps, es, some (j, want)⟩, true)) (hg : Vj e ops j want false)
    (k : AQ C S Q T ops n (ls.set i true) is (JI e d undef) hp L) : AQ C S Q T ops (n + 1) ls (i :: is) e hp L := ⟨fun hs => by
  simp only [Prod.mk.injEq] at hi
  simp only [V4, Bool.and_eq_true] at hs
  exact AFg i hi.1 hs.1 hi.2 hg (k.go hs.2)⟩
end
end Kot
namespace Kot
open Go
/-! ### calls whose tree's end is known before -/
section
variable {α β : Type} {C : NR} {U : Option β} {r : β} {e : JU} {hp : HL} {L : List HP} {ty : TypeId} {ps : String} {es : Array Edge} {gd : Option (Nat × Bool)} {G : JU → HL → List HP → Prop}
    {d f : Nat} {xs : Array Operand} {ts : Array TypeId} {args : List Value} {o : Operand} {first caps : List Value}
theorem dI {V : β → Value} {H : β → HL} {M : β → List HP} (hc : ∀ args w, (callFunc f args).run C.P w = .ok (.enter f args) w) (ha : (xs.toList.map (ev e), Nat.blt d C.N) = (args, true)) (hr : U = some r)
    (h : DJ C.P C.X U f args hp L (fun r => Is (V r) (H r) (M r))) (k : G (JI e d (V r)) (H r) (M r)) : EE C ⟨some d, .call ⟨.value (.func f), xs, ts⟩, ty, ps, es, gd⟩ e hp L G := by
  simp only [Prod.mk.injEq] at ha; exact YX ha.2 hc ha.1 h hr k
theorem dE {ι : β → Type} {V : (b : β) → ι b → Value} {Φ : (b : β) → ι b → HL → Prop} {M : (b : β) → ι b → List HP} (hc : ∀ args w, (callFunc f args).run C.P w = .ok (.enter f args) w) (ha : (xs.toList.map (ev e), Nat.blt d C.N) = (args, true)) (hr : U = some r)
    (h : DJ C.P C.X U f args hp L (fun r => Ex (V r) (Φ r) hp (M r))) (k : ∀ s hp', sub hp hp' → Φ r s hp' → G (JI e d (V r s)) hp' (M r s)) : EE C ⟨some d, .call ⟨.value (.func f), xs, ts⟩, ty, ps, es, gd⟩ e hp L G := by
  simp only [Prod.mk.injEq] at ha; exact RU ha.2 hc ha.1 h hr k
theorem wI {V : β → Value} {H : β → HL} {M : β → List HP} (hv : ev e o = .func (.func f) first.toArray caps.toArray) (hc : ∀ args w, (callFunc f args).run C.P w = .ok (.enter f args) w) (ha : (first ++ xs.toList.map (ev e) ++ caps, Nat.blt d C.N) = (args, true)) (hr : U = some r)
    (h : DJ C.P C.X U f args hp L (fun r => Is (V r) (H r) (M r))) (k : G (JI e d (V r)) (H r) (M r)) : EE C ⟨some d, .call ⟨.value o, xs, ts⟩, ty, ps, es, gd⟩ e hp L G := by
  simp only [Prod.mk.injEq] at ha; exact Zn ha.2 hv hc ha.1 h hr k
theorem wE {ι : β → Type} {V : (b : β) → ι b → Value} {Φ : (b : β) → ι b → HL → Prop} {M : (b : β) → ι b → List HP} (hv : ev e o = .func (.func f) first.toArray caps.toArray) (hc : ∀ args w, (callFunc f args).run C.P w = .ok (.enter f args) w) (ha : (first ++ xs.toList.map (ev e) ++ caps, Nat.blt d C.N) = (args, true)) (hr : U = some r)
    (h : DJ C.P C.X U f args hp L (fun r => Ex (V r) (Φ r) hp (M r))) (k : ∀ s hp', sub hp hp' → Φ r s hp' → G (JI e d (V r s)) hp' (M r s)) : EE C ⟨some d, .call ⟨.value o, xs, ts⟩, ty, ps, es, gd⟩ e hp L G := by
  simp only [Prod.mk.injEq] at ha; exact Zm ha.2 hv hc ha.1 h hr k
end
end Kot
