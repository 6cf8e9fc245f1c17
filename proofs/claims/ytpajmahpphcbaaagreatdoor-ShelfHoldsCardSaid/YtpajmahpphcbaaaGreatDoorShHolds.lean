/- The plain law of ShelfHolds. -/
import Derived.Test.YtpajmahpphcbaaaGreatDoorShAll
namespace Go.Proofs.YtpajmahpphcbaaaGreatDoor
open Kot Go
set_option maxRecDepth 100000
set_option linter.unusedSectionVars false
theorem sh_ok (s : Q3) (h : HS) (hx : OkS s.f_safe) : Q8.f s h = some s.f_safe := by
  unfold Q8.f
  rw [copied_ok _ hx, Option.bind_some]
/-! ### Same -/
theorem sameo0_loop (p : List Int) (hp : p.length ≤ 100000) : ∀ (d i f : Nat), i + d = p.length → d < f → Q1g.l1 p p f (i : Int) = some true
  | 0, i, f + 1, hk, _ => by
    simp only [Q1g.l1]
    rw [ltF (by omega), cond_false]
  | d + 1, i, f + 1, hk, hf => by
    simp only [Q1g.l1]
    rw [ltT (by omega), cond_true, lget_lt (by omega), Option.bind_some, Option.bind_some, bne_self_eq_false, cond_false, wrap1 (by omega)]
    exact sameo0_loop p hp d (i + 1) f (by omega) (by omega)
theorem same0_loop (x : Sd) (h : OkS x) : ∀ (d i f : Nat), i + d = x.length → d < f → Q9.l1 x x f (i : Int) = some true
  | 0, i, f + 1, hk, _ => by
    simp only [Q9.l1]
    rw [ltF (by omega), cond_false]
  | d + 1, i, f + 1, hk, hf => by
    have h8 := h.l8
    have hi : i < x.length := by omega
    have hq := h.q _ (List.getElem_mem hi)
    have hs : Q1g.f x[i] x[i] = some true := by
      unfold Q1g.f
      rw [bne_self_eq_false, cond_false]
      exact sameo0_loop x[i] (by omega) x[i].length 0 _ (by omega) (by omega)
    simp only [Q9.l1]
    rw [ltT (by omega), cond_true, lget_lt hi, Option.bind_some, Option.bind_some, hs, Option.bind_some, Bool.not_true, cond_false, wrap1 (by omega)]
    exact same0_loop x h d (i + 1) f (by omega) (by omega)
theorem same0_ok (x : Sd) (h : OkS x) : Q9.f x x = some true := by
  unfold Q9.f
  rw [bne_self_eq_false, cond_false]
  exact same0_loop x h x.length 0 _ (by omega) (by omega)
theorem sameo1_loop (p q : List Int) (hp : p.length ≤ 100000) (hl : p.length = q.length) : ∀ (d i f : Nat), i + d = p.length → d < f → ∃ b, Q1f.l1 p q f (i : Int) = some b ∧ (p = q → b = true)
  | 0, i, f + 1, hk, _ => by
    simp only [Q1f.l1]
    rw [ltF (by omega), cond_false]
    exact ⟨true, rfl, fun _ => rfl⟩
  | d + 1, i, f + 1, hk, hf => by
    have hi : i < p.length := by omega
    have hj : i < q.length := by omega
    simp only [Q1f.l1]
    rw [ltT (by omega), cond_true, lget_lt hi, Option.bind_some, lget_lt hj, Option.bind_some, wrap1 (by omega)]
    by_cases he : p[i] = q[i]
    · rw [show (p[i] != q[i]) = false by simpa using he, cond_false]
      exact sameo1_loop p q hp hl d (i + 1) f (by omega) (by omega)
    · rw [show (p[i] != q[i]) = true by simpa using he, cond_true]
      exact ⟨false, rfl, fun e => absurd (by subst e; rfl) he⟩
theorem same1_loop (x y : Sd) (h : OkS x) (hl : x.length = y.length) : ∀ (d i f : Nat), i + d = x.length → d < f → ∃ b, Q1e.l1 x y f (i : Int) = some b ∧ (x = y → b = true)
  | 0, i, f + 1, hk, _ => by
    simp only [Q1e.l1]
    rw [ltF (by omega), cond_false]
    exact ⟨true, rfl, fun _ => rfl⟩
  | d + 1, i, f + 1, hk, hf => by
    have h8 := h.l8
    have hi : i < x.length := by omega
    have hj : i < y.length := by omega
    have hq := h.q _ (List.getElem_mem hi)
    have hs : ∃ b, Q1f.f x[i] y[i] = some b ∧ (x = y → b = true) := by
      unfold Q1f.f
      by_cases he : x[i].length = y[i].length
      · rw [show ((x[i].length : Int) != (y[i].length : Int)) = false by simp [he], cond_false]
        obtain ⟨b, h1, h2⟩ := sameo1_loop x[i] y[i] (by omega) he x[i].length 0 (((x[i].length : Int) - 0 : Int).toNat + 2) (by omega) (by omega)
        exact ⟨b, h1, fun e => h2 (by subst e; rfl)⟩
      · rw [show ((x[i].length : Int) != (y[i].length : Int)) = true by simp; omega, cond_true]
        exact ⟨false, rfl, fun e => absurd (by subst e; rfl) he⟩
    obtain ⟨b, hb, hb2⟩ := hs
    simp only [Q1e.l1]
    rw [ltT (by omega), cond_true, lget_lt hi, Option.bind_some, lget_lt hj, Option.bind_some, hb, Option.bind_some]
    cases b
    · exact ⟨false, rfl, fun e => nomatch hb2 e⟩
    · rw [Bool.not_true, cond_false, wrap1 (by omega)]
      exact same1_loop x y h hl d (i + 1) f (by omega) (by omega)
theorem same1_tot (x y : Sd) (h : OkS x) : ∃ b, Q1e.f x y = some b ∧ (x = y → b = true) := by
  unfold Q1e.f
  by_cases hl : x.length = y.length
  · rw [show ((x.length : Int) != (y.length : Int)) = false by simp [hl], cond_false]
    exact same1_loop x y h hl x.length 0 _ (by omega) (by omega)
  · rw [show ((x.length : Int) != (y.length : Int)) = true by simp; omega, cond_true]
    exact ⟨false, rfl, fun e => absurd (by subst e; rfl) hl⟩
/-! ### what holds behind i acts -/
theorem Use2.cong {A B : Sd → Prop} {b g : Nat} {h : HS} {s : Q3} (U : Use2 A b h g s) (hh : ∀ a, A a ↔ B a) : Use2 B b h g s := by
  obtain ⟨⟨X, N, ib, il, x, l, z, w, L, hX⟩, hgen⟩ := U
  exact ⟨⟨X, N, ib, il, x, l, z, w.weak (fun a ha => (hh a).1 ha), ⟨L.lo, (hh _).1 L.a, (hh _).1 L.sa, fun a ha => L.sh a ((hh a).2 ha), L.ws, L.t0, L.t1⟩, hX⟩, hgen⟩
theorem Use2.mono {A : Sd → Prop} {b c g : Nat} {h : HS} {s : Q3} (U : Use2 A b h g s) (hb : b ≤ c) : Use2 A c h g s := by
  obtain ⟨⟨X, N, ib, il, x, l, z, w, L, hX⟩, hgen⟩ := U
  exact ⟨⟨X, N, ib, il, x, l, z, w.mono hb, L, hX⟩, hgen⟩
theorem Use2.oks {A : Sd → Prop} {b g : Nat} {h : HS} {s : Q3} (U : Use2 A b h g s) {a : Sd} (ha : A a) : OkS a := by
  obtain ⟨⟨X, N, ib, il, x, l, z, w, L, hX⟩, hgen⟩ := U
  exact (L.ok w.c.ok w.c.sz ha).1
structure Hld (i : Nat) (h : HS) (s : Q3) (m : List Sd) : Prop where
  U : ∃ g, g ≤ 1 + i ∧ Use2 (fun a => a ∈ m) (300 + 120 * i) h g s
  hd : ∃ t, m = s.f_safe :: t
  wl : s.f_wait.length ≤ i
  w0 : s.f_wait = [] → ∀ a ∈ m, a = s.f_all
  ml : m.length ≤ i + 1
abbrev HT10 := HS × (List (List Int)) × (List Q0) × (List (List (List Int))) × (List (List Int)) × Int × Int × Int × Int × Int
abbrev stt (h : HS) (s : Q3) (m : List Sd) (i : Nat) : HT10 := (h, s.f_all, s.f_wait, m, s.f_safe, s.f_top, s.f_gen, s.f_tries, s.f_size, (i : Int))
theorem act_end {i : Nat} {h : HS} {s : Q3} {m : List Sd} (H : Hld i h s m) (v : Option Bool) (hv : v = some true) :
    ((Q8.f s h).bind fun r => (lget m 0).bind fun z => (Q9.f r z).bind fun b => bif !b then some false else v) = some true := by
  obtain ⟨⟨g, hg, U⟩, ⟨t, ht⟩, _, _, _⟩ := H
  have os := U.sz.2
  rw [sh_ok s h os, Option.bind_some, ht, show lget (s.f_safe :: t) 0 = some s.f_safe from rfl, Option.bind_some, same0_ok _ os, Option.bind_some, Bool.not_true, cond_false, hv]
theorem tmod_in (a : Int) {b : Int} (h : 0 < b) : -b < Int.tmod a b ∧ Int.tmod a b < b := by
  have h1 := Int.tmod_lt_of_pos a h
  have h2 := Int.tmod_lt_of_pos (-a) h
  rw [Int.neg_tmod] at h2
  omega
theorem Hld.host {i : Nat} {h : HS} {s : Q3} {m : List Sd} (H : Hld i h s m) {l a f : Int} (an : An a f) (hl : 0 ≤ l ∧ l ≤ 1000000) : Hld (i + 1) { h with limit := l, arm := a, fault := f } s m := by
  obtain ⟨⟨g, hg, U⟩, ⟨t, ht⟩, wl, w0, ml⟩ := H
  obtain ⟨⟨X, N, ib, il, x, p, z, w, L, hX⟩, hgen⟩ := U
  refine ⟨⟨g, by omega, ⟨⟨X, N, ib, il, x, p, z, ?_, L, hX⟩, hgen⟩⟩, ⟨t, ht⟩, by omega, w0, by omega⟩
  exact ⟨⟨⟨⟨an.1, an.2.1, an.2.2.1, an.2.2.2, hl.1, by show l ≤ _; omega⟩, w.hg.I.hl, by have := w.hg.I.fl; show h.files.length ≤ _; omega, by have := w.hg.I.wl; show h.safe.length + h.wait.length ≤ _; omega, w.hg.I.srt, w.hg.I.oks, w.hg.I.okw, w.hg.I.fp⟩, hl.2⟩, ⟨w.j.o, w.j.n⟩, w.c, w.k, ⟨w.nm.s, w.nm.w⟩⟩
theorem Hld.g {i : Nat} {h : HS} {s : Q3} {m : List Sd} (H : Hld i h s m) : ∃ b, G b h := by
  obtain ⟨⟨g, hg, U⟩, _⟩ := H
  obtain ⟨⟨X, N, ib, il, x, p, z, w, L, hX⟩, hgen⟩ := U
  exact ⟨_, w.hg⟩
section
variable {i : Nat} {h : HS} {s : Q3} {m : List Sd} (H : Hld i h s m) (hi : i < 30) (K : HT10 → Option Bool) (hK : ∀ h' s' m', Hld (i + 1) h' s' m' → K (stt h' s' m' (i + 1)) = some true)
include H hi hK
theorem act_sync (a1 : Int) (z : Qa) : Q4.j20 a1 (stt h s m i) K z true = some true := by
  obtain ⟨⟨g, hg, U⟩, ⟨t, ht⟩, wl, w0, ml⟩ := H
  obtain ⟨oa, os⟩ := U.sz
  obtain ⟨e, s', h', g', c, hg', k1, k2, r⟩ := sync_g2 U (by omega) (by omega) (by omega) w0
  have sd1 : Qm.f ⟨s.f_all, s.f_safe, s.f_wait, s.f_top, s.f_gen, s.f_tries, s.f_size⟩ h = some s.f_all := sd_ok s h oa
  have c1 : Q1q.f ⟨s.f_all, s.f_safe, s.f_wait, s.f_top, s.f_gen, s.f_tries, s.f_size⟩ h = some (e, s', h') := c
  unfold Q4.j20
  simp only [cond_true, stt, sd1, Option.bind_some, c1, wrap1 (show i < 9223372036854775807 by omega)]
  rcases r with ⟨he, q1, q2, U2⟩ | ⟨rfl, q1, q2, U2⟩
  · have H2 : Hld (i + 1) h' s' (m ++ [s.f_all]) := ⟨⟨g', by omega, (U2.cong (B := fun a => a ∈ m ++ [s.f_all]) (fun a => by simp [Or2])).mono (by omega)⟩, ⟨t ++ [s.f_all], by rw [ht, q1]; rfl⟩, by rw [q2]; omega, fun hw a ha => by
      rw [q2] at hw
      rcases List.mem_append.1 ha with ha | ha
      · rw [k1]; exact w0 hw a ha
      · rw [k1]; exact List.mem_singleton.1 ha, by simp; omega⟩
    simp only [show (e == 0) = false by simpa using he, cond_false]
    rw [lim_ok (by omega), Option.bind_some]
    exact act_end H2 _ (hK _ _ _ H2)
  · have H2 : Hld (i + 1) h' s' [s.f_all] := ⟨⟨g', by omega, (U2.cong (B := fun a => a ∈ [s.f_all]) (fun a => by simp)).mono (by omega)⟩, ⟨[], by rw [q1]⟩, by rw [q2]; exact Nat.zero_le _, fun _ a ha => by rw [k1]; exact List.mem_singleton.1 ha, by simp⟩
    simp only [show ((0 : Int) == 0) = true from rfl, cond_true]
    exact act_end H2 _ (hK _ _ _ H2)
theorem act_check (a1 : Int) (z : Qa) (hz : Int.tmod z.f_Do 12 = 6) : Q4.j20 a1 (stt h s m i) K z false = some true := by
  obtain ⟨⟨g, hg, U⟩, ⟨t, ht⟩, wl, w0, ml⟩ := H
  obtain ⟨e, s', h', g', c, U2, hg', k1, k2, k3, k4⟩ := check_g U (by omega) (by omega)
  have c1 : Qs.f ⟨s.f_all, s.f_safe, s.f_wait, s.f_top, s.f_gen, s.f_tries, s.f_size⟩ h = some (e, s', h') := c
  have H2 : Hld (i + 1) h' s' m := ⟨⟨g', by omega, U2.mono (by omega)⟩, ⟨t, by rw [ht, k2]⟩, by rw [k3]; omega, fun hw a ha => by
      rw [k3] at hw; rw [k1]; exact w0 hw a ha, by omega⟩
  unfold Q4.j20
  simp only [cond_false, hz, show ((6 : Int) == 6) = true from rfl, cond_true, stt, Option.bind_some, c1, wrap1 (show i < 9223372036854775807 by omega)]
  exact act_end H2 _ (hK _ _ _ H2)
theorem act_write (a1 : Int) (z : Qa) (hz : AOk z) (h9 : Int.tmod z.f_Do 12 ≠ 9) (h10 : Int.tmod z.f_Do 12 ≠ 10) (h11 : Int.tmod z.f_Do 12 ≠ 11) : Q4.j21 a1 (stt h s m i) K z false = some true := by
  obtain ⟨⟨g, hg, U⟩, ⟨t, ht⟩, wl, w0, ml⟩ := H
  obtain ⟨w, v, ew, hw, hd⟩ := wr_ok z hz
  obtain ⟨e, s', c, U2, k1, k2, k3, k4⟩ := write_g U (by omega) w hw
  have c1 : Qu.f ⟨s.f_all, s.f_safe, s.f_wait, s.f_top, s.f_gen, s.f_tries, s.f_size⟩ h w = some (e, s', h) := c
  have H2 : Hld (i + 1) h s' m := ⟨⟨g, by omega, U2.mono (by omega)⟩, ⟨t, by rw [ht, k1]⟩, by omega, fun hw' a ha => by
      rcases k4 with rfl | k4
      · exact w0 hw' a ha
      · exact absurd hw' k4, by omega⟩
  unfold Q4.j21
  simp only [cond_false, show (Int.tmod z.f_Do 12 == 9) = false by simpa using h9, show (Int.tmod z.f_Do 12 == 10) = false by simpa using h10, show (Int.tmod z.f_Do 12 == 11) = false by simpa using h11, stt, ew, Option.bind_some, c1, wrap1 (show i < 9223372036854775807 by omega)]
  exact act_end H2 _ (hK _ _ _ H2)
theorem act_host (a1 : Int) (z : Qa) (hn : -9223372036854775808 ≤ z.f_N ∧ z.f_N ≤ 9223372036854775807) (hz : Int.tmod z.f_Do 12 = 9 ∨ Int.tmod z.f_Do 12 = 10 ∨ Int.tmod z.f_Do 12 = 11) : Q4.j21 a1 (stt h s m i) K z false = some true := by
  obtain ⟨b, hG⟩ := H.g
  have an := hG.an
  have l1 := hG.I.num.l1
  have l2 := hG.lm
  unfold Q4.j21
  rcases hz with hz | hz | hz
  · have H2 := H.host (a := max z.f_N (-1)) (f := h.fault) (l := h.limit) ⟨by omega, by omega, an.2.2.1, an.2.2.2⟩ ⟨l1, l2⟩
    simp only [cond_false, hz, show ((9 : Int) == 9) = true from rfl, cond_true, stt, Qx.f, Q2r.f, Option.bind_some, wrap1 (show i < 9223372036854775807 by omega)]
    exact act_end H2 _ (hK _ _ _ H2)
  · have H2 := H.host (a := h.arm) (f := max z.f_N (-1)) (l := h.limit) ⟨an.1, an.2.1, by omega, by omega⟩ ⟨l1, l2⟩
    simp only [cond_false, hz, show ((10 : Int) == 9) = false from rfl, show ((10 : Int) == 10) = true from rfl, cond_true, stt, Qx.f, Q36.f, Option.bind_some, wrap1 (show i < 9223372036854775807 by omega)]
    exact act_end H2 _ (hK _ _ _ H2)
  · have m1 : -1000 < Int.tmod z.f_N 1000 ∧ Int.tmod z.f_N 1000 < 1000 := tmod_in _ (by decide)
    have H2 := H.host (a := h.arm) (f := h.fault) (l := max (Int.tmod z.f_N 1000 * 1000) 0) an ⟨by omega, by omega⟩
    simp only [cond_false, hz, show ((11 : Int) == 9) = false from rfl, show ((11 : Int) == 10) = false from rfl, show ((11 : Int) == 11) = true from rfl, cond_true, stt, Qx.f, Q35.f, Option.bind_some, wrap1 (show i < 9223372036854775807 by omega), wrapI (i := Int.tmod z.f_N 1000 * 1000) (by omega) (by omega)]
    exact act_end H2 _ (hK _ _ _ H2)
end
/-! ### a crash -/
def Nest (a : Sd) (g : Nat) (h : HS) : Prop := (∃ p, Still a g p h) ∨ Still a (g + 1) [] h
theorem Still.cnq {a : Sd} {g : Nat} {p : List Int} {h : HS} (S : Still a g p h) : cn h (-1) (-1) = h := by
  obtain ⟨fs, l, sa, wt, lm, ar, fl, rd⟩ := h
  obtain ⟨_, ⟨q1, q2⟩, _⟩ := S
  simp only at q1 q2
  subst q1 q2
  rfl
theorem nest_open {a : Sd} {g : Nat} {h0 : HS} (S : Nest a g h0) (ar : Int) (an : An ar (-1)) (hg1 : g + 2 < 100) (top : Int) :
    ∃ (o : Option Q3) (e : Int) (h2 : HS), Q28.f (cn h0 ar (-1)) top = some (o, e, h2) ∧ (ar = -1 → e = 0 ∨ e = 7) ∧ (∀ (keep : Int) (tails : List Int), tails.length ≤ 9223372036854775807 → ∃ h3, Qc.f h2 keep tails = some h3 ∧ Nest a g h3) ∧
      (e = 0 → ∃ s, o = some s ∧ s.f_all = a ∧ s.f_safe = a ∧ s.f_wait = [] ∧ ∃ g', g' ≤ g + 1 ∧ Use2 (fun y => y = a) 209 h2 g' s) := by
  rcases S with ⟨p, S⟩ | S
  · obtain ⟨o, e, h2, c, q, A, r⟩ := open_g S ar an (by omega) top
    refine ⟨o, e, h2, c, q, fun keep tails ht => ?_, fun he => ?_⟩
    · obtain ⟨h3, c3, n3, _⟩ := A keep tails ht
      exact ⟨h3, c3, n3⟩
    · obtain ⟨s, r1, r2, r3, r4, g', r5, _, r6⟩ := r he
      exact ⟨s, r1, r2, r3, r4, g', r5, r6⟩
  · obtain ⟨o, e, h2, c, q, A, r⟩ := open_g S ar an (by omega) top
    refine ⟨o, e, h2, c, q, fun keep tails ht => ?_, fun he => ?_⟩
    · obtain ⟨h3, c3, _, n3⟩ := A keep tails ht
      exact ⟨h3, c3, .inr (n3 rfl)⟩
    · obtain ⟨s, r1, r2, r3, r4, g', _, r5, r6⟩ := r he
      exact ⟨s, r1, r2, r3, r4, g', r5 rfl, r6⟩
theorem Nest.q {a : Sd} {g : Nat} {h : HS} (S : Nest a g h) : Q h ∧ cn h (-1) (-1) = h := by
  rcases S with ⟨p, S⟩ | S
  · exact ⟨S.q, S.cnq⟩
  · exact ⟨S.q, S.cnq⟩
section
variable {i : Nat} {h : HS} {s : Q3} {m : List Sd} (hm : ∀ a ∈ m, OkS a) (hml : m.length ≤ 100) (hi : i < 30) (K : HT10 → Option Bool) (hK : ∀ h' s' m', Hld (i + 1) h' s' m' → K (stt h' s' m' (i + 1)) = some true)
include hm hml hi hK
theorem found_loop {h2 : HS} {s2 : Q3} (H2 : Hld (i + 1) h2 s2 [s2.f_all]) (hs : s2.f_safe = s2.f_all) (hw : s2.f_wait = []) (r : (Option Q3) × Int × HS) (hr : r.2.2 = h2) : ∀ (d j n : Nat) (b : Bool), j + d = m.length → d < n → (b = true ∨ s2.f_all ∈ m.drop j) → Q4.l28 (stt h s m i) K r s2 n (b, (j : Int)) = some true
  | 0, j, n + 1, b, hk, _, hb => by
    obtain ⟨oa, os⟩ : OkS s2.f_all ∧ OkS s2.f_safe := by obtain ⟨⟨g, hg, U⟩, _⟩ := H2; exact U.sz
    have hb : b = true := by
      rcases hb with hb | hb
      · exact hb
      · rw [List.drop_eq_nil_of_le (by omega)] at hb; cases hb
    subst hb
    have sd1 := sd_ok s2 h2 oa
    have sf1 := sh_ok s2 h2 os
    have sm1 := same_ok _ oa
    simp only [Q4.l28, stt]
    rw [ltF (by omega), cond_false, hr]
    simp only [Bool.not_true, cond_false, Q2b.f, hw, List.length_nil, show (((0 : Nat) : Int) != 0) = false from rfl, Option.bind_some, sd1, sf1, hs, sm1, wrap1 (show i < 9223372036854775807 by omega)]
    rw [show lget [s2.f_all] 0 = some s2.f_all from rfl, Option.bind_some, same0_ok _ oa, Option.bind_some, Bool.not_true, cond_false]
    have := hK _ _ _ H2
    unfold stt at this
    rw [hw, hs] at this
    exact this
  | d + 1, j, n + 1, b, hk, hf, hb => by
    have hj : j < m.length := by omega
    obtain ⟨oa, os⟩ : OkS s2.f_all ∧ OkS s2.f_safe := by obtain ⟨⟨g, hg, U⟩, _⟩ := H2; exact U.sz
    have sd1 := sd_ok s2 h2 oa
    simp only [Q4.l28, stt]
    rw [ltT (by omega), cond_true, lget_lt hj, Option.bind_some, wrap1 (by omega)]
    have hd : m.drop j = m[j] :: m.drop (j + 1) := List.drop_eq_getElem_cons hj
    cases b with
    | true =>
      rw [cond_true]
      exact found_loop H2 hs hw r hr d (j + 1) n true (by omega) (by omega) (.inl rfl)
    | false =>
      obtain ⟨b, c, hc⟩ := same1_tot m[j] s2.f_all (hm _ (List.getElem_mem hj))
      rw [cond_false, hr, sd1, Option.bind_some, c, Option.bind_some]
      refine found_loop H2 hs hw r hr d (j + 1) n b (by omega) (by omega) ?_
      rcases hb with hb | hb
      · cases hb
      · rw [hd] at hb
        rcases List.mem_cons.1 hb with hb | hb
        · exact .inl (hc hb.symm)
        · exact .inr hb
theorem nest_loop (a1 : Int) (z : Qa) (hz : z.f_Tails.length ≤ 9223372036854775807) {a : Sd} (ha : a ∈ m) {g : Nat} (hg : g ≤ 1 + i) : ∀ (d j n : Nat) (h0 : HS), j + d = z.f_Tails.length → d < n → Nest a g h0 → Q4.l22 a1 (stt h s m i) K z n (h0, (j : Int)) = some true
  | 0, j, n + 1, h0, hk, _, S => by
    obtain ⟨q, e0⟩ := S.q
    obtain ⟨o, e, h2, c, hq, A, r⟩ := nest_open S (-1) ⟨by omega, by omega, by omega, by omega⟩ (by omega) (IntKind.wrap .i64 (Int.tmod a1 400))
    rw [e0] at c
    simp only [Q4.l22]
    rw [ltF (by omega), cond_false, c, Option.bind_some]
    by_cases he : e = 0
    · subst he
      obtain ⟨s2, rfl, r2, r3, r4, g', r5, U⟩ := r rfl
      simp only [optb, show ((0 : Int) != 0) = false from rfl, cond_false]
      have H2 : Hld (i + 1) h2 s2 [s2.f_all] := ⟨⟨g', by omega, (U.cong (B := fun y => y ∈ [s2.f_all]) (fun y => by rw [r2]; simp)).mono (by omega)⟩, ⟨[], by rw [r2, r3]⟩, by rw [r4]; exact Nat.zero_le _, fun _ y hy => List.mem_singleton.1 hy, by simp⟩
      exact found_loop hm hml hi K hK H2 (r3.trans r2.symm) r4 _ rfl m.length 0 _ false (by omega) (by omega) (.inr (by rw [List.drop_zero, r2]; exact ha))
    · have h7 : e = 7 := by
        rcases hq rfl with h | h
        · exact absurd h he
        · exact h
      subst h7
      cases o <;> rfl
  | d + 1, j, n + 1, h0, hk, hf, S => by
    have hj : j < z.f_Tails.length := by omega
    have q := S.q.1
    have m1 : -9 < Int.tmod z.f_Tails[j] 9 ∧ Int.tmod z.f_Tails[j] 9 < 9 := tmod_in _ (by decide)
    obtain ⟨o, e, h2, c, hq, A, r⟩ := nest_open S (max (Int.tmod z.f_Tails[j] 9) (-1)) ⟨by omega, by omega, by omega, by omega⟩ (by omega) (IntKind.wrap .i64 (Int.tmod a1 400))
    have e1 : Q2r.f h0 (Int.tmod z.f_Tails[j] 9) = some (cn h0 (max (Int.tmod z.f_Tails[j] 9) (-1)) (-1)) := by
      unfold Q2r.f
      rw [q.2]
    obtain ⟨h3, c3, S3⟩ := A (Int.tmod (quo .i64 z.f_Tails[j] 9) 5) z.f_Tails hz
    simp only [Q4.l22]
    rw [ltT (by omega), cond_true, lget_lt hj, Option.bind_some, wrap1 (by omega), e1, Option.bind_some, c, Option.bind_some, c3, Option.bind_some]
    exact nest_loop a1 z hz ha hg d (j + 1) n h3 (by omega) (by omega) S3
end
theorem act_crash {i : Nat} {h : HS} {s : Q3} {m : List Sd} (H : Hld i h s m) (hi : i < 30) (K : HT10 → Option Bool) (hK : ∀ h' s' m', Hld (i + 1) h' s' m' → K (stt h' s' m' (i + 1)) = some true) (a1 : Int) (z : Qa) (hz : z.f_Tails.length ≤ 9223372036854775807) : Q4.j21 a1 (stt h s m i) K z true = some true := by
  obtain ⟨⟨g, hg, U⟩, ⟨t, ht⟩, wl, w0, ml⟩ := H
  have hm : ∀ a ∈ m, OkS a := fun a ha => U.oks ha
  obtain ⟨⟨X, N, ib, il, x, p, z0, w, L, hX⟩, hgen⟩ := U
  obtain ⟨c, a, g', ib', il', x', f', n, ha, C, n1, n2, S⟩ := crash_g w.j w.hg w.nm (by omega) z.f_N z.f_Tails hz
  have hg' := hX _ _ C.xl
  unfold Q4.j21
  simp only [cond_true, stt, Qx.f, Option.bind_some, c]
  exact nest_loop hm (by omega) hi K hK a1 z hz ha (show g' ≤ 1 + i by have : g' ≤ g := hg'; omega) z.f_Tails.length 0 _ _ (by omega) (by omega) (.inl ⟨_, S⟩)
/-! ### the law -/
theorem holds_loop (a1 : Int) (a2 : List Qa) (ha : ∀ a ∈ a2, Qa.W a) (hl : a2.length ≤ 9223372036854775807) : ∀ (d i f : Nat) (h : HS) (s : Q3) (m : List Sd), i + d = a2.length → d < f → i ≤ 30 → Hld i h s m → Q4.l1 a1 a2 f (stt h s m i) = some true
  | 0, i, f + 1, h, s, m, hk, _, _, H => by
    simp only [Q4.l1, stt]
    rw [ltF (by omega), cond_false]
  | d + 1, i, f + 1, h, s, m, hk, hf, h30, H => by
    have hi : i < a2.length := by omega
    have hW := ha _ (List.getElem_mem hi)
    simp only [Q4.l1, stt]
    rw [ltT (by omega), cond_true, lget_lt hi, Option.bind_some]
    by_cases h3 : 30 ≤ i
    · rw [decide_eq_true (by omega), cond_true]
    · rw [decide_eq_false (by omega), cond_false]
      have hK : ∀ h' s' m', Hld (i + 1) h' s' m' → Q4.l1 a1 a2 f (stt h' s' m' (i + 1)) = some true := fun h' s' m' H' => holds_loop a1 a2 ha hl d (i + 1) f h' s' m' (by omega) (by omega) (by omega) H'
      have hz := aok hW
      obtain ⟨_, _, _, _, wN, wT⟩ := hW
      have hN := i64_of wN
      have hT := len_of wT.1
      have key : ∀ v : Bool, v = (Int.tmod a2[i].f_Do 12 == 4 || Int.tmod a2[i].f_Do 12 == 5) → Q4.j20 a1 (stt h s m i) (Q4.l1 a1 a2 f) a2[i] v = some true := fun v hv => by
        cases v with
        | true => exact act_sync H (by omega) _ hK a1 _
        | false =>
          by_cases h6 : Int.tmod a2[i].f_Do 12 = 6
          · exact act_check H (by omega) _ hK a1 _ h6
          · have key2 : ∀ v : Bool, v = (Int.tmod a2[i].f_Do 12 == 7 || Int.tmod a2[i].f_Do 12 == 8) → Q4.j21 a1 (stt h s m i) (Q4.l1 a1 a2 f) a2[i] v = some true := fun v hv => by
              cases v with
              | true => exact act_crash H (by omega) _ hK a1 _ hT
              | false =>
                by_cases hh : Int.tmod a2[i].f_Do 12 = 9 ∨ Int.tmod a2[i].f_Do 12 = 10 ∨ Int.tmod a2[i].f_Do 12 = 11
                · exact act_host H (by omega) _ hK a1 _ hN hh
                · exact act_write H (by omega) _ hK a1 _ hz (fun e => hh (.inl e)) (fun e => hh (.inr (.inl e))) (fun e => hh (.inr (.inr e)))
            unfold Q4.j20
            rw [cond_false, show (Int.tmod a2[i].f_Do 12 == 6) = false by simpa using h6, cond_false]
            cases h7 : Int.tmod a2[i].f_Do 12 == 7
            · rw [cond_false]; exact key2 _ (by rw [h7, Bool.false_or])
            · rw [cond_true]; exact key2 _ (by rw [h7]; rfl)
      cases h4 : Int.tmod a2[i].f_Do 12 == 4
      · rw [cond_false]; exact key _ (by rw [h4, Bool.false_or])
      · rw [cond_true]; exact key _ (by rw [h4]; rfl)
theorem Hld.beg {top : Int} {r : Q3 × HS × Qp × Q6 × Bool} (B : Beg top r) : Hld 0 r.2.1 r.1 [r.1.f_all] := by
  obtain ⟨x, ib, il, e, R, C⟩ := B.ex
  obtain ⟨d1, d2⟩ := B.dn
  rw [e] at R ⊢
  have S := R.S
  have I := S.P.I
  have hnm : ∀ e ∈ r.2.1.l, Nm2 e.1 := fun e he => by
    rcases S.P.l e he with h1 | h1
    · exact .inl h1
    · by_cases h2 : e.1 = lg 1
      · exact .inr (.inr ⟨1, by omega, h2⟩)
      · exact absurd ⟨h1, h2⟩ (C e he)
  have hG : G 300 r.2.1 := ⟨⟨I.num, I.hl, by have := I.fl; omega, by have := I.wl; omega, I.srt, I.oks, I.okw, fun f hf => by have := I.fp f hf; omega⟩, by rw [S.P.n.lim]; omega⟩
  have hib : ib < r.2.1.files.length := (List.getElem?_eq_some_iff.1 S.fb).1
  have hil : il < r.2.1.files.length := (List.getElem?_eq_some_iff.1 S.fl).1
  have Cm : CurM (one il 1 x) r.2.1.files.length r.2.1.l r.2.1.files 1 ib il x ⟨[], 0⟩ := ⟨by omega, S.cur.1, S.cur.2, hib, hil, if_neg S.ne, if_pos rfl, S.ok, R.sz, S.fb, S.fl⟩
  have cut : Cuts (fun a => a ∈ [x]) x ⟨[], 0⟩ := cuts_nil (by simp)
  refine ⟨⟨1, by omega, ⟨⟨one il 1 x, _, ib, il, x, [], 0, ⟨hG, ⟨fun k => ?_, Nat.le_refl _⟩, Cm, cut, ⟨by rw [d2]; exact hnm, by rw [d1]; exact (fun c hc => nomatch hc)⟩⟩, ⟨(fun q hq => nomatch hq), by show x ∈ [x]; simp, by show x ∈ [x]; simp, fun a ha => ?_, (fun v hv => nomatch hv), Int.le_refl _, by show (0 : Int) < 4294967296; decide⟩, XB.one⟩, rfl⟩⟩, ⟨[], rfl⟩, Nat.le_refl _, fun _ a ha => List.mem_singleton.1 ha, Nat.le_refl _⟩
  · show Opn _ _ _ (now r.2.1.safe (r.2.1.wait.take k)) _
    rw [d1, List.take_nil, d2]
    exact ⟨1, ib, il, x, _, Cm, cut⟩
  · have ha : a = x := List.mem_singleton.1 ha
    subst ha
    exact ⟨rfl, rfl⟩
theorem Q4.pure : ∀ (a0 : List Int), (a0.length ≤ maxLen ∧ ∀ a ∈ a0, (Lit.int .u8 a).wf = true) → ∀ (a1 : Int), (Lit.int .u16 a1).wf = true → ∀ (a2 : List Qa), (a2.length ≤ maxLen ∧ ∀ a ∈ a2, Qa.W a) → Q4.f a0 a1 a2 = some true := by
  intro a0 h0 a1 h1 a2 h2
  have ht := u16_of h1
  have m1 : 0 ≤ Int.tmod a1 400 := Int.tmod_nonneg _ ht.1
  have m2 : Int.tmod a1 400 < 400 := Int.tmod_lt_of_pos _ (by decide)
  obtain ⟨r, e1, B⟩ := begin_ok a0 (len_of h0.1) (bytes_of h0.2) (Int.tmod a1 400) m1 (by omega)
  have H := Hld.beg B
  have oa : OkS r.1.f_all := by obtain ⟨⟨g, hg, U⟩, _⟩ := H; exact U.sz.1
  unfold Q4.f
  rw [awake_ok, Option.bind_some, Bool.not_true, cond_false, e1, Option.bind_some, B.ok, Bool.not_true, cond_false, sd_ok r.1 r.2.1 oa, Option.bind_some]
  exact holds_loop a1 a2 h2.2 (len_of h2.1) a2.length 0 _ r.2.1 r.1 _ (by omega) (by omega) (by omega) H
end Go.Proofs.YtpajmahpphcbaaaGreatDoor
