/- The plain law of HostWhole. -/
import Derived.Test.YtgfjecngfmachaaHostPlaysLaw
namespace Go.Proofs.Ytgfjecngfmachaa
open Kot Go
set_option maxRecDepth 100000
set_option linter.unusedSimpArgs false
set_option linter.unusedSectionVars false
theorem m1 : (-1 : Int) ≤ 9223372036854775807 := by decide
theorem fails_calmW {h : HS} (H : Num h) (ha : h.arm = -1) (hf : h.fault = -1) (w : Bool) : host_Host_fails.f h w = some (0, h) := by
  rw [fails_ok H]
  obtain ⟨fs, l, s, w, lm, ar, fl, rd⟩ := h
  simp only at ha hf
  subst ha hf
  rename_i w'
  cases w' <;> rfl
theorem append_calm {h : HS} (H : Num h) (ha : h.arm = -1) (hf : h.fault = -1) {n : List UInt8} {i : Nat} {f : HFile} {p : List Int} {u : Int} (hg : mget h.l n = (i : Int)) (hfi : h.files[i]? = some f) (hu : h.l.foldl (usedS h.files) 0 = u) (hu0 : 0 ≤ u) (hlim : h.limit ≤ 1000000) (hup : (p.length : Int) ≤ h.limit - u) (hl : f.p.length + p.length ≤ 1073741824) :
    host_Host_Append.f h n p = some (0, { h with files := h.files.set i ⟨f.p ++ p, f.safe⟩ }) := by
  unfold host_Host_Append.f
  have := H.l1
  rw [fails_calmW H ha hf, Option.bind_some]
  simp only [show ((0 : Int) != 0) = false from rfl, cond_false]
  rw [hg, decide_eq_false (show ¬ ((i : Int) < 0) by omega), hu, wrapI (by omega) (by omega), decide_eq_false (by omega)]
  simp only [cond_false]
  rw [lget_nat, hfi, Option.bind_some, lim_ok hl, Option.bind_some]; rfl
theorem sync_calm {h : HS} (H : Num h) (ha : h.arm = -1) (hf : h.fault = -1) {n : List UInt8} {i : Nat} {f : HFile} (hg : mget h.l n = (i : Int)) (hfi : h.files[i]? = some f) :
    host_Host_Sync.f h n = some (0, { h with files := h.files.set i ⟨f.p, f.p.length⟩, safe := h.l, wait := [] }) := by
  unfold host_Host_Sync.f
  rw [fails_calmW H ha hf, Option.bind_some]
  simp only [show ((0 : Int) != 0) = false from rfl, cond_false]
  rw [hg, decide_eq_false (show ¬ ((i : Int) < 0) by omega)]
  simp only [cond_false]
  rw [lget_nat, hfi, Option.bind_some]; rfl
theorem read_none {b : Nat} {h : HS} (I : Inv b h) (hf : h.fault = -1) {n : List UInt8} (hg : mget h.l n = -1) : host_Host_Read.f h n = some ([], 4, h) := by
  unfold host_Host_Read.f
  rw [fails_calm I hf, Option.bind_some, hg]; rfl
theorem create_inv {b : Nat} {h h' : HS} {e : Int} (I : Inv b h) (hb : b ≤ 90) {n : List UInt8} (hx : host_Host_Create.f h n = some (e, h')) : Inv (b + 1) h' := by
  obtain ⟨e2, h2, k1, -, k3⟩ := create_both I (by omega) n n []
  rw [hx] at k1; cases k1; exact k3
theorem append_inv {b : Nat} {h h' : HS} {e : Int} (I : Inv b h) (hb : b ≤ 90) {n : List UInt8} {p : List Int} (hp : p.length ≤ 40) (hx : host_Host_Append.f h n p = some (e, h')) : Inv (b + 1) h' := by
  obtain ⟨e2, h2, k1, -, k3⟩ := append_both I (by omega) n n p hp
  rw [hx] at k1; cases k1; exact k3
theorem sync_inv {b : Nat} {h h' : HS} {e : Int} (I : Inv b h) (hb : b ≤ 90) {n : List UInt8} (hx : host_Host_Sync.f h n = some (e, h')) : Inv (b + 1) h' := by
  obtain ⟨e2, h2, k1, -, k3⟩ := sync_both I (by omega) n n []
  rw [hx] at k1; cases k1; exact k3
theorem rename_inv {b : Nat} {h h' : HS} {e : Int} (I : Inv b h) (hb : b ≤ 90) {n to : List UInt8} (hx : host_Host_Rename.f h n to = some (e, h')) : Inv (b + 1) h' := by
  obtain ⟨e2, h2, k1, -, k3⟩ := rename_both I (by omega) n to []
  rw [hx] at k1; cases k1; exact k3
theorem crF_full {tails : List Int} {fs : List HFile} {i : Nat} {e : List UInt8 × Int} {f : HFile} (hf : fs[e.2.toNat]? = some f) (hs : f.safe = (f.p.length : Int)) : crF tails fs i e = f := by
  have hg : fget fs e.2.toNat = f := by unfold fget; rw [hf]; rfl
  have hm : moreN tails i f = 0 := by
    unfold moreN
    rw [hs]
    cases decide (0 < (tails.length : Int)) <;> simp only [cond_true, cond_false] <;> omega
  unfold crF
  simp only [hg, hm]
  obtain ⟨p, s⟩ := f
  simp only at hs
  subst hs
  simp
abbrev nBase : List UInt8 := [98, 97, 115, 101]
abbrev nTmp : List UInt8 := [116, 109, 112]
section
variable (a b : List Int)
def w0 : HS := ⟨[], [], [], [], 100000, -1, -1, 0⟩
def w1 : HS := ⟨[⟨[], 0⟩], [(nBase, 0)], [], [⟨nBase, 0, []⟩], 100000, -1, -1, 0⟩
def w2 : HS := ⟨[⟨a, 0⟩], [(nBase, 0)], [], [⟨nBase, 0, []⟩], 100000, -1, -1, 0⟩
def w3 : HS := ⟨[⟨a, a.length⟩], [(nBase, 0)], [(nBase, 0)], [], 100000, -1, -1, 0⟩
def w4 : HS := ⟨[⟨a, a.length⟩, ⟨[], 0⟩], [(nBase, 0), (nTmp, 1)], [(nBase, 0)], [⟨nTmp, 1, []⟩], 100000, -1, -1, 0⟩
def w5 : HS := ⟨[⟨a, a.length⟩, ⟨b, 0⟩], [(nBase, 0), (nTmp, 1)], [(nBase, 0)], [⟨nTmp, 1, []⟩], 100000, -1, -1, 0⟩
def w6 : HS := ⟨[⟨a, a.length⟩, ⟨b, b.length⟩], [(nBase, 0), (nTmp, 1)], [(nBase, 0), (nTmp, 1)], [], 100000, -1, -1, 0⟩
def w7 : HS := ⟨[⟨a, a.length⟩, ⟨b, b.length⟩], [(nBase, 1)], [(nBase, 0), (nTmp, 1)], [⟨nBase, 1, nTmp⟩], 100000, -1, -1, 0⟩
def w8 : HS := ⟨[⟨a, a.length⟩, ⟨b, b.length⟩], [(nBase, 1)], [(nBase, 1)], [], 100000, -1, -1, 0⟩
theorem num_w (fs : List HFile) (l s : HMap) (w : List HChg) (r n : Int) (h1 : 0 ≤ n) (h2 : n ≤ 1000000) : Num ⟨fs, l, s, w, n, -1, -1, r⟩ := ⟨Int.le_refl (-1), m1, Int.le_refl (-1), m1, h1, by show n ≤ _; omega⟩
theorem hw (z : Int) : (0 : Int) ≤ 100000 ∧ (100000 : Int) ≤ 1000000 := by decide
theorem e1 : host_Host_Create.f w0 nBase = some (0, w1) := rfl
variable (ha : a.length ≤ 40) (hb : b.length ≤ 40)
include ha
theorem e2 : host_Host_Append.f w1 nBase a = some (0, w2 a) := by
  have := append_calm (h := w1) (num_w _ _ _ _ _ _ (by decide) (by decide)) rfl rfl (n := nBase) (i := 0) (f := ⟨[], 0⟩) (p := a) (u := 0) (by decide +kernel) rfl (by decide +kernel) (by decide) (by decide) (by show (a.length : Int) ≤ 100000 - 0; omega) (by simp; omega)
  exact this
theorem e3 : host_Host_Sync.f (w2 a) nBase = some (0, w3 a) :=
  sync_calm (h := w2 a) (num_w _ _ _ _ _ _ (by decide) (by decide)) rfl rfl (n := nBase) (i := 0) (f := ⟨a, 0⟩) rfl rfl
theorem e4 : host_Host_Create.f (w3 a) nTmp = some (0, w4 a) := rfl
include hb
theorem e5 : host_Host_Append.f (w4 a) nTmp b = some (0, w5 a b) := by
  have := append_calm (h := w4 a) (num_w _ _ _ _ _ _ (by decide) (by decide)) rfl rfl (n := nTmp) (i := 1) (f := ⟨[], 0⟩) (p := b) (u := a.length) rfl rfl (by
    show IntKind.wrap .i64 (IntKind.wrap .i64 (0 + (a.length : Int)) + 0) = _
    rw [wrapI (i := 0 + (a.length : Int)) (by omega) (by omega), wrapI (by omega) (by omega)]; omega) (by omega) (by show (100000 : Int) ≤ 1000000; decide) (by show (b.length : Int) ≤ 100000 - a.length; omega) (by simp; omega)
  exact this
theorem e6 : host_Host_Sync.f (w5 a b) nTmp = some (0, w6 a b) :=
  sync_calm (h := w5 a b) (num_w _ _ _ _ _ _ (by decide) (by decide)) rfl rfl (n := nTmp) (i := 1) (f := ⟨b, 0⟩) rfl rfl
theorem e7 : host_Host_Rename.f (w6 a b) nTmp nBase = some (0, w7 a b) := rfl
theorem e8 : host_Host_Sync.f (w7 a b) nBase = some (0, w8 a b) :=
  sync_calm (h := w7 a b) (num_w _ _ _ _ _ _ (by decide) (by decide)) rfl rfl (n := nBase) (i := 1) (f := ⟨b, b.length⟩) rfl rfl
theorem i7 : Inv 7 (w7 a b) :=
  rename_inv (sync_inv (append_inv (create_inv (sync_inv (append_inv (create_inv (new_inv 100000 (by decide) (by decide)) (by decide) e1) (by decide) ha (e2 a ha)) (by decide) (e3 a ha)) (by decide) (e4 a ha)) (by decide) hb (e5 a b ha hb)) (by decide) (e6 a b ha hb)) (by decide) (e7 a b ha hb)
theorem i8 : Inv 8 (w8 a b) := sync_inv (i7 a b ha hb) (by decide) (e8 a b ha hb)
omit ha hb
/-- one file is found -/
def q1 (r : Int) : HS := ⟨[⟨b, b.length⟩], [(nBase, 0)], [(nBase, 0)], [], 100000, -1, -1, r⟩
def q2 (r : Int) : HS := ⟨[⟨a, a.length⟩, ⟨b, b.length⟩], [(nBase, 0), (nTmp, 1)], [(nBase, 0), (nTmp, 1)], [], 100000, -1, -1, r⟩
theorem c8 (keep : Int) (tails : List Int) : crH (w8 a b) keep tails = q1 b 0 := by
  have e : now (w8 a b).safe ((w8 a b).wait.take keep.toNat) = [(nBase, 1)] := by
    show now _ (List.take _ []) = _
    rw [List.take_nil]; rfl
  unfold crH
  rw [e]
  simp only [crFs, crL]
  rw [crF_full (f := ⟨b, b.length⟩) rfl rfl]; rfl
theorem c7 (keep : Int) (tails : List Int) (hk : 0 < keep) : crH (w7 a b) keep tails = q1 b 0 := by
  have e : now (w7 a b).safe ((w7 a b).wait.take keep.toNat) = [(nBase, 1)] := by
    show now _ (List.take _ [_]) = _
    rw [List.take_of_length_le (by simp; omega)]; rfl
  unfold crH
  rw [e]
  simp only [crFs, crL]
  rw [crF_full (f := ⟨b, b.length⟩) rfl rfl]; rfl
theorem c70 (keep : Int) (tails : List Int) (hk : keep ≤ 0) : crH (w7 a b) keep tails = q2 a b 0 := by
  have e : now (w7 a b).safe ((w7 a b).wait.take keep.toNat) = [(nBase, 0), (nTmp, 1)] := by
    rw [show keep.toNat = 0 by omega]; rfl
  unfold crH
  rw [e]
  simp only [crFs, crL]
  rw [crF_full (f := ⟨a, a.length⟩) rfl rfl, crF_full (f := ⟨b, b.length⟩) rfl rfl]; rfl
include ha hb
theorem whole_q1 (I : Inv 8 (q1 b 0)) (x : HS) (keep : Int) (tails : List Int) (s : Bool) (hc : host_Host_Crash.f x keep tails = some (q1 b 0)) (hk : 0 < keep ∨ s = true) : kotatsulaw01_HostWhole.j4 keep tails s a b x = some true := by
  unfold kotatsulaw01_HostWhole.j4
  rw [hc, Option.bind_some, read_calm I (by decide) rfl (e := (nBase, 0)) (by simp [q1]) (f := ⟨b, b.length⟩) rfl, Option.bind_some]
  have I2 := I.cp (by decide) (q1 b (IntKind.wrap .i64 (0 + (b.length : Int)))) rfl rfl rfl rfl (num_w _ _ _ _ _ _ (by decide) (by decide))
  show (host_Host_Read.f (q1 b (IntKind.wrap .i64 (0 + (b.length : Int)))) nTmp).bind _ = _
  rw [read_none I2 rfl rfl, Option.bind_some]
  simp only [same_ok b b (by omega), decide_true, Option.bind_some, show ((0 : Int) == 0) = true from rfl, show ((4 : Int) == 4) = true from rfl, cond_true]
  rcases hk with hk | hk
  · rw [decide_eq_true hk]; rfl
  · rw [hk]; cases decide (0 < keep) <;> rfl
theorem whole_q2 (I : Inv 8 (q2 a b 0)) (keep : Int) (tails : List Int) (hc : host_Host_Crash.f (w7 a b) keep tails = some (q2 a b 0)) (hk : keep ≤ 0) : kotatsulaw01_HostWhole.j4 keep tails false a b (w7 a b) = some true := by
  have hcp : ∀ r, Inv 8 (q2 a b r) := fun r => I.cp (by decide) (q2 a b r) rfl rfl rfl rfl (num_w _ _ _ _ _ _ (by decide) (by decide))
  unfold kotatsulaw01_HostWhole.j4 kotatsulaw01_HostWhole.j5
  rw [hc, Option.bind_some, read_calm I (by decide) rfl (e := (nBase, 0)) (by simp [q2]) (f := ⟨a, a.length⟩) rfl, Option.bind_some]
  show (host_Host_Read.f (q2 a b _) (nTmp, (1 : Int)).1).bind _ = _
  rw [read_calm (hcp _) (by decide) rfl (e := (nTmp, 1)) (by simp [q2]) (f := ⟨b, b.length⟩) rfl, Option.bind_some]
  rw [decide_eq_false (by omega)]
  simp only [cond_false]
  show (host_Host_Read.f (q2 a b _) (nTmp, (1 : Int)).1).bind _ = _
  rw [read_calm (hcp _) (by decide) rfl (e := (nTmp, 1)) (by simp [q2]) (f := ⟨b, b.length⟩) rfl, Option.bind_some]
  simp only [same_ok a a (by omega), same_ok b b (by omega), decide_true, Option.bind_some, show ((0 : Int) == 0) = true from rfl, cond_true]
theorem whole_ok (keep : Int) (tails : List Int) (ht : tails.length ≤ 9223372036854775807) (s : Bool) : (bif s then ((host_Host_Sync.f (w7 a b) nBase).bind fun r => bif r.1 != 0 then (some false) else (kotatsulaw01_HostWhole.j4 keep tails s a b r.2)) else (kotatsulaw01_HostWhole.j4 keep tails s a b (w7 a b))) = some true := by
  have I7 := i7 a b ha hb
  have I8 := i8 a b ha hb
  cases s
  · have hc := crash_ok I7 (by decide) keep tails ht
    have hi := (crash_inv I7 (by decide) keep tails).mono (show 7 ≤ 8 by decide)
    rcases Int.lt_or_le 0 keep with hk | hk
    · rw [c7 a b keep tails hk] at hc hi
      exact whole_q1 a b ha hb hi _ _ _ _ hc (.inl hk)
    · rw [c70 a b keep tails hk] at hc hi
      exact whole_q2 a b ha hb hi _ _ hc hk
  · have hc := crash_ok I8 (by decide) keep tails ht
    have hi := crash_inv I8 (by decide) keep tails
    rw [c8 a b keep tails] at hc hi
    rw [cond_true, e8 a b ha hb, Option.bind_some]
    exact whole_q1 a b ha hb hi _ _ _ _ hc (.inr rfl)
end
theorem kotatsulaw01_HostWhole.pure : ∀ (a0 : List Int), (a0.length ≤ maxLen ∧ ∀ a ∈ a0, (Lit.int .u8 a).wf = true) → ∀ (a1 : List Int), (a1.length ≤ maxLen ∧ ∀ a ∈ a1, (Lit.int .u8 a).wf = true) → ∀ (a2 : Int), (Lit.int .i64 a2).wf = true → ∀ (a3 : List Int), (a3.length ≤ maxLen ∧ ∀ a ∈ a3, (Lit.int .i64 a).wf = true) → ∀ (a4 : Bool), kotatsulaw01_HostWhole.f a0 a1 a2 a3 a4 = some true := by
  intro a ha b hb keep _ tails ht s
  unfold kotatsulaw01_HostWhole.f
  rw [awake_true, Option.bind_some, cut_ok _ _ (len_of ha.1) (by omega), cut_ok _ _ (len_of hb.1) (by omega)]
  simp only [Bool.not_true, cond_false, Option.bind_some]
  have h1 : (a.take (40 : Int).toNat).length ≤ 40 := by rw [List.length_take]; exact Nat.min_le_left _ _
  have h2 : (b.take (40 : Int).toNat).length ≤ 40 := by rw [List.length_take]; exact Nat.min_le_left _ _
  generalize a.take (40 : Int).toNat = a at *
  generalize b.take (40 : Int).toNat = b at *
  rw [show host_New.f 100000 = some w0 from rfl, Option.bind_some, e1, Option.bind_some, e2 a h1, Option.bind_some, e3 a h1, Option.bind_some, e4 a h1, Option.bind_some, e5 a b h1 h2, Option.bind_some, e6 a b h1 h2, Option.bind_some, e7 a b h1 h2, Option.bind_some]
  exact whole_ok a b h1 h2 keep tails (len_of ht.1) s
end Go.Proofs.Ytgfjecngfmachaa
