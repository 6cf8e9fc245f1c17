/- Words for walking Go functions: slices whose elements hold slices; no program is named here. -/
import Derived.Test.YtpajmahpphcbaaaGreatDoorBase15
namespace Kot
open Go
def RG {ι τ : Type} (cg : ι → τ → List Value) (F : ι → HL → τ → Prop) : HL → τ → List Value → Prop := fun h z cs => ∃ i, cs = cg i z ∧ F i h z
theorem RG.mono {ι τ : Type} {cg : ι → τ → List Value} {F : ι → HL → τ → Prop} (hF : ∀ i h h' z, F i h z → sub h h' → F i h' z) : Mono (RG cg F) := fun h h' z cs ⟨i, h1, h2⟩ s => ⟨i, h1, hF i h h' z h2 s⟩
def Tells {τ : Type} (hp : HL) (k : Nat) (R : HL → τ → List Value → Prop) (cs : List Value) (xs : List τ) : Prop :=
  ∃ ll : List (List Value), cs = ll.flatten ∧ ll.length = xs.length ∧ ∀ (i : Nat) (x : τ) (c : List Value), xs[i]? = some x → ll[i]? = some c → R hp x c ∧ c.length = k
section
variable {τ : Type} {hp h h' : HL} {k : Nat} {R : HL → τ → List Value → Prop} {cs cs2 : List Value} {xs ys : List τ}
theorem Tells.nil : Tells hp k R [] [] := ⟨[], rfl, rfl, fun i x c hx => by simp at hx⟩
theorem Tells.one {x : τ} (hR : R hp x cs) (hl : cs.length = k) : Tells hp k R cs [x] := ⟨[cs], by simp, rfl, fun i y c hy hc => by
  cases i with
  | zero => simp at hy hc; subst hy hc; exact ⟨hR, hl⟩
  | succ i => simp at hy⟩
theorem Tells.app (H : Tells hp k R cs xs) (K : Tells hp k R cs2 ys) : Tells hp k R (cs ++ cs2) (xs ++ ys) := by
  obtain ⟨ll, rfl, h1, h2⟩ := H
  obtain ⟨kk, rfl, h3, h4⟩ := K
  refine ⟨ll ++ kk, by simp, by simp [h1, h3], fun i x c hx hc => ?_⟩
  by_cases hi : i < xs.length
  · rw [List.getElem?_append_left hi] at hx
    rw [List.getElem?_append_left (by omega)] at hc
    exact h2 i x c hx hc
  · rw [List.getElem?_append_right (by omega)] at hx
    rw [List.getElem?_append_right (by omega), h1] at hc
    exact h4 _ x c hx hc
theorem Tells.mono (hR : Mono R) (H : Tells h k R cs xs) (s : sub h h') : Tells h' k R cs xs := by
  obtain ⟨ll, h1, h2, h3⟩ := H
  exact ⟨ll, h1, h2, fun i x c hx hc => ⟨hR _ _ _ _ (h3 i x c hx hc).1 s, (h3 i x c hx hc).2⟩⟩
theorem Tells.all {ll : List (List Value)} (h2 : ll.length = xs.length) (h3 : ∀ (i : Nat) (x : τ) (c : List Value), xs[i]? = some x → ll[i]? = some c → R hp x c ∧ c.length = k) : ∀ c ∈ ll, c.length = k := by
  intro c hc
  obtain ⟨i, hi, rfl⟩ := List.mem_iff_getElem.1 hc
  exact (h3 i (xs[i]'(by omega)) ll[i] (List.getElem?_eq_getElem _) (List.getElem?_eq_getElem _)).2
theorem Tells.len (H : Tells hp k R cs xs) : cs.length = xs.length * k := by
  obtain ⟨ll, rfl, h2, h3⟩ := H
  rw [flat_len (Tells.all h2 h3), h2]
theorem Tells.get {i : Nat} {x : τ} (H : Tells hp k R cs xs) (hi : xs[i]? = some x) : ∃ c, R hp x c ∧ c.length = k ∧ ∀ j, j < k → cs[i * k + j]? = c[j]? := by
  obtain ⟨ll, rfl, h2, h3⟩ := H
  have hlt := (List.getElem?_eq_some_iff.1 hi).1
  have hc : ll[i]? = some (ll[i]'(by omega)) := List.getElem?_eq_getElem _
  obtain ⟨h4, h5⟩ := h3 i x _ hi hc
  exact ⟨_, h4, h5, fun j hj => flat_get (Tells.all h2 h3) hc j hj⟩
theorem Tells.rdl {v : Value} (H : Tells hp k R cs xs) (hS : RdS hp k v cs) : RdL hp k R v xs := by
  obtain ⟨ll, rfl, h2, h3⟩ := H
  exact ⟨ll, hS, h2, h3⟩
theorem flat_set2 {k : Nat} : ∀ {ll : List (List Value)} {i : Nat} {c c2 : List Value}, (∀ c ∈ ll, c.length = k) → ll[i]? = some c → c2.length = k → (ll.set i c2).flatten = setMany ll.flatten (i * k) c2
  | [], i, c, c2, _, hi, _ => by simp at hi
  | d :: ll, 0, c, c2, h, hi, h2 => by
    simp only [List.getElem?_cons_zero, Option.some.injEq] at hi
    subst hi
    have hd := h d (by simp)
    simp only [List.set_cons_zero, List.flatten_cons, Nat.zero_mul]
    have key : ∀ (vs d r : List Value), vs.length = d.length → ∀ pre : List Value, setMany (pre ++ (d ++ r)) pre.length vs = pre ++ (vs ++ r) := by
      intro vs
      induction vs with
      | nil => intro d r hl pre; have : d = [] := List.eq_nil_of_length_eq_zero (by simpa using hl.symm)
               subst this; rfl
      | cons v vs ih =>
        intro d r hl pre
        cases d with
        | nil => simp at hl
        | cons a d =>
          simp only [setMany]
          have e1 : (pre ++ (a :: d ++ r)).set pre.length v = (pre ++ [v]) ++ (d ++ r) := by simp
          have e2 : pre.length + 1 = (pre ++ [v]).length := by simp
          rw [e1, e2, ih d r (by simpa using hl) (pre ++ [v])]
          simp
    have := key c2 d ll.flatten (by omega) []
    simpa using this.symm
  | d :: ll, i + 1, c, c2, h, hi, h2 => by
    have h1 := h d (by simp)
    have ih := flat_set2 (ll := ll) (i := i) (c := c) (fun c hc => h c (by simp [hc])) (by simpa using hi) h2
    rw [List.set_cons_succ, List.flatten_cons, ih, List.flatten_cons]
    have key : ∀ (vs pre r : List Value) (n : Nat), setMany (pre ++ r) (pre.length + n) vs = pre ++ setMany r n vs := by
      intro vs
      induction vs with
      | nil => intro pre r n; rfl
      | cons v vs ih =>
        intro pre r n
        simp only [setMany]
        rw [List.set_append_right _ _ (by omega), Nat.add_sub_cancel_left, Nat.add_assoc, ih]
    rw [Nat.succ_mul, Nat.add_comm (i * k) k, ← h1, key]
theorem Tells.set {i : Nat} {x x2 : τ} {c2 : List Value} (H : Tells hp k R cs xs) (hi : xs[i]? = some x) (hR : R hp x2 c2) (hl : c2.length = k) : Tells hp k R (setMany cs (i * k) c2) (xs.set i x2) := by
  obtain ⟨ll, rfl, h2, h3⟩ := H
  have hlt := (List.getElem?_eq_some_iff.1 hi).1
  have hc : ll[i]? = some (ll[i]'(by omega)) := List.getElem?_eq_getElem _
  refine ⟨ll.set i c2, (flat_set2 (Tells.all h2 h3) hc hl).symm, by simp [h2], fun j y c hy hcj => ?_⟩
  by_cases hij : i = j
  · subst hij
    rw [List.getElem?_set_self (by omega)] at hy hcj
    cases hy; cases hcj
    exact ⟨hR, hl⟩
  · rw [List.getElem?_set_ne hij] at hy hcj
    exact h3 j y c hy hcj
theorem Tells.set1 {i o : Nat} {x x2 : τ} {c c2 : List Value} {v : Value} (H : Tells hp k R cs xs) (hi : xs[i]? = some x) (hc : ∀ j, j < k → cs[i * k + j]? = c[j]?) (hlc : c.length = k) (ho : o < k) (h2 : c.set o v = c2) (hR : R hp x2 c2) : Tells hp k R (cs.set (i * k + o) v) (xs.set i x2) := by
  have hl : c2.length = k := by rw [← h2]; simpa using hlc
  have := H.set hi hR hl
  have e : setMany cs (i * k) c2 = cs.set (i * k + o) v := by
    have key : ∀ (vs : List Value) (cs : List Value) (n : Nat), n + vs.length ≤ cs.length → ∀ q, (setMany cs n vs)[q]? = if n ≤ q ∧ q < n + vs.length then vs[q - n]? else cs[q]? := by
      intro vs
      induction vs with
      | nil => intro cs n _ q; simp [setMany]; omega
      | cons w vs ih =>
        intro cs n hn q
        simp only [List.length_cons] at hn
        simp only [setMany]
        rw [ih (cs.set n w) (n + 1) (by simp; omega) q]
        by_cases h1 : n + 1 ≤ q ∧ q < n + 1 + vs.length
        · rw [if_pos h1, if_pos (by simp; omega)]
          obtain ⟨r, rfl⟩ : ∃ r, q = n + 1 + r := ⟨q - (n + 1), by omega⟩
          have e1 : n + 1 + r - (n + 1) = r := by omega
          have e2 : n + 1 + r - n = r + 1 := by omega
          rw [e1, e2]; rfl
        · rw [if_neg h1]
          by_cases hq : q = n
          · subst hq
            rw [if_pos (by simp), List.getElem?_set_self (by omega)]
            simp
          · rw [List.getElem?_set_ne (fun h => hq h.symm), if_neg (by simp; omega)]
    have hcl := H.len
    have hlt := (List.getElem?_eq_some_iff.1 hi).1
    have hm : (i + 1) * k ≤ xs.length * k := Nat.mul_le_mul_right k (by omega)
    rw [Nat.succ_mul] at hm
    apply List.ext_getElem?
    intro q
    rw [key c2 cs (i * k) (by omega) q]
    by_cases hq : i * k ≤ q ∧ q < i * k + c2.length
    · rw [if_pos hq]
      obtain ⟨r, rfl⟩ : ∃ r, q = i * k + r := ⟨q - i * k, by omega⟩
      have e1 : i * k + r - i * k = r := by omega
      rw [e1, ← h2]
      by_cases hro : r = o
      · subst hro
        rw [List.getElem?_set_self (by omega), List.getElem?_set_self (by omega)]
      · rw [List.getElem?_set_ne (fun h => hro h.symm), List.getElem?_set_ne (by omega), hc r (by omega)]
    · rw [if_neg hq, List.getElem?_set_ne (by omega)]
  rwa [e] at this
end
section
variable {C : Ctx} {F : World → Prop} {e : Env} {hp h : HL} {L : List HP} {ty : TypeId} {ps : String} {es : Array Edge} {dst : Option Nat} {gd : Option (Nat × Bool)} {x y : Operand} {t : Nat} {d : Nat} {G : Env → HL → List HP → Prop}
theorem ixR {ι τ : Type} {cg : ι → τ → List Value} {Φ : ι → HL → τ → Prop} {k : Nat} {v : Value} {xs : List τ} {z : τ} {i : Int} {ki : IntKind} {el : TypeId}
    (hx : ev e x = v) (H : RdL h (k + 1) (RG cg Φ) v xs) (hz : lget xs i = some z) (hy : ev e y = .int ki i) (ht : ∀ w, (underlying t).run C.P w = .ok (.slice el) w) (hs : ∀ w, (Go.sizeOf el).run C.P w = .ok (k + 1) w) :
    PurX C F ⟨dst, .indexAddr t x y, ty, ps, es, gd⟩ e (fun q : Addr × ι => .pointer (some q.1)) (fun q => RdP h q.1 (cg q.2 z) ∧ Φ q.2 h z) := by
  obtain ⟨h0, hlt, hzz⟩ := lget_spec hz
  obtain ⟨a, cap, c, hv, ⟨g, rfl, hΦ⟩, hc, hP⟩ := H.get (Nat.succ_pos k) hzz
  exact ⟨(a.add (i.toNat * (k + 1)), g), ⟨fun w _ => by simp [execOp, hx, hy, hv, Instr.indexAt, asIntOf, ht, hs, h0, hlt]⟩, hP, hΦ⟩
theorem sl_val {X : World} {w : World} {j u k : Nat} {v : Value} {cs : List Value} (hw : Own X hp L w) (hi : L[j]? = some (sl v u k cs)) : ∃ a n cap, v = .slice a n cap ∧ cs.length = n * k ∧ n ≤ cap := by
  obtain ⟨hh, ⟨h1, h2, _, ⟨a, n, cap, hv, hl, hc, _⟩, _⟩, _⟩ := (own_front hw hi).ex
  exact ⟨a, n, cap, hv, hl, hc⟩
theorem iaC {ι τ : Type} {cg : ι → τ → List Value} {Φ : ι → HL → τ → Prop} {j k u : Nat} {v' : Value} {cs : List Value} {xs : List τ} {z : τ} {i : Int} {ki : IntKind} (hN : Nat.blt d C.N = true) (hx : ev e x = v') (hi : L[j]? = some (sl v' u (k + 1) cs)) (H : Tells h (k + 1) (RG cg Φ) cs xs)
    (hz : lget xs i = some z) (hy : ev e y = .int ki i) (ht : ∀ w, (underlying t).run C.P w = .ok (.slice u) w) (hs : ∀ w, (Go.sizeOf u).run C.P w = .ok (k + 1) w)
    (kk : ∀ (p : Addr) (g : ι), AtO v' (i.toNat * (k + 1)) p → Φ g h z → (cg g z).length = k + 1 → (∀ j, j < k + 1 → cs[i.toNat * (k + 1) + j]? = (cg g z)[j]?) → G (upd e d (.pointer (some p))) hp L) : OpJ C ⟨some d, .indexAddr t x y, ty, ps, es, gd⟩ e hp L G := by
  obtain ⟨h0, hlt, hzz⟩ := lget_spec hz
  obtain ⟨c, ⟨g, rfl, hΦ⟩, hcl, hget⟩ := H.get hzz
  refine ⟨fun a w hA hw next Q' hn => ?_⟩
  obtain ⟨q, n, cap, rfl, hl, hcap⟩ := sl_val hw hi
  have hnx : n = xs.length := by rw [H.len] at hl; exact (Nat.eq_of_mul_eq_mul_right (Nat.succ_pos k) hl).symm
  subst hnx
  cases q with
  | none =>
    exfalso
    obtain ⟨hh, ⟨h1, h2, rfl, ⟨a', n', cap', hv, hl', hcap', hc⟩, hs2⟩, hsat⟩ := (own_front hw hi).ex
    simp only [Value.slice.injEq] at hv
    obtain ⟨rfl, rfl, rfl⟩ := hv
    rcases hc with ⟨_, hn0, _, _⟩ | ⟨b, off, c2, hb, _⟩
    · omega
    · cases hb
  | some q =>
    have hr : (execOp a.eval ⟨some d, .indexAddr t x y, ty, ps, es, gd⟩).run C.P w = .ok (.value (.pointer (some (q.add (i.toNat * (k + 1)))))) w := by
      simp [execOp, hA.eval, hx, hy, Instr.indexAt, asIntOf, ht, hs, h0, hlt]
    simp only [Oper.wp, hr, Oper.upon]
    exact hn _ _ _ _ _ (kk _ g (fun a' n' c' he => by simp only [Value.slice.injEq, Option.some.injEq] at he; rw [he.1]) hΦ hcl hget) (hA.put hN _) hw
theorem sl_cells {X : World} {w : World} {j u k : Nat} {v : Value} {cs : List Value} (hw : Own X hp L w) (hi : L[j]? = some (sl v u k cs)) (hne : cs ≠ []) : ∃ b off c2 n cap, v = .slice (some ⟨b, off, none⟩) n cap ∧ w.heap[b]? = some (.cells c2 u (0, 0)) ∧ ∀ i, i < cs.length → c2[off + i]? = cs[i]? := by
  obtain ⟨hh, ⟨h1, h2, rfl, ⟨a, n, cap, hv, hl, hcap, hc⟩, hs2⟩, hsat⟩ := (own_front hw hi).ex
  rcases hc with ⟨_, rfl, _, _⟩ | ⟨b, off, c2, rfl, rfl, hsz, hcs⟩
  · exact absurd (List.eq_nil_of_length_eq_zero (by omega)) hne
  · exact ⟨b, off, c2, n, cap, hv, hsat.2 (b, _) (by simp), hcs⟩
theorem ldC {j k u m : Nat} {v' : Value} {cs : List Value} {p : Addr} {v : Value} (ha : ∀ w, (isAgg t).run C.P w = .ok false w) (hx : ev e x = .pointer (some p)) (H : AtO v' m p) (hi : L[j]? = some (sl v' u k cs)) (hv : cs[m]? = some v) :
    Pur C (Own C.X hp L) ⟨dst, .load t x, ty, ps, es, gd⟩ e v := ⟨fun w hw => by
  have hne : cs ≠ [] := fun h => by rw [h] at hv; simp at hv
  obtain ⟨b, off, c2, n, cap, rfl, hb, hcs⟩ := sl_cells hw hi hne
  have hp := H _ _ _ rfl
  subst hp
  have hlt := (List.getElem?_eq_some_iff.1 hv).1
  have hc : w.cell? ((⟨b, off, none⟩ : Addr).add m) = some v := by
    rw [add_add _ rfl]
    simp only [World.cell?, hb]
    have := hcs m hlt
    rw [hv] at this
    simp [this]
  simp [execOp, hx, Instr.loadAt, Instr.sureAddr, loadVar, ha, hc]⟩
theorem ldCa {j k u m n : Nat} {v' : Value} {cs c : List Value} {p : Addr} (ha : ∀ w, (isAgg t).run C.P w = .ok true w) (hs : ∀ w, (Go.sizeOf t).run C.P w = .ok n w) (hx : ev e x = .pointer (some p)) (H : AtO v' m p) (hi : L[j]? = some (sl v' u k cs)) (hlc : c.length = n) (hc : ∀ q, q < n → cs[m + q]? = c[q]?) :
    Pur C (Own C.X hp L) ⟨dst, .load t x, ty, ps, es, gd⟩ e (.agg c.toArray) := ⟨fun w hw => by
  by_cases hn0 : n = 0
  · subst hn0
    have : c = [] := List.eq_nil_of_length_eq_zero hlc
    subst this
    have hr : (loadCells p 0).run C.P w = .ok #[] w := rfl
    simp [execOp, hx, Instr.loadAt, Instr.sureAddr, loadVar, ha, hs, hr]
  · have h0 := hc 0 (by omega)
    have hne : cs ≠ [] := fun h => by
      rw [h] at h0
      rw [List.getElem?_eq_getElem (show 0 < c.length by omega)] at h0
      simp at h0
    obtain ⟨b, off, c2, n', cap, rfl, hb, hcs⟩ := sl_cells hw hi hne
    have hp := H _ _ _ rfl
    subst hp
    have hr := run_loadCells_list (P := C.P) w ((⟨b, off, none⟩ : Addr).add m) c (fun q v hq => by
      have hlt := (List.getElem?_eq_some_iff.1 hq).1
      have h3 := hc q (by omega)
      rw [hq] at h3
      have hlt2 := (List.getElem?_eq_some_iff.1 h3).1
      rw [add_add2, add_add _ rfl]
      simp only [World.cell?, hb]
      have h4 := hcs (m + q) hlt2
      rw [h3] at h4
      simp [h4])
    rw [hlc] at hr
    simp [execOp, hx, Instr.loadAt, Instr.sureAddr, loadVar, ha, hs, hr]⟩
theorem stC {j k u m : Nat} {v' : Value} {cs : List Value} {p : Addr} {v v0 : Value} (hs : ∀ w, (Go.sizeOf t).run C.P w = .ok 1 w) (hx : ev e x = .pointer (some p)) (H : AtO v' m p) (hy : ev e y = v) (h1 : v.cells = #[v]) (h2 : v.oneCell' = true) (hi : L[j]? = some (sl v' u k cs)) (hv : cs[m]? = some v0)
    (kk : G e hp (L.set j (sl v' u k (cs.set m v)))) : OpJ C ⟨none, .store t x y, ty, ps, es, gd⟩ e hp L G :=
  OpJ.skip (fun w hw => by
    have hne : cs ≠ [] := fun h => by rw [h] at hv; simp at hv
    have hlt := (List.getElem?_eq_some_iff.1 hv).1
    have hw' := own_front hw hi
    obtain ⟨hh, ⟨g1, g2, rfl, ⟨a, n, cap, rfl, hl, hcap, hc⟩, hs2⟩, hsat⟩ := hw'.ex
    rcases hc with ⟨_, rfl, _, _⟩ | ⟨b, off, c2, rfl, rfl, hsz, hcs⟩
    · exact absurd (List.eq_nil_of_length_eq_zero (by omega)) hne
    · have hp := H _ _ _ rfl
      subst hp
      have hb : w.heap[b]? = some (.cells c2 u (0, 0)) := hsat.2 (b, _) (by simp)
      have hO : Own C.X hp (pt b (.cells c2 u (0, 0)) :: L.eraseIdx j) w := ⟨⟨_, ⟨_, g2, rfl, rfl, hs2⟩, hsat⟩, hw'.os, hw'.tape, hw'.output⟩
      have hoff : off + m < c2.size := by
        have h3 := hcs m hlt
        rw [hv] at h3
        exact (Array.getElem?_eq_some_iff.1 h3).1
      have hadd : (⟨b, off, none⟩ : Addr).add m = ⟨b, off + m, none⟩ := add_add ⟨b, off, none⟩ rfl m
      rw [hadd] at hx
      have hc : w.cell? ⟨b, off + m, none⟩ = some v0 := by
        simp only [World.cell?, hb]
        have := hcs m hlt
        rw [hv] at this
        simp [this]
      have hf : w.frozen? ⟨b, off + m, none⟩ = false := by simp [World.frozen?, hb]
      have hset := hO.set (i := 0) (w' := w.setCell ⟨b, off + m, none⟩ v) (o' := .cells (c2.setIfInBounds (off + m) v) u (0, 0)) rfl rfl rfl rfl (by simp [World.setCell, Array.getElem?_modify, hb]) (fun q hq => by simp [World.setCell, Array.getElem?_modify]; omega)
      refine ⟨w.setCell ⟨b, off + m, none⟩ v, ?_, own_upd hw hi (fun _ => ?_)⟩
      · simp [execOp, hx, hy, Instr.storeAt, Instr.sureAddr, storeVar, hs, h1, storeCells, Addr.add, run_store _ _ _ _ _ h2, hc, hf]
      · obtain ⟨hh', ⟨k1, k2, rfl, hk1, hk2⟩, hsat'⟩ := hset.ex
        have e1 : k1 = [(b, .cells (c2.setIfInBounds (off + m) v) u (0, 0))] := hk1
        subst e1
        refine own_cons (h := [(b, .cells (c2.setIfInBounds (off + m) v) u (0, 0))]) ⟨_, n, cap, rfl, by simpa using hl, hcap, .inr ⟨b, off, _, rfl, rfl, by simpa using hsz, fun q hq => ?_⟩⟩ ⟨k2, hk2, hsat'⟩ hset.os hset.tape hset.output
        rw [List.length_set] at hq
        by_cases hqm : m = q
        · subst hqm
          rw [List.getElem?_set_self hq]
          simp [hoff]
        · rw [List.getElem?_set_ne hqm, ← hcs q hq, Array.getElem?_setIfInBounds_ne (by omega)]) kk
theorem lenC {τ : Type} {i u u' k : Nat} {R : HL → τ → List Value → Prop} {v : Value} {cs : List Value} {xs : List τ} (hx : ev e x = v) (hi : L[i]? = some (sl v u (k + 1) cs)) (H : Tells h (k + 1) R cs xs) (ht : ∀ w, (underlying t).run C.P w = .ok (.slice u') w) :
    Pur C (Own C.X hp L) ⟨dst, .call ⟨.builtin .len, #[x], #[t]⟩, ty, ps, es, gd⟩ e (.int .i64 xs.length) :=
  ⟨fun w hw => by
    obtain ⟨a, n, c, hv, hl, _⟩ := sl_val hw hi
    have : n = xs.length := by rw [H.len] at hl; exact (Nat.eq_of_mul_eq_mul_right (Nat.succ_pos k) hl).symm
    subst this
    simp [execOp, resolve, invoke, builtin, hx, hv, Builtin.len_, ht, goInt]⟩
theorem own_slg3 {X : World} {w : World} {i t k : Nat} {v : Value} {l : List Value} {n : Nat} (hw : Own X hp L w) (hi : L[i]? = some (sl v t (k + 1) l)) (hl : l.length = n * (k + 1)) : ∃ g : SG3, v = sg g ∧ g.2.1 = n := by
  obtain ⟨a, m, cap, hv, hl', _⟩ := sl_val hw hi
  exact ⟨(a, m, cap), hv, (Nat.eq_of_mul_eq_mul_right (Nat.succ_pos k) (hl'.symm.trans hl))⟩
theorem apC {τ : Type} {R : HL → τ → List Value → Prop} {i t k n ts tx : Nat} {v z w0 : Value} {c c2 : List Value} {xs : List τ} {inf : TypeInfo} {un : Unit} {dx : TypeDesc} (hN : Nat.blt d C.N = true)
    (hv : ev e x = v) (hw : ev e y = w0) (hi : L[i]? = some (sl v t (k + 1) c)) (H : Tells h (k + 1) R c xs) (hS : SeesV C.P C.X hp L (k + 1) w0 n c2) (h1 : ∀ v ∈ c2, v.oneCell' = true) (hl : lim (xs.length + n) = some un)
    (ht : ∀ w, (underlying ts).run C.P w = .ok (.slice t) w) (hx : ∀ w, (underlying tx).run C.P w = .ok dx w) (hdx : noInt dx)
    (hz : ∀ w, (zeroValue t).run C.P w = .ok z w) (hzs : z.cells.size = k + 1) (hs : ∀ w, (Go.sizeOf t).run C.P w = .ok (k + 1) w) (hin : ∀ w, (typeInfo t).run C.P w = .ok inf w) (hb : Nat.ble inf.bytes 65536 = true)
    (kk : ∀ g : SG3, G (upd e d (sg g)) hp (L.set i (sl (sg g) t (k + 1) (c ++ c2)))) :
    OpJ C ⟨some d, .call ⟨.builtin .append, #[x, y], #[ts, tx]⟩, ty, ps, es, gd⟩ e hp L G :=
  apd hN hv hw hi H.len hS h1 hl ht hx hdx hz hzs hs hin hb (fun v' w hO => by
    have hlt : i < L.length := by
      rcases Nat.lt_or_ge i L.length with h | h
      · exact h
      · rw [List.getElem?_eq_none h] at hi; cases hi
    obtain ⟨g, rfl, -⟩ := own_slg3 (i := i) (k := k) (v := v') (t := t) (l := c ++ c2) (n := xs.length + n) hO (by simp [hlt]) (by rw [List.length_append, H.len, hS.len, Nat.add_mul])
    exact kk g)
end
section
variable {X : World} {J : HL → List HP → Prop} {hp : HL} {L : List HP}
theorem KpC {τ : Type} {R : HL → τ → List Value → Prop} {xs : List τ} {t k : Nat} {v : Value} {cs : List Value} (c : Cv X J) (i : Nat) (hi : L[i]? = some (sl v t k cs)) (hR : Mono R) (H : Tells hp k R cs xs)
    (h : ∀ hp', sub hp hp' → RdL hp' k R v xs → J hp' (L.eraseIdx i)) : J hp L :=
  c.cx (ι := HL) (L' := fun _ => L.eraseIdx i) (hp' := id) (Φ := fun hp' => sub hp hp' ∧ RdS hp' k v cs) (fun w hw => sl_keep' (own_front hw hi)) (fun hp' hh => h hp' hh.1 ((H.mono hR hh.1).rdl hh.2))
theorem GbC {cs : List Value} {b t k n : Nat} (c : Cv X J) (hl : cs.length = n * k) (h : J hp (sl (.slice (some ⟨b, 0, none⟩) n n) t k cs :: L)) : J hp (blk b t cs :: L) := c.cv (fun _ hw => sl_blk hw hl) h
end
section
variable {C : Ctx} {hp : HL} {L : List HP} {e : Env} {d t ty n u : Nat} {x : Operand} {ps} {es} {gd : Option (Nat × Bool)} {G : Env → HL → List HP → Prop}
end
end Kot
