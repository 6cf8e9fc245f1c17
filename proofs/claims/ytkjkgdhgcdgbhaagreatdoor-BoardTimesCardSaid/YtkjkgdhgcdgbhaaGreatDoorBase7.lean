/- Words of Uj: from a reading of the arguments to kept memory, and from a function's contract to its row. -/
import Derived.Test.YtkjkgdhgcdgbhaaGreatDoorBase8
import Derived.ProofKit
import Derived.ShutString
import Derived.ChangeOld
import Derived.Carry
import Derived.OpenShut
namespace Kot
open Go Go.ChangeShapes Go.WideShapes Go.ChangeAt Go.RowKit
def Sm (w : World) : HL := w.heap.toList.zipIdx.map fun x => (x.2, x.1)
theorem SQ {w : World} {b : Nat} {o : Obj} : (b, o) ∈ Sm w ↔ w.heap[b]? = some o := by
  simp only [Sm, List.mem_map, Prod.mk.injEq, Prod.exists]
  constructor
  · rintro ⟨a, i, h, rfl, rfl⟩
    have := List.mem_zipIdx_iff_getElem?.1 h
    simpa using this
  · intro h
    exact ⟨o, b, List.mem_zipIdx_iff_getElem?.2 (by simpa using h), rfl, rfl⟩
theorem X8 (w : World) : JH w (Sm w) [] w := by
  refine ⟨⟨[], rfl, ?_, fun x hx => ?_⟩, rfl, rfl, rfl⟩
  · rw [List.append_nil]
    have : (Sm w).map Prod.fst = List.range w.heap.toList.length := by
      simp only [Sm, List.map_map]
      rw [show (Prod.fst ∘ fun x : Obj × Nat => (x.2, x.1)) = Prod.snd from rfl, List.zipIdx_map_snd, List.range_eq_range']
    rw [this]
    exact List.nodup_range
  · rw [List.append_nil] at hx
    exact SQ.1 hx
theorem X7 {w w' : World} {hp : HL} {L : List HP} (h : JH w hp L w') (hs : sub (Sm w) hp) : Below w.heap.size w w' := by
  have hb : ∀ k, k < w.heap.size → w'.heap[k]? = w.heap[k]? := fun k hk => by
    have h1 : w.heap[k]? = some w.heap[k] := Array.getElem?_eq_getElem hk
    rw [h1]
    exact h.old (hs _ (SQ.2 h1))
  refine ⟨h.os, h.tape, h.output, ?_, hb⟩
  cases hn : w.heap.size with
  | zero => exact Nat.zero_le _
  | succ n =>
    have h1 := hb n (by omega)
    rw [Array.getElem?_eq_getElem (show n < w.heap.size by omega)] at h1
    have := (Array.getElem?_eq_some_iff.1 h1).1
    omega
theorem AaB {P : Program} {w : World} {T : Option Bool} {f : FuncId} {args : List Value} {ι : Type} {Φ : Bool → ι → HL → Prop} {M : Bool → ι → List HP}
    (h : DJ P w T f args (Sm w) [] (fun r => Ex (fun _ => .bool r) (Φ r) (Sm w) (M r))) (ht : T = some true) :
    Calls P f args.toArray w fun e w' => e = .returned (.bool true) ∧ Below w.heap.size w w' :=
  ((h.go _ ht).go w (X8 w)).mono fun _ _ ⟨_, _, _, h1, ⟨_, h2, h3, _⟩, h4⟩ => ⟨by rw [h1, h2], X7 h4 h3⟩
/-! ### readings -/
def RdT (P : Program) (w : World) {τ : Type} (t : TypeId) (R : HL → τ → List Value → Prop) (W : τ → Prop) : Prop :=
  ∀ (H : Type) (enc : TypeId × Value → H) (held : Bool) (fuel : Nat) (cs : List Value) (x : DataW H × List MemPlace), DataW.trod enc P w 0 (fun _ => true) held fuel t cs = some x → ∃ a, R (Sm w) a cs ∧ W a
section
variable {P : Program} {w : World} {τ : Type} {t e : TypeId} {R : HL → τ → List Value → Prop} {W : τ → Prop}
theorem Zc {k : IntKind} (ht : P.underlying t = some (.int k)) : RdT P w t (Bo (vi k)) (fun n => (Lit.int k n).wf = true) := fun _ _ _ _ _ _ h => by
  obtain ⟨n, rfl, _, hw⟩ := DataW.trod_int ht h
  exact ⟨n, rfl, hw⟩
theorem cells?_get {base n : Nat} {a : Addr} {cs : List Value} (h : w.cells? base a n = some cs) : cs.length = n ∧ ∀ j, j < n → w.cell? (a.add j) = cs[j]? := by
  unfold World.cells? at h
  split at h
  · refine ⟨by simpa using mapM_some_length h, fun j hj => mapM_some_get h j j (by simpa using List.getElem?_range hj)⟩
  · cases h
theorem Yr {α β : Type} {n : Nat} {p : Nat → α → β → Prop} (h : ∀ i, i < n → ∃ a b, p i a b) : ∃ (l : List α) (ll : List β), l.length = n ∧ ll.length = n ∧ ∀ i a b, l[i]? = some a → ll[i]? = some b → p i a b := by
  induction n with
  | zero => exact ⟨[], [], rfl, rfl, fun i a b h => by simp at h⟩
  | succ n ih =>
    obtain ⟨l, ll, h1, h2, h3⟩ := ih fun i hi => h i (by omega)
    obtain ⟨a, b, hab⟩ := h n (by omega)
    refine ⟨l ++ [a], ll ++ [b], by simp [h1], by simp [h2], fun i x y hx hy => ?_⟩
    by_cases hi : i < n
    · rw [List.getElem?_append_left (by omega)] at hx hy
      exact h3 i x y hx hy
    · rw [List.getElem?_append_right (by omega)] at hx hy
      have : i = n := by
        have := (List.getElem?_eq_some_iff.1 hx).1
        simp at this
        omega
      subst this
      simp [h1] at hx
      simp [h2] at hy
      subst hx; subst hy
      exact hab
theorem YB {p : Addr} {i : Nat} (h : p.spot = none) : p.add i = ⟨p.block, p.off + i, none⟩ := by
  obtain ⟨b, o, s⟩ := p
  simp only at h
  subst h
  simp only [Addr.add]
  split
  · rename_i h0; simp_all
  · rfl
theorem XN (a : Addr) (n m : Nat) : (a.add n).add m = a.add (n + m) := by
  simp only [Addr.add]
  by_cases h : n = 0
  · subst h; simp
  · by_cases h2 : m = 0
    · subst h2; simp [h]
    · have h3 : ¬ n + m = 0 := by omega
      simp [h, h2, h3, Nat.add_assoc]
theorem ZQ (a : Addr) : a.add 0 = a := by simp [Addr.add]
theorem YO {k : Nat} (ht : P.underlying t = some (.slice e)) (hc : P.cellsOf e = k + 1) (h : RdT P w e R W) :
    RdT P w t (fun hp (l : List τ) cs => ∃ g : SG, cs = [sv g l.length] ∧ DN hp (k + 1) R (sv g l.length) l) (fun l => l.length ≤ maxLen ∧ ∀ a ∈ l, W a) := fun H enc held fuel cs x hx => by
  rcases DataW.trod_slice ht hx with ⟨rfl, _⟩ | ⟨a, len, cap, elems, rest, n, _, rfl, rfl, hb, hl, hm, hlen, hel, _, _⟩
  · exact ⟨[], ⟨(none, 0), rfl, DN.nil⟩, Nat.zero_le _, by simp⟩
  · rw [hc] at hel
    obtain ⟨l, ll, h1, h2, h3⟩ := Yr (n := len) (p := fun i (x : τ) (c : List Value) => w.cells? 0 (a.add (i * (k + 1))) (k + 1) = some c ∧ R (Sm w) x c ∧ W x) fun i hi => by
      have hh := hel i hi
      obtain ⟨y, hy⟩ : ∃ y, elems[i]? = some y := ⟨elems[i]'(by omega), List.getElem?_eq_getElem _⟩
      rw [hy, Option.bind_eq_some_iff] at hh
      obtain ⟨c, hc1, hc2⟩ := hh
      obtain ⟨z, hz⟩ := h H enc held n c y hc2
      exact ⟨z, c, hc1, hz⟩
    have hk : ∀ c ∈ ll, c.length = k + 1 := fun c hcm => by
      obtain ⟨i, hi⟩ := List.getElem?_of_mem hcm
      have hlt := (List.getElem?_eq_some_iff.1 hi).1
      exact (cells?_get (h3 i _ c (List.getElem?_eq_getElem (show i < l.length by omega)) hi).1).1
    have hfl : ll.flatten.length = len * (k + 1) := by rw [Sa hk, h2]
    refine ⟨l, ⟨(some a, cap), by simp [sv, h1], ⟨ll, ⟨some a, len, cap, by simp [sv, h1], hfl, hl, ?_⟩, by omega, fun i x c hx hc => ⟨(h3 i x c hx hc).2.1, hk c (List.mem_of_getElem? hc)⟩⟩⟩, by omega, fun x hx => ?_⟩
    · by_cases h0 : len = 0
      · left
        have : ll = [] := List.eq_nil_of_length_eq_zero (by omega)
        rw [this]; rfl
      · right
        have cell : ∀ i, i < ll.flatten.length → w.cell? (a.add i) = ll.flatten[i]? := fun i hi => by
          have hq : i / (k + 1) < len := by
            rw [hfl] at hi
            exact Nat.div_lt_of_lt_mul (by rw [Nat.mul_comm]; exact hi)
          have hc1 : ll[i / (k + 1)]? = some (ll[i / (k + 1)]'(by omega)) := List.getElem?_eq_getElem _
          have hx1 : l[i / (k + 1)]? = some (l[i / (k + 1)]'(by omega)) := List.getElem?_eq_getElem _
          have hg := SN hk hc1 (i % (k + 1)) (Nat.mod_lt _ (by omega))
          have hw := (cells?_get (h3 _ _ _ hx1 hc1).1).2 (i % (k + 1)) (Nat.mod_lt _ (by omega))
          have e1 : i / (k + 1) * (k + 1) + i % (k + 1) = i := by rw [Nat.mul_comm]; exact Nat.div_add_mod i (k + 1)
          rw [e1] at hg
          rw [hg, ← hw, XN, e1]
        have h00 : 0 < ll.flatten.length := by rw [hfl]; exact Nat.mul_pos (by omega) (by omega)
        have c0 := cell 0 h00
        rw [List.getElem?_eq_getElem h00] at c0
        have hsp : a.spot = none ∧ ∃ cs t fr, w.heap[a.block]? = some (.cells cs t fr) := by
          rw [ZQ] at c0
          unfold World.cell? at c0
          split at c0
          · rename_i cs t fr hh
            split at c0
            · cases c0
            · rename_i hs
              exact ⟨by cases hq : a.spot <;> simp_all, cs, t, fr, hh⟩
          · cases c0
        obtain ⟨hs, bcs, bt, bfr, hblk⟩ := hsp
        refine ⟨a.block, a.off, bcs, bt, bfr, by rw [← hs], SQ.2 hblk, fun i hi => ?_⟩
        rw [← cell i hi, YB hs]
        simp [World.cell?, hblk]
    · obtain ⟨i, hi⟩ := List.getElem?_of_mem hx
      have hlt := (List.getElem?_eq_some_iff.1 hi).1
      exact (h3 i x _ hi (List.getElem?_eq_getElem (show i < ll.length by omega))).2.2
end
/-! ### arguments -/
section
variable {P : Program} {w : World} {r : Reach} {base : Nat} {H : Type} {enc : TypeId × Value → H} {held : Bool} {τ : Type} {t e : TypeId} {R : HL → τ → List Value → Prop} {W : τ → Prop} {v : Value} {d : DataW H} {ps : List MemPlace}
theorem VS {k : Nat} (ht : P.underlying t = some (.slice e)) (hc : P.cellsOf e = k + 1) (h : RdT P w e R W) (hv : Value.okWide P w r base t v) (hd : DataW.Trod enc P w 0 (fun _ => true) held t v d ps) :
    ∃ (l : List τ) (g : SG), v = sv g l.length ∧ DN (Sm w) (k + 1) R (sv g l.length) l ∧ l.length ≤ maxLen ∧ ∀ a ∈ l, W a := by
  obtain ⟨a, len, cap, rfl⟩ := okWide_slice ht hv
  obtain ⟨fuel, hf⟩ := hd
  obtain ⟨l, ⟨g, hg, hR⟩, hl, hW⟩ := YO ht hc h H enc held fuel _ _ hf
  exact ⟨l, g, by simpa [Value.cells] using hg, hR, hl, hW⟩
theorem Zi {k : IntKind} (ht : P.underlying t = some (.int k)) (hv : Value.okWide P w r base t v) (hd : DataW.Trod enc P w 0 (fun _ => true) held t v d ps) : ∃ n, v = .int k n ∧ (Lit.int k n).wf = true := by
  obtain ⟨n, rfl, _, _, hw⟩ := open_int ht hv hd
  exact ⟨n, rfl, hw⟩
theorem WA {w' : World} (hl : laidOutB P = true) (hr : P.readableRec t = true) (ht : decide (t < P.types.size) = true) (hd : DataW.Trod enc P w 0 (fun _ => true) true t v d ps) (hb : Below w.heap.size w w') :
    DataW.Trod enc P w' 0 (fun b => decide (b < w.heap.size)) true t v d ps :=
  Below.trod hl hr (of_decide_eq_true ht) hd hb (by obtain ⟨m, hm⟩ := hd; exact DataW.trod_lt m _ _ _ hm)
end
end Kot
