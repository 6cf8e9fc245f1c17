/- Words for walking Go functions: typed slices, lengths, parts of slices, strings, ends with ghosts; no program is named here. -/
import Derived.Test.YtkjkgdhgcdgbhaaGreatDoorBase3
import Derived.Laws.Strings
namespace Kot
open Go
abbrev SG := Option Addr × Nat
def sv (g : SG) (n : Nat) : Value := .slice g.1 n g.2
theorem sub.refl (h : HL) : sub h h := fun _ hx => hx
theorem sub.trans {a b c : HL} (h : sub a b) (k : sub b c) : sub a c := fun x hx => k x (h x hx)
theorem sub.cons (x : Nat × Obj) (h : HL) : sub h (x :: h) := fun _ hx => by simp [hx]
def Ex {ι : Type} (V : ι → Value) (Φ : ι → HL → Prop) (hp : HL) (M : ι → List HP) : Value → HL → List HP → Prop := fun v hp' L' => ∃ s, v = V s ∧ sub hp hp' ∧ Φ s hp' ∧ L' = M s
theorem ex {ι : Type} {V : ι → Value} {Φ : ι → HL → Prop} {hp hp' : HL} {M : ι → List HP} {s : ι} (h : sub hp hp') (hΦ : Φ s hp') : Ex V Φ hp M (V s) hp' (M s) := ⟨s, rfl, h, hΦ, rfl⟩
section
variable {β : Type} {C : NR} {U : Option β} {r : β} {e : JU} {hp : HL} {L : List HP} {ty : TypeId} {ps : String} {es : Array Edge} {gd : Option (Nat × Bool)} {G : JU → HL → List HP → Prop}
    {d f : Nat} {xs : Array Operand} {ts : Array TypeId} {args : List Value} {ι : β → Type} {V : (b : β) → ι b → Value} {Φ : (b : β) → ι b → HL → Prop} {M : (b : β) → ι b → List HP}
theorem RU (hN : Nat.blt d C.N = true) (hc : ∀ args w, (callFunc f args).run C.P w = .ok (.enter f args) w) (ha : xs.toList.map (ev e) = args)
    (h : DJ C.P C.X U f args hp L (fun r => Ex (V r) (Φ r) hp (M r))) (hr : U = some r) (k : ∀ s hp', sub hp hp' → Φ r s hp' → G (JI e d (V r s)) hp' (M r s)) :
    EE C ⟨some d, .call ⟨.value (.func f), xs, ts⟩, ty, ps, es, gd⟩ e hp L G :=
  call hN hc ha h hr (fun v hp' L' hR => by obtain ⟨s, rfl, h1, h2, rfl⟩ := hR; exact k s hp' h1 h2)
end
theorem Kq {τ : Type} {f : τ → List Value} {k : Nat} (hf : ∀ x, (f x).length = k) (xs : List τ) : (xs.flatMap f).length = xs.length * k := by
  induction xs with
  | nil => simp
  | cons x xs ih => rw [List.flatMap_cons, List.length_append, hf, ih, List.length_cons, Nat.succ_mul]; omega
theorem DN.of {τ : Type} {hp : HL} {k : Nat} {v : Value} {f : τ → List Value} {xs : List τ} (hf : ∀ x, (f x).length = k) (H : XD hp k v (xs.flatMap f)) : DN hp k (Bo f) v xs :=
  ⟨xs.map f, by rw [← List.flatMap_def]; exact H, by simp, fun i x c hx hc => by
    rw [List.getElem?_map, hx] at hc
    simp only [Option.map_some, Option.some.injEq] at hc
    exact ⟨hc.symm, hc ▸ hf x⟩⟩
theorem DN.nil {τ : Type} {hp : HL} {k : Nat} {R : HL → τ → List Value → Prop} : DN hp k R (.slice none 0 0) [] :=
  ⟨[], ⟨none, 0, 0, rfl, by simp, Nat.le_refl _, .inl rfl⟩, rfl, fun i x c hx => by simp at hx⟩
section
variable {α : Type} {C : NR} {Q : α → LB} {T : Option α} {c : Code} {e : JU} {hp h : HL} {L : List HP} {ops l : List Oper} {ty : TypeId} {ps : String} {es : Array Edge} {d : Nat} {x y : Operand} {F : World → Prop} {dst : Option Nat} {gd : Option (Nat × Bool)} {G : JU → HL → List HP → Prop}
theorem ZB {X hp L w} {i t k : Nat} {v : Value} {l : List Value} (hw : JH X hp L w) (hi : L[i]? = some (sl v t k l)) : ∃ a n cap, v = .slice a n cap ∧ l.length = n * k := by
  obtain ⟨hh, ⟨h1, h2, _, ⟨a, n, cap, hv, hl, _⟩, _⟩, _⟩ := (LK hw hi).ex
  exact ⟨a, n, cap, hv, hl⟩
def TO (s : List UInt8) : List Int := s.map fun b => (b.toNat : Int)
theorem OW.str {P : Program} {X : World} {hp : HL} {L : List HP} (s : List UInt8) : OW P X hp L 1 (Kot.str s) (TO s).length ((TO s).flatMap (vi .u8)) :=
  ⟨by rw [Kq (k := 1) (fun _ => rfl)], fun w _ w' _ => by
    have hl : (ByteArray.mk s.toArray).size = (TO s).length := by simp [ByteArray.size, TO]
    refine ⟨by simp [Builtin.lenOf, Kot.str, hl], ?_⟩
    have he : (ByteArray.mk s.toArray).extract 0 (TO s).length = ByteArray.mk s.toArray := by
      apply ByteArray.ext
      rw [ByteArray.data_extract]
      simp [TO]
    simp only [Builtin.firstCells, Kot.str, he]
    have h3 : ∀ l : List UInt8, List.flatMap (fun a : UInt8 => [Value.int .u8 (a.toNat : Int)]) l = l.map fun a => Value.int .u8 (a.toNat : Int) := fun l => by
      induction l with
      | nil => rfl
      | cons a l ih => rw [List.flatMap_cons, ih]; rfl
    simp [TO, vi, List.flatMap_map, h3]⟩
theorem Sr {τ : Type} {f : τ → List Value} {X : World} {hp : HL} {L : List HP} {i b t k : Nat} {ys : List τ} (hf : ∀ x, (f x).length = k) (hi : L[i]? = some (blk b t (ys.flatMap f))) (cap : Nat) :
    TU X hp L k (.slice (some ⟨b, 0, none⟩) ys.length cap) ys.length (ys.flatMap f) := TU.blk hi (Kq hf ys) cap
theorem Yx {X hp L w} {v : Value} {t k : Nat} {l : List Value} (h : JH X hp (sl v t k l :: L) w) : ∃ hp', (sub hp hp' ∧ XD hp' k v l) ∧ JH X hp' L w :=
  let ⟨g, h1, h2⟩ := YS h; ⟨g ++ hp, ⟨YT g hp, h1⟩, h2⟩
theorem gn (t k : Nat) (h : LJ C Q T ops l e hp (sl (.slice none 0 0) t k [] :: L)) : LJ C Q T ops l e hp L := LJ.cv (fun _ hw => Yz hw t k) h
theorem gb {τ : Type} {f : τ → List Value} {xs : List τ} {b t k : Nat} (hf : ∀ x, (f x).length = k) (h : LJ C Q T ops l e hp (sl (.slice (some ⟨b, 0, none⟩) xs.length xs.length) t k (xs.flatMap f) :: L)) :
    LJ C Q T ops l e hp (blk b t (xs.flatMap f) :: L) := LJ.cv (fun _ hw => Yw hw (Kq hf xs)) h
theorem QJ {t n k el : Nat} {parts : Array (Nat × Operand)} {cs : List Value} {z : Value} (hN : Nat.blt d C.N = true)
    (ht : ∀ w, (underlying t).run C.P w = .ok (.slice el) w) (hs : ∀ w, (Go.sizeOf el).run C.P w = .ok k w) (hz : ∀ w, (zeroValue el).run C.P w = .ok z w) (hle : Nat.ble (n * k) 16777216 = true) (hnz : Nat.beq (n * k) 0 = false)
    (hf : Instr.fill (fun i => some (i * k, k)) ((Array.range (n * k)).map (z.cells[· % z.cells.size]!)) ((parts.map fun (i, x) => (i, ev e x)).toList) = some cs.toArray)
    (K : ∀ b, G (JI e d (.slice (some ⟨b, 0, none⟩) n n)) hp (blk b el cs :: L)) : EE C ⟨some d, .buildSlice t n parts, ty, ps, es, gd⟩ e hp L G := by
  refine ⟨fun a w ha hw next Q' hn => ?_⟩
  have h1 : ¬ 16777216 < n * k := Nat.not_lt.2 (Nat.le_of_ble_eq_true hle)
  have h2 : ¬ n * k = 0 := fun h => by rw [h] at hnz; simp at hnz
  have : (execOp a.eval ⟨some d, .buildSlice t n parts, ty, ps, es, gd⟩).run C.P w = .ok (.value (.slice (some ⟨w.heap.size, 0, none⟩) n n)) (w.alloc (.cells cs.toArray el (0, 0))) := by
    have hf' := hf
    simp only [Array.toList_map] at hf'
    simp [execOp, ha.eval, Instr.buildSlice, ht, hs, h1, h2, hz]
    rw [hf']
    simp [newRow]
  simp only [Oper.wp, this, Oper.upon]
  exact hn _ _ _ _ _ (K _) (ha.put hN _) (hw.new _)
theorem UE {τ : Type} {R : HL → τ → List Value → Prop} {k t u : Nat} {v : Value} {xs : List τ} (hx : ev e x = v) (H : DN h (k + 1) R v xs) (ht : ∀ w, (underlying t).run C.P w = .ok (.slice u) w) :
    NG C F ⟨dst, .call ⟨.builtin .len, #[x], #[t]⟩, ty, ps, es, gd⟩ e (.int .i64 xs.length) := by
  obtain ⟨a, cap, hv⟩ := H.len (Nat.succ_pos k)
  exact op (fun w => by simp [execOp, resolve, invoke, builtin, hx, hv, Builtin.len_, ht, goInt])
theorem Z4 {t u n cap : Nat} {a : Option Addr} (hx : ev e x = .slice a n cap) (ht : ∀ w, (underlying t).run C.P w = .ok (.slice u) w) :
    NG C F ⟨dst, .call ⟨.builtin .len, #[x], #[t]⟩, ty, ps, es, gd⟩ e (.int .i64 n) :=
  op (fun w => by simp [execOp, resolve, invoke, builtin, hx, Builtin.len_, ht, goInt])
def Si {τ : Type} (xs : List τ) (lo hi : Int) : Option (List τ) := if 0 ≤ lo ∧ lo ≤ hi ∧ hi ≤ xs.length then some ((xs.take hi.toNat).drop lo.toNat) else none
theorem Ti {τ : Type} {xs z : List τ} {lo hi : Int} (h : Si xs lo hi = some z) : 0 ≤ lo ∧ lo ≤ hi ∧ hi ≤ xs.length ∧ z = (xs.take hi.toNat).drop lo.toNat := by
  unfold Si at h; split at h
  · rename_i hh; injection h with h; exact ⟨hh.1, hh.2.1, hh.2.2, h.symm⟩
  · cases h
theorem ixS {t : Nat} {s : List UInt8} {z : UInt8} {i : Int} {ki : IntKind} (hx : ev e x = str s) (hz : IE s i = some z) (hy : ev e y = .int ki i) (ht : ∀ w, (underlying t).run C.P w = .ok .string w) :
    NG C F ⟨dst, .index t x y, ty, ps, es, gd⟩ e (.int .u8 (z.toNat : Int)) := by
  obtain ⟨h0, _, hzz⟩ := Pd hz
  refine op (fun w => ?_)
  have : (ByteArray.mk s.toArray)[i.toNat]? = some z := by
    simp only [getElem?_def, ByteArray.size] at hzz ⊢
    split at hzz
    · rename_i hlt
      rw [dif_pos (by simpa using hlt)]
      simpa [ByteArray.getElem_eq_getElem_data] using hzz
    · cases hzz
  simp [execOp, hx, hy, str, Instr.index, asIntOf, ht, h0, this]
theorem sqe {t t' : Nat} {a b : List UInt8} (hx : ev e x = str a) (hy : ev e y = str b) :
    NG C F ⟨dst, .binOp .eql t x y t', ty, ps, es, gd⟩ e (.bool (a == b)) := UC hx hy (fun w => by simp [eqGuard, str, binOp, Op.stringOp])
def VJ (e : JU) (o : Option Operand) (df : Int) : Option Int := match o with
  | none => some df
  | some x => match ev e x with
    | .int _ n => some n
    | _ => none
theorem Tj {P : Program} {w : World} {o : Option Operand} {df n : Int} {y : Nat} {code : BoundsCode} (h : VJ e o df = some n) (hd : 0 ≤ df ∧ df ≤ y) (hn : 0 ≤ n ∧ n ≤ y) :
    (match o.map (ev e) with | some v => Instr.sliceBound v y code | none => pure df.toNat : Sem Nat).run P w = .ok n.toNat w := by
  cases o with
  | none => simp only [VJ, Option.some.injEq] at h; subst h; simp
  | some x =>
    simp only [VJ] at h
    split at h
    · rename_i k m hm
      injection h with h; subst h
      simp [hm, Instr.sliceBound, asIntOf, hn]
    · cases h
theorem Aag {t : Nat} {s z : List UInt8} {lo hi : Option Operand} {a b : Int} (hx : ev e x = str s) (ht : ∀ w, (underlying t).run C.P w = .ok .string w)
    (hlo : VJ e lo 0 = some a) (hhi : VJ e hi s.length = some b) (hz : Si s a b = some z) : NG C F ⟨dst, .slice t x lo hi none, ty, ps, es, gd⟩ e (str z) := by
  obtain ⟨g1, g2, g3, rfl⟩ := Ti hz
  refine op (fun w => ?_)
  have h1 : (ByteArray.mk s.toArray).size = s.length := by simp [ByteArray.size]
  have r2 := Tj (P := C.P) (w := w) (code := .sliceAlen) (y := s.length) hhi ⟨by omega, by omega⟩ ⟨by omega, g3⟩
  have r1 := Tj (P := C.P) (w := w) (code := .sliceB) (y := b.toNat) hlo ⟨by omega, by omega⟩ ⟨g1, by omega⟩
  have h5 : (ByteArray.mk s.toArray).extract a.toNat b.toNat = ByteArray.mk ((s.take b.toNat).drop a.toNat).toArray := by
    apply ByteArray.ext
    rw [ByteArray.data_extract]
    simp [List.take_drop]
    rw [show a.toNat + (b.toNat - a.toNat) = b.toNat from by omega]
  have htx := ht w
  cases lo <;> cases hi <;> simp only [Option.map_none, Option.map_some, Int.toNat_natCast, Int.toNat_zero] at r1 r2 ⊢ <;>
    simp_all [execOp, str, Instr.sliceAt, Instr.slice, Instr.sliceBounds]
theorem Ud {τ : Type} {f : τ → List Value} {k : Nat} (hf : ∀ x, (f x).length = k) : ∀ (n : Nat) (xs : List τ), (xs.take n).flatMap f = (xs.flatMap f).take (n * k)
  | 0, xs => by simp
  | n + 1, [] => by simp
  | n + 1, x :: xs => by
    have ih := Ud hf n xs
    have h1 : (f x).take (n * k + k) = f x := List.take_of_length_le (by rw [hf]; omega)
    rw [List.take_succ_cons, List.flatMap_cons, List.flatMap_cons, ih, Nat.succ_mul, List.take_append, h1, hf]
    rw [Nat.add_sub_cancel]
theorem Uc {τ : Type} {f : τ → List Value} {k : Nat} (hf : ∀ x, (f x).length = k) : ∀ (n : Nat) (xs : List τ), (xs.drop n).flatMap f = (xs.flatMap f).drop (n * k)
  | 0, xs => by simp
  | n + 1, [] => by simp
  | n + 1, x :: xs => by
    have ih := Uc hf n xs
    have h1 : (f x).drop (n * k + k) = [] := List.drop_eq_nil_of_le (by rw [hf]; omega)
    rw [List.drop_succ_cons, List.flatMap_cons, ih, Nat.succ_mul, List.drop_append, h1, hf]
    rw [Nat.add_sub_cancel, List.nil_append]
theorem DN.flat {τ : Type} {hp : HL} {k : Nat} {f : τ → List Value} {v : Value} {xs : List τ} (H : DN hp k (Bo f) v xs) : XD hp k v (xs.flatMap f) := by
  obtain ⟨ll, hS, h2, h3⟩ := H
  have he : xs.map f = ll := by
    apply List.ext_getElem?
    intro i
    rw [List.getElem?_map]
    cases hx : xs[i]? with
    | none =>
      have : xs.length ≤ i := List.getElem?_eq_none_iff.1 hx
      rw [List.getElem?_eq_none (by omega)]; rfl
    | some x =>
      have hlt : i < xs.length := by
        rcases Nat.lt_or_ge i xs.length with h | h
        · exact h
        · rw [List.getElem?_eq_none h] at hx; cases hx
      have hc : ll[i]? = some (ll[i]'(by omega)) := List.getElem?_eq_getElem _
      rw [hc, (h3 i x _ hx hc).1]; rfl
  rw [List.flatMap_def, he]; exact hS
theorem Tg (p : Addr) (h : p.spot = none) (a : Nat) : p.add a = ⟨p.block, p.off + a, none⟩ := by
  unfold Addr.add; split
  · rename_i h0; subst h0; cases p; simp at h; subst h; rfl
  · rfl
theorem slP {τ : Type} {f : τ → List Value} {k t el : Nat} {v : Value} {xs z : List τ} {lo hi : Option Operand} {a b : Int} (hf : ∀ x, (f x).length = k + 1)
    (hx : ev e x = v) (H : DN h (k + 1) (Bo f) v xs) (ht : ∀ w, (underlying t).run C.P w = .ok (.slice el) w) (hs : ∀ w, (Go.sizeOf el).run C.P w = .ok (k + 1) w)
    (hlo : VJ e lo 0 = some a) (hhi : VJ e hi xs.length = some b) (hz : Si xs a b = some z) :
    Vk C F ⟨dst, .slice t x lo hi none, ty, ps, es, gd⟩ e (fun g => sv g z.length) (fun g => DN h (k + 1) (Bo f) (sv g z.length) z) := by
  obtain ⟨g1, g2, g3, rfl⟩ := Ti hz
  have hh : 0 ≤ a ∧ a ≤ b ∧ b ≤ xs.length := ⟨g1, g2, g3⟩
  obtain ⟨p, cap, hv⟩ := H.len (Nat.succ_pos k)
  have hfl := H.flat
  obtain ⟨p', n', cap', hv', hl', hcp, hc'⟩ := hfl
  rw [hv] at hv'
  injection hv' with e1 e2 e3
  subst e1 e2 e3
  have hcap : b ≤ cap := by omega
  have hlen : ((xs.take b.toNat).drop a.toNat).length = b.toNat - a.toNat := by simp; omega
  have hpart : DN h (k + 1) (Bo f) (.slice (if cap = a.toNat then p else p.map (·.add (a.toNat * (k + 1)))) (b.toNat - a.toNat) (cap - a.toNat)) ((xs.take b.toNat).drop a.toNat) := by
    refine DN.of hf ?_
    have hl : ((xs.take b.toNat).drop a.toNat).length = b.toNat - a.toNat := by simp; omega
    refine ⟨_, _, _, rfl, by rw [Kq hf, hl], by omega, ?_⟩
    by_cases hz : a.toNat = b.toNat
    · left
      have : ((xs.take b.toNat).drop a.toNat) = [] := List.drop_eq_nil_of_le (by simp; omega)
      rw [this]; rfl
    · right
      rcases hc' with hc' | ⟨b0, off, cs, t0, fr, rfl, hm, hcs⟩
      · have : (xs.flatMap f).length = 0 := by rw [hc']; rfl
        rw [Kq hf] at this
        have : xs.length = 0 := by
          rcases Nat.mul_eq_zero.1 this with h | h
          · exact h
          · omega
        omega
      · rw [if_neg (by omega)]
        refine ⟨b0, off + a.toNat * (k + 1), cs, t0, fr, by simp [Tg], hm, fun j hj => ?_⟩
        rw [Uc hf, Ud hf] at hj ⊢
        rw [List.length_drop, List.length_take] at hj
        rw [List.getElem?_drop, List.getElem?_take, if_pos (by omega), ← hcs _ (by omega), Nat.add_assoc]
  refine ⟨(if cap = a.toNat then p else p.map (·.add (a.toNat * (k + 1))), cap - a.toNat), ?_, by rw [sv, hlen]; exact hpart⟩
  rw [sv, hlen]
  refine op (fun w => ?_)
  have r2 := Tj (P := C.P) (w := w) (code := .sliceAcap) (y := cap) hhi ⟨by omega, by omega⟩ ⟨by omega, hcap⟩
  have r1 := Tj (P := C.P) (w := w) (code := .sliceB) (y := b.toNat) hlo ⟨by omega, by omega⟩ ⟨hh.1, by omega⟩
  have htx := ht w
  have hsx := hs w
  cases lo <;> cases hi <;> simp only [Option.map_none, Option.map_some, Int.toNat_natCast, Int.toNat_zero] at r1 r2 ⊢ <;>
    simp_all [execOp, Instr.sliceAt, Instr.slice, Instr.sliceBounds]
end
end Kot
