/- Words for walking Go functions: elements of slices that are owned, read and written; Uj that are made and copied; errors that are numbers; no program is named here. -/
import Derived.Test.YtkjkgdhgcdgbhaaGreatDoorBase12
import Derived.Lib.ConvBytes
namespace Kot
open Go
theorem XO (a : Addr) (n m : Nat) : (a.add n).add m = a.add (n + m) := by
  simp only [Addr.add]
  by_cases h : n = 0
  · subst h; simp
  · by_cases h2 : m = 0
    · subst h2; simp [h]
    · have h3 : ¬ n + m = 0 := by omega
      simp [h, h2, h3, Nat.add_assoc]
theorem YP {X hp} {L : List HP} {i : Nat} {A B : HP} {w w' : World} (hw : JH X hp L w) (hi : L[i]? = some A) (h : JH X hp (A :: L.eraseIdx i) w → JH X hp (B :: L.eraseIdx i) w') : JH X hp (L.set i B) w' := by
  have hlt : i < L.length := by
    rcases Nat.lt_or_ge i L.length with h | h
    · exact h
    · rw [List.getElem?_eq_none h] at hi; cases hi
  have h2 := Wp i (h (LK hw hi))
  have e : (L.eraseIdx i).take i ++ B :: (L.eraseIdx i).drop i = L.set i B := by
    rw [List.eraseIdx_eq_take_drop_succ, List.set_eq_take_append_cons_drop, if_pos hlt]
    have h3 : (List.take i L).length = i := by simp; omega
    rw [List.take_append_of_le_length (by omega), List.drop_append_of_le_length (by omega)]
    simp [List.take_take]
  rwa [e] at h2
def AtO (v : Value) (m : Nat) (p : Addr) : Prop := ∀ a n c, v = .slice (some a) n c → p = a.add m
theorem VC {τ : Type} {f : τ → List Value} {k : Nat} (hf : ∀ x, (f x).length = k) {xs : List τ} {i : Nat} {z : τ} (hz : xs[i]? = some z) {o : Nat} {v : Value} (ho : (f z)[o]? = some v) : (xs.flatMap f)[i * k + o]? = some v := by
  have hlt : o < k := by
    have := (List.getElem?_eq_some_iff.1 ho).1
    rw [hf] at this; exact this
  rw [List.flatMap_def, SN (k := k) (ll := xs.map f) (i := i) (c := f z) (fun c hc => by obtain ⟨x, _, rfl⟩ := List.mem_map.1 hc; exact hf x) (by rw [List.getElem?_map, hz]; rfl) o hlt, ho]
theorem VZ {τ : Type} {f : τ → List Value} {k : Nat} (hf : ∀ x, (f x).length = k) : ∀ {xs : List τ} {i : Nat} {z z2 : τ} {o : Nat} {v : Value}, xs[i]? = some z → o < k → f z2 = (f z).set o v → (xs.set i z2).flatMap f = (xs.flatMap f).set (i * k + o) v
  | [], i, z, _, _, _, h, _, _ => by simp at h
  | x :: xs, 0, z, z2, o, v, h, ho, h2 => by
    simp only [List.getElem?_cons_zero, Option.some.injEq] at h
    subst h
    rw [List.set_cons_zero, List.flatMap_cons, List.flatMap_cons, h2, Nat.zero_mul, Nat.zero_add, List.set_append_left _ _ (by rw [hf]; exact ho)]
  | x :: xs, i + 1, z, z2, o, v, h, ho, h2 => by
    have ih := VZ hf (xs := xs) (i := i) (by simpa using h) ho h2
    rw [List.set_cons_succ, List.flatMap_cons, List.flatMap_cons, ih, List.set_append_right _ _ (by rw [hf, Nat.succ_mul]; omega)]
    congr 2
    rw [hf, Nat.succ_mul]; omega
theorem SC {P : Program} {X hp} {L : List HP} {i b : Nat} {t : TypeId} : ∀ (vs : List Value) (j off : Nat) (cs : Array Value) (w : World), JH X hp (L.set i (pt b (.cells cs t (0, 0)))) w → i < L.length →
    (∀ v ∈ vs, v.oneCell' = true) → off + j + vs.length ≤ cs.size →
    ∃ w' cs', (storeCells ⟨b, off, none⟩ vs j).run P w = .ok () w' ∧ JH X hp (L.set i (pt b (.cells cs' t (0, 0)))) w' ∧ cs'.size = cs.size ∧
      (∀ m, m < off + j → cs'[m]? = cs[m]?) ∧ (∀ m, off + j + vs.length ≤ m → cs'[m]? = cs[m]?) ∧ ∀ m, m < vs.length → cs'[off + j + m]? = vs[m]?
  | [], j, off, cs, w, hw, _, _, _ => ⟨w, cs, rfl, hw, rfl, fun _ _ => rfl, fun _ _ => rfl, fun m hm => by simp at hm⟩
  | v :: vs, j, off, cs, w, hw, hi, h1, h2 => by
    have hL : (L.set i (pt b (Obj.cells cs t (0, 0))))[i]? = some (pt b (.cells cs t (0, 0))) := by simp [hi]
    have hg := hw.get hL
    have hadd : (⟨b, off, none⟩ : Addr).add j = ⟨b, off + j, none⟩ := by
      unfold Addr.add; split
      · rename_i h; simp [h]
      · rfl
    simp only [List.length_cons] at h2
    have hc : w.cell? ⟨b, off + j, none⟩ = some (cs[off + j]'(by omega)) := by
      simp [World.cell?, hg]
    have hf : w.frozen? ⟨b, off + j, none⟩ = false := by simp [World.frozen?, hg]
    have hw1 : JH X hp (L.set i (pt b (.cells (cs.setIfInBounds (off + j) v) t (0, 0)))) (w.setCell ⟨b, off + j, none⟩ v) := by
      have := hw.set (w' := w.setCell ⟨b, off + j, none⟩ v) (o' := .cells (cs.setIfInBounds (off + j) v) t (0, 0)) hL rfl rfl rfl (by simp [World.setCell, Array.getElem?_modify, hg])
        (fun k hk => by simp [World.setCell, Array.getElem?_modify]; omega)
      simpa [List.set_set] using this
    obtain ⟨w', cs', hr, ho, hs, hlo, hup, hhi⟩ := SC vs (j + 1) off (cs.setIfInBounds (off + j) v) _ hw1 hi (fun v hv => h1 v (by simp [hv])) (by simp; omega)
    refine ⟨w', cs', ?_, ho, by simpa using hs, fun m hm => ?_, fun m hm => ?_, fun m hm => ?_⟩
    · simp only [storeCells, Sem.run_bind, hadd, run_store _ _ _ _ _ (h1 v (by simp)), hc, hf]
      simpa using hr
    · rw [hlo m (by omega)]; simp [Array.getElem?_setIfInBounds]; omega
    · simp only [List.length_cons] at hm; rw [hup m (by omega)]; simp [Array.getElem?_setIfInBounds]; omega
    · cases m with
      | zero => rw [Nat.add_zero, hlo _ (by omega)]; simp [Array.getElem?_setIfInBounds]; omega
      | succ m =>
        have := hhi m (by simp at hm; omega)
        simp only [List.getElem?_cons_succ]
        rw [← this]; congr 1; omega
section
variable {C : NR} {F : World → Prop} {e : JU} {hp h : HL} {L : List HP} {ty : TypeId} {ps : String} {es : Array Edge} {dst : Option Nat} {gd : Option (Nat × Bool)} {x y : Operand} {t t' : Nat} {G : JU → HL → List HP → Prop} {d : Nat}
theorem VO {X w} {v : Value} {u k : Nat} {l : List Value} {R : List HP} (hw : JH X hp (sl v u k l :: R) w) (hl : l ≠ []) : ∃ b off cs n cap, v = .slice (some ⟨b, off, none⟩) n cap ∧ w.heap[b]? = some (.cells cs u (0, 0)) ∧ off + cap * k ≤ cs.size ∧ l.length = n * k ∧ n ≤ cap ∧ (∀ i, i < l.length → cs[off + i]? = l[i]?) ∧
    ∀ cs' w', cs'.size = cs.size → ∀ l', l'.length = l.length → (∀ i, i < l'.length → cs'[off + i]? = l'[i]?) → w'.os = w.os → w'.tape = w.tape → w'.output = w.output → w'.heap[b]? = some (.cells cs' u (0, 0)) → (∀ q, q ≠ b → w'.heap[q]? = w.heap[q]?) → JH X hp (sl v u k l' :: R) w' := by
  obtain ⟨hh, ⟨h1, h2, rfl, ⟨a, n', cap, rfl, hlen, hcap, hc⟩, hs2⟩, hsat⟩ := hw.ex
  rcases hc with ⟨_, rfl, _⟩ | ⟨b, off, cs, rfl, rfl, hsz, hcs⟩
  · exact absurd (List.length_eq_zero_iff.1 (by simpa using hlen)) hl
  · refine ⟨b, off, cs, n', cap, rfl, hsat.2 (b, .cells cs u (0, 0)) (by simp), hsz, hlen, hcap, hcs, fun cs' w' hsz' l' hl' hcs' e1 e2 e3 hb hq => ?_⟩
    have hset : JH X hp ((pt b (.cells cs u (0, 0)) :: R).set 0 (pt b (.cells cs' u (0, 0)))) w' := by
      refine JH.set (w := w) (o := .cells cs u (0, 0)) ?_ rfl e1 e2 e3 hb hq
      exact ⟨⟨_, ⟨[(b, .cells cs u (0, 0))], h2, rfl, rfl, hs2⟩, hsat⟩, hw.os, hw.tape, hw.output⟩
    obtain ⟨hh', ⟨k1, k2, rfl, hk1, hk2⟩, hsat'⟩ := hset.ex
    have : k1 = [(b, .cells cs' u (0, 0))] := hk1
    subst this
    exact ⟨⟨_, ⟨[(b, .cells cs' u (0, 0))], k2, rfl, ⟨_, _, _, rfl, by rw [hl', hlen], hcap, .inr ⟨b, off, cs', rfl, rfl, by rw [hsz']; exact hsz, hcs'⟩⟩, hk2⟩, hsat'⟩, hset.os, hset.tape, hset.output⟩
def plc (v : Value) (m : Nat) : Addr := match v with
  | .slice (some a) _ _ => a.add m
  | _ => ⟨0, 0, none⟩
theorem Uq {τ : Type} {f : τ → List Value} {j k u : Nat} {v' : Value} {xs : List τ} {z : τ} {i : Int} {ki : IntKind} (hx : ev e x = v') (hi : L[j]? = some (sl v' u (k + 1) (xs.flatMap f))) (hf : ∀ x, (f x).length = k + 1)
    (hz : IE xs i = some z) (hy : ev e y = .int ki i) (ht : ∀ w, (underlying t).run C.P w = .ok (.slice u) w) (hs : ∀ w, (Go.sizeOf u).run C.P w = .ok (k + 1) w) :
    Vk C (JH C.X hp L) ⟨dst, .indexAddr t x y, ty, ps, es, gd⟩ e (fun p : Addr => .pointer (some p)) (fun p => AtO v' (i.toNat * (k + 1)) p) := by
  obtain ⟨h0, hlt, hzz⟩ := Pd hz
  have hne : xs.flatMap f ≠ [] := fun h => by
    have h1 := Kq hf xs
    rw [h] at h1
    have h2 : xs.length * (k + 1) = 0 := h1.symm
    have h3 : 0 < xs.length := by omega
    exact absurd h2 (Nat.ne_of_gt (Nat.mul_pos h3 (Nat.succ_pos k)))
  refine ⟨plc v' (i.toNat * (k + 1)), ⟨fun w hw => ?_⟩, fun a n c ha => by subst ha; rfl⟩
  obtain ⟨b, off, cs, n, cap, rfl, _⟩ := VO (LK hw hi) hne
  obtain ⟨_, _, hv2, _⟩ := Yy (LK hw hi) (Kq hf xs)
  simp only [Value.slice.injEq] at hv2
  obtain ⟨_, rfl, _⟩ := hv2
  simp [execOp, hx, hy, plc, Instr.indexAt, asIntOf, ht, hs, h0, hlt]
theorem Vy {τ : Type} {f : τ → List Value} {j k u o : Nat} {v' : Value} {xs : List τ} {z : τ} {i : Int} {p : Addr} {v : Value} (ha : ∀ w, (isAgg t).run C.P w = .ok false w) (hx : ev e x = .pointer (some p)) (H : AtO v' (i.toNat * (k + 1) + o) p)
    (hi : L[j]? = some (sl v' u (k + 1) (xs.flatMap f))) (hf : ∀ x, (f x).length = k + 1) (hz : IE xs i = some z) (hv : (f z)[o]? = some v) : NG C (JH C.X hp L) ⟨dst, .load t x, ty, ps, es, gd⟩ e v := by
  obtain ⟨h0, hlt, hzz⟩ := Pd hz
  have hat := VC hf hzz hv
  refine ⟨fun w hw => ?_⟩
  obtain ⟨b, off, cs, n, cap, rfl, hb, _, _, _, hcs, _⟩ := VO (LK hw hi) (fun h => by rw [h] at hat; simp at hat)
  obtain rfl := H _ _ _ rfl
  have hc : w.cell? ((⟨b, off, none⟩ : Addr).add (i.toNat * (k + 1) + o)) = some v := by
    rw [Tg _ rfl]
    have := hcs _ (List.getElem?_eq_some_iff.1 hat).1
    rw [hat] at this
    simp [World.cell?, hb, this]
  simp [execOp, hx, Instr.loadAt, Instr.sureAddr, loadVar, ha, hc]
theorem Ze {τ : Type} {f : τ → List Value} {j k u o : Nat} {v' : Value} {xs : List τ} {z z2 : τ} {i : Int} {p : Addr} {v v0 : Value} (hs : ∀ w, (Go.sizeOf t).run C.P w = .ok 1 w) (hx : ev e x = .pointer (some p)) (H : AtO v' (i.toNat * (k + 1) + o) p) (hy : ev e y = v) (h1 : v.cells = #[v]) (h2 : v.oneCell' = true)
    (hi : L[j]? = some (sl v' u (k + 1) (xs.flatMap f))) (hf : ∀ x, (f x).length = k + 1) (hz : IE xs i = some z) (hv : (f z)[o]? = some v0) (hz2 : f z2 = (f z).set o v)
    (kk : G e hp (L.set j (sl v' u (k + 1) ((xs.set i.toNat z2).flatMap f)))) : EE C ⟨none, .store t x y, ty, ps, es, gd⟩ e hp L G := by
  obtain ⟨h0, hlt, hzz⟩ := Pd hz
  have hat := VC hf hzz hv
  have ho : o < k + 1 := by
    have := (List.getElem?_eq_some_iff.1 hv).1
    rwa [hf] at this
  refine EE.skip (fun w hw => ?_) kk
  obtain ⟨b, off, cs, n, cap, rfl, hb, hsz, hlen, _, hcs, hput⟩ := VO (LK hw hi) (fun h => by rw [h] at hat; simp at hat)
  obtain rfl := H _ _ _ rfl
  have hlt2 := (List.getElem?_eq_some_iff.1 hat).1
  have hcell := hcs _ hlt2
  rw [hat] at hcell
  have hc : w.cell? ⟨b, off + (i.toNat * (k + 1) + o), none⟩ = some v0 := by simp [World.cell?, hb, hcell]
  have hfr : w.frozen? ⟨b, off + (i.toNat * (k + 1) + o), none⟩ = false := by simp [World.frozen?, hb]
  refine ⟨w.setCell ⟨b, off + (i.toNat * (k + 1) + o), none⟩ v, ?_, ?_⟩
  · simp [execOp, hx, hy, Instr.storeAt, Instr.sureAddr, storeVar, hs, h1, storeCells, XO, Tg, run_store _ _ _ _ _ h2, hc, hfr]
  · rw [VZ hf hzz ho hz2]
    refine YP hw hi fun _ => ?_
    refine hput (cs.setIfInBounds (off + (i.toNat * (k + 1) + o)) v) _ (by simp) _ (by simp) (fun q hq => ?_) rfl rfl rfl ?_ ?_
    · rw [List.length_set] at hq
      by_cases hqm : q = i.toNat * (k + 1) + o
      · subst hqm
        rw [List.getElem?_set_self hq]
        have : off + (i.toNat * (k + 1) + o) < cs.size := (Array.getElem?_eq_some_iff.1 hcell).1
        simp [this]
      · rw [List.getElem?_set_ne (by omega), ← hcs q hq]
        simp [Array.getElem?_setIfInBounds]
        omega
    · simp [World.setCell, Array.getElem?_modify, hb]
    · intro q hq; simp [World.setCell, Array.getElem?_modify]; omega
theorem Vz {τ : Type} {f : τ → List Value} {z0 : τ} {u k : Nat} {n : Int} {z : Value} {inf : TypeInfo} {un : Unit} {ki kj : IntKind} (hN : Nat.blt d C.N = true) (hx : ev e x = .int ki n) (hy : ev e y = .int kj n) (hn : decide (n < 0) = false) (hl : lim n.toNat = some un)
    (ht : C.P.underlying t = some (.slice u)) (hi' : ∀ w, (typeInfo u).run C.P w = .ok inf w) (hz : inf.zero = some z) (hs : inf.size = k + 1) (hzc : z.cells = (f z0).toArray) (hf : ∀ x, (f x).length = k + 1) (hb : Nat.ble inf.bytes 65536 = true)
    (kk : ∀ g, G (JI e d (sg g)) hp (sl (sg g) u (k + 1) ((List.replicate n.toNat z0).flatMap f) :: L)) : EE C ⟨some d, .makeSlice t x y, ty, ps, es, gd⟩ e hp L G := by
  have hn0 : 0 ≤ n := by have := of_decide_eq_false hn; omega
  obtain ⟨m, rfl⟩ := Int.eq_ofNat_of_zero_le hn0
  have hlim := Wk hl
  have hb' := Nat.le_of_ble_eq_true hb
  simp only [Int.toNat_natCast] at hlim
  refine ⟨fun a w hA hw next Q' hnx => ?_⟩
  have hi : C.P.info? u = some inf := by
    have := hi' w
    unfold typeInfo at this
    cases hq : C.P.info? u with
    | none => simp [hq] at this
    | some j => simpa [hq] using this
  have hbb : (inf.bytes : Int) * (m : Int) ≤ 281474976710656 := by
    have : inf.bytes * m ≤ 65536 * 1073741824 := Nat.mul_le_mul hb' hlim
    have h2 : ((inf.bytes * m : Nat) : Int) ≤ 281474976710656 := by omega
    rwa [Int.natCast_mul] at h2
  have hr := Go.run_make (P := C.P) w t u inf z ht hi hz ki kj m m (by omega) (by omega) hbb (by omega)
  simp only [Int.toNat_natCast] at hr
  have hx' : (execOp a.eval ⟨some d, .makeSlice t x y, ty, ps, es, gd⟩).run C.P w = .ok (.value (.slice (some ⟨w.heap.size, 0, none⟩) m m)) (w.alloc (.cells (madeCells z.cells (m * inf.size)) u (0, 0))) := by
    simp [execOp, hA.eval, hx, hy, hr]
  simp only [Oper.wp, hx', Oper.upon]
  have hw3 := hw.new (.cells (madeCells z.cells (m * inf.size)) u (0, 0))
  have hlr : (List.replicate m z0).length = m := by simp
  have := kk (some ⟨w.heap.size, 0, none⟩, m, m)
  simp only [Int.toNat_natCast] at this
  refine hnx _ _ _ _ _ this (hA.put hN _) ?_
  obtain ⟨hh, ⟨h1, h2, rfl, ha1, hs1⟩, hsat⟩ := hw3.ex
  refine ⟨⟨h1 ++ h2, ⟨h1, h2, rfl, ?_, hs1⟩, hsat⟩, hw3.os, hw3.tape, hw3.output⟩
  have hfl : ((List.replicate m z0).flatMap f).length = m * (k + 1) := by rw [Kq hf, hlr]
  refine ⟨_, m, m, rfl, hfl, Nat.le_refl _, .inr ⟨w.heap.size, 0, _, rfl, ha1, ?_, fun q hq => ?_⟩⟩
  · simp [madeCells, hs]
  · rw [hfl] at hq
    have hq1 : q < m * inf.size := by rw [hs]; exact hq
    have hqm : q % (k + 1) < k + 1 := Nat.mod_lt _ (Nat.succ_pos k)
    have hdiv : q / (k + 1) < m := Nat.div_lt_of_lt_mul (by rw [Nat.mul_comm]; exact hq)
    have e1 : q / (k + 1) * (k + 1) + q % (k + 1) = q := by rw [Nat.mul_comm]; exact Nat.div_add_mod q (k + 1)
    have hv : (f z0)[q % (k + 1)]? = some ((f z0)[q % (k + 1)]'(by rw [hf]; exact hqm)) := List.getElem?_eq_getElem _
    have h2 := VC (xs := List.replicate m z0) hf (i := q / (k + 1)) (by simp [hdiv]) hv
    rw [e1] at h2
    rw [h2, Nat.zero_add]
    have hzs : z.cells.size = k + 1 := by rw [hzc]; simp [hf]
    simp only [madeCells, Array.getElem?_map, Array.getElem?_range, if_pos hq1, Option.map_some, hzs]
    simp only [hzc]
    congr 1
    simp [hf, hqm]
theorem YW {τ : Type} {f : τ → List Value} {xs ys : List τ} {i t k ts tx : Nat} {v z w0 : Value} {inf : TypeInfo} {un : Unit} {dx : TypeDesc} (hN : Nat.blt d C.N = true)
    (hv : ev e x = v) (hw : ev e y = w0) (hi : L[i]? = some (sl v t (k + 1) (xs.flatMap f))) (hf : ∀ x, (f x).length = k + 1) (h1 : ∀ x, ∀ v ∈ f x, v.oneCell' = true) (hS : OW C.P C.X hp L (k + 1) w0 ys.length (ys.flatMap f)) (hl : lim (xs.length + ys.length) = some un)
    (ht : ∀ w, (underlying ts).run C.P w = .ok (.slice t) w) (hx : ∀ w, (underlying tx).run C.P w = .ok dx w) (hdx : Yn dx)
    (hz : ∀ w, (zeroValue t).run C.P w = .ok z w) (hzs : z.cells.size = k + 1) (hs : ∀ w, (Go.sizeOf t).run C.P w = .ok (k + 1) w) (hin : ∀ w, (typeInfo t).run C.P w = .ok inf w) (hb : Nat.ble inf.bytes 65536 = true)
    (h : ∀ g, G (JI e d (sg g)) hp (L.set i (sl (sg g) t (k + 1) ((xs ++ ys).flatMap f)))) :
    EE C ⟨some d, .call ⟨.builtin .append, #[x, y], #[ts, tx]⟩, ty, ps, es, gd⟩ e hp L G :=
  apd hN hv hw hi (Kq hf xs) hS (fun v hv => by obtain ⟨x, _, hx⟩ := List.mem_flatMap.1 hv; exact h1 x v hx) hl ht hx hdx hz hzs hs hin hb (fun v' w hO => by
    rw [← List.flatMap_append] at hO ⊢
    have hlt : i < L.length := by
      rcases Nat.lt_or_ge i L.length with h | h
      · exact h
      · rw [List.getElem?_eq_none h] at hi; cases hi
    obtain ⟨a, n, cap, rfl, _⟩ := ZB (i := i) (v := v') (t := t) (k := k + 1) (l := (xs ++ ys).flatMap f) hO (by simp only [List.getElem?_set_self hlt])
    exact h (a, n, cap))
theorem slQ {τ : Type} {f : τ → List Value} {k t el : Nat} {v : Value} {xs z : List τ} {lo hi : Option Operand} {a b : Int} (hf : ∀ x, (f x).length = k + 1) (hx : ev e x = v) (H : DN h (k + 1) (Bo f) v xs) (ht : ∀ w, (underlying t).run C.P w = .ok (.slice el) w) (hs : ∀ w, (Go.sizeOf el).run C.P w = .ok (k + 1) w)
    (hlo : VJ e lo 0 = some a) (hhi : VJ e hi xs.length = some b) (hz : Si xs a b = some z) :
    Vk C F ⟨dst, .slice t x lo hi none, ty, ps, es, gd⟩ e sg (fun g => DN h (k + 1) (Bo f) (sg g) z) := by
  obtain ⟨g, h1, h2⟩ := (slP (F := F) (dst := dst) (ty := ty) (ps := ps) (es := es) (gd := gd) hf hx H ht hs hlo hhi hz).go
  exact ⟨(g.1, z.length, g.2), h1, h2⟩
theorem Z7 {k : IntKind} {a b : Int} {ts : Array TypeId} (hx : ev e x = .int k a) (hy : ev e y = .int k b) : NG C F ⟨dst, .call ⟨.builtin .min, #[x, y], ts⟩, ty, ps, es, gd⟩ e (.int k (min a b)) :=
  op (fun w => by
    have : (if b < a then b else a) = min a b := by omega
    simp [execOp, resolve, invoke, builtin, hx, hy, Builtin.min_, Builtin.min2, this])
/-! ### errors that are numbers -/
end
end Kot
