/- Words for walking Go functions: a builder's memory (bytes that are made, cut, told as a text), pointers turned round, errors; no program is named here. -/
import Derived.Test.YtpajmahpphcbaaaGreatDoorBase10
import Derived.Lib.MakeNoZero
import Derived.Lib.Builder
import Derived.Lib.UnsafeStr
namespace Kot
open Go

/-- a slice's value, told by a ghost: where, how many, how much room -/
abbrev SG3 := Option Addr × Nat × Nat
def sg (g : SG3) : Value := .slice g.1 g.2.1 g.2.2
def cutg (g : SG3) : SG3 := (g.1, 0, g.2.2)
/-- a row whose cells nobody knows -/
def raw (v : Value) (t : TypeId) (n : Nat) : HP := fun h => ∃ b cs, v = .slice (some ⟨b, 0, none⟩) n cs.size ∧ h = [(b, .cells cs t (0, 0))] ∧ n ≤ cs.size
theorem own_shape {X hp w} {L : List HP} {i b : Nat} {t : TypeId} {cs : List Value} (hw : Own X hp L w) (hL : L[i]? = some (blk b t cs)) : w.shape? b = some (t, cs.length) := by
  have := hw.get hL
  simp [World.shape?, this]

section
variable {C : Ctx} {F : World → Prop} {e : Env} {hp h : HL} {L : List HP} {ty : TypeId} {ps : String} {es : Array Edge} {dst : Option Nat} {gd : Option (Nat × Bool)} {x y : Operand} {t t' : Nat} {G : Env → HL → List HP → Prop} {d : Nat}

/-- a pointer as a plain one, and back -/
theorem cvU {i b u tb : Nat} {cs : List Value} (hx : ev e x = .pointer (some ⟨b, 0, none⟩)) (hL : L[i]? = some (blk b tb cs)) (hs : C.P.underlying t = some (.pointer u)) (hd : C.P.underlying t' = some .unsafePointer)
    (hj : (match C.P.info? u with | some j => j.size != 0 | none => false) = true) (hl : Nat.blt 0 cs.length = true) : Pur C (Own C.X hp L) ⟨dst, .convert t t' x, ty, ps, es, gd⟩ e (.pointer (some ⟨b, 0, none⟩)) := by
  cases hi : C.P.info? u with
  | none => rw [hi] at hj; cases hj
  | some j =>
    rw [hi] at hj
    refine ⟨fun w hw => ?_⟩
    have := Lib.run_to_unsafe w ⟨b, 0, none⟩ hs hd hi (by simpa using hj) (own_shape hw hL) (by simpa using hl)
    simp [execOp, hx, this]
theorem cvB {i b u tb : Nat} {cs : List Value} (hx : ev e x = .pointer (some ⟨b, 0, none⟩)) (hL : L[i]? = some (blk b tb cs)) (hs : C.P.underlying t = some .unsafePointer) (hd : C.P.underlying t' = some (.pointer u))
    (hj : (C.P.info? u).isSome = true) (hl : liesAt C.P C.P.depth tb (cs.length / C.P.cellsOf tb) 0 u 1 = true) : Pur C (Own C.X hp L) ⟨dst, .convert t t' x, ty, ps, es, gd⟩ e (.pointer (some ⟨b, 0, none⟩)) := by
  obtain ⟨j, hi⟩ := Option.isSome_iff_exists.1 hj
  refine ⟨fun w hw => ?_⟩
  have := Lib.run_from_unsafe w ⟨b, 0, none⟩ hs hd hi (own_shape hw hL) hl
  simp [execOp, hx, this]
/-- a pointer held against itself -/
theorem pnS {te : TypeId} {z : Addr} (hs : C.P.underlying t = some (.pointer te)) (hj : (C.P.info? te).isSome = true) (hx : ev e x = .pointer (some z)) (hy : ev e y = .pointer (some z)) :
    Pur C F ⟨dst, .binOp .neq t x y t', ty, ps, es, gd⟩ e (.bool false) := by
  obtain ⟨j, hi⟩ := Option.isSome_iff_exists.1 hj
  exact bin hx hy (fun w => by simp [eqGuard, Lib.run_neq_ptr_same w z hs hi])

/-- the library's function that gives back what it got -/
theorem exSame {f : Nat} {xs : Array Operand} {ts : Array TypeId} {v : Value} {fn : Func}
    (hf : C.P.funcs[f]? = some fn) (h1 : (fn.name == "runtime.NumGoroutine") = false) (h2 : fn.body.isNone = true) (h3 : Extern.findNext fn = none) (h4 : Extern.find fn = some Extern.AbiNoEscape.same)
    (ha : xs.toList.map (ev e) = [v]) : Pur C F ⟨dst, .call ⟨.value (.func f), xs, ts⟩, ty, ps, es, gd⟩ e v :=
  ⟨fun w _ => by
    have hargs : Array.map (ev e) xs = #[v] := by
      cases xs with
      | mk l => simpa using ha
    have := run_callFunc_extern hf h1 h2 h3 h4 #[v] w
    rw [show (Extern.AbiNoEscape.same #[v]).run C.P w = .ok v w from rfl] at this
    simpa [execOp, resolve, ev, Deferred.ofValue, invoke, hargs, Result.andThen] using this⟩
/-- so many bytes, whatever they are -/
theorem exMN {f el rt : Nat} {xs : Array Operand} {ts : Array TypeId} {n : Int} {fn : Func} {un : Unit} (hN : Nat.blt d C.N = true)
    (hf : C.P.funcs[f]? = some fn) (h1 : (fn.name == "runtime.NumGoroutine") = false) (h2 : fn.body.isNone = true) (h3 : Extern.findNext fn = none) (h4 : Extern.find fn = some (Extern.BytealgMakeNoZero.makeNoZero fn.params #[rt]))
    (ht : C.P.underlying rt = some (.slice el)) (ha : xs.toList.map (ev e) = [.int .i64 n]) (hn : decide (n < 0) = false) (hl : lim n.toNat = some un)
    (k : ∀ g, G (upd e d (sg g)) hp (raw (sg g) el n.toNat :: L)) : OpJ C ⟨some d, .call ⟨.value (.func f), xs, ts⟩, ty, ps, es, gd⟩ e hp L G :=
  ⟨fun a w hA hw next Q' hnx => by
    have hargs : Array.map (ev e) xs = #[.int .i64 n] := by
      cases xs with
      | mk l => simpa using ha
    have hn0 : 0 ≤ n := by have := of_decide_eq_false hn; omega
    obtain ⟨m, rfl⟩ := Int.eq_ofNat_of_zero_le hn0
    have hlim := lim_spec hl
    obtain ⟨cs, hr, hcs, _⟩ := Lib.run_makeNoZero (P := C.P) w fn.params rt el ht m (by simp at hlim; omega)
    have := run_callFunc_extern hf h1 h2 h3 h4 #[.int .i64 m] w
    rw [hr] at this
    have hx : (execOp a.eval ⟨some d, .call ⟨.value (.func f), xs, ts⟩, ty, ps, es, gd⟩).run C.P w = .ok (.value (.slice (some ⟨w.heap.size, 0, none⟩) m cs.size)) (w.drew.drew.alloc (.cells cs el (0, 0))) := by
      simpa [execOp, hA.eval, resolve, ev, Deferred.ofValue, invoke, hargs, Result.andThen] using this
    simp only [Oper.wp, hx, Oper.upon]
    have hw2 : Own C.X hp L w.drew.drew := hw.same rfl rfl rfl rfl
    have hw3 := hw2.new (.cells cs el (0, 0))
    have := k (some ⟨w.heap.size, 0, none⟩, m, cs.size)
    refine hnx _ _ _ _ _ this (hA.put hN _) ?_
    obtain ⟨hh, ⟨h1, h2, rfl, ha1, hs1⟩, hsat⟩ := hw3.ex
    refine ⟨⟨h1 ++ h2, ⟨h1, h2, rfl, ?_, hs1⟩, hsat⟩, hw3.os, hw3.tape, hw3.output⟩
    exact ⟨w.heap.size, cs, by simp [sg], ha1, by simpa using hcs⟩⟩
theorem own_set {X hp w} {L : List HP} {i : Nat} {A B : HP} (hw : Own X hp L w) (hi : L[i]? = some A) (hAB : ∀ h, A h → B h) : Own X hp (L.set i B) w := by
  obtain ⟨hh, hs, hn, hm⟩ := hw.ex
  obtain ⟨h1, h2, h3, rfl, ha, hset⟩ := star_split hs hi
  exact ⟨⟨_, hset B h2 (hAB _ ha), hn, hm⟩, hw.os, hw.tape, hw.output⟩
/-- .. of which none is taken yet -/
theorem slR {i u n : Nat} {g : SG3} {τ : Type} {f : τ → List Value} (hN : Nat.blt d C.N = true) (hx : ev e x = sg g) (hi : L[i]? = some (raw (sg g) u n)) (hy : ev e y = .int .i64 0)
    (ht : ∀ w, (underlying t).run C.P w = .ok (.slice u) w) (hs : ∀ w, (Go.sizeOf u).run C.P w = .ok 1 w)
    (k : G (upd e d (sg (cutg g))) hp (L.set i (sl (sg (cutg g)) u 1 (([] : List τ).flatMap f)))) : OpJ C ⟨some d, .slice t x none (some y) none, ty, ps, es, gd⟩ e hp L G :=
  OpJ.run hN (fun w hw => by
    obtain ⟨hh, ⟨h1, h2, rfl, ⟨b, cs, hv, _, hn⟩, hs2⟩, hsat⟩ := (own_front hw hi).ex
    obtain ⟨g1, g2, g3⟩ := g
    simp only [sg, Value.slice.injEq] at hv
    obtain ⟨rfl, rfl, rfl⟩ := hv
    refine ⟨w, ?_, own_set hw hi ?_⟩
    · simp [execOp, hx, hy, sg, cutg, Instr.sliceAt, Instr.slice, Instr.sliceBounds, Instr.sliceBound, asIntOf, ht, hs]
      try (intro _; simp [Addr.add])
    · rintro h ⟨b', cs', hv, rfl, hn'⟩
      simp only [sg, Value.slice.injEq, Option.some.injEq, Addr.mk.injEq] at hv
      obtain ⟨⟨rfl, _⟩, _, hsz⟩ := hv
      exact ⟨some ⟨b, 0, none⟩, 0, cs.size, rfl, rfl, Nat.zero_le _, .inr ⟨b, 0, cs', rfl, rfl, by rw [hsz]; omega, fun j hj => by simp at hj⟩⟩) k
/-- nothing to copy -/
theorem cpN {a : Option Addr} {n c u : Nat} {ts : Array TypeId} (hx : ev e x = .slice a n c) (hy : ev e y = .slice none 0 0) (h0 : ts[0]? = some t) (ht : ∀ w, (underlying t).run C.P w = .ok (.slice u) w) {m : Nat} (hs : ∀ w, (Go.sizeOf u).run C.P w = .ok m w) :
    Pur C F ⟨dst, .call ⟨.builtin .copy, #[x, y], ts⟩, ty, ps, es, gd⟩ e (.int .i64 0) :=
  op (fun w => by
    have : Nat.min 0 n = 0 := Nat.zero_min n
    simp [execOp, resolve, invoke, builtin, hx, hy, Builtin.copy_, h0, ht, hs, Builtin.lenOf, Builtin.firstCells, this, goInt]
    cases a <;> simp [storeCells])
/-- the room of a slice whose value is written out -/
theorem capV {u n c : Nat} {a : Option Addr} (hx : ev e x = .slice a n c) (ht : ∀ w, (underlying t).run C.P w = .ok (.slice u) w) :
    Pur C F ⟨dst, .call ⟨.builtin .cap, #[x], #[t]⟩, ty, ps, es, gd⟩ e (.int .i64 c) :=
  op (fun w => by simp [execOp, resolve, invoke, builtin, hx, Builtin.cap_, ht, goInt])
/-- where the bytes of a slice that has some begin -/
def sdata (v : Value) : Value := match v with
  | .slice a _ _ => .pointer a
  | v => v
theorem sl_len {X w} {v : Value} {u k n : Nat} {l : List Value} {R : List HP} (hw : Own X hp (sl v u (k + 1) l :: R) w) (hl : l.length = n * (k + 1)) : ∃ a c, v = .slice a n c ∧ n ≤ c := by
  obtain ⟨hh, ⟨h1, h2, rfl, ⟨a, n', cap, hv, hlen, hcap, hc⟩, hs2⟩, hsat⟩ := hw.ex
  have : n' = n := by rw [hlen] at hl; exact Nat.eq_of_mul_eq_mul_right (Nat.succ_pos k) hl
  subst this
  exact ⟨a, cap, hv, hcap⟩
/-- the length of a slice that is owned -/
theorem lenO {τ : Type} {f : τ → List Value} {i u u' k : Nat} {v : Value} {xs : List τ} (hx : ev e x = v) (hi : L[i]? = some (sl v u (k + 1) (xs.flatMap f))) (hf : ∀ x, (f x).length = k + 1) (ht : ∀ w, (underlying t).run C.P w = .ok (.slice u') w) :
    Pur C (Own C.X hp L) ⟨dst, .call ⟨.builtin .len, #[x], #[t]⟩, ty, ps, es, gd⟩ e (.int .i64 xs.length) :=
  ⟨fun w hw => by
    obtain ⟨a, c, hv, _⟩ := sl_len (own_front hw hi) (flatMap_len hf xs)
    simp [execOp, resolve, invoke, builtin, hx, hv, Builtin.len_, ht, goInt]⟩
theorem usd {i u : Nat} {v : Value} {xs : List Int} {ts : Array TypeId} (hx : ev e x = v) (hi : L[i]? = some (sl v u 1 (List.flatMap (vi .u8) xs))) (hne : xs.isEmpty = false) :
    Pur C (Own C.X hp L) ⟨dst, .call ⟨.builtin .unsafeSliceData, #[x], ts⟩, ty, ps, es, gd⟩ e (sdata v) :=
  ⟨fun w hw => by
    obtain ⟨hh, ⟨h1, h2, rfl, ⟨a, n, cap, rfl, hl, hcap, hc⟩, hs2⟩, hsat⟩ := (own_front hw hi).ex
    have h0 : xs.length ≠ 0 := fun h => by rw [List.length_eq_zero_iff.1 h] at hne; cases hne
    have hlen := flatMap_len (k := 1) (f := vi .u8) (fun _ => rfl) xs
    rcases hc with ⟨_, hn, _⟩ | ⟨b, off, cs, rfl, _⟩
    · omega
    · have := Lib.run_unsafeSliceData_row (P := C.P) w ts ty ⟨b, off, none⟩ n cap (by omega)
      simp [execOp, resolve, invoke, builtin, hx, sdata, this]⟩
theorem lies_off {P : Program} {e : TypeId} (hc : P.cellsOf e = 1) (count off n : Nat) (hn : off + n ≤ count) : liesAt P P.depth e count off e n = true := by
  have hd : P.depth = (2 * (P.types.size + Made.depth) + 1) + 1 := rfl
  rw [hd]
  simp only [liesAt, Bool.or_eq_true]
  left
  rw [hd]
  simp [rowAt, hc, hn, sameLayout, Nat.mod_one]
theorem run_loadBytes' {P : Program} (w : World) : ∀ (l : List Int) (a : Addr) (acc : ByteArray), (∀ j x, l[j]? = some x → w.cell? (a.add j) = some (.int .u8 x)) →
    (loadBytes a acc l.length).run P w = .ok ⟨acc.data ++ (bstr l).toArray⟩ w
  | [], a, acc, _ => by simp [loadBytes, bstr]
  | x :: l, a, acc, h => by
    have h0 : w.cell? a = some (.int .u8 x) := by
      have := h 0 x rfl
      simpa [Addr.add] using this
    have ih := run_loadBytes' (P := P) w l (a.add 1) (acc.push (UInt8.ofNat x.toNat)) (fun j y hy => by
      have := h (j + 1) y (by simpa using hy)
      have e : (a.add 1).add j = a.add (j + 1) := by
        unfold Addr.add
        by_cases hj : j = 0
        · subst hj; simp
        · simp [hj]; omega
      rw [e]; exact this)
    simp only [List.length_cons, loadBytes, Sem.run_bind, run_load, h0, Result.andThen]
    have hx : x.toNat.toUInt8 = UInt8.ofNat x.toNat := rfl
    rw [hx, ih]
    congr 1
    apply ByteArray.ext
    simp [ByteArray.push, bstr]
theorem at_sdata {v : Value} (hx : ev e x = sdata v) : ∀ a n c, v = .slice (some a) n c → ev e x = .pointer (some a) := fun a n c h => by subst h; exact hx
/-- the bytes told as a text: they are nobody's then -/
theorem usS {i u pt it : Nat} {v : Value} {xs : List Int} {un : Unit} (hN : Nat.blt d C.N = true) (hx' : ∀ a n c, v = .slice (some a) n c → ev e x = .pointer (some a)) (hy : ev e y = .int .i64 xs.length) (hi : L[i]? = some (sl v u 1 (List.flatMap (vi .u8) xs))) (hne : xs.isEmpty = false)
    (hp' : C.P.underlying pt = some (.pointer u)) (hc : C.P.cellsOf u = 1) (hlm : lim xs.length = some un)
    (k : G (upd e d (str (bstr xs))) hp (L.eraseIdx i)) : OpJ C ⟨some d, .call ⟨.builtin .unsafeString, #[x, y], #[pt, it]⟩, ty, ps, es, gd⟩ e hp L G :=
  OpJ.run hN (fun w hw => by
    obtain ⟨hh, ⟨h1, h2, rfl, ⟨a, n, cap, rfl, hl, hcap, hcc⟩, hs2⟩, hsat⟩ := (own_front hw hi).ex
    have h0 : xs.length ≠ 0 := fun h => by rw [List.length_eq_zero_iff.1 h] at hne; cases hne
    have hlen : (List.flatMap (vi .u8) xs).length = xs.length := by rw [flatMap_len (k := 1) (fun _ => rfl)]; omega
    have hlim := lim_spec hlm
    have hnl : n = xs.length := by omega
    subst hnl
    rcases hcc with ⟨_, hn, _⟩ | ⟨b, off, cs, rfl, rfl, hsz, hcs⟩
    · exact absurd hn h0
    · have hb : w.heap[b]? = some (.cells cs u (0, 0)) := hsat.2 (b, .cells cs u (0, 0)) (by simp)
      have hcell : ∀ j x, xs[j]? = some x → w.cell? ((⟨b, off, none⟩ : Addr).add j) = some (.int .u8 x) := fun j x hj => by
        have hlt : j < xs.length := (List.getElem?_eq_some_iff.1 hj).1
        rw [add_add _ rfl]
        have e1 : (List.flatMap (vi .u8) xs)[j]? = some (.int .u8 x) := by
          rw [flat_vi, List.getElem?_map, hj]; rfl
        simp only [World.cell?, hb]
        have := hcs j (by omega)
        rw [e1] at this
        simp [this]
      have hsh : w.shape? b = some (u, cs.size) := by simp [World.shape?, hb]
      have hlb := run_loadBytes' (P := C.P) w xs ⟨b, off, none⟩ .empty hcell
      have hlies := lies_off hc (cs.size / C.P.cellsOf u) off xs.length (by rw [hc]; simp; omega)
      have h63 : ¬ (9223372036854775807 : Int) < (xs.length : Int) := by omega
      have hneg : ¬ (xs.length : Int) < 0 := by omega
      have hmax : IntKind.i64.max = 9223372036854775807 := rfl
      have hdef : Builtin.unsafeString_ #[pt, it] ty #[.pointer (some ⟨b, off, none⟩), .int .i64 xs.length] =
          (do
            let n ← asInt (.int .i64 xs.length)
            if n < 0 then runtimePanic (.error "unsafe.String: len out of range")
            if n > IntKind.i64.max then unsupported (.unsafePointer "String: a length above the largest int")
            if n = 0 then pure (.string .empty)
            else if ← variablesAt ⟨b, off, none⟩ (← elemOf pt) n.toNat then do
              let s ← loadBytes ⟨b, off, none⟩ .empty n.toNat
              freeze ⟨b, off, none⟩ n.toNat
              pure (.string s)
            else unsupported (.unsafePointer "String: not so many bytes at ptr")) := rfl
      have hr : (Builtin.unsafeString_ #[pt, it] ty #[.pointer (some ⟨b, off, none⟩), .int .i64 xs.length]).run C.P w = .ok (str (bstr xs)) (w.freeze ⟨b, off, none⟩ xs.length) := by
        rw [hdef]
        have hx0 : xs ≠ [] := fun h => h0 (by rw [h]; rfl)
        simp [asInt, asIntOf, hmax, h63, hneg, hx0, variablesAt, hsh, elemOf, run_underlying hp', hlies, hlb, str]
      refine ⟨w.freeze ⟨b, off, none⟩ xs.length, by simp [execOp, resolve, invoke, builtin, hx' _ _ _ rfl, hy, hr], ⟨h2, hs2, ?_, fun z hz => ?_⟩, ?_, ?_, ?_⟩
      · refine List.Nodup.sublist ?_ hsat.1
        exact List.Sublist.map _ (List.Sublist.append (List.Sublist.refl _) (List.sublist_append_right _ _))
      · have hzb : z.1 ≠ b := fun he => by
          have hn := hsat.1
          simp only [List.map_append, List.map_cons, List.nodup_append, List.nodup_cons, List.cons_append, List.nil_append] at hn
          rcases List.mem_append.1 hz with hz | hz
          · exact hn.2.2 z.1 (List.mem_map.2 ⟨z, hz, rfl⟩) b (by simp) he
          · exact hn.2.1.1 (List.mem_map.2 ⟨z, hz, he⟩)
        have hz2 := hsat.2 z (by
          simp only [List.mem_append, List.mem_cons] at hz ⊢
          rcases hz with hz | hz
          · exact .inl hz
          · exact .inr (.inr hz))
        unfold World.freeze
        split
        · exact hz2
        · simp only [Array.getElem?_modify]
          rw [if_neg (fun h => hzb h.symm)]; exact hz2
      · unfold World.freeze; split <;> exact hw.os
      · unfold World.freeze; split <;> exact hw.tape
      · unfold World.freeze; split <;> exact hw.output) k

/-! ### errors -/
/-- an interface value that is nil, or is none -/
def IfV (v : Value) (b : Bool) : Prop := (b = true ∧ v = .nilIface) ∨ (b = false ∧ ∃ t u, v = .iface t u)
theorem IfV.nil : IfV .nilIface true := .inl ⟨rfl, rfl⟩
theorem IfV.some {t : TypeId} {u : Value} : IfV (.iface t u) false := .inr ⟨rfl, t, u, rfl⟩
theorem ifE {v : Value} {b : Bool} {ms : Array (String × TypeId)} (ht : C.P.underlying t = Option.some (.interface ms)) (hx : ev e x = v) (H : IfV v b) :
    Pur C F ⟨dst, .binOp .eql t x (.const .nilIface) t', ty, ps, es, gd⟩ e (.bool b) := bin hx (z := .nilIface) rfl (fun w => by
  obtain ⟨n, hn⟩ : ∃ n, Op.maxDepth = n + 1 := ⟨9999, rfl⟩
  rcases H with ⟨rfl, rfl⟩ | ⟨rfl, t1, u, rfl⟩ <;> simp [eqGuard, binOp, Op.equal, Op.equalIn, hn, run_underlying ht])
theorem ifN {v : Value} {b : Bool} {ms : Array (String × TypeId)} (ht : C.P.underlying t = Option.some (.interface ms)) (hx : ev e x = v) (H : IfV v b) :
    Pur C F ⟨dst, .binOp .neq t x (.const .nilIface) t', ty, ps, es, gd⟩ e (.bool (!b)) := bin hx (z := .nilIface) rfl (fun w => by
  obtain ⟨n, hn⟩ : ∃ n, Op.maxDepth = n + 1 := ⟨9999, rfl⟩
  rcases H with ⟨rfl, rfl⟩ | ⟨rfl, t1, u, rfl⟩ <;> simp [eqGuard, binOp, Op.equal, Op.equalIn, hn, run_underlying ht])
end
end Kot
