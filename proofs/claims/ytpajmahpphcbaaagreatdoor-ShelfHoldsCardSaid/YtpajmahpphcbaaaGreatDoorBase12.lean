/- Words for walking Go functions: a builder's memory (bytes that are made, cut, told as a text), pointers turned round, errors; no program is named here. -/
import Derived.Test.YtpajmahpphcbaaaGreatDoorBase10
import Derived.Lib.MakeNoZero
import Derived.Lib.Builder
import Derived.Lib.UnsafeStr
namespace Kot
open Go

abbrev SG3 := Option Addr × Nat × Nat
def sg (g : SG3) : Value := .slice g.1 g.2.1 g.2.2
def raw (v : Value) (t : TypeId) (n : Nat) : HP := fun h => ∃ b cs, v = .slice (some ⟨b, 0, none⟩) n cs.size ∧ h = [(b, .cells cs t (0, 0))] ∧ n ≤ cs.size
section
variable {C : Ctx} {F : World → Prop} {e : Env} {hp h : HL} {L : List HP} {ty : TypeId} {ps : String} {es : Array Edge} {dst : Option Nat} {gd : Option (Nat × Bool)} {x y : Operand} {t t' : Nat} {G : Env → HL → List HP → Prop} {d : Nat}

theorem exMN {f el rt : Nat} {xs : Array Operand} {ts : Array TypeId} {n : Int} {fn : Func} {un : Unit} (hN : Nat.blt d C.N = true)
    (hf : C.P.funcs[f]? = some fn) (h1 : (fn.name == "runtime.NumGoroutine") = false) (h2 : fn.body.isNone = true) (h3 : Extern.findNext fn = none) (h4 : Extern.find fn = some (Extern.BytealgMakeNoZero.makeNoZero fn.params #[rt]))
    (ht : C.P.underlying rt = some (.slice el)) (ha : xs.toList.map (ev e) = [.int .i64 n]) (hn : decide (n < 0) = false) (hl : lim n.toNat = some un)
    (k : ∀ g, G (upd e d (sg g)) hp (raw (sg g) el n.toNat :: L)) : OpJ C ⟨some d, .call ⟨.value (.func f), xs, ts⟩, ty, ps, es, gd⟩ e hp L G :=
  ⟨fun a w hA hw next Q' hnx => by
    have hargs : Array.map (ev e) xs = #[.int .i64 n] := by
      cases xs with
      | mk l => simpa using ha
    have hn0 : 0 ≤ n := by have := of_decide_eq_false hn; omega
    obtain ⟨m, rfl⟩ := Int.eq_ofNat_of_zero_le hn0
    have hlim := lim_spec hl
    obtain ⟨cs, hr, hcs, _⟩ := Lib.run_makeNoZero (P := C.P) w fn.params rt el ht m (by simp at hlim; omega)
    have := run_callFunc_extern hf h1 h2 h3 h4 #[.int .i64 m] w
    rw [hr] at this
    have hx : (execOp a.eval ⟨some d, .call ⟨.value (.func f), xs, ts⟩, ty, ps, es, gd⟩).run C.P w = .ok (.value (.slice (some ⟨w.heap.size, 0, none⟩) m cs.size)) (w.drew.drew.alloc (.cells cs el (0, 0))) := by
      simpa [execOp, hA.eval, resolve, ev, Deferred.ofValue, invoke, hargs, Result.andThen] using this
    simp only [Oper.wp, hx, Oper.upon]
    have hw2 : Own C.X hp L w.drew.drew := hw.same rfl rfl rfl rfl
    have hw3 := hw2.new (.cells cs el (0, 0))
    have := k (some ⟨w.heap.size, 0, none⟩, m, cs.size)
    refine hnx _ _ _ _ _ this (hA.put hN _) ?_
    obtain ⟨hh, ⟨h1, h2, rfl, ha1, hs1⟩, hsat⟩ := hw3.ex
    refine ⟨⟨h1 ++ h2, ⟨h1, h2, rfl, ?_, hs1⟩, hsat⟩, hw3.os, hw3.tape, hw3.output⟩
    exact ⟨w.heap.size, cs, by simp [sg], ha1, by simpa using hcs⟩⟩
theorem own_set {X hp w} {L : List HP} {i : Nat} {A B : HP} (hw : Own X hp L w) (hi : L[i]? = some A) (hAB : ∀ h, A h → B h) : Own X hp (L.set i B) w := by
  obtain ⟨hh, hs, hn, hm⟩ := hw.ex
  obtain ⟨h1, h2, h3, rfl, ha, hset⟩ := star_split hs hi
  exact ⟨⟨_, hset B h2 (hAB _ ha), hn, hm⟩, hw.os, hw.tape, hw.output⟩
theorem sl_len {X w} {v : Value} {u k n : Nat} {l : List Value} {R : List HP} (hw : Own X hp (sl v u (k + 1) l :: R) w) (hl : l.length = n * (k + 1)) : ∃ a c, v = .slice a n c ∧ n ≤ c := by
  obtain ⟨hh, ⟨h1, h2, rfl, ⟨a, n', cap, hv, hlen, hcap, hc⟩, hs2⟩, hsat⟩ := hw.ex
  have : n' = n := by rw [hlen] at hl; exact Nat.eq_of_mul_eq_mul_right (Nat.succ_pos k) hl
  subst this
  exact ⟨a, cap, hv, hcap⟩
theorem lenO {τ : Type} {f : τ → List Value} {i u u' k : Nat} {v : Value} {xs : List τ} (hx : ev e x = v) (hi : L[i]? = some (sl v u (k + 1) (xs.flatMap f))) (hf : ∀ x, (f x).length = k + 1) (ht : ∀ w, (underlying t).run C.P w = .ok (.slice u') w) :
    Pur C (Own C.X hp L) ⟨dst, .call ⟨.builtin .len, #[x], #[t]⟩, ty, ps, es, gd⟩ e (.int .i64 xs.length) :=
  ⟨fun w hw => by
    obtain ⟨a, c, hv, _⟩ := sl_len (own_front hw hi) (flatMap_len hf xs)
    simp [execOp, resolve, invoke, builtin, hx, hv, Builtin.len_, ht, goInt]⟩
/-! ### errors -/
def IfV (v : Value) (b : Bool) : Prop := (b = true ∧ v = .nilIface) ∨ (b = false ∧ ∃ t u, v = .iface t u)
theorem IfV.nil : IfV .nilIface true := .inl ⟨rfl, rfl⟩
theorem IfV.some {t : TypeId} {u : Value} : IfV (.iface t u) false := .inr ⟨rfl, t, u, rfl⟩
theorem ifN {v : Value} {b : Bool} {ms : Array (String × TypeId)} (ht : C.P.underlying t = Option.some (.interface ms)) (hx : ev e x = v) (H : IfV v b) :
    Pur C F ⟨dst, .binOp .neq t x (.const .nilIface) t', ty, ps, es, gd⟩ e (.bool (!b)) := bin hx (z := .nilIface) rfl (fun w => by
  obtain ⟨n, hn⟩ : ∃ n, Op.maxDepth = n + 1 := ⟨9999, rfl⟩
  rcases H with ⟨rfl, rfl⟩ | ⟨rfl, t1, u, rfl⟩ <;> simp [eqGuard, binOp, Op.equal, Op.equalIn, hn, run_underlying ht])
end
end Kot
