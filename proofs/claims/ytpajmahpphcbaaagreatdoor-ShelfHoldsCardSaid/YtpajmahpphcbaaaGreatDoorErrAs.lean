/- errors.As, of an error that is a host's number (or nil), at a place for such a number: Go's own text is walked. -/
import Derived.Test.YtpajmahpphcbaaaGreatDoorBase23
import Derived.Test.YtpajmahpphcbaaaGreatDoorProg
import Derived.WalkKit
import Derived.LaidEql
import Derived.Stop.Asserts
import Derived.RowKitTokens
import Derived.KernelRfl
namespace Go.Proofs.YtpajmahpphcbaaaGreatDoor
open Kot Go Go.RowKit Go.Extern.Stop Go.Stop Go.Extern
set_option maxRecDepth 100000
theorem eA_nil (t : Value) (w : World) : Calls Tryz.prog 99 #[.nilIface, t] w fun e w' => e = .returned (.bool false) ∧ w' = w := by
  go_enter Tryz.func99, Tryz.ntmps99
  go_wp2
  go_ret
  exact ⟨rfl, rfl⟩
theorem eA.unpackP (t : Addr) (w : World) : (ReflectliteValue.unpack (.iface 166 (.pointer (some t)))).run Tryz.prog w
    = .ok (.agg #[.pointer (some ⟨5, 166, none⟩), .pointer (some ⟨w.heap.size, 0, none⟩), .int .u64 150]) (w.alloc (.cells #[.pointer (some t)] 166)) := by kernel_rfl
theorem eA.typeP (a : Addr) (w : World) : (ReflectliteValue.methodAny (ReflectliteValue.valueError "reflectlite.Value.Type" 0) (fun t _ _ _ => ReflectliteType.toType t) #[.agg #[.pointer (some ⟨5, 166, none⟩), .pointer (some a), .int .u64 150]]).run Tryz.prog w
    = .ok (.iface 215 (.agg #[.pointer (some ⟨5, 166, none⟩)])) w := by kernel_rfl
theorem eA.mKind (h : Value) (w : World) : (Go.method 365 215 (.agg #[h]) "Kind").run Tryz.prog w = .ok (171, h) w := by kernel_rfl
theorem eA.kindP (w : World) : ((ReflectliteType.abiMethod fun t => (fun a : Nat => Value.int IntKind.u8 (a : Int)) <$> Rtype.kind t) #[.pointer (some ⟨5, 166, none⟩)]).run Tryz.prog w = .ok (.int .u8 22) w := by kernel_rfl
theorem eA.kindF (w : World) : ((ReflectliteType.abiMethod fun t => (fun a : Nat => Value.int IntKind.u8 (a : Int)) <$> Rtype.kind t) #[.pointer (some ⟨5, 164, none⟩)]).run Tryz.prog w = .ok (.int .u8 2) w := by kernel_rfl
theorem eA.rlm (z : Sem Value) (f : TypeId → Addr → Nat → Nat → Sem Value) (v : Value) :
    ReflectliteValue.method z f #[v] = (do match ← ReflectliteValue.parts v with | none => z | some (t, a, fl) => f t a fl (fl % 32)) := rfl
theorem eA.partsP (a : Addr) (w : World) : (ReflectliteValue.parts (.agg #[.pointer (some ⟨5, 166, none⟩), .pointer (some a), .int .u64 150])).run Tryz.prog w = .ok (some (166, a, 150)) w := by kernel_rfl
theorem eA.isNil (a p : Addr) (W : World) (ha : W.cell? a = some (.pointer (some p))) :
    (ReflectliteValue.method (ReflectliteValue.valueError "reflectlite.Value.IsNil" 0) ReflectliteValue.isNil #[.agg #[.pointer (some ⟨5, 166, none⟩), .pointer (some a), .int .u64 150]]).run Tryz.prog W = .ok (.bool false) W := by
  rw [eA.rlm]
  simp only [Sem.run_bind, eA.partsP, Result.andThen]
  simp [ReflectliteValue.isNil, loadVar, isAgg, underlying, Tryz.underlying166, ha, Result.andThen]
theorem eA.mElem (h : Value) (w : World) : (Go.method 365 215 (.agg #[h]) "Elem").run Tryz.prog w = .ok (181, .agg #[h]) w := by kernel_rfl
theorem eA.mImpl (h : Value) (w : World) : (Go.method 365 215 (.agg #[h]) "Implements").run Tryz.prog w = .ok (182, .agg #[h]) w := by kernel_rfl
theorem eA.mAssign (h : Value) (w : World) : (Go.method 365 215 (.agg #[h]) "AssignableTo").run Tryz.prog w = .ok (179, .agg #[h]) w := by kernel_rfl
theorem eA.elemP (w : World) : (ReflectliteType.method ReflectliteType.elem #[.agg #[.pointer (some ⟨5, 166, none⟩)]]).run Tryz.prog w = .ok (.iface 215 (.agg #[.pointer (some ⟨5, 164, none⟩)])) w := by kernel_rfl
theorem eA.impl (w : World) : (ReflectliteType.relation "Implements" ReflectliteType.implements_ #[.agg #[.pointer (some ⟨5, 164, none⟩)], .iface 215 (.agg #[.pointer (some ⟨5, 134, none⟩)])]).run Tryz.prog w = .ok (.bool true) w := by kernel_rfl
theorem eA.typeOf (v : Value) (w : World) : (ReflectliteType.typeOf #[.iface 164 v]).run Tryz.prog w = .ok (.iface 215 (.agg #[.pointer (some ⟨5, 164, none⟩)])) w := by kernel_rfl
theorem eA.assign (w : World) : (ReflectliteType.relation "AssignableTo" ReflectliteType.assignableTo #[.agg #[.pointer (some ⟨5, 164, none⟩)], .iface 215 (.agg #[.pointer (some ⟨5, 164, none⟩)])]).run Tryz.prog w = .ok (.bool true) w := by kernel_rfl
theorem eA.unpackF (x : Int) (w : World) : (ReflectliteValue.unpack (.iface 164 (.int .i64 x))).run Tryz.prog w
    = .ok (.agg #[.pointer (some ⟨5, 164, none⟩), .pointer (some ⟨w.heap.size, 0, none⟩), .int .u64 130]) (w.alloc (.cells #[.int .i64 x] 164)) := by kernel_rfl
theorem eA.elemOf (w : World) : (Rtype.elem? 166).run Tryz.prog w = .ok (some 164) w := by kernel_rfl
theorem eA.mk (p : Addr) (w : World) : (ReflectliteValue.mk 164 p ReflectliteValue.flagAddr).run Tryz.prog w = .ok (.agg #[.pointer (some ⟨5, 164, none⟩), .pointer (some p), .int .u64 386]) w := by kernel_rfl
theorem eA.elemV (a p : Addr) (W : World) (ha : W.cell? a = some (.pointer (some p))) :
    (ReflectliteValue.method (ReflectliteValue.valueError "reflectlite.Value.Elem" 0) ReflectliteValue.elem #[.agg #[.pointer (some ⟨5, 166, none⟩), .pointer (some a), .int .u64 150]]).run Tryz.prog W
      = .ok (.agg #[.pointer (some ⟨5, 164, none⟩), .pointer (some p), .int .u64 386]) W := by
  rw [eA.rlm]
  simp only [Sem.run_bind, eA.partsP, Result.andThen]
  simp [ReflectliteValue.elem, loadVar, isAgg, underlying, Tryz.underlying166, ha, Result.andThen, eA.elemOf, eA.mk]
theorem eA.rls (v x : Value) : ReflectliteValue.set #[v, x] = (do
    let (some (dst, a, fl), some (src, b, _)) := (← ReflectliteValue.parts v, ← ReflectliteValue.parts x)
      | unsupported (.noEntry "extern/(internal/reflectlite.Value).Set.zeroValue")
    if fl / ReflectliteValue.flagAddr % 2 == 0 then unsupported (.noEntry "extern/(internal/reflectlite.Value).Set.unaddressable")
    let val ← loadVar src b
    if ← Rtype.directlyAssignable dst src then storeVar dst a val
    else if ← Rtype.implements dst src then
      if (← Rtype.kind src) == 20 then
        match val with
        | .nilIface => unsupported (.noEntry "extern/reflectlite: a nil value of one interface type handed on as a value of another")
        | _ => storeVar dst a val
      else storeVar dst a (.iface src val)
    else panicString ("reflectlite.Set: value of type " ++ (← Rtype.spelt src) ++ " is not assignable to type " ++ (← Rtype.spelt dst))
    pure (.tuple #[])) := rfl
theorem eA.partsA (a : Addr) (w : World) : (ReflectliteValue.parts (.agg #[.pointer (some ⟨5, 164, none⟩), .pointer (some a), .int .u64 386])).run Tryz.prog w = .ok (some (164, a, 386)) w := by kernel_rfl
theorem eA.partsF (a : Addr) (w : World) : (ReflectliteValue.parts (.agg #[.pointer (some ⟨5, 164, none⟩), .pointer (some a), .int .u64 130])).run Tryz.prog w = .ok (some (164, a, 130)) w := by kernel_rfl
theorem eA.direct (w : World) : (Rtype.directlyAssignable 164 164).run Tryz.prog w = .ok true w := by kernel_rfl
theorem eA.size (w : World) : (sizeOf 164).run Tryz.prog w = .ok 1 w := by kernel_rfl
theorem eA.set (ta b : Addr) (x : Int) (old : Value) (W : World) (hb : W.cell? b = some (.int .i64 x)) (ht : W.cell? ta = some old) (hf : W.frozen? ta = false) :
    (ReflectliteValue.set #[.agg #[.pointer (some ⟨5, 164, none⟩), .pointer (some ta), .int .u64 386], .agg #[.pointer (some ⟨5, 164, none⟩), .pointer (some b), .int .u64 130]]).run Tryz.prog W
      = .ok (.tuple #[]) (W.setCell ta (.int .i64 x)) := by
  rw [eA.rls]
  simp only [Sem.run_bind, eA.partsA, eA.partsF, Result.andThen]
  simp [ReflectliteValue.flagAddr, loadVar, isAgg, underlying, Tryz.underlying164, hb, Result.andThen, eA.direct, storeVar, Value.cells, storeCells, Addr.add]
  rw [run_store Tryz.prog W ta _ _ (by rfl)]
  simp [ht, hf]
set_option maxHeartbeats 4000000 in
theorem eA_hit (x : Int) (t : Addr) (old : Value) (w : World) (hg : w.cell? ⟨0, 0, none⟩ = some (.iface 215 (.agg #[.pointer (some ⟨5, 134, none⟩)]))) (ht0 : w.cell? t = some old) (hf0 : w.frozen? t = false) :
    Calls Tryz.prog 99 #[.iface 164 (.int .i64 x), .iface 166 (.pointer (some t))] w fun ev w' => ev = .returned (.bool true) ∧ w' = ((((w.alloc (.cells #[.pointer (some t)] 166)).alloc (.cells #[.pointer (some ⟨5, 166, none⟩), .pointer (some ⟨w.heap.size, 0, none⟩), .int .u64 150] 188)).alloc (.cells #[.pointer (some ⟨5, 166, none⟩), .pointer (some ⟨w.heap.size, 0, none⟩), .int .u64 150] 188)).alloc (.cells #[.int .i64 x] 164)).setCell t (.int .i64 x) := by
  have h6 := @run_callFunc_extern Tryz.prog 124 _ (fun args => ReflectliteValue.unpack (args.getD 0 (.tuple #[]))) Tryz.func124 (by kernel_rfl) (by kernel_rfl) (by kernel_rfl) (by kernel_rfl)
  have h7 := @run_callFunc_extern Tryz.prog 125 _ (ReflectliteValue.methodAny (ReflectliteValue.valueError "reflectlite.Value.Type" 0) (fun t _ _ _ => ReflectliteType.toType t)) Tryz.func125 (by kernel_rfl) (by kernel_rfl) (by kernel_rfl) (by kernel_rfl)
  have h8 := @run_callFunc_extern Tryz.prog 126 _ (ReflectliteValue.method (ReflectliteValue.valueError "reflectlite.Value.IsNil" 0) ReflectliteValue.isNil) Tryz.func126 (by kernel_rfl) (by kernel_rfl) (by kernel_rfl) (by kernel_rfl)
  have h27 := @run_callFunc_extern Tryz.prog 171 _ (ReflectliteType.abiMethod fun t => do pure (.int .u8 (← Rtype.kind t))) Tryz.func171 (by kernel_rfl) (by kernel_rfl) (by kernel_rfl) (by kernel_rfl)
  have h37 := @run_callFunc_extern Tryz.prog 181 _ (ReflectliteType.method ReflectliteType.elem) Tryz.func181 (by kernel_rfl) (by kernel_rfl) (by kernel_rfl) (by kernel_rfl)
  have h38 := @run_callFunc_extern Tryz.prog 182 _ (ReflectliteType.relation "Implements" ReflectliteType.implements_) Tryz.func182 (by kernel_rfl) (by kernel_rfl) (by kernel_rfl) (by kernel_rfl)
  have h10 := @run_callFunc_extern Tryz.prog 146 _ ReflectliteType.typeOf Tryz.func146 (by kernel_rfl) (by kernel_rfl) (by kernel_rfl) (by kernel_rfl)
  have h35 := @run_callFunc_extern Tryz.prog 179 _ (ReflectliteType.relation "AssignableTo" ReflectliteType.assignableTo) Tryz.func179 (by kernel_rfl) (by kernel_rfl) (by kernel_rfl) (by kernel_rfl)
  have h11 := @run_callFunc_extern Tryz.prog 147 _ (ReflectliteValue.method (ReflectliteValue.valueError "reflectlite.Value.Elem" 0) ReflectliteValue.elem) Tryz.func147 (by kernel_rfl) (by kernel_rfl) (by kernel_rfl) (by kernel_rfl)
  have h12 := @run_callFunc_extern Tryz.prog 148 _ ReflectliteValue.set Tryz.func148 (by kernel_rfl) (by kernel_rfl) (by kernel_rfl) (by kernel_rfl)
  have tO := eA.typeOf
  have mA := eA.mAssign
  have a25 := eA.assign
  have v25 := eA.unpackF
  have f6 := eA.unpackP
  have f7 := eA.typeP
  have mK := eA.mKind
  have mE := eA.mElem
  have mI := eA.mImpl
  have k27 := eA.kindP
  have k25 := eA.kindF
  have e27 := eA.elemP
  have i25 := eA.impl
  have n8 := eA.isNil ⟨w.heap.size, 0, none⟩ t ((w.alloc (.cells #[.pointer (some t)] 166)).alloc (.cells #[.pointer (some ⟨5, 166, none⟩), .pointer (some ⟨w.heap.size, 0, none⟩), .int .u64 150] 188)) (by simp)
  have hlt : 0 < w.heap.size := by
    rcases Nat.lt_or_ge 0 w.heap.size with h | h
    · exact h
    · simp [World.cell?, Array.getElem?_eq_none h] at hg
  have hg2 : ((w.alloc (.cells #[.pointer (some t)] 166)).alloc (.cells #[.pointer (some ⟨5, 166, none⟩), .pointer (some ⟨w.heap.size, 0, none⟩), .int .u64 150] 188)).cell? ⟨0, 0, none⟩ = some (.iface 215 (.agg #[.pointer (some ⟨5, 134, none⟩)])) := by
    rw [World.cell?_alloc_lt _ _ ⟨0, 0, none⟩ (by simp), World.cell?_alloc_lt _ _ ⟨0, 0, none⟩ hlt]; exact hg
  have htl : t.block < w.heap.size := by
    rcases Nat.lt_or_ge t.block w.heap.size with h | h
    · exact h
    · simp [World.cell?, Array.getElem?_eq_none h] at ht0
  have el := eA.elemV ⟨w.heap.size, 0, none⟩ t (((w.alloc (.cells #[.pointer (some t)] 166)).alloc (.cells #[.pointer (some ⟨5, 166, none⟩), .pointer (some ⟨w.heap.size, 0, none⟩), .int .u64 150] 188)).alloc (.cells #[.pointer (some ⟨5, 166, none⟩), .pointer (some ⟨w.heap.size, 0, none⟩), .int .u64 150] 188)) (by rw [World.cell?_alloc_lt _ _ ⟨w.heap.size, 0, none⟩ (by simp; omega)]; simp)
  have st := eA.set t ⟨w.heap.size + 1 + 1 + 1, 0, none⟩ x old ((((w.alloc (.cells #[.pointer (some t)] 166)).alloc (.cells #[.pointer (some ⟨5, 166, none⟩), .pointer (some ⟨w.heap.size, 0, none⟩), .int .u64 150] 188)).alloc (.cells #[.pointer (some ⟨5, 166, none⟩), .pointer (some ⟨w.heap.size, 0, none⟩), .int .u64 150] 188)).alloc (.cells #[.int .i64 x] 164))
    (by rw [World.cell?_alloc_at _ _ _ _ (by simp)]; rfl)
    (by rw [World.cell?_alloc_lt _ _ t (by simp; omega), World.cell?_alloc_lt _ _ t (by simp; omega), World.cell?_alloc_lt _ _ t (by simp; omega), World.cell?_alloc_lt _ _ t htl]; exact ht0)
    (by rw [World.frozen?_alloc_old _ _ t (by simp; omega), World.frozen?_alloc_old _ _ t (by simp; omega), World.frozen?_alloc_old _ _ t (by simp; omega), World.frozen?_alloc_old _ _ t (Nat.ne_of_lt htl)]; exact hf0)
  go_enter Tryz.func99, Tryz.ntmps99
  go_wp2
  refine wp_loop_rounds 1 ?_
  rw [rounds_succ]
  go_wp2
  go_ret
  exact ⟨rfl, rfl⟩
theorem errors_As.ok (X : World) (hp : HL) (L : List HP) (x : Int) (b : Nat) (hE : RdP hp ⟨0, 0, none⟩ [.iface 215 (.agg #[.pointer (some ⟨5, 134, none⟩)])]) :
    DJ Tryz.prog X (some ()) 99 [errV 164 x, .iface 166 (.pointer (some ⟨b, 0, none⟩))] hp (blk b 164 [.int .i64 0] :: L)
      (fun _ => Is (.bool (!(x == 0))) hp (blk b 164 [.int .i64 x] :: L)) := ⟨fun r hr => ⟨fun w hw => by
  by_cases hx : x = 0
  · subst hx
    refine Calls.mono (eA_nil _ w) ?_
    rintro e w' ⟨rfl, rfl⟩
    exact ⟨_, hp, _, rfl, is, hw⟩
  · have hv : errV 164 x = .iface 164 (.int .i64 x) := by unfold errV; rw [if_neg hx]
    rw [hv]
    obtain ⟨b1, off, cs, t, fr, h1, h2, h3⟩ := hE
    cases h1
    have hg : w.cell? ⟨0, 0, none⟩ = some (.iface 215 (.agg #[.pointer (some ⟨5, 134, none⟩)])) := by
      have := hw.old h2; have h4 := h3 0 (by simp); simp at h4; simp [World.cell?, this, h4]
    have hc := cell_blk (hw.get (i := 0) (b := b) rfl) (off := 0) rfl
    obtain ⟨hf, -⟩ := setCell_blk (v := .int .i64 x) hw (i := 0) rfl (off := 0) rfl
    refine Calls.mono (eA_hit x ⟨b, 0, none⟩ _ w hg hc hf) ?_
    rintro e w' ⟨rfl, rfl⟩
    have h4 := ((((hw.new (.cells #[.pointer (some ⟨b, 0, none⟩)] 166)).new (.cells #[.pointer (some ⟨5, 166, none⟩), .pointer (some ⟨w.heap.size, 0, none⟩), .int .u64 150] 188)).new (.cells #[.pointer (some ⟨5, 166, none⟩), .pointer (some ⟨w.heap.size, 0, none⟩), .int .u64 150] 188)).new (.cells #[.int .i64 x] 164)).drop.drop.drop.drop
    obtain ⟨-, ho⟩ := setCell_blk (v := .int .i64 x) h4 (i := 0) rfl (off := 0) rfl
    have hb : (!(x == 0)) = true := by simp [hx]
    exact ⟨_, hp, _, rfl, by rw [hb]; exact is, ho⟩⟩⟩
end Go.Proofs.YtpajmahpphcbaaaGreatDoor
