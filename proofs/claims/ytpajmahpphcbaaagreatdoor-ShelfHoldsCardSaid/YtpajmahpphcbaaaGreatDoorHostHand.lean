/- Functions of the host that are walked by hand. -/
import Derived.Test.YtpajmahpphcbaaaGreatDoorProg
import Derived.Test.YtpajmahpphcbaaaGreatDoorBase18
import Derived.KernelRfl
namespace Go.Proofs.YtpajmahpphcbaaaGreatDoor
open Kot Go
set_option maxRecDepth 100000
abbrev hT : HT := ⟨85, 87, 94, 5⟩
theorem setSame {cs : List Value} {i : Nat} {v : Value} (h : cs[i]? = some v) : cs = cs.set i v := by
  apply List.ext_getElem?
  intro j
  by_cases hj : i = j
  · subst hj; rw [List.getElem?_set_self', h]; rfl
  · rw [List.getElem?_set_ne hj]
def dn (n : Int) : Bool × Int := bif decide (0 < n) then (false, IntKind.wrap .i64 (n - 1)) else (n == 0, n)
def host_down.f (n : Int) : Option (Bool × Int) := bif decide (0 < n) then some (false, IntKind.wrap .i64 (n - 1)) else some (n == 0, n)
theorem host_down.eq (n : Int) : host_down.f n = some (dn n) := by unfold host_down.f dn; cases decide (0 < n) <;> rfl
theorem host_down.ok (X : World) (hp : HL) (L : List HP) (n : Int) (b off : Nat) (t : TypeId) (cs : List Value) (h : cs[off]? = some (.int .i64 n)) :
    DJ Tryz.prog X (host_down.f n) 76 [.pointer (some ⟨b, off, none⟩)] hp (blk b t cs :: L) (fun r => Is (.bool r.1) hp (blk b t (cs.set off (.int .i64 r.2)) :: L)) :=
  fn Tryz.func76 rfl Tryz.ntmps76 rfl <| seq <| reg <| U1 rfl asg <| nilL <| nn <| seq <| seq <| reg <| U1 rfl mv <| U1 rfl (nc rfl) <| U1 rfl (ld Tryz.isAgg3 rfl (kn 0 rfl) h) <| U1 rfl (igt rfl rfl) <| nilL <| nn <| cnd rfl
    (seq <| reg <| U1 rfl mv <| U1 rfl (nc rfl) <| U1 rfl (ld Tryz.isAgg3 rfl (kn 0 rfl) h) <| U1 rfl (isub rfl rfl) <| U1 rfl (nc rfl) <| O1 <| st (i := 0) Tryz.sizeOf3 rfl rfl rfl rfl rfl h <| nilL <| nn <| seq <| reg <| U1 rfl asg <| nilL <| nn <| ret <| pr <| q1 rfl er od0 (rt rfl) is)
    (skp <| nn <| seq <| reg <| U1 rfl mv <| U1 rfl (nc rfl) <| U1 rfl (ld Tryz.isAgg3 rfl (kn 0 rfl) h) <| U1 rfl (ieq rfl rfl) <| U1 rfl asg <| nilL <| nn <| ret <| q1 rfl er od0 (rt rfl) ⟨rfl, rfl, congrArg (fun c => blk b t c :: L) (setSame h)⟩)
/-! ### the bytes of all files -/
def usedS (fs : List HFile) (n : Int) (e : List UInt8 × Int) : Int := IntKind.wrap .i64 (n + (fget fs e.2.toNat).p.length)
theorem usedS_comm (fs : List HFile) (n : Int) (x y : List UInt8 × Int) : usedS fs (usedS fs n x) y = usedS fs (usedS fs n y) x := by
  unfold usedS
  simp only [IntKind.wrap_i64]
  omega
theorem usedS_erase (fs : List HFile) {rem : HMap} {z : List UInt8 × Int} (hz : z ∈ rem) (n : Int) : rem.foldl (usedS fs) n = (rem.erase z).foldl (usedS fs) (usedS fs n z) := by
  have := (List.perm_cons_erase hz).foldl_eq' (f := usedS fs) (fun x _ y _ n => usedS_comm fs n x y) n
  rw [this]; rfl
def host_Host_Used.f (x : HS) : Option Int := some (x.l.foldl (usedS x.files) 0)
theorem host_Host_Used.ok (X : World) (hp : HL) (L : List HP) (fA : Nat → Nat) (sS : List Nat) (a0 : HS) (a0b : Nat) (ml : Nat) (ms : Nat) (gw : SG3) (_ : ∀ z ∈ a0.wait, InS sS z.f) :
    DJ Tryz.prog X (host_Host_Used.f a0) 33 [.pointer (some ⟨a0b, 0, none⟩)] hp (blk a0b 85 [.map (some ml), .map (some ms), sg gw, .int .i64 a0.limit, .int .i64 a0.arm, .int .i64 a0.fault, .int .i64 a0.reads] :: mpi ml fA sS a0.l :: mpi ms fA sS a0.safe :: sl (sg gw) 87 3 (List.flatMap (chC fA) a0.wait) :: uni hT fA sS a0.files :: L)
      (fun r => Is (.int .i64 r) hp (blk a0b 85 [.map (some ml), .map (some ms), sg gw, .int .i64 a0.limit, .int .i64 a0.arm, .int .i64 a0.fault, .int .i64 a0.reads] :: mpi ml fA sS a0.l :: mpi ms fA sS a0.safe :: sl (sg gw) 87 3 (List.flatMap (chC fA) a0.wait) :: uni hT fA sS a0.files :: L)) :=
  fn Tryz.func33 rfl Tryz.ntmps33 rfl <| CvF cS 1 rfl mpi_ins fun hl => CvF cS 4 rfl uni_lt fun hu => seq <| reg <| U1 rfl asg <| nilL <| nn <| seq <| reg <| U1 rfl asg <| nilL <| nn <| seq <| seq <| reg <| U1 rfl mv <| U1 rfl (pePN Tryz.runUnderlying43 rfl rfl) <| nilL <| nn <| cndF rfl <| skp <| nn <|
    seq <| seq <| reg <| U1 rfl mv <| U1 rfl (nc rfl) <| U1 rfl (fa rfl Tryz.runUnderlying85 rfl Tryz.sizeOf80) <| U1 rfl (ld Tryz.isAgg80 rfl (kn 0 rfl) rfl) <| O1 <| rgM 1 rfl rfl rfl Tryz.underlying80 fun b => Fr cL 4 rfl <| nilL <| nn <| block <|
    loopR (fun rem n => some (rem.foldl (usedS a0.files) n)) (fun rem (n : Int) e h L' => ∃ e0 cur, e = setL e0 [(3, .int .i64 n), (12, .pointer (some ⟨b, 0, none⟩))] ∧ h = hp ∧ (∀ z ∈ rem, z ∈ a0.l) ∧
      L' = uni hT fA sS a0.files :: mpr b ml fA sS a0.l rem cur :: blk a0b 85 [.map (some ml), .map (some ms), sg gw, .int .i64 a0.limit, .int .i64 a0.arm, .int .i64 a0.fault, .int .i64 a0.reads] :: mpi ms fA sS a0.safe :: sl (sg gw) 87 3 (List.flatMap (chC fA) a0.wait) :: L)
      (by
        rintro rem n _ _ _ ⟨e0, cur, rfl, rfl, hsub, rfl⟩
        refine seq <| reg <| O1 <| nxM 1 rfl rfl rfl ?_ ?_
        · rintro rfl
          exact U1 rfl (xt rfl rfl) <| nilL <| nn <| seq <| cndF rfl <| MrE cS 1 rfl <| Fr cS 1 rfl <| Fr cS 4 rfl <| Fr cS 4 rfl <| Fr cS 3 rfl <| Fr cS 4 rfl <| ext <| pe <| jeR <| be <| nn <| seq <| reg <| U1 rfl mv <| U1 rfl asg <| nilL <| nn <| ret <| q1 rfl er od0 (rt rfl) is
        · intro z hz
          have h1 := hl.2 z (hsub z hz)
          have h0 : decide (z.2 < 0) = false := decide_eq_false (by omega)
          show LJ _ _ (some (rem.foldl (usedS a0.files) n)) _ _ _ _ _
          rw [usedS_erase a0.files hz n]
          exact U1 rfl (xt rfl rfl) <| nilL <| nn <| seq <| cndT rfl <| skp <| nn <| block <| seq <| reg <| U1 rfl (enM 1 rfl rfl) <| U1 rfl (xt rfl rfl) <| U1 rfl asg <| nilL <| nn <| reg <| U1 rfl mv <| U1 rfl mv <| U1 rfl (ncH rfl h0) <| Fo cL 0 rfl h0 (.inr h1.2) (lget_fget h1.1 (hu.2 _ h1.2)) fun g =>
            U1 rfl (fa rfl Tryz.runUnderlying94 rfl Tryz.sizeOf22) <| U1 rfl (ld Tryz.isAgg22 rfl (kn 0 rfl) rfl) <| U1 rfl (lenO (f := vi .u8) (i := 1) rfl rfl (fun _ => rfl) Tryz.runUnderlying22) <| U1 rfl (iadd rfl rfl) <| Uf0 cL (lget_fget h1.1 (hu.2 _ h1.2)) <| U1 rfl asg <| nilL <| bn <|
            jnR (rem.erase z) _ (by rw [List.length_erase_of_mem hz]; have := List.length_pos_of_mem hz; omega) ⟨_, some z, setL_self ⟨rfl, rfl, trivial⟩, rfl, fun y hy => hsub y (List.mem_of_mem_erase hy), rfl⟩)
      ⟨_, none, setL_self ⟨rfl, rfl, trivial⟩, rfl, fun z hz => hz, rfl⟩
/-! ### copies -/
theorem maps_Clone.ok (X : World) (hp : HL) (L : List HP) (fA : Nat → Nat) (sS : List Nat) (a0 : HMap) (a0b : Nat) : DJ Tryz.prog X (some a0) 40 [.map (some a0b)] hp (mpi a0b fA sS a0 :: L)
    (fun r => Ex (ι := Nat) (fun s => .map (some s)) (fun _ _ => True) hp (fun s => mpi s fA sS r :: mpi a0b fA sS a0 :: L)) :=
  fn Tryz.func40 rfl Tryz.ntmps40 rfl <| seq <| reg <| U1 rfl asg <| nilL <| nn <| seq <| seq <| reg <| U1 rfl mv <| U1 rfl (meN Tryz.underlying80 rfl rfl) <| nilL <| nn <| cndF rfl <| skp <| nn <|
    seq <| reg <| U1 rfl mv <| U1 rfl (mkI Tryz.runUnderlying80 (by intro ms h; cases h) rfl) <| O1 <| exMC (i := 0) rfl Tryz.func64 (by kernel_rfl) (by kernel_rfl) (by kernel_rfl) (by kernel_rfl) rfl rfl fun b =>
    U1 rfl (taM Tryz.underlying80 rfl) <| U1 rfl asg <| nilL <| nn <| ret <| q1 rfl er od0 (rt rfl) <| ex (s := b) (sub.refl _) trivial
theorem seesCons {P : Program} {X : World} {hp : HL} {L : List HP} {A : HP} {k n : Nat} {v : Value} {l : List Value} (H : SeesV P X hp L k v n l) : SeesV P X hp (A :: L) k v n l := ⟨H.len, fun w hw => H.go w hw.drop⟩
theorem bytes_Clone.ok (X : World) (hp : HL) (L : List HP) (xs : List Int) (g : SG3) (H : SeesV Tryz.prog X hp L 1 (sg g) xs.length (xs.flatMap (vi .u8))) : DJ Tryz.prog X ((lim (([] : List Int).length + xs.length)).bind fun _ => some xs) 37 [sg g] hp L
    (fun r => Ex (ι := SG3) (fun g => sg g) (fun _ _ => True) hp (fun g => sl (sg g) 5 1 (r.flatMap (vi .u8)) :: L)) := by
  obtain ⟨a, n, c⟩ := g
  cases a with
  | none =>
    refine fn Tryz.func37 rfl Tryz.ntmps37 rfl <| seq <| reg <| U1 rfl asg <| nilL <| nn <| seq <| seq <| reg <| U1 rfl mv <| U1 rfl (slN Tryz.runUnderlying22 rfl rfl) <| nilL <| nn <| cndT rfl <| seq <| reg <| U1 rfl asg <| nilL <| nn <| ?_
    refine SJ.cx (ι := Unit) (Φ := fun _ => xs = []) (hp' := fun _ => hp) (L' := fun _ => L) (fun w hw => ⟨(), ?_, hw⟩) (fun _ hx => ?_)
    · have h1 := (H.go w hw w rfl).2
      simp [sg, Builtin.firstCells] at h1
      have h2 : List.flatMap (vi .u8) xs = [] := List.flatMap_eq_nil_iff.2 h1
      have h3 := flatMap_len (k := 1) (f := vi .u8) (fun _ => rfl) xs
      rw [h2] at h3
      exact List.eq_nil_of_length_eq_zero (by simpa using h3.symm)
    · subst hx
      refine tkS fun u hu => Gn cS 5 1 <| ret <| pr <| q1 rfl er od0 (rt rfl) <| ex (s := (none, 0, 0)) (sub.refl _) trivial
  | some a =>
    exact fn Tryz.func37 rfl Tryz.ntmps37 rfl <| seq <| reg <| U1 rfl asg <| nilL <| nn <| seq <| seq <| reg <| U1 rfl mv <| U1 rfl (slN Tryz.runUnderlying22 rfl rfl) <| nilL <| nn <| cndF rfl <| skp <| nn <|
      seq <| reg <| O1 <| bsl0 rfl Tryz.runUnderlying22 Tryz.sizeOf5 fun b => U1 rfl mv <| tk fun u hu => Gb cL (xs := ([] : List Int)) (f := vi .u8) (fun _ => rfl) <| O1 <| apW (xs := ([] : List Int)) (ys := xs) (f := vi .u8) (i := 0) rfl rfl rfl rfl (fun _ => rfl) (by intro x v hv; simp only [vi, List.mem_cons, List.not_mem_nil, or_false] at hv; rcases hv with rfl <;> rfl)
        (seesCons H) hu Tryz.runUnderlying22 Tryz.runUnderlying22 (.inl ⟨_, rfl⟩) Tryz.zeroValue5 rfl Tryz.sizeOf5 Tryz.typeInfo5 rfl fun g => U1 rfl asg <| nilL <| nn <| ret <| q1 rfl er od0 (rt rfl) <| ex (s := g) (sub.refl _) trivial
end Go.Proofs.YtpajmahpphcbaaaGreatDoor
