/- Hosts held against each other: walked by hand. -/
import Derived.Test.YtgfjecngfmachaaHostHand
namespace Go.Proofs.Ytgfjecngfmachaa
open Kot Go
set_option maxRecDepth 100000
set_option maxHeartbeats 4000000
theorem mixedH : Try.prog.follows .mixedOrders = true := by kernel_rfl
theorem bytes_Equal.ok (X : World) (hp : HL) (L : List HP) (xs ys : List Int) (g1 g2 : SG3) (H1 : Sees X hp L 1 (sg g1) xs.length (xs.flatMap (vi .u8))) (H2 : Sees X hp L 1 (sg g2) ys.length (ys.flatMap (vi .u8))) :
    DJ Try.prog X (some (bstr xs == bstr ys)) 49 [sg g1, sg g2] hp L (fun r => Is (.bool r) hp L) :=
  fn Try.func49 rfl Try.ntmps49 rfl <| seq <| reg <| U1 rfl asg <| nilL <| nn <| seq <| reg <| U1 rfl mv <| U1 rfl (cvBS (l := xs) rfl H1 Try.underlying22 Try.underlying5 Try.underlying9) <| U1 rfl mv <| U1 rfl (cvBS (l := ys) rfl H2 Try.underlying22 Try.underlying5 Try.underlying9) <|
    U1 rfl (sqe rfl rfl) <| U1 rfl asg <| nilL <| nn <| ret <| q1 rfl er od0 (rt rfl) is
def sameF (fs gs : List HFile) (n m : Int) : Bool := bstr (fget fs n.toNat).p == bstr (fget gs m.toNat).p
theorem host_Same_1.ok (X : World) (hp : HL) (L : List HP) (fA fB : Nat → Nat) (S S2 : List Nat) (fs gs : List HFile) (n m : Int) (hn : 0 ≤ n) (hm : 0 ≤ m) (hS : n.toNat ∈ S) (hS2 : m.toNat ∈ S2) :
    DJ Try.prog X (some (sameF fs gs n m)) 48 [hpv fA n, hpv fB m] hp (uni hT fA S fs :: uni hT fB S2 gs :: L) (fun r => Is (.bool r) hp (uni hT fA S fs :: uni hT fB S2 gs :: L)) := by
  have h0 : decide (n < 0) = false := decide_eq_false (by omega)
  have h1 : decide (m < 0) = false := decide_eq_false (by omega)
  refine fn Try.func48 rfl Try.ntmps48 rfl <| CvF cS 0 rfl uni_lt fun hu => CvF cS 1 rfl uni_lt fun hv => seq <| reg <| U1 rfl asg <| nilL <| nn <|
    Fo cS 0 rfl h0 (.inr hS) (lget_fget hn (hu.2 _ hS)) fun g1 => Fo cS 3 rfl h1 (.inr hS2) (lget_fget hm (hv.2 _ hS2)) fun g2 => seq <|
    rd 10 rfl [(fA n.toNat, .cells #[sg g1, .int .i64 (fget fs n.toNat).safe] 70 (0, 0)), (fB m.toNat, .cells #[sg g2, .int .i64 (fget gs m.toNat).safe] 70 (0, 0))] mixedH (by kernel_rfl) ⟨⟨3, rfl⟩, ⟨0, rfl⟩, trivial⟩ <|
    AU 0 rfl (by kernel_rfl) rfl mv <| AU 1 rfl (by kernel_rfl) rfl (ncH rfl h0) <| AU 2 rfl (by kernel_rfl) rfl (fa rfl Try.runUnderlying70 rfl Try.sizeOf22) <| AU 3 rfl (by kernel_rfl) rfl (ld Try.isAgg22 rfl (kf 0 rfl) rfl) <|
    AU 4 rfl (by kernel_rfl) rfl mv <| AU 5 rfl (by kernel_rfl) rfl (ncH rfl h1) <| AU 6 rfl (by kernel_rfl) rfl (fa rfl Try.runUnderlying70 rfl Try.sizeOf22) <| AU 7 rfl (by kernel_rfl) rfl (ld Try.isAgg22 rfl (kf 1 rfl) rfl) <|
    ab (rs := [8]) (by kernel_rfl) rfl ⟨ob rfl <| callI rfl Try.call49 rfl (bytes_Equal.ok _ _ _ (fget fs n.toNat).p (fget gs m.toNat).p g1 g2 (sl_seesS (i := 4) (fun _ => rfl) rfl) (sl_seesS (i := 1) (fun _ => rfl) rfl)) rfl ⟨fk (sub.refl _) ⟨⟨3, rfl⟩, ⟨0, rfl⟩, trivial⟩, ?_⟩, trivial⟩
  exact AU 9 rfl (by kernel_rfl) rfl asg <| ad (by kernel_rfl) <| nn <| Uf0 cS (T := hT) (g := g2) (lget_fget hm (hv.2 _ hS2)) <| Fr cS 3 rfl <| Fr cS 3 rfl <| Fr cS 3 rfl <| Uf0 cS (T := hT) (g := g1) (lget_fget hn (hu.2 _ hS)) <| ret <| q1 rfl er od0 (rt rfl) is
def okE (fs gs : List HFile) (m2 : HMap) (e : List UInt8 × Int) : Bool := !decide (mget m2 e.1 < 0) && sameF fs gs e.2 (mget m2 e.1)
theorem all_erase {P : List UInt8 × Int → Bool} {rem : HMap} {z : List UInt8 × Int} (hz : z ∈ rem) : rem.all P = (P z && (rem.erase z).all P) := by
  have h := List.perm_cons_erase hz
  rw [h.all_eq]; rfl
def eqM (fs gs : List HFile) (m m2 : HMap) : Bool := bif ((m.length : Int) != (m2.length : Int)) then false else m.all (okE fs gs m2)
theorem maps_EqualFunc.ok (X : World) (hp : HL) (L : List HP) (fA fB : Nat → Nat) (S S2 : List Nat) (fs gs : List HFile) (ma mb : Nat) (m m2 : HMap) :
    DJ Try.prog X (bif ((m.length : Int) != (m2.length : Int)) then some false else some (m.all (okE fs gs m2))) 47 [.map (some ma), .map (some mb), .func (.func 48) #[] #[]] hp (mpi ma fA S m :: uni hT fA S fs :: mpi mb fB S2 m2 :: uni hT fB S2 gs :: L)
      (fun r => Is (.bool r) hp (mpi ma fA S m :: uni hT fA S fs :: mpi mb fB S2 m2 :: uni hT fB S2 gs :: L)) :=
  fn Try.func47 rfl Try.ntmps47 rfl <| CvF cS 0 rfl mpi_ins fun hl => CvF cS 2 rfl mpi_ins fun hl2 => seq <| reg <| U1 rfl asg <| nilL <| nn <|
    seq <| seq <| reg <| U1 rfl mv <| U1 rfl (lenM 0 rfl rfl Try.underlying61) <| U1 rfl mv <| U1 rfl (lenM 2 rfl rfl Try.underlying61) <| U1 rfl (ine rfl rfl) <| nilL <| nn <|
    cnd rfl (seq <| reg <| U1 rfl asg <| nilL <| nn <| ret <| pr <| q1 rfl er od0 (rt rfl) is) <| skp <| nn <|
    seq <| seq <| reg <| U1 rfl mv <| O1 <| rgM 0 rfl rfl rfl Try.underlying61 fun b => nilL <| nn <| block <|
    loopR (s := ()) (rem := m) (fun rem (_ : Unit) => some (rem.all (okE fs gs m2))) (fun rem (_ : Unit) e h L' => ∃ e0 cur, e = setL e0 [(1, .map (some mb)), (2, .func (.func 48) #[] #[]), (17, .pointer (some ⟨b, 0, none⟩))] ∧ h = hp ∧ (∀ z ∈ rem, z ∈ m) ∧
      L' = mpr b ma fA S m rem cur :: uni hT fA S fs :: mpi mb fB S2 m2 :: uni hT fB S2 gs :: L)
      (by
        rintro rem _ _ _ _ ⟨e0, cur, rfl, rfl, hsub, rfl⟩
        refine seq <| reg <| O1 <| nxM 0 rfl rfl rfl ?_ ?_
        · rintro rfl
          exact U1 rfl (xt rfl rfl) <| nilL <| nn <| seq <| cndF rfl <| MrE cS 0 rfl <| ext <| pe <| jeR <| be <| nn <| seq <| reg <| U1 rfl asg <| nilL <| nn <| ret <| q1 rfl er od0 (rt rfl) is
        · intro z hz
          have h1 := hl.2 z (hsub z hz)
          have h0 : decide (z.2 < 0) = false := decide_eq_false (by omega)
          show LJ _ _ (some (rem.all (okE fs gs m2))) _ _ _ _ _
          rw [all_erase hz]
          refine U1 rfl (xt rfl rfl) <| nilL <| nn <| seq <| cndT rfl <| skp <| nn <| block <| seq <| reg <| U1 rfl (enM 0 rfl rfl) <| U1 rfl (xt rfl rfl) <| U1 rfl (xt rfl rfl) <| U1 rfl asg <| U1 rfl asg <| nilL <| nn <|
            seq <| reg <| U1 rfl mv <| U1 rfl mv <| O1 <| mlk2 2 rfl rfl rfl rfl Try.underlying61 Try.underlying9 Try.zeroValue67 fun hI => U1 rfl mv <| U1 rfl (xt rfl rfl) <| U1 rfl (xt rfl rfl) <| U1 rfl asg <| U1 rfl asg <| nilL <| nn <|
            seq <| reg <| U1 rfl mv <| U1 rfl (lnot rfl) <| U1 rfl mv <| ?_
          cases hq : decide (mget m2 z.1 < 0) with
          | true =>
            have e1 : okE fs gs m2 z = false := by unfold okE; rw [hq]; rfl
            rw [e1]
            exact gF rfl (lets rfl rfl rfl rfl) <| gF rfl (lets rfl rfl rfl rfl) <| gF rfl (lets rfl rfl rfl rfl) <| gF rfl (lets rfl rfl rfl rfl) <| gF rfl (lets rfl rfl rfl rfl) <| U1 rfl (pkT rfl rfl) <| nilL <| nn <| cndT rfl <|
              MrE cS 0 rfl <| seq <| reg <| U1 rfl asg <| nilL <| nn <| ret <| br <| jrR <| br <| pr <| q1 rfl er od0 (rt rfl) is
          | false =>
            have h2 : 0 ≤ mget m2 z.1 := by have := of_decide_eq_false hq; omega
            have h3 : (mget m2 z.1).toNat ∈ S2 := by
              rcases hI with h | h
              · omega
              · exact h
            refine gT (lets rfl rfl rfl rfl) <| U1 rfl mv <| gT (lets rfl rfl rfl rfl) <| U1 rfl mv <| gT (lets rfl rfl rfl rfl) <| U1 rfl mv <| gT (lets rfl rfl rfl rfl) <| Fr cL 3 rfl <| Fr cL 2 rfl <|
              O1 <| callWI (first := []) (caps := []) rfl rfl Try.call48 rfl (host_Same_1.ok _ _ _ fA fB S S2 fs gs z.2 (mget m2 z.1) h1.1 h2 h1.2 h3) rfl <| Fr cL 1 rfl <| Fr cL 3 rfl <| Fr cL 2 rfl <| Fr cL 3 rfl <|
              gT (lets rfl rfl rfl rfl) <| U1 rfl (lnot rfl) <| U1 rfl (pkF rfl rfl) <| nilL <| nn <| ?_
            have e1 : okE fs gs m2 z = sameF fs gs z.2 (mget m2 z.1) := by unfold okE; rw [hq]; rfl
            rw [e1]
            cases hs : sameF fs gs z.2 (mget m2 z.1) with
            | false => exact cndT rfl <| MrE cS 0 rfl <| seq <| reg <| U1 rfl asg <| nilL <| nn <| ret <| br <| jrR <| br <| pr <| q1 rfl er od0 (rt rfl) is
            | true => exact cndF rfl <| skp <| bn <| jnR (rem.erase z) () (by rw [List.length_erase_of_mem hz]; have := List.length_pos_of_mem hz; omega) ⟨_, some z, setL_self ⟨rfl, rfl, rfl, trivial⟩, rfl, fun y hy => hsub y (List.mem_of_mem_erase hy), rfl⟩)
      ⟨_, none, setL_self ⟨rfl, rfl, rfl, trivial⟩, rfl, fun z hz => hz, rfl⟩
def host_Same.f (a0 a1 : HS) : Option Bool := bif ((a0.l.length : Int) != (a1.l.length : Int)) then some false else some (a0.l.all (okE a0.files a1.files a1.l))
theorem host_Same.ok (X : World) (hp : HL) (L : List HP) (a0 : HS) (a0b : Nat) (a1 : HS) (a1b : Nat) : DJ Try.prog X (host_Same.f a0 a1) 22 [.pointer (some ⟨a0b, 0, none⟩), .pointer (some ⟨a1b, 0, none⟩)] hp (hst hT a0b a0 :: hst hT a1b a1 :: L)
    (fun r => Is (.bool r) hp (hst hT a0b a0 :: hst hT a1b a1 :: L)) := by
  refine fn Try.func22 rfl Try.ntmps22 rfl <| seq <| reg <| U1 rfl asg <| nilL <| nn <| seq <| seq <| reg <| U1 rfl mv <| U1 rfl (pePN Try.runUnderlying26 rfl rfl) <| U1 rfl mv <| gT (lets rfl rfl rfl rfl) <| U1 rfl mv <| gT (lets rfl rfl rfl rfl) <| U1 rfl (pePN Try.runUnderlying26 rfl rfl) <| U1 rfl (pkF rfl rfl) <| nilL <| nn <| cndF rfl <| skp <| nn <|
    HstOpen cS 0 rfl fun ma ms g fA S hW => HstOpen cS 5 rfl fun mb ms' g' fB S2 hW' => Fr cS 4 rfl <| Fr cS 2 rfl <| Fr cS 9 rfl <| Fr cS 7 rfl <| seq <|
    rd 10 rfl [(a0b, .cells (hstC a0 ma ms g).toArray 64 (0, 0)), (a1b, .cells (hstC a1 mb ms' g').toArray 64 (0, 0))] mixedH (by kernel_rfl) ⟨⟨7, rfl⟩, ⟨4, rfl⟩, trivial⟩ <|
    AU 0 rfl (by kernel_rfl) rfl mv <| AU 1 rfl (by kernel_rfl) rfl (nc rfl) <| AU 2 rfl (by kernel_rfl) rfl (fa rfl Try.runUnderlying64 rfl Try.sizeOf61) <| AU 3 rfl (by kernel_rfl) rfl (ld Try.isAgg61 rfl (kf 0 rfl) rfl) <|
    AU 4 rfl (by kernel_rfl) rfl mv <| AU 5 rfl (by kernel_rfl) rfl (nc rfl) <| AU 6 rfl (by kernel_rfl) rfl (fa rfl Try.runUnderlying64 rfl Try.sizeOf61) <| AU 7 rfl (by kernel_rfl) rfl (ld Try.isAgg61 rfl (kf 1 rfl) rfl) <| ?_
  refine ⟨fun r hr => (?_ : AJ _ _ _ (some r) _ _ _ _ _ _).go r rfl⟩
  refine ab (rs := [8]) (by kernel_rfl) rfl ⟨ob rfl <| callI rfl Try.call47 rfl (maps_EqualFunc.ok _ _ _ fA fB S S2 a0.files a1.files ma mb a0.l a1.l) hr ⟨fk (sub.refl _) ⟨⟨7, rfl⟩, ⟨4, rfl⟩, trivial⟩, ?_⟩, trivial⟩
  exact AU 9 rfl (by kernel_rfl) rfl asg <| ad (by kernel_rfl) <| nn <| Fr cS 1 rfl <| Fr cS 9 rfl <| Fr cS 9 rfl <| Fr cS 3 rfl <| Fr cS 9 rfl <| HstShut cS (T := hT) (g := g) a0 hW <| Fr cS 2 rfl <| Fr cS 5 rfl <| Fr cS 5 rfl <| Fr cS 4 rfl <| Fr cS 5 rfl <| HstShut cS (T := hT) (g := g') a1 hW' <| Fr cS 1 rfl <| ret <| q1 rfl er od0 (rt rfl) is
end Go.Proofs.Ytgfjecngfmachaa
