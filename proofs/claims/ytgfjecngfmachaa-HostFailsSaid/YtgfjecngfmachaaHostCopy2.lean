/- A host is copied: the walk. Written by copygen.py. -/
import Derived.Test.YtgfjecngfmachaaHostCopy
namespace Go.Proofs.Ytgfjecngfmachaa
open Kot Go
set_option maxRecDepth 100000
set_option maxHeartbeats 4000000
theorem perm_sorted {a b : HMap} (h : a.Perm b) (ha : msorted a) (hb : msorted b) : a = b :=
  List.Perm.eq_of_pairwise (le := fun (x y : List UInt8 × Int) => x.1 < y.1) (fun x y _ _ h1 h2 => absurd h2 (List.lt_asymm h1)) ha hb h
theorem step_perm {d rem m : HMap} {z : List UInt8 × Int} (h : (d ++ rem).Perm m) (hn : (m.map Prod.fst).Nodup) (hz : z ∈ rem) : (mput d z.1 z.2 ++ rem.erase z).Perm m := by
  have hn' := ((h.map Prod.fst).nodup_iff).2 hn
  rw [List.map_append, List.nodup_append] at hn'
  have hd : mdel d z.1 = d := List.filter_eq_self.2 fun e he => by
    have := hn'.2.2 e.1 (List.mem_map.2 ⟨e, he, rfl⟩) z.1 (List.mem_map.2 ⟨z, hz, rfl⟩)
    simpa using this
  have h1 : (mput d z.1 z.2).Perm (z :: d) := by
    have := mput_perm d z.1 z.2
    rwa [hd] at this
  refine (h1.append_right _).trans (List.Perm.trans ?_ h)
  have h2 := List.perm_cons_erase hz
  refine List.Perm.trans ?_ (h2.symm.append_left d)
  exact List.perm_middle.symm
theorem sl_chC {fb fb' : Nat → Nat} {D : List Nat} {ws : List HChg} {v : Value} {t : Nat} (h : ∀ c ∈ ws, InS D c.f) (hq : ∀ i ∈ D, fb i = fb' i) : ∀ g, sl v t 3 (ws.flatMap (chC fb)) g → sl v t 3 (ws.flatMap (chC fb')) g := by
  have : ws.flatMap (chC fb) = ws.flatMap (chC fb') := by
    rw [List.flatMap_def, List.flatMap_def]
    congr 1
    refine List.map_congr_left fun c hc => ?_
    unfold chC
    rw [hpv_congr (fa' := fb') fun h0 => ?_]
    rcases h c hc with hh | hh
    · omega
    · exact hq _ hh
  rw [this]; exact fun _ h => h
def okC (x : HS) : Bool := x.files.all (fun f => decide (f.p.length ≤ 1073741824)) && decide (x.wait.length ≤ 1073741823)
def host_Host_Copy.f (x : HS) : Option HS := bif okC x then some x else none
theorem host_Host_Copy.ok (X : World) (hp : HL) (L : List HP) (a0 : HS) (a0b : Nat) : DJ Try.prog X (host_Host_Copy.f a0) 20 [.pointer (some ⟨a0b, 0, none⟩)] hp (hst hT a0b a0 :: L)
    (fun r => Ex (ι := Nat) (fun s => .pointer (some ⟨s, 0, none⟩)) (fun _ _ => True) hp (fun s => hst hT s r :: hst hT a0b a0 :: L)) := by
  cases hok : okC a0 with
  | false => unfold host_Host_Copy.f; rw [hok]; exact ctD
  | true =>
  unfold host_Host_Copy.f
  rw [hok, cond_true]
  simp only [okC, Bool.and_eq_true, decide_eq_true_eq, List.all_eq_true] at hok
  have hwl := hok.2
  refine fn Try.func20 rfl Try.ntmps20 rfl <| HstOpen cS 0 rfl fun ml ms g fA S hW => CvF cS 1 rfl mpi_ins fun hl => CvF cS 2 rfl mpi_ins fun hs => CvF cS 4 rfl uni_lt fun hu => ?_
  have hlim : ∀ i ∈ S, (fget a0.files i).p.length ≤ 1073741824 := fun i hi => by
    have h1 := hu.2 i hi
    have h2 := hok.1 (a0.files[i]'h1) (List.getElem_mem h1)
    simpa [fget, h1] using h2
  refine seq <| reg <| U1 rfl asg <| nilL <| nn <| seq <| seq <| reg <| U1 rfl mv <| U1 rfl (pePN Try.runUnderlying26 rfl rfl) <| nilL <| nn <| cndF rfl <| skp <| nn <|
    seq <| reg <| U1 rfl mv <| U1 rfl (nc rfl) <| U1 rfl (lda Try.isAgg64 Try.sizeOf64 rfl (kn 0 rfl) rfl) <| O1 <| alc rfl Try.zeroValue64 rfl fun oc => O1 <| sta (i := 0) Try.sizeOf64 rfl rfl rfl rfl <| nilL <| nn <|
    seq <| reg <| O1 <| mkSen fA (fun _ => 0) rfl fun sb => O1 <| alc rfl Try.zeroValue92 rfl fun tb => O1 <| st (i := 0) Try.sizeOf92 rfl rfl rfl rfl rfl rfl <| nilL <| nn <|
    seq <| reg <| U1 rfl mkF <| U1 rfl asg <| nilL <| nn <|
    seq <| reg <| O1 <| mkM (fun _ => 0) [] rfl fun l1 => O1 <| mkM (fun _ => 0) [] rfl fun l2 => U1 rfl (fa rfl Try.runUnderlying64 rfl Try.sizeOf61) <| O1 <| st (i := 4) Try.sizeOf61 rfl rfl rfl rfl rfl rfl <|
    U1 rfl (fa rfl Try.runUnderlying64 rfl Try.sizeOf61) <| O1 <| st (i := 4) Try.sizeOf61 rfl rfl rfl rfl rfl rfl <| U1 rfl (fa rfl Try.runUnderlying64 rfl Try.sizeOf62) <| O1 <| st (i := 4) Try.sizeOf62 rfl rfl rfl rfl rfl rfl <| nilL <| nn <| ?_
  refine UniNil cS (fb := fun _ => 0) (T := hT) (fs := a0.files) <| seq <| seq <| reg <| U1 rfl mv <| U1 rfl (nc rfl) <| U1 rfl (fa rfl Try.runUnderlying64 rfl Try.sizeOf61) <| U1 rfl (ld Try.isAgg61 rfl (kn 6 rfl) rfl) <| O1 <| rgM 7 rfl rfl rfl Try.underlying61 fun b => Fr cL 9 rfl <| Fr cL 9 rfl <| Fr cL 9 rfl <| Fr cL 3 rfl <| Fr cL 9 rfl <| Fr cL 6 rfl <| Fr cL 7 rfl <| Fr cL 7 rfl <| Fr cL 10 rfl <| Fr cL 10 rfl <| Fr cL 10 rfl <| nilL <| nn <| block <| ?_
  exact loopR (s := ()) (rem := a0.l) (fun rem (_ : Unit) => some a0) (fun rem (_ : Unit) e h L' => ∃ e0 cur fb D dl, e = setL e0 [(0, .pointer (some ⟨a0b, 0, none⟩)), (3, .pointer (some ⟨oc, 0, none⟩)), (5, .func (.func 46) #[] #[.pointer (some ⟨tb, 0, none⟩)]), (28, .pointer (some ⟨b, 0, none⟩))] ∧ sub hp h ∧ (∀ i ∈ D, i ∈ S) ∧ (dl ++ rem).Perm a0.l ∧
      L' = blk tb tSen [.map (some sb)] :: sen sb fA fb D :: uni hT fA S a0.files :: uni hT fb D a0.files :: mpi l1 fb D dl :: mpi l2 fb D [] :: blk oc tH [.map (some l1), .map (some l2), .slice none 0 0, .int .i64 a0.limit, .int .i64 a0.arm, .int .i64 a0.fault, .int .i64 a0.reads] :: mpr b ml fA S a0.l rem cur :: blk a0b tH (hstC a0 ml ms g) :: mpi ms fA S a0.safe :: sl (sg g) 72 3 (a0.wait.flatMap (chC fA)) :: L)
      (by
        rintro rem _ _ h _ ⟨e0, cur, fb, D, dl, rfl, hsb, hD, hpm, rfl⟩
        refine CvF cS 4 rfl mpi_ins fun hsrt => seq <| reg <| O1 <| nxM 7 rfl rfl rfl ?_ ?_
        · rintro rfl
          have hdl : dl = a0.l := perm_sorted (by simpa using hpm) hsrt.1 hl.1
          subst hdl
          refine U1 rfl (xt rfl rfl) <| nilL <| nn <| seq <| cndF rfl <| MrE cS 7 rfl <| ext <| pe <| jeR <| be <| nn <| ?_
          refine seq <| seq <| reg <| U1 rfl mv <| U1 rfl (nc rfl) <| U1 rfl (fa rfl Try.runUnderlying64 rfl Try.sizeOf61) <| U1 rfl (ld Try.isAgg61 rfl (kn 8 rfl) rfl) <| O1 <| rgM 9 rfl rfl rfl Try.underlying61 fun b => Fr cL 10 rfl <| Fr cL 2 rfl <| Fr cL 10 rfl <| Fr cL 3 rfl <| Fr cL 10 rfl <| Fr cL 10 rfl <| Fr cL 10 rfl <| Fr cL 10 rfl <| Fr cL 10 rfl <| Fr cL 10 rfl <| Fr cL 10 rfl <| nilL <| nn <| block <| ?_
          exact loopR (s := ()) (rem := a0.safe) (fun rem (_ : Unit) => some a0) (fun rem (_ : Unit) e h L' => ∃ e0 cur fb D ds, e = setL e0 [(0, .pointer (some ⟨a0b, 0, none⟩)), (3, .pointer (some ⟨oc, 0, none⟩)), (5, .func (.func 46) #[] #[.pointer (some ⟨tb, 0, none⟩)]), (44, .pointer (some ⟨b, 0, none⟩))] ∧ sub hp h ∧ (∀ i ∈ D, i ∈ S) ∧ (ds ++ rem).Perm a0.safe ∧
                L' = blk tb tSen [.map (some sb)] :: sen sb fA fb D :: uni hT fA S a0.files :: uni hT fb D a0.files :: mpi l1 fb D a0.l :: mpi l2 fb D ds :: blk oc tH [.map (some l1), .map (some l2), .slice none 0 0, .int .i64 a0.limit, .int .i64 a0.arm, .int .i64 a0.fault, .int .i64 a0.reads] :: mpr b ms fA S a0.safe rem cur :: blk a0b tH (hstC a0 ml ms g) :: mpi ml fA S a0.l :: sl (sg g) 72 3 (a0.wait.flatMap (chC fA)) :: L)
                (by
                  rintro rem _ _ h _ ⟨e0, cur, fb, D, ds, rfl, hsb, hD, hpm, rfl⟩
                  refine CvF cS 5 rfl mpi_ins fun hsrt => seq <| reg <| O1 <| nxM 7 rfl rfl rfl ?_ ?_
                  · rintro rfl
                    have hdl : ds = a0.safe := perm_sorted (by simpa using hpm) hsrt.1 hs.1
                    subst hdl
                    refine U1 rfl (xt rfl rfl) <| nilL <| nn <| seq <| cndF rfl <| MrE cS 7 rfl <| ext <| pe <| jeR <| be <| nn <| ?_
                    refine seq <| seq <| reg <| U1 rfl mv <| U1 rfl (nc rfl) <| U1 rfl (fa rfl Try.runUnderlying64 rfl Try.sizeOf62) <| U1 rfl (ld Try.isAgg62 rfl (kn 8 rfl) rfl) <| U1 rfl (lenO (f := chC fA) (i := 10) rfl rfl (fun _ => rfl) Try.runUnderlying62) <| U1 rfl mv <| Gn cL 72 3 <| Fr cL 11 rfl <| Fr cL 2 rfl <| Fr cL 11 rfl <| Fr cL 11 rfl <| Fr cL 11 rfl <| Fr cL 5 rfl <| Fr cL 11 rfl <| Fr cL 11 rfl <| Fr cL 11 rfl <| Fr cL 11 rfl <| Fr cL 11 rfl <| Fr cL 11 rfl <| nilL <| nn <| block <| ?_
                    have hF0 : (bif decide (a0.wait.length - 0 < a0.wait.length + 1) then some a0 else none) = some a0 := by rw [decide_eq_true (by omega)]; rfl
                    rw [← hF0]
                    exact loop (n := a0.wait.length + 1) (s := 0) (fun n (i : Nat) => bif decide (a0.wait.length - i < n) then some a0 else none) (fun (i : Nat) e h L' => ∃ e0 fb D gw, e = setL e0 [(3, .pointer (some ⟨oc, 0, none⟩)), (5, .func (.func 46) #[] #[.pointer (some ⟨tb, 0, none⟩)]), (59, sg g), (60, .int .i64 a0.wait.length), (61, .int .i64 (i : Nat))] ∧ sub hp h ∧ (∀ i ∈ D, i ∈ S) ∧ i ≤ a0.wait.length ∧ (∀ c ∈ a0.wait.take i, InS D c.f) ∧
                          L' = blk tb tSen [.map (some sb)] :: sen sb fA fb D :: uni hT fA S a0.files :: uni hT fb D a0.files :: mpi l1 fb D a0.l :: mpi l2 fb D a0.safe :: sl (sg gw) 72 3 ((a0.wait.take i).flatMap (chC fb)) :: blk oc tH [.map (some l1), .map (some l2), sg gw, .int .i64 a0.limit, .int .i64 a0.arm, .int .i64 a0.fault, .int .i64 a0.reads] :: blk a0b tH (hstC a0 ml ms g) :: mpi ml fA S a0.l :: mpi ms fA S a0.safe :: sl (sg g) 72 3 (a0.wait.flatMap (chC fA)) :: L)
                          (fun i => by have : ¬ a0.wait.length - i < 0 := by omega
                                       rw [decide_eq_false this]; rfl)
                          (by
                            rintro n i _ h _ ⟨e0, fb, D, gw, rfl, hsb, hD, hi, hwD, rfl⟩
                            by_cases hn : a0.wait.length - i < n + 1
                            case neg => rw [decide_eq_false hn]; exact nonS
                            case pos =>
                            rw [decide_eq_true hn, cond_true]
                            refine seq <| reg <| U1 rfl (ilt rfl rfl) <| nilL <| nn <| seq <| ?_
                            by_cases hlt : ((i : Nat) : Int) < (a0.wait.length : Int)
                            case neg =>
                              refine cndkF rfl (decide_eq_false hlt) ?_
                              have hie : i = a0.wait.length := by omega
                              subst hie
                              rw [List.take_length] at hwD ⊢
                              refine ext <| pe <| je <| be <| nn <| ?_
                              exact Dr cS 0 rfl <| Dr cS 0 rfl <| Fr cS 1 rfl <| Fr cS 4 rfl <| Fr cS 4 rfl <| Fr cS 4 rfl <| Fr cS 5 rfl <| HstShut cS (T := hT) (g := gw) a0 hwD <| Fr cS 1 rfl <| Fr cS 5 rfl <| Fr cS 5 rfl <| Fr cS 5 rfl <| Fr cS 5 rfl <| HstShut cS (T := hT) (g := g) a0 hW <| Fr cS 1 rfl <| seq <| reg <| U1 rfl asg <| nilL <| nn <| ret <| q1 rfl er od0 (rt rfl) <| ex (s := oc) hsb trivial
                            case pos =>
                              have hlt' : i < a0.wait.length := by omega
                              have hz : lget a0.wait (i : Int) = some (a0.wait[i]'hlt') := by unfold lget; rw [if_pos (by omega)]; simp
                              have hlm : lim ((a0.wait.take i).length + [a0.wait[i]'hlt'].length) = some () := by
                                have h1 := hwl
                                unfold lim; rw [if_pos]; simp; omega
                              have htk : a0.wait.take i ++ [a0.wait[i]'hlt'] = a0.wait.take (i + 1) := by rw [List.take_add_one, List.getElem?_eq_getElem hlt']; rfl
                              have hIn : InS S (a0.wait[i]'hlt').f := hW _ (List.getElem_mem hlt')
                              generalize a0.wait[i]'hlt' = c at hz hlm htk hIn
                              refine cndkT rfl (decide_eq_true hlt) <| skp <| nn <| seq <| block <| seq <| reg <| X1 rfl (iaO (f := chC fA) (j := 11) (xs := a0.wait) rfl rfl (fun _ => rfl) hz rfl Try.runUnderlying62 Try.sizeOf72) fun p Hp => U1 rfl (ldOa (f := chC fA) (j := 11) (z := c) (i := (i : Int)) (xs := a0.wait) Try.isAgg72 Try.sizeOf72 rfl Hp rfl (fun _ => rfl) hz) <|
                                O1 <| alc rfl Try.zeroValue72 rfl fun b11 => O1 <| sta (i := 0) Try.sizeOf72 rfl rfl rfl (by simp only [chC, List.all_cons, List.all_nil, hpv_one]; rfl) <| nilL <| nn <|
                                rd 15 rfl [(b11, .cells (chC fA c).toArray 72 (0, 0))] mixedH (by kernel_rfl) ⟨⟨0, rfl⟩, trivial⟩ <|
                                AU 0 rfl (by kernel_rfl) rfl (fa rfl Try.runUnderlying64 rfl Try.sizeOf62) <| AU 2 rfl (by kernel_rfl) rfl (fa rfl Try.runUnderlying72 rfl Try.sizeOf9) <| AU 3 rfl (by kernel_rfl) rfl (ld Try.isAgg9 rfl (kf 0 rfl) rfl) <| AU 4 rfl (by kernel_rfl) rfl mv <| AU 5 rfl (by kernel_rfl) rfl (fa rfl Try.runUnderlying72 rfl Try.sizeOf67) <| AU 6 rfl (by kernel_rfl) rfl (ld Try.isAgg67 rfl (kf 0 rfl) (v := hpv fA c.f) rfl) <| AU 8 rfl (by kernel_rfl) rfl (fa rfl Try.runUnderlying72 rfl Try.sizeOf9) <| AU 9 rfl (by kernel_rfl) rfl (ld Try.isAgg9 rfl (kf 0 rfl) rfl) <| ?_
                              have hK : (bif decide (a0.wait.length - (i + 1) < n) then some a0 else none) = some a0 := by rw [decide_eq_true (by omega)]; rfl
                              have hw1 : IntKind.wrap .i64 ((i : Int) + 1) = ((i + 1 : Nat) : Int) := by rw [IntKind.wrap_i64]; omega
                              have hIq : ∀ q : (Nat → Nat) × List Nat, More fb D S q ∧ InS q.2 c.f → ∀ z ∈ a0.wait.take (i + 1), InS q.2 z.f := fun q hq z hz' => by
                                rw [← htk] at hz'
                                rcases List.mem_append.1 hz' with h1 | h1
                                · exact (hwD z h1).imp id (hq.1.2.1 _)
                                · rw [List.mem_singleton.1 h1]; exact hq.2
                              exact ab (rs := [1, 7]) (by kernel_rfl) rfl ⟨ob rfl <| OpJ.of rfl (ld Try.isAgg62 rfl (kn 8 rfl) rfl) ⟨fk (sub.refl _) ⟨⟨0, rfl⟩, trivial⟩, ab (rs := [7]) (by kernel_rfl) rfl ⟨ob rfl <| Fr cO 4 rfl <| Fr cO 4 rfl <| Fr cO 4 rfl <| Fr cO 4 rfl <| callWE (first := []) (caps := [.pointer (some ⟨tb, 0, none⟩)]) rfl rfl Try.call46 rfl (twin.ok _ _ _ fA fb S D a0.files tb sb c.f hIn hD hlim) rfl fun q h' s' hq => ⟨fk s' ⟨⟨4, rfl⟩, trivial⟩, CvW cA 5 rfl (mpi_mono hq.1.1 hq.1.2.1) <| CvW cA 6 rfl (mpi_mono hq.1.1 hq.1.2.1) <| CvW cA 7 rfl (sl_chC hwD hq.1.1) <| AU 10 rfl (by kernel_rfl) rfl (op (v := .agg #[str c.name, hpv q.1 c.f, str c.frm]) (fun w => by obtain ⟨p, hp⟩ := hpvP q.1 c.f; rw [hp]; kernel_rfl)) <| ab (rs := [11]) (by kernel_rfl) rfl ⟨ob rfl <| bsl (cs := [str c.name, hpv q.1 c.f, str c.frm]) rfl Try.runUnderlying62 Try.sizeOf72 Try.zeroValue72 rfl rfl (by kernel_rfl) fun bl => ⟨fk s' ⟨⟨5, rfl⟩, trivial⟩, ab (rs := [12]) (by kernel_rfl) rfl ⟨ob rfl <| apW (xs := a0.wait.take i) (ys := [c]) (f := chC q.1) (i := 8) rfl rfl rfl rfl (fun _ => rfl) chC_one (SeesV.of (own_seesT (ys := [c]) (f := chC q.1) (i := 0) (fun _ => rfl) rfl _)) hlm Try.runUnderlying62 Try.runUnderlying62 (.inl ⟨_, rfl⟩) Try.zeroValue72 rfl Try.sizeOf72 Try.typeInfo72 rfl fun g2 => ⟨fk s' ⟨⟨5, rfl⟩, trivial⟩, AU 13 rfl (by kernel_rfl) rfl (fa rfl Try.runUnderlying64 rfl Try.sizeOf62) <| ab (rs := [14]) (by kernel_rfl) rfl ⟨ob rfl <| st (i := 9) Try.sizeOf62 rfl rfl rfl rfl rfl rfl ⟨fk s' ⟨⟨5, rfl⟩, trivial⟩, Dr cA 0 rfl <| Dr cA 4 rfl <| ad (by kernel_rfl) <| bn <| nn <| reg <| U1 rfl (iadd rfl rfl) <| U1 rfl mv <| nilL <| jnT (i + 1) hK ⟨_, q.1, q.2, g2, setL_self ⟨rfl, rfl, rfl, rfl, congrArg (Value.int .i64) hw1, trivial⟩, hsb.trans s', hq.1.2.2, by omega, hIq q hq, by rw [← htk]; rfl⟩⟩, trivial⟩⟩, trivial⟩⟩, trivial⟩⟩, trivial⟩⟩, ob rfl <| Fr cO 4 rfl <| Fr cO 4 rfl <| Fr cO 4 rfl <| Fr cO 4 rfl <| callWE (first := []) (caps := [.pointer (some ⟨tb, 0, none⟩)]) rfl rfl Try.call46 rfl (twin.ok _ _ _ fA fb S D a0.files tb sb c.f hIn hD hlim) rfl fun q h' s' hq => ⟨fk s' ⟨⟨4, rfl⟩, trivial⟩, CvW cA 5 rfl (mpi_mono hq.1.1 hq.1.2.1) <| CvW cA 6 rfl (mpi_mono hq.1.1 hq.1.2.1) <| CvW cA 7 rfl (sl_chC hwD hq.1.1) <| AU 10 rfl (by kernel_rfl) rfl (op (v := .agg #[str c.name, hpv q.1 c.f, str c.frm]) (fun w => by obtain ⟨p, hp⟩ := hpvP q.1 c.f; rw [hp]; kernel_rfl)) <| ab (rs := [1, 11]) (by kernel_rfl) rfl ⟨ob rfl <| OpJ.of rfl (ld Try.isAgg62 rfl (kn 8 rfl) rfl) ⟨fk s' ⟨⟨4, rfl⟩, trivial⟩, ab (rs := [11]) (by kernel_rfl) rfl ⟨ob rfl <| bsl (cs := [str c.name, hpv q.1 c.f, str c.frm]) rfl Try.runUnderlying62 Try.sizeOf72 Try.zeroValue72 rfl rfl (by kernel_rfl) fun bl => ⟨fk s' ⟨⟨5, rfl⟩, trivial⟩, ab (rs := [12]) (by kernel_rfl) rfl ⟨ob rfl <| apW (xs := a0.wait.take i) (ys := [c]) (f := chC q.1) (i := 8) rfl rfl rfl rfl (fun _ => rfl) chC_one (SeesV.of (own_seesT (ys := [c]) (f := chC q.1) (i := 0) (fun _ => rfl) rfl _)) hlm Try.runUnderlying62 Try.runUnderlying62 (.inl ⟨_, rfl⟩) Try.zeroValue72 rfl Try.sizeOf72 Try.typeInfo72 rfl fun g2 => ⟨fk s' ⟨⟨5, rfl⟩, trivial⟩, AU 13 rfl (by kernel_rfl) rfl (fa rfl Try.runUnderlying64 rfl Try.sizeOf62) <| ab (rs := [14]) (by kernel_rfl) rfl ⟨ob rfl <| st (i := 9) Try.sizeOf62 rfl rfl rfl rfl rfl rfl ⟨fk s' ⟨⟨5, rfl⟩, trivial⟩, Dr cA 0 rfl <| Dr cA 4 rfl <| ad (by kernel_rfl) <| bn <| nn <| reg <| U1 rfl (iadd rfl rfl) <| U1 rfl mv <| nilL <| jnT (i + 1) hK ⟨_, q.1, q.2, g2, setL_self ⟨rfl, rfl, rfl, rfl, congrArg (Value.int .i64) hw1, trivial⟩, hsb.trans s', hq.1.2.2, by omega, hIq q hq, by rw [← htk]; rfl⟩⟩, trivial⟩⟩, trivial⟩⟩, trivial⟩⟩, ob rfl <| bsl (cs := [str c.name, hpv q.1 c.f, str c.frm]) rfl Try.runUnderlying62 Try.sizeOf72 Try.zeroValue72 rfl rfl (by kernel_rfl) fun bl => ⟨fk s' ⟨⟨5, rfl⟩, trivial⟩, ab (rs := [1]) (by kernel_rfl) rfl ⟨ob rfl <| OpJ.of rfl (ld Try.isAgg62 rfl (kn 9 rfl) rfl) ⟨fk s' ⟨⟨5, rfl⟩, trivial⟩, ab (rs := [12]) (by kernel_rfl) rfl ⟨ob rfl <| apW (xs := a0.wait.take i) (ys := [c]) (f := chC q.1) (i := 8) rfl rfl rfl rfl (fun _ => rfl) chC_one (SeesV.of (own_seesT (ys := [c]) (f := chC q.1) (i := 0) (fun _ => rfl) rfl _)) hlm Try.runUnderlying62 Try.runUnderlying62 (.inl ⟨_, rfl⟩) Try.zeroValue72 rfl Try.sizeOf72 Try.typeInfo72 rfl fun g2 => ⟨fk s' ⟨⟨5, rfl⟩, trivial⟩, AU 13 rfl (by kernel_rfl) rfl (fa rfl Try.runUnderlying64 rfl Try.sizeOf62) <| ab (rs := [14]) (by kernel_rfl) rfl ⟨ob rfl <| st (i := 9) Try.sizeOf62 rfl rfl rfl rfl rfl rfl ⟨fk s' ⟨⟨5, rfl⟩, trivial⟩, Dr cA 0 rfl <| Dr cA 4 rfl <| ad (by kernel_rfl) <| bn <| nn <| reg <| U1 rfl (iadd rfl rfl) <| U1 rfl mv <| nilL <| jnT (i + 1) hK ⟨_, q.1, q.2, g2, setL_self ⟨rfl, rfl, rfl, rfl, congrArg (Value.int .i64) hw1, trivial⟩, hsb.trans s', hq.1.2.2, by omega, hIq q hq, by rw [← htk]; rfl⟩⟩, trivial⟩⟩, trivial⟩⟩, trivial⟩⟩, trivial⟩⟩, trivial⟩)
                          ⟨_, fb, D, (none, 0, 0), setL_self ⟨rfl, rfl, rfl, rfl, rfl, trivial⟩, hsb, hD, Nat.zero_le _, (fun _ h => nomatch h), rfl⟩
                  · intro z hz
                    have hz2 := hs.2 z (hpm.mem_iff.1 (List.mem_append.2 (.inr hz)))
                    have h0 : decide (z.2 < 0) = false := decide_eq_false (by omega)
                    refine U1 rfl (xt rfl rfl) <| nilL <| nn <| seq <| cndT rfl <| skp <| nn <| block <| seq <| reg <| U1 rfl (enM 7 rfl rfl) <| U1 rfl (xt rfl rfl) <| U1 rfl (xt rfl rfl) <| U1 rfl asg <| U1 rfl asg <| nilL <| nn <|
                      rd 7 rfl [(oc, .cells #[.map (some l1), .map (some l2), .slice none 0 0, .int .i64 a0.limit, .int .i64 a0.arm, .int .i64 a0.fault, .int .i64 a0.reads] tH (0, 0))] mixedH (by kernel_rfl) ⟨⟨6, rfl⟩, trivial⟩ <|
                      AU 0 rfl (by kernel_rfl) rfl (fa rfl Try.runUnderlying64 rfl Try.sizeOf61) <| AU 1 rfl (by kernel_rfl) rfl (ld Try.isAgg61 rfl (kf 0 rfl) rfl) <| AU 2 rfl (by kernel_rfl) rfl mv <| AU 3 rfl (by kernel_rfl) rfl mv <| AU 4 rfl (by kernel_rfl) rfl mv <|
                      ab (rs := [5]) (by kernel_rfl) rfl ⟨ob rfl <| callWE (first := []) (caps := [.pointer (some ⟨tb, 0, none⟩)]) rfl rfl Try.call46 rfl (twin.ok _ _ _ fA fb S D a0.files tb sb z.2 (.inr hz2.2) hD hlim) rfl fun q h' s' hq => ⟨fk s' ⟨⟨6, rfl⟩, trivial⟩, ?_⟩, trivial⟩
                    refine CvW cA 4 rfl (mpi_mono hq.1.1 hq.1.2.1) <| CvW cA 5 rfl (mpi_mono hq.1.1 hq.1.2.1) <| ab (rs := [6]) (by kernel_rfl) rfl ⟨ob rfl <| mup 5 rfl rfl rfl rfl h0 hq.2 Try.underlying61 Try.underlying9 ⟨fk s' ⟨⟨6, rfl⟩, trivial⟩, ?_⟩, trivial⟩
                    exact ad (by kernel_rfl) <| bn <| jnR (rem.erase z) () (by rw [List.length_erase_of_mem hz]; have := List.length_pos_of_mem hz; omega) ⟨_, some z, q.1, q.2, mput ds z.1 z.2, setL_self ⟨rfl, rfl, rfl, rfl, trivial⟩, hsb.trans s', hq.1.2.2, step_perm hpm (msorted_nodup hs.1) hz, rfl⟩)
                ⟨_, none, fb, D, [], setL_self ⟨rfl, rfl, rfl, rfl, trivial⟩, hsb, hD, List.Perm.refl _, rfl⟩
        · intro z hz
          have hz2 := hl.2 z (hpm.mem_iff.1 (List.mem_append.2 (.inr hz)))
          have h0 : decide (z.2 < 0) = false := decide_eq_false (by omega)
          refine U1 rfl (xt rfl rfl) <| nilL <| nn <| seq <| cndT rfl <| skp <| nn <| block <| seq <| reg <| U1 rfl (enM 7 rfl rfl) <| U1 rfl (xt rfl rfl) <| U1 rfl (xt rfl rfl) <| U1 rfl asg <| U1 rfl asg <| nilL <| nn <|
            rd 7 rfl [(oc, .cells #[.map (some l1), .map (some l2), .slice none 0 0, .int .i64 a0.limit, .int .i64 a0.arm, .int .i64 a0.fault, .int .i64 a0.reads] tH (0, 0))] mixedH (by kernel_rfl) ⟨⟨6, rfl⟩, trivial⟩ <|
            AU 0 rfl (by kernel_rfl) rfl (fa rfl Try.runUnderlying64 rfl Try.sizeOf61) <| AU 1 rfl (by kernel_rfl) rfl (ld Try.isAgg61 rfl (kf 0 rfl) rfl) <| AU 2 rfl (by kernel_rfl) rfl mv <| AU 3 rfl (by kernel_rfl) rfl mv <| AU 4 rfl (by kernel_rfl) rfl mv <|
            ab (rs := [5]) (by kernel_rfl) rfl ⟨ob rfl <| callWE (first := []) (caps := [.pointer (some ⟨tb, 0, none⟩)]) rfl rfl Try.call46 rfl (twin.ok _ _ _ fA fb S D a0.files tb sb z.2 (.inr hz2.2) hD hlim) rfl fun q h' s' hq => ⟨fk s' ⟨⟨6, rfl⟩, trivial⟩, ?_⟩, trivial⟩
          refine CvW cA 4 rfl (mpi_mono hq.1.1 hq.1.2.1) <| CvW cA 5 rfl (mpi_mono hq.1.1 hq.1.2.1) <| ab (rs := [6]) (by kernel_rfl) rfl ⟨ob rfl <| mup 4 rfl rfl rfl rfl h0 hq.2 Try.underlying61 Try.underlying9 ⟨fk s' ⟨⟨6, rfl⟩, trivial⟩, ?_⟩, trivial⟩
          exact ad (by kernel_rfl) <| bn <| jnR (rem.erase z) () (by rw [List.length_erase_of_mem hz]; have := List.length_pos_of_mem hz; omega) ⟨_, some z, q.1, q.2, mput dl z.1 z.2, setL_self ⟨rfl, rfl, rfl, rfl, trivial⟩, hsb.trans s', hq.1.2.2, step_perm hpm (msorted_nodup hl.1) hz, rfl⟩)
      ⟨_, none, (fun _ => 0), [], [], setL_self ⟨rfl, rfl, rfl, rfl, trivial⟩, sub.refl _, (fun _ h => nomatch h), List.Perm.refl _, rfl⟩
end Go.Proofs.Ytgfjecngfmachaa
