/- A host is copied: walked by hand. -/
import Derived.Test.YtgfjecngfmachaaHostSame
import Derived.Test.YtgfjecngfmachaaBase19
namespace Go.Proofs.Ytgfjecngfmachaa
open Kot Go
set_option maxRecDepth 100000
set_option maxHeartbeats 4000000
abbrev tF : Nat := 70
abbrev tH : Nat := 64
abbrev tSen : Nat := 92
/-- what a round of copies leaves: the old places' copies are where they were -/
def More (fb : Nat → Nat) (D S : List Nat) (q : (Nat → Nat) × List Nat) : Prop := (∀ i ∈ D, fb i = q.1 i) ∧ (∀ i ∈ D, i ∈ q.2) ∧ (∀ i ∈ q.2, i ∈ S)
theorem senV_in {fb : Nat → Nat} {D : List Nat} {n : Int} (h0 : 0 ≤ n) (h : n.toNat ∈ D) : senV fb D n = hpv fb n := by
  unfold senV; rw [if_pos ⟨h0, h⟩, hpv_pos (by omega)]; rfl
theorem senV_out {fb : Nat → Nat} {D : List Nat} {n : Int} (h : n.toNat ∉ D) : senV fb D n = .pointer none := by
  unfold senV; rw [if_neg (fun hh => h hh.2)]
theorem senV_neg {fb : Nat → Nat} {D : List Nat} {n : Int} (h : n < 0) : senV fb D n = .pointer none := by
  unfold senV; rw [if_neg (by omega)]
theorem info_file : ∃ j, Try.prog.info? 70 = some j ∧ j.size ≠ 0 := ⟨_, rfl, by decide⟩
theorem twin.ok (X : World) (hp : HL) (L : List HP) (fA fB : Nat → Nat) (S D : List Nat) (fs : List HFile) (tb sb : Nat) (n : Int) (hS : InS S n) (hD : ∀ i ∈ D, i ∈ S) (hlim : ∀ i ∈ S, (fget fs i).p.length ≤ 1073741824) :
    DJ Try.prog X (some ()) 46 [hpv fA n, .pointer (some ⟨tb, 0, none⟩)] hp (blk tb tSen [.map (some sb)] :: sen sb fA fB D :: uni hT fA S fs :: uni hT fB D fs :: L)
      (fun _ => Ex (ι := (Nat → Nat) × List Nat) (fun q => hpv q.1 n) (fun q _ => More fB D S q ∧ InS q.2 n) hp (fun q => blk tb tSen [.map (some sb)] :: sen sb fA q.1 q.2 :: uni hT fA S fs :: uni hT q.1 q.2 fs :: L)) := by
  obtain ⟨j, hj, hsz⟩ := info_file
  refine fn Try.func46 rfl Try.ntmps46 rfl <| UniInj cS 2 rfl fun hinj => CvF cS 2 rfl uni_lt fun hu => seq <| reg <| U1 rfl asg <| nilL <| nn <| ?_
  have hn2 : 0 ≤ n → n.toNat ∈ S := by
    intro h0
    rcases hS with h | h
    · omega
    · exact h
  have hasks : ∀ {N : Nat} {hp : HL} {fb : Nat → Nat} {D' : List Nat} {L' : List HP} (_ : ∀ i ∈ D', i ∈ S), Asks ⟨Try.prog, X, N⟩ hp (blk tb tSen [.map (some sb)] :: sen sb fA fb D' :: uni hT fA S fs :: L') fA D' n := fun {N hp fb D' L'} hD' =>
    ⟨fun h0 w hw => own_uni_blk (i := 2) hw rfl (hn2 h0), fun h0 w hw q hq => own_uni_blk (i := 2) hw rfl (hD' q hq), fun h0 q hq he => hinj _ (hn2 h0) _ (hD' q hq) he⟩
  refine seqJ (K := fun (_ : (Nat → Nat) × List Nat) => some ()) (St := fun q e h L' => ∃ e0, e = setL e0 [(0, hpv fA n), (1, .pointer (some ⟨tb, 0, none⟩))] ∧ sub hp h ∧ More fB D S q ∧ InS q.2 n ∧ senV q.1 q.2 n = hpv q.1 n ∧
    L' = blk tb tSen [.map (some sb)] :: sen sb fA q.1 q.2 :: uni hT fA S fs :: uni hT q.1 q.2 fs :: L) ?_ ?_
  · refine seq <| reg <| U1 rfl mv <| U1 rfl (pnH Try.runUnderlying67 rfl rfl) <| U1 rfl mv <| ?_
    by_cases h0 : n < 0
    · have hq : (!decide (n < 0)) = false := by rw [decide_eq_true h0]; rfl
      exact gF rfl (letf rfl rfl rfl hq rfl) <| gF rfl (letf rfl rfl rfl hq rfl) <| gF rfl (letf rfl rfl rfl hq rfl) <| gF rfl (letf rfl rfl rfl hq rfl) <| U1 rfl (pkf rfl hq rfl) <| nilL <| nn <| cndF rfl <| skp <|
        jn (fB, D) ⟨_, setL_self ⟨rfl, rfl, trivial⟩, sub.refl _, ⟨fun _ _ => rfl, fun _ h => h, hD⟩, .inl h0, by rw [senV_neg h0, hpv_neg h0], rfl⟩
    · have hq : (!decide (n < 0)) = true := by rw [decide_eq_false h0]; rfl
      have h0' : decide (n < 0) = false := decide_eq_false h0
      have hnS := hn2 (by omega)
      refine gT (letf rfl rfl rfl hq rfl) <| U1 rfl (ld Try.isAgg92 rfl (kn 0 rfl) rfl) <| gT (letf rfl rfl rfl hq rfl) <| U1 rfl mv <| gT (letf rfl rfl rfl hq rfl) <|
        O1 <| slk 1 rfl rfl rfl rfl Try.underlying92 Try.underlying67 hj hsz Try.zeroValue67 (hasks hD) <| gT (letf rfl rfl rfl hq rfl) <| ?_
      by_cases hnD : n.toNat ∈ D
      · exact U1 rfl (peH Try.runUnderlying67 (senV_in (by omega) hnD) rfl) <| U1 rfl (pkt rfl hq rfl) <| nilL <| nn <| cndkF rfl h0' <| skp <|
          jn (fB, D) ⟨_, setL_self ⟨rfl, rfl, trivial⟩, sub.refl _, ⟨fun _ _ => rfl, fun _ h => h, hD⟩, .inr hnD, senV_in (by omega) hnD, rfl⟩
      · have hlt := hu.2 _ hnS
        have hz := lget_fget (n := n) (by omega) hlt
        have hr : ((lim (([] : List Int).length + (fget fs n.toNat).p.length)).bind fun _ => some (fget fs n.toNat).p) = some (fget fs n.toNat).p := by
          have := hlim _ hnS
          simp [lim, this]
        refine U1 rfl (peNN Try.runUnderlying67 (senV_out hnD) rfl) <| U1 rfl (pkt rfl hq rfl) <| nilL <| nn <| cndT rfl <| Fo cS 2 rfl h0' hS hz fun g =>
          rd 14 rfl [(tb, .cells #[.map (some sb)] tSen (0, 0)), (fA n.toNat, .cells #[sg g, .int .i64 (fget fs n.toNat).safe] tF (0, 0))] mixedH (by kernel_rfl) ⟨⟨3, rfl⟩, ⟨0, rfl⟩, trivial⟩ <|
          AU 0 rfl (by kernel_rfl) rfl (ld Try.isAgg92 rfl (kf 0 rfl) rfl) <| AU 1 rfl (by kernel_rfl) rfl mv <| AU 2 rfl (by kernel_rfl) rfl mv <| AU 3 rfl (by kernel_rfl) rfl (ncH rfl h0') <| AU 4 rfl (by kernel_rfl) rfl (fa rfl Try.runUnderlying70 rfl Try.sizeOf22) <| AU 5 rfl (by kernel_rfl) rfl (ld Try.isAgg22 rfl (kf 1 rfl) rfl) <|
          AU 7 rfl (by kernel_rfl) rfl mv <| AU 8 rfl (by kernel_rfl) rfl (ncH rfl h0') <| AU 9 rfl (by kernel_rfl) rfl (fa rfl Try.runUnderlying70 rfl Try.sizeOf3) <| AU 10 rfl (by kernel_rfl) rfl (ld Try.isAgg3 rfl (kf 1 rfl) rfl) <|
          ab (rs := [6]) (by kernel_rfl) rfl ⟨ob rfl <| callE rfl Try.call40 rfl (bytes_Clone.ok _ _ _ (fget fs n.toNat).p g (sl_sees (i := 1) (fun _ => rfl) rfl)) hr fun g' h' s' _ => ⟨fk s' ⟨⟨4, rfl⟩, ⟨1, rfl⟩, trivial⟩, ?_⟩, trivial⟩
        refine AU 11 rfl (by kernel_rfl) rfl (op (v := .agg #[sg g', .int .i64 (fget fs n.toNat).safe]) (fun w => by kernel_rfl)) <| ab (rs := [12]) (by kernel_rfl) rfl ⟨ob rfl <| box rfl rfl fun a => ⟨fk s' ⟨⟨5, rfl⟩, ⟨2, rfl⟩, trivial⟩, ab (rs := [13]) (by kernel_rfl) rfl
          ⟨ob rfl <| sup 6 rfl rfl rfl rfl Try.underlying92 Try.underlying67 hj hsz
            ⟨fun _ w hw => ⟨_, _, hw.get (i := 2) rfl⟩, fun _ w hw q hq => own_uniH_blk (i := 4) hw rfl (hD q hq) (fun h => hnD (by rw [← h]; exact hq)), fun _ q hq he => hinj _ hnS _ (hD q hq) he⟩ (by omega) hnD
            ⟨fk s' ⟨⟨5, rfl⟩, ⟨2, rfl⟩, trivial⟩, ?_⟩, trivial⟩⟩, trivial⟩
        refine Fr cA 4 rfl <| Fr cA 4 rfl <| Fr cA 4 rfl <| Uf0 cA (T := hT) (g := g) hz <| Fr cA 5 rfl <| Fr cA 3 rfl <| Fr cA 3 rfl <| UniPut cA (T := hT) (g := g') hlt hnD <| Fr cA 1 rfl <| Fr cA 3 rfl <| Fr cA 3 rfl <| ad (by kernel_rfl) <|
          jn (updf fB n.toNat a, D ++ [n.toNat]) ⟨_, setL_self ⟨rfl, rfl, trivial⟩, s', ⟨fun i hi => (updf_old (fun h => hnD (by rw [← h]; exact hi))).symm, fun i hi => List.mem_append.2 (.inl hi), fun i hi => ?_⟩, .inr (by simp), senV_in (by omega) (by simp), rfl⟩
        rcases List.mem_append.1 hi with hi | hi
        · exact hD i hi
        · rw [List.mem_singleton.1 hi]; exact hnS
  · rintro q _ h _ ⟨e0, rfl, hs, hM, hI, hse, rfl⟩
    exact seq <| reg <| U1 rfl (ld Try.isAgg92 rfl (kn 0 rfl) rfl) <| U1 rfl mv <| O1 <| slk 1 rfl rfl rfl rfl Try.underlying92 Try.underlying67 hj hsz Try.zeroValue67 (hasks hM.2.2) <| U1 rfl asg <| nilL <| nn <| ret <| q1 rfl er od0 (rt hse) <| ex (s := q) hs ⟨hM, hI⟩
end Go.Proofs.Ytgfjecngfmachaa
