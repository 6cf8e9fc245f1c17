/- The keys of a map of texts, in their order. -/
import Derived.Test.YtpajmahpphcbaaaGreatDoorBase18
import Derived.Test.YtpajmahpphcbaaaGreatDoorIter
import Derived.KernelRfl
import Derived.Maps.Range
namespace Go.Proofs.YtpajmahpphcbaaaGreatDoor
open Kot Go Go.RowKit Go.Maps Go.Sort Go.Shelf
def keysOk (m : HMap) : Bool := decide (m.length ≤ 1048576) && m.all (fun e => decide (e.1.length ≤ 1048576))
theorem keys.ok (X : World) (hp : HL) (L : List HP) (mb : Nat) : DJ Tryz.prog X (some ()) 43 [.map (some mb)] hp L
    (fun _ => Ex (ι := Nat) (fun s => .func (.func 67) #[] #[.pointer (some ⟨s, 0, none⟩)]) (fun _ _ => True) hp (fun s => blk s 80 [.map (some mb)] :: L)) :=
  ⟨fun r hr => ⟨fun w hw => by
    have h : CallsIn Fence.wide 5 Tryz.prog 43 #[.map (some mb)] w _ := AnyZ.keys_in Tryz.keys43 Fence.wide 5 trivial rfl (some mb) w
    refine (callsIn_wide.1 h).mono ?_
    rintro e w' ⟨rfl, rfl⟩
    exact ⟨_, hp, _, rfl, ex (sub.refl _) trivial, hw.new _⟩⟩⟩
theorem sorts (m : Nat) : AnyZ.SortsIn Tryz.prog Tryz.sorted42_ren Fence.wide m :=
  ⟨fun b off cap ss W hH hblk hsz => callsIn_wide.2 (AnyM.slices_Sort_string Tryz.sort66 b off cap ss W hH hblk hsz),
   fun p cap W => callsIn_wide.2 (AnyM.slices_Sort_string_none Tryz.sort66 p cap W)⟩
def anyR : Value → Option (DataW Unit × List MemPlace) := fun _ => some (.lit (.bool true), [])
theorem keyOf_str' (k : List UInt8) (h : k.length ≤ 1048576) : keyOf Tryz.prog 9 (str k) = some (.string k) := by
  have := Go.WideMaps.keyOf_string_mk Tryz.underlying9 (s := ⟨k.toArray⟩) (by
    have : (⟨k.toArray⟩ : ByteArray).size = k.length := by simp [ByteArray.size]
    rw [this]; unfold maxLen; omega)
  simpa [str] using this
theorem owns_of {fa : Nat → Nat} {S : List Nat} {m : HMap} {es : Array MapEntry} {clock : Nat} {w : World} {mb : Nat} (ok : MOk fa S m es.toList clock) (hb : w.heap[mb]? = some (.map es clock)) (hk : keysOk m = true) :
    ∃ D0 : DataW Unit, w.ownsMap Tryz.prog 9 anyR mb m.length D0 ∧ Maps.size D0 = m.length ∧ (strKeys D0).Perm (m.map Prod.fst) := by
  obtain ⟨⟨m0, me, hpm⟩, hs, -⟩ := ok
  simp only [keysOk, Bool.and_eq_true, decide_eq_true_eq, List.all_eq_true] at hk
  have hlen : es.size = m.length := by
    have h1 := congrArg List.length me.ents
    simp at h1
    rw [h1, hpm.length_eq]
  have hread : ∀ x ∈ es.toList, ∃ k, x.key = str k ∧ k ∈ m.map Prod.fst ∧ WideElems.rd Tryz.prog 9 anyR x = some (.string k, .lit (.bool true)) := fun x hx => by
    have h1 : (x.key, x.val) ∈ es.toList.map (fun e : MapEntry => (e.key, e.val)) := List.mem_map.2 ⟨x, hx, rfl⟩
    rw [me.ents] at h1
    obtain ⟨z, hz, hkv⟩ := List.mem_map.1 h1
    have hz' := hpm.mem_iff.1 hz
    have hkey : x.key = str z.1 := (congrArg Prod.fst hkv).symm
    refine ⟨z.1, hkey, List.mem_map.2 ⟨z, hz', rfl⟩, ?_⟩
    have h2 := keyOf_str' z.1 (hk.2 z hz')
    simp [WideElems.rd, hkey, h2, anyR]
  have hkeys : es.toList.map (WideElems.rg Tryz.prog 9 anyR) = m0.map (fun z => (Lit.string z.1, DataW.lit (.bool true))) := by
    have h1 : ∀ (l : List MapEntry) (m : HMap), (∀ x ∈ l, ∃ k, x.key = str k ∧ WideElems.rd Tryz.prog 9 anyR x = some (.string k, .lit (.bool true))) → l.map (fun e : MapEntry => (e.key, e.val)) = m.map (fun k => (str k.1, hpv fa k.2)) →
        l.map (WideElems.rg Tryz.prog 9 anyR) = m.map (fun z => (Lit.string z.1, DataW.lit (.bool true))) := by
      intro l
      induction l with
      | nil => intro m _ h; have : m = [] := by simpa using h.symm
               subst this; rfl
      | cons x l ih =>
        intro m hx h
        cases m with
        | nil => simp at h
        | cons z m =>
          simp only [List.map_cons, List.cons.injEq, Prod.mk.injEq] at h
          obtain ⟨k, hk1, hk2⟩ := hx x (by simp)
          have hkz : k = z.1 := by
            have := hk1.symm.trans h.1.1
            simp only [str, Value.string.injEq, ByteArray.mk.injEq] at this
            simpa using this
          rw [List.map_cons, List.map_cons, ih m (fun y hy => hx y (by simp [hy])) h.2, WideElems.rg_of hk2, hkz]
    exact h1 _ _ (fun x hx => let ⟨k, h1, _, h2⟩ := hread x hx; ⟨k, h1, h2⟩) me.ents
  refine ⟨.map ((es.toList.map (WideElems.rg Tryz.prog 9 anyR)).foldr DataW.insert []), ⟨es, clock, hb, ⟨by unfold maxLen; omega, ⟨me.lt, me.borns, ?_⟩, fun x hx => let ⟨k, _, _, h⟩ := hread x hx; ⟨_, h⟩⟩, by omega, rfl⟩, ?_, ?_⟩
  · have h1 : es.toList.map MapEntry.key = (m0.map Prod.fst).map str := by
      have := congrArg (List.map Prod.fst) me.ents
      simpa [List.map_map, Function.comp_def] using this
    rw [h1]
    refine List.pairwise_map.2 (List.Pairwise.imp ?_ me.keys)
    intro a b hab h
    simp only [str, Value.string.injEq, ByteArray.mk.injEq] at h
    exact hab (by simpa using h)
  · show ((es.toList.map _).foldr DataW.insert []).length = _
    rw [length_sorted]; simp [hlen]
  · rw [hkeys]
    show (List.map _ _).Perm _
    refine ((Go.WideShapes.sorted_perm _).map _).trans ?_
    rw [List.map_map]
    have : ((fun p : Lit × DataW Unit => strOf p.1) ∘ fun z : List UInt8 × Int => (Lit.string z.1, DataW.lit (.bool true))) = Prod.fst := by funext z; rfl
    rw [this]
    exact hpm.map _
theorem sorted_keys {m : HMap} (h : msorted m) {ss : List (List UInt8)} (hp : ss.Perm (m.map Prod.fst)) : ss.mergeSort (fun x y => decide (x ≤ y)) = m.map Prod.fst := by
  rw [mergeSort_of_perm hp]
  refine List.mergeSort_of_pairwise ?_
  refine List.pairwise_map.2 (h.imp fun {a b} hab => ?_)
  simp only [decide_eq_true_eq]
  exact List.le_of_lt hab
theorem sortedK.ok (X : World) (hp : HL) (L : List HP) (mb kb : Nat) (fa : Nat → Nat) (S : List Nat) (m : HMap) :
    DJ Tryz.prog X (bif keysOk m then some (m.map Prod.fst) else none) 42 [.func (.func 67) #[] #[.pointer (some ⟨kb, 0, none⟩)]] hp (blk kb 80 [.map (some mb)] :: mpi mb fa S m :: L)
    (fun r => Ex (ι := SG3) (fun g => sg g) (fun g h => RdL h 1 (One vs) (sg g) r) hp (fun _ => blk kb 80 [.map (some mb)] :: mpi mb fa S m :: L)) :=
  ⟨fun r hr => ⟨fun w hw => by
    cases hk : keysOk m with
    | false => rw [hk] at hr; cases hr
    | true =>
    rw [hk, cond_true] at hr
    cases hr
    obtain ⟨en, clock, hb, ok, -⟩ := own_mpi (i := 1) hw rfl
    have hkb := hw.get (i := 0) rfl
    have hm : w.cell? ⟨kb, 0, none⟩ = some (.map (some mb)) := cell_blk hkb rfl
    have hBm : kb < w.heap.size := by
      rcases Nat.lt_or_ge kb w.heap.size with h | h
      · exact h
      · rw [Array.getElem?_eq_none h] at hkb; cases hkb
    obtain ⟨D0, hown, hsz, hperm⟩ := owns_of ok hb hk
    have hlim : m.length ≤ 1048576 := by simp only [keysOk, Bool.and_eq_true, decide_eq_true_eq] at hk; exact hk.1
    have hseq : SeqGives Fence.wide 2 Tryz.prog 67 #[.pointer (some ⟨kb, 0, none⟩)] encStr (fun ss => ss.Perm (strKeys D0)) (Maps.size D0) w :=
      AnyZ.keys_gives (ρ := Tryz.keys43_ren) { Tryz.keys43 with } Fence.wide _ trivial rfl (by omega) kb mb m.length D0 w hBm hm hown
    have cS : CallsIn Fence.wide 5 Tryz.prog 42 #[.func (.func 67) #[] #[.pointer (some ⟨kb, 0, none⟩)]] w _ :=
      AnyZ.sorted_in Tryz.sorted42 Fence.wide 5 trivial trivial trivial trivial rfl (by omega) (sorts _) (enters_of Tryz.func66 (by kernel_rfl) rfl) 67 #[.pointer (some ⟨kb, 0, none⟩)] trivial (enters_of Tryz.func67 (by kernel_rfl) rfl) _ _ (by rw [hsz]; unfold maxLen; omega) (by rw [hsz]; omega) _ hseq
    refine (callsIn_wide.1 cS).mono ?_
    rintro e w' ⟨v, ss, rfl, hss, ⟨hl, hrow⟩, hnil, hbel⟩
    have hms := sorted_keys ok.sorted (hss.trans hperm)
    rw [hms] at hl hrow
    have hn : ss.length = (m.map Prod.fst).length := (hss.trans hperm).length_eq
    have henc : (m.map Prod.fst).map encStr = (m.map Prod.fst).flatMap vs := by
      generalize m.map Prod.fst = l
      induction l with
      | nil => rfl
      | cons a l ih => rw [List.map_cons, List.flatMap_cons, ih]; rfl
    rcases hrow with ⟨rfl, h0⟩ | ⟨g, cap, cur, rfl, hge, hgb, hcap, -, hcs, htk⟩
    · have he : m.map Prod.fst = [] := List.eq_nil_of_length_eq_zero (by omega)
      refine ⟨_, hp, _, rfl, ?_, own_below' hw hbel⟩
      rw [he]
      exact ex (s := (none, 0, 0)) (sub.refl _) RdL.nil
    · refine ⟨_, (g, .cells cur 9 (0, 0)) :: hp, _, rfl, ?_, own_above hw hbel hge hgb⟩
      refine ex (ι := SG3) (V := fun g => sg g) (s := (some ⟨g, 0, none⟩, ss.length, cap)) (sub.cons _ _) ?_
      refine RdL.of (fun _ => rfl) ⟨some ⟨g, 0, none⟩, ss.length, cap, rfl, by rw [flatMap_len (k := 1) (fun _ => rfl)]; omega, hcap, .inr ⟨g, 0, cur, 9, (0, 0), rfl, by simp, fun j hj => ?_⟩⟩
      rw [← henc, ← htk]
      rw [← henc, List.length_map] at hj
      rw [List.getElem?_take, if_pos (by omega), Nat.zero_add, Array.getElem?_toList]⟩⟩
end Go.Proofs.YtpajmahpphcbaaaGreatDoor
