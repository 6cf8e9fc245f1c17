/- Words for walking Go functions: files that maps point to, hosts; no program is named here. -/
import Derived.Test.YtpajmahpphcbaaaGreatDoorBase16
namespace Kot
open Go
theorem star_append : ∀ {A B : List HP} {h : HL}, Star (A ++ B) h ↔ ∃ h1 h2, h = h1 ++ h2 ∧ Star A h1 ∧ Star B h2
  | [], B, h => ⟨fun hh => ⟨[], h, rfl, rfl, hh⟩, by rintro ⟨_, _, rfl, rfl, hb⟩; exact hb⟩
  | a :: A, B, h => by
    constructor
    · rintro ⟨h1, h2, rfl, ha, hs⟩
      obtain ⟨k1, k2, rfl, hk1, hk2⟩ := star_append.1 hs
      exact ⟨h1 ++ k1, k2, by simp, ⟨h1, k1, rfl, ha, hk1⟩, hk2⟩
    · rintro ⟨k1, k2, rfl, ⟨h1, h2, rfl, ha, hs⟩, hb⟩
      exact ⟨h1, h2 ++ k2, by simp, ha, star_append.2 ⟨h2, k2, rfl, hs, hb⟩⟩
theorem own_open {X : World} {hp : HL} {L : List HP} {w : World} {A : HP} {ι : Type} {Ls : ι → List HP} {φ : ι → Prop} (hA : ∀ h, A h → ∃ i, φ i ∧ Star (Ls i) h) (hw : Own X hp (A :: L) w) : ∃ i, φ i ∧ Own X hp (Ls i ++ L) w := by
  obtain ⟨hh, ⟨h1, h2, rfl, ha, hs⟩, hsat⟩ := hw.ex
  obtain ⟨i, hi, hst⟩ := hA h1 ha
  exact ⟨i, hi, ⟨h1 ++ h2, star_append.2 ⟨h1, h2, rfl, hst, hs⟩, hsat⟩, hw.os, hw.tape, hw.output⟩
theorem own_shut {X : World} {hp : HL} {L Ls : List HP} {w : World} {A : HP} (hA : ∀ h, Star Ls h → A h) (hw : Own X hp (Ls ++ L) w) : Own X hp (A :: L) w := by
  obtain ⟨hh, hs, hsat⟩ := hw.ex
  obtain ⟨h1, h2, rfl, h3, h4⟩ := star_append.1 hs
  exact ⟨⟨h1 ++ h2, ⟨h1, h2, rfl, hA _ h3, h4⟩, hsat⟩, hw.os, hw.tape, hw.output⟩
section
variable {X : World} {J : HL → List HP → Prop} {hp : HL} {L : List HP} {A B : HP}
theorem CvF {φ : Prop} (c : Cv X J) (i : Nat) (hi : L[i]? = some A) (h : ∀ h, A h → φ) (k : φ → J hp L) : J hp L :=
  c.cx (ι := Unit) (Φ := fun _ => φ) (hp' := fun _ => hp) (L' := fun _ => L) (fun w hw => ⟨(), (by
    obtain ⟨hh, hs, _⟩ := hw.ex
    obtain ⟨h1, h2, h3, _, ha, _⟩ := star_split hs hi
    exact h _ ha), hw⟩) (fun _ hk => k hk)
end
/-! ### files -/
structure HFile where
  p : List Int
  safe : Int
structure HChg where
  name : List UInt8
  f : Int
  frm : List UInt8
structure HS where
  files : List HFile
  l : HMap
  safe : HMap
  wait : List HChg
  limit : Int
  arm : Int
  fault : Int
  reads : Int
structure HT where
  h : TypeId
  c : TypeId
  f : TypeId
  b : TypeId
def fileP (T : HT) (a : Nat) (f : HFile) : HP := fun h => ∃ g : SG3, Star [blk a T.f [sg g, .int .i64 f.safe], sl (sg g) T.b 1 (f.p.flatMap (vi .u8))] h
def fget (fs : List HFile) (i : Nat) : HFile := (fs[i]?).getD ⟨[], 0⟩
def uni (T : HT) (fa : Nat → Nat) (S : List Nat) (fs : List HFile) : HP := fun h => Star (S.map fun i => fileP T (fa i) (fget fs i)) h ∧ S.Nodup ∧ ∀ i ∈ S, i < fs.length
def uniH (T : HT) (fa : Nat → Nat) (S : List Nat) (fs : List HFile) (n : Nat) : HP := fun h => Star ((S.erase n).map fun i => fileP T (fa i) (fget fs i)) h ∧ S.Nodup ∧ (∀ i ∈ S, i < fs.length) ∧ n ∈ S
def chC (fa : Nat → Nat) (c : HChg) : List Value := [str c.name, hpv fa c.f, str c.frm]
def wtP (T : HT) (g : SG3) (fa : Nat → Nat) (S : List Nat) (ws : List HChg) : HP := fun h => sl (sg g) T.c 3 (ws.flatMap (chC fa)) h ∧ ∀ c ∈ ws, InS S c.f
def hstC (x : HS) (ml ms : Nat) (g : SG3) : List Value := [.map (some ml), .map (some ms), sg g, .int .i64 x.limit, .int .i64 x.arm, .int .i64 x.fault, .int .i64 x.reads]
def hst (T : HT) (b : Nat) (x : HS) : HP := fun h => ∃ (q : Nat × Nat × SG3 × (Nat → Nat) × List Nat),
  Star [blk b T.h (hstC x q.1 q.2.1 q.2.2.1), mpi q.1 q.2.2.2.1 q.2.2.2.2 x.l, mpi q.2.1 q.2.2.2.1 q.2.2.2.2 x.safe, wtP T q.2.2.1 q.2.2.2.1 q.2.2.2.2 x.wait, uni T q.2.2.2.1 q.2.2.2.2 x.files] h
section
variable {X : World} {J : HL → List HP → Prop} {hp : HL} {L : List HP} {T : HT} {b : Nat} {x : HS} {fa : Nat → Nat} {S : List Nat} {fs : List HFile}
theorem HstOpen (c : Cv X J) (i : Nat) (hi : L[i]? = some (hst T b x)) (k : ∀ (ml ms : Nat) (g : SG3) (fa : Nat → Nat) (S : List Nat), (∀ z ∈ x.wait, InS S z.f) →
    J hp (blk b T.h [.map (some ml), .map (some ms), sg g, .int .i64 x.limit, .int .i64 x.arm, .int .i64 x.fault, .int .i64 x.reads] :: mpi ml fa S x.l :: mpi ms fa S x.safe :: sl (sg g) T.c 3 (x.wait.flatMap (chC fa)) :: uni T fa S x.files :: L.eraseIdx i)) : J hp L :=
  c.cx (ι := Nat × Nat × SG3 × (Nat → Nat) × List Nat) (Φ := fun q => ∀ z ∈ x.wait, InS q.2.2.2.2 z.f) (hp' := fun _ => hp)
    (L' := fun q => blk b T.h (hstC x q.1 q.2.1 q.2.2.1) :: mpi q.1 q.2.2.2.1 q.2.2.2.2 x.l :: mpi q.2.1 q.2.2.2.1 q.2.2.2.2 x.safe :: sl (sg q.2.2.1) T.c 3 (x.wait.flatMap (chC q.2.2.2.1)) :: uni T q.2.2.2.1 q.2.2.2.2 x.files :: L.eraseIdx i)
    (fun w hw => by
      obtain ⟨q, -, h1⟩ := own_open (φ := fun _ => True) (fun h ⟨q, hq⟩ => ⟨q, trivial, hq⟩) (own_front hw hi)
      refine ⟨q, ?_, own_set (i := 3) (B := sl (sg q.2.2.1) T.c 3 (x.wait.flatMap (chC q.2.2.2.1))) h1 rfl (fun h hh => hh.1)⟩
      obtain ⟨hh, hs, _⟩ := h1.ex
      obtain ⟨k1, k2, k3, _, ha, _⟩ := star_split (i := 3) hs rfl
      exact ha.2) (fun q hq => k q.1 q.2.1 q.2.2.1 q.2.2.2.1 q.2.2.2.2 hq)
theorem HstShut {ml ms : Nat} {g : SG3} (c : Cv X J) (x : HS) (hW : ∀ z ∈ x.wait, InS S z.f)
    (k : J hp (hst T b x :: L)) : J hp (blk b T.h [.map (some ml), .map (some ms), sg g, .int .i64 x.limit, .int .i64 x.arm, .int .i64 x.fault, .int .i64 x.reads] :: mpi ml fa S x.l :: mpi ms fa S x.safe :: sl (sg g) T.c 3 (x.wait.flatMap (chC fa)) :: uni T fa S x.files :: L) :=
  c.cv (fun w hw => own_shut (Ls := [blk b T.h (hstC x ml ms g), mpi ml fa S x.l, mpi ms fa S x.safe, wtP T g fa S x.wait, uni T fa S x.files]) (fun h hs => ⟨(ml, ms, g, fa, S), hs⟩)
    (own_set (i := 3) (A := sl (sg g) T.c 3 (x.wait.flatMap (chC fa))) (B := wtP T g fa S x.wait) hw rfl (fun h hh => ⟨hh, hW⟩))) k
theorem star_perm {A B : List HP} (hp : A.Perm B) : ∀ {h : HL}, Star A h → ∃ h', Star B h' ∧ h'.Perm h := by
  induction hp with
  | nil => intro h hs; exact ⟨h, hs, List.Perm.refl _⟩
  | cons x _ ih =>
    rintro h ⟨h1, h2, rfl, ha, hs⟩
    obtain ⟨k, hk, hp⟩ := ih hs
    exact ⟨h1 ++ k, ⟨h1, k, rfl, ha, hk⟩, hp.append_left _⟩
  | swap x y l =>
    rintro h ⟨h1, h2, rfl, ha, h3, h4, rfl, hb, hs⟩
    refine ⟨h3 ++ (h1 ++ h4), ⟨h3, _, rfl, hb, h1, h4, rfl, ha, hs⟩, ?_⟩
    rw [← List.append_assoc, ← List.append_assoc]
    exact List.Perm.append_right _ List.perm_append_comm
  | trans _ _ ih1 ih2 =>
    intro h hs
    obtain ⟨k, hk, hp⟩ := ih1 hs
    obtain ⟨k2, hk2, hp2⟩ := ih2 hk
    exact ⟨k2, hk2, hp2.trans hp⟩
theorem own_perm {A B : List HP} {w : World} (hp' : A.Perm B) (hw : Own X hp A w) : Own X hp B w := by
  obtain ⟨hh, hs, hn, hm⟩ := hw.ex
  obtain ⟨k, hk, hpk⟩ := star_perm hp' hs
  have hpp : (hp ++ k).Perm (hp ++ hh) := List.Perm.append_left _ hpk
  exact ⟨⟨k, hk, ((hpp.map _).nodup_iff).2 hn, fun x hx => hm x (hpp.mem_iff.1 hx)⟩, hw.os, hw.tape, hw.output⟩
theorem perm3 {β : Type} (A B D : List β) : (A ++ (B ++ D)).Perm (B ++ (A ++ D)) := by
  rw [← List.append_assoc, ← List.append_assoc]
  exact List.Perm.append_right _ List.perm_append_comm
theorem fget_of {n : Int} {f : HFile} (h : lget fs n = some f) : fget fs n.toNat = f := by
  obtain ⟨_, _, h3⟩ := lget_spec h
  simp [fget, h3]
theorem Fo {n : Int} {f : HFile} (c : Cv X J) (i : Nat) (hi : L[i]? = some (uni T fa S fs)) (h0 : decide (n < 0) = false) (hS : InS S n) (hz : lget fs n = some f)
    (k : ∀ g : SG3, J hp (blk (fa n.toNat) T.f [sg g, .int .i64 f.safe] :: sl (sg g) T.b 1 (f.p.flatMap (vi .u8)) :: uniH T fa S fs n.toNat :: L.eraseIdx i)) : J hp L := by
  have hn : n.toNat ∈ S := by
    rcases hS with h | h
    · have := of_decide_eq_false h0; omega
    · exact h
  refine c.cx (ι := SG3) (Φ := fun _ => True) (hp' := fun _ => hp) (L' := fun g => blk (fa n.toNat) T.f [sg g, .int .i64 f.safe] :: sl (sg g) T.b 1 (f.p.flatMap (vi .u8)) :: uniH T fa S fs n.toNat :: L.eraseIdx i) (fun w hw => ?_) (fun g _ => k g)
  have hw1 := own_front hw hi
  obtain ⟨-, ⟨hnd, hlt⟩, hw2⟩ := own_open (ι := Unit) (Ls := fun _ => S.map fun i => fileP T (fa i) (fget fs i)) (φ := fun _ => S.Nodup ∧ ∀ i ∈ S, i < fs.length) (fun h hh => ⟨(), ⟨hh.2.1, hh.2.2⟩, hh.1⟩) hw1
  have hp1 : (S.map fun i => fileP T (fa i) (fget fs i)).Perm (fileP T (fa n.toNat) f :: (S.erase n.toNat).map fun i => fileP T (fa i) (fget fs i)) := by
    have := (List.perm_cons_erase hn).map (fun i => fileP T (fa i) (fget fs i))
    rwa [List.map_cons, fget_of hz] at this
  have hw3 := own_perm (hp1.append_right (L.eraseIdx i)) hw2
  obtain ⟨g, -, hw4⟩ := own_open (ι := SG3) (Ls := fun g => [blk (fa n.toNat) T.f [sg g, .int .i64 f.safe], sl (sg g) T.b 1 (f.p.flatMap (vi .u8))]) (φ := fun _ => True) (fun h ⟨g, hg⟩ => ⟨g, trivial, hg⟩) hw3
  refine ⟨g, trivial, ?_⟩
  -- the rest as one part
  have hw5 : Own X hp ((S.erase n.toNat).map (fun i => fileP T (fa i) (fget fs i)) ++ ([blk (fa n.toNat) T.f [sg g, .int .i64 f.safe], sl (sg g) T.b 1 (f.p.flatMap (vi .u8))] ++ L.eraseIdx i)) w := by
    exact own_perm (perm3 _ _ _) hw4
  have hw6 := own_shut (A := uniH T fa S fs n.toNat) (fun h hs => ⟨hs, hnd, hlt, hn⟩) hw5
  refine own_perm ?_ hw6
  simp only [List.cons_append, List.nil_append]
  exact (List.Perm.swap _ _ _).trans ((List.Perm.swap _ _ _).cons _)
theorem Uf {n : Nat} {g : SG3} (c : Cv X J) (f' : HFile)
    (k : J hp (uni T fa S (fs.set n f') :: L)) : J hp (blk (fa n) T.f [sg g, .int .i64 f'.safe] :: sl (sg g) T.b 1 (f'.p.flatMap (vi .u8)) :: uniH T fa S fs n :: L) := by
  refine c.cv (fun w hw => ?_) k
  have hw1 : Own X hp (uniH T fa S fs n :: ([blk (fa n) T.f [sg g, .int .i64 f'.safe], sl (sg g) T.b 1 (f'.p.flatMap (vi .u8))] ++ L)) w :=
    own_perm (((List.Perm.swap _ _ _).cons _).trans (List.Perm.swap _ _ _)) hw
  obtain ⟨-, ⟨hnd, hlt, hn⟩, hw2⟩ := own_open (ι := Unit) (Ls := fun _ => (S.erase n).map fun i => fileP T (fa i) (fget fs i)) (φ := fun _ => S.Nodup ∧ (∀ i ∈ S, i < fs.length) ∧ n ∈ S) (fun h hh => ⟨(), ⟨hh.2.1, hh.2.2.1, hh.2.2.2⟩, hh.1⟩) hw1
  have hw3 := own_shut (A := fileP T (fa n) f') (fun h hs => ⟨g, hs⟩) (own_perm (perm3 _ _ _) hw2)
  have hmap : (S.erase n).map (fun i => fileP T (fa i) (fget fs i)) = (S.erase n).map (fun i => fileP T (fa i) (fget (fs.set n f') i)) := List.map_congr_left fun i hi => by
    have hne : n ≠ i := fun h => by
      subst h
      exact absurd hi (hnd.not_mem_erase)
    simp [fget, List.getElem?_set_ne hne]
  have hf : fget (fs.set n f') n = f' := by
    have := hlt n hn
    simp [fget, this]
  rw [hmap] at hw3
  have hp1 : (fileP T (fa n) f' :: (S.erase n).map fun i => fileP T (fa i) (fget (fs.set n f') i)).Perm (S.map fun i => fileP T (fa i) (fget (fs.set n f') i)) := by
    have := ((List.perm_cons_erase hn).map (fun i => fileP T (fa i) (fget (fs.set n f') i))).symm
    rwa [List.map_cons, hf] at this
  exact own_shut (A := uni T fa S (fs.set n f')) (fun h hs => ⟨hs, hnd, fun i hi => by rw [List.length_set]; exact hlt i hi⟩) (own_perm (hp1.append_right L) hw3)
theorem Uf0 {n : Int} {g : SG3} {f : HFile} (c : Cv X J) (hz : lget fs n = some f)
    (k : J hp (uni T fa S fs :: L)) : J hp (blk (fa n.toNat) T.f [sg g, .int .i64 f.safe] :: sl (sg g) T.b 1 (f.p.flatMap (vi .u8)) :: uniH T fa S fs n.toNat :: L) := by
  refine Uf c f ?_
  have : fs.set n.toNat f = fs := by
    obtain ⟨_, _, h3⟩ := lget_spec hz
    apply List.ext_getElem?
    intro i
    by_cases hi : n.toNat = i
    · subst hi; rw [List.getElem?_set_self', h3]; rfl
    · rw [List.getElem?_set_ne hi]
  rw [this]; exact k
def updf (fa : Nat → Nat) (n a : Nat) : Nat → Nat := fun i => bif Nat.beq i n then a else fa i
theorem updf_new {n a : Nat} : updf fa n a n = a := by simp [updf, Nat.beq_refl]
theorem updf_old {n a i : Nat} (h : i ≠ n) : updf fa n a i = fa i := by
  have : Nat.beq i n = false := by
    cases hb : Nat.beq i n with
    | false => rfl
    | true => exact absurd (Nat.eq_of_beq_eq_true hb) h
  simp [updf, this]
theorem mpi_mono {fa' : Nat → Nat} {S' : List Nat} {mb : Nat} {m : HMap} (h : ∀ i ∈ S, fa i = fa' i) (hs : ∀ i ∈ S, i ∈ S') : ∀ g, mpi mb fa S m g → mpi mb fa' S' m g := by
  rintro g ⟨es, clock, rfl, ok⟩; exact ⟨es, clock, rfl, ok.mono h hs⟩
theorem wtP_mono {fa' : Nat → Nat} {S' : List Nat} {g : SG3} {ws : List HChg} (h : ∀ i ∈ S, fa i = fa' i) (hs : ∀ i ∈ S, i ∈ S') : ∀ k, wtP T g fa S ws k → wtP T g fa' S' ws k := by
  rintro k ⟨h1, h2⟩
  refine ⟨?_, fun c hc => (h2 c hc).imp id (hs _)⟩
  have : ws.flatMap (chC fa) = ws.flatMap (chC fa') := by
    rw [List.flatMap_def, List.flatMap_def]
    congr 1
    refine List.map_congr_left fun c hc => ?_
    unfold chC
    rw [hpv_congr (fa' := fa') fun h0 => ?_]
    rcases h2 c hc with hh | hh
    · omega
    · exact h _ hh
  rw [← this]; exact h1
theorem UniAdd {a ml ms : Nat} {g gw : SG3} {m m2 : HMap} {ws : List HChg} (c : Cv X J) (f : HFile) (hW : ∀ z ∈ ws, InS S z.f)
    (k : (∀ z ∈ ws, InS (fs.length :: S) z.f) → J hp (mpi ml (updf fa fs.length a) (fs.length :: S) m :: mpi ms (updf fa fs.length a) (fs.length :: S) m2 :: sl (sg gw) T.c 3 (ws.flatMap (chC (updf fa fs.length a))) :: uni T (updf fa fs.length a) (fs.length :: S) (fs ++ [f]) :: L)) :
    J hp (blk a T.f [sg g, .int .i64 f.safe] :: sl (sg g) T.b 1 (f.p.flatMap (vi .u8)) :: mpi ml fa S m :: mpi ms fa S m2 :: sl (sg gw) T.c 3 (ws.flatMap (chC fa)) :: uni T fa S fs :: L) := by
  refine c.cv (fun w hw => ?_) (k fun z hz => (hW z hz).imp id (fun h => by simp [h]))
  have hw0 : Own X hp ([blk a T.f [sg g, .int .i64 f.safe], sl (sg g) T.b 1 (f.p.flatMap (vi .u8))] ++ ([mpi ml fa S m, mpi ms fa S m2, wtP T gw fa S ws] ++ (uni T fa S fs :: L))) w :=
    own_set (i := 4) (A := sl (sg gw) T.c 3 (ws.flatMap (chC fa))) (B := wtP T gw fa S ws) hw rfl (fun h hh => ⟨hh, hW⟩)
  have hw1 := own_shut (A := fileP T a f) (fun h hs => ⟨g, hs⟩) hw0
  have hw2 : Own X hp (uni T fa S fs :: (fileP T a f :: ([mpi ml fa S m, mpi ms fa S m2, wtP T gw fa S ws] ++ L))) w := by
    refine own_perm ?_ hw1
    have h1 := perm3 (fileP T a f :: [mpi ml fa S m, mpi ms fa S m2, wtP T gw fa S ws]) [uni T fa S fs] L
    simpa using h1
  obtain ⟨-, ⟨hnd, hlt⟩, hw3⟩ := own_open (ι := Unit) (Ls := fun _ => S.map fun i => fileP T (fa i) (fget fs i)) (φ := fun _ => S.Nodup ∧ ∀ i ∈ S, i < fs.length) (fun h hh => ⟨(), ⟨hh.2.1, hh.2.2⟩, hh.1⟩) hw2
  have hold : ∀ i ∈ S, fa i = updf fa fs.length a i := fun i hi => (updf_old (by have := hlt i hi; omega)).symm
  have hsub : ∀ i ∈ S, i ∈ fs.length :: S := fun i hi => by simp [hi]
  have hmap : S.map (fun i => fileP T (fa i) (fget fs i)) = S.map (fun i => fileP T (updf fa fs.length a i) (fget (fs ++ [f]) i)) := List.map_congr_left fun i hi => by
    rw [← hold i hi]
    have := hlt i hi
    simp [fget, List.getElem?_append_left this]
  rw [hmap] at hw3
  have hnew : fileP T (updf fa fs.length a fs.length) (fget (fs ++ [f]) fs.length) = fileP T a f := by rw [updf_new]; simp [fget]
  have hw4 : Own X hp (((fs.length :: S).map fun i => fileP T (updf fa fs.length a i) (fget (fs ++ [f]) i)) ++ ([mpi ml fa S m, mpi ms fa S m2, wtP T gw fa S ws] ++ L)) w := by
    refine own_perm ?_ hw3
    rw [List.map_cons, hnew]
    exact List.perm_middle
  have hw5 := own_shut (A := uni T (updf fa fs.length a) (fs.length :: S) (fs ++ [f])) (fun h hs => ⟨hs, List.nodup_cons.2 ⟨fun hm => by have := hlt _ hm; omega, hnd⟩, fun i hi => by
    rcases List.mem_cons.1 hi with rfl | hi
    · simp
    · have := hlt i hi; simp; omega⟩) hw4
  have hw6 := own_set (i := 1) (A := mpi ml fa S m) (B := mpi ml (updf fa fs.length a) (fs.length :: S) m) hw5 rfl (mpi_mono hold hsub)
  have hw7 := own_set (i := 2) (A := mpi ms fa S m2) (B := mpi ms (updf fa fs.length a) (fs.length :: S) m2) hw6 rfl (mpi_mono hold hsub)
  have hw8 := own_set (i := 3) (A := wtP T gw fa S ws) (B := wtP T gw (updf fa fs.length a) (fs.length :: S) ws) hw7 rfl (wtP_mono hold hsub)
  refine own_set (i := 2) (A := wtP T gw (updf fa fs.length a) (fs.length :: S) ws) (B := sl (sg gw) T.c 3 (ws.flatMap (chC (updf fa fs.length a)))) (own_perm (B := mpi ml (updf fa fs.length a) (fs.length :: S) m :: mpi ms (updf fa fs.length a) (fs.length :: S) m2 :: wtP T gw (updf fa fs.length a) (fs.length :: S) ws :: uni T (updf fa fs.length a) (fs.length :: S) (fs ++ [f]) :: L) ?_ hw8) rfl (fun h hh => hh.1)
  have h1 := perm3 [uni T (updf fa fs.length a) (fs.length :: S) (fs ++ [f])] [mpi ml (updf fa fs.length a) (fs.length :: S) m, mpi ms (updf fa fs.length a) (fs.length :: S) m2, wtP T gw (updf fa fs.length a) (fs.length :: S) ws] L
  simpa using h1
theorem HstNew {ml ms : Nat} {n a f r : Int} (c : Cv X J) (k : J hp (hst T b ⟨[], [], [], [], n, a, f, r⟩ :: L)) :
    J hp (blk b T.h [.map (some ml), .map (some ms), .slice none 0 0, .int .i64 n, .int .i64 a, .int .i64 f, .int .i64 r] :: mpi ms fa S [] :: mpi ml fa S [] :: L) := by
  refine c.cv (fun w hw => ?_) k
  have hm : ∀ g, ∀ mb, mpi mb fa S [] g → mpi mb fa [] [] g := fun g mb ⟨es, clock, h1, ok⟩ => ⟨es, clock, h1, ⟨ok.en, ok.sorted, fun e he => nomatch he⟩⟩
  have hw1 := own_set (i := 1) (A := mpi ms fa S []) (B := mpi ms fa [] []) hw rfl (fun g => hm g ms)
  have hw2 := own_set (i := 2) (A := mpi ml fa S []) (B := mpi ml fa [] []) hw1 rfl (fun g => hm g ml)
  have hw3 := sl_nil hw2 T.c 3
  have hw4 := own_set (i := 0) (A := sl (.slice none 0 0) T.c 3 []) (B := wtP T (none, 0, 0) fa [] []) hw3 rfl (fun g hg => ⟨hg, fun c hc => nomatch hc⟩)
  have hw5 := own_shut (Ls := []) (A := uni T fa [] []) (fun h hs => ⟨hs, List.nodup_nil, fun i hi => nomatch hi⟩) hw4
  refine own_shut (Ls := [blk b T.h (hstC ⟨[], [], [], [], n, a, f, r⟩ ml ms (none, 0, 0)), mpi ml fa [] [], mpi ms fa [] [], wtP T (none, 0, 0) fa [] [], uni T fa [] []]) (A := hst T b ⟨[], [], [], [], n, a, f, r⟩) (fun h hs => ⟨(ml, ms, (none, 0, 0), fa, []), hs⟩) (own_perm ?_ hw5)
  refine (perm3 [uni T fa [] [], wtP T (none, 0, 0) fa [] []] [blk b T.h (hstC ⟨[], [], [], [], n, a, f, r⟩ ml ms (none, 0, 0)), mpi ms fa [] [], mpi ml fa [] []] L).trans ?_
  simp only [List.cons_append, List.nil_append]
  refine List.Perm.cons _ ((List.Perm.swap _ _ _).trans (List.Perm.cons _ (List.Perm.cons _ (List.Perm.swap _ _ _))))
theorem hpv_new {n a : Nat} : hpv (updf fa n a) (n : Int) = .pointer (some ⟨a, 0, none⟩) := by
  rw [hpv_pos (by omega), Int.toNat_natCast, updf_new]
theorem inNew {n : Nat} : InS (n :: S) (n : Int) := .inr (by simp)
theorem inNil {S : List Nat} : InS S (-1) := .inl (by omega)
theorem hpv_one {x : Int} : (hpv fa x).oneCell' = true := by unfold hpv; split <;> rfl
theorem chC_one : ∀ x, ∀ v ∈ chC fa x, v.oneCell' = true := fun x v hv => by
  simp only [chC, List.mem_cons, List.not_mem_nil, or_false] at hv
  rcases hv with rfl | rfl | rfl
  · rfl
  · exact hpv_one
  · rfl
theorem allApp {ws vs : List HChg} (h : ∀ z ∈ ws, InS S z.f) (k : ∀ z ∈ vs, InS S z.f) : ∀ z ∈ ws ++ vs, InS S z.f := fun z hz => by
  rcases List.mem_append.1 hz with hz | hz
  · exact h z hz
  · exact k z hz
theorem allOne {c : HChg} (h : InS S c.f) : ∀ z ∈ [c], InS S z.f := fun z hz => by rw [List.mem_singleton.1 hz]; exact h
theorem allNil : ∀ z ∈ ([] : List HChg), InS S z.f := fun z hz => nomatch hz
theorem allGet {ws : List HChg} {i : Int} {c : HChg} (h : ∀ z ∈ ws, InS S z.f) (hz : lget ws i = some c) : InS S c.f := h c (List.mem_of_getElem? (lget_spec hz).2.2)
end
end Kot
