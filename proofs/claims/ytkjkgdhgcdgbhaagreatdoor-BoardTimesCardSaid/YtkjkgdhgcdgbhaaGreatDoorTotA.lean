/- Each part of the board comes to an end, within its types. -/
import Derived.Test.YtkjkgdhgcdgbhaaGreatDoorG
import Derived.Test.YtkjkgdhgcdgbhaaGreatDoorTotBase
namespace Go.Proofs.YtkjkgdhgcdgbhaaGreatDoor
open Kot Go
set_option maxRecDepth 100000
def ZF (z : Af) : Bool := z.FF == 274 || z.FF == 276 || z.FF == 285
def okc (z : Af) : Bool := (z.GV == 117 || z.GV == 166 || z.GV == 168 || z.GV == 199 || z.GV == 200 || z.GV == 201 || z.GV == 277 || z.GV == 279 || z.GV == 286 || z.GV == 292 || z.GV == 346 || z.GV == 347 || z.GV == 350) && (z.FF == 118 || z.FF == 165 || z.FF == 167 || z.FF == 169 || z.FF == 170 || z.FF == 260 || z.FF == 273 || z.FF == 274 || z.FF == 275 || z.FF == 276 || z.FF == 278 || z.FF == 281 || z.FF == 282 || z.FF == 283 || z.FF == 284 || z.FF == 285 || z.FF == 287 || z.FF == 289 || z.FF == 290 || z.FF == 291 || z.FF == 293 || z.FF == 294 || z.FF == 341 || z.FF == 342 || z.FF == 343 || z.FF == 344 || z.FF == 345 || z.FF == 348 || z.FF == 349 || z.FF == 351 || z.FF == 370)
def XE : List Af → Bool
  | [] => true
  | z :: t => okc z && ((!ZF z || !t.isEmpty) && XE t)
def Zz (z : Af) : Prop := okc z = true
def Y5 (l : List Af) : Prop := XE l = true
structure WU (l : List Af) : Prop where
  ok : XE l = true
  le : l.length ≤ 8
structure Yk (l : List Af) : Prop where
  b : WU l
  n : 0 < (l.length : Int)
structure Bp (s : Az) : Prop where
  ES : In .u8 s.ES
  DD : In .u8 s.DD
  Fs : In .u8 s.Fs
  CV : In .u8 s.CV
  F5 : In .u8 s.F5
structure Up (s : E5) : Prop where
  D8 : Bp s.D8
  Fv : In .u16 s.Fv
structure TZ (s : OX) : Prop where
  Mi : In .u8 s.Mi
  He : In .u8 s.He
structure AZ (s : Ag) : Prop where
  Dl : Up s.Dl
  B4 : Up s.B4
  F4 : Y5 s.F4
  ER : TZ s.ER
  BD : In .u16 s.BD
  BJ : In .u16 s.BJ
  AN : In .u16 s.AN
  Ce : In .u8 s.Ce
  Gz : In .u8 s.Gz
structure GN (s : Au) : Prop where
  Ce : In .u8 s.Ce
  NN : In .u8 s.NN
  Nq : In .u8 s.Nq
  WY : In .u8 s.WY
structure Db (s : Bq) : Prop where
  Hw : In .u16 s.Hw
  Ir : In .u16 s.Ir
  DD : In .u8 s.DD
def KM (s : Ac) : Prop := s.AP.length ≤ 8
structure Ar (s : Ac) : Prop where
  BK : WI .u8 s.BK
  BU : WI .u8 s.BU
  Bu : WI .u8 s.Bu
  Cm : WI .u8 s.Cm
  Dg : In .u8 s.Dg
  AY : Db s.AY
  Aq : In .u8 s.Aq
  Cg : In .u8 s.Cg
  BZ : In .u8 s.BZ
  AV : In .u8 s.AV
  CU : In .u8 s.CU
  Av : Bt 0 261 s.Av
  Cc : Bt 0 340 s.Cc
  AP : Yg GN s.AP
  BF : WI .u8 s.BF
  x1 : KM s
structure Ah (s : Aa) : Prop where
  CZ : In .u8 s.CZ
  AM : WI .u8 s.AM
  CP : In .u8 s.CP
  Cb : In .u16 s.Cb
  A9 : In .u16 s.A9
  Ev : In .u8 s.Ev
  BM : In .u8 s.BM
  BN : In .u8 s.BN
  Dk : In .u8 s.Dk
  Av : In .u8 s.Av
  Bw : In .u16 s.Bw
structure UH (s : Ez) : Prop where
  AM : WI .u8 s.AM
  BM : In .u8 s.BM
  GB : In .u8 s.GB
  Bw : In .u8 s.Bw
  FX : In .u8 s.FX
  A9 : In .u16 s.A9
  BD : In .u16 s.BD
structure Bj (s : Al) : Prop where
  Ae : UH s.Ae
  C4 : Bt 0 1 s.C4
def UW (s : Am) : Prop := (s.C5 = -1 ∨ (0 ≤ s.C5 ∧ s.C5 < (s.Bg.length : Int))) ∧ ((s.Bg.length : Int) = 0 ∨ (0 ≤ s.BD ∧ s.BD < (s.Bg.length : Int))) ∧ (s.Bg.length : Int) ≤ 1073741824
structure Bl (s : Am) : Prop where
  Bg : Qg .u8 s.Bg
  Jy : In .u8 s.Jy
  x1 : UW s
structure Tz (s : GZ) : Prop where
  AM : In .u8 s.AM
  IB : In .u8 s.IB
structure T4 (s : JM) : Prop where
  BD : Bt 0 63 s.BD
structure Bi (s : An) : Prop where
  CE : WI .u8 s.CE
  CF : BtA 0 7 s.CF
  AM : WI .u8 s.AM
  DU : Tz s.DU
  DV : Tz s.DV
  Da : T4 s.Da
  FW : T4 s.FW
structure Uz (s : GM) : Prop where
  L9 : In .u16 s.L9
  BN : In .u16 s.BN
structure AF (s : Ai) : Prop where
  A9 : Uz s.A9
  FL : In .u8 s.FL
  Aq : In .u8 s.Aq
  Ma : In .u8 s.Ma
  Il : In .u8 s.Il
  FV : In .u8 s.FV
  IL : In .u16 s.IL
structure Cf (s : AL) : Prop where
  Ba : In .u8 s.Ba
  Bw : In .u8 s.Bw
structure C9 (s : A7) : Prop where
  GI : WI .u8 s.GI
  EI : WI .u8 s.EI
  EP : WI .u8 s.EP
  CU : In .u8 s.CU
  Fp : In .u16 s.Fp
  Ba : In .u8 s.Ba
structure FM (s : Ey) : Prop where
  Gx : In .u16 s.Gx
  Qc : In .u8 s.Qc
structure De (s : Ag) : Prop where
  w : AZ s
  n : 0 < (s.F4.length : Int)
section
variable {α : Type} {P : α → Prop}
theorem Vb {z : Af} {t : List Af} (h : Y5 (z :: t)) : Zz z ∧ (ZF z = true → 0 < (t.length : Int)) ∧ Y5 t := by
  unfold Y5 at h
  rw [XE, Bool.and_eq_true, Bool.and_eq_true] at h
  refine ⟨h.1, fun h1 => ?_, h.2.2⟩
  have h3 := h.2.1
  rw [h1] at h3
  cases t with
  | nil => cases h3
  | cons x y => simp only [List.length_cons]; omega
theorem XZ {a b : List Af} (h : XE a = true) (h2 : XE b = true) : XE (a ++ b) = true := by
  induction a with
  | nil => exact h2
  | cons z t ih =>
    rw [XE, Bool.and_eq_true, Bool.and_eq_true] at h
    rw [List.cons_append, XE, Bool.and_eq_true, Bool.and_eq_true]
    refine ⟨h.1, ?_, ih h.2.2⟩
    have h3 := h.2.1
    cases t with
    | nil => rw [Bool.or_eq_true] at h3 ⊢; rcases h3 with h3 | h3; exact Or.inl h3; cases h3
    | cons x y => rw [Bool.or_eq_true]; exact Or.inr rfl
theorem YK {a b : List Af} (h : WU a) (h2 : Yk b) : Y5 (a ++ b) := XZ h.ok h2.b.ok
theorem UK {l : List Af} (h : XE l = true) : Y5 l := h
theorem Rz {l : List Af} (h : XE l = true) (h2 : Nat.ble l.length 8 = true) : WU l := ⟨h, Nat.le_of_ble_eq_true h2⟩
theorem KZ {l : List Af} (h : XE l = true) (h2 : Nat.ble l.length 8 = true) (h3 : Nat.ble 1 l.length = true) : Yk l := ⟨⟨h, Nat.le_of_ble_eq_true h2⟩, by have := Nat.le_of_ble_eq_true h3; omega⟩
theorem Ak.head {l : List Af} {K : Af → List Af → Option α} (h : Y5 l) (hn : 0 < (l.length : Int)) (hk : ∀ z t, Zz z → (ZF z = true → 0 < (t.length : Int)) → Y5 t → Ak P (K z t)) : Ak P ((Kot.IF l 0).bind fun z => (Kot.Sk l 1 (l.length : Int)).bind fun t => K z t) := by
  cases l with
  | nil => simp only [List.length_nil] at hn; omega
  | cons z t =>
    have h2 := Vb h
    have e1 : Kot.IF (z :: t) 0 = some z := rfl
    have e2 : Kot.Sk (z :: t) 1 ((z :: t).length : Int) = some t := by
      unfold Kot.Sk
      rw [if_pos ⟨by omega, by simp only [List.length_cons]; omega, by omega⟩]
      simp
    rw [e1, Option.bind_some, e2, Option.bind_some]
    exact hk z t h2.1 h2.2.1 h2.2.2
theorem Ak.Aaa {l : List Af} {K : Af → Option α} (h : Y5 l) (hn : 0 < (l.length : Int)) (hk : ∀ z, Zz z → Ak P (K z)) : Ak P ((Kot.IF l 0).bind K) := by
  cases l with
  | nil => simp only [List.length_nil] at hn; omega
  | cons z t => exact hk z (Vb h).1
theorem WT {o : Option α} {z : Af} (h : Zz z) (h0 : (z.GV == 117) = false) (h1 : (z.GV == 166) = false) (h2 : (z.GV == 168) = false) (h3 : (z.GV == 199) = false) (h4 : (z.GV == 200) = false) (h5 : (z.GV == 201) = false) (h6 : (z.GV == 277) = false) (h7 : (z.GV == 279) = false) (h8 : (z.GV == 286) = false) (h9 : (z.GV == 292) = false) (h10 : (z.GV == 346) = false) (h11 : (z.GV == 347) = false) (h12 : (z.GV == 350) = false) : Ak P o := by
  simp [Zz, okc, h0, h1, h2, h3, h4, h5, h6, h7, h8, h9, h10, h11, h12] at h
theorem XP {o : Option α} {z : Af} (h : Zz z) (h0 : (z.FF == 118) = false) (h1 : (z.FF == 165) = false) (h2 : (z.FF == 167) = false) (h3 : (z.FF == 169) = false) (h4 : (z.FF == 170) = false) (h5 : (z.FF == 260) = false) (h6 : (z.FF == 273) = false) (h7 : (z.FF == 274) = false) (h8 : (z.FF == 275) = false) (h9 : (z.FF == 276) = false) (h10 : (z.FF == 278) = false) (h11 : (z.FF == 281) = false) (h12 : (z.FF == 282) = false) (h13 : (z.FF == 283) = false) (h14 : (z.FF == 284) = false) (h15 : (z.FF == 285) = false) (h16 : (z.FF == 287) = false) (h17 : (z.FF == 289) = false) (h18 : (z.FF == 290) = false) (h19 : (z.FF == 291) = false) (h20 : (z.FF == 293) = false) (h21 : (z.FF == 294) = false) (h22 : (z.FF == 341) = false) (h23 : (z.FF == 342) = false) (h24 : (z.FF == 343) = false) (h25 : (z.FF == 344) = false) (h26 : (z.FF == 345) = false) (h27 : (z.FF == 348) = false) (h28 : (z.FF == 349) = false) (h29 : (z.FF == 351) = false) (h30 : (z.FF == 370) = false) : Ak P o := by
  simp [Zz, okc, h0, h1, h2, h3, h4, h5, h6, h7, h8, h9, h10, h11, h12, h13, h14, h15, h16, h17, h18, h19, h20, h21, h22, h23, h24, h25, h26, h27, h28, h29, h30] at h
end
theorem RX {a0 : Int} (h_a0 : In .u8 a0) : Ak (fun r => In .u8 r) (NJ.f a0) := by
 unfold NJ.f
 exact Ak.mk (CW _)
theorem K3 {a0 : Ag} {a1 : List Af} (h_a0 : AZ a0) (h_a1 : Yk a1) : Ak (fun r => De r) (EL.f a0 a1) := by
 unfold EL.f
 exact Ak.mk ⟨⟨h_a0.Dl, h_a0.Dl, h_a1.1.1, h_a0.ER, h_a0.BD, h_a0.BJ, h_a0.AN, h_a0.Ce, h_a0.Gz⟩, h_a1.2⟩
theorem Rl {a0 : Ag} (h_a0 : AZ a0) : Ak (fun r => De r) (Kl.f a0) := by
 unfold Kl.f
 exact Ak.bind (RX h_a0.B4.D8.F5) (fun r212 h1 =>
 Ak.bind (K3 ⟨⟨⟨h_a0.B4.D8.ES, h_a0.B4.D8.DD, h_a0.B4.D8.Fs, h_a0.B4.D8.CV, h1⟩, h_a0.B4.Fv⟩, h_a0.B4, h_a0.F4, h_a0.ER, h_a0.BD, h_a0.BJ, (B7 rfl rfl), h_a0.Ce, h_a0.Gz⟩ (KZ rfl rfl rfl)) (fun r222 h2 =>
 Ak.mk h2))
theorem Vf  : Ak (fun r => De r) (Se.f) := by
 unfold Se.f
 exact Ak.bind (Rl ⟨⟨⟨(B7 rfl rfl), (B7 rfl rfl), (B7 rfl rfl), (B7 rfl rfl), (B7 rfl rfl)⟩, (B7 rfl rfl)⟩, ⟨⟨(B7 rfl rfl), (B7 rfl rfl), (B7 rfl rfl), (B7 rfl rfl), (B7 rfl rfl)⟩, (B7 rfl rfl)⟩, (UK rfl), ⟨(B7 rfl rfl), (B7 rfl rfl)⟩, (B7 rfl rfl), (B7 rfl rfl), (B7 rfl rfl), (B7 rfl rfl), (B7 rfl rfl)⟩) (fun r228 h1 =>
 Ak.mk h1)
theorem Uj  : Ak (fun r => Ar r) (NI.f) := by
 unfold NI.f
 exact Ak.mk ⟨⟨fun _ => (B7 rfl rfl)⟩, ⟨fun _ => (B7 rfl rfl)⟩, ⟨fun _ => (B7 rfl rfl)⟩, ⟨fun _ => (B7 rfl rfl)⟩, (B7 rfl rfl), ⟨(B7 rfl rfl), (B7 rfl rfl), (B7 rfl rfl)⟩, (B7 rfl rfl), (B7 rfl rfl), (B7 rfl rfl), (B7 rfl rfl), (B7 rfl rfl), (EZ (x := 0) (by omega)), (EZ (x := 0) (by omega)), SQ, ⟨fun _ => (B7 rfl rfl)⟩, (show (([] : List Au)).length ≤ 8 from by simp only [List.length_cons, List.length_nil, List.length_append]; omega)⟩
theorem UD : Ak (fun r => Bl r) (Q8.f) := by
 unfold Q8.f
 exact Ak.mk ⟨VS, (B7 rfl rfl), ⟨Or.inl rfl, Or.inl rfl, by decide⟩⟩
theorem Vg  : Ak (fun r => Bi r) (RY.f) := by
 unfold RY.f
 exact Ak.mk ⟨⟨fun _ => (B7 rfl rfl)⟩, ⟨fun _ => (EZ (x := 0) (by omega))⟩, ⟨fun _ => (B7 rfl rfl)⟩, ⟨(B7 rfl rfl), (B7 rfl rfl)⟩, ⟨(B7 rfl rfl), (B7 rfl rfl)⟩, ⟨(EZ (x := 0) (by omega))⟩, ⟨(EZ (x := 0) (by omega))⟩⟩
theorem Ug  : Ak (fun r => AF r.1 ∧ Bl r.2.1 ∧ Bi r.2.2) (Pd.f) := by
 unfold Pd.f
 exact Ak.bind (UD) (fun r388 h1 =>
 Ak.bind (Vg) (fun r398 h2 =>
 Ak.mk ⟨⟨⟨(B7 rfl rfl), (B7 rfl rfl)⟩, (B7 rfl rfl), (B7 rfl rfl), (B7 rfl rfl), (B7 rfl rfl), (B7 rfl rfl), (B7 rfl rfl)⟩, h1, h2⟩))
theorem Tx  : Ak (fun r => Cf r) (Rx.f) := by
 unfold Rx.f
 exact Ak.mk ⟨(B7 rfl rfl), (B7 rfl rfl)⟩
theorem P5 {a0 : Al} {a0c1 : Aa} {a0c2 : Aa} {a0c3 : Aa} {a0c4 : Aa} (h_a0 : Bj a0) (h_a0c1 : Ah a0c1) (h_a0c2 : Ah a0c2) (h_a0c3 : Ah a0c3) (h_a0c4 : Ah a0c4) : Ak (fun _ => True) (FN.f a0 a0c1 a0c2 a0c3 a0c4) := by
 unfold FN.f
 exact Ak.bif (fun h1 =>
  Ak.mk trivial) (fun h1 =>
  Ak.mk trivial)
theorem Ni {a0 : Ac} (h_a0 : Ar a0) : Ak (fun _ => True) (FQ.f a0) := by
 unfold FQ.f
 exact Ak.bif (fun h1 =>
  Ak.mk trivial) (fun h1 =>
  Ak.mk trivial)
theorem Pf {a0 : Ai} {a0c1 : Am} {a0c2 : An} (h_a0 : AF a0) (h_a0c1 : Bl a0c1) (h_a0c2 : Bi a0c2) : Ak (fun _ => True) (G6.f a0 a0c1 a0c2) := by
 unfold G6.f
 exact Ak.bif (fun h1 =>
  Ak.mk trivial) (fun h1 =>
  Ak.bif (fun h2 =>
   Ak.mk trivial) (fun h2 =>
   Ak.mk trivial))
theorem J2 {a0 : Al} {a0c1 : Aa} {a0c2 : Aa} {a0c3 : Aa} {a0c4 : Aa} (h_a0 : Bj a0) (h_a0c1 : Ah a0c1) (h_a0c2 : Ah a0c2) (h_a0c3 : Ah a0c3) (h_a0c4 : Ah a0c4) : Ak (fun _ => True) (Dm.f a0 a0c1 a0c2 a0c3 a0c4) := by
 unfold Dm.f
 exact Ak.bif (fun h1 =>
  Ak.mk trivial) (fun h1 =>
  Ak.mk trivial)
theorem Ps {a0 : Al} {a0c1 : Aa} {a0c2 : Aa} {a0c3 : Aa} {a0c4 : Aa} (h_a0 : Bj a0) (h_a0c1 : Ah a0c1) (h_a0c2 : Ah a0c2) (h_a0c3 : Ah a0c3) (h_a0c4 : Ah a0c4) : Ak (fun r => In .u16 r.1) (G5.f a0 a0c1 a0c2 a0c3 a0c4) := by
 unfold G5.f
 exact Ak.bind (J2 h_a0 h_a0c1 h_a0c2 h_a0c3 h_a0c4) (fun r645 _ =>
 Ak.bif (fun h2 =>
  Ak.mk (B7 rfl rfl)) (fun h2 =>
  Ak.mk h_a0.Ae.BD))
theorem L4 {a0 : A7} {a0c1 : Ag} {a0c2 : Ac} {a0c3 : Al} {a0c3c1 : Aa} {a0c3c2 : Aa} {a0c3c3 : Aa} {a0c3c4 : Aa} {a0c4 : Ai} {a0c4c1 : Am} {a0c4c2 : An} {a0c5 : AL} {a0c6 : AL} {a1 : Int} (h_a0 : C9 a0) (h_a0c1 : De a0c1) (h_a0c2 : Ar a0c2) (h_a0c3 : Bj a0c3) (h_a0c3c1 : Ah a0c3c1) (h_a0c3c2 : Ah a0c3c2) (h_a0c3c3 : Ah a0c3c3) (h_a0c3c4 : Ah a0c3c4) (h_a0c4 : AF a0c4) (h_a0c4c1 : Bl a0c4c1) (h_a0c4c2 : Bi a0c4c2) (h_a0c5 : Cf a0c5) (h_a0c6 : Cf a0c6) (h_a1 : In .u16 a1) : Ak (fun r => In .u8 r) (DC.f a0 a0c1 a0c2 a0c3 a0c3c1 a0c3c2 a0c3c3 a0c3c4 a0c4 a0c4c1 a0c4c2 a0c5 a0c6 a1) := by
 unfold DC.f
 exact Ak.bif (fun h1 =>
  Ak.arr (by have e0 := DT h_a1; have e1 := EU (a1 - 57344); have e2 := of_decide_eq_true h1; omega) (by have e0 := DT h_a1; have e1 := EU (a1 - 57344); have e2 := of_decide_eq_true h1; omega) (Ak.bnd (fun x696 e_x696 =>
   have w_x696 : In .u8 x696 := O6 e_x696 (h_a0.EP.e _);
   Ak.mk w_x696))) (fun h1 =>
  Ak.bif (fun h2 =>
   Ak.arr (by have e0 := DT h_a1; have e1 := Lh a1 2048 (by decide); have e2 := of_decide_eq_false h1; have e3 := of_decide_eq_true h2; omega) (by have e0 := DT h_a1; have e1 := Lh a1 2048 (by decide); have e2 := of_decide_eq_false h1; have e3 := of_decide_eq_true h2; omega) (Ak.mk (h_a0.GI.e _))) (fun h2 =>
   Ak.bif (fun h3 =>
    Ak.bif (fun h4 =>
     Ak.arr (by have e0 := DT h_a1; have e1 := EU (a1 - 24576); have e2 := of_decide_eq_false h1; have e3 := of_decide_eq_false h2; have e4 := of_decide_eq_true h3; have e5 := of_decide_eq_true h4; omega) (by have e0 := DT h_a1; have e1 := EU (a1 - 24576); have e2 := of_decide_eq_false h1; have e3 := of_decide_eq_false h2; have e4 := of_decide_eq_true h3; have e5 := of_decide_eq_true h4; omega) (Ak.bnd (fun x700 e_x700 =>
      have w_x700 : In .u8 x700 := O6 e_x700 (h_a0.EI.e _);
      Ak.mk w_x700))) (fun h4 =>
     Ak.mk (B7 rfl rfl))) (fun h3 =>
    Ak.mk (B7 rfl rfl))))
theorem E7 {a0 : Bq} (h_a0 : Db a0) : Ak (fun r => Db r) (CB.f a0) := by
 unfold CB.f
 exact Ak.mk ⟨(CY _), (CY _), (CW _)⟩
theorem Sd {a0 : Bq} (h_a0 : Db a0) : Ak (fun r => Db r) (JP.f a0) := by
 unfold JP.f
 exact Ak.bind (E7 h_a0) (fun r714 h1 =>
 Ak.mk ⟨h1.Hw, h1.Ir, h1.DD⟩)
theorem Nn {a0 : Int} {a1 : Bool} (h_a0 : In .u16 a0) : Ak (fun r => Bt 0 2047 r) (Ju.f a0 a1) := by
 unfold Ju.f
 exact Ak.bif (fun h1 =>
  Ak.bnd (fun x732 e_x732 =>
   have w_x732 : In .u16 x732 := O6 e_x732 (CY _);
   Ak.mk (EZ (x := x732) (by have e0 := DT w_x732; have e1 := DT (CY _ : In .u16 (Mv .u16 (Bv .u16 a0 1023) (Bv .u16 (shr .u16 a0 1) 1024))); have e2 := DT (CY _ : In .u16 (Bv .u16 a0 1023)); have e3 := E6 a0 1023 (by decide); have e4 := DT (CY _ : In .u16 (Bv .u16 (shr .u16 a0 1) 1024)); have e5 := E6 (shr .u16 a0 1) 1024 (by decide); have e6 := WV (Bv .u16 a0 1023) (Bv .u16 (shr .u16 a0 1) 1024) 11; have e7 := e_x732; omega)))) (fun h1 =>
  Ak.mk (EZ (x := Bv .u16 a0 2047) (by have e0 := DT (CY _ : In .u16 (Bv .u16 a0 2047)); have e1 := E6 a0 2047 (by decide); omega)))
theorem OG {a0 : Int} (h_a0 : In .u16 a0) : Ak (fun r => Bt 0 31 r) (KW.f a0) := by
 unfold KW.f
 exact Ak.bif (fun h1 =>
  Ak.bnd (fun x746 e_x746 =>
   have w_x746 : In .u8 x746 := O6 e_x746 (CW _);
   Ak.mk (EZ (x := x746) (by have e0 := Cq w_x746; have e1 := Cq (CW _ : In .u8 (Bv .u8 (IntKind.wrap .u8 (Bv .u16 a0 31)) 19)); have e2 := BP (IntKind.wrap .u8 (Bv .u16 a0 31)) 19 (by decide); have e3 := eq_of_beq h1; have e4 := Cq (CW _ : In .u8 (J3 .u8 (IntKind.wrap .u8 (Bv .u16 a0 31)) 16)); have e5 := DT (CY _ : In .u16 (Bv .u16 a0 31)); have e6 := E6 a0 31 (by decide); have e7 := RU (Bv .u16 a0 31); have e8 := UB (IntKind.wrap .u8 (Bv .u16 a0 31)) 16 (by decide); have e9 := Ud (IntKind.wrap .u8 (Bv .u16 a0 31)) 16; have e10 := e_x746; omega)))) (fun h1 =>
  Ak.mk (EZ (x := IntKind.wrap .u8 (Bv .u16 a0 31)) (by have e0 := DT (CY _ : In .u16 (Bv .u16 a0 31)); have e1 := E6 a0 31 (by decide); have e2 := RU (Bv .u16 a0 31); have e3 := Cq (CW _ : In .u8 (Bv .u8 (IntKind.wrap .u8 (Bv .u16 a0 31)) 19)); have e4 := BP (IntKind.wrap .u8 (Bv .u16 a0 31)) 19 (by decide); have e5 := ne_of_beq_false h1; omega)))
theorem IM {a0 : Ac} {a1 : Int} (h_a0 : Ar a0) (h_a1 : In .u16 a1) : Ak (fun r => In .u8 r) (DX.f a0 a1) := by
 unfold DX.f
 exact Ak.bif (fun h1 =>
  Ak.arr (by have e0 := DT (CY _ : In .u16 (Bv .u16 a1 16383)); have e1 := E6 a1 16383 (by decide); have e2 := of_decide_eq_true h1; omega) (by have e0 := DT (CY _ : In .u16 (Bv .u16 a1 16383)); have e1 := E6 a1 16383 (by decide); have e2 := of_decide_eq_true h1; omega) (Ak.mk (h_a0.BK.e _))) (fun h1 =>
  Ak.bif (fun h2 =>
   Ak.bind (Nn (CY _)) (fun r733 h3 =>
   Ak.arr (by have e0 := Cu h3; have e1 := DT (CY _ : In .u16 (Bv .u16 a1 16383)); have e2 := E6 a1 16383 (by decide); have e3 := of_decide_eq_false h1; have e4 := of_decide_eq_true h2; omega) (by have e0 := Cu h3; have e1 := DT (CY _ : In .u16 (Bv .u16 a1 16383)); have e2 := E6 a1 16383 (by decide); have e3 := of_decide_eq_false h1; have e4 := of_decide_eq_true h2; omega) (Ak.mk (h_a0.BU.e _)))) (fun h2 =>
   Ak.bind (OG (CY _)) (fun r747 h4 =>
   Ak.arr (by have e0 := Cu h4; have e1 := DT (CY _ : In .u16 (Bv .u16 a1 16383)); have e2 := E6 a1 16383 (by decide); have e3 := of_decide_eq_false h1; have e4 := of_decide_eq_false h2; omega) (by have e0 := Cu h4; have e1 := DT (CY _ : In .u16 (Bv .u16 a1 16383)); have e2 := E6 a1 16383 (by decide); have e3 := of_decide_eq_false h1; have e4 := of_decide_eq_false h2; omega) (Ak.mk (h_a0.Bu.e _)))))
theorem PY {a0 : Ac} {a1 : Int} (h_a0 : Ar a0) (h_a1 : In .u16 a1) : Ak (fun r => In .u8 r.1 ∧ Ar r.2) (F9.f a0 a1) := by
 unfold F9.f
 exact Ak.bind (IM h_a0 h_a1) (fun r760 h1 =>
 Ak.bif (fun h2 =>
  Ak.bind (Nn h_a1) (fun r764 h3 =>
  Ak.arr (by have e0 := Cu h3; have e1 := DT (CY _ : In .u16 (Bv .u16 a1 16383)); have e2 := E6 a1 16383 (by decide); have e3 := of_decide_eq_true h2; omega) (by have e0 := Cu h3; have e1 := DT (CY _ : In .u16 (Bv .u16 a1 16383)); have e2 := E6 a1 16383 (by decide); have e3 := of_decide_eq_true h2; omega) (Ak.mk ⟨(CW _), ⟨h_a0.BK, h_a0.BU, h_a0.Bu, h_a0.Cm, h_a0.Dg, h_a0.AY, h_a0.Aq, h_a0.Cg, h_a0.BZ, (h_a0.BU.e _), h_a0.CU, h_a0.Av, h_a0.Cc, h_a0.AP, h_a0.BF, h_a0.x1⟩⟩))) (fun h2 =>
  Ak.mk ⟨h_a0.AV, ⟨h_a0.BK, h_a0.BU, h_a0.Bu, h_a0.Cm, h_a0.Dg, h_a0.AY, h_a0.Aq, h_a0.Cg, h_a0.BZ, h1, h_a0.CU, h_a0.Av, h_a0.Cc, h_a0.AP, h_a0.BF, h_a0.x1⟩⟩))
theorem Pe {a0 : Bq} {a1 : Bool} (h_a0 : Db a0) : Ak (fun r => Db r) (GQ.f a0 a1) := by
 unfold GQ.f
 exact Ak.bif (fun h1 =>
  Ak.bind (E7 ⟨(CY _), h_a0.Ir, h_a0.DD⟩) (fun r783 h2 =>
  Ak.mk h2)) (fun h1 =>
  Ak.bind (E7 ⟨(CY _), h_a0.Ir, h_a0.DD⟩) (fun r787 h3 =>
  Ak.mk h3))
theorem Qm {a0 : Ac} {a1 : Int} (h_a0 : Ar a0) (h_a1 : In .u8 a1) : Ak (fun r => In .u8 r.1 ∧ Ar r.2) (FT.f a0 a1) := by
 unfold FT.f
 exact Ak.bif (fun h1 =>
  Ak.bind (Sd h_a0.AY) (fun r718 h2 =>
  Ak.bnd (fun x722 e_x722 =>
   have w_x722 : In .u8 x722 := O6 e_x722 (CW _);
   Ak.mk ⟨w_x722, ⟨h_a0.BK, h_a0.BU, h_a0.Bu, h_a0.Cm, h_a0.Dg, h2, h_a0.Aq, h_a0.Cg, (CW _), h_a0.AV, (CW _), h_a0.Av, h_a0.Cc, h_a0.AP, h_a0.BF, h_a0.x1⟩⟩))) (fun h1 =>
  Ak.bif (fun h3 =>
   Ak.arr (by have e0 := Cq h_a0.Dg; have e1 := Cq h_a1; have e2 := Lh a1 8 (by decide); have e3 := ne_of_beq_false h1; have e4 := eq_of_beq h3; omega) (by have e0 := Cq h_a0.Dg; have e1 := Cq h_a1; have e2 := Lh a1 8 (by decide); have e3 := ne_of_beq_false h1; have e4 := eq_of_beq h3; omega) (Ak.bif (fun h4 =>
    Ak.mk ⟨(CW _), ⟨h_a0.BK, h_a0.BU, h_a0.Bu, h_a0.Cm, h_a0.Dg, h_a0.AY, h_a0.Aq, h_a0.Cg, h_a0.BZ, h_a0.AV, (CW _), h_a0.Av, h_a0.Cc, h_a0.AP, h_a0.BF, h_a0.x1⟩⟩) (fun h4 =>
    Ak.mk ⟨(h_a0.Cm.e _), ⟨h_a0.BK, h_a0.BU, h_a0.Bu, h_a0.Cm, h_a0.Dg, h_a0.AY, h_a0.Aq, h_a0.Cg, h_a0.BZ, h_a0.AV, (h_a0.Cm.e _), h_a0.Av, h_a0.Cc, h_a0.AP, h_a0.BF, h_a0.x1⟩⟩))) (fun h3 =>
   Ak.bif (fun h5 =>
    Ak.bind (PY h_a0 h_a0.AY.Hw) (fun r773 h6 =>
    Ak.bind (Pe h6.2.AY) (fun r791 h7 =>
    Ak.mk ⟨h6.1, ⟨h6.2.BK, h6.2.BU, h6.2.Bu, h6.2.Cm, h6.2.Dg, h7, h6.2.Aq, h6.2.Cg, h6.2.BZ, h6.2.AV, h6.1, h6.2.Av, h6.2.Cc, h6.2.AP, h6.2.BF, h6.2.x1⟩⟩))) (fun h5 =>
    Ak.mk ⟨h_a0.CU, h_a0⟩)))
theorem M9 {a0 : Aa} (h_a0 : Ah a0) : Ak (fun _ => True) (Hl.f a0) := by
 unfold Hl.f
 exact Ak.mk trivial
theorem Pv {a0 : Al} {r815 : Bool} {r819 : Bool} {r823 : Bool} {r827 : Bool} (h_a0 : Bj a0) : ∀ (n933 : Nat) (s915 : Int × Int) (h_s915_1 : In .u8 s915.1) (hi_0 : 0 ≤ s915.2 ∧ s915.2 ≤ 8) (hm : 8 - s915.2 < (n933 : Int)), Ak (fun r => In .u8 r.1 ∧ Bj r.2) (CG.l1 a0 r815 r819 r823 r827 n933 s915) := by
 intro n933
 induction n933 with
 | zero => intro s915 h_s915_1 hi_0 hm; exfalso; revert hm; intro hm; have e0 := hi_0; omega
 | succ n933 ih =>
  intro s915 h_s915_1 hi_0 hm
  unfold CG.l1
  exact Ak.bif (fun h1 =>
   Ak.bind (Ak.UR (n := 8) (by have e0 := of_decide_eq_true h1; have e1 := hi_0; omega) (by have e0 := of_decide_eq_true h1; have e1 := hi_0; omega) rfl) (fun z935 h2 =>
   Ak.bif (fun h3 =>
    Ak.neg (by have e0 := of_decide_eq_true h1; have e1 := hi_0; omega) (ih _ (CW _) (show 0 ≤ (IntKind.wrap .i64 (s915.2 + 1)) ∧ (IntKind.wrap .i64 (s915.2 + 1)) ≤ 8 from by have e0 := CS (s915.2 + 1); have e1 := of_decide_eq_true h1; have e2 := hi_0; have e3 := hm; omega) (show 8 - (IntKind.wrap .i64 (s915.2 + 1)) < _ from by have e0 := CS (s915.2 + 1); have e1 := of_decide_eq_true h1; have e2 := hi_0; have e3 := hm; omega))) (fun h3 =>
    ih _ h_s915_1 (show 0 ≤ (IntKind.wrap .i64 (s915.2 + 1)) ∧ (IntKind.wrap .i64 (s915.2 + 1)) ≤ 8 from by have e0 := CS (s915.2 + 1); have e1 := of_decide_eq_true h1; have e2 := hi_0; have e3 := hm; omega) (show 8 - (IntKind.wrap .i64 (s915.2 + 1)) < _ from by have e0 := CS (s915.2 + 1); have e1 := of_decide_eq_true h1; have e2 := hi_0; have e3 := hm; omega)))) (fun h1 =>
   Ak.mk ⟨h_s915_1, ⟨h_a0.Ae, h_a0.C4⟩⟩)
theorem PD {a0 : Al} {a0c1 : Aa} {a0c2 : Aa} {a0c3 : Aa} {a0c4 : Aa} (h_a0 : Bj a0) (h_a0c1 : Ah a0c1) (h_a0c2 : Ah a0c2) (h_a0c3 : Ah a0c3) (h_a0c4 : Ah a0c4) : Ak (fun r => In .u8 r.1 ∧ Bj r.2) (CG.f a0 a0c1 a0c2 a0c3 a0c4) := by
 unfold CG.f
 exact Ak.bind (M9 h_a0c1) (fun r815 _ =>
 Ak.bind (M9 h_a0c2) (fun r819 _ =>
 Ak.bind (M9 h_a0c3) (fun r823 _ =>
 Ak.bind (M9 h_a0c4) (fun r827 _ =>
 Pv h_a0 _ _ (B7 rfl rfl) (show 0 ≤ 0 ∧ 0 ≤ 8 from by omega) (show 8 - 0 < _ from by omega)))))
theorem Rw {a0 : AL} (h_a0 : Cf a0) : Ak (fun r => In .u8 r.1 ∧ Cf r.2) (Kq.f a0) := by
 unfold Kq.f
 exact Ak.bif (fun h1 =>
  Ak.mk ⟨(CW _), ⟨h_a0.Ba, (CW _)⟩⟩) (fun h1 =>
  Ak.mk ⟨(CW _), h_a0⟩)
theorem Qp {a0 : An} {a1 : Int} {s1033 : Bool} (h_a0 : Bi a0) (h_a1 : In .u16 a1) (hb_2 : s1033 = true → 16448 ≤ a1 ∧ a1 < 16512) : Ak (fun r => In .u8 r.1) (II.j1 a0 a1 s1033) := by
 unfold II.j1
 exact Ak.bif (fun h1 =>
  Ak.arr (by have e0 := DT h_a1; have e1 := EU (a1 - 16448); have e2 := hb_2 h1; omega) (by have e0 := DT h_a1; have e1 := EU (a1 - 16448); have e2 := hb_2 h1; omega) (Ak.bnd (fun x1041 e_x1041 =>
   have w_x1041 : In .u8 x1041 := O6 e_x1041 (CW _);
   Ak.mk w_x1041))) (fun h1 =>
  Ak.bif (fun h2 =>
   Ak.mk (CW _)) (fun h2 =>
   Ak.bif (fun h3 =>
    Ak.mk (CW _)) (fun h3 =>
    Ak.mk (B7 rfl rfl))))
theorem To {a0 : An} {a1 : Int} (h_a0 : Bi a0) (h_a1 : In .u16 a1) : Ak (fun r => In .u8 r.1) (II.f a0 a1) := by
 unfold II.f
 exact Ak.bif (fun h1 =>
  Qp h_a0 h_a1 (fun hh => by have e0 := DT h_a1; have e1 := of_decide_eq_true h1; have e2 := of_decide_eq_true hh; omega)) (fun h1 =>
  Qp h_a0 h_a1 (fun h => Bool.noConfusion h))
theorem Om {a0 : Am} (h_a0 : Bl a0) : Ak (fun _ => True) (Es.f a0) := by
 unfold Es.f
 exact Ak.mk trivial
theorem Qz {a0 : Am} (h_a0 : Bl a0) : Ak (fun _ => True) (Jl.f a0) := by
 unfold Jl.f
 exact Ak.bif (fun h1 =>
  Ak.bind (Om h_a0) (fun r1062 _ =>
  Ak.bif (fun h3 =>
   Ak.mk trivial) (fun h3 =>
   Ak.mk trivial))) (fun h1 =>
  Ak.mk trivial)
theorem Tn {a0 : List Bool}  (hp_0 : (a0.length : Int) ≤ 8) : ∀ (n1132 : Nat) (s1117 : Int × Int) (h_s1117_1 : In .u8 s1117.1) (hi_0 : 0 ≤ s1117.2 ∧ s1117.2 ≤ (a0.length : Int)) (hm : (a0.length : Int) - s1117.2 < (n1132 : Int)), Ak (fun r => In .u8 r) (Gy.l1 a0 n1132 s1117) := by
 intro n1132
 induction n1132 with
 | zero => intro s1117 h_s1117_1 hi_0 hm; exfalso; revert hm; intro hm; have e0 := hp_0; have e1 := hi_0; omega
 | succ n1132 ih =>
  intro s1117 h_s1117_1 hi_0 hm
  unfold Gy.l1
  exact Ak.bif (fun h1 =>
   Ak.bind (Ak.SX (by have e0 := of_decide_eq_true h1; have e1 := hp_0; have e2 := hi_0; omega) (by have e0 := of_decide_eq_true h1; have e1 := hp_0; have e2 := hi_0; omega)) (fun z1134 h2 =>
   Ak.bif (fun h3 =>
    Ak.neg (by have e0 := of_decide_eq_true h1; have e1 := hp_0; have e2 := hi_0; omega) (ih _ (CW _) (show 0 ≤ (IntKind.wrap .i64 (s1117.2 + 1)) ∧ (IntKind.wrap .i64 (s1117.2 + 1)) ≤ (a0.length : Int) from by have e0 := CS (s1117.2 + 1); have e1 := of_decide_eq_true h1; have e2 := hp_0; have e3 := hi_0; have e4 := hm; omega) (show (a0.length : Int) - (IntKind.wrap .i64 (s1117.2 + 1)) < _ from by have e0 := CS (s1117.2 + 1); have e1 := of_decide_eq_true h1; have e2 := hp_0; have e3 := hi_0; have e4 := hm; omega))) (fun h3 =>
    ih _ h_s1117_1 (show 0 ≤ (IntKind.wrap .i64 (s1117.2 + 1)) ∧ (IntKind.wrap .i64 (s1117.2 + 1)) ≤ (a0.length : Int) from by have e0 := CS (s1117.2 + 1); have e1 := of_decide_eq_true h1; have e2 := hp_0; have e3 := hi_0; have e4 := hm; omega) (show (a0.length : Int) - (IntKind.wrap .i64 (s1117.2 + 1)) < _ from by have e0 := CS (s1117.2 + 1); have e1 := of_decide_eq_true h1; have e2 := hp_0; have e3 := hi_0; have e4 := hm; omega)))) (fun h1 =>
   Ak.mk h_s1117_1)
theorem OT {a0 : List Bool}  (hp_0 : (a0.length : Int) ≤ 8) : Ak (fun r => In .u8 r) (Gy.f a0) := by
 unfold Gy.f
 exact Tn (show (a0.length : Int) ≤ 8 from by have e0 := hp_0; omega) _ _ (B7 rfl rfl) (show 0 ≤ 0 ∧ 0 ≤ (a0.length : Int) from by have e0 := hp_0; omega) (show (a0.length : Int) - 0 < _ from by have e0 := hp_0; omega)
theorem OL {a0 : Ai} {a0c1 : Am} {a1 : Int} {s1024 : Unit} (h_a0 : AF a0) (h_a0c1 : Bl a0c1) (h_a1 : In .u16 a1) : Ak (fun r => In .u8 r.1 ∧ AF r.2.2) (Ct.j1 a0 a0c1 a1 s1024) := by
 unfold Ct.j1
 exact Ak.bind (Om h_a0c1) (fun r1087 _ =>
 Ak.bind (Qz h_a0c1) (fun r1091 _ =>
 Ak.bif (fun h3 =>
  Ak.bif (fun h4 =>
   Ak.bind (OT (show (([a0.A9.KH, a0.Hq, false, false, a0.IL != 0, false, !r1091, r1087]).length : Int) ≤ 8 from by simp only [List.length_cons, List.length_nil]; have e0 := DT h_a1; have e1 := eq_of_beq h3; have e2 := Cq (CW _ : In .u8 (Bv .u8 a0.Aq 16)); have e3 := BP a0.Aq 16 (by decide); have e4 := F3 h4; omega)) (fun r1139 h5 =>
   Ak.mk ⟨h5, ⟨⟨h_a0.A9.L9, h_a0.A9.BN⟩, h_a0.FL, h_a0.Aq, h_a0.Ma, h_a0.Il, h_a0.FV, h_a0.IL⟩⟩)) (fun h4 =>
   Ak.bind (OT (show (([a0.A9.KH, a0.Hq, false, false, false, false, !r1091, r1087]).length : Int) ≤ 8 from by simp only [List.length_cons, List.length_nil]; have e0 := DT h_a1; have e1 := eq_of_beq h3; have e2 := Cq (CW _ : In .u8 (Bv .u8 a0.Aq 16)); have e3 := BP a0.Aq 16 (by decide); have e4 := Ei h4; omega)) (fun r1168 h6 =>
   Ak.mk ⟨h6, ⟨⟨h_a0.A9.L9, h_a0.A9.BN⟩, h_a0.FL, h_a0.Aq, h_a0.Ma, h_a0.Il, h_a0.FV, h_a0.IL⟩⟩))) (fun h3 =>
  Ak.bif (fun h7 =>
   Ak.mk ⟨h_a0.Ma, ⟨h_a0.A9, h_a0.FL, h_a0.Aq, h_a0.Ma, h_a0.Il, h_a0.FV, h_a0.IL⟩⟩) (fun h7 =>
   Ak.bif (fun h8 =>
    Ak.bind (OT (show (([!r1087, !r1091, !r1087, false, false, false, true]).length : Int) ≤ 8 from by simp only [List.length_cons, List.length_nil]; have e0 := DT h_a1; have e1 := ne_of_beq_false h3; have e2 := ne_of_beq_false h7; have e3 := eq_of_beq h8; omega)) (fun r1197 h9 =>
    Ak.mk ⟨h9, h_a0⟩)) (fun h8 =>
    Ak.bif (fun h10 =>
     Ak.mk ⟨(CW _), h_a0⟩) (fun h10 =>
     Ak.mk ⟨(B7 rfl rfl), h_a0⟩))))))
theorem LP {a0 : Ai} {a0c1 : Am} {a0c2 : An} {a1 : Int} {s1025 : Bool} (h_a0 : AF a0) (h_a0c1 : Bl a0c1) (h_a0c2 : Bi a0c2) (h_a1 : In .u16 a1) : Ak (fun r => In .u8 r.1 ∧ AF r.2.2) (Ct.j2 a0 a0c1 a0c2 a1 s1025) := by
 unfold Ct.j2
 exact Ak.bif (fun h1 =>
  Ak.bif (fun h2 =>
   Ak.mk ⟨(B7 rfl rfl), h_a0⟩) (fun h2 =>
   Ak.bind (To h_a0c2 h_a1) (fun r1042 h3 =>
   Ak.mk ⟨h3, h_a0⟩))) (fun h1 =>
  Ak.bif (fun h4 =>
   Ak.mk ⟨(B7 rfl rfl), h_a0⟩) (fun h4 =>
   OL h_a0 h_a0c1 h_a1))
theorem Po {a0 : Ai} {a0c1 : Am} {a0c2 : An} {a1 : Int} (h_a0 : AF a0) (h_a0c1 : Bl a0c1) (h_a0c2 : Bi a0c2) (h_a1 : In .u16 a1) : Ak (fun r => In .u8 r.1 ∧ AF r.2.2) (Ct.f a0 a0c1 a0c2 a1) := by
 unfold Ct.f
 exact Ak.bif (fun h1 =>
  LP h_a0 h_a0c1 h_a0c2 h_a1) (fun h1 =>
  LP h_a0 h_a0c1 h_a0c2 h_a1)
theorem Iq {a0 : A7} {a0c2 : Ac} {a0c3 : Al} {a0c4 : Ai} {a0c4c1 : Am} {a0c4c2 : An} {a0c5 : AL} {a0c6 : AL} {a1 : Int} {s974 : Bool} (h_a0 : C9 a0) (h_a0c2 : Ar a0c2) (h_a0c3 : Bj a0c3) (h_a0c4 : AF a0c4) (h_a0c4c1 : Bl a0c4c1) (h_a0c4c2 : Bi a0c4c2) (h_a0c5 : Cf a0c5) (h_a0c6 : Cf a0c6) (h_a1 : In .u16 a1) (hb_9 : s974 = true → a1 = 16406 ∨ a1 = 16407) : Ak (fun r => In .u8 r.1 ∧ C9 r.2.1 ∧ Ar r.2.2.1 ∧ Bj r.2.2.2.1 ∧ AF r.2.2.2.2.1 ∧ Cf r.2.2.2.2.2.1 ∧ Cf r.2.2.2.2.2.2) (Aw.j2 a0 a0c2 a0c3 a0c4 a0c4c1 a0c4c2 a0c5 a0c6 a1 s974) := by
 unfold Aw.j2
 exact Ak.bif (fun h1 =>
  Ak.bif (fun h2 =>
   Ak.bind (Rw h_a0c5) (fun r983 h3 =>
   Ak.mk ⟨(CW _), ⟨h_a0.GI, h_a0.EI, h_a0.EP, (CW _), h_a0.Fp, h_a0.Ba⟩, h_a0c2, h_a0c3, h_a0c4, h3.2, h_a0c6⟩)) (fun h2 =>
   Ak.bif (fun h4 =>
    Ak.bind (Rw h_a0c6) (fun r1002 h5 =>
    Ak.mk ⟨(CW _), ⟨h_a0.GI, h_a0.EI, h_a0.EP, (CW _), h_a0.Fp, h_a0.Ba⟩, h_a0c2, h_a0c3, h_a0c4, h_a0c5, h5.2⟩)) (fun h4 =>
    Ak.no (by have e0 := hb_9 h1; have e1 := DT h_a1; have e2 := EU (a1 - 16406); have e3 := ne_of_beq_false h2; have e4 := ne_of_beq_false h4; omega)))) (fun h1 =>
  Ak.bif (fun h6 =>
   Ak.bind (Po h_a0c4 h_a0c4c1 h_a0c4c2 h_a1) (fun r1203 h7 =>
   Ak.bif (fun h8 =>
    Ak.mk ⟨h7.1, ⟨h_a0.GI, h_a0.EI, h_a0.EP, h7.1, h_a0.Fp, h_a0.Ba⟩, h_a0c2, h_a0c3, h7.2, h_a0c5, h_a0c6⟩) (fun h8 =>
    Ak.mk ⟨h_a0.CU, h_a0, h_a0c2, h_a0c3, h7.2, h_a0c5, h_a0c6⟩))) (fun h6 =>
   Ak.mk ⟨h_a0.CU, h_a0, h_a0c2, h_a0c3, h_a0c4, h_a0c5, h_a0c6⟩))
theorem Ig {a0 : A7} {a0c1 : Ag} {a0c2 : Ac} {a0c3 : Al} {a0c3c1 : Aa} {a0c3c2 : Aa} {a0c3c3 : Aa} {a0c3c4 : Aa} {a0c4 : Ai} {a0c4c1 : Am} {a0c4c2 : An} {a0c5 : AL} {a0c6 : AL} {a1 : Int} {s674 : Bool} (h_a0 : C9 a0) (h_a0c1 : De a0c1) (h_a0c2 : Ar a0c2) (h_a0c3 : Bj a0c3) (h_a0c3c1 : Ah a0c3c1) (h_a0c3c2 : Ah a0c3c2) (h_a0c3c3 : Ah a0c3c3) (h_a0c3c4 : Ah a0c3c4) (h_a0c4 : AF a0c4) (h_a0c4c1 : Bl a0c4c1) (h_a0c4c2 : Bi a0c4c2) (h_a0c5 : Cf a0c5) (h_a0c6 : Cf a0c6) (h_a1 : In .u16 a1) : Ak (fun r => In .u8 r.1 ∧ C9 r.2.1 ∧ Ar r.2.2.1 ∧ Bj r.2.2.2.1 ∧ AF r.2.2.2.2.1 ∧ Cf r.2.2.2.2.2.1 ∧ Cf r.2.2.2.2.2.2) (Aw.j1 a0 a0c1 a0c2 a0c3 a0c3c1 a0c3c2 a0c3c3 a0c3c4 a0c4 a0c4c1 a0c4c2 a0c5 a0c6 a1 s674) := by
 unfold Aw.j1
 exact Ak.bif (fun h1 =>
  Ak.bind (L4 h_a0 h_a0c1 h_a0c2 h_a0c3 h_a0c3c1 h_a0c3c2 h_a0c3c3 h_a0c3c4 h_a0c4 h_a0c4c1 h_a0c4c2 h_a0c5 h_a0c6 h_a1) (fun r701 h2 =>
  Ak.mk ⟨h2, ⟨h_a0.GI, h_a0.EI, h_a0.EP, h2, h_a0.Fp, h_a0.Ba⟩, h_a0c2, h_a0c3, h_a0c4, h_a0c5, h_a0c6⟩)) (fun h1 =>
  Ak.bif (fun h3 =>
   Ak.bind (Qm h_a0c2 (CW _)) (fun r803 h4 =>
   Ak.mk ⟨h4.1, ⟨h_a0.GI, h_a0.EI, h_a0.EP, h4.1, h_a0.Fp, h_a0.Ba⟩, h4.2, h_a0c3, h_a0c4, h_a0c5, h_a0c6⟩)) (fun h3 =>
   Ak.bif (fun h5 =>
    Ak.bind (PD h_a0c3 h_a0c3c1 h_a0c3c2 h_a0c3c3 h_a0c3c4) (fun r940 h6 =>
    Ak.mk ⟨(CW _), ⟨h_a0.GI, h_a0.EI, h_a0.EP, (CW _), h_a0.Fp, h_a0.Ba⟩, h_a0c2, h6.2, h_a0c4, h_a0c5, h_a0c6⟩)) (fun h5 =>
    Ak.bif (fun h7 =>
     Iq h_a0 h_a0c2 h_a0c3 h_a0c4 h_a0c4c1 h_a0c4c2 h_a0c5 h_a0c6 h_a1 (fun _ => by have e0 := DT h_a1; have e1 := of_decide_eq_false h3; have e2 := ne_of_beq_false h5; have e3 := eq_of_beq h7; omega)) (fun h7 =>
     Iq h_a0 h_a0c2 h_a0c3 h_a0c4 h_a0c4c1 h_a0c4c2 h_a0c5 h_a0c6 h_a1 (fun hh => by have e0 := DT h_a1; have e1 := of_decide_eq_false h3; have e2 := ne_of_beq_false h5; have e3 := ne_of_beq_false h7; have e4 := eq_of_beq hh; omega)))))
theorem FJ {a0 : A7} {a0c1 : Ag} {a0c2 : Ac} {a0c3 : Al} {a0c3c1 : Aa} {a0c3c2 : Aa} {a0c3c3 : Aa} {a0c3c4 : Aa} {a0c4 : Ai} {a0c4c1 : Am} {a0c4c2 : An} {a0c5 : AL} {a0c6 : AL} {a1 : Int} (h_a0 : C9 a0) (h_a0c1 : De a0c1) (h_a0c2 : Ar a0c2) (h_a0c3 : Bj a0c3) (h_a0c3c1 : Ah a0c3c1) (h_a0c3c2 : Ah a0c3c2) (h_a0c3c3 : Ah a0c3c3) (h_a0c3c4 : Ah a0c3c4) (h_a0c4 : AF a0c4) (h_a0c4c1 : Bl a0c4c1) (h_a0c4c2 : Bi a0c4c2) (h_a0c5 : Cf a0c5) (h_a0c6 : Cf a0c6) (h_a1 : In .u16 a1) : Ak (fun r => In .u8 r.1 ∧ C9 r.2.1 ∧ Ar r.2.2.1 ∧ Bj r.2.2.2.1 ∧ AF r.2.2.2.2.1 ∧ Cf r.2.2.2.2.2.1 ∧ Cf r.2.2.2.2.2.2) (Aw.f a0 a0c1 a0c2 a0c3 a0c3c1 a0c3c2 a0c3c3 a0c3c4 a0c4 a0c4c1 a0c4c2 a0c5 a0c6 a1) := by
 unfold Aw.f
 exact Ak.bif (fun h1 =>
  Ig h_a0 h_a0c1 h_a0c2 h_a0c3 h_a0c3c1 h_a0c3c2 h_a0c3c3 h_a0c3c4 h_a0c4 h_a0c4c1 h_a0c4c2 h_a0c5 h_a0c6 h_a1) (fun h1 =>
  Ig h_a0 h_a0c1 h_a0c2 h_a0c3 h_a0c3c1 h_a0c3c2 h_a0c3c3 h_a0c3c4 h_a0c4 h_a0c4c1 h_a0c4c2 h_a0c5 h_a0c6 h_a1)
theorem Jp {a0 : Al} {a0c1 : Aa} {a0c2 : Aa} {a0c3 : Aa} {a0c4 : Aa} (h_a0 : Bj a0) (h_a0c1 : Ah a0c1) (h_a0c2 : Ah a0c2) (h_a0c3 : Ah a0c3) (h_a0c4 : Ah a0c4) : Ak (fun r => Bj r) (Dj.f a0 a0c1 a0c2 a0c3 a0c4) := by
 unfold Dj.f
 exact Ak.arr (by omega) (by omega) (Ak.arr (by omega) (by omega) (Ak.mk ⟨⟨h_a0.Ae.AM, h_a0.Ae.BM, h_a0.Ae.GB, h_a0.Ae.Bw, h_a0.Ae.FX, h_a0.Ae.A9, (CY _)⟩, h_a0.C4⟩))
theorem Js {a0 : Al} {a0c1 : Aa} {a0c2 : Aa} {a0c3 : Aa} {a0c4 : Aa} {a1 : Int} {s1229 : Int} (h_a0 : Bj a0) (h_a0c1 : Ah a0c1) (h_a0c2 : Ah a0c2) (h_a0c3 : Ah a0c3) (h_a0c4 : Ah a0c4) (h_a1 : In .u8 a1) (h_s1229 : In .u16 s1229) : Ak (fun r => Bj r) (Ck.j1 a0 a0c1 a0c2 a0c3 a0c4 a1 s1229) := by
 unfold Ck.j1
 exact Ak.bif (fun h1 =>
  Ak.mk ⟨⟨h_a0.Ae.AM, h_a0.Ae.BM, h_a1, h_a0.Ae.Bw, h_a0.Ae.FX, h_a0.Ae.A9, h_s1229⟩, h_a0.C4⟩) (fun h1 =>
  Ak.arr (by have e0 := CS (a0.Ae.D6 - 1); have e1 := of_decide_eq_false h1; omega) (by have e0 := CS (a0.Ae.D6 - 1); have e1 := of_decide_eq_false h1; omega) (Ak.bif (fun h2 =>
   Ak.bind (Jp ⟨⟨h_a0.Ae.AM, h_a0.Ae.BM, h_a1, h_a0.Ae.Bw, h_a0.Ae.FX, h_a0.Ae.A9, h_s1229⟩, h_a0.C4⟩ h_a0c1 h_a0c2 h_a0c3 h_a0c4) (fun r1243 h3 =>
   Ak.mk h3)) (fun h2 =>
   Ak.arr (by have e0 := CS (a0.Ae.D6 - 1); have e1 := of_decide_eq_false h1; have e2 := Cq (CW _ : In .u8 (Bv .u8 (a0.Ae.AM (0 : Int).toNat) 64)); have e3 := BP (a0.Ae.AM (0 : Int).toNat) 64 (by decide); have e4 := Ei h2; omega) (by have e0 := CS (a0.Ae.D6 - 1); have e1 := of_decide_eq_false h1; have e2 := Cq (CW _ : In .u8 (Bv .u8 (a0.Ae.AM (0 : Int).toNat) 64)); have e3 := BP (a0.Ae.AM (0 : Int).toNat) 64 (by decide); have e4 := Ei h2; omega) (Ak.bif (fun h4 =>
    Ak.mk ⟨⟨h_a0.Ae.AM, h_a0.Ae.BM, h_a1, h_a0.Ae.Bw, h_a0.Ae.FX, h_a0.Ae.A9, h_s1229⟩, h_a0.C4⟩) (fun h4 =>
    Ak.mk ⟨⟨h_a0.Ae.AM, h_a0.Ae.BM, h_a1, h_a0.Ae.Bw, h_a0.Ae.FX, h_a0.Ae.A9, h_s1229⟩, h_a0.C4⟩)))))
theorem MO {a0 : Al} {a0c1 : Aa} {a0c2 : Aa} {a0c3 : Aa} {a0c4 : Aa} {a1 : Int} (h_a0 : Bj a0) (h_a0c1 : Ah a0c1) (h_a0c2 : Ah a0c2) (h_a0c3 : Ah a0c3) (h_a0c4 : Ah a0c4) (h_a1 : In .u8 a1) : Ak (fun r => Bj r) (Ck.f a0 a0c1 a0c2 a0c3 a0c4 a1) := by
 unfold Ck.f
 exact Ak.bind (J2 h_a0 h_a0c1 h_a0c2 h_a0c3 h_a0c4) (fun r1225 _ =>
 Ak.bif (fun h2 =>
  Ak.mk h_a0) (fun h2 =>
  Ak.bif (fun h3 =>
   Js h_a0 h_a0c1 h_a0c2 h_a0c3 h_a0c4 h_a1 (B7 rfl rfl)) (fun h3 =>
   Js h_a0 h_a0c1 h_a0c2 h_a0c3 h_a0c4 h_a1 (CY _))))
theorem Pg {a0 : Al} {a0c1 : Aa} {a0c2 : Aa} {a0c3 : Aa} {a0c4 : Aa} {a1 : Int} (h_a0 : Bj a0) (h_a0c1 : Ah a0c1) (h_a0c2 : Ah a0c2) (h_a0c3 : Ah a0c3) (h_a0c4 : Ah a0c4) (h_a1 : In .u8 a1) : Ak (fun r => Bj r) (F7.f a0 a0c1 a0c2 a0c3 a0c4 a1) := by
 unfold F7.f
 exact Ak.bind (MO h_a0 h_a0c1 h_a0c2 h_a0c3 h_a0c4 h_a1) (fun r1248 h1 =>
 Ak.mk h1)
theorem EV {a0 : A7} {a0c1 : Ag} {a0c2 : Ac} {a0c3 : Al} {a0c3c1 : Aa} {a0c3c2 : Aa} {a0c3c3 : Aa} {a0c3c4 : Aa} {a0c4 : Ai} {a0c4c1 : Am} {a0c4c2 : An} {a0c5 : AL} {a0c6 : AL} {r649 : Int × Bool} {s653 : Int} (h_a0 : C9 a0) (h_a0c1 : De a0c1) (h_a0c2 : Ar a0c2) (h_a0c3 : Bj a0c3) (h_a0c3c1 : Ah a0c3c1) (h_a0c3c2 : Ah a0c3c2) (h_a0c3c3 : Ah a0c3c3) (h_a0c3c4 : Ah a0c3c4) (h_a0c4 : AF a0c4) (h_a0c4c1 : Bl a0c4c1) (h_a0c4c2 : Bi a0c4c2) (h_a0c5 : Cf a0c5) (h_a0c6 : Cf a0c6) (h_r649_1 : In .u16 r649.1) : Ak (fun r => C9 r.2.1 ∧ Ar r.2.2.1 ∧ Bj r.2.2.2.1 ∧ AF r.2.2.2.2.1 ∧ Cf r.2.2.2.2.2.1 ∧ Cf r.2.2.2.2.2.2) (Bc.j1 a0 a0c1 a0c2 a0c3 a0c3c1 a0c3c2 a0c3c3 a0c3c4 a0c4 a0c4c1 a0c4c2 a0c5 a0c6 r649 s653) := by
 unfold Bc.j1
 exact Ak.bif (fun h1 =>
  Ak.mk ⟨⟨h_a0.GI, h_a0.EI, h_a0.EP, h_a0.CU, h_a0.Fp, h_a0.Ba⟩, h_a0c2, h_a0c3, h_a0c4, h_a0c5, h_a0c6⟩) (fun h1 =>
  Ak.bif (fun h2 =>
   Ak.bind (FJ ⟨h_a0.GI, h_a0.EI, h_a0.EP, h_a0.CU, h_a0.Fp, h_a0.Ba⟩ h_a0c1 h_a0c2 h_a0c3 h_a0c3c1 h_a0c3c2 h_a0c3c3 h_a0c3c4 h_a0c4 h_a0c4c1 h_a0c4c2 h_a0c5 h_a0c6 h_r649_1) (fun r1209 h3 =>
   Ak.bind (Pg h3.2.2.2.1 h_a0c3c1 h_a0c3c2 h_a0c3c3 h_a0c3c4 h3.1) (fun r1254 h4 =>
   Ak.mk ⟨h3.2.1, h3.2.2.1, h4, h3.2.2.2.2.1, h3.2.2.2.2.2.1, h3.2.2.2.2.2.2⟩))) (fun h2 =>
   Ak.mk ⟨⟨h_a0.GI, h_a0.EI, h_a0.EP, h_a0.CU, h_a0.Fp, h_a0.Ba⟩, h_a0c2, h_a0c3, h_a0c4, h_a0c5, h_a0c6⟩))
theorem Le {a0 : A7} {a0c1 : Ag} {a0c2 : Ac} {a0c3 : Al} {a0c3c1 : Aa} {a0c3c2 : Aa} {a0c3c3 : Aa} {a0c3c4 : Aa} {a0c4 : Ai} {a0c4c1 : Am} {a0c4c2 : An} {a0c5 : AL} {a0c6 : AL} (h_a0 : C9 a0) (h_a0c1 : De a0c1) (h_a0c2 : Ar a0c2) (h_a0c3 : Bj a0c3) (h_a0c3c1 : Ah a0c3c1) (h_a0c3c2 : Ah a0c3c2) (h_a0c3c3 : Ah a0c3c3) (h_a0c3c4 : Ah a0c3c4) (h_a0c4 : AF a0c4) (h_a0c4c1 : Bl a0c4c1) (h_a0c4c2 : Bi a0c4c2) (h_a0c5 : Cf a0c5) (h_a0c6 : Cf a0c6) : Ak (fun r => C9 r.2.1 ∧ Ar r.2.2.1 ∧ Bj r.2.2.2.1 ∧ AF r.2.2.2.2.1 ∧ Cf r.2.2.2.2.2.1 ∧ Cf r.2.2.2.2.2.2) (Bc.f a0 a0c1 a0c2 a0c3 a0c3c1 a0c3c2 a0c3c3 a0c3c4 a0c4 a0c4c1 a0c4c2 a0c5 a0c6) := by
 unfold Bc.f
 exact Ak.bind (Ps h_a0c3 h_a0c3c1 h_a0c3c2 h_a0c3c3 h_a0c3c4) (fun r649 h1 =>
 Ak.bif (fun h2 =>
  Ak.bif (fun h3 =>
   EV h_a0 h_a0c1 h_a0c2 h_a0c3 h_a0c3c1 h_a0c3c2 h_a0c3c3 h_a0c3c4 h_a0c4 h_a0c4c1 h_a0c4c2 h_a0c5 h_a0c6 h1) (fun h3 =>
   EV h_a0 h_a0c1 h_a0c2 h_a0c3 h_a0c3c1 h_a0c3c2 h_a0c3c3 h_a0c3c4 h_a0c4 h_a0c4c1 h_a0c4c2 h_a0c5 h_a0c6 h1)) (fun h2 =>
  EV h_a0 h_a0c1 h_a0c2 h_a0c3 h_a0c3c1 h_a0c3c2 h_a0c3c3 h_a0c3c4 h_a0c4 h_a0c4c1 h_a0c4c2 h_a0c5 h_a0c6 h1))
theorem Ij {a0 : A7} {a0c1 : Ag} {a0c2 : Ac} {a0c3 : Al} {a0c3c1 : Aa} {a0c3c2 : Aa} {a0c3c3 : Aa} {a0c3c4 : Aa} {a0c4 : Ai} {a0c4c1 : Am} {a0c4c2 : An} {a0c5 : AL} {a0c6 : AL} {a1 : Int} {a2 : Int} (h_a0 : C9 a0) (h_a0c1 : De a0c1) (h_a0c2 : Ar a0c2) (h_a0c3 : Bj a0c3) (h_a0c3c1 : Ah a0c3c1) (h_a0c3c2 : Ah a0c3c2) (h_a0c3c3 : Ah a0c3c3) (h_a0c3c4 : Ah a0c3c4) (h_a0c4 : AF a0c4) (h_a0c4c1 : Bl a0c4c1) (h_a0c4c2 : Bi a0c4c2) (h_a0c5 : Cf a0c5) (h_a0c6 : Cf a0c6) (h_a1 : In .u16 a1) (h_a2 : In .u8 a2) : Ak (fun r => C9 r) (Ci.f a0 a0c1 a0c2 a0c3 a0c3c1 a0c3c2 a0c3c3 a0c3c4 a0c4 a0c4c1 a0c4c2 a0c5 a0c6 a1 a2) := by
 unfold Ci.f
 exact Ak.bif (fun h1 =>
  Ak.arr (by have e0 := DT h_a1; have e1 := Lh a1 2048 (by decide); have e2 := of_decide_eq_true h1; omega) (by have e0 := DT h_a1; have e1 := Lh a1 2048 (by decide); have e2 := of_decide_eq_true h1; omega) (Ak.mk ⟨(Jc h_a0.GI h_a2), h_a0.EI, h_a0.EP, h_a0.CU, h_a0.Fp, h_a0.Ba⟩)) (fun h1 =>
  Ak.bif (fun h2 =>
   Ak.bif (fun h3 =>
    Ak.arr (by have e0 := DT h_a1; have e1 := EU (a1 - 24576); have e2 := of_decide_eq_false h1; have e3 := of_decide_eq_true h2; have e4 := of_decide_eq_true h3; omega) (by have e0 := DT h_a1; have e1 := EU (a1 - 24576); have e2 := of_decide_eq_false h1; have e3 := of_decide_eq_true h2; have e4 := of_decide_eq_true h3; omega) (Ak.mk ⟨h_a0.GI, (Jc h_a0.EI h_a2), h_a0.EP, h_a0.CU, h_a0.Fp, h_a0.Ba⟩)) (fun h3 =>
    Ak.mk h_a0)) (fun h2 =>
   Ak.mk h_a0))
theorem Ks {a0 : Int} {a1 : Int} {a2 : Int} (h_a0 : In .u16 a0) (h_a1 : In .u16 a1) (h_a2 : In .u16 a2) : Ak (fun r => In .u16 r) (I1.f a0 a1 a2) := by
 unfold I1.f
 exact Ak.bnd (fun x1370 e_x1370 =>
  have w_x1370 : In .u16 x1370 := O6 e_x1370 (CY _);
  Ak.mk w_x1370)
theorem QE {a0 : Bq} {a1 : Int} (h_a0 : Db a0) (h_a1 : In .u8 a1) : Ak (fun r => Db r) (JD.f a0 a1) := by
 unfold JD.f
 exact Ak.bind (E7 h_a0) (fun r1366 h1 =>
 Ak.bind (Ks h1.Ir (B7 rfl rfl) (CY _)) (fun r1371 h2 =>
 Ak.mk ⟨h1.Hw, h2, h1.DD⟩))
theorem Rb {a0 : Bq} {a1 : Int} (h_a0 : Db a0) (h_a1 : In .u8 a1) : Ak (fun r => Db r) (JY.f a0 a1) := by
 unfold JY.f
 exact Ak.bind (E7 h_a0) (fun r1384 h1 =>
 Ak.bif (fun h2 =>
  Ak.bind (Ks h1.Ir (B7 rfl rfl) (CY _)) (fun r1388 h3 =>
  Ak.bind (Ks h3 (B7 rfl rfl) (CY _)) (fun r1392 h4 =>
  Ak.mk ⟨h1.Hw, h4, h1.DD⟩))) (fun h2 =>
  Ak.bind (Ks h1.Ir (B7 rfl rfl) (VE (CY _))) (fun r1396 h5 =>
  Ak.mk ⟨h1.Hw, h5, (CW _)⟩)))
theorem QX {a0 : Bq} {a1 : Int} (h_a0 : Db a0) (h_a1 : In .u8 a1) : Ak (fun r => Db r) (J5.f a0 a1) := by
 unfold J5.f
 exact Ak.bind (E7 h_a0) (fun r1408 h1 =>
 Ak.bif (fun h2 =>
  Ak.bind (Ks h1.Ir (B7 rfl rfl) (CY _)) (fun r1412 h3 =>
  Ak.mk ⟨h3, h3, h1.DD⟩)) (fun h2 =>
  Ak.bind (Ks h1.Ir (B7 rfl rfl) (CY _)) (fun r1416 h4 =>
  Ak.mk ⟨h1.Hw, h4, h1.DD⟩)))
theorem PV {a0 : Ac} {a1 : Int} {a2 : Int} (h_a0 : Ar a0) (h_a1 : In .u16 a1) (h_a2 : In .u8 a2) : Ak (fun r => Ar r) (FB.f a0 a1 a2) := by
 unfold FB.f
 exact Ak.bif (fun h1 =>
  Ak.bif (fun h2 =>
   Ak.arr (by have e0 := DT (CY _ : In .u16 (Bv .u16 a1 16383)); have e1 := E6 a1 16383 (by decide); have e2 := of_decide_eq_true h1; have e3 := of_decide_eq_true h2; omega) (by have e0 := DT (CY _ : In .u16 (Bv .u16 a1 16383)); have e1 := E6 a1 16383 (by decide); have e2 := of_decide_eq_true h1; have e3 := of_decide_eq_true h2; omega) (Ak.mk ⟨(Jc h_a0.BK (CW _)), h_a0.BU, h_a0.Bu, h_a0.Cm, h_a0.Dg, h_a0.AY, h_a0.Aq, h_a0.Cg, h_a0.BZ, h_a0.AV, h_a0.CU, h_a0.Av, h_a0.Cc, h_a0.AP, h_a0.BF, h_a0.x1⟩)) (fun h2 =>
   Ak.bif (fun h3 =>
    Ak.bind (Nn (CY _)) (fun r1426 h4 =>
    Ak.arr (by have e0 := Cu h4; have e1 := DT (CY _ : In .u16 (Bv .u16 a1 16383)); have e2 := E6 a1 16383 (by decide); have e3 := of_decide_eq_true h1; have e4 := of_decide_eq_false h2; have e5 := of_decide_eq_true h3; omega) (by have e0 := Cu h4; have e1 := DT (CY _ : In .u16 (Bv .u16 a1 16383)); have e2 := E6 a1 16383 (by decide); have e3 := of_decide_eq_true h1; have e4 := of_decide_eq_false h2; have e5 := of_decide_eq_true h3; omega) (Ak.mk ⟨h_a0.BK, (Jc h_a0.BU (CW _)), h_a0.Bu, h_a0.Cm, h_a0.Dg, h_a0.AY, h_a0.Aq, h_a0.Cg, h_a0.BZ, h_a0.AV, h_a0.CU, h_a0.Av, h_a0.Cc, h_a0.AP, h_a0.BF, h_a0.x1⟩))) (fun h3 =>
    Ak.bind (OG (CY _)) (fun r1439 h5 =>
    Ak.arr (by have e0 := Cu h5; have e1 := DT (CY _ : In .u16 (Bv .u16 a1 16383)); have e2 := E6 a1 16383 (by decide); have e3 := of_decide_eq_true h1; have e4 := of_decide_eq_false h2; have e5 := of_decide_eq_false h3; omega) (by have e0 := Cu h5; have e1 := DT (CY _ : In .u16 (Bv .u16 a1 16383)); have e2 := E6 a1 16383 (by decide); have e3 := of_decide_eq_true h1; have e4 := of_decide_eq_false h2; have e5 := of_decide_eq_false h3; omega) (Ak.mk ⟨h_a0.BK, h_a0.BU, (Jc h_a0.Bu (CW _)), h_a0.Cm, h_a0.Dg, h_a0.AY, h_a0.Aq, h_a0.Cg, h_a0.BZ, h_a0.AV, h_a0.CU, h_a0.Av, h_a0.Cc, h_a0.AP, h_a0.BF, h_a0.x1⟩))))) (fun h1 =>
  Ak.bif (fun h6 =>
   Ak.arr (by have e0 := DT (CY _ : In .u16 (Bv .u16 a1 16383)); have e1 := E6 a1 16383 (by decide); have e2 := of_decide_eq_false h1; have e3 := of_decide_eq_true h6; omega) (by have e0 := DT (CY _ : In .u16 (Bv .u16 a1 16383)); have e1 := E6 a1 16383 (by decide); have e2 := of_decide_eq_false h1; have e3 := of_decide_eq_true h6; omega) (Ak.mk ⟨(Jc h_a0.BK h_a2), h_a0.BU, h_a0.Bu, h_a0.Cm, h_a0.Dg, h_a0.AY, h_a0.Aq, h_a0.Cg, h_a0.BZ, h_a0.AV, h_a0.CU, h_a0.Av, h_a0.Cc, h_a0.AP, h_a0.BF, h_a0.x1⟩)) (fun h6 =>
   Ak.bif (fun h7 =>
    Ak.bind (Nn (CY _)) (fun r1453 h8 =>
    Ak.arr (by have e0 := Cu h8; have e1 := DT (CY _ : In .u16 (Bv .u16 a1 16383)); have e2 := E6 a1 16383 (by decide); have e3 := of_decide_eq_false h1; have e4 := of_decide_eq_false h6; have e5 := of_decide_eq_true h7; omega) (by have e0 := Cu h8; have e1 := DT (CY _ : In .u16 (Bv .u16 a1 16383)); have e2 := E6 a1 16383 (by decide); have e3 := of_decide_eq_false h1; have e4 := of_decide_eq_false h6; have e5 := of_decide_eq_true h7; omega) (Ak.mk ⟨h_a0.BK, (Jc h_a0.BU h_a2), h_a0.Bu, h_a0.Cm, h_a0.Dg, h_a0.AY, h_a0.Aq, h_a0.Cg, h_a0.BZ, h_a0.AV, h_a0.CU, h_a0.Av, h_a0.Cc, h_a0.AP, h_a0.BF, h_a0.x1⟩))) (fun h7 =>
    Ak.bind (OG (CY _)) (fun r1466 h9 =>
    Ak.arr (by have e0 := Cu h9; have e1 := DT (CY _ : In .u16 (Bv .u16 a1 16383)); have e2 := E6 a1 16383 (by decide); have e3 := of_decide_eq_false h1; have e4 := of_decide_eq_false h6; have e5 := of_decide_eq_false h7; omega) (by have e0 := Cu h9; have e1 := DT (CY _ : In .u16 (Bv .u16 a1 16383)); have e2 := E6 a1 16383 (by decide); have e3 := of_decide_eq_false h1; have e4 := of_decide_eq_false h6; have e5 := of_decide_eq_false h7; omega) (Ak.mk ⟨h_a0.BK, h_a0.BU, (Jc h_a0.Bu h_a2), h_a0.Cm, h_a0.Dg, h_a0.AY, h_a0.Aq, h_a0.Cg, h_a0.BZ, h_a0.AV, h_a0.CU, h_a0.Av, h_a0.Cc, h_a0.AP, h_a0.BF, h_a0.x1⟩)))))
theorem Qo {a0 : Ac} {a1 : Int} {a2 : Int} (h_a0 : Ar a0) (h_a1 : In .u8 a1) (h_a2 : In .u8 a2) : Ak (fun r => Ar r) (FU.f a0 a1 a2) := by
 unfold FU.f
 exact Ak.bif (fun h1 =>
  Ak.bind (QE h_a0.AY h_a2) (fun r1375 h2 =>
  Ak.mk ⟨h_a0.BK, h_a0.BU, h_a0.Bu, h_a0.Cm, h_a0.Dg, h2, h_a2, h_a0.Cg, h_a0.BZ, h_a0.AV, h_a2, h_a0.Av, h_a0.Cc, h_a0.AP, h_a0.BF, h_a0.x1⟩)) (fun h1 =>
  Ak.bif (fun h3 =>
   Ak.mk ⟨h_a0.BK, h_a0.BU, h_a0.Bu, h_a0.Cm, h_a0.Dg, h_a0.AY, h_a0.Aq, h_a2, h_a0.BZ, h_a0.AV, h_a2, h_a0.Av, h_a0.Cc, h_a0.AP, h_a0.BF, h_a0.x1⟩) (fun h3 =>
   Ak.bif (fun h4 =>
    Ak.mk ⟨h_a0.BK, h_a0.BU, h_a0.Bu, h_a0.Cm, h_a2, h_a0.AY, h_a0.Aq, h_a0.Cg, h_a0.BZ, h_a0.AV, h_a2, h_a0.Av, h_a0.Cc, h_a0.AP, h_a0.BF, h_a0.x1⟩) (fun h4 =>
    Ak.bif (fun h5 =>
     Ak.arr (by have e0 := Cq h_a0.Dg; have e1 := Cq h_a1; have e2 := Lh a1 8 (by decide); have e3 := ne_of_beq_false h1; have e4 := ne_of_beq_false h3; have e5 := ne_of_beq_false h4; have e6 := eq_of_beq h5; omega) (by have e0 := Cq h_a0.Dg; have e1 := Cq h_a1; have e2 := Lh a1 8 (by decide); have e3 := ne_of_beq_false h1; have e4 := ne_of_beq_false h3; have e5 := ne_of_beq_false h4; have e6 := eq_of_beq h5; omega) (Ak.mk ⟨h_a0.BK, h_a0.BU, h_a0.Bu, (Jc h_a0.Cm h_a2), (CW _), h_a0.AY, h_a0.Aq, h_a0.Cg, h_a0.BZ, h_a0.AV, h_a2, h_a0.Av, h_a0.Cc, h_a0.AP, h_a0.BF, h_a0.x1⟩)) (fun h5 =>
     Ak.bif (fun h6 =>
      Ak.bind (Rb h_a0.AY h_a2) (fun r1400 h7 =>
      Ak.mk ⟨h_a0.BK, h_a0.BU, h_a0.Bu, h_a0.Cm, h_a0.Dg, h7, h_a0.Aq, h_a0.Cg, h_a0.BZ, h_a0.AV, h_a2, h_a0.Av, h_a0.Cc, h_a0.AP, h_a0.BF, h_a0.x1⟩)) (fun h6 =>
      Ak.bif (fun h8 =>
       Ak.bind (QX h_a0.AY h_a2) (fun r1420 h9 =>
       Ak.mk ⟨h_a0.BK, h_a0.BU, h_a0.Bu, h_a0.Cm, h_a0.Dg, h9, h_a0.Aq, h_a0.Cg, h_a0.BZ, h_a0.AV, h_a2, h_a0.Av, h_a0.Cc, h_a0.AP, h_a0.BF, h_a0.x1⟩)) (fun h8 =>
       Ak.bif (fun h10 =>
        Ak.bind (PV ⟨h_a0.BK, h_a0.BU, h_a0.Bu, h_a0.Cm, h_a0.Dg, h_a0.AY, h_a0.Aq, h_a0.Cg, h_a0.BZ, h_a0.AV, h_a2, h_a0.Av, h_a0.Cc, h_a0.AP, h_a0.BF, h_a0.x1⟩ h_a0.AY.Hw h_a2) (fun r1479 h11 =>
        Ak.bind (Pe h11.AY) (fun r1485 h12 =>
        Ak.mk ⟨h11.BK, h11.BU, h11.Bu, h11.Cm, h11.Dg, h12, h11.Aq, h11.Cg, h11.BZ, h11.AV, h11.CU, h11.Av, h11.Cc, h11.AP, h11.BF, h11.x1⟩))) (fun h10 =>
        Ak.mk ⟨h_a0.BK, h_a0.BU, h_a0.Bu, h_a0.Cm, h_a0.Dg, h_a0.AY, h_a0.Aq, h_a0.Cg, h_a0.BZ, h_a0.AV, h_a2, h_a0.Av, h_a0.Cc, h_a0.AP, h_a0.BF, h_a0.x1⟩)))))))
theorem PT {a0 : Aa} {a1 : Int} {s1538 : Int} (h_a0 : Ah a0) (h_a1 : In .u8 a1) (h_s1538 : In .u8 s1538) : Ak (fun r => Ah r) (Hr.j1 a0 a1 s1538) := by
 unfold Hr.j1
 exact Ak.bif (fun h1 =>
  Ak.bif (fun h2 =>
   Ak.mk ⟨h_a0.CZ, h_a0.AM, h_s1538, (CY _), h_a0.A9, (B7 rfl rfl), h_a0.BM, h_a0.BN, h_a0.Dk, h_a0.Av, h_a0.Bw⟩) (fun h2 =>
   Ak.mk ⟨h_a0.CZ, h_a0.AM, h_s1538, (CY _), h_a0.A9, h_a0.Ev, h_a0.BM, h_a0.BN, h_a0.Dk, h_a0.Av, h_a0.Bw⟩)) (fun h1 =>
  Ak.bif (fun h3 =>
   Ak.mk ⟨h_a0.CZ, h_a0.AM, h_s1538, h_a0.Cb, h_a0.A9, (B7 rfl rfl), h_a0.BM, h_a0.BN, h_a0.Dk, h_a0.Av, h_a0.Bw⟩) (fun h3 =>
   Ak.mk ⟨h_a0.CZ, h_a0.AM, h_s1538, h_a0.Cb, h_a0.A9, h_a0.Ev, h_a0.BM, h_a0.BN, h_a0.Dk, h_a0.Av, h_a0.Bw⟩))
theorem SY {a0 : Aa} {a1 : Int} (h_a0 : Ah a0) (h_a1 : In .u8 a1) : Ak (fun r => Ah r) (Hr.f a0 a1) := by
 unfold Hr.f
 exact Ak.bif (fun h1 =>
  Ak.bind (Ak.IF (Q := In .u8) (n := 32) (by have e0 := Cq h_a1; have e1 := S7 .u8 a1 3; have e2 := Sw .u8 a1 3 8 rfl; omega) (by have e0 := Cq h_a1; have e1 := S7 .u8 a1 3; have e2 := Sw .u8 a1 3 8 rfl; omega) rfl (Yh rfl)) (fun z1539 h2 =>
  PT h_a0 h_a1 h2)) (fun h1 =>
  PT h_a0 h_a1 h_a0.CP)
theorem Qj {a0 : Aa} {a1 : Int} {a2 : Int} {s1526 : Bool} (h_a0 : Ah a0) (h_a1 : In .u8 a1) (h_a2 : In .u8 a2) : Ak (fun r => Ah r) (El.j2 a0 a1 a2 s1526) := by
 unfold El.j2
 exact Ak.bif (fun h1 =>
  Ak.bind (Ak.IF (Q := In .u16) (n := 16) (by have e0 := Cq (CW _ : In .u8 (Bv .u8 a2 15)); have e1 := BP a2 15 (by decide); omega) (by have e0 := Cq (CW _ : In .u8 (Bv .u8 a2 15)); have e1 := BP a2 15 (by decide); omega) rfl (Yh rfl)) (fun z1533 h2 =>
  Ak.mk ⟨h_a0.CZ, (Jc h_a0.AM h_a2), h_a0.CP, (CY _), h_a0.A9, h_a0.Ev, h_a0.BM, h_a0.BN, h_a0.Dk, h_a0.Av, h_a0.Bw⟩)) (fun h1 =>
  Ak.bif (fun h3 =>
   Ak.mk ⟨h_a0.CZ, (Jc h_a0.AM h_a2), h_a0.CP, (CY _), h_a0.A9, h_a0.Ev, h_a0.BM, h_a0.BN, h_a0.Dk, h_a0.Av, h_a0.Bw⟩) (fun h3 =>
   Ak.bif (fun h4 =>
    Ak.bind (SY ⟨h_a0.CZ, (Jc h_a0.AM h_a2), h_a0.CP, h_a0.Cb, h_a0.A9, h_a0.Ev, h_a0.BM, h_a0.BN, h_a0.Dk, h_a0.Av, h_a0.Bw⟩ h_a2) (fun r1548 h5 =>
    Ak.mk h5)) (fun h4 =>
    Ak.mk ⟨h_a0.CZ, (Jc h_a0.AM h_a2), h_a0.CP, h_a0.Cb, h_a0.A9, h_a0.Ev, h_a0.BM, h_a0.BN, h_a0.Dk, h_a0.Av, h_a0.Bw⟩)))
theorem Te {a0 : Aa} {a1 : Int} {a2 : Int} {s1519 : Unit} (h_a0 : Ah a0) (h_a1 : Bt 0 3 a1) (h_a2 : In .u8 a2) : Ak (fun r => Ah r) (El.j1 a0 a1 a2 s1519) := by
 unfold El.j1
 exact Ak.arr (by have e0 := Cu h_a1; omega) (by have e0 := Cu h_a1; omega) (Ak.bif (fun h1 =>
  Ak.mk ⟨h_a0.CZ, (Jc h_a0.AM h_a2), h_a0.CP, h_a0.Cb, h_a0.A9, h_a0.Ev, h_a0.BM, h_a0.BN, h_a0.Dk, h_a0.Av, h_a0.Bw⟩) (fun h1 =>
  Ak.bif (fun h2 =>
   Qj h_a0 (YU h_a1 rfl rfl) h_a2) (fun h2 =>
   Qj h_a0 (YU h_a1 rfl rfl) h_a2)))
theorem MV {a0 : Aa} {a1 : Int} {a2 : Int} (h_a0 : Ah a0) (h_a1 : In .u8 a1) (h_a2 : In .u8 a2) : Ak (fun r => Ah r) (El.f a0 a1 a2) := by
 unfold El.f
 exact Ak.bif (fun h1 =>
  Ak.mk h_a0) (fun h1 =>
  Te h_a0 (EZ (x := a1) (by have e0 := Cq h_a1; have e1 := CS a1; have e2 := of_decide_eq_false h1; omega)) h_a2)
theorem Na {a0 : Al} {a0c1 : Aa} {a0c2 : Aa} {a0c3 : Aa} {a0c4 : Aa} {a1 : Int} {a2 : Int} (h_a0 : Bj a0) (h_a0c1 : Ah a0c1) (h_a0c2 : Ah a0c2) (h_a0c3 : Ah a0c3) (h_a0c4 : Ah a0c4) (h_a1 : Bt 0 3 a1) (h_a2 : In .u8 a2) : Ak (fun r => Bj r) (Eu.f a0 a0c1 a0c2 a0c3 a0c4 a1 a2) := by
 unfold Eu.f
 exact Ak.arr (by have e0 := Cu h_a1; omega) (by have e0 := Cu h_a1; omega) (Ak.bif (fun h1 =>
  Ak.bif (fun h2 =>
   Ak.mk ⟨⟨(Jc h_a0.Ae.AM h_a2), h_a0.Ae.BM, h_a0.Ae.GB, h_a0.Ae.Bw, h_a0.Ae.FX, h_a0.Ae.A9, h_a0.Ae.BD⟩, h_a0.C4⟩) (fun h2 =>
   Ak.mk ⟨⟨(Jc h_a0.Ae.AM h_a2), h_a0.Ae.BM, h_a0.Ae.GB, h_a0.Ae.Bw, h_a0.Ae.FX, h_a0.Ae.A9, h_a0.Ae.BD⟩, h_a0.C4⟩)) (fun h1 =>
  Ak.bif (fun h3 =>
   Ak.mk ⟨⟨(Jc h_a0.Ae.AM h_a2), (CW _), h_a0.Ae.GB, h_a0.Ae.Bw, h_a0.Ae.FX, h_a0.Ae.A9, h_a0.Ae.BD⟩, h_a0.C4⟩) (fun h3 =>
   Ak.mk ⟨⟨(Jc h_a0.Ae.AM h_a2), h_a0.Ae.BM, h_a0.Ae.GB, h_a0.Ae.Bw, h_a0.Ae.FX, h_a0.Ae.A9, h_a0.Ae.BD⟩, h_a0.C4⟩)))
theorem L8 {a0 : Aa} {a1 : Bool} (h_a0 : Ah a0) : Ak (fun r => Ah r) (Gl.f a0 a1) := by
 unfold Gl.f
 exact Ak.bif (fun h1 =>
  Ak.mk ⟨h_a0.CZ, h_a0.AM, (B7 rfl rfl), h_a0.Cb, h_a0.A9, h_a0.Ev, h_a0.BM, h_a0.BN, h_a0.Dk, h_a0.Av, h_a0.Bw⟩) (fun h1 =>
  Ak.mk ⟨h_a0.CZ, h_a0.AM, h_a0.CP, h_a0.Cb, h_a0.A9, h_a0.Ev, h_a0.BM, h_a0.BN, h_a0.Dk, h_a0.Av, h_a0.Bw⟩)
theorem MC {a0 : Al} {a0c1 : Aa} {a0c2 : Aa} {a0c3 : Aa} {a0c4 : Aa} {a1 : Bool} (h_a0 : Bj a0) (h_a0c1 : Ah a0c1) (h_a0c2 : Ah a0c2) (h_a0c3 : Ah a0c3) (h_a0c4 : Ah a0c4) : Ak (fun r => Bj r) (Ef.f a0 a0c1 a0c2 a0c3 a0c4 a1) := by
 unfold Ef.f
 exact Ak.bif (fun h1 =>
  Ak.mk ⟨⟨h_a0.Ae.AM, h_a0.Ae.BM, h_a0.Ae.GB, h_a0.Ae.Bw, h_a0.Ae.FX, h_a0.Ae.A9, h_a0.Ae.BD⟩, h_a0.C4⟩) (fun h1 =>
  Ak.bif (fun h2 =>
   Ak.bind (Jp ⟨⟨h_a0.Ae.AM, h_a0.Ae.BM, h_a0.Ae.GB, h_a0.Ae.Bw, h_a0.Ae.FX, h_a0.Ae.A9, h_a0.Ae.BD⟩, h_a0.C4⟩ h_a0c1 h_a0c2 h_a0c3 h_a0c4) (fun r1614 h3 =>
   Ak.mk h3)) (fun h2 =>
   Ak.mk ⟨⟨h_a0.Ae.AM, h_a0.Ae.BM, h_a0.Ae.GB, h_a0.Ae.Bw, h_a0.Ae.FX, h_a0.Ae.A9, h_a0.Ae.BD⟩, h_a0.C4⟩))
theorem MH {a0 : Aa} {s1629 : Int} (h_a0 : Ah a0) (h_s1629 : In .u8 s1629) : Ak (fun r => Ah r) (Ca.j1 a0 s1629) := by
 unfold Ca.j1
 exact Ak.bif (fun h1 =>
  Ak.arr (by omega) (by omega) (Ak.mk ⟨h_a0.CZ, h_a0.AM, h_a0.CP, h_a0.Cb, h_a0.A9, h_a0.Ev, h_a0.BM, h_a0.BN, h_a0.Dk, h_s1629, h_a0.Bw⟩)) (fun h1 =>
  Ak.mk ⟨h_a0.CZ, h_a0.AM, h_a0.CP, h_a0.Cb, h_a0.A9, h_a0.Ev, h_a0.BM, h_a0.BN, h_a0.Dk, h_s1629, h_a0.Bw⟩)
theorem Ee {a0 : Aa} (h_a0 : Ah a0) : Ak (fun r => Ah r) (Ca.f a0) := by
 unfold Ca.f
 exact Ak.bif (fun h1 =>
  Ak.bif (fun h2 =>
   Ak.arr (by have e0 := Cq h_a0.CZ; have e1 := eq_of_beq h1; omega) (by have e0 := Cq h_a0.CZ; have e1 := eq_of_beq h1; omega) (MH h_a0 (CW _))) (fun h2 =>
   Ak.bif (fun h3 =>
    MH h_a0 (CW _)) (fun h3 =>
    MH h_a0 h_a0.Av))) (fun h1 =>
  Ak.arr (by have e0 := Cq h_a0.CZ; have e1 := ne_of_beq_false h1; omega) (by have e0 := Cq h_a0.CZ; have e1 := ne_of_beq_false h1; omega) (Ak.bif (fun h4 =>
   Ak.mk ⟨h_a0.CZ, h_a0.AM, h_a0.CP, h_a0.Cb, h_a0.A9, h_a0.Ev, (B7 rfl rfl), (CW _), h_a0.Dk, h_a0.Av, h_a0.Bw⟩) (fun h4 =>
   Ak.bif (fun h5 =>
    Ak.mk ⟨h_a0.CZ, h_a0.AM, h_a0.CP, h_a0.Cb, h_a0.A9, h_a0.Ev, h_a0.BM, (CW _), h_a0.Dk, h_a0.Av, h_a0.Bw⟩) (fun h5 =>
    Ak.bif (fun h6 =>
     Ak.mk ⟨h_a0.CZ, h_a0.AM, h_a0.CP, h_a0.Cb, h_a0.A9, h_a0.Ev, (CW _), (CW _), h_a0.Dk, h_a0.Av, h_a0.Bw⟩) (fun h6 =>
     Ak.arr (by have e0 := Cq h_a0.CZ; have e1 := ne_of_beq_false h1; have e2 := Cq h_a0.BN; have e3 := of_decide_eq_false h5; have e4 := Cq h_a0.BM; have e5 := of_decide_eq_false h6; omega) (by have e0 := Cq h_a0.CZ; have e1 := ne_of_beq_false h1; have e2 := Cq h_a0.BN; have e3 := of_decide_eq_false h5; have e4 := Cq h_a0.BM; have e5 := of_decide_eq_false h6; omega) (Ak.bif (fun h7 =>
      Ak.mk ⟨h_a0.CZ, h_a0.AM, h_a0.CP, h_a0.Cb, h_a0.A9, h_a0.Ev, (B7 rfl rfl), (CW _), h_a0.Dk, h_a0.Av, h_a0.Bw⟩) (fun h7 =>
      Ak.mk ⟨h_a0.CZ, h_a0.AM, h_a0.CP, h_a0.Cb, h_a0.A9, h_a0.Ev, h_a0.BM, (CW _), h_a0.Dk, h_a0.Av, h_a0.Bw⟩)))))))
theorem Pz {a0 : Aa} (h_a0 : Ah a0) : Ak (fun r => In .u16 r) (JB.f a0) := by
 unfold JB.f
 exact Ak.arr (by omega) (by omega) (Ak.neg (by have e0 := Cq (CW _ : In .u8 (Bv .u8 (a0.AM (1 : Int).toNat) 7)); have e1 := BP (a0.AM (1 : Int).toNat) 7 (by decide); omega) (Ak.arr (by omega) (by omega) (Ak.bif (fun h1 =>
  Ak.bnd (fun x1690 e_x1690 =>
   have w_x1690 : In .u16 x1690 := O6 e_x1690 (CY _);
   Ak.mk w_x1690)) (fun h1 =>
  Ak.bif (fun h2 =>
   Ak.bnd (fun x1691 e_x1691 =>
    have w_x1691 : In .u16 x1691 := O6 e_x1691 (CY _);
    Ak.mk (CY _))) (fun h2 =>
   Ak.mk (CY _))))))
theorem Tf {a0 : Aa} (h_a0 : Ah a0) : Ak (fun _ => True) (Nf.f a0) := by
 unfold Nf.f
 exact Ak.bif (fun h1 =>
  Ak.mk trivial) (fun h1 =>
  Ak.bind (Pz h_a0) (fun r1692 h2 =>
  Ak.mk trivial))
theorem PU {a0 : Aa} {s1671 : Int} {s1680 : Int} {s1709 : Bool} (h_a0 : Ah a0) (h_s1671 : In .u8 s1671) (h_s1680 : In .u16 s1680) : Ak (fun r => Ah r) (B8.j4 a0 s1671 s1680 s1709) := by
 unfold B8.j4
 exact Ak.bif (fun h1 =>
  Ak.mk ⟨h_a0.CZ, h_a0.AM, h_s1671, h_s1680, h_a0.A9, h_a0.Ev, h_a0.BM, h_a0.BN, (CW _), h_a0.Av, h_a0.Bw⟩) (fun h1 =>
  Ak.mk ⟨h_a0.CZ, h_a0.AM, h_s1671, h_s1680, h_a0.A9, h_a0.Ev, h_a0.BM, h_a0.BN, (CW _), h_a0.Av, h_a0.Bw⟩)
theorem K5 {a0 : Aa} {s1671 : Int} {s1680 : Int} (h_a0 : Ah a0) (h_s1671 : In .u8 s1671) (h_s1680 : In .u16 s1680) : Ak (fun r => Ah r) (B8.j3 a0 s1671 s1680) := by
 unfold B8.j3
 exact Ak.bif (fun h1 =>
  PU h_a0 h_s1671 h_s1680) (fun h1 =>
  PU h_a0 h_s1671 h_s1680)
theorem NB {a0 : Aa} {s1671 : Int} (h_a0 : Ah a0) (h_s1671 : In .u8 s1671) : Ak (fun r => Ah r) (B8.j2 a0 s1671) := by
 unfold B8.j2
 exact Ak.bif (fun h1 =>
  Ak.mk ⟨h_a0.CZ, h_a0.AM, h_s1671, h_a0.Cb, h_a0.A9, h_a0.Ev, h_a0.BM, h_a0.BN, h_a0.Dk, h_a0.Av, h_a0.Bw⟩) (fun h1 =>
  Ak.arr (by have e0 := Cq h_a0.CZ; have e1 := of_decide_eq_false h1; omega) (by have e0 := Cq h_a0.CZ; have e1 := of_decide_eq_false h1; omega) (Ak.bif (fun h2 =>
   Ak.bif (fun h3 =>
    Ak.bif (fun h4 =>
     Ak.bind (Tf ⟨h_a0.CZ, h_a0.AM, h_s1671, h_a0.Cb, h_a0.A9, h_a0.Ev, h_a0.BM, h_a0.BN, h_a0.Dk, h_a0.Av, h_a0.Bw⟩) (fun r1696 _ =>
     Ak.bif (fun h6 =>
      Ak.bind (Pz ⟨h_a0.CZ, h_a0.AM, h_s1671, h_a0.Cb, h_a0.A9, h_a0.Ev, h_a0.BM, h_a0.BN, h_a0.Dk, h_a0.Av, h_a0.Bw⟩) (fun r1700 h7 =>
      K5 h_a0 h_s1671 h7)) (fun h6 =>
      K5 h_a0 h_s1671 h_a0.Cb))) (fun h4 =>
     K5 h_a0 h_s1671 h_a0.Cb)) (fun h3 =>
    K5 h_a0 h_s1671 h_a0.Cb)) (fun h2 =>
   K5 h_a0 h_s1671 h_a0.Cb)))
theorem PS {a0 : Aa} {s1665 : Int} (h_a0 : Ah a0) (h_s1665 : In .u8 s1665) : Ak (fun r => Ah r) (B8.j1 a0 s1665) := by
 unfold B8.j1
 exact Ak.bif (fun h1 =>
  Ak.arr (by have e0 := Cq h_a0.CP; have e1 := of_decide_eq_true h1; omega) (by have e0 := Cq h_a0.CP; have e1 := of_decide_eq_true h1; omega) (Ak.bif (fun h2 =>
   NB h_a0 (CW _)) (fun h2 =>
   NB h_a0 h_a0.CP))) (fun h1 =>
  NB h_a0 h_a0.CP)
theorem EC {a0 : Aa} (h_a0 : Ah a0) : Ak (fun r => Ah r) (B8.f a0) := by
 unfold B8.f
 exact Ak.bif (fun h1 =>
  PS h_a0 (B7 rfl rfl)) (fun h1 =>
  PS h_a0 (B7 rfl rfl))
theorem Ow {a0 : Al} {a0c1 : Aa} {a0c2 : Aa} {a0c3 : Aa} {a0c4 : Aa} {a1 : Int} (h_a0 : Bj a0) (h_a0c1 : Ah a0c1) (h_a0c2 : Ah a0c2) (h_a0c3 : Ah a0c3) (h_a0c4 : Ah a0c4) (h_a1 : In .u8 a1) : Ak (fun r => Bj r.1 ∧ Ah r.2.1 ∧ Ah r.2.2.1 ∧ Ah r.2.2.2.1 ∧ Ah r.2.2.2.2) (FH.f a0 a0c1 a0c2 a0c3 a0c4 a1) := by
 unfold FH.f
 exact Ak.bif (fun h1 =>
  Ak.bif (fun h2 =>
   Ak.bind (Ee h_a0c1) (fun r1640 h3 =>
   Ak.bind (Ee h_a0c2) (fun r1646 h4 =>
   Ak.bind (Ee h_a0c3) (fun r1652 h5 =>
   Ak.bind (Ee h_a0c4) (fun r1658 h6 =>
   Ak.bind (EC h3) (fun r1716 h7 =>
   Ak.bind (EC h4) (fun r1722 h8 =>
   Ak.bind (EC h5) (fun r1728 h9 =>
   Ak.bind (EC h6) (fun r1734 h10 =>
   Ak.mk ⟨⟨h_a0.Ae, (EZ (x := 1) (by have e0 := Cq (CW _ : In .u8 (Bv .u8 a1 128)); have e1 := BP a1 128 (by decide); have e2 := F3 h2; omega))⟩, h7, h8, h9, h10⟩))))))))) (fun h2 =>
   Ak.mk ⟨⟨h_a0.Ae, (EZ (x := 0) (by have e0 := Cq (CW _ : In .u8 (Bv .u8 a1 128)); have e1 := BP a1 128 (by decide); have e2 := Ei h2; omega))⟩, h_a0c1, h_a0c2, h_a0c3, h_a0c4⟩)) (fun h1 =>
  Ak.bif (fun h11 =>
   Ak.bind (Ee h_a0c1) (fun r1740 h12 =>
   Ak.bind (Ee h_a0c2) (fun r1746 h13 =>
   Ak.bind (Ee h_a0c3) (fun r1752 h14 =>
   Ak.bind (Ee h_a0c4) (fun r1758 h15 =>
   Ak.bind (EC h12) (fun r1764 h16 =>
   Ak.bind (EC h13) (fun r1770 h17 =>
   Ak.bind (EC h14) (fun r1776 h18 =>
   Ak.bind (EC h15) (fun r1782 h19 =>
   Ak.mk ⟨⟨h_a0.Ae, (EZ (x := 1) (by have e0 := Cq (CW _ : In .u8 (Bv .u8 a1 128)); have e1 := BP a1 128 (by decide); have e2 := F3 h11; omega))⟩, h16, h17, h18, h19⟩))))))))) (fun h11 =>
   Ak.mk ⟨⟨h_a0.Ae, (EZ (x := 0) (by have e0 := Cq (CW _ : In .u8 (Bv .u8 a1 128)); have e1 := BP a1 128 (by decide); have e2 := Ei h11; omega))⟩, h_a0c1, h_a0c2, h_a0c3, h_a0c4⟩))
theorem P6 {a0 : Al} {a0c1 : Aa} {a0c2 : Aa} {a0c3 : Aa} {a0c4 : Aa} {a1 : Int} {a2 : Int} (h_a0 : Bj a0) (h_a0c1 : Ah a0c1) (h_a0c2 : Ah a0c2) (h_a0c3 : Ah a0c3) (h_a0c4 : Ah a0c4) (h_a1 : In .u16 a1) (h_a2 : In .u8 a2) : Ak (fun r => Bj r.1 ∧ Ah r.2.1 ∧ Ah r.2.2.1 ∧ Ah r.2.2.2.1 ∧ Ah r.2.2.2.2) (GH.f a0 a0c1 a0c2 a0c3 a0c4 a1 a2) := by
 unfold GH.f
 exact Ak.bif (fun h1 =>
  Ak.mk ⟨h_a0, h_a0c1, h_a0c2, h_a0c3, h_a0c4⟩) (fun h1 =>
  Ak.bif (fun h2 =>
   Ak.mk ⟨h_a0, h_a0c1, h_a0c2, h_a0c3, h_a0c4⟩) (fun h2 =>
   Ak.bif (fun h3 =>
    Ak.bif (fun h4 =>
     Ak.bind (MV h_a0c1 (CW _) h_a2) (fun r1554 h5 =>
     Ak.mk ⟨h_a0, h5, h_a0c2, h_a0c3, h_a0c4⟩)) (fun h4 =>
     Ak.bif (fun h6 =>
      Ak.bind (MV h_a0c2 (CW _) h_a2) (fun r1561 h7 =>
      Ak.mk ⟨h_a0, h_a0c1, h7, h_a0c3, h_a0c4⟩)) (fun h6 =>
      Ak.bif (fun h8 =>
       Ak.bind (MV h_a0c3 (CW _) h_a2) (fun r1568 h9 =>
       Ak.mk ⟨h_a0, h_a0c1, h_a0c2, h9, h_a0c4⟩)) (fun h8 =>
       Ak.bif (fun h10 =>
        Ak.bind (MV h_a0c4 (CW _) h_a2) (fun r1575 h11 =>
        Ak.mk ⟨h_a0, h_a0c1, h_a0c2, h_a0c3, h11⟩)) (fun h10 =>
        Ak.no (by have e0 := DT h_a1; have e1 := of_decide_eq_false h1; have e2 := of_decide_eq_false h2; have e3 := of_decide_eq_true h3; have e4 := EU (a1 - 16384); have e5 := DT (CY _ : In .u16 (quo .u16 (IntKind.wrap .u16 (a1 - 16384)) 4)); have e6 := WG (IntKind.wrap .u16 (a1 - 16384)) 4 (by decide); have e7 := ne_of_beq_false h4; have e8 := ne_of_beq_false h6; have e9 := ne_of_beq_false h8; have e10 := ne_of_beq_false h10; omega)))))) (fun h3 =>
    Ak.bif (fun h12 =>
     Ak.bind (Na h_a0 h_a0c1 h_a0c2 h_a0c3 h_a0c4 (EZ (x := IntKind.wrap .u8 (IntKind.wrap .u16 (a1 - 16400))) (by have e0 := DT h_a1; have e1 := EU (a1 - 16400); have e2 := RU (IntKind.wrap .u16 (a1 - 16400)); have e3 := of_decide_eq_false h1; have e4 := of_decide_eq_false h2; have e5 := of_decide_eq_false h3; have e6 := of_decide_eq_true h12; omega)) h_a2) (fun r1588 h13 =>
     Ak.mk ⟨h13, h_a0c1, h_a0c2, h_a0c3, h_a0c4⟩)) (fun h12 =>
     Ak.bif (fun h14 =>
      Ak.bind (L8 h_a0c1) (fun r1593 h15 =>
      Ak.bind (L8 h_a0c2) (fun r1597 h16 =>
      Ak.bind (L8 h_a0c3) (fun r1601 h17 =>
      Ak.bind (L8 h_a0c4) (fun r1605 h18 =>
      Ak.bind (MC h_a0 h15 h16 h17 h18) (fun r1618 h19 =>
      Ak.mk ⟨h19, h15, h16, h17, h18⟩)))))) (fun h14 =>
      Ak.bif (fun h20 =>
       Ak.bind (Ow h_a0 h_a0c1 h_a0c2 h_a0c3 h_a0c4 h_a2) (fun r1788 h21 =>
       Ak.mk ⟨h21.1, h21.2.1, h21.2.2.1, h21.2.2.2.1, h21.2.2.2.2⟩)) (fun h20 =>
       Ak.mk ⟨h_a0, h_a0c1, h_a0c2, h_a0c3, h_a0c4⟩))))))
theorem TH {a0 : AL} (h_a0 : Cf a0) : Ak (fun r => Cf r) (Ol.f a0) := by
 unfold Ol.f
 exact Ak.bif (fun h1 =>
  Ak.mk ⟨h_a0.Ba, h_a0.Ba⟩) (fun h1 =>
  Ak.mk h_a0)
theorem Ry {a0 : AL} {a1 : Int} (h_a0 : Cf a0) (h_a1 : In .u8 a1) : Ak (fun r => Cf r) (Nk.f a0 a1) := by
 unfold Nk.f
 exact Ak.bind (TH ⟨h_a0.Ba, h_a0.Bw⟩) (fun r1802 h1 =>
 Ak.mk h1)
theorem QV {a0 : Am} (h_a0 : Bl a0) : Ak (fun r => Bl r) (EB.f a0) := by
 unfold EB.f
 exact Ak.mk ⟨h_a0.Bg, h_a0.Jy, (show (a0.C5 = -1 ∨ (0 ≤ a0.C5 ∧ a0.C5 < (a0.Bg.length : Int))) ∧ ((a0.Bg.length : Int) = 0 ∨ (0 ≤ 0 ∧ 0 < (a0.Bg.length : Int))) ∧ (a0.Bg.length : Int) ≤ 1073741824 from by have x0 := (show (a0.C5 = -1 ∨ (0 ≤ a0.C5 ∧ a0.C5 < (a0.Bg.length : Int))) ∧ ((a0.Bg.length : Int) = 0 ∨ (0 ≤ a0.BD ∧ a0.BD < (a0.Bg.length : Int))) ∧ (a0.Bg.length : Int) ≤ 1073741824 from h_a0.x1); have x1 := (show (a0.C5 = -1 ∨ (0 ≤ a0.C5 ∧ a0.C5 < (a0.Bg.length : Int))) ∧ ((a0.Bg.length : Int) = 0 ∨ (0 ≤ a0.BD ∧ a0.BD < (a0.Bg.length : Int))) ∧ (a0.Bg.length : Int) ≤ 1073741824 from h_a0.x1); omega)⟩
theorem Qy {a0 : Am} {a1 : Bool} (h_a0 : Bl a0) : Ak (fun r => Bl r) (Jj.f a0 a1) := by
 unfold Jj.f
 exact Ak.bif (fun h1 =>
  Ak.bind (QV ⟨h_a0.Bg, h_a0.Jy, h_a0.x1⟩) (fun r1830 h2 =>
  Ak.mk h2)) (fun h1 =>
  Ak.mk h_a0)
theorem Lf {a0 : Ai} {a0c1 : Am} {a0c2 : An} {a1 : Int} (h_a0 : AF a0) (h_a0c1 : Bl a0c1) (h_a0c2 : Bi a0c2) (h_a1 : In .u8 a1) : Ak (fun r => AF r.1 ∧ Bl r.2) (En.f a0 a0c1 a0c2 a1) := by
 unfold En.f
 exact Ak.bind (Qy h_a0c1) (fun r1836 h1 =>
 Ak.bif (fun h2 =>
  Ak.mk ⟨⟨h_a0.A9, h_a0.FL, h_a1, h_a0.Ma, h_a0.Il, h_a0.FV, (B7 rfl rfl)⟩, h1⟩) (fun h2 =>
  Ak.bif (fun h3 =>
   Ak.mk ⟨⟨h_a0.A9, h_a0.FL, h_a1, h_a0.Ma, h_a0.Il, h_a0.FV, (B7 rfl rfl)⟩, h1⟩) (fun h3 =>
   Ak.mk ⟨⟨h_a0.A9, h_a0.FL, h_a1, h_a0.Ma, h_a0.Il, h_a0.FV, h_a0.IL⟩, h1⟩)))
theorem ON {a0 : Ai} {a0c1 : Am} {a0c2 : An} {a1 : Int} (h_a0 : AF a0) (h_a0c1 : Bl a0c1) (h_a0c2 : Bi a0c2) (h_a1 : In .u8 a1) : Ak (fun r => AF r.1 ∧ Bl r.2) (FZ.f a0 a0c1 a0c2 a1) := by
 unfold FZ.f
 exact Ak.bif (fun h1 =>
  Ak.bind (Lf ⟨⟨h_a0.A9.L9, h_a0.A9.BN⟩, h_a1, h_a0.Aq, h_a0.Ma, h_a0.Il, h_a0.FV, h_a0.IL⟩ h_a0c1 h_a0c2 (B7 rfl rfl)) (fun r1843 h2 =>
  Ak.mk ⟨h2.1, h2.2⟩)) (fun h1 =>
  Ak.mk ⟨⟨h_a0.A9, h_a1, h_a0.Aq, h_a0.Ma, h_a0.Il, h_a0.FV, h_a0.IL⟩, h_a0c1⟩)
theorem Tm {a0 : An} (h_a0 : Bi a0) : Ak (fun _ => True) (N8.f a0) := by
 unfold N8.f
 exact Ak.arr (by omega) (by omega) (Ak.bif (fun h1 =>
  Ak.mk trivial) (fun h1 =>
  Ak.arr (by have e0 := Cu h_a0.Da.BD; have e1 := Cq (CW _ : In .u8 (Bv .u8 (a0.AM (9 : Int).toNat) 128)); have e2 := BP (a0.AM (9 : Int).toNat) 128 (by decide); have e3 := Ei h1; omega) (by have e0 := Cu h_a0.Da.BD; have e1 := Cq (CW _ : In .u8 (Bv .u8 (a0.AM (9 : Int).toNat) 128)); have e2 := BP (a0.AM (9 : Int).toNat) 128 (by decide); have e3 := Ei h1; omega) (Ak.arr (by have e0 := Cq (CW _ : In .u8 (Bv .u8 (a0.AM (9 : Int).toNat) 128)); have e1 := BP (a0.AM (9 : Int).toNat) 128 (by decide); have e2 := Ei h1; omega) (by have e0 := Cq (CW _ : In .u8 (Bv .u8 (a0.AM (9 : Int).toNat) 128)); have e1 := BP (a0.AM (9 : Int).toNat) 128 (by decide); have e2 := Ei h1; omega) (Ak.bind (Ak.UR (n := 4) (by have e0 := Cq (CW _ : In .u8 (Bv .u8 (a0.AM (9 : Int).toNat) 3)); have e1 := BP (a0.AM (9 : Int).toNat) 3 (by decide); have e2 := Cq (CW _ : In .u8 (Bv .u8 (a0.AM (9 : Int).toNat) 128)); have e3 := BP (a0.AM (9 : Int).toNat) 128 (by decide); have e4 := Ei h1; omega) (by have e0 := Cq (CW _ : In .u8 (Bv .u8 (a0.AM (9 : Int).toNat) 3)); have e1 := BP (a0.AM (9 : Int).toNat) 3 (by decide); have e2 := Cq (CW _ : In .u8 (Bv .u8 (a0.AM (9 : Int).toNat) 128)); have e3 := BP (a0.AM (9 : Int).toNat) 128 (by decide); have e4 := Ei h1; omega) rfl) (fun z1883 h2 =>
  Ak.mk trivial)))))
theorem OO {a0 : An} {a1 : Int} (h_a0 : Bi a0) (h_a1 : In .u8 a1) : Ak (fun r => Bi r) (Ga.f a0 a1) := by
 unfold Ga.f
 exact Ak.bif (fun h1 =>
  Ak.mk ⟨h_a0.CE, h_a0.CF, h_a0.AM, ⟨h_a1, (CW _)⟩, h_a0.DV, h_a0.Da, h_a0.FW⟩) (fun h1 =>
  Ak.mk ⟨h_a0.CE, h_a0.CF, h_a0.AM, ⟨h_a1, h_a0.DU.IB⟩, h_a0.DV, h_a0.Da, h_a0.FW⟩)
theorem OV {a0 : An} {a1 : Int} (h_a0 : Bi a0) (h_a1 : In .u8 a1) : Ak (fun r => Bi r) (Gr.f a0 a1) := by
 unfold Gr.f
 exact Ak.bif (fun h1 =>
  Ak.mk ⟨h_a0.CE, h_a0.CF, h_a0.AM, h_a0.DU, ⟨h_a1, (CW _)⟩, h_a0.Da, h_a0.FW⟩) (fun h1 =>
  Ak.mk ⟨h_a0.CE, h_a0.CF, h_a0.AM, h_a0.DU, ⟨h_a1, h_a0.DV.IB⟩, h_a0.Da, h_a0.FW⟩)
theorem SL {a0 : An} {a1 : Int} (h_a0 : Bi a0) (h_a1 : In .u8 a1) : ∀ (n1915 : Nat) (s1907 : (Nat → Int) × Int × Int) (h_s1907_1 : BtA 0 7 s1907.1) (h_s1907_2_1 : Bt 0 63 s1907.2.1) (hi_0 : 0 ≤ s1907.2.2 ∧ s1907.2.2 ≤ 2) (hm : 2 - s1907.2.2 < (n1915 : Int)), Ak (fun r => Bi r) (IJ.l1 a0 a1 n1915 s1907) := by
 intro n1915
 induction n1915 with
 | zero => intro s1907 h_s1907_1 h_s1907_2_1 hi_0 hm; exfalso; revert hm; intro hm; have e0 := hi_0; omega
 | succ n1915 ih =>
  intro s1907 h_s1907_1 h_s1907_2_1 hi_0 hm
  unfold IJ.l1
  exact Ak.bif (fun h1 =>
   Ak.arr (by have e0 := Cu h_s1907_2_1; have e1 := of_decide_eq_true h1; have e2 := hi_0; omega) (by have e0 := Cu h_s1907_2_1; have e1 := of_decide_eq_true h1; have e2 := hi_0; omega) (ih _ (Zl h_s1907_1 (EZ (x := Bv .u8 a1 7) (by have e0 := Cq (CW _ : In .u8 (Bv .u8 a1 7)); have e1 := BP a1 7 (by decide); have e2 := of_decide_eq_true h1; have e3 := hi_0; omega))) (EZ (x := Int.tmod (IntKind.wrap .i64 (s1907.2.1 + 1)) 64) (by have e0 := Cu h_s1907_2_1; have e1 := CS (s1907.2.1 + 1); have e2 := Lh (IntKind.wrap .i64 (s1907.2.1 + 1)) 64 (by decide); have e3 := of_decide_eq_true h1; have e4 := hi_0; omega)) (show 0 ≤ (IntKind.wrap .i64 (s1907.2.2 + 1)) ∧ (IntKind.wrap .i64 (s1907.2.2 + 1)) ≤ 2 from by have e0 := CS (s1907.2.2 + 1); have e1 := of_decide_eq_true h1; have e2 := hi_0; have e3 := hm; omega) (show 2 - (IntKind.wrap .i64 (s1907.2.2 + 1)) < _ from by have e0 := CS (s1907.2.2 + 1); have e1 := of_decide_eq_true h1; have e2 := hi_0; have e3 := hm; omega))) (fun h1 =>
   Ak.mk ⟨h_a0.CE, h_s1907_1, h_a0.AM, h_a0.DU, h_a0.DV, h_a0.Da, ⟨h_s1907_2_1⟩⟩)
theorem Tw {a0 : An} {a1 : Int} (h_a0 : Bi a0) (h_a1 : In .u8 a1) : Ak (fun r => Bi r) (IJ.f a0 a1) := by
 unfold IJ.f
 exact Ak.arr (by omega) (by omega) (Ak.bif (fun h1 =>
  Ak.mk h_a0) (fun h1 =>
  SL h_a0 h_a1 _ _ h_a0.CF h_a0.FW.BD (show 0 ≤ 0 ∧ 0 ≤ 2 from by have e0 := Cq (CW _ : In .u8 (Bv .u8 (a0.AM (7 : Int).toNat) 128)); have e1 := BP (a0.AM (7 : Int).toNat) 128 (by decide); have e2 := ne_of_beq_false h1; omega) (show 2 - 0 < _ from by have e0 := Cq (CW _ : In .u8 (Bv .u8 (a0.AM (7 : Int).toNat) 128)); have e1 := BP (a0.AM (7 : Int).toNat) 128 (by decide); have e2 := ne_of_beq_false h1; omega)))
theorem SO {a0 : An} {a1 : Int} {a2 : Int} {s1863 : Unit} (h_a0 : Bi a0) (h_a1 : Bt 16512 16522 a1) (h_a2 : In .u8 a2) : Ak (fun r => Bi r) (FC.j1 a0 a1 a2 s1863) := by
 unfold FC.j1
 exact Ak.bnd (fun x1878 e_x1878 =>
  Ak.bind (Tm h_a0) (fun r1889 _ =>
  Ak.arr (by have e0 := Cu h_a1; have e1 := EU (a1 - 16512); have e2 := CS (IntKind.wrap .u16 (a1 - 16512)); have e3 := e_x1878; omega) (by have e0 := Cu h_a1; have e1 := EU (a1 - 16512); have e2 := CS (IntKind.wrap .u16 (a1 - 16512)); have e3 := e_x1878; omega) (Ak.arr (by have e0 := Cu h_a1; have e1 := EU (a1 - 16512); have e2 := CS (IntKind.wrap .u16 (a1 - 16512)); have e3 := e_x1878; omega) (by have e0 := Cu h_a1; have e1 := EU (a1 - 16512); have e2 := CS (IntKind.wrap .u16 (a1 - 16512)); have e3 := e_x1878; omega) (Ak.bif (fun h2 =>
   Ak.bind (OO ⟨h_a0.CE, h_a0.CF, (Jc h_a0.AM h_a2), h_a0.DU, h_a0.DV, h_a0.Da, h_a0.FW⟩ h_a2) (fun r1896 h3 =>
   Ak.mk h3)) (fun h2 =>
   Ak.bif (fun h4 =>
    Ak.bind (OV ⟨h_a0.CE, h_a0.CF, (Jc h_a0.AM h_a2), h_a0.DU, h_a0.DV, h_a0.Da, h_a0.FW⟩ h_a2) (fun r1901 h5 =>
    Ak.mk h5)) (fun h4 =>
    Ak.bif (fun h6 =>
     Ak.bif (fun h7 =>
      Ak.mk ⟨h_a0.CE, h_a0.CF, (Jc h_a0.AM h_a2), h_a0.DU, h_a0.DV, h_a0.Da, h_a0.FW⟩) (fun h7 =>
      Ak.mk ⟨h_a0.CE, h_a0.CF, (Jc h_a0.AM h_a2), h_a0.DU, h_a0.DV, h_a0.Da, h_a0.FW⟩)) (fun h6 =>
     Ak.bif (fun h8 =>
      Ak.bif (fun h9 =>
       Ak.mk ⟨h_a0.CE, h_a0.CF, (Jc h_a0.AM h_a2), h_a0.DU, h_a0.DV, ⟨(EZ (x := 0) (by have e0 := ne_of_beq_false h2; have e1 := ne_of_beq_false h4; have e2 := ne_of_beq_false h6; have e3 := eq_of_beq h8; have e4 := Cq (CW _ : In .u8 (Bv .u8 a2 128)); have e5 := BP a2 128 (by decide); have e6 := F3 h9; have e7 := Cu h_a1; have e8 := EU (a1 - 16512); have e9 := CS (IntKind.wrap .u16 (a1 - 16512)); have e10 := e_x1878; omega))⟩, h_a0.FW⟩) (fun h9 =>
       Ak.mk ⟨h_a0.CE, h_a0.CF, (Jc h_a0.AM h_a2), h_a0.DU, h_a0.DV, h_a0.Da, h_a0.FW⟩)) (fun h8 =>
      Ak.bif (fun h10 =>
       Ak.bif (fun h11 =>
        Ak.mk ⟨h_a0.CE, h_a0.CF, (Jc h_a0.AM h_a2), h_a0.DU, h_a0.DV, h_a0.Da, ⟨h_a0.FW.BD⟩⟩) (fun h11 =>
        Ak.mk ⟨h_a0.CE, h_a0.CF, (Jc h_a0.AM h_a2), h_a0.DU, h_a0.DV, h_a0.Da, h_a0.FW⟩)) (fun h10 =>
       Ak.bif (fun h12 =>
        Ak.bind (Tw ⟨h_a0.CE, h_a0.CF, (Jc h_a0.AM h_a2), h_a0.DU, h_a0.DV, h_a0.Da, h_a0.FW⟩ h_a2) (fun r1918 h13 =>
        Ak.mk h13)) (fun h12 =>
        Ak.bif (fun h14 =>
         Ak.bif (fun h15 =>
          Ak.mk ⟨h_a0.CE, h_a0.CF, (Jc h_a0.AM h_a2), h_a0.DU, h_a0.DV, h_a0.Da, h_a0.FW⟩) (fun h15 =>
          Ak.mk ⟨h_a0.CE, h_a0.CF, (Jc h_a0.AM h_a2), h_a0.DU, h_a0.DV, h_a0.Da, h_a0.FW⟩)) (fun h14 =>
         Ak.mk ⟨h_a0.CE, h_a0.CF, (Jc h_a0.AM h_a2), h_a0.DU, h_a0.DV, h_a0.Da, h_a0.FW⟩)))))))))))
theorem Qd {a0 : An} {a1 : Int} {a2 : Int} {s1864 : Bool} (h_a0 : Bi a0) (h_a1 : In .u16 a1) (h_a2 : In .u8 a2) (hf_3 : s1864 = false → 16448 ≤ a1 ∧ a1 ≤ 16522) : Ak (fun r => Bi r) (FC.j2 a0 a1 a2 s1864) := by
 unfold FC.j2
 exact Ak.bif (fun h1 =>
  Ak.mk h_a0) (fun h1 =>
  Ak.bif (fun h2 =>
   Ak.arr (by have e0 := hf_3 h1; have e1 := DT h_a1; have e2 := of_decide_eq_true h2; omega) (by have e0 := hf_3 h1; have e1 := DT h_a1; have e2 := of_decide_eq_true h2; omega) (Ak.bif (fun h3 =>
    Ak.arr (by have e0 := DT h_a1; have e1 := EU (a1 - 16448); have e2 := hf_3 h1; have e3 := of_decide_eq_true h2; have e4 := Cq (CW _ : In .u8 (Bv .u8 (a0.AM (9 : Int).toNat) 128)); have e5 := BP (a0.AM (9 : Int).toNat) 128 (by decide); have e6 := F3 h3; omega) (by have e0 := DT h_a1; have e1 := EU (a1 - 16448); have e2 := hf_3 h1; have e3 := of_decide_eq_true h2; have e4 := Cq (CW _ : In .u8 (Bv .u8 (a0.AM (9 : Int).toNat) 128)); have e5 := BP (a0.AM (9 : Int).toNat) 128 (by decide); have e6 := F3 h3; omega) (Ak.mk ⟨(Jc h_a0.CE (CW _)), h_a0.CF, h_a0.AM, h_a0.DU, h_a0.DV, h_a0.Da, h_a0.FW⟩)) (fun h3 =>
    Ak.mk h_a0))) (fun h2 =>
   SO h_a0 (EZ (x := a1) (by have e0 := DT h_a1; have e1 := hf_3 h1; have e2 := of_decide_eq_false h2; omega)) h_a2))
theorem Tp {a0 : An} {a1 : Int} {a2 : Int} (h_a0 : Bi a0) (h_a1 : In .u16 a1) (h_a2 : In .u8 a2) : Ak (fun r => Bi r) (FC.f a0 a1 a2) := by
 unfold FC.f
 exact Ak.bif (fun h1 =>
  Qd h_a0 h_a1 h_a2 (fun h => Bool.noConfusion h)) (fun h1 =>
  Qd h_a0 h_a1 h_a2 (fun hh => by have e0 := DT h_a1; have e1 := of_decide_eq_false h1; have e2 := of_decide_eq_false hh; omega))
theorem OH {a0 : Ai} {a0c1 : Am} {a0c2 : An} {a1 : Int} {a2 : Int} (h_a0 : AF a0) (h_a0c1 : Bl a0c1) (h_a0c2 : Bi a0c2) (h_a1 : In .u16 a1) (h_a2 : In .u8 a2) : Ak (fun r => AF r.1 ∧ Bl r.2) (Gd.f a0 a0c1 a0c2 a1 a2) := by
 unfold Gd.f
 exact Ak.bif (fun h1 =>
  Ak.bif (fun h2 =>
   Ak.mk ⟨⟨⟨h_a0.A9.L9, h_a0.A9.L9⟩, h_a0.FL, h_a0.Aq, h_a0.Ma, h_a0.Il, h_a0.FV, h_a0.IL⟩, h_a0c1⟩) (fun h2 =>
   Ak.mk ⟨⟨⟨h_a0.A9.L9, h_a0.A9.BN⟩, h_a0.FL, h_a0.Aq, h_a0.Ma, h_a0.Il, h_a0.FV, h_a0.IL⟩, h_a0c1⟩)) (fun h1 =>
  Ak.bif (fun h3 =>
   Ak.mk ⟨⟨h_a0.A9, h_a0.FL, h_a0.Aq, h_a0.Ma, h_a2, h_a0.FV, h_a0.IL⟩, h_a0c1⟩) (fun h3 =>
   Ak.bif (fun h4 =>
    Ak.bind (Lf h_a0 h_a0c1 h_a0c2 h_a2) (fun r1934 h5 =>
    Ak.mk ⟨h5.1, h5.2⟩)) (fun h4 =>
    Ak.bif (fun h6 =>
     Ak.mk ⟨⟨h_a0.A9, h_a0.FL, h_a0.Aq, h_a0.Ma, h_a0.Il, h_a2, h_a0.IL⟩, h_a0c1⟩) (fun h6 =>
     Ak.mk ⟨h_a0, h_a0c1⟩))))
theorem LZ {a0 : Ai} {a0c1 : Am} {a0c2 : An} {a1 : Int} {a2 : Int} {s1855 : Bool} (h_a0 : AF a0) (h_a0c1 : Bl a0c1) (h_a0c2 : Bi a0c2) (h_a1 : In .u16 a1) (h_a2 : In .u8 a2) : Ak (fun r => AF r.1 ∧ Bl r.2.1 ∧ Bi r.2.2) (Dq.j1 a0 a0c1 a0c2 a1 a2 s1855) := by
 unfold Dq.j1
 exact Ak.bif (fun h1 =>
  Ak.bif (fun h2 =>
   Ak.bind (Tp h_a0c2 h_a1 h_a2) (fun r1924 h3 =>
   Ak.mk ⟨h_a0, h_a0c1, h3⟩)) (fun h2 =>
   Ak.mk ⟨h_a0, h_a0c1, h_a0c2⟩)) (fun h1 =>
  Ak.bif (fun h4 =>
   Ak.bind (OH h_a0 h_a0c1 h_a0c2 h_a1 h_a2) (fun r1940 h5 =>
   Ak.mk ⟨h5.1, h5.2, h_a0c2⟩)) (fun h4 =>
   Ak.mk ⟨h_a0, h_a0c1, h_a0c2⟩))
theorem Pn {a0 : Ai} {a0c1 : Am} {a0c2 : An} {a1 : Int} {a2 : Int} (h_a0 : AF a0) (h_a0c1 : Bl a0c1) (h_a0c2 : Bi a0c2) (h_a1 : In .u16 a1) (h_a2 : In .u8 a2) : Ak (fun r => AF r.1 ∧ Bl r.2.1 ∧ Bi r.2.2) (Dq.f a0 a0c1 a0c2 a1 a2) := by
 unfold Dq.f
 exact Ak.bif (fun h1 =>
  Ak.mk ⟨⟨⟨(CY _), h_a0.A9.BN⟩, h_a0.FL, h_a0.Aq, h_a0.Ma, h_a0.Il, h_a0.FV, h_a0.IL⟩, h_a0c1, h_a0c2⟩) (fun h1 =>
  Ak.bif (fun h2 =>
   Ak.mk ⟨⟨⟨(CY _), h_a0.A9.BN⟩, h_a0.FL, h_a0.Aq, h_a0.Ma, h_a0.Il, h_a0.FV, h_a0.IL⟩, h_a0c1, h_a0c2⟩) (fun h2 =>
   Ak.bif (fun h3 =>
    Ak.bind (ON h_a0 h_a0c1 h_a0c2 h_a2) (fun r1849 h4 =>
    Ak.mk ⟨h4.1, h4.2, h_a0c2⟩)) (fun h3 =>
    Ak.bif (fun h5 =>
     LZ h_a0 h_a0c1 h_a0c2 h_a1 h_a2) (fun h5 =>
     LZ h_a0 h_a0c1 h_a0c2 h_a1 h_a2))))
theorem F6 {a0 : A7} {a0c2 : Ac} {a0c3 : Al} {a0c3c1 : Aa} {a0c3c2 : Aa} {a0c3c3 : Aa} {a0c3c4 : Aa} {a0c4 : Ai} {a0c4c1 : Am} {a0c4c2 : An} {a0c5 : AL} {a0c6 : AL} {a1 : Int} {a2 : Int} {s1503 : Bool} (h_a0 : C9 a0) (h_a0c2 : Ar a0c2) (h_a0c3 : Bj a0c3) (h_a0c3c1 : Ah a0c3c1) (h_a0c3c2 : Ah a0c3c2) (h_a0c3c3 : Ah a0c3c3) (h_a0c3c4 : Ah a0c3c4) (h_a0c4 : AF a0c4) (h_a0c4c1 : Bl a0c4c1) (h_a0c4c2 : Bi a0c4c2) (h_a0c5 : Cf a0c5) (h_a0c6 : Cf a0c6) (h_a1 : In .u16 a1) (h_a2 : In .u8 a2) : Ak (fun r => C9 r.1 ∧ Ar r.2.1 ∧ Bj r.2.2.1 ∧ Ah r.2.2.2.1 ∧ Ah r.2.2.2.2.1 ∧ Ah r.2.2.2.2.2.1 ∧ Ah r.2.2.2.2.2.2.1 ∧ AF r.2.2.2.2.2.2.2.1 ∧ Bl r.2.2.2.2.2.2.2.2.1 ∧ Bi r.2.2.2.2.2.2.2.2.2.1 ∧ Cf r.2.2.2.2.2.2.2.2.2.2.1 ∧ Cf r.2.2.2.2.2.2.2.2.2.2.2) (Ay.j2 a0 a0c2 a0c3 a0c3c1 a0c3c2 a0c3c3 a0c3c4 a0c4 a0c4c1 a0c4c2 a0c5 a0c6 a1 a2 s1503) := by
 unfold Ay.j2
 exact Ak.bif (fun h1 =>
  Ak.bind (P6 h_a0c3 h_a0c3c1 h_a0c3c2 h_a0c3c3 h_a0c3c4 h_a1 h_a2) (fun r1794 h2 =>
  Ak.mk ⟨⟨h_a0.GI, h_a0.EI, h_a0.EP, h_a2, h_a0.Fp, h_a0.Ba⟩, h_a0c2, h2.1, h2.2.1, h2.2.2.1, h2.2.2.2.1, h2.2.2.2.2, h_a0c4, h_a0c4c1, h_a0c4c2, h_a0c5, h_a0c6⟩)) (fun h1 =>
  Ak.bif (fun h3 =>
   Ak.mk ⟨⟨h_a0.GI, h_a0.EI, h_a0.EP, h_a2, (CY _), h_a0.Ba⟩, h_a0c2, h_a0c3, h_a0c3c1, h_a0c3c2, h_a0c3c3, h_a0c3c4, h_a0c4, h_a0c4c1, h_a0c4c2, h_a0c5, h_a0c6⟩) (fun h3 =>
   Ak.bif (fun h4 =>
    Ak.bind (Ry h_a0c5 h_a2) (fun r1806 h5 =>
    Ak.bind (Ry h_a0c6 h_a2) (fun r1810 h6 =>
    Ak.mk ⟨⟨h_a0.GI, h_a0.EI, h_a0.EP, h_a2, h_a0.Fp, h_a0.Ba⟩, h_a0c2, h_a0c3, h_a0c3c1, h_a0c3c2, h_a0c3c3, h_a0c3c4, h_a0c4, h_a0c4c1, h_a0c4c2, h5, h6⟩))) (fun h4 =>
    Ak.bif (fun h7 =>
     Ak.bind (Pn h_a0c4 h_a0c4c1 h_a0c4c2 h_a1 h_a2) (fun r1946 h8 =>
     Ak.mk ⟨⟨h_a0.GI, h_a0.EI, h_a0.EP, h_a2, h_a0.Fp, h_a0.Ba⟩, h_a0c2, h_a0c3, h_a0c3c1, h_a0c3c2, h_a0c3c3, h_a0c3c4, h8.1, h8.2.1, h8.2.2, h_a0c5, h_a0c6⟩)) (fun h7 =>
     Ak.mk ⟨⟨h_a0.GI, h_a0.EI, h_a0.EP, h_a2, h_a0.Fp, h_a0.Ba⟩, h_a0c2, h_a0c3, h_a0c3c1, h_a0c3c2, h_a0c3c3, h_a0c3c4, h_a0c4, h_a0c4c1, h_a0c4c2, h_a0c5, h_a0c6⟩))))
theorem Ia {a0 : A7} {a0c1 : Ag} {a0c2 : Ac} {a0c3 : Al} {a0c3c1 : Aa} {a0c3c2 : Aa} {a0c3c3 : Aa} {a0c3c4 : Aa} {a0c4 : Ai} {a0c4c1 : Am} {a0c4c2 : An} {a0c5 : AL} {a0c6 : AL} {a1 : Int} {a2 : Int} {s1333 : Bool} (h_a0 : C9 a0) (h_a0c1 : De a0c1) (h_a0c2 : Ar a0c2) (h_a0c3 : Bj a0c3) (h_a0c3c1 : Ah a0c3c1) (h_a0c3c2 : Ah a0c3c2) (h_a0c3c3 : Ah a0c3c3) (h_a0c3c4 : Ah a0c3c4) (h_a0c4 : AF a0c4) (h_a0c4c1 : Bl a0c4c1) (h_a0c4c2 : Bi a0c4c2) (h_a0c5 : Cf a0c5) (h_a0c6 : Cf a0c6) (h_a1 : In .u16 a1) (h_a2 : In .u8 a2) : Ak (fun r => C9 r.1 ∧ Ar r.2.1 ∧ Bj r.2.2.1 ∧ Ah r.2.2.2.1 ∧ Ah r.2.2.2.2.1 ∧ Ah r.2.2.2.2.2.1 ∧ Ah r.2.2.2.2.2.2.1 ∧ AF r.2.2.2.2.2.2.2.1 ∧ Bl r.2.2.2.2.2.2.2.2.1 ∧ Bi r.2.2.2.2.2.2.2.2.2.1 ∧ Cf r.2.2.2.2.2.2.2.2.2.2.1 ∧ Cf r.2.2.2.2.2.2.2.2.2.2.2) (Ay.j1 a0 a0c1 a0c2 a0c3 a0c3c1 a0c3c2 a0c3c3 a0c3c4 a0c4 a0c4c1 a0c4c2 a0c5 a0c6 a1 a2 s1333) := by
 unfold Ay.j1
 exact Ak.bif (fun h1 =>
  Ak.bind (Ij ⟨h_a0.GI, h_a0.EI, h_a0.EP, h_a2, h_a0.Fp, h_a0.Ba⟩ h_a0c1 h_a0c2 h_a0c3 h_a0c3c1 h_a0c3c2 h_a0c3c3 h_a0c3c4 h_a0c4 h_a0c4c1 h_a0c4c2 h_a0c5 h_a0c6 h_a1 h_a2) (fun r1357 h2 =>
  Ak.mk ⟨h2, h_a0c2, h_a0c3, h_a0c3c1, h_a0c3c2, h_a0c3c3, h_a0c3c4, h_a0c4, h_a0c4c1, h_a0c4c2, h_a0c5, h_a0c6⟩)) (fun h1 =>
  Ak.bif (fun h3 =>
   Ak.bind (Qo h_a0c2 (CW _) h_a2) (fun r1497 h4 =>
   Ak.mk ⟨⟨h_a0.GI, h_a0.EI, h_a0.EP, h_a2, h_a0.Fp, h_a0.Ba⟩, h4, h_a0c3, h_a0c3c1, h_a0c3c2, h_a0c3c3, h_a0c3c4, h_a0c4, h_a0c4c1, h_a0c4c2, h_a0c5, h_a0c6⟩)) (fun h3 =>
   Ak.bif (fun h5 =>
    F6 h_a0 h_a0c2 h_a0c3 h_a0c3c1 h_a0c3c2 h_a0c3c3 h_a0c3c4 h_a0c4 h_a0c4c1 h_a0c4c2 h_a0c5 h_a0c6 h_a1 h_a2) (fun h5 =>
    Ak.bif (fun h6 =>
     F6 h_a0 h_a0c2 h_a0c3 h_a0c3c1 h_a0c3c2 h_a0c3c3 h_a0c3c4 h_a0c4 h_a0c4c1 h_a0c4c2 h_a0c5 h_a0c6 h_a1 h_a2) (fun h6 =>
     F6 h_a0 h_a0c2 h_a0c3 h_a0c3c1 h_a0c3c2 h_a0c3c3 h_a0c3c4 h_a0c4 h_a0c4c1 h_a0c4c2 h_a0c5 h_a0c6 h_a1 h_a2))))
theorem Iy {a0 : A7} {a0c1 : Ag} {a0c2 : Ac} {a0c3 : Al} {a0c3c1 : Aa} {a0c3c2 : Aa} {a0c3c3 : Aa} {a0c3c4 : Aa} {a0c4 : Ai} {a0c4c1 : Am} {a0c4c2 : An} {a0c5 : AL} {a0c6 : AL} {a1 : Int} {a2 : Int} (h_a0 : C9 a0) (h_a0c1 : De a0c1) (h_a0c2 : Ar a0c2) (h_a0c3 : Bj a0c3) (h_a0c3c1 : Ah a0c3c1) (h_a0c3c2 : Ah a0c3c2) (h_a0c3c3 : Ah a0c3c3) (h_a0c3c4 : Ah a0c3c4) (h_a0c4 : AF a0c4) (h_a0c4c1 : Bl a0c4c1) (h_a0c4c2 : Bi a0c4c2) (h_a0c5 : Cf a0c5) (h_a0c6 : Cf a0c6) (h_a1 : In .u16 a1) (h_a2 : In .u8 a2) : Ak (fun r => C9 r.1 ∧ Ar r.2.1 ∧ Bj r.2.2.1 ∧ Ah r.2.2.2.1 ∧ Ah r.2.2.2.2.1 ∧ Ah r.2.2.2.2.2.1 ∧ Ah r.2.2.2.2.2.2.1 ∧ AF r.2.2.2.2.2.2.2.1 ∧ Bl r.2.2.2.2.2.2.2.2.1 ∧ Bi r.2.2.2.2.2.2.2.2.2.1 ∧ Cf r.2.2.2.2.2.2.2.2.2.2.1 ∧ Cf r.2.2.2.2.2.2.2.2.2.2.2) (Ay.f a0 a0c1 a0c2 a0c3 a0c3c1 a0c3c2 a0c3c3 a0c3c4 a0c4 a0c4c1 a0c4c2 a0c5 a0c6 a1 a2) := by
 unfold Ay.f
 exact Ak.bif (fun h1 =>
  Ia h_a0 h_a0c1 h_a0c2 h_a0c3 h_a0c3c1 h_a0c3c2 h_a0c3c3 h_a0c3c4 h_a0c4 h_a0c4c1 h_a0c4c2 h_a0c5 h_a0c6 h_a1 h_a2) (fun h1 =>
  Ia h_a0 h_a0c1 h_a0c2 h_a0c3 h_a0c3c1 h_a0c3c2 h_a0c3c3 h_a0c3c4 h_a0c4 h_a0c4c1 h_a0c4c2 h_a0c5 h_a0c6 h_a1 h_a2)
theorem Lr {a0 : A7} {a0c1 : Ag} {a0c2 : Ac} {a0c3 : Al} {a0c3c1 : Aa} {a0c3c2 : Aa} {a0c3c3 : Aa} {a0c3c4 : Aa} {a0c4 : Ai} {a0c4c1 : Am} {a0c4c2 : An} {a0c5 : AL} {a0c6 : AL} (h_a0 : C9 a0) (h_a0c1 : De a0c1) (h_a0c2 : Ar a0c2) (h_a0c3 : Bj a0c3) (h_a0c3c1 : Ah a0c3c1) (h_a0c3c2 : Ah a0c3c2) (h_a0c3c3 : Ah a0c3c3) (h_a0c3c4 : Ah a0c3c4) (h_a0c4 : AF a0c4) (h_a0c4c1 : Bl a0c4c1) (h_a0c4c2 : Bi a0c4c2) (h_a0c5 : Cf a0c5) (h_a0c6 : Cf a0c6) : Ak (fun r => C9 r.2.1 ∧ Ar r.2.2.1 ∧ Bj r.2.2.2.1 ∧ Ah r.2.2.2.2.1 ∧ Ah r.2.2.2.2.2.1 ∧ Ah r.2.2.2.2.2.2.1 ∧ Ah r.2.2.2.2.2.2.2.1 ∧ AF r.2.2.2.2.2.2.2.2.1 ∧ Bl r.2.2.2.2.2.2.2.2.2.1 ∧ Bi r.2.2.2.2.2.2.2.2.2.2.1 ∧ Cf r.2.2.2.2.2.2.2.2.2.2.2.1 ∧ Cf r.2.2.2.2.2.2.2.2.2.2.2.2) (C7.f a0 a0c1 a0c2 a0c3 a0c3c1 a0c3c2 a0c3c3 a0c3c4 a0c4 a0c4c1 a0c4c2 a0c5 a0c6) := by
 unfold C7.f
 exact Ak.bif (fun h1 =>
  Ak.mk ⟨⟨h_a0.GI, h_a0.EI, h_a0.EP, h_a0.CU, h_a0.Fp, h_a0.Ba⟩, h_a0c2, h_a0c3, h_a0c3c1, h_a0c3c2, h_a0c3c3, h_a0c3c4, h_a0c4, h_a0c4c1, h_a0c4c2, h_a0c5, h_a0c6⟩) (fun h1 =>
  Ak.bif (fun h2 =>
   Ak.mk ⟨h_a0, h_a0c2, h_a0c3, h_a0c3c1, h_a0c3c2, h_a0c3c3, h_a0c3c4, h_a0c4, h_a0c4c1, h_a0c4c2, h_a0c5, h_a0c6⟩) (fun h2 =>
   Ak.bif (fun h3 =>
    Ak.bind (FJ ⟨h_a0.GI, h_a0.EI, h_a0.EP, h_a0.CU, h_a0.Fp, h_a0.Ba⟩ h_a0c1 h_a0c2 h_a0c3 h_a0c3c1 h_a0c3c2 h_a0c3c3 h_a0c3c4 h_a0c4 h_a0c4c1 h_a0c4c2 h_a0c5 h_a0c6 (CY _)) (fun r1313 h4 =>
    Ak.mk ⟨⟨h4.2.1.GI, h4.2.1.EI, h4.2.1.EP, h4.2.1.CU, h4.2.1.Fp, h4.1⟩, h4.2.2.1, h4.2.2.2.1, h_a0c3c1, h_a0c3c2, h_a0c3c3, h_a0c3c4, h4.2.2.2.2.1, h_a0c4c1, h_a0c4c2, h4.2.2.2.2.2.1, h4.2.2.2.2.2.2⟩)) (fun h3 =>
    Ak.bind (Iy ⟨h_a0.GI, h_a0.EI, h_a0.EP, h_a0.CU, h_a0.Fp, h_a0.Ba⟩ h_a0c1 h_a0c2 h_a0c3 h_a0c3c1 h_a0c3c2 h_a0c3c3 h_a0c3c4 h_a0c4 h_a0c4c1 h_a0c4c2 h_a0c5 h_a0c6 (B7 rfl rfl) h_a0.Ba) (fun r1952 h5 =>
    Ak.mk ⟨h5.1, h5.2.1, h5.2.2.1, h5.2.2.2.1, h5.2.2.2.2.1, h5.2.2.2.2.2.1, h5.2.2.2.2.2.2.1, h5.2.2.2.2.2.2.2.1, h5.2.2.2.2.2.2.2.2.1, h5.2.2.2.2.2.2.2.2.2.1, h5.2.2.2.2.2.2.2.2.2.2.1, h5.2.2.2.2.2.2.2.2.2.2.2⟩))))
theorem RL {a0 : Ag} (h_a0 : AZ a0) : Ak (fun r => FM r) (KT.f a0) := by
 unfold KT.f
 exact Ak.mk ⟨h_a0.Dl.Fv, (B7 rfl rfl)⟩
theorem Q6 {a0 : Ag} (h_a0 : AZ a0) : Ak (fun r => FM r) (Jk.f a0) := by
 unfold Jk.f
 exact Ak.mk ⟨(CY _), (B7 rfl rfl)⟩
theorem Qv {a0 : Ag} (h_a0 : AZ a0) : Ak (fun r => FM r) (IW.f a0) := by
 unfold IW.f
 exact Ak.mk ⟨h_a0.AN, (B7 rfl rfl)⟩
theorem Jo {a0 : Ag} {a1 : Int} (h_a0 : AZ a0) (h_a1 : In .u8 a1) : Ak (fun r => FM r) (EA.f a0 a1) := by
 unfold EA.f
 exact Ak.mk ⟨(CY _), h_a1⟩
theorem Q0 {a0 : Ag} (h_a0 : AZ a0) : Ak (fun r => FM r) (Jn.f a0) := by
 unfold Jn.f
 exact Ak.bind (Jo h_a0 (CW _)) (fun r2009 h1 =>
 Ak.mk h1)
theorem QN {a0 : Ag} (h_a0 : AZ a0) : Ak (fun r => FM r) (JG.f a0) := by
 unfold JG.f
 exact Ak.bind (Jo h_a0 (CW _)) (fun r2021 h1 =>
 Ak.mk h1)
theorem Qs {a0 : Ag} (h_a0 : AZ a0) : Ak (fun r => FM r) (IQ.f a0) := by
 unfold IQ.f
 exact Ak.bind (Jo h_a0 h_a0.Dl.D8.F5) (fun r2033 h1 =>
 Ak.mk h1)
theorem QI {a0 : Ag} (h_a0 : AZ a0) : Ak (fun r => FM r) (JA.f a0) := by
 unfold JA.f
 exact Ak.mk ⟨h_a0.BJ, (B7 rfl rfl)⟩
theorem Q5 {a0 : Ag} (h_a0 : AZ a0) : Ak (fun r => FM r) (Jm.f a0) := by
 unfold Jm.f
 exact Ak.mk ⟨h_a0.BD, (B7 rfl rfl)⟩
theorem Td {a0 : Az} {a1 : Int} (h_a0 : Bp a0) (h_a1 : In .u8 a1) : Ak (fun r => In .u8 r) (Nc.f a0 a1) := by
 unfold Nc.f
 exact Ak.bif (fun h1 =>
  Ak.mk h_a0.ES) (fun h1 =>
  Ak.bif (fun h2 =>
   Ak.mk h_a0.DD) (fun h2 =>
   Ak.bif (fun h3 =>
    Ak.mk h_a0.Fs) (fun h3 =>
    Ak.bif (fun h4 =>
     Ak.mk (CW _)) (fun h4 =>
     Ak.mk (B7 rfl rfl)))))
theorem Qu {a0 : Ag} (h_a0 : AZ a0) : Ak (fun r => FM r) (IV.f a0) := by
 unfold IV.f
 exact Ak.bind (Td h_a0.Dl.D8 h_a0.ER.Mi) (fun r2063 h1 =>
 Ak.mk ⟨h_a0.BD, h1⟩)
theorem RF {a0 : Ag} (h_a0 : AZ a0) : Ak (fun r => FM r) (KG.f a0) := by
 unfold KG.f
 exact Ak.mk ⟨h_a0.BD, h_a0.Gz⟩
theorem RO {a0 : Ag} (h_a0 : AZ a0) : Ak (fun r => FM r) (KF.f a0) := by
 unfold KF.f
 exact Ak.bind (Jo h_a0 h_a0.Dl.D8.ES) (fun r2087 h1 =>
 Ak.mk h1)
theorem Qh {a0 : Ag} (h_a0 : AZ a0) : Ak (fun r => FM r) (I4.f a0) := by
 unfold I4.f
 exact Ak.bind (Jo h_a0 (CW _)) (fun r2099 h1 =>
 Ak.mk h1)
theorem Rs {a0 : Ag} (h_a0 : AZ a0) : Ak (fun r => FM r) (JU.f a0) := by
 unfold JU.f
 exact Ak.mk ⟨(B7 rfl rfl), (B7 rfl rfl)⟩
theorem Rj {a0 : Ag} (h_a0 : De a0) : Ak (fun r => FM r) (Ka.f a0) := by
 unfold Ka.f
 exact Ak.Aaa h_a0.w.F4 h_a0.n (fun z1972 h1 =>
 Ak.bif (fun h2 =>
  Ak.bind (RL h_a0.w) (fun r1982 h3 =>
  Ak.mk h3)) (fun h2 =>
  Ak.bif (fun h4 =>
   Ak.bind (Q6 h_a0.w) (fun r1990 h5 =>
   Ak.mk h5)) (fun h4 =>
   Ak.bif (fun h6 =>
    Ak.bind (Qv h_a0.w) (fun r1998 h7 =>
    Ak.mk h7)) (fun h6 =>
    Ak.bif (fun h8 =>
     Ak.bind (Q0 h_a0.w) (fun r2013 h9 =>
     Ak.mk h9)) (fun h8 =>
     Ak.bif (fun h10 =>
      Ak.bind (QN h_a0.w) (fun r2025 h11 =>
      Ak.mk h11)) (fun h10 =>
      Ak.bif (fun h12 =>
       Ak.bind (Qs h_a0.w) (fun r2037 h13 =>
       Ak.mk h13)) (fun h12 =>
       Ak.bif (fun h14 =>
        Ak.bind (QI h_a0.w) (fun r2045 h15 =>
        Ak.mk h15)) (fun h14 =>
        Ak.bif (fun h16 =>
         Ak.bind (Q5 h_a0.w) (fun r2053 h17 =>
         Ak.mk h17)) (fun h16 =>
         Ak.bif (fun h18 =>
          Ak.bind (Qu h_a0.w) (fun r2071 h19 =>
          Ak.mk h19)) (fun h18 =>
          Ak.bif (fun h20 =>
           Ak.bind (RF h_a0.w) (fun r2079 h21 =>
           Ak.mk h21)) (fun h20 =>
           Ak.bif (fun h22 =>
            Ak.bind (RO h_a0.w) (fun r2091 h23 =>
            Ak.mk h23)) (fun h22 =>
            Ak.bif (fun h24 =>
             Ak.bind (Qh h_a0.w) (fun r2103 h25 =>
             Ak.mk h25)) (fun h24 =>
             Ak.bif (fun h26 =>
              Ak.bind (Rs h_a0.w) (fun r2111 h27 =>
              Ak.mk h27)) (fun h26 =>
              WT h1 h2 h4 h6 h8 h10 h12 h14 h16 h18 h20 h22 h24 h26))))))))))))))
def Xk (o : Option OX) : Bool := match o with
  | some c => (decide (0 ≤ c.Mi) && decide (c.Mi ≤ 255)) && (decide (0 ≤ c.He) && decide (c.He ≤ 255))
  | none => false
theorem Yl : ∀ b : Fin 256, Xk (S8.f (b.val : Int)) = true := by decide +kernel
theorem Vk {a0 : Int} (h : In .u8 a0) : Ak (fun r => TZ r) (S8.f a0) := by
 have h := Cq h
 obtain ⟨n, rfl⟩ := Int.eq_ofNat_of_zero_le h.1
 have h2 := Yl ⟨n, by omega⟩
 simp only [] at h2
 cases e : S8.f (n : Int) with
 | none => rw [e] at h2; cases h2
 | some c =>
  rw [e] at h2
  simp only [Xk, Bool.and_eq_true, decide_eq_true_eq] at h2
  exact Ak.mk ⟨⟨h2.1.1, h2.1.2⟩, ⟨h2.2.1, h2.2.2⟩⟩
theorem LW {a0 : Int} (h_a0 : In .u8 a0) : Ak (fun r => Bt 0 6 r ∧ ((r = 1 ∧ a0 ≤ 18) ∨ (r = 2 ∧ 19 ≤ a0 ∧ a0 ≤ 30) ∨ (r = 5 ∧ 52 ≤ a0 ∧ a0 ≤ 59) ∨ (r ≠ 1 ∧ r ≠ 2 ∧ r ≠ 5))) (Jr.f a0) := by
 unfold Jr.f
 exact Ak.bif (fun h1 =>
  Ak.mk ⟨(EZ (x := 1) (by have e0 := Cq h_a0; have e1 := of_decide_eq_true h1; omega)), (by have e0 := Cq h_a0; have e1 := of_decide_eq_true h1; omega)⟩) (fun h1 =>
  Ak.bif (fun h2 =>
   Ak.mk ⟨(EZ (x := 2) (by have e0 := Cq h_a0; have e1 := of_decide_eq_false h1; have e2 := of_decide_eq_true h2; omega)), (by have e0 := Cq h_a0; have e1 := of_decide_eq_false h1; have e2 := of_decide_eq_true h2; omega)⟩) (fun h2 =>
   Ak.bif (fun h3 =>
    Ak.mk ⟨(EZ (x := 3) (by have e0 := Cq h_a0; have e1 := of_decide_eq_false h1; have e2 := of_decide_eq_false h2; have e3 := of_decide_eq_true h3; omega)), (by have e0 := Cq h_a0; have e1 := of_decide_eq_false h1; have e2 := of_decide_eq_false h2; have e3 := of_decide_eq_true h3; omega)⟩) (fun h3 =>
    Ak.bif (fun h4 =>
     Ak.mk ⟨(EZ (x := 4) (by have e0 := Cq h_a0; have e1 := of_decide_eq_false h1; have e2 := of_decide_eq_false h2; have e3 := of_decide_eq_false h3; have e4 := of_decide_eq_true h4; omega)), (by have e0 := Cq h_a0; have e1 := of_decide_eq_false h1; have e2 := of_decide_eq_false h2; have e3 := of_decide_eq_false h3; have e4 := of_decide_eq_true h4; omega)⟩) (fun h4 =>
     Ak.bif (fun h5 =>
      Ak.mk ⟨(EZ (x := 5) (by have e0 := Cq h_a0; have e1 := of_decide_eq_false h1; have e2 := of_decide_eq_false h2; have e3 := of_decide_eq_false h3; have e4 := of_decide_eq_false h4; have e5 := of_decide_eq_true h5; omega)), (by have e0 := Cq h_a0; have e1 := of_decide_eq_false h1; have e2 := of_decide_eq_false h2; have e3 := of_decide_eq_false h3; have e4 := of_decide_eq_false h4; have e5 := of_decide_eq_true h5; omega)⟩) (fun h5 =>
      Ak.bif (fun h6 =>
       Ak.mk ⟨(EZ (x := 6) (by have e0 := Cq h_a0; have e1 := of_decide_eq_false h1; have e2 := of_decide_eq_false h2; have e3 := of_decide_eq_false h3; have e4 := of_decide_eq_false h4; have e5 := of_decide_eq_false h5; have e6 := of_decide_eq_true h6; omega)), (by have e0 := Cq h_a0; have e1 := of_decide_eq_false h1; have e2 := of_decide_eq_false h2; have e3 := of_decide_eq_false h3; have e4 := of_decide_eq_false h4; have e5 := of_decide_eq_false h5; have e6 := of_decide_eq_true h6; omega)⟩) (fun h6 =>
       Ak.mk ⟨(EZ (x := 0) (by have e0 := Cq h_a0; have e1 := of_decide_eq_false h1; have e2 := of_decide_eq_false h2; have e3 := of_decide_eq_false h3; have e4 := of_decide_eq_false h4; have e5 := of_decide_eq_false h5; have e6 := of_decide_eq_false h6; omega)), (by have e0 := Cq h_a0; have e1 := of_decide_eq_false h1; have e2 := of_decide_eq_false h2; have e3 := of_decide_eq_false h3; have e4 := of_decide_eq_false h4; have e5 := of_decide_eq_false h5; have e6 := of_decide_eq_false h6; omega)⟩))))))
theorem Ny {a0 : Ag} {s2199 : Int × Int} {s2225 : Bool} (h_a0 : AZ a0) (hc_1 : s2199 = (((273 : Int), (274 : Int)) : Int × Int) ∨ s2199 = (((275 : Int), (276 : Int)) : Int × Int)) : Ak (fun r => WU r) (Ch.j3 a0 s2199 s2225) := by
 unfold Ch.j3
 rcases hc_1 with hc | hc <;> subst hc <;> exact Ak.bif (fun h1 =>
  Ak.mk (Rz rfl rfl)) (fun h1 =>
  Ak.bif (fun h2 =>
   Ak.mk (Rz rfl rfl)) (fun h2 =>
   Ak.bif (fun h3 =>
    Ak.mk (Rz rfl rfl)) (fun h3 =>
    Ak.mk (Rz rfl rfl))))
theorem Nu {a0 : Ag} {s2199 : Int × Int} {s2210 : Bool} (h_a0 : AZ a0) (hc_1 : s2199 = (((273 : Int), (274 : Int)) : Int × Int) ∨ s2199 = (((275 : Int), (276 : Int)) : Int × Int)) : Ak (fun r => WU r) (Ch.j2 a0 s2199 s2210) := by
 unfold Ch.j2
 rcases hc_1 with hc | hc <;> subst hc <;> exact Ak.bif (fun h1 =>
  Ak.mk (Rz rfl rfl)) (fun h1 =>
  Ak.bif (fun h2 =>
   Ak.bind (LW h_a0.ER.Mi) (fun r2218 h3 =>
   Ak.bif (fun h4 =>
    Ak.mk (Rz rfl rfl)) (fun h4 =>
    Ak.mk (Rz rfl rfl)))) (fun h2 =>
   Ak.bif (fun h5 =>
    Ny h_a0 (by first | exact Or.inl rfl | exact Or.inr rfl)) (fun h5 =>
    Ny h_a0 (by first | exact Or.inl rfl | exact Or.inr rfl))))
theorem Lp {a0 : Ag} {s2199 : Int × Int} (h_a0 : AZ a0) (hc_1 : s2199 = (((273 : Int), (274 : Int)) : Int × Int) ∨ s2199 = (((275 : Int), (276 : Int)) : Int × Int)) : Ak (fun r => WU r) (Ch.j1 a0 s2199) := by
 unfold Ch.j1
 rcases hc_1 with hc | hc <;> subst hc <;> exact Ak.bif (fun h1 =>
  Ak.mk (Rz rfl rfl)) (fun h1 =>
  Ak.bif (fun h2 =>
   Nu h_a0 (by first | exact Or.inl rfl | exact Or.inr rfl)) (fun h2 =>
   Nu h_a0 (by first | exact Or.inl rfl | exact Or.inr rfl)))
theorem Q4 {a0 : Ag} (h_a0 : AZ a0) : Ak (fun r => WU r) (Ch.f a0) := by
 unfold Ch.f
 exact Ak.bif (fun h1 =>
  Lp h_a0 (by first | exact Or.inl rfl | exact Or.inr rfl)) (fun h1 =>
  Ak.bif (fun h2 =>
   Lp h_a0 (by first | exact Or.inl rfl | exact Or.inr rfl)) (fun h2 =>
   Lp h_a0 (by first | exact Or.inl rfl | exact Or.inr rfl)))
theorem RE {a0 : Ag} (h_a0 : AZ a0) : Ak (fun r => Yk r.1 ∧ AZ r.2) (KL.f a0) := by
 unfold KL.f
 exact Ak.bif (fun h1 =>
  Ak.bif (fun h2 =>
   Ak.mk ⟨(KZ rfl rfl rfl), h_a0⟩) (fun h2 =>
   Ak.mk ⟨(KZ rfl rfl rfl), h_a0⟩)) (fun h1 =>
  Ak.bif (fun h3 =>
   Ak.mk ⟨(KZ rfl rfl rfl), h_a0⟩) (fun h3 =>
   Ak.bif (fun h4 =>
    Ak.mk ⟨(KZ rfl rfl rfl), h_a0⟩) (fun h4 =>
    Ak.bif (fun h5 =>
     Ak.mk ⟨(KZ rfl rfl rfl), h_a0⟩) (fun h5 =>
     Ak.bif (fun h6 =>
      Ak.mk ⟨(KZ rfl rfl rfl), h_a0⟩) (fun h6 =>
      Ak.bif (fun h7 =>
       Ak.mk ⟨(KZ rfl rfl rfl), h_a0⟩) (fun h7 =>
       Ak.bif (fun h8 =>
        Ak.mk ⟨(KZ rfl rfl rfl), h_a0⟩) (fun h8 =>
        Ak.bif (fun h9 =>
         Ak.mk ⟨(KZ rfl rfl rfl), h_a0⟩) (fun h9 =>
         Ak.bif (fun h10 =>
          Ak.mk ⟨(KZ rfl rfl rfl), ⟨h_a0.Dl, h_a0.B4, h_a0.F4, h_a0.ER, h_a0.BD, h_a0.BJ, (B7 rfl rfl), h_a0.Ce, h_a0.Gz⟩⟩) (fun h10 =>
          Ak.mk ⟨(KZ rfl rfl rfl), ⟨h_a0.Dl, h_a0.B4, h_a0.F4, h_a0.ER, h_a0.BD, h_a0.BJ, h_a0.AN, h_a0.Ce, h_a0.Gz⟩⟩)))))))))
theorem R9 {a0 : Ag} (h_a0 : AZ a0) : Ak (fun r => Yk r.1 ∧ AZ r.2) (KU.f a0) := by
 unfold KU.f
 exact Ak.bind (LW h_a0.ER.Mi) (fun r2246 h1 =>
 Ak.bif (fun h2 =>
  Ak.mk ⟨(KZ rfl rfl rfl), h_a0⟩) (fun h2 =>
  Ak.bif (fun h3 =>
   Ak.mk ⟨(KZ rfl rfl rfl), h_a0⟩) (fun h3 =>
   Ak.bif (fun h4 =>
    Ak.bind (RE h_a0) (fun r2281 h5 =>
    Ak.mk ⟨h5.1, h5.2⟩)) (fun h4 =>
    Ak.bif (fun h6 =>
     Ak.mk ⟨(KZ rfl rfl rfl), h_a0⟩) (fun h6 =>
     Ak.bif (fun h7 =>
      Ak.mk ⟨(KZ rfl rfl rfl), h_a0⟩) (fun h7 =>
      Ak.bind (LW h_a0.ER.Mi) (fun r2292 h8 =>
      Ak.bif (fun h9 =>
       Ak.mk ⟨(KZ rfl rfl rfl), h_a0⟩) (fun h9 =>
       Ak.mk ⟨(KZ rfl rfl rfl), h_a0⟩))))))))
theorem Ro {a0 : Ag} {a1 : Int} (h_a0 : AZ a0) (h_a1 : In .u8 a1) : Ak (fun r => AZ r) (Kk.f a0 a1) := by
 unfold Kk.f
 exact Ak.bind (Vk h_a1) (fun r2192 h1 =>
 Ak.bind (Q4 ⟨⟨h_a0.Dl.D8, (CY _)⟩, h_a0.B4, h_a0.F4, h1, h_a0.BD, h_a0.BJ, h_a0.AN, h_a0.Ce, h_a0.Gz⟩) (fun r2238 h2 =>
 Ak.bind (R9 ⟨⟨h_a0.Dl.D8, (CY _)⟩, h_a0.B4, h_a0.F4, h1, h_a0.BD, h_a0.BJ, h_a0.AN, h_a0.Ce, h_a0.Gz⟩) (fun r2300 h3 =>
 Ak.bind (Ak.lim (by have e0 := h2.2; have e1 := h3.1.1.2; omega)) (fun _ _ =>
 Ak.mk ⟨h3.2.Dl, h3.2.B4, (YK h2 h3.1), h3.2.ER, h3.2.BD, h3.2.BJ, h3.2.AN, h3.2.Ce, h3.2.Gz⟩))))
theorem R7 {a0 : Ag} {a1 : Int} (h_a0 : AZ a0) (h_a1 : In .u8 a1) : Ak (fun _ => True) (K9.f a0 a1) := by
 unfold K9.f
 exact Ak.mk trivial
theorem RA {a0 : Ag} {a1 : Int} (h_a0 : AZ a0) (h_a1 : In .u8 a1) : Ak (fun r => AZ r) (KB.f a0 a1) := by
 unfold KB.f
 exact Ak.mk ⟨⟨⟨h_a0.Dl.D8.ES, h_a0.Dl.D8.DD, h_a0.Dl.D8.Fs, (CW _), h_a0.Dl.D8.F5⟩, h_a0.Dl.Fv⟩, h_a0.B4, h_a0.F4, h_a0.ER, h_a0.BD, h_a0.BJ, h_a0.AN, h_a0.Ce, h_a0.Gz⟩
theorem Rh {a0 : Ag} {a1 : Int} (h_a0 : AZ a0) (h_a1 : In .u8 a1) : Ak (fun r => AZ r) (JX.f a0 a1) := by
 unfold JX.f
 exact Ak.mk ⟨h_a0.Dl, h_a0.B4, h_a0.F4, h_a0.ER, h_a0.BD, h_a0.BJ, (CY _), h_a1, h_a0.Gz⟩
theorem O3 {a0 : Ag} {a1 : Int} (h_a0 : AZ a0) (h_a1 : In .u8 a1) : Ak (fun r => AZ r) (IC.f a0 a1) := by
 unfold IC.f
 exact Ak.mk ⟨⟨h_a0.Dl.D8, (CY _)⟩, h_a0.B4, h_a0.F4, h_a0.ER, h_a0.BD, h_a0.BJ, h_a0.AN, h_a0.Ce, h_a0.Gz⟩
theorem Dv {a0 : Az} {a1 : Int} {a2 : Bool} (h_a0 : Bp a0) (h_a1 : In .u8 a1) : Ak (fun r => Bp r) (Cr.f a0 a1 a2) := by
 unfold Cr.f
 exact Ak.bif (fun h1 =>
  Ak.mk ⟨h_a0.ES, h_a0.DD, h_a0.Fs, h_a0.CV, (CW _)⟩) (fun h1 =>
  Ak.mk ⟨h_a0.ES, h_a0.DD, h_a0.Fs, h_a0.CV, (CW _)⟩)
theorem Ri {a0 : Ag} {a1 : Int} (h_a0 : AZ a0) (h_a1 : In .u8 a1) : Ak (fun r => AZ r) (Kh.f a0 a1) := by
 unfold Kh.f
 exact Ak.bind (O3 h_a0 h_a1) (fun r2345 h1 =>
 Ak.bind (Dv h1.Dl.D8 (B7 rfl rfl)) (fun r2355 h2 =>
 Ak.mk ⟨⟨h2, h1.Dl.Fv⟩, h1.B4, h1.F4, h1.ER, h1.BD, h1.BJ, h1.AN, h1.Ce, h1.Gz⟩))
theorem R5 {a0 : Ag} {a1 : Int} (h_a0 : AZ a0) (h_a1 : In .u8 a1) : Ak (fun r => AZ r) (KP.f a0 a1) := by
 unfold KP.f
 exact Ak.mk ⟨h_a0.Dl, h_a0.B4, h_a0.F4, h_a0.ER, (CY _), h_a0.BJ, h_a0.AN, h_a0.Ce, h_a0.Gz⟩
theorem Oq {a0 : Ag} {a1 : Int} (h_a0 : AZ a0) (h_a1 : In .u8 a1) : Ak (fun r => AZ r) (Fw.f a0 a1) := by
 unfold Fw.f
 exact Ak.mk ⟨h_a0.Dl, h_a0.B4, h_a0.F4, h_a0.ER, (CY _), h_a0.BJ, h_a0.AN, h_a0.Ce, h_a0.Gz⟩
theorem MF {a0 : Ag} {a1 a2 : Int} (h_a0 : De a0) (h_a1 : In .u8 a1) (h_a2 : In .u8 a2) : Ak (fun r => AZ r) (G4.f a0 a1 a2) := by
 have h := h_a0.w
 unfold G4.f Fw.f
 rw [Option.bind_some]
 refine Ak.bind (LW h.ER.Mi) (fun r _ => Ak.bif (fun _ => Ak.bif (fun _ => ?_) (fun _ => Ak.mk ⟨h.Dl, h.B4, h.F4, h.ER, (CY _), (CY _), h.AN, h.Ce, h.Gz⟩)) (fun _ => Ak.mk ⟨h.Dl, h.B4, h.F4, h.ER, (CY _), (CY _), h.AN, h.Ce, h.Gz⟩))
 have hl := h.F4
 have hn := h_a0.n
 refine Ak.bind (Q := Y5) ?_ (fun t ht => Ak.mk ⟨h.Dl, h.B4, ht, h.ER, (CY _), (CY _), h.AN, h.Ce, h.Gz⟩)
 simp only []
 cases e : a0.F4 with
 | nil => rw [e] at hn; simp only [List.length_nil] at hn; omega
 | cons z t =>
  rw [e] at hl
  refine ⟨t, ?_, (Vb hl).2.2⟩
  unfold Kot.Sk
  rw [if_pos ⟨by omega, by simp only [List.length_cons]; omega, by omega⟩]
  simp
theorem Rn {a0 : Ag} {a1 : Int} (h_a0 : De a0) (h_a1 : In .u8 a1) : Ak (fun r => AZ r) (Kc.f a0 a1) := by
 unfold Kc.f
 exact Ak.bind (MF ⟨⟨⟨h_a0.w.Dl.D8, (CY _)⟩, h_a0.w.B4, h_a0.w.F4, h_a0.w.ER, h_a0.w.BD, h_a0.w.BJ, h_a0.w.AN, h_a0.w.Ce, h_a0.w.Gz⟩, h_a0.n⟩ h_a1 h_a0.w.Dl.D8.DD) (fun r2424 h1 =>
 Ak.mk h1)
theorem R6 {a0 : Ag} {a1 : Int} (h_a0 : AZ a0) (h_a1 : In .u8 a1) : Ak (fun r => AZ r) (K7.f a0 a1) := by
 unfold K7.f
 exact Ak.mk ⟨h_a0.Dl, h_a0.B4, h_a0.F4, h_a0.ER, (CY _), h_a0.BJ, h_a0.AN, h_a0.Ce, h_a0.Gz⟩
theorem Re {a0 : Ag} {a1 : Int} (h_a0 : De a0) (h_a1 : In .u8 a1) : Ak (fun r => AZ r) (JW.f a0 a1) := by
 unfold JW.f
 exact Ak.bind (MF ⟨⟨⟨h_a0.w.Dl.D8, (CY _)⟩, h_a0.w.B4, h_a0.w.F4, h_a0.w.ER, h_a0.w.BD, h_a0.w.BJ, h_a0.w.AN, h_a0.w.Ce, h_a0.w.Gz⟩, h_a0.n⟩ h_a1 h_a0.w.Dl.D8.Fs) (fun r2446 h1 =>
 Ak.mk h1)
theorem RN {a0 : Ag} {a1 : Int} (h_a0 : AZ a0) (h_a1 : In .u8 a1) : Ak (fun r => AZ r) (KA.f a0 a1) := by
 unfold KA.f
 exact Ak.mk ⟨⟨h_a0.Dl.D8, (CY _)⟩, h_a0.B4, h_a0.F4, h_a0.ER, (CY _), h_a0.BJ, h_a0.AN, h_a0.Ce, h_a0.Gz⟩
theorem Ru {a0 : Ag} {a1 : Int} (h_a0 : AZ a0) (h_a1 : In .u8 a1) : Ak (fun r => AZ r) (Km.f a0 a1) := by
 unfold Km.f
 exact Ak.mk ⟨⟨h_a0.Dl.D8, (CY _)⟩, h_a0.B4, h_a0.F4, h_a0.ER, h_a0.BD, h_a0.BJ, h_a0.AN, h_a1, h_a0.Gz⟩
theorem QU {a0 : Ag} {a1 : Int} (h_a0 : AZ a0) (h_a1 : In .u8 a1) : Ak (fun r => AZ r) (J4.f a0 a1) := by
 unfold J4.f
 exact Ak.bind (Oq h_a0 h_a1) (fun r2476 h1 =>
 Ak.mk ⟨⟨h1.Dl.D8, (CY _)⟩, h1.B4, h1.F4, h1.ER, h1.BD, h1.BJ, h1.AN, h1.Ce, h1.Gz⟩)
theorem Rf {a0 : Ag} {a1 : Int} (h_a0 : AZ a0) (h_a1 : In .u8 a1) : Ak (fun r => AZ r) (Ke.f a0 a1) := by
 unfold Ke.f
 exact Ak.mk ⟨h_a0.Dl, h_a0.B4, h_a0.F4, h_a0.ER, (CY _), h_a0.BJ, h_a0.AN, h_a1, h_a0.Gz⟩
theorem Rc {a0 : Ag} {a1 : Int} (h_a0 : De a0) (h_a1 : In .u8 a1) : Ak (fun r => AZ r) (Kg.f a0 a1) := by
 unfold Kg.f
 exact Ak.bind (MF h_a0 h_a1 h_a0.w.Dl.D8.Fs) (fun r2505 h1 =>
 Ak.mk h1)
theorem SS {a0 : Az} {a1 : Int} (h_a0 : Bp a0) (h_a1 : In .u8 a1) : Ak (fun _ => True) (MY.f a0 a1) := by
 unfold MY.f
 exact Ak.bind (LW h_a1) (fun r2521 h1 =>
 Ak.bif (fun h2 =>
  Ak.mk trivial) (fun h2 =>
  Ak.bind (Ak.IF (Q := In .u8) (n := 4) (by have e0 := Cq h_a1; have e1 := RU (a1 - 52); have e2 := Cq (CW _ : In .u8 (quo .u8 (IntKind.wrap .u8 (a1 - 52)) 2)); have e3 := V4 (IntKind.wrap .u8 (a1 - 52)) 2 (by decide); have e4 := Cu h1.1; have e5 := Ei h2; have e6 := h1.2; omega) (by have e0 := Cq h_a1; have e1 := RU (a1 - 52); have e2 := Cq (CW _ : In .u8 (quo .u8 (IntKind.wrap .u8 (a1 - 52)) 2)); have e3 := V4 (IntKind.wrap .u8 (a1 - 52)) 2 (by decide); have e4 := Cu h1.1; have e5 := Ei h2; have e6 := h1.2; omega) rfl (Yh rfl)) (fun z2525 h3 =>
  Ak.bnd (fun x2527 e_x2527 =>
   Ak.mk trivial))))
theorem QO {a0 : Ag} {a1 : Int} (h_a0 : AZ a0) (h_a1 : In .u8 a1) : Ak (fun r => AZ r) (JF.f a0 a1) := by
 unfold JF.f
 exact Ak.bind (SS h_a0.Dl.D8 h_a0.ER.Mi) (fun r2528 _ =>
 Ak.bif (fun h2 =>
  Ak.mk ⟨⟨h_a0.Dl.D8, (CY _)⟩, h_a0.B4, h_a0.F4, h_a0.ER, h_a0.BD, h_a0.BJ, h_a0.AN, h_a0.Ce, h_a0.Gz⟩) (fun h2 =>
  Ak.mk ⟨⟨h_a0.Dl.D8, (CY _)⟩, h_a0.B4, (UK rfl), h_a0.ER, h_a0.BD, h_a0.BJ, h_a0.AN, h_a0.Ce, h_a1⟩))
theorem Je {a0 : Az} {a1 : Int} (h_a0 : Bp a0) (h_a1 : In .u8 a1) : Ak (fun r => Bp r) (Ff.f a0 a1) := by
 unfold Ff.f
 exact Ak.bind (Dv h_a0 (B7 rfl rfl)) (fun r2593 h1 =>
 Ak.bind (Dv h1 (B7 rfl rfl)) (fun r2597 h2 =>
 Ak.mk h2))
theorem L5 {a0 : Az} {a1 : Int} {a2 : Bool} (h_a0 : Bp a0) (h_a1 : In .u8 a1) : Ak (fun r => Bp r.1 ∧ In .u8 r.2) (Gh.f a0 a1 a2) := by
 unfold Gh.f
 exact Ak.bind (Dv h_a0 (B7 rfl rfl)) (fun r2585 h1 =>
 Ak.bind (Je h1 h_a1) (fun r2601 h2 =>
 Ak.mk ⟨h2, h_a1⟩))
theorem QD {a0 : Az} {a1 : Int} (h_a0 : Bp a0) (h_a1 : In .u8 a1) : Ak (fun r => Bp r.1 ∧ In .u8 r.2) (M6.f a0 a1) := by
 unfold M6.f
 exact Ak.bind (L5 h_a0 (CW _)) (fun r2605 h1 =>
 Ak.mk ⟨h1.1, h1.2⟩)
theorem OU {a0 : Az} {a1 : Int} (h_a0 : Bp a0) (h_a1 : In .u8 a1) : Ak (fun r => Bp r.1 ∧ In .u8 r.2) (Jv.f a0 a1) := by
 unfold Jv.f
 exact Ak.bind (L5 h_a0 (Vd h_a1)) (fun r2624 h1 =>
 Ak.mk ⟨h1.1, h1.2⟩)
theorem QH {a0 : Az} {a1 : Int} (h_a0 : Bp a0) (h_a1 : In .u8 a1) : Ak (fun r => Bp r.1 ∧ In .u8 r.2) (M3.f a0 a1) := by
 unfold M3.f
 exact Ak.bind (L5 h_a0 (CW _)) (fun r2643 h1 =>
 Ak.mk ⟨h1.1, h1.2⟩)
theorem QJ {a0 : Az} {a1 : Int} (h_a0 : Bp a0) (h_a1 : In .u8 a1) : Ak (fun r => Bp r.1 ∧ In .u8 r.2) (Mo.f a0 a1) := by
 unfold Mo.f
 exact Ak.bind (L5 h_a0 (CW _)) (fun r2662 h1 =>
 Ak.mk ⟨h1.1, h1.2⟩)
theorem QF {a0 : Az} {a1 : Int} (h_a0 : Bp a0) (h_a1 : In .u8 a1) : Ak (fun r => Bp r.1 ∧ In .u8 r.2) (MB.f a0 a1) := by
 unfold MB.f
 exact Ak.bind (Je h_a0 (CW _)) (fun r2681 h1 =>
 Ak.mk ⟨h1, (CW _)⟩)
theorem QM {a0 : Az} {a1 : Int} (h_a0 : Bp a0) (h_a1 : In .u8 a1) : Ak (fun r => Bp r.1 ∧ In .u8 r.2) (Mq.f a0 a1) := by
 unfold Mq.f
 exact Ak.bind (Je h_a0 (CW _)) (fun r2700 h1 =>
 Ak.mk ⟨h1, (CW _)⟩)
theorem GD {a0 : Az} {a1 : Int} (h_a0 : Bp a0) (h_a1 : In .u8 a1) : Ak (fun r => Bp r) (Et.f a0 a1) := by
 unfold Et.f
 exact Ak.bind (Je ⟨h_a1, h_a0.DD, h_a0.Fs, h_a0.CV, h_a0.F5⟩ h_a1) (fun r2735 h1 =>
 Ak.mk h1)
theorem QR {a0 : Az} {a1 : Int} (h_a0 : Bp a0) (h_a1 : In .u8 a1) : Ak (fun r => Bp r) (Mm.f a0 a1) := by
 unfold Mm.f
 exact Ak.bind (GD h_a0 (CW _)) (fun r2739 h1 =>
 Ak.mk h1)
theorem TG {a0 : Az} {a1 : Int} (h_a0 : Bp a0) (h_a1 : In .u8 a1) : Ak (fun r => Bp r.1 ∧ In .u8 r.2) (Of.f a0 a1) := by
 unfold Of.f
 exact Ak.bind (QD h_a0 h_a1) (fun r2723 h1 =>
 Ak.bind (QR h1.1 h1.2) (fun r2743 h2 =>
 Ak.mk ⟨h2, h1.2⟩))
theorem Ns {a0 : Az} {a1 : Int} (h_a0 : Bp a0) (h_a1 : In .u8 a1) : Ak (fun r => Bp r) (Ip.f a0 a1) := by
 unfold Ip.f
 exact Ak.bind (GD h_a0 (CW _)) (fun r2774 h1 =>
 Ak.mk h1)
theorem TL {a0 : Az} {a1 : Int} (h_a0 : Bp a0) (h_a1 : In .u8 a1) : Ak (fun r => Bp r.1 ∧ In .u8 r.2) (NU.f a0 a1) := by
 unfold NU.f
 exact Ak.bind (QH h_a0 h_a1) (fun r2766 h1 =>
 Ak.bind (Ns h1.1 h1.2) (fun r2778 h2 =>
 Ak.mk ⟨h2, h1.2⟩))
theorem QB {a0 : Az} {a1 : Int} (h_a0 : Bp a0) (h_a1 : In .u8 a1) : Ak (fun r => Bp r) (M0.f a0 a1) := by
 unfold M0.f
 exact Ak.bind (GD h_a0 (CW _)) (fun r2809 h1 =>
 Ak.mk h1)
theorem TF {a0 : Az} {a1 : Int} (h_a0 : Bp a0) (h_a1 : In .u8 a1) : Ak (fun r => Bp r.1 ∧ In .u8 r.2) (Oc.f a0 a1) := by
 unfold Oc.f
 exact Ak.bind (OU h_a0 h_a1) (fun r2801 h1 =>
 Ak.bind (QB h1.1 h1.2) (fun r2813 h2 =>
 Ak.mk ⟨h2, h1.2⟩))
theorem OE {a0 : Az} {a1 : Int} (h_a0 : Bp a0) (h_a1 : In .u8 a1) : Ak (fun r => Bp r) (KX.f a0 a1) := by
 unfold KX.f
 exact Ak.bnd (fun x2844 e_x2844 =>
  have w_x2844 : In .u16 x2844 := O6 e_x2844 (CY _);
  Ak.bind (Dv h_a0 (B7 rfl rfl)) (fun r2845 h1 =>
  Ak.bind (Dv h1 (B7 rfl rfl)) (fun r2849 h2 =>
  Ak.bind (GD h2 (CW _)) (fun r2853 h3 =>
  Ak.mk h3))))
theorem TB {a0 : Az} {a1 : Int} (h_a0 : Bp a0) (h_a1 : In .u8 a1) : Ak (fun r => Bp r.1 ∧ In .u8 r.2) (NW.f a0 a1) := by
 unfold NW.f
 exact Ak.bind (QJ h_a0 h_a1) (fun r2836 h1 =>
 Ak.bind (OE h1.1 h1.2) (fun r2891 h2 =>
 Ak.mk ⟨h2, h1.2⟩))
theorem L6 {a0 : Az} {a1 : Int} {a2 : Int} (h_a0 : Bp a0) (h_a1 : In .u8 a1) (h_a2 : In .u8 a2) : Ak (fun r => Bp r) (Gi.f a0 a1 a2) := by
 unfold Gi.f
 exact Ak.bind (Dv h_a0 (B7 rfl rfl)) (fun r2926 h1 =>
 Ak.bind (Je h1 (CW _)) (fun r2930 h2 =>
 Ak.mk h2))
theorem QA {a0 : Az} {a1 : Int} (h_a0 : Bp a0) (h_a1 : In .u8 a1) : Ak (fun r => Bp r) (My.f a0 a1) := by
 unfold My.f
 exact Ak.bind (L6 h_a0 h_a0.ES h_a1) (fun r2934 h1 =>
 Ak.mk h1)
theorem T7 {a0 : Az} {a1 : Int} (h_a0 : Bp a0) (h_a1 : In .u8 a1) : Ak (fun r => Bp r.1 ∧ In .u8 r.2) (Od.f a0 a1) := by
 unfold Od.f
 exact Ak.bind (QM h_a0 h_a1) (fun r2914 h1 =>
 Ak.bind (QA h1.1 h1.2) (fun r2938 h2 =>
 Ak.mk ⟨h2, h1.2⟩))
theorem QK {a0 : Az} {a1 : Int} (h_a0 : Bp a0) (h_a1 : In .u8 a1) : Ak (fun r => Bp r) (ME.f a0 a1) := by
 unfold ME.f
 exact Ak.bind (OE h_a0 (CW _)) (fun r2969 h1 =>
 Ak.mk h1)
theorem TC {a0 : Az} {a1 : Int} (h_a0 : Bp a0) (h_a1 : In .u8 a1) : Ak (fun r => Bp r.1 ∧ In .u8 r.2) (Oh.f a0 a1) := by
 unfold Oh.f
 exact Ak.bind (QF h_a0 h_a1) (fun r2961 h1 =>
 Ak.bind (QK h1.1 h1.2) (fun r2973 h2 =>
 Ak.mk ⟨h2, h1.2⟩))
theorem PR {a0 : Az} {a1 : Int} {a2 : Int} (h_a0 : Bp a0) (h_a1 : In .u8 a1) (h_a2 : In .u8 a2) : Ak (fun r => Bp r.1 ∧ In .u8 r.2) (Gp.f a0 a1 a2) := by
 unfold Gp.f
 exact Ak.bind (LW h_a1) (fun r2563 h1 =>
 Ak.bif (fun h2 =>
  Ak.mk ⟨h_a0, h_a2⟩) (fun h2 =>
  Ak.bind (Ak.UR (n := 12) (by have e0 := Cq h_a1; have e1 := RU (a1 - 19); have e2 := Cu h1.1; have e3 := Ei h2; have e4 := h1.2; omega) (by have e0 := Cq h_a1; have e1 := RU (a1 - 19); have e2 := Cu h1.1; have e3 := Ei h2; have e4 := h1.2; omega) rfl) (fun z2572 h3 =>
  Ak.bif (fun h4 =>
   Ak.bind (QD h_a0 h_a2) (fun r2609 h5 =>
   Ak.mk ⟨h5.1, h5.2⟩)) (fun h4 =>
   Ak.bif (fun h6 =>
    Ak.bind (OU h_a0 h_a2) (fun r2628 h7 =>
    Ak.mk ⟨h7.1, h7.2⟩)) (fun h6 =>
    Ak.bif (fun h8 =>
     Ak.bind (QH h_a0 h_a2) (fun r2647 h9 =>
     Ak.mk ⟨h9.1, h9.2⟩)) (fun h8 =>
     Ak.bif (fun h10 =>
      Ak.bind (QJ h_a0 h_a2) (fun r2666 h11 =>
      Ak.mk ⟨h11.1, h11.2⟩)) (fun h10 =>
      Ak.bif (fun h12 =>
       Ak.bind (QF h_a0 h_a2) (fun r2685 h13 =>
       Ak.mk ⟨h13.1, h13.2⟩)) (fun h12 =>
       Ak.bif (fun h14 =>
        Ak.bind (QM h_a0 h_a2) (fun r2704 h15 =>
        Ak.mk ⟨h15.1, h15.2⟩)) (fun h14 =>
        Ak.bif (fun h16 =>
         Ak.bind (TG h_a0 h_a2) (fun r2747 h17 =>
         Ak.mk ⟨h17.1, h17.2⟩)) (fun h16 =>
         Ak.bif (fun h18 =>
          Ak.bind (TL h_a0 h_a2) (fun r2782 h19 =>
          Ak.mk ⟨h19.1, h19.2⟩)) (fun h18 =>
          Ak.bif (fun h20 =>
           Ak.bind (TF h_a0 h_a2) (fun r2817 h21 =>
           Ak.mk ⟨h21.1, h21.2⟩)) (fun h20 =>
           Ak.bif (fun h22 =>
            Ak.bind (TB h_a0 h_a2) (fun r2895 h23 =>
            Ak.mk ⟨h23.1, h23.2⟩)) (fun h22 =>
            Ak.bif (fun h24 =>
             Ak.bind (T7 h_a0 h_a2) (fun r2942 h25 =>
             Ak.mk ⟨h25.1, h25.2⟩)) (fun h24 =>
             Ak.bif (fun h26 =>
              Ak.bind (TC h_a0 h_a2) (fun r2977 h27 =>
              Ak.mk ⟨h27.1, h27.2⟩)) (fun h26 =>
              Ak.no (by have m := h3; simp only [List.mem_cons, List.not_mem_nil, or_false] at m; have e0 := Cu h1.1; have e1 := Ei h2; have e2 := ne_of_beq_false h4; have e3 := ne_of_beq_false h6; have e4 := ne_of_beq_false h8; have e5 := ne_of_beq_false h10; have e6 := ne_of_beq_false h12; have e7 := ne_of_beq_false h14; have e8 := ne_of_beq_false h16; have e9 := ne_of_beq_false h18; have e10 := ne_of_beq_false h20; have e11 := ne_of_beq_false h22; have e12 := ne_of_beq_false h24; have e13 := ne_of_beq_false h26; have e14 := Cq h_a1; have e15 := h1.2; omega))))))))))))))))
theorem KD {a0 : Az} {a1 : Int} (h_a0 : Bp a0) (h_a1 : In .u8 a1) : Ak (fun r => Bp r) (GC.f a0 a1) := by
 unfold GC.f
 exact Ak.bind (Je ⟨h_a0.ES, h_a1, h_a0.Fs, h_a0.CV, h_a0.F5⟩ h_a1) (fun r2999 h1 =>
 Ak.mk h1)
theorem Np {a0 : Az} {a1 : Int} (h_a0 : Bp a0) (h_a1 : In .u8 a1) : Ak (fun r => Bp r) (Jt.f a0 a1) := by
 unfold Jt.f
 exact Ak.bind (Je ⟨h_a0.ES, h_a0.DD, h_a1, h_a0.CV, h_a0.F5⟩ h_a1) (fun r3011 h1 =>
 Ak.mk h1)
theorem Qk {a0 : Az} {a1 : Int} {s3057 : Bool} (h_a0 : Bp a0) (h_a1 : In .u8 a1) : Ak (fun r => Bp r) (D7.j3 a0 a1 s3057) := by
 unfold D7.j3
 exact Ak.bif (fun h1 =>
  Ak.bind (Dv h_a0 (B7 rfl rfl)) (fun r3063 h2 =>
  Ak.mk h2)) (fun h1 =>
  Ak.bif (fun h3 =>
   Ak.bind (Dv h_a0 (B7 rfl rfl)) (fun r3067 h4 =>
   Ak.mk h4)) (fun h3 =>
   Ak.bif (fun h5 =>
    Ak.bif (fun h6 =>
     Ak.bind (Dv h_a0 (B7 rfl rfl)) (fun r3071 h7 =>
     Ak.mk h7)) (fun h6 =>
     Ak.mk h_a0)) (fun h5 =>
    Ak.bif (fun h8 =>
     Ak.bind (Dv h_a0 (B7 rfl rfl)) (fun r3075 h9 =>
     Ak.mk h9)) (fun h8 =>
     Ak.mk h_a0))))
theorem Ql {a0 : Az} {a1 : Int} {s3047 : Bool} (h_a0 : Bp a0) (h_a1 : In .u8 a1) : Ak (fun r => Bp r) (D7.j2 a0 a1 s3047) := by
 unfold D7.j2
 exact Ak.bif (fun h1 =>
  Ak.bind (Dv h_a0 (B7 rfl rfl)) (fun r3053 h2 =>
  Ak.mk h2)) (fun h1 =>
  Ak.bif (fun h3 =>
   Qk h_a0 h_a1) (fun h3 =>
   Qk h_a0 h_a1))
theorem Mr {a0 : Az} {a1 : Int} {s2553 : Bool} (h_a0 : Bp a0) (h_a1 : In .u8 a1) : Ak (fun r => Bp r) (D7.j1 a0 a1 s2553) := by
 unfold D7.j1
 exact Ak.bif (fun h1 =>
  Ak.bind (PR h_a0 h_a1 h_a0.ES) (fun r2987 h2 =>
  Ak.mk ⟨h2.2, h2.1.DD, h2.1.Fs, h2.1.CV, h2.1.F5⟩)) (fun h1 =>
  Ak.bif (fun h3 =>
   Ak.bind (KD h_a0 h_a0.ES) (fun r3003 h4 =>
   Ak.mk h4)) (fun h3 =>
   Ak.bif (fun h5 =>
    Ak.bind (Np h_a0 h_a0.ES) (fun r3015 h6 =>
    Ak.mk h6)) (fun h5 =>
    Ak.bif (fun h7 =>
     Ak.bind (GD h_a0 h_a0.DD) (fun r3019 h8 =>
     Ak.mk h8)) (fun h7 =>
     Ak.bif (fun h9 =>
      Ak.bind (GD h_a0 h_a0.Fs) (fun r3023 h10 =>
      Ak.mk h10)) (fun h9 =>
      Ak.bif (fun h11 =>
       Ak.bind (KD h_a0 h_a0.CV) (fun r3027 h12 =>
       Ak.mk h12)) (fun h11 =>
       Ak.bif (fun h13 =>
        Ak.mk ⟨h_a0.ES, h_a0.DD, h_a0.Fs, h_a0.DD, h_a0.F5⟩) (fun h13 =>
        Ak.bif (fun h14 =>
         Ak.bind (KD h_a0 (CW _)) (fun r3031 h15 =>
         Ak.mk h15)) (fun h14 =>
         Ak.bif (fun h16 =>
          Ak.bind (Np h_a0 (CW _)) (fun r3035 h17 =>
          Ak.mk h17)) (fun h16 =>
          Ak.bif (fun h18 =>
           Ak.bind (KD h_a0 (CW _)) (fun r3039 h19 =>
           Ak.mk h19)) (fun h18 =>
           Ak.bif (fun h20 =>
            Ak.bind (Np h_a0 (CW _)) (fun r3043 h21 =>
            Ak.mk h21)) (fun h20 =>
            Ak.bif (fun h22 =>
             Ql h_a0 h_a1) (fun h22 =>
             Ql h_a0 h_a1))))))))))))
theorem Tv {a0 : Az} {a1 : Int} (h_a0 : Bp a0) (h_a1 : In .u8 a1) : Ak (fun r => Bp r) (D7.f a0 a1) := by
 unfold D7.f
 exact Ak.bif (fun h1 =>
  Mr h_a0 h_a1) (fun h1 =>
  Ak.bif (fun h2 =>
   Mr h_a0 h_a1) (fun h2 =>
   Ak.bif (fun h3 =>
    Mr h_a0 h_a1) (fun h3 =>
    Mr h_a0 h_a1)))
theorem RQ {a0 : Ag} {a1 : Int} (h_a0 : AZ a0) (h_a1 : In .u8 a1) : Ak (fun r => AZ r) (KO.f a0 a1) := by
 unfold KO.f
 exact Ak.bind (Tv h_a0.Dl.D8 h_a0.ER.Mi) (fun r3079 h1 =>
 Ak.mk ⟨⟨h1, h_a0.Dl.Fv⟩, h_a0.B4, h_a0.F4, h_a0.ER, h_a0.BD, h_a0.BJ, h_a0.AN, h_a0.Ce, h_a0.Gz⟩)
theorem T8 {a0 : Az} {a1 : Int} (h_a0 : Bp a0) (h_a1 : In .u8 a1) : Ak (fun r => Bp r) (Oe.f a0 a1) := by
 unfold Oe.f
 exact Ak.mk h_a0
theorem TO {a0 : Az} {a1 : Int} (h_a0 : Bp a0) (h_a1 : In .u8 a1) : Ak (fun r => Bp r) (NV.f a0 a1) := by
 unfold NV.f
 exact Ak.bind (L6 h_a0 h_a0.DD h_a1) (fun r3520 h1 =>
 Ak.mk h1)
theorem TQ {a0 : Az} {a1 : Int} (h_a0 : Bp a0) (h_a1 : In .u8 a1) : Ak (fun r => Bp r) (NZ.f a0 a1) := by
 unfold NZ.f
 exact Ak.bind (L6 h_a0 h_a0.Fs h_a1) (fun r3566 h1 =>
 Ak.mk h1)
theorem TI {a0 : Az} {a1 : Int} (h_a0 : Bp a0) (h_a1 : In .u8 a1) : Ak (fun r => Bp r) (NT.f a0 a1) := by
 unfold NT.f
 exact Ak.bind (Dv h_a0 (B7 rfl rfl)) (fun r3612 h1 =>
 Ak.bind (Dv h1 (B7 rfl rfl)) (fun r3616 h2 =>
 Ak.bind (Dv h2 (B7 rfl rfl)) (fun r3620 h3 =>
 Ak.mk h3)))
theorem QC {a0 : Az} {a1 : Int} (h_a0 : Bp a0) (h_a1 : In .u8 a1) : Ak (fun r => Bp r) (Mt.f a0 a1) := by
 unfold Mt.f
 exact Ak.bind (GD ⟨h_a0.ES, h_a1, h_a0.Fs, h_a0.CV, h_a0.F5⟩ h_a1) (fun r3694 h1 =>
 Ak.mk h1)
theorem T9 {a0 : Az} {a1 : Int} (h_a0 : Bp a0) (h_a1 : In .u8 a1) : Ak (fun r => Bp r) (Og.f a0 a1) := by
 unfold Og.f
 exact Ak.bind (Ns h_a0 h_a1) (fun r3740 h1 =>
 Ak.bind (Dv h1 (B7 rfl rfl)) (fun r3744 h2 =>
 Ak.mk h2))
theorem TK {a0 : Az} {a1 : Int} (h_a0 : Bp a0) (h_a1 : In .u8 a1) : Ak (fun r => Bp r) (Oa.f a0 a1) := by
 unfold Oa.f
 exact Ak.bind (Ns h_a0 h_a1) (fun r3790 h1 =>
 Ak.bind (OU h1 (CW _)) (fun r3794 h2 =>
 Ak.mk ⟨h2.2, h2.1.DD, h2.1.Fs, h2.1.CV, h2.1.F5⟩))
theorem T6 {a0 : Az} {a1 : Int} (h_a0 : Bp a0) (h_a1 : In .u8 a1) : Ak (fun r => Bp r) (NY.f a0 a1) := by
 unfold NY.f
 exact Ak.bnd (fun x3866 e_x3866 =>
  have w_x3866 : In .u8 x3866 := O6 e_x3866 (CW _);
  Ak.bind (GD h_a0 w_x3866) (fun r3867 h1 =>
  Ak.bind (Dv h1 (B7 rfl rfl)) (fun r3871 h2 =>
  Ak.bind (Dv h2 (B7 rfl rfl)) (fun r3875 h3 =>
  Ak.mk h3))))
theorem TP {a0 : Az} {a1 : Int} (h_a0 : Bp a0) (h_a1 : In .u8 a1) : Ak (fun r => Bp r) (Ob.f a0 a1) := by
 unfold Ob.f
 exact Ak.bind (L6 h_a0 (CW _) h_a1) (fun r3921 h1 =>
 Ak.bind (KD h1 (CW _)) (fun r3925 h2 =>
 Ak.mk h2))
theorem TA {a0 : Az} {a1 : Int} (h_a0 : Bp a0) (h_a1 : In .u8 a1) : Ak (fun r => Bp r) (NS.f a0 a1) := by
 unfold NS.f
 exact Ak.bind (QC ⟨h_a0.ES, h_a0.DD, h_a0.Fs, (CW _), h_a0.F5⟩ (CW _)) (fun r3971 h1 =>
 Ak.mk h1)
theorem Qw {a0 : Az} {a1 : Int} {a2 : Int} (h_a0 : Bp a0) (h_a1 : In .u8 a1) (h_a2 : In .u8 a2) : Ak (fun r => Bp r) (La.f a0 a1 a2) := by
 unfold La.f
 exact Ak.bind (LW h_a1) (fun r3114 h1 =>
 Ak.bif (fun h2 =>
  Ak.mk h_a0) (fun h2 =>
  Ak.bind (Q := fun r => r = [401, 395, 396, 397, 398, 400, 399, 402, 403, 373, 371, 372, 404, 405, 406, 407, 408, 409, 410]) (Ak.mk rfl) (fun r3120 h3 => by
   subst h3
   exact Ak.bind (Ak.UR (n := 19) (by have e0 := Cq h_a1; have e1 := Cu h1.1; have e2 := Ei h2; have e3 := h1.2; omega) (by have e0 := Cq h_a1; have e1 := Cu h1.1; have e2 := Ei h2; have e3 := h1.2; omega) rfl) (fun z3127 h4 =>
   Ak.bif (fun h5 =>
    Ak.bind (KD h_a0 h_a2) (fun r3132 h6 =>
    Ak.mk h6)) (fun h5 =>
    Ak.bif (fun h7 =>
     Ak.bind (Np h_a0 h_a2) (fun r3170 h8 =>
     Ak.mk h8)) (fun h7 =>
     Ak.bif (fun h9 =>
      Ak.bind (GD h_a0 h_a2) (fun r3208 h10 =>
      Ak.mk h10)) (fun h9 =>
      Ak.bif (fun h11 =>
       Ak.bind (QR h_a0 h_a2) (fun r3246 h12 =>
       Ak.mk h12)) (fun h11 =>
       Ak.bif (fun h13 =>
        Ak.bind (Ns h_a0 h_a2) (fun r3284 h14 =>
        Ak.mk h14)) (fun h13 =>
        Ak.bif (fun h15 =>
         Ak.bind (QB h_a0 h_a2) (fun r3322 h16 =>
         Ak.mk h16)) (fun h15 =>
         Ak.bif (fun h17 =>
          Ak.bind (OE h_a0 h_a2) (fun r3360 h18 =>
          Ak.mk h18)) (fun h17 =>
          Ak.bif (fun h19 =>
           Ak.bind (QA h_a0 h_a2) (fun r3398 h20 =>
           Ak.mk h20)) (fun h19 =>
           Ak.bif (fun h21 =>
            Ak.bind (QK h_a0 h_a2) (fun r3436 h22 =>
            Ak.mk h22)) (fun h21 =>
            Ak.bif (fun h23 =>
             Ak.bind (T8 h_a0 h_a2) (fun r3478 h24 =>
             Ak.mk h24)) (fun h23 =>
             Ak.bif (fun h25 =>
              Ak.bind (TO h_a0 h_a2) (fun r3524 h26 =>
              Ak.mk h26)) (fun h25 =>
              Ak.bif (fun h27 =>
               Ak.bind (TQ h_a0 h_a2) (fun r3570 h28 =>
               Ak.mk h28)) (fun h27 =>
               Ak.bif (fun h29 =>
                Ak.bind (TI h_a0 h_a2) (fun r3652 h30 =>
                Ak.mk h30)) (fun h29 =>
                Ak.bif (fun h31 =>
                 Ak.bind (QC h_a0 h_a2) (fun r3698 h32 =>
                 Ak.mk h32)) (fun h31 =>
                 Ak.bif (fun h33 =>
                  Ak.bind (T9 h_a0 h_a2) (fun r3748 h34 =>
                  Ak.mk h34)) (fun h33 =>
                  Ak.bif (fun h35 =>
                   Ak.bind (TK h_a0 h_a2) (fun r3824 h36 =>
                   Ak.mk h36)) (fun h35 =>
                   Ak.bif (fun h37 =>
                    Ak.bind (T6 h_a0 h_a2) (fun r3879 h38 =>
                    Ak.mk h38)) (fun h37 =>
                    Ak.bif (fun h39 =>
                     Ak.bind (TP h_a0 h_a2) (fun r3929 h40 =>
                     Ak.mk h40)) (fun h39 =>
                     Ak.bif (fun h41 =>
                      Ak.bind (TA h_a0 h_a2) (fun r3975 h42 =>
                      Ak.mk h42)) (fun h41 =>
                      Ak.no (by have m := h4; simp only [List.mem_cons, List.not_mem_nil, or_false] at m; have e0 := Cu h1.1; have e1 := Ei h2; have e2 := ne_of_beq_false h5; have e3 := ne_of_beq_false h7; have e4 := ne_of_beq_false h9; have e5 := ne_of_beq_false h11; have e6 := ne_of_beq_false h13; have e7 := ne_of_beq_false h15; have e8 := ne_of_beq_false h17; have e9 := ne_of_beq_false h19; have e10 := ne_of_beq_false h21; have e11 := ne_of_beq_false h23; have e12 := ne_of_beq_false h25; have e13 := ne_of_beq_false h27; have e14 := ne_of_beq_false h29; have e15 := ne_of_beq_false h31; have e16 := ne_of_beq_false h33; have e17 := ne_of_beq_false h35; have e18 := ne_of_beq_false h37; have e19 := ne_of_beq_false h39; have e20 := ne_of_beq_false h41; have e21 := Cq h_a1; have e22 := h1.2; omega))))))))))))))))))))))))
theorem O4 {a0 : Ag} {a1 : Int} (h_a0 : AZ a0) (h_a1 : In .u8 a1) : Ak (fun r => AZ r) (ID.f a0 a1) := by
 unfold ID.f
 exact Ak.bind (Qw h_a0.Dl.D8 h_a0.ER.Mi h_a1) (fun r4012 h1 =>
 Ak.mk ⟨⟨h1, h_a0.Dl.Fv⟩, h_a0.B4, h_a0.F4, h_a0.ER, h_a0.BD, h_a0.BJ, h_a0.AN, h_a0.Ce, h_a0.Gz⟩)
theorem QL {a0 : Ag} {a1 : Int} (h_a0 : AZ a0) (h_a1 : In .u8 a1) : Ak (fun r => AZ r) (J8.f a0 a1) := by
 unfold J8.f
 exact Ak.bind (O4 h_a0 h_a1) (fun r4034 h1 =>
 Ak.mk ⟨⟨h1.Dl.D8, (CY _)⟩, h1.B4, h1.F4, h1.ER, h1.BD, h1.BJ, h1.AN, h1.Ce, h1.Gz⟩)
theorem RP {a0 : Ag} {a1 : Int} (h_a0 : AZ a0) (h_a1 : In .u8 a1) : Ak (fun r => AZ r) (KJ.f a0 a1) := by
 unfold KJ.f
 exact Ak.mk ⟨h_a0.Dl, h_a0.B4, h_a0.F4, h_a0.ER, h_a0.BD, h_a0.BJ, h_a0.AN, h_a0.Ce, h_a1⟩
theorem QS {a0 : Ag} {a1 : Int} (h_a0 : AZ a0) (h_a1 : In .u8 a1) : Ak (fun r => AZ r) (J6.f a0 a1) := by
 unfold J6.f
 exact Ak.bind (PR h_a0.Dl.D8 h_a0.ER.Mi h_a0.Gz) (fun r4056 h1 =>
 Ak.mk ⟨⟨h1.1, h_a0.Dl.Fv⟩, h_a0.B4, h_a0.F4, h_a0.ER, h_a0.BD, h_a0.BJ, h_a0.AN, h_a0.Ce, h1.2⟩)
theorem RD {a0 : Ag} {a1 : Int} (h_a0 : AZ a0) (h_a1 : In .u8 a1) : Ak (fun r => AZ r) (KQ.f a0 a1) := by
 unfold KQ.f
 exact Ak.bif (fun h1 =>
  Ak.mk ⟨⟨h_a0.Dl.D8, (CY _)⟩, h_a0.B4, h_a0.F4, h_a0.ER, (CY _), (CY _), h_a0.AN, h_a0.Ce, h_a0.Gz⟩) (fun h1 =>
  Ak.mk ⟨h_a0.Dl, h_a0.B4, (UK rfl), h_a0.ER, (CY _), (CY _), h_a0.AN, h_a0.Ce, h_a0.Gz⟩)
theorem Sy {a0 : Ag} {a1 : Int} (h_a0 : AZ a0) (h_a1 : In .u8 a1) : Ak (fun r => AZ r) (LG.f a0 a1) := by
 unfold LG.f
 exact Ak.mk ⟨⟨⟨h_a0.Dl.D8.ES, h_a0.Dl.D8.DD, h_a0.Dl.D8.Fs, (CW _), h_a0.Dl.D8.F5⟩, h_a0.Dl.Fv⟩, h_a0.B4, h_a0.F4, h_a0.ER, h_a0.BD, h_a0.BJ, h_a0.AN, h_a0.Ce, h_a0.Gz⟩
theorem RI {a0 : Ag} {a1 : Int} (h_a0 : AZ a0) (h_a1 : In .u8 a1) : Ak (fun r => AZ r) (KS.f a0 a1) := by
 unfold KS.f
 exact Ak.mk ⟨⟨⟨h_a0.Dl.D8.ES, h_a0.Dl.D8.DD, h_a0.Dl.D8.Fs, (CW _), h_a0.Dl.D8.F5⟩, h_a0.Dl.Fv⟩, h_a0.B4, h_a0.F4, h_a0.ER, h_a0.BD, h_a0.BJ, h_a0.AN, h_a1, h_a0.Gz⟩
theorem R8 {a0 : Ag} {a1 : Int} (h_a0 : AZ a0) (h_a1 : In .u8 a1) : Ak (fun r => AZ r) (K8.f a0 a1) := by
 unfold K8.f
 exact Ak.mk ⟨⟨h_a0.Dl.D8, (CY _)⟩, h_a0.B4, h_a0.F4, h_a0.ER, h_a0.BD, h_a0.BJ, h_a0.AN, h_a0.Ce, h_a0.Gz⟩
theorem OZ {a0 : Ag} {a1 : Int} (h_a0 : AZ a0) (h_a1 : In .u8 a1) : Ak (fun r => AZ r) (Ji.f a0 a1) := by
 unfold Ji.f
 exact Ak.bind (RX h_a1) (fun r4178 h1 =>
 Ak.mk ⟨⟨⟨h_a0.Dl.D8.ES, h_a0.Dl.D8.DD, h_a0.Dl.D8.Fs, h_a0.Dl.D8.CV, h1⟩, h_a0.Dl.Fv⟩, h_a0.B4, h_a0.F4, h_a0.ER, h_a0.BD, h_a0.BJ, h_a0.AN, h_a0.Ce, h_a0.Gz⟩)
theorem Rm {a0 : Ag} {a1 : Int} (h_a0 : AZ a0) (h_a1 : In .u8 a1) : Ak (fun r => AZ r) (JZ.f a0 a1) := by
 unfold JZ.f
 exact Ak.bind (OZ h_a0 h_a1) (fun r4182 h1 =>
 Ak.mk ⟨⟨⟨h1.Dl.D8.ES, h1.Dl.D8.DD, h1.Dl.D8.Fs, (CW _), h1.Dl.D8.F5⟩, h1.Dl.Fv⟩, h1.B4, h1.F4, h1.ER, h1.BD, h1.BJ, h1.AN, h1.Ce, h1.Gz⟩)
theorem RH {a0 : Ag} {a1 : Int} (h_a0 : AZ a0) (h_a1 : In .u8 a1) : Ak (fun r => AZ r) (KN.f a0 a1) := by
 unfold KN.f
 exact Ak.bind (Qw h_a0.Dl.D8 (B7 rfl rfl) h_a1) (fun r4196 h1 =>
 Ak.mk ⟨⟨h1, h_a0.Dl.Fv⟩, h_a0.B4, h_a0.F4, h_a0.ER, h_a0.BD, h_a0.BJ, h_a0.AN, h_a0.Ce, h_a0.Gz⟩)
theorem QG {a0 : Ag} {a1 : Int} (h_a0 : AZ a0) (h_a1 : In .u8 a1) : Ak (fun r => AZ r) (J7.f a0 a1) := by
 unfold J7.f
 exact Ak.mk ⟨h_a0.Dl, h_a0.B4, (UK rfl), h_a0.ER, h_a0.BD, h_a0.BJ, h_a0.AN, h_a0.Ce, h_a0.Gz⟩
theorem QT {a0 : Ag} {a1 : Int} (h_a0 : AZ a0) (h_a1 : In .u8 a1) : Ak (fun r => AZ r) (JE.f a0 a1) := by
 unfold JE.f
 exact Ak.mk ⟨⟨h_a0.Dl.D8, h_a0.BD⟩, h_a0.B4, h_a0.F4, h_a0.ER, h_a0.BD, h_a0.BJ, h_a0.AN, h_a0.Ce, h_a0.Gz⟩
theorem Nj {a0 : Ag} {a1 : Int} (h_a0 : AZ a0) (h_a1 : In .u16 a1) : Ak (fun r => De r) (FR.f a0 a1) := by
 unfold FR.f
 exact Ak.bind (K3 ⟨h_a0.Dl, h_a0.B4, h_a0.F4, h_a0.ER, h_a0.BD, h_a0.BJ, h_a1, h_a0.Ce, h_a0.Gz⟩ (KZ rfl rfl rfl)) (fun r4247 h1 =>
 Ak.mk h1)
theorem Br {a2 : Bool} {s2146 : Ag} (h_s2146 : AZ s2146) : Ak (fun r => De r) (Bb.j2 a2 s2146) := by
 unfold Bb.j2
 exact Ak.bif (fun h1 =>
  Ak.mk ⟨h_s2146, (by have e0 := of_decide_eq_true h1; omega)⟩) (fun h1 =>
  Ak.bif (fun h2 =>
   Ak.bind (Nj ⟨h_s2146.Dl, h_s2146.B4, h_s2146.F4, h_s2146.ER, h_s2146.BD, h_s2146.BJ, h_s2146.AN, h_s2146.Ce, h_s2146.Gz⟩ (B7 rfl rfl)) (fun r4253 h3 =>
   Ak.mk h3)) (fun h2 =>
   Ak.bif (fun h4 =>
    Ak.bif (fun h5 =>
     Ak.bind (Nj h_s2146 (B7 rfl rfl)) (fun r4260 h6 =>
     Ak.mk h6)) (fun h5 =>
     Ak.bind (K3 h_s2146 (KZ rfl rfl rfl)) (fun r4271 h7 =>
     Ak.mk h7))) (fun h4 =>
    Ak.bind (K3 h_s2146 (KZ rfl rfl rfl)) (fun r4282 h8 =>
    Ak.mk h8))))
theorem LV {a0 : Ag} {a1 : Int} {a2 : Bool} {a3 : Bool} {s2128 : Bool} (h_a0 : De a0) (h_a1 : In .u8 a1) : Ak (fun r => De r) (Bb.j1 a0 a1 a2 a3 s2128) := by
 unfold Bb.j1
 exact Ak.head h_a0.w.F4 h_a0.n (fun z2136 z2142 h1 nh1 th1 =>
 Ak.bif (fun h2 =>
  Ak.bind (Ro ⟨h_a0.w.Dl, h_a0.w.B4, th1, h_a0.w.ER, h_a0.w.BD, h_a0.w.BJ, h_a0.w.AN, h_a0.w.Ce, h_a0.w.Gz⟩ h_a1) (fun r2315 h3 =>
  Br h3)) (fun h2 =>
  Ak.bif (fun h4 =>
   Ak.bind (R7 ⟨h_a0.w.Dl, h_a0.w.B4, th1, h_a0.w.ER, h_a0.w.BD, h_a0.w.BJ, h_a0.w.AN, h_a0.w.Ce, h_a0.w.Gz⟩ h_a1) (fun _ _ =>
   Br ⟨h_a0.w.Dl, h_a0.w.B4, th1, h_a0.w.ER, h_a0.w.BD, h_a0.w.BJ, h_a0.w.AN, h_a0.w.Ce, h_a0.w.Gz⟩)) (fun h4 =>
   Ak.bif (fun h6 =>
    Ak.bind (RA ⟨h_a0.w.Dl, h_a0.w.B4, th1, h_a0.w.ER, h_a0.w.BD, h_a0.w.BJ, h_a0.w.AN, h_a0.w.Ce, h_a0.w.Gz⟩ h_a1) (fun r2328 h7 =>
    Br h7)) (fun h6 =>
    Ak.bif (fun h8 =>
     Ak.bind (Rh ⟨h_a0.w.Dl, h_a0.w.B4, th1, h_a0.w.ER, h_a0.w.BD, h_a0.w.BJ, h_a0.w.AN, h_a0.w.Ce, h_a0.w.Gz⟩ h_a1) (fun r2336 h9 =>
     Br h9)) (fun h8 =>
     Ak.bif (fun h10 =>
      Ak.bind (Ri ⟨h_a0.w.Dl, h_a0.w.B4, th1, h_a0.w.ER, h_a0.w.BD, h_a0.w.BJ, h_a0.w.AN, h_a0.w.Ce, h_a0.w.Gz⟩ h_a1) (fun r2359 h11 =>
      Br h11)) (fun h10 =>
      Ak.bif (fun h12 =>
       Ak.bind (O3 ⟨h_a0.w.Dl, h_a0.w.B4, th1, h_a0.w.ER, h_a0.w.BD, h_a0.w.BJ, h_a0.w.AN, h_a0.w.Ce, h_a0.w.Gz⟩ h_a1) (fun r2366 h13 =>
       Br h13)) (fun h12 =>
       Ak.bif (fun h14 =>
        Ak.bind (R5 ⟨h_a0.w.Dl, h_a0.w.B4, th1, h_a0.w.ER, h_a0.w.BD, h_a0.w.BJ, h_a0.w.AN, h_a0.w.Ce, h_a0.w.Gz⟩ h_a1) (fun r2374 h15 =>
        Br h15)) (fun h14 =>
        Ak.bif (fun h16 =>
         Ak.bind (Rn ⟨⟨h_a0.w.Dl, h_a0.w.B4, th1, h_a0.w.ER, h_a0.w.BD, h_a0.w.BJ, h_a0.w.AN, h_a0.w.Ce, h_a0.w.Gz⟩, (nh1 (by unfold ZF; rw [eq_of_beq h16]; rfl))⟩ h_a1) (fun r2430 h17 =>
         Br h17)) (fun h16 =>
         Ak.bif (fun h18 =>
          Ak.bind (R6 ⟨h_a0.w.Dl, h_a0.w.B4, th1, h_a0.w.ER, h_a0.w.BD, h_a0.w.BJ, h_a0.w.AN, h_a0.w.Ce, h_a0.w.Gz⟩ h_a1) (fun r2438 h19 =>
          Br h19)) (fun h18 =>
          Ak.bif (fun h20 =>
           Ak.bind (Re ⟨⟨h_a0.w.Dl, h_a0.w.B4, th1, h_a0.w.ER, h_a0.w.BD, h_a0.w.BJ, h_a0.w.AN, h_a0.w.Ce, h_a0.w.Gz⟩, (nh1 (by unfold ZF; rw [eq_of_beq h20]; rfl))⟩ h_a1) (fun r2452 h21 =>
           Br h21)) (fun h20 =>
           Ak.bif (fun h22 =>
            Ak.bind (RN ⟨h_a0.w.Dl, h_a0.w.B4, th1, h_a0.w.ER, h_a0.w.BD, h_a0.w.BJ, h_a0.w.AN, h_a0.w.Ce, h_a0.w.Gz⟩ h_a1) (fun r2460 h23 =>
            Br h23)) (fun h22 =>
            Ak.bif (fun h24 =>
             Ak.bind (Ru ⟨h_a0.w.Dl, h_a0.w.B4, th1, h_a0.w.ER, h_a0.w.BD, h_a0.w.BJ, h_a0.w.AN, h_a0.w.Ce, h_a0.w.Gz⟩ h_a1) (fun r2468 h25 =>
             Br h25)) (fun h24 =>
             Ak.bif (fun h26 =>
              Ak.bind (QU ⟨h_a0.w.Dl, h_a0.w.B4, th1, h_a0.w.ER, h_a0.w.BD, h_a0.w.BJ, h_a0.w.AN, h_a0.w.Ce, h_a0.w.Gz⟩ h_a1) (fun r2482 h27 =>
              Br h27)) (fun h26 =>
              Ak.bif (fun h28 =>
               Ak.bind (Rf ⟨h_a0.w.Dl, h_a0.w.B4, th1, h_a0.w.ER, h_a0.w.BD, h_a0.w.BJ, h_a0.w.AN, h_a0.w.Ce, h_a0.w.Gz⟩ h_a1) (fun r2490 h29 =>
               Br h29)) (fun h28 =>
               Ak.bif (fun h30 =>
                Ak.bind (Oq ⟨h_a0.w.Dl, h_a0.w.B4, th1, h_a0.w.ER, h_a0.w.BD, h_a0.w.BJ, h_a0.w.AN, h_a0.w.Ce, h_a0.w.Gz⟩ h_a1) (fun r2497 h31 =>
                Br h31)) (fun h30 =>
                Ak.bif (fun h32 =>
                 Ak.bind (Rc ⟨⟨h_a0.w.Dl, h_a0.w.B4, th1, h_a0.w.ER, h_a0.w.BD, h_a0.w.BJ, h_a0.w.AN, h_a0.w.Ce, h_a0.w.Gz⟩, (nh1 (by unfold ZF; rw [eq_of_beq h32]; rfl))⟩ h_a1) (fun r2511 h33 =>
                 Br h33)) (fun h32 =>
                 Ak.bif (fun h34 =>
                  Ak.bind (QO ⟨h_a0.w.Dl, h_a0.w.B4, th1, h_a0.w.ER, h_a0.w.BD, h_a0.w.BJ, h_a0.w.AN, h_a0.w.Ce, h_a0.w.Gz⟩ h_a1) (fun r2541 h35 =>
                  Br h35)) (fun h34 =>
                  Ak.bif (fun h36 =>
                   Ak.bind (RQ ⟨h_a0.w.Dl, h_a0.w.B4, th1, h_a0.w.ER, h_a0.w.BD, h_a0.w.BJ, h_a0.w.AN, h_a0.w.Ce, h_a0.w.Gz⟩ h_a1) (fun r3101 h37 =>
                   Br h37)) (fun h36 =>
                   Ak.bif (fun h38 =>
                    Ak.bind (QL ⟨h_a0.w.Dl, h_a0.w.B4, th1, h_a0.w.ER, h_a0.w.BD, h_a0.w.BJ, h_a0.w.AN, h_a0.w.Ce, h_a0.w.Gz⟩ h_a1) (fun r4040 h39 =>
                    Br h39)) (fun h38 =>
                    Ak.bif (fun h40 =>
                     Ak.bind (RP ⟨h_a0.w.Dl, h_a0.w.B4, th1, h_a0.w.ER, h_a0.w.BD, h_a0.w.BJ, h_a0.w.AN, h_a0.w.Ce, h_a0.w.Gz⟩ h_a1) (fun r4048 h41 =>
                     Br h41)) (fun h40 =>
                     Ak.bif (fun h42 =>
                      Ak.bind (QS ⟨h_a0.w.Dl, h_a0.w.B4, th1, h_a0.w.ER, h_a0.w.BD, h_a0.w.BJ, h_a0.w.AN, h_a0.w.Ce, h_a0.w.Gz⟩ h_a1) (fun r4110 h43 =>
                      Br h43)) (fun h42 =>
                      Ak.bif (fun h44 =>
                       Ak.bind (O4 ⟨h_a0.w.Dl, h_a0.w.B4, th1, h_a0.w.ER, h_a0.w.BD, h_a0.w.BJ, h_a0.w.AN, h_a0.w.Ce, h_a0.w.Gz⟩ h_a1) (fun r4117 h45 =>
                       Br h45)) (fun h44 =>
                       Ak.bif (fun h46 =>
                        Ak.bind (RD ⟨h_a0.w.Dl, h_a0.w.B4, th1, h_a0.w.ER, h_a0.w.BD, h_a0.w.BJ, h_a0.w.AN, h_a0.w.Ce, h_a0.w.Gz⟩ h_a1) (fun r4145 h47 =>
                        Br h47)) (fun h46 =>
                        Ak.bif (fun h48 =>
                         Ak.bind (Sy ⟨h_a0.w.Dl, h_a0.w.B4, th1, h_a0.w.ER, h_a0.w.BD, h_a0.w.BJ, h_a0.w.AN, h_a0.w.Ce, h_a0.w.Gz⟩ h_a1) (fun r4153 h49 =>
                         Br h49)) (fun h48 =>
                         Ak.bif (fun h50 =>
                          Ak.bind (RI ⟨h_a0.w.Dl, h_a0.w.B4, th1, h_a0.w.ER, h_a0.w.BD, h_a0.w.BJ, h_a0.w.AN, h_a0.w.Ce, h_a0.w.Gz⟩ h_a1) (fun r4161 h51 =>
                          Br h51)) (fun h50 =>
                          Ak.bif (fun h52 =>
                           Ak.bind (R8 ⟨h_a0.w.Dl, h_a0.w.B4, th1, h_a0.w.ER, h_a0.w.BD, h_a0.w.BJ, h_a0.w.AN, h_a0.w.Ce, h_a0.w.Gz⟩ h_a1) (fun r4169 h53 =>
                           Br h53)) (fun h52 =>
                           Ak.bif (fun h54 =>
                            Ak.bind (Rm ⟨h_a0.w.Dl, h_a0.w.B4, th1, h_a0.w.ER, h_a0.w.BD, h_a0.w.BJ, h_a0.w.AN, h_a0.w.Ce, h_a0.w.Gz⟩ h_a1) (fun r4188 h55 =>
                            Br h55)) (fun h54 =>
                            Ak.bif (fun h56 =>
                             Ak.bind (RH ⟨h_a0.w.Dl, h_a0.w.B4, th1, h_a0.w.ER, h_a0.w.BD, h_a0.w.BJ, h_a0.w.AN, h_a0.w.Ce, h_a0.w.Gz⟩ h_a1) (fun r4202 h57 =>
                             Br h57)) (fun h56 =>
                             Ak.bif (fun h58 =>
                              Ak.bind (OZ ⟨h_a0.w.Dl, h_a0.w.B4, th1, h_a0.w.ER, h_a0.w.BD, h_a0.w.BJ, h_a0.w.AN, h_a0.w.Ce, h_a0.w.Gz⟩ h_a1) (fun r4209 h59 =>
                              Br h59)) (fun h58 =>
                              Ak.bif (fun h60 =>
                               Ak.bind (QG ⟨h_a0.w.Dl, h_a0.w.B4, th1, h_a0.w.ER, h_a0.w.BD, h_a0.w.BJ, h_a0.w.AN, h_a0.w.Ce, h_a0.w.Gz⟩ h_a1) (fun r4222 h61 =>
                               Br h61)) (fun h60 =>
                               Ak.bif (fun h62 =>
                                Ak.bind (QT ⟨h_a0.w.Dl, h_a0.w.B4, th1, h_a0.w.ER, h_a0.w.BD, h_a0.w.BJ, h_a0.w.AN, h_a0.w.Ce, h_a0.w.Gz⟩ h_a1) (fun r4230 h63 =>
                                Br h63)) (fun h62 =>
                                XP h1 h2 h4 h6 h8 h10 h12 h14 h16 h18 h20 h22 h24 h26 h28 h30 h32 h34 h36 h38 h40 h42 h44 h46 h48 h50 h52 h54 h56 h58 h60 h62))))))))))))))))))))))))))))))))
theorem Oo {a0 : Ag} {a1 : Int} {a2 : Bool} {a3 : Bool} (h_a0 : De a0) (h_a1 : In .u8 a1) : Ak (fun r => De r) (Bb.f a0 a1 a2 a3) := by
 unfold Bb.f
 exact Ak.bif (fun h1 =>
  LV h_a0 h_a1) (fun h1 =>
  Ak.bif (fun h2 =>
   LV h_a0 h_a1) (fun h2 =>
   LV h_a0 h_a1))
theorem NR {a0 : Ai} {a0c1 : Am} {a0c2 : An} (h_a0 : AF a0) (h_a0c1 : Bl a0c1) (h_a0c2 : Bi a0c2) : Ak (fun _ => True) (Fz.f a0 a0c1 a0c2) := by
 unfold Fz.f
 exact Ak.mk trivial
theorem Pp {a0 : Ac} {a1 : Bool} (h_a0 : Ar a0) : Ak (fun r => Ar r) (EG.f a0 a1) := by
 unfold EG.f
 exact Ak.mk ⟨h_a0.BK, h_a0.BU, h_a0.Bu, h_a0.Cm, h_a0.Dg, h_a0.AY, h_a0.Aq, h_a0.Cg, h_a0.BZ, h_a0.AV, h_a0.CU, h_a0.Av, h_a0.Cc, h_a0.AP, h_a0.BF, h_a0.x1⟩
theorem O8 {a0 : Bq} (h_a0 : Db a0) : Ak (fun r => Db r) (IG.f a0) := by
 unfold IG.f
 exact Ak.bind (E7 h_a0) (fun r4375 h1 =>
 Ak.bif (fun h2 =>
  Ak.mk ⟨(CY _), h1.Ir, h1.DD⟩) (fun h2 =>
  Ak.mk ⟨(CY _), h1.Ir, h1.DD⟩))
theorem Sm {a0 : Bq} (h_a0 : Db a0) : Ak (fun r => In .u16 r) (Lg.f a0) := by
 unfold Lg.f
 exact Ak.mk (CY _)
theorem S9 {a0 : Bq} (h_a0 : Db a0) : Ak (fun r => Bt 0 7 r) (LD.f a0) := by
 unfold LD.f
 exact Ak.bnd (fun x4400 e_x4400 =>
  have w_x4400 : In .u8 x4400 := O6 e_x4400 (CW _);
  Ak.mk (EZ (x := x4400) (by have e0 := Cq w_x4400; have e1 := DT (CY _ : In .u16 (Bv .u16 a0.Hw 28672)); have e2 := E6 a0.Hw 28672 (by decide); have e3 := S7 .u16 (Bv .u16 a0.Hw 28672) 12; have e4 := Sw .u16 (Bv .u16 a0.Hw 28672) 12 4096 rfl; have e5 := RU (shr .u16 (Bv .u16 a0.Hw 28672) 12); have e6 := e_x4400; omega)))
theorem RB {a0 : Bq} (h_a0 : Db a0) : Ak (fun r => In .u16 r.1 ∧ In .u8 r.2) (KC.f a0) := by
 unfold KC.f
 exact Ak.bnd (fun x4428 e_x4428 =>
  have w_x4428 : In .u16 x4428 := O6 e_x4428 (CY _);
  Ak.bnd (fun x4429 e_x4429 =>
   have w_x4429 : In .u8 x4429 := O6 e_x4429 (CW _);
   Ak.mk ⟨w_x4428, w_x4429⟩))
theorem P7 {a0 : Int} {a1 : Int} {a2 : Int} (h_a0 : In .u8 a0) (h_a1 : In .u8 a1) (h_a2 : Bt 0 1000 a2) : Ak (fun r => In .u8 r) (LA.f a0 a1 a2) := by
 unfold LA.f
 exact Ak.neg (by have e0 := Cu h_a2; omega) (Ak.bif (fun h1 =>
  Ak.neg (by have e0 := Cu h_a2; have e1 := Cq (CW _ : In .u8 (Bv .u8 (shl .u8 a0 a2) 128)); have e2 := BP (shl .u8 a0 a2) 128 (by decide); have e3 := F3 h1; omega) (Ak.bif (fun h2 =>
   Ak.mk (CW _)) (fun h2 =>
   Ak.mk (B7 rfl rfl)))) (fun h1 =>
  Ak.neg (by have e0 := Cu h_a2; have e1 := Cq (CW _ : In .u8 (Bv .u8 (shl .u8 a0 a2) 128)); have e2 := BP (shl .u8 a0 a2) 128 (by decide); have e3 := Ei h1; omega) (Ak.bif (fun h3 =>
   Ak.mk (CW _)) (fun h3 =>
   Ak.mk (B7 rfl rfl)))))
theorem MK {a0 : Ac} {s4370 : Bq × Int} {s4419 : Int} (h_a0 : Ar a0) (h_s4370_1 : Db s4370.1) (h_s4370_2 : Bt 0 1000 s4370.2) (h_s4419 : Bt 0 8183 s4419) : Ak (fun r => In .u8 r.1 ∧ In .u8 r.2) (BX.j3 a0 s4370 s4419) := by
 unfold BX.j3
 exact Ak.bind (RB h_s4370_1) (fun r4430 h1 =>
 Ak.arr (by have e0 := Cu h_s4419; omega) (by have e0 := Cu h_s4419; omega) (Ak.arr (by have e0 := Cu h_s4419; have e1 := EU (s4419 + 8); omega) (by have e0 := Cu h_s4419; have e1 := EU (s4419 + 8); omega) (Ak.bind (P7 (h_a0.BK.e _) (h_a0.BK.e _) h_s4370_2) (fun r4439 h2 =>
 Ak.bind (IM h_a0 h1.1) (fun r4443 h3 =>
 Ak.neg (by have e0 := Cq h1.2; omega) (Ak.mk ⟨h2, (CW _)⟩))))))
theorem MM {a0 : Ac} {s4370 : Bq × Int} (h_a0 : Ar a0) (h_s4370_1 : Db s4370.1) (h_s4370_2 : Bt 0 1000 s4370.2) : Ak (fun r => In .u8 r.1 ∧ In .u8 r.2) (BX.j2 a0 s4370) := by
 unfold BX.j2
 exact Ak.bind (Sm h_s4370_1) (fun r4390 h1 =>
 Ak.bind (IM h_a0 h1) (fun r4394 h2 =>
 Ak.bind (S9 h_s4370_1) (fun r4401 h3 =>
 Ak.bif (fun h4 =>
  Ak.bnd (fun x4420 e_x4420 =>
   have w_x4420 : In .u16 x4420 := O6 e_x4420 (CY _);
   MK h_a0 h_s4370_1 h_s4370_2 (EZ (x := x4420) (by have e0 := DT w_x4420; have e1 := Cq (CW _ : In .u8 (Bv .u8 a0.Aq 16)); have e2 := BP a0.Aq 16 (by decide); have e3 := F3 h4; have e4 := Cq h2; have e5 := EU r4394; have e6 := EU (16 * (IntKind.wrap .u16 r4394)); have e7 := Cu h3; have e8 := EU r4401; have e9 := EU ((IntKind.wrap .u16 (16 * (IntKind.wrap .u16 r4394))) + (IntKind.wrap .u16 r4401)); have e10 := EU ((IntKind.wrap .u16 ((IntKind.wrap .u16 (16 * (IntKind.wrap .u16 r4394))) + (IntKind.wrap .u16 r4401))) + 4096); have e11 := e_x4420; omega)))) (fun h4 =>
  MK h_a0 h_s4370_1 h_s4370_2 (EZ (x := IntKind.wrap .u16 ((IntKind.wrap .u16 (16 * (IntKind.wrap .u16 r4394))) + (IntKind.wrap .u16 r4401))) (by have e0 := Cq h2; have e1 := EU r4394; have e2 := EU (16 * (IntKind.wrap .u16 r4394)); have e3 := Cu h3; have e4 := EU r4401; have e5 := EU ((IntKind.wrap .u16 (16 * (IntKind.wrap .u16 r4394))) + (IntKind.wrap .u16 r4401)); have e6 := Cq (CW _ : In .u8 (Bv .u8 a0.Aq 16)); have e7 := BP a0.Aq 16 (by decide); have e8 := Ei h4; omega))))))
theorem MJ {a0 : Ac} {a1 : Int} {s4359 : Unit} (h_a0 : Ar a0) (h_a1 : Bt 0 255 a1) : Ak (fun r => In .u8 r.1 ∧ In .u8 r.2) (BX.j1 a0 a1 s4359) := by
 unfold BX.j1
 exact Ak.bnd (fun x4369 e_x4369 =>
  Ak.bif (fun h1 =>
   Ak.bind (O8 h_a0.AY) (fun r4379 h2 =>
   MM h_a0 h2 (EZ (x := IntKind.wrap .i64 (x4369 - 8)) (by have e0 := CS (x4369 - 8); have e1 := of_decide_eq_true h1; have e2 := Cu h_a1; have e3 := Lh a1 8 (by decide); have e4 := Cq h_a0.AY.DD; have e5 := CS a0.AY.DD; have e6 := CS ((Int.tmod a1 8) + (IntKind.wrap .i64 a0.AY.DD)); have e7 := e_x4369; omega)))) (fun h1 =>
   MM h_a0 h_a0.AY (EZ (x := x4369) (by have e0 := of_decide_eq_false h1; have e1 := Cu h_a1; have e2 := Lh a1 8 (by decide); have e3 := Cq h_a0.AY.DD; have e4 := CS a0.AY.DD; have e5 := CS ((Int.tmod a1 8) + (IntKind.wrap .i64 a0.AY.DD)); have e6 := e_x4369; omega))))
theorem PW {a0 : Ac} {a1 : Int} (h_a0 : Ar a0) (h_a1 : Bt 0 255 a1) : Ak (fun r => In .u8 r.1 ∧ In .u8 r.2) (BX.f a0 a1) := by
 unfold BX.f
 exact Ak.bif (fun h1 =>
  Ak.mk ⟨(B7 rfl rfl), (B7 rfl rfl)⟩) (fun h1 =>
  Ak.bif (fun h2 =>
   Ak.bif (fun h3 =>
    Ak.mk ⟨(B7 rfl rfl), (B7 rfl rfl)⟩) (fun h3 =>
    MJ h_a0 h_a1)) (fun h2 =>
   MJ h_a0 h_a1))
theorem Ph {a0 : Ac} {a1 : Int} (h_a0 : Ar a0) (h_a1 : Bt 0 255 a1) : ∀ (n : Nat) (s : Int) (hi_0 : 0 ≤ s ∧ s ≤ (a0.AP.length : Int)) (hm : (a0.AP.length : Int) - s < (n : Int)), Ak (fun r => In .u8 r.1 ∧ GN r.2) (BI.l2 a0 a1 n s) := by
 intro n
 induction n with
 | zero => intro s hi hm; exfalso; omega
 | succ n ih =>
  intro s hi hm
  unfold BI.l2
  refine Ak.bif (fun h => ?_) (fun _ => Ak.mk ⟨⟨by decide, by decide⟩, ⟨⟨by decide, by decide⟩, ⟨by decide, by decide⟩, ⟨by decide, by decide⟩, ⟨by decide, by decide⟩⟩⟩)
  have h := of_decide_eq_true h
  have hl : (a0.AP.length : Int) < 9223372036854775807 → IntKind.wrap .i64 (s + 1) = s + 1 := fun hh => by rw [CS]; omega
  have hlen := h_a0.x1
  unfold KM at hlen
  have hl := hl (by omega)
  refine Ak.bind (Ak.VV h_a0.AP hi.1 h) (fun z hz => Ak.bnd (fun x e => Ak.bif (fun _ => ?_) (fun h1 => Ak.bif (fun _ => ?_) (fun h2 => ?_))))
  · exact ih _ (by omega) (by omega)
  · exact ih _ (by omega) (by omega)
  have h1 := of_decide_eq_false h1
  have h2 := of_decide_eq_false h2
  unfold BI.j5
  refine Ak.bif (fun _ => Ak.bind (P7 hz.Ce hz.NN (EZ (by rw [CS]; omega))) (fun r hr => Ak.bif (fun _ => Ak.mk ⟨hr, hz⟩) (fun _ => ?_))) (fun _ => Ak.bind (P7 hz.Ce hz.NN (EZ (by omega))) (fun r hr => Ak.bif (fun _ => Ak.mk ⟨hr, hz⟩) (fun _ => ?_)))
  · exact ih _ (by omega) (by omega)
  · exact ih _ (by omega) (by omega)
theorem Mg {a0 : Ac} {a1 : Int} {s4471 : Unit} (h_a0 : Ar a0) (h_a1 : Bt 0 255 a1) : Ak (fun r => In .u8 r.1 ∧ GN r.2) (BI.j1 a0 a1 s4471) := by
 unfold BI.j1
 exact Ph h_a0 h_a1 _ _ (show 0 ≤ 0 ∧ 0 ≤ (a0.AP.length : Int) from by omega) (show (a0.AP.length : Int) - 0 < _ from by omega)
theorem P4 {a0 : Ac} {a1 : Int} (h_a0 : Ar a0) (h_a1 : Bt 0 255 a1) : Ak (fun r => In .u8 r.1 ∧ GN r.2) (BI.f a0 a1) := by
 unfold BI.f
 exact Ak.bif (fun h1 =>
  Ak.mk ⟨(B7 rfl rfl), ⟨(B7 rfl rfl), (B7 rfl rfl), (B7 rfl rfl), (B7 rfl rfl)⟩⟩) (fun h1 =>
  Ak.bif (fun h2 =>
   Ak.bif (fun h3 =>
    Ak.mk ⟨(B7 rfl rfl), ⟨(B7 rfl rfl), (B7 rfl rfl), (B7 rfl rfl), (B7 rfl rfl)⟩⟩) (fun h3 =>
    Mg h_a0 h_a1)) (fun h2 =>
   Mg h_a0 h_a1))
theorem Ky {a0 : Ac} {a1 : Int} {s4561 : Int} {s4570 : Int} (h_a0 : Ar a0) (h_a1 : Bt 0 255 a1) (h_s4561 : In .u8 s4561) (h_s4570 : In .u16 s4570) (hp_0 : a0.Av < 240) : Ak (fun r => Ar r) (Bf.j2 a0 a1 s4561 s4570) := by
 unfold Bf.j2
 exact Ak.bind (IM ⟨h_a0.BK, h_a0.BU, h_a0.Bu, h_a0.Cm, h_a0.Dg, h_a0.AY, h_a0.Aq, h_a0.Cg, h_s4561, h_a0.AV, h_a0.CU, h_a0.Av, h_a0.Cc, h_a0.AP, h_a0.BF, h_a0.x1⟩ (CY _)) (fun r4586 h1 =>
 Ak.bif (fun h2 =>
  Ak.arr (by have e0 := Cu h_a0.Av; have e1 := Cq (CW _ : In .u8 (Bv .u8 a0.Cg 1)); have e2 := BP a0.Cg 1 (by decide); have e3 := F3 h2; have e4 := hp_0; omega) (by have e0 := Cu h_a0.Av; have e1 := Cq (CW _ : In .u8 (Bv .u8 a0.Cg 1)); have e2 := BP a0.Cg 1 (by decide); have e3 := F3 h2; have e4 := hp_0; omega) (Ak.arr (by have e0 := Cu h_a1; have e1 := Cq (CW _ : In .u8 (Bv .u8 a0.Cg 1)); have e2 := BP a0.Cg 1 (by decide); have e3 := F3 h2; have e4 := Cu h_a0.Av; have e5 := hp_0; omega) (by have e0 := Cu h_a1; have e1 := Cq (CW _ : In .u8 (Bv .u8 a0.Cg 1)); have e2 := BP a0.Cg 1 (by decide); have e3 := F3 h2; have e4 := Cu h_a0.Av; have e5 := hp_0; omega) (Ak.mk ⟨h_a0.BK, h_a0.BU, h_a0.Bu, h_a0.Cm, h_a0.Dg, h_a0.AY, h_a0.Aq, h_a0.Cg, h_s4561, h_a0.AV, h_a0.CU, h_a0.Av, h_a0.Cc, h_a0.AP, (Jc h_a0.BF (CW _)), h_a0.x1⟩))) (fun h2 =>
  Ak.arr (by have e0 := Cu h_a0.Av; have e1 := Cq (CW _ : In .u8 (Bv .u8 a0.Cg 1)); have e2 := BP a0.Cg 1 (by decide); have e3 := Ei h2; have e4 := hp_0; omega) (by have e0 := Cu h_a0.Av; have e1 := Cq (CW _ : In .u8 (Bv .u8 a0.Cg 1)); have e2 := BP a0.Cg 1 (by decide); have e3 := Ei h2; have e4 := hp_0; omega) (Ak.arr (by have e0 := Cu h_a1; have e1 := Cq (CW _ : In .u8 (Bv .u8 a0.Cg 1)); have e2 := BP a0.Cg 1 (by decide); have e3 := Ei h2; have e4 := Cu h_a0.Av; have e5 := hp_0; omega) (by have e0 := Cu h_a1; have e1 := Cq (CW _ : In .u8 (Bv .u8 a0.Cg 1)); have e2 := BP a0.Cg 1 (by decide); have e3 := Ei h2; have e4 := Cu h_a0.Av; have e5 := hp_0; omega) (Ak.mk ⟨h_a0.BK, h_a0.BU, h_a0.Bu, h_a0.Cm, h_a0.Dg, h_a0.AY, h_a0.Aq, h_a0.Cg, h_s4561, h_a0.AV, h_a0.CU, h_a0.Av, h_a0.Cc, h_a0.AP, (Jc h_a0.BF h1), h_a0.x1⟩))))
theorem Ku {a0 : Ac} {a1 : Int} {r4462 : Int × Int} {r4553 : Int × Au} {s4561 : Int} {s4571 : Bool} (h_a0 : Ar a0) (h_a1 : Bt 0 255 a1) (h_r4462_1 : In .u8 r4462.1) (h_r4462_2 : In .u8 r4462.2) (h_r4553_1 : In .u8 r4553.1) (h_r4553_2 : GN r4553.2) (h_s4561 : In .u8 s4561) (hp_0 : a0.Av < 240) : Ak (fun r => Ar r) (Bf.j3 a0 a1 r4462 r4553 s4561 s4571) := by
 unfold Bf.j3
 exact Ak.bif (fun h1 =>
  Ak.bnd (fun x4579 e_x4579 =>
   have w_x4579 : In .u16 x4579 := O6 e_x4579 (CY _);
   Ky h_a0 h_a1 h_s4561 w_x4579 (show a0.Av < 240 from by have e0 := Cu h_a0.Av; have e1 := hp_0; have e2 := Cq (CW _ : In .u8 (Mv .u8 (Mv .u8 16 (shl .u8 (Bv .u8 r4553.2.Nq 3) 2)) r4553.1)); have e3 := EU (Mv .u8 (Mv .u8 16 (shl .u8 (Bv .u8 r4553.2.Nq 3) 2)) r4553.1); have e4 := e_x4579; omega))) (fun h1 =>
  Ak.bif (fun h2 =>
   Ak.bnd (fun x4580 e_x4580 =>
    have w_x4580 : In .u16 x4580 := O6 e_x4580 (CY _);
    Ky h_a0 h_a1 h_s4561 w_x4580 (show a0.Av < 240 from by have e0 := Cu h_a0.Av; have e1 := Cq h_r4462_1; have e2 := F3 h2; have e3 := hp_0; have e4 := Cq (CW _ : In .u8 (Mv .u8 (shl .u8 r4462.2 2) r4462.1)); have e5 := EU (Mv .u8 (shl .u8 r4462.2 2) r4462.1); have e6 := e_x4580; omega))) (fun h2 =>
   Ky h_a0 h_a1 h_s4561 (B7 rfl rfl) (show a0.Av < 240 from by have e0 := Cu h_a0.Av; have e1 := Cq h_r4462_1; have e2 := Ei h2; have e3 := hp_0; omega)))
theorem G8 {a0 : Ac} {a1 : Int} {r4462 : Int × Int} {r4553 : Int × Au} {s4561 : Int} (h_a0 : Ar a0) (h_a1 : Bt 0 255 a1) (h_r4462_1 : In .u8 r4462.1) (h_r4462_2 : In .u8 r4462.2) (h_r4553_1 : In .u8 r4553.1) (h_r4553_2 : GN r4553.2) (h_s4561 : In .u8 s4561) (hp_0 : a0.Av < 240) : Ak (fun r => Ar r) (Bf.j1 a0 a1 r4462 r4553 s4561) := by
 unfold Bf.j1
 exact Ak.bif (fun h1 =>
  Ak.bif (fun h2 =>
   Ku h_a0 h_a1 h_r4462_1 h_r4462_2 h_r4553_1 h_r4553_2 h_s4561 (show a0.Av < 240 from by have e0 := Cu h_a0.Av; have e1 := Cq h_r4553_1; have e2 := F3 h1; have e3 := Cq h_r4462_1; have e4 := eq_of_beq h2; have e5 := hp_0; omega)) (fun h2 =>
   Ku h_a0 h_a1 h_r4462_1 h_r4462_2 h_r4553_1 h_r4553_2 h_s4561 (show a0.Av < 240 from by have e0 := Cu h_a0.Av; have e1 := Cq h_r4553_1; have e2 := F3 h1; have e3 := Cq h_r4462_1; have e4 := ne_of_beq_false h2; have e5 := hp_0; omega))) (fun h1 =>
  Ku h_a0 h_a1 h_r4462_1 h_r4462_2 h_r4553_1 h_r4553_2 h_s4561 (show a0.Av < 240 from by have e0 := Cu h_a0.Av; have e1 := Cq h_r4553_1; have e2 := Ei h1; have e3 := hp_0; omega))
theorem PZ {a0 : Ac} {a1 : Int} (h_a0 : Ar a0) (h_a1 : Bt 0 255 a1) (hp_0 : a0.Av < 240) : Ak (fun r => Ar r) (Bf.f a0 a1) := by
 unfold Bf.f
 exact Ak.bind (PW h_a0 h_a1) (fun r4462 h1 =>
 Ak.bind (P4 h_a0 h_a1) (fun r4553 h2 =>
 Ak.bif (fun h3 =>
  Ak.bif (fun h4 =>
   Ak.bif (fun h5 =>
    Ak.bif (fun h6 =>
     G8 h_a0 h_a1 h1.1 h1.2 h2.1 h2.2 (CW _) (show a0.Av < 240 from by have e0 := Cu h_a0.Av; have e1 := Cq h1.1; have e2 := F3 h3; have e3 := Cq h2.1; have e4 := F3 h4; have e5 := Cu h_a1; have e6 := of_decide_eq_true h6; have e7 := hp_0; omega)) (fun h6 =>
     G8 h_a0 h_a1 h1.1 h1.2 h2.1 h2.2 h_a0.BZ (show a0.Av < 240 from by have e0 := Cu h_a0.Av; have e1 := Cq h1.1; have e2 := F3 h3; have e3 := Cq h2.1; have e4 := F3 h4; have e5 := Cu h_a1; have e6 := of_decide_eq_false h6; have e7 := hp_0; omega))) (fun h5 =>
    G8 h_a0 h_a1 h1.1 h1.2 h2.1 h2.2 h_a0.BZ (show a0.Av < 240 from by have e0 := Cu h_a0.Av; have e1 := Cq h1.1; have e2 := F3 h3; have e3 := Cq h2.1; have e4 := F3 h4; have e5 := hp_0; omega))) (fun h4 =>
   G8 h_a0 h_a1 h1.1 h1.2 h2.1 h2.2 h_a0.BZ (show a0.Av < 240 from by have e0 := Cu h_a0.Av; have e1 := Cq h1.1; have e2 := F3 h3; have e3 := Cq h2.1; have e4 := Ei h4; have e5 := hp_0; omega))) (fun h3 =>
  G8 h_a0 h_a1 h1.1 h1.2 h2.1 h2.2 h_a0.BZ (show a0.Av < 240 from by have e0 := Cu h_a0.Av; have e1 := Cq h1.1; have e2 := Ei h3; have e3 := hp_0; omega))))
theorem MN {a0 : Ac} (h_a0 : Ar a0) : Ak (fun _ => True) (Fu.f a0) := by
 unfold Fu.f
 exact Ak.mk trivial
theorem Sz {a0 : Bq} (h_a0 : Db a0) : Ak (fun r => Db r) (LC.f a0) := by
 unfold LC.f
 exact Ak.bind (E7 h_a0) (fun r4625 h1 =>
 Ak.bind (Ks h1.Hw (B7 rfl rfl) h1.Ir) (fun r4629 h2 =>
 Ak.mk ⟨h2, h1.Ir, h1.DD⟩))
theorem Si {a0 : Bq} (h_a0 : Db a0) : Ak (fun r => Db r) (Lj.f a0) := by
 unfold Lj.f
 exact Ak.bind (E7 h_a0) (fun r4641 h1 =>
 Ak.bind (Ks h1.Hw (B7 rfl rfl) h1.Ir) (fun r4645 h2 =>
 Ak.mk ⟨h2, h1.Ir, h1.DD⟩))
theorem Sj {a0 : Bq} (h_a0 : Db a0) : Ak (fun r => Db r) (Lm.f a0) := by
 unfold Lm.f
 exact Ak.bind (E7 h_a0) (fun r4657 h1 =>
 Ak.bif (fun h2 =>
  Ak.mk ⟨(CY _), h1.Ir, h1.DD⟩) (fun h2 =>
  Ak.bnd (fun x4661 e_x4661 =>
   Ak.bif (fun h3 =>
    Ak.mk ⟨(CY _), h1.Ir, h1.DD⟩) (fun h3 =>
    Ak.bnd (fun x4662 e_x4662 =>
     Ak.bif (fun h4 =>
      Ak.mk ⟨(CY _), h1.Ir, h1.DD⟩) (fun h4 =>
      Ak.mk ⟨(CY _), h1.Ir, h1.DD⟩))))))
theorem Kt {a0 : Ac} {s4613 : Bool} (h_a0 : Ar a0) : Ak (fun r => Ar r) (Cy.j1 a0 s4613) := by
 unfold Cy.j1
 exact Ak.bif (fun h1 =>
  Ak.bind (Sz h_a0.AY) (fun r4633 h2 =>
  Ak.mk ⟨h_a0.BK, h_a0.BU, h_a0.Bu, h_a0.Cm, h_a0.Dg, h2, h_a0.Aq, h_a0.Cg, h_a0.BZ, h_a0.AV, h_a0.CU, h_a0.Av, h_a0.Cc, h_a0.AP, h_a0.BF, h_a0.x1⟩)) (fun h1 =>
  Ak.bif (fun h3 =>
   Ak.bind (Si h_a0.AY) (fun r4649 h4 =>
   Ak.mk ⟨h_a0.BK, h_a0.BU, h_a0.Bu, h_a0.Cm, h_a0.Dg, h4, h_a0.Aq, h_a0.Cg, h_a0.BZ, h_a0.AV, h_a0.CU, h_a0.Av, h_a0.Cc, h_a0.AP, h_a0.BF, h_a0.x1⟩)) (fun h3 =>
   Ak.bif (fun h5 =>
    Ak.bind (Sj h_a0.AY) (fun r4663 h6 =>
    Ak.mk ⟨h_a0.BK, h_a0.BU, h_a0.Bu, h_a0.Cm, h_a0.Dg, h6, h_a0.Aq, h_a0.Cg, h_a0.BZ, h_a0.AV, h_a0.CU, h_a0.Av, h_a0.Cc, h_a0.AP, h_a0.BF, h_a0.x1⟩)) (fun h5 =>
    Ak.bif (fun h7 =>
     Ak.bif (fun h8 =>
      Ak.bif (fun h9 =>
       Ak.bind (O8 h_a0.AY) (fun r4669 h10 =>
       Ak.mk ⟨h_a0.BK, h_a0.BU, h_a0.Bu, h_a0.Cm, h_a0.Dg, h10, h_a0.Aq, h_a0.Cg, h_a0.BZ, h_a0.AV, h_a0.CU, h_a0.Av, h_a0.Cc, h_a0.AP, h_a0.BF, h_a0.x1⟩)) (fun h9 =>
       Ak.mk h_a0)) (fun h8 =>
      Ak.mk h_a0)) (fun h7 =>
     Ak.mk h_a0))))
theorem Ng {a0 : Ac} (h_a0 : Ar a0) : Ak (fun r => Ar r) (Cy.f a0) := by
 unfold Cy.f
 exact Ak.bif (fun h1 =>
  Ak.bif (fun h2 =>
   Kt h_a0) (fun h2 =>
   Kt h_a0)) (fun h1 =>
  Kt h_a0)
theorem PG {a0 : Ac} (h_a0 : Ar a0) : Ak (fun _ => True) (GY.f a0) := by
 unfold GY.f
 exact Ak.mk trivial
theorem M8 {a0 : Ac} (h_a0 : Ar a0) : Ak (fun r => Bt 8 16 r ∧ ((Bv .u8 a0.Aq 32 = 0 ∧ r = 8) ∨ (Bv .u8 a0.Aq 32 ≠ 0 ∧ r = 16))) (ET.f a0) := by
 unfold ET.f
 exact Ak.bif (fun h1 =>
  Ak.mk ⟨(EZ (x := 16) (by have e0 := Cq (CW _ : In .u8 (Bv .u8 a0.Aq 32)); have e1 := BP a0.Aq 32 (by decide); have e2 := F3 h1; omega)), (by have e0 := Cq (CW _ : In .u8 (Bv .u8 a0.Aq 32)); have e1 := BP a0.Aq 32 (by decide); have e2 := F3 h1; omega)⟩) (fun h1 =>
  Ak.mk ⟨(EZ (x := 8) (by have e0 := Cq (CW _ : In .u8 (Bv .u8 a0.Aq 32)); have e1 := BP a0.Aq 32 (by decide); have e2 := Ei h1; omega)), (by have e0 := Cq (CW _ : In .u8 (Bv .u8 a0.Aq 32)); have e1 := BP a0.Aq 32 (by decide); have e2 := Ei h1; omega)⟩)
theorem JK {a0 : Ac} {a1 : Int} {s4729 : Int} (h_a0 : Ar a0) (h_a1 : Bt 0 252 a1) (h_s4729 : Bt 0 8183 s4729) : Ak (fun r => GN r) (Cj.j2 a0 a1 s4729) := by
 unfold Cj.j2
 exact Ak.arr (by have e0 := Cu h_s4729; omega) (by have e0 := Cu h_s4729; omega) (Ak.arr (by have e0 := Cu h_s4729; have e1 := EU (s4729 + 8); omega) (by have e0 := Cu h_s4729; have e1 := EU (s4729 + 8); omega) (Ak.arr (by have e0 := Cu h_a1; have e1 := CS (a1 + 3); omega) (by have e0 := Cu h_a1; have e1 := CS (a1 + 3); omega) (Ak.mk ⟨(h_a0.BK.e _), (h_a0.BK.e _), (h_a0.Cm.e _), (h_a0.Cm.e _)⟩)))
theorem M5 {a0 : Ac} {a1 : Int} {s4718 : Int} (h_a0 : Ar a0) (h_a1 : Bt 0 252 a1) (h_s4718 : Bt 0 15 s4718) (hp_0 : (Bv .u8 a0.Aq 32 = 0 → s4718 ≤ 7)) : Ak (fun r => GN r) (Cj.j1 a0 a1 s4718) := by
 unfold Cj.j1
 exact Ak.bif (fun h1 =>
  Ak.bnd (fun x4730 e_x4730 =>
   have w_x4730 : In .u16 x4730 := O6 e_x4730 (CY _);
   JK h_a0 h_a1 (EZ (x := x4730) (by have e0 := DT w_x4730; have e1 := Cq (CW _ : In .u8 (Bv .u8 a0.Aq 32)); have e2 := BP a0.Aq 32 (by decide); have e3 := F3 h1; have e4 := Cu h_s4718; have e5 := hp_0; have e6 := Cq (CW _ : In .u8 (Bv .u8 (a0.Cm (IntKind.wrap .i64 (a1 + 1)).toNat) 1)); have e7 := BP (a0.Cm (IntKind.wrap .i64 (a1 + 1)).toNat) 1 (by decide); have e8 := EU (Bv .u8 (a0.Cm (IntKind.wrap .i64 (a1 + 1)).toNat) 1); have e9 := EU (4096 * (IntKind.wrap .u16 (Bv .u8 (a0.Cm (IntKind.wrap .i64 (a1 + 1)).toNat) 1))); have e10 := Cq (CW _ : In .u8 (J3 .u8 (a0.Cm (IntKind.wrap .i64 (a1 + 1)).toNat) 1)); have e11 := Cq (h_a0.Cm.e ((IntKind.wrap .i64 (a1 + 1)).toNat)); have e12 := UB (a0.Cm (IntKind.wrap .i64 (a1 + 1)).toNat) 1 (by decide); have e13 := Ud (a0.Cm (IntKind.wrap .i64 (a1 + 1)).toNat) 1; have e14 := EU (J3 .u8 (a0.Cm (IntKind.wrap .i64 (a1 + 1)).toNat) 1); have e15 := EU (16 * (IntKind.wrap .u16 (J3 .u8 (a0.Cm (IntKind.wrap .i64 (a1 + 1)).toNat) 1))); have e16 := EU ((IntKind.wrap .u16 (4096 * (IntKind.wrap .u16 (Bv .u8 (a0.Cm (IntKind.wrap .i64 (a1 + 1)).toNat) 1)))) + (IntKind.wrap .u16 (16 * (IntKind.wrap .u16 (J3 .u8 (a0.Cm (IntKind.wrap .i64 (a1 + 1)).toNat) 1))))); have e17 := WQ s4718 8 (by decide); have e18 := CS ((quo .i64 s4718 8) * 8); have e19 := CS (s4718 + (IntKind.wrap .i64 ((quo .i64 s4718 8) * 8))); have e20 := EU (IntKind.wrap .i64 (s4718 + (IntKind.wrap .i64 ((quo .i64 s4718 8) * 8)))); have e21 := EU ((IntKind.wrap .u16 ((IntKind.wrap .u16 (4096 * (IntKind.wrap .u16 (Bv .u8 (a0.Cm (IntKind.wrap .i64 (a1 + 1)).toNat) 1)))) + (IntKind.wrap .u16 (16 * (IntKind.wrap .u16 (J3 .u8 (a0.Cm (IntKind.wrap .i64 (a1 + 1)).toNat) 1)))))) + (IntKind.wrap .u16 (IntKind.wrap .i64 (s4718 + (IntKind.wrap .i64 ((quo .i64 s4718 8) * 8)))))); have e22 := e_x4730; omega)))) (fun h1 =>
  Ak.bnd (fun x4731 e_x4731 =>
   have w_x4731 : In .u16 x4731 := O6 e_x4731 (CY _);
   Ak.bif (fun h2 =>
    JK h_a0 h_a1 (EZ (x := IntKind.wrap .u16 (x4731 + 4096)) (by have e0 := DT w_x4731; have e1 := EU (x4731 + 4096); have e2 := Cq (CW _ : In .u8 (Bv .u8 a0.Aq 32)); have e3 := BP a0.Aq 32 (by decide); have e4 := Ei h1; have e5 := Cq (CW _ : In .u8 (Bv .u8 a0.Aq 8)); have e6 := BP a0.Aq 8 (by decide); have e7 := F3 h2; have e8 := Cu h_s4718; have e9 := hp_0; have e10 := Cq (h_a0.Cm.e ((IntKind.wrap .i64 (a1 + 1)).toNat)); have e11 := EU (a0.Cm (IntKind.wrap .i64 (a1 + 1)).toNat); have e12 := EU (16 * (IntKind.wrap .u16 (a0.Cm (IntKind.wrap .i64 (a1 + 1)).toNat))); have e13 := EU s4718; have e14 := EU ((IntKind.wrap .u16 (16 * (IntKind.wrap .u16 (a0.Cm (IntKind.wrap .i64 (a1 + 1)).toNat)))) + (IntKind.wrap .u16 s4718)); have e15 := e_x4731; omega))) (fun h2 =>
    JK h_a0 h_a1 (EZ (x := x4731) (by have e0 := DT w_x4731; have e1 := Cq (CW _ : In .u8 (Bv .u8 a0.Aq 32)); have e2 := BP a0.Aq 32 (by decide); have e3 := Ei h1; have e4 := Cq (CW _ : In .u8 (Bv .u8 a0.Aq 8)); have e5 := BP a0.Aq 8 (by decide); have e6 := Ei h2; have e7 := Cu h_s4718; have e8 := hp_0; have e9 := Cq (h_a0.Cm.e ((IntKind.wrap .i64 (a1 + 1)).toNat)); have e10 := EU (a0.Cm (IntKind.wrap .i64 (a1 + 1)).toNat); have e11 := EU (16 * (IntKind.wrap .u16 (a0.Cm (IntKind.wrap .i64 (a1 + 1)).toNat))); have e12 := EU s4718; have e13 := EU ((IntKind.wrap .u16 (16 * (IntKind.wrap .u16 (a0.Cm (IntKind.wrap .i64 (a1 + 1)).toNat)))) + (IntKind.wrap .u16 s4718)); have e14 := e_x4731; omega)))))
theorem PK {a0 : Ac} {a1 : Int} {a2 : Int} (h_a0 : Ar a0) (h_a1 : Bt 0 252 a1) (h_a2 : Bt 0 15 a2) (hp_0 : (Bv .u8 a0.Aq 32 = 0 → a2 ≤ 7)) : Ak (fun r => GN r) (Cj.f a0 a1 a2) := by
 unfold Cj.f
 exact Ak.arr (by have e0 := Cu h_a1; have e1 := CS (a1 + 1); have e2 := Cq (CW _ : In .u8 (Bv .u8 a0.Aq 32)); have e3 := BP a0.Aq 32 (by decide); have e4 := Cu h_a2; have e5 := hp_0; omega) (by have e0 := Cu h_a1; have e1 := CS (a1 + 1); have e2 := Cq (CW _ : In .u8 (Bv .u8 a0.Aq 32)); have e3 := BP a0.Aq 32 (by decide); have e4 := Cu h_a2; have e5 := hp_0; omega) (Ak.arr (by have e0 := Cu h_a1; have e1 := CS (a1 + 2); have e2 := Cq (CW _ : In .u8 (Bv .u8 a0.Aq 32)); have e3 := BP a0.Aq 32 (by decide); have e4 := Cu h_a2; have e5 := hp_0; omega) (by have e0 := Cu h_a1; have e1 := CS (a1 + 2); have e2 := Cq (CW _ : In .u8 (Bv .u8 a0.Aq 32)); have e3 := BP a0.Aq 32 (by decide); have e4 := Cu h_a2; have e5 := hp_0; omega) (Ak.bif (fun h1 =>
  Ak.bind (M8 h_a0) (fun r4719 h2 =>
  Ak.bnd (fun x4723 e_x4723 =>
   M5 h_a0 h_a1 (EZ (x := x4723) (by have e0 := Cq (CW _ : In .u8 (Bv .u8 (a0.Cm (IntKind.wrap .i64 (a1 + 2)).toNat) 128)); have e1 := BP (a0.Cm (IntKind.wrap .i64 (a1 + 2)).toNat) 128 (by decide); have e2 := F3 h1; have e3 := Cq (CW _ : In .u8 (Bv .u8 a0.Aq 32)); have e4 := BP a0.Aq 32 (by decide); have e5 := Cu h_a2; have e6 := hp_0; have e7 := Cu h2.1; have e8 := h2.2; have e9 := CS (r4719 - 1); have e10 := CS ((IntKind.wrap .i64 (r4719 - 1)) - a2); have e11 := e_x4723; omega)) (show (Bv .u8 a0.Aq 32 = 0 → x4723 ≤ 7) from by have e0 := Cq (CW _ : In .u8 (Bv .u8 a0.Aq 32)); have e1 := BP a0.Aq 32 (by decide); have e2 := Cq (CW _ : In .u8 (Bv .u8 (a0.Cm (IntKind.wrap .i64 (a1 + 2)).toNat) 128)); have e3 := BP (a0.Cm (IntKind.wrap .i64 (a1 + 2)).toNat) 128 (by decide); have e4 := F3 h1; have e5 := Cu h_a2; have e6 := hp_0; have e7 := Cu h2.1; have e8 := h2.2; have e9 := CS (r4719 - 1); have e10 := CS ((IntKind.wrap .i64 (r4719 - 1)) - a2); have e11 := e_x4723; omega)))) (fun h1 =>
  M5 h_a0 h_a1 h_a2 (show (Bv .u8 a0.Aq 32 = 0 → a2 ≤ 7) from by have e0 := Cq (CW _ : In .u8 (Bv .u8 a0.Aq 32)); have e1 := BP a0.Aq 32 (by decide); have e2 := Cu h_a2; have e3 := Cq (CW _ : In .u8 (Bv .u8 (a0.Cm (IntKind.wrap .i64 (a1 + 2)).toNat) 128)); have e4 := BP (a0.Cm (IntKind.wrap .i64 (a1 + 2)).toNat) 128 (by decide); have e5 := Ei h1; have e6 := hp_0; omega))))
theorem Pq {a0 : Ac} (h_a0 : Ar a0) : ∀ (n : Nat) (s : (List Au) × Int) (h_s : Yg GN s.1) (hi_0 : 0 ≤ s.2 ∧ s.2 ≤ 256 ∧ s.2 % 4 = 0) (hi_1 : (s.1.length : Int) ≤ 8) (hm : 256 - s.2 < (n : Int)), Ak (fun r => Ar r) (AB.l2 a0 n s) := by
 intro n
 induction n with
 | zero => intro s hs hi hl hm; exfalso; omega
 | succ n ih =>
  intro s hs hi hl hm
  unfold AB.l2
  refine Ak.bif (fun h => ?_) (fun _ => Ak.mk ⟨h_a0.BK, h_a0.BU, h_a0.Bu, h_a0.Cm, h_a0.Dg, h_a0.AY, h_a0.Aq, h_a0.Cg, h_a0.BZ, h_a0.AV, h_a0.CU, h_a0.Av, h_a0.Cc, hs, h_a0.BF, (by unfold KM; simp only []; omega)⟩)
  have h := of_decide_eq_true h
  have e4 : IntKind.wrap .i64 (s.2 + 4) = s.2 + 4 := by rw [CS]; omega
  refine Ak.arr hi.1 h (Ak.bif (fun _ => ?_) (fun h1 => ?_))
  · exact ih _ hs (by simp only []; omega) hl (by simp only []; omega)
  have h1 := of_decide_eq_false h1
  refine Ak.bind (M8 ⟨h_a0.BK, h_a0.BU, h_a0.Bu, h_a0.Cm, h_a0.Dg, h_a0.AY, h_a0.Aq, h_a0.Cg, h_a0.BZ, h_a0.AV, h_a0.CU, h_a0.Av, h_a0.Cc, hs, h_a0.BF, (by unfold KM; simp only []; omega)⟩) (fun r hr => Ak.bif (fun _ => ?_) (fun h2 => ?_))
  · exact ih _ hs (by simp only []; omega) hl (by simp only []; omega)
  have h2 := of_decide_eq_false h2
  have hb := Cu hr.1
  have hc := hr.2
  simp only [] at hc
  unfold AB.j5
  refine Ak.bif (fun _ => Ak.mk ⟨h_a0.BK, h_a0.BU, h_a0.Bu, h_a0.Cm, h_a0.Dg, h_a0.AY, h_a0.Aq, h_a0.Cg, (CW _), h_a0.AV, h_a0.CU, h_a0.Av, h_a0.Cc, hs, h_a0.BF, (by unfold KM; simp only []; omega)⟩) (fun h3 => ?_)
  have h3 := ne_of_beq_false h3
  refine Ak.bind (PK ⟨h_a0.BK, h_a0.BU, h_a0.Bu, h_a0.Cm, h_a0.Dg, h_a0.AY, h_a0.Aq, h_a0.Cg, h_a0.BZ, h_a0.AV, h_a0.CU, h_a0.Av, h_a0.Cc, hs, h_a0.BF, (by unfold KM; simp only []; omega)⟩ (EZ (by omega)) (EZ (by omega)) (by simp only []; omega)) (fun q hq => Ak.bind (Ak.lim (by simp only [List.length_cons, List.length_nil]; omega)) (fun _ _ => ?_))
  exact ih _ (Yn hs hq) (by simp only []; omega) (by simp only [List.length_append, List.length_cons, List.length_nil]; omega) (by simp only []; omega)
theorem Pt {a0 : Ac} {s4680 : Unit} (h_a0 : Ar a0) : Ak (fun r => Ar r) (AB.j1 a0 s4680) := by
 unfold AB.j1
 exact Pq h_a0 _ _ SQ (show 0 ≤ 0 ∧ 0 ≤ 256 ∧ 0 % 4 = 0 from by omega) (show (([]).length : Int) ≤ 8 from by simp only [List.length_cons, List.length_nil]; omega) (show 256 - 0 < _ from by omega)
theorem Ik {a0 : Ac} {a1 : Bool} (h_a0 : Ar a0) : Ak (fun r => Ar r) (AB.f a0 a1) := by
 unfold AB.f
 exact Ak.bif (fun h1 =>
  Ak.mk ⟨h_a0.BK, h_a0.BU, h_a0.Bu, h_a0.Cm, h_a0.Dg, h_a0.AY, h_a0.Aq, h_a0.Cg, h_a0.BZ, h_a0.AV, h_a0.CU, h_a0.Av, h_a0.Cc, SQ, h_a0.BF, (show (([] : List Au)).length ≤ 8 from by simp only [List.length_cons, List.length_nil, List.length_append]; omega)⟩) (fun h1 =>
  Ak.bind (PG ⟨h_a0.BK, h_a0.BU, h_a0.Bu, h_a0.Cm, h_a0.Dg, h_a0.AY, h_a0.Aq, h_a0.Cg, h_a0.BZ, h_a0.AV, h_a0.CU, h_a0.Av, h_a0.Cc, SQ, h_a0.BF, (show (([] : List Au)).length ≤ 8 from by simp only [List.length_cons, List.length_nil, List.length_append]; omega)⟩) (fun r4686 _ =>
  Ak.bif (fun h3 =>
   Ak.mk ⟨h_a0.BK, h_a0.BU, h_a0.Bu, h_a0.Cm, h_a0.Dg, h_a0.AY, h_a0.Aq, h_a0.Cg, h_a0.BZ, h_a0.AV, h_a0.CU, h_a0.Av, h_a0.Cc, SQ, h_a0.BF, (show (([] : List Au)).length ≤ 8 from by simp only [List.length_cons, List.length_nil, List.length_append]; omega)⟩) (fun h3 =>
   Pt h_a0)))
theorem GA {a0 : Ac} {s4914 : Int} (h_a0 : Ar a0) (h_s4914 : Bt 0 342 s4914) : Ak (fun r => Ar r) (Be.j1 a0 s4914) := by
 unfold Be.j1
 exact Ak.bif (fun h1 =>
  Ak.mk ⟨h_a0.BK, h_a0.BU, h_a0.Bu, h_a0.Cm, h_a0.Dg, h_a0.AY, h_a0.Aq, h_a0.Cg, h_a0.BZ, h_a0.AV, h_a0.CU, h_a0.Av, (EZ (x := s4914) (by have e0 := Cu h_s4914; have e1 := of_decide_eq_true h1; omega)), h_a0.AP, h_a0.BF, h_a0.x1⟩) (fun h1 =>
  Ak.bif (fun h2 =>
   Ak.mk ⟨h_a0.BK, h_a0.BU, h_a0.Bu, h_a0.Cm, h_a0.Dg, h_a0.AY, h_a0.Aq, h_a0.Cg, h_a0.BZ, h_a0.AV, h_a0.CU, (EZ (x := 0) (by have e0 := Cu h_s4914; have e1 := of_decide_eq_false h1; have e2 := Cu h_a0.Av; have e3 := CS (a0.Av + 1); have e4 := eq_of_beq h2; omega)), (EZ (x := 0) (by have e0 := Cu h_s4914; have e1 := of_decide_eq_false h1; have e2 := Cu h_a0.Av; have e3 := CS (a0.Av + 1); have e4 := eq_of_beq h2; omega)), h_a0.AP, h_a0.BF, h_a0.x1⟩) (fun h2 =>
   Ak.mk ⟨h_a0.BK, h_a0.BU, h_a0.Bu, h_a0.Cm, h_a0.Dg, h_a0.AY, h_a0.Aq, h_a0.Cg, h_a0.BZ, h_a0.AV, h_a0.CU, (EZ (x := IntKind.wrap .i64 (a0.Av + 1)) (by have e0 := Cu h_a0.Av; have e1 := CS (a0.Av + 1); have e2 := Cu h_s4914; have e3 := of_decide_eq_false h1; have e4 := ne_of_beq_false h2; omega)), (EZ (x := 0) (by have e0 := Cu h_s4914; have e1 := of_decide_eq_false h1; have e2 := Cu h_a0.Av; have e3 := CS (a0.Av + 1); have e4 := ne_of_beq_false h2; omega)), h_a0.AP, h_a0.BF, h_a0.x1⟩))
theorem Ew {a0 : Ac} (h_a0 : Ar a0) : Ak (fun r => Ar r) (Be.f a0) := by
 unfold Be.f
 exact Ak.bif (fun h1 =>
  Ak.bif (fun h2 =>
   Ak.bif (fun h3 =>
    Ak.bind (MN ⟨h_a0.BK, h_a0.BU, h_a0.Bu, h_a0.Cm, h_a0.Dg, h_a0.AY, h_a0.Aq, h_a0.Cg, h_a0.BZ, h_a0.AV, h_a0.CU, h_a0.Av, (EZ (x := IntKind.wrap .i64 (a0.Cc + 1)) (by have e0 := Cu h_a0.Cc; have e1 := CS (a0.Cc + 1); have e2 := Cu h_a0.Av; have e3 := eq_of_beq h1; have e4 := eq_of_beq h2; omega)), h_a0.AP, h_a0.BF, h_a0.x1⟩) (fun r4918 _ =>
    Ak.bif (fun h5 =>
     GA h_a0 (EZ (x := IntKind.wrap .i64 ((IntKind.wrap .i64 (a0.Cc + 1)) + 1)) (by have e0 := Cu h_a0.Cc; have e1 := CS (a0.Cc + 1); have e2 := CS ((IntKind.wrap .i64 (a0.Cc + 1)) + 1); have e3 := Cu h_a0.Av; have e4 := eq_of_beq h1; have e5 := eq_of_beq h2; omega))) (fun h5 =>
     GA h_a0 (EZ (x := IntKind.wrap .i64 (a0.Cc + 1)) (by have e0 := Cu h_a0.Cc; have e1 := CS (a0.Cc + 1); have e2 := Cu h_a0.Av; have e3 := eq_of_beq h1; have e4 := eq_of_beq h2; omega))))) (fun h3 =>
    GA h_a0 (EZ (x := IntKind.wrap .i64 (a0.Cc + 1)) (by have e0 := Cu h_a0.Cc; have e1 := CS (a0.Cc + 1); have e2 := Cu h_a0.Av; have e3 := eq_of_beq h1; have e4 := eq_of_beq h2; omega)))) (fun h2 =>
   GA h_a0 (EZ (x := IntKind.wrap .i64 (a0.Cc + 1)) (by have e0 := Cu h_a0.Cc; have e1 := CS (a0.Cc + 1); have e2 := Cu h_a0.Av; have e3 := eq_of_beq h1; have e4 := ne_of_beq_false h2; omega)))) (fun h1 =>
  GA h_a0 (EZ (x := IntKind.wrap .i64 (a0.Cc + 1)) (by have e0 := Cu h_a0.Cc; have e1 := CS (a0.Cc + 1); have e2 := Cu h_a0.Av; have e3 := ne_of_beq_false h1; omega)))
theorem Io {a0 : Ac} {s4354 : Ac} (h_a0 : Ar a0) (h_s4354 : Ar s4354) : Ak (fun r => Ar r) (AR.j3 a0 s4354) := by
 unfold AR.j3
 exact Ak.bind (MN h_s4354) (fun r4606 _ =>
 Ak.bif (fun h2 =>
  Ak.bif (fun h3 =>
   Ak.bind (Ng h_s4354) (fun r4673 h4 =>
   Ak.bif (fun h5 =>
    Ak.bind (Ik h4) (fun r4903 h6 =>
    Ak.bind (Ew h6) (fun r4927 h7 =>
    Ak.mk h7))) (fun h5 =>
    Ak.bind (Ew h4) (fun r4933 h8 =>
    Ak.mk h8)))) (fun h3 =>
   Ak.bif (fun h9 =>
    Ak.bind (Ng h_s4354) (fun r4939 h10 =>
    Ak.bif (fun h11 =>
     Ak.bind (Ik h10) (fun r4945 h12 =>
     Ak.bind (Ew h12) (fun r4955 h13 =>
     Ak.mk h13))) (fun h11 =>
     Ak.bind (Ew h10) (fun r4961 h14 =>
     Ak.mk h14)))) (fun h9 =>
    Ak.bif (fun h15 =>
     Ak.bind (Ik h_s4354) (fun r4967 h16 =>
     Ak.bind (Ew h16) (fun r4977 h17 =>
     Ak.mk h17))) (fun h15 =>
     Ak.bind (Ew h_s4354) (fun r4983 h18 =>
     Ak.mk h18))))) (fun h2 =>
  Ak.bif (fun h19 =>
   Ak.bind (Ik h_s4354) (fun r4989 h20 =>
   Ak.bind (Ew h20) (fun r4999 h21 =>
   Ak.mk h21))) (fun h19 =>
   Ak.bind (Ew h_s4354) (fun r5005 h22 =>
   Ak.mk h22))))
theorem Ii {a0 : Ac} {s4340 : Int × Int} (h_a0 : Ar a0) (h_s4340_1 : In .u8 s4340.1) : Ak (fun r => Ar r) (AR.j1 a0 s4340) := by
 unfold AR.j1
 exact Ak.bif (fun h1 =>
  Ak.bif (fun h2 =>
   Ak.bif (fun h3 =>
    Ak.bind (PZ ⟨h_a0.BK, h_a0.BU, h_a0.Bu, h_a0.Cm, h_a0.Dg, h_a0.AY, h_a0.Aq, h_a0.Cg, h_s4340_1, h_a0.AV, h_a0.CU, h_a0.Av, h_a0.Cc, h_a0.AP, h_a0.BF, h_a0.x1⟩ (EZ (x := IntKind.wrap .i64 (a0.Cc - 1)) (by have e0 := Cu h_a0.Cc; have e1 := CS (a0.Cc - 1); have e2 := Cu h_a0.Av; have e3 := of_decide_eq_true h1; have e4 := of_decide_eq_true h2; have e5 := of_decide_eq_true h3; omega)) (show a0.Av < 240 from by have e0 := Cu h_a0.Av; have e1 := of_decide_eq_true h1; have e2 := Cu h_a0.Cc; have e3 := of_decide_eq_true h2; have e4 := of_decide_eq_true h3; omega)) (fun r4594 h4 =>
    Io h_a0 h4)) (fun h3 =>
    Io h_a0 ⟨h_a0.BK, h_a0.BU, h_a0.Bu, h_a0.Cm, h_a0.Dg, h_a0.AY, h_a0.Aq, h_a0.Cg, h_s4340_1, h_a0.AV, h_a0.CU, h_a0.Av, h_a0.Cc, h_a0.AP, h_a0.BF, h_a0.x1⟩)) (fun h2 =>
   Io h_a0 ⟨h_a0.BK, h_a0.BU, h_a0.Bu, h_a0.Cm, h_a0.Dg, h_a0.AY, h_a0.Aq, h_a0.Cg, h_s4340_1, h_a0.AV, h_a0.CU, h_a0.Av, h_a0.Cc, h_a0.AP, h_a0.BF, h_a0.x1⟩)) (fun h1 =>
  Io h_a0 ⟨h_a0.BK, h_a0.BU, h_a0.Bu, h_a0.Cm, h_a0.Dg, h_a0.AY, h_a0.Aq, h_a0.Cg, h_s4340_1, h_a0.AV, h_a0.CU, h_a0.Av, h_a0.Cc, h_a0.AP, h_a0.BF, h_a0.x1⟩)
theorem M7 {a0 : Ac} {s4341 : Bool} (h_a0 : Ar a0) : Ak (fun r => Ar r) (AR.j2 a0 s4341) := by
 unfold AR.j2
 exact Ak.bif (fun h1 =>
  Ii h_a0 (CW _)) (fun h1 =>
  Ak.bif (fun h2 =>
   Ak.bif (fun h3 =>
    Ii h_a0 (B7 rfl rfl)) (fun h3 =>
    Ii h_a0 h_a0.BZ)) (fun h2 =>
   Ii h_a0 h_a0.BZ))
theorem PL {a0 : Ac} (h_a0 : Ar a0) : Ak (fun r => Ar r) (AR.f a0) := by
 unfold AR.f
 exact Ak.bif (fun h1 =>
  M7 h_a0) (fun h1 =>
  M7 h_a0)
theorem LU {a0 : Al} {s : Aa × Aa × Aa × Aa × Bool × Int} {k : (Aa × Aa × Aa × Aa × Bool × Int) → Option (Al × Aa × Aa × Aa × Aa)} {q : Aa × Aa × Aa × Aa} {P : (Al × Aa × Aa × Aa × Aa) → Prop} (hk : ∀ b, Ak P (k (q.1, q.2.1, q.2.2.1, q.2.2.2, b, IntKind.wrap .i64 (s.2.2.2.2.2 + 1)))) : Ak P (BV.j4 a0 s k q) := by
 unfold BV.j4
 exact Ak.bif (fun _ => hk _) (fun _ => Ak.bif (fun _ => Ak.bif (fun _ => hk _) (fun _ => hk _)) (fun _ => hk _))
theorem OD {a0 : Al} {z : List Int} (h_a0 : Bj a0) (hp_0 : (z.length : Int) = 4) : ∀ (n : Nat) (s : Aa × Aa × Aa × Aa × Bool × Int) (h1 : Ah s.1) (h2 : Ah s.2.1) (h3 : Ah s.2.2.1) (h4 : Ah s.2.2.2.1) (hi_0 : 0 ≤ s.2.2.2.2.2 ∧ s.2.2.2.2.2 ≤ 4) (hm : 4 - s.2.2.2.2.2 < (n : Int)), Ak (fun r => Bj r.1 ∧ Ah r.2.1 ∧ Ah r.2.2.1 ∧ Ah r.2.2.2.1 ∧ Ah r.2.2.2.2) (BV.l1 a0 z n s) := by
 intro n
 induction n with
 | zero => intro s h1 h2 h3 h4 hi hm; exfalso; omega
 | succ n ih =>
  intro s h1 h2 h3 h4 hi hm
  unfold BV.l1
  have hmn := Cu h_a0.C4
  have e1 : s.2.2.2.2.2 < 4 → IntKind.wrap .i64 (s.2.2.2.2.2 + 1) = s.2.2.2.2.2 + 1 := fun _ => by rw [CS]; omega
  refine Ak.bif (fun h => ?_) (fun h => ?_)
  · have h := of_decide_eq_true h
    have e1 := e1 h
    refine Ak.bind (Ak.SX hi.1 (by omega)) (fun y _ => Ak.bif (fun _ => ?_) (fun _ => ?_))
    · exact ih _ h1 h2 h3 h4 (by simp only []; omega) (by simp only []; omega)
    refine Ak.bind (Ee h1) (fun q1 g1 => Ak.bind (Ee h2) (fun q2 g2 => Ak.bind (Ee h3) (fun q3 g3 => Ak.bind (Ee h4) (fun q4 g4 => ?_))))
    refine Ak.bif (fun _ => ?_) (fun _ => ?_)
    · refine Ak.bind (EC g1) (fun p1 f1 => Ak.bind (EC g2) (fun p2 f2 => Ak.bind (EC g3) (fun p3 f3 => Ak.bind (EC g4) (fun p4 f4 => ?_))))
      exact LU (fun b => ih _ f1 f2 f3 f4 (by simp only []; omega) (by simp only []; omega))
    · exact LU (fun b => ih _ g1 g2 g3 g4 (by simp only []; omega) (by simp only []; omega))
  · refine Ak.arr hmn.1 (by omega) (Ak.arr (by omega) (by omega) (Ak.neg hmn.1 (Ak.bind (Ak.UR (n := 8) (by omega) (by omega) rfl) (fun y _ => Ak.bif (fun _ => ?_) (fun _ => ?_)))))
    · exact Ak.mk ⟨⟨h_a0.Ae, h_a0.C4⟩, h1, h2, h3, h4⟩
    · exact Ak.mk ⟨⟨h_a0.Ae, h_a0.C4⟩, h1, h2, h3, h4⟩
theorem Pw {a0 : Al} {b1 b2 b3 b4 : Aa} (h_a0 : Bj a0) (h1 : Ah b1) (h2 : Ah b2) (h3 : Ah b3) (h4 : Ah b4) : Ak (fun r => Bj r.1 ∧ Ah r.2.1 ∧ Ah r.2.2.1 ∧ Ah r.2.2.2.1 ∧ Ah r.2.2.2.2) (BV.f a0 b1 b2 b3 b4) := by
 unfold BV.f
 have hmn := Cu h_a0.C4
 refine Ak.arr hmn.1 (by omega) (Ak.neg hmn.1 (Ak.bind (Ak.Sk (by omega) (by omega) (by rw [show (VN.length : Int) = 8 from rfl]; omega)) (fun z hz => ?_)))
 exact OD h_a0 (by rw [hz.1]; omega) _ _ h1 h2 h3 h4 (by simp only []; omega) (by simp only []; omega)
theorem P8 {a0 : Aa} {s5268 : Int} (h_a0 : Ah a0) (h_s5268 : In .u16 s5268) : Ak (fun r => Ah r) (E4.j1 a0 s5268) := by
 unfold E4.j1
 exact Ak.mk ⟨h_a0.CZ, h_a0.AM, h_a0.CP, h_a0.Cb, h_a0.Cb, h_a0.Ev, h_a0.BM, h_a0.BN, h_a0.Dk, h_a0.Av, (CY _)⟩
theorem Me {a0 : Aa} (h_a0 : Ah a0) : Ak (fun r => Ah r) (E4.f a0) := by
 unfold E4.f
 exact Ak.bif (fun h1 =>
  Ak.mk ⟨h_a0.CZ, h_a0.AM, h_a0.CP, h_a0.Cb, (CY _), h_a0.Ev, h_a0.BM, h_a0.BN, h_a0.Dk, h_a0.Av, h_a0.Bw⟩) (fun h1 =>
  Ak.bif (fun h2 =>
   Ak.bif (fun h3 =>
    Ak.bif (fun h4 =>
     Ak.mk ⟨h_a0.CZ, h_a0.AM, h_a0.CP, h_a0.Cb, h_a0.Cb, (Xe (CW _)), h_a0.BM, h_a0.BN, h_a0.Dk, h_a0.Av, h_a0.Bw⟩) (fun h4 =>
     Ak.mk ⟨h_a0.CZ, h_a0.AM, h_a0.CP, h_a0.Cb, h_a0.Cb, h_a0.Ev, h_a0.BM, h_a0.BN, h_a0.Dk, h_a0.Av, h_a0.Bw⟩)) (fun h3 =>
    Ak.mk ⟨h_a0.CZ, h_a0.AM, h_a0.CP, h_a0.Cb, h_a0.Cb, h_a0.Ev, h_a0.BM, h_a0.BN, h_a0.Dk, h_a0.Av, h_a0.Bw⟩)) (fun h2 =>
   Ak.bif (fun h5 =>
    Ak.arr (by have e0 := DT h_a0.A9; have e1 := of_decide_eq_false h1; have e2 := Cq h_a0.CZ; have e3 := ne_of_beq_false h2; have e4 := eq_of_beq h5; omega) (by have e0 := DT h_a0.A9; have e1 := of_decide_eq_false h1; have e2 := Cq h_a0.CZ; have e3 := ne_of_beq_false h2; have e4 := eq_of_beq h5; omega) (Ak.bif (fun h6 =>
     P8 h_a0 (VE h_a0.Bw)) (fun h6 =>
     P8 h_a0 (VE h_a0.Bw)))) (fun h5 =>
    Ak.mk ⟨h_a0.CZ, h_a0.AM, h_a0.CP, h_a0.Cb, h_a0.Cb, (Xe (CW _)), h_a0.BM, h_a0.BN, h_a0.Dk, h_a0.Av, h_a0.Bw⟩)))
theorem Jz {a0 : Al} {s5314 : Bool} (h_a0 : Bj a0) : Ak (fun r => Bj r) (Co.j1 a0 s5314) := by
 unfold Co.j1
 exact Ak.bif (fun h1 =>
  Ak.mk ⟨⟨h_a0.Ae.AM, (CW _), h_a0.Ae.GB, (Vd h_a0.Ae.Bw), h_a0.Ae.FX, h_a0.Ae.A9, h_a0.Ae.BD⟩, h_a0.C4⟩) (fun h1 =>
  Ak.bif (fun h2 =>
   Ak.bif (fun h3 =>
    Ak.mk ⟨⟨h_a0.Ae.AM, (CW _), h_a0.Ae.GB, (Vd h_a0.Ae.Bw), h_a0.Ae.FX, h_a0.Ae.A9, h_a0.Ae.BD⟩, h_a0.C4⟩) (fun h3 =>
    Ak.mk ⟨⟨h_a0.Ae.AM, h_a0.Ae.BM, h_a0.Ae.GB, (Vd h_a0.Ae.Bw), h_a0.Ae.FX, h_a0.Ae.A9, h_a0.Ae.BD⟩, h_a0.C4⟩)) (fun h2 =>
   Ak.mk ⟨⟨h_a0.Ae.AM, h_a0.Ae.BM, h_a0.Ae.GB, (Vd h_a0.Ae.Bw), h_a0.Ae.FX, h_a0.Ae.A9, h_a0.Ae.BD⟩, h_a0.C4⟩))
theorem Nb {a0 : Al} {a0c1 : Aa} {a0c2 : Aa} {a0c3 : Aa} {a0c4 : Aa} (h_a0 : Bj a0) (h_a0c1 : Ah a0c1) (h_a0c2 : Ah a0c2) (h_a0c3 : Ah a0c3) (h_a0c4 : Ah a0c4) : Ak (fun r => Bj r) (Co.f a0 a0c1 a0c2 a0c3 a0c4) := by
 unfold Co.f
 exact Ak.bif (fun h1 =>
  Ak.mk h_a0) (fun h1 =>
  Ak.bif (fun h2 =>
   Jz h_a0) (fun h2 =>
   Jz h_a0))
theorem Jq {a0 : Al} {a0c1 : Aa} {a0c2 : Aa} {a0c3 : Aa} {a0c4 : Aa} (h_a0 : Bj a0) (h_a0c1 : Ah a0c1) (h_a0c2 : Ah a0c2) (h_a0c3 : Ah a0c3) (h_a0c4 : Ah a0c4) : Ak (fun r => Bj r) (Dh.f a0 a0c1 a0c2 a0c3 a0c4) := by
 unfold Dh.f
 exact Ak.bif (fun h1 =>
  Ak.mk ⟨⟨h_a0.Ae.AM, h_a0.Ae.BM, h_a0.Ae.GB, h_a0.Ae.Bw, h_a0.Ae.FX, (CY _), h_a0.Ae.BD⟩, h_a0.C4⟩) (fun h1 =>
  Ak.arr (by have e0 := DT h_a0.Ae.A9; have e1 := of_decide_eq_false h1; omega) (by have e0 := DT h_a0.Ae.A9; have e1 := of_decide_eq_false h1; omega) (Ak.bind (Ak.IF (Q := In .u16) (n := 16) (by have e0 := Cq (CW _ : In .u8 (Bv .u8 (a0.Ae.AM (0 : Int).toNat) 15)); have e1 := BP (a0.Ae.AM (0 : Int).toNat) 15 (by decide); have e2 := DT h_a0.Ae.A9; have e3 := of_decide_eq_false h1; omega) (by have e0 := Cq (CW _ : In .u8 (Bv .u8 (a0.Ae.AM (0 : Int).toNat) 15)); have e1 := BP (a0.Ae.AM (0 : Int).toNat) 15 (by decide); have e2 := DT h_a0.Ae.A9; have e3 := of_decide_eq_false h1; omega) rfl (Yh rfl)) (fun z5305 h2 =>
  Ak.bind (Nb ⟨⟨h_a0.Ae.AM, h_a0.Ae.BM, h_a0.Ae.GB, h_a0.Ae.Bw, h_a0.Ae.FX, (CY _), h_a0.Ae.BD⟩, h_a0.C4⟩ h_a0c1 h_a0c2 h_a0c3 h_a0c4) (fun r5322 h3 =>
  Ak.bif (fun h4 =>
   Ak.mk ⟨⟨h3.Ae.AM, h3.Ae.BM, h3.Ae.GB, h3.Ae.Bw, (CW _), h3.Ae.A9, h3.Ae.BD⟩, h3.C4⟩) (fun h4 =>
   Ak.bif (fun h5 =>
    Ak.mk ⟨⟨h3.Ae.AM, h3.Ae.BM, h3.Ae.GB, h3.Ae.GB, (B7 rfl rfl), h3.Ae.A9, h3.Ae.BD⟩, h3.C4⟩) (fun h5 =>
    Ak.mk ⟨⟨h3.Ae.AM, h3.Ae.BM, h3.Ae.GB, h3.Ae.Bw, (B7 rfl rfl), h3.Ae.A9, h3.Ae.BD⟩, h3.C4⟩))))))
theorem OI {a0 : Al} {a0c1 : Aa} {a0c2 : Aa} {a0c3 : Aa} {a0c4 : Aa} (h_a0 : Bj a0) (h_a0c1 : Ah a0c1) (h_a0c2 : Ah a0c2) (h_a0c3 : Ah a0c3) (h_a0c4 : Ah a0c4) : Ak (fun r => Bj r.1 ∧ Ah r.2.1 ∧ Ah r.2.2.1 ∧ Ah r.2.2.2.1 ∧ Ah r.2.2.2.2) (Gg.f a0 a0c1 a0c2 a0c3 a0c4) := by
 unfold Gg.f
 exact Ak.bind (Pw h_a0 h_a0c1 h_a0c2 h_a0c3 h_a0c4) (fun r5260 h1 =>
 Ak.bind (Me h1.2.2.2.1) (fun r5275 h2 =>
 Ak.bind (Me h1.2.2.2.2) (fun r5281 h3 =>
 Ak.bif (fun h4 =>
  Ak.bind (Me h1.2.1) (fun r5287 h5 =>
  Ak.bind (Me h1.2.2.1) (fun r5293 h6 =>
  Ak.bind (Jq ⟨h1.1.Ae, h1.1.C4⟩ h5 h6 h2 h3) (fun r5328 h7 =>
  Ak.mk ⟨h7, h5, h6, h2, h3⟩)))) (fun h4 =>
  Ak.bind (Jq ⟨h1.1.Ae, h1.1.C4⟩ h1.2.1 h1.2.2.1 h2 h3) (fun r5334 h8 =>
  Ak.mk ⟨h8, h1.2.1, h1.2.2.1, h2, h3⟩)))))
theorem Ou {a0 : An} {a1 : Int} (h_a0 : Bi a0) (h_a1 : In .u8 a1) : Ak (fun r => Bi r) (FE.f a0 a1) := by
 unfold FE.f
 exact Ak.bif (fun h1 =>
  Ak.mk h_a0) (fun h1 =>
  Ak.bif (fun h2 =>
   Ak.mk ⟨h_a0.CE, h_a0.CF, h_a0.AM, ⟨h_a0.DU.AM, h_a0.DU.IB⟩, h_a0.DV, h_a0.Da, h_a0.FW⟩) (fun h2 =>
   Ak.bif (fun h3 =>
    Ak.mk ⟨h_a0.CE, h_a0.CF, h_a0.AM, ⟨h_a0.DU.AM, (CW _)⟩, h_a0.DV, h_a0.Da, h_a0.FW⟩) (fun h3 =>
    Ak.bif (fun h4 =>
     Ak.mk ⟨h_a0.CE, h_a0.CF, h_a0.AM, ⟨h_a0.DU.AM, (CW _)⟩, h_a0.DV, h_a0.Da, h_a0.FW⟩) (fun h4 =>
     Ak.mk ⟨h_a0.CE, h_a0.CF, h_a0.AM, ⟨h_a0.DU.AM, h_a0.DU.IB⟩, h_a0.DV, h_a0.Da, h_a0.FW⟩))))
theorem Ox {a0 : An} {a1 : Int} (h_a0 : Bi a0) (h_a1 : In .u8 a1) : Ak (fun r => Bi r) (FI.f a0 a1) := by
 unfold FI.f
 exact Ak.bif (fun h1 =>
  Ak.mk h_a0) (fun h1 =>
  Ak.bif (fun h2 =>
   Ak.mk ⟨h_a0.CE, h_a0.CF, h_a0.AM, h_a0.DU, ⟨h_a0.DV.AM, h_a0.DV.IB⟩, h_a0.Da, h_a0.FW⟩) (fun h2 =>
   Ak.bif (fun h3 =>
    Ak.mk ⟨h_a0.CE, h_a0.CF, h_a0.AM, h_a0.DU, ⟨h_a0.DV.AM, (CW _)⟩, h_a0.Da, h_a0.FW⟩) (fun h3 =>
    Ak.bif (fun h4 =>
     Ak.mk ⟨h_a0.CE, h_a0.CF, h_a0.AM, h_a0.DU, ⟨h_a0.DV.AM, (CW _)⟩, h_a0.Da, h_a0.FW⟩) (fun h4 =>
     Ak.mk ⟨h_a0.CE, h_a0.CF, h_a0.AM, h_a0.DU, ⟨h_a0.DV.AM, h_a0.DV.IB⟩, h_a0.Da, h_a0.FW⟩))))
theorem PC {a0 : An} {a1 : Int} {a2 : Int} (h_a0 : Bi a0) (h_a1 : Bt 0 10 a1) (h_a2 : Bt 0 10 a2) : Ak (fun _ => True) (Gq.f a0 a1 a2) := by
 unfold Gq.f
 exact Ak.arr (by have e0 := Cu h_a1; omega) (by have e0 := Cu h_a1; omega) (Ak.arr (by have e0 := Cu h_a2; omega) (by have e0 := Cu h_a2; omega) (Ak.mk trivial))
theorem OS {a0 : An} {a1 : Int} (h_a0 : Bi a0) : Ak (fun r => Bi r.2) (Gm.f a0 a1) := by
 unfold Gm.f
 exact Ak.bif (fun h1 =>
  Ak.mk ⟨h_a0.CE, h_a0.CF, h_a0.AM, h_a0.DU, h_a0.DV, h_a0.Da, ⟨h_a0.FW.BD⟩⟩) (fun h1 =>
  Ak.mk ⟨h_a0.CE, h_a0.CF, h_a0.AM, h_a0.DU, h_a0.DV, h_a0.Da, ⟨(EZ (x := Int.tmod (IntKind.wrap .i64 (a0.FW.BD + 1)) 64) (by have e0 := Cu h_a0.FW.BD; have e1 := CS (a0.FW.BD + 1); have e2 := Lh (IntKind.wrap .i64 (a0.FW.BD + 1)) 64 (by decide); have e3 := CS (a0.FW.N9 + a1); have e4 := of_decide_eq_false h1; omega))⟩⟩)
theorem SE {a0 : An} {s5379 : An} (h_a0 : Bi a0) (h_s5379 : Bi s5379) : Ak (fun r => Bi r) (IE.j1 a0 s5379) := by
 unfold IE.j1
 exact Ak.arr (by have e0 := Cu h_a0.FW.BD; omega) (by have e0 := Cu h_a0.FW.BD; omega) (Ak.bind (Ak.UR (n := 8) (by have e0 := Cu (h_s5379.CF.e ((a0.FW.BD).toNat)); omega) (by have e0 := Cu (h_s5379.CF.e ((a0.FW.BD).toNat)); omega) rfl) (fun z5408 h1 =>
 Ak.bif (fun h2 =>
  Ak.mk ⟨h_s5379.CE, h_s5379.CF, h_s5379.AM, h_s5379.DU, h_s5379.DV, h_s5379.Da, h_s5379.FW⟩) (fun h2 =>
  Ak.mk ⟨h_s5379.CE, h_s5379.CF, h_s5379.AM, h_s5379.DU, h_s5379.DV, h_s5379.Da, h_s5379.FW⟩)))
theorem SN {a0 : An} (h_a0 : Bi a0) : Ak (fun r => Bi r) (IE.f a0) := by
 unfold IE.f
 exact Ak.arr (by omega) (by omega) (Ak.bif (fun h1 =>
  Ak.mk h_a0) (fun h1 =>
  Ak.bind (PC h_a0 (EZ (x := 7) (by have e0 := Cq (CW _ : In .u8 (Bv .u8 (a0.AM (7 : Int).toNat) 128)); have e1 := BP (a0.AM (7 : Int).toNat) 128 (by decide); have e2 := Ei h1; omega)) (EZ (x := 6) (by have e0 := Cq (CW _ : In .u8 (Bv .u8 (a0.AM (7 : Int).toNat) 128)); have e1 := BP (a0.AM (7 : Int).toNat) 128 (by decide); have e2 := Ei h1; omega))) (fun r5385 _ =>
  Ak.bind (OS h_a0) (fun r5390 h3 =>
  Ak.bif (fun h4 =>
   Ak.mk h3) (fun h4 =>
   SE h_a0 h3)))))
theorem Tt  : ∀ (n5473 : Nat) (s5467 : Int) (h_s5467 : Bt (-5000) 5000 s5467) (hm : max 0 ((-64) - s5467) < (n5473 : Int)), Ak (fun _ => True) (Eg.l5 n5473 s5467) := by
 intro n5473
 induction n5473 with
 | zero => intro s5467 h_s5467 hm; exfalso; revert hm; intro hm; have e0 := Cu h_s5467; omega
 | succ n5473 ih =>
  intro s5467 h_s5467 hm
  unfold Eg.l5
  exact Ak.bif (fun h1 =>
   ih _ (EZ (x := IntKind.wrap .i64 (s5467 + 256)) (by have e0 := Cu h_s5467; have e1 := CS (s5467 + 256); have e2 := of_decide_eq_true h1; omega)) (show max 0 ((-64) - ((IntKind.wrap .i64 (s5467 + 256)))) < _ from by have e0 := Cu h_s5467; have e1 := CS (s5467 + 256); have e2 := of_decide_eq_true h1; have e3 := hm; omega)) (fun h1 =>
   Ak.mk trivial)
theorem Tu  : ∀ (n5465 : Nat) (s5443 : Int) (h_s5443 : Bt (-5000) 5000 s5443) (hm : max 0 (s5443 - 191) < (n5465 : Int)), Ak (fun _ => True) (Eg.l2 n5465 s5443) := by
 intro n5465
 induction n5465 with
 | zero => intro s5443 h_s5443 hm; exfalso; revert hm; intro hm; have e0 := Cu h_s5443; omega
 | succ n5465 ih =>
  intro s5443 h_s5443 hm
  unfold Eg.l2
  exact Ak.bif (fun h1 =>
   ih _ (EZ (x := IntKind.wrap .i64 (s5443 - 256)) (by have e0 := Cu h_s5443; have e1 := CS (s5443 - 256); have e2 := of_decide_eq_true h1; omega)) (show max 0 (((IntKind.wrap .i64 (s5443 - 256))) - 191) < _ from by have e0 := Cu h_s5443; have e1 := CS (s5443 - 256); have e2 := of_decide_eq_true h1; have e3 := hm; omega)) (fun h1 =>
   Tt _ _ h_s5443 (show max 0 ((-64) - s5443) < _ from by have e0 := Cu h_s5443; have e1 := of_decide_eq_false h1; omega))
theorem MS {s5436 : Int} (h_s5436 : Bt (-1000) 1000 s5436) : Ak (fun _ => True) (Eg.j1 s5436) := by
 unfold Eg.j1
 exact Tu _ _ (EZ (x := s5436) (by have e0 := Cu h_s5436; omega)) (show max 0 (s5436 - 191) < _ from by have e0 := Cu h_s5436; omega)
theorem TS {a0 : Int} {a1 : Int} (h_a0 : Bt (-5000) 5000 a0) : Ak (fun _ => True) (Eg.f a0 a1) := by
 unfold Eg.f
 exact Ak.bif (fun h1 =>
  Ak.bif (fun h2 =>
   Ak.bif (fun h3 =>
    MS (EZ (x := IntKind.wrap .i64 ((shr .i64 a0 4) - 1)) (by have e0 := Cu h_a0; have e1 := S7 .i64 a0 4; have e2 := Sw .i64 a0 4 16 rfl; have e3 := CS ((shr .i64 a0 4) - 1); have e4 := NL a0 15 (by decide); have e5 := of_decide_eq_true h1; have e6 := NL (shr .i64 a0 4) 128 (by decide); have e7 := eq_of_beq h2; have e8 := of_decide_eq_true h3; omega))) (fun h3 =>
    MS (EZ (x := IntKind.wrap .i64 ((shr .i64 a0 4) + 2)) (by have e0 := Cu h_a0; have e1 := S7 .i64 a0 4; have e2 := Sw .i64 a0 4 16 rfl; have e3 := CS ((shr .i64 a0 4) + 2); have e4 := NL a0 15 (by decide); have e5 := of_decide_eq_true h1; have e6 := NL (shr .i64 a0 4) 128 (by decide); have e7 := eq_of_beq h2; have e8 := of_decide_eq_false h3; omega)))) (fun h2 =>
   MS (EZ (x := shr .i64 a0 4) (by have e0 := Cu h_a0; have e1 := S7 .i64 a0 4; have e2 := Sw .i64 a0 4 16 rfl; have e3 := NL a0 15 (by decide); have e4 := of_decide_eq_true h1; have e5 := NL (shr .i64 a0 4) 128 (by decide); have e6 := ne_of_beq_false h2; omega)))) (fun h1 =>
  MS (EZ (x := shr .i64 a0 4) (by have e0 := Cu h_a0; have e1 := S7 .i64 a0 4; have e2 := Sw .i64 a0 4 16 rfl; have e3 := NL a0 15 (by decide); have e4 := of_decide_eq_false h1; omega)))
theorem Ul {a0 : Int} {a1 : Int} {a2 : Int} {s5425 : Unit} (h_a1 : Bt (-64) 63 a1) (h_a2 : Bt 0 63 a2) : Ak (fun _ => True) (Jf.j1 a0 a1 a2 s5425) := by
 unfold Jf.j1
 exact Ak.bind (TS (EZ (x := IntKind.wrap .i64 (a1 * a2)) (by have e0 := Cu h_a1; have e1 := Cu h_a2; have e2 := ZA a1 a2; have e3 := CS (a1 * a2); omega))) (fun r5475 _ =>
 Ak.bnd (fun x5481 e_x5481 =>
  Ak.mk trivial))
theorem U0 {a0 : Int} {a1 : Int} {a2 : Int}  : Ak (fun _ => True) (Jf.f a0 a1 a2) := by
 unfold Jf.f
 exact Ak.bif (fun h1 =>
  Ak.mk trivial) (fun h1 =>
  Ak.bif (fun h2 =>
   Ak.mk trivial) (fun h2 =>
   Ak.bif (fun h3 =>
    Ak.mk trivial) (fun h3 =>
    Ak.bif (fun h4 =>
     Ak.mk trivial) (fun h4 =>
     Ak.bif (fun h5 =>
      Ak.mk trivial) (fun h5 =>
      Ak.bif (fun h6 =>
       Ak.mk trivial) (fun h6 =>
       Ul (EZ (x := a1) (by have e0 := of_decide_eq_false h1; have e1 := of_decide_eq_false h2; have e2 := of_decide_eq_false h3; have e3 := of_decide_eq_false h4; have e4 := of_decide_eq_false h5; have e5 := of_decide_eq_false h6; omega)) (EZ (x := a2) (by have e0 := of_decide_eq_false h1; have e1 := of_decide_eq_false h2; have e2 := of_decide_eq_false h3; have e3 := of_decide_eq_false h4; have e4 := of_decide_eq_false h5; have e5 := of_decide_eq_false h6; omega))))))))
theorem OJ {a0 : An} {a1 : Int} (h_a0 : Bi a0) : Ak (fun r => Bi r.2) (D3.f a0 a1) := by
 unfold D3.f
 exact Ak.bif (fun h1 =>
  Ak.mk ⟨h_a0.CE, h_a0.CF, h_a0.AM, h_a0.DU, h_a0.DV, ⟨h_a0.Da.BD⟩, h_a0.FW⟩) (fun h1 =>
  Ak.mk ⟨h_a0.CE, h_a0.CF, h_a0.AM, h_a0.DU, h_a0.DV, ⟨(EZ (x := Int.tmod (IntKind.wrap .i64 (a0.Da.BD + 1)) 64) (by have e0 := Cu h_a0.Da.BD; have e1 := CS (a0.Da.BD + 1); have e2 := Lh (IntKind.wrap .i64 (a0.Da.BD + 1)) 64 (by decide); have e3 := CS (a0.Da.N9 + a1); have e4 := of_decide_eq_false h1; omega))⟩, h_a0.FW⟩)
theorem P9 {s5351 : An} (h_s5351 : Bi s5351) : Ak (fun r => Bi r) (GG.j1 s5351) := by
 unfold GG.j1
 exact Ak.bif (fun h1 =>
  Ak.mk ⟨h_s5351.CE, h_s5351.CF, h_s5351.AM, h_s5351.DU, h_s5351.DV, h_s5351.Da, h_s5351.FW⟩) (fun h1 =>
  Ak.bind (SN ⟨h_s5351.CE, h_s5351.CF, h_s5351.AM, h_s5351.DU, h_s5351.DV, h_s5351.Da, h_s5351.FW⟩) (fun r5414 h2 =>
  Ak.arr (by have e0 := CS (s5351.E8 + 1); have e1 := Lh (IntKind.wrap .i64 (s5351.E8 + 1)) 16 (by decide); have e2 := of_decide_eq_false h1; omega) (by have e0 := CS (s5351.E8 + 1); have e1 := Lh (IntKind.wrap .i64 (s5351.E8 + 1)) 16 (by decide); have e2 := of_decide_eq_false h1; omega) (Ak.bif (fun h3 =>
   Ak.bind (PC h2 (EZ (x := 3) (by have e0 := CS (s5351.E8 + 1); have e1 := Lh (IntKind.wrap .i64 (s5351.E8 + 1)) 16 (by decide); have e2 := of_decide_eq_false h1; have e3 := Cq (CW _ : In .u8 (Bv .u8 (r5414.AM (3 : Int).toNat) 128)); have e4 := BP (r5414.AM (3 : Int).toNat) 128 (by decide); have e5 := eq_of_beq h3; omega)) (EZ (x := 2) (by have e0 := CS (s5351.E8 + 1); have e1 := Lh (IntKind.wrap .i64 (s5351.E8 + 1)) 16 (by decide); have e2 := of_decide_eq_false h1; have e3 := Cq (CW _ : In .u8 (Bv .u8 (r5414.AM (3 : Int).toNat) 128)); have e4 := BP (r5414.AM (3 : Int).toNat) 128 (by decide); have e5 := eq_of_beq h3; omega))) (fun r5421 _ =>
   Ak.bind (U0) (fun r5482 _ =>
   Ak.bind (OJ h2) (fun r5489 h6 =>
   Ak.mk h6)))) (fun h3 =>
   Ak.mk h2))))
theorem SF {a0 : An} (h_a0 : Bi a0) : Ak (fun r => Bi r) (GG.f a0) := by
 unfold GG.f
 exact Ak.arr (by omega) (by omega) (Ak.bif (fun h1 =>
  Ak.arr (by have e0 := Cq (CW _ : In .u8 (Bv .u8 (a0.AM (3 : Int).toNat) 192)); have e1 := BP (a0.AM (3 : Int).toNat) 192 (by decide); have e2 := eq_of_beq h1; omega) (by have e0 := Cq (CW _ : In .u8 (Bv .u8 (a0.AM (3 : Int).toNat) 192)); have e1 := BP (a0.AM (3 : Int).toNat) 192 (by decide); have e2 := eq_of_beq h1; omega) (Ak.bind (Ou h_a0 (h_a0.AM.e _)) (fun r5355 h2 =>
  Ak.arr (by have e0 := Cq (CW _ : In .u8 (Bv .u8 (a0.AM (3 : Int).toNat) 192)); have e1 := BP (a0.AM (3 : Int).toNat) 192 (by decide); have e2 := eq_of_beq h1; omega) (by have e0 := Cq (CW _ : In .u8 (Bv .u8 (a0.AM (3 : Int).toNat) 192)); have e1 := BP (a0.AM (3 : Int).toNat) 192 (by decide); have e2 := eq_of_beq h1; omega) (Ak.bind (Ox h2 (h2.AM.e _)) (fun r5365 h3 =>
  P9 h3))))) (fun h1 =>
  P9 h_a0))
theorem Mh {a0 : Ai} {a0c1 : Am} {a0c2 : An} (h_a0 : AF a0) (h_a0c1 : Bl a0c1) (h_a0c2 : Bi a0c2) : Ak (fun r => AF r) (DZ.f a0 a0c1 a0c2) := by
 unfold DZ.f
 exact Ak.bif (fun h1 =>
  Ak.mk h_a0) (fun h1 =>
  Ak.bif (fun h2 =>
   Ak.mk ⟨⟨h_a0.A9.L9, (CY _)⟩, h_a0.FL, h_a0.Aq, h_a0.Ma, h_a0.Il, h_a0.FV, h_a0.IL⟩) (fun h2 =>
   Ak.mk ⟨⟨h_a0.A9.L9, h_a0.A9.L9⟩, h_a0.FL, h_a0.Aq, h_a0.Ma, h_a0.Il, h_a0.FV, h_a0.IL⟩))
theorem Qt {a0 : Am} {s : Unit} (h : Bl a0) (hn : 0 < (a0.Bg.length : Int)) : Ak (fun r => Bl r.2) (ED.j1 a0 s) := by
 have x : ((a0.C5) = -1 ∨ (0 ≤ (a0.C5) ∧ (a0.C5) < (a0.Bg.length : Int))) ∧ ((a0.Bg.length : Int) = 0 ∨ (0 ≤ (a0.BD) ∧ (a0.BD) < (a0.Bg.length : Int))) ∧ (a0.Bg.length : Int) ≤ 1073741824 := h.x1
 unfold ED.j1 EB.f
 refine Ak.bif (fun _ => Ak.mk ⟨h.Bg, h.Jy, (show ((-1) = -1 ∨ (0 ≤ (-1) ∧ (-1) < (a0.Bg.length : Int))) ∧ ((a0.Bg.length : Int) = 0 ∨ (0 ≤ (a0.BD) ∧ (a0.BD) < (a0.Bg.length : Int))) ∧ (a0.Bg.length : Int) ≤ 1073741824 by omega)⟩) (fun _ => Ak.bif (fun _ => Ak.mk ⟨h.Bg, h.Jy, (show ((-1) = -1 ∨ (0 ≤ (-1) ∧ (-1) < (a0.Bg.length : Int))) ∧ ((a0.Bg.length : Int) = 0 ∨ (0 ≤ (a0.BD) ∧ (a0.BD) < (a0.Bg.length : Int))) ∧ (a0.Bg.length : Int) ≤ 1073741824 by omega)⟩) (fun _ => Ak.bif (fun _ => ?_) (fun h1 => ?_)))
 · exact Ak.mk ⟨h.Bg, h.Jy, (show ((a0.BD) = -1 ∨ (0 ≤ (a0.BD) ∧ (a0.BD) < (a0.Bg.length : Int))) ∧ ((a0.Bg.length : Int) = 0 ∨ (0 ≤ (0) ∧ (0) < (a0.Bg.length : Int))) ∧ (a0.Bg.length : Int) ≤ 1073741824 by omega)⟩
 · have e := CS (a0.BD + 1)
   have h1 := ne_of_beq_false h1
   exact Ak.mk ⟨h.Bg, h.Jy, (show ((a0.BD) = -1 ∨ (0 ≤ (a0.BD) ∧ (a0.BD) < (a0.Bg.length : Int))) ∧ ((a0.Bg.length : Int) = 0 ∨ (0 ≤ (IntKind.wrap .i64 (a0.BD + 1)) ∧ (IntKind.wrap .i64 (a0.BD + 1)) < (a0.Bg.length : Int))) ∧ (a0.Bg.length : Int) ≤ 1073741824 by omega)⟩
theorem Qx {a0 : Am} (h : Bl a0) : Ak (fun r => Bl r.2) (ED.f a0) := by
 have x : ((a0.C5) = -1 ∨ (0 ≤ (a0.C5) ∧ (a0.C5) < (a0.Bg.length : Int))) ∧ ((a0.Bg.length : Int) = 0 ∨ (0 ≤ (a0.BD) ∧ (a0.BD) < (a0.Bg.length : Int))) ∧ (a0.Bg.length : Int) ≤ 1073741824 := h.x1
 unfold ED.f Es.f
 refine Ak.bif (fun _ => Ak.mk ⟨h.Bg, h.Jy, (show ((-1) = -1 ∨ (0 ≤ (-1) ∧ (-1) < (a0.Bg.length : Int))) ∧ ((a0.Bg.length : Int) = 0 ∨ (0 ≤ (a0.BD) ∧ (a0.BD) < (a0.Bg.length : Int))) ∧ (a0.Bg.length : Int) ≤ 1073741824 by omega)⟩) (fun _ => ?_)
 rw [Option.bind_some]
 refine Ak.bif (fun _ => Ak.mk ⟨h.Bg, h.Jy, (show ((-1) = -1 ∨ (0 ≤ (-1) ∧ (-1) < (a0.Bg.length : Int))) ∧ ((a0.Bg.length : Int) = 0 ∨ (0 ≤ (a0.BD) ∧ (a0.BD) < (a0.Bg.length : Int))) ∧ (a0.Bg.length : Int) ≤ 1073741824 by omega)⟩) (fun h1 => ?_)
 rw [Bool.not_eq_false'] at h1
 exact Qt h (of_decide_eq_true h1)
theorem Rp {a0 : Am} (h_a0 : Bl a0) : Ak (fun r => In .u8 r) (Kj.f a0) := by
 unfold Kj.f
 exact Ak.bif (fun h1 =>
  Ak.mk (B7 rfl rfl)) (fun h1 =>
  Ak.bind (Ak.VV h_a0.Bg (by have e0 := (show (a0.C5 = -1 ∨ (0 ≤ a0.C5 ∧ a0.C5 < (a0.Bg.length : Int))) ∧ ((a0.Bg.length : Int) = 0 ∨ (0 ≤ a0.BD ∧ a0.BD < (a0.Bg.length : Int))) ∧ (a0.Bg.length : Int) ≤ 1073741824 from h_a0.x1); have e1 := ne_of_beq_false h1; omega) (by have e0 := (show (a0.C5 = -1 ∨ (0 ≤ a0.C5 ∧ a0.C5 < (a0.Bg.length : Int))) ∧ ((a0.Bg.length : Int) = 0 ∨ (0 ≤ a0.BD ∧ a0.BD < (a0.Bg.length : Int))) ∧ (a0.Bg.length : Int) ≤ 1073741824 from h_a0.x1); have e1 := ne_of_beq_false h1; omega)) (fun z5651 h2 =>
  Ak.mk h2))
theorem U2 {a1 : Int} (h_a1 : In .u8 a1) : ∀ (n5678 : Nat) (s5667 : Int × Int) (h_s5667_1 : In .u16 s5667.1) (hi_0 : 0 ≤ s5667.2 ∧ s5667.2 ≤ 8) (hm : 8 - s5667.2 < (n5678 : Int)), Ak (fun r => In .u16 r) (Hy.l1 a1 n5678 s5667) := by
 intro n5678
 induction n5678 with
 | zero => intro s5667 h_s5667_1 hi_0 hm; exfalso; revert hm; intro hm; have e0 := hi_0; omega
 | succ n5678 ih =>
  intro s5667 h_s5667_1 hi_0 hm
  unfold Hy.l1
  exact Ak.bif (fun h1 =>
   Ak.neg (by have e0 := of_decide_eq_true h1; have e1 := hi_0; omega) (Ak.bnd (fun x5681 e_x5681 =>
    have w_x5681 : In .u16 x5681 := O6 e_x5681 (CY _);
    Ak.bnd (fun x5682 e_x5682 =>
     have w_x5682 : In .u16 x5682 := O6 e_x5682 (CY _);
     ih _ w_x5682 (show 0 ≤ (IntKind.wrap .i64 (s5667.2 + 1)) ∧ (IntKind.wrap .i64 (s5667.2 + 1)) ≤ 8 from by have e0 := CS (s5667.2 + 1); have e1 := of_decide_eq_true h1; have e2 := hi_0; have e3 := DT (CY _ : In .u16 (Mv .u16 (shr .u16 s5667.1 1) (shl .u16 (IntKind.wrap .u16 (Bv .u8 (shr .u8 a1 s5667.2) 1)) 15))); have e4 := e_x5681; have e5 := DT (CY _ : In .u16 (TV .u16 x5681 (IntKind.wrap .u16 (33800 * (Bv .u16 s5667.1 1))))); have e6 := e_x5682; have e7 := hm; omega) (show 8 - (IntKind.wrap .i64 (s5667.2 + 1)) < _ from by have e0 := CS (s5667.2 + 1); have e1 := of_decide_eq_true h1; have e2 := hi_0; have e3 := DT (CY _ : In .u16 (Mv .u16 (shr .u16 s5667.1 1) (shl .u16 (IntKind.wrap .u16 (Bv .u8 (shr .u8 a1 s5667.2) 1)) 15))); have e4 := e_x5681; have e5 := DT (CY _ : In .u16 (TV .u16 x5681 (IntKind.wrap .u16 (33800 * (Bv .u16 s5667.1 1))))); have e6 := e_x5682; have e7 := hm; omega))))) (fun h1 =>
   Ak.mk h_s5667_1)
theorem Nw {a0 : Int} {a1 : Int} (h_a0 : In .u16 a0) (h_a1 : In .u8 a1) : Ak (fun r => In .u16 r) (Hy.f a0 a1) := by
 unfold Hy.f
 exact U2 h_a1 _ _ h_a0 (show 0 ≤ 0 ∧ 0 ≤ 8 from by omega) (show 8 - 0 < _ from by omega)
theorem OR {a0 : Ai} {a0c1 : Am} {a0c2 : An} {a1 : Int} (h_a0 : AF a0) (h_a0c1 : Bl a0c1) (h_a0c2 : Bi a0c2) (h_a1 : In .u8 a1) : Ak (fun r => AF r) (Gf.f a0 a0c1 a0c2 a1) := by
 unfold Gf.f
 exact Ak.bif (fun h1 =>
  Ak.mk h_a0) (fun h1 =>
  Ak.bif (fun h2 =>
   Ak.bind (Nw h_a0.IL h_a1) (fun r5683 h3 =>
   Ak.mk ⟨h_a0.A9, h_a0.FL, h_a0.Aq, h_a1, h_a0.Il, h_a0.FV, h3⟩)) (fun h2 =>
   Ak.bif (fun h4 =>
    Ak.bind (Nw (B7 rfl rfl) h_a1) (fun r5689 h5 =>
    Ak.mk ⟨h_a0.A9, h_a0.FL, h_a0.Aq, h_a0.Ma, h_a0.Il, h_a0.FV, h5⟩)) (fun h4 =>
    Ak.mk h_a0)))
theorem OP {a0 : Ai} {a0c1 : Am} {a0c2 : An} (h_a0 : AF a0) (h_a0c1 : Bl a0c1) (h_a0c2 : Bi a0c2) : Ak (fun r => In .u8 r.1 ∧ AF r.2) (Fj.f a0 a0c1 a0c2) := by
 unfold Fj.f
 exact Ak.bif (fun h1 =>
  Ak.mk ⟨(B7 rfl rfl), h_a0⟩) (fun h1 =>
  Ak.bif (fun h2 =>
   Ak.bind (Nw h_a0.IL h_a0.Il) (fun r5705 h3 =>
   Ak.mk ⟨h_a0.Il, ⟨h_a0.A9, h_a0.FL, h_a0.Aq, h_a0.Ma, h_a0.Il, h_a0.FV, h3⟩⟩)) (fun h2 =>
   Ak.bif (fun h4 =>
    Ak.bind (Nw h_a0.IL (B7 rfl rfl)) (fun r5727 h5 =>
    Ak.bind (Nw h5 (B7 rfl rfl)) (fun r5733 h6 =>
    Ak.mk ⟨(CW _), ⟨h_a0.A9, h_a0.FL, h_a0.Aq, h_a0.Ma, h_a0.Il, h_a0.FV, h6⟩⟩))) (fun h4 =>
    Ak.bif (fun h7 =>
     Ak.mk ⟨(CW _), ⟨h_a0.A9, h_a0.FL, h_a0.Aq, h_a0.Ma, h_a0.Il, h_a0.FV, h_a0.IL⟩⟩) (fun h7 =>
     Ak.mk ⟨(B7 rfl rfl), h_a0⟩))))
theorem QW {a0 : Am} {a1 : Int} {s5747 : Unit} (h_a0 : Bl a0) (h_a1 : In .u8 a1) (hp_0 : a0.C5 ≠ -1) : Ak (fun r => Bl r.2) (EN.j1 a0 a1 s5747) := by
 unfold EN.j1
 exact Ak.bind (Ak.VV h_a0.Bg (by have e0 := (show (a0.C5 = -1 ∨ (0 ≤ a0.C5 ∧ a0.C5 < (a0.Bg.length : Int))) ∧ ((a0.Bg.length : Int) = 0 ∨ (0 ≤ a0.BD ∧ a0.BD < (a0.Bg.length : Int))) ∧ (a0.Bg.length : Int) ≤ 1073741824 from h_a0.x1); have e1 := hp_0; omega) (by have e0 := (show (a0.C5 = -1 ∨ (0 ≤ a0.C5 ∧ a0.C5 < (a0.Bg.length : Int))) ∧ ((a0.Bg.length : Int) = 0 ∨ (0 ≤ a0.BD ∧ a0.BD < (a0.Bg.length : Int))) ∧ (a0.Bg.length : Int) ≤ 1073741824 from h_a0.x1); have e1 := hp_0; omega)) (fun z5754 h1 =>
 Ak.mk ⟨(Sr h_a0.Bg h_a1), h_a1, (show (a0.C5 = -1 ∨ (0 ≤ a0.C5 ∧ a0.C5 < ((a0.Bg.set (a0.C5).toNat a1).length : Int))) ∧ (((a0.Bg.set (a0.C5).toNat a1).length : Int) = 0 ∨ (0 ≤ a0.BD ∧ a0.BD < ((a0.Bg.set (a0.C5).toNat a1).length : Int))) ∧ ((a0.Bg.set (a0.C5).toNat a1).length : Int) ≤ 1073741824 from by have x0 := (show (a0.C5 = -1 ∨ (0 ≤ a0.C5 ∧ a0.C5 < (a0.Bg.length : Int))) ∧ ((a0.Bg.length : Int) = 0 ∨ (0 ≤ a0.BD ∧ a0.BD < (a0.Bg.length : Int))) ∧ (a0.Bg.length : Int) ≤ 1073741824 from h_a0.x1); have x1 := (show (a0.C5 = -1 ∨ (0 ≤ a0.C5 ∧ a0.C5 < (a0.Bg.length : Int))) ∧ ((a0.Bg.length : Int) = 0 ∨ (0 ≤ a0.BD ∧ a0.BD < (a0.Bg.length : Int))) ∧ (a0.Bg.length : Int) ≤ 1073741824 from h_a0.x1); have x2 := hp_0; have x3 := (List.length_set : (a0.Bg.set (a0.C5).toNat a1).length = (a0.Bg).length); omega)⟩)
theorem Rk {a0 : Am} {a1 : Int} (h_a0 : Bl a0) (h_a1 : In .u8 a1) : Ak (fun r => Bl r.2) (EN.f a0 a1) := by
 unfold EN.f
 exact Ak.bif (fun h1 =>
  Ak.mk h_a0) (fun h1 =>
  Ak.bif (fun h2 =>
   Ak.mk h_a0) (fun h2 =>
   QW h_a0 h_a1 (show a0.C5 ≠ -1 from by have e0 := (show (a0.C5 = -1 ∨ (0 ≤ a0.C5 ∧ a0.C5 < (a0.Bg.length : Int))) ∧ ((a0.Bg.length : Int) = 0 ∨ (0 ≤ a0.BD ∧ a0.BD < (a0.Bg.length : Int))) ∧ (a0.Bg.length : Int) ≤ 1073741824 from h_a0.x1); have e1 := ne_of_beq_false h1; omega)))
theorem Oz {r5603 : An} {r5613 : Ai} {s5617 : Am} (h_r5603 : Bi r5603) (h_r5613 : AF r5613) (h_s5617 : Bl s5617) : Ak (fun r => AF r.1 ∧ Bl r.2.1 ∧ Bi r.2.2) (Du.j1 r5603 r5613 s5617) := by
 unfold Du.j1
 exact Ak.bif (fun h1 =>
  Ak.bind (Rp h_s5617) (fun r5659 h2 =>
  Ak.bind (OR h_r5613 h_s5617 h_r5603 h2) (fun r5695 h3 =>
  Ak.mk ⟨h3, h_s5617, h_r5603⟩))) (fun h1 =>
  Ak.bind (OP h_r5613 h_s5617 h_r5603) (fun r5739 h4 =>
  Ak.bind (Rk h_s5617 h4.1) (fun r5762 h5 =>
  Ak.mk ⟨⟨h4.2.A9, h4.2.FL, h4.2.Aq, h4.2.Ma, h4.2.Il, h4.2.FV, h4.2.IL⟩, h5, h_r5603⟩)))
theorem O5 {a0 : Ai} {a0c1 : Am} {a0c2 : An} (h_a0 : AF a0) (h_a0c1 : Bl a0c1) (h_a0c2 : Bi a0c2) : Ak (fun r => AF r.1 ∧ Bl r.2.1 ∧ Bi r.2.2) (Du.f a0 a0c1 a0c2) := by
 unfold Du.f
 exact Ak.bind (SF h_a0c2) (fun r5603 h1 =>
 Ak.bind (Mh h_a0 h_a0c1 h1) (fun r5613 h2 =>
 Ak.bind (Qx h_a0c1) (fun r5637 h3 =>
 Ak.bif (fun h4 =>
  Ak.mk ⟨h2, h3, h1⟩) (fun h4 =>
  Ak.bif (fun h5 =>
   Ak.mk ⟨h2, h3, h1⟩) (fun h5 =>
   Oz h1 h2 h3)))))
theorem Ls {s618 : A7 × Ag × Ac × Al × Aa × Aa × Aa × Aa × Ai × Am × An × Int × Int × Bool × Int × Int × Bool} (h_s618_1 : C9 s618.1) (h_s618_2_1 : De s618.2.1) (h_s618_2_2_1 : Ar s618.2.2.1) (h_s618_2_2_2_1 : Bj s618.2.2.2.1) (h_s618_2_2_2_2_1 : Ah s618.2.2.2.2.1) (h_s618_2_2_2_2_2_1 : Ah s618.2.2.2.2.2.1) (h_s618_2_2_2_2_2_2_1 : Ah s618.2.2.2.2.2.2.1) (h_s618_2_2_2_2_2_2_2_1 : Ah s618.2.2.2.2.2.2.2.1) (h_s618_2_2_2_2_2_2_2_2_1 : AF s618.2.2.2.2.2.2.2.2.1) (h_s618_2_2_2_2_2_2_2_2_2_1 : Bl s618.2.2.2.2.2.2.2.2.2.1) (h_s618_2_2_2_2_2_2_2_2_2_2_1 : Bi s618.2.2.2.2.2.2.2.2.2.2.1) (h_s618_2_2_2_2_2_2_2_2_2_2_2_1 : In .u8 s618.2.2.2.2.2.2.2.2.2.2.2.1) (h_s618_2_2_2_2_2_2_2_2_2_2_2_2_1 : In .u8 s618.2.2.2.2.2.2.2.2.2.2.2.2.1) (h_s618_2_2_2_2_2_2_2_2_2_2_2_2_2_2_1 : In .u8 s618.2.2.2.2.2.2.2.2.2.2.2.2.2.2.1) (h_s618_2_2_2_2_2_2_2_2_2_2_2_2_2_2_2_1 : In .u8 s618.2.2.2.2.2.2.2.2.2.2.2.2.2.2.2.1) : ∀ (n5811 : Nat) (s4311 : Ac × Int) (h_s4311_1 : Ar s4311.1) (hi_0 : 0 ≤ s4311.2 ∧ s4311.2 ≤ 3) (hm : 3 - s4311.2 < (n5811 : Int)), Ak (fun r => C9 r.1 ∧ De r.2.1 ∧ Ar r.2.2.1 ∧ Bj r.2.2.2.1 ∧ Ah r.2.2.2.2.1 ∧ Ah r.2.2.2.2.2.1 ∧ Ah r.2.2.2.2.2.2.1 ∧ Ah r.2.2.2.2.2.2.2.1 ∧ AF r.2.2.2.2.2.2.2.2.1 ∧ Bl r.2.2.2.2.2.2.2.2.2.1 ∧ Bi r.2.2.2.2.2.2.2.2.2.2.1 ∧ Cf r.2.2.2.2.2.2.2.2.2.2.2.1 ∧ Cf r.2.2.2.2.2.2.2.2.2.2.2.2) (Aj.l4 s618 n5811 s4311) := by
 intro n5811
 induction n5811 with
 | zero => intro s4311 h_s4311_1 hi_0 hm; exfalso; revert hm; intro hm; have e0 := hi_0; omega
 | succ n5811 ih =>
  intro s4311 h_s4311_1 hi_0 hm
  unfold Aj.l4
  exact Ak.bif (fun h1 =>
   Ak.bind (NR h_s618_2_2_2_2_2_2_2_2_1 h_s618_2_2_2_2_2_2_2_2_2_1 h_s618_2_2_2_2_2_2_2_2_2_2_1) (fun r5813 _ =>
   Ak.bind (Pp h_s4311_1) (fun r5817 h3 =>
   Ak.bind (PL h3) (fun r5835 h4 =>
   ih _ h4 (show 0 ≤ (IntKind.wrap .i64 (s4311.2 + 1)) ∧ (IntKind.wrap .i64 (s4311.2 + 1)) ≤ 3 from by have e0 := CS (s4311.2 + 1); have e1 := of_decide_eq_true h1; have e2 := hi_0; have e3 := hm; omega) (show 3 - (IntKind.wrap .i64 (s4311.2 + 1)) < _ from by have e0 := CS (s4311.2 + 1); have e1 := of_decide_eq_true h1; have e2 := hi_0; have e3 := hm; omega))))) (fun h1 =>
   Ak.bind (OI h_s618_2_2_2_1 h_s618_2_2_2_2_1 h_s618_2_2_2_2_2_1 h_s618_2_2_2_2_2_2_1 h_s618_2_2_2_2_2_2_2_1) (fun r5841 h5 =>
   Ak.bind (O5 h_s618_2_2_2_2_2_2_2_2_1 h_s618_2_2_2_2_2_2_2_2_2_1 h_s618_2_2_2_2_2_2_2_2_2_2_1) (fun r5847 h6 =>
   Ak.mk ⟨⟨h_s618_1.GI, h_s618_1.EI, h_s618_1.EP, h_s618_1.CU, h_s618_1.Fp, h_s618_1.Ba⟩, h_s618_2_1, h_s4311_1, h5.1, h5.2.1, h5.2.2.1, h5.2.2.2.1, h5.2.2.2.2, h6.1, h6.2.1, h6.2.2, ⟨h_s618_2_2_2_2_2_2_2_2_2_2_2_1, h_s618_2_2_2_2_2_2_2_2_2_2_2_2_1⟩, ⟨h_s618_2_2_2_2_2_2_2_2_2_2_2_2_2_2_1, h_s618_2_2_2_2_2_2_2_2_2_2_2_2_2_2_2_1⟩⟩)))
theorem Fg {s618 : A7 × Ag × Ac × Al × Aa × Aa × Aa × Aa × Ai × Am × An × Int × Int × Bool × Int × Int × Bool} (h_s618_1 : C9 s618.1) (h_s618_2_1 : De s618.2.1) (h_s618_2_2_1 : Ar s618.2.2.1) (h_s618_2_2_2_1 : Bj s618.2.2.2.1) (h_s618_2_2_2_2_1 : Ah s618.2.2.2.2.1) (h_s618_2_2_2_2_2_1 : Ah s618.2.2.2.2.2.1) (h_s618_2_2_2_2_2_2_1 : Ah s618.2.2.2.2.2.2.1) (h_s618_2_2_2_2_2_2_2_1 : Ah s618.2.2.2.2.2.2.2.1) (h_s618_2_2_2_2_2_2_2_2_1 : AF s618.2.2.2.2.2.2.2.2.1) (h_s618_2_2_2_2_2_2_2_2_2_1 : Bl s618.2.2.2.2.2.2.2.2.2.1) (h_s618_2_2_2_2_2_2_2_2_2_2_1 : Bi s618.2.2.2.2.2.2.2.2.2.2.1) (h_s618_2_2_2_2_2_2_2_2_2_2_2_1 : In .u8 s618.2.2.2.2.2.2.2.2.2.2.2.1) (h_s618_2_2_2_2_2_2_2_2_2_2_2_2_1 : In .u8 s618.2.2.2.2.2.2.2.2.2.2.2.2.1) (h_s618_2_2_2_2_2_2_2_2_2_2_2_2_2_2_1 : In .u8 s618.2.2.2.2.2.2.2.2.2.2.2.2.2.2.1) (h_s618_2_2_2_2_2_2_2_2_2_2_2_2_2_2_2_1 : In .u8 s618.2.2.2.2.2.2.2.2.2.2.2.2.2.2.2.1) : Ak (fun r => C9 r.1 ∧ De r.2.1 ∧ Ar r.2.2.1 ∧ Bj r.2.2.2.1 ∧ Ah r.2.2.2.2.1 ∧ Ah r.2.2.2.2.2.1 ∧ Ah r.2.2.2.2.2.2.1 ∧ Ah r.2.2.2.2.2.2.2.1 ∧ AF r.2.2.2.2.2.2.2.2.1 ∧ Bl r.2.2.2.2.2.2.2.2.2.1 ∧ Bi r.2.2.2.2.2.2.2.2.2.2.1 ∧ Cf r.2.2.2.2.2.2.2.2.2.2.2.1 ∧ Cf r.2.2.2.2.2.2.2.2.2.2.2.2) (Aj.j2 s618) := by
 unfold Aj.j2
 exact Ls h_s618_1 h_s618_2_1 h_s618_2_2_1 h_s618_2_2_2_1 h_s618_2_2_2_2_1 h_s618_2_2_2_2_2_1 h_s618_2_2_2_2_2_2_1 h_s618_2_2_2_2_2_2_2_1 h_s618_2_2_2_2_2_2_2_2_1 h_s618_2_2_2_2_2_2_2_2_2_1 h_s618_2_2_2_2_2_2_2_2_2_2_1 h_s618_2_2_2_2_2_2_2_2_2_2_2_1 h_s618_2_2_2_2_2_2_2_2_2_2_2_2_1 h_s618_2_2_2_2_2_2_2_2_2_2_2_2_2_2_1 h_s618_2_2_2_2_2_2_2_2_2_2_2_2_2_2_2_1 _ _ h_s618_2_2_1 (show 0 ≤ 0 ∧ 0 ≤ 3 from by omega) (show 3 - 0 < _ from by omega)
theorem Ht {a0c1 : Ag} {s559 : Bool × Bool} {s619 : A7 × Ac × Al × Aa × Aa × Aa × Aa × Ai × Am × An × Int × Int × Bool × Int × Int × Bool × Bool} (h_a0c1 : De a0c1) (h_s619_1 : C9 s619.1) (h_s619_2_1 : Ar s619.2.1) (h_s619_2_2_1 : Bj s619.2.2.1) (h_s619_2_2_2_1 : Ah s619.2.2.2.1) (h_s619_2_2_2_2_1 : Ah s619.2.2.2.2.1) (h_s619_2_2_2_2_2_1 : Ah s619.2.2.2.2.2.1) (h_s619_2_2_2_2_2_2_1 : Ah s619.2.2.2.2.2.2.1) (h_s619_2_2_2_2_2_2_2_1 : AF s619.2.2.2.2.2.2.2.1) (h_s619_2_2_2_2_2_2_2_2_1 : Bl s619.2.2.2.2.2.2.2.2.1) (h_s619_2_2_2_2_2_2_2_2_2_1 : Bi s619.2.2.2.2.2.2.2.2.2.1) (h_s619_2_2_2_2_2_2_2_2_2_2_1 : In .u8 s619.2.2.2.2.2.2.2.2.2.2.1) (h_s619_2_2_2_2_2_2_2_2_2_2_2_1 : In .u8 s619.2.2.2.2.2.2.2.2.2.2.2.1) (h_s619_2_2_2_2_2_2_2_2_2_2_2_2_2_1 : In .u8 s619.2.2.2.2.2.2.2.2.2.2.2.2.2.1) (h_s619_2_2_2_2_2_2_2_2_2_2_2_2_2_2_1 : In .u8 s619.2.2.2.2.2.2.2.2.2.2.2.2.2.2.1) : Ak (fun r => C9 r.1 ∧ De r.2.1 ∧ Ar r.2.2.1 ∧ Bj r.2.2.2.1 ∧ Ah r.2.2.2.2.1 ∧ Ah r.2.2.2.2.2.1 ∧ Ah r.2.2.2.2.2.2.1 ∧ Ah r.2.2.2.2.2.2.2.1 ∧ AF r.2.2.2.2.2.2.2.2.1 ∧ Bl r.2.2.2.2.2.2.2.2.2.1 ∧ Bi r.2.2.2.2.2.2.2.2.2.2.1 ∧ Cf r.2.2.2.2.2.2.2.2.2.2.2.1 ∧ Cf r.2.2.2.2.2.2.2.2.2.2.2.2) (Aj.j3 a0c1 s559 s619) := by
 unfold Aj.j3
 exact Ak.bif (fun h1 =>
  Ak.bind (Rj h_a0c1) (fun r2115 h2 =>
  Ak.bif (fun h3 =>
   Ak.bind (Iy h_s619_1 h_a0c1 h_s619_2_1 h_s619_2_2_1 h_s619_2_2_2_1 h_s619_2_2_2_2_1 h_s619_2_2_2_2_2_1 h_s619_2_2_2_2_2_2_1 h_s619_2_2_2_2_2_2_2_1 h_s619_2_2_2_2_2_2_2_2_1 h_s619_2_2_2_2_2_2_2_2_2_1 ⟨h_s619_2_2_2_2_2_2_2_2_2_2_1, h_s619_2_2_2_2_2_2_2_2_2_2_2_1⟩ ⟨h_s619_2_2_2_2_2_2_2_2_2_2_2_2_2_1, h_s619_2_2_2_2_2_2_2_2_2_2_2_2_2_2_1⟩ h2.Gx h2.Qc) (fun r2121 h4 =>
   Ak.bind (Oo h_a0c1 (B7 rfl rfl)) (fun r4288 h5 =>
   Fg h4.1 h5 h4.2.1 h4.2.2.1 h4.2.2.2.1 h4.2.2.2.2.1 h4.2.2.2.2.2.1 h4.2.2.2.2.2.2.1 h4.2.2.2.2.2.2.2.1 h4.2.2.2.2.2.2.2.2.1 h4.2.2.2.2.2.2.2.2.2.1 h4.2.2.2.2.2.2.2.2.2.2.1.Ba h4.2.2.2.2.2.2.2.2.2.2.1.Bw h4.2.2.2.2.2.2.2.2.2.2.2.Ba h4.2.2.2.2.2.2.2.2.2.2.2.Bw))) (fun h3 =>
   Ak.bind (FJ h_s619_1 h_a0c1 h_s619_2_1 h_s619_2_2_1 h_s619_2_2_2_1 h_s619_2_2_2_2_1 h_s619_2_2_2_2_2_1 h_s619_2_2_2_2_2_2_1 h_s619_2_2_2_2_2_2_2_1 h_s619_2_2_2_2_2_2_2_2_1 h_s619_2_2_2_2_2_2_2_2_2_1 ⟨h_s619_2_2_2_2_2_2_2_2_2_2_1, h_s619_2_2_2_2_2_2_2_2_2_2_2_1⟩ ⟨h_s619_2_2_2_2_2_2_2_2_2_2_2_2_2_1, h_s619_2_2_2_2_2_2_2_2_2_2_2_2_2_2_1⟩ h2.Gx) (fun r4294 h6 =>
   Ak.bind (Oo h_a0c1 h6.1) (fun r4300 h7 =>
   Fg h6.2.1 h7 h6.2.2.1 h6.2.2.2.1 h_s619_2_2_2_1 h_s619_2_2_2_2_1 h_s619_2_2_2_2_2_1 h_s619_2_2_2_2_2_2_1 h6.2.2.2.2.1 h_s619_2_2_2_2_2_2_2_2_1 h_s619_2_2_2_2_2_2_2_2_2_1 h6.2.2.2.2.2.1.Ba h6.2.2.2.2.2.1.Bw h6.2.2.2.2.2.2.Ba h6.2.2.2.2.2.2.Bw))))) (fun h1 =>
  Fg h_s619_1 h_a0c1 h_s619_2_1 h_s619_2_2_1 h_s619_2_2_2_1 h_s619_2_2_2_2_1 h_s619_2_2_2_2_2_1 h_s619_2_2_2_2_2_2_1 h_s619_2_2_2_2_2_2_2_1 h_s619_2_2_2_2_2_2_2_2_1 h_s619_2_2_2_2_2_2_2_2_2_1 h_s619_2_2_2_2_2_2_2_2_2_2_1 h_s619_2_2_2_2_2_2_2_2_2_2_2_1 h_s619_2_2_2_2_2_2_2_2_2_2_2_2_2_1 h_s619_2_2_2_2_2_2_2_2_2_2_2_2_2_2_1)
theorem Hu {a0 : A7} {a0c1 : Ag} {a0c2 : Ac} {a0c3 : Al} {a0c3c1 : Aa} {a0c3c2 : Aa} {a0c3c3 : Aa} {a0c3c4 : Aa} {a0c4 : Ai} {a0c4c1 : Am} {a0c4c2 : An} {a0c5 : AL} {a0c6 : AL} {s559 : Bool × Bool} (h_a0 : C9 a0) (h_a0c1 : De a0c1) (h_a0c2 : Ar a0c2) (h_a0c3 : Bj a0c3) (h_a0c3c1 : Ah a0c3c1) (h_a0c3c2 : Ah a0c3c2) (h_a0c3c3 : Ah a0c3c3) (h_a0c3c4 : Ah a0c3c4) (h_a0c4 : AF a0c4) (h_a0c4c1 : Bl a0c4c1) (h_a0c4c2 : Bi a0c4c2) (h_a0c5 : Cf a0c5) (h_a0c6 : Cf a0c6) : Ak (fun r => C9 r.1 ∧ De r.2.1 ∧ Ar r.2.2.1 ∧ Bj r.2.2.2.1 ∧ Ah r.2.2.2.2.1 ∧ Ah r.2.2.2.2.2.1 ∧ Ah r.2.2.2.2.2.2.1 ∧ Ah r.2.2.2.2.2.2.2.1 ∧ AF r.2.2.2.2.2.2.2.2.1 ∧ Bl r.2.2.2.2.2.2.2.2.2.1 ∧ Bi r.2.2.2.2.2.2.2.2.2.2.1 ∧ Cf r.2.2.2.2.2.2.2.2.2.2.2.1 ∧ Cf r.2.2.2.2.2.2.2.2.2.2.2.2) (Aj.j1 a0 a0c1 a0c2 a0c3 a0c3c1 a0c3c2 a0c3c3 a0c3c4 a0c4 a0c4c1 a0c4c2 a0c5 a0c6 s559) := by
 unfold Aj.j1
 exact Ak.bind (Le h_a0 h_a0c1 h_a0c2 h_a0c3 h_a0c3c1 h_a0c3c2 h_a0c3c3 h_a0c3c4 h_a0c4 h_a0c4c1 h_a0c4c2 h_a0c5 h_a0c6) (fun r1292 h1 =>
 Ak.bif (fun h2 =>
  Ak.bind (Lr h1.1 h_a0c1 h1.2.1 h1.2.2.1 h_a0c3c1 h_a0c3c2 h_a0c3c3 h_a0c3c4 h1.2.2.2.1 h_a0c4c1 h_a0c4c2 h1.2.2.2.2.1 h1.2.2.2.2.2) (fun r1958 h3 =>
  Ht h_a0c1 h3.1 h3.2.1 h3.2.2.1 h3.2.2.2.1 h3.2.2.2.2.1 h3.2.2.2.2.2.1 h3.2.2.2.2.2.2.1 h3.2.2.2.2.2.2.2.1 h3.2.2.2.2.2.2.2.2.1 h3.2.2.2.2.2.2.2.2.2.1 h3.2.2.2.2.2.2.2.2.2.2.1.Ba h3.2.2.2.2.2.2.2.2.2.2.1.Bw h3.2.2.2.2.2.2.2.2.2.2.2.Ba h3.2.2.2.2.2.2.2.2.2.2.2.Bw)) (fun h2 =>
  Ht h_a0c1 h1.1 h1.2.1 h1.2.2.1 h_a0c3c1 h_a0c3c2 h_a0c3c3 h_a0c3c4 h1.2.2.2.1 h_a0c4c1 h_a0c4c2 h1.2.2.2.2.1.Ba h1.2.2.2.2.1.Bw h1.2.2.2.2.2.Ba h1.2.2.2.2.2.Bw))
theorem Lv {a0 : A7} {a0c1 : Ag} {a0c2 : Ac} {a0c3 : Al} {a0c3c1 : Aa} {a0c3c2 : Aa} {a0c3c3 : Aa} {a0c3c4 : Aa} {a0c4 : Ai} {a0c4c1 : Am} {a0c4c2 : An} {a0c5 : AL} {a0c6 : AL} (h_a0 : C9 a0) (h_a0c1 : De a0c1) (h_a0c2 : Ar a0c2) (h_a0c3 : Bj a0c3) (h_a0c3c1 : Ah a0c3c1) (h_a0c3c2 : Ah a0c3c2) (h_a0c3c3 : Ah a0c3c3) (h_a0c3c4 : Ah a0c3c4) (h_a0c4 : AF a0c4) (h_a0c4c1 : Bl a0c4c1) (h_a0c4c2 : Bi a0c4c2) (h_a0c5 : Cf a0c5) (h_a0c6 : Cf a0c6) : Ak (fun r => C9 r.1 ∧ De r.2.1 ∧ Ar r.2.2.1 ∧ Bj r.2.2.2.1 ∧ Ah r.2.2.2.2.1 ∧ Ah r.2.2.2.2.2.1 ∧ Ah r.2.2.2.2.2.2.1 ∧ Ah r.2.2.2.2.2.2.2.1 ∧ AF r.2.2.2.2.2.2.2.2.1 ∧ Bl r.2.2.2.2.2.2.2.2.2.1 ∧ Bi r.2.2.2.2.2.2.2.2.2.2.1 ∧ Cf r.2.2.2.2.2.2.2.2.2.2.2.1 ∧ Cf r.2.2.2.2.2.2.2.2.2.2.2.2) (Aj.f a0 a0c1 a0c2 a0c3 a0c3c1 a0c3c2 a0c3c3 a0c3c4 a0c4 a0c4c1 a0c4c2 a0c5 a0c6) := by
 unfold Aj.f
 exact Ak.bind (P5 h_a0c3 h_a0c3c1 h_a0c3c2 h_a0c3c3 h_a0c3c4) (fun r560 _ =>
 Ak.bif (fun h2 =>
  Ak.bind (Ni h_a0c2) (fun r565 _ =>
  Hu h_a0 h_a0c1 h_a0c2 h_a0c3 h_a0c3c1 h_a0c3c2 h_a0c3c3 h_a0c3c4 h_a0c4 h_a0c4c1 h_a0c4c2 h_a0c5 h_a0c6)) (fun h2 =>
  Ak.bind (Pf h_a0c4 h_a0c4c1 h_a0c4c2) (fun r585 _ =>
  Ak.bind (Ni h_a0c2) (fun r589 _ =>
  Hu h_a0 h_a0c1 h_a0c2 h_a0c3 h_a0c3c1 h_a0c3c2 h_a0c3c3 h_a0c3c4 h_a0c4 h_a0c4c1 h_a0c4c2 h_a0c5 h_a0c6))))
end Go.Proofs.YtkjkgdhgcdgbhaaGreatDoor
