/- Each part of the board comes to an end, within its types. -/
import Derived.Test.YtkjkgdhgcdgbhaaGreatDoorG
import Derived.Test.YtkjkgdhgcdgbhaaGreatDoorTotBase
namespace Go.Proofs.YtkjkgdhgcdgbhaaGreatDoor
open Kot Go
set_option maxRecDepth 100000
set_option linter.unusedVariables false
def ZH (z : Af) : Bool := z.FF == 274 || z.FF == 276 || z.FF == 285
def okc (z : Af) : Bool := (z.GV == 117 || z.GV == 166 || z.GV == 168 || z.GV == 199 || z.GV == 200 || z.GV == 201 || z.GV == 277 || z.GV == 279 || z.GV == 286 || z.GV == 292 || z.GV == 346 || z.GV == 347 || z.GV == 350) && (z.FF == 118 || z.FF == 165 || z.FF == 167 || z.FF == 169 || z.FF == 170 || z.FF == 260 || z.FF == 273 || z.FF == 274 || z.FF == 275 || z.FF == 276 || z.FF == 278 || z.FF == 281 || z.FF == 282 || z.FF == 283 || z.FF == 284 || z.FF == 285 || z.FF == 287 || z.FF == 289 || z.FF == 290 || z.FF == 291 || z.FF == 293 || z.FF == 294 || z.FF == 341 || z.FF == 342 || z.FF == 343 || z.FF == 344 || z.FF == 345 || z.FF == 348 || z.FF == 349 || z.FF == 351 || z.FF == 370)
def XF : List Af → Bool
  | [] => true
  | z :: t => okc z && ((!ZH z || !t.isEmpty) && XF t)
def Zf (z : Af) : Prop := okc z = true
def Y6 (l : List Af) : Prop := XF l = true
structure Wz (l : List Af) : Prop where
  ok : XF l = true
  le : l.length ≤ 8
structure XK (l : List Af) : Prop where
  b : Wz l
  n : 0 < (l.length : Int)
structure Bp (s : Az) : Prop where
  ES : In .u8 s.ES
  DF : In .u8 s.DF
  Fs : In .u8 s.Fs
  CU : In .u8 s.CU
  F4 : In .u8 s.F4
structure Ub (s : E5) : Prop where
  D8 : Bp s.D8
  Fv : In .u16 s.Fv
structure Ua (s : OY) : Prop where
  Mi : In .u8 s.Mi
  GZ : In .u8 s.GZ
structure AZ (s : Ag) : Prop where
  Dl : Ub s.Dl
  B4 : Ub s.B4
  F5 : Y6 s.F5
  ER : Ua s.ER
  BD : In .u16 s.BD
  BJ : In .u16 s.BJ
  AN : In .u16 s.AN
  Ce : In .u8 s.Ce
  Gz : In .u8 s.Gz
structure GR (s : Au) : Prop where
  Ce : In .u8 s.Ce
  NN : In .u8 s.NN
  Nq : In .u8 s.Nq
  Xb : In .u8 s.Xb
structure Dc (s : Bq) : Prop where
  Hw : In .u16 s.Hw
  Ir : In .u16 s.Ir
  DF : In .u8 s.DF
def KU (s : Ac) : Prop := s.AP.length ≤ 8
structure As (s : Ac) : Prop where
  BK : Wy .u8 s.BK
  BU : Wy .u8 s.BU
  Bu : Wy .u8 s.Bu
  Cn : Wy .u8 s.Cn
  Df : In .u8 s.Df
  AY : Dc s.AY
  Aq : In .u8 s.Aq
  Cg : In .u8 s.Cg
  BZ : In .u8 s.BZ
  AV : In .u8 s.AV
  CV : In .u8 s.CV
  Av : Bt 0 261 s.Av
  Ca : Bt 0 340 s.Ca
  AP : XI GR s.AP
  BF : Wy .u8 s.BF
  x1 : KU s
structure Ah (s : Aa) : Prop where
  CY : In .u8 s.CY
  AM : Wy .u8 s.AM
  CP : In .u8 s.CP
  Cb : In .u16 s.Cb
  A9 : In .u16 s.A9
  Ev : In .u8 s.Ev
  BM : In .u8 s.BM
  BN : In .u8 s.BN
  Dk : In .u8 s.Dk
  Av : In .u8 s.Av
  Bw : In .u16 s.Bw
structure UH (s : Ez) : Prop where
  AM : Wy .u8 s.AM
  BM : In .u8 s.BM
  GB : In .u8 s.GB
  Bw : In .u8 s.Bw
  FX : In .u8 s.FX
  A9 : In .u16 s.A9
  BD : In .u16 s.BD
structure Bl (s : Al) : Prop where
  Ae : UH s.Ae
  C4 : Bt 0 1 s.C4
def UO (s : Am) : Prop := (s.C5 = -1 ∨ (0 ≤ s.C5 ∧ s.C5 < (s.Bg.length : Int))) ∧ ((s.Bg.length : Int) = 0 ∨ (0 ≤ s.BD ∧ s.BD < (s.Bg.length : Int))) ∧ (s.Bg.length : Int) ≤ 1073741824
structure Bj (s : Am) : Prop where
  Bg : Qd .u8 s.Bg
  Jv : In .u8 s.Jv
  x1 : UO s
structure T4 (s : He) : Prop where
  AM : In .u8 s.AM
  ID : In .u8 s.ID
structure T3 (s : JS) : Prop where
  BD : Bt 0 63 s.BD
structure Bi (s : An) : Prop where
  CE : Wy .u8 s.CE
  CF : BtA 0 7 s.CF
  AM : Wy .u8 s.AM
  DV : T4 s.DV
  DU : T4 s.DU
  Da : T3 s.Da
  FV : T3 s.FV
structure Uu (s : GN) : Prop where
  L6 : In .u16 s.L6
  BN : In .u16 s.BN
structure AF (s : Ai) : Prop where
  A9 : Uu s.A9
  FM : In .u8 s.FM
  Aq : In .u8 s.Aq
  LZ : In .u8 s.LZ
  Im : In .u8 s.Im
  FW : In .u8 s.FW
  IL : In .u16 s.IL
structure Cf (s : AL) : Prop where
  Ba : In .u8 s.Ba
  Bw : In .u8 s.Bw
structure C9 (s : A7) : Prop where
  GI : Wy .u8 s.GI
  EH : Wy .u8 s.EH
  EQ : Wy .u8 s.EQ
  CV : In .u8 s.CV
  Fp : In .u16 s.Fp
  Ba : In .u8 s.Ba
structure FL (s : Eu) : Prop where
  Gu : In .u16 s.Gu
  Qc : In .u8 s.Qc
structure De (s : Ag) : Prop where
  w : AZ s
  n : 0 < (s.F5.length : Int)
section
variable {α : Type} {P : α → Prop}
theorem UX {z : Af} {t : List Af} (h : Y6 (z :: t)) : Zf z ∧ (ZH z = true → 0 < (t.length : Int)) ∧ Y6 t := by
  unfold Y6 at h
  rw [XF, Bool.and_eq_true, Bool.and_eq_true] at h
  refine ⟨h.1, fun h1 => ?_, h.2.2⟩
  have h3 := h.2.1
  rw [h1] at h3
  cases t with
  | nil => cases h3
  | cons x y => simp only [List.length_cons]; omega
theorem Yp {a b : List Af} (h : XF a = true) (h2 : XF b = true) : XF (a ++ b) = true := by
  induction a with
  | nil => exact h2
  | cons z t ih =>
    rw [XF, Bool.and_eq_true, Bool.and_eq_true] at h
    rw [List.cons_append, XF, Bool.and_eq_true, Bool.and_eq_true]
    refine ⟨h.1, ?_, ih h.2.2⟩
    have h3 := h.2.1
    cases t with
    | nil => rw [Bool.or_eq_true] at h3 ⊢; rcases h3 with h3 | h3; exact Or.inl h3; cases h3
    | cons x y => rw [Bool.or_eq_true]; exact Or.inr rfl
theorem YM {a b : List Af} (h : Wz a) (h2 : XK b) : Y6 (a ++ b) := Yp h.ok h2.b.ok
theorem UK {l : List Af} (h : XF l = true) : Y6 l := h
theorem Rv {l : List Af} (h : XF l = true) (h2 : Nat.ble l.length 8 = true) : Wz l := ⟨h, Nat.le_of_ble_eq_true h2⟩
theorem KZ {l : List Af} (h : XF l = true) (h2 : Nat.ble l.length 8 = true) (h3 : Nat.ble 1 l.length = true) : XK l := ⟨⟨h, Nat.le_of_ble_eq_true h2⟩, by have := Nat.le_of_ble_eq_true h3; omega⟩
theorem Ak.head {l : List Af} {K : Af → List Af → Option α} (h : Y6 l) (hn : 0 < (l.length : Int)) (hk : ∀ z t, Zf z → (ZH z = true → 0 < (t.length : Int)) → Y6 t → Ak P (K z t)) : Ak P ((Kot.IE l 0).bind fun z => (Kot.Si l 1 (l.length : Int)).bind fun t => K z t) := by
  cases l with
  | nil => simp only [List.length_nil] at hn; omega
  | cons z t =>
    have h2 := UX h
    have e1 : Kot.IE (z :: t) 0 = some z := rfl
    have e2 : Kot.Si (z :: t) 1 ((z :: t).length : Int) = some t := by
      unfold Kot.Si
      rw [if_pos ⟨by omega, by simp only [List.length_cons]; omega, by omega⟩]
      simp
    rw [e1, Option.bind_some, e2, Option.bind_some]
    exact hk z t h2.1 h2.2.1 h2.2.2
theorem Ak.ZZ {l : List Af} {K : Af → Option α} (h : Y6 l) (hn : 0 < (l.length : Int)) (hk : ∀ z, Zf z → Ak P (K z)) : Ak P ((Kot.IE l 0).bind K) := by
  cases l with
  | nil => simp only [List.length_nil] at hn; omega
  | cons z t => exact hk z (UX h).1
theorem WO {o : Option α} {z : Af} (h : Zf z) (h0 : (z.GV == 117) = false) (h1 : (z.GV == 166) = false) (h2 : (z.GV == 168) = false) (h3 : (z.GV == 199) = false) (h4 : (z.GV == 200) = false) (h5 : (z.GV == 201) = false) (h6 : (z.GV == 277) = false) (h7 : (z.GV == 279) = false) (h8 : (z.GV == 286) = false) (h9 : (z.GV == 292) = false) (h10 : (z.GV == 346) = false) (h11 : (z.GV == 347) = false) (h12 : (z.GV == 350) = false) : Ak P o := by
  simp [Zf, okc, h0, h1, h2, h3, h4, h5, h6, h7, h8, h9, h10, h11, h12] at h
theorem Yo {o : Option α} {z : Af} (h : Zf z) (h0 : (z.FF == 118) = false) (h1 : (z.FF == 165) = false) (h2 : (z.FF == 167) = false) (h3 : (z.FF == 169) = false) (h4 : (z.FF == 170) = false) (h5 : (z.FF == 260) = false) (h6 : (z.FF == 273) = false) (h7 : (z.FF == 274) = false) (h8 : (z.FF == 275) = false) (h9 : (z.FF == 276) = false) (h10 : (z.FF == 278) = false) (h11 : (z.FF == 281) = false) (h12 : (z.FF == 282) = false) (h13 : (z.FF == 283) = false) (h14 : (z.FF == 284) = false) (h15 : (z.FF == 285) = false) (h16 : (z.FF == 287) = false) (h17 : (z.FF == 289) = false) (h18 : (z.FF == 290) = false) (h19 : (z.FF == 291) = false) (h20 : (z.FF == 293) = false) (h21 : (z.FF == 294) = false) (h22 : (z.FF == 341) = false) (h23 : (z.FF == 342) = false) (h24 : (z.FF == 343) = false) (h25 : (z.FF == 344) = false) (h26 : (z.FF == 345) = false) (h27 : (z.FF == 348) = false) (h28 : (z.FF == 349) = false) (h29 : (z.FF == 351) = false) (h30 : (z.FF == 370) = false) : Ak P o := by
  simp [Zf, okc, h0, h1, h2, h3, h4, h5, h6, h7, h8, h9, h10, h11, h12, h13, h14, h15, h16, h17, h18, h19, h20, h21, h22, h23, h24, h25, h26, h27, h28, h29, h30] at h
end
theorem RY {a0 : Int} (h_a0 : In .u8 a0) : Ak (fun r => In .u8 r) (NJ.f a0) := by
 unfold NJ.f
 exact Ak.mk (CX _)
theorem K3 {a0 : Ag} {a1 : List Af} (h_a0 : AZ a0) (h_a1 : XK a1) : Ak (fun r => De r) (EM.f a0 a1) := by
 unfold EM.f
 exact Ak.mk ⟨⟨h_a0.Dl, h_a0.Dl, h_a1.1.1, h_a0.ER, h_a0.BD, h_a0.BJ, h_a0.AN, h_a0.Ce, h_a0.Gz⟩, h_a1.2⟩
theorem Rb {a0 : Ag} (h_a0 : AZ a0) : Ak (fun r => De r) (JW.f a0) := by
 unfold JW.f
 exact Ak.bind (RY h_a0.B4.D8.F4) (fun r212 h1 =>
 Ak.bind (K3 ⟨⟨⟨h_a0.B4.D8.ES, h_a0.B4.D8.DF, h_a0.B4.D8.Fs, h_a0.B4.D8.CU, h1⟩, h_a0.B4.Fv⟩, h_a0.B4, h_a0.F5, h_a0.ER, h_a0.BD, h_a0.BJ, (B7 rfl rfl), h_a0.Ce, h_a0.Gz⟩ (KZ rfl rfl rfl)) (fun r222 h2 =>
 Ak.mk h2))
theorem UN  : Ak (fun r => De r) (RX.f) := by
 unfold RX.f
 exact Ak.bind (Rb ⟨⟨⟨(B7 rfl rfl), (B7 rfl rfl), (B7 rfl rfl), (B7 rfl rfl), (B7 rfl rfl)⟩, (B7 rfl rfl)⟩, ⟨⟨(B7 rfl rfl), (B7 rfl rfl), (B7 rfl rfl), (B7 rfl rfl), (B7 rfl rfl)⟩, (B7 rfl rfl)⟩, (UK rfl), ⟨(B7 rfl rfl), (B7 rfl rfl)⟩, (B7 rfl rfl), (B7 rfl rfl), (B7 rfl rfl), (B7 rfl rfl), (B7 rfl rfl)⟩) (fun r228 h1 =>
 Ak.mk h1)
theorem Uh  : Ak (fun r => As r) (NQ.f) := by
 unfold NQ.f
 exact Ak.mk ⟨⟨fun _ => (B7 rfl rfl)⟩, ⟨fun _ => (B7 rfl rfl)⟩, ⟨fun _ => (B7 rfl rfl)⟩, ⟨fun _ => (B7 rfl rfl)⟩, (B7 rfl rfl), ⟨(B7 rfl rfl), (B7 rfl rfl), (B7 rfl rfl)⟩, (B7 rfl rfl), (B7 rfl rfl), (B7 rfl rfl), (B7 rfl rfl), (B7 rfl rfl), (EY (x := 0) (by omega)), (EY (x := 0) (by omega)), SI, ⟨fun _ => (B7 rfl rfl)⟩, (show (([] : List Au)).length ≤ 8 from by simp only [List.length_cons, List.length_nil, List.length_append]; omega)⟩
theorem UD : Ak (fun r => Bj r) (Q7.f) := by
 unfold Q7.f
 exact Ak.mk ⟨VR, (B7 rfl rfl), ⟨Or.inl rfl, Or.inl rfl, by decide⟩⟩
theorem Ve  : Ak (fun r => Bi r) (Su.f) := by
 unfold Su.f
 exact Ak.mk ⟨⟨fun _ => (B7 rfl rfl)⟩, ⟨fun _ => (EY (x := 0) (by omega))⟩, ⟨fun _ => (B7 rfl rfl)⟩, ⟨(B7 rfl rfl), (B7 rfl rfl)⟩, ⟨(B7 rfl rfl), (B7 rfl rfl)⟩, ⟨(EY (x := 0) (by omega))⟩, ⟨(EY (x := 0) (by omega))⟩⟩
theorem TV  : Ak (fun r => AF r.1 ∧ Bj r.2.1 ∧ Bi r.2.2) (OX.f) := by
 unfold OX.f
 exact Ak.bind (UD) (fun r388 h1 =>
 Ak.bind (Ve) (fun r398 h2 =>
 Ak.mk ⟨⟨⟨(B7 rfl rfl), (B7 rfl rfl)⟩, (B7 rfl rfl), (B7 rfl rfl), (B7 rfl rfl), (B7 rfl rfl), (B7 rfl rfl), (B7 rfl rfl)⟩, h1, h2⟩))
theorem Tz  : Ak (fun r => Cf r) (Rw.f) := by
 unfold Rw.f
 exact Ak.mk ⟨(B7 rfl rfl), (B7 rfl rfl)⟩
theorem P6 {a0 : Al} {a0c1 : Aa} {a0c2 : Aa} {a0c3 : Aa} {a0c4 : Aa} (h_a0 : Bl a0) (h_a0c1 : Ah a0c1) (h_a0c2 : Ah a0c2) (h_a0c3 : Ah a0c3) (h_a0c4 : Ah a0c4) : Ak (fun _ => True) (FN.f a0 a0c1 a0c2 a0c3 a0c4) := by
 unfold FN.f
 exact Ak.bif (fun h1 =>
  Ak.mk trivial) (fun h1 =>
  Ak.mk trivial)
theorem Nk {a0 : Ac} (h_a0 : As a0) : Ak (fun _ => True) (FT.f a0) := by
 unfold FT.f
 exact Ak.bif (fun h1 =>
  Ak.mk trivial) (fun h1 =>
  Ak.mk trivial)
theorem Pg {a0 : Ai} {a0c1 : Am} {a0c2 : An} (h_a0 : AF a0) (h_a0c1 : Bj a0c1) (h_a0c2 : Bi a0c2) : Ak (fun _ => True) (G5.f a0 a0c1 a0c2) := by
 unfold G5.f
 exact Ak.bif (fun h1 =>
  Ak.mk trivial) (fun h1 =>
  Ak.bif (fun h2 =>
   Ak.mk trivial) (fun h2 =>
   Ak.mk trivial))
theorem Jz {a0 : Al} {a0c1 : Aa} {a0c2 : Aa} {a0c3 : Aa} {a0c4 : Aa} (h_a0 : Bl a0) (h_a0c1 : Ah a0c1) (h_a0c2 : Ah a0c2) (h_a0c3 : Ah a0c3) (h_a0c4 : Ah a0c4) : Ak (fun _ => True) (Dm.f a0 a0c1 a0c2 a0c3 a0c4) := by
 unfold Dm.f
 exact Ak.bif (fun h1 =>
  Ak.mk trivial) (fun h1 =>
  Ak.mk trivial)
theorem Ps {a0 : Al} {a0c1 : Aa} {a0c2 : Aa} {a0c3 : Aa} {a0c4 : Aa} (h_a0 : Bl a0) (h_a0c1 : Ah a0c1) (h_a0c2 : Ah a0c2) (h_a0c3 : Ah a0c3) (h_a0c4 : Ah a0c4) : Ak (fun r => In .u16 r.1) (G6.f a0 a0c1 a0c2 a0c3 a0c4) := by
 unfold G6.f
 exact Ak.bind (Jz h_a0 h_a0c1 h_a0c2 h_a0c3 h_a0c4) (fun r645 _ =>
 Ak.bif (fun h2 =>
  Ak.mk (B7 rfl rfl)) (fun h2 =>
  Ak.mk h_a0.Ae.BD))
theorem L5 {a0 : A7} {a0c1 : Ag} {a0c2 : Ac} {a0c3 : Al} {a0c3c1 : Aa} {a0c3c2 : Aa} {a0c3c3 : Aa} {a0c3c4 : Aa} {a0c4 : Ai} {a0c4c1 : Am} {a0c4c2 : An} {a0c5 : AL} {a0c6 : AL} {a1 : Int} (h_a0 : C9 a0) (h_a0c1 : De a0c1) (h_a0c2 : As a0c2) (h_a0c3 : Bl a0c3) (h_a0c3c1 : Ah a0c3c1) (h_a0c3c2 : Ah a0c3c2) (h_a0c3c3 : Ah a0c3c3) (h_a0c3c4 : Ah a0c3c4) (h_a0c4 : AF a0c4) (h_a0c4c1 : Bj a0c4c1) (h_a0c4c2 : Bi a0c4c2) (h_a0c5 : Cf a0c5) (h_a0c6 : Cf a0c6) (h_a1 : In .u16 a1) : Ak (fun r => In .u8 r) (D7.f a0 a0c1 a0c2 a0c3 a0c3c1 a0c3c2 a0c3c3 a0c3c4 a0c4 a0c4c1 a0c4c2 a0c5 a0c6 a1) := by
 unfold D7.f
 exact Ak.bif (fun h1 =>
  Ak.arr (by have e0 := DT h_a1; have e1 := EW (a1 - 57344); have e2 := of_decide_eq_true h1; omega) (by have e0 := DT h_a1; have e1 := EW (a1 - 57344); have e2 := of_decide_eq_true h1; omega) (Ak.bnd (fun x696 e_x696 =>
   have w_x696 : In .u8 x696 := O7 e_x696 (h_a0.EQ.e _);
   Ak.mk w_x696))) (fun h1 =>
  Ak.bif (fun h2 =>
   Ak.arr (by have e0 := DT h_a1; have e1 := Lm a1 2048 (by decide); have e2 := of_decide_eq_false h1; have e3 := of_decide_eq_true h2; omega) (by have e0 := DT h_a1; have e1 := Lm a1 2048 (by decide); have e2 := of_decide_eq_false h1; have e3 := of_decide_eq_true h2; omega) (Ak.mk (h_a0.GI.e _))) (fun h2 =>
   Ak.bif (fun h3 =>
    Ak.bif (fun h4 =>
     Ak.arr (by have e0 := DT h_a1; have e1 := EW (a1 - 24576); have e2 := of_decide_eq_false h1; have e3 := of_decide_eq_false h2; have e4 := of_decide_eq_true h3; have e5 := of_decide_eq_true h4; omega) (by have e0 := DT h_a1; have e1 := EW (a1 - 24576); have e2 := of_decide_eq_false h1; have e3 := of_decide_eq_false h2; have e4 := of_decide_eq_true h3; have e5 := of_decide_eq_true h4; omega) (Ak.bnd (fun x700 e_x700 =>
      have w_x700 : In .u8 x700 := O7 e_x700 (h_a0.EH.e _);
      Ak.mk w_x700))) (fun h4 =>
     Ak.mk (B7 rfl rfl))) (fun h3 =>
    Ak.mk (B7 rfl rfl))))
theorem E7 {a0 : Bq} (h_a0 : Dc a0) : Ak (fun r => Dc r) (CB.f a0) := by
 unfold CB.f
 exact Ak.mk ⟨(CZ _), (CZ _), (CX _)⟩
theorem Se {a0 : Bq} (h_a0 : Dc a0) : Ak (fun r => Dc r) (JN.f a0) := by
 unfold JN.f
 exact Ak.bind (E7 h_a0) (fun r714 h1 =>
 Ak.mk ⟨h1.Hw, h1.Ir, h1.DF⟩)
theorem Ns {a0 : Int} {a1 : Bool} (h_a0 : In .u16 a0) : Ak (fun r => Bt 0 2047 r) (Jw.f a0 a1) := by
 unfold Jw.f
 exact Ak.bif (fun h1 =>
  Ak.bnd (fun x732 e_x732 =>
   have w_x732 : In .u16 x732 := O7 e_x732 (CZ _);
   Ak.mk (EY (x := x732) (by have e0 := DT w_x732; have e1 := DT (CZ _ : In .u16 (M5 .u16 (Bv .u16 a0 1023) (Bv .u16 (shr .u16 a0 1) 1024))); have e2 := DT (CZ _ : In .u16 (Bv .u16 a0 1023)); have e3 := E6 a0 1023 (by decide); have e4 := DT (CZ _ : In .u16 (Bv .u16 (shr .u16 a0 1) 1024)); have e5 := E6 (shr .u16 a0 1) 1024 (by decide); have e6 := WC (Bv .u16 a0 1023) (Bv .u16 (shr .u16 a0 1) 1024) 11; have e7 := e_x732; omega)))) (fun h1 =>
  Ak.mk (EY (x := Bv .u16 a0 2047) (by have e0 := DT (CZ _ : In .u16 (Bv .u16 a0 2047)); have e1 := E6 a0 2047 (by decide); omega)))
theorem OL {a0 : Int} (h_a0 : In .u16 a0) : Ak (fun r => Bt 0 31 r) (KY.f a0) := by
 unfold KY.f
 exact Ak.bif (fun h1 =>
  Ak.bnd (fun x746 e_x746 =>
   have w_x746 : In .u8 x746 := O7 e_x746 (CX _);
   Ak.mk (EY (x := x746) (by have e0 := Cq w_x746; have e1 := Cq (CX _ : In .u8 (Bv .u8 (IntKind.wrap .u8 (Bv .u16 a0 31)) 19)); have e2 := BP (IntKind.wrap .u8 (Bv .u16 a0 31)) 19 (by decide); have e3 := eq_of_beq h1; have e4 := Cq (CX _ : In .u8 (J3 .u8 (IntKind.wrap .u8 (Bv .u16 a0 31)) 16)); have e5 := DT (CZ _ : In .u16 (Bv .u16 a0 31)); have e6 := E6 a0 31 (by decide); have e7 := Sv (Bv .u16 a0 31); have e8 := U6 (IntKind.wrap .u8 (Bv .u16 a0 31)) 16 (by decide); have e9 := TX (IntKind.wrap .u8 (Bv .u16 a0 31)) 16; have e10 := e_x746; omega)))) (fun h1 =>
  Ak.mk (EY (x := IntKind.wrap .u8 (Bv .u16 a0 31)) (by have e0 := DT (CZ _ : In .u16 (Bv .u16 a0 31)); have e1 := E6 a0 31 (by decide); have e2 := Sv (Bv .u16 a0 31); have e3 := Cq (CX _ : In .u8 (Bv .u8 (IntKind.wrap .u8 (Bv .u16 a0 31)) 19)); have e4 := BP (IntKind.wrap .u8 (Bv .u16 a0 31)) 19 (by decide); have e5 := ne_of_beq_false h1; omega)))
theorem IX {a0 : Ac} {a1 : Int} (h_a0 : As a0) (h_a1 : In .u16 a1) : Ak (fun r => In .u8 r) (DX.f a0 a1) := by
 unfold DX.f
 exact Ak.bif (fun h1 =>
  Ak.arr (by have e0 := DT (CZ _ : In .u16 (Bv .u16 a1 16383)); have e1 := E6 a1 16383 (by decide); have e2 := of_decide_eq_true h1; omega) (by have e0 := DT (CZ _ : In .u16 (Bv .u16 a1 16383)); have e1 := E6 a1 16383 (by decide); have e2 := of_decide_eq_true h1; omega) (Ak.mk (h_a0.BK.e _))) (fun h1 =>
  Ak.bif (fun h2 =>
   Ak.bind (Ns (CZ _)) (fun r733 h3 =>
   Ak.arr (by have e0 := Cu h3; have e1 := DT (CZ _ : In .u16 (Bv .u16 a1 16383)); have e2 := E6 a1 16383 (by decide); have e3 := of_decide_eq_false h1; have e4 := of_decide_eq_true h2; omega) (by have e0 := Cu h3; have e1 := DT (CZ _ : In .u16 (Bv .u16 a1 16383)); have e2 := E6 a1 16383 (by decide); have e3 := of_decide_eq_false h1; have e4 := of_decide_eq_true h2; omega) (Ak.mk (h_a0.BU.e _)))) (fun h2 =>
   Ak.bind (OL (CZ _)) (fun r747 h4 =>
   Ak.arr (by have e0 := Cu h4; have e1 := DT (CZ _ : In .u16 (Bv .u16 a1 16383)); have e2 := E6 a1 16383 (by decide); have e3 := of_decide_eq_false h1; have e4 := of_decide_eq_false h2; omega) (by have e0 := Cu h4; have e1 := DT (CZ _ : In .u16 (Bv .u16 a1 16383)); have e2 := E6 a1 16383 (by decide); have e3 := of_decide_eq_false h1; have e4 := of_decide_eq_false h2; omega) (Ak.mk (h_a0.Bu.e _)))))
theorem PZ {a0 : Ac} {a1 : Int} (h_a0 : As a0) (h_a1 : In .u16 a1) : Ak (fun r => In .u8 r.1 ∧ As r.2) (FB.f a0 a1) := by
 unfold FB.f
 exact Ak.bind (IX h_a0 h_a1) (fun r760 h1 =>
 Ak.bif (fun h2 =>
  Ak.bind (Ns h_a1) (fun r764 h3 =>
  Ak.arr (by have e0 := Cu h3; have e1 := DT (CZ _ : In .u16 (Bv .u16 a1 16383)); have e2 := E6 a1 16383 (by decide); have e3 := of_decide_eq_true h2; omega) (by have e0 := Cu h3; have e1 := DT (CZ _ : In .u16 (Bv .u16 a1 16383)); have e2 := E6 a1 16383 (by decide); have e3 := of_decide_eq_true h2; omega) (Ak.mk ⟨(CX _), ⟨h_a0.BK, h_a0.BU, h_a0.Bu, h_a0.Cn, h_a0.Df, h_a0.AY, h_a0.Aq, h_a0.Cg, h_a0.BZ, (h_a0.BU.e _), h_a0.CV, h_a0.Av, h_a0.Ca, h_a0.AP, h_a0.BF, h_a0.x1⟩⟩))) (fun h2 =>
  Ak.mk ⟨h_a0.AV, ⟨h_a0.BK, h_a0.BU, h_a0.Bu, h_a0.Cn, h_a0.Df, h_a0.AY, h_a0.Aq, h_a0.Cg, h_a0.BZ, h1, h_a0.CV, h_a0.Av, h_a0.Ca, h_a0.AP, h_a0.BF, h_a0.x1⟩⟩))
theorem Pe {a0 : Bq} {a1 : Bool} (h_a0 : Dc a0) : Ak (fun r => Dc r) (GQ.f a0 a1) := by
 unfold GQ.f
 exact Ak.bif (fun h1 =>
  Ak.bind (E7 ⟨(CZ _), h_a0.Ir, h_a0.DF⟩) (fun r783 h2 =>
  Ak.mk h2)) (fun h1 =>
  Ak.bind (E7 ⟨(CZ _), h_a0.Ir, h_a0.DF⟩) (fun r787 h3 =>
  Ak.mk h3))
theorem Qm {a0 : Ac} {a1 : Int} (h_a0 : As a0) (h_a1 : In .u8 a1) : Ak (fun r => In .u8 r.1 ∧ As r.2) (FR.f a0 a1) := by
 unfold FR.f
 exact Ak.bif (fun h1 =>
  Ak.bind (Se h_a0.AY) (fun r718 h2 =>
  Ak.bnd (fun x722 e_x722 =>
   have w_x722 : In .u8 x722 := O7 e_x722 (CX _);
   Ak.mk ⟨w_x722, ⟨h_a0.BK, h_a0.BU, h_a0.Bu, h_a0.Cn, h_a0.Df, h2, h_a0.Aq, h_a0.Cg, (CX _), h_a0.AV, (CX _), h_a0.Av, h_a0.Ca, h_a0.AP, h_a0.BF, h_a0.x1⟩⟩))) (fun h1 =>
  Ak.bif (fun h3 =>
   Ak.arr (by have e0 := Cq h_a0.Df; have e1 := Cq h_a1; have e2 := Lm a1 8 (by decide); have e3 := ne_of_beq_false h1; have e4 := eq_of_beq h3; omega) (by have e0 := Cq h_a0.Df; have e1 := Cq h_a1; have e2 := Lm a1 8 (by decide); have e3 := ne_of_beq_false h1; have e4 := eq_of_beq h3; omega) (Ak.bif (fun h4 =>
    Ak.mk ⟨(CX _), ⟨h_a0.BK, h_a0.BU, h_a0.Bu, h_a0.Cn, h_a0.Df, h_a0.AY, h_a0.Aq, h_a0.Cg, h_a0.BZ, h_a0.AV, (CX _), h_a0.Av, h_a0.Ca, h_a0.AP, h_a0.BF, h_a0.x1⟩⟩) (fun h4 =>
    Ak.mk ⟨(h_a0.Cn.e _), ⟨h_a0.BK, h_a0.BU, h_a0.Bu, h_a0.Cn, h_a0.Df, h_a0.AY, h_a0.Aq, h_a0.Cg, h_a0.BZ, h_a0.AV, (h_a0.Cn.e _), h_a0.Av, h_a0.Ca, h_a0.AP, h_a0.BF, h_a0.x1⟩⟩))) (fun h3 =>
   Ak.bif (fun h5 =>
    Ak.bind (PZ h_a0 h_a0.AY.Hw) (fun r773 h6 =>
    Ak.bind (Pe h6.2.AY) (fun r791 h7 =>
    Ak.mk ⟨h6.1, ⟨h6.2.BK, h6.2.BU, h6.2.Bu, h6.2.Cn, h6.2.Df, h7, h6.2.Aq, h6.2.Cg, h6.2.BZ, h6.2.AV, h6.1, h6.2.Av, h6.2.Ca, h6.2.AP, h6.2.BF, h6.2.x1⟩⟩))) (fun h5 =>
    Ak.mk ⟨h_a0.CV, h_a0⟩)))
theorem ME {a0 : Aa} (h_a0 : Ah a0) : Ak (fun _ => True) (Ht.f a0) := by
 unfold Ht.f
 exact Ak.mk trivial
theorem Pt {a0 : Al} {r815 : Bool} {r819 : Bool} {r823 : Bool} {r827 : Bool} (h_a0 : Bl a0) : ∀ (n933 : Nat) (s915 : Int × Int) (h_s915_1 : In .u8 s915.1) (hi_0 : 0 ≤ s915.2 ∧ s915.2 ≤ 8) (hm : 8 - s915.2 < (n933 : Int)), Ak (fun r => In .u8 r.1 ∧ Bl r.2) (CG.l1 a0 r815 r819 r823 r827 n933 s915) := by
 intro n933
 induction n933 with
 | zero => intro s915 h_s915_1 hi_0 hm; exfalso; revert hm; intro hm; have e0 := hi_0; omega
 | succ n933 ih =>
  intro s915 h_s915_1 hi_0 hm
  unfold CG.l1
  exact Ak.bif (fun h1 =>
   Ak.bind (Ak.US (n := 8) (by have e0 := of_decide_eq_true h1; have e1 := hi_0; omega) (by have e0 := of_decide_eq_true h1; have e1 := hi_0; omega) rfl) (fun z935 h2 =>
   Ak.bif (fun h3 =>
    Ak.neg (by have e0 := of_decide_eq_true h1; have e1 := hi_0; omega) (ih _ (CX _) (show 0 ≤ (IntKind.wrap .i64 (s915.2 + 1)) ∧ (IntKind.wrap .i64 (s915.2 + 1)) ≤ 8 from by have e0 := CS (s915.2 + 1); have e1 := of_decide_eq_true h1; have e2 := hi_0; have e3 := hm; omega) (show 8 - (IntKind.wrap .i64 (s915.2 + 1)) < _ from by have e0 := CS (s915.2 + 1); have e1 := of_decide_eq_true h1; have e2 := hi_0; have e3 := hm; omega))) (fun h3 =>
    ih _ h_s915_1 (show 0 ≤ (IntKind.wrap .i64 (s915.2 + 1)) ∧ (IntKind.wrap .i64 (s915.2 + 1)) ≤ 8 from by have e0 := CS (s915.2 + 1); have e1 := of_decide_eq_true h1; have e2 := hi_0; have e3 := hm; omega) (show 8 - (IntKind.wrap .i64 (s915.2 + 1)) < _ from by have e0 := CS (s915.2 + 1); have e1 := of_decide_eq_true h1; have e2 := hi_0; have e3 := hm; omega)))) (fun h1 =>
   Ak.mk ⟨h_s915_1, ⟨h_a0.Ae, h_a0.C4⟩⟩)
theorem P5 {a0 : Al} {a0c1 : Aa} {a0c2 : Aa} {a0c3 : Aa} {a0c4 : Aa} (h_a0 : Bl a0) (h_a0c1 : Ah a0c1) (h_a0c2 : Ah a0c2) (h_a0c3 : Ah a0c3) (h_a0c4 : Ah a0c4) : Ak (fun r => In .u8 r.1 ∧ Bl r.2) (CG.f a0 a0c1 a0c2 a0c3 a0c4) := by
 unfold CG.f
 exact Ak.bind (ME h_a0c1) (fun r815 _ =>
 Ak.bind (ME h_a0c2) (fun r819 _ =>
 Ak.bind (ME h_a0c3) (fun r823 _ =>
 Ak.bind (ME h_a0c4) (fun r827 _ =>
 Pt h_a0 _ _ (B7 rfl rfl) (show 0 ≤ 0 ∧ 0 ≤ 8 from by omega) (show 8 - 0 < _ from by omega)))))
theorem Rx {a0 : AL} (h_a0 : Cf a0) : Ak (fun r => In .u8 r.1 ∧ Cf r.2) (Ks.f a0) := by
 unfold Ks.f
 exact Ak.bif (fun h1 =>
  Ak.mk ⟨(CX _), ⟨h_a0.Ba, (CX _)⟩⟩) (fun h1 =>
  Ak.mk ⟨(CX _), h_a0⟩)
theorem Qp {a0 : An} {a1 : Int} {s1033 : Bool} (h_a0 : Bi a0) (h_a1 : In .u16 a1) (hb_2 : s1033 = true → 16448 ≤ a1 ∧ a1 < 16512) : Ak (fun r => In .u8 r.1) (II.j1 a0 a1 s1033) := by
 unfold II.j1
 exact Ak.bif (fun h1 =>
  Ak.arr (by have e0 := DT h_a1; have e1 := EW (a1 - 16448); have e2 := hb_2 h1; omega) (by have e0 := DT h_a1; have e1 := EW (a1 - 16448); have e2 := hb_2 h1; omega) (Ak.bnd (fun x1041 e_x1041 =>
   have w_x1041 : In .u8 x1041 := O7 e_x1041 (CX _);
   Ak.mk w_x1041))) (fun h1 =>
  Ak.bif (fun h2 =>
   Ak.mk (CX _)) (fun h2 =>
   Ak.bif (fun h3 =>
    Ak.mk (CX _)) (fun h3 =>
    Ak.mk (B7 rfl rfl))))
theorem Tp {a0 : An} {a1 : Int} (h_a0 : Bi a0) (h_a1 : In .u16 a1) : Ak (fun r => In .u8 r.1) (II.f a0 a1) := by
 unfold II.f
 exact Ak.bif (fun h1 =>
  Qp h_a0 h_a1 (fun hh => by have e0 := DT h_a1; have e1 := of_decide_eq_true h1; have e2 := of_decide_eq_true hh; omega)) (fun h1 =>
  Qp h_a0 h_a1 (fun h => Bool.noConfusion h))
theorem Oq {a0 : Am} (h_a0 : Bj a0) : Ak (fun _ => True) (Es.f a0) := by
 unfold Es.f
 exact Ak.mk trivial
theorem Q5 {a0 : Am} (h_a0 : Bj a0) : Ak (fun _ => True) (Jn.f a0) := by
 unfold Jn.f
 exact Ak.bif (fun h1 =>
  Ak.bind (Oq h_a0) (fun r1062 _ =>
  Ak.bif (fun h3 =>
   Ak.mk trivial) (fun h3 =>
   Ak.mk trivial))) (fun h1 =>
  Ak.mk trivial)
theorem Tn {a0 : List Bool}  (hp_0 : (a0.length : Int) ≤ 8) : ∀ (n1132 : Nat) (s1117 : Int × Int) (h_s1117_1 : In .u8 s1117.1) (hi_0 : 0 ≤ s1117.2 ∧ s1117.2 ≤ (a0.length : Int)) (hm : (a0.length : Int) - s1117.2 < (n1132 : Int)), Ak (fun r => In .u8 r) (Gs.l1 a0 n1132 s1117) := by
 intro n1132
 induction n1132 with
 | zero => intro s1117 h_s1117_1 hi_0 hm; exfalso; revert hm; intro hm; have e0 := hp_0; have e1 := hi_0; omega
 | succ n1132 ih =>
  intro s1117 h_s1117_1 hi_0 hm
  unfold Gs.l1
  exact Ak.bif (fun h1 =>
   Ak.bind (Ak.SO (by have e0 := of_decide_eq_true h1; have e1 := hp_0; have e2 := hi_0; omega) (by have e0 := of_decide_eq_true h1; have e1 := hp_0; have e2 := hi_0; omega)) (fun z1134 h2 =>
   Ak.bif (fun h3 =>
    Ak.neg (by have e0 := of_decide_eq_true h1; have e1 := hp_0; have e2 := hi_0; omega) (ih _ (CX _) (show 0 ≤ (IntKind.wrap .i64 (s1117.2 + 1)) ∧ (IntKind.wrap .i64 (s1117.2 + 1)) ≤ (a0.length : Int) from by have e0 := CS (s1117.2 + 1); have e1 := of_decide_eq_true h1; have e2 := hp_0; have e3 := hi_0; have e4 := hm; omega) (show (a0.length : Int) - (IntKind.wrap .i64 (s1117.2 + 1)) < _ from by have e0 := CS (s1117.2 + 1); have e1 := of_decide_eq_true h1; have e2 := hp_0; have e3 := hi_0; have e4 := hm; omega))) (fun h3 =>
    ih _ h_s1117_1 (show 0 ≤ (IntKind.wrap .i64 (s1117.2 + 1)) ∧ (IntKind.wrap .i64 (s1117.2 + 1)) ≤ (a0.length : Int) from by have e0 := CS (s1117.2 + 1); have e1 := of_decide_eq_true h1; have e2 := hp_0; have e3 := hi_0; have e4 := hm; omega) (show (a0.length : Int) - (IntKind.wrap .i64 (s1117.2 + 1)) < _ from by have e0 := CS (s1117.2 + 1); have e1 := of_decide_eq_true h1; have e2 := hp_0; have e3 := hi_0; have e4 := hm; omega)))) (fun h1 =>
   Ak.mk h_s1117_1)
theorem OI {a0 : List Bool}  (hp_0 : (a0.length : Int) ≤ 8) : Ak (fun r => In .u8 r) (Gs.f a0) := by
 unfold Gs.f
 exact Tn (show (a0.length : Int) ≤ 8 from by have e0 := hp_0; omega) _ _ (B7 rfl rfl) (show 0 ≤ 0 ∧ 0 ≤ (a0.length : Int) from by have e0 := hp_0; omega) (show (a0.length : Int) - 0 < _ from by have e0 := hp_0; omega)
theorem OC {a0 : Ai} {a0c1 : Am} {a1 : Int} {s1024 : Unit} (h_a0 : AF a0) (h_a0c1 : Bj a0c1) (h_a1 : In .u16 a1) : Ak (fun r => In .u8 r.1 ∧ AF r.2.2) (Ct.j1 a0 a0c1 a1 s1024) := by
 unfold Ct.j1
 exact Ak.bind (Oq h_a0c1) (fun r1087 _ =>
 Ak.bind (Q5 h_a0c1) (fun r1091 _ =>
 Ak.bif (fun h3 =>
  Ak.bif (fun h4 =>
   Ak.bind (OI (show (([a0.A9.KP, a0.Hq, false, false, a0.IL != 0, false, !r1091, r1087]).length : Int) ≤ 8 from by simp only [List.length_cons, List.length_nil]; have e0 := DT h_a1; have e1 := eq_of_beq h3; have e2 := Cq (CX _ : In .u8 (Bv .u8 a0.Aq 16)); have e3 := BP a0.Aq 16 (by decide); have e4 := F3 h4; omega)) (fun r1139 h5 =>
   Ak.mk ⟨h5, ⟨⟨h_a0.A9.L6, h_a0.A9.BN⟩, h_a0.FM, h_a0.Aq, h_a0.LZ, h_a0.Im, h_a0.FW, h_a0.IL⟩⟩)) (fun h4 =>
   Ak.bind (OI (show (([a0.A9.KP, a0.Hq, false, false, false, false, !r1091, r1087]).length : Int) ≤ 8 from by simp only [List.length_cons, List.length_nil]; have e0 := DT h_a1; have e1 := eq_of_beq h3; have e2 := Cq (CX _ : In .u8 (Bv .u8 a0.Aq 16)); have e3 := BP a0.Aq 16 (by decide); have e4 := Ei h4; omega)) (fun r1168 h6 =>
   Ak.mk ⟨h6, ⟨⟨h_a0.A9.L6, h_a0.A9.BN⟩, h_a0.FM, h_a0.Aq, h_a0.LZ, h_a0.Im, h_a0.FW, h_a0.IL⟩⟩))) (fun h3 =>
  Ak.bif (fun h7 =>
   Ak.mk ⟨h_a0.LZ, ⟨h_a0.A9, h_a0.FM, h_a0.Aq, h_a0.LZ, h_a0.Im, h_a0.FW, h_a0.IL⟩⟩) (fun h7 =>
   Ak.bif (fun h8 =>
    Ak.bind (OI (show (([!r1087, !r1091, !r1087, false, false, false, true]).length : Int) ≤ 8 from by simp only [List.length_cons, List.length_nil]; have e0 := DT h_a1; have e1 := ne_of_beq_false h3; have e2 := ne_of_beq_false h7; have e3 := eq_of_beq h8; omega)) (fun r1197 h9 =>
    Ak.mk ⟨h9, h_a0⟩)) (fun h8 =>
    Ak.bif (fun h10 =>
     Ak.mk ⟨(CX _), h_a0⟩) (fun h10 =>
     Ak.mk ⟨(B7 rfl rfl), h_a0⟩))))))
theorem LP {a0 : Ai} {a0c1 : Am} {a0c2 : An} {a1 : Int} {s1025 : Bool} (h_a0 : AF a0) (h_a0c1 : Bj a0c1) (h_a0c2 : Bi a0c2) (h_a1 : In .u16 a1) : Ak (fun r => In .u8 r.1 ∧ AF r.2.2) (Ct.j2 a0 a0c1 a0c2 a1 s1025) := by
 unfold Ct.j2
 exact Ak.bif (fun h1 =>
  Ak.bif (fun h2 =>
   Ak.mk ⟨(B7 rfl rfl), h_a0⟩) (fun h2 =>
   Ak.bind (Tp h_a0c2 h_a1) (fun r1042 h3 =>
   Ak.mk ⟨h3, h_a0⟩))) (fun h1 =>
  Ak.bif (fun h4 =>
   Ak.mk ⟨(B7 rfl rfl), h_a0⟩) (fun h4 =>
   OC h_a0 h_a0c1 h_a1))
theorem Pf {a0 : Ai} {a0c1 : Am} {a0c2 : An} {a1 : Int} (h_a0 : AF a0) (h_a0c1 : Bj a0c1) (h_a0c2 : Bi a0c2) (h_a1 : In .u16 a1) : Ak (fun r => In .u8 r.1 ∧ AF r.2.2) (Ct.f a0 a0c1 a0c2 a1) := by
 unfold Ct.f
 exact Ak.bif (fun h1 =>
  LP h_a0 h_a0c1 h_a0c2 h_a1) (fun h1 =>
  LP h_a0 h_a0c1 h_a0c2 h_a1)
theorem Ie {a0 : A7} {a0c2 : Ac} {a0c3 : Al} {a0c4 : Ai} {a0c4c1 : Am} {a0c4c2 : An} {a0c5 : AL} {a0c6 : AL} {a1 : Int} {s974 : Bool} (h_a0 : C9 a0) (h_a0c2 : As a0c2) (h_a0c3 : Bl a0c3) (h_a0c4 : AF a0c4) (h_a0c4c1 : Bj a0c4c1) (h_a0c4c2 : Bi a0c4c2) (h_a0c5 : Cf a0c5) (h_a0c6 : Cf a0c6) (h_a1 : In .u16 a1) (hb_9 : s974 = true → a1 = 16406 ∨ a1 = 16407) : Ak (fun r => In .u8 r.1 ∧ C9 r.2.1 ∧ As r.2.2.1 ∧ Bl r.2.2.2.1 ∧ AF r.2.2.2.2.1 ∧ Cf r.2.2.2.2.2.1 ∧ Cf r.2.2.2.2.2.2) (Aw.j2 a0 a0c2 a0c3 a0c4 a0c4c1 a0c4c2 a0c5 a0c6 a1 s974) := by
 unfold Aw.j2
 exact Ak.bif (fun h1 =>
  Ak.bif (fun h2 =>
   Ak.bind (Rx h_a0c5) (fun r983 h3 =>
   Ak.mk ⟨(CX _), ⟨h_a0.GI, h_a0.EH, h_a0.EQ, (CX _), h_a0.Fp, h_a0.Ba⟩, h_a0c2, h_a0c3, h_a0c4, h3.2, h_a0c6⟩)) (fun h2 =>
   Ak.bif (fun h4 =>
    Ak.bind (Rx h_a0c6) (fun r1002 h5 =>
    Ak.mk ⟨(CX _), ⟨h_a0.GI, h_a0.EH, h_a0.EQ, (CX _), h_a0.Fp, h_a0.Ba⟩, h_a0c2, h_a0c3, h_a0c4, h_a0c5, h5.2⟩)) (fun h4 =>
    Ak.no (by have e0 := hb_9 h1; have e1 := DT h_a1; have e2 := EW (a1 - 16406); have e3 := ne_of_beq_false h2; have e4 := ne_of_beq_false h4; omega)))) (fun h1 =>
  Ak.bif (fun h6 =>
   Ak.bind (Pf h_a0c4 h_a0c4c1 h_a0c4c2 h_a1) (fun r1203 h7 =>
   Ak.bif (fun h8 =>
    Ak.mk ⟨h7.1, ⟨h_a0.GI, h_a0.EH, h_a0.EQ, h7.1, h_a0.Fp, h_a0.Ba⟩, h_a0c2, h_a0c3, h7.2, h_a0c5, h_a0c6⟩) (fun h8 =>
    Ak.mk ⟨h_a0.CV, h_a0, h_a0c2, h_a0c3, h7.2, h_a0c5, h_a0c6⟩))) (fun h6 =>
   Ak.mk ⟨h_a0.CV, h_a0, h_a0c2, h_a0c3, h_a0c4, h_a0c5, h_a0c6⟩))
theorem Ic {a0 : A7} {a0c1 : Ag} {a0c2 : Ac} {a0c3 : Al} {a0c3c1 : Aa} {a0c3c2 : Aa} {a0c3c3 : Aa} {a0c3c4 : Aa} {a0c4 : Ai} {a0c4c1 : Am} {a0c4c2 : An} {a0c5 : AL} {a0c6 : AL} {a1 : Int} {s674 : Bool} (h_a0 : C9 a0) (h_a0c1 : De a0c1) (h_a0c2 : As a0c2) (h_a0c3 : Bl a0c3) (h_a0c3c1 : Ah a0c3c1) (h_a0c3c2 : Ah a0c3c2) (h_a0c3c3 : Ah a0c3c3) (h_a0c3c4 : Ah a0c3c4) (h_a0c4 : AF a0c4) (h_a0c4c1 : Bj a0c4c1) (h_a0c4c2 : Bi a0c4c2) (h_a0c5 : Cf a0c5) (h_a0c6 : Cf a0c6) (h_a1 : In .u16 a1) : Ak (fun r => In .u8 r.1 ∧ C9 r.2.1 ∧ As r.2.2.1 ∧ Bl r.2.2.2.1 ∧ AF r.2.2.2.2.1 ∧ Cf r.2.2.2.2.2.1 ∧ Cf r.2.2.2.2.2.2) (Aw.j1 a0 a0c1 a0c2 a0c3 a0c3c1 a0c3c2 a0c3c3 a0c3c4 a0c4 a0c4c1 a0c4c2 a0c5 a0c6 a1 s674) := by
 unfold Aw.j1
 exact Ak.bif (fun h1 =>
  Ak.bind (L5 h_a0 h_a0c1 h_a0c2 h_a0c3 h_a0c3c1 h_a0c3c2 h_a0c3c3 h_a0c3c4 h_a0c4 h_a0c4c1 h_a0c4c2 h_a0c5 h_a0c6 h_a1) (fun r701 h2 =>
  Ak.mk ⟨h2, ⟨h_a0.GI, h_a0.EH, h_a0.EQ, h2, h_a0.Fp, h_a0.Ba⟩, h_a0c2, h_a0c3, h_a0c4, h_a0c5, h_a0c6⟩)) (fun h1 =>
  Ak.bif (fun h3 =>
   Ak.bind (Qm h_a0c2 (CX _)) (fun r803 h4 =>
   Ak.mk ⟨h4.1, ⟨h_a0.GI, h_a0.EH, h_a0.EQ, h4.1, h_a0.Fp, h_a0.Ba⟩, h4.2, h_a0c3, h_a0c4, h_a0c5, h_a0c6⟩)) (fun h3 =>
   Ak.bif (fun h5 =>
    Ak.bind (P5 h_a0c3 h_a0c3c1 h_a0c3c2 h_a0c3c3 h_a0c3c4) (fun r940 h6 =>
    Ak.mk ⟨(CX _), ⟨h_a0.GI, h_a0.EH, h_a0.EQ, (CX _), h_a0.Fp, h_a0.Ba⟩, h_a0c2, h6.2, h_a0c4, h_a0c5, h_a0c6⟩)) (fun h5 =>
    Ak.bif (fun h7 =>
     Ie h_a0 h_a0c2 h_a0c3 h_a0c4 h_a0c4c1 h_a0c4c2 h_a0c5 h_a0c6 h_a1 (fun _ => by have e0 := DT h_a1; have e1 := of_decide_eq_false h3; have e2 := ne_of_beq_false h5; have e3 := eq_of_beq h7; omega)) (fun h7 =>
     Ie h_a0 h_a0c2 h_a0c3 h_a0c4 h_a0c4c1 h_a0c4c2 h_a0c5 h_a0c6 h_a1 (fun hh => by have e0 := DT h_a1; have e1 := of_decide_eq_false h3; have e2 := ne_of_beq_false h5; have e3 := ne_of_beq_false h7; have e4 := eq_of_beq hh; omega)))))
theorem FE {a0 : A7} {a0c1 : Ag} {a0c2 : Ac} {a0c3 : Al} {a0c3c1 : Aa} {a0c3c2 : Aa} {a0c3c3 : Aa} {a0c3c4 : Aa} {a0c4 : Ai} {a0c4c1 : Am} {a0c4c2 : An} {a0c5 : AL} {a0c6 : AL} {a1 : Int} (h_a0 : C9 a0) (h_a0c1 : De a0c1) (h_a0c2 : As a0c2) (h_a0c3 : Bl a0c3) (h_a0c3c1 : Ah a0c3c1) (h_a0c3c2 : Ah a0c3c2) (h_a0c3c3 : Ah a0c3c3) (h_a0c3c4 : Ah a0c3c4) (h_a0c4 : AF a0c4) (h_a0c4c1 : Bj a0c4c1) (h_a0c4c2 : Bi a0c4c2) (h_a0c5 : Cf a0c5) (h_a0c6 : Cf a0c6) (h_a1 : In .u16 a1) : Ak (fun r => In .u8 r.1 ∧ C9 r.2.1 ∧ As r.2.2.1 ∧ Bl r.2.2.2.1 ∧ AF r.2.2.2.2.1 ∧ Cf r.2.2.2.2.2.1 ∧ Cf r.2.2.2.2.2.2) (Aw.f a0 a0c1 a0c2 a0c3 a0c3c1 a0c3c2 a0c3c3 a0c3c4 a0c4 a0c4c1 a0c4c2 a0c5 a0c6 a1) := by
 unfold Aw.f
 exact Ak.bif (fun h1 =>
  Ic h_a0 h_a0c1 h_a0c2 h_a0c3 h_a0c3c1 h_a0c3c2 h_a0c3c3 h_a0c3c4 h_a0c4 h_a0c4c1 h_a0c4c2 h_a0c5 h_a0c6 h_a1) (fun h1 =>
  Ic h_a0 h_a0c1 h_a0c2 h_a0c3 h_a0c3c1 h_a0c3c2 h_a0c3c3 h_a0c3c4 h_a0c4 h_a0c4c1 h_a0c4c2 h_a0c5 h_a0c6 h_a1)
theorem Jq {a0 : Al} {a0c1 : Aa} {a0c2 : Aa} {a0c3 : Aa} {a0c4 : Aa} (h_a0 : Bl a0) (h_a0c1 : Ah a0c1) (h_a0c2 : Ah a0c2) (h_a0c3 : Ah a0c3) (h_a0c4 : Ah a0c4) : Ak (fun r => Bl r) (Di.f a0 a0c1 a0c2 a0c3 a0c4) := by
 unfold Di.f
 exact Ak.arr (by omega) (by omega) (Ak.arr (by omega) (by omega) (Ak.mk ⟨⟨h_a0.Ae.AM, h_a0.Ae.BM, h_a0.Ae.GB, h_a0.Ae.Bw, h_a0.Ae.FX, h_a0.Ae.A9, (CZ _)⟩, h_a0.C4⟩))
theorem Js {a0 : Al} {a0c1 : Aa} {a0c2 : Aa} {a0c3 : Aa} {a0c4 : Aa} {a1 : Int} {s1229 : Int} (h_a0 : Bl a0) (h_a0c1 : Ah a0c1) (h_a0c2 : Ah a0c2) (h_a0c3 : Ah a0c3) (h_a0c4 : Ah a0c4) (h_a1 : In .u8 a1) (h_s1229 : In .u16 s1229) : Ak (fun r => Bl r) (Ck.j1 a0 a0c1 a0c2 a0c3 a0c4 a1 s1229) := by
 unfold Ck.j1
 exact Ak.bif (fun h1 =>
  Ak.mk ⟨⟨h_a0.Ae.AM, h_a0.Ae.BM, h_a1, h_a0.Ae.Bw, h_a0.Ae.FX, h_a0.Ae.A9, h_s1229⟩, h_a0.C4⟩) (fun h1 =>
  Ak.arr (by have e0 := CS (a0.Ae.D9 - 1); have e1 := of_decide_eq_false h1; omega) (by have e0 := CS (a0.Ae.D9 - 1); have e1 := of_decide_eq_false h1; omega) (Ak.bif (fun h2 =>
   Ak.bind (Jq ⟨⟨h_a0.Ae.AM, h_a0.Ae.BM, h_a1, h_a0.Ae.Bw, h_a0.Ae.FX, h_a0.Ae.A9, h_s1229⟩, h_a0.C4⟩ h_a0c1 h_a0c2 h_a0c3 h_a0c4) (fun r1243 h3 =>
   Ak.mk h3)) (fun h2 =>
   Ak.arr (by have e0 := CS (a0.Ae.D9 - 1); have e1 := of_decide_eq_false h1; have e2 := Cq (CX _ : In .u8 (Bv .u8 (a0.Ae.AM (0 : Int).toNat) 64)); have e3 := BP (a0.Ae.AM (0 : Int).toNat) 64 (by decide); have e4 := Ei h2; omega) (by have e0 := CS (a0.Ae.D9 - 1); have e1 := of_decide_eq_false h1; have e2 := Cq (CX _ : In .u8 (Bv .u8 (a0.Ae.AM (0 : Int).toNat) 64)); have e3 := BP (a0.Ae.AM (0 : Int).toNat) 64 (by decide); have e4 := Ei h2; omega) (Ak.bif (fun h4 =>
    Ak.mk ⟨⟨h_a0.Ae.AM, h_a0.Ae.BM, h_a1, h_a0.Ae.Bw, h_a0.Ae.FX, h_a0.Ae.A9, h_s1229⟩, h_a0.C4⟩) (fun h4 =>
    Ak.mk ⟨⟨h_a0.Ae.AM, h_a0.Ae.BM, h_a1, h_a0.Ae.Bw, h_a0.Ae.FX, h_a0.Ae.A9, h_s1229⟩, h_a0.C4⟩)))))
theorem MP {a0 : Al} {a0c1 : Aa} {a0c2 : Aa} {a0c3 : Aa} {a0c4 : Aa} {a1 : Int} (h_a0 : Bl a0) (h_a0c1 : Ah a0c1) (h_a0c2 : Ah a0c2) (h_a0c3 : Ah a0c3) (h_a0c4 : Ah a0c4) (h_a1 : In .u8 a1) : Ak (fun r => Bl r) (Ck.f a0 a0c1 a0c2 a0c3 a0c4 a1) := by
 unfold Ck.f
 exact Ak.bind (Jz h_a0 h_a0c1 h_a0c2 h_a0c3 h_a0c4) (fun r1225 _ =>
 Ak.bif (fun h2 =>
  Ak.mk h_a0) (fun h2 =>
  Ak.bif (fun h3 =>
   Js h_a0 h_a0c1 h_a0c2 h_a0c3 h_a0c4 h_a1 (B7 rfl rfl)) (fun h3 =>
   Js h_a0 h_a0c1 h_a0c2 h_a0c3 h_a0c4 h_a1 (CZ _))))
theorem Pv {a0 : Al} {a0c1 : Aa} {a0c2 : Aa} {a0c3 : Aa} {a0c4 : Aa} {a1 : Int} (h_a0 : Bl a0) (h_a0c1 : Ah a0c1) (h_a0c2 : Ah a0c2) (h_a0c3 : Ah a0c3) (h_a0c4 : Ah a0c4) (h_a1 : In .u8 a1) : Ak (fun r => Bl r) (F8.f a0 a0c1 a0c2 a0c3 a0c4 a1) := by
 unfold F8.f
 exact Ak.bind (MP h_a0 h_a0c1 h_a0c2 h_a0c3 h_a0c4 h_a1) (fun r1248 h1 =>
 Ak.mk h1)
theorem ET {a0 : A7} {a0c1 : Ag} {a0c2 : Ac} {a0c3 : Al} {a0c3c1 : Aa} {a0c3c2 : Aa} {a0c3c3 : Aa} {a0c3c4 : Aa} {a0c4 : Ai} {a0c4c1 : Am} {a0c4c2 : An} {a0c5 : AL} {a0c6 : AL} {r649 : Int × Bool} {s653 : Int} (h_a0 : C9 a0) (h_a0c1 : De a0c1) (h_a0c2 : As a0c2) (h_a0c3 : Bl a0c3) (h_a0c3c1 : Ah a0c3c1) (h_a0c3c2 : Ah a0c3c2) (h_a0c3c3 : Ah a0c3c3) (h_a0c3c4 : Ah a0c3c4) (h_a0c4 : AF a0c4) (h_a0c4c1 : Bj a0c4c1) (h_a0c4c2 : Bi a0c4c2) (h_a0c5 : Cf a0c5) (h_a0c6 : Cf a0c6) (h_r649_1 : In .u16 r649.1) : Ak (fun r => C9 r.2.1 ∧ As r.2.2.1 ∧ Bl r.2.2.2.1 ∧ AF r.2.2.2.2.1 ∧ Cf r.2.2.2.2.2.1 ∧ Cf r.2.2.2.2.2.2) (Bd.j1 a0 a0c1 a0c2 a0c3 a0c3c1 a0c3c2 a0c3c3 a0c3c4 a0c4 a0c4c1 a0c4c2 a0c5 a0c6 r649 s653) := by
 unfold Bd.j1
 exact Ak.bif (fun h1 =>
  Ak.mk ⟨⟨h_a0.GI, h_a0.EH, h_a0.EQ, h_a0.CV, h_a0.Fp, h_a0.Ba⟩, h_a0c2, h_a0c3, h_a0c4, h_a0c5, h_a0c6⟩) (fun h1 =>
  Ak.bif (fun h2 =>
   Ak.bind (FE ⟨h_a0.GI, h_a0.EH, h_a0.EQ, h_a0.CV, h_a0.Fp, h_a0.Ba⟩ h_a0c1 h_a0c2 h_a0c3 h_a0c3c1 h_a0c3c2 h_a0c3c3 h_a0c3c4 h_a0c4 h_a0c4c1 h_a0c4c2 h_a0c5 h_a0c6 h_r649_1) (fun r1209 h3 =>
   Ak.bind (Pv h3.2.2.2.1 h_a0c3c1 h_a0c3c2 h_a0c3c3 h_a0c3c4 h3.1) (fun r1254 h4 =>
   Ak.mk ⟨h3.2.1, h3.2.2.1, h4, h3.2.2.2.2.1, h3.2.2.2.2.2.1, h3.2.2.2.2.2.2⟩))) (fun h2 =>
   Ak.mk ⟨⟨h_a0.GI, h_a0.EH, h_a0.EQ, h_a0.CV, h_a0.Fp, h_a0.Ba⟩, h_a0c2, h_a0c3, h_a0c4, h_a0c5, h_a0c6⟩))
theorem Le {a0 : A7} {a0c1 : Ag} {a0c2 : Ac} {a0c3 : Al} {a0c3c1 : Aa} {a0c3c2 : Aa} {a0c3c3 : Aa} {a0c3c4 : Aa} {a0c4 : Ai} {a0c4c1 : Am} {a0c4c2 : An} {a0c5 : AL} {a0c6 : AL} (h_a0 : C9 a0) (h_a0c1 : De a0c1) (h_a0c2 : As a0c2) (h_a0c3 : Bl a0c3) (h_a0c3c1 : Ah a0c3c1) (h_a0c3c2 : Ah a0c3c2) (h_a0c3c3 : Ah a0c3c3) (h_a0c3c4 : Ah a0c3c4) (h_a0c4 : AF a0c4) (h_a0c4c1 : Bj a0c4c1) (h_a0c4c2 : Bi a0c4c2) (h_a0c5 : Cf a0c5) (h_a0c6 : Cf a0c6) : Ak (fun r => C9 r.2.1 ∧ As r.2.2.1 ∧ Bl r.2.2.2.1 ∧ AF r.2.2.2.2.1 ∧ Cf r.2.2.2.2.2.1 ∧ Cf r.2.2.2.2.2.2) (Bd.f a0 a0c1 a0c2 a0c3 a0c3c1 a0c3c2 a0c3c3 a0c3c4 a0c4 a0c4c1 a0c4c2 a0c5 a0c6) := by
 unfold Bd.f
 exact Ak.bind (Ps h_a0c3 h_a0c3c1 h_a0c3c2 h_a0c3c3 h_a0c3c4) (fun r649 h1 =>
 Ak.bif (fun h2 =>
  Ak.bif (fun h3 =>
   ET h_a0 h_a0c1 h_a0c2 h_a0c3 h_a0c3c1 h_a0c3c2 h_a0c3c3 h_a0c3c4 h_a0c4 h_a0c4c1 h_a0c4c2 h_a0c5 h_a0c6 h1) (fun h3 =>
   ET h_a0 h_a0c1 h_a0c2 h_a0c3 h_a0c3c1 h_a0c3c2 h_a0c3c3 h_a0c3c4 h_a0c4 h_a0c4c1 h_a0c4c2 h_a0c5 h_a0c6 h1)) (fun h2 =>
  ET h_a0 h_a0c1 h_a0c2 h_a0c3 h_a0c3c1 h_a0c3c2 h_a0c3c3 h_a0c3c4 h_a0c4 h_a0c4c1 h_a0c4c2 h_a0c5 h_a0c6 h1))
theorem Ib {a0 : A7} {a0c1 : Ag} {a0c2 : Ac} {a0c3 : Al} {a0c3c1 : Aa} {a0c3c2 : Aa} {a0c3c3 : Aa} {a0c3c4 : Aa} {a0c4 : Ai} {a0c4c1 : Am} {a0c4c2 : An} {a0c5 : AL} {a0c6 : AL} {a1 : Int} {a2 : Int} (h_a0 : C9 a0) (h_a0c1 : De a0c1) (h_a0c2 : As a0c2) (h_a0c3 : Bl a0c3) (h_a0c3c1 : Ah a0c3c1) (h_a0c3c2 : Ah a0c3c2) (h_a0c3c3 : Ah a0c3c3) (h_a0c3c4 : Ah a0c3c4) (h_a0c4 : AF a0c4) (h_a0c4c1 : Bj a0c4c1) (h_a0c4c2 : Bi a0c4c2) (h_a0c5 : Cf a0c5) (h_a0c6 : Cf a0c6) (h_a1 : In .u16 a1) (h_a2 : In .u8 a2) : Ak (fun r => C9 r) (Ci.f a0 a0c1 a0c2 a0c3 a0c3c1 a0c3c2 a0c3c3 a0c3c4 a0c4 a0c4c1 a0c4c2 a0c5 a0c6 a1 a2) := by
 unfold Ci.f
 exact Ak.bif (fun h1 =>
  Ak.arr (by have e0 := DT h_a1; have e1 := Lm a1 2048 (by decide); have e2 := of_decide_eq_true h1; omega) (by have e0 := DT h_a1; have e1 := Lm a1 2048 (by decide); have e2 := of_decide_eq_true h1; omega) (Ak.mk ⟨(Jc h_a0.GI h_a2), h_a0.EH, h_a0.EQ, h_a0.CV, h_a0.Fp, h_a0.Ba⟩)) (fun h1 =>
  Ak.bif (fun h2 =>
   Ak.bif (fun h3 =>
    Ak.arr (by have e0 := DT h_a1; have e1 := EW (a1 - 24576); have e2 := of_decide_eq_false h1; have e3 := of_decide_eq_true h2; have e4 := of_decide_eq_true h3; omega) (by have e0 := DT h_a1; have e1 := EW (a1 - 24576); have e2 := of_decide_eq_false h1; have e3 := of_decide_eq_true h2; have e4 := of_decide_eq_true h3; omega) (Ak.mk ⟨h_a0.GI, (Jc h_a0.EH h_a2), h_a0.EQ, h_a0.CV, h_a0.Fp, h_a0.Ba⟩)) (fun h3 =>
    Ak.mk h_a0)) (fun h2 =>
   Ak.mk h_a0))
theorem Kr {a0 : Int} {a1 : Int} {a2 : Int} (h_a0 : In .u16 a0) (h_a1 : In .u16 a1) (h_a2 : In .u16 a2) : Ak (fun r => In .u16 r) (I1.f a0 a1 a2) := by
 unfold I1.f
 exact Ak.bnd (fun x1370 e_x1370 =>
  have w_x1370 : In .u16 x1370 := O7 e_x1370 (CZ _);
  Ak.mk w_x1370)
theorem QX {a0 : Bq} {a1 : Int} (h_a0 : Dc a0) (h_a1 : In .u8 a1) : Ak (fun r => Dc r) (JF.f a0 a1) := by
 unfold JF.f
 exact Ak.bind (E7 h_a0) (fun r1366 h1 =>
 Ak.bind (Kr h1.Ir (B7 rfl rfl) (CZ _)) (fun r1371 h2 =>
 Ak.mk ⟨h1.Hw, h2, h1.DF⟩))
theorem Ru {a0 : Bq} {a1 : Int} (h_a0 : Dc a0) (h_a1 : In .u8 a1) : Ak (fun r => Dc r) (Km.f a0 a1) := by
 unfold Km.f
 exact Ak.bind (E7 h_a0) (fun r1384 h1 =>
 Ak.bif (fun h2 =>
  Ak.bind (Kr h1.Ir (B7 rfl rfl) (CZ _)) (fun r1388 h3 =>
  Ak.bind (Kr h3 (B7 rfl rfl) (CZ _)) (fun r1392 h4 =>
  Ak.mk ⟨h1.Hw, h4, h1.DF⟩))) (fun h2 =>
  Ak.bind (Kr h1.Ir (B7 rfl rfl) (VN (CZ _))) (fun r1396 h5 =>
  Ak.mk ⟨h1.Hw, h5, (CX _)⟩)))
theorem QW {a0 : Bq} {a1 : Int} (h_a0 : Dc a0) (h_a1 : In .u8 a1) : Ak (fun r => Dc r) (JE.f a0 a1) := by
 unfold JE.f
 exact Ak.bind (E7 h_a0) (fun r1408 h1 =>
 Ak.bif (fun h2 =>
  Ak.bind (Kr h1.Ir (B7 rfl rfl) (CZ _)) (fun r1412 h3 =>
  Ak.mk ⟨h3, h3, h1.DF⟩)) (fun h2 =>
  Ak.bind (Kr h1.Ir (B7 rfl rfl) (CZ _)) (fun r1416 h4 =>
  Ak.mk ⟨h1.Hw, h4, h1.DF⟩)))
theorem PW {a0 : Ac} {a1 : Int} {a2 : Int} (h_a0 : As a0) (h_a1 : In .u16 a1) (h_a2 : In .u8 a2) : Ak (fun r => As r) (F9.f a0 a1 a2) := by
 unfold F9.f
 exact Ak.bif (fun h1 =>
  Ak.bif (fun h2 =>
   Ak.arr (by have e0 := DT (CZ _ : In .u16 (Bv .u16 a1 16383)); have e1 := E6 a1 16383 (by decide); have e2 := of_decide_eq_true h1; have e3 := of_decide_eq_true h2; omega) (by have e0 := DT (CZ _ : In .u16 (Bv .u16 a1 16383)); have e1 := E6 a1 16383 (by decide); have e2 := of_decide_eq_true h1; have e3 := of_decide_eq_true h2; omega) (Ak.mk ⟨(Jc h_a0.BK (CX _)), h_a0.BU, h_a0.Bu, h_a0.Cn, h_a0.Df, h_a0.AY, h_a0.Aq, h_a0.Cg, h_a0.BZ, h_a0.AV, h_a0.CV, h_a0.Av, h_a0.Ca, h_a0.AP, h_a0.BF, h_a0.x1⟩)) (fun h2 =>
   Ak.bif (fun h3 =>
    Ak.bind (Ns (CZ _)) (fun r1426 h4 =>
    Ak.arr (by have e0 := Cu h4; have e1 := DT (CZ _ : In .u16 (Bv .u16 a1 16383)); have e2 := E6 a1 16383 (by decide); have e3 := of_decide_eq_true h1; have e4 := of_decide_eq_false h2; have e5 := of_decide_eq_true h3; omega) (by have e0 := Cu h4; have e1 := DT (CZ _ : In .u16 (Bv .u16 a1 16383)); have e2 := E6 a1 16383 (by decide); have e3 := of_decide_eq_true h1; have e4 := of_decide_eq_false h2; have e5 := of_decide_eq_true h3; omega) (Ak.mk ⟨h_a0.BK, (Jc h_a0.BU (CX _)), h_a0.Bu, h_a0.Cn, h_a0.Df, h_a0.AY, h_a0.Aq, h_a0.Cg, h_a0.BZ, h_a0.AV, h_a0.CV, h_a0.Av, h_a0.Ca, h_a0.AP, h_a0.BF, h_a0.x1⟩))) (fun h3 =>
    Ak.bind (OL (CZ _)) (fun r1439 h5 =>
    Ak.arr (by have e0 := Cu h5; have e1 := DT (CZ _ : In .u16 (Bv .u16 a1 16383)); have e2 := E6 a1 16383 (by decide); have e3 := of_decide_eq_true h1; have e4 := of_decide_eq_false h2; have e5 := of_decide_eq_false h3; omega) (by have e0 := Cu h5; have e1 := DT (CZ _ : In .u16 (Bv .u16 a1 16383)); have e2 := E6 a1 16383 (by decide); have e3 := of_decide_eq_true h1; have e4 := of_decide_eq_false h2; have e5 := of_decide_eq_false h3; omega) (Ak.mk ⟨h_a0.BK, h_a0.BU, (Jc h_a0.Bu (CX _)), h_a0.Cn, h_a0.Df, h_a0.AY, h_a0.Aq, h_a0.Cg, h_a0.BZ, h_a0.AV, h_a0.CV, h_a0.Av, h_a0.Ca, h_a0.AP, h_a0.BF, h_a0.x1⟩))))) (fun h1 =>
  Ak.bif (fun h6 =>
   Ak.arr (by have e0 := DT (CZ _ : In .u16 (Bv .u16 a1 16383)); have e1 := E6 a1 16383 (by decide); have e2 := of_decide_eq_false h1; have e3 := of_decide_eq_true h6; omega) (by have e0 := DT (CZ _ : In .u16 (Bv .u16 a1 16383)); have e1 := E6 a1 16383 (by decide); have e2 := of_decide_eq_false h1; have e3 := of_decide_eq_true h6; omega) (Ak.mk ⟨(Jc h_a0.BK h_a2), h_a0.BU, h_a0.Bu, h_a0.Cn, h_a0.Df, h_a0.AY, h_a0.Aq, h_a0.Cg, h_a0.BZ, h_a0.AV, h_a0.CV, h_a0.Av, h_a0.Ca, h_a0.AP, h_a0.BF, h_a0.x1⟩)) (fun h6 =>
   Ak.bif (fun h7 =>
    Ak.bind (Ns (CZ _)) (fun r1453 h8 =>
    Ak.arr (by have e0 := Cu h8; have e1 := DT (CZ _ : In .u16 (Bv .u16 a1 16383)); have e2 := E6 a1 16383 (by decide); have e3 := of_decide_eq_false h1; have e4 := of_decide_eq_false h6; have e5 := of_decide_eq_true h7; omega) (by have e0 := Cu h8; have e1 := DT (CZ _ : In .u16 (Bv .u16 a1 16383)); have e2 := E6 a1 16383 (by decide); have e3 := of_decide_eq_false h1; have e4 := of_decide_eq_false h6; have e5 := of_decide_eq_true h7; omega) (Ak.mk ⟨h_a0.BK, (Jc h_a0.BU h_a2), h_a0.Bu, h_a0.Cn, h_a0.Df, h_a0.AY, h_a0.Aq, h_a0.Cg, h_a0.BZ, h_a0.AV, h_a0.CV, h_a0.Av, h_a0.Ca, h_a0.AP, h_a0.BF, h_a0.x1⟩))) (fun h7 =>
    Ak.bind (OL (CZ _)) (fun r1466 h9 =>
    Ak.arr (by have e0 := Cu h9; have e1 := DT (CZ _ : In .u16 (Bv .u16 a1 16383)); have e2 := E6 a1 16383 (by decide); have e3 := of_decide_eq_false h1; have e4 := of_decide_eq_false h6; have e5 := of_decide_eq_false h7; omega) (by have e0 := Cu h9; have e1 := DT (CZ _ : In .u16 (Bv .u16 a1 16383)); have e2 := E6 a1 16383 (by decide); have e3 := of_decide_eq_false h1; have e4 := of_decide_eq_false h6; have e5 := of_decide_eq_false h7; omega) (Ak.mk ⟨h_a0.BK, h_a0.BU, (Jc h_a0.Bu h_a2), h_a0.Cn, h_a0.Df, h_a0.AY, h_a0.Aq, h_a0.Cg, h_a0.BZ, h_a0.AV, h_a0.CV, h_a0.Av, h_a0.Ca, h_a0.AP, h_a0.BF, h_a0.x1⟩)))))
theorem Qn {a0 : Ac} {a1 : Int} {a2 : Int} (h_a0 : As a0) (h_a1 : In .u8 a1) (h_a2 : In .u8 a2) : Ak (fun r => As r) (FU.f a0 a1 a2) := by
 unfold FU.f
 exact Ak.bif (fun h1 =>
  Ak.bind (QX h_a0.AY h_a2) (fun r1375 h2 =>
  Ak.mk ⟨h_a0.BK, h_a0.BU, h_a0.Bu, h_a0.Cn, h_a0.Df, h2, h_a2, h_a0.Cg, h_a0.BZ, h_a0.AV, h_a2, h_a0.Av, h_a0.Ca, h_a0.AP, h_a0.BF, h_a0.x1⟩)) (fun h1 =>
  Ak.bif (fun h3 =>
   Ak.mk ⟨h_a0.BK, h_a0.BU, h_a0.Bu, h_a0.Cn, h_a0.Df, h_a0.AY, h_a0.Aq, h_a2, h_a0.BZ, h_a0.AV, h_a2, h_a0.Av, h_a0.Ca, h_a0.AP, h_a0.BF, h_a0.x1⟩) (fun h3 =>
   Ak.bif (fun h4 =>
    Ak.mk ⟨h_a0.BK, h_a0.BU, h_a0.Bu, h_a0.Cn, h_a2, h_a0.AY, h_a0.Aq, h_a0.Cg, h_a0.BZ, h_a0.AV, h_a2, h_a0.Av, h_a0.Ca, h_a0.AP, h_a0.BF, h_a0.x1⟩) (fun h4 =>
    Ak.bif (fun h5 =>
     Ak.arr (by have e0 := Cq h_a0.Df; have e1 := Cq h_a1; have e2 := Lm a1 8 (by decide); have e3 := ne_of_beq_false h1; have e4 := ne_of_beq_false h3; have e5 := ne_of_beq_false h4; have e6 := eq_of_beq h5; omega) (by have e0 := Cq h_a0.Df; have e1 := Cq h_a1; have e2 := Lm a1 8 (by decide); have e3 := ne_of_beq_false h1; have e4 := ne_of_beq_false h3; have e5 := ne_of_beq_false h4; have e6 := eq_of_beq h5; omega) (Ak.mk ⟨h_a0.BK, h_a0.BU, h_a0.Bu, (Jc h_a0.Cn h_a2), (CX _), h_a0.AY, h_a0.Aq, h_a0.Cg, h_a0.BZ, h_a0.AV, h_a2, h_a0.Av, h_a0.Ca, h_a0.AP, h_a0.BF, h_a0.x1⟩)) (fun h5 =>
     Ak.bif (fun h6 =>
      Ak.bind (Ru h_a0.AY h_a2) (fun r1400 h7 =>
      Ak.mk ⟨h_a0.BK, h_a0.BU, h_a0.Bu, h_a0.Cn, h_a0.Df, h7, h_a0.Aq, h_a0.Cg, h_a0.BZ, h_a0.AV, h_a2, h_a0.Av, h_a0.Ca, h_a0.AP, h_a0.BF, h_a0.x1⟩)) (fun h6 =>
      Ak.bif (fun h8 =>
       Ak.bind (QW h_a0.AY h_a2) (fun r1420 h9 =>
       Ak.mk ⟨h_a0.BK, h_a0.BU, h_a0.Bu, h_a0.Cn, h_a0.Df, h9, h_a0.Aq, h_a0.Cg, h_a0.BZ, h_a0.AV, h_a2, h_a0.Av, h_a0.Ca, h_a0.AP, h_a0.BF, h_a0.x1⟩)) (fun h8 =>
       Ak.bif (fun h10 =>
        Ak.bind (PW ⟨h_a0.BK, h_a0.BU, h_a0.Bu, h_a0.Cn, h_a0.Df, h_a0.AY, h_a0.Aq, h_a0.Cg, h_a0.BZ, h_a0.AV, h_a2, h_a0.Av, h_a0.Ca, h_a0.AP, h_a0.BF, h_a0.x1⟩ h_a0.AY.Hw h_a2) (fun r1479 h11 =>
        Ak.bind (Pe h11.AY) (fun r1485 h12 =>
        Ak.mk ⟨h11.BK, h11.BU, h11.Bu, h11.Cn, h11.Df, h12, h11.Aq, h11.Cg, h11.BZ, h11.AV, h11.CV, h11.Av, h11.Ca, h11.AP, h11.BF, h11.x1⟩))) (fun h10 =>
        Ak.mk ⟨h_a0.BK, h_a0.BU, h_a0.Bu, h_a0.Cn, h_a0.Df, h_a0.AY, h_a0.Aq, h_a0.Cg, h_a0.BZ, h_a0.AV, h_a2, h_a0.Av, h_a0.Ca, h_a0.AP, h_a0.BF, h_a0.x1⟩)))))))
theorem PU {a0 : Aa} {a1 : Int} {s1538 : Int} (h_a0 : Ah a0) (h_a1 : In .u8 a1) (h_s1538 : In .u8 s1538) : Ak (fun r => Ah r) (Hu.j1 a0 a1 s1538) := by
 unfold Hu.j1
 exact Ak.bif (fun h1 =>
  Ak.bif (fun h2 =>
   Ak.mk ⟨h_a0.CY, h_a0.AM, h_s1538, (CZ _), h_a0.A9, (B7 rfl rfl), h_a0.BM, h_a0.BN, h_a0.Dk, h_a0.Av, h_a0.Bw⟩) (fun h2 =>
   Ak.mk ⟨h_a0.CY, h_a0.AM, h_s1538, (CZ _), h_a0.A9, h_a0.Ev, h_a0.BM, h_a0.BN, h_a0.Dk, h_a0.Av, h_a0.Bw⟩)) (fun h1 =>
  Ak.bif (fun h3 =>
   Ak.mk ⟨h_a0.CY, h_a0.AM, h_s1538, h_a0.Cb, h_a0.A9, (B7 rfl rfl), h_a0.BM, h_a0.BN, h_a0.Dk, h_a0.Av, h_a0.Bw⟩) (fun h3 =>
   Ak.mk ⟨h_a0.CY, h_a0.AM, h_s1538, h_a0.Cb, h_a0.A9, h_a0.Ev, h_a0.BM, h_a0.BN, h_a0.Dk, h_a0.Av, h_a0.Bw⟩))
theorem Ta {a0 : Aa} {a1 : Int} (h_a0 : Ah a0) (h_a1 : In .u8 a1) : Ak (fun r => Ah r) (Hu.f a0 a1) := by
 unfold Hu.f
 exact Ak.bif (fun h1 =>
  Ak.bind (Ak.IE (Q := In .u8) (n := 32) (by have e0 := Cq h_a1; have e1 := SA .u8 a1 3; have e2 := SB .u8 a1 3 8 rfl; omega) (by have e0 := Cq h_a1; have e1 := SA .u8 a1 3; have e2 := SB .u8 a1 3 8 rfl; omega) rfl (XP rfl)) (fun z1539 h2 =>
  PU h_a0 h_a1 h2)) (fun h1 =>
  PU h_a0 h_a1 h_a0.CP)
theorem Qo {a0 : Aa} {a1 : Int} {a2 : Int} {s1526 : Bool} (h_a0 : Ah a0) (h_a1 : In .u8 a1) (h_a2 : In .u8 a2) : Ak (fun r => Ah r) (Em.j2 a0 a1 a2 s1526) := by
 unfold Em.j2
 exact Ak.bif (fun h1 =>
  Ak.bind (Ak.IE (Q := In .u16) (n := 16) (by have e0 := Cq (CX _ : In .u8 (Bv .u8 a2 15)); have e1 := BP a2 15 (by decide); omega) (by have e0 := Cq (CX _ : In .u8 (Bv .u8 a2 15)); have e1 := BP a2 15 (by decide); omega) rfl (XP rfl)) (fun z1533 h2 =>
  Ak.mk ⟨h_a0.CY, (Jc h_a0.AM h_a2), h_a0.CP, (CZ _), h_a0.A9, h_a0.Ev, h_a0.BM, h_a0.BN, h_a0.Dk, h_a0.Av, h_a0.Bw⟩)) (fun h1 =>
  Ak.bif (fun h3 =>
   Ak.mk ⟨h_a0.CY, (Jc h_a0.AM h_a2), h_a0.CP, (CZ _), h_a0.A9, h_a0.Ev, h_a0.BM, h_a0.BN, h_a0.Dk, h_a0.Av, h_a0.Bw⟩) (fun h3 =>
   Ak.bif (fun h4 =>
    Ak.bind (Ta ⟨h_a0.CY, (Jc h_a0.AM h_a2), h_a0.CP, h_a0.Cb, h_a0.A9, h_a0.Ev, h_a0.BM, h_a0.BN, h_a0.Dk, h_a0.Av, h_a0.Bw⟩ h_a2) (fun r1548 h5 =>
    Ak.mk h5)) (fun h4 =>
    Ak.mk ⟨h_a0.CY, (Jc h_a0.AM h_a2), h_a0.CP, h_a0.Cb, h_a0.A9, h_a0.Ev, h_a0.BM, h_a0.BN, h_a0.Dk, h_a0.Av, h_a0.Bw⟩)))
theorem SY {a0 : Aa} {a1 : Int} {a2 : Int} {s1519 : Unit} (h_a0 : Ah a0) (h_a1 : Bt 0 3 a1) (h_a2 : In .u8 a2) : Ak (fun r => Ah r) (Em.j1 a0 a1 a2 s1519) := by
 unfold Em.j1
 exact Ak.arr (by have e0 := Cu h_a1; omega) (by have e0 := Cu h_a1; omega) (Ak.bif (fun h1 =>
  Ak.mk ⟨h_a0.CY, (Jc h_a0.AM h_a2), h_a0.CP, h_a0.Cb, h_a0.A9, h_a0.Ev, h_a0.BM, h_a0.BN, h_a0.Dk, h_a0.Av, h_a0.Bw⟩) (fun h1 =>
  Ak.bif (fun h2 =>
   Qo h_a0 (Za h_a1 rfl rfl) h_a2) (fun h2 =>
   Qo h_a0 (Za h_a1 rfl rfl) h_a2)))
theorem MU {a0 : Aa} {a1 : Int} {a2 : Int} (h_a0 : Ah a0) (h_a1 : In .u8 a1) (h_a2 : In .u8 a2) : Ak (fun r => Ah r) (Em.f a0 a1 a2) := by
 unfold Em.f
 exact Ak.bif (fun h1 =>
  Ak.mk h_a0) (fun h1 =>
  SY h_a0 (EY (x := a1) (by have e0 := Cq h_a1; have e1 := CS a1; have e2 := of_decide_eq_false h1; omega)) h_a2)
theorem Nf {a0 : Al} {a0c1 : Aa} {a0c2 : Aa} {a0c3 : Aa} {a0c4 : Aa} {a1 : Int} {a2 : Int} (h_a0 : Bl a0) (h_a0c1 : Ah a0c1) (h_a0c2 : Ah a0c2) (h_a0c3 : Ah a0c3) (h_a0c4 : Ah a0c4) (h_a1 : Bt 0 3 a1) (h_a2 : In .u8 a2) : Ak (fun r => Bl r) (Ey.f a0 a0c1 a0c2 a0c3 a0c4 a1 a2) := by
 unfold Ey.f
 exact Ak.arr (by have e0 := Cu h_a1; omega) (by have e0 := Cu h_a1; omega) (Ak.bif (fun h1 =>
  Ak.bif (fun h2 =>
   Ak.mk ⟨⟨(Jc h_a0.Ae.AM h_a2), h_a0.Ae.BM, h_a0.Ae.GB, h_a0.Ae.Bw, h_a0.Ae.FX, h_a0.Ae.A9, h_a0.Ae.BD⟩, h_a0.C4⟩) (fun h2 =>
   Ak.mk ⟨⟨(Jc h_a0.Ae.AM h_a2), h_a0.Ae.BM, h_a0.Ae.GB, h_a0.Ae.Bw, h_a0.Ae.FX, h_a0.Ae.A9, h_a0.Ae.BD⟩, h_a0.C4⟩)) (fun h1 =>
  Ak.bif (fun h3 =>
   Ak.mk ⟨⟨(Jc h_a0.Ae.AM h_a2), (CX _), h_a0.Ae.GB, h_a0.Ae.Bw, h_a0.Ae.FX, h_a0.Ae.A9, h_a0.Ae.BD⟩, h_a0.C4⟩) (fun h3 =>
   Ak.mk ⟨⟨(Jc h_a0.Ae.AM h_a2), h_a0.Ae.BM, h_a0.Ae.GB, h_a0.Ae.Bw, h_a0.Ae.FX, h_a0.Ae.A9, h_a0.Ae.BD⟩, h_a0.C4⟩)))
theorem L9 {a0 : Aa} {a1 : Bool} (h_a0 : Ah a0) : Ak (fun r => Ah r) (Gl.f a0 a1) := by
 unfold Gl.f
 exact Ak.bif (fun h1 =>
  Ak.mk ⟨h_a0.CY, h_a0.AM, (B7 rfl rfl), h_a0.Cb, h_a0.A9, h_a0.Ev, h_a0.BM, h_a0.BN, h_a0.Dk, h_a0.Av, h_a0.Bw⟩) (fun h1 =>
  Ak.mk ⟨h_a0.CY, h_a0.AM, h_a0.CP, h_a0.Cb, h_a0.A9, h_a0.Ev, h_a0.BM, h_a0.BN, h_a0.Dk, h_a0.Av, h_a0.Bw⟩)
theorem MC {a0 : Al} {a0c1 : Aa} {a0c2 : Aa} {a0c3 : Aa} {a0c4 : Aa} {a1 : Bool} (h_a0 : Bl a0) (h_a0c1 : Ah a0c1) (h_a0c2 : Ah a0c2) (h_a0c3 : Ah a0c3) (h_a0c4 : Ah a0c4) : Ak (fun r => Bl r) (Ee.f a0 a0c1 a0c2 a0c3 a0c4 a1) := by
 unfold Ee.f
 exact Ak.bif (fun h1 =>
  Ak.mk ⟨⟨h_a0.Ae.AM, h_a0.Ae.BM, h_a0.Ae.GB, h_a0.Ae.Bw, h_a0.Ae.FX, h_a0.Ae.A9, h_a0.Ae.BD⟩, h_a0.C4⟩) (fun h1 =>
  Ak.bif (fun h2 =>
   Ak.bind (Jq ⟨⟨h_a0.Ae.AM, h_a0.Ae.BM, h_a0.Ae.GB, h_a0.Ae.Bw, h_a0.Ae.FX, h_a0.Ae.A9, h_a0.Ae.BD⟩, h_a0.C4⟩ h_a0c1 h_a0c2 h_a0c3 h_a0c4) (fun r1614 h3 =>
   Ak.mk h3)) (fun h2 =>
   Ak.mk ⟨⟨h_a0.Ae.AM, h_a0.Ae.BM, h_a0.Ae.GB, h_a0.Ae.Bw, h_a0.Ae.FX, h_a0.Ae.A9, h_a0.Ae.BD⟩, h_a0.C4⟩))
theorem MH {a0 : Aa} {s1629 : Int} (h_a0 : Ah a0) (h_s1629 : In .u8 s1629) : Ak (fun r => Ah r) (Cc.j1 a0 s1629) := by
 unfold Cc.j1
 exact Ak.bif (fun h1 =>
  Ak.arr (by omega) (by omega) (Ak.mk ⟨h_a0.CY, h_a0.AM, h_a0.CP, h_a0.Cb, h_a0.A9, h_a0.Ev, h_a0.BM, h_a0.BN, h_a0.Dk, h_s1629, h_a0.Bw⟩)) (fun h1 =>
  Ak.mk ⟨h_a0.CY, h_a0.AM, h_a0.CP, h_a0.Cb, h_a0.A9, h_a0.Ev, h_a0.BM, h_a0.BN, h_a0.Dk, h_s1629, h_a0.Bw⟩)
theorem Ef {a0 : Aa} (h_a0 : Ah a0) : Ak (fun r => Ah r) (Cc.f a0) := by
 unfold Cc.f
 exact Ak.bif (fun h1 =>
  Ak.bif (fun h2 =>
   Ak.arr (by have e0 := Cq h_a0.CY; have e1 := eq_of_beq h1; omega) (by have e0 := Cq h_a0.CY; have e1 := eq_of_beq h1; omega) (MH h_a0 (CX _))) (fun h2 =>
   Ak.bif (fun h3 =>
    MH h_a0 (CX _)) (fun h3 =>
    MH h_a0 h_a0.Av))) (fun h1 =>
  Ak.arr (by have e0 := Cq h_a0.CY; have e1 := ne_of_beq_false h1; omega) (by have e0 := Cq h_a0.CY; have e1 := ne_of_beq_false h1; omega) (Ak.bif (fun h4 =>
   Ak.mk ⟨h_a0.CY, h_a0.AM, h_a0.CP, h_a0.Cb, h_a0.A9, h_a0.Ev, (B7 rfl rfl), (CX _), h_a0.Dk, h_a0.Av, h_a0.Bw⟩) (fun h4 =>
   Ak.bif (fun h5 =>
    Ak.mk ⟨h_a0.CY, h_a0.AM, h_a0.CP, h_a0.Cb, h_a0.A9, h_a0.Ev, h_a0.BM, (CX _), h_a0.Dk, h_a0.Av, h_a0.Bw⟩) (fun h5 =>
    Ak.bif (fun h6 =>
     Ak.mk ⟨h_a0.CY, h_a0.AM, h_a0.CP, h_a0.Cb, h_a0.A9, h_a0.Ev, (CX _), (CX _), h_a0.Dk, h_a0.Av, h_a0.Bw⟩) (fun h6 =>
     Ak.arr (by have e0 := Cq h_a0.CY; have e1 := ne_of_beq_false h1; have e2 := Cq h_a0.BN; have e3 := of_decide_eq_false h5; have e4 := Cq h_a0.BM; have e5 := of_decide_eq_false h6; omega) (by have e0 := Cq h_a0.CY; have e1 := ne_of_beq_false h1; have e2 := Cq h_a0.BN; have e3 := of_decide_eq_false h5; have e4 := Cq h_a0.BM; have e5 := of_decide_eq_false h6; omega) (Ak.bif (fun h7 =>
      Ak.mk ⟨h_a0.CY, h_a0.AM, h_a0.CP, h_a0.Cb, h_a0.A9, h_a0.Ev, (B7 rfl rfl), (CX _), h_a0.Dk, h_a0.Av, h_a0.Bw⟩) (fun h7 =>
      Ak.mk ⟨h_a0.CY, h_a0.AM, h_a0.CP, h_a0.Cb, h_a0.A9, h_a0.Ev, h_a0.BM, (CX _), h_a0.Dk, h_a0.Av, h_a0.Bw⟩)))))))
theorem P9 {a0 : Aa} (h_a0 : Ah a0) : Ak (fun r => In .u16 r) (JG.f a0) := by
 unfold JG.f
 exact Ak.arr (by omega) (by omega) (Ak.neg (by have e0 := Cq (CX _ : In .u8 (Bv .u8 (a0.AM (1 : Int).toNat) 7)); have e1 := BP (a0.AM (1 : Int).toNat) 7 (by decide); omega) (Ak.arr (by omega) (by omega) (Ak.bif (fun h1 =>
  Ak.bnd (fun x1690 e_x1690 =>
   have w_x1690 : In .u16 x1690 := O7 e_x1690 (CZ _);
   Ak.mk w_x1690)) (fun h1 =>
  Ak.bif (fun h2 =>
   Ak.bnd (fun x1691 e_x1691 =>
    have w_x1691 : In .u16 x1691 := O7 e_x1691 (CZ _);
    Ak.mk (CZ _))) (fun h2 =>
   Ak.mk (CZ _))))))
theorem Tc {a0 : Aa} (h_a0 : Ah a0) : Ak (fun _ => True) (Ng.f a0) := by
 unfold Ng.f
 exact Ak.bif (fun h1 =>
  Ak.mk trivial) (fun h1 =>
  Ak.bind (P9 h_a0) (fun r1692 h2 =>
  Ak.mk trivial))
theorem PT {a0 : Aa} {s1671 : Int} {s1680 : Int} {s1709 : Bool} (h_a0 : Ah a0) (h_s1671 : In .u8 s1671) (h_s1680 : In .u16 s1680) : Ak (fun r => Ah r) (B8.j4 a0 s1671 s1680 s1709) := by
 unfold B8.j4
 exact Ak.bif (fun h1 =>
  Ak.mk ⟨h_a0.CY, h_a0.AM, h_s1671, h_s1680, h_a0.A9, h_a0.Ev, h_a0.BM, h_a0.BN, (CX _), h_a0.Av, h_a0.Bw⟩) (fun h1 =>
  Ak.mk ⟨h_a0.CY, h_a0.AM, h_s1671, h_s1680, h_a0.A9, h_a0.Ev, h_a0.BM, h_a0.BN, (CX _), h_a0.Av, h_a0.Bw⟩)
theorem K6 {a0 : Aa} {s1671 : Int} {s1680 : Int} (h_a0 : Ah a0) (h_s1671 : In .u8 s1671) (h_s1680 : In .u16 s1680) : Ak (fun r => Ah r) (B8.j3 a0 s1671 s1680) := by
 unfold B8.j3
 exact Ak.bif (fun h1 =>
  PT h_a0 h_s1671 h_s1680) (fun h1 =>
  PT h_a0 h_s1671 h_s1680)
theorem NC {a0 : Aa} {s1671 : Int} (h_a0 : Ah a0) (h_s1671 : In .u8 s1671) : Ak (fun r => Ah r) (B8.j2 a0 s1671) := by
 unfold B8.j2
 exact Ak.bif (fun h1 =>
  Ak.mk ⟨h_a0.CY, h_a0.AM, h_s1671, h_a0.Cb, h_a0.A9, h_a0.Ev, h_a0.BM, h_a0.BN, h_a0.Dk, h_a0.Av, h_a0.Bw⟩) (fun h1 =>
  Ak.arr (by have e0 := Cq h_a0.CY; have e1 := of_decide_eq_false h1; omega) (by have e0 := Cq h_a0.CY; have e1 := of_decide_eq_false h1; omega) (Ak.bif (fun h2 =>
   Ak.bif (fun h3 =>
    Ak.bif (fun h4 =>
     Ak.bind (Tc ⟨h_a0.CY, h_a0.AM, h_s1671, h_a0.Cb, h_a0.A9, h_a0.Ev, h_a0.BM, h_a0.BN, h_a0.Dk, h_a0.Av, h_a0.Bw⟩) (fun r1696 _ =>
     Ak.bif (fun h6 =>
      Ak.bind (P9 ⟨h_a0.CY, h_a0.AM, h_s1671, h_a0.Cb, h_a0.A9, h_a0.Ev, h_a0.BM, h_a0.BN, h_a0.Dk, h_a0.Av, h_a0.Bw⟩) (fun r1700 h7 =>
      K6 h_a0 h_s1671 h7)) (fun h6 =>
      K6 h_a0 h_s1671 h_a0.Cb))) (fun h4 =>
     K6 h_a0 h_s1671 h_a0.Cb)) (fun h3 =>
    K6 h_a0 h_s1671 h_a0.Cb)) (fun h2 =>
   K6 h_a0 h_s1671 h_a0.Cb)))
theorem PS {a0 : Aa} {s1665 : Int} (h_a0 : Ah a0) (h_s1665 : In .u8 s1665) : Ak (fun r => Ah r) (B8.j1 a0 s1665) := by
 unfold B8.j1
 exact Ak.bif (fun h1 =>
  Ak.arr (by have e0 := Cq h_a0.CP; have e1 := of_decide_eq_true h1; omega) (by have e0 := Cq h_a0.CP; have e1 := of_decide_eq_true h1; omega) (Ak.bif (fun h2 =>
   NC h_a0 (CX _)) (fun h2 =>
   NC h_a0 h_a0.CP))) (fun h1 =>
  NC h_a0 h_a0.CP)
theorem EC {a0 : Aa} (h_a0 : Ah a0) : Ak (fun r => Ah r) (B8.f a0) := by
 unfold B8.f
 exact Ak.bif (fun h1 =>
  PS h_a0 (B7 rfl rfl)) (fun h1 =>
  PS h_a0 (B7 rfl rfl))
theorem Ox {a0 : Al} {a0c1 : Aa} {a0c2 : Aa} {a0c3 : Aa} {a0c4 : Aa} {a1 : Int} (h_a0 : Bl a0) (h_a0c1 : Ah a0c1) (h_a0c2 : Ah a0c2) (h_a0c3 : Ah a0c3) (h_a0c4 : Ah a0c4) (h_a1 : In .u8 a1) : Ak (fun r => Bl r.1 ∧ Ah r.2.1 ∧ Ah r.2.2.1 ∧ Ah r.2.2.2.1 ∧ Ah r.2.2.2.2) (FH.f a0 a0c1 a0c2 a0c3 a0c4 a1) := by
 unfold FH.f
 exact Ak.bif (fun h1 =>
  Ak.bif (fun h2 =>
   Ak.bind (Ef h_a0c1) (fun r1640 h3 =>
   Ak.bind (Ef h_a0c2) (fun r1646 h4 =>
   Ak.bind (Ef h_a0c3) (fun r1652 h5 =>
   Ak.bind (Ef h_a0c4) (fun r1658 h6 =>
   Ak.bind (EC h3) (fun r1716 h7 =>
   Ak.bind (EC h4) (fun r1722 h8 =>
   Ak.bind (EC h5) (fun r1728 h9 =>
   Ak.bind (EC h6) (fun r1734 h10 =>
   Ak.mk ⟨⟨h_a0.Ae, (EY (x := 1) (by have e0 := Cq (CX _ : In .u8 (Bv .u8 a1 128)); have e1 := BP a1 128 (by decide); have e2 := F3 h2; omega))⟩, h7, h8, h9, h10⟩))))))))) (fun h2 =>
   Ak.mk ⟨⟨h_a0.Ae, (EY (x := 0) (by have e0 := Cq (CX _ : In .u8 (Bv .u8 a1 128)); have e1 := BP a1 128 (by decide); have e2 := Ei h2; omega))⟩, h_a0c1, h_a0c2, h_a0c3, h_a0c4⟩)) (fun h1 =>
  Ak.bif (fun h11 =>
   Ak.bind (Ef h_a0c1) (fun r1740 h12 =>
   Ak.bind (Ef h_a0c2) (fun r1746 h13 =>
   Ak.bind (Ef h_a0c3) (fun r1752 h14 =>
   Ak.bind (Ef h_a0c4) (fun r1758 h15 =>
   Ak.bind (EC h12) (fun r1764 h16 =>
   Ak.bind (EC h13) (fun r1770 h17 =>
   Ak.bind (EC h14) (fun r1776 h18 =>
   Ak.bind (EC h15) (fun r1782 h19 =>
   Ak.mk ⟨⟨h_a0.Ae, (EY (x := 1) (by have e0 := Cq (CX _ : In .u8 (Bv .u8 a1 128)); have e1 := BP a1 128 (by decide); have e2 := F3 h11; omega))⟩, h16, h17, h18, h19⟩))))))))) (fun h11 =>
   Ak.mk ⟨⟨h_a0.Ae, (EY (x := 0) (by have e0 := Cq (CX _ : In .u8 (Bv .u8 a1 128)); have e1 := BP a1 128 (by decide); have e2 := Ei h11; omega))⟩, h_a0c1, h_a0c2, h_a0c3, h_a0c4⟩))
theorem P7 {a0 : Al} {a0c1 : Aa} {a0c2 : Aa} {a0c3 : Aa} {a0c4 : Aa} {a1 : Int} {a2 : Int} (h_a0 : Bl a0) (h_a0c1 : Ah a0c1) (h_a0c2 : Ah a0c2) (h_a0c3 : Ah a0c3) (h_a0c4 : Ah a0c4) (h_a1 : In .u16 a1) (h_a2 : In .u8 a2) : Ak (fun r => Bl r.1 ∧ Ah r.2.1 ∧ Ah r.2.2.1 ∧ Ah r.2.2.2.1 ∧ Ah r.2.2.2.2) (GJ.f a0 a0c1 a0c2 a0c3 a0c4 a1 a2) := by
 unfold GJ.f
 exact Ak.bif (fun h1 =>
  Ak.mk ⟨h_a0, h_a0c1, h_a0c2, h_a0c3, h_a0c4⟩) (fun h1 =>
  Ak.bif (fun h2 =>
   Ak.mk ⟨h_a0, h_a0c1, h_a0c2, h_a0c3, h_a0c4⟩) (fun h2 =>
   Ak.bif (fun h3 =>
    Ak.bif (fun h4 =>
     Ak.bind (MU h_a0c1 (CX _) h_a2) (fun r1554 h5 =>
     Ak.mk ⟨h_a0, h5, h_a0c2, h_a0c3, h_a0c4⟩)) (fun h4 =>
     Ak.bif (fun h6 =>
      Ak.bind (MU h_a0c2 (CX _) h_a2) (fun r1561 h7 =>
      Ak.mk ⟨h_a0, h_a0c1, h7, h_a0c3, h_a0c4⟩)) (fun h6 =>
      Ak.bif (fun h8 =>
       Ak.bind (MU h_a0c3 (CX _) h_a2) (fun r1568 h9 =>
       Ak.mk ⟨h_a0, h_a0c1, h_a0c2, h9, h_a0c4⟩)) (fun h8 =>
       Ak.bif (fun h10 =>
        Ak.bind (MU h_a0c4 (CX _) h_a2) (fun r1575 h11 =>
        Ak.mk ⟨h_a0, h_a0c1, h_a0c2, h_a0c3, h11⟩)) (fun h10 =>
        Ak.no (by have e0 := DT h_a1; have e1 := of_decide_eq_false h1; have e2 := of_decide_eq_false h2; have e3 := of_decide_eq_true h3; have e4 := EW (a1 - 16384); have e5 := DT (CZ _ : In .u16 (quo .u16 (IntKind.wrap .u16 (a1 - 16384)) 4)); have e6 := WS (IntKind.wrap .u16 (a1 - 16384)) 4 (by decide); have e7 := ne_of_beq_false h4; have e8 := ne_of_beq_false h6; have e9 := ne_of_beq_false h8; have e10 := ne_of_beq_false h10; omega)))))) (fun h3 =>
    Ak.bif (fun h12 =>
     Ak.bind (Nf h_a0 h_a0c1 h_a0c2 h_a0c3 h_a0c4 (EY (x := IntKind.wrap .u8 (IntKind.wrap .u16 (a1 - 16400))) (by have e0 := DT h_a1; have e1 := EW (a1 - 16400); have e2 := Sv (IntKind.wrap .u16 (a1 - 16400)); have e3 := of_decide_eq_false h1; have e4 := of_decide_eq_false h2; have e5 := of_decide_eq_false h3; have e6 := of_decide_eq_true h12; omega)) h_a2) (fun r1588 h13 =>
     Ak.mk ⟨h13, h_a0c1, h_a0c2, h_a0c3, h_a0c4⟩)) (fun h12 =>
     Ak.bif (fun h14 =>
      Ak.bind (L9 h_a0c1) (fun r1593 h15 =>
      Ak.bind (L9 h_a0c2) (fun r1597 h16 =>
      Ak.bind (L9 h_a0c3) (fun r1601 h17 =>
      Ak.bind (L9 h_a0c4) (fun r1605 h18 =>
      Ak.bind (MC h_a0 h15 h16 h17 h18) (fun r1618 h19 =>
      Ak.mk ⟨h19, h15, h16, h17, h18⟩)))))) (fun h14 =>
      Ak.bif (fun h20 =>
       Ak.bind (Ox h_a0 h_a0c1 h_a0c2 h_a0c3 h_a0c4 h_a2) (fun r1788 h21 =>
       Ak.mk ⟨h21.1, h21.2.1, h21.2.2.1, h21.2.2.2.1, h21.2.2.2.2⟩)) (fun h20 =>
       Ak.mk ⟨h_a0, h_a0c1, h_a0c2, h_a0c3, h_a0c4⟩))))))
theorem TN {a0 : AL} (h_a0 : Cf a0) : Ak (fun r => Cf r) (Ol.f a0) := by
 unfold Ol.f
 exact Ak.bif (fun h1 =>
  Ak.mk ⟨h_a0.Ba, h_a0.Ba⟩) (fun h1 =>
  Ak.mk h_a0)
theorem Ry {a0 : AL} {a1 : Int} (h_a0 : Cf a0) (h_a1 : In .u8 a1) : Ak (fun r => Cf r) (Nj.f a0 a1) := by
 unfold Nj.f
 exact Ak.bind (TN ⟨h_a0.Ba, h_a0.Bw⟩) (fun r1802 h1 =>
 Ak.mk h1)
theorem QV {a0 : Am} (h_a0 : Bj a0) : Ak (fun r => Bj r) (EB.f a0) := by
 unfold EB.f
 exact Ak.mk ⟨h_a0.Bg, h_a0.Jv, (show (a0.C5 = -1 ∨ (0 ≤ a0.C5 ∧ a0.C5 < (a0.Bg.length : Int))) ∧ ((a0.Bg.length : Int) = 0 ∨ (0 ≤ 0 ∧ 0 < (a0.Bg.length : Int))) ∧ (a0.Bg.length : Int) ≤ 1073741824 from by have x0 := (show (a0.C5 = -1 ∨ (0 ≤ a0.C5 ∧ a0.C5 < (a0.Bg.length : Int))) ∧ ((a0.Bg.length : Int) = 0 ∨ (0 ≤ a0.BD ∧ a0.BD < (a0.Bg.length : Int))) ∧ (a0.Bg.length : Int) ≤ 1073741824 from h_a0.x1); have x1 := (show (a0.C5 = -1 ∨ (0 ≤ a0.C5 ∧ a0.C5 < (a0.Bg.length : Int))) ∧ ((a0.Bg.length : Int) = 0 ∨ (0 ≤ a0.BD ∧ a0.BD < (a0.Bg.length : Int))) ∧ (a0.Bg.length : Int) ≤ 1073741824 from h_a0.x1); omega)⟩
theorem Q4 {a0 : Am} {a1 : Bool} (h_a0 : Bj a0) : Ak (fun r => Bj r) (Jm.f a0 a1) := by
 unfold Jm.f
 exact Ak.bif (fun h1 =>
  Ak.bind (QV ⟨h_a0.Bg, h_a0.Jv, h_a0.x1⟩) (fun r1830 h2 =>
  Ak.mk h2)) (fun h1 =>
  Ak.mk h_a0)
theorem Lf {a0 : Ai} {a0c1 : Am} {a0c2 : An} {a1 : Int} (h_a0 : AF a0) (h_a0c1 : Bj a0c1) (h_a0c2 : Bi a0c2) (h_a1 : In .u8 a1) : Ak (fun r => AF r.1 ∧ Bj r.2) (En.f a0 a0c1 a0c2 a1) := by
 unfold En.f
 exact Ak.bind (Q4 h_a0c1) (fun r1836 h1 =>
 Ak.bif (fun h2 =>
  Ak.mk ⟨⟨h_a0.A9, h_a0.FM, h_a1, h_a0.LZ, h_a0.Im, h_a0.FW, (B7 rfl rfl)⟩, h1⟩) (fun h2 =>
  Ak.bif (fun h3 =>
   Ak.mk ⟨⟨h_a0.A9, h_a0.FM, h_a1, h_a0.LZ, h_a0.Im, h_a0.FW, (B7 rfl rfl)⟩, h1⟩) (fun h3 =>
   Ak.mk ⟨⟨h_a0.A9, h_a0.FM, h_a1, h_a0.LZ, h_a0.Im, h_a0.FW, h_a0.IL⟩, h1⟩)))
theorem OH {a0 : Ai} {a0c1 : Am} {a0c2 : An} {a1 : Int} (h_a0 : AF a0) (h_a0c1 : Bj a0c1) (h_a0c2 : Bi a0c2) (h_a1 : In .u8 a1) : Ak (fun r => AF r.1 ∧ Bj r.2) (Gc.f a0 a0c1 a0c2 a1) := by
 unfold Gc.f
 exact Ak.bif (fun h1 =>
  Ak.bind (Lf ⟨⟨h_a0.A9.L6, h_a0.A9.BN⟩, h_a1, h_a0.Aq, h_a0.LZ, h_a0.Im, h_a0.FW, h_a0.IL⟩ h_a0c1 h_a0c2 (B7 rfl rfl)) (fun r1843 h2 =>
  Ak.mk ⟨h2.1, h2.2⟩)) (fun h1 =>
  Ak.mk ⟨⟨h_a0.A9, h_a1, h_a0.Aq, h_a0.LZ, h_a0.Im, h_a0.FW, h_a0.IL⟩, h_a0c1⟩)
theorem Tq {a0 : An} (h_a0 : Bi a0) : Ak (fun _ => True) (N8.f a0) := by
 unfold N8.f
 exact Ak.arr (by omega) (by omega) (Ak.bif (fun h1 =>
  Ak.mk trivial) (fun h1 =>
  Ak.arr (by have e0 := Cu h_a0.Da.BD; have e1 := Cq (CX _ : In .u8 (Bv .u8 (a0.AM (9 : Int).toNat) 128)); have e2 := BP (a0.AM (9 : Int).toNat) 128 (by decide); have e3 := Ei h1; omega) (by have e0 := Cu h_a0.Da.BD; have e1 := Cq (CX _ : In .u8 (Bv .u8 (a0.AM (9 : Int).toNat) 128)); have e2 := BP (a0.AM (9 : Int).toNat) 128 (by decide); have e3 := Ei h1; omega) (Ak.arr (by have e0 := Cq (CX _ : In .u8 (Bv .u8 (a0.AM (9 : Int).toNat) 128)); have e1 := BP (a0.AM (9 : Int).toNat) 128 (by decide); have e2 := Ei h1; omega) (by have e0 := Cq (CX _ : In .u8 (Bv .u8 (a0.AM (9 : Int).toNat) 128)); have e1 := BP (a0.AM (9 : Int).toNat) 128 (by decide); have e2 := Ei h1; omega) (Ak.bind (Ak.US (n := 4) (by have e0 := Cq (CX _ : In .u8 (Bv .u8 (a0.AM (9 : Int).toNat) 3)); have e1 := BP (a0.AM (9 : Int).toNat) 3 (by decide); have e2 := Cq (CX _ : In .u8 (Bv .u8 (a0.AM (9 : Int).toNat) 128)); have e3 := BP (a0.AM (9 : Int).toNat) 128 (by decide); have e4 := Ei h1; omega) (by have e0 := Cq (CX _ : In .u8 (Bv .u8 (a0.AM (9 : Int).toNat) 3)); have e1 := BP (a0.AM (9 : Int).toNat) 3 (by decide); have e2 := Cq (CX _ : In .u8 (Bv .u8 (a0.AM (9 : Int).toNat) 128)); have e3 := BP (a0.AM (9 : Int).toNat) 128 (by decide); have e4 := Ei h1; omega) rfl) (fun z1883 h2 =>
  Ak.mk trivial)))))
theorem OU {a0 : An} {a1 : Int} (h_a0 : Bi a0) (h_a1 : In .u8 a1) : Ak (fun r => Bi r) (Gq.f a0 a1) := by
 unfold Gq.f
 exact Ak.bif (fun h1 =>
  Ak.mk ⟨h_a0.CE, h_a0.CF, h_a0.AM, ⟨h_a1, (CX _)⟩, h_a0.DU, h_a0.Da, h_a0.FV⟩) (fun h1 =>
  Ak.mk ⟨h_a0.CE, h_a0.CF, h_a0.AM, ⟨h_a1, h_a0.DV.ID⟩, h_a0.DU, h_a0.Da, h_a0.FV⟩)
theorem OV {a0 : An} {a1 : Int} (h_a0 : Bi a0) (h_a1 : In .u8 a1) : Ak (fun r => Bi r) (Gr.f a0 a1) := by
 unfold Gr.f
 exact Ak.bif (fun h1 =>
  Ak.mk ⟨h_a0.CE, h_a0.CF, h_a0.AM, h_a0.DV, ⟨h_a1, (CX _)⟩, h_a0.Da, h_a0.FV⟩) (fun h1 =>
  Ak.mk ⟨h_a0.CE, h_a0.CF, h_a0.AM, h_a0.DV, ⟨h_a1, h_a0.DU.ID⟩, h_a0.Da, h_a0.FV⟩)
theorem Te {a0 : An} {a1 : Int} (h_a0 : Bi a0) (h_a1 : In .u8 a1) : ∀ (n1915 : Nat) (s1907 : (Nat → Int) × Int × Int) (h_s1907_1 : BtA 0 7 s1907.1) (h_s1907_2_1 : Bt 0 63 s1907.2.1) (hi_0 : 0 ≤ s1907.2.2 ∧ s1907.2.2 ≤ 2) (hm : 2 - s1907.2.2 < (n1915 : Int)), Ak (fun r => Bi r) (IJ.l1 a0 a1 n1915 s1907) := by
 intro n1915
 induction n1915 with
 | zero => intro s1907 h_s1907_1 h_s1907_2_1 hi_0 hm; exfalso; revert hm; intro hm; have e0 := hi_0; omega
 | succ n1915 ih =>
  intro s1907 h_s1907_1 h_s1907_2_1 hi_0 hm
  unfold IJ.l1
  exact Ak.bif (fun h1 =>
   Ak.arr (by have e0 := Cu h_s1907_2_1; have e1 := of_decide_eq_true h1; have e2 := hi_0; omega) (by have e0 := Cu h_s1907_2_1; have e1 := of_decide_eq_true h1; have e2 := hi_0; omega) (ih _ (Zj h_s1907_1 (EY (x := Bv .u8 a1 7) (by have e0 := Cq (CX _ : In .u8 (Bv .u8 a1 7)); have e1 := BP a1 7 (by decide); have e2 := of_decide_eq_true h1; have e3 := hi_0; omega))) (EY (x := Int.tmod (IntKind.wrap .i64 (s1907.2.1 + 1)) 64) (by have e0 := Cu h_s1907_2_1; have e1 := CS (s1907.2.1 + 1); have e2 := Lm (IntKind.wrap .i64 (s1907.2.1 + 1)) 64 (by decide); have e3 := of_decide_eq_true h1; have e4 := hi_0; omega)) (show 0 ≤ (IntKind.wrap .i64 (s1907.2.2 + 1)) ∧ (IntKind.wrap .i64 (s1907.2.2 + 1)) ≤ 2 from by have e0 := CS (s1907.2.2 + 1); have e1 := of_decide_eq_true h1; have e2 := hi_0; have e3 := hm; omega) (show 2 - (IntKind.wrap .i64 (s1907.2.2 + 1)) < _ from by have e0 := CS (s1907.2.2 + 1); have e1 := of_decide_eq_true h1; have e2 := hi_0; have e3 := hm; omega))) (fun h1 =>
   Ak.mk ⟨h_a0.CE, h_s1907_1, h_a0.AM, h_a0.DV, h_a0.DU, h_a0.Da, ⟨h_s1907_2_1⟩⟩)
theorem Tu {a0 : An} {a1 : Int} (h_a0 : Bi a0) (h_a1 : In .u8 a1) : Ak (fun r => Bi r) (IJ.f a0 a1) := by
 unfold IJ.f
 exact Ak.arr (by omega) (by omega) (Ak.bif (fun h1 =>
  Ak.mk h_a0) (fun h1 =>
  Te h_a0 h_a1 _ _ h_a0.CF h_a0.FV.BD (show 0 ≤ 0 ∧ 0 ≤ 2 from by have e0 := Cq (CX _ : In .u8 (Bv .u8 (a0.AM (7 : Int).toNat) 128)); have e1 := BP (a0.AM (7 : Int).toNat) 128 (by decide); have e2 := ne_of_beq_false h1; omega) (show 2 - 0 < _ from by have e0 := Cq (CX _ : In .u8 (Bv .u8 (a0.AM (7 : Int).toNat) 128)); have e1 := BP (a0.AM (7 : Int).toNat) 128 (by decide); have e2 := ne_of_beq_false h1; omega)))
theorem Td {a0 : An} {a1 : Int} {a2 : Int} {s1863 : Unit} (h_a0 : Bi a0) (h_a1 : Bt 16512 16522 a1) (h_a2 : In .u8 a2) : Ak (fun r => Bi r) (FC.j1 a0 a1 a2 s1863) := by
 unfold FC.j1
 exact Ak.bnd (fun x1878 e_x1878 =>
  Ak.bind (Tq h_a0) (fun r1889 _ =>
  Ak.arr (by have e0 := Cu h_a1; have e1 := EW (a1 - 16512); have e2 := CS (IntKind.wrap .u16 (a1 - 16512)); have e3 := e_x1878; omega) (by have e0 := Cu h_a1; have e1 := EW (a1 - 16512); have e2 := CS (IntKind.wrap .u16 (a1 - 16512)); have e3 := e_x1878; omega) (Ak.arr (by have e0 := Cu h_a1; have e1 := EW (a1 - 16512); have e2 := CS (IntKind.wrap .u16 (a1 - 16512)); have e3 := e_x1878; omega) (by have e0 := Cu h_a1; have e1 := EW (a1 - 16512); have e2 := CS (IntKind.wrap .u16 (a1 - 16512)); have e3 := e_x1878; omega) (Ak.bif (fun h2 =>
   Ak.bind (OU ⟨h_a0.CE, h_a0.CF, (Jc h_a0.AM h_a2), h_a0.DV, h_a0.DU, h_a0.Da, h_a0.FV⟩ h_a2) (fun r1896 h3 =>
   Ak.mk h3)) (fun h2 =>
   Ak.bif (fun h4 =>
    Ak.bind (OV ⟨h_a0.CE, h_a0.CF, (Jc h_a0.AM h_a2), h_a0.DV, h_a0.DU, h_a0.Da, h_a0.FV⟩ h_a2) (fun r1901 h5 =>
    Ak.mk h5)) (fun h4 =>
    Ak.bif (fun h6 =>
     Ak.bif (fun h7 =>
      Ak.mk ⟨h_a0.CE, h_a0.CF, (Jc h_a0.AM h_a2), h_a0.DV, h_a0.DU, h_a0.Da, h_a0.FV⟩) (fun h7 =>
      Ak.mk ⟨h_a0.CE, h_a0.CF, (Jc h_a0.AM h_a2), h_a0.DV, h_a0.DU, h_a0.Da, h_a0.FV⟩)) (fun h6 =>
     Ak.bif (fun h8 =>
      Ak.bif (fun h9 =>
       Ak.mk ⟨h_a0.CE, h_a0.CF, (Jc h_a0.AM h_a2), h_a0.DV, h_a0.DU, ⟨(EY (x := 0) (by have e0 := ne_of_beq_false h2; have e1 := ne_of_beq_false h4; have e2 := ne_of_beq_false h6; have e3 := eq_of_beq h8; have e4 := Cq (CX _ : In .u8 (Bv .u8 a2 128)); have e5 := BP a2 128 (by decide); have e6 := F3 h9; have e7 := Cu h_a1; have e8 := EW (a1 - 16512); have e9 := CS (IntKind.wrap .u16 (a1 - 16512)); have e10 := e_x1878; omega))⟩, h_a0.FV⟩) (fun h9 =>
       Ak.mk ⟨h_a0.CE, h_a0.CF, (Jc h_a0.AM h_a2), h_a0.DV, h_a0.DU, h_a0.Da, h_a0.FV⟩)) (fun h8 =>
      Ak.bif (fun h10 =>
       Ak.bif (fun h11 =>
        Ak.mk ⟨h_a0.CE, h_a0.CF, (Jc h_a0.AM h_a2), h_a0.DV, h_a0.DU, h_a0.Da, ⟨h_a0.FV.BD⟩⟩) (fun h11 =>
        Ak.mk ⟨h_a0.CE, h_a0.CF, (Jc h_a0.AM h_a2), h_a0.DV, h_a0.DU, h_a0.Da, h_a0.FV⟩)) (fun h10 =>
       Ak.bif (fun h12 =>
        Ak.bind (Tu ⟨h_a0.CE, h_a0.CF, (Jc h_a0.AM h_a2), h_a0.DV, h_a0.DU, h_a0.Da, h_a0.FV⟩ h_a2) (fun r1918 h13 =>
        Ak.mk h13)) (fun h12 =>
        Ak.bif (fun h14 =>
         Ak.bif (fun h15 =>
          Ak.mk ⟨h_a0.CE, h_a0.CF, (Jc h_a0.AM h_a2), h_a0.DV, h_a0.DU, h_a0.Da, h_a0.FV⟩) (fun h15 =>
          Ak.mk ⟨h_a0.CE, h_a0.CF, (Jc h_a0.AM h_a2), h_a0.DV, h_a0.DU, h_a0.Da, h_a0.FV⟩)) (fun h14 =>
         Ak.mk ⟨h_a0.CE, h_a0.CF, (Jc h_a0.AM h_a2), h_a0.DV, h_a0.DU, h_a0.Da, h_a0.FV⟩)))))))))))
theorem Qq {a0 : An} {a1 : Int} {a2 : Int} {s1864 : Bool} (h_a0 : Bi a0) (h_a1 : In .u16 a1) (h_a2 : In .u8 a2) (hf_3 : s1864 = false → 16448 ≤ a1 ∧ a1 ≤ 16522) : Ak (fun r => Bi r) (FC.j2 a0 a1 a2 s1864) := by
 unfold FC.j2
 exact Ak.bif (fun h1 =>
  Ak.mk h_a0) (fun h1 =>
  Ak.bif (fun h2 =>
   Ak.arr (by have e0 := hf_3 h1; have e1 := DT h_a1; have e2 := of_decide_eq_true h2; omega) (by have e0 := hf_3 h1; have e1 := DT h_a1; have e2 := of_decide_eq_true h2; omega) (Ak.bif (fun h3 =>
    Ak.arr (by have e0 := DT h_a1; have e1 := EW (a1 - 16448); have e2 := hf_3 h1; have e3 := of_decide_eq_true h2; have e4 := Cq (CX _ : In .u8 (Bv .u8 (a0.AM (9 : Int).toNat) 128)); have e5 := BP (a0.AM (9 : Int).toNat) 128 (by decide); have e6 := F3 h3; omega) (by have e0 := DT h_a1; have e1 := EW (a1 - 16448); have e2 := hf_3 h1; have e3 := of_decide_eq_true h2; have e4 := Cq (CX _ : In .u8 (Bv .u8 (a0.AM (9 : Int).toNat) 128)); have e5 := BP (a0.AM (9 : Int).toNat) 128 (by decide); have e6 := F3 h3; omega) (Ak.mk ⟨(Jc h_a0.CE (CX _)), h_a0.CF, h_a0.AM, h_a0.DV, h_a0.DU, h_a0.Da, h_a0.FV⟩)) (fun h3 =>
    Ak.mk h_a0))) (fun h2 =>
   Td h_a0 (EY (x := a1) (by have e0 := DT h_a1; have e1 := hf_3 h1; have e2 := of_decide_eq_false h2; omega)) h_a2))
theorem Tt {a0 : An} {a1 : Int} {a2 : Int} (h_a0 : Bi a0) (h_a1 : In .u16 a1) (h_a2 : In .u8 a2) : Ak (fun r => Bi r) (FC.f a0 a1 a2) := by
 unfold FC.f
 exact Ak.bif (fun h1 =>
  Qq h_a0 h_a1 h_a2 (fun h => Bool.noConfusion h)) (fun h1 =>
  Qq h_a0 h_a1 h_a2 (fun hh => by have e0 := DT h_a1; have e1 := of_decide_eq_false h1; have e2 := of_decide_eq_false hh; omega))
theorem OD {a0 : Ai} {a0c1 : Am} {a0c2 : An} {a1 : Int} {a2 : Int} (h_a0 : AF a0) (h_a0c1 : Bj a0c1) (h_a0c2 : Bi a0c2) (h_a1 : In .u16 a1) (h_a2 : In .u8 a2) : Ak (fun r => AF r.1 ∧ Bj r.2) (FZ.f a0 a0c1 a0c2 a1 a2) := by
 unfold FZ.f
 exact Ak.bif (fun h1 =>
  Ak.bif (fun h2 =>
   Ak.mk ⟨⟨⟨h_a0.A9.L6, h_a0.A9.L6⟩, h_a0.FM, h_a0.Aq, h_a0.LZ, h_a0.Im, h_a0.FW, h_a0.IL⟩, h_a0c1⟩) (fun h2 =>
   Ak.mk ⟨⟨⟨h_a0.A9.L6, h_a0.A9.BN⟩, h_a0.FM, h_a0.Aq, h_a0.LZ, h_a0.Im, h_a0.FW, h_a0.IL⟩, h_a0c1⟩)) (fun h1 =>
  Ak.bif (fun h3 =>
   Ak.mk ⟨⟨h_a0.A9, h_a0.FM, h_a0.Aq, h_a0.LZ, h_a2, h_a0.FW, h_a0.IL⟩, h_a0c1⟩) (fun h3 =>
   Ak.bif (fun h4 =>
    Ak.bind (Lf h_a0 h_a0c1 h_a0c2 h_a2) (fun r1934 h5 =>
    Ak.mk ⟨h5.1, h5.2⟩)) (fun h4 =>
    Ak.bif (fun h6 =>
     Ak.mk ⟨⟨h_a0.A9, h_a0.FM, h_a0.Aq, h_a0.LZ, h_a0.Im, h_a2, h_a0.IL⟩, h_a0c1⟩) (fun h6 =>
     Ak.mk ⟨h_a0, h_a0c1⟩))))
theorem LQ {a0 : Ai} {a0c1 : Am} {a0c2 : An} {a1 : Int} {a2 : Int} {s1855 : Bool} (h_a0 : AF a0) (h_a0c1 : Bj a0c1) (h_a0c2 : Bi a0c2) (h_a1 : In .u16 a1) (h_a2 : In .u8 a2) : Ak (fun r => AF r.1 ∧ Bj r.2.1 ∧ Bi r.2.2) (Dp.j1 a0 a0c1 a0c2 a1 a2 s1855) := by
 unfold Dp.j1
 exact Ak.bif (fun h1 =>
  Ak.bif (fun h2 =>
   Ak.bind (Tt h_a0c2 h_a1 h_a2) (fun r1924 h3 =>
   Ak.mk ⟨h_a0, h_a0c1, h3⟩)) (fun h2 =>
   Ak.mk ⟨h_a0, h_a0c1, h_a0c2⟩)) (fun h1 =>
  Ak.bif (fun h4 =>
   Ak.bind (OD h_a0 h_a0c1 h_a0c2 h_a1 h_a2) (fun r1940 h5 =>
   Ak.mk ⟨h5.1, h5.2, h_a0c2⟩)) (fun h4 =>
   Ak.mk ⟨h_a0, h_a0c1, h_a0c2⟩))
theorem Ph {a0 : Ai} {a0c1 : Am} {a0c2 : An} {a1 : Int} {a2 : Int} (h_a0 : AF a0) (h_a0c1 : Bj a0c1) (h_a0c2 : Bi a0c2) (h_a1 : In .u16 a1) (h_a2 : In .u8 a2) : Ak (fun r => AF r.1 ∧ Bj r.2.1 ∧ Bi r.2.2) (Dp.f a0 a0c1 a0c2 a1 a2) := by
 unfold Dp.f
 exact Ak.bif (fun h1 =>
  Ak.mk ⟨⟨⟨(CZ _), h_a0.A9.BN⟩, h_a0.FM, h_a0.Aq, h_a0.LZ, h_a0.Im, h_a0.FW, h_a0.IL⟩, h_a0c1, h_a0c2⟩) (fun h1 =>
  Ak.bif (fun h2 =>
   Ak.mk ⟨⟨⟨(CZ _), h_a0.A9.BN⟩, h_a0.FM, h_a0.Aq, h_a0.LZ, h_a0.Im, h_a0.FW, h_a0.IL⟩, h_a0c1, h_a0c2⟩) (fun h2 =>
   Ak.bif (fun h3 =>
    Ak.bind (OH h_a0 h_a0c1 h_a0c2 h_a2) (fun r1849 h4 =>
    Ak.mk ⟨h4.1, h4.2, h_a0c2⟩)) (fun h3 =>
    Ak.bif (fun h5 =>
     LQ h_a0 h_a0c1 h_a0c2 h_a1 h_a2) (fun h5 =>
     LQ h_a0 h_a0c1 h_a0c2 h_a1 h_a2))))
theorem F7 {a0 : A7} {a0c2 : Ac} {a0c3 : Al} {a0c3c1 : Aa} {a0c3c2 : Aa} {a0c3c3 : Aa} {a0c3c4 : Aa} {a0c4 : Ai} {a0c4c1 : Am} {a0c4c2 : An} {a0c5 : AL} {a0c6 : AL} {a1 : Int} {a2 : Int} {s1503 : Bool} (h_a0 : C9 a0) (h_a0c2 : As a0c2) (h_a0c3 : Bl a0c3) (h_a0c3c1 : Ah a0c3c1) (h_a0c3c2 : Ah a0c3c2) (h_a0c3c3 : Ah a0c3c3) (h_a0c3c4 : Ah a0c3c4) (h_a0c4 : AF a0c4) (h_a0c4c1 : Bj a0c4c1) (h_a0c4c2 : Bi a0c4c2) (h_a0c5 : Cf a0c5) (h_a0c6 : Cf a0c6) (h_a1 : In .u16 a1) (h_a2 : In .u8 a2) : Ak (fun r => C9 r.1 ∧ As r.2.1 ∧ Bl r.2.2.1 ∧ Ah r.2.2.2.1 ∧ Ah r.2.2.2.2.1 ∧ Ah r.2.2.2.2.2.1 ∧ Ah r.2.2.2.2.2.2.1 ∧ AF r.2.2.2.2.2.2.2.1 ∧ Bj r.2.2.2.2.2.2.2.2.1 ∧ Bi r.2.2.2.2.2.2.2.2.2.1 ∧ Cf r.2.2.2.2.2.2.2.2.2.2.1 ∧ Cf r.2.2.2.2.2.2.2.2.2.2.2) (Ay.j2 a0 a0c2 a0c3 a0c3c1 a0c3c2 a0c3c3 a0c3c4 a0c4 a0c4c1 a0c4c2 a0c5 a0c6 a1 a2 s1503) := by
 unfold Ay.j2
 exact Ak.bif (fun h1 =>
  Ak.bind (P7 h_a0c3 h_a0c3c1 h_a0c3c2 h_a0c3c3 h_a0c3c4 h_a1 h_a2) (fun r1794 h2 =>
  Ak.mk ⟨⟨h_a0.GI, h_a0.EH, h_a0.EQ, h_a2, h_a0.Fp, h_a0.Ba⟩, h_a0c2, h2.1, h2.2.1, h2.2.2.1, h2.2.2.2.1, h2.2.2.2.2, h_a0c4, h_a0c4c1, h_a0c4c2, h_a0c5, h_a0c6⟩)) (fun h1 =>
  Ak.bif (fun h3 =>
   Ak.mk ⟨⟨h_a0.GI, h_a0.EH, h_a0.EQ, h_a2, (CZ _), h_a0.Ba⟩, h_a0c2, h_a0c3, h_a0c3c1, h_a0c3c2, h_a0c3c3, h_a0c3c4, h_a0c4, h_a0c4c1, h_a0c4c2, h_a0c5, h_a0c6⟩) (fun h3 =>
   Ak.bif (fun h4 =>
    Ak.bind (Ry h_a0c5 h_a2) (fun r1806 h5 =>
    Ak.bind (Ry h_a0c6 h_a2) (fun r1810 h6 =>
    Ak.mk ⟨⟨h_a0.GI, h_a0.EH, h_a0.EQ, h_a2, h_a0.Fp, h_a0.Ba⟩, h_a0c2, h_a0c3, h_a0c3c1, h_a0c3c2, h_a0c3c3, h_a0c3c4, h_a0c4, h_a0c4c1, h_a0c4c2, h5, h6⟩))) (fun h4 =>
    Ak.bif (fun h7 =>
     Ak.bind (Ph h_a0c4 h_a0c4c1 h_a0c4c2 h_a1 h_a2) (fun r1946 h8 =>
     Ak.mk ⟨⟨h_a0.GI, h_a0.EH, h_a0.EQ, h_a2, h_a0.Fp, h_a0.Ba⟩, h_a0c2, h_a0c3, h_a0c3c1, h_a0c3c2, h_a0c3c3, h_a0c3c4, h8.1, h8.2.1, h8.2.2, h_a0c5, h_a0c6⟩)) (fun h7 =>
     Ak.mk ⟨⟨h_a0.GI, h_a0.EH, h_a0.EQ, h_a2, h_a0.Fp, h_a0.Ba⟩, h_a0c2, h_a0c3, h_a0c3c1, h_a0c3c2, h_a0c3c3, h_a0c3c4, h_a0c4, h_a0c4c1, h_a0c4c2, h_a0c5, h_a0c6⟩))))
theorem Ih {a0 : A7} {a0c1 : Ag} {a0c2 : Ac} {a0c3 : Al} {a0c3c1 : Aa} {a0c3c2 : Aa} {a0c3c3 : Aa} {a0c3c4 : Aa} {a0c4 : Ai} {a0c4c1 : Am} {a0c4c2 : An} {a0c5 : AL} {a0c6 : AL} {a1 : Int} {a2 : Int} {s1333 : Bool} (h_a0 : C9 a0) (h_a0c1 : De a0c1) (h_a0c2 : As a0c2) (h_a0c3 : Bl a0c3) (h_a0c3c1 : Ah a0c3c1) (h_a0c3c2 : Ah a0c3c2) (h_a0c3c3 : Ah a0c3c3) (h_a0c3c4 : Ah a0c3c4) (h_a0c4 : AF a0c4) (h_a0c4c1 : Bj a0c4c1) (h_a0c4c2 : Bi a0c4c2) (h_a0c5 : Cf a0c5) (h_a0c6 : Cf a0c6) (h_a1 : In .u16 a1) (h_a2 : In .u8 a2) : Ak (fun r => C9 r.1 ∧ As r.2.1 ∧ Bl r.2.2.1 ∧ Ah r.2.2.2.1 ∧ Ah r.2.2.2.2.1 ∧ Ah r.2.2.2.2.2.1 ∧ Ah r.2.2.2.2.2.2.1 ∧ AF r.2.2.2.2.2.2.2.1 ∧ Bj r.2.2.2.2.2.2.2.2.1 ∧ Bi r.2.2.2.2.2.2.2.2.2.1 ∧ Cf r.2.2.2.2.2.2.2.2.2.2.1 ∧ Cf r.2.2.2.2.2.2.2.2.2.2.2) (Ay.j1 a0 a0c1 a0c2 a0c3 a0c3c1 a0c3c2 a0c3c3 a0c3c4 a0c4 a0c4c1 a0c4c2 a0c5 a0c6 a1 a2 s1333) := by
 unfold Ay.j1
 exact Ak.bif (fun h1 =>
  Ak.bind (Ib ⟨h_a0.GI, h_a0.EH, h_a0.EQ, h_a2, h_a0.Fp, h_a0.Ba⟩ h_a0c1 h_a0c2 h_a0c3 h_a0c3c1 h_a0c3c2 h_a0c3c3 h_a0c3c4 h_a0c4 h_a0c4c1 h_a0c4c2 h_a0c5 h_a0c6 h_a1 h_a2) (fun r1357 h2 =>
  Ak.mk ⟨h2, h_a0c2, h_a0c3, h_a0c3c1, h_a0c3c2, h_a0c3c3, h_a0c3c4, h_a0c4, h_a0c4c1, h_a0c4c2, h_a0c5, h_a0c6⟩)) (fun h1 =>
  Ak.bif (fun h3 =>
   Ak.bind (Qn h_a0c2 (CX _) h_a2) (fun r1497 h4 =>
   Ak.mk ⟨⟨h_a0.GI, h_a0.EH, h_a0.EQ, h_a2, h_a0.Fp, h_a0.Ba⟩, h4, h_a0c3, h_a0c3c1, h_a0c3c2, h_a0c3c3, h_a0c3c4, h_a0c4, h_a0c4c1, h_a0c4c2, h_a0c5, h_a0c6⟩)) (fun h3 =>
   Ak.bif (fun h5 =>
    F7 h_a0 h_a0c2 h_a0c3 h_a0c3c1 h_a0c3c2 h_a0c3c3 h_a0c3c4 h_a0c4 h_a0c4c1 h_a0c4c2 h_a0c5 h_a0c6 h_a1 h_a2) (fun h5 =>
    Ak.bif (fun h6 =>
     F7 h_a0 h_a0c2 h_a0c3 h_a0c3c1 h_a0c3c2 h_a0c3c3 h_a0c3c4 h_a0c4 h_a0c4c1 h_a0c4c2 h_a0c5 h_a0c6 h_a1 h_a2) (fun h6 =>
     F7 h_a0 h_a0c2 h_a0c3 h_a0c3c1 h_a0c3c2 h_a0c3c3 h_a0c3c4 h_a0c4 h_a0c4c1 h_a0c4c2 h_a0c5 h_a0c6 h_a1 h_a2))))
theorem Iy {a0 : A7} {a0c1 : Ag} {a0c2 : Ac} {a0c3 : Al} {a0c3c1 : Aa} {a0c3c2 : Aa} {a0c3c3 : Aa} {a0c3c4 : Aa} {a0c4 : Ai} {a0c4c1 : Am} {a0c4c2 : An} {a0c5 : AL} {a0c6 : AL} {a1 : Int} {a2 : Int} (h_a0 : C9 a0) (h_a0c1 : De a0c1) (h_a0c2 : As a0c2) (h_a0c3 : Bl a0c3) (h_a0c3c1 : Ah a0c3c1) (h_a0c3c2 : Ah a0c3c2) (h_a0c3c3 : Ah a0c3c3) (h_a0c3c4 : Ah a0c3c4) (h_a0c4 : AF a0c4) (h_a0c4c1 : Bj a0c4c1) (h_a0c4c2 : Bi a0c4c2) (h_a0c5 : Cf a0c5) (h_a0c6 : Cf a0c6) (h_a1 : In .u16 a1) (h_a2 : In .u8 a2) : Ak (fun r => C9 r.1 ∧ As r.2.1 ∧ Bl r.2.2.1 ∧ Ah r.2.2.2.1 ∧ Ah r.2.2.2.2.1 ∧ Ah r.2.2.2.2.2.1 ∧ Ah r.2.2.2.2.2.2.1 ∧ AF r.2.2.2.2.2.2.2.1 ∧ Bj r.2.2.2.2.2.2.2.2.1 ∧ Bi r.2.2.2.2.2.2.2.2.2.1 ∧ Cf r.2.2.2.2.2.2.2.2.2.2.1 ∧ Cf r.2.2.2.2.2.2.2.2.2.2.2) (Ay.f a0 a0c1 a0c2 a0c3 a0c3c1 a0c3c2 a0c3c3 a0c3c4 a0c4 a0c4c1 a0c4c2 a0c5 a0c6 a1 a2) := by
 unfold Ay.f
 exact Ak.bif (fun h1 =>
  Ih h_a0 h_a0c1 h_a0c2 h_a0c3 h_a0c3c1 h_a0c3c2 h_a0c3c3 h_a0c3c4 h_a0c4 h_a0c4c1 h_a0c4c2 h_a0c5 h_a0c6 h_a1 h_a2) (fun h1 =>
  Ih h_a0 h_a0c1 h_a0c2 h_a0c3 h_a0c3c1 h_a0c3c2 h_a0c3c3 h_a0c3c4 h_a0c4 h_a0c4c1 h_a0c4c2 h_a0c5 h_a0c6 h_a1 h_a2)
theorem Lr {a0 : A7} {a0c1 : Ag} {a0c2 : Ac} {a0c3 : Al} {a0c3c1 : Aa} {a0c3c2 : Aa} {a0c3c3 : Aa} {a0c3c4 : Aa} {a0c4 : Ai} {a0c4c1 : Am} {a0c4c2 : An} {a0c5 : AL} {a0c6 : AL} (h_a0 : C9 a0) (h_a0c1 : De a0c1) (h_a0c2 : As a0c2) (h_a0c3 : Bl a0c3) (h_a0c3c1 : Ah a0c3c1) (h_a0c3c2 : Ah a0c3c2) (h_a0c3c3 : Ah a0c3c3) (h_a0c3c4 : Ah a0c3c4) (h_a0c4 : AF a0c4) (h_a0c4c1 : Bj a0c4c1) (h_a0c4c2 : Bi a0c4c2) (h_a0c5 : Cf a0c5) (h_a0c6 : Cf a0c6) : Ak (fun r => C9 r.2.1 ∧ As r.2.2.1 ∧ Bl r.2.2.2.1 ∧ Ah r.2.2.2.2.1 ∧ Ah r.2.2.2.2.2.1 ∧ Ah r.2.2.2.2.2.2.1 ∧ Ah r.2.2.2.2.2.2.2.1 ∧ AF r.2.2.2.2.2.2.2.2.1 ∧ Bj r.2.2.2.2.2.2.2.2.2.1 ∧ Bi r.2.2.2.2.2.2.2.2.2.2.1 ∧ Cf r.2.2.2.2.2.2.2.2.2.2.2.1 ∧ Cf r.2.2.2.2.2.2.2.2.2.2.2.2) (C7.f a0 a0c1 a0c2 a0c3 a0c3c1 a0c3c2 a0c3c3 a0c3c4 a0c4 a0c4c1 a0c4c2 a0c5 a0c6) := by
 unfold C7.f
 exact Ak.bif (fun h1 =>
  Ak.mk ⟨⟨h_a0.GI, h_a0.EH, h_a0.EQ, h_a0.CV, h_a0.Fp, h_a0.Ba⟩, h_a0c2, h_a0c3, h_a0c3c1, h_a0c3c2, h_a0c3c3, h_a0c3c4, h_a0c4, h_a0c4c1, h_a0c4c2, h_a0c5, h_a0c6⟩) (fun h1 =>
  Ak.bif (fun h2 =>
   Ak.mk ⟨h_a0, h_a0c2, h_a0c3, h_a0c3c1, h_a0c3c2, h_a0c3c3, h_a0c3c4, h_a0c4, h_a0c4c1, h_a0c4c2, h_a0c5, h_a0c6⟩) (fun h2 =>
   Ak.bif (fun h3 =>
    Ak.bind (FE ⟨h_a0.GI, h_a0.EH, h_a0.EQ, h_a0.CV, h_a0.Fp, h_a0.Ba⟩ h_a0c1 h_a0c2 h_a0c3 h_a0c3c1 h_a0c3c2 h_a0c3c3 h_a0c3c4 h_a0c4 h_a0c4c1 h_a0c4c2 h_a0c5 h_a0c6 (CZ _)) (fun r1313 h4 =>
    Ak.mk ⟨⟨h4.2.1.GI, h4.2.1.EH, h4.2.1.EQ, h4.2.1.CV, h4.2.1.Fp, h4.1⟩, h4.2.2.1, h4.2.2.2.1, h_a0c3c1, h_a0c3c2, h_a0c3c3, h_a0c3c4, h4.2.2.2.2.1, h_a0c4c1, h_a0c4c2, h4.2.2.2.2.2.1, h4.2.2.2.2.2.2⟩)) (fun h3 =>
    Ak.bind (Iy ⟨h_a0.GI, h_a0.EH, h_a0.EQ, h_a0.CV, h_a0.Fp, h_a0.Ba⟩ h_a0c1 h_a0c2 h_a0c3 h_a0c3c1 h_a0c3c2 h_a0c3c3 h_a0c3c4 h_a0c4 h_a0c4c1 h_a0c4c2 h_a0c5 h_a0c6 (B7 rfl rfl) h_a0.Ba) (fun r1952 h5 =>
    Ak.mk ⟨h5.1, h5.2.1, h5.2.2.1, h5.2.2.2.1, h5.2.2.2.2.1, h5.2.2.2.2.2.1, h5.2.2.2.2.2.2.1, h5.2.2.2.2.2.2.2.1, h5.2.2.2.2.2.2.2.2.1, h5.2.2.2.2.2.2.2.2.2.1, h5.2.2.2.2.2.2.2.2.2.2.1, h5.2.2.2.2.2.2.2.2.2.2.2⟩))))
theorem R7 {a0 : Ag} (h_a0 : AZ a0) : Ak (fun r => FL r) (KA.f a0) := by
 unfold KA.f
 exact Ak.mk ⟨h_a0.Dl.Fv, (B7 rfl rfl)⟩
theorem Qz {a0 : Ag} (h_a0 : AZ a0) : Ak (fun r => FL r) (Jk.f a0) := by
 unfold Jk.f
 exact Ak.mk ⟨(CZ _), (B7 rfl rfl)⟩
theorem Qs {a0 : Ag} (h_a0 : AZ a0) : Ak (fun r => FL r) (IP.f a0) := by
 unfold IP.f
 exact Ak.mk ⟨h_a0.AN, (B7 rfl rfl)⟩
theorem Jp {a0 : Ag} {a1 : Int} (h_a0 : AZ a0) (h_a1 : In .u8 a1) : Ak (fun r => FL r) (E8.f a0 a1) := by
 unfold E8.f
 exact Ak.mk ⟨(CZ _), h_a1⟩
theorem Q0 {a0 : Ag} (h_a0 : AZ a0) : Ak (fun r => FL r) (Jl.f a0) := by
 unfold Jl.f
 exact Ak.bind (Jp h_a0 (CX _)) (fun r2009 h1 =>
 Ak.mk h1)
theorem QS {a0 : Ag} (h_a0 : AZ a0) : Ak (fun r => FL r) (JA.f a0) := by
 unfold JA.f
 exact Ak.bind (Jp h_a0 (CX _)) (fun r2021 h1 =>
 Ak.mk h1)
theorem Qt {a0 : Ag} (h_a0 : AZ a0) : Ak (fun r => FL r) (IQ.f a0) := by
 unfold IQ.f
 exact Ak.bind (Jp h_a0 h_a0.Dl.D8.F4) (fun r2033 h1 =>
 Ak.mk h1)
theorem QL {a0 : Ag} (h_a0 : AZ a0) : Ak (fun r => FL r) (J5.f a0) := by
 unfold J5.f
 exact Ak.mk ⟨h_a0.BJ, (B7 rfl rfl)⟩
theorem Qy {a0 : Ag} (h_a0 : AZ a0) : Ak (fun r => FL r) (Jj.f a0) := by
 unfold Jj.f
 exact Ak.mk ⟨h_a0.BD, (B7 rfl rfl)⟩
theorem SK {a0 : Az} {a1 : Int} (h_a0 : Bp a0) (h_a1 : In .u8 a1) : Ak (fun r => In .u8 r) (MW.f a0 a1) := by
 unfold MW.f
 exact Ak.bif (fun h1 =>
  Ak.mk h_a0.ES) (fun h1 =>
  Ak.bif (fun h2 =>
   Ak.mk h_a0.DF) (fun h2 =>
   Ak.bif (fun h3 =>
    Ak.mk h_a0.Fs) (fun h3 =>
    Ak.bif (fun h4 =>
     Ak.mk (CX _)) (fun h4 =>
     Ak.mk (B7 rfl rfl)))))
theorem Qu {a0 : Ag} (h_a0 : AZ a0) : Ak (fun r => FL r) (IR.f a0) := by
 unfold IR.f
 exact Ak.bind (SK h_a0.Dl.D8 h_a0.ER.Mi) (fun r2063 h1 =>
 Ak.mk ⟨h_a0.BD, h1⟩)
theorem RH {a0 : Ag} (h_a0 : AZ a0) : Ak (fun r => FL r) (KI.f a0) := by
 unfold KI.f
 exact Ak.mk ⟨h_a0.BD, h_a0.Gz⟩
theorem RF {a0 : Ag} (h_a0 : AZ a0) : Ak (fun r => FL r) (KH.f a0) := by
 unfold KH.f
 exact Ak.bind (Jp h_a0 h_a0.Dl.D8.ES) (fun r2087 h1 =>
 Ak.mk h1)
theorem Qi {a0 : Ag} (h_a0 : AZ a0) : Ak (fun r => FL r) (Iz.f a0) := by
 unfold Iz.f
 exact Ak.bind (Jp h_a0 (CX _)) (fun r2099 h1 =>
 Ak.mk h1)
theorem Re {a0 : Ag} (h_a0 : AZ a0) : Ak (fun r => FL r) (JY.f a0) := by
 unfold JY.f
 exact Ak.mk ⟨(B7 rfl rfl), (B7 rfl rfl)⟩
theorem Rc {a0 : Ag} (h_a0 : De a0) : Ak (fun r => FL r) (JX.f a0) := by
 unfold JX.f
 exact Ak.ZZ h_a0.w.F5 h_a0.n (fun z1972 h1 =>
 Ak.bif (fun h2 =>
  Ak.bind (R7 h_a0.w) (fun r1982 h3 =>
  Ak.mk h3)) (fun h2 =>
  Ak.bif (fun h4 =>
   Ak.bind (Qz h_a0.w) (fun r1990 h5 =>
   Ak.mk h5)) (fun h4 =>
   Ak.bif (fun h6 =>
    Ak.bind (Qs h_a0.w) (fun r1998 h7 =>
    Ak.mk h7)) (fun h6 =>
    Ak.bif (fun h8 =>
     Ak.bind (Q0 h_a0.w) (fun r2013 h9 =>
     Ak.mk h9)) (fun h8 =>
     Ak.bif (fun h10 =>
      Ak.bind (QS h_a0.w) (fun r2025 h11 =>
      Ak.mk h11)) (fun h10 =>
      Ak.bif (fun h12 =>
       Ak.bind (Qt h_a0.w) (fun r2037 h13 =>
       Ak.mk h13)) (fun h12 =>
       Ak.bif (fun h14 =>
        Ak.bind (QL h_a0.w) (fun r2045 h15 =>
        Ak.mk h15)) (fun h14 =>
        Ak.bif (fun h16 =>
         Ak.bind (Qy h_a0.w) (fun r2053 h17 =>
         Ak.mk h17)) (fun h16 =>
         Ak.bif (fun h18 =>
          Ak.bind (Qu h_a0.w) (fun r2071 h19 =>
          Ak.mk h19)) (fun h18 =>
          Ak.bif (fun h20 =>
           Ak.bind (RH h_a0.w) (fun r2079 h21 =>
           Ak.mk h21)) (fun h20 =>
           Ak.bif (fun h22 =>
            Ak.bind (RF h_a0.w) (fun r2091 h23 =>
            Ak.mk h23)) (fun h22 =>
            Ak.bif (fun h24 =>
             Ak.bind (Qi h_a0.w) (fun r2103 h25 =>
             Ak.mk h25)) (fun h24 =>
             Ak.bif (fun h26 =>
              Ak.bind (Re h_a0.w) (fun r2111 h27 =>
              Ak.mk h27)) (fun h26 =>
              WO h1 h2 h4 h6 h8 h10 h12 h14 h16 h18 h20 h22 h24 h26))))))))))))))
def Xa (o : Option OY) : Bool := match o with
  | some c => (decide (0 ≤ c.Mi) && decide (c.Mi ≤ 255)) && (decide (0 ≤ c.GZ) && decide (c.GZ ≤ 255))
  | none => false
theorem XX : ∀ b : Fin 256, Xa (Sw.f (b.val : Int)) = true := by decide +kernel
theorem Vm {a0 : Int} (h : In .u8 a0) : Ak (fun r => Ua r) (Sw.f a0) := by
 have h := Cq h
 obtain ⟨n, rfl⟩ := Int.eq_ofNat_of_zero_le h.1
 have h2 := XX ⟨n, by omega⟩
 simp only [] at h2
 cases e : Sw.f (n : Int) with
 | none => rw [e] at h2; cases h2
 | some c =>
  rw [e] at h2
  simp only [Xa, Bool.and_eq_true, decide_eq_true_eq] at h2
  exact Ak.mk ⟨⟨h2.1.1, h2.1.2⟩, ⟨h2.2.1, h2.2.2⟩⟩
theorem LU {a0 : Int} (h_a0 : In .u8 a0) : Ak (fun r => Bt 0 6 r ∧ ((r = 1 ∧ a0 ≤ 18) ∨ (r = 2 ∧ 19 ≤ a0 ∧ a0 ≤ 30) ∨ (r = 5 ∧ 52 ≤ a0 ∧ a0 ≤ 59) ∨ (r ≠ 1 ∧ r ≠ 2 ∧ r ≠ 5))) (Jo.f a0) := by
 unfold Jo.f
 exact Ak.bif (fun h1 =>
  Ak.mk ⟨(EY (x := 1) (by have e0 := Cq h_a0; have e1 := of_decide_eq_true h1; omega)), (by have e0 := Cq h_a0; have e1 := of_decide_eq_true h1; omega)⟩) (fun h1 =>
  Ak.bif (fun h2 =>
   Ak.mk ⟨(EY (x := 2) (by have e0 := Cq h_a0; have e1 := of_decide_eq_false h1; have e2 := of_decide_eq_true h2; omega)), (by have e0 := Cq h_a0; have e1 := of_decide_eq_false h1; have e2 := of_decide_eq_true h2; omega)⟩) (fun h2 =>
   Ak.bif (fun h3 =>
    Ak.mk ⟨(EY (x := 3) (by have e0 := Cq h_a0; have e1 := of_decide_eq_false h1; have e2 := of_decide_eq_false h2; have e3 := of_decide_eq_true h3; omega)), (by have e0 := Cq h_a0; have e1 := of_decide_eq_false h1; have e2 := of_decide_eq_false h2; have e3 := of_decide_eq_true h3; omega)⟩) (fun h3 =>
    Ak.bif (fun h4 =>
     Ak.mk ⟨(EY (x := 4) (by have e0 := Cq h_a0; have e1 := of_decide_eq_false h1; have e2 := of_decide_eq_false h2; have e3 := of_decide_eq_false h3; have e4 := of_decide_eq_true h4; omega)), (by have e0 := Cq h_a0; have e1 := of_decide_eq_false h1; have e2 := of_decide_eq_false h2; have e3 := of_decide_eq_false h3; have e4 := of_decide_eq_true h4; omega)⟩) (fun h4 =>
     Ak.bif (fun h5 =>
      Ak.mk ⟨(EY (x := 5) (by have e0 := Cq h_a0; have e1 := of_decide_eq_false h1; have e2 := of_decide_eq_false h2; have e3 := of_decide_eq_false h3; have e4 := of_decide_eq_false h4; have e5 := of_decide_eq_true h5; omega)), (by have e0 := Cq h_a0; have e1 := of_decide_eq_false h1; have e2 := of_decide_eq_false h2; have e3 := of_decide_eq_false h3; have e4 := of_decide_eq_false h4; have e5 := of_decide_eq_true h5; omega)⟩) (fun h5 =>
      Ak.bif (fun h6 =>
       Ak.mk ⟨(EY (x := 6) (by have e0 := Cq h_a0; have e1 := of_decide_eq_false h1; have e2 := of_decide_eq_false h2; have e3 := of_decide_eq_false h3; have e4 := of_decide_eq_false h4; have e5 := of_decide_eq_false h5; have e6 := of_decide_eq_true h6; omega)), (by have e0 := Cq h_a0; have e1 := of_decide_eq_false h1; have e2 := of_decide_eq_false h2; have e3 := of_decide_eq_false h3; have e4 := of_decide_eq_false h4; have e5 := of_decide_eq_false h5; have e6 := of_decide_eq_true h6; omega)⟩) (fun h6 =>
       Ak.mk ⟨(EY (x := 0) (by have e0 := Cq h_a0; have e1 := of_decide_eq_false h1; have e2 := of_decide_eq_false h2; have e3 := of_decide_eq_false h3; have e4 := of_decide_eq_false h4; have e5 := of_decide_eq_false h5; have e6 := of_decide_eq_false h6; omega)), (by have e0 := Cq h_a0; have e1 := of_decide_eq_false h1; have e2 := of_decide_eq_false h2; have e3 := of_decide_eq_false h3; have e4 := of_decide_eq_false h4; have e5 := of_decide_eq_false h5; have e6 := of_decide_eq_false h6; omega)⟩))))))
theorem Ny {a0 : Ag} {s2199 : Int × Int} {s2225 : Bool} (h_a0 : AZ a0) (hc_1 : s2199 = (((273 : Int), (274 : Int)) : Int × Int) ∨ s2199 = (((275 : Int), (276 : Int)) : Int × Int)) : Ak (fun r => Wz r) (Ch.j3 a0 s2199 s2225) := by
 unfold Ch.j3
 rcases hc_1 with hc | hc <;> subst hc <;> exact Ak.bif (fun h1 =>
  Ak.mk (Rv rfl rfl)) (fun h1 =>
  Ak.bif (fun h2 =>
   Ak.mk (Rv rfl rfl)) (fun h2 =>
   Ak.bif (fun h3 =>
    Ak.mk (Rv rfl rfl)) (fun h3 =>
    Ak.mk (Rv rfl rfl))))
theorem Nw {a0 : Ag} {s2199 : Int × Int} {s2210 : Bool} (h_a0 : AZ a0) (hc_1 : s2199 = (((273 : Int), (274 : Int)) : Int × Int) ∨ s2199 = (((275 : Int), (276 : Int)) : Int × Int)) : Ak (fun r => Wz r) (Ch.j2 a0 s2199 s2210) := by
 unfold Ch.j2
 rcases hc_1 with hc | hc <;> subst hc <;> exact Ak.bif (fun h1 =>
  Ak.mk (Rv rfl rfl)) (fun h1 =>
  Ak.bif (fun h2 =>
   Ak.bind (LU h_a0.ER.Mi) (fun r2218 h3 =>
   Ak.bif (fun h4 =>
    Ak.mk (Rv rfl rfl)) (fun h4 =>
    Ak.mk (Rv rfl rfl)))) (fun h2 =>
   Ak.bif (fun h5 =>
    Ny h_a0 (by first | exact Or.inl rfl | exact Or.inr rfl)) (fun h5 =>
    Ny h_a0 (by first | exact Or.inl rfl | exact Or.inr rfl))))
theorem Ls {a0 : Ag} {s2199 : Int × Int} (h_a0 : AZ a0) (hc_1 : s2199 = (((273 : Int), (274 : Int)) : Int × Int) ∨ s2199 = (((275 : Int), (276 : Int)) : Int × Int)) : Ak (fun r => Wz r) (Ch.j1 a0 s2199) := by
 unfold Ch.j1
 rcases hc_1 with hc | hc <;> subst hc <;> exact Ak.bif (fun h1 =>
  Ak.mk (Rv rfl rfl)) (fun h1 =>
  Ak.bif (fun h2 =>
   Nw h_a0 (by first | exact Or.inl rfl | exact Or.inr rfl)) (fun h2 =>
   Nw h_a0 (by first | exact Or.inl rfl | exact Or.inr rfl)))
theorem Qx {a0 : Ag} (h_a0 : AZ a0) : Ak (fun r => Wz r) (Ch.f a0) := by
 unfold Ch.f
 exact Ak.bif (fun h1 =>
  Ls h_a0 (by first | exact Or.inl rfl | exact Or.inr rfl)) (fun h1 =>
  Ak.bif (fun h2 =>
   Ls h_a0 (by first | exact Or.inl rfl | exact Or.inr rfl)) (fun h2 =>
   Ls h_a0 (by first | exact Or.inl rfl | exact Or.inr rfl)))
theorem R9 {a0 : Ag} (h_a0 : AZ a0) : Ak (fun r => XK r.1 ∧ AZ r.2) (KC.f a0) := by
 unfold KC.f
 exact Ak.bif (fun h1 =>
  Ak.bif (fun h2 =>
   Ak.mk ⟨(KZ rfl rfl rfl), h_a0⟩) (fun h2 =>
   Ak.mk ⟨(KZ rfl rfl rfl), h_a0⟩)) (fun h1 =>
  Ak.bif (fun h3 =>
   Ak.mk ⟨(KZ rfl rfl rfl), h_a0⟩) (fun h3 =>
   Ak.bif (fun h4 =>
    Ak.mk ⟨(KZ rfl rfl rfl), h_a0⟩) (fun h4 =>
    Ak.bif (fun h5 =>
     Ak.mk ⟨(KZ rfl rfl rfl), h_a0⟩) (fun h5 =>
     Ak.bif (fun h6 =>
      Ak.mk ⟨(KZ rfl rfl rfl), h_a0⟩) (fun h6 =>
      Ak.bif (fun h7 =>
       Ak.mk ⟨(KZ rfl rfl rfl), h_a0⟩) (fun h7 =>
       Ak.bif (fun h8 =>
        Ak.mk ⟨(KZ rfl rfl rfl), h_a0⟩) (fun h8 =>
        Ak.bif (fun h9 =>
         Ak.mk ⟨(KZ rfl rfl rfl), h_a0⟩) (fun h9 =>
         Ak.bif (fun h10 =>
          Ak.mk ⟨(KZ rfl rfl rfl), ⟨h_a0.Dl, h_a0.B4, h_a0.F5, h_a0.ER, h_a0.BD, h_a0.BJ, (B7 rfl rfl), h_a0.Ce, h_a0.Gz⟩⟩) (fun h10 =>
          Ak.mk ⟨(KZ rfl rfl rfl), ⟨h_a0.Dl, h_a0.B4, h_a0.F5, h_a0.ER, h_a0.BD, h_a0.BJ, h_a0.AN, h_a0.Ce, h_a0.Gz⟩⟩)))))))))
theorem RI {a0 : Ag} (h_a0 : AZ a0) : Ak (fun r => XK r.1 ∧ AZ r.2) (KJ.f a0) := by
 unfold KJ.f
 exact Ak.bind (LU h_a0.ER.Mi) (fun r2246 h1 =>
 Ak.bif (fun h2 =>
  Ak.mk ⟨(KZ rfl rfl rfl), h_a0⟩) (fun h2 =>
  Ak.bif (fun h3 =>
   Ak.mk ⟨(KZ rfl rfl rfl), h_a0⟩) (fun h3 =>
   Ak.bif (fun h4 =>
    Ak.bind (R9 h_a0) (fun r2281 h5 =>
    Ak.mk ⟨h5.1, h5.2⟩)) (fun h4 =>
    Ak.bif (fun h6 =>
     Ak.mk ⟨(KZ rfl rfl rfl), h_a0⟩) (fun h6 =>
     Ak.bif (fun h7 =>
      Ak.mk ⟨(KZ rfl rfl rfl), h_a0⟩) (fun h7 =>
      Ak.bind (LU h_a0.ER.Mi) (fun r2292 h8 =>
      Ak.bif (fun h9 =>
       Ak.mk ⟨(KZ rfl rfl rfl), h_a0⟩) (fun h9 =>
       Ak.mk ⟨(KZ rfl rfl rfl), h_a0⟩))))))))
theorem Rh {a0 : Ag} {a1 : Int} (h_a0 : AZ a0) (h_a1 : In .u8 a1) : Ak (fun r => AZ r) (Ka.f a0 a1) := by
 unfold Ka.f
 exact Ak.bind (Vm h_a1) (fun r2192 h1 =>
 Ak.bind (Qx ⟨⟨h_a0.Dl.D8, (CZ _)⟩, h_a0.B4, h_a0.F5, h1, h_a0.BD, h_a0.BJ, h_a0.AN, h_a0.Ce, h_a0.Gz⟩) (fun r2238 h2 =>
 Ak.bind (RI ⟨⟨h_a0.Dl.D8, (CZ _)⟩, h_a0.B4, h_a0.F5, h1, h_a0.BD, h_a0.BJ, h_a0.AN, h_a0.Ce, h_a0.Gz⟩) (fun r2300 h3 =>
 Ak.bind (Ak.lim (by have e0 := h2.2; have e1 := h3.1.1.2; omega)) (fun _ _ =>
 Ak.mk ⟨h3.2.Dl, h3.2.B4, (YM h2 h3.1), h3.2.ER, h3.2.BD, h3.2.BJ, h3.2.AN, h3.2.Ce, h3.2.Gz⟩))))
theorem RD {a0 : Ag} {a1 : Int} (h_a0 : AZ a0) (h_a1 : In .u8 a1) : Ak (fun _ => True) (KF.f a0 a1) := by
 unfold KF.f
 exact Ak.mk trivial
theorem R8 {a0 : Ag} {a1 : Int} (h_a0 : AZ a0) (h_a1 : In .u8 a1) : Ak (fun r => AZ r) (KB.f a0 a1) := by
 unfold KB.f
 exact Ak.mk ⟨⟨⟨h_a0.Dl.D8.ES, h_a0.Dl.D8.DF, h_a0.Dl.D8.Fs, (CX _), h_a0.Dl.D8.F4⟩, h_a0.Dl.Fv⟩, h_a0.B4, h_a0.F5, h_a0.ER, h_a0.BD, h_a0.BJ, h_a0.AN, h_a0.Ce, h_a0.Gz⟩
theorem Rk {a0 : Ag} {a1 : Int} (h_a0 : AZ a0) (h_a1 : In .u8 a1) : Ak (fun r => AZ r) (Ke.f a0 a1) := by
 unfold Ke.f
 exact Ak.mk ⟨h_a0.Dl, h_a0.B4, h_a0.F5, h_a0.ER, h_a0.BD, h_a0.BJ, (CZ _), h_a1, h_a0.Gz⟩
theorem O4 {a0 : Ag} {a1 : Int} (h_a0 : AZ a0) (h_a1 : In .u8 a1) : Ak (fun r => AZ r) (IB.f a0 a1) := by
 unfold IB.f
 exact Ak.mk ⟨⟨h_a0.Dl.D8, (CZ _)⟩, h_a0.B4, h_a0.F5, h_a0.ER, h_a0.BD, h_a0.BJ, h_a0.AN, h_a0.Ce, h_a0.Gz⟩
theorem Dv {a0 : Az} {a1 : Int} {a2 : Bool} (h_a0 : Bp a0) (h_a1 : In .u8 a1) : Ak (fun r => Bp r) (Cs.f a0 a1 a2) := by
 unfold Cs.f
 exact Ak.bif (fun h1 =>
  Ak.mk ⟨h_a0.ES, h_a0.DF, h_a0.Fs, h_a0.CU, (CX _)⟩) (fun h1 =>
  Ak.mk ⟨h_a0.ES, h_a0.DF, h_a0.Fs, h_a0.CU, (CX _)⟩)
theorem Rf {a0 : Ag} {a1 : Int} (h_a0 : AZ a0) (h_a1 : In .u8 a1) : Ak (fun r => AZ r) (JZ.f a0 a1) := by
 unfold JZ.f
 exact Ak.bind (O4 h_a0 h_a1) (fun r2345 h1 =>
 Ak.bind (Dv h1.Dl.D8 (B7 rfl rfl)) (fun r2355 h2 =>
 Ak.mk ⟨⟨h2, h1.Dl.Fv⟩, h1.B4, h1.F5, h1.ER, h1.BD, h1.BJ, h1.AN, h1.Ce, h1.Gz⟩))
theorem R5 {a0 : Ag} {a1 : Int} (h_a0 : AZ a0) (h_a1 : In .u8 a1) : Ak (fun r => AZ r) (K8.f a0 a1) := by
 unfold K8.f
 exact Ak.mk ⟨h_a0.Dl, h_a0.B4, h_a0.F5, h_a0.ER, (CZ _), h_a0.BJ, h_a0.AN, h_a0.Ce, h_a0.Gz⟩
theorem On {a0 : Ag} {a1 : Int} (h_a0 : AZ a0) (h_a1 : In .u8 a1) : Ak (fun r => AZ r) (Fx.f a0 a1) := by
 unfold Fx.f
 exact Ak.mk ⟨h_a0.Dl, h_a0.B4, h_a0.F5, h_a0.ER, (CZ _), h_a0.BJ, h_a0.AN, h_a0.Ce, h_a0.Gz⟩
theorem MG {a0 : Ag} {a1 a2 : Int} (h_a0 : De a0) (h_a1 : In .u8 a1) (h_a2 : In .u8 a2) : Ak (fun r => AZ r) (G4.f a0 a1 a2) := by
 have h := h_a0.w
 unfold G4.f Fx.f
 rw [Option.bind_some]
 refine Ak.bind (LU h.ER.Mi) (fun r _ => Ak.bif (fun _ => Ak.bif (fun _ => ?_) (fun _ => Ak.mk ⟨h.Dl, h.B4, h.F5, h.ER, (CZ _), (CZ _), h.AN, h.Ce, h.Gz⟩)) (fun _ => Ak.mk ⟨h.Dl, h.B4, h.F5, h.ER, (CZ _), (CZ _), h.AN, h.Ce, h.Gz⟩))
 have hl := h.F5
 have hn := h_a0.n
 refine Ak.bind (Q := Y6) ?_ (fun t ht => Ak.mk ⟨h.Dl, h.B4, ht, h.ER, (CZ _), (CZ _), h.AN, h.Ce, h.Gz⟩)
 simp only []
 cases e : a0.F5 with
 | nil => rw [e] at hn; simp only [List.length_nil] at hn; omega
 | cons z t =>
  rw [e] at hl
  refine ⟨t, ?_, (UX hl).2.2⟩
  unfold Kot.Si
  rw [if_pos ⟨by omega, by simp only [List.length_cons]; omega, by omega⟩]
  simp
theorem Rl {a0 : Ag} {a1 : Int} (h_a0 : De a0) (h_a1 : In .u8 a1) : Ak (fun r => AZ r) (Kg.f a0 a1) := by
 unfold Kg.f
 exact Ak.bind (MG ⟨⟨⟨h_a0.w.Dl.D8, (CZ _)⟩, h_a0.w.B4, h_a0.w.F5, h_a0.w.ER, h_a0.w.BD, h_a0.w.BJ, h_a0.w.AN, h_a0.w.Ce, h_a0.w.Gz⟩, h_a0.n⟩ h_a1 h_a0.w.Dl.D8.DF) (fun r2424 h1 =>
 Ak.mk h1)
theorem R6 {a0 : Ag} {a1 : Int} (h_a0 : AZ a0) (h_a1 : In .u8 a1) : Ak (fun r => AZ r) (K9.f a0 a1) := by
 unfold K9.f
 exact Ak.mk ⟨h_a0.Dl, h_a0.B4, h_a0.F5, h_a0.ER, (CZ _), h_a0.BJ, h_a0.AN, h_a0.Ce, h_a0.Gz⟩
theorem Rm {a0 : Ag} {a1 : Int} (h_a0 : De a0) (h_a1 : In .u8 a1) : Ak (fun r => AZ r) (Kh.f a0 a1) := by
 unfold Kh.f
 exact Ak.bind (MG ⟨⟨⟨h_a0.w.Dl.D8, (CZ _)⟩, h_a0.w.B4, h_a0.w.F5, h_a0.w.ER, h_a0.w.BD, h_a0.w.BJ, h_a0.w.AN, h_a0.w.Ce, h_a0.w.Gz⟩, h_a0.n⟩ h_a1 h_a0.w.Dl.D8.Fs) (fun r2446 h1 =>
 Ak.mk h1)
theorem RO {a0 : Ag} {a1 : Int} (h_a0 : AZ a0) (h_a1 : In .u8 a1) : Ak (fun r => AZ r) (KO.f a0 a1) := by
 unfold KO.f
 exact Ak.mk ⟨⟨h_a0.Dl.D8, (CZ _)⟩, h_a0.B4, h_a0.F5, h_a0.ER, (CZ _), h_a0.BJ, h_a0.AN, h_a0.Ce, h_a0.Gz⟩
theorem Ri {a0 : Ag} {a1 : Int} (h_a0 : AZ a0) (h_a1 : In .u8 a1) : Ak (fun r => AZ r) (Kb.f a0 a1) := by
 unfold Kb.f
 exact Ak.mk ⟨⟨h_a0.Dl.D8, (CZ _)⟩, h_a0.B4, h_a0.F5, h_a0.ER, h_a0.BD, h_a0.BJ, h_a0.AN, h_a1, h_a0.Gz⟩
theorem QT {a0 : Ag} {a1 : Int} (h_a0 : AZ a0) (h_a1 : In .u8 a1) : Ak (fun r => AZ r) (JB.f a0 a1) := by
 unfold JB.f
 exact Ak.bind (On h_a0 h_a1) (fun r2476 h1 =>
 Ak.mk ⟨⟨h1.Dl.D8, (CZ _)⟩, h1.B4, h1.F5, h1.ER, h1.BD, h1.BJ, h1.AN, h1.Ce, h1.Gz⟩)
theorem Rn {a0 : Ag} {a1 : Int} (h_a0 : AZ a0) (h_a1 : In .u8 a1) : Ak (fun r => AZ r) (Ki.f a0 a1) := by
 unfold Ki.f
 exact Ak.mk ⟨h_a0.Dl, h_a0.B4, h_a0.F5, h_a0.ER, (CZ _), h_a0.BJ, h_a0.AN, h_a1, h_a0.Gz⟩
theorem Ro {a0 : Ag} {a1 : Int} (h_a0 : De a0) (h_a1 : In .u8 a1) : Ak (fun r => AZ r) (Kj.f a0 a1) := by
 unfold Kj.f
 exact Ak.bind (MG h_a0 h_a1 h_a0.w.Dl.D8.Fs) (fun r2505 h1 =>
 Ak.mk h1)
theorem SL {a0 : Az} {a1 : Int} (h_a0 : Bp a0) (h_a1 : In .u8 a1) : Ak (fun _ => True) (MX.f a0 a1) := by
 unfold MX.f
 exact Ak.bind (LU h_a1) (fun r2521 h1 =>
 Ak.bif (fun h2 =>
  Ak.mk trivial) (fun h2 =>
  Ak.bind (Ak.IE (Q := In .u8) (n := 4) (by have e0 := Cq h_a1; have e1 := Sv (a1 - 52); have e2 := Cq (CX _ : In .u8 (quo .u8 (IntKind.wrap .u8 (a1 - 52)) 2)); have e3 := V7 (IntKind.wrap .u8 (a1 - 52)) 2 (by decide); have e4 := Cu h1.1; have e5 := Ei h2; have e6 := h1.2; omega) (by have e0 := Cq h_a1; have e1 := Sv (a1 - 52); have e2 := Cq (CX _ : In .u8 (quo .u8 (IntKind.wrap .u8 (a1 - 52)) 2)); have e3 := V7 (IntKind.wrap .u8 (a1 - 52)) 2 (by decide); have e4 := Cu h1.1; have e5 := Ei h2; have e6 := h1.2; omega) rfl (XP rfl)) (fun z2525 h3 =>
  Ak.bnd (fun x2527 e_x2527 =>
   Ak.mk trivial))))
theorem QN {a0 : Ag} {a1 : Int} (h_a0 : AZ a0) (h_a1 : In .u8 a1) : Ak (fun r => AZ r) (J7.f a0 a1) := by
 unfold J7.f
 exact Ak.bind (SL h_a0.Dl.D8 h_a0.ER.Mi) (fun r2528 _ =>
 Ak.bif (fun h2 =>
  Ak.mk ⟨⟨h_a0.Dl.D8, (CZ _)⟩, h_a0.B4, h_a0.F5, h_a0.ER, h_a0.BD, h_a0.BJ, h_a0.AN, h_a0.Ce, h_a0.Gz⟩) (fun h2 =>
  Ak.mk ⟨⟨h_a0.Dl.D8, (CZ _)⟩, h_a0.B4, (UK rfl), h_a0.ER, h_a0.BD, h_a0.BJ, h_a0.AN, h_a0.Ce, h_a1⟩))
theorem Jb {a0 : Az} {a1 : Int} (h_a0 : Bp a0) (h_a1 : In .u8 a1) : Ak (fun r => Bp r) (Ff.f a0 a1) := by
 unfold Ff.f
 exact Ak.bind (Dv h_a0 (B7 rfl rfl)) (fun r2593 h1 =>
 Ak.bind (Dv h1 (B7 rfl rfl)) (fun r2597 h2 =>
 Ak.mk h2))
theorem L4 {a0 : Az} {a1 : Int} {a2 : Bool} (h_a0 : Bp a0) (h_a1 : In .u8 a1) : Ak (fun r => Bp r.1 ∧ In .u8 r.2) (Gg.f a0 a1 a2) := by
 unfold Gg.f
 exact Ak.bind (Dv h_a0 (B7 rfl rfl)) (fun r2585 h1 =>
 Ak.bind (Jb h1 h_a1) (fun r2601 h2 =>
 Ak.mk ⟨h2, h_a1⟩))
theorem Q9 {a0 : Az} {a1 : Int} (h_a0 : Bp a0) (h_a1 : In .u8 a1) : Ak (fun r => Bp r.1 ∧ In .u8 r.2) (Mo.f a0 a1) := by
 unfold Mo.f
 exact Ak.bind (L4 h_a0 (CX _)) (fun r2605 h1 =>
 Ak.mk ⟨h1.1, h1.2⟩)
theorem OK {a0 : Az} {a1 : Int} (h_a0 : Bp a0) (h_a1 : In .u8 a1) : Ak (fun r => Bp r.1 ∧ In .u8 r.2) (Ju.f a0 a1) := by
 unfold Ju.f
 exact Ak.bind (L4 h_a0 (Vb h_a1)) (fun r2624 h1 =>
 Ak.mk ⟨h1.1, h1.2⟩)
theorem QG {a0 : Az} {a1 : Int} (h_a0 : Bp a0) (h_a1 : In .u8 a1) : Ak (fun r => Bp r.1 ∧ In .u8 r.2) (Mx.f a0 a1) := by
 unfold Mx.f
 exact Ak.bind (L4 h_a0 (CX _)) (fun r2643 h1 =>
 Ak.mk ⟨h1.1, h1.2⟩)
theorem QH {a0 : Az} {a1 : Int} (h_a0 : Bp a0) (h_a1 : In .u8 a1) : Ak (fun r => Bp r.1 ∧ In .u8 r.2) (My.f a0 a1) := by
 unfold My.f
 exact Ak.bind (L4 h_a0 (CX _)) (fun r2662 h1 =>
 Ak.mk ⟨h1.1, h1.2⟩)
theorem QD {a0 : Az} {a1 : Int} (h_a0 : Bp a0) (h_a1 : In .u8 a1) : Ak (fun r => Bp r.1 ∧ In .u8 r.2) (Mt.f a0 a1) := by
 unfold Mt.f
 exact Ak.bind (Jb h_a0 (CX _)) (fun r2681 h1 =>
 Ak.mk ⟨h1, (CX _)⟩)
theorem QB {a0 : Az} {a1 : Int} (h_a0 : Bp a0) (h_a1 : In .u8 a1) : Ak (fun r => Bp r.1 ∧ In .u8 r.2) (Mr.f a0 a1) := by
 unfold Mr.f
 exact Ak.bind (Jb h_a0 (CX _)) (fun r2700 h1 =>
 Ak.mk ⟨h1, (CX _)⟩)
theorem GD {a0 : Az} {a1 : Int} (h_a0 : Bp a0) (h_a1 : In .u8 a1) : Ak (fun r => Bp r) (Et.f a0 a1) := by
 unfold Et.f
 exact Ak.bind (Jb ⟨h_a1, h_a0.DF, h_a0.Fs, h_a0.CU, h_a0.F4⟩ h_a1) (fun r2735 h1 =>
 Ak.mk h1)
theorem QF {a0 : Az} {a1 : Int} (h_a0 : Bp a0) (h_a1 : In .u8 a1) : Ak (fun r => Bp r) (Mw.f a0 a1) := by
 unfold Mw.f
 exact Ak.bind (GD h_a0 (CX _)) (fun r2739 h1 =>
 Ak.mk h1)
theorem TJ {a0 : Az} {a1 : Int} (h_a0 : Bp a0) (h_a1 : In .u8 a1) : Ak (fun r => Bp r.1 ∧ In .u8 r.2) (Oh.f a0 a1) := by
 unfold Oh.f
 exact Ak.bind (Q9 h_a0 h_a1) (fun r2723 h1 =>
 Ak.bind (QF h1.1 h1.2) (fun r2743 h2 =>
 Ak.mk ⟨h2, h1.2⟩))
theorem Nl {a0 : Az} {a1 : Int} (h_a0 : Bp a0) (h_a1 : In .u8 a1) : Ak (fun r => Bp r) (Ia.f a0 a1) := by
 unfold Ia.f
 exact Ak.bind (GD h_a0 (CX _)) (fun r2774 h1 =>
 Ak.mk h1)
theorem TH {a0 : Az} {a1 : Int} (h_a0 : Bp a0) (h_a1 : In .u8 a1) : Ak (fun r => Bp r.1 ∧ In .u8 r.2) (Of.f a0 a1) := by
 unfold Of.f
 exact Ak.bind (QG h_a0 h_a1) (fun r2766 h1 =>
 Ak.bind (Nl h1.1 h1.2) (fun r2778 h2 =>
 Ak.mk ⟨h2, h1.2⟩))
theorem QC {a0 : Az} {a1 : Int} (h_a0 : Bp a0) (h_a1 : In .u8 a1) : Ak (fun r => Bp r) (Ms.f a0 a1) := by
 unfold Ms.f
 exact Ak.bind (GD h_a0 (CX _)) (fun r2809 h1 =>
 Ak.mk h1)
theorem TK {a0 : Az} {a1 : Int} (h_a0 : Bp a0) (h_a1 : In .u8 a1) : Ak (fun r => Bp r.1 ∧ In .u8 r.2) (Oi.f a0 a1) := by
 unfold Oi.f
 exact Ak.bind (OK h_a0 h_a1) (fun r2801 h1 =>
 Ak.bind (QC h1.1 h1.2) (fun r2813 h2 =>
 Ak.mk ⟨h2, h1.2⟩))
theorem OJ {a0 : Az} {a1 : Int} (h_a0 : Bp a0) (h_a1 : In .u8 a1) : Ak (fun r => Bp r) (KW.f a0 a1) := by
 unfold KW.f
 exact Ak.bnd (fun x2844 e_x2844 =>
  have w_x2844 : In .u16 x2844 := O7 e_x2844 (CZ _);
  Ak.bind (Dv h_a0 (B7 rfl rfl)) (fun r2845 h1 =>
  Ak.bind (Dv h1 (B7 rfl rfl)) (fun r2849 h2 =>
  Ak.bind (GD h2 (CX _)) (fun r2853 h3 =>
  Ak.mk h3))))
theorem TI {a0 : Az} {a1 : Int} (h_a0 : Bp a0) (h_a1 : In .u8 a1) : Ak (fun r => Bp r.1 ∧ In .u8 r.2) (Og.f a0 a1) := by
 unfold Og.f
 exact Ak.bind (QH h_a0 h_a1) (fun r2836 h1 =>
 Ak.bind (OJ h1.1 h1.2) (fun r2891 h2 =>
 Ak.mk ⟨h2, h1.2⟩))
theorem L3 {a0 : Az} {a1 : Int} {a2 : Int} (h_a0 : Bp a0) (h_a1 : In .u8 a1) (h_a2 : In .u8 a2) : Ak (fun r => Bp r) (Gf.f a0 a1 a2) := by
 unfold Gf.f
 exact Ak.bind (Dv h_a0 (B7 rfl rfl)) (fun r2926 h1 =>
 Ak.bind (Jb h1 (CX _)) (fun r2930 h2 =>
 Ak.mk h2))
theorem QA {a0 : Az} {a1 : Int} (h_a0 : Bp a0) (h_a1 : In .u8 a1) : Ak (fun r => Bp r) (Mq.f a0 a1) := by
 unfold Mq.f
 exact Ak.bind (L3 h_a0 h_a0.ES h_a1) (fun r2934 h1 =>
 Ak.mk h1)
theorem TD {a0 : Az} {a1 : Int} (h_a0 : Bp a0) (h_a1 : In .u8 a1) : Ak (fun r => Bp r.1 ∧ In .u8 r.2) (Ob.f a0 a1) := by
 unfold Ob.f
 exact Ak.bind (QB h_a0 h_a1) (fun r2914 h1 =>
 Ak.bind (QA h1.1 h1.2) (fun r2938 h2 =>
 Ak.mk ⟨h2, h1.2⟩))
theorem QI {a0 : Az} {a1 : Int} (h_a0 : Bp a0) (h_a1 : In .u8 a1) : Ak (fun r => Bp r) (M0.f a0 a1) := by
 unfold M0.f
 exact Ak.bind (OJ h_a0 (CX _)) (fun r2969 h1 =>
 Ak.mk h1)
theorem TE {a0 : Az} {a1 : Int} (h_a0 : Bp a0) (h_a1 : In .u8 a1) : Ak (fun r => Bp r.1 ∧ In .u8 r.2) (Oc.f a0 a1) := by
 unfold Oc.f
 exact Ak.bind (QD h_a0 h_a1) (fun r2961 h1 =>
 Ak.bind (QI h1.1 h1.2) (fun r2973 h2 =>
 Ak.mk ⟨h2, h1.2⟩))
theorem PR {a0 : Az} {a1 : Int} {a2 : Int} (h_a0 : Bp a0) (h_a1 : In .u8 a1) (h_a2 : In .u8 a2) : Ak (fun r => Bp r.1 ∧ In .u8 r.2) (Gd.f a0 a1 a2) := by
 unfold Gd.f
 exact Ak.bind (LU h_a1) (fun r2563 h1 =>
 Ak.bif (fun h2 =>
  Ak.mk ⟨h_a0, h_a2⟩) (fun h2 =>
  Ak.bind (Ak.US (n := 12) (by have e0 := Cq h_a1; have e1 := Sv (a1 - 19); have e2 := Cu h1.1; have e3 := Ei h2; have e4 := h1.2; omega) (by have e0 := Cq h_a1; have e1 := Sv (a1 - 19); have e2 := Cu h1.1; have e3 := Ei h2; have e4 := h1.2; omega) rfl) (fun z2572 h3 =>
  Ak.bif (fun h4 =>
   Ak.bind (Q9 h_a0 h_a2) (fun r2609 h5 =>
   Ak.mk ⟨h5.1, h5.2⟩)) (fun h4 =>
   Ak.bif (fun h6 =>
    Ak.bind (OK h_a0 h_a2) (fun r2628 h7 =>
    Ak.mk ⟨h7.1, h7.2⟩)) (fun h6 =>
    Ak.bif (fun h8 =>
     Ak.bind (QG h_a0 h_a2) (fun r2647 h9 =>
     Ak.mk ⟨h9.1, h9.2⟩)) (fun h8 =>
     Ak.bif (fun h10 =>
      Ak.bind (QH h_a0 h_a2) (fun r2666 h11 =>
      Ak.mk ⟨h11.1, h11.2⟩)) (fun h10 =>
      Ak.bif (fun h12 =>
       Ak.bind (QD h_a0 h_a2) (fun r2685 h13 =>
       Ak.mk ⟨h13.1, h13.2⟩)) (fun h12 =>
       Ak.bif (fun h14 =>
        Ak.bind (QB h_a0 h_a2) (fun r2704 h15 =>
        Ak.mk ⟨h15.1, h15.2⟩)) (fun h14 =>
        Ak.bif (fun h16 =>
         Ak.bind (TJ h_a0 h_a2) (fun r2747 h17 =>
         Ak.mk ⟨h17.1, h17.2⟩)) (fun h16 =>
         Ak.bif (fun h18 =>
          Ak.bind (TH h_a0 h_a2) (fun r2782 h19 =>
          Ak.mk ⟨h19.1, h19.2⟩)) (fun h18 =>
          Ak.bif (fun h20 =>
           Ak.bind (TK h_a0 h_a2) (fun r2817 h21 =>
           Ak.mk ⟨h21.1, h21.2⟩)) (fun h20 =>
           Ak.bif (fun h22 =>
            Ak.bind (TI h_a0 h_a2) (fun r2895 h23 =>
            Ak.mk ⟨h23.1, h23.2⟩)) (fun h22 =>
            Ak.bif (fun h24 =>
             Ak.bind (TD h_a0 h_a2) (fun r2942 h25 =>
             Ak.mk ⟨h25.1, h25.2⟩)) (fun h24 =>
             Ak.bif (fun h26 =>
              Ak.bind (TE h_a0 h_a2) (fun r2977 h27 =>
              Ak.mk ⟨h27.1, h27.2⟩)) (fun h26 =>
              Ak.no (by have m := h3; simp only [List.mem_cons, List.not_mem_nil, or_false] at m; have e0 := Cu h1.1; have e1 := Ei h2; have e2 := ne_of_beq_false h4; have e3 := ne_of_beq_false h6; have e4 := ne_of_beq_false h8; have e5 := ne_of_beq_false h10; have e6 := ne_of_beq_false h12; have e7 := ne_of_beq_false h14; have e8 := ne_of_beq_false h16; have e9 := ne_of_beq_false h18; have e10 := ne_of_beq_false h20; have e11 := ne_of_beq_false h22; have e12 := ne_of_beq_false h24; have e13 := ne_of_beq_false h26; have e14 := Cq h_a1; have e15 := h1.2; omega))))))))))))))))
theorem K7 {a0 : Az} {a1 : Int} (h_a0 : Bp a0) (h_a1 : In .u8 a1) : Ak (fun r => Bp r) (GC.f a0 a1) := by
 unfold GC.f
 exact Ak.bind (Jb ⟨h_a0.ES, h_a1, h_a0.Fs, h_a0.CU, h_a0.F4⟩ h_a1) (fun r2999 h1 =>
 Ak.mk h1)
theorem Nn {a0 : Az} {a1 : Int} (h_a0 : Bp a0) (h_a1 : In .u8 a1) : Ak (fun r => Bp r) (Jt.f a0 a1) := by
 unfold Jt.f
 exact Ak.bind (Jb ⟨h_a0.ES, h_a0.DF, h_a1, h_a0.CU, h_a0.F4⟩ h_a1) (fun r3011 h1 =>
 Ak.mk h1)
theorem Qh {a0 : Az} {a1 : Int} {s3057 : Bool} (h_a0 : Bp a0) (h_a1 : In .u8 a1) : Ak (fun r => Bp r) (D6.j3 a0 a1 s3057) := by
 unfold D6.j3
 exact Ak.bif (fun h1 =>
  Ak.bind (Dv h_a0 (B7 rfl rfl)) (fun r3063 h2 =>
  Ak.mk h2)) (fun h1 =>
  Ak.bif (fun h3 =>
   Ak.bind (Dv h_a0 (B7 rfl rfl)) (fun r3067 h4 =>
   Ak.mk h4)) (fun h3 =>
   Ak.bif (fun h5 =>
    Ak.bif (fun h6 =>
     Ak.bind (Dv h_a0 (B7 rfl rfl)) (fun r3071 h7 =>
     Ak.mk h7)) (fun h6 =>
     Ak.mk h_a0)) (fun h5 =>
    Ak.bif (fun h8 =>
     Ak.bind (Dv h_a0 (B7 rfl rfl)) (fun r3075 h9 =>
     Ak.mk h9)) (fun h8 =>
     Ak.mk h_a0))))
theorem Qg {a0 : Az} {a1 : Int} {s3047 : Bool} (h_a0 : Bp a0) (h_a1 : In .u8 a1) : Ak (fun r => Bp r) (D6.j2 a0 a1 s3047) := by
 unfold D6.j2
 exact Ak.bif (fun h1 =>
  Ak.bind (Dv h_a0 (B7 rfl rfl)) (fun r3053 h2 =>
  Ak.mk h2)) (fun h1 =>
  Ak.bif (fun h3 =>
   Qh h_a0 h_a1) (fun h3 =>
   Qh h_a0 h_a1))
theorem Mm {a0 : Az} {a1 : Int} {s2553 : Bool} (h_a0 : Bp a0) (h_a1 : In .u8 a1) : Ak (fun r => Bp r) (D6.j1 a0 a1 s2553) := by
 unfold D6.j1
 exact Ak.bif (fun h1 =>
  Ak.bind (PR h_a0 h_a1 h_a0.ES) (fun r2987 h2 =>
  Ak.mk ⟨h2.2, h2.1.DF, h2.1.Fs, h2.1.CU, h2.1.F4⟩)) (fun h1 =>
  Ak.bif (fun h3 =>
   Ak.bind (K7 h_a0 h_a0.ES) (fun r3003 h4 =>
   Ak.mk h4)) (fun h3 =>
   Ak.bif (fun h5 =>
    Ak.bind (Nn h_a0 h_a0.ES) (fun r3015 h6 =>
    Ak.mk h6)) (fun h5 =>
    Ak.bif (fun h7 =>
     Ak.bind (GD h_a0 h_a0.DF) (fun r3019 h8 =>
     Ak.mk h8)) (fun h7 =>
     Ak.bif (fun h9 =>
      Ak.bind (GD h_a0 h_a0.Fs) (fun r3023 h10 =>
      Ak.mk h10)) (fun h9 =>
      Ak.bif (fun h11 =>
       Ak.bind (K7 h_a0 h_a0.CU) (fun r3027 h12 =>
       Ak.mk h12)) (fun h11 =>
       Ak.bif (fun h13 =>
        Ak.mk ⟨h_a0.ES, h_a0.DF, h_a0.Fs, h_a0.DF, h_a0.F4⟩) (fun h13 =>
        Ak.bif (fun h14 =>
         Ak.bind (K7 h_a0 (CX _)) (fun r3031 h15 =>
         Ak.mk h15)) (fun h14 =>
         Ak.bif (fun h16 =>
          Ak.bind (Nn h_a0 (CX _)) (fun r3035 h17 =>
          Ak.mk h17)) (fun h16 =>
          Ak.bif (fun h18 =>
           Ak.bind (K7 h_a0 (CX _)) (fun r3039 h19 =>
           Ak.mk h19)) (fun h18 =>
           Ak.bif (fun h20 =>
            Ak.bind (Nn h_a0 (CX _)) (fun r3043 h21 =>
            Ak.mk h21)) (fun h20 =>
            Ak.bif (fun h22 =>
             Qg h_a0 h_a1) (fun h22 =>
             Qg h_a0 h_a1))))))))))))
theorem To {a0 : Az} {a1 : Int} (h_a0 : Bp a0) (h_a1 : In .u8 a1) : Ak (fun r => Bp r) (D6.f a0 a1) := by
 unfold D6.f
 exact Ak.bif (fun h1 =>
  Mm h_a0 h_a1) (fun h1 =>
  Ak.bif (fun h2 =>
   Mm h_a0 h_a1) (fun h2 =>
   Ak.bif (fun h3 =>
    Mm h_a0 h_a1) (fun h3 =>
    Mm h_a0 h_a1)))
theorem RJ {a0 : Ag} {a1 : Int} (h_a0 : AZ a0) (h_a1 : In .u8 a1) : Ak (fun r => AZ r) (KL.f a0 a1) := by
 unfold KL.f
 exact Ak.bind (To h_a0.Dl.D8 h_a0.ER.Mi) (fun r3079 h1 =>
 Ak.mk ⟨⟨h1, h_a0.Dl.Fv⟩, h_a0.B4, h_a0.F5, h_a0.ER, h_a0.BD, h_a0.BJ, h_a0.AN, h_a0.Ce, h_a0.Gz⟩)
theorem TG {a0 : Az} {a1 : Int} (h_a0 : Bp a0) (h_a1 : In .u8 a1) : Ak (fun r => Bp r) (Oe.f a0 a1) := by
 unfold Oe.f
 exact Ak.mk h_a0
theorem TB {a0 : Az} {a1 : Int} (h_a0 : Bp a0) (h_a1 : In .u8 a1) : Ak (fun r => Bp r) (NZ.f a0 a1) := by
 unfold NZ.f
 exact Ak.bind (L3 h_a0 h_a0.DF h_a1) (fun r3520 h1 =>
 Ak.mk h1)
theorem TC {a0 : Az} {a1 : Int} (h_a0 : Bp a0) (h_a1 : In .u8 a1) : Ak (fun r => Bp r) (Oa.f a0 a1) := by
 unfold Oa.f
 exact Ak.bind (L3 h_a0 h_a0.Fs h_a1) (fun r3566 h1 =>
 Ak.mk h1)
theorem TA {a0 : Az} {a1 : Int} (h_a0 : Bp a0) (h_a1 : In .u8 a1) : Ak (fun r => Bp r) (NY.f a0 a1) := by
 unfold NY.f
 exact Ak.bind (Dv h_a0 (B7 rfl rfl)) (fun r3612 h1 =>
 Ak.bind (Dv h1 (B7 rfl rfl)) (fun r3616 h2 =>
 Ak.bind (Dv h2 (B7 rfl rfl)) (fun r3620 h3 =>
 Ak.mk h3)))
theorem QE {a0 : Az} {a1 : Int} (h_a0 : Bp a0) (h_a1 : In .u8 a1) : Ak (fun r => Bp r) (Mv.f a0 a1) := by
 unfold Mv.f
 exact Ak.bind (GD ⟨h_a0.ES, h_a1, h_a0.Fs, h_a0.CU, h_a0.F4⟩ h_a1) (fun r3694 h1 =>
 Ak.mk h1)
theorem T7 {a0 : Az} {a1 : Int} (h_a0 : Bp a0) (h_a1 : In .u8 a1) : Ak (fun r => Bp r) (NU.f a0 a1) := by
 unfold NU.f
 exact Ak.bind (Nl h_a0 h_a1) (fun r3740 h1 =>
 Ak.bind (Dv h1 (B7 rfl rfl)) (fun r3744 h2 =>
 Ak.mk h2))
theorem T6 {a0 : Az} {a1 : Int} (h_a0 : Bp a0) (h_a1 : In .u8 a1) : Ak (fun r => Bp r) (NT.f a0 a1) := by
 unfold NT.f
 exact Ak.bind (Nl h_a0 h_a1) (fun r3790 h1 =>
 Ak.bind (OK h1 (CX _)) (fun r3794 h2 =>
 Ak.mk ⟨h2.2, h2.1.DF, h2.1.Fs, h2.1.CU, h2.1.F4⟩))
theorem T8 {a0 : Az} {a1 : Int} (h_a0 : Bp a0) (h_a1 : In .u8 a1) : Ak (fun r => Bp r) (NV.f a0 a1) := by
 unfold NV.f
 exact Ak.bnd (fun x3866 e_x3866 =>
  have w_x3866 : In .u8 x3866 := O7 e_x3866 (CX _);
  Ak.bind (GD h_a0 w_x3866) (fun r3867 h1 =>
  Ak.bind (Dv h1 (B7 rfl rfl)) (fun r3871 h2 =>
  Ak.bind (Dv h2 (B7 rfl rfl)) (fun r3875 h3 =>
  Ak.mk h3))))
theorem T9 {a0 : Az} {a1 : Int} (h_a0 : Bp a0) (h_a1 : In .u8 a1) : Ak (fun r => Bp r) (NW.f a0 a1) := by
 unfold NW.f
 exact Ak.bind (L3 h_a0 (CX _) h_a1) (fun r3921 h1 =>
 Ak.bind (K7 h1 (CX _)) (fun r3925 h2 =>
 Ak.mk h2))
theorem TF {a0 : Az} {a1 : Int} (h_a0 : Bp a0) (h_a1 : In .u8 a1) : Ak (fun r => Bp r) (Od.f a0 a1) := by
 unfold Od.f
 exact Ak.bind (QE ⟨h_a0.ES, h_a0.DF, h_a0.Fs, (CX _), h_a0.F4⟩ (CX _)) (fun r3971 h1 =>
 Ak.mk h1)
theorem Qw {a0 : Az} {a1 : Int} {a2 : Int} (h_a0 : Bp a0) (h_a1 : In .u8 a1) (h_a2 : In .u8 a2) : Ak (fun r => Bp r) (KV.f a0 a1 a2) := by
 unfold KV.f
 exact Ak.bind (LU h_a1) (fun r3114 h1 =>
 Ak.bif (fun h2 =>
  Ak.mk h_a0) (fun h2 =>
  Ak.bind (Q := fun r => r = [401, 395, 396, 397, 398, 400, 399, 402, 403, 373, 371, 372, 404, 405, 406, 407, 408, 409, 410]) (Ak.mk rfl) (fun r3120 h3 => by
   subst h3
   exact Ak.bind (Ak.US (n := 19) (by have e0 := Cq h_a1; have e1 := Cu h1.1; have e2 := Ei h2; have e3 := h1.2; omega) (by have e0 := Cq h_a1; have e1 := Cu h1.1; have e2 := Ei h2; have e3 := h1.2; omega) rfl) (fun z3127 h4 =>
   Ak.bif (fun h5 =>
    Ak.bind (K7 h_a0 h_a2) (fun r3132 h6 =>
    Ak.mk h6)) (fun h5 =>
    Ak.bif (fun h7 =>
     Ak.bind (Nn h_a0 h_a2) (fun r3170 h8 =>
     Ak.mk h8)) (fun h7 =>
     Ak.bif (fun h9 =>
      Ak.bind (GD h_a0 h_a2) (fun r3208 h10 =>
      Ak.mk h10)) (fun h9 =>
      Ak.bif (fun h11 =>
       Ak.bind (QF h_a0 h_a2) (fun r3246 h12 =>
       Ak.mk h12)) (fun h11 =>
       Ak.bif (fun h13 =>
        Ak.bind (Nl h_a0 h_a2) (fun r3284 h14 =>
        Ak.mk h14)) (fun h13 =>
        Ak.bif (fun h15 =>
         Ak.bind (QC h_a0 h_a2) (fun r3322 h16 =>
         Ak.mk h16)) (fun h15 =>
         Ak.bif (fun h17 =>
          Ak.bind (OJ h_a0 h_a2) (fun r3360 h18 =>
          Ak.mk h18)) (fun h17 =>
          Ak.bif (fun h19 =>
           Ak.bind (QA h_a0 h_a2) (fun r3398 h20 =>
           Ak.mk h20)) (fun h19 =>
           Ak.bif (fun h21 =>
            Ak.bind (QI h_a0 h_a2) (fun r3436 h22 =>
            Ak.mk h22)) (fun h21 =>
            Ak.bif (fun h23 =>
             Ak.bind (TG h_a0 h_a2) (fun r3478 h24 =>
             Ak.mk h24)) (fun h23 =>
             Ak.bif (fun h25 =>
              Ak.bind (TB h_a0 h_a2) (fun r3524 h26 =>
              Ak.mk h26)) (fun h25 =>
              Ak.bif (fun h27 =>
               Ak.bind (TC h_a0 h_a2) (fun r3570 h28 =>
               Ak.mk h28)) (fun h27 =>
               Ak.bif (fun h29 =>
                Ak.bind (TA h_a0 h_a2) (fun r3652 h30 =>
                Ak.mk h30)) (fun h29 =>
                Ak.bif (fun h31 =>
                 Ak.bind (QE h_a0 h_a2) (fun r3698 h32 =>
                 Ak.mk h32)) (fun h31 =>
                 Ak.bif (fun h33 =>
                  Ak.bind (T7 h_a0 h_a2) (fun r3748 h34 =>
                  Ak.mk h34)) (fun h33 =>
                  Ak.bif (fun h35 =>
                   Ak.bind (T6 h_a0 h_a2) (fun r3824 h36 =>
                   Ak.mk h36)) (fun h35 =>
                   Ak.bif (fun h37 =>
                    Ak.bind (T8 h_a0 h_a2) (fun r3879 h38 =>
                    Ak.mk h38)) (fun h37 =>
                    Ak.bif (fun h39 =>
                     Ak.bind (T9 h_a0 h_a2) (fun r3929 h40 =>
                     Ak.mk h40)) (fun h39 =>
                     Ak.bif (fun h41 =>
                      Ak.bind (TF h_a0 h_a2) (fun r3975 h42 =>
                      Ak.mk h42)) (fun h41 =>
                      Ak.no (by have m := h4; simp only [List.mem_cons, List.not_mem_nil, or_false] at m; have e0 := Cu h1.1; have e1 := Ei h2; have e2 := ne_of_beq_false h5; have e3 := ne_of_beq_false h7; have e4 := ne_of_beq_false h9; have e5 := ne_of_beq_false h11; have e6 := ne_of_beq_false h13; have e7 := ne_of_beq_false h15; have e8 := ne_of_beq_false h17; have e9 := ne_of_beq_false h19; have e10 := ne_of_beq_false h21; have e11 := ne_of_beq_false h23; have e12 := ne_of_beq_false h25; have e13 := ne_of_beq_false h27; have e14 := ne_of_beq_false h29; have e15 := ne_of_beq_false h31; have e16 := ne_of_beq_false h33; have e17 := ne_of_beq_false h35; have e18 := ne_of_beq_false h37; have e19 := ne_of_beq_false h39; have e20 := ne_of_beq_false h41; have e21 := Cq h_a1; have e22 := h1.2; omega))))))))))))))))))))))))
theorem O5 {a0 : Ag} {a1 : Int} (h_a0 : AZ a0) (h_a1 : In .u8 a1) : Ak (fun r => AZ r) (IC.f a0 a1) := by
 unfold IC.f
 exact Ak.bind (Qw h_a0.Dl.D8 h_a0.ER.Mi h_a1) (fun r4012 h1 =>
 Ak.mk ⟨⟨h1, h_a0.Dl.Fv⟩, h_a0.B4, h_a0.F5, h_a0.ER, h_a0.BD, h_a0.BJ, h_a0.AN, h_a0.Ce, h_a0.Gz⟩)
theorem QM {a0 : Ag} {a1 : Int} (h_a0 : AZ a0) (h_a1 : In .u8 a1) : Ak (fun r => AZ r) (J6.f a0 a1) := by
 unfold J6.f
 exact Ak.bind (O5 h_a0 h_a1) (fun r4034 h1 =>
 Ak.mk ⟨⟨h1.Dl.D8, (CZ _)⟩, h1.B4, h1.F5, h1.ER, h1.BD, h1.BJ, h1.AN, h1.Ce, h1.Gz⟩)
theorem RL {a0 : Ag} {a1 : Int} (h_a0 : AZ a0) (h_a1 : In .u8 a1) : Ak (fun r => AZ r) (KM.f a0 a1) := by
 unfold KM.f
 exact Ak.mk ⟨h_a0.Dl, h_a0.B4, h_a0.F5, h_a0.ER, h_a0.BD, h_a0.BJ, h_a0.AN, h_a0.Ce, h_a1⟩
theorem QO {a0 : Ag} {a1 : Int} (h_a0 : AZ a0) (h_a1 : In .u8 a1) : Ak (fun r => AZ r) (J8.f a0 a1) := by
 unfold J8.f
 exact Ak.bind (PR h_a0.Dl.D8 h_a0.ER.Mi h_a0.Gz) (fun r4056 h1 =>
 Ak.mk ⟨⟨h1.1, h_a0.Dl.Fv⟩, h_a0.B4, h_a0.F5, h_a0.ER, h_a0.BD, h_a0.BJ, h_a0.AN, h_a0.Ce, h1.2⟩)
theorem RN {a0 : Ag} {a1 : Int} (h_a0 : AZ a0) (h_a1 : In .u8 a1) : Ak (fun r => AZ r) (KN.f a0 a1) := by
 unfold KN.f
 exact Ak.bif (fun h1 =>
  Ak.mk ⟨⟨h_a0.Dl.D8, (CZ _)⟩, h_a0.B4, h_a0.F5, h_a0.ER, (CZ _), (CZ _), h_a0.AN, h_a0.Ce, h_a0.Gz⟩) (fun h1 =>
  Ak.mk ⟨h_a0.Dl, h_a0.B4, (UK rfl), h_a0.ER, (CZ _), (CZ _), h_a0.AN, h_a0.Ce, h_a0.Gz⟩)
theorem Sy {a0 : Ag} {a1 : Int} (h_a0 : AZ a0) (h_a1 : In .u8 a1) : Ak (fun r => AZ r) (LC.f a0 a1) := by
 unfold LC.f
 exact Ak.mk ⟨⟨⟨h_a0.Dl.D8.ES, h_a0.Dl.D8.DF, h_a0.Dl.D8.Fs, (CX _), h_a0.Dl.D8.F4⟩, h_a0.Dl.Fv⟩, h_a0.B4, h_a0.F5, h_a0.ER, h_a0.BD, h_a0.BJ, h_a0.AN, h_a0.Ce, h_a0.Gz⟩
theorem RE {a0 : Ag} {a1 : Int} (h_a0 : AZ a0) (h_a1 : In .u8 a1) : Ak (fun r => AZ r) (KG.f a0 a1) := by
 unfold KG.f
 exact Ak.mk ⟨⟨⟨h_a0.Dl.D8.ES, h_a0.Dl.D8.DF, h_a0.Dl.D8.Fs, (CX _), h_a0.Dl.D8.F4⟩, h_a0.Dl.Fv⟩, h_a0.B4, h_a0.F5, h_a0.ER, h_a0.BD, h_a0.BJ, h_a0.AN, h_a1, h_a0.Gz⟩
theorem RB {a0 : Ag} {a1 : Int} (h_a0 : AZ a0) (h_a1 : In .u8 a1) : Ak (fun r => AZ r) (KE.f a0 a1) := by
 unfold KE.f
 exact Ak.mk ⟨⟨h_a0.Dl.D8, (CZ _)⟩, h_a0.B4, h_a0.F5, h_a0.ER, h_a0.BD, h_a0.BJ, h_a0.AN, h_a0.Ce, h_a0.Gz⟩
theorem OZ {a0 : Ag} {a1 : Int} (h_a0 : AZ a0) (h_a1 : In .u8 a1) : Ak (fun r => AZ r) (Jg.f a0 a1) := by
 unfold Jg.f
 exact Ak.bind (RY h_a1) (fun r4178 h1 =>
 Ak.mk ⟨⟨⟨h_a0.Dl.D8.ES, h_a0.Dl.D8.DF, h_a0.Dl.D8.Fs, h_a0.Dl.D8.CU, h1⟩, h_a0.Dl.Fv⟩, h_a0.B4, h_a0.F5, h_a0.ER, h_a0.BD, h_a0.BJ, h_a0.AN, h_a0.Ce, h_a0.Gz⟩)
theorem Rj {a0 : Ag} {a1 : Int} (h_a0 : AZ a0) (h_a1 : In .u8 a1) : Ak (fun r => AZ r) (Kc.f a0 a1) := by
 unfold Kc.f
 exact Ak.bind (OZ h_a0 h_a1) (fun r4182 h1 =>
 Ak.mk ⟨⟨⟨h1.Dl.D8.ES, h1.Dl.D8.DF, h1.Dl.D8.Fs, (CX _), h1.Dl.D8.F4⟩, h1.Dl.Fv⟩, h1.B4, h1.F5, h1.ER, h1.BD, h1.BJ, h1.AN, h1.Ce, h1.Gz⟩)
theorem RA {a0 : Ag} {a1 : Int} (h_a0 : AZ a0) (h_a1 : In .u8 a1) : Ak (fun r => AZ r) (KD.f a0 a1) := by
 unfold KD.f
 exact Ak.bind (Qw h_a0.Dl.D8 (B7 rfl rfl) h_a1) (fun r4196 h1 =>
 Ak.mk ⟨⟨h1, h_a0.Dl.Fv⟩, h_a0.B4, h_a0.F5, h_a0.ER, h_a0.BD, h_a0.BJ, h_a0.AN, h_a0.Ce, h_a0.Gz⟩)
theorem QR {a0 : Ag} {a1 : Int} (h_a0 : AZ a0) (h_a1 : In .u8 a1) : Ak (fun r => AZ r) (J9.f a0 a1) := by
 unfold J9.f
 exact Ak.mk ⟨h_a0.Dl, h_a0.B4, (UK rfl), h_a0.ER, h_a0.BD, h_a0.BJ, h_a0.AN, h_a0.Ce, h_a0.Gz⟩
theorem QK {a0 : Ag} {a1 : Int} (h_a0 : AZ a0) (h_a1 : In .u8 a1) : Ak (fun r => AZ r) (J4.f a0 a1) := by
 unfold J4.f
 exact Ak.mk ⟨⟨h_a0.Dl.D8, h_a0.BD⟩, h_a0.B4, h_a0.F5, h_a0.ER, h_a0.BD, h_a0.BJ, h_a0.AN, h_a0.Ce, h_a0.Gz⟩
theorem Ni {a0 : Ag} {a1 : Int} (h_a0 : AZ a0) (h_a1 : In .u16 a1) : Ak (fun r => De r) (FQ.f a0 a1) := by
 unfold FQ.f
 exact Ak.bind (K3 ⟨h_a0.Dl, h_a0.B4, h_a0.F5, h_a0.ER, h_a0.BD, h_a0.BJ, h_a1, h_a0.Ce, h_a0.Gz⟩ (KZ rfl rfl rfl)) (fun r4247 h1 =>
 Ak.mk h1)
theorem Br {a2 : Bool} {s2146 : Ag} (h_s2146 : AZ s2146) : Ak (fun r => De r) (Bb.j2 a2 s2146) := by
 unfold Bb.j2
 exact Ak.bif (fun h1 =>
  Ak.mk ⟨h_s2146, (by have e0 := of_decide_eq_true h1; omega)⟩) (fun h1 =>
  Ak.bif (fun h2 =>
   Ak.bind (Ni ⟨h_s2146.Dl, h_s2146.B4, h_s2146.F5, h_s2146.ER, h_s2146.BD, h_s2146.BJ, h_s2146.AN, h_s2146.Ce, h_s2146.Gz⟩ (B7 rfl rfl)) (fun r4253 h3 =>
   Ak.mk h3)) (fun h2 =>
   Ak.bif (fun h4 =>
    Ak.bif (fun h5 =>
     Ak.bind (Ni h_s2146 (B7 rfl rfl)) (fun r4260 h6 =>
     Ak.mk h6)) (fun h5 =>
     Ak.bind (K3 h_s2146 (KZ rfl rfl rfl)) (fun r4271 h7 =>
     Ak.mk h7))) (fun h4 =>
    Ak.bind (K3 h_s2146 (KZ rfl rfl rfl)) (fun r4282 h8 =>
    Ak.mk h8))))
theorem LV {a0 : Ag} {a1 : Int} {a2 : Bool} {a3 : Bool} {s2128 : Bool} (h_a0 : De a0) (h_a1 : In .u8 a1) : Ak (fun r => De r) (Bb.j1 a0 a1 a2 a3 s2128) := by
 unfold Bb.j1
 exact Ak.head h_a0.w.F5 h_a0.n (fun z2136 z2142 h1 nh1 th1 =>
 Ak.bif (fun h2 =>
  Ak.bind (Rh ⟨h_a0.w.Dl, h_a0.w.B4, th1, h_a0.w.ER, h_a0.w.BD, h_a0.w.BJ, h_a0.w.AN, h_a0.w.Ce, h_a0.w.Gz⟩ h_a1) (fun r2315 h3 =>
  Br h3)) (fun h2 =>
  Ak.bif (fun h4 =>
   Ak.bind (RD ⟨h_a0.w.Dl, h_a0.w.B4, th1, h_a0.w.ER, h_a0.w.BD, h_a0.w.BJ, h_a0.w.AN, h_a0.w.Ce, h_a0.w.Gz⟩ h_a1) (fun _ _ =>
   Br ⟨h_a0.w.Dl, h_a0.w.B4, th1, h_a0.w.ER, h_a0.w.BD, h_a0.w.BJ, h_a0.w.AN, h_a0.w.Ce, h_a0.w.Gz⟩)) (fun h4 =>
   Ak.bif (fun h6 =>
    Ak.bind (R8 ⟨h_a0.w.Dl, h_a0.w.B4, th1, h_a0.w.ER, h_a0.w.BD, h_a0.w.BJ, h_a0.w.AN, h_a0.w.Ce, h_a0.w.Gz⟩ h_a1) (fun r2328 h7 =>
    Br h7)) (fun h6 =>
    Ak.bif (fun h8 =>
     Ak.bind (Rk ⟨h_a0.w.Dl, h_a0.w.B4, th1, h_a0.w.ER, h_a0.w.BD, h_a0.w.BJ, h_a0.w.AN, h_a0.w.Ce, h_a0.w.Gz⟩ h_a1) (fun r2336 h9 =>
     Br h9)) (fun h8 =>
     Ak.bif (fun h10 =>
      Ak.bind (Rf ⟨h_a0.w.Dl, h_a0.w.B4, th1, h_a0.w.ER, h_a0.w.BD, h_a0.w.BJ, h_a0.w.AN, h_a0.w.Ce, h_a0.w.Gz⟩ h_a1) (fun r2359 h11 =>
      Br h11)) (fun h10 =>
      Ak.bif (fun h12 =>
       Ak.bind (O4 ⟨h_a0.w.Dl, h_a0.w.B4, th1, h_a0.w.ER, h_a0.w.BD, h_a0.w.BJ, h_a0.w.AN, h_a0.w.Ce, h_a0.w.Gz⟩ h_a1) (fun r2366 h13 =>
       Br h13)) (fun h12 =>
       Ak.bif (fun h14 =>
        Ak.bind (R5 ⟨h_a0.w.Dl, h_a0.w.B4, th1, h_a0.w.ER, h_a0.w.BD, h_a0.w.BJ, h_a0.w.AN, h_a0.w.Ce, h_a0.w.Gz⟩ h_a1) (fun r2374 h15 =>
        Br h15)) (fun h14 =>
        Ak.bif (fun h16 =>
         Ak.bind (Rl ⟨⟨h_a0.w.Dl, h_a0.w.B4, th1, h_a0.w.ER, h_a0.w.BD, h_a0.w.BJ, h_a0.w.AN, h_a0.w.Ce, h_a0.w.Gz⟩, (nh1 (by unfold ZH; rw [eq_of_beq h16]; rfl))⟩ h_a1) (fun r2430 h17 =>
         Br h17)) (fun h16 =>
         Ak.bif (fun h18 =>
          Ak.bind (R6 ⟨h_a0.w.Dl, h_a0.w.B4, th1, h_a0.w.ER, h_a0.w.BD, h_a0.w.BJ, h_a0.w.AN, h_a0.w.Ce, h_a0.w.Gz⟩ h_a1) (fun r2438 h19 =>
          Br h19)) (fun h18 =>
          Ak.bif (fun h20 =>
           Ak.bind (Rm ⟨⟨h_a0.w.Dl, h_a0.w.B4, th1, h_a0.w.ER, h_a0.w.BD, h_a0.w.BJ, h_a0.w.AN, h_a0.w.Ce, h_a0.w.Gz⟩, (nh1 (by unfold ZH; rw [eq_of_beq h20]; rfl))⟩ h_a1) (fun r2452 h21 =>
           Br h21)) (fun h20 =>
           Ak.bif (fun h22 =>
            Ak.bind (RO ⟨h_a0.w.Dl, h_a0.w.B4, th1, h_a0.w.ER, h_a0.w.BD, h_a0.w.BJ, h_a0.w.AN, h_a0.w.Ce, h_a0.w.Gz⟩ h_a1) (fun r2460 h23 =>
            Br h23)) (fun h22 =>
            Ak.bif (fun h24 =>
             Ak.bind (Ri ⟨h_a0.w.Dl, h_a0.w.B4, th1, h_a0.w.ER, h_a0.w.BD, h_a0.w.BJ, h_a0.w.AN, h_a0.w.Ce, h_a0.w.Gz⟩ h_a1) (fun r2468 h25 =>
             Br h25)) (fun h24 =>
             Ak.bif (fun h26 =>
              Ak.bind (QT ⟨h_a0.w.Dl, h_a0.w.B4, th1, h_a0.w.ER, h_a0.w.BD, h_a0.w.BJ, h_a0.w.AN, h_a0.w.Ce, h_a0.w.Gz⟩ h_a1) (fun r2482 h27 =>
              Br h27)) (fun h26 =>
              Ak.bif (fun h28 =>
               Ak.bind (Rn ⟨h_a0.w.Dl, h_a0.w.B4, th1, h_a0.w.ER, h_a0.w.BD, h_a0.w.BJ, h_a0.w.AN, h_a0.w.Ce, h_a0.w.Gz⟩ h_a1) (fun r2490 h29 =>
               Br h29)) (fun h28 =>
               Ak.bif (fun h30 =>
                Ak.bind (On ⟨h_a0.w.Dl, h_a0.w.B4, th1, h_a0.w.ER, h_a0.w.BD, h_a0.w.BJ, h_a0.w.AN, h_a0.w.Ce, h_a0.w.Gz⟩ h_a1) (fun r2497 h31 =>
                Br h31)) (fun h30 =>
                Ak.bif (fun h32 =>
                 Ak.bind (Ro ⟨⟨h_a0.w.Dl, h_a0.w.B4, th1, h_a0.w.ER, h_a0.w.BD, h_a0.w.BJ, h_a0.w.AN, h_a0.w.Ce, h_a0.w.Gz⟩, (nh1 (by unfold ZH; rw [eq_of_beq h32]; rfl))⟩ h_a1) (fun r2511 h33 =>
                 Br h33)) (fun h32 =>
                 Ak.bif (fun h34 =>
                  Ak.bind (QN ⟨h_a0.w.Dl, h_a0.w.B4, th1, h_a0.w.ER, h_a0.w.BD, h_a0.w.BJ, h_a0.w.AN, h_a0.w.Ce, h_a0.w.Gz⟩ h_a1) (fun r2541 h35 =>
                  Br h35)) (fun h34 =>
                  Ak.bif (fun h36 =>
                   Ak.bind (RJ ⟨h_a0.w.Dl, h_a0.w.B4, th1, h_a0.w.ER, h_a0.w.BD, h_a0.w.BJ, h_a0.w.AN, h_a0.w.Ce, h_a0.w.Gz⟩ h_a1) (fun r3101 h37 =>
                   Br h37)) (fun h36 =>
                   Ak.bif (fun h38 =>
                    Ak.bind (QM ⟨h_a0.w.Dl, h_a0.w.B4, th1, h_a0.w.ER, h_a0.w.BD, h_a0.w.BJ, h_a0.w.AN, h_a0.w.Ce, h_a0.w.Gz⟩ h_a1) (fun r4040 h39 =>
                    Br h39)) (fun h38 =>
                    Ak.bif (fun h40 =>
                     Ak.bind (RL ⟨h_a0.w.Dl, h_a0.w.B4, th1, h_a0.w.ER, h_a0.w.BD, h_a0.w.BJ, h_a0.w.AN, h_a0.w.Ce, h_a0.w.Gz⟩ h_a1) (fun r4048 h41 =>
                     Br h41)) (fun h40 =>
                     Ak.bif (fun h42 =>
                      Ak.bind (QO ⟨h_a0.w.Dl, h_a0.w.B4, th1, h_a0.w.ER, h_a0.w.BD, h_a0.w.BJ, h_a0.w.AN, h_a0.w.Ce, h_a0.w.Gz⟩ h_a1) (fun r4110 h43 =>
                      Br h43)) (fun h42 =>
                      Ak.bif (fun h44 =>
                       Ak.bind (O5 ⟨h_a0.w.Dl, h_a0.w.B4, th1, h_a0.w.ER, h_a0.w.BD, h_a0.w.BJ, h_a0.w.AN, h_a0.w.Ce, h_a0.w.Gz⟩ h_a1) (fun r4117 h45 =>
                       Br h45)) (fun h44 =>
                       Ak.bif (fun h46 =>
                        Ak.bind (RN ⟨h_a0.w.Dl, h_a0.w.B4, th1, h_a0.w.ER, h_a0.w.BD, h_a0.w.BJ, h_a0.w.AN, h_a0.w.Ce, h_a0.w.Gz⟩ h_a1) (fun r4145 h47 =>
                        Br h47)) (fun h46 =>
                        Ak.bif (fun h48 =>
                         Ak.bind (Sy ⟨h_a0.w.Dl, h_a0.w.B4, th1, h_a0.w.ER, h_a0.w.BD, h_a0.w.BJ, h_a0.w.AN, h_a0.w.Ce, h_a0.w.Gz⟩ h_a1) (fun r4153 h49 =>
                         Br h49)) (fun h48 =>
                         Ak.bif (fun h50 =>
                          Ak.bind (RE ⟨h_a0.w.Dl, h_a0.w.B4, th1, h_a0.w.ER, h_a0.w.BD, h_a0.w.BJ, h_a0.w.AN, h_a0.w.Ce, h_a0.w.Gz⟩ h_a1) (fun r4161 h51 =>
                          Br h51)) (fun h50 =>
                          Ak.bif (fun h52 =>
                           Ak.bind (RB ⟨h_a0.w.Dl, h_a0.w.B4, th1, h_a0.w.ER, h_a0.w.BD, h_a0.w.BJ, h_a0.w.AN, h_a0.w.Ce, h_a0.w.Gz⟩ h_a1) (fun r4169 h53 =>
                           Br h53)) (fun h52 =>
                           Ak.bif (fun h54 =>
                            Ak.bind (Rj ⟨h_a0.w.Dl, h_a0.w.B4, th1, h_a0.w.ER, h_a0.w.BD, h_a0.w.BJ, h_a0.w.AN, h_a0.w.Ce, h_a0.w.Gz⟩ h_a1) (fun r4188 h55 =>
                            Br h55)) (fun h54 =>
                            Ak.bif (fun h56 =>
                             Ak.bind (RA ⟨h_a0.w.Dl, h_a0.w.B4, th1, h_a0.w.ER, h_a0.w.BD, h_a0.w.BJ, h_a0.w.AN, h_a0.w.Ce, h_a0.w.Gz⟩ h_a1) (fun r4202 h57 =>
                             Br h57)) (fun h56 =>
                             Ak.bif (fun h58 =>
                              Ak.bind (OZ ⟨h_a0.w.Dl, h_a0.w.B4, th1, h_a0.w.ER, h_a0.w.BD, h_a0.w.BJ, h_a0.w.AN, h_a0.w.Ce, h_a0.w.Gz⟩ h_a1) (fun r4209 h59 =>
                              Br h59)) (fun h58 =>
                              Ak.bif (fun h60 =>
                               Ak.bind (QR ⟨h_a0.w.Dl, h_a0.w.B4, th1, h_a0.w.ER, h_a0.w.BD, h_a0.w.BJ, h_a0.w.AN, h_a0.w.Ce, h_a0.w.Gz⟩ h_a1) (fun r4222 h61 =>
                               Br h61)) (fun h60 =>
                               Ak.bif (fun h62 =>
                                Ak.bind (QK ⟨h_a0.w.Dl, h_a0.w.B4, th1, h_a0.w.ER, h_a0.w.BD, h_a0.w.BJ, h_a0.w.AN, h_a0.w.Ce, h_a0.w.Gz⟩ h_a1) (fun r4230 h63 =>
                                Br h63)) (fun h62 =>
                                Yo h1 h2 h4 h6 h8 h10 h12 h14 h16 h18 h20 h22 h24 h26 h28 h30 h32 h34 h36 h38 h40 h42 h44 h46 h48 h50 h52 h54 h56 h58 h60 h62))))))))))))))))))))))))))))))))
theorem Om {a0 : Ag} {a1 : Int} {a2 : Bool} {a3 : Bool} (h_a0 : De a0) (h_a1 : In .u8 a1) : Ak (fun r => De r) (Bb.f a0 a1 a2 a3) := by
 unfold Bb.f
 exact Ak.bif (fun h1 =>
  LV h_a0 h_a1) (fun h1 =>
  Ak.bif (fun h2 =>
   LV h_a0 h_a1) (fun h2 =>
   LV h_a0 h_a1))
theorem NS {a0 : Ai} {a0c1 : Am} {a0c2 : An} (h_a0 : AF a0) (h_a0c1 : Bj a0c1) (h_a0c2 : Bi a0c2) : Ak (fun _ => True) (Fz.f a0 a0c1 a0c2) := by
 unfold Fz.f
 exact Ak.mk trivial
theorem Pj {a0 : Ac} {a1 : Bool} (h_a0 : As a0) : Ak (fun r => As r) (EG.f a0 a1) := by
 unfold EG.f
 exact Ak.mk ⟨h_a0.BK, h_a0.BU, h_a0.Bu, h_a0.Cn, h_a0.Df, h_a0.AY, h_a0.Aq, h_a0.Cg, h_a0.BZ, h_a0.AV, h_a0.CV, h_a0.Av, h_a0.Ca, h_a0.AP, h_a0.BF, h_a0.x1⟩
theorem O8 {a0 : Bq} (h_a0 : Dc a0) : Ak (fun r => Dc r) (IF.f a0) := by
 unfold IF.f
 exact Ak.bind (E7 h_a0) (fun r4375 h1 =>
 Ak.bif (fun h2 =>
  Ak.mk ⟨(CZ _), h1.Ir, h1.DF⟩) (fun h2 =>
  Ak.mk ⟨(CZ _), h1.Ir, h1.DF⟩))
theorem Sf {a0 : Bq} (h_a0 : Dc a0) : Ak (fun r => In .u16 r) (Li.f a0) := by
 unfold Li.f
 exact Ak.mk (CZ _)
theorem Sz {a0 : Bq} (h_a0 : Dc a0) : Ak (fun r => Bt 0 7 r) (LG.f a0) := by
 unfold LG.f
 exact Ak.bnd (fun x4400 e_x4400 =>
  have w_x4400 : In .u8 x4400 := O7 e_x4400 (CX _);
  Ak.mk (EY (x := x4400) (by have e0 := Cq w_x4400; have e1 := DT (CZ _ : In .u16 (Bv .u16 a0.Hw 28672)); have e2 := E6 a0.Hw 28672 (by decide); have e3 := SA .u16 (Bv .u16 a0.Hw 28672) 12; have e4 := SB .u16 (Bv .u16 a0.Hw 28672) 12 4096 rfl; have e5 := Sv (shr .u16 (Bv .u16 a0.Hw 28672) 12); have e6 := e_x4400; omega)))
theorem RQ {a0 : Bq} (h_a0 : Dc a0) : Ak (fun r => In .u16 r.1 ∧ In .u8 r.2) (KT.f a0) := by
 unfold KT.f
 exact Ak.bnd (fun x4428 e_x4428 =>
  have w_x4428 : In .u16 x4428 := O7 e_x4428 (CZ _);
  Ak.bnd (fun x4429 e_x4429 =>
   have w_x4429 : In .u8 x4429 := O7 e_x4429 (CX _);
   Ak.mk ⟨w_x4428, w_x4429⟩))
theorem P4 {a0 : Int} {a1 : Int} {a2 : Int} (h_a0 : In .u8 a0) (h_a1 : In .u8 a1) (h_a2 : Bt 0 1000 a2) : Ak (fun r => In .u8 r) (LA.f a0 a1 a2) := by
 unfold LA.f
 exact Ak.neg (by have e0 := Cu h_a2; omega) (Ak.bif (fun h1 =>
  Ak.neg (by have e0 := Cu h_a2; have e1 := Cq (CX _ : In .u8 (Bv .u8 (shl .u8 a0 a2) 128)); have e2 := BP (shl .u8 a0 a2) 128 (by decide); have e3 := F3 h1; omega) (Ak.bif (fun h2 =>
   Ak.mk (CX _)) (fun h2 =>
   Ak.mk (B7 rfl rfl)))) (fun h1 =>
  Ak.neg (by have e0 := Cu h_a2; have e1 := Cq (CX _ : In .u8 (Bv .u8 (shl .u8 a0 a2) 128)); have e2 := BP (shl .u8 a0 a2) 128 (by decide); have e3 := Ei h1; omega) (Ak.bif (fun h3 =>
   Ak.mk (CX _)) (fun h3 =>
   Ak.mk (B7 rfl rfl)))))
theorem MN {a0 : Ac} {s4370 : Bq × Int} {s4419 : Int} (h_a0 : As a0) (h_s4370_1 : Dc s4370.1) (h_s4370_2 : Bt 0 1000 s4370.2) (h_s4419 : Bt 0 8183 s4419) : Ak (fun r => In .u8 r.1 ∧ In .u8 r.2) (BV.j3 a0 s4370 s4419) := by
 unfold BV.j3
 exact Ak.bind (RQ h_s4370_1) (fun r4430 h1 =>
 Ak.arr (by have e0 := Cu h_s4419; omega) (by have e0 := Cu h_s4419; omega) (Ak.arr (by have e0 := Cu h_s4419; have e1 := EW (s4419 + 8); omega) (by have e0 := Cu h_s4419; have e1 := EW (s4419 + 8); omega) (Ak.bind (P4 (h_a0.BK.e _) (h_a0.BK.e _) h_s4370_2) (fun r4439 h2 =>
 Ak.bind (IX h_a0 h1.1) (fun r4443 h3 =>
 Ak.neg (by have e0 := Cq h1.2; omega) (Ak.mk ⟨h2, (CX _)⟩))))))
theorem MM {a0 : Ac} {s4370 : Bq × Int} (h_a0 : As a0) (h_s4370_1 : Dc s4370.1) (h_s4370_2 : Bt 0 1000 s4370.2) : Ak (fun r => In .u8 r.1 ∧ In .u8 r.2) (BV.j2 a0 s4370) := by
 unfold BV.j2
 exact Ak.bind (Sf h_s4370_1) (fun r4390 h1 =>
 Ak.bind (IX h_a0 h1) (fun r4394 h2 =>
 Ak.bind (Sz h_s4370_1) (fun r4401 h3 =>
 Ak.bif (fun h4 =>
  Ak.bnd (fun x4420 e_x4420 =>
   have w_x4420 : In .u16 x4420 := O7 e_x4420 (CZ _);
   MN h_a0 h_s4370_1 h_s4370_2 (EY (x := x4420) (by have e0 := DT w_x4420; have e1 := Cq (CX _ : In .u8 (Bv .u8 a0.Aq 16)); have e2 := BP a0.Aq 16 (by decide); have e3 := F3 h4; have e4 := Cq h2; have e5 := EW r4394; have e6 := EW (16 * (IntKind.wrap .u16 r4394)); have e7 := Cu h3; have e8 := EW r4401; have e9 := EW ((IntKind.wrap .u16 (16 * (IntKind.wrap .u16 r4394))) + (IntKind.wrap .u16 r4401)); have e10 := EW ((IntKind.wrap .u16 ((IntKind.wrap .u16 (16 * (IntKind.wrap .u16 r4394))) + (IntKind.wrap .u16 r4401))) + 4096); have e11 := e_x4420; omega)))) (fun h4 =>
  MN h_a0 h_s4370_1 h_s4370_2 (EY (x := IntKind.wrap .u16 ((IntKind.wrap .u16 (16 * (IntKind.wrap .u16 r4394))) + (IntKind.wrap .u16 r4401))) (by have e0 := Cq h2; have e1 := EW r4394; have e2 := EW (16 * (IntKind.wrap .u16 r4394)); have e3 := Cu h3; have e4 := EW r4401; have e5 := EW ((IntKind.wrap .u16 (16 * (IntKind.wrap .u16 r4394))) + (IntKind.wrap .u16 r4401)); have e6 := Cq (CX _ : In .u8 (Bv .u8 a0.Aq 16)); have e7 := BP a0.Aq 16 (by decide); have e8 := Ei h4; omega))))))
theorem ML {a0 : Ac} {a1 : Int} {s4359 : Unit} (h_a0 : As a0) (h_a1 : Bt 0 255 a1) : Ak (fun r => In .u8 r.1 ∧ In .u8 r.2) (BV.j1 a0 a1 s4359) := by
 unfold BV.j1
 exact Ak.bnd (fun x4369 e_x4369 =>
  Ak.bif (fun h1 =>
   Ak.bind (O8 h_a0.AY) (fun r4379 h2 =>
   MM h_a0 h2 (EY (x := IntKind.wrap .i64 (x4369 - 8)) (by have e0 := CS (x4369 - 8); have e1 := of_decide_eq_true h1; have e2 := Cu h_a1; have e3 := Lm a1 8 (by decide); have e4 := Cq h_a0.AY.DF; have e5 := CS a0.AY.DF; have e6 := CS ((Int.tmod a1 8) + (IntKind.wrap .i64 a0.AY.DF)); have e7 := e_x4369; omega)))) (fun h1 =>
   MM h_a0 h_a0.AY (EY (x := x4369) (by have e0 := of_decide_eq_false h1; have e1 := Cu h_a1; have e2 := Lm a1 8 (by decide); have e3 := Cq h_a0.AY.DF; have e4 := CS a0.AY.DF; have e5 := CS ((Int.tmod a1 8) + (IntKind.wrap .i64 a0.AY.DF)); have e6 := e_x4369; omega))))
theorem Qa {a0 : Ac} {a1 : Int} (h_a0 : As a0) (h_a1 : Bt 0 255 a1) : Ak (fun r => In .u8 r.1 ∧ In .u8 r.2) (BV.f a0 a1) := by
 unfold BV.f
 exact Ak.bif (fun h1 =>
  Ak.mk ⟨(B7 rfl rfl), (B7 rfl rfl)⟩) (fun h1 =>
  Ak.bif (fun h2 =>
   Ak.bif (fun h3 =>
    Ak.mk ⟨(B7 rfl rfl), (B7 rfl rfl)⟩) (fun h3 =>
    ML h_a0 h_a1)) (fun h2 =>
   ML h_a0 h_a1))
theorem Pp {a0 : Ac} {a1 : Int} (h_a0 : As a0) (h_a1 : Bt 0 255 a1) : ∀ (n : Nat) (s : Int) (hi_0 : 0 ≤ s ∧ s ≤ (a0.AP.length : Int)) (hm : (a0.AP.length : Int) - s < (n : Int)), Ak (fun r => In .u8 r.1 ∧ GR r.2) (BI.l2 a0 a1 n s) := by
 intro n
 induction n with
 | zero => intro s hi hm; exfalso; omega
 | succ n ih =>
  intro s hi hm
  unfold BI.l2
  refine Ak.bif (fun h => ?_) (fun _ => Ak.mk ⟨⟨by decide, by decide⟩, ⟨⟨by decide, by decide⟩, ⟨by decide, by decide⟩, ⟨by decide, by decide⟩, ⟨by decide, by decide⟩⟩⟩)
  have h := of_decide_eq_true h
  have hl : (a0.AP.length : Int) < 9223372036854775807 → IntKind.wrap .i64 (s + 1) = s + 1 := fun hh => by rw [CS]; omega
  have hlen := h_a0.x1
  unfold KU at hlen
  have hl := hl (by omega)
  refine Ak.bind (Ak.Wj h_a0.AP hi.1 h) (fun z hz => Ak.bnd (fun x e => Ak.bif (fun _ => ?_) (fun h1 => Ak.bif (fun _ => ?_) (fun h2 => ?_))))
  · exact ih _ (by omega) (by omega)
  · exact ih _ (by omega) (by omega)
  have h1 := of_decide_eq_false h1
  have h2 := of_decide_eq_false h2
  unfold BI.j5
  refine Ak.bif (fun _ => Ak.bind (P4 hz.Ce hz.NN (EY (by rw [CS]; omega))) (fun r hr => Ak.bif (fun _ => Ak.mk ⟨hr, hz⟩) (fun _ => ?_))) (fun _ => Ak.bind (P4 hz.Ce hz.NN (EY (by omega))) (fun r hr => Ak.bif (fun _ => Ak.mk ⟨hr, hz⟩) (fun _ => ?_)))
  · exact ih _ (by omega) (by omega)
  · exact ih _ (by omega) (by omega)
theorem Mg {a0 : Ac} {a1 : Int} {s4471 : Unit} (h_a0 : As a0) (h_a1 : Bt 0 255 a1) : Ak (fun r => In .u8 r.1 ∧ GR r.2) (BI.j1 a0 a1 s4471) := by
 unfold BI.j1
 exact Pp h_a0 h_a1 _ _ (show 0 ≤ 0 ∧ 0 ≤ (a0.AP.length : Int) from by omega) (show (a0.AP.length : Int) - 0 < _ from by omega)
theorem Pz {a0 : Ac} {a1 : Int} (h_a0 : As a0) (h_a1 : Bt 0 255 a1) : Ak (fun r => In .u8 r.1 ∧ GR r.2) (BI.f a0 a1) := by
 unfold BI.f
 exact Ak.bif (fun h1 =>
  Ak.mk ⟨(B7 rfl rfl), ⟨(B7 rfl rfl), (B7 rfl rfl), (B7 rfl rfl), (B7 rfl rfl)⟩⟩) (fun h1 =>
  Ak.bif (fun h2 =>
   Ak.bif (fun h3 =>
    Ak.mk ⟨(B7 rfl rfl), ⟨(B7 rfl rfl), (B7 rfl rfl), (B7 rfl rfl), (B7 rfl rfl)⟩⟩) (fun h3 =>
    Mg h_a0 h_a1)) (fun h2 =>
   Mg h_a0 h_a1))
theorem Kw {a0 : Ac} {a1 : Int} {s4561 : Int} {s4570 : Int} (h_a0 : As a0) (h_a1 : Bt 0 255 a1) (h_s4561 : In .u8 s4561) (h_s4570 : In .u16 s4570) (hp_0 : a0.Av < 240) : Ak (fun r => As r) (Be.j2 a0 a1 s4561 s4570) := by
 unfold Be.j2
 exact Ak.bind (IX ⟨h_a0.BK, h_a0.BU, h_a0.Bu, h_a0.Cn, h_a0.Df, h_a0.AY, h_a0.Aq, h_a0.Cg, h_s4561, h_a0.AV, h_a0.CV, h_a0.Av, h_a0.Ca, h_a0.AP, h_a0.BF, h_a0.x1⟩ (CZ _)) (fun r4586 h1 =>
 Ak.bif (fun h2 =>
  Ak.arr (by have e0 := Cu h_a0.Av; have e1 := Cq (CX _ : In .u8 (Bv .u8 a0.Cg 1)); have e2 := BP a0.Cg 1 (by decide); have e3 := F3 h2; have e4 := hp_0; omega) (by have e0 := Cu h_a0.Av; have e1 := Cq (CX _ : In .u8 (Bv .u8 a0.Cg 1)); have e2 := BP a0.Cg 1 (by decide); have e3 := F3 h2; have e4 := hp_0; omega) (Ak.arr (by have e0 := Cu h_a1; have e1 := Cq (CX _ : In .u8 (Bv .u8 a0.Cg 1)); have e2 := BP a0.Cg 1 (by decide); have e3 := F3 h2; have e4 := Cu h_a0.Av; have e5 := hp_0; omega) (by have e0 := Cu h_a1; have e1 := Cq (CX _ : In .u8 (Bv .u8 a0.Cg 1)); have e2 := BP a0.Cg 1 (by decide); have e3 := F3 h2; have e4 := Cu h_a0.Av; have e5 := hp_0; omega) (Ak.mk ⟨h_a0.BK, h_a0.BU, h_a0.Bu, h_a0.Cn, h_a0.Df, h_a0.AY, h_a0.Aq, h_a0.Cg, h_s4561, h_a0.AV, h_a0.CV, h_a0.Av, h_a0.Ca, h_a0.AP, (Jc h_a0.BF (CX _)), h_a0.x1⟩))) (fun h2 =>
  Ak.arr (by have e0 := Cu h_a0.Av; have e1 := Cq (CX _ : In .u8 (Bv .u8 a0.Cg 1)); have e2 := BP a0.Cg 1 (by decide); have e3 := Ei h2; have e4 := hp_0; omega) (by have e0 := Cu h_a0.Av; have e1 := Cq (CX _ : In .u8 (Bv .u8 a0.Cg 1)); have e2 := BP a0.Cg 1 (by decide); have e3 := Ei h2; have e4 := hp_0; omega) (Ak.arr (by have e0 := Cu h_a1; have e1 := Cq (CX _ : In .u8 (Bv .u8 a0.Cg 1)); have e2 := BP a0.Cg 1 (by decide); have e3 := Ei h2; have e4 := Cu h_a0.Av; have e5 := hp_0; omega) (by have e0 := Cu h_a1; have e1 := Cq (CX _ : In .u8 (Bv .u8 a0.Cg 1)); have e2 := BP a0.Cg 1 (by decide); have e3 := Ei h2; have e4 := Cu h_a0.Av; have e5 := hp_0; omega) (Ak.mk ⟨h_a0.BK, h_a0.BU, h_a0.Bu, h_a0.Cn, h_a0.Df, h_a0.AY, h_a0.Aq, h_a0.Cg, h_s4561, h_a0.AV, h_a0.CV, h_a0.Av, h_a0.Ca, h_a0.AP, (Jc h_a0.BF h1), h_a0.x1⟩))))
theorem Ky {a0 : Ac} {a1 : Int} {r4462 : Int × Int} {r4553 : Int × Au} {s4561 : Int} {s4571 : Bool} (h_a0 : As a0) (h_a1 : Bt 0 255 a1) (h_r4462_1 : In .u8 r4462.1) (h_r4462_2 : In .u8 r4462.2) (h_r4553_1 : In .u8 r4553.1) (h_r4553_2 : GR r4553.2) (h_s4561 : In .u8 s4561) (hp_0 : a0.Av < 240) : Ak (fun r => As r) (Be.j3 a0 a1 r4462 r4553 s4561 s4571) := by
 unfold Be.j3
 exact Ak.bif (fun h1 =>
  Ak.bnd (fun x4579 e_x4579 =>
   have w_x4579 : In .u16 x4579 := O7 e_x4579 (CZ _);
   Kw h_a0 h_a1 h_s4561 w_x4579 (show a0.Av < 240 from by have e0 := Cu h_a0.Av; have e1 := hp_0; have e2 := Cq (CX _ : In .u8 (M5 .u8 (M5 .u8 16 (shl .u8 (Bv .u8 r4553.2.Nq 3) 2)) r4553.1)); have e3 := EW (M5 .u8 (M5 .u8 16 (shl .u8 (Bv .u8 r4553.2.Nq 3) 2)) r4553.1); have e4 := e_x4579; omega))) (fun h1 =>
  Ak.bif (fun h2 =>
   Ak.bnd (fun x4580 e_x4580 =>
    have w_x4580 : In .u16 x4580 := O7 e_x4580 (CZ _);
    Kw h_a0 h_a1 h_s4561 w_x4580 (show a0.Av < 240 from by have e0 := Cu h_a0.Av; have e1 := Cq h_r4462_1; have e2 := F3 h2; have e3 := hp_0; have e4 := Cq (CX _ : In .u8 (M5 .u8 (shl .u8 r4462.2 2) r4462.1)); have e5 := EW (M5 .u8 (shl .u8 r4462.2 2) r4462.1); have e6 := e_x4580; omega))) (fun h2 =>
   Kw h_a0 h_a1 h_s4561 (B7 rfl rfl) (show a0.Av < 240 from by have e0 := Cu h_a0.Av; have e1 := Cq h_r4462_1; have e2 := Ei h2; have e3 := hp_0; omega)))
theorem G9 {a0 : Ac} {a1 : Int} {r4462 : Int × Int} {r4553 : Int × Au} {s4561 : Int} (h_a0 : As a0) (h_a1 : Bt 0 255 a1) (h_r4462_1 : In .u8 r4462.1) (h_r4462_2 : In .u8 r4462.2) (h_r4553_1 : In .u8 r4553.1) (h_r4553_2 : GR r4553.2) (h_s4561 : In .u8 s4561) (hp_0 : a0.Av < 240) : Ak (fun r => As r) (Be.j1 a0 a1 r4462 r4553 s4561) := by
 unfold Be.j1
 exact Ak.bif (fun h1 =>
  Ak.bif (fun h2 =>
   Ky h_a0 h_a1 h_r4462_1 h_r4462_2 h_r4553_1 h_r4553_2 h_s4561 (show a0.Av < 240 from by have e0 := Cu h_a0.Av; have e1 := Cq h_r4553_1; have e2 := F3 h1; have e3 := Cq h_r4462_1; have e4 := eq_of_beq h2; have e5 := hp_0; omega)) (fun h2 =>
   Ky h_a0 h_a1 h_r4462_1 h_r4462_2 h_r4553_1 h_r4553_2 h_s4561 (show a0.Av < 240 from by have e0 := Cu h_a0.Av; have e1 := Cq h_r4553_1; have e2 := F3 h1; have e3 := Cq h_r4462_1; have e4 := ne_of_beq_false h2; have e5 := hp_0; omega))) (fun h1 =>
  Ky h_a0 h_a1 h_r4462_1 h_r4462_2 h_r4553_1 h_r4553_2 h_s4561 (show a0.Av < 240 from by have e0 := Cu h_a0.Av; have e1 := Cq h_r4553_1; have e2 := Ei h1; have e3 := hp_0; omega))
theorem PY {a0 : Ac} {a1 : Int} (h_a0 : As a0) (h_a1 : Bt 0 255 a1) (hp_0 : a0.Av < 240) : Ak (fun r => As r) (Be.f a0 a1) := by
 unfold Be.f
 exact Ak.bind (Qa h_a0 h_a1) (fun r4462 h1 =>
 Ak.bind (Pz h_a0 h_a1) (fun r4553 h2 =>
 Ak.bif (fun h3 =>
  Ak.bif (fun h4 =>
   Ak.bif (fun h5 =>
    Ak.bif (fun h6 =>
     G9 h_a0 h_a1 h1.1 h1.2 h2.1 h2.2 (CX _) (show a0.Av < 240 from by have e0 := Cu h_a0.Av; have e1 := Cq h1.1; have e2 := F3 h3; have e3 := Cq h2.1; have e4 := F3 h4; have e5 := Cu h_a1; have e6 := of_decide_eq_true h6; have e7 := hp_0; omega)) (fun h6 =>
     G9 h_a0 h_a1 h1.1 h1.2 h2.1 h2.2 h_a0.BZ (show a0.Av < 240 from by have e0 := Cu h_a0.Av; have e1 := Cq h1.1; have e2 := F3 h3; have e3 := Cq h2.1; have e4 := F3 h4; have e5 := Cu h_a1; have e6 := of_decide_eq_false h6; have e7 := hp_0; omega))) (fun h5 =>
    G9 h_a0 h_a1 h1.1 h1.2 h2.1 h2.2 h_a0.BZ (show a0.Av < 240 from by have e0 := Cu h_a0.Av; have e1 := Cq h1.1; have e2 := F3 h3; have e3 := Cq h2.1; have e4 := F3 h4; have e5 := hp_0; omega))) (fun h4 =>
   G9 h_a0 h_a1 h1.1 h1.2 h2.1 h2.2 h_a0.BZ (show a0.Av < 240 from by have e0 := Cu h_a0.Av; have e1 := Cq h1.1; have e2 := F3 h3; have e3 := Cq h2.1; have e4 := Ei h4; have e5 := hp_0; omega))) (fun h3 =>
  G9 h_a0 h_a1 h1.1 h1.2 h2.1 h2.2 h_a0.BZ (show a0.Av < 240 from by have e0 := Cu h_a0.Av; have e1 := Cq h1.1; have e2 := Ei h3; have e3 := hp_0; omega))))
theorem MK {a0 : Ac} (h_a0 : As a0) : Ak (fun _ => True) (Fu.f a0) := by
 unfold Fu.f
 exact Ak.mk trivial
theorem S7 {a0 : Bq} (h_a0 : Dc a0) : Ak (fun r => Dc r) (LH.f a0) := by
 unfold LH.f
 exact Ak.bind (E7 h_a0) (fun r4625 h1 =>
 Ak.bind (Kr h1.Hw (B7 rfl rfl) h1.Ir) (fun r4629 h2 =>
 Ak.mk ⟨h2, h1.Ir, h1.DF⟩))
theorem Sd {a0 : Bq} (h_a0 : Dc a0) : Ak (fun r => Dc r) (Lh.f a0) := by
 unfold Lh.f
 exact Ak.bind (E7 h_a0) (fun r4641 h1 =>
 Ak.bind (Kr h1.Hw (B7 rfl rfl) h1.Ir) (fun r4645 h2 =>
 Ak.mk ⟨h2, h1.Ir, h1.DF⟩))
theorem Sc {a0 : Bq} (h_a0 : Dc a0) : Ak (fun r => Dc r) (Lg.f a0) := by
 unfold Lg.f
 exact Ak.bind (E7 h_a0) (fun r4657 h1 =>
 Ak.bif (fun h2 =>
  Ak.mk ⟨(CZ _), h1.Ir, h1.DF⟩) (fun h2 =>
  Ak.bnd (fun x4661 e_x4661 =>
   Ak.bif (fun h3 =>
    Ak.mk ⟨(CZ _), h1.Ir, h1.DF⟩) (fun h3 =>
    Ak.bnd (fun x4662 e_x4662 =>
     Ak.bif (fun h4 =>
      Ak.mk ⟨(CZ _), h1.Ir, h1.DF⟩) (fun h4 =>
      Ak.mk ⟨(CZ _), h1.Ir, h1.DF⟩))))))
theorem Kz {a0 : Ac} {s4613 : Bool} (h_a0 : As a0) : Ak (fun r => As r) (Cy.j1 a0 s4613) := by
 unfold Cy.j1
 exact Ak.bif (fun h1 =>
  Ak.bind (S7 h_a0.AY) (fun r4633 h2 =>
  Ak.mk ⟨h_a0.BK, h_a0.BU, h_a0.Bu, h_a0.Cn, h_a0.Df, h2, h_a0.Aq, h_a0.Cg, h_a0.BZ, h_a0.AV, h_a0.CV, h_a0.Av, h_a0.Ca, h_a0.AP, h_a0.BF, h_a0.x1⟩)) (fun h1 =>
  Ak.bif (fun h3 =>
   Ak.bind (Sd h_a0.AY) (fun r4649 h4 =>
   Ak.mk ⟨h_a0.BK, h_a0.BU, h_a0.Bu, h_a0.Cn, h_a0.Df, h4, h_a0.Aq, h_a0.Cg, h_a0.BZ, h_a0.AV, h_a0.CV, h_a0.Av, h_a0.Ca, h_a0.AP, h_a0.BF, h_a0.x1⟩)) (fun h3 =>
   Ak.bif (fun h5 =>
    Ak.bind (Sc h_a0.AY) (fun r4663 h6 =>
    Ak.mk ⟨h_a0.BK, h_a0.BU, h_a0.Bu, h_a0.Cn, h_a0.Df, h6, h_a0.Aq, h_a0.Cg, h_a0.BZ, h_a0.AV, h_a0.CV, h_a0.Av, h_a0.Ca, h_a0.AP, h_a0.BF, h_a0.x1⟩)) (fun h5 =>
    Ak.bif (fun h7 =>
     Ak.bif (fun h8 =>
      Ak.bif (fun h9 =>
       Ak.bind (O8 h_a0.AY) (fun r4669 h10 =>
       Ak.mk ⟨h_a0.BK, h_a0.BU, h_a0.Bu, h_a0.Cn, h_a0.Df, h10, h_a0.Aq, h_a0.Cg, h_a0.BZ, h_a0.AV, h_a0.CV, h_a0.Av, h_a0.Ca, h_a0.AP, h_a0.BF, h_a0.x1⟩)) (fun h9 =>
       Ak.mk h_a0)) (fun h8 =>
      Ak.mk h_a0)) (fun h7 =>
     Ak.mk h_a0))))
theorem Nb {a0 : Ac} (h_a0 : As a0) : Ak (fun r => As r) (Cy.f a0) := by
 unfold Cy.f
 exact Ak.bif (fun h1 =>
  Ak.bif (fun h2 =>
   Kz h_a0) (fun h2 =>
   Kz h_a0)) (fun h1 =>
  Kz h_a0)
theorem PN {a0 : Ac} (h_a0 : As a0) : Ak (fun _ => True) (GY.f a0) := by
 unfold GY.f
 exact Ak.mk trivial
theorem MB {a0 : Ac} (h_a0 : As a0) : Ak (fun r => Bt 8 16 r ∧ ((Bv .u8 a0.Aq 32 = 0 ∧ r = 8) ∨ (Bv .u8 a0.Aq 32 ≠ 0 ∧ r = 16))) (EV.f a0) := by
 unfold EV.f
 exact Ak.bif (fun h1 =>
  Ak.mk ⟨(EY (x := 16) (by have e0 := Cq (CX _ : In .u8 (Bv .u8 a0.Aq 32)); have e1 := BP a0.Aq 32 (by decide); have e2 := F3 h1; omega)), (by have e0 := Cq (CX _ : In .u8 (Bv .u8 a0.Aq 32)); have e1 := BP a0.Aq 32 (by decide); have e2 := F3 h1; omega)⟩) (fun h1 =>
  Ak.mk ⟨(EY (x := 8) (by have e0 := Cq (CX _ : In .u8 (Bv .u8 a0.Aq 32)); have e1 := BP a0.Aq 32 (by decide); have e2 := Ei h1; omega)), (by have e0 := Cq (CX _ : In .u8 (Bv .u8 a0.Aq 32)); have e1 := BP a0.Aq 32 (by decide); have e2 := Ei h1; omega)⟩)
theorem JQ {a0 : Ac} {a1 : Int} {s4729 : Int} (h_a0 : As a0) (h_a1 : Bt 0 252 a1) (h_s4729 : Bt 0 8183 s4729) : Ak (fun r => GR r) (Cj.j2 a0 a1 s4729) := by
 unfold Cj.j2
 exact Ak.arr (by have e0 := Cu h_s4729; omega) (by have e0 := Cu h_s4729; omega) (Ak.arr (by have e0 := Cu h_s4729; have e1 := EW (s4729 + 8); omega) (by have e0 := Cu h_s4729; have e1 := EW (s4729 + 8); omega) (Ak.arr (by have e0 := Cu h_a1; have e1 := CS (a1 + 3); omega) (by have e0 := Cu h_a1; have e1 := CS (a1 + 3); omega) (Ak.mk ⟨(h_a0.BK.e _), (h_a0.BK.e _), (h_a0.Cn.e _), (h_a0.Cn.e _)⟩)))
theorem M9 {a0 : Ac} {a1 : Int} {s4718 : Int} (h_a0 : As a0) (h_a1 : Bt 0 252 a1) (h_s4718 : Bt 0 15 s4718) (hp_0 : (Bv .u8 a0.Aq 32 = 0 → s4718 ≤ 7)) : Ak (fun r => GR r) (Cj.j1 a0 a1 s4718) := by
 unfold Cj.j1
 exact Ak.bif (fun h1 =>
  Ak.bnd (fun x4730 e_x4730 =>
   have w_x4730 : In .u16 x4730 := O7 e_x4730 (CZ _);
   JQ h_a0 h_a1 (EY (x := x4730) (by have e0 := DT w_x4730; have e1 := Cq (CX _ : In .u8 (Bv .u8 a0.Aq 32)); have e2 := BP a0.Aq 32 (by decide); have e3 := F3 h1; have e4 := Cu h_s4718; have e5 := hp_0; have e6 := Cq (CX _ : In .u8 (Bv .u8 (a0.Cn (IntKind.wrap .i64 (a1 + 1)).toNat) 1)); have e7 := BP (a0.Cn (IntKind.wrap .i64 (a1 + 1)).toNat) 1 (by decide); have e8 := EW (Bv .u8 (a0.Cn (IntKind.wrap .i64 (a1 + 1)).toNat) 1); have e9 := EW (4096 * (IntKind.wrap .u16 (Bv .u8 (a0.Cn (IntKind.wrap .i64 (a1 + 1)).toNat) 1))); have e10 := Cq (CX _ : In .u8 (J3 .u8 (a0.Cn (IntKind.wrap .i64 (a1 + 1)).toNat) 1)); have e11 := Cq (h_a0.Cn.e ((IntKind.wrap .i64 (a1 + 1)).toNat)); have e12 := U6 (a0.Cn (IntKind.wrap .i64 (a1 + 1)).toNat) 1 (by decide); have e13 := TX (a0.Cn (IntKind.wrap .i64 (a1 + 1)).toNat) 1; have e14 := EW (J3 .u8 (a0.Cn (IntKind.wrap .i64 (a1 + 1)).toNat) 1); have e15 := EW (16 * (IntKind.wrap .u16 (J3 .u8 (a0.Cn (IntKind.wrap .i64 (a1 + 1)).toNat) 1))); have e16 := EW ((IntKind.wrap .u16 (4096 * (IntKind.wrap .u16 (Bv .u8 (a0.Cn (IntKind.wrap .i64 (a1 + 1)).toNat) 1)))) + (IntKind.wrap .u16 (16 * (IntKind.wrap .u16 (J3 .u8 (a0.Cn (IntKind.wrap .i64 (a1 + 1)).toNat) 1))))); have e17 := WR s4718 8 (by decide); have e18 := CS ((quo .i64 s4718 8) * 8); have e19 := CS (s4718 + (IntKind.wrap .i64 ((quo .i64 s4718 8) * 8))); have e20 := EW (IntKind.wrap .i64 (s4718 + (IntKind.wrap .i64 ((quo .i64 s4718 8) * 8)))); have e21 := EW ((IntKind.wrap .u16 ((IntKind.wrap .u16 (4096 * (IntKind.wrap .u16 (Bv .u8 (a0.Cn (IntKind.wrap .i64 (a1 + 1)).toNat) 1)))) + (IntKind.wrap .u16 (16 * (IntKind.wrap .u16 (J3 .u8 (a0.Cn (IntKind.wrap .i64 (a1 + 1)).toNat) 1)))))) + (IntKind.wrap .u16 (IntKind.wrap .i64 (s4718 + (IntKind.wrap .i64 ((quo .i64 s4718 8) * 8)))))); have e22 := e_x4730; omega)))) (fun h1 =>
  Ak.bnd (fun x4731 e_x4731 =>
   have w_x4731 : In .u16 x4731 := O7 e_x4731 (CZ _);
   Ak.bif (fun h2 =>
    JQ h_a0 h_a1 (EY (x := IntKind.wrap .u16 (x4731 + 4096)) (by have e0 := DT w_x4731; have e1 := EW (x4731 + 4096); have e2 := Cq (CX _ : In .u8 (Bv .u8 a0.Aq 32)); have e3 := BP a0.Aq 32 (by decide); have e4 := Ei h1; have e5 := Cq (CX _ : In .u8 (Bv .u8 a0.Aq 8)); have e6 := BP a0.Aq 8 (by decide); have e7 := F3 h2; have e8 := Cu h_s4718; have e9 := hp_0; have e10 := Cq (h_a0.Cn.e ((IntKind.wrap .i64 (a1 + 1)).toNat)); have e11 := EW (a0.Cn (IntKind.wrap .i64 (a1 + 1)).toNat); have e12 := EW (16 * (IntKind.wrap .u16 (a0.Cn (IntKind.wrap .i64 (a1 + 1)).toNat))); have e13 := EW s4718; have e14 := EW ((IntKind.wrap .u16 (16 * (IntKind.wrap .u16 (a0.Cn (IntKind.wrap .i64 (a1 + 1)).toNat)))) + (IntKind.wrap .u16 s4718)); have e15 := e_x4731; omega))) (fun h2 =>
    JQ h_a0 h_a1 (EY (x := x4731) (by have e0 := DT w_x4731; have e1 := Cq (CX _ : In .u8 (Bv .u8 a0.Aq 32)); have e2 := BP a0.Aq 32 (by decide); have e3 := Ei h1; have e4 := Cq (CX _ : In .u8 (Bv .u8 a0.Aq 8)); have e5 := BP a0.Aq 8 (by decide); have e6 := Ei h2; have e7 := Cu h_s4718; have e8 := hp_0; have e9 := Cq (h_a0.Cn.e ((IntKind.wrap .i64 (a1 + 1)).toNat)); have e10 := EW (a0.Cn (IntKind.wrap .i64 (a1 + 1)).toNat); have e11 := EW (16 * (IntKind.wrap .u16 (a0.Cn (IntKind.wrap .i64 (a1 + 1)).toNat))); have e12 := EW s4718; have e13 := EW ((IntKind.wrap .u16 (16 * (IntKind.wrap .u16 (a0.Cn (IntKind.wrap .i64 (a1 + 1)).toNat)))) + (IntKind.wrap .u16 s4718)); have e14 := e_x4731; omega)))))
theorem PL {a0 : Ac} {a1 : Int} {a2 : Int} (h_a0 : As a0) (h_a1 : Bt 0 252 a1) (h_a2 : Bt 0 15 a2) (hp_0 : (Bv .u8 a0.Aq 32 = 0 → a2 ≤ 7)) : Ak (fun r => GR r) (Cj.f a0 a1 a2) := by
 unfold Cj.f
 exact Ak.arr (by have e0 := Cu h_a1; have e1 := CS (a1 + 1); have e2 := Cq (CX _ : In .u8 (Bv .u8 a0.Aq 32)); have e3 := BP a0.Aq 32 (by decide); have e4 := Cu h_a2; have e5 := hp_0; omega) (by have e0 := Cu h_a1; have e1 := CS (a1 + 1); have e2 := Cq (CX _ : In .u8 (Bv .u8 a0.Aq 32)); have e3 := BP a0.Aq 32 (by decide); have e4 := Cu h_a2; have e5 := hp_0; omega) (Ak.arr (by have e0 := Cu h_a1; have e1 := CS (a1 + 2); have e2 := Cq (CX _ : In .u8 (Bv .u8 a0.Aq 32)); have e3 := BP a0.Aq 32 (by decide); have e4 := Cu h_a2; have e5 := hp_0; omega) (by have e0 := Cu h_a1; have e1 := CS (a1 + 2); have e2 := Cq (CX _ : In .u8 (Bv .u8 a0.Aq 32)); have e3 := BP a0.Aq 32 (by decide); have e4 := Cu h_a2; have e5 := hp_0; omega) (Ak.bif (fun h1 =>
  Ak.bind (MB h_a0) (fun r4719 h2 =>
  Ak.bnd (fun x4723 e_x4723 =>
   M9 h_a0 h_a1 (EY (x := x4723) (by have e0 := Cq (CX _ : In .u8 (Bv .u8 (a0.Cn (IntKind.wrap .i64 (a1 + 2)).toNat) 128)); have e1 := BP (a0.Cn (IntKind.wrap .i64 (a1 + 2)).toNat) 128 (by decide); have e2 := F3 h1; have e3 := Cq (CX _ : In .u8 (Bv .u8 a0.Aq 32)); have e4 := BP a0.Aq 32 (by decide); have e5 := Cu h_a2; have e6 := hp_0; have e7 := Cu h2.1; have e8 := h2.2; have e9 := CS (r4719 - 1); have e10 := CS ((IntKind.wrap .i64 (r4719 - 1)) - a2); have e11 := e_x4723; omega)) (show (Bv .u8 a0.Aq 32 = 0 → x4723 ≤ 7) from by have e0 := Cq (CX _ : In .u8 (Bv .u8 a0.Aq 32)); have e1 := BP a0.Aq 32 (by decide); have e2 := Cq (CX _ : In .u8 (Bv .u8 (a0.Cn (IntKind.wrap .i64 (a1 + 2)).toNat) 128)); have e3 := BP (a0.Cn (IntKind.wrap .i64 (a1 + 2)).toNat) 128 (by decide); have e4 := F3 h1; have e5 := Cu h_a2; have e6 := hp_0; have e7 := Cu h2.1; have e8 := h2.2; have e9 := CS (r4719 - 1); have e10 := CS ((IntKind.wrap .i64 (r4719 - 1)) - a2); have e11 := e_x4723; omega)))) (fun h1 =>
  M9 h_a0 h_a1 h_a2 (show (Bv .u8 a0.Aq 32 = 0 → a2 ≤ 7) from by have e0 := Cq (CX _ : In .u8 (Bv .u8 a0.Aq 32)); have e1 := BP a0.Aq 32 (by decide); have e2 := Cu h_a2; have e3 := Cq (CX _ : In .u8 (Bv .u8 (a0.Cn (IntKind.wrap .i64 (a1 + 2)).toNat) 128)); have e4 := BP (a0.Cn (IntKind.wrap .i64 (a1 + 2)).toNat) 128 (by decide); have e5 := Ei h1; have e6 := hp_0; omega))))
theorem Po {a0 : Ac} (h_a0 : As a0) : ∀ (n : Nat) (s : (List Au) × Int) (h_s : XI GR s.1) (hi_0 : 0 ≤ s.2 ∧ s.2 ≤ 256 ∧ s.2 % 4 = 0) (hi_1 : (s.1.length : Int) ≤ 8) (hm : 256 - s.2 < (n : Int)), Ak (fun r => As r) (AB.l2 a0 n s) := by
 intro n
 induction n with
 | zero => intro s hs hi hl hm; exfalso; omega
 | succ n ih =>
  intro s hs hi hl hm
  unfold AB.l2
  refine Ak.bif (fun h => ?_) (fun _ => Ak.mk ⟨h_a0.BK, h_a0.BU, h_a0.Bu, h_a0.Cn, h_a0.Df, h_a0.AY, h_a0.Aq, h_a0.Cg, h_a0.BZ, h_a0.AV, h_a0.CV, h_a0.Av, h_a0.Ca, hs, h_a0.BF, (by unfold KU; simp only []; omega)⟩)
  have h := of_decide_eq_true h
  have e4 : IntKind.wrap .i64 (s.2 + 4) = s.2 + 4 := by rw [CS]; omega
  refine Ak.arr hi.1 h (Ak.bif (fun _ => ?_) (fun h1 => ?_))
  · exact ih _ hs (by simp only []; omega) hl (by simp only []; omega)
  have h1 := of_decide_eq_false h1
  refine Ak.bind (MB ⟨h_a0.BK, h_a0.BU, h_a0.Bu, h_a0.Cn, h_a0.Df, h_a0.AY, h_a0.Aq, h_a0.Cg, h_a0.BZ, h_a0.AV, h_a0.CV, h_a0.Av, h_a0.Ca, hs, h_a0.BF, (by unfold KU; simp only []; omega)⟩) (fun r hr => Ak.bif (fun _ => ?_) (fun h2 => ?_))
  · exact ih _ hs (by simp only []; omega) hl (by simp only []; omega)
  have h2 := of_decide_eq_false h2
  have hb := Cu hr.1
  have hc := hr.2
  simp only [] at hc
  unfold AB.j5
  refine Ak.bif (fun _ => Ak.mk ⟨h_a0.BK, h_a0.BU, h_a0.Bu, h_a0.Cn, h_a0.Df, h_a0.AY, h_a0.Aq, h_a0.Cg, (CX _), h_a0.AV, h_a0.CV, h_a0.Av, h_a0.Ca, hs, h_a0.BF, (by unfold KU; simp only []; omega)⟩) (fun h3 => ?_)
  have h3 := ne_of_beq_false h3
  refine Ak.bind (PL ⟨h_a0.BK, h_a0.BU, h_a0.Bu, h_a0.Cn, h_a0.Df, h_a0.AY, h_a0.Aq, h_a0.Cg, h_a0.BZ, h_a0.AV, h_a0.CV, h_a0.Av, h_a0.Ca, hs, h_a0.BF, (by unfold KU; simp only []; omega)⟩ (EY (by omega)) (EY (by omega)) (by simp only []; omega)) (fun q hq => Ak.bind (Ak.lim (by simp only [List.length_cons, List.length_nil]; omega)) (fun _ _ => ?_))
  exact ih _ (XR hs hq) (by simp only []; omega) (by simp only [List.length_append, List.length_cons, List.length_nil]; omega) (by simp only []; omega)
theorem Pn {a0 : Ac} {s4680 : Unit} (h_a0 : As a0) : Ak (fun r => As r) (AB.j1 a0 s4680) := by
 unfold AB.j1
 exact Po h_a0 _ _ SI (show 0 ≤ 0 ∧ 0 ≤ 256 ∧ 0 % 4 = 0 from by omega) (show (([]).length : Int) ≤ 8 from by simp only [List.length_cons, List.length_nil]; omega) (show 256 - 0 < _ from by omega)
theorem Iq {a0 : Ac} {a1 : Bool} (h_a0 : As a0) : Ak (fun r => As r) (AB.f a0 a1) := by
 unfold AB.f
 exact Ak.bif (fun h1 =>
  Ak.mk ⟨h_a0.BK, h_a0.BU, h_a0.Bu, h_a0.Cn, h_a0.Df, h_a0.AY, h_a0.Aq, h_a0.Cg, h_a0.BZ, h_a0.AV, h_a0.CV, h_a0.Av, h_a0.Ca, SI, h_a0.BF, (show (([] : List Au)).length ≤ 8 from by simp only [List.length_cons, List.length_nil, List.length_append]; omega)⟩) (fun h1 =>
  Ak.bind (PN ⟨h_a0.BK, h_a0.BU, h_a0.Bu, h_a0.Cn, h_a0.Df, h_a0.AY, h_a0.Aq, h_a0.Cg, h_a0.BZ, h_a0.AV, h_a0.CV, h_a0.Av, h_a0.Ca, SI, h_a0.BF, (show (([] : List Au)).length ≤ 8 from by simp only [List.length_cons, List.length_nil, List.length_append]; omega)⟩) (fun r4686 _ =>
  Ak.bif (fun h3 =>
   Ak.mk ⟨h_a0.BK, h_a0.BU, h_a0.Bu, h_a0.Cn, h_a0.Df, h_a0.AY, h_a0.Aq, h_a0.Cg, h_a0.BZ, h_a0.AV, h_a0.CV, h_a0.Av, h_a0.Ca, SI, h_a0.BF, (show (([] : List Au)).length ≤ 8 from by simp only [List.length_cons, List.length_nil, List.length_append]; omega)⟩) (fun h3 =>
   Pn h_a0)))
theorem GA {a0 : Ac} {s4914 : Int} (h_a0 : As a0) (h_s4914 : Bt 0 342 s4914) : Ak (fun r => As r) (Bf.j1 a0 s4914) := by
 unfold Bf.j1
 exact Ak.bif (fun h1 =>
  Ak.mk ⟨h_a0.BK, h_a0.BU, h_a0.Bu, h_a0.Cn, h_a0.Df, h_a0.AY, h_a0.Aq, h_a0.Cg, h_a0.BZ, h_a0.AV, h_a0.CV, h_a0.Av, (EY (x := s4914) (by have e0 := Cu h_s4914; have e1 := of_decide_eq_true h1; omega)), h_a0.AP, h_a0.BF, h_a0.x1⟩) (fun h1 =>
  Ak.bif (fun h2 =>
   Ak.mk ⟨h_a0.BK, h_a0.BU, h_a0.Bu, h_a0.Cn, h_a0.Df, h_a0.AY, h_a0.Aq, h_a0.Cg, h_a0.BZ, h_a0.AV, h_a0.CV, (EY (x := 0) (by have e0 := Cu h_s4914; have e1 := of_decide_eq_false h1; have e2 := Cu h_a0.Av; have e3 := CS (a0.Av + 1); have e4 := eq_of_beq h2; omega)), (EY (x := 0) (by have e0 := Cu h_s4914; have e1 := of_decide_eq_false h1; have e2 := Cu h_a0.Av; have e3 := CS (a0.Av + 1); have e4 := eq_of_beq h2; omega)), h_a0.AP, h_a0.BF, h_a0.x1⟩) (fun h2 =>
   Ak.mk ⟨h_a0.BK, h_a0.BU, h_a0.Bu, h_a0.Cn, h_a0.Df, h_a0.AY, h_a0.Aq, h_a0.Cg, h_a0.BZ, h_a0.AV, h_a0.CV, (EY (x := IntKind.wrap .i64 (a0.Av + 1)) (by have e0 := Cu h_a0.Av; have e1 := CS (a0.Av + 1); have e2 := Cu h_s4914; have e3 := of_decide_eq_false h1; have e4 := ne_of_beq_false h2; omega)), (EY (x := 0) (by have e0 := Cu h_s4914; have e1 := of_decide_eq_false h1; have e2 := Cu h_a0.Av; have e3 := CS (a0.Av + 1); have e4 := ne_of_beq_false h2; omega)), h_a0.AP, h_a0.BF, h_a0.x1⟩))
theorem Ew {a0 : Ac} (h_a0 : As a0) : Ak (fun r => As r) (Bf.f a0) := by
 unfold Bf.f
 exact Ak.bif (fun h1 =>
  Ak.bif (fun h2 =>
   Ak.bif (fun h3 =>
    Ak.bind (MK ⟨h_a0.BK, h_a0.BU, h_a0.Bu, h_a0.Cn, h_a0.Df, h_a0.AY, h_a0.Aq, h_a0.Cg, h_a0.BZ, h_a0.AV, h_a0.CV, h_a0.Av, (EY (x := IntKind.wrap .i64 (a0.Ca + 1)) (by have e0 := Cu h_a0.Ca; have e1 := CS (a0.Ca + 1); have e2 := Cu h_a0.Av; have e3 := eq_of_beq h1; have e4 := eq_of_beq h2; omega)), h_a0.AP, h_a0.BF, h_a0.x1⟩) (fun r4918 _ =>
    Ak.bif (fun h5 =>
     GA h_a0 (EY (x := IntKind.wrap .i64 ((IntKind.wrap .i64 (a0.Ca + 1)) + 1)) (by have e0 := Cu h_a0.Ca; have e1 := CS (a0.Ca + 1); have e2 := CS ((IntKind.wrap .i64 (a0.Ca + 1)) + 1); have e3 := Cu h_a0.Av; have e4 := eq_of_beq h1; have e5 := eq_of_beq h2; omega))) (fun h5 =>
     GA h_a0 (EY (x := IntKind.wrap .i64 (a0.Ca + 1)) (by have e0 := Cu h_a0.Ca; have e1 := CS (a0.Ca + 1); have e2 := Cu h_a0.Av; have e3 := eq_of_beq h1; have e4 := eq_of_beq h2; omega))))) (fun h3 =>
    GA h_a0 (EY (x := IntKind.wrap .i64 (a0.Ca + 1)) (by have e0 := Cu h_a0.Ca; have e1 := CS (a0.Ca + 1); have e2 := Cu h_a0.Av; have e3 := eq_of_beq h1; have e4 := eq_of_beq h2; omega)))) (fun h2 =>
   GA h_a0 (EY (x := IntKind.wrap .i64 (a0.Ca + 1)) (by have e0 := Cu h_a0.Ca; have e1 := CS (a0.Ca + 1); have e2 := Cu h_a0.Av; have e3 := eq_of_beq h1; have e4 := ne_of_beq_false h2; omega)))) (fun h1 =>
  GA h_a0 (EY (x := IntKind.wrap .i64 (a0.Ca + 1)) (by have e0 := Cu h_a0.Ca; have e1 := CS (a0.Ca + 1); have e2 := Cu h_a0.Av; have e3 := ne_of_beq_false h1; omega)))
theorem Ip {a0 : Ac} {s4354 : Ac} (h_a0 : As a0) (h_s4354 : As s4354) : Ak (fun r => As r) (AR.j3 a0 s4354) := by
 unfold AR.j3
 exact Ak.bind (MK h_s4354) (fun r4606 _ =>
 Ak.bif (fun h2 =>
  Ak.bif (fun h3 =>
   Ak.bind (Nb h_s4354) (fun r4673 h4 =>
   Ak.bif (fun h5 =>
    Ak.bind (Iq h4) (fun r4903 h6 =>
    Ak.bind (Ew h6) (fun r4927 h7 =>
    Ak.mk h7))) (fun h5 =>
    Ak.bind (Ew h4) (fun r4933 h8 =>
    Ak.mk h8)))) (fun h3 =>
   Ak.bif (fun h9 =>
    Ak.bind (Nb h_s4354) (fun r4939 h10 =>
    Ak.bif (fun h11 =>
     Ak.bind (Iq h10) (fun r4945 h12 =>
     Ak.bind (Ew h12) (fun r4955 h13 =>
     Ak.mk h13))) (fun h11 =>
     Ak.bind (Ew h10) (fun r4961 h14 =>
     Ak.mk h14)))) (fun h9 =>
    Ak.bif (fun h15 =>
     Ak.bind (Iq h_s4354) (fun r4967 h16 =>
     Ak.bind (Ew h16) (fun r4977 h17 =>
     Ak.mk h17))) (fun h15 =>
     Ak.bind (Ew h_s4354) (fun r4983 h18 =>
     Ak.mk h18))))) (fun h2 =>
  Ak.bif (fun h19 =>
   Ak.bind (Iq h_s4354) (fun r4989 h20 =>
   Ak.bind (Ew h20) (fun r4999 h21 =>
   Ak.mk h21))) (fun h19 =>
   Ak.bind (Ew h_s4354) (fun r5005 h22 =>
   Ak.mk h22))))
theorem Io {a0 : Ac} {s4340 : Int × Int} (h_a0 : As a0) (h_s4340_1 : In .u8 s4340.1) : Ak (fun r => As r) (AR.j1 a0 s4340) := by
 unfold AR.j1
 exact Ak.bif (fun h1 =>
  Ak.bif (fun h2 =>
   Ak.bif (fun h3 =>
    Ak.bind (PY ⟨h_a0.BK, h_a0.BU, h_a0.Bu, h_a0.Cn, h_a0.Df, h_a0.AY, h_a0.Aq, h_a0.Cg, h_s4340_1, h_a0.AV, h_a0.CV, h_a0.Av, h_a0.Ca, h_a0.AP, h_a0.BF, h_a0.x1⟩ (EY (x := IntKind.wrap .i64 (a0.Ca - 1)) (by have e0 := Cu h_a0.Ca; have e1 := CS (a0.Ca - 1); have e2 := Cu h_a0.Av; have e3 := of_decide_eq_true h1; have e4 := of_decide_eq_true h2; have e5 := of_decide_eq_true h3; omega)) (show a0.Av < 240 from by have e0 := Cu h_a0.Av; have e1 := of_decide_eq_true h1; have e2 := Cu h_a0.Ca; have e3 := of_decide_eq_true h2; have e4 := of_decide_eq_true h3; omega)) (fun r4594 h4 =>
    Ip h_a0 h4)) (fun h3 =>
    Ip h_a0 ⟨h_a0.BK, h_a0.BU, h_a0.Bu, h_a0.Cn, h_a0.Df, h_a0.AY, h_a0.Aq, h_a0.Cg, h_s4340_1, h_a0.AV, h_a0.CV, h_a0.Av, h_a0.Ca, h_a0.AP, h_a0.BF, h_a0.x1⟩)) (fun h2 =>
   Ip h_a0 ⟨h_a0.BK, h_a0.BU, h_a0.Bu, h_a0.Cn, h_a0.Df, h_a0.AY, h_a0.Aq, h_a0.Cg, h_s4340_1, h_a0.AV, h_a0.CV, h_a0.Av, h_a0.Ca, h_a0.AP, h_a0.BF, h_a0.x1⟩)) (fun h1 =>
  Ip h_a0 ⟨h_a0.BK, h_a0.BU, h_a0.Bu, h_a0.Cn, h_a0.Df, h_a0.AY, h_a0.Aq, h_a0.Cg, h_s4340_1, h_a0.AV, h_a0.CV, h_a0.Av, h_a0.Ca, h_a0.AP, h_a0.BF, h_a0.x1⟩)
theorem M8 {a0 : Ac} {s4341 : Bool} (h_a0 : As a0) : Ak (fun r => As r) (AR.j2 a0 s4341) := by
 unfold AR.j2
 exact Ak.bif (fun h1 =>
  Io h_a0 (CX _)) (fun h1 =>
  Ak.bif (fun h2 =>
   Ak.bif (fun h3 =>
    Io h_a0 (B7 rfl rfl)) (fun h3 =>
    Io h_a0 h_a0.BZ)) (fun h2 =>
   Io h_a0 h_a0.BZ))
theorem PG {a0 : Ac} (h_a0 : As a0) : Ak (fun r => As r) (AR.f a0) := by
 unfold AR.f
 exact Ak.bif (fun h1 =>
  M8 h_a0) (fun h1 =>
  M8 h_a0)
theorem Mb {a0 : Al} {s : Aa × Aa × Aa × Aa × Bool × Int} {k : (Aa × Aa × Aa × Aa × Bool × Int) → Option (Al × Aa × Aa × Aa × Aa)} {q : Aa × Aa × Aa × Aa} {P : (Al × Aa × Aa × Aa × Aa) → Prop} (hk : ∀ b, Ak P (k (q.1, q.2.1, q.2.2.1, q.2.2.2, b, IntKind.wrap .i64 (s.2.2.2.2.2 + 1)))) : Ak P (BX.j4 a0 s k q) := by
 unfold BX.j4
 exact Ak.bif (fun _ => hk _) (fun _ => Ak.bif (fun _ => Ak.bif (fun _ => hk _) (fun _ => hk _)) (fun _ => hk _))
theorem OR {a0 : Al} {z : List Int} (h_a0 : Bl a0) (hp_0 : (z.length : Int) = 4) : ∀ (n : Nat) (s : Aa × Aa × Aa × Aa × Bool × Int) (h1 : Ah s.1) (h2 : Ah s.2.1) (h3 : Ah s.2.2.1) (h4 : Ah s.2.2.2.1) (hi_0 : 0 ≤ s.2.2.2.2.2 ∧ s.2.2.2.2.2 ≤ 4) (hm : 4 - s.2.2.2.2.2 < (n : Int)), Ak (fun r => Bl r.1 ∧ Ah r.2.1 ∧ Ah r.2.2.1 ∧ Ah r.2.2.2.1 ∧ Ah r.2.2.2.2) (BX.l1 a0 z n s) := by
 intro n
 induction n with
 | zero => intro s h1 h2 h3 h4 hi hm; exfalso; omega
 | succ n ih =>
  intro s h1 h2 h3 h4 hi hm
  unfold BX.l1
  have hmn := Cu h_a0.C4
  have e1 : s.2.2.2.2.2 < 4 → IntKind.wrap .i64 (s.2.2.2.2.2 + 1) = s.2.2.2.2.2 + 1 := fun _ => by rw [CS]; omega
  refine Ak.bif (fun h => ?_) (fun h => ?_)
  · have h := of_decide_eq_true h
    have e1 := e1 h
    refine Ak.bind (Ak.SO hi.1 (by omega)) (fun y _ => Ak.bif (fun _ => ?_) (fun _ => ?_))
    · exact ih _ h1 h2 h3 h4 (by simp only []; omega) (by simp only []; omega)
    refine Ak.bind (Ef h1) (fun q1 g1 => Ak.bind (Ef h2) (fun q2 g2 => Ak.bind (Ef h3) (fun q3 g3 => Ak.bind (Ef h4) (fun q4 g4 => ?_))))
    refine Ak.bif (fun _ => ?_) (fun _ => ?_)
    · refine Ak.bind (EC g1) (fun p1 f1 => Ak.bind (EC g2) (fun p2 f2 => Ak.bind (EC g3) (fun p3 f3 => Ak.bind (EC g4) (fun p4 f4 => ?_))))
      exact Mb (fun b => ih _ f1 f2 f3 f4 (by simp only []; omega) (by simp only []; omega))
    · exact Mb (fun b => ih _ g1 g2 g3 g4 (by simp only []; omega) (by simp only []; omega))
  · refine Ak.arr hmn.1 (by omega) (Ak.arr (by omega) (by omega) (Ak.neg hmn.1 (Ak.bind (Ak.US (n := 8) (by omega) (by omega) rfl) (fun y _ => Ak.bif (fun _ => ?_) (fun _ => ?_)))))
    · exact Ak.mk ⟨⟨h_a0.Ae, h_a0.C4⟩, h1, h2, h3, h4⟩
    · exact Ak.mk ⟨⟨h_a0.Ae, h_a0.C4⟩, h1, h2, h3, h4⟩
theorem Pw {a0 : Al} {b1 b2 b3 b4 : Aa} (h_a0 : Bl a0) (h1 : Ah b1) (h2 : Ah b2) (h3 : Ah b3) (h4 : Ah b4) : Ak (fun r => Bl r.1 ∧ Ah r.2.1 ∧ Ah r.2.2.1 ∧ Ah r.2.2.2.1 ∧ Ah r.2.2.2.2) (BX.f a0 b1 b2 b3 b4) := by
 unfold BX.f
 have hmn := Cu h_a0.C4
 refine Ak.arr hmn.1 (by omega) (Ak.neg hmn.1 (Ak.bind (Ak.Si (by omega) (by omega) (by rw [show (VP.length : Int) = 8 from rfl]; omega)) (fun z hz => ?_)))
 exact OR h_a0 (by rw [hz.1]; omega) _ _ h1 h2 h3 h4 (by simp only []; omega) (by simp only []; omega)
theorem P8 {a0 : Aa} {s5268 : Int} (h_a0 : Ah a0) (h_s5268 : In .u16 s5268) : Ak (fun r => Ah r) (E4.j1 a0 s5268) := by
 unfold E4.j1
 exact Ak.mk ⟨h_a0.CY, h_a0.AM, h_a0.CP, h_a0.Cb, h_a0.Cb, h_a0.Ev, h_a0.BM, h_a0.BN, h_a0.Dk, h_a0.Av, (CZ _)⟩
theorem Mf {a0 : Aa} (h_a0 : Ah a0) : Ak (fun r => Ah r) (E4.f a0) := by
 unfold E4.f
 exact Ak.bif (fun h1 =>
  Ak.mk ⟨h_a0.CY, h_a0.AM, h_a0.CP, h_a0.Cb, (CZ _), h_a0.Ev, h_a0.BM, h_a0.BN, h_a0.Dk, h_a0.Av, h_a0.Bw⟩) (fun h1 =>
  Ak.bif (fun h2 =>
   Ak.bif (fun h3 =>
    Ak.bif (fun h4 =>
     Ak.mk ⟨h_a0.CY, h_a0.AM, h_a0.CP, h_a0.Cb, h_a0.Cb, (Xk (CX _)), h_a0.BM, h_a0.BN, h_a0.Dk, h_a0.Av, h_a0.Bw⟩) (fun h4 =>
     Ak.mk ⟨h_a0.CY, h_a0.AM, h_a0.CP, h_a0.Cb, h_a0.Cb, h_a0.Ev, h_a0.BM, h_a0.BN, h_a0.Dk, h_a0.Av, h_a0.Bw⟩)) (fun h3 =>
    Ak.mk ⟨h_a0.CY, h_a0.AM, h_a0.CP, h_a0.Cb, h_a0.Cb, h_a0.Ev, h_a0.BM, h_a0.BN, h_a0.Dk, h_a0.Av, h_a0.Bw⟩)) (fun h2 =>
   Ak.bif (fun h5 =>
    Ak.arr (by have e0 := DT h_a0.A9; have e1 := of_decide_eq_false h1; have e2 := Cq h_a0.CY; have e3 := ne_of_beq_false h2; have e4 := eq_of_beq h5; omega) (by have e0 := DT h_a0.A9; have e1 := of_decide_eq_false h1; have e2 := Cq h_a0.CY; have e3 := ne_of_beq_false h2; have e4 := eq_of_beq h5; omega) (Ak.bif (fun h6 =>
     P8 h_a0 (VN h_a0.Bw)) (fun h6 =>
     P8 h_a0 (VN h_a0.Bw)))) (fun h5 =>
    Ak.mk ⟨h_a0.CY, h_a0.AM, h_a0.CP, h_a0.Cb, h_a0.Cb, (Xk (CX _)), h_a0.BM, h_a0.BN, h_a0.Dk, h_a0.Av, h_a0.Bw⟩)))
theorem J2 {a0 : Al} {s5314 : Bool} (h_a0 : Bl a0) : Ak (fun r => Bl r) (Co.j1 a0 s5314) := by
 unfold Co.j1
 exact Ak.bif (fun h1 =>
  Ak.mk ⟨⟨h_a0.Ae.AM, (CX _), h_a0.Ae.GB, (Vb h_a0.Ae.Bw), h_a0.Ae.FX, h_a0.Ae.A9, h_a0.Ae.BD⟩, h_a0.C4⟩) (fun h1 =>
  Ak.bif (fun h2 =>
   Ak.bif (fun h3 =>
    Ak.mk ⟨⟨h_a0.Ae.AM, (CX _), h_a0.Ae.GB, (Vb h_a0.Ae.Bw), h_a0.Ae.FX, h_a0.Ae.A9, h_a0.Ae.BD⟩, h_a0.C4⟩) (fun h3 =>
    Ak.mk ⟨⟨h_a0.Ae.AM, h_a0.Ae.BM, h_a0.Ae.GB, (Vb h_a0.Ae.Bw), h_a0.Ae.FX, h_a0.Ae.A9, h_a0.Ae.BD⟩, h_a0.C4⟩)) (fun h2 =>
   Ak.mk ⟨⟨h_a0.Ae.AM, h_a0.Ae.BM, h_a0.Ae.GB, (Vb h_a0.Ae.Bw), h_a0.Ae.FX, h_a0.Ae.A9, h_a0.Ae.BD⟩, h_a0.C4⟩))
theorem Nc {a0 : Al} {a0c1 : Aa} {a0c2 : Aa} {a0c3 : Aa} {a0c4 : Aa} (h_a0 : Bl a0) (h_a0c1 : Ah a0c1) (h_a0c2 : Ah a0c2) (h_a0c3 : Ah a0c3) (h_a0c4 : Ah a0c4) : Ak (fun r => Bl r) (Co.f a0 a0c1 a0c2 a0c3 a0c4) := by
 unfold Co.f
 exact Ak.bif (fun h1 =>
  Ak.mk h_a0) (fun h1 =>
  Ak.bif (fun h2 =>
   J2 h_a0) (fun h2 =>
   J2 h_a0))
theorem Jr {a0 : Al} {a0c1 : Aa} {a0c2 : Aa} {a0c3 : Aa} {a0c4 : Aa} (h_a0 : Bl a0) (h_a0c1 : Ah a0c1) (h_a0c2 : Ah a0c2) (h_a0c3 : Ah a0c3) (h_a0c4 : Ah a0c4) : Ak (fun r => Bl r) (Dj.f a0 a0c1 a0c2 a0c3 a0c4) := by
 unfold Dj.f
 exact Ak.bif (fun h1 =>
  Ak.mk ⟨⟨h_a0.Ae.AM, h_a0.Ae.BM, h_a0.Ae.GB, h_a0.Ae.Bw, h_a0.Ae.FX, (CZ _), h_a0.Ae.BD⟩, h_a0.C4⟩) (fun h1 =>
  Ak.arr (by have e0 := DT h_a0.Ae.A9; have e1 := of_decide_eq_false h1; omega) (by have e0 := DT h_a0.Ae.A9; have e1 := of_decide_eq_false h1; omega) (Ak.bind (Ak.IE (Q := In .u16) (n := 16) (by have e0 := Cq (CX _ : In .u8 (Bv .u8 (a0.Ae.AM (0 : Int).toNat) 15)); have e1 := BP (a0.Ae.AM (0 : Int).toNat) 15 (by decide); have e2 := DT h_a0.Ae.A9; have e3 := of_decide_eq_false h1; omega) (by have e0 := Cq (CX _ : In .u8 (Bv .u8 (a0.Ae.AM (0 : Int).toNat) 15)); have e1 := BP (a0.Ae.AM (0 : Int).toNat) 15 (by decide); have e2 := DT h_a0.Ae.A9; have e3 := of_decide_eq_false h1; omega) rfl (XP rfl)) (fun z5305 h2 =>
  Ak.bind (Nc ⟨⟨h_a0.Ae.AM, h_a0.Ae.BM, h_a0.Ae.GB, h_a0.Ae.Bw, h_a0.Ae.FX, (CZ _), h_a0.Ae.BD⟩, h_a0.C4⟩ h_a0c1 h_a0c2 h_a0c3 h_a0c4) (fun r5322 h3 =>
  Ak.bif (fun h4 =>
   Ak.mk ⟨⟨h3.Ae.AM, h3.Ae.BM, h3.Ae.GB, h3.Ae.Bw, (CX _), h3.Ae.A9, h3.Ae.BD⟩, h3.C4⟩) (fun h4 =>
   Ak.bif (fun h5 =>
    Ak.mk ⟨⟨h3.Ae.AM, h3.Ae.BM, h3.Ae.GB, h3.Ae.GB, (B7 rfl rfl), h3.Ae.A9, h3.Ae.BD⟩, h3.C4⟩) (fun h5 =>
    Ak.mk ⟨⟨h3.Ae.AM, h3.Ae.BM, h3.Ae.GB, h3.Ae.Bw, (B7 rfl rfl), h3.Ae.A9, h3.Ae.BD⟩, h3.C4⟩))))))
theorem OQ {a0 : Al} {a0c1 : Aa} {a0c2 : Aa} {a0c3 : Aa} {a0c4 : Aa} (h_a0 : Bl a0) (h_a0c1 : Ah a0c1) (h_a0c2 : Ah a0c2) (h_a0c3 : Ah a0c3) (h_a0c4 : Ah a0c4) : Ak (fun r => Bl r.1 ∧ Ah r.2.1 ∧ Ah r.2.2.1 ∧ Ah r.2.2.2.1 ∧ Ah r.2.2.2.2) (Gj.f a0 a0c1 a0c2 a0c3 a0c4) := by
 unfold Gj.f
 exact Ak.bind (Pw h_a0 h_a0c1 h_a0c2 h_a0c3 h_a0c4) (fun r5260 h1 =>
 Ak.bind (Mf h1.2.2.2.1) (fun r5275 h2 =>
 Ak.bind (Mf h1.2.2.2.2) (fun r5281 h3 =>
 Ak.bif (fun h4 =>
  Ak.bind (Mf h1.2.1) (fun r5287 h5 =>
  Ak.bind (Mf h1.2.2.1) (fun r5293 h6 =>
  Ak.bind (Jr ⟨h1.1.Ae, h1.1.C4⟩ h5 h6 h2 h3) (fun r5328 h7 =>
  Ak.mk ⟨h7, h5, h6, h2, h3⟩)))) (fun h4 =>
  Ak.bind (Jr ⟨h1.1.Ae, h1.1.C4⟩ h1.2.1 h1.2.2.1 h2 h3) (fun r5334 h8 =>
  Ak.mk ⟨h8, h1.2.1, h1.2.2.1, h2, h3⟩)))))
theorem Oy {a0 : An} {a1 : Int} (h_a0 : Bi a0) (h_a1 : In .u8 a1) : Ak (fun r => Bi r) (FI.f a0 a1) := by
 unfold FI.f
 exact Ak.bif (fun h1 =>
  Ak.mk h_a0) (fun h1 =>
  Ak.bif (fun h2 =>
   Ak.mk ⟨h_a0.CE, h_a0.CF, h_a0.AM, ⟨h_a0.DV.AM, h_a0.DV.ID⟩, h_a0.DU, h_a0.Da, h_a0.FV⟩) (fun h2 =>
   Ak.bif (fun h3 =>
    Ak.mk ⟨h_a0.CE, h_a0.CF, h_a0.AM, ⟨h_a0.DV.AM, (CX _)⟩, h_a0.DU, h_a0.Da, h_a0.FV⟩) (fun h3 =>
    Ak.bif (fun h4 =>
     Ak.mk ⟨h_a0.CE, h_a0.CF, h_a0.AM, ⟨h_a0.DV.AM, (CX _)⟩, h_a0.DU, h_a0.Da, h_a0.FV⟩) (fun h4 =>
     Ak.mk ⟨h_a0.CE, h_a0.CF, h_a0.AM, ⟨h_a0.DV.AM, h_a0.DV.ID⟩, h_a0.DU, h_a0.Da, h_a0.FV⟩))))
theorem Oz {a0 : An} {a1 : Int} (h_a0 : Bi a0) (h_a1 : In .u8 a1) : Ak (fun r => Bi r) (FJ.f a0 a1) := by
 unfold FJ.f
 exact Ak.bif (fun h1 =>
  Ak.mk h_a0) (fun h1 =>
  Ak.bif (fun h2 =>
   Ak.mk ⟨h_a0.CE, h_a0.CF, h_a0.AM, h_a0.DV, ⟨h_a0.DU.AM, h_a0.DU.ID⟩, h_a0.Da, h_a0.FV⟩) (fun h2 =>
   Ak.bif (fun h3 =>
    Ak.mk ⟨h_a0.CE, h_a0.CF, h_a0.AM, h_a0.DV, ⟨h_a0.DU.AM, (CX _)⟩, h_a0.Da, h_a0.FV⟩) (fun h3 =>
    Ak.bif (fun h4 =>
     Ak.mk ⟨h_a0.CE, h_a0.CF, h_a0.AM, h_a0.DV, ⟨h_a0.DU.AM, (CX _)⟩, h_a0.Da, h_a0.FV⟩) (fun h4 =>
     Ak.mk ⟨h_a0.CE, h_a0.CF, h_a0.AM, h_a0.DV, ⟨h_a0.DU.AM, h_a0.DU.ID⟩, h_a0.Da, h_a0.FV⟩))))
theorem PD {a0 : An} {a1 : Int} {a2 : Int} (h_a0 : Bi a0) (h_a1 : Bt 0 10 a1) (h_a2 : Bt 0 10 a2) : Ak (fun _ => True) (Gm.f a0 a1 a2) := by
 unfold Gm.f
 exact Ak.arr (by have e0 := Cu h_a1; omega) (by have e0 := Cu h_a1; omega) (Ak.arr (by have e0 := Cu h_a2; omega) (by have e0 := Cu h_a2; omega) (Ak.mk trivial))
theorem OT {a0 : An} {a1 : Int} (h_a0 : Bi a0) : Ak (fun r => Bi r.2) (Gp.f a0 a1) := by
 unfold Gp.f
 exact Ak.bif (fun h1 =>
  Ak.mk ⟨h_a0.CE, h_a0.CF, h_a0.AM, h_a0.DV, h_a0.DU, h_a0.Da, ⟨h_a0.FV.BD⟩⟩) (fun h1 =>
  Ak.mk ⟨h_a0.CE, h_a0.CF, h_a0.AM, h_a0.DV, h_a0.DU, h_a0.Da, ⟨(EY (x := Int.tmod (IntKind.wrap .i64 (a0.FV.BD + 1)) 64) (by have e0 := Cu h_a0.FV.BD; have e1 := CS (a0.FV.BD + 1); have e2 := Lm (IntKind.wrap .i64 (a0.FV.BD + 1)) 64 (by decide); have e3 := CS (a0.FV.N9 + a1); have e4 := of_decide_eq_false h1; omega))⟩⟩)
theorem SH {a0 : An} {s5379 : An} (h_a0 : Bi a0) (h_s5379 : Bi s5379) : Ak (fun r => Bi r) (IG.j1 a0 s5379) := by
 unfold IG.j1
 exact Ak.arr (by have e0 := Cu h_a0.FV.BD; omega) (by have e0 := Cu h_a0.FV.BD; omega) (Ak.bind (Ak.US (n := 8) (by have e0 := Cu (h_s5379.CF.e ((a0.FV.BD).toNat)); omega) (by have e0 := Cu (h_s5379.CF.e ((a0.FV.BD).toNat)); omega) rfl) (fun z5408 h1 =>
 Ak.bif (fun h2 =>
  Ak.mk ⟨h_s5379.CE, h_s5379.CF, h_s5379.AM, h_s5379.DV, h_s5379.DU, h_s5379.Da, h_s5379.FV⟩) (fun h2 =>
  Ak.mk ⟨h_s5379.CE, h_s5379.CF, h_s5379.AM, h_s5379.DV, h_s5379.DU, h_s5379.Da, h_s5379.FV⟩)))
theorem Tf {a0 : An} (h_a0 : Bi a0) : Ak (fun r => Bi r) (IG.f a0) := by
 unfold IG.f
 exact Ak.arr (by omega) (by omega) (Ak.bif (fun h1 =>
  Ak.mk h_a0) (fun h1 =>
  Ak.bind (PD h_a0 (EY (x := 7) (by have e0 := Cq (CX _ : In .u8 (Bv .u8 (a0.AM (7 : Int).toNat) 128)); have e1 := BP (a0.AM (7 : Int).toNat) 128 (by decide); have e2 := Ei h1; omega)) (EY (x := 6) (by have e0 := Cq (CX _ : In .u8 (Bv .u8 (a0.AM (7 : Int).toNat) 128)); have e1 := BP (a0.AM (7 : Int).toNat) 128 (by decide); have e2 := Ei h1; omega))) (fun r5385 _ =>
  Ak.bind (OT h_a0) (fun r5390 h3 =>
  Ak.bif (fun h4 =>
   Ak.mk h3) (fun h4 =>
   SH h_a0 h3)))))
theorem Tw  : ∀ (n5473 : Nat) (s5467 : Int) (h_s5467 : Bt (-5000) 5000 s5467) (hm : max 0 ((-64) - s5467) < (n5473 : Int)), Ak (fun _ => True) (Eh.l5 n5473 s5467) := by
 intro n5473
 induction n5473 with
 | zero => intro s5467 h_s5467 hm; exfalso; revert hm; intro hm; have e0 := Cu h_s5467; omega
 | succ n5473 ih =>
  intro s5467 h_s5467 hm
  unfold Eh.l5
  exact Ak.bif (fun h1 =>
   ih _ (EY (x := IntKind.wrap .i64 (s5467 + 256)) (by have e0 := Cu h_s5467; have e1 := CS (s5467 + 256); have e2 := of_decide_eq_true h1; omega)) (show max 0 ((-64) - ((IntKind.wrap .i64 (s5467 + 256)))) < _ from by have e0 := Cu h_s5467; have e1 := CS (s5467 + 256); have e2 := of_decide_eq_true h1; have e3 := hm; omega)) (fun h1 =>
   Ak.mk trivial)
theorem Tv  : ∀ (n5465 : Nat) (s5443 : Int) (h_s5443 : Bt (-5000) 5000 s5443) (hm : max 0 (s5443 - 191) < (n5465 : Int)), Ak (fun _ => True) (Eh.l2 n5465 s5443) := by
 intro n5465
 induction n5465 with
 | zero => intro s5443 h_s5443 hm; exfalso; revert hm; intro hm; have e0 := Cu h_s5443; omega
 | succ n5465 ih =>
  intro s5443 h_s5443 hm
  unfold Eh.l2
  exact Ak.bif (fun h1 =>
   ih _ (EY (x := IntKind.wrap .i64 (s5443 - 256)) (by have e0 := Cu h_s5443; have e1 := CS (s5443 - 256); have e2 := of_decide_eq_true h1; omega)) (show max 0 (((IntKind.wrap .i64 (s5443 - 256))) - 191) < _ from by have e0 := Cu h_s5443; have e1 := CS (s5443 - 256); have e2 := of_decide_eq_true h1; have e3 := hm; omega)) (fun h1 =>
   Tw _ _ h_s5443 (show max 0 ((-64) - s5443) < _ from by have e0 := Cu h_s5443; have e1 := of_decide_eq_false h1; omega))
theorem MV {s5436 : Int} (h_s5436 : Bt (-1000) 1000 s5436) : Ak (fun _ => True) (Eh.j1 s5436) := by
 unfold Eh.j1
 exact Tv _ _ (EY (x := s5436) (by have e0 := Cu h_s5436; omega)) (show max 0 (s5436 - 191) < _ from by have e0 := Cu h_s5436; omega)
theorem TS {a0 : Int} {a1 : Int} (h_a0 : Bt (-5000) 5000 a0) : Ak (fun _ => True) (Eh.f a0 a1) := by
 unfold Eh.f
 exact Ak.bif (fun h1 =>
  Ak.bif (fun h2 =>
   Ak.bif (fun h3 =>
    MV (EY (x := IntKind.wrap .i64 ((shr .i64 a0 4) - 1)) (by have e0 := Cu h_a0; have e1 := SA .i64 a0 4; have e2 := SB .i64 a0 4 16 rfl; have e3 := CS ((shr .i64 a0 4) - 1); have e4 := NI a0 15 (by decide); have e5 := of_decide_eq_true h1; have e6 := NI (shr .i64 a0 4) 128 (by decide); have e7 := eq_of_beq h2; have e8 := of_decide_eq_true h3; omega))) (fun h3 =>
    MV (EY (x := IntKind.wrap .i64 ((shr .i64 a0 4) + 2)) (by have e0 := Cu h_a0; have e1 := SA .i64 a0 4; have e2 := SB .i64 a0 4 16 rfl; have e3 := CS ((shr .i64 a0 4) + 2); have e4 := NI a0 15 (by decide); have e5 := of_decide_eq_true h1; have e6 := NI (shr .i64 a0 4) 128 (by decide); have e7 := eq_of_beq h2; have e8 := of_decide_eq_false h3; omega)))) (fun h2 =>
   MV (EY (x := shr .i64 a0 4) (by have e0 := Cu h_a0; have e1 := SA .i64 a0 4; have e2 := SB .i64 a0 4 16 rfl; have e3 := NI a0 15 (by decide); have e4 := of_decide_eq_true h1; have e5 := NI (shr .i64 a0 4) 128 (by decide); have e6 := ne_of_beq_false h2; omega)))) (fun h1 =>
  MV (EY (x := shr .i64 a0 4) (by have e0 := Cu h_a0; have e1 := SA .i64 a0 4; have e2 := SB .i64 a0 4 16 rfl; have e3 := NI a0 15 (by decide); have e4 := of_decide_eq_false h1; omega)))
theorem Up {a0 : Int} {a1 : Int} {a2 : Int} {s5425 : Unit} (h_a1 : Bt (-64) 63 a1) (h_a2 : Bt 0 63 a2) : Ak (fun _ => True) (Jf.j1 a0 a1 a2 s5425) := by
 unfold Jf.j1
 exact Ak.bind (TS (EY (x := IntKind.wrap .i64 (a1 * a2)) (by have e0 := Cu h_a1; have e1 := Cu h_a2; have e2 := Z8 a1 a2; have e3 := CS (a1 * a2); omega))) (fun r5475 _ =>
 Ak.bnd (fun x5481 e_x5481 =>
  Ak.mk trivial))
theorem U5 {a0 : Int} {a1 : Int} {a2 : Int}  : Ak (fun _ => True) (Jf.f a0 a1 a2) := by
 unfold Jf.f
 exact Ak.bif (fun h1 =>
  Ak.mk trivial) (fun h1 =>
  Ak.bif (fun h2 =>
   Ak.mk trivial) (fun h2 =>
   Ak.bif (fun h3 =>
    Ak.mk trivial) (fun h3 =>
    Ak.bif (fun h4 =>
     Ak.mk trivial) (fun h4 =>
     Ak.bif (fun h5 =>
      Ak.mk trivial) (fun h5 =>
      Ak.bif (fun h6 =>
       Ak.mk trivial) (fun h6 =>
       Up (EY (x := a1) (by have e0 := of_decide_eq_false h1; have e1 := of_decide_eq_false h2; have e2 := of_decide_eq_false h3; have e3 := of_decide_eq_false h4; have e4 := of_decide_eq_false h5; have e5 := of_decide_eq_false h6; omega)) (EY (x := a2) (by have e0 := of_decide_eq_false h1; have e1 := of_decide_eq_false h2; have e2 := of_decide_eq_false h3; have e3 := of_decide_eq_false h4; have e4 := of_decide_eq_false h5; have e5 := of_decide_eq_false h6; omega))))))))
theorem OS {a0 : An} {a1 : Int} (h_a0 : Bi a0) : Ak (fun r => Bi r.2) (D3.f a0 a1) := by
 unfold D3.f
 exact Ak.bif (fun h1 =>
  Ak.mk ⟨h_a0.CE, h_a0.CF, h_a0.AM, h_a0.DV, h_a0.DU, ⟨h_a0.Da.BD⟩, h_a0.FV⟩) (fun h1 =>
  Ak.mk ⟨h_a0.CE, h_a0.CF, h_a0.AM, h_a0.DV, h_a0.DU, ⟨(EY (x := Int.tmod (IntKind.wrap .i64 (a0.Da.BD + 1)) 64) (by have e0 := Cu h_a0.Da.BD; have e1 := CS (a0.Da.BD + 1); have e2 := Lm (IntKind.wrap .i64 (a0.Da.BD + 1)) 64 (by decide); have e3 := CS (a0.Da.N9 + a1); have e4 := of_decide_eq_false h1; omega))⟩, h_a0.FV⟩)
theorem PC {s5351 : An} (h_s5351 : Bi s5351) : Ak (fun r => Bi r) (GG.j1 s5351) := by
 unfold GG.j1
 exact Ak.bif (fun h1 =>
  Ak.mk ⟨h_s5351.CE, h_s5351.CF, h_s5351.AM, h_s5351.DV, h_s5351.DU, h_s5351.Da, h_s5351.FV⟩) (fun h1 =>
  Ak.bind (Tf ⟨h_s5351.CE, h_s5351.CF, h_s5351.AM, h_s5351.DV, h_s5351.DU, h_s5351.Da, h_s5351.FV⟩) (fun r5414 h2 =>
  Ak.arr (by have e0 := CS (s5351.EA + 1); have e1 := Lm (IntKind.wrap .i64 (s5351.EA + 1)) 16 (by decide); have e2 := of_decide_eq_false h1; omega) (by have e0 := CS (s5351.EA + 1); have e1 := Lm (IntKind.wrap .i64 (s5351.EA + 1)) 16 (by decide); have e2 := of_decide_eq_false h1; omega) (Ak.bif (fun h3 =>
   Ak.bind (PD h2 (EY (x := 3) (by have e0 := CS (s5351.EA + 1); have e1 := Lm (IntKind.wrap .i64 (s5351.EA + 1)) 16 (by decide); have e2 := of_decide_eq_false h1; have e3 := Cq (CX _ : In .u8 (Bv .u8 (r5414.AM (3 : Int).toNat) 128)); have e4 := BP (r5414.AM (3 : Int).toNat) 128 (by decide); have e5 := eq_of_beq h3; omega)) (EY (x := 2) (by have e0 := CS (s5351.EA + 1); have e1 := Lm (IntKind.wrap .i64 (s5351.EA + 1)) 16 (by decide); have e2 := of_decide_eq_false h1; have e3 := Cq (CX _ : In .u8 (Bv .u8 (r5414.AM (3 : Int).toNat) 128)); have e4 := BP (r5414.AM (3 : Int).toNat) 128 (by decide); have e5 := eq_of_beq h3; omega))) (fun r5421 _ =>
   Ak.bind (U5) (fun r5482 _ =>
   Ak.bind (OS h2) (fun r5489 h6 =>
   Ak.mk h6)))) (fun h3 =>
   Ak.mk h2))))
theorem SF {a0 : An} (h_a0 : Bi a0) : Ak (fun r => Bi r) (GG.f a0) := by
 unfold GG.f
 exact Ak.arr (by omega) (by omega) (Ak.bif (fun h1 =>
  Ak.arr (by have e0 := Cq (CX _ : In .u8 (Bv .u8 (a0.AM (3 : Int).toNat) 192)); have e1 := BP (a0.AM (3 : Int).toNat) 192 (by decide); have e2 := eq_of_beq h1; omega) (by have e0 := Cq (CX _ : In .u8 (Bv .u8 (a0.AM (3 : Int).toNat) 192)); have e1 := BP (a0.AM (3 : Int).toNat) 192 (by decide); have e2 := eq_of_beq h1; omega) (Ak.bind (Oy h_a0 (h_a0.AM.e _)) (fun r5355 h2 =>
  Ak.arr (by have e0 := Cq (CX _ : In .u8 (Bv .u8 (a0.AM (3 : Int).toNat) 192)); have e1 := BP (a0.AM (3 : Int).toNat) 192 (by decide); have e2 := eq_of_beq h1; omega) (by have e0 := Cq (CX _ : In .u8 (Bv .u8 (a0.AM (3 : Int).toNat) 192)); have e1 := BP (a0.AM (3 : Int).toNat) 192 (by decide); have e2 := eq_of_beq h1; omega) (Ak.bind (Oz h2 (h2.AM.e _)) (fun r5365 h3 =>
  PC h3))))) (fun h1 =>
  PC h_a0))
theorem Mh {a0 : Ai} {a0c1 : Am} {a0c2 : An} (h_a0 : AF a0) (h_a0c1 : Bj a0c1) (h_a0c2 : Bi a0c2) : Ak (fun r => AF r) (DZ.f a0 a0c1 a0c2) := by
 unfold DZ.f
 exact Ak.bif (fun h1 =>
  Ak.mk h_a0) (fun h1 =>
  Ak.bif (fun h2 =>
   Ak.mk ⟨⟨h_a0.A9.L6, (CZ _)⟩, h_a0.FM, h_a0.Aq, h_a0.LZ, h_a0.Im, h_a0.FW, h_a0.IL⟩) (fun h2 =>
   Ak.mk ⟨⟨h_a0.A9.L6, h_a0.A9.L6⟩, h_a0.FM, h_a0.Aq, h_a0.LZ, h_a0.Im, h_a0.FW, h_a0.IL⟩))
theorem Qv {a0 : Am} {s : Unit} (h : Bj a0) (hn : 0 < (a0.Bg.length : Int)) : Ak (fun r => Bj r.2) (ED.j1 a0 s) := by
 have x : ((a0.C5) = -1 ∨ (0 ≤ (a0.C5) ∧ (a0.C5) < (a0.Bg.length : Int))) ∧ ((a0.Bg.length : Int) = 0 ∨ (0 ≤ (a0.BD) ∧ (a0.BD) < (a0.Bg.length : Int))) ∧ (a0.Bg.length : Int) ≤ 1073741824 := h.x1
 unfold ED.j1 EB.f
 refine Ak.bif (fun _ => Ak.mk ⟨h.Bg, h.Jv, (show ((-1) = -1 ∨ (0 ≤ (-1) ∧ (-1) < (a0.Bg.length : Int))) ∧ ((a0.Bg.length : Int) = 0 ∨ (0 ≤ (a0.BD) ∧ (a0.BD) < (a0.Bg.length : Int))) ∧ (a0.Bg.length : Int) ≤ 1073741824 by omega)⟩) (fun _ => Ak.bif (fun _ => Ak.mk ⟨h.Bg, h.Jv, (show ((-1) = -1 ∨ (0 ≤ (-1) ∧ (-1) < (a0.Bg.length : Int))) ∧ ((a0.Bg.length : Int) = 0 ∨ (0 ≤ (a0.BD) ∧ (a0.BD) < (a0.Bg.length : Int))) ∧ (a0.Bg.length : Int) ≤ 1073741824 by omega)⟩) (fun _ => Ak.bif (fun _ => ?_) (fun h1 => ?_)))
 · exact Ak.mk ⟨h.Bg, h.Jv, (show ((a0.BD) = -1 ∨ (0 ≤ (a0.BD) ∧ (a0.BD) < (a0.Bg.length : Int))) ∧ ((a0.Bg.length : Int) = 0 ∨ (0 ≤ (0) ∧ (0) < (a0.Bg.length : Int))) ∧ (a0.Bg.length : Int) ≤ 1073741824 by omega)⟩
 · have e := CS (a0.BD + 1)
   have h1 := ne_of_beq_false h1
   exact Ak.mk ⟨h.Bg, h.Jv, (show ((a0.BD) = -1 ∨ (0 ≤ (a0.BD) ∧ (a0.BD) < (a0.Bg.length : Int))) ∧ ((a0.Bg.length : Int) = 0 ∨ (0 ≤ (IntKind.wrap .i64 (a0.BD + 1)) ∧ (IntKind.wrap .i64 (a0.BD + 1)) < (a0.Bg.length : Int))) ∧ (a0.Bg.length : Int) ≤ 1073741824 by omega)⟩
theorem Q3 {a0 : Am} (h : Bj a0) : Ak (fun r => Bj r.2) (ED.f a0) := by
 have x : ((a0.C5) = -1 ∨ (0 ≤ (a0.C5) ∧ (a0.C5) < (a0.Bg.length : Int))) ∧ ((a0.Bg.length : Int) = 0 ∨ (0 ≤ (a0.BD) ∧ (a0.BD) < (a0.Bg.length : Int))) ∧ (a0.Bg.length : Int) ≤ 1073741824 := h.x1
 unfold ED.f Es.f
 refine Ak.bif (fun _ => Ak.mk ⟨h.Bg, h.Jv, (show ((-1) = -1 ∨ (0 ≤ (-1) ∧ (-1) < (a0.Bg.length : Int))) ∧ ((a0.Bg.length : Int) = 0 ∨ (0 ≤ (a0.BD) ∧ (a0.BD) < (a0.Bg.length : Int))) ∧ (a0.Bg.length : Int) ≤ 1073741824 by omega)⟩) (fun _ => ?_)
 rw [Option.bind_some]
 refine Ak.bif (fun _ => Ak.mk ⟨h.Bg, h.Jv, (show ((-1) = -1 ∨ (0 ≤ (-1) ∧ (-1) < (a0.Bg.length : Int))) ∧ ((a0.Bg.length : Int) = 0 ∨ (0 ≤ (a0.BD) ∧ (a0.BD) < (a0.Bg.length : Int))) ∧ (a0.Bg.length : Int) ≤ 1073741824 by omega)⟩) (fun h1 => ?_)
 rw [Bool.not_eq_false'] at h1
 exact Qv h (of_decide_eq_true h1)
theorem Rp {a0 : Am} (h_a0 : Bj a0) : Ak (fun r => In .u8 r) (Kk.f a0) := by
 unfold Kk.f
 exact Ak.bif (fun h1 =>
  Ak.mk (B7 rfl rfl)) (fun h1 =>
  Ak.bind (Ak.Wj h_a0.Bg (by have e0 := (show (a0.C5 = -1 ∨ (0 ≤ a0.C5 ∧ a0.C5 < (a0.Bg.length : Int))) ∧ ((a0.Bg.length : Int) = 0 ∨ (0 ≤ a0.BD ∧ a0.BD < (a0.Bg.length : Int))) ∧ (a0.Bg.length : Int) ≤ 1073741824 from h_a0.x1); have e1 := ne_of_beq_false h1; omega) (by have e0 := (show (a0.C5 = -1 ∨ (0 ≤ a0.C5 ∧ a0.C5 < (a0.Bg.length : Int))) ∧ ((a0.Bg.length : Int) = 0 ∨ (0 ≤ a0.BD ∧ a0.BD < (a0.Bg.length : Int))) ∧ (a0.Bg.length : Int) ≤ 1073741824 from h_a0.x1); have e1 := ne_of_beq_false h1; omega)) (fun z5651 h2 =>
  Ak.mk h2))
theorem Uz {a1 : Int} (h_a1 : In .u8 a1) : ∀ (n5678 : Nat) (s5667 : Int × Int) (h_s5667_1 : In .u16 s5667.1) (hi_0 : 0 ≤ s5667.2 ∧ s5667.2 ≤ 8) (hm : 8 - s5667.2 < (n5678 : Int)), Ak (fun r => In .u16 r) (Hy.l1 a1 n5678 s5667) := by
 intro n5678
 induction n5678 with
 | zero => intro s5667 h_s5667_1 hi_0 hm; exfalso; revert hm; intro hm; have e0 := hi_0; omega
 | succ n5678 ih =>
  intro s5667 h_s5667_1 hi_0 hm
  unfold Hy.l1
  exact Ak.bif (fun h1 =>
   Ak.neg (by have e0 := of_decide_eq_true h1; have e1 := hi_0; omega) (Ak.bnd (fun x5681 e_x5681 =>
    have w_x5681 : In .u16 x5681 := O7 e_x5681 (CZ _);
    Ak.bnd (fun x5682 e_x5682 =>
     have w_x5682 : In .u16 x5682 := O7 e_x5682 (CZ _);
     ih _ w_x5682 (show 0 ≤ (IntKind.wrap .i64 (s5667.2 + 1)) ∧ (IntKind.wrap .i64 (s5667.2 + 1)) ≤ 8 from by have e0 := CS (s5667.2 + 1); have e1 := of_decide_eq_true h1; have e2 := hi_0; have e3 := DT (CZ _ : In .u16 (M5 .u16 (shr .u16 s5667.1 1) (shl .u16 (IntKind.wrap .u16 (Bv .u8 (shr .u8 a1 s5667.2) 1)) 15))); have e4 := e_x5681; have e5 := DT (CZ _ : In .u16 (TY .u16 x5681 (IntKind.wrap .u16 (33800 * (Bv .u16 s5667.1 1))))); have e6 := e_x5682; have e7 := hm; omega) (show 8 - (IntKind.wrap .i64 (s5667.2 + 1)) < _ from by have e0 := CS (s5667.2 + 1); have e1 := of_decide_eq_true h1; have e2 := hi_0; have e3 := DT (CZ _ : In .u16 (M5 .u16 (shr .u16 s5667.1 1) (shl .u16 (IntKind.wrap .u16 (Bv .u8 (shr .u8 a1 s5667.2) 1)) 15))); have e4 := e_x5681; have e5 := DT (CZ _ : In .u16 (TY .u16 x5681 (IntKind.wrap .u16 (33800 * (Bv .u16 s5667.1 1))))); have e6 := e_x5682; have e7 := hm; omega))))) (fun h1 =>
   Ak.mk h_s5667_1)
theorem Nz {a0 : Int} {a1 : Int} (h_a0 : In .u16 a0) (h_a1 : In .u8 a1) : Ak (fun r => In .u16 r) (Hy.f a0 a1) := by
 unfold Hy.f
 exact Uz h_a1 _ _ h_a0 (show 0 ≤ 0 ∧ 0 ≤ 8 from by omega) (show 8 - 0 < _ from by omega)
theorem OG {a0 : Ai} {a0c1 : Am} {a0c2 : An} {a1 : Int} (h_a0 : AF a0) (h_a0c1 : Bj a0c1) (h_a0c2 : Bi a0c2) (h_a1 : In .u8 a1) : Ak (fun r => AF r) (Ga.f a0 a0c1 a0c2 a1) := by
 unfold Ga.f
 exact Ak.bif (fun h1 =>
  Ak.mk h_a0) (fun h1 =>
  Ak.bif (fun h2 =>
   Ak.bind (Nz h_a0.IL h_a1) (fun r5683 h3 =>
   Ak.mk ⟨h_a0.A9, h_a0.FM, h_a0.Aq, h_a1, h_a0.Im, h_a0.FW, h3⟩)) (fun h2 =>
   Ak.bif (fun h4 =>
    Ak.bind (Nz (B7 rfl rfl) h_a1) (fun r5689 h5 =>
    Ak.mk ⟨h_a0.A9, h_a0.FM, h_a0.Aq, h_a0.LZ, h_a0.Im, h_a0.FW, h5⟩)) (fun h4 =>
    Ak.mk h_a0)))
theorem OE {a0 : Ai} {a0c1 : Am} {a0c2 : An} (h_a0 : AF a0) (h_a0c1 : Bj a0c1) (h_a0c2 : Bi a0c2) : Ak (fun r => In .u8 r.1 ∧ AF r.2) (Fg.f a0 a0c1 a0c2) := by
 unfold Fg.f
 exact Ak.bif (fun h1 =>
  Ak.mk ⟨(B7 rfl rfl), h_a0⟩) (fun h1 =>
  Ak.bif (fun h2 =>
   Ak.bind (Nz h_a0.IL h_a0.Im) (fun r5705 h3 =>
   Ak.mk ⟨h_a0.Im, ⟨h_a0.A9, h_a0.FM, h_a0.Aq, h_a0.LZ, h_a0.Im, h_a0.FW, h3⟩⟩)) (fun h2 =>
   Ak.bif (fun h4 =>
    Ak.bind (Nz h_a0.IL (B7 rfl rfl)) (fun r5727 h5 =>
    Ak.bind (Nz h5 (B7 rfl rfl)) (fun r5733 h6 =>
    Ak.mk ⟨(CX _), ⟨h_a0.A9, h_a0.FM, h_a0.Aq, h_a0.LZ, h_a0.Im, h_a0.FW, h6⟩⟩))) (fun h4 =>
    Ak.bif (fun h7 =>
     Ak.mk ⟨(CX _), ⟨h_a0.A9, h_a0.FM, h_a0.Aq, h_a0.LZ, h_a0.Im, h_a0.FW, h_a0.IL⟩⟩) (fun h7 =>
     Ak.mk ⟨(B7 rfl rfl), h_a0⟩))))
theorem QU {a0 : Am} {a1 : Int} {s5747 : Unit} (h_a0 : Bj a0) (h_a1 : In .u8 a1) (hp_0 : a0.C5 ≠ -1) : Ak (fun r => Bj r.2) (EN.j1 a0 a1 s5747) := by
 unfold EN.j1
 exact Ak.bind (Ak.Wj h_a0.Bg (by have e0 := (show (a0.C5 = -1 ∨ (0 ≤ a0.C5 ∧ a0.C5 < (a0.Bg.length : Int))) ∧ ((a0.Bg.length : Int) = 0 ∨ (0 ≤ a0.BD ∧ a0.BD < (a0.Bg.length : Int))) ∧ (a0.Bg.length : Int) ≤ 1073741824 from h_a0.x1); have e1 := hp_0; omega) (by have e0 := (show (a0.C5 = -1 ∨ (0 ≤ a0.C5 ∧ a0.C5 < (a0.Bg.length : Int))) ∧ ((a0.Bg.length : Int) = 0 ∨ (0 ≤ a0.BD ∧ a0.BD < (a0.Bg.length : Int))) ∧ (a0.Bg.length : Int) ≤ 1073741824 from h_a0.x1); have e1 := hp_0; omega)) (fun z5754 h1 =>
 Ak.mk ⟨(RS h_a0.Bg h_a1), h_a1, (show (a0.C5 = -1 ∨ (0 ≤ a0.C5 ∧ a0.C5 < ((a0.Bg.set (a0.C5).toNat a1).length : Int))) ∧ (((a0.Bg.set (a0.C5).toNat a1).length : Int) = 0 ∨ (0 ≤ a0.BD ∧ a0.BD < ((a0.Bg.set (a0.C5).toNat a1).length : Int))) ∧ ((a0.Bg.set (a0.C5).toNat a1).length : Int) ≤ 1073741824 from by have x0 := (show (a0.C5 = -1 ∨ (0 ≤ a0.C5 ∧ a0.C5 < (a0.Bg.length : Int))) ∧ ((a0.Bg.length : Int) = 0 ∨ (0 ≤ a0.BD ∧ a0.BD < (a0.Bg.length : Int))) ∧ (a0.Bg.length : Int) ≤ 1073741824 from h_a0.x1); have x1 := (show (a0.C5 = -1 ∨ (0 ≤ a0.C5 ∧ a0.C5 < (a0.Bg.length : Int))) ∧ ((a0.Bg.length : Int) = 0 ∨ (0 ≤ a0.BD ∧ a0.BD < (a0.Bg.length : Int))) ∧ (a0.Bg.length : Int) ≤ 1073741824 from h_a0.x1); have x2 := hp_0; have x3 := (List.length_set : (a0.Bg.set (a0.C5).toNat a1).length = (a0.Bg).length); omega)⟩)
theorem Rq {a0 : Am} {a1 : Int} (h_a0 : Bj a0) (h_a1 : In .u8 a1) : Ak (fun r => Bj r.2) (EN.f a0 a1) := by
 unfold EN.f
 exact Ak.bif (fun h1 =>
  Ak.mk h_a0) (fun h1 =>
  Ak.bif (fun h2 =>
   Ak.mk h_a0) (fun h2 =>
   QU h_a0 h_a1 (show a0.C5 ≠ -1 from by have e0 := (show (a0.C5 = -1 ∨ (0 ≤ a0.C5 ∧ a0.C5 < (a0.Bg.length : Int))) ∧ ((a0.Bg.length : Int) = 0 ∨ (0 ≤ a0.BD ∧ a0.BD < (a0.Bg.length : Int))) ∧ (a0.Bg.length : Int) ≤ 1073741824 from h_a0.x1); have e1 := ne_of_beq_false h1; omega)))
theorem Ov {r5603 : An} {r5613 : Ai} {s5617 : Am} (h_r5603 : Bi r5603) (h_r5613 : AF r5613) (h_s5617 : Bj s5617) : Ak (fun r => AF r.1 ∧ Bj r.2.1 ∧ Bi r.2.2) (Dt.j1 r5603 r5613 s5617) := by
 unfold Dt.j1
 exact Ak.bif (fun h1 =>
  Ak.bind (Rp h_s5617) (fun r5659 h2 =>
  Ak.bind (OG h_r5613 h_s5617 h_r5603 h2) (fun r5695 h3 =>
  Ak.mk ⟨h3, h_s5617, h_r5603⟩))) (fun h1 =>
  Ak.bind (OE h_r5613 h_s5617 h_r5603) (fun r5739 h4 =>
  Ak.bind (Rq h_s5617 h4.1) (fun r5762 h5 =>
  Ak.mk ⟨⟨h4.2.A9, h4.2.FM, h4.2.Aq, h4.2.LZ, h4.2.Im, h4.2.FW, h4.2.IL⟩, h5, h_r5603⟩)))
theorem O3 {a0 : Ai} {a0c1 : Am} {a0c2 : An} (h_a0 : AF a0) (h_a0c1 : Bj a0c1) (h_a0c2 : Bi a0c2) : Ak (fun r => AF r.1 ∧ Bj r.2.1 ∧ Bi r.2.2) (Dt.f a0 a0c1 a0c2) := by
 unfold Dt.f
 exact Ak.bind (SF h_a0c2) (fun r5603 h1 =>
 Ak.bind (Mh h_a0 h_a0c1 h1) (fun r5613 h2 =>
 Ak.bind (Q3 h_a0c1) (fun r5637 h3 =>
 Ak.bif (fun h4 =>
  Ak.mk ⟨h2, h3, h1⟩) (fun h4 =>
  Ak.bif (fun h5 =>
   Ak.mk ⟨h2, h3, h1⟩) (fun h5 =>
   Ov h1 h2 h3)))))
theorem Lp {s618 : A7 × Ag × Ac × Al × Aa × Aa × Aa × Aa × Ai × Am × An × Int × Int × Bool × Int × Int × Bool} (h_s618_1 : C9 s618.1) (h_s618_2_1 : De s618.2.1) (h_s618_2_2_1 : As s618.2.2.1) (h_s618_2_2_2_1 : Bl s618.2.2.2.1) (h_s618_2_2_2_2_1 : Ah s618.2.2.2.2.1) (h_s618_2_2_2_2_2_1 : Ah s618.2.2.2.2.2.1) (h_s618_2_2_2_2_2_2_1 : Ah s618.2.2.2.2.2.2.1) (h_s618_2_2_2_2_2_2_2_1 : Ah s618.2.2.2.2.2.2.2.1) (h_s618_2_2_2_2_2_2_2_2_1 : AF s618.2.2.2.2.2.2.2.2.1) (h_s618_2_2_2_2_2_2_2_2_2_1 : Bj s618.2.2.2.2.2.2.2.2.2.1) (h_s618_2_2_2_2_2_2_2_2_2_2_1 : Bi s618.2.2.2.2.2.2.2.2.2.2.1) (h_s618_2_2_2_2_2_2_2_2_2_2_2_1 : In .u8 s618.2.2.2.2.2.2.2.2.2.2.2.1) (h_s618_2_2_2_2_2_2_2_2_2_2_2_2_1 : In .u8 s618.2.2.2.2.2.2.2.2.2.2.2.2.1) (h_s618_2_2_2_2_2_2_2_2_2_2_2_2_2_2_1 : In .u8 s618.2.2.2.2.2.2.2.2.2.2.2.2.2.2.1) (h_s618_2_2_2_2_2_2_2_2_2_2_2_2_2_2_2_1 : In .u8 s618.2.2.2.2.2.2.2.2.2.2.2.2.2.2.2.1) : ∀ (n5811 : Nat) (s4311 : Ac × Int) (h_s4311_1 : As s4311.1) (hi_0 : 0 ≤ s4311.2 ∧ s4311.2 ≤ 3) (hm : 3 - s4311.2 < (n5811 : Int)), Ak (fun r => C9 r.1 ∧ De r.2.1 ∧ As r.2.2.1 ∧ Bl r.2.2.2.1 ∧ Ah r.2.2.2.2.1 ∧ Ah r.2.2.2.2.2.1 ∧ Ah r.2.2.2.2.2.2.1 ∧ Ah r.2.2.2.2.2.2.2.1 ∧ AF r.2.2.2.2.2.2.2.2.1 ∧ Bj r.2.2.2.2.2.2.2.2.2.1 ∧ Bi r.2.2.2.2.2.2.2.2.2.2.1 ∧ Cf r.2.2.2.2.2.2.2.2.2.2.2.1 ∧ Cf r.2.2.2.2.2.2.2.2.2.2.2.2) (Aj.l4 s618 n5811 s4311) := by
 intro n5811
 induction n5811 with
 | zero => intro s4311 h_s4311_1 hi_0 hm; exfalso; revert hm; intro hm; have e0 := hi_0; omega
 | succ n5811 ih =>
  intro s4311 h_s4311_1 hi_0 hm
  unfold Aj.l4
  exact Ak.bif (fun h1 =>
   Ak.bind (NS h_s618_2_2_2_2_2_2_2_2_1 h_s618_2_2_2_2_2_2_2_2_2_1 h_s618_2_2_2_2_2_2_2_2_2_2_1) (fun r5813 _ =>
   Ak.bind (Pj h_s4311_1) (fun r5817 h3 =>
   Ak.bind (PG h3) (fun r5835 h4 =>
   ih _ h4 (show 0 ≤ (IntKind.wrap .i64 (s4311.2 + 1)) ∧ (IntKind.wrap .i64 (s4311.2 + 1)) ≤ 3 from by have e0 := CS (s4311.2 + 1); have e1 := of_decide_eq_true h1; have e2 := hi_0; have e3 := hm; omega) (show 3 - (IntKind.wrap .i64 (s4311.2 + 1)) < _ from by have e0 := CS (s4311.2 + 1); have e1 := of_decide_eq_true h1; have e2 := hi_0; have e3 := hm; omega))))) (fun h1 =>
   Ak.bind (OQ h_s618_2_2_2_1 h_s618_2_2_2_2_1 h_s618_2_2_2_2_2_1 h_s618_2_2_2_2_2_2_1 h_s618_2_2_2_2_2_2_2_1) (fun r5841 h5 =>
   Ak.bind (O3 h_s618_2_2_2_2_2_2_2_2_1 h_s618_2_2_2_2_2_2_2_2_2_1 h_s618_2_2_2_2_2_2_2_2_2_2_1) (fun r5847 h6 =>
   Ak.mk ⟨⟨h_s618_1.GI, h_s618_1.EH, h_s618_1.EQ, h_s618_1.CV, h_s618_1.Fp, h_s618_1.Ba⟩, h_s618_2_1, h_s4311_1, h5.1, h5.2.1, h5.2.2.1, h5.2.2.2.1, h5.2.2.2.2, h6.1, h6.2.1, h6.2.2, ⟨h_s618_2_2_2_2_2_2_2_2_2_2_2_1, h_s618_2_2_2_2_2_2_2_2_2_2_2_2_1⟩, ⟨h_s618_2_2_2_2_2_2_2_2_2_2_2_2_2_2_1, h_s618_2_2_2_2_2_2_2_2_2_2_2_2_2_2_2_1⟩⟩)))
theorem Fh {s618 : A7 × Ag × Ac × Al × Aa × Aa × Aa × Aa × Ai × Am × An × Int × Int × Bool × Int × Int × Bool} (h_s618_1 : C9 s618.1) (h_s618_2_1 : De s618.2.1) (h_s618_2_2_1 : As s618.2.2.1) (h_s618_2_2_2_1 : Bl s618.2.2.2.1) (h_s618_2_2_2_2_1 : Ah s618.2.2.2.2.1) (h_s618_2_2_2_2_2_1 : Ah s618.2.2.2.2.2.1) (h_s618_2_2_2_2_2_2_1 : Ah s618.2.2.2.2.2.2.1) (h_s618_2_2_2_2_2_2_2_1 : Ah s618.2.2.2.2.2.2.2.1) (h_s618_2_2_2_2_2_2_2_2_1 : AF s618.2.2.2.2.2.2.2.2.1) (h_s618_2_2_2_2_2_2_2_2_2_1 : Bj s618.2.2.2.2.2.2.2.2.2.1) (h_s618_2_2_2_2_2_2_2_2_2_2_1 : Bi s618.2.2.2.2.2.2.2.2.2.2.1) (h_s618_2_2_2_2_2_2_2_2_2_2_2_1 : In .u8 s618.2.2.2.2.2.2.2.2.2.2.2.1) (h_s618_2_2_2_2_2_2_2_2_2_2_2_2_1 : In .u8 s618.2.2.2.2.2.2.2.2.2.2.2.2.1) (h_s618_2_2_2_2_2_2_2_2_2_2_2_2_2_2_1 : In .u8 s618.2.2.2.2.2.2.2.2.2.2.2.2.2.2.1) (h_s618_2_2_2_2_2_2_2_2_2_2_2_2_2_2_2_1 : In .u8 s618.2.2.2.2.2.2.2.2.2.2.2.2.2.2.2.1) : Ak (fun r => C9 r.1 ∧ De r.2.1 ∧ As r.2.2.1 ∧ Bl r.2.2.2.1 ∧ Ah r.2.2.2.2.1 ∧ Ah r.2.2.2.2.2.1 ∧ Ah r.2.2.2.2.2.2.1 ∧ Ah r.2.2.2.2.2.2.2.1 ∧ AF r.2.2.2.2.2.2.2.2.1 ∧ Bj r.2.2.2.2.2.2.2.2.2.1 ∧ Bi r.2.2.2.2.2.2.2.2.2.2.1 ∧ Cf r.2.2.2.2.2.2.2.2.2.2.2.1 ∧ Cf r.2.2.2.2.2.2.2.2.2.2.2.2) (Aj.j2 s618) := by
 unfold Aj.j2
 exact Lp h_s618_1 h_s618_2_1 h_s618_2_2_1 h_s618_2_2_2_1 h_s618_2_2_2_2_1 h_s618_2_2_2_2_2_1 h_s618_2_2_2_2_2_2_1 h_s618_2_2_2_2_2_2_2_1 h_s618_2_2_2_2_2_2_2_2_1 h_s618_2_2_2_2_2_2_2_2_2_1 h_s618_2_2_2_2_2_2_2_2_2_2_1 h_s618_2_2_2_2_2_2_2_2_2_2_2_1 h_s618_2_2_2_2_2_2_2_2_2_2_2_2_1 h_s618_2_2_2_2_2_2_2_2_2_2_2_2_2_2_1 h_s618_2_2_2_2_2_2_2_2_2_2_2_2_2_2_2_1 _ _ h_s618_2_2_1 (show 0 ≤ 0 ∧ 0 ≤ 3 from by omega) (show 3 - 0 < _ from by omega)
theorem Ho {a0c1 : Ag} {s559 : Bool × Bool} {s619 : A7 × Ac × Al × Aa × Aa × Aa × Aa × Ai × Am × An × Int × Int × Bool × Int × Int × Bool × Bool} (h_a0c1 : De a0c1) (h_s619_1 : C9 s619.1) (h_s619_2_1 : As s619.2.1) (h_s619_2_2_1 : Bl s619.2.2.1) (h_s619_2_2_2_1 : Ah s619.2.2.2.1) (h_s619_2_2_2_2_1 : Ah s619.2.2.2.2.1) (h_s619_2_2_2_2_2_1 : Ah s619.2.2.2.2.2.1) (h_s619_2_2_2_2_2_2_1 : Ah s619.2.2.2.2.2.2.1) (h_s619_2_2_2_2_2_2_2_1 : AF s619.2.2.2.2.2.2.2.1) (h_s619_2_2_2_2_2_2_2_2_1 : Bj s619.2.2.2.2.2.2.2.2.1) (h_s619_2_2_2_2_2_2_2_2_2_1 : Bi s619.2.2.2.2.2.2.2.2.2.1) (h_s619_2_2_2_2_2_2_2_2_2_2_1 : In .u8 s619.2.2.2.2.2.2.2.2.2.2.1) (h_s619_2_2_2_2_2_2_2_2_2_2_2_1 : In .u8 s619.2.2.2.2.2.2.2.2.2.2.2.1) (h_s619_2_2_2_2_2_2_2_2_2_2_2_2_2_1 : In .u8 s619.2.2.2.2.2.2.2.2.2.2.2.2.2.1) (h_s619_2_2_2_2_2_2_2_2_2_2_2_2_2_2_1 : In .u8 s619.2.2.2.2.2.2.2.2.2.2.2.2.2.2.1) : Ak (fun r => C9 r.1 ∧ De r.2.1 ∧ As r.2.2.1 ∧ Bl r.2.2.2.1 ∧ Ah r.2.2.2.2.1 ∧ Ah r.2.2.2.2.2.1 ∧ Ah r.2.2.2.2.2.2.1 ∧ Ah r.2.2.2.2.2.2.2.1 ∧ AF r.2.2.2.2.2.2.2.2.1 ∧ Bj r.2.2.2.2.2.2.2.2.2.1 ∧ Bi r.2.2.2.2.2.2.2.2.2.2.1 ∧ Cf r.2.2.2.2.2.2.2.2.2.2.2.1 ∧ Cf r.2.2.2.2.2.2.2.2.2.2.2.2) (Aj.j3 a0c1 s559 s619) := by
 unfold Aj.j3
 exact Ak.bif (fun h1 =>
  Ak.bind (Rc h_a0c1) (fun r2115 h2 =>
  Ak.bif (fun h3 =>
   Ak.bind (Iy h_s619_1 h_a0c1 h_s619_2_1 h_s619_2_2_1 h_s619_2_2_2_1 h_s619_2_2_2_2_1 h_s619_2_2_2_2_2_1 h_s619_2_2_2_2_2_2_1 h_s619_2_2_2_2_2_2_2_1 h_s619_2_2_2_2_2_2_2_2_1 h_s619_2_2_2_2_2_2_2_2_2_1 ⟨h_s619_2_2_2_2_2_2_2_2_2_2_1, h_s619_2_2_2_2_2_2_2_2_2_2_2_1⟩ ⟨h_s619_2_2_2_2_2_2_2_2_2_2_2_2_2_1, h_s619_2_2_2_2_2_2_2_2_2_2_2_2_2_2_1⟩ h2.Gu h2.Qc) (fun r2121 h4 =>
   Ak.bind (Om h_a0c1 (B7 rfl rfl)) (fun r4288 h5 =>
   Fh h4.1 h5 h4.2.1 h4.2.2.1 h4.2.2.2.1 h4.2.2.2.2.1 h4.2.2.2.2.2.1 h4.2.2.2.2.2.2.1 h4.2.2.2.2.2.2.2.1 h4.2.2.2.2.2.2.2.2.1 h4.2.2.2.2.2.2.2.2.2.1 h4.2.2.2.2.2.2.2.2.2.2.1.Ba h4.2.2.2.2.2.2.2.2.2.2.1.Bw h4.2.2.2.2.2.2.2.2.2.2.2.Ba h4.2.2.2.2.2.2.2.2.2.2.2.Bw))) (fun h3 =>
   Ak.bind (FE h_s619_1 h_a0c1 h_s619_2_1 h_s619_2_2_1 h_s619_2_2_2_1 h_s619_2_2_2_2_1 h_s619_2_2_2_2_2_1 h_s619_2_2_2_2_2_2_1 h_s619_2_2_2_2_2_2_2_1 h_s619_2_2_2_2_2_2_2_2_1 h_s619_2_2_2_2_2_2_2_2_2_1 ⟨h_s619_2_2_2_2_2_2_2_2_2_2_1, h_s619_2_2_2_2_2_2_2_2_2_2_2_1⟩ ⟨h_s619_2_2_2_2_2_2_2_2_2_2_2_2_2_1, h_s619_2_2_2_2_2_2_2_2_2_2_2_2_2_2_1⟩ h2.Gu) (fun r4294 h6 =>
   Ak.bind (Om h_a0c1 h6.1) (fun r4300 h7 =>
   Fh h6.2.1 h7 h6.2.2.1 h6.2.2.2.1 h_s619_2_2_2_1 h_s619_2_2_2_2_1 h_s619_2_2_2_2_2_1 h_s619_2_2_2_2_2_2_1 h6.2.2.2.2.1 h_s619_2_2_2_2_2_2_2_2_1 h_s619_2_2_2_2_2_2_2_2_2_1 h6.2.2.2.2.2.1.Ba h6.2.2.2.2.2.1.Bw h6.2.2.2.2.2.2.Ba h6.2.2.2.2.2.2.Bw))))) (fun h1 =>
  Fh h_s619_1 h_a0c1 h_s619_2_1 h_s619_2_2_1 h_s619_2_2_2_1 h_s619_2_2_2_2_1 h_s619_2_2_2_2_2_1 h_s619_2_2_2_2_2_2_1 h_s619_2_2_2_2_2_2_2_1 h_s619_2_2_2_2_2_2_2_2_1 h_s619_2_2_2_2_2_2_2_2_2_1 h_s619_2_2_2_2_2_2_2_2_2_2_1 h_s619_2_2_2_2_2_2_2_2_2_2_2_1 h_s619_2_2_2_2_2_2_2_2_2_2_2_2_2_1 h_s619_2_2_2_2_2_2_2_2_2_2_2_2_2_2_1)
theorem Hl {a0 : A7} {a0c1 : Ag} {a0c2 : Ac} {a0c3 : Al} {a0c3c1 : Aa} {a0c3c2 : Aa} {a0c3c3 : Aa} {a0c3c4 : Aa} {a0c4 : Ai} {a0c4c1 : Am} {a0c4c2 : An} {a0c5 : AL} {a0c6 : AL} {s559 : Bool × Bool} (h_a0 : C9 a0) (h_a0c1 : De a0c1) (h_a0c2 : As a0c2) (h_a0c3 : Bl a0c3) (h_a0c3c1 : Ah a0c3c1) (h_a0c3c2 : Ah a0c3c2) (h_a0c3c3 : Ah a0c3c3) (h_a0c3c4 : Ah a0c3c4) (h_a0c4 : AF a0c4) (h_a0c4c1 : Bj a0c4c1) (h_a0c4c2 : Bi a0c4c2) (h_a0c5 : Cf a0c5) (h_a0c6 : Cf a0c6) : Ak (fun r => C9 r.1 ∧ De r.2.1 ∧ As r.2.2.1 ∧ Bl r.2.2.2.1 ∧ Ah r.2.2.2.2.1 ∧ Ah r.2.2.2.2.2.1 ∧ Ah r.2.2.2.2.2.2.1 ∧ Ah r.2.2.2.2.2.2.2.1 ∧ AF r.2.2.2.2.2.2.2.2.1 ∧ Bj r.2.2.2.2.2.2.2.2.2.1 ∧ Bi r.2.2.2.2.2.2.2.2.2.2.1 ∧ Cf r.2.2.2.2.2.2.2.2.2.2.2.1 ∧ Cf r.2.2.2.2.2.2.2.2.2.2.2.2) (Aj.j1 a0 a0c1 a0c2 a0c3 a0c3c1 a0c3c2 a0c3c3 a0c3c4 a0c4 a0c4c1 a0c4c2 a0c5 a0c6 s559) := by
 unfold Aj.j1
 exact Ak.bind (Le h_a0 h_a0c1 h_a0c2 h_a0c3 h_a0c3c1 h_a0c3c2 h_a0c3c3 h_a0c3c4 h_a0c4 h_a0c4c1 h_a0c4c2 h_a0c5 h_a0c6) (fun r1292 h1 =>
 Ak.bif (fun h2 =>
  Ak.bind (Lr h1.1 h_a0c1 h1.2.1 h1.2.2.1 h_a0c3c1 h_a0c3c2 h_a0c3c3 h_a0c3c4 h1.2.2.2.1 h_a0c4c1 h_a0c4c2 h1.2.2.2.2.1 h1.2.2.2.2.2) (fun r1958 h3 =>
  Ho h_a0c1 h3.1 h3.2.1 h3.2.2.1 h3.2.2.2.1 h3.2.2.2.2.1 h3.2.2.2.2.2.1 h3.2.2.2.2.2.2.1 h3.2.2.2.2.2.2.2.1 h3.2.2.2.2.2.2.2.2.1 h3.2.2.2.2.2.2.2.2.2.1 h3.2.2.2.2.2.2.2.2.2.2.1.Ba h3.2.2.2.2.2.2.2.2.2.2.1.Bw h3.2.2.2.2.2.2.2.2.2.2.2.Ba h3.2.2.2.2.2.2.2.2.2.2.2.Bw)) (fun h2 =>
  Ho h_a0c1 h1.1 h1.2.1 h1.2.2.1 h_a0c3c1 h_a0c3c2 h_a0c3c3 h_a0c3c4 h1.2.2.2.1 h_a0c4c1 h_a0c4c2 h1.2.2.2.2.1.Ba h1.2.2.2.2.1.Bw h1.2.2.2.2.2.Ba h1.2.2.2.2.2.Bw))
theorem Lu {a0 : A7} {a0c1 : Ag} {a0c2 : Ac} {a0c3 : Al} {a0c3c1 : Aa} {a0c3c2 : Aa} {a0c3c3 : Aa} {a0c3c4 : Aa} {a0c4 : Ai} {a0c4c1 : Am} {a0c4c2 : An} {a0c5 : AL} {a0c6 : AL} (h_a0 : C9 a0) (h_a0c1 : De a0c1) (h_a0c2 : As a0c2) (h_a0c3 : Bl a0c3) (h_a0c3c1 : Ah a0c3c1) (h_a0c3c2 : Ah a0c3c2) (h_a0c3c3 : Ah a0c3c3) (h_a0c3c4 : Ah a0c3c4) (h_a0c4 : AF a0c4) (h_a0c4c1 : Bj a0c4c1) (h_a0c4c2 : Bi a0c4c2) (h_a0c5 : Cf a0c5) (h_a0c6 : Cf a0c6) : Ak (fun r => C9 r.1 ∧ De r.2.1 ∧ As r.2.2.1 ∧ Bl r.2.2.2.1 ∧ Ah r.2.2.2.2.1 ∧ Ah r.2.2.2.2.2.1 ∧ Ah r.2.2.2.2.2.2.1 ∧ Ah r.2.2.2.2.2.2.2.1 ∧ AF r.2.2.2.2.2.2.2.2.1 ∧ Bj r.2.2.2.2.2.2.2.2.2.1 ∧ Bi r.2.2.2.2.2.2.2.2.2.2.1 ∧ Cf r.2.2.2.2.2.2.2.2.2.2.2.1 ∧ Cf r.2.2.2.2.2.2.2.2.2.2.2.2) (Aj.f a0 a0c1 a0c2 a0c3 a0c3c1 a0c3c2 a0c3c3 a0c3c4 a0c4 a0c4c1 a0c4c2 a0c5 a0c6) := by
 unfold Aj.f
 exact Ak.bind (P6 h_a0c3 h_a0c3c1 h_a0c3c2 h_a0c3c3 h_a0c3c4) (fun r560 _ =>
 Ak.bif (fun h2 =>
  Ak.bind (Nk h_a0c2) (fun r565 _ =>
  Hl h_a0 h_a0c1 h_a0c2 h_a0c3 h_a0c3c1 h_a0c3c2 h_a0c3c3 h_a0c3c4 h_a0c4 h_a0c4c1 h_a0c4c2 h_a0c5 h_a0c6)) (fun h2 =>
  Ak.bind (Pg h_a0c4 h_a0c4c1 h_a0c4c2) (fun r585 _ =>
  Ak.bind (Nk h_a0c2) (fun r589 _ =>
  Hl h_a0 h_a0c1 h_a0c2 h_a0c3 h_a0c3c1 h_a0c3c2 h_a0c3c3 h_a0c3c4 h_a0c4 h_a0c4c1 h_a0c4c2 h_a0c5 h_a0c6))))
end Go.Proofs.YtkjkgdhgcdgbhaaGreatDoor
