/- The texts WTopB, WCertA, WCertB, WCertC, WTopR, WCertD, WCertE, WTopD, WTopE, WTopF, WTopG, one behind the other. -/
import Derived.Test.YthbgfkccfpihgaaGreatDoorGB1
import Derived.Test.YthbgfkccfpihgaaGreatDoorProg
set_option linter.unusedVariables false
set_option linter.unusedSimpArgs false
section
set_option linter.unusedVariables false
set_option maxHeartbeats 0
set_option maxRecDepth 100000
namespace AL
open Go Go.Proofs
def AFg : AG := ⟨.val int <| .nil, [], .agg (.val int <| .val (.sl AR) <| .nil) <| .nil, []⟩
theorem AH1 : ∀  xa xo, (AFg.prog (mkC Tryz.prog AFe ⟨false, false⟩ noL noJ) Tryz.f27 xa xo).run = AJq  xa.1 := by intros; kernel_rfl
noncomputable def YQ := AH AFe 27 (AFg.AF (fun xa xo => AJq xa.1))
theorem ACD : OKs YQ := fn_A AFf Tryz.func27 AH1
def AAW : AG := ⟨.obj 0 <| .AI (.sl int) <| .nil, [(80, .skip <| .skip <| .skip <| .skip <| .skip <| .AI (.sl AB) <| .skip <| .skip <| .skip <| .skip <| .skip <| .nil)], .val int <| .nil, []⟩
def AH2 (nn : Nat) : Nat -> Option Af := fun n =>
 bif Nat.beq n 3 then some ⟨{ env := [(5, .dat int), (10, .dat int)], heap := [], keep := [0, 1, 4, 8, 9], AN := [1] }, fun _ => nn⟩ else
 none
theorem AFh : ∀ (nn : Nat)  xa xo, (AAW.prog (mkC Tryz.prog YQ ⟨false, false⟩ (AH2 nn) noJ) Tryz.f28 xa xo).run = Xb nn xa.1 xo.1.1 := by intros; kernel_rfl
noncomputable def Sp := AH YQ 28 (AAW.AF (fun xa xo => VD xa.1 xo.1.1))
theorem YR : OKs Sp := fn_A ACD Tryz.func28 (AFh AK)
def AAX : AG := ⟨.obj 0 <| .val int <| .val int <| .nil, [(80, .skip <| .skip <| .skip <| .skip <| .skip <| .AI (.sl AB) <| .skip <| .skip <| .skip <| .skip <| .DM (.mp int (.sl int)) <| .nil)], .val int <| .nil, []⟩
def AH3 (nn : Nat) : Nat -> Option Af := fun n =>
 bif Nat.beq n 3 then some ⟨{ env := [(2, .dat int), (7, .arr 49), (17, .dat int)], heap := [(49, .arr 3 int)], keep := [0, 1, 6, 16], AN := [1, 29] }, fun _ => nn⟩ else
 none
theorem AFi : ∀ (nn : Nat)  xa xo, (AAX.prog (mkC Tryz.prog Sp ⟨false, false⟩ (AH3 nn) noJ) Tryz.f29 xa xo).run = Xc nn xa.1 xa.2.1 xo.1.1 xo.1.2.1 := by intros; kernel_rfl
noncomputable def Sq := AH Sp 29 (AAX.AF (fun xa xo => AAE xa.1 xa.2.1 xo.1.1 xo.1.2.1))
theorem YS : OKs Sq := fn_A YR Tryz.func29 (AFi AK)
def Ok : AG := ⟨.agg (.AI (.sl AB) <| .AI (.sl Ar) <| .AI (.sl AX) <| .AI (.sl Ax) <| .AI (.sl Ar) <| .nil) <| .nil, [], .own 3 int <| .nil, []⟩
def YT (nn : Nat) : Nat -> Option Af := fun n =>
 bif Nat.beq n 3 then some ⟨{ env := [(13, .dat int)], heap := [(384, .arr 3 int)], keep := [0, 1, 2, 3, 11, 12], AN := [64] }, fun _ => nn⟩ else
 none
theorem Vl : ∀ (nn : Nat)  xa xo, (Ok.prog (mkC Tryz.prog Sq ⟨false, false⟩ (YT nn) noJ) Tryz.f77 xa xo).run = LF nn xa.1.1 xa.1.2.1 xa.1.2.2.1 xa.1.2.2.2.1 xa.1.2.2.2.2.1 := by intros; kernel_rfl
noncomputable def JF := AH Sq 77 (Ok.AF (fun xa xo => Jw xa.1.1 xa.1.2.1 xa.1.2.2.1 xa.1.2.2.2.1 xa.1.2.2.2.2.1))
theorem Pn : OKs JF := fn_A YS Tryz.func77 (Vl AK)
def Q7 : AG := ⟨.val int <| .val int <| .nil, [], .own 4 .bool <| .nil, []⟩
def ACE (nn : Nat) : Nat -> Option Af := fun n =>
 bif Nat.beq n 3 then some ⟨{ env := [(10, .dat int)], heap := [(192, .arr 4 Ty.bool)], keep := [0, 1, 4, 5, 9], AN := [] }, fun _ => nn⟩ else
 none
theorem YU : ∀ (nn : Nat)  xa xo, (Q7.prog (mkC Tryz.prog JF ⟨false, false⟩ (ACE nn) noJ) Tryz.f78 xa xo).run = OB nn xa.1 xa.2.1 := by intros; kernel_rfl
noncomputable def LS := AH JF 78 (Q7.AF (fun xa xo => Mz xa.1 xa.2.1))
theorem Sr : OKs LS := fn_A Pn Tryz.func78 (YU AK)
def AAY : AG := ⟨.val int <| .nil, [], .val int <| .nil, []⟩
theorem AFj : ∀  xa xo, (AAY.prog (mkC Tryz.prog LS ⟨false, false⟩ noL noJ) Tryz.f209 xa xo).run = AD8  xa.1 := by intros; kernel_rfl
noncomputable def Ss := AH LS 209 (AAY.AF (fun xa xo => AD8 xa.1))
theorem YV : OKs Ss := fn_A Sr Tryz.func209 AFj
def Ol : AG := ⟨.obj 0 <| .nil, [(80, .skip <| .skip <| .own 81 CL <| .own 90 AU <| .skip <| .AI (.sl AB) <| .AI (.sl Ar) <| .AI (.sl AX) <| .AI (.sl Ax) <| .AI (.sl Ar) <| .DM (.mp int (.sl int)) <| .nil)], .nil, []⟩
def YW (nn : Nat) : Nat -> Option Af := fun n =>
 bif Nat.beq n 2 then some ⟨{ env := [(19, .dat int)], heap := [(1, .box 80 ((ASh.opq 17).cons ((ASh.opq 18).cons ((ASh.arr 19).cons ((ASh.arr 20).cons ((ASh.opq 21).cons ((ASh.idn 22 (int.pair (int.pair (int.pair (int.pair (int.pair (int.pair (int.pair Ty.unit))))))).sl).cons ((ASh.idn 23 (Ty.str.pair (int.pair Ty.unit)).sl).cons ((ASh.idn 24 (Ty.str.pair (int.pair (int.pair (int.pair Ty.unit)))).sl).cons ((ASh.idn 25 (int.pair (Ty.str.pair (int.pair Ty.unit))).sl).cons ((ASh.idn 26 (Ty.str.pair (int.pair Ty.unit)).sl).cons ((ASh.BY 27).cons ASh.nil)))))))))))), (20, .arr 90 (int.pair (int.pair (Ty.bool.pair (int.pair (int.pair Ty.unit))))))], keep := [0, 2, 17, 18], AN := [19, 27, 320] }, fun _ => nn⟩ else
 bif Nat.beq n 5 then some ⟨{ env := [(40, .dat int)], heap := [(1, .box 80 ((ASh.opq 17).cons ((ASh.opq 18).cons ((ASh.arr 19).cons ((ASh.arr 20).cons ((ASh.opq 21).cons ((ASh.idn 22 (int.pair (int.pair (int.pair (int.pair (int.pair (int.pair (int.pair Ty.unit))))))).sl).cons ((ASh.idn 23 (Ty.str.pair (int.pair Ty.unit)).sl).cons ((ASh.idn 24 (Ty.str.pair (int.pair (int.pair (int.pair Ty.unit)))).sl).cons ((ASh.idn 25 (int.pair (Ty.str.pair (int.pair Ty.unit))).sl).cons ((ASh.idn 26 (Ty.str.pair (int.pair Ty.unit)).sl).cons ((ASh.BY 27).cons ASh.nil)))))))))))), (20, .arr 90 (int.pair (int.pair (Ty.bool.pair (int.pair (int.pair Ty.unit))))))], keep := [0, 2, 3, 4, 17, 18, 19, 38, 39], AN := [19, 27, 320, 1152, 2240] }, fun _ => nn⟩ else
 none
theorem Vm : ∀ (nn : Nat)  xa xo, (Ol.prog (mkC Tryz.prog Ss ⟨false, false⟩ (YW nn) noJ) Tryz.f31 xa xo).run = LG nn xo.1.1 xo.1.2.1 xo.1.2.2.1 xo.1.2.2.2.1 xo.1.2.2.2.2.1 xo.1.2.2.2.2.2.1 xo.1.2.2.2.2.2.2.1 xo.1.2.2.2.2.2.2.2.1 := by intros; kernel_rfl
noncomputable def JG := AH Ss 31 (Ol.AF (fun xa xo => Jx xo.1.1 xo.1.2.1 xo.1.2.2.1 xo.1.2.2.2.1 xo.1.2.2.2.2.1 xo.1.2.2.2.2.2.1 xo.1.2.2.2.2.2.2.1 xo.1.2.2.2.2.2.2.2.1))
theorem Po : OKs JG := fn_A YV Tryz.func31 (Vm AK)
def Vn : AG := ⟨.obj 0 <| .nil, [(80, .val int <| .val (.sl AR) <| .skip <| .skip <| .skip <| .val (.sl AB) <| .skip <| .skip <| .skip <| .skip <| .DM (.mp int (.sl int)) <| .nil)], .nil, []⟩
def AFk (nn : Nat) : Nat -> Option Af := fun n =>
 bif Nat.beq n 1 then some ⟨{ env := [(12, .dat int)], heap := [(1, .box 80 ((ASh.dat int).cons ((ASh.dat (int.pair (int.pair Ty.unit)).sl).cons ((ASh.opq 19).cons ((ASh.opq 20).cons ((ASh.opq 21).cons ((ASh.dat (int.pair (int.pair (int.pair (int.pair (int.pair (int.pair (int.pair Ty.unit))))))).sl).cons ((ASh.opq 23).cons ((ASh.opq 24).cons ((ASh.opq 25).cons ((ASh.opq 26).cons ((ASh.BY 27).cons ASh.nil)))))))))))), (27, .mp int int.sl)], keep := [0, 10, 11], AN := [] }, fun _ => nn⟩ else
 none
theorem ACF : ∀ (nn : Nat)  xa xo, (Vn.prog (mkC Tryz.prog JG ⟨false, true⟩ (AFk nn) noJ) Tryz.f30 xa xo).run = SI nn xo.1.1 xo.1.2.1 xo.1.2.2.1 xo.1.2.2.2.1 := by intros; kernel_rfl
noncomputable def Om := AH JG 30 (Vn.AF (fun xa xo => SJ xo.1.1 xo.1.2.1 xo.1.2.2.1 xo.1.2.2.2.1))
theorem Vo : OKs Om := fn_A Po Tryz.func30 (ACF AK)
def DJ : AG := ⟨.agg (.val (.sl AB) <| .val (.sl Ar) <| .val (.sl AX) <| .val (.sl Ax) <| .val (.sl Ar) <| .nil) <| .nil, [], .agg (.val int <| .val (.sl AR) <| .val (.sl CL) <| .val (.sl AU) <| .val (.sl Et) <| .nil) <| .nil, []⟩
def ACG (nn : Nat) : Nat -> Option Af := fun n =>
 bif Nat.beq n 4 then some ⟨{ env := [(4, .arr 50), (23, .dat int)], heap := [(384, .box 80 ((ASh.dat int).cons (ASh.K5.cons ((ASh.arr 52).cons (ASh.K5.cons (ASh.K5.cons ((ASh.dat (int.pair (int.pair (int.pair (int.pair (int.pair (int.pair (int.pair Ty.unit))))))).sl).cons ((ASh.dat (Ty.str.pair (int.pair Ty.unit)).sl).cons ((ASh.dat (Ty.str.pair (int.pair (int.pair (int.pair Ty.unit)))).sl).cons ((ASh.dat (int.pair (Ty.str.pair (int.pair Ty.unit))).sl).cons ((ASh.dat (Ty.str.pair (int.pair Ty.unit)).sl).cons ((ASh.BY 256).cons ASh.nil)))))))))))), (50, .arr 3 int), (52, .arr 81 (int.pair (int.pair (int.pair Ty.unit))))], keep := [0, 1, 2, 3, 5, 21, 22], AN := [64, 128, 256] }, fun _ => nn⟩ else
 bif Nat.beq n 8 then some ⟨{ env := [(40, .dat int)], heap := [(384, .box 80 ((ASh.dat int).cons (ASh.K5.cons ((ASh.arr 52).cons (ASh.K5.cons (ASh.K5.cons ((ASh.dat (int.pair (int.pair (int.pair (int.pair (int.pair (int.pair (int.pair Ty.unit))))))).sl).cons ((ASh.dat (Ty.str.pair (int.pair Ty.unit)).sl).cons ((ASh.dat (Ty.str.pair (int.pair (int.pair (int.pair Ty.unit)))).sl).cons ((ASh.dat (int.pair (Ty.str.pair (int.pair Ty.unit))).sl).cons ((ASh.dat (Ty.str.pair (int.pair Ty.unit)).sl).cons ((ASh.BY 256).cons ASh.nil)))))))))))), (52, .arr 81 (int.pair (int.pair (int.pair Ty.unit))))], keep := [0, 1, 2, 3, 4, 5, 6, 7, 21, 22, 23, 39], AN := [64, 128, 256, 1600, 1152] }, fun _ => nn⟩ else
 bif Nat.beq n 14 then some ⟨{ env := [(5, .arr 53), (69, .dat int)], heap := [(53, .arr 3 int)], keep := [0, 1, 2, 3, 4, 21, 22, 23, 67, 68], AN := [64, 128, 384, 52, 256, 50] }, fun _ => nn⟩ else
 bif Nat.beq n 21 then some ⟨{ env := [(11, .dat int), (95, .dat int)], heap := [(384, .box 80 ((ASh.dat int).cons ((ASh.dat (int.pair (int.pair Ty.unit)).sl).cons ((ASh.arr 52).cons (ASh.K5.cons (ASh.K5.cons ((ASh.dat (int.pair (int.pair (int.pair (int.pair (int.pair (int.pair (int.pair Ty.unit))))))).sl).cons ((ASh.dat (Ty.str.pair (int.pair Ty.unit)).sl).cons ((ASh.dat (Ty.str.pair (int.pair (int.pair (int.pair Ty.unit)))).sl).cons ((ASh.dat (int.pair (Ty.str.pair (int.pair Ty.unit))).sl).cons ((ASh.dat (Ty.str.pair (int.pair Ty.unit)).sl).cons ((ASh.BY 256).cons ASh.nil)))))))))))), (256, .mp int int.sl)], keep := [0, 1, 2, 3, 4, 5, 21, 22, 23, 67, 68, 69, 93, 94], AN := [64, 128, 52, 53, 2304] }, fun _ => nn⟩ else
 bif Nat.beq n 28 then some ⟨{ env := [(111, .dat int)], heap := [(384, .box 80 ((ASh.dat int).cons ((ASh.dat (int.pair (int.pair Ty.unit)).sl).cons ((ASh.arr 2771).cons ((ASh.arr 2772).cons ((ASh.arr 54).cons ((ASh.dat (int.pair (int.pair (int.pair (int.pair (int.pair (int.pair (int.pair Ty.unit))))))).sl).cons ((ASh.dat (Ty.str.pair (int.pair Ty.unit)).sl).cons ((ASh.dat (Ty.str.pair (int.pair (int.pair (int.pair Ty.unit)))).sl).cons ((ASh.dat (int.pair (Ty.str.pair (int.pair Ty.unit))).sl).cons ((ASh.dat (Ty.str.pair (int.pair Ty.unit)).sl).cons ((ASh.BY 2779).cons ASh.nil)))))))))))), (54, .arr 86 (int.pair (int.pair (int.pair Ty.unit))))], keep := [0, 1, 2, 3, 4, 5, 11, 21, 22, 23, 67, 68, 69, 93, 94, 95, 109, 110], AN := [64, 128, 2771, 2772, 2779, 53, 2304] }, fun _ => nn⟩ else
 none
theorem YX : ∀ (nn : Nat)  xa xo, (DJ.prog (mkC Tryz.prog Om ⟨false, true⟩ (ACG nn) noJ) Tryz.f8 xa xo).run = OC nn xa.1.1 xa.1.2.1 xa.1.2.2.1 xa.1.2.2.2.1 xa.1.2.2.2.2.1 := by intros; kernel_rfl
noncomputable def LU := AH Om 8 (DJ.AF (fun xa xo => Da xa.1.1 xa.1.2.1 xa.1.2.2.1 xa.1.2.2.2.1 xa.1.2.2.2.2.1))
theorem Su : OKs LU := fn_A Vo Tryz.func8 (YX AK)
def Fp : AG := ⟨.agg (.val int <| .AI (.sl AR) <| .AI (.sl CL) <| .AI (.sl AU) <| .AI (.sl Et) <| .nil) <| .AI (.sl int) <| .nil, [], .own 4 .bool <| .nil, []⟩
def ACH (nn : Nat) : Nat -> Option Af := fun n =>
 bif Nat.beq n 3 then some ⟨{ env := [(5, .arr 49), (6, .dat int)], heap := [(49, .arr 4 Ty.bool)], keep := [0, 1, 2, 4], AN := [64] }, fun _ => nn⟩ else
 none
theorem YY : ∀ (nn : Nat)  xa xo, (Fp.prog (mkC Tryz.prog LU ⟨false, false⟩ (ACH nn) noJ) Tryz.f12 xa xo).run = OD nn xa.1.1 xa.1.2.1 xa.1.2.2.1 xa.1.2.2.2.1 xa.1.2.2.2.2.1 xa.2.1 := by intros; kernel_rfl
noncomputable def LV := AH LU 12 (Fp.AF (fun xa xo => GP xa.1.1 xa.1.2.1 xa.1.2.2.1 xa.1.2.2.2.1 xa.1.2.2.2.2.1 xa.2.1))
theorem Sv : OKs LV := fn_A Su Tryz.func12 (YY AK)
def J7 : AG := ⟨.AI (.sl (.sl int)) <| .AI (.sl .bool) <| .nil, [], .val .bool <| .nil, []⟩
def AH4 (nn : Nat) : Nat -> Option Af := fun n =>
 bif Nat.beq n 2 then some ⟨{ env := [(5, .dat int)], heap := [], keep := [0, 1, 4], AN := [] }, fun _ => nn⟩ else
 bif Nat.beq n 6 then some ⟨{ env := [(6, .dat Ty.bool), (7, .dat int)], heap := [], keep := [0, 1, 4, 5], AN := [] }, fun _ => nn⟩ else
 none
theorem AFl : ∀ (nn : Nat)  xa xo, (J7.prog (mkC Tryz.prog LV ⟨false, false⟩ (AH4 nn) noJ) Tryz.f13 xa xo).run = Xd nn xa.1 xa.2.1 := by intros; kernel_rfl
noncomputable def Sw := AH LV 13 (J7.AF (fun xa xo => OE xa.1 xa.2.1))
theorem YZ : OKs Sw := fn_A Sv Tryz.func13 (AFl AK)
def Fq : AG := ⟨.agg (.AI (.sl AB) <| .AI (.sl Ar) <| .AI (.sl AX) <| .AI (.sl Ax) <| .AI (.sl Ar) <| .nil) <| .AI (.sl (.int .u16)) <| .nil, [], .own 3 int <| .nil, []⟩
def ACI (nn : Nat) : Nat -> Option Af := fun n =>
 bif Nat.beq n 3 then some ⟨{ env := [(5, .arr 49), (6, .dat int)], heap := [(49, .arr 3 int)], keep := [0, 1, 2, 4], AN := [64] }, fun _ => nn⟩ else
 none
theorem Ya : ∀ (nn : Nat)  xa xo, (Fq.prog (mkC Tryz.prog Sw ⟨false, false⟩ (ACI nn) noJ) Tryz.f15 xa xo).run = OF nn xa.1.1 xa.1.2.1 xa.1.2.2.1 xa.1.2.2.2.1 xa.1.2.2.2.2.1 xa.2.1 := by intros; kernel_rfl
noncomputable def LW := AH Sw 15 (Fq.AF (fun xa xo => GQ xa.1.1 xa.1.2.1 xa.1.2.2.1 xa.1.2.2.2.1 xa.1.2.2.2.2.1 xa.2.1))
theorem Sx : OKs LW := fn_A YZ Tryz.func15 (Ya AK)
def D8 : AG := ⟨.AI (.sl .bool) <| .nil, [], .own 3 int <| .nil, []⟩
def AFm (nn : Nat) : Nat -> Option Af := fun n =>
 bif Nat.beq n 3 then some ⟨{ env := [(3, .arr 49), (8, .dat int)], heap := [(49, .arr 3 int)], keep := [0, 2, 6, 7], AN := [] }, fun _ => nn⟩ else
 none
theorem ACJ : ∀ (nn : Nat)  xa xo, (D8.prog (mkC Tryz.prog LW ⟨false, false⟩ (AFm nn) noJ) Tryz.f17 xa xo).run = SK nn xa.1 := by intros; kernel_rfl
noncomputable def On := AH LW 17 (D8.AF (fun xa xo => Ew xa.1))
theorem Vp : OKs On := fn_A Sx Tryz.func17 (ACJ AK)
def Dc : AG := ⟨.AI (.sl int) <| .nil, [], .own 3 int <| .nil, []⟩
def Sy (nn : Nat) : Nat -> Option Af := fun n =>
 bif Nat.beq n 3 then some ⟨{ env := [(3, .arr 49), (8, .dat int)], heap := [(49, .arr 3 int)], keep := [0, 2, 6, 7], AN := [] }, fun _ => nn⟩ else
 none
theorem Pp : ∀ (nn : Nat)  xa xo, (Dc.prog (mkC Tryz.prog On ⟨false, false⟩ (Sy nn) noJ) Tryz.f16 xa xo).run = HN nn xa.1 := by intros; kernel_rfl
noncomputable def GU := AH On 16 (Dc.AF (fun xa xo => C7 xa.1))
theorem Ml : OKs GU := fn_A Vp Tryz.func16 (Pp AK)
def J8 : AG := ⟨.AI (.sl .bool) <| .AI (.sl .bool) <| .nil, [], .val .bool <| .nil, []⟩
def AH5 (nn : Nat) : Nat -> Option Af := fun n =>
 bif Nat.beq n 4 then some ⟨{ env := [(5, .dat int)], heap := [], keep := [0, 1, 4], AN := [] }, fun _ => nn⟩ else
 none
theorem AFn : ∀ (nn : Nat)  xa xo, (J8.prog (mkC Tryz.prog GU ⟨false, false⟩ (AH5 nn) noJ) Tryz.f18 xa xo).run = Xe nn xa.1 xa.2.1 := by intros; kernel_rfl
noncomputable def Sz := AH GU 18 (J8.AF (fun xa xo => OG xa.1 xa.2.1))
theorem Yb : OKs Sz := fn_A Ml Tryz.func18 (AFn AK)
def E2 : AG := ⟨.agg (.val (.sl AB) <| .val (.sl Ar) <| .val (.sl AX) <| .val (.sl Ax) <| .val (.sl Ar) <| .nil) <| .nil, [], .agg (.val (.sl AB) <| .val (.sl Ar) <| .val (.sl AX) <| .val (.sl Ax) <| .val (.sl Ar) <| .nil) <| .nil, []⟩
def Yc (nn : Nat) : Nat -> Option Af := fun n =>
 bif Nat.beq n 5 then some ⟨{ env := [(4, .dat int)], heap := [(256, .box 27 ((ASh.dat (int.pair (int.pair (int.pair (int.pair (int.pair (int.pair (int.pair Ty.unit))))))).sl).cons ((ASh.arr 49).cons (ASh.K5.cons ((ASh.dat (int.pair (Ty.str.pair (int.pair Ty.unit))).sl).cons ((ASh.dat (Ty.str.pair (int.pair Ty.unit)).sl).cons ASh.nil)))))), (49, .arr 74 (Ty.str.pair (int.pair Ty.unit)))], keep := [0, 1, 2, 3], AN := [64, 128] }, fun _ => nn⟩ else
 bif Nat.beq n 9 then some ⟨{ env := [(5, .dat int)], heap := [(256, .box 27 ((ASh.dat (int.pair (int.pair (int.pair (int.pair (int.pair (int.pair (int.pair Ty.unit))))))).sl).cons ((ASh.arr 49).cons ((ASh.arr 50).cons ((ASh.dat (int.pair (Ty.str.pair (int.pair Ty.unit))).sl).cons ((ASh.dat (Ty.str.pair (int.pair Ty.unit)).sl).cons ASh.nil)))))), (50, .arr 49 (Ty.str.pair (int.pair (int.pair (int.pair Ty.unit)))))], keep := [0, 1, 2, 3, 4], AN := [64, 128, 49] }, fun _ => nn⟩ else
 bif Nat.beq n 16 then some ⟨{ env := [(7, .dat int)], heap := [(256, .box 27 ((ASh.dat (int.pair (int.pair (int.pair (int.pair (int.pair (int.pair (int.pair Ty.unit))))))).sl).cons ((ASh.arr 49).cons ((ASh.arr 50).cons ((ASh.arr 51).cons ((ASh.dat (Ty.str.pair (int.pair Ty.unit)).sl).cons ASh.nil)))))), (51, .arr 76 (int.pair (Ty.str.pair (int.pair Ty.unit))))], keep := [0, 1, 2, 3, 4, 5], AN := [64, 128, 49, 50] }, fun _ => nn⟩ else
 none
theorem Vq : ∀ (nn : Nat)  xa xo, (E2.prog (mkC Tryz.prog Sz ⟨false, false⟩ (Yc nn) noJ) Tryz.f7 xa xo).run = LH nn xa.1.1 xa.1.2.1 xa.1.2.2.1 xa.1.2.2.2.1 xa.1.2.2.2.2.1 := by intros; kernel_rfl
noncomputable def JH := AH Sz 7 (E2.AF (fun xa xo => Ex xa.1.1 xa.1.2.1 xa.1.2.2.1 xa.1.2.2.2.1 xa.1.2.2.2.2.1))
theorem Pq : OKs JH := fn_A Yb Tryz.func7 (Vq AK)
def AAZ : AG := ⟨.agg (.AI (.sl AB) <| .AI (.sl Ar) <| .AI (.sl AX) <| .AI (.sl Ax) <| .AI (.sl Ar) <| .nil) <| .agg (.val int <| .AI (.sl AR) <| .AI (.sl CL) <| .AI (.sl AU) <| .AI (.sl Et) <| .nil) <| .nil, [], .val .bool <| .nil, []⟩
def AH6 (nn : Nat) : Nat -> Option Af := fun n =>
 bif Nat.beq n 3 then some ⟨{ env := [(5, .dat int), (6, .dat int), (12, .dat int)], heap := [], keep := [0, 1, 2, 3, 4, 10, 11], AN := [64, 128] }, fun _ => nn⟩ else
 none
theorem AFo : ∀ (nn : Nat)  xa xo, (AAZ.prog (mkC Tryz.prog JH ⟨false, false⟩ (AH6 nn) noJ) Tryz.f36 xa xo).run = Xf nn xa.1.1 xa.1.2.1 xa.1.2.2.1 xa.1.2.2.2.1 xa.1.2.2.2.2.1 xa.2.1.1 xa.2.1.2.1 xa.2.1.2.2.1 xa.2.1.2.2.2.1 xa.2.1.2.2.2.2.1 := by intros; kernel_rfl
noncomputable def S2 := AH JH 36 (AAZ.AF (fun xa xo => VE xa.1.1 xa.1.2.1 xa.1.2.2.1 xa.1.2.2.2.1 xa.1.2.2.2.2.1 xa.2.1.1 xa.2.1.2.1 xa.2.1.2.2.1 xa.2.1.2.2.2.1 xa.2.1.2.2.2.2.1))
theorem Yd : OKs S2 := fn_A Pq Tryz.func36 (AFo AK)
end AL
end
section
set_option linter.unusedVariables false
set_option maxHeartbeats 0
set_option maxRecDepth 100000
namespace AL
open Go Go.Proofs
def AFp : AG := ⟨.val int <| .nil, [], .val int <| .nil, []⟩
theorem AH7 : ∀  xa xo, (AFp.prog (mkC Tryz.prog S2 ⟨false, false⟩ noL noJ) Tryz.f224 xa xo).run = AJr  xa.1 := by intros; kernel_rfl
noncomputable def Ye := AH S2 224 (AFp.AF (fun xa xo => AJr xa.1))
theorem ACK : OKs Ye := fn_A Yd Tryz.func224 AH7
def HT : AG := ⟨.AI (.sl (.sl int)) <| .val int <| .nil, [], .val .bool <| .nil, []⟩
def AFq (nn : Nat) : Nat -> Option Af := fun n =>
 bif Nat.beq n 4 then some ⟨{ env := [(18, .dat int)], heap := [], keep := [0, 1, 4, 16, 17], AN := [] }, fun _ => nn⟩ else
 bif Nat.beq n 7 then some ⟨{ env := [(24, .dat int)], heap := [], keep := [0, 1, 4, 6, 16, 17, 18, 22, 23], AN := [] }, fun _ => nn⟩ else
 none
theorem ACL : ∀ (nn : Nat)  xa xo, (HT.prog (mkC Tryz.prog Ye ⟨false, false⟩ (AFq nn) noJ) Tryz.f173 xa xo).run = AAF nn xa.1 xa.2.1 := by intros; kernel_rfl
noncomputable def Vr := AH Ye 173 (HT.AF (fun xa xo => I9 xa.1 xa.2.1))
theorem Vs : OKs Vr := fn_A ACK Tryz.func173 (ACL AK)
section
open Go.Conc Go.RowKit
theorem Yf (p x : Value) : #[p, x] ++ Array.replicate 27 undef = #[p, x, undef, undef, undef, undef, undef, undef, undef, undef, undef, undef, undef, undef, undef, undef, undef, undef, undef, undef, undef, undef, undef, undef, undef, undef, undef, undef, undef] := by
 rw [<- Array.toList_inj]; simp [List.replicate]
theorem Yg (g gm : Nat) (x : Int) (w : World)
  (hl2 : w.cell? ⟨g, 2, none⟩ = some (.map (some gm)))
  (hlk : (Instr.lookup 243 (.map (some gm)) (.int .i64 (IntKind.i64.wrap (-x))) false).run Tryz.prog w = .ok (.bool true) w)  :
  Calls Tryz.prog 225 #[.pointer (some ⟨g, 0, none⟩), .int .i64 x] w (fun e w' => ∃ v, e = .returned v /\ v = .bool false /\ w' = w) := by
 refine Go.Conc.calls_of_loneTo (fun cs => ?_) (by rintro w' ⟨_, h, _⟩; cases h)
 rw [enter_at (c := Tryz.f225.body.getD .skip) _ Tryz.func225 (by kernel_rfl)]
 refine LoneTo.goes (n := 40) ?_
 simp only [Tryz.f225, Option.getD_some, List.size_toArray, List.length_cons, List.length_nil, Nat.reduceAdd, Nat.zero_add, Nat.reduceSub, Yf]
 s_c stepG_seq
 s_reg
 s_op
 s_c stepG_region_end
 s_c stepG_seq
 s_c stepG_seq
 s_reg
 s_op
 s_op
 s_op
 s_op
 s_op
 s_op
 s_op
 s_c stepG_region_end
 s_cond true
 s_c stepG_seq
 s_reg
 s_op
 s_c stepG_region_end
 s_c stepG_ret'
 s_stop
 exact LoneTo.done ⟨.returned (.bool false), _, rfl, ⟨_, rfl, rfl, rfl⟩, rfl, rfl, rfl, rfl, _, Tryz.func225, by simp [results, Tryz.f225, Frame.at]⟩
theorem ACN (g gm : Nat) (x : Int) (w : World)
  (hl2 : w.cell? ⟨g, 2, none⟩ = some (.map (some gm)))
  (hlk : (Instr.lookup 243 (.map (some gm)) (.int .i64 (IntKind.i64.wrap (-x))) false).run Tryz.prog w = .ok (.bool false) w) 
  (hlk2 : (Instr.lookup 243 (.map (some gm)) (.int .i64 x) false).run Tryz.prog w = .ok (.bool true) w)  :
  Calls Tryz.prog 225 #[.pointer (some ⟨g, 0, none⟩), .int .i64 x] w (fun e w' => ∃ v, e = .returned v /\ v = .bool true /\ w' = w) := by
 refine Go.Conc.calls_of_loneTo (fun cs => ?_) (by rintro w' ⟨_, h, _⟩; cases h)
 rw [enter_at (c := Tryz.f225.body.getD .skip) _ Tryz.func225 (by kernel_rfl)]
 refine LoneTo.goes (n := 60) ?_
 simp only [Tryz.f225, Option.getD_some, List.size_toArray, List.length_cons, List.length_nil, Nat.reduceAdd, Nat.zero_add, Nat.reduceSub, Yf]
 s_c stepG_seq
 s_reg
 s_op
 s_c stepG_region_end
 s_c stepG_seq
 s_c stepG_seq
 s_reg
 s_op
 s_op
 s_op
 s_op
 s_op
 s_op
 s_op
 s_c stepG_region_end
 s_cond false
 s_c stepG_skip
 s_c stepG_seq
 s_c stepG_seq
 s_reg
 s_op
 s_op
 s_op
 s_op
 s_op
 s_op
 s_op
 s_c stepG_region_end
 s_cond false
 s_c stepG_skip
 s_c stepG_seq
 s_reg
 s_op
 s_c stepG_region_end
 s_c stepG_ret'
 s_stop
 exact LoneTo.done ⟨.returned (.bool true), _, rfl, ⟨_, rfl, rfl, rfl⟩, rfl, rfl, rfl, rfl, _, Tryz.func225, by simp [results, Tryz.f225, Frame.at]⟩
theorem AFr (g gm gc : Nat) (x : Int) (w w1 : World)
  (hl2 : w.cell? ⟨g, 2, none⟩ = some (.map (some gm)))
  (hlk : (Instr.lookup 243 (.map (some gm)) (.int .i64 (IntKind.i64.wrap (-x))) false).run Tryz.prog w = .ok (.bool false) w) 
  (hlk2 : (Instr.lookup 243 (.map (some gm)) (.int .i64 x) false).run Tryz.prog w = .ok (.bool false) w) 
  (hup : (Instr.mapUpdate 243 (.map (some gm)) (.int .i64 x) (.bool true)).run Tryz.prog w = .ok () w1) 
  (hl3 : w1.cell? ⟨g, 3, none⟩ = some (.chan (some gc)))
  (cap s r : Nat) (buf : Array Value) (tm : Bool) (hc : w1.heap[gc]? = some (.chan cap buf false s r tm)) (hroom : buf.size < cap) :
  Calls Tryz.prog 225 #[.pointer (some ⟨g, 0, none⟩), .int .i64 x] w (fun e w' => ∃ v, e = .returned v /\ v = .bool true /\ w' = w1.setChan gc cap (buf.push (.int .i64 x)) false (s + 1) r tm) := by
 refine Go.Conc.calls_of_loneTo (fun cs => ?_) (by rintro w' ⟨_, h, _⟩; cases h)
 rw [enter_at (c := Tryz.f225.body.getD .skip) _ Tryz.func225 (by kernel_rfl)]
 refine LoneTo.goes (n := 60) ?_
 simp only [Tryz.f225, Option.getD_some, List.size_toArray, List.length_cons, List.length_nil, Nat.reduceAdd, Nat.zero_add, Nat.reduceSub, Yf]
 s_c stepG_seq
 s_reg
 s_op
 s_c stepG_region_end
 s_c stepG_seq
 s_c stepG_seq
 s_reg
 s_op
 s_op
 s_op
 s_op
 s_op
 s_op
 s_op
 s_c stepG_region_end
 s_cond false
 s_c stepG_skip
 s_c stepG_seq
 s_c stepG_seq
 s_reg
 s_op
 s_op
 s_op
 s_op
 s_op
 s_op
 s_op
 s_c stepG_region_end
 s_cond true
 s_c stepG_seq
 s_reg
 s_op
 s_op
 s_op
 s_op
 s_op
 s_op
 s_c stepG_region_end
 s_reg
 s_op
 s_op
 s_op
 s_op
 s_op
 s_stop
 refine LoneTo.step (step_lone_send_room (c := gc) (v := .int .i64 x) (z' := .tuple #[]) (cap := cap) (buf := buf) (s := s) (r := r) (tm := tm) (stepG_comm (cases := #[scase gc (.int .i64 x) (.tuple #[])]) (blocking := true) (shape := .send) (w' := w1) rfl rfl (by decide) (by simp [go_sem, execOp, scase, Act.eval])) hc hroom) ?_
 rw [Frame.finish_at]
 walk_nrm
 refine LoneTo.goes (n := 20) ?_
 s_c stepG_region_end
 s_c stepG_seq
 s_reg
 s_op
 s_c stepG_region_end
 s_c stepG_ret'
 s_stop
 exact LoneTo.done ⟨.returned (.bool true), _, rfl, ⟨_, rfl, rfl, rfl⟩, rfl, rfl, rfl, rfl, _, Tryz.func225, by simp [results, Tryz.f225, Frame.at]⟩
end
theorem AKz : AIo Tryz.prog 225 243 :=
 ⟨fun g gm x w h1 h2 => Yg g gm x w h1 h2, fun g gm x w h1 h2 h3 => ACN g gm x w h1 h2 h3, fun g gm gc x w w1 h1 h2 h3 h4 h5 cap s r buf tm h6 h7 => AFr g gm gc x w w1 h1 h2 h3 h4 h5 cap s r buf tm h6 h7⟩
noncomputable def S3 := AH Vr 225 Qo
theorem Yh : OKs S3 := Ac Vs (ADe (f := 225) AKz (by kernel_rfl) (B1 Tryz.func225 (by kernel_rfl) (by kernel_rfl)))
def J9 : AG := ⟨.obj 0 <| .AI (.sl int) <| .nil, [(247, .skip <| .skip <| .DM (.mp int .bool) <| .DM .ch <| .nil)], .val .bool <| .nil, []⟩
def AH8 (nn : Nat) : Nat -> Option Af := fun n =>
 bif Nat.beq n 3 then some ⟨{ env := [(5, .dat int), (10, .dat int)], heap := [], keep := [0, 1, 4, 8, 9], AN := [1, 20, 21] }, fun _ => nn⟩ else
 none
theorem AFs : ∀ (nn : Nat)  xa xo, (J9.prog (mkC Tryz.prog S3 ⟨false, false⟩ (AH8 nn) noJ) Tryz.f226 xa xo).run = AD9 nn xa.1 xo.1.1 xo.1.2.1.1 xo.1.2.1.2 := by intros; kernel_rfl
noncomputable def AAa := AH S3 226 (J9.AF (fun xa xo => VF xa.1 xo.1.1 xo.1.2.1.1 xo.1.2.1.2))
theorem GV : OKs AAa := fn_A Yh Tryz.func226 (AFs AK)
end AL
end
section
set_option linter.unusedVariables false
set_option maxHeartbeats 0
set_option maxRecDepth 100000
namespace AL
open Go Go.Proofs
def AAb : AG := ⟨.AI (.sl (.sl int)) <| .val int <| .AI (.sl int) <| .nil, [], .own 3 int <| .val .bool <| .nil, []⟩
def AH9 (nn : Nat) : Nat -> Option Af := fun n =>
 bif Nat.beq n 5 then some ⟨{ env := [(8, .dat int), (38, .dat int)], heap := [], keep := [0, 1, 2, 6, 7, 36, 37], AN := [] }, fun _ => nn⟩ else
 bif Nat.beq n 11 then some ⟨{ env := [(56, .dat int)], heap := [(1472, .mpo int 3)], keep := [0, 1, 2, 6, 7, 8, 11, 36, 37, 38, 54, 55], AN := [1792, 1536, 1664] }, fun _ => nn⟩ else
 bif Nat.beq n 14 then some ⟨{ env := [(63, .dat int)], heap := [(1472, .mpo int 3)], keep := [0, 1, 2, 6, 7, 8, 11, 12, 13, 36, 37, 38, 54, 55, 56, 61, 62], AN := [1792, 1536, 1664] }, fun _ => nn⟩ else
 bif Nat.beq n 20 then some ⟨{ env := [(85, .dat int)], heap := [(1536, .mp int Ty.bool), (1664, .ch)], keep := [0, 1, 2, 6, 7, 8, 11, 36, 37, 38, 54, 55, 56, 83, 84], AN := [1792, 1472] }, fun _ => nn⟩ else
 bif Nat.beq n 26 then some ⟨{ env := [(96, .dat int)], heap := [(1792, .box 247 ((ASh.dat int.sl.sl).cons ((ASh.BY 1472).cons ((ASh.BY 1536).cons ((ASh.chv 1664).cons ASh.nil))))), (1536, .mp int Ty.bool), (1664, .ch)], keep := [0, 1, 2, 6, 7, 8, 11, 36, 37, 38, 54, 55, 56, 83, 84, 85, 94, 95], AN := [1472] }, fun _ => nn⟩ else
 none
theorem AFt : ∀ (nn : Nat) (vpRight : LLI -> Int -> Option ((Bool × Unit) × Unit × Unit)) (vplook : LI -> List (Int × Bool) -> Int -> Int -> Option ((Bool × Unit) × ((List (Int × Bool) × (Int × Int) × Unit) × Unit) × Unit)) xa xo, (AAb.prog (mkC Tryz.prog (AH (AH (AH noS 173 (HT.AF (fun xa xo => vpRight xa.1 xa.2.1))) 226 (J9.AF (fun xa xo => vplook xa.1 xo.1.1 xo.1.2.1.1 xo.1.2.1.2))) 225 Qo) ⟨true, false⟩ (AH9 nn) noJ) Tryz.f174 xa xo).run = AEA nn vpRight vplook xa.1 xa.2.1 xa.2.2.1 := by intros; kernel_rfl
noncomputable def AIA := (AH (AH (AH noS 173 (HT.AF (fun xa xo => I9 xa.1 xa.2.1))) 226 (J9.AF (fun xa xo => VF xa.1 xo.1.1 xo.1.2.1.1 xo.1.2.1.2))) 225 Qo)
theorem Yi : OKs AIA := (Ac (Ac (Ac Nz (Ap GV 173 (S := (HT.AF (fun xa xo => I9 xa.1 xa.2.1))) (by kernel_rfl))) (Ap GV 226 (S := (J9.AF (fun xa xo => VF xa.1 xo.1.1 xo.1.2.1.1 xo.1.2.1.2))) (by kernel_rfl))) (Ap GV 225 (S := Qo) (by kernel_rfl)))
noncomputable def S4 := AH AAa 174 (AAb.AF (fun xa xo => AI4 xa.1 xa.2.1 xa.2.2.1))
theorem Yj : OKs S4 := AJg GV Yi fol Tryz.func174 (by kernel_rfl) (by kernel_rfl) (by kernel_rfl) (AFt AK I9 VF)
def KA : AG := ⟨.skip <| .obj 0 <| .obj 1 <| .nil, [(57, .AI (.sl (.sl int)) <| .nil), (57, .AI (.sl (.sl int)) <| .nil)], .nil, []⟩
def AFu (nn : Nat) : Nat -> Option Af := fun n =>
 bif Nat.beq n 2 then some ⟨{ env := [], heap := [], keep := [0, 1, 2, 4, 9, 10, 11], AN := [1, 2, 128] }, fun _ => nn⟩ else
 none
theorem ACO : ∀ (nn : Nat)  xa xo, (KA.prog (mkC Tryz.prog S4 ⟨false, false⟩ (AFu nn) noJ) Tryz.f170 xa xo).run = SL nn xo.1.1 xo.2.1.1 := by intros; kernel_rfl
noncomputable def Oo := AH S4 170 (KA.AF (fun xa xo => Ck xo.1.1 xo.2.1.1))
theorem Vt : OKs Oo := fn_A Yj Tryz.func170 (ACO AK)
def M8 : AG := ⟨.val (.sl (.sl int)) <| .val (.sl (.sl int)) <| .nil, [], .clo 170 (.obj 0 <| .obj 1 <| .nil) <| .nil, [(57, .val (.sl (.sl int)) <| .nil), (57, .val (.sl (.sl int)) <| .nil)]⟩
theorem AFv : ∀  xa xo, (M8.prog (mkC Tryz.prog Oo ⟨false, false⟩ noL noJ) Tryz.f132 xa xo).run = grown  xa.1 xa.2.1 := by intros; kernel_rfl
noncomputable def S5 := AH Oo 132 (M8.AF (fun xa xo => grown xa.1 xa.2.1))
theorem Yk : OKs S5 := fn_A Vt Tryz.func132 AFv
def GW : AG := ⟨.AI (.sl int) <| .obj 0 <| .obj 1 <| .nil, [(57, .AI (.sl (.sl int)) <| .nil), (3, .val int <| .nil)], .val .bool <| .nil, []⟩
theorem Vu : ∀  xa xo, (GW.prog (mkC Tryz.prog S5 ⟨false, false⟩ noL noJ) Tryz.f172 xa xo).run = Bj  xa.1 xo.1.1 xo.2.1.1 := by intros; kernel_rfl
noncomputable def JI := AH S5 172 (GW.AF (fun xa xo => Bj xa.1 xo.1.1 xo.2.1.1))
theorem Pr : OKs JI := fn_A Yk Tryz.func172 Vu
def Hy : AG := ⟨.val (.sl (.sl int)) <| .val int <| .nil, [], .clo 172 (.obj 0 <| .obj 1 <| .nil) <| .nil, [(57, .val (.sl (.sl int)) <| .nil), (3, .val int <| .nil)]⟩
theorem Yl : ∀  xa xo, (Hy.prog (mkC Tryz.prog JI ⟨false, false⟩ noL noJ) Tryz.f134 xa xo).run = M0  xa.1 xa.2.1 := by intros; kernel_rfl
noncomputable def LX := AH JI 134 (Hy.AF (fun xa xo => M0 xa.1 xa.2.1))
theorem S6 : OKs LX := fn_A Pr Tryz.func134 Yl
end AL
end
section
set_option linter.unusedVariables false
set_option maxHeartbeats 0
set_option maxRecDepth 100000
namespace AL
open Go Go.Proofs
def AFw : AG := ⟨.val int <| .nil, [], .val int <| .nil, []⟩
theorem AIB : ∀  xa xo, (AFw.prog (mkC Tryz.prog LX ⟨false, false⟩ noL noJ) Tryz.f74 xa xo).run = mask  xa.1 := by intros; kernel_rfl
noncomputable def Ym := AH LX 74 (AFw.AF (fun xa xo => mask xa.1))
theorem ACP : OKs Ym := fn_A S6 Tryz.func74 AIB
def Vv : AG := ⟨.agg (.AI (.sl AB) <| .AI (.sl Ar) <| .AI (.sl AX) <| .AI (.sl Ax) <| .AI (.sl Ar) <| .nil) <| .nil, [], .val .bool <| .nil, []⟩
theorem ACQ : ∀  xa xo, (Vv.prog (mkC Tryz.prog Ym ⟨false, false⟩ noL noJ) Tryz.f24 xa xo).run = OH  xa.1.1 xa.1.2.1 xa.1.2.2.1 xa.1.2.2.2.1 xa.1.2.2.2.2.1 := by intros; kernel_rfl
noncomputable def Oq := AH Ym 24 (Vv.AF (fun xa xo => OH xa.1.1 xa.1.2.1 xa.1.2.2.1 xa.1.2.2.2.1 xa.1.2.2.2.2.1))
theorem Vw : OKs Oq := fn_A ACP Tryz.func24 ACQ
def AAc : AG := ⟨.agg (.AI (.sl AB) <| .AI (.sl Ar) <| .AI (.sl AX) <| .AI (.sl Ax) <| .AI (.sl Ar) <| .nil) <| .val int <| .val int <| .nil, [], .val int <| .nil, []⟩
theorem AFx : ∀  xa xo, (AAc.prog (mkC Tryz.prog Oq ⟨false, false⟩ noL noJ) Tryz.f111 xa xo).run = Jy  xa.1.1 xa.1.2.1 xa.1.2.2.1 xa.1.2.2.2.1 xa.1.2.2.2.2.1 xa.2.1 xa.2.2.1 := by intros; kernel_rfl
noncomputable def S7 := AH Oq 111 (AAc.AF (fun xa xo => Jy xa.1.1 xa.1.2.1 xa.1.2.2.1 xa.1.2.2.2.1 xa.1.2.2.2.2.1 xa.2.1 xa.2.2.1))
theorem Yn : OKs S7 := fn_A Vw Tryz.func111 AFx
def Ot : AG := ⟨.val int <| .nil, [], .val int <| .nil, []⟩
theorem Vx : ∀  xa xo, (Ot.prog (mkC Tryz.prog S7 ⟨false, false⟩ noL noJ) Tryz.f109 xa xo).run = operands  xa.1 := by intros; kernel_rfl
noncomputable def JJ := AH S7 109 (Ot.AF (fun xa xo => operands xa.1))
theorem Ps : OKs JJ := fn_A Yn Tryz.func109 Vx
def AAd : AG := ⟨.agg (.AI (.sl AB) <| .AI (.sl Ar) <| .AI (.sl AX) <| .AI (.sl Ax) <| .AI (.sl Ar) <| .nil) <| .val int <| .nil, [], .val .bool <| .nil, []⟩
theorem AFy : ∀  xa xo, (AAd.prog (mkC Tryz.prog JJ ⟨false, false⟩ noL noJ) Tryz.f110 xa xo).run = Fl  xa.1.1 xa.1.2.1 xa.1.2.2.1 xa.1.2.2.2.1 xa.1.2.2.2.2.1 xa.2.1 := by intros; kernel_rfl
noncomputable def S8 := AH JJ 110 (AAd.AF (fun xa xo => Fl xa.1.1 xa.1.2.1 xa.1.2.2.1 xa.1.2.2.2.1 xa.1.2.2.2.2.1 xa.2.1))
theorem Yo : OKs S8 := fn_A Ps Tryz.func110 AFy
def AAe : AG := ⟨.agg (.AI (.sl AB) <| .AI (.sl Ar) <| .AI (.sl AX) <| .AI (.sl Ax) <| .AI (.sl Ar) <| .nil) <| .val int <| .nil, [], .val .bool <| .nil, []⟩
theorem AFz : ∀  xa xo, (AAe.prog (mkC Tryz.prog S8 ⟨false, false⟩ noL noJ) Tryz.f71 xa xo).run = VG  xa.1.1 xa.1.2.1 xa.1.2.2.1 xa.1.2.2.2.1 xa.1.2.2.2.2.1 xa.2.1 := by intros; kernel_rfl
noncomputable def S9 := AH S8 71 (AAe.AF (fun xa xo => VG xa.1.1 xa.1.2.1 xa.1.2.2.1 xa.1.2.2.2.1 xa.1.2.2.2.2.1 xa.2.1))
theorem Yp : OKs S9 := fn_A Yo Tryz.func71 AFz
def Vy : AG := ⟨.agg (.AI (.sl AB) <| .AI (.sl Ar) <| .AI (.sl AX) <| .AI (.sl Ax) <| .AI (.sl Ar) <| .nil) <| .val int <| .nil, [], .val int <| .nil, []⟩
theorem ACR : ∀  xa xo, (Vy.prog (mkC Tryz.prog S9 ⟨false, false⟩ noL noJ) Tryz.f73 xa xo).run = JA  xa.1.1 xa.1.2.1 xa.1.2.2.1 xa.1.2.2.2.1 xa.1.2.2.2.2.1 xa.2.1 := by intros; kernel_rfl
noncomputable def Ou := AH S9 73 (Vy.AF (fun xa xo => JA xa.1.1 xa.1.2.1 xa.1.2.2.1 xa.1.2.2.2.1 xa.1.2.2.2.2.1 xa.2.1))
theorem Vz : OKs Ou := fn_A Yp Tryz.func73 ACR
def AAf : AG := ⟨.agg (.AI (.sl AB) <| .AI (.sl Ar) <| .AI (.sl AX) <| .AI (.sl Ax) <| .AI (.sl Ar) <| .nil) <| .nil, [], .val .bool <| .nil, []⟩
def AIC (nn : Nat) : Nat -> Option Af := fun n =>
 bif Nat.beq n 4 then some ⟨{ env := [(3, .dat int), (4, .dat int), (5, .dat int)], heap := [], keep := [0, 1, 2], AN := [64] }, fun _ => nn⟩ else
 none
theorem AF0 : ∀ (nn : Nat)  xa xo, (AAf.prog (mkC Tryz.prog Ou ⟨false, false⟩ (AIC nn) noJ) Tryz.f72 xa xo).run = Xg nn xa.1.1 xa.1.2.1 xa.1.2.2.1 xa.1.2.2.2.1 xa.1.2.2.2.2.1 := by intros; kernel_rfl
noncomputable def TL := AH Ou 72 (AAf.AF (fun xa xo => AAG xa.1.1 xa.1.2.1 xa.1.2.2.1 xa.1.2.2.2.1 xa.1.2.2.2.2.1))
theorem Yq : OKs TL := fn_A Vz Tryz.func72 (AF0 AK)
def V0 : AG := ⟨.agg (.AI (.sl AB) <| .AI (.sl Ar) <| .AI (.sl AX) <| .AI (.sl Ax) <| .AI (.sl Ar) <| .nil) <| .nil, [], .val .bool <| .nil, []⟩
def AF1 (nn : Nat) : Nat -> Option Af := fun n =>
 bif Nat.beq n 4 then some ⟨{ env := [(3, .dat int)], heap := [], keep := [0, 1, 2], AN := [64] }, fun _ => nn⟩ else
 bif Nat.beq n 12 then some ⟨{ env := [(4, .dat int), (5, .dat int)], heap := [], keep := [0, 1, 2, 3], AN := [64] }, fun _ => nn⟩ else
 bif Nat.beq n 20 then some ⟨{ env := [(8, .dat int)], heap := [], keep := [0, 1, 2, 3, 4, 5], AN := [64] }, fun _ => nn⟩ else
 bif Nat.beq n 26 then some ⟨{ env := [(10, .dat int)], heap := [], keep := [0, 1, 2, 3, 4, 5, 8], AN := [64] }, fun _ => nn⟩ else
 none
theorem ACS : ∀ (nn : Nat)  xa xo, (V0.prog (mkC Tryz.prog TL ⟨false, false⟩ (AF1 nn) noJ) Tryz.f25 xa xo).run = SM nn xa.1.1 xa.1.2.1 xa.1.2.2.1 xa.1.2.2.2.1 xa.1.2.2.2.2.1 := by intros; kernel_rfl
noncomputable def Ov := AH TL 25 (V0.AF (fun xa xo => SN xa.1.1 xa.1.2.1 xa.1.2.2.1 xa.1.2.2.2.1 xa.1.2.2.2.2.1))
theorem V1 : OKs Ov := fn_A Yq Tryz.func25 (ACS AK)
def Ow : AG := ⟨.agg (.val int <| .val int <| .val int <| .val int <| .val int <| .val int <| .val int <| .nil) <| .nil, [], .val int <| .nil, []⟩
theorem V3 : ∀  xa xo, (Ow.prog (mkC Tryz.prog Ov ⟨false, false⟩ noL noJ) Tryz.f75 xa xo).run = Fm  xa.1.1 xa.1.2.1 xa.1.2.2.1 xa.1.2.2.2.1 xa.1.2.2.2.2.1 xa.1.2.2.2.2.2.1 xa.1.2.2.2.2.2.2.1 := by intros; kernel_rfl
noncomputable def JK := AH Ov 75 (Ow.AF (fun xa xo => Fm xa.1.1 xa.1.2.1 xa.1.2.2.1 xa.1.2.2.2.1 xa.1.2.2.2.2.1 xa.1.2.2.2.2.2.1 xa.1.2.2.2.2.2.2.1))
theorem Pt : OKs JK := fn_A V1 Tryz.func75 V3
def Ox : AG := ⟨.agg (.AI (.sl AB) <| .AI (.sl Ar) <| .AI (.sl AX) <| .AI (.sl Ax) <| .AI (.sl Ar) <| .nil) <| .nil, [], .val int <| .nil, []⟩
def Yr (nn : Nat) : Nat -> Option Af := fun n =>
 bif Nat.beq n 3 then some ⟨{ env := [(3, .dat int), (4, .dat int)], heap := [], keep := [0, 1, 2], AN := [64] }, fun _ => nn⟩ else
 none
theorem V4 : ∀ (nn : Nat)  xa xo, (Ox.prog (mkC Tryz.prog JK ⟨false, false⟩ (Yr nn) noJ) Tryz.f26 xa xo).run = LJ nn xa.1.1 xa.1.2.1 xa.1.2.2.1 xa.1.2.2.2.1 xa.1.2.2.2.2.1 := by intros; kernel_rfl
noncomputable def JL := AH JK 26 (Ox.AF (fun xa xo => Jz xa.1.1 xa.1.2.1 xa.1.2.2.1 xa.1.2.2.2.1 xa.1.2.2.2.2.1))
theorem Pu : OKs JL := fn_A Pt Tryz.func26 (V4 AK)
def V5 : AG := ⟨.agg (.val int <| .AI (.sl AR) <| .nil) <| .val int <| .val int <| .val int <| .nil, [], .val int <| .nil, []⟩
def AF2 (nn : Nat) : Nat -> Option Af := fun n =>
 bif Nat.beq n 2 then some ⟨{ env := [(9, .dat int)], heap := [], keep := [0, 1, 2, 3, 4, 8], AN := [64] }, fun _ => nn⟩ else
 none
theorem ACT : ∀ (nn : Nat)  xa xo, (V5.prog (mkC Tryz.prog JL ⟨false, false⟩ (AF2 nn) noJ) Tryz.f79 xa xo).run = SO nn xa.1.1 xa.1.2.1 xa.2.1 xa.2.2.1 xa.2.2.2.1 := by intros; kernel_rfl
noncomputable def Oy := AH JL 79 (V5.AF (fun xa xo => SP xa.1.1 xa.1.2.1 xa.2.1 xa.2.2.1 xa.2.2.2.1))
theorem V6 : OKs Oy := fn_A Pu Tryz.func79 (ACT AK)
end AL
end
section
set_option linter.unusedVariables false
set_option maxHeartbeats 0
set_option maxRecDepth 100000
namespace AL
open Go Go.Proofs
def Q8 : AG := ⟨.agg (.val int <| .AI (.sl AR) <| .nil) <| .nil, [], .val .bool <| .nil, []⟩
def ACU (nn : Nat) : Nat -> Option Af := fun n =>
 bif Nat.beq n 4 then some ⟨{ env := [(3, .dat int)], heap := [], keep := [0, 1, 2], AN := [64] }, fun _ => nn⟩ else
 none
theorem Ys : ∀ (nn : Nat)  xa xo, (Q8.prog (mkC Tryz.prog Oy ⟨false, false⟩ (ACU nn) noJ) Tryz.f32 xa xo).run = OI nn xa.1.1 xa.1.2.1 := by intros; kernel_rfl
noncomputable def LY := AH Oy 32 (Q8.AF (fun xa xo => M3 xa.1.1 xa.1.2.1))
theorem TM : OKs LY := fn_A V6 Tryz.func32 (Ys AK)
def AAg : AG := ⟨.val int <| .val int <| .val int <| .val int <| .nil, [], .val .bool <| .nil, []⟩
theorem AF3 : ∀  xa xo, (AAg.prog (mkC Tryz.prog LY ⟨false, false⟩ noL noJ) Tryz.f33 xa xo).run = Qv  xa.1 xa.2.1 xa.2.2.1 xa.2.2.2.1 := by intros; kernel_rfl
noncomputable def TN := AH LY 33 (AAg.AF (fun xa xo => Qv xa.1 xa.2.1 xa.2.2.1 xa.2.2.2.1))
theorem Yt : OKs TN := fn_A TM Tryz.func33 AF3
def Q9 : AG := ⟨.agg (.val int <| .AI (.sl AR) <| .nil) <| .val int <| .nil, [], .val .bool <| .nil, []⟩
theorem Yu : ∀  xa xo, (Q9.prog (mkC Tryz.prog TN ⟨false, false⟩ noL noJ) Tryz.f34 xa xo).run = literal  xa.1.1 xa.1.2.1 xa.2.1 := by intros; kernel_rfl
noncomputable def LZ := AH TN 34 (Q9.AF (fun xa xo => literal xa.1.1 xa.1.2.1 xa.2.1))
theorem TO : OKs LZ := fn_A Yt Tryz.func34 Yu
def DK : AG := ⟨.agg (.val int <| .AI (.sl AR) <| .AI (.sl CL) <| .AI (.sl AU) <| .AI (.sl Et) <| .nil) <| .nil, [], .val .bool <| .nil, []⟩
def ACV (nn : Nat) : Nat -> Option Af := fun n =>
 bif Nat.beq n 4 then some ⟨{ env := [(3, .dat int)], heap := [], keep := [0, 1, 2], AN := [64] }, fun _ => nn⟩ else
 bif Nat.beq n 10 then some ⟨{ env := [(5, .dat int)], heap := [], keep := [0, 1, 2, 3], AN := [64] }, fun _ => nn⟩ else
 bif Nat.beq n 16 then some ⟨{ env := [(7, .dat int)], heap := [], keep := [0, 1, 2, 3, 5], AN := [64] }, fun _ => nn⟩ else
 none
theorem Yv : ∀ (nn : Nat)  xa xo, (DK.prog (mkC Tryz.prog LZ ⟨false, false⟩ (ACV nn) noJ) Tryz.f9 xa xo).run = OJ nn xa.1.1 xa.1.2.1 xa.1.2.2.1 xa.1.2.2.2.1 xa.1.2.2.2.2.1 := by intros; kernel_rfl
noncomputable def La := AH LZ 9 (DK.AF (fun xa xo => Db xa.1.1 xa.1.2.1 xa.1.2.2.1 xa.1.2.2.2.1 xa.1.2.2.2.2.1))
theorem TP : OKs La := fn_A TO Tryz.func9 (Yv AK)
end AL
end
section
set_option linter.unusedVariables false
set_option maxHeartbeats 0
set_option maxRecDepth 100000
namespace AL
open Go Go.Proofs
def MK : AG := ⟨.agg (.val int <| .AI (.sl AR) <| .AI (.sl CL) <| .AI (.sl AU) <| .AI (.sl Et) <| .nil) <| .nil, [], .own 4 .bool <| .nil, []⟩
def V7 (nn : Nat) : Nat -> Option Af := fun n =>
 bif Nat.beq n 3 then some ⟨{ env := [(13, .dat int)], heap := [(384, .arr 4 Ty.bool)], keep := [0, 1, 2, 3, 11, 12], AN := [64] }, fun _ => nn⟩ else
 none
theorem TQ : ∀ (nn : Nat)  xa xo, (MK.prog (mkC Tryz.prog La ⟨false, false⟩ (V7 nn) noJ) Tryz.f56 xa xo).run = OK nn xa.1.1 xa.1.2.1 xa.1.2.2.1 xa.1.2.2.2.1 xa.1.2.2.2.2.1 := by intros; kernel_rfl
noncomputable def ML := AH La 56 (MK.AF (fun xa xo => Qw xa.1.1 xa.1.2.1 xa.1.2.2.1 xa.1.2.2.2.1 xa.1.2.2.2.2.1))
theorem Cl : OKs ML := fn_A TP Tryz.func56 (TQ AK)
end AL
end
section
set_option linter.unusedVariables false
set_option maxHeartbeats 0
set_option maxRecDepth 100000
namespace AL
open Go Go.Proofs
def E3 : AG := ⟨.AI (.sl (.sl int)) <| .val int <| .val (.sl (.sl int)) <| .val (.sl int) <| .nil, [], .val .bool <| .nil, []⟩
abbrev FgC := LLI -> LLI -> Option (Unit × ((LLI × Unit) × (LLI × Unit) × Unit) × Unit)
abbrev FrC := LI -> LLI -> Int -> Option ((Bool × Unit) × ((LLI × Unit) × (Int × Unit) × Unit) × Unit)
def V8 : Code -> Code | .seq a _ => a | c => c
def Oz : Code -> Code | .seq _ b => b | c => c
def AJQ : Code -> Array Oper | .region _ ops _ => ops | _ => #[]
def AK0 : Code -> Code × Code | .block _ (.rangeFunc _ _ a b) => (a, b) | c => (c, c)
noncomputable def ckB : Code := Tryz.f105.body.getD .skip
noncomputable def AID := AJQ (V8 ckB)
noncomputable def AIE := AJQ (V8 (V8 (Oz ckB)))
noncomputable def ckR := Oz (Oz ckB)
noncomputable def ckA := (AK0 (Oz (V8 (Oz ckB)))).1
noncomputable def ALB := (AK0 (Oz (V8 (Oz ckB)))).2
theorem AIF : Tryz.f105.body = some (.seq (.region 0 AID false) (.seq (.seq (.region 1 AIE false) (.block 0 (.rangeFunc (.tmp 14) #[15, 16] ckA ALB))) ckR)) := by kernel_rfl
noncomputable def ckT (vg : FgC) (vr : FrC) : FuncId -> Bo := AH (AH (AH (AH noS 170 (KA.AF fun xa xo => vg xo.1.1 xo.2.1.1)) 132 (M8.AF (fun xa xo => grown xa.1 xa.2.1))) 172 (GW.AF (fun xa xo => vr xa.1 xo.1.1 xo.2.1.1))) 134 (Hy.AF (fun xa xo => M0 xa.1 xa.2.1))
noncomputable def ckC (vg : FgC) (vr : FrC) : DV := mkC Tryz.prog (ckT vg vr) ⟨false, false⟩ (fun _ => none) (fun _ => none)
noncomputable def AIH (l : LLI) (vars : Int) (assume : LI) : St := E3.init (l, vars, [], assume, ()) () Tryz.f105.ntmps
noncomputable def AKN (vg : FgC) (vr : FrC) (l : LLI) (vars : Int) (assume : LI) : St := (Qp (ckC vg vr).cfg AID (AIH l vars assume)).getD (AIH l vars assume)
noncomputable def ACW (vg : FgC) (vr : FrC) (l : LLI) (vars : Int) (assume : LI) : St := (Qp (ckC vg vr).cfg AIE (AKN vg vr l vars assume)).getD (AIH l vars assume)
theorem RA {α : Type} {o : Option α} {d : α} (h : o.isSome = true) : o = some (o.getD d) := by cases o <;> simp at h ⊢
theorem AK1 (vg : FgC) (vr : FrC) (l : LLI) (vars : Int) (assume : LI) : (Qp (ckC vg vr).cfg AID (AIH l vars assume)).isSome = true := by kernel_rfl
theorem AK2 (vg : FgC) (vr : FrC) (l : LLI) (vars : Int) (assume : LI) : (Qp (ckC vg vr).cfg AIE (AKN vg vr l vars assume)).isSome = true := by kernel_rfl
theorem TR (vg : FgC) (vr : FrC) (l : LLI) (vars : Int) (assume : LI) : (ACW vg vr l vars assume).next = 384 := by kernel_rfl
theorem AKO (vg : FgC) (vr : FrC) (l : LLI) (vars : Int) (assume : LI) : (ACW vg vr l vars assume).env 14 = .fn 170 (.cons (.ref 368 0) (.cons (.ref 369 0) .nil)) := by kernel_rfl
theorem AK3 (vg : FgC) (vr : FrC) (l : LLI) (vars : Int) (assume : LI) : (ACW vg vr l vars assume).heap 0 = .none := by kernel_rfl
theorem AKP (vg : FgC) (vr : FrC) (l : LLI) (vars : Int) (assume : LI) : (ckT vg vr 170 (.cons (.opq 384) (.cons (.ref 368 0) (.cons (.ref 369 0) .nil))) 448).run (ACW vg vr l vars assume).heap = (match vg l [] with
 | some y => some ⟨[], .tup .nil, [(368, .box 57 (.cons (.dat (.sl (.sl int)) l) .nil)), (369, .box 57 (.cons (.dat (.sl (.sl int)) []) .nil))]⟩
 | none => none) := by kernel_rfl
theorem AKQ (vg : FgC) (vr : FrC) (l : LLI) (vars : Int) (assume : LI) : (BP (ckC vg vr) ckR { (ACW vg vr l vars assume).upd [(368, .box 57 (.cons (.dat (.sl (.sl int)) l) .nil)), (369, .box 57 (.cons (.dat (.sl (.sl int)) []) .nil))] with next := 512 } Az.no (E3.MB Tryz.prog Tryz.f105) E3.oty.den fun y => y).run =
  (gd ((0 + l.length) * 24 <= lim) <|
  gd (0 + l.length <= lim) <|
  gd ((l.length + 0) * 24 <= lim) <|
  gd (l.length + 0 <= lim) <|
  AD (vr assume (l ++ []) vars) fun y =>
  some ((y.1.1, ()), (), ())) := by kernel_rfl
noncomputable def AK4 := ckT Ck Bj
theorem KB : OKs AK4 :=
 Ac (Ac (Ac (Ac Nz (Ap Cl 170 (S := KA.AF fun xa xo => Ck xo.1.1 xo.2.1.1) (by kernel_rfl))) (Ap Cl 132 (S := M8.AF (fun xa xo => grown xa.1 xa.2.1)) (by kernel_rfl))) (Ap Cl 172 (S := GW.AF (fun xa xo => Bj xa.1 xo.1.1 xo.2.1.1)) (by kernel_rfl))) (Ap Cl 134 (S := Hy.AF (fun xa xo => M0 xa.1 xa.2.1)) (by kernel_rfl))
theorem Yw (l : LLI) (h1 : (0 + l.length) * 24 <= lim) (h2 : 0 + l.length <= lim) : Ck l [] = some ((), ((l, ()), ([], ()), ()), ()) := by
 unfold Ck SL gd
 rw [if_pos h1, if_pos h2]
 rw [show AK = (AK - 1) + 1 from by unfold AK; rfl]
 rfl
theorem Pv : ADd Tryz.prog E3 105 Tryz.f105 (fun xa xo => HO xa.1 xa.2.1 xa.2.2.1 xa.2.2.2.1) := by
 intro xa xo y hy φb owb vs w hbase hsat G hG R hGR
 obtain ⟨l, vars, proof, assume, ⟨⟩⟩ := xa
 cases proof with
 | cons p ps => cases hy
 | nil =>
 have hy' : HO l vars [] assume = some y := hy
 have hend := (AKQ Ck Bj l vars assume).trans hy'
 unfold HO at hy'
 obtain ⟨g1, hy'⟩ := Hw.1 hy'
 obtain ⟨g2, hy'⟩ := Hw.1 hy'
 have hgc := Yw l g1 g2
 refine IN Tryz.func105 AIF ?_
 refine wp_seq ?_
 refine Rw (C := (ckC Ck Bj).cfg) KB fol hbase (.region 0 AID false) (U9 (RA (AK1 Ck Bj l vars assume)) (K := fun e st => e = .normal /\ st = AKN Ck Bj l vars assume) ⟨rfl, rfl⟩) hsat ?_
 rintro e st ⟨rfl, rfl⟩ a1 w1 hs1
 refine wp_seq (wp_seq ?_)
 refine Rw (C := (ckC Ck Bj).cfg) KB fol hbase (.region 1 AIE false) (U9 (RA (AK2 Ck Bj l vars assume)) (K := fun e st => e = .normal /\ st = ACW Ck Bj l vars assume) ⟨rfl, rfl⟩) hs1 ?_
 rintro e st ⟨rfl, rfl⟩ a2 w2 hs2
 refine wp_block ?_
 refine ABM (C := (ckC Ck Bj).cfg) KB hs2 (AKO Ck Bj l vars assume) (res := .tup .nil) (upd := [(368, .box 57 (.cons (.dat (.sl (.sl int)) l) .nil)), (369, .box 57 (.cons (.dat (.sl (.sl int)) []) .nil))]) ?_ ?_ (AK3 Ck Bj l vars assume) ?_
 ·rw [TR]
  exact (AKP Ck Bj l vars assume).trans (by rw [hgc])
 ·rw [TR]
  intro i hi
  simp only [ids, List.map_cons, List.map_nil, List.mem_cons, List.not_mem_nil, or_false] at hi
  omega
 ·intro ow1 w3 hmid hs3
  rw [TR] at hs3
  obtain ⟨_, _, _, hdf, _⟩ := hs2
  exact AHP (C := ckC Ck Bj) KB fol hbase hend hmid hs3 hG hGR
noncomputable def JM := AH ML 105 (E3.AF (fun xa xo => HO xa.1 xa.2.1 xa.2.2.1 xa.2.2.2.1))
theorem Pw : OKs JM := Ac Cl (Js (B1 Tryz.func105 (by kernel_rfl) (by kernel_rfl)) (by decide) Pv)
def AAh : AG := ⟨.val int <| .val int <| .nil, [], .val int <| .nil, []⟩
theorem AF4 : ∀  xa xo, (AAh.prog (mkC Tryz.prog JM ⟨false, false⟩ noL noJ) Tryz.f108 xa xo).run = AEB  xa.1 xa.2.1 := by intros; kernel_rfl
noncomputable def TS := AH JM 108 (AAh.AF (fun xa xo => AEB xa.1 xa.2.1))
theorem Yx : OKs TS := fn_A Pw Tryz.func108 AF4
def AAi : AG := ⟨.val int <| .val int <| .nil, [], .val int <| .nil, []⟩
theorem AF5 : ∀  xa xo, (AAi.prog (mkC Tryz.prog TS ⟨false, false⟩ noL noJ) Tryz.f69 xa xo).run = IS  xa.1 xa.2.1 := by intros; kernel_rfl
noncomputable def TT := AH TS 69 (AAi.AF (fun xa xo => IS xa.1 xa.2.1))
theorem Yy : OKs TT := fn_A Yx Tryz.func69 AF5
def RB : AG := ⟨.agg (.val int <| .AI (.sl AR) <| .nil) <| .nil, [], .val int <| .nil, []⟩
theorem Yz : ∀  xa xo, (RB.prog (mkC Tryz.prog TT ⟨false, false⟩ noL noJ) Tryz.f59 xa xo).run = SQ  xa.1.1 xa.1.2.1 := by intros; kernel_rfl
noncomputable def Lb := AH TT 59 (RB.AF (fun xa xo => SQ xa.1.1 xa.1.2.1))
theorem TU : OKs Lb := fn_A Yy Tryz.func59 Yz
def KC : AG := ⟨.obj 0 <| .val (.sl int) <| .nil, [(166, .own 43 (.sl int) <| .nil)], .nil, []⟩
theorem Px : ∀  xa xo, (KC.prog (mkC Tryz.prog Lb ⟨false, false⟩ noL noJ) Tryz.f102 xa xo).run = Dp  xa.1 xo.1.1 := by intros; kernel_rfl
noncomputable def GX := AH Lb 102 (KC.AF (fun xa xo => Dp xa.1 xo.1.1))
theorem Mm : OKs GX := fn_A TU Tryz.func102 Px
def KD : AG := ⟨.agg (.val int <| .val (.sl AR) <| .nil) <| .val int <| .nil, [], .own 43 (.sl int) <| .nil, []⟩
def TV (nn : Nat) : Nat -> Option Af := fun n =>
 bif Nat.beq n 5 then some ⟨{ env := [(22, .dat int)], heap := [(192, .box 166 ((ASh.arr 722).cons ASh.nil)), (722, .arr 43 int.sl)], keep := [0, 1, 2, 4, 5, 6, 20, 21], AN := [64] }, fun _ => nn⟩ else
 none
theorem Py : ∀ (nn : Nat)  xa xo, (KD.prog (mkC Tryz.prog GX ⟨false, false⟩ (TV nn) noJ) Tryz.f60 xa xo).run = MD nn xa.1.1 xa.1.2.1 xa.2.1 := by intros; kernel_rfl
noncomputable def GY := AH GX 60 (KD.AF (fun xa xo => OL xa.1.1 xa.1.2.1 xa.2.1))
theorem Mn : OKs GY := fn_A Mm Tryz.func60 (Py AK)
def AAj : AG := ⟨.obj 0 <| .val (.sl int) <| .nil, [(165, .obj 1 <| .skip <| .own 43 (.sl int) <| .nil), (186, .val int <| .By 43 3 int <| .By 43 3 int <| .own 3 int <| .own 3 int <| .own 3 int <| .own 3 int <| .skip <| .skip <| .val int <| .own 3 int <| .own 3 int <| .val int <| .val .bool <| .skip <| .val int <| .own 3 int <| .own 4 .bool <| .nil)], .nil, []⟩
theorem AF6 : ∀  xa xo, (AAj.prog (mkC Tryz.prog GY ⟨false, false⟩ noL noJ) Tryz.f63 xa xo).run = AAH  xa.1 xo.1.1 xo.2.1.1 xo.2.1.2.1 xo.2.1.2.2.1 xo.2.1.2.2.2.1 xo.2.1.2.2.2.2.1 xo.2.1.2.2.2.2.2.1 xo.2.1.2.2.2.2.2.2.1 xo.2.1.2.2.2.2.2.2.2.1 xo.2.1.2.2.2.2.2.2.2.2.1 xo.2.1.2.2.2.2.2.2.2.2.2.1 xo.2.1.2.2.2.2.2.2.2.2.2.2.1 xo.2.1.2.2.2.2.2.2.2.2.2.2.2.1 xo.2.1.2.2.2.2.2.2.2.2.2.2.2.2.1 xo.2.1.2.2.2.2.2.2.2.2.2.2.2.2.2.1 xo.2.1.2.2.2.2.2.2.2.2.2.2.2.2.2.2.1 := by intros; kernel_rfl
noncomputable def TW := AH GY 63 (AAj.AF (fun xa xo => AAH xa.1 xo.1.1 xo.2.1.1 xo.2.1.2.1 xo.2.1.2.2.1 xo.2.1.2.2.2.1 xo.2.1.2.2.2.2.1 xo.2.1.2.2.2.2.2.1 xo.2.1.2.2.2.2.2.2.1 xo.2.1.2.2.2.2.2.2.2.1 xo.2.1.2.2.2.2.2.2.2.2.1 xo.2.1.2.2.2.2.2.2.2.2.2.1 xo.2.1.2.2.2.2.2.2.2.2.2.2.1 xo.2.1.2.2.2.2.2.2.2.2.2.2.2.1 xo.2.1.2.2.2.2.2.2.2.2.2.2.2.2.1 xo.2.1.2.2.2.2.2.2.2.2.2.2.2.2.2.1 xo.2.1.2.2.2.2.2.2.2.2.2.2.2.2.2.2.1))
theorem Y0 : OKs TW := fn_A Mn Tryz.func63 AF6
def O0 : AG := ⟨.val int <| .val (.sl (.sl int)) <| .nil, [], .obj 0 <| .nil, [(165, .obj 1 <| .val int <| .own 43 (.sl int) <| .nil), (186, .val int <| .By 43 3 int <| .By 43 3 int <| .own 3 int <| .own 3 int <| .own 3 int <| .own 3 int <| .own 3 int <| .own 3 int <| .val int <| .own 3 int <| .own 3 int <| .val int <| .val .bool <| .own 43 (.sl int) <| .val int <| .own 3 int <| .own 4 .bool <| .nil)]⟩
def Y1 (nn : Nat) : Nat -> Option Af := fun n =>
 bif Nat.beq n 3 then some ⟨{ env := [(15, .dat int)], heap := [(384, .box 165 ((ASh.ref 240 0).cons ((ASh.dat int).cons ((ASh.arr 49).cons ASh.nil)))), (240, .box 186 ((ASh.dat int).cons ((ASh.arr 210).cons ((ASh.arr 211).cons ((ASh.arr 212).cons ((ASh.arr 213).cons ((ASh.arr 214).cons ((ASh.arr 215).cons ((ASh.arr 216).cons ((ASh.arr 217).cons ((ASh.dat int).cons ((ASh.arr 219).cons ((ASh.arr 220).cons ((ASh.dat int).cons ((ASh.dat Ty.bool).cons ((ASh.arr 223).cons ((ASh.dat int).cons ((ASh.arr 225).cons ((ASh.arr 226).cons ASh.nil))))))))))))))))))), (210, .BC 43 3 int []), (211, .BC 43 3 int []), (212, .arr 3 int), (213, .arr 3 int), (214, .arr 3 int), (215, .arr 3 int), (219, .arr 3 int), (220, .arr 3 int), (225, .arr 3 int), (226, .arr 4 Ty.bool), (49, .arr 43 int.sl)], keep := [0, 1, 5, 13, 14], AN := [216, 217, 223] }, fun _ => nn⟩ else
 none
theorem V9 : ∀ (nn : Nat)  xa xo, (O0.prog (mkC Tryz.prog TW ⟨false, false⟩ (Y1 nn) noJ) Tryz.f58 xa xo).run = Qx nn xa.1 xa.2.1 := by intros; kernel_rfl
noncomputable def JN := AH TW 58 (O0.AF (fun xa xo => VH xa.1 xa.2.1))
theorem Pz : OKs JN := fn_A Y0 Tryz.func58 (V9 AK)
def RC : AG := ⟨.obj 0 <| .val (.sl int) <| .nil, [(165, .obj 1 <| .val int <| .own 43 (.sl int) <| .nil), (186, .val int <| .By 43 3 int <| .By 43 3 int <| .own 3 int <| .own 3 int <| .own 3 int <| .own 3 int <| .own 3 int <| .own 3 int <| .val int <| .own 3 int <| .own 3 int <| .val int <| .val .bool <| .own 43 (.sl int) <| .val int <| .own 3 int <| .own 4 .bool <| .nil)], .val .bool <| .nil, []⟩
theorem Y2 : ∀  xa xo, (RC.prog (mkC Tryz.prog JN ⟨false, false⟩ noL noJ) Tryz.f68 xa xo).run = M4  xa.1 xo.1.1 xo.1.2.1 xo.2.1.1 xo.2.1.2.1 xo.2.1.2.2.1 xo.2.1.2.2.2.1 xo.2.1.2.2.2.2.1 xo.2.1.2.2.2.2.2.1 xo.2.1.2.2.2.2.2.2.1 xo.2.1.2.2.2.2.2.2.2.1 xo.2.1.2.2.2.2.2.2.2.2.1 xo.2.1.2.2.2.2.2.2.2.2.2.1 xo.2.1.2.2.2.2.2.2.2.2.2.2.1 xo.2.1.2.2.2.2.2.2.2.2.2.2.2.1 xo.2.1.2.2.2.2.2.2.2.2.2.2.2.2.1 xo.2.1.2.2.2.2.2.2.2.2.2.2.2.2.2.1 xo.2.1.2.2.2.2.2.2.2.2.2.2.2.2.2.2.1 xo.2.1.2.2.2.2.2.2.2.2.2.2.2.2.2.2.2.1 xo.2.1.2.2.2.2.2.2.2.2.2.2.2.2.2.2.2.2.1 xo.2.1.2.2.2.2.2.2.2.2.2.2.2.2.2.2.2.2.2.1 := by intros; kernel_rfl
noncomputable def Lc := AH JN 68 (RC.AF (fun xa xo => M4 xa.1 xo.1.1 xo.1.2.1 xo.2.1.1 xo.2.1.2.1 xo.2.1.2.2.1 xo.2.1.2.2.2.1 xo.2.1.2.2.2.2.1 xo.2.1.2.2.2.2.2.1 xo.2.1.2.2.2.2.2.2.1 xo.2.1.2.2.2.2.2.2.2.1 xo.2.1.2.2.2.2.2.2.2.2.1 xo.2.1.2.2.2.2.2.2.2.2.2.1 xo.2.1.2.2.2.2.2.2.2.2.2.2.1 xo.2.1.2.2.2.2.2.2.2.2.2.2.2.1 xo.2.1.2.2.2.2.2.2.2.2.2.2.2.2.1 xo.2.1.2.2.2.2.2.2.2.2.2.2.2.2.2.1 xo.2.1.2.2.2.2.2.2.2.2.2.2.2.2.2.2.1 xo.2.1.2.2.2.2.2.2.2.2.2.2.2.2.2.2.2.1 xo.2.1.2.2.2.2.2.2.2.2.2.2.2.2.2.2.2.2.1 xo.2.1.2.2.2.2.2.2.2.2.2.2.2.2.2.2.2.2.2.1))
theorem TX : OKs Lc := fn_A Pz Tryz.func68 Y2
def AF7 : AG := ⟨.agg (.val int <| .AI (.sl AR) <| .AI (.sl CL) <| .AI (.sl AU) <| .AI (.sl Et) <| .nil) <| .val int <| .nil, [], .val int <| .nil, []⟩
theorem AII : ∀  xa xo, (AF7.prog (mkC Tryz.prog Lc ⟨false, false⟩ noL noJ) Tryz.f70 xa xo).run = AJs  xa.1.1 xa.1.2.1 xa.1.2.2.1 xa.1.2.2.2.1 xa.1.2.2.2.2.1 xa.2.1 := by intros; kernel_rfl
noncomputable def Y3 := AH Lc 70 (AF7.AF (fun xa xo => AJs xa.1.1 xa.1.2.1 xa.1.2.2.1 xa.1.2.2.2.1 xa.1.2.2.2.2.1 xa.2.1))
theorem ACX : OKs Y3 := fn_A TX Tryz.func70 AII
def WA : AG := ⟨.agg (.val int <| .AI (.sl AR) <| .AI (.sl CL) <| .AI (.sl AU) <| .AI (.sl Et) <| .nil) <| .nil, [], .own 3 int <| .nil, []⟩
def AF8 (nn : Nat) : Nat -> Option Af := fun n =>
 bif Nat.beq n 3 then some ⟨{ env := [(3, .arr 49), (9, .dat int)], heap := [(49, .arr 3 int)], keep := [0, 1, 2, 7, 8], AN := [64] }, fun _ => nn⟩ else
 none
theorem ACY : ∀ (nn : Nat)  xa xo, (WA.prog (mkC Tryz.prog Y3 ⟨false, false⟩ (AF8 nn) noJ) Tryz.f65 xa xo).run = AAI nn xa.1.1 xa.1.2.1 xa.1.2.2.1 xa.1.2.2.2.1 xa.1.2.2.2.2.1 := by intros; kernel_rfl
noncomputable def O1 := AH Y3 65 (WA.AF (fun xa xo => AEC xa.1.1 xa.1.2.1 xa.1.2.2.1 xa.1.2.2.2.1 xa.1.2.2.2.2.1))
theorem WB : OKs O1 := fn_A ACX Tryz.func65 (ACY AK)
def WC : AG := ⟨.val int <| .obj 0 <| .nil, [(53, .AI (.sl .bool) <| .nil)], .val .bool <| .nil, []⟩
theorem ACZ : ∀  xa xo, (WC.prog (mkC Tryz.prog O1 ⟨false, false⟩ noL noJ) Tryz.f100 xa xo).run = Xh  xa.1 xo.1.1 := by intros; kernel_rfl
noncomputable def O2 := AH O1 100 (WC.AF (fun xa xo => Xh xa.1 xo.1.1))
theorem WD : OKs O2 := fn_A WB Tryz.func100 ACZ
def FG : AG := ⟨.AI (.sl int) <| .clo 100 (.obj 0 <| .nil) <| .nil, [(53, .AI (.sl .bool) <| .nil)], .val int <| .nil, []⟩
def KE (nn : Nat) : Nat -> Option Af := fun n =>
 bif Nat.beq n 2 then some ⟨{ env := [(8, .dat int)], heap := [(1, .box 53 ((ASh.idn 18 Ty.bool.sl).cons ASh.nil))], keep := [0, 1, 4, 7], AN := [] }, fun _ => nn⟩ else
 none
theorem JO : ∀ (nn : Nat)  xa xo, (FG.prog (mkC Tryz.prog O2 ⟨false, false⟩ (KE nn) noJ) Tryz.f95 xa xo).run = Fo nn xa.1 xo.1.1 := by intros; kernel_rfl
noncomputable def Dd := AH O2 95 (FG.AF (fun xa xo => Gg xa.1 xo.1.1))
theorem HU : OKs Dd := fn_A WD Tryz.func95 (JO AK)
def D9 : AG := ⟨.AI (.sl int) <| .clo 100 (.obj 0 <| .nil) <| .nil, [(53, .AI (.sl .bool) <| .nil)], .val .bool <| .nil, []⟩
theorem Gm : ∀  xa xo, (D9.prog (mkC Tryz.prog Dd ⟨false, false⟩ noL noJ) Tryz.f45 xa xo).run = C8  xa.1 xo.1.1 := by intros; kernel_rfl
noncomputable def Cm := AH Dd 45 (D9.AF (fun xa xo => C8 xa.1 xo.1.1))
theorem Fs : OKs Cm := fn_A HU Tryz.func45 Gm
def AAk : AG := ⟨.AI (.sl int) <| .AI (.sl .bool) <| .nil, [], .val .bool <| .nil, []⟩
theorem AF9 : ∀  xa xo, (AAk.prog (mkC Tryz.prog Cm ⟨false, false⟩ noL noJ) Tryz.f57 xa xo).run = meets  xa.1 xa.2.1 := by intros; kernel_rfl
noncomputable def TY := AH Cm 57 (AAk.AF (fun xa xo => meets xa.1 xa.2.1))
theorem Y4 : OKs TY := fn_A Fs Tryz.func57 AF9
def AGA : AG := ⟨.agg (.val int <| .val int <| .val .bool <| .val int <| .val int <| .nil) <| .nil, [], .val int <| .nil, []⟩
theorem AIJ : ∀  xa xo, (AGA.prog (mkC Tryz.prog TY ⟨false, false⟩ noL noJ) Tryz.f62 xa xo).run = AJt  xa.1.1 xa.1.2.1 xa.1.2.2.1 xa.1.2.2.2.1 xa.1.2.2.2.2.1 := by intros; kernel_rfl
noncomputable def Y5 := AH TY 62 (AGA.AF (fun xa xo => AJt xa.1.1 xa.1.2.1 xa.1.2.2.1 xa.1.2.2.2.1 xa.1.2.2.2.2.1))
theorem ACa : OKs Y5 := fn_A Y4 Tryz.func62 AIJ
def AAl : AG := ⟨.agg (.val int <| .val int <| .val .bool <| .val int <| .val int <| .nil) <| .nil, [], .val int <| .nil, []⟩
theorem AGB : ∀  xa xo, (AAl.prog (mkC Tryz.prog Y5 ⟨false, false⟩ noL noJ) Tryz.f67 xa xo).run = AED  xa.1.1 xa.1.2.1 xa.1.2.2.1 xa.1.2.2.2.1 xa.1.2.2.2.2.1 := by intros; kernel_rfl
noncomputable def TZ := AH Y5 67 (AAl.AF (fun xa xo => AED xa.1.1 xa.1.2.1 xa.1.2.2.1 xa.1.2.2.2.1 xa.1.2.2.2.2.1))
theorem Y6 : OKs TZ := fn_A ACa Tryz.func67 AGB
def KF : AG := ⟨.agg (.val int <| .AI (.sl AR) <| .AI (.sl CL) <| .AI (.sl AU) <| .AI (.sl Et) <| .nil) <| .val int <| .clo 62 (.nil) <| .nil, [], .val int <| .nil, []⟩
theorem ACb : ∀  xa xo, (KF.prog (mkC Tryz.prog TZ ⟨false, false⟩ noL noJ) Tryz.f61 xa xo).run = OM  xa.1.1 xa.1.2.1 xa.1.2.2.1 xa.1.2.2.2.1 xa.1.2.2.2.2.1 xa.2.1 := by intros; kernel_rfl
noncomputable def O3 := AH TZ 61 (KF.AF (fun xa xo => OM xa.1.1 xa.1.2.1 xa.1.2.2.1 xa.1.2.2.2.1 xa.1.2.2.2.2.1 xa.2.1))
theorem MM : OKs O3 := fn_A Y6 Tryz.func61 ACb
def Hz : AG := ⟨.agg (.val int <| .AI (.sl AR) <| .AI (.sl CL) <| .AI (.sl AU) <| .AI (.sl Et) <| .nil) <| .val int <| .clo 67 (.nil) <| .nil, [], .val int <| .nil, []⟩
theorem Y7 : ∀  xa xo, (Hz.prog (mkC Tryz.prog O3 ⟨false, false⟩ noL noJ) Tryz.f61 xa xo).run = J0  xa.1.1 xa.1.2.1 xa.1.2.2.1 xa.1.2.2.2.1 xa.1.2.2.2.2.1 xa.2.1 := by intros; kernel_rfl
noncomputable def RD := AH O3 61 (Hz.AF (fun xa xo => J0 xa.1.1 xa.1.2.1 xa.1.2.2.1 xa.1.2.2.2.1 xa.1.2.2.2.2.1 xa.2.1))
theorem KG : OKs RD := fn_A MM Tryz.func61 Y7
noncomputable def O4 := AH RD 61 (AJh 62 (KF.AF (fun xa xo => OM xa.1.1 xa.1.2.1 xa.1.2.2.1 xa.1.2.2.2.1 xa.1.2.2.2.2.1 xa.2.1)) (Hz.AF (fun xa xo => J0 xa.1.1 xa.1.2.1 xa.1.2.2.1 xa.1.2.2.2.1 xa.1.2.2.2.2.1 xa.2.1)))
theorem WE : OKs O4 := Ac KG (AHO (Ap MM 61 (S := (KF.AF (fun xa xo => OM xa.1.1 xa.1.2.1 xa.1.2.2.1 xa.1.2.2.2.1 xa.1.2.2.2.2.1 xa.2.1))) (by kernel_rfl)) (Ap KG 61 (S := (Hz.AF (fun xa xo => J0 xa.1.1 xa.1.2.1 xa.1.2.2.1 xa.1.2.2.2.1 xa.1.2.2.2.2.1 xa.2.1))) (by kernel_rfl)))
def AAm : AG := ⟨.AI (.sl int) <| .nil, [], .own 3 int <| .nil, []⟩
def AIK (nn : Nat) : Nat -> Option Af := fun n =>
 bif Nat.beq n 3 then some ⟨{ env := [(3, .arr 49), (8, .dat int)], heap := [(49, .arr 3 int)], keep := [0, 2, 6, 7], AN := [] }, fun _ => nn⟩ else
 none
theorem AGC : ∀ (nn : Nat)  xa xo, (AAm.prog (mkC Tryz.prog O4 ⟨false, false⟩ (AIK nn) noJ) Tryz.f64 xa xo).run = AEE nn xa.1 := by intros; kernel_rfl
noncomputable def Ta := AH O4 64 (AAm.AF (fun xa xo => AI5 xa.1))
theorem Y8 : OKs Ta := fn_A WE Tryz.func64 (AGC AK)
def O5 : AG := ⟨.agg (.val int <| .val (.sl AR) <| .val (.sl CL) <| .val (.sl AU) <| .val (.sl Et) <| .nil) <| .val int <| .val (.sl (.sl int)) <| .nil, [], .val int <| .nil, []⟩
def AKR (nn : Nat) : Nat -> Option Af := fun n =>
 bif Nat.beq n 4 then some ⟨{ env := [(8, .dat int), (29, .dat int)], heap := [], keep := [0, 1, 2, 3, 6, 7, 27, 28], AN := [64, 256] }, fun _ => nn⟩ else
 bif Nat.beq n 7 then some ⟨{ env := [(35, .dat int)], heap := [], keep := [0, 1, 2, 3, 6, 7, 8, 10, 27, 28, 29, 33, 34], AN := [64, 256] }, fun _ => nn⟩ else
 bif Nat.beq n 19 then some ⟨{ env := [(74, .dat int)], heap := [(1264, .box 165 ((ASh.ref 1265 0).cons ((ASh.dat int).cons ((ASh.arr 1236).cons ASh.nil)))), (1265, .box 186 ((ASh.dat int).cons ((ASh.arr 1238).cons ((ASh.arr 1239).cons ((ASh.arr 1240).cons ((ASh.arr 1241).cons ((ASh.arr 1242).cons ((ASh.arr 1243).cons ((ASh.arr 1244).cons ((ASh.arr 1245).cons ((ASh.dat int).cons ((ASh.arr 1247).cons ((ASh.arr 1248).cons ((ASh.dat int).cons ((ASh.dat Ty.bool).cons ((ASh.arr 1251).cons ((ASh.dat int).cons ((ASh.arr 1253).cons ((ASh.arr 1254).cons ASh.nil))))))))))))))))))), (1238, .BC 43 3 int []), (1239, .BC 43 3 int []), (1240, .arr 3 int), (1241, .arr 3 int), (1242, .arr 3 int), (1243, .arr 3 int), (1247, .arr 3 int), (1248, .arr 3 int), (1253, .arr 3 int), (1254, .arr 4 Ty.bool), (1236, .arr 43 int.sl)], keep := [0, 1, 2, 3, 6, 7, 8, 13, 27, 28, 29, 72, 73], AN := [64, 256, 1244, 1245, 1251] }, fun _ => nn⟩ else
 bif Nat.beq n 23 then some ⟨{ env := [(16, .arr 50), (80, .dat int)], heap := [(50, .arr 3 int)], keep := [0, 1, 2, 3, 6, 7, 8, 13, 15, 27, 28, 29, 72, 73, 74, 78, 79], AN := [64, 256, 1264, 1265, 1238, 1239, 1240, 1241, 1242, 1243, 1244, 1245, 1247, 1248, 1251, 1253, 1254, 1236] }, fun _ => nn⟩ else
 bif Nat.beq n 31 then some ⟨{ env := [(100, .dat int)], heap := [(1264, .box 165 ((ASh.ref 1265 0).cons ((ASh.dat int).cons ((ASh.arr 1236).cons ASh.nil)))), (1265, .box 186 ((ASh.dat int).cons ((ASh.arr 1238).cons ((ASh.arr 1239).cons ((ASh.arr 1240).cons ((ASh.arr 1241).cons ((ASh.arr 1242).cons ((ASh.arr 1243).cons ((ASh.arr 1244).cons ((ASh.arr 1245).cons ((ASh.dat int).cons ((ASh.arr 1247).cons ((ASh.arr 1248).cons ((ASh.dat int).cons ((ASh.dat Ty.bool).cons ((ASh.arr 1251).cons ((ASh.dat int).cons ((ASh.arr 1253).cons ((ASh.arr 1254).cons ASh.nil))))))))))))))))))), (1238, .BC 43 3 int []), (1239, .BC 43 3 int []), (1240, .arr 3 int), (1241, .arr 3 int), (1242, .arr 3 int), (1243, .arr 3 int), (1244, .arr 3 int), (1245, .arr 3 int), (1247, .arr 3 int), (1248, .arr 3 int), (1251, .arr 43 int.sl), (1253, .arr 3 int), (1254, .arr 4 Ty.bool), (1236, .arr 43 int.sl)], keep := [0, 1, 2, 3, 6, 7, 8, 13, 19, 27, 28, 29, 72, 73, 74, 98, 99], AN := [64, 256, 1728] }, fun _ => nn⟩ else
 bif Nat.beq n 35 then some ⟨{ env := [(22, .arr 2368), (108, .dat int)], heap := [(2368, .arr 3 int), (2368, .arr 3 int)], keep := [0, 1, 2, 3, 6, 7, 8, 13, 19, 21, 27, 28, 29, 72, 73, 74, 98, 99, 100, 106, 107], AN := [64, 256, 1264, 1265, 1238, 1239, 1240, 1241, 1242, 1243, 1244, 1245, 1247, 1248, 1251, 1253, 1254, 1236, 1728] }, fun _ => nn⟩ else
 none
theorem AIL : ∀ (nn : Nat)  xa xo, (O5.prog (mkC Tryz.prog Ta ⟨false, false⟩ (AKR nn) noJ) Tryz.f23 xa xo).run = AI6 nn xa.1.1 xa.1.2.1 xa.1.2.2.1 xa.1.2.2.2.1 xa.1.2.2.2.2.1 xa.2.1 xa.2.2.1 := by intros; kernel_rfl
noncomputable def AGD := AH Ta 23 (O5.AF (fun xa xo => AEF xa.1.1 xa.1.2.1 xa.1.2.2.1 xa.1.2.2.2.1 xa.1.2.2.2.2.1 xa.2.1 xa.2.2.1))
theorem ACc : OKs AGD := fn_A Y8 Tryz.func23 (AIL AK)
end AL
end
section
set_option linter.unusedVariables false
set_option maxHeartbeats 0
set_option maxRecDepth 100000
namespace AL
open Go Go.Proofs
noncomputable def MN := AH AGD 40 I5
theorem O6 : OKs MN := Ac ACc (Pk AGE rfl (B1 Tryz.func40 (by kernel_rfl) (by kernel_rfl)))
noncomputable def MO := AH MN 88 I6
theorem O7 : OKs MO := Ac O6 (Pl AGJ rfl (B1 Tryz.func88 (by kernel_rfl) (by kernel_rfl)))
noncomputable def KI := AH MO 90 HL
theorem Mo : OKs KI := Ac O7 (N1 AGK rfl (B1 Tryz.func90 (by kernel_rfl) (by kernel_rfl)))
noncomputable def AGM := AH KI 84 ADm
theorem ACe : OKs AGM := Ac Mo (ADn AGF rfl (B1 Tryz.func84 (by kernel_rfl) (by kernel_rfl)))
noncomputable def IT := AH AGM 113 GN
theorem Ld : OKs IT := Ac ACe (Mi AGI (by kernel_rfl) rfl (B1 Tryz.func113 (by kernel_rfl) (by kernel_rfl)))
noncomputable def AAn := AH IT 85 (ADo 0 9)
theorem Y9 : OKs AAn := Ac Ld (ABQ AGG (by kernel_rfl) rfl rfl rfl (B1 Tryz.func85 (by kernel_rfl) (by kernel_rfl)))
noncomputable def AGN := AH AAn 41 ADp
theorem ACf : OKs AGN := Ac Y9 (ADq AGH ACd rfl (B1 Tryz.func41 (by kernel_rfl) (by kernel_rfl)))
noncomputable def ZA := AH AGN 120 ADs
theorem ACg : OKs ZA := Ac ACf (ADt AGL rfl (B1 Tryz.func120 (by kernel_rfl) (by kernel_rfl)))
def RE : AG := ⟨.agg (.val .str <| .val int <| .nil) <| .nil, [], .val .str <| .nil, []⟩
theorem ZB : ∀  xa xo, (RE.prog (mkC Tryz.prog ZA ⟨false, false⟩ noL noJ) Tryz.f81 xa xo).run = M5  xa.1.1 xa.1.2.1 := by intros; kernel_rfl
noncomputable def Le := AH ZA 81 (RE.AF (fun xa xo => M5 xa.1.1 xa.1.2.1))
theorem Ti : OKs Le := fn_A ACg Tryz.func81 ZB
def O8 : AG := ⟨.agg (.val .str <| .val int <| .val int <| .val int <| .nil) <| .nil, [], .val .str <| .nil, []⟩
theorem WG : ∀  xa xo, (O8.prog (mkC Tryz.prog Le ⟨false, false⟩ noL noJ) Tryz.f83 xa xo).run = J1  xa.1.1 xa.1.2.1 xa.1.2.2.1 xa.1.2.2.2.1 := by intros; kernel_rfl
noncomputable def JP := AH Le 83 (O8.AF (fun xa xo => J1 xa.1.1 xa.1.2.1 xa.1.2.2.1 xa.1.2.2.2.1))
theorem P0 : OKs JP := fn_A Ti Tryz.func83 WG
def RF : AG := ⟨.AI (.sl Ar) <| .clo 81 (.nil) <| .nil, [], .val .bool <| .nil, []⟩
def ACh (nn : Nat) : Nat -> Option Af := fun n =>
 bif Nat.beq n 3 then some ⟨{ env := [(12, .dat int)], heap := [(128, .mp Ty.str int)], keep := [0, 1, 4, 5, 10, 11], AN := [] }, fun _ => nn⟩ else
 none
theorem ZC : ∀ (nn : Nat)  xa xo, (RF.prog (mkC Tryz.prog JP ⟨false, false⟩ (ACh nn) noJ) Tryz.f80 xa xo).run = ON nn xa.1 := by intros; kernel_rfl
noncomputable def Lf := AH JP 80 (RF.AF (fun xa xo => M6 xa.1))
theorem Tj : OKs Lf := fn_A P0 Tryz.func80 (ZC AK)
def RG : AG := ⟨.AI (.sl AX) <| .clo 83 (.nil) <| .nil, [], .val .bool <| .nil, []⟩
def ACi (nn : Nat) : Nat -> Option Af := fun n =>
 bif Nat.beq n 3 then some ⟨{ env := [(12, .dat int)], heap := [(128, .mp Ty.str int)], keep := [0, 1, 4, 5, 10, 11], AN := [] }, fun _ => nn⟩ else
 none
theorem ZD : ∀ (nn : Nat)  xa xo, (RG.prog (mkC Tryz.prog Lf ⟨false, false⟩ (ACi nn) noJ) Tryz.f82 xa xo).run = OO nn xa.1 := by intros; kernel_rfl
noncomputable def Lg := AH Lf 82 (RG.AF (fun xa xo => M7 xa.1))
theorem Tk : OKs Lg := fn_A Tj Tryz.func82 (ZD AK)
def WH : AG := ⟨.agg (.AI (.sl AB) <| .AI (.sl Ar) <| .AI (.sl AX) <| .AI (.sl Ax) <| .AI (.sl Ar) <| .nil) <| .nil, [], .val .bool <| .nil, []⟩
theorem ACj : ∀  xa xo, (WH.prog (mkC Tryz.prog Lg ⟨false, false⟩ noL noJ) Tryz.f35 xa xo).run = JB  xa.1.1 xa.1.2.1 xa.1.2.2.1 xa.1.2.2.2.1 xa.1.2.2.2.2.1 := by intros; kernel_rfl
noncomputable def O9 := AH Lg 35 (WH.AF (fun xa xo => JB xa.1.1 xa.1.2.1 xa.1.2.2.1 xa.1.2.2.2.1 xa.1.2.2.2.2.1))
theorem WI : OKs O9 := fn_A Tk Tryz.func35 ACj
def AGO : AG := ⟨.agg (.AI (.sl AB) <| .AI (.sl Ar) <| .AI (.sl AX) <| .AI (.sl Ax) <| .AI (.sl Ar) <| .nil) <| .agg (.val int <| .val int <| .val .bool <| .val int <| .val int <| .nil) <| .nil, [], .val .str <| .nil, []⟩
theorem AIM : ∀  xa xo, (AGO.prog (mkC Tryz.prog O9 ⟨false, false⟩ noL noJ) Tryz.f37 xa xo).run = ABT  xa.1.1 xa.1.2.1 xa.1.2.2.1 xa.1.2.2.2.1 xa.1.2.2.2.2.1 xa.2.1.1 xa.2.1.2.1 xa.2.1.2.2.1 xa.2.1.2.2.2.1 xa.2.1.2.2.2.2.1 := by intros; kernel_rfl
noncomputable def ZE := AH O9 37 (AGO.AF (fun xa xo => ABT xa.1.1 xa.1.2.1 xa.1.2.2.1 xa.1.2.2.2.1 xa.1.2.2.2.2.1 xa.2.1.1 xa.2.1.2.1 xa.2.1.2.2.1 xa.2.1.2.2.2.1 xa.2.1.2.2.2.2.1))
theorem ACk : OKs ZE := fn_A WI Tryz.func37 AIM
def AAo : AG := ⟨.val int <| .val .str <| .obj 0 <| .nil, [(93, .AI (.CE .str int) <| .nil)], .val int <| .val .bool <| .nil, []⟩
theorem AGP : ∀  xa xo, (AAo.prog (mkC Tryz.prog ZE ⟨false, false⟩ noL noJ) Tryz.f39 xa xo).run = VI  xa.1 xa.2.1 xo.1.1 := by intros; kernel_rfl
noncomputable def Tl := AH ZE 39 (AAo.AF (fun xa xo => VI xa.1 xa.2.1 xo.1.1))
theorem PA : OKs Tl := fn_A ACk Tryz.func39 AGP
def AAp : AG := ⟨.val .str <| .val .str <| .clo 39 (.obj 0 <| .nil) <| .nil, [(93, .AI (.CE .str int) <| .nil)], .own 3 int <| .val .bool <| .nil, []⟩
def AIN (nn : Nat) : Nat -> Option Af := fun n =>
 bif Nat.beq n 3 then some ⟨{ env := [(8, .arr 49), (17, .dat int)], heap := [(1, .box 93 ((ASh.idn 19 (Ty.str.CE int)).cons ASh.nil)), (49, .arr 3 int)], keep := [0, 1, 2, 6, 7, 15, 16], AN := [384, 15] }, fun _ => nn⟩ else
 none
theorem AGQ : ∀ (nn : Nat)  xa xo, (AAp.IP 0 (mkC Tryz.prog Tl ⟨false, false⟩ (AIN nn) noJ) Tryz.f38 xa xo).run = Xi nn xa.1 xa.2.1 xo.1.1 := by intros; kernel_rfl
noncomputable def Tm := AH Tl 38 (DX 0 (AAp.AF (fun xa xo => AAJ xa.1 xa.2.1 xo.1.1)))
theorem PB : OKs Tm := HH PA PA fol Tryz.func38 (by kernel_rfl) (by kernel_rfl) 0 (by kernel_rfl) (AGQ AK)
def FH : AG := ⟨.agg (.val (.sl AB) <| .val (.sl Ar) <| .val (.sl AX) <| .val (.sl Ax) <| .val (.sl Ar) <| .nil) <| .agg (.val int <| .val (.sl AR) <| .val (.sl CL) <| .val (.sl AU) <| .val (.sl Et) <| .nil) <| .val .str <| .nil, [], .val (.sl int) <| .val .bool <| .nil, []⟩
def AIO (nn : Nat) : Nat -> Option Af := fun n =>
 bif Nat.beq n 7 then some ⟨{ env := [(26, .dat int)], heap := [(1024, .mp Ty.str int)], keep := [0, 1, 2, 3, 4, 6, 7, 8, 24, 25], AN := [64, 128, 1088, 15] }, fun _ => nn⟩ else
 none
theorem AGR : ∀ (nn : Nat)  xa xo, (FH.IP 0 (mkC Tryz.prog Tm ⟨false, false⟩ (AIO nn) noJ) Tryz.f10 xa xo).run = Xj nn xa.1.1 xa.1.2.1 xa.1.2.2.1 xa.1.2.2.2.1 xa.1.2.2.2.2.1 xa.2.1.1 xa.2.1.2.1 xa.2.1.2.2.1 xa.2.1.2.2.2.1 xa.2.1.2.2.2.2.1 xa.2.2.1 := by intros; kernel_rfl
noncomputable def Tn := AH Tm 10 (DX 0 (FH.AF (fun xa xo => HP xa.1.1 xa.1.2.1 xa.1.2.2.1 xa.1.2.2.2.1 xa.1.2.2.2.2.1 xa.2.1.1 xa.2.1.2.1 xa.2.1.2.2.1 xa.2.1.2.2.2.1 xa.2.1.2.2.2.2.1 xa.2.2.1)))
theorem ZF : OKs Tn := HH PB PB fol Tryz.func10 (by kernel_rfl) (by kernel_rfl) 0 (by kernel_rfl) (AGR AK)
def Ft : AG := ⟨.agg (.AI (.sl AB) <| .AI (.sl Ar) <| .AI (.sl AX) <| .AI (.sl Ax) <| .AI (.sl Ar) <| .nil) <| .agg (.val int <| .AI (.sl AR) <| .AI (.sl CL) <| .AI (.sl AU) <| .AI (.sl Et) <| .nil) <| .AI (.sl int) <| .nil, [], .val .str <| .nil, []⟩
def ACl (nn : Nat) : Nat -> Option Af := fun n =>
 bif Nat.beq n 7 then some ⟨{ env := [(7, .arr 49), (26, .dat int)], heap := [(49, .arr 9 Ty.str)], keep := [0, 1, 2, 3, 4, 6, 24, 25], AN := [64, 128] }, fun _ => nn⟩ else
 none
theorem ZG : ∀ (nn : Nat)  xa xo, (Ft.prog (mkC Tryz.prog Tn ⟨false, false⟩ (ACl nn) noJ) Tryz.f11 xa xo).run = OP nn xa.1.1 xa.1.2.1 xa.1.2.2.1 xa.1.2.2.2.1 xa.1.2.2.2.2.1 xa.2.1.1 xa.2.1.2.1 xa.2.1.2.2.1 xa.2.1.2.2.2.1 xa.2.1.2.2.2.2.1 xa.2.2.1 := by intros; kernel_rfl
noncomputable def Lh := AH Tn 11 (Ft.AF (fun xa xo => GS xa.1.1 xa.1.2.1 xa.1.2.2.1 xa.1.2.2.2.1 xa.1.2.2.2.2.1 xa.2.1.1 xa.2.1.2.1 xa.2.1.2.2.1 xa.2.1.2.2.2.1 xa.2.1.2.2.2.2.1 xa.2.2.1))
theorem To : OKs Lh := fn_A ZF Tryz.func11 (ZG AK)
end AL
end
section
set_option linter.unusedVariables false
set_option maxHeartbeats 0
set_option maxRecDepth 100000
namespace AL
open Go Go.Proofs
def RH : AG := ⟨.val .str <| .nil, [], .val int <| .val .bool <| .nil, []⟩
theorem ZH : ∀  xa xo, (RH.prog (mkC Tryz.prog Lh ⟨false, false⟩ noL noJ) Tryz.f93 xa xo).run = SR  xa.1 := by intros; kernel_rfl
noncomputable def Li := AH Lh 93 (RH.AF (fun xa xo => SR xa.1))
theorem Tp : OKs Li := fn_A To Tryz.func93 ZH
def WJ : AG := ⟨.val int <| .val .str <| .obj 0 <| .nil, [(27, .AI (.sl AB) <| .AI (.sl Ar) <| .AI (.sl AX) <| .AI (.sl Ax) <| .AI (.sl Ar) <| .nil)], .val int <| .val .bool <| .nil, []⟩
theorem ACm : ∀  xa xo, (WJ.prog (mkC Tryz.prog Li ⟨false, false⟩ noL noJ) Tryz.f92 xa xo).run = Xk  xa.1 xa.2.1 xo.1.1 xo.1.2.1 xo.1.2.2.1 xo.1.2.2.2.1 xo.1.2.2.2.2.1 := by intros; kernel_rfl
noncomputable def PC := AH Li 92 (WJ.AF (fun xa xo => Xk xa.1 xa.2.1 xo.1.1 xo.1.2.1 xo.1.2.2.1 xo.1.2.2.2.1 xo.1.2.2.2.2.1))
theorem MP : OKs PC := fn_A Tp Tryz.func92 ACm
def AAq : AG := ⟨.val .str <| .val .str <| .clo 92 (.obj 0 <| .nil) <| .nil, [(27, .AI (.sl AB) <| .AI (.sl Ar) <| .AI (.sl AX) <| .AI (.sl Ax) <| .AI (.sl Ar) <| .nil)], .own 3 int <| .val .bool <| .nil, []⟩
def AIP (nn : Nat) : Nat -> Option Af := fun n =>
 bif Nat.beq n 3 then some ⟨{ env := [(8, .arr 49), (17, .dat int)], heap := [(1, .box 27 ((ASh.idn 19 (int.pair (int.pair (int.pair (int.pair (int.pair (int.pair (int.pair Ty.unit))))))).sl).cons ((ASh.idn 20 (Ty.str.pair (int.pair Ty.unit)).sl).cons ((ASh.idn 21 (Ty.str.pair (int.pair (int.pair (int.pair Ty.unit)))).sl).cons ((ASh.idn 22 (int.pair (Ty.str.pair (int.pair Ty.unit))).sl).cons ((ASh.idn 23 (Ty.str.pair (int.pair Ty.unit)).sl).cons ASh.nil)))))), (49, .arr 3 int)], keep := [0, 1, 2, 6, 7, 15, 16], AN := [384, 15] }, fun _ => nn⟩ else
 none
theorem AGS : ∀ (nn : Nat)  xa xo, (AAq.IP 0 (mkC Tryz.prog PC ⟨false, false⟩ (AIP nn) noJ) Tryz.f38 xa xo).run = AEG nn xa.1 xa.2.1 xo.1.1 xo.1.2.1 xo.1.2.2.1 xo.1.2.2.2.1 xo.1.2.2.2.2.1 := by intros; kernel_rfl
noncomputable def Tq := AH PC 38 (DX 0 (AAq.AF (fun xa xo => AI7 xa.1 xa.2.1 xo.1.1 xo.1.2.1 xo.1.2.2.1 xo.1.2.2.2.1 xo.1.2.2.2.2.1)))
theorem PD : OKs Tq := HH MP MP fol Tryz.func38 (by kernel_rfl) (by kernel_rfl) 0 (by kernel_rfl) (AGS AK)
def AAr : AG := ⟨.val int <| .val .str <| .obj 0 <| .nil, [(27, .AI (.sl AB) <| .AI (.sl Ar) <| .AI (.sl AX) <| .AI (.sl Ax) <| .AI (.sl Ar) <| .nil)], .val (.sl int) <| .val .bool <| .nil, []⟩
theorem AGT : ∀  xa xo, (AAr.IP 0 (mkC Tryz.prog Tq ⟨false, false⟩ noL noJ) Tryz.f91 xa xo).run = AEH  xa.1 xa.2.1 xo.1.1 xo.1.2.1 xo.1.2.2.1 xo.1.2.2.2.1 xo.1.2.2.2.2.1 := by intros; kernel_rfl
noncomputable def Tt := AH Tq 91 (DX 0 (AAr.AF (fun xa xo => AEH xa.1 xa.2.1 xo.1.1 xo.1.2.1 xo.1.2.2.1 xo.1.2.2.2.1 xo.1.2.2.2.2.1)))
theorem PE : OKs Tt := HH PD PD fol Tryz.func91 (by kernel_rfl) (by kernel_rfl) 0 (by kernel_rfl) AGT
def AAs : AG := ⟨.val .str <| .val .str <| .clo 91 (.obj 0 <| .nil) <| .nil, [(27, .AI (.sl AB) <| .AI (.sl Ar) <| .AI (.sl AX) <| .AI (.sl Ax) <| .AI (.sl Ar) <| .nil)], .own 43 (.sl int) <| .val .bool <| .nil, []⟩
def AIQ (nn : Nat) : Nat -> Option Af := fun n =>
 bif Nat.beq n 3 then some ⟨{ env := [(8, .arr 49), (17, .dat int)], heap := [(1, .box 27 ((ASh.idn 19 (int.pair (int.pair (int.pair (int.pair (int.pair (int.pair (int.pair Ty.unit))))))).sl).cons ((ASh.idn 20 (Ty.str.pair (int.pair Ty.unit)).sl).cons ((ASh.idn 21 (Ty.str.pair (int.pair (int.pair (int.pair Ty.unit)))).sl).cons ((ASh.idn 22 (int.pair (Ty.str.pair (int.pair Ty.unit))).sl).cons ((ASh.idn 23 (Ty.str.pair (int.pair Ty.unit)).sl).cons ASh.nil)))))), (49, .arr 43 int.sl)], keep := [0, 1, 2, 6, 7, 15, 16], AN := [384, 15] }, fun _ => nn⟩ else
 none
theorem AGU : ∀ (nn : Nat)  xa xo, (AAs.IP 0 (mkC Tryz.prog Tt ⟨false, false⟩ (AIQ nn) noJ) Tryz.f89 xa xo).run = AEI nn xa.1 xa.2.1 xo.1.1 xo.1.2.1 xo.1.2.2.1 xo.1.2.2.2.1 xo.1.2.2.2.2.1 := by intros; kernel_rfl
noncomputable def Tu := AH Tt 89 (DX 0 (AAs.AF (fun xa xo => AEJ xa.1 xa.2.1 xo.1.1 xo.1.2.1 xo.1.2.2.1 xo.1.2.2.2.1 xo.1.2.2.2.2.1)))
theorem PF : OKs Tu := HH PE PE fol Tryz.func89 (by kernel_rfl) (by kernel_rfl) 0 (by kernel_rfl) (AGU AK)
def KJ : AG := ⟨.agg (.val (.sl AB) <| .val (.sl Ar) <| .val (.sl AX) <| .val (.sl Ax) <| .val (.sl Ar) <| .nil) <| .val .str <| .nil, [], .val (.sl (.sl int)) <| .val .bool <| .nil, []⟩
theorem AGV : ∀  xa xo, (KJ.IP 0 (mkC Tryz.prog Tu ⟨false, false⟩ noL noJ) Tryz.f42 xa xo).run = Qy  xa.1.1 xa.1.2.1 xa.1.2.2.1 xa.1.2.2.2.1 xa.1.2.2.2.2.1 xa.2.1 := by intros; kernel_rfl
noncomputable def Tv := AH Tu 42 (DX 0 (KJ.AF (fun xa xo => Qy xa.1.1 xa.1.2.1 xa.1.2.2.1 xa.1.2.2.2.1 xa.1.2.2.2.2.1 xa.2.1)))
theorem ZI : OKs Tv := HH PF PF fol Tryz.func42 (by kernel_rfl) (by kernel_rfl) 0 (by kernel_rfl) AGV
def AAt : AG := ⟨.val .bool <| .nil, [], .val int <| .nil, []⟩
theorem AGW : ∀  xa xo, (AAt.prog (mkC Tryz.prog Tv ⟨false, false⟩ noL noJ) Tryz.f208 xa xo).run = AAK  xa.1 := by intros; kernel_rfl
noncomputable def Tw := AH Tv 208 (AAt.AF (fun xa xo => AAK xa.1))
theorem ZJ : OKs Tw := fn_A ZI Tryz.func208 AGW
def AJR : AG := ⟨.val int <| .val int <| .nil, [], .val int <| .nil, []⟩
theorem AKS : ∀  xa xo, (AJR.prog (mkC Tryz.prog Tw ⟨false, false⟩ noL noJ) Tryz.f213 xa xo).run = vW8  xa.1 xa.2.1 := by intros; kernel_rfl
noncomputable def AGX := AH Tw 213 (AJR.AF (fun xa xo => vW8 xa.1 xa.2.1))
theorem AGY : OKs AGX := fn_A ZJ Tryz.func213 AKS
def AGZ : AG := ⟨.val int <| .val int <| .nil, [], .val .bool <| .nil, []⟩
theorem AIR : ∀  xa xo, (AGZ.prog (mkC Tryz.prog AGX ⟨false, false⟩ noL noJ) Tryz.f217 xa xo).run = AJu  xa.1 xa.2.1 := by intros; kernel_rfl
noncomputable def ZK := AH AGX 217 (AGZ.AF (fun xa xo => AJu xa.1 xa.2.1))
theorem ACn : OKs ZK := fn_A AGY Tryz.func217 AIR
def AGa : AG := ⟨.val int <| .val int <| .nil, [], .val .bool <| .nil, []⟩
theorem AIS : ∀  xa xo, (AGa.prog (mkC Tryz.prog ZK ⟨false, false⟩ noL noJ) Tryz.f218 xa xo).run = AJv  xa.1 xa.2.1 := by intros; kernel_rfl
noncomputable def ZL := AH ZK 218 (AGa.AF (fun xa xo => AJv xa.1 xa.2.1))
theorem ACo : OKs ZL := fn_A ACn Tryz.func218 AIS
def AJS : AG := ⟨.agg (.val int <| .val int <| .val int <| .val int <| .val int <| .val int <| .val int <| .nil) <| .val int <| .val int <| .val int <| .val int <| .nil, [], .val int <| .nil, []⟩
theorem AKT : ∀  xa xo, (AJS.prog (mkC Tryz.prog ZL ⟨false, false⟩ noL noJ) Tryz.f202 xa xo).run = vW1  xa.1.1 xa.1.2.1 xa.1.2.2.1 xa.1.2.2.2.1 xa.1.2.2.2.2.1 xa.1.2.2.2.2.2.1 xa.1.2.2.2.2.2.2.1 xa.2.1 xa.2.2.1 xa.2.2.2.1 xa.2.2.2.2.1 := by intros; kernel_rfl
noncomputable def AGb := AH ZL 202 (AJS.AF (fun xa xo => vW1 xa.1.1 xa.1.2.1 xa.1.2.2.1 xa.1.2.2.2.1 xa.1.2.2.2.2.1 xa.1.2.2.2.2.2.1 xa.1.2.2.2.2.2.2.1 xa.2.1 xa.2.2.1 xa.2.2.2.1 xa.2.2.2.2.1))
theorem AGc : OKs AGb := fn_A ACo Tryz.func202 AKT
def AGd : AG := ⟨.agg (.val int <| .val int <| .val int <| .val int <| .val int <| .val int <| .val int <| .nil) <| .val int <| .val int <| .val int <| .val int <| .nil, [], .val int <| .nil, []⟩
theorem AIT : ∀  xa xo, (AGd.prog (mkC Tryz.prog AGb ⟨false, false⟩ noL noJ) Tryz.f221 xa xo).run = AJw  xa.1.1 xa.1.2.1 xa.1.2.2.1 xa.1.2.2.2.1 xa.1.2.2.2.2.1 xa.1.2.2.2.2.2.1 xa.1.2.2.2.2.2.2.1 xa.2.1 xa.2.2.1 xa.2.2.2.1 xa.2.2.2.2.1 := by intros; kernel_rfl
noncomputable def Tx := AH AGb 221 (AGd.AF (fun xa xo => AJw xa.1.1 xa.1.2.1 xa.1.2.2.1 xa.1.2.2.2.1 xa.1.2.2.2.2.1 xa.1.2.2.2.2.2.1 xa.1.2.2.2.2.2.2.1 xa.2.1 xa.2.2.1 xa.2.2.2.1 xa.2.2.2.2.1))
theorem RJ : OKs Tx := fn_A AGc Tryz.func221 AIT
def Lj : AG := ⟨.agg (.val int <| .val int <| .val int <| .val int <| .val int <| .val int <| .val int <| .nil) <| .val int <| .val int <| .val int <| .val int <| .val (.ptr .fnT) <| .nil, [], .val int <| .nil, []⟩
theorem ZM : ∀ (xa : Lj.args.ty.den) (xo : (AY Lj.Aa).den), (Lj.prog (mkC Tryz.prog Tx ⟨false, false⟩ (fun _ => none) (fun _ => none)) Tryz.f246 ((xa.1, xa.2.1, xa.2.2.1, xa.2.2.2.1, xa.2.2.2.2.1, (213 : Nat), ())) xo).run = AAL xa.1.1 xa.1.2.1 xa.1.2.2.1 xa.1.2.2.2.1 xa.1.2.2.2.2.1 xa.1.2.2.2.2.2.1 xa.1.2.2.2.2.2.2.1 xa.2.1 xa.2.2.1 xa.2.2.2.1 xa.2.2.2.2.1 xa.2.2.2.2.2.1 := by intros; kernel_rfl
def H2 : AG := ⟨.agg (.val int <| .val int <| .val int <| .val int <| .val int <| .val int <| .val int <| .nil) <| .val int <| .val int <| .val int <| .val int <| .val (.ptr .fnT) <| .nil, [], .val int <| .nil, []⟩
theorem AGe (xa : H2.args.ty.den) (xo : (AY H2.Aa).den) (y : H2.oty.den) (h : AAM xa.1.1 xa.1.2.1 xa.1.2.2.1 xa.1.2.2.2.1 xa.1.2.2.2.2.1 xa.1.2.2.2.2.2.1 xa.1.2.2.2.2.2.2.1 xa.2.1 xa.2.2.1 xa.2.2.2.1 xa.2.2.2.2.1 xa.2.2.2.2.2.1 = some y) : (H2.prog (mkC Tryz.prog Tx ⟨false, false⟩ (fun _ => none) (fun _ => none)) Tryz.f246 xa xo).run = some y := by
 obtain ⟨nd, a, b, c, wb, f, u⟩ := xa
 unfold AAM at h
 refine At h (fun e h => ?_) fun h => ?_
 ·have e : f = 213 := Int.ofNat.inj e
  subst e
  exact (ZM (nd, a, b, c, wb, (213 : Nat), u) xo).trans h
 exact Jt h
noncomputable def Tz := AH Tx 246 (H2.AF (fun xa xo => AAM xa.1.1 xa.1.2.1 xa.1.2.2.1 xa.1.2.2.2.1 xa.1.2.2.2.2.1 xa.1.2.2.2.2.2.1 xa.1.2.2.2.2.2.2.1 xa.2.1 xa.2.2.1 xa.2.2.2.1 xa.2.2.2.2.1 xa.2.2.2.2.2.1))
theorem ZN : OKs Tz := R6 RJ RJ fol Tryz.func246 (by kernel_rfl) (by kernel_rfl) (by kernel_rfl) (S := H2) (md := ⟨false, false⟩) (L := fun _ => none) (J := fun _ => none) AGe
def ZO : AG := ⟨.val (.fnT) <| .nil, [], .clo 246 (.val (.ptr .fnT) <| .nil) <| .nil, []⟩
theorem AIU : ∀  xa xo, (ZO.prog (mkC Tryz.prog Tz ⟨false, false⟩ noL noJ) Tryz.f203 xa xo).run = AJx  xa.1 := by intros; kernel_rfl
noncomputable def AGf := AH Tz 203 (ZO.AF (fun xa xo => AJx xa.1))
theorem RM : OKs AGf := fn_A ZN Tryz.func203 AIU
noncomputable def KK := AH AGf 203 (AHT 246)
theorem PG : OKs KK := Ac RM (Z6 (Ap RM 203 (S := ZO.AF (fun xa xo => AJx xa.1)) (by kernel_rfl)) (by intros; kernel_rfl))
def GZ : AG := ⟨.agg (.val int <| .val int <| .val int <| .val int <| .val int <| .val int <| .val int <| .nil) <| .val int <| .val int <| .val int <| .val int <| .val (.ptr .fnT) <| .nil, [], .val int <| .nil, []⟩
theorem P1 : ∀ (xa : GZ.args.ty.den) (xo : (AY GZ.Aa).den), (GZ.prog (mkC Tryz.prog KK ⟨false, false⟩ (fun _ => none) (fun _ => none)) Tryz.f247 ((xa.1, xa.2.1, xa.2.2.1, xa.2.2.2.1, xa.2.2.2.2.1, (217 : Nat), ())) xo).run = OQ xa.1.1 xa.1.2.1 xa.1.2.2.1 xa.1.2.2.2.1 xa.1.2.2.2.2.1 xa.1.2.2.2.2.2.1 xa.1.2.2.2.2.2.2.1 xa.2.1 xa.2.2.1 xa.2.2.2.1 xa.2.2.2.2.1 xa.2.2.2.2.2.1 := by intros; kernel_rfl
def Ga : AG := ⟨.agg (.val int <| .val int <| .val int <| .val int <| .val int <| .val int <| .val int <| .nil) <| .val int <| .val int <| .val int <| .val int <| .val (.ptr .fnT) <| .nil, [], .val int <| .nil, []⟩
theorem P4 : ∀ (xa : Ga.args.ty.den) (xo : (AY Ga.Aa).den), (Ga.prog (mkC Tryz.prog KK ⟨false, false⟩ (fun _ => none) (fun _ => none)) Tryz.f247 ((xa.1, xa.2.1, xa.2.2.1, xa.2.2.2.1, xa.2.2.2.2.1, (218 : Nat), ())) xo).run = OR xa.1.1 xa.1.2.1 xa.1.2.2.1 xa.1.2.2.2.1 xa.1.2.2.2.2.1 xa.1.2.2.2.2.2.1 xa.1.2.2.2.2.2.2.1 xa.2.1 xa.2.2.1 xa.2.2.2.1 xa.2.2.2.2.1 xa.2.2.2.2.2.1 := by intros; kernel_rfl
def EY : AG := ⟨.agg (.val int <| .val int <| .val int <| .val int <| .val int <| .val int <| .val int <| .nil) <| .val int <| .val int <| .val int <| .val int <| .val (.ptr .fnT) <| .nil, [], .val int <| .nil, []⟩
theorem ZP (xa : EY.args.ty.den) (xo : (AY EY.Aa).den) (y : EY.oty.den) (h : J2 xa.1.1 xa.1.2.1 xa.1.2.2.1 xa.1.2.2.2.1 xa.1.2.2.2.2.1 xa.1.2.2.2.2.2.1 xa.1.2.2.2.2.2.2.1 xa.2.1 xa.2.2.1 xa.2.2.2.1 xa.2.2.2.2.1 xa.2.2.2.2.2.1 = some y) : (EY.prog (mkC Tryz.prog KK ⟨false, false⟩ (fun _ => none) (fun _ => none)) Tryz.f247 xa xo).run = some y := by
 obtain ⟨nd, a, b, c, wb, f, u⟩ := xa
 unfold J2 at h
 refine At h (fun e h => ?_) fun h => ?_
 ·have e : f = 217 := Int.ofNat.inj e
  subst e
  exact (P1 (nd, a, b, c, wb, (217 : Nat), u) xo).trans h
 refine At h (fun e h => ?_) fun h => ?_
 ·have e : f = 218 := Int.ofNat.inj e
  subst e
  exact (P4 (nd, a, b, c, wb, (218 : Nat), u) xo).trans h
 exact Jt h
noncomputable def Lk := AH KK 247 (EY.AF (fun xa xo => J2 xa.1.1 xa.1.2.1 xa.1.2.2.1 xa.1.2.2.2.1 xa.1.2.2.2.2.1 xa.1.2.2.2.2.2.1 xa.1.2.2.2.2.2.2.1 xa.2.1 xa.2.2.1 xa.2.2.2.1 xa.2.2.2.2.1 xa.2.2.2.2.2.1))
theorem T4 : OKs Lk := R6 PG PG fol Tryz.func247 (by kernel_rfl) (by kernel_rfl) (by kernel_rfl) (S := EY) (md := ⟨false, false⟩) (L := fun _ => none) (J := fun _ => none) ZP
def PH : AG := ⟨.val (.fnT) <| .nil, [], .clo 247 (.val (.ptr .fnT) <| .nil) <| .nil, []⟩
theorem ACp : ∀  xa xo, (PH.prog (mkC Tryz.prog Lk ⟨false, false⟩ noL noJ) Tryz.f205 xa xo).run = Xl  xa.1 := by intros; kernel_rfl
noncomputable def WK := AH Lk 205 (PH.AF (fun xa xo => Xl xa.1))
theorem MQ : OKs WK := fn_A T4 Tryz.func205 ACp
noncomputable def Ll := AH WK 205 (AHT 247)
theorem T5 : OKs Ll := Ac MQ (Z6 (Ap MQ 205 (S := PH.AF (fun xa xo => Xl xa.1)) (by kernel_rfl)) (by intros; kernel_rfl))
def WL : AG := ⟨.nil, [], .DM (.fm (.int .i64) [((1 : Int), AV.fn 202 .nil), ((3 : Int), AV.fn 246 (.cons (.dat (.ptr .fnT) (204 : Nat)) .nil)), ((4 : Int), AV.fn 247 (.cons (.dat (.ptr .fnT) (206 : Nat)) .nil)), ((5 : Int), AV.fn 207 .nil), ((6 : Int), AV.fn 246 (.cons (.dat (.ptr .fnT) (210 : Nat)) .nil)), ((7 : Int), AV.fn 246 (.cons (.dat (.ptr .fnT) (211 : Nat)) .nil)), ((8 : Int), AV.fn 246 (.cons (.dat (.ptr .fnT) (212 : Nat)) .nil)), ((9 : Int), AV.fn 246 (.cons (.dat (.ptr .fnT) (213 : Nat)) .nil)), ((10 : Int), AV.fn 246 (.cons (.dat (.ptr .fnT) (214 : Nat)) .nil)), ((11 : Int), AV.fn 246 (.cons (.dat (.ptr .fnT) (215 : Nat)) .nil)), ((12 : Int), AV.fn 247 (.cons (.dat (.ptr .fnT) (216 : Nat)) .nil)), ((13 : Int), AV.fn 247 (.cons (.dat (.ptr .fnT) (217 : Nat)) .nil)), ((14 : Int), AV.fn 247 (.cons (.dat (.ptr .fnT) (218 : Nat)) .nil)), ((15 : Int), AV.fn 247 (.cons (.dat (.ptr .fnT) (219 : Nat)) .nil)), ((16 : Int), AV.fn 220 .nil), ((17 : Int), AV.fn 221 .nil), ((18 : Int), AV.fn 222 .nil)]) <| .nil, []⟩
theorem ACq : ∀  xa xo, (WL.prog (mkC Tryz.prog Ll ⟨false, false⟩ noL noJ) Tryz.f160 xa xo).run = JC   := by intros; kernel_rfl
noncomputable def EA := AH Ll 160 (WL.AF (fun xa xo => JC ))
theorem MR : OKs EA := fn_A T5 Tryz.func160 ACq
def T8 : AG := ⟨.agg (.val int <| .val int <| .val int <| .val int <| .val int <| .val int <| .val int <| .nil) <| .val int <| .val int <| .val int <| .val int <| .nil, [], .val int <| .nil, []⟩
theorem AGg : ∀ (xa : T8.args.ty.den) (xo : (AY T8.Aa).den), (T8.prog (mkC Tryz.prog EA ⟨false, false⟩ (fun _ => none) (fun _ => none)) Tryz.f122 ((((1 : Int), xa.1.2), xa.2)) xo).run = AI8 xa.1.1 xa.1.2.1 xa.1.2.2.1 xa.1.2.2.2.1 xa.1.2.2.2.2.1 xa.1.2.2.2.2.2.1 xa.1.2.2.2.2.2.2.1 xa.2.1 xa.2.2.1 xa.2.2.2.1 xa.2.2.2.2.1 := by intros; kernel_rfl
def T9 : AG := ⟨.agg (.val int <| .val int <| .val int <| .val int <| .val int <| .val int <| .val int <| .nil) <| .val int <| .val int <| .val int <| .val int <| .nil, [], .val int <| .nil, []⟩
theorem AGh : ∀ (xa : T9.args.ty.den) (xo : (AY T9.Aa).den), (T9.prog (mkC Tryz.prog EA ⟨false, false⟩ (fun _ => none) (fun _ => none)) Tryz.f122 ((((9 : Int), xa.1.2), xa.2)) xo).run = AI9 xa.1.1 xa.1.2.1 xa.1.2.2.1 xa.1.2.2.2.1 xa.1.2.2.2.2.1 xa.1.2.2.2.2.2.1 xa.1.2.2.2.2.2.2.1 xa.2.1 xa.2.2.1 xa.2.2.2.1 xa.2.2.2.2.1 := by intros; kernel_rfl
def PJ : AG := ⟨.agg (.val int <| .val int <| .val int <| .val int <| .val int <| .val int <| .val int <| .nil) <| .val int <| .val int <| .val int <| .val int <| .nil, [], .val int <| .nil, []⟩
theorem ACr : ∀ (xa : PJ.args.ty.den) (xo : (AY PJ.Aa).den), (PJ.prog (mkC Tryz.prog EA ⟨false, false⟩ (fun _ => none) (fun _ => none)) Tryz.f122 ((((13 : Int), xa.1.2), xa.2)) xo).run = AEK xa.1.1 xa.1.2.1 xa.1.2.2.1 xa.1.2.2.2.1 xa.1.2.2.2.2.1 xa.1.2.2.2.2.2.1 xa.1.2.2.2.2.2.2.1 xa.2.1 xa.2.2.1 xa.2.2.2.1 xa.2.2.2.2.1 := by intros; kernel_rfl
def PK : AG := ⟨.agg (.val int <| .val int <| .val int <| .val int <| .val int <| .val int <| .val int <| .nil) <| .val int <| .val int <| .val int <| .val int <| .nil, [], .val int <| .nil, []⟩
theorem ACs : ∀ (xa : PK.args.ty.den) (xo : (AY PK.Aa).den), (PK.prog (mkC Tryz.prog EA ⟨false, false⟩ (fun _ => none) (fun _ => none)) Tryz.f122 ((((14 : Int), xa.1.2), xa.2)) xo).run = AEL xa.1.1 xa.1.2.1 xa.1.2.2.1 xa.1.2.2.2.1 xa.1.2.2.2.2.1 xa.1.2.2.2.2.2.1 xa.1.2.2.2.2.2.2.1 xa.2.1 xa.2.2.1 xa.2.2.2.1 xa.2.2.2.2.1 := by intros; kernel_rfl
def PL : AG := ⟨.agg (.val int <| .val int <| .val int <| .val int <| .val int <| .val int <| .val int <| .nil) <| .val int <| .val int <| .val int <| .val int <| .nil, [], .val int <| .nil, []⟩
theorem ACt : ∀ (xa : PL.args.ty.den) (xo : (AY PL.Aa).den), (PL.prog (mkC Tryz.prog EA ⟨false, false⟩ (fun _ => none) (fun _ => none)) Tryz.f122 ((((17 : Int), xa.1.2), xa.2)) xo).run = AEM xa.1.1 xa.1.2.1 xa.1.2.2.1 xa.1.2.2.2.1 xa.1.2.2.2.2.1 xa.1.2.2.2.2.2.1 xa.1.2.2.2.2.2.2.1 xa.2.1 xa.2.2.1 xa.2.2.2.1 xa.2.2.2.2.1 := by intros; kernel_rfl
def RP : AG := ⟨.agg (.val int <| .val int <| .val int <| .val int <| .val int <| .val int <| .val int <| .nil) <| .val int <| .val int <| .val int <| .val int <| .nil, [], .val int <| .nil, []⟩
theorem AKU (xa : RP.args.ty.den) (xo : (AY RP.Aa).den) (y : RP.oty.den) (h : vDo xa.1.1 xa.1.2.1 xa.1.2.2.1 xa.1.2.2.2.1 xa.1.2.2.2.2.1 xa.1.2.2.2.2.2.1 xa.1.2.2.2.2.2.2.1 xa.2.1 xa.2.2.1 xa.2.2.2.1 xa.2.2.2.2.1 = some y) : (RP.prog (mkC Tryz.prog EA ⟨false, false⟩ (fun _ => none) (fun _ => none)) Tryz.f122 xa xo).run = some y := by
 obtain ⟨⟨op, r⟩, s⟩ := xa
 unfold vDo at h
 refine At h (fun e h => ?_) fun h => ?_
 ·have e : op = 1 := e
  subst e
  exact (AGg (((1 : Int), r), s) xo).trans h
 refine At h (fun e h => ?_) fun h => ?_
 ·have e : op = 9 := e
  subst e
  exact (AGh (((9 : Int), r), s) xo).trans h
 refine At h (fun e h => ?_) fun h => ?_
 ·have e : op = 13 := e
  subst e
  exact (ACr (((13 : Int), r), s) xo).trans h
 refine At h (fun e h => ?_) fun h => ?_
 ·have e : op = 14 := e
  subst e
  exact (ACs (((14 : Int), r), s) xo).trans h
 refine At h (fun e h => ?_) fun h => ?_
 ·have e : op = 17 := e
  subst e
  exact (ACt (((17 : Int), r), s) xo).trans h
 exact Jt h
noncomputable def AGi := AH EA 122 (RP.AF (fun xa xo => vDo xa.1.1 xa.1.2.1 xa.1.2.2.1 xa.1.2.2.2.1 xa.1.2.2.2.2.1 xa.1.2.2.2.2.2.1 xa.1.2.2.2.2.2.2.1 xa.2.1 xa.2.2.1 xa.2.2.2.1 xa.2.2.2.2.1))
theorem AGj : OKs AGi := R6 MR MR fol Tryz.func122 (by kernel_rfl) (by kernel_rfl) (by kernel_rfl) (S := RP) (md := ⟨false, false⟩) (L := fun _ => none) (J := fun _ => none) AKU
def RQ : AG := ⟨.agg (.AI (.sl AB) <| .AI (.sl Ar) <| .AI (.sl AX) <| .AI (.sl Ax) <| .AI (.sl Ar) <| .nil) <| .AI (.sl int) <| .AI (.sl int) <| .nil, [], .own 3 int <| .nil, []⟩
def ACu (nn : Nat) : Nat -> Option Af := fun n =>
 bif Nat.beq n 3 then some ⟨{ env := [(21, .dat int)], heap := [(384, .arr 3 int)], keep := [0, 1, 2, 3, 6, 7, 19, 20], AN := [64] }, fun _ => nn⟩ else
 bif Nat.beq n 8 then some ⟨{ env := [(38, .dat int)], heap := [(384, .arr 3 int)], keep := [0, 1, 2, 3, 6, 7, 19, 20, 21, 36, 37], AN := [64] }, fun _ => nn⟩ else
 bif Nat.beq n 13 then some ⟨{ env := [(55, .dat int)], heap := [(384, .arr 3 int)], keep := [0, 1, 2, 3, 6, 7, 19, 20, 21, 36, 37, 38, 53, 54], AN := [64] }, fun _ => nn⟩ else
 none
theorem ZQ : ∀ (nn : Nat)  xa xo, (RQ.prog (mkC Tryz.prog AGi ⟨false, false⟩ (ACu nn) noJ) Tryz.f99 xa xo).run = VJ nn xa.1.1 xa.1.2.1 xa.1.2.2.1 xa.1.2.2.2.1 xa.1.2.2.2.2.1 xa.2.1 xa.2.2.1 := by intros; kernel_rfl
noncomputable def Lm := AH AGi 99 (RQ.AF (fun xa xo => AAN xa.1.1 xa.1.2.1 xa.1.2.2.1 xa.1.2.2.2.1 xa.1.2.2.2.2.1 xa.2.1 xa.2.2.1))
theorem UA : OKs Lm := fn_A AGj Tryz.func99 (ZQ AK)
def PM : AG := ⟨.agg (.AI (.sl AB) <| .AI (.sl Ar) <| .AI (.sl AX) <| .AI (.sl Ax) <| .AI (.sl Ar) <| .nil) <| .AI (.sl int) <| .AI (.sl int) <| .nil, [], .own 3 int <| .nil, []⟩
def ZR (nn : Nat) : Nat -> Option Af := fun n =>
 bif Nat.beq n 4 then some ⟨{ env := [(22, .dat int)], heap := [(704, .arr 3 int)], keep := [0, 1, 2, 3, 6, 7, 8, 20, 21], AN := [64, 384] }, fun _ => nn⟩ else
 none
theorem WM : ∀ (nn : Nat)  xa xo, (PM.prog (mkC Tryz.prog Lm ⟨false, false⟩ (ZR nn) noJ) Tryz.f94 xa xo).run = Qz nn xa.1.1 xa.1.2.1 xa.1.2.2.1 xa.1.2.2.2.1 xa.1.2.2.2.2.1 xa.2.1 xa.2.2.1 := by intros; kernel_rfl
noncomputable def JQ := AH Lm 94 (PM.AF (fun xa xo => AEN xa.1.1 xa.1.2.1 xa.1.2.2.1 xa.1.2.2.2.1 xa.1.2.2.2.2.1 xa.2.1 xa.2.2.1))
theorem P5 : OKs JQ := fn_A UA Tryz.func94 (WM AK)
def RR : AG := ⟨.agg (.val (.sl AB) <| .val (.sl Ar) <| .val (.sl AX) <| .val (.sl Ax) <| .val (.sl Ar) <| .nil) <| .val (.sl (.sl int)) <| .nil, [], .clo 98 (.obj 0 <| .obj 1 <| .nil) <| .nil, [(27, .val (.sl AB) <| .val (.sl Ar) <| .val (.sl AX) <| .val (.sl Ax) <| .val (.sl Ar) <| .nil), (57, .val (.sl (.sl int)) <| .nil)]⟩
theorem ZS : ∀  xa xo, (RR.prog (mkC Tryz.prog JQ ⟨false, false⟩ noL noJ) Tryz.f55 xa xo).run = AAO  xa.1.1 xa.1.2.1 xa.1.2.2.1 xa.1.2.2.2.1 xa.1.2.2.2.2.1 xa.2.1 := by intros; kernel_rfl
noncomputable def Ln := AH JQ 55 (RR.AF (fun xa xo => AAO xa.1.1 xa.1.2.1 xa.1.2.2.1 xa.1.2.2.2.1 xa.1.2.2.2.2.1 xa.2.1))
theorem UB : OKs Ln := fn_A P5 Tryz.func55 ZS
def AAu : AG := ⟨.val int <| .nil, [], .val int <| .nil, []⟩
theorem AGk : ∀  xa xo, (AAu.prog (mkC Tryz.prog Ln ⟨true, false⟩ noL noJ) Tryz.f47 xa xo).run = Q0  xa.1 := by intros; kernel_rfl
noncomputable def UC := AH Ln 47 (AAu.AF (fun xa xo => Q0 xa.1))
theorem ZT : OKs UC := fn_A UB Tryz.func47 AGk
def WN : AG := ⟨.val int <| .obj 0 <| .nil, [(53, .AI (.sl .bool) <| .nil)], .val .bool <| .nil, []⟩
theorem ACv : ∀  xa xo, (WN.prog (mkC Tryz.prog UC ⟨false, false⟩ noL noJ) Tryz.f46 xa xo).run = OS  xa.1 xo.1.1 := by intros; kernel_rfl
noncomputable def PN := AH UC 46 (WN.AF (fun xa xo => OS xa.1 xo.1.1))
theorem WO : OKs PN := fn_A ZT Tryz.func46 ACv
def FI : AG := ⟨.AI (.sl int) <| .clo 46 (.obj 0 <| .nil) <| .nil, [(53, .AI (.sl .bool) <| .nil)], .val int <| .nil, []⟩
def KL (nn : Nat) : Nat -> Option Af := fun n =>
 bif Nat.beq n 2 then some ⟨{ env := [(8, .dat int)], heap := [(1, .box 53 ((ASh.idn 18 Ty.bool.sl).cons ASh.nil))], keep := [0, 1, 4, 7], AN := [] }, fun _ => nn⟩ else
 none
theorem JR : ∀ (nn : Nat)  xa xo, (FI.prog (mkC Tryz.prog PN ⟨false, false⟩ (KL nn) noJ) Tryz.f95 xa xo).run = Dq nn xa.1 xo.1.1 := by intros; kernel_rfl
noncomputable def De := AH PN 95 (FI.AF (fun xa xo => CR xa.1 xo.1.1))
theorem HV : OKs De := fn_A WO Tryz.func95 (JR AK)
def EB : AG := ⟨.AI (.sl int) <| .clo 46 (.obj 0 <| .nil) <| .nil, [(53, .AI (.sl .bool) <| .nil)], .val .bool <| .nil, []⟩
theorem Gn : ∀  xa xo, (EB.prog (mkC Tryz.prog De ⟨false, false⟩ noL noJ) Tryz.f45 xa xo).run = CQ  xa.1 xo.1.1 := by intros; kernel_rfl
noncomputable def Cn := AH De 45 (EB.AF (fun xa xo => CQ xa.1 xo.1.1))
theorem Fu : OKs Cn := fn_A HV Tryz.func45 Gn
def HW : AG := ⟨.AI (.sl int) <| .AI (.sl .bool) <| .nil, [], .val .bool <| .nil, []⟩
theorem ACw : ∀  xa xo, (HW.prog (mkC Tryz.prog Cn ⟨false, false⟩ noL noJ) Tryz.f19 xa xo).run = HQ  xa.1 xa.2.1 := by intros; kernel_rfl
noncomputable def PO := AH Cn 19 (HW.AF (fun xa xo => HQ xa.1 xa.2.1))
theorem WQ : OKs PO := fn_A Fu Tryz.func19 ACw
def E4 : AG := ⟨.AI (.sl (.sl int)) <| .AI (.sl (.sl int)) <| .nil, [], .val .bool <| .nil, []⟩
def ZU (nn : Nat) : Nat -> Option Af := fun n =>
 bif Nat.beq n 4 then some ⟨{ env := [(5, .dat int)], heap := [], keep := [0, 1, 4], AN := [] }, fun _ => nn⟩ else
 bif Nat.beq n 9 then some ⟨{ env := [(6, .dat int)], heap := [], keep := [0, 1, 4, 5], AN := [] }, fun _ => nn⟩ else
 none
theorem WR : ∀ (nn : Nat)  xa xo, (E4.prog (mkC Tryz.prog PO ⟨false, false⟩ (ZU nn) noJ) Tryz.f43 xa xo).run = Q2 nn xa.1 xa.2.1 := by intros; kernel_rfl
noncomputable def JS := AH PO 43 (E4.AF (fun xa xo => HR xa.1 xa.2.1))
theorem P6 : OKs JS := fn_A WQ Tryz.func43 (WR AK)
def KM : AG := ⟨.agg (.AI (.sl AB) <| .AI (.sl Ar) <| .AI (.sl AX) <| .AI (.sl Ax) <| .AI (.sl Ar) <| .nil) <| .nil, [], .val .bool <| .nil, []⟩
def AIV (nn : Nat) : Nat -> Option Af := fun n =>
 bif Nat.beq n 6 then some ⟨{ env := [(3, .dat int), (4, .dat int), (5, .dat int)], heap := [], keep := [0, 1, 2], AN := [64] }, fun _ => nn⟩ else
 none
theorem AGl : ∀ (nn : Nat)  xa xo, (KM.prog (mkC Tryz.prog JS ⟨false, false⟩ (AIV nn) noJ) Tryz.f6 xa xo).run = Xm nn xa.1.1 xa.1.2.1 xa.1.2.2.1 xa.1.2.2.2.1 xa.1.2.2.2.2.1 := by intros; kernel_rfl
noncomputable def UD := AH JS 6 (KM.AF (fun xa xo => OT xa.1.1 xa.1.2.1 xa.1.2.2.1 xa.1.2.2.2.1 xa.1.2.2.2.2.1))
theorem ZV : OKs UD := fn_A P6 Tryz.func6 (AGl AK)
def KN : AG := ⟨.nil, [], .agg (.val (.sl AB) <| .val (.sl Ar) <| .val (.sl AX) <| .val (.sl Ax) <| .val (.sl Ar) <| .nil) <| .nil, []⟩
theorem AGm : ∀  xa xo, (KN.prog (mkC Tryz.prog UD ⟨false, false⟩ noL noJ) Tryz.f20 xa xo).run = CS   := by intros; kernel_rfl
noncomputable def M9 := AH UD 20 (KN.AF (fun xa xo => CS ))
theorem PQ : OKs M9 := fn_A ZV Tryz.func20 AGm
end AL
end
section
set_option linter.unusedVariables false
set_option maxHeartbeats 0
set_option maxRecDepth 100000
namespace AL
open Go Go.Proofs
def CH : AG := ⟨.agg (.val (.sl AB) <| .val (.sl Ar) <| .val (.sl AX) <| .val (.sl Ax) <| .val (.sl Ar) <| .nil) <| .val (.sl (.sl int)) <| .nil, [], .val (.sl (.sl int)) <| .nil, []⟩
theorem WS (y : CH.oty.den) (h : some (([[0], [1], [1]], ()), (), ()) = some y) : (CH.Z7 300 (mkC Tryz.prog M9 ⟨false, false⟩ (fun _ => none) (fun _ => none)) Tryz.f44 ((CS.get (by kernel_rfl)).1.1, [[1], [0]], ()) ()).run = some y := h ▸ (by kernel_rfl)
theorem ZW (xa : CH.args.ty.den) (xo : (AY CH.Aa).den) (y : CH.oty.den) (h : Hx xa.1.1 xa.1.2.1 xa.1.2.2.1 xa.1.2.2.2.1 xa.1.2.2.2.2.1 xa.2.1 = some y) : (CH.Z7 300 (mkC Tryz.prog M9 ⟨false, false⟩ (fun _ => none) (fun _ => none)) Tryz.f44 xa xo).run = some y := by
 obtain ⟨⟨a1, a2, a3, a4, a5, u⟩, l, v⟩ := xa
 have h : (match CS with
  | some y => bif @decide (a1 = y.1.1.1) ((Ty.sl AB).eqD _ _) && (decide (a2 = y.1.1.2.1) && (decide (a3 = y.1.1.2.2.1) && (decide (a4 = y.1.1.2.2.2.1) && (decide (a5 = y.1.1.2.2.2.2.1) && decide (l = [[1], [0]]))))) then some ((([[0], [1], [1]] : LLI), ()), (), ()) else none
  | none => none) = some y := h
 unfold CS at h
 simp only at h
 cases hc : (@decide (a1 = (CS.get (by kernel_rfl)).1.1.1) ((Ty.sl AB).eqD _ _) && (decide (a2 = (CS.get (by kernel_rfl)).1.1.2.1) && (decide (a3 = (CS.get (by kernel_rfl)).1.1.2.2.1) && (decide (a4 = (CS.get (by kernel_rfl)).1.1.2.2.2.1) && (decide (a5 = (CS.get (by kernel_rfl)).1.1.2.2.2.2.1) && decide (l = [[1], [0]])))))) with
 | false =>
  have h : (bif (@decide (a1 = (CS.get (by kernel_rfl)).1.1.1) ((Ty.sl AB).eqD _ _) && (decide (a2 = (CS.get (by kernel_rfl)).1.1.2.1) && (decide (a3 = (CS.get (by kernel_rfl)).1.1.2.2.1) && (decide (a4 = (CS.get (by kernel_rfl)).1.1.2.2.2.1) && (decide (a5 = (CS.get (by kernel_rfl)).1.1.2.2.2.2.1) && decide (l = [[1], [0]])))))) then some ((([[0], [1], [1]] : LLI), ()), (), ()) else none) = some y := h
  rw [hc] at h
  cases h
 | true =>
  have h : (bif (@decide (a1 = (CS.get (by kernel_rfl)).1.1.1) ((Ty.sl AB).eqD _ _) && (decide (a2 = (CS.get (by kernel_rfl)).1.1.2.1) && (decide (a3 = (CS.get (by kernel_rfl)).1.1.2.2.1) && (decide (a4 = (CS.get (by kernel_rfl)).1.1.2.2.2.1) && (decide (a5 = (CS.get (by kernel_rfl)).1.1.2.2.2.2.1) && decide (l = [[1], [0]])))))) then some ((([[0], [1], [1]] : LLI), ()), (), ()) else none) = some y := h
  rw [hc] at h
  simp only [Bool.and_eq_true] at hc
  obtain ⟨e1, e2, e3, e4, e5, e6⟩ := hc
  have e1 := @of_decide_eq_true _ ((Ty.sl AB).eqD _ _) e1
  have e2 := of_decide_eq_true e2
  have e3 := of_decide_eq_true e3
  have e4 := of_decide_eq_true e4
  have e5 := of_decide_eq_true e5
  have e6 := of_decide_eq_true e6
  subst e1; subst e2; subst e3; subst e4; subst e5; subst e6
  exact WS y h
noncomputable def RS := AH M9 44 (CH.AF (fun xa xo => Hx xa.1.1 xa.1.2.1 xa.1.2.2.1 xa.1.2.2.2.1 xa.1.2.2.2.2.1 xa.2.1))
theorem Be : OKs RS := AJo PQ PQ fol Tryz.func44 (by kernel_rfl) (by kernel_rfl) (by kernel_rfl) (N := 300) (S := CH) (md := ⟨false, false⟩) ZW
end AL
end
section
set_option linter.unusedVariables false
set_option maxHeartbeats 0
set_option maxRecDepth 100000
namespace AL
open Go Go.Proofs
def HX : AG := ⟨.nil, [], .val .bool <| .nil, []⟩
theorem ACx : ∀ (vnet30 : Option (((LN × LP × LC × LQ × LP × Unit) × Unit) × Unit × Unit)) (vCompile : LN -> LP -> LC -> LQ -> LP -> Option (((Int × L2 × L3 × LT × L3 × Unit) × Unit) × Unit × Unit)) (vlBack : LN -> LP -> LC -> LQ -> LP -> ByteArray -> Option ((LLI × Bool × Unit) × Unit × Unit)) (vlLits : LN -> LP -> LC -> LQ -> LP -> Int -> L2 -> L3 -> LT -> L3 -> ByteArray -> Option ((LI × Bool × Unit) × Unit × Unit)) (vRight15 : Int -> L2 -> L3 -> LT -> L3 -> Option ((Bool × Unit) × Unit × Unit)) (vsameRows : LLI -> LLI -> Option ((Bool × Unit) × Unit × Unit)) (vsStates : LN -> LP -> LC -> LQ -> LP -> LLI -> Option ((LLI × Unit) × Unit × Unit)) (vcubeOf : List Bool -> Option ((LI × Unit) × Unit × Unit)) (vcInd : Int -> L2 -> L3 -> LT -> L3 -> Int -> LLI -> Option ((Int × Unit) × Unit × Unit)) xa xo, (HX.IP 0 (mkC Tryz.prog (AH (AH (AH (AH (AH (AH (AH (AH (AH noS 20 (KN.AF (fun xa xo => vnet30 ))) 8 (DJ.AF (fun xa xo => vCompile xa.1.1 xa.1.2.1 xa.1.2.2.1 xa.1.2.2.2.1 xa.1.2.2.2.2.1))) 42 (DX 0 (KJ.AF (fun xa xo => vlBack xa.1.1 xa.1.2.1 xa.1.2.2.1 xa.1.2.2.2.1 xa.1.2.2.2.2.1 xa.2.1)))) 10 (DX 0 (FH.AF (fun xa xo => vlLits xa.1.1 xa.1.2.1 xa.1.2.2.1 xa.1.2.2.2.1 xa.1.2.2.2.2.1 xa.2.1.1 xa.2.1.2.1 xa.2.1.2.2.1 xa.2.1.2.2.2.1 xa.2.1.2.2.2.2.1 xa.2.2.1)))) 9 (DK.AF (fun xa xo => vRight15 xa.1.1 xa.1.2.1 xa.1.2.2.1 xa.1.2.2.2.1 xa.1.2.2.2.2.1))) 43 (E4.AF (fun xa xo => vsameRows xa.1 xa.2.1))) 44 (CH.AF (fun xa xo => vsStates xa.1.1 xa.1.2.1 xa.1.2.2.1 xa.1.2.2.2.1 xa.1.2.2.2.2.1 xa.2.1))) 17 (D8.AF (fun xa xo => vcubeOf xa.1))) 23 (O5.AF (fun xa xo => vcInd xa.1.1 xa.1.2.1 xa.1.2.2.1 xa.1.2.2.2.1 xa.1.2.2.2.2.1 xa.2.1 xa.2.2.1))) ⟨false, false⟩ noL noJ) Tryz.f14 xa xo).run = AAP vnet30 vCompile vlBack vlLits vRight15 vsameRows vsStates vcubeOf vcInd  := by intros; kernel_rfl
noncomputable def AGn := (AH (AH (AH (AH (AH (AH (AH (AH (AH noS 20 (KN.AF (fun xa xo => CS ))) 8 (DJ.AF (fun xa xo => Da xa.1.1 xa.1.2.1 xa.1.2.2.1 xa.1.2.2.2.1 xa.1.2.2.2.2.1))) 42 (DX 0 (KJ.AF (fun xa xo => Qy xa.1.1 xa.1.2.1 xa.1.2.2.1 xa.1.2.2.2.1 xa.1.2.2.2.2.1 xa.2.1)))) 10 (DX 0 (FH.AF (fun xa xo => HP xa.1.1 xa.1.2.1 xa.1.2.2.1 xa.1.2.2.2.1 xa.1.2.2.2.2.1 xa.2.1.1 xa.2.1.2.1 xa.2.1.2.2.1 xa.2.1.2.2.2.1 xa.2.1.2.2.2.2.1 xa.2.2.1)))) 9 (DK.AF (fun xa xo => Db xa.1.1 xa.1.2.1 xa.1.2.2.1 xa.1.2.2.2.1 xa.1.2.2.2.2.1))) 43 (E4.AF (fun xa xo => HR xa.1 xa.2.1))) 44 (CH.AF (fun xa xo => Hx xa.1.1 xa.1.2.1 xa.1.2.2.1 xa.1.2.2.2.1 xa.1.2.2.2.2.1 xa.2.1))) 17 (D8.AF (fun xa xo => Ew xa.1))) 23 (O5.AF (fun xa xo => AEF xa.1.1 xa.1.2.1 xa.1.2.2.1 xa.1.2.2.2.1 xa.1.2.2.2.2.1 xa.2.1 xa.2.2.1)))
theorem WT : OKs AGn := (Ac (Ac (Ac (Ac (Ac (Ac (Ac (Ac (Ac Nz (Ap Be 20 (S := (KN.AF (fun xa xo => CS ))) (by kernel_rfl))) (Ap Be 8 (S := (DJ.AF (fun xa xo => Da xa.1.1 xa.1.2.1 xa.1.2.2.1 xa.1.2.2.2.1 xa.1.2.2.2.2.1))) (by kernel_rfl))) (Ap Be 42 (S := (DX 0 (KJ.AF (fun xa xo => Qy xa.1.1 xa.1.2.1 xa.1.2.2.1 xa.1.2.2.2.1 xa.1.2.2.2.2.1 xa.2.1)))) (by kernel_rfl))) (Ap Be 10 (S := (DX 0 (FH.AF (fun xa xo => HP xa.1.1 xa.1.2.1 xa.1.2.2.1 xa.1.2.2.2.1 xa.1.2.2.2.2.1 xa.2.1.1 xa.2.1.2.1 xa.2.1.2.2.1 xa.2.1.2.2.2.1 xa.2.1.2.2.2.2.1 xa.2.2.1)))) (by kernel_rfl))) (Ap Be 9 (S := (DK.AF (fun xa xo => Db xa.1.1 xa.1.2.1 xa.1.2.2.1 xa.1.2.2.2.1 xa.1.2.2.2.2.1))) (by kernel_rfl))) (Ap Be 43 (S := (E4.AF (fun xa xo => HR xa.1 xa.2.1))) (by kernel_rfl))) (Ap Be 44 (S := (CH.AF (fun xa xo => Hx xa.1.1 xa.1.2.1 xa.1.2.2.1 xa.1.2.2.2.1 xa.1.2.2.2.2.1 xa.2.1))) (by kernel_rfl))) (Ap Be 17 (S := (D8.AF (fun xa xo => Ew xa.1))) (by kernel_rfl))) (Ap Be 23 (S := (O5.AF (fun xa xo => AEF xa.1.1 xa.1.2.1 xa.1.2.2.1 xa.1.2.2.2.1 xa.1.2.2.2.2.1 xa.2.1 xa.2.2.1))) (by kernel_rfl)))
noncomputable def WU := AH RS 14 (DX 0 (HX.AF (fun xa xo => LK )))
theorem BD : OKs WU := HH Be WT fol Tryz.func14 (by kernel_rfl) (by kernel_rfl) 0 (by kernel_rfl) (ACx CS Da Qy HP Db HR Hx Ew AEF)
def HY : AG := ⟨.agg (.val (.sl AB) <| .val (.sl Ar) <| .val (.sl AX) <| .val (.sl Ax) <| .val (.sl Ar) <| .nil) <| .val (.sl (.int .u16)) <| .val (.sl (.int .u16)) <| .nil, [], .val .bool <| .nil, []⟩
theorem ACy : ∀ (vhead27 : Option ((Bool × Unit) × Unit × Unit)) (vfew27 : LN -> LP -> LC -> LQ -> LP -> Option ((Bool × Unit) × Unit × Unit)) (vunlike30 : LN -> LP -> LC -> LQ -> LP -> Option (((LN × LP × LC × LQ × LP × Unit) × Unit) × Unit × Unit)) (vCompile : LN -> LP -> LC -> LQ -> LP -> Option (((Int × L2 × L3 × LT × L3 × Unit) × Unit) × Unit × Unit)) (vRight15 : Int -> L2 -> L3 -> LT -> L3 -> Option ((Bool × Unit) × Unit × Unit)) (vstate15 : Int -> L2 -> L3 -> LT -> L3 -> LI -> Option ((List Bool × Unit) × Unit × Unit)) (vcells27 : LN -> LP -> LC -> LQ -> LP -> LI -> Option ((LI × Unit) × Unit × Unit)) (vcubeOf : List Bool -> Option ((LI × Unit) × Unit × Unit)) (vcubeClause : LI -> Option ((LI × Unit) × Unit × Unit)) (vlClause : LN -> LP -> LC -> LQ -> LP -> Int -> L2 -> L3 -> LT -> L3 -> LI -> Option ((ByteArray × Unit) × Unit × Unit)) (vlLits : LN -> LP -> LC -> LQ -> LP -> Int -> L2 -> L3 -> LT -> L3 -> ByteArray -> Option ((LI × Bool × Unit) × Unit × Unit)) (vmet26 : LLI -> List Bool -> Option ((Bool × Unit) × Unit × Unit)) (vsame8 : List Bool -> List Bool -> Option ((Bool × Unit) × Unit × Unit)) (vcHolds : LI -> List Bool -> Option ((Bool × Unit) × Unit × Unit)) xa xo, (HY.IP 0 (mkC Tryz.prog (AH (AH (AH (AH (AH (AH (AH (AH (AH (AH (AH (AH (AH (AH noS 14 (DX 0 (HX.AF (fun xa xo => vhead27 )))) 6 (KM.AF (fun xa xo => vfew27 xa.1.1 xa.1.2.1 xa.1.2.2.1 xa.1.2.2.2.1 xa.1.2.2.2.2.1))) 7 (E2.AF (fun xa xo => vunlike30 xa.1.1 xa.1.2.1 xa.1.2.2.1 xa.1.2.2.2.1 xa.1.2.2.2.2.1))) 8 (DJ.AF (fun xa xo => vCompile xa.1.1 xa.1.2.1 xa.1.2.2.1 xa.1.2.2.2.1 xa.1.2.2.2.2.1))) 9 (DK.AF (fun xa xo => vRight15 xa.1.1 xa.1.2.1 xa.1.2.2.1 xa.1.2.2.2.1 xa.1.2.2.2.2.1))) 12 (Fp.AF (fun xa xo => vstate15 xa.1.1 xa.1.2.1 xa.1.2.2.1 xa.1.2.2.2.1 xa.1.2.2.2.2.1 xa.2.1))) 15 (Fq.AF (fun xa xo => vcells27 xa.1.1 xa.1.2.1 xa.1.2.2.1 xa.1.2.2.2.1 xa.1.2.2.2.2.1 xa.2.1))) 17 (D8.AF (fun xa xo => vcubeOf xa.1))) 16 (Dc.AF (fun xa xo => vcubeClause xa.1))) 11 (Ft.AF (fun xa xo => vlClause xa.1.1 xa.1.2.1 xa.1.2.2.1 xa.1.2.2.2.1 xa.1.2.2.2.2.1 xa.2.1.1 xa.2.1.2.1 xa.2.1.2.2.1 xa.2.1.2.2.2.1 xa.2.1.2.2.2.2.1 xa.2.2.1))) 10 (DX 0 (FH.AF (fun xa xo => vlLits xa.1.1 xa.1.2.1 xa.1.2.2.1 xa.1.2.2.2.1 xa.1.2.2.2.2.1 xa.2.1.1 xa.2.1.2.1 xa.2.1.2.2.1 xa.2.1.2.2.2.1 xa.2.1.2.2.2.2.1 xa.2.2.1)))) 13 (J7.AF (fun xa xo => vmet26 xa.1 xa.2.1))) 18 (J8.AF (fun xa xo => vsame8 xa.1 xa.2.1))) 19 (HW.AF (fun xa xo => vcHolds xa.1 xa.2.1))) ⟨false, false⟩ noL noJ) Tryz.f4 xa xo).run = SS vhead27 vfew27 vunlike30 vCompile vRight15 vstate15 vcells27 vcubeOf vcubeClause vlClause vlLits vmet26 vsame8 vcHolds xa.1.1 xa.1.2.1 xa.1.2.2.1 xa.1.2.2.2.1 xa.1.2.2.2.2.1 xa.2.1 xa.2.2.1 := by intros; kernel_rfl
noncomputable def AGo := (AH (AH (AH (AH (AH (AH (AH (AH (AH (AH (AH (AH (AH (AH noS 14 (DX 0 (HX.AF (fun xa xo => LK )))) 6 (KM.AF (fun xa xo => OT xa.1.1 xa.1.2.1 xa.1.2.2.1 xa.1.2.2.2.1 xa.1.2.2.2.2.1))) 7 (E2.AF (fun xa xo => Ex xa.1.1 xa.1.2.1 xa.1.2.2.1 xa.1.2.2.2.1 xa.1.2.2.2.2.1))) 8 (DJ.AF (fun xa xo => Da xa.1.1 xa.1.2.1 xa.1.2.2.1 xa.1.2.2.2.1 xa.1.2.2.2.2.1))) 9 (DK.AF (fun xa xo => Db xa.1.1 xa.1.2.1 xa.1.2.2.1 xa.1.2.2.2.1 xa.1.2.2.2.2.1))) 12 (Fp.AF (fun xa xo => GP xa.1.1 xa.1.2.1 xa.1.2.2.1 xa.1.2.2.2.1 xa.1.2.2.2.2.1 xa.2.1))) 15 (Fq.AF (fun xa xo => GQ xa.1.1 xa.1.2.1 xa.1.2.2.1 xa.1.2.2.2.1 xa.1.2.2.2.2.1 xa.2.1))) 17 (D8.AF (fun xa xo => Ew xa.1))) 16 (Dc.AF (fun xa xo => C7 xa.1))) 11 (Ft.AF (fun xa xo => GS xa.1.1 xa.1.2.1 xa.1.2.2.1 xa.1.2.2.2.1 xa.1.2.2.2.2.1 xa.2.1.1 xa.2.1.2.1 xa.2.1.2.2.1 xa.2.1.2.2.2.1 xa.2.1.2.2.2.2.1 xa.2.2.1))) 10 (DX 0 (FH.AF (fun xa xo => HP xa.1.1 xa.1.2.1 xa.1.2.2.1 xa.1.2.2.2.1 xa.1.2.2.2.2.1 xa.2.1.1 xa.2.1.2.1 xa.2.1.2.2.1 xa.2.1.2.2.2.1 xa.2.1.2.2.2.2.1 xa.2.2.1)))) 13 (J7.AF (fun xa xo => OE xa.1 xa.2.1))) 18 (J8.AF (fun xa xo => OG xa.1 xa.2.1))) 19 (HW.AF (fun xa xo => HQ xa.1 xa.2.1)))
theorem WV : OKs AGo := (Ac (Ac (Ac (Ac (Ac (Ac (Ac (Ac (Ac (Ac (Ac (Ac (Ac (Ac Nz (Ap BD 14 (S := (DX 0 (HX.AF (fun xa xo => LK )))) (by kernel_rfl))) (Ap BD 6 (S := (KM.AF (fun xa xo => OT xa.1.1 xa.1.2.1 xa.1.2.2.1 xa.1.2.2.2.1 xa.1.2.2.2.2.1))) (by kernel_rfl))) (Ap BD 7 (S := (E2.AF (fun xa xo => Ex xa.1.1 xa.1.2.1 xa.1.2.2.1 xa.1.2.2.2.1 xa.1.2.2.2.2.1))) (by kernel_rfl))) (Ap BD 8 (S := (DJ.AF (fun xa xo => Da xa.1.1 xa.1.2.1 xa.1.2.2.1 xa.1.2.2.2.1 xa.1.2.2.2.2.1))) (by kernel_rfl))) (Ap BD 9 (S := (DK.AF (fun xa xo => Db xa.1.1 xa.1.2.1 xa.1.2.2.1 xa.1.2.2.2.1 xa.1.2.2.2.2.1))) (by kernel_rfl))) (Ap BD 12 (S := (Fp.AF (fun xa xo => GP xa.1.1 xa.1.2.1 xa.1.2.2.1 xa.1.2.2.2.1 xa.1.2.2.2.2.1 xa.2.1))) (by kernel_rfl))) (Ap BD 15 (S := (Fq.AF (fun xa xo => GQ xa.1.1 xa.1.2.1 xa.1.2.2.1 xa.1.2.2.2.1 xa.1.2.2.2.2.1 xa.2.1))) (by kernel_rfl))) (Ap BD 17 (S := (D8.AF (fun xa xo => Ew xa.1))) (by kernel_rfl))) (Ap BD 16 (S := (Dc.AF (fun xa xo => C7 xa.1))) (by kernel_rfl))) (Ap BD 11 (S := (Ft.AF (fun xa xo => GS xa.1.1 xa.1.2.1 xa.1.2.2.1 xa.1.2.2.2.1 xa.1.2.2.2.2.1 xa.2.1.1 xa.2.1.2.1 xa.2.1.2.2.1 xa.2.1.2.2.2.1 xa.2.1.2.2.2.2.1 xa.2.2.1))) (by kernel_rfl))) (Ap BD 10 (S := (DX 0 (FH.AF (fun xa xo => HP xa.1.1 xa.1.2.1 xa.1.2.2.1 xa.1.2.2.2.1 xa.1.2.2.2.2.1 xa.2.1.1 xa.2.1.2.1 xa.2.1.2.2.1 xa.2.1.2.2.2.1 xa.2.1.2.2.2.2.1 xa.2.2.1)))) (by kernel_rfl))) (Ap BD 13 (S := (J7.AF (fun xa xo => OE xa.1 xa.2.1))) (by kernel_rfl))) (Ap BD 18 (S := (J8.AF (fun xa xo => OG xa.1 xa.2.1))) (by kernel_rfl))) (Ap BD 19 (S := (HW.AF (fun xa xo => HQ xa.1 xa.2.1))) (by kernel_rfl)))
noncomputable def AGp := AH WU 4 (DX 0 (HY.AF (fun xa xo => TopOwn xa.1.1 xa.1.2.1 xa.1.2.2.1 xa.1.2.2.2.1 xa.1.2.2.2.2.1 xa.2.1 xa.2.2.1)))
theorem WW : OKs AGp := HH BD WV fol Tryz.func4 (by kernel_rfl) (by kernel_rfl) 0 (by kernel_rfl) (ACy LK OT Ex Da Db GP GQ Ew C7 GS HP OE OG HQ)
end AL
end
