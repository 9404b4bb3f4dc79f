/- The texts WTopB, WCertA, WCertB, WCertC, WTopR, WCertD, WCertE, WTopD, WTopE, WTopF, WTopG, one behind the other. -/
import Derived.Test.YthbgfkccfpihgaaGreatDoorGB1
import Derived.Test.YthbgfkccfpihgaaGreatDoorProg
set_option linter.unusedVariables false
set_option linter.unusedSimpArgs false
section
noncomputable section
set_option linter.unusedVariables false
set_option maxHeartbeats 0
set_option maxRecDepth 100000
namespace AL
open Go Go.Proofs
def AFf : AG := ⟨.val int <| .nil, [], .agg (.val int <| .val (.sl AR) <| .nil) <| .nil, []⟩
theorem AH0 : ∀  xa xo, (AFf.prog (mkC Tryz.prog AFd ⟨false, false⟩ noL noJ) Tryz.f27 xa xo).run = AJp  xa.1 := by intros; kernel_rfl
def YO := AH AFd 27 (AFf.AF (fun xa xo => AJp xa.1))
theorem ACC : OKs YO := fn_A AFe Tryz.func27 AH0
def AAV : AG := ⟨.obj 0 <| .AI (.sl int) <| .nil, [(80, .skip <| .skip <| .skip <| .skip <| .skip <| .AI (.sl AB) <| .skip <| .skip <| .skip <| .skip <| .skip <| .nil)], .val int <| .nil, []⟩
def AH1 (nn : Nat) : Nat -> Option Af := fun n =>
 bif Nat.beq n 3 then some ⟨{ env := [(5, .dat int), (10, .dat int)], heap := [], keep := [0, 1, 4, 8, 9], AN := [1] }, fun _ => nn⟩ else
 none
theorem AFg : ∀ (nn : Nat)  xa xo, (AAV.prog (mkC Tryz.prog YO ⟨false, false⟩ (AH1 nn) noJ) Tryz.f28 xa xo).run = XZ nn xa.1 xo.1.1 := by intros; kernel_rfl
def Sl := AH YO 28 (AAV.AF (fun xa xo => VA xa.1 xo.1.1))
theorem YP : OKs Sl := fn_A ACC Tryz.func28 (AFg AK)
def AAW : AG := ⟨.obj 0 <| .val int <| .val int <| .nil, [(80, .skip <| .skip <| .skip <| .skip <| .skip <| .AI (.sl AB) <| .skip <| .skip <| .skip <| .skip <| .DM (.mp int (.sl int)) <| .nil)], .val int <| .nil, []⟩
def AH2 (nn : Nat) : Nat -> Option Af := fun n =>
 bif Nat.beq n 3 then some ⟨{ env := [(2, .dat int), (7, .arr 49), (17, .dat int)], heap := [(49, .arr 3 int)], keep := [0, 1, 6, 16], AN := [1, 29] }, fun _ => nn⟩ else
 none
theorem AFh : ∀ (nn : Nat)  xa xo, (AAW.prog (mkC Tryz.prog Sl ⟨false, false⟩ (AH2 nn) noJ) Tryz.f29 xa xo).run = Xa nn xa.1 xa.2.1 xo.1.1 xo.1.2.1 := by intros; kernel_rfl
def Sm := AH Sl 29 (AAW.AF (fun xa xo => AAD xa.1 xa.2.1 xo.1.1 xo.1.2.1))
theorem YQ : OKs Sm := fn_A YP Tryz.func29 (AFh AK)
def Oj : AG := ⟨.agg (.AI (.sl AB) <| .AI (.sl Ar) <| .AI (.sl AW) <| .AI (.sl Ax) <| .AI (.sl Ar) <| .nil) <| .nil, [], .own 3 int <| .nil, []⟩
def YR (nn : Nat) : Nat -> Option Af := fun n =>
 bif Nat.beq n 3 then some ⟨{ env := [(13, .dat int)], heap := [(384, .arr 3 int)], keep := [0, 1, 2, 3, 11, 12], AN := [64] }, fun _ => nn⟩ else
 none
theorem Vi : ∀ (nn : Nat)  xa xo, (Oj.prog (mkC Tryz.prog Sm ⟨false, false⟩ (YR nn) noJ) Tryz.f77 xa xo).run = LF nn xa.1.1 xa.1.2.1 xa.1.2.2.1 xa.1.2.2.2.1 xa.1.2.2.2.2.1 := by intros; kernel_rfl
def JF := AH Sm 77 (Oj.AF (fun xa xo => Jw xa.1.1 xa.1.2.1 xa.1.2.2.1 xa.1.2.2.2.1 xa.1.2.2.2.2.1))
theorem Pl : OKs JF := fn_A YQ Tryz.func77 (Vi AK)
def Q5 : AG := ⟨.val int <| .val int <| .nil, [], .own 4 .bool <| .nil, []⟩
def ACD (nn : Nat) : Nat -> Option Af := fun n =>
 bif Nat.beq n 3 then some ⟨{ env := [(10, .dat int)], heap := [(192, .arr 4 Ty.bool)], keep := [0, 1, 4, 5, 9], AN := [] }, fun _ => nn⟩ else
 none
theorem YS : ∀ (nn : Nat)  xa xo, (Q5.prog (mkC Tryz.prog JF ⟨false, false⟩ (ACD nn) noJ) Tryz.f78 xa xo).run = OA nn xa.1 xa.2.1 := by intros; kernel_rfl
def LS := AH JF 78 (Q5.AF (fun xa xo => Mw xa.1 xa.2.1))
theorem Sn : OKs LS := fn_A Pl Tryz.func78 (YS AK)
def AAX : AG := ⟨.val int <| .nil, [], .val int <| .nil, []⟩
theorem AFi : ∀  xa xo, (AAX.prog (mkC Tryz.prog LS ⟨false, false⟩ noL noJ) Tryz.f209 xa xo).run = AD7  xa.1 := by intros; kernel_rfl
def Sp := AH LS 209 (AAX.AF (fun xa xo => AD7 xa.1))
theorem YT : OKs Sp := fn_A Sn Tryz.func209 AFi
def Ok : AG := ⟨.obj 0 <| .nil, [(80, .skip <| .skip <| .own 81 CL <| .own 90 AU <| .skip <| .AI (.sl AB) <| .AI (.sl Ar) <| .AI (.sl AW) <| .AI (.sl Ax) <| .AI (.sl Ar) <| .DM (.mp int (.sl int)) <| .nil)], .nil, []⟩
def YU (nn : Nat) : Nat -> Option Af := fun n =>
 bif Nat.beq n 2 then some ⟨{ env := [(19, .dat int)], heap := [(1, .box 80 ((ASh.opq 17).cons ((ASh.opq 18).cons ((ASh.arr 19).cons ((ASh.arr 20).cons ((ASh.opq 21).cons ((ASh.idn 22 (int.pair (int.pair (int.pair (int.pair (int.pair (int.pair (int.pair Ty.unit))))))).sl).cons ((ASh.idn 23 (Ty.str.pair (int.pair Ty.unit)).sl).cons ((ASh.idn 24 (Ty.str.pair (int.pair (int.pair (int.pair Ty.unit)))).sl).cons ((ASh.idn 25 (int.pair (Ty.str.pair (int.pair Ty.unit))).sl).cons ((ASh.idn 26 (Ty.str.pair (int.pair Ty.unit)).sl).cons ((ASh.BY 27).cons ASh.nil)))))))))))), (20, .arr 90 (int.pair (int.pair (Ty.bool.pair (int.pair (int.pair Ty.unit))))))], keep := [0, 2, 17, 18], AN := [19, 27, 320] }, fun _ => nn⟩ else
 bif Nat.beq n 5 then some ⟨{ env := [(40, .dat int)], heap := [(1, .box 80 ((ASh.opq 17).cons ((ASh.opq 18).cons ((ASh.arr 19).cons ((ASh.arr 20).cons ((ASh.opq 21).cons ((ASh.idn 22 (int.pair (int.pair (int.pair (int.pair (int.pair (int.pair (int.pair Ty.unit))))))).sl).cons ((ASh.idn 23 (Ty.str.pair (int.pair Ty.unit)).sl).cons ((ASh.idn 24 (Ty.str.pair (int.pair (int.pair (int.pair Ty.unit)))).sl).cons ((ASh.idn 25 (int.pair (Ty.str.pair (int.pair Ty.unit))).sl).cons ((ASh.idn 26 (Ty.str.pair (int.pair Ty.unit)).sl).cons ((ASh.BY 27).cons ASh.nil)))))))))))), (20, .arr 90 (int.pair (int.pair (Ty.bool.pair (int.pair (int.pair Ty.unit))))))], keep := [0, 2, 3, 4, 17, 18, 19, 38, 39], AN := [19, 27, 320, 1152, 2240] }, fun _ => nn⟩ else
 none
theorem Vj : ∀ (nn : Nat)  xa xo, (Ok.prog (mkC Tryz.prog Sp ⟨false, false⟩ (YU nn) noJ) Tryz.f31 xa xo).run = LG nn xo.1.1 xo.1.2.1 xo.1.2.2.1 xo.1.2.2.2.1 xo.1.2.2.2.2.1 xo.1.2.2.2.2.2.1 xo.1.2.2.2.2.2.2.1 xo.1.2.2.2.2.2.2.2.1 := by intros; kernel_rfl
def JG := AH Sp 31 (Ok.AF (fun xa xo => Jx xo.1.1 xo.1.2.1 xo.1.2.2.1 xo.1.2.2.2.1 xo.1.2.2.2.2.1 xo.1.2.2.2.2.2.1 xo.1.2.2.2.2.2.2.1 xo.1.2.2.2.2.2.2.2.1))
theorem Pm : OKs JG := fn_A YT Tryz.func31 (Vj AK)
def Vk : AG := ⟨.obj 0 <| .nil, [(80, .val int <| .val (.sl AR) <| .skip <| .skip <| .skip <| .val (.sl AB) <| .skip <| .skip <| .skip <| .skip <| .DM (.mp int (.sl int)) <| .nil)], .nil, []⟩
def AFj (nn : Nat) : Nat -> Option Af := fun n =>
 bif Nat.beq n 1 then some ⟨{ env := [(12, .dat int)], heap := [(1, .box 80 ((ASh.dat int).cons ((ASh.dat (int.pair (int.pair Ty.unit)).sl).cons ((ASh.opq 19).cons ((ASh.opq 20).cons ((ASh.opq 21).cons ((ASh.dat (int.pair (int.pair (int.pair (int.pair (int.pair (int.pair (int.pair Ty.unit))))))).sl).cons ((ASh.opq 23).cons ((ASh.opq 24).cons ((ASh.opq 25).cons ((ASh.opq 26).cons ((ASh.BY 27).cons ASh.nil)))))))))))), (27, .mp int int.sl)], keep := [0, 10, 11], AN := [] }, fun _ => nn⟩ else
 none
theorem ACE : ∀ (nn : Nat)  xa xo, (Vk.prog (mkC Tryz.prog JG ⟨false, true⟩ (AFj nn) noJ) Tryz.f30 xa xo).run = SF nn xo.1.1 xo.1.2.1 xo.1.2.2.1 xo.1.2.2.2.1 := by intros; kernel_rfl
def Ol := AH JG 30 (Vk.AF (fun xa xo => SG xo.1.1 xo.1.2.1 xo.1.2.2.1 xo.1.2.2.2.1))
theorem Vl : OKs Ol := fn_A Pm Tryz.func30 (ACE AK)
def DJ : AG := ⟨.agg (.val (.sl AB) <| .val (.sl Ar) <| .val (.sl AW) <| .val (.sl Ax) <| .val (.sl Ar) <| .nil) <| .nil, [], .agg (.val int <| .val (.sl AR) <| .val (.sl CL) <| .val (.sl AU) <| .val (.sl Et) <| .nil) <| .nil, []⟩
def ACF (nn : Nat) : Nat -> Option Af := fun n =>
 bif Nat.beq n 4 then some ⟨{ env := [(4, .arr 50), (23, .dat int)], heap := [(384, .box 80 ((ASh.dat int).cons (ASh.K5.cons ((ASh.arr 52).cons (ASh.K5.cons (ASh.K5.cons ((ASh.dat (int.pair (int.pair (int.pair (int.pair (int.pair (int.pair (int.pair Ty.unit))))))).sl).cons ((ASh.dat (Ty.str.pair (int.pair Ty.unit)).sl).cons ((ASh.dat (Ty.str.pair (int.pair (int.pair (int.pair Ty.unit)))).sl).cons ((ASh.dat (int.pair (Ty.str.pair (int.pair Ty.unit))).sl).cons ((ASh.dat (Ty.str.pair (int.pair Ty.unit)).sl).cons ((ASh.BY 256).cons ASh.nil)))))))))))), (50, .arr 3 int), (52, .arr 81 (int.pair (int.pair (int.pair Ty.unit))))], keep := [0, 1, 2, 3, 5, 21, 22], AN := [64, 128, 256] }, fun _ => nn⟩ else
 bif Nat.beq n 8 then some ⟨{ env := [(40, .dat int)], heap := [(384, .box 80 ((ASh.dat int).cons (ASh.K5.cons ((ASh.arr 52).cons (ASh.K5.cons (ASh.K5.cons ((ASh.dat (int.pair (int.pair (int.pair (int.pair (int.pair (int.pair (int.pair Ty.unit))))))).sl).cons ((ASh.dat (Ty.str.pair (int.pair Ty.unit)).sl).cons ((ASh.dat (Ty.str.pair (int.pair (int.pair (int.pair Ty.unit)))).sl).cons ((ASh.dat (int.pair (Ty.str.pair (int.pair Ty.unit))).sl).cons ((ASh.dat (Ty.str.pair (int.pair Ty.unit)).sl).cons ((ASh.BY 256).cons ASh.nil)))))))))))), (52, .arr 81 (int.pair (int.pair (int.pair Ty.unit))))], keep := [0, 1, 2, 3, 4, 5, 6, 7, 21, 22, 23, 39], AN := [64, 128, 256, 1600, 1152] }, fun _ => nn⟩ else
 bif Nat.beq n 14 then some ⟨{ env := [(5, .arr 53), (69, .dat int)], heap := [(53, .arr 3 int)], keep := [0, 1, 2, 3, 4, 21, 22, 23, 67, 68], AN := [64, 128, 384, 52, 256, 50] }, fun _ => nn⟩ else
 bif Nat.beq n 21 then some ⟨{ env := [(11, .dat int), (95, .dat int)], heap := [(384, .box 80 ((ASh.dat int).cons ((ASh.dat (int.pair (int.pair Ty.unit)).sl).cons ((ASh.arr 52).cons (ASh.K5.cons (ASh.K5.cons ((ASh.dat (int.pair (int.pair (int.pair (int.pair (int.pair (int.pair (int.pair Ty.unit))))))).sl).cons ((ASh.dat (Ty.str.pair (int.pair Ty.unit)).sl).cons ((ASh.dat (Ty.str.pair (int.pair (int.pair (int.pair Ty.unit)))).sl).cons ((ASh.dat (int.pair (Ty.str.pair (int.pair Ty.unit))).sl).cons ((ASh.dat (Ty.str.pair (int.pair Ty.unit)).sl).cons ((ASh.BY 256).cons ASh.nil)))))))))))), (256, .mp int int.sl)], keep := [0, 1, 2, 3, 4, 5, 21, 22, 23, 67, 68, 69, 93, 94], AN := [64, 128, 52, 53, 2304] }, fun _ => nn⟩ else
 bif Nat.beq n 28 then some ⟨{ env := [(111, .dat int)], heap := [(384, .box 80 ((ASh.dat int).cons ((ASh.dat (int.pair (int.pair Ty.unit)).sl).cons ((ASh.arr 2771).cons ((ASh.arr 2772).cons ((ASh.arr 54).cons ((ASh.dat (int.pair (int.pair (int.pair (int.pair (int.pair (int.pair (int.pair Ty.unit))))))).sl).cons ((ASh.dat (Ty.str.pair (int.pair Ty.unit)).sl).cons ((ASh.dat (Ty.str.pair (int.pair (int.pair (int.pair Ty.unit)))).sl).cons ((ASh.dat (int.pair (Ty.str.pair (int.pair Ty.unit))).sl).cons ((ASh.dat (Ty.str.pair (int.pair Ty.unit)).sl).cons ((ASh.BY 2779).cons ASh.nil)))))))))))), (54, .arr 86 (int.pair (int.pair (int.pair Ty.unit))))], keep := [0, 1, 2, 3, 4, 5, 11, 21, 22, 23, 67, 68, 69, 93, 94, 95, 109, 110], AN := [64, 128, 2771, 2772, 2779, 53, 2304] }, fun _ => nn⟩ else
 none
theorem YV : ∀ (nn : Nat)  xa xo, (DJ.prog (mkC Tryz.prog Ol ⟨false, true⟩ (ACF nn) noJ) Tryz.f8 xa xo).run = OB nn xa.1.1 xa.1.2.1 xa.1.2.2.1 xa.1.2.2.2.1 xa.1.2.2.2.2.1 := by intros; kernel_rfl
def LU := AH Ol 8 (DJ.AF (fun xa xo => DZ xa.1.1 xa.1.2.1 xa.1.2.2.1 xa.1.2.2.2.1 xa.1.2.2.2.2.1))
theorem Sq : OKs LU := fn_A Vl Tryz.func8 (YV AK)
def Fo : AG := ⟨.agg (.val int <| .AI (.sl AR) <| .AI (.sl CL) <| .AI (.sl AU) <| .AI (.sl Et) <| .nil) <| .AI (.sl int) <| .nil, [], .own 4 .bool <| .nil, []⟩
def ACG (nn : Nat) : Nat -> Option Af := fun n =>
 bif Nat.beq n 3 then some ⟨{ env := [(5, .arr 49), (6, .dat int)], heap := [(49, .arr 4 Ty.bool)], keep := [0, 1, 2, 4], AN := [64] }, fun _ => nn⟩ else
 none
theorem YW : ∀ (nn : Nat)  xa xo, (Fo.prog (mkC Tryz.prog LU ⟨false, false⟩ (ACG nn) noJ) Tryz.f12 xa xo).run = OC nn xa.1.1 xa.1.2.1 xa.1.2.2.1 xa.1.2.2.2.1 xa.1.2.2.2.2.1 xa.2.1 := by intros; kernel_rfl
def LV := AH LU 12 (Fo.AF (fun xa xo => GO xa.1.1 xa.1.2.1 xa.1.2.2.1 xa.1.2.2.2.1 xa.1.2.2.2.2.1 xa.2.1))
theorem Sr : OKs LV := fn_A Sq Tryz.func12 (YW AK)
def J7 : AG := ⟨.AI (.sl (.sl int)) <| .AI (.sl .bool) <| .nil, [], .val .bool <| .nil, []⟩
def AH3 (nn : Nat) : Nat -> Option Af := fun n =>
 bif Nat.beq n 2 then some ⟨{ env := [(5, .dat int)], heap := [], keep := [0, 1, 4], AN := [] }, fun _ => nn⟩ else
 bif Nat.beq n 6 then some ⟨{ env := [(6, .dat Ty.bool), (7, .dat int)], heap := [], keep := [0, 1, 4, 5], AN := [] }, fun _ => nn⟩ else
 none
theorem AFk : ∀ (nn : Nat)  xa xo, (J7.prog (mkC Tryz.prog LV ⟨false, false⟩ (AH3 nn) noJ) Tryz.f13 xa xo).run = Xb nn xa.1 xa.2.1 := by intros; kernel_rfl
def Ss := AH LV 13 (J7.AF (fun xa xo => OD xa.1 xa.2.1))
theorem YX : OKs Ss := fn_A Sr Tryz.func13 (AFk AK)
def Fp : AG := ⟨.agg (.AI (.sl AB) <| .AI (.sl Ar) <| .AI (.sl AW) <| .AI (.sl Ax) <| .AI (.sl Ar) <| .nil) <| .AI (.sl (.int .u16)) <| .nil, [], .own 3 int <| .nil, []⟩
def ACH (nn : Nat) : Nat -> Option Af := fun n =>
 bif Nat.beq n 3 then some ⟨{ env := [(5, .arr 49), (6, .dat int)], heap := [(49, .arr 3 int)], keep := [0, 1, 2, 4], AN := [64] }, fun _ => nn⟩ else
 none
theorem YY : ∀ (nn : Nat)  xa xo, (Fp.prog (mkC Tryz.prog Ss ⟨false, false⟩ (ACH nn) noJ) Tryz.f15 xa xo).run = OE nn xa.1.1 xa.1.2.1 xa.1.2.2.1 xa.1.2.2.2.1 xa.1.2.2.2.2.1 xa.2.1 := by intros; kernel_rfl
def LW := AH Ss 15 (Fp.AF (fun xa xo => GP xa.1.1 xa.1.2.1 xa.1.2.2.1 xa.1.2.2.2.1 xa.1.2.2.2.2.1 xa.2.1))
theorem Su : OKs LW := fn_A YX Tryz.func15 (YY AK)
def D7 : AG := ⟨.AI (.sl .bool) <| .nil, [], .own 3 int <| .nil, []⟩
def AFl (nn : Nat) : Nat -> Option Af := fun n =>
 bif Nat.beq n 3 then some ⟨{ env := [(3, .arr 49), (8, .dat int)], heap := [(49, .arr 3 int)], keep := [0, 2, 6, 7], AN := [] }, fun _ => nn⟩ else
 none
theorem ACI : ∀ (nn : Nat)  xa xo, (D7.prog (mkC Tryz.prog LW ⟨false, false⟩ (AFl nn) noJ) Tryz.f17 xa xo).run = SH nn xa.1 := by intros; kernel_rfl
def Om := AH LW 17 (D7.AF (fun xa xo => Ew xa.1))
theorem Vm : OKs Om := fn_A Su Tryz.func17 (ACI AK)
def Db : AG := ⟨.AI (.sl int) <| .nil, [], .own 3 int <| .nil, []⟩
def Sv (nn : Nat) : Nat -> Option Af := fun n =>
 bif Nat.beq n 3 then some ⟨{ env := [(3, .arr 49), (8, .dat int)], heap := [(49, .arr 3 int)], keep := [0, 2, 6, 7], AN := [] }, fun _ => nn⟩ else
 none
theorem Pn : ∀ (nn : Nat)  xa xo, (Db.prog (mkC Tryz.prog Om ⟨false, false⟩ (Sv nn) noJ) Tryz.f16 xa xo).run = HN nn xa.1 := by intros; kernel_rfl
def GS := AH Om 16 (Db.AF (fun xa xo => C7 xa.1))
theorem Mi : OKs GS := fn_A Vm Tryz.func16 (Pn AK)
def J8 : AG := ⟨.AI (.sl .bool) <| .AI (.sl .bool) <| .nil, [], .val .bool <| .nil, []⟩
def AH4 (nn : Nat) : Nat -> Option Af := fun n =>
 bif Nat.beq n 4 then some ⟨{ env := [(5, .dat int)], heap := [], keep := [0, 1, 4], AN := [] }, fun _ => nn⟩ else
 none
theorem AFm : ∀ (nn : Nat)  xa xo, (J8.prog (mkC Tryz.prog GS ⟨false, false⟩ (AH4 nn) noJ) Tryz.f18 xa xo).run = Xc nn xa.1 xa.2.1 := by intros; kernel_rfl
def Sw := AH GS 18 (J8.AF (fun xa xo => OF xa.1 xa.2.1))
theorem YZ : OKs Sw := fn_A Mi Tryz.func18 (AFm AK)
def E2 : AG := ⟨.agg (.val (.sl AB) <| .val (.sl Ar) <| .val (.sl AW) <| .val (.sl Ax) <| .val (.sl Ar) <| .nil) <| .nil, [], .agg (.val (.sl AB) <| .val (.sl Ar) <| .val (.sl AW) <| .val (.sl Ax) <| .val (.sl Ar) <| .nil) <| .nil, []⟩
def Ya (nn : Nat) : Nat -> Option Af := fun n =>
 bif Nat.beq n 5 then some ⟨{ env := [(4, .dat int)], heap := [(256, .box 27 ((ASh.dat (int.pair (int.pair (int.pair (int.pair (int.pair (int.pair (int.pair Ty.unit))))))).sl).cons ((ASh.arr 49).cons (ASh.K5.cons ((ASh.dat (int.pair (Ty.str.pair (int.pair Ty.unit))).sl).cons ((ASh.dat (Ty.str.pair (int.pair Ty.unit)).sl).cons ASh.nil)))))), (49, .arr 74 (Ty.str.pair (int.pair Ty.unit)))], keep := [0, 1, 2, 3], AN := [64, 128] }, fun _ => nn⟩ else
 bif Nat.beq n 9 then some ⟨{ env := [(5, .dat int)], heap := [(256, .box 27 ((ASh.dat (int.pair (int.pair (int.pair (int.pair (int.pair (int.pair (int.pair Ty.unit))))))).sl).cons ((ASh.arr 49).cons ((ASh.arr 50).cons ((ASh.dat (int.pair (Ty.str.pair (int.pair Ty.unit))).sl).cons ((ASh.dat (Ty.str.pair (int.pair Ty.unit)).sl).cons ASh.nil)))))), (50, .arr 49 (Ty.str.pair (int.pair (int.pair (int.pair Ty.unit)))))], keep := [0, 1, 2, 3, 4], AN := [64, 128, 49] }, fun _ => nn⟩ else
 bif Nat.beq n 16 then some ⟨{ env := [(7, .dat int)], heap := [(256, .box 27 ((ASh.dat (int.pair (int.pair (int.pair (int.pair (int.pair (int.pair (int.pair Ty.unit))))))).sl).cons ((ASh.arr 49).cons ((ASh.arr 50).cons ((ASh.arr 51).cons ((ASh.dat (Ty.str.pair (int.pair Ty.unit)).sl).cons ASh.nil)))))), (51, .arr 76 (int.pair (Ty.str.pair (int.pair Ty.unit))))], keep := [0, 1, 2, 3, 4, 5], AN := [64, 128, 49, 50] }, fun _ => nn⟩ else
 none
theorem Vn : ∀ (nn : Nat)  xa xo, (E2.prog (mkC Tryz.prog Sw ⟨false, false⟩ (Ya nn) noJ) Tryz.f7 xa xo).run = LH nn xa.1.1 xa.1.2.1 xa.1.2.2.1 xa.1.2.2.2.1 xa.1.2.2.2.2.1 := by intros; kernel_rfl
def JH := AH Sw 7 (E2.AF (fun xa xo => Ex xa.1.1 xa.1.2.1 xa.1.2.2.1 xa.1.2.2.2.1 xa.1.2.2.2.2.1))
theorem Po : OKs JH := fn_A YZ Tryz.func7 (Vn AK)
def AAY : AG := ⟨.agg (.AI (.sl AB) <| .AI (.sl Ar) <| .AI (.sl AW) <| .AI (.sl Ax) <| .AI (.sl Ar) <| .nil) <| .agg (.val int <| .AI (.sl AR) <| .AI (.sl CL) <| .AI (.sl AU) <| .AI (.sl Et) <| .nil) <| .nil, [], .val .bool <| .nil, []⟩
def AH5 (nn : Nat) : Nat -> Option Af := fun n =>
 bif Nat.beq n 3 then some ⟨{ env := [(5, .dat int), (6, .dat int), (12, .dat int)], heap := [], keep := [0, 1, 2, 3, 4, 10, 11], AN := [64, 128] }, fun _ => nn⟩ else
 none
theorem AFn : ∀ (nn : Nat)  xa xo, (AAY.prog (mkC Tryz.prog JH ⟨false, false⟩ (AH5 nn) noJ) Tryz.f36 xa xo).run = Xd nn xa.1.1 xa.1.2.1 xa.1.2.2.1 xa.1.2.2.2.1 xa.1.2.2.2.2.1 xa.2.1.1 xa.2.1.2.1 xa.2.1.2.2.1 xa.2.1.2.2.2.1 xa.2.1.2.2.2.2.1 := by intros; kernel_rfl
def Sx := AH JH 36 (AAY.AF (fun xa xo => VB xa.1.1 xa.1.2.1 xa.1.2.2.1 xa.1.2.2.2.1 xa.1.2.2.2.2.1 xa.2.1.1 xa.2.1.2.1 xa.2.1.2.2.1 xa.2.1.2.2.2.1 xa.2.1.2.2.2.2.1))
theorem Yb : OKs Sx := fn_A Po Tryz.func36 (AFn AK)
end AL
end
end
section
noncomputable section
set_option linter.unusedVariables false
set_option maxHeartbeats 0
set_option maxRecDepth 100000
namespace AL
open Go Go.Proofs
def AFo : AG := ⟨.val int <| .nil, [], .val int <| .nil, []⟩
theorem AH6 : ∀  xa xo, (AFo.prog (mkC Tryz.prog Sx ⟨false, false⟩ noL noJ) Tryz.f224 xa xo).run = AJq  xa.1 := by intros; kernel_rfl
def Yc := AH Sx 224 (AFo.AF (fun xa xo => AJq xa.1))
theorem ACJ : OKs Yc := fn_A Yb Tryz.func224 AH6
def HT : AG := ⟨.AI (.sl (.sl int)) <| .val int <| .nil, [], .val .bool <| .nil, []⟩
def AFp (nn : Nat) : Nat -> Option Af := fun n =>
 bif Nat.beq n 4 then some ⟨{ env := [(18, .dat int)], heap := [], keep := [0, 1, 4, 16, 17], AN := [] }, fun _ => nn⟩ else
 bif Nat.beq n 7 then some ⟨{ env := [(24, .dat int)], heap := [], keep := [0, 1, 4, 6, 16, 17, 18, 22, 23], AN := [] }, fun _ => nn⟩ else
 none
theorem ACK : ∀ (nn : Nat)  xa xo, (HT.prog (mkC Tryz.prog Yc ⟨false, false⟩ (AFp nn) noJ) Tryz.f173 xa xo).run = AAE nn xa.1 xa.2.1 := by intros; kernel_rfl
def Vo := AH Yc 173 (HT.AF (fun xa xo => I9 xa.1 xa.2.1))
theorem Vp : OKs Vo := fn_A ACJ Tryz.func173 (ACK AK)
section
open Go.Conc Go.RowKit
theorem Yd (p x : Value) : #[p, x] ++ Array.replicate 27 undef = #[p, x, undef, undef, undef, undef, undef, undef, undef, undef, undef, undef, undef, undef, undef, undef, undef, undef, undef, undef, undef, undef, undef, undef, undef, undef, undef, undef, undef] := by
 rw [<- Array.toList_inj]; simp [List.replicate]
theorem Ye (g gm : Nat) (x : Int) (w : World)
  (hl2 : w.cell? ⟨g, 2, none⟩ = some (.map (some gm)))
  (hlk : (Instr.lookup 243 (.map (some gm)) (.int .i64 (IntKind.i64.wrap (-x))) false).run Tryz.prog w = .ok (.bool true) w)  :
  Calls Tryz.prog 225 #[.pointer (some ⟨g, 0, none⟩), .int .i64 x] w (fun e w' => ∃ v, e = .returned v /\ v = .bool false /\ w' = w) := by
 refine Go.Conc.calls_of_loneTo (fun cs => ?_) (by rintro w' ⟨_, h, _⟩; cases h)
 rw [enter_at (c := Tryz.f225.body.getD .skip) _ Tryz.func225 (by kernel_rfl)]
 refine LoneTo.goes (n := 40) ?_
 simp only [Tryz.f225, Option.getD_some, List.size_toArray, List.length_cons, List.length_nil, Nat.reduceAdd, Nat.zero_add, Nat.reduceSub, Yd]
 s_c stepG_seq
 s_reg
 s_op
 s_c stepG_region_end
 s_c stepG_seq
 s_c stepG_seq
 s_reg
 s_op
 s_op
 s_op
 s_op
 s_op
 s_op
 s_op
 s_c stepG_region_end
 s_cond true
 s_c stepG_seq
 s_reg
 s_op
 s_c stepG_region_end
 s_c stepG_ret'
 s_stop
 exact LoneTo.done ⟨.returned (.bool false), _, rfl, ⟨_, rfl, rfl, rfl⟩, rfl, rfl, rfl, rfl, _, Tryz.func225, by simp [results, Tryz.f225, Frame.at]⟩
theorem ACL (g gm : Nat) (x : Int) (w : World)
  (hl2 : w.cell? ⟨g, 2, none⟩ = some (.map (some gm)))
  (hlk : (Instr.lookup 243 (.map (some gm)) (.int .i64 (IntKind.i64.wrap (-x))) false).run Tryz.prog w = .ok (.bool false) w) 
  (hlk2 : (Instr.lookup 243 (.map (some gm)) (.int .i64 x) false).run Tryz.prog w = .ok (.bool true) w)  :
  Calls Tryz.prog 225 #[.pointer (some ⟨g, 0, none⟩), .int .i64 x] w (fun e w' => ∃ v, e = .returned v /\ v = .bool true /\ w' = w) := by
 refine Go.Conc.calls_of_loneTo (fun cs => ?_) (by rintro w' ⟨_, h, _⟩; cases h)
 rw [enter_at (c := Tryz.f225.body.getD .skip) _ Tryz.func225 (by kernel_rfl)]
 refine LoneTo.goes (n := 60) ?_
 simp only [Tryz.f225, Option.getD_some, List.size_toArray, List.length_cons, List.length_nil, Nat.reduceAdd, Nat.zero_add, Nat.reduceSub, Yd]
 s_c stepG_seq
 s_reg
 s_op
 s_c stepG_region_end
 s_c stepG_seq
 s_c stepG_seq
 s_reg
 s_op
 s_op
 s_op
 s_op
 s_op
 s_op
 s_op
 s_c stepG_region_end
 s_cond false
 s_c stepG_skip
 s_c stepG_seq
 s_c stepG_seq
 s_reg
 s_op
 s_op
 s_op
 s_op
 s_op
 s_op
 s_op
 s_c stepG_region_end
 s_cond false
 s_c stepG_skip
 s_c stepG_seq
 s_reg
 s_op
 s_c stepG_region_end
 s_c stepG_ret'
 s_stop
 exact LoneTo.done ⟨.returned (.bool true), _, rfl, ⟨_, rfl, rfl, rfl⟩, rfl, rfl, rfl, rfl, _, Tryz.func225, by simp [results, Tryz.f225, Frame.at]⟩
theorem AFq (g gm gc : Nat) (x : Int) (w w1 : World)
  (hl2 : w.cell? ⟨g, 2, none⟩ = some (.map (some gm)))
  (hlk : (Instr.lookup 243 (.map (some gm)) (.int .i64 (IntKind.i64.wrap (-x))) false).run Tryz.prog w = .ok (.bool false) w) 
  (hlk2 : (Instr.lookup 243 (.map (some gm)) (.int .i64 x) false).run Tryz.prog w = .ok (.bool false) w) 
  (hup : (Instr.mapUpdate 243 (.map (some gm)) (.int .i64 x) (.bool true)).run Tryz.prog w = .ok () w1) 
  (hl3 : w1.cell? ⟨g, 3, none⟩ = some (.chan (some gc)))
  (cap s r : Nat) (buf : Array Value) (tm : Bool) (hc : w1.heap[gc]? = some (.chan cap buf false s r tm)) (hroom : buf.size < cap) :
  Calls Tryz.prog 225 #[.pointer (some ⟨g, 0, none⟩), .int .i64 x] w (fun e w' => ∃ v, e = .returned v /\ v = .bool true /\ w' = w1.setChan gc cap (buf.push (.int .i64 x)) false (s + 1) r tm) := by
 refine Go.Conc.calls_of_loneTo (fun cs => ?_) (by rintro w' ⟨_, h, _⟩; cases h)
 rw [enter_at (c := Tryz.f225.body.getD .skip) _ Tryz.func225 (by kernel_rfl)]
 refine LoneTo.goes (n := 60) ?_
 simp only [Tryz.f225, Option.getD_some, List.size_toArray, List.length_cons, List.length_nil, Nat.reduceAdd, Nat.zero_add, Nat.reduceSub, Yd]
 s_c stepG_seq
 s_reg
 s_op
 s_c stepG_region_end
 s_c stepG_seq
 s_c stepG_seq
 s_reg
 s_op
 s_op
 s_op
 s_op
 s_op
 s_op
 s_op
 s_c stepG_region_end
 s_cond false
 s_c stepG_skip
 s_c stepG_seq
 s_c stepG_seq
 s_reg
 s_op
 s_op
 s_op
 s_op
 s_op
 s_op
 s_op
 s_c stepG_region_end
 s_cond true
 s_c stepG_seq
 s_reg
 s_op
 s_op
 s_op
 s_op
 s_op
 s_op
 s_c stepG_region_end
 s_reg
 s_op
 s_op
 s_op
 s_op
 s_op
 s_stop
 refine LoneTo.step (step_lone_send_room (c := gc) (v := .int .i64 x) (z' := .tuple #[]) (cap := cap) (buf := buf) (s := s) (r := r) (tm := tm) (stepG_comm (cases := #[scase gc (.int .i64 x) (.tuple #[])]) (blocking := true) (shape := .send) (w' := w1) rfl rfl (by decide) (by simp [go_sem, execOp, scase, Act.eval])) hc hroom) ?_
 rw [Frame.finish_at]
 walk_nrm
 refine LoneTo.goes (n := 20) ?_
 s_c stepG_region_end
 s_c stepG_seq
 s_reg
 s_op
 s_c stepG_region_end
 s_c stepG_ret'
 s_stop
 exact LoneTo.done ⟨.returned (.bool true), _, rfl, ⟨_, rfl, rfl, rfl⟩, rfl, rfl, rfl, rfl, _, Tryz.func225, by simp [results, Tryz.f225, Frame.at]⟩
end
theorem AKy : AIn Tryz.prog 225 243 :=
 ⟨fun g gm x w h1 h2 => Ye g gm x w h1 h2, fun g gm x w h1 h2 h3 => ACL g gm x w h1 h2 h3, fun g gm gc x w w1 h1 h2 h3 h4 h5 cap s r buf tm h6 h7 => AFq g gm gc x w w1 h1 h2 h3 h4 h5 cap s r buf tm h6 h7⟩
def Sy := AH Vo 225 Qm
theorem Yf : OKs Sy := Ac Vp (ADd (f := 225) AKy (by kernel_rfl) (B1 Tryz.func225 (by kernel_rfl) (by kernel_rfl)))
def J9 : AG := ⟨.obj 0 <| .AI (.sl int) <| .nil, [(247, .skip <| .skip <| .DM (.mp int .bool) <| .DM .ch <| .nil)], .val .bool <| .nil, []⟩
def AH7 (nn : Nat) : Nat -> Option Af := fun n =>
 bif Nat.beq n 3 then some ⟨{ env := [(5, .dat int), (10, .dat int)], heap := [], keep := [0, 1, 4, 8, 9], AN := [1, 20, 21] }, fun _ => nn⟩ else
 none
theorem AFr : ∀ (nn : Nat)  xa xo, (J9.prog (mkC Tryz.prog Sy ⟨false, false⟩ (AH7 nn) noJ) Tryz.f226 xa xo).run = AD8 nn xa.1 xo.1.1 xo.1.2.1.1 xo.1.2.1.2 := by intros; kernel_rfl
def AAZ := AH Sy 226 (J9.AF (fun xa xo => VC xa.1 xo.1.1 xo.1.2.1.1 xo.1.2.1.2))
theorem GU : OKs AAZ := fn_A Yf Tryz.func226 (AFr AK)
end AL
end
end
section
noncomputable section
set_option linter.unusedVariables false
set_option maxHeartbeats 0
set_option maxRecDepth 100000
namespace AL
open Go Go.Proofs
def AAa : AG := ⟨.AI (.sl (.sl int)) <| .val int <| .AI (.sl int) <| .nil, [], .own 3 int <| .val .bool <| .nil, []⟩
def AH8 (nn : Nat) : Nat -> Option Af := fun n =>
 bif Nat.beq n 5 then some ⟨{ env := [(8, .dat int), (38, .dat int)], heap := [], keep := [0, 1, 2, 6, 7, 36, 37], AN := [] }, fun _ => nn⟩ else
 bif Nat.beq n 11 then some ⟨{ env := [(56, .dat int)], heap := [(1472, .mpo int 3)], keep := [0, 1, 2, 6, 7, 8, 11, 36, 37, 38, 54, 55], AN := [1792, 1536, 1664] }, fun _ => nn⟩ else
 bif Nat.beq n 14 then some ⟨{ env := [(63, .dat int)], heap := [(1472, .mpo int 3)], keep := [0, 1, 2, 6, 7, 8, 11, 12, 13, 36, 37, 38, 54, 55, 56, 61, 62], AN := [1792, 1536, 1664] }, fun _ => nn⟩ else
 bif Nat.beq n 20 then some ⟨{ env := [(85, .dat int)], heap := [(1536, .mp int Ty.bool), (1664, .ch)], keep := [0, 1, 2, 6, 7, 8, 11, 36, 37, 38, 54, 55, 56, 83, 84], AN := [1792, 1472] }, fun _ => nn⟩ else
 bif Nat.beq n 26 then some ⟨{ env := [(96, .dat int)], heap := [(1792, .box 247 ((ASh.dat int.sl.sl).cons ((ASh.BY 1472).cons ((ASh.BY 1536).cons ((ASh.chv 1664).cons ASh.nil))))), (1536, .mp int Ty.bool), (1664, .ch)], keep := [0, 1, 2, 6, 7, 8, 11, 36, 37, 38, 54, 55, 56, 83, 84, 85, 94, 95], AN := [1472] }, fun _ => nn⟩ else
 none
theorem AFs : ∀ (nn : Nat) (vpRight : LLI -> Int -> Option ((Bool × Unit) × Unit × Unit)) (vplook : LI -> List (Int × Bool) -> Int -> Int -> Option ((Bool × Unit) × ((List (Int × Bool) × (Int × Int) × Unit) × Unit) × Unit)) xa xo, (AAa.prog (mkC Tryz.prog (AH (AH (AH noS 173 (HT.AF (fun xa xo => vpRight xa.1 xa.2.1))) 226 (J9.AF (fun xa xo => vplook xa.1 xo.1.1 xo.1.2.1.1 xo.1.2.1.2))) 225 Qm) ⟨true, false⟩ (AH8 nn) noJ) Tryz.f174 xa xo).run = AD9 nn vpRight vplook xa.1 xa.2.1 xa.2.2.1 := by intros; kernel_rfl
def AH9 := (AH (AH (AH noS 173 (HT.AF (fun xa xo => I9 xa.1 xa.2.1))) 226 (J9.AF (fun xa xo => VC xa.1 xo.1.1 xo.1.2.1.1 xo.1.2.1.2))) 225 Qm)
theorem Yg : OKs AH9 := (Ac (Ac (Ac Ny (Ap GU 173 (S := (HT.AF (fun xa xo => I9 xa.1 xa.2.1))) (by kernel_rfl))) (Ap GU 226 (S := (J9.AF (fun xa xo => VC xa.1 xo.1.1 xo.1.2.1.1 xo.1.2.1.2))) (by kernel_rfl))) (Ap GU 225 (S := Qm) (by kernel_rfl)))
def Sz := AH AAZ 174 (AAa.AF (fun xa xo => AI3 xa.1 xa.2.1 xa.2.2.1))
theorem Yh : OKs Sz := AJf GU Yg fol Tryz.func174 (by kernel_rfl) (by kernel_rfl) (by kernel_rfl) (AFs AK I9 VC)
def KA : AG := ⟨.skip <| .obj 0 <| .obj 1 <| .nil, [(57, .AI (.sl (.sl int)) <| .nil), (57, .AI (.sl (.sl int)) <| .nil)], .nil, []⟩
def AFt (nn : Nat) : Nat -> Option Af := fun n =>
 bif Nat.beq n 2 then some ⟨{ env := [], heap := [], keep := [0, 1, 2, 4, 9, 10, 11], AN := [1, 2, 128] }, fun _ => nn⟩ else
 none
theorem ACN : ∀ (nn : Nat)  xa xo, (KA.prog (mkC Tryz.prog Sz ⟨false, false⟩ (AFt nn) noJ) Tryz.f170 xa xo).run = SI nn xo.1.1 xo.2.1.1 := by intros; kernel_rfl
def On := AH Sz 170 (KA.AF (fun xa xo => Ck xo.1.1 xo.2.1.1))
theorem Vq : OKs On := fn_A Yh Tryz.func170 (ACN AK)
def M5 : AG := ⟨.val (.sl (.sl int)) <| .val (.sl (.sl int)) <| .nil, [], .clo 170 (.obj 0 <| .obj 1 <| .nil) <| .nil, [(57, .val (.sl (.sl int)) <| .nil), (57, .val (.sl (.sl int)) <| .nil)]⟩
theorem AFu : ∀  xa xo, (M5.prog (mkC Tryz.prog On ⟨false, false⟩ noL noJ) Tryz.f132 xa xo).run = grown  xa.1 xa.2.1 := by intros; kernel_rfl
def S2 := AH On 132 (M5.AF (fun xa xo => grown xa.1 xa.2.1))
theorem Yi : OKs S2 := fn_A Vq Tryz.func132 AFu
def GV : AG := ⟨.AI (.sl int) <| .obj 0 <| .obj 1 <| .nil, [(57, .AI (.sl (.sl int)) <| .nil), (3, .val int <| .nil)], .val .bool <| .nil, []⟩
theorem Vr : ∀  xa xo, (GV.prog (mkC Tryz.prog S2 ⟨false, false⟩ noL noJ) Tryz.f172 xa xo).run = Bj  xa.1 xo.1.1 xo.2.1.1 := by intros; kernel_rfl
def JI := AH S2 172 (GV.AF (fun xa xo => Bj xa.1 xo.1.1 xo.2.1.1))
theorem Pp : OKs JI := fn_A Yi Tryz.func172 Vr
def Hy : AG := ⟨.val (.sl (.sl int)) <| .val int <| .nil, [], .clo 172 (.obj 0 <| .obj 1 <| .nil) <| .nil, [(57, .val (.sl (.sl int)) <| .nil), (3, .val int <| .nil)]⟩
theorem Yj : ∀  xa xo, (Hy.prog (mkC Tryz.prog JI ⟨false, false⟩ noL noJ) Tryz.f134 xa xo).run = Mx  xa.1 xa.2.1 := by intros; kernel_rfl
def LX := AH JI 134 (Hy.AF (fun xa xo => Mx xa.1 xa.2.1))
theorem S3 : OKs LX := fn_A Pp Tryz.func134 Yj
end AL
end
end
section
noncomputable section
set_option linter.unusedVariables false
set_option maxHeartbeats 0
set_option maxRecDepth 100000
namespace AL
open Go Go.Proofs
def AFv : AG := ⟨.val int <| .nil, [], .val int <| .nil, []⟩
theorem AIA : ∀  xa xo, (AFv.prog (mkC Tryz.prog LX ⟨false, false⟩ noL noJ) Tryz.f74 xa xo).run = mask  xa.1 := by intros; kernel_rfl
def Yk := AH LX 74 (AFv.AF (fun xa xo => mask xa.1))
theorem ACO : OKs Yk := fn_A S3 Tryz.func74 AIA
def Vs : AG := ⟨.agg (.AI (.sl AB) <| .AI (.sl Ar) <| .AI (.sl AW) <| .AI (.sl Ax) <| .AI (.sl Ar) <| .nil) <| .nil, [], .val .bool <| .nil, []⟩
theorem ACP : ∀  xa xo, (Vs.prog (mkC Tryz.prog Yk ⟨false, false⟩ noL noJ) Tryz.f24 xa xo).run = OG  xa.1.1 xa.1.2.1 xa.1.2.2.1 xa.1.2.2.2.1 xa.1.2.2.2.2.1 := by intros; kernel_rfl
def Oo := AH Yk 24 (Vs.AF (fun xa xo => OG xa.1.1 xa.1.2.1 xa.1.2.2.1 xa.1.2.2.2.1 xa.1.2.2.2.2.1))
theorem Vt : OKs Oo := fn_A ACO Tryz.func24 ACP
def AAb : AG := ⟨.agg (.AI (.sl AB) <| .AI (.sl Ar) <| .AI (.sl AW) <| .AI (.sl Ax) <| .AI (.sl Ar) <| .nil) <| .val int <| .val int <| .nil, [], .val int <| .nil, []⟩
theorem AFw : ∀  xa xo, (AAb.prog (mkC Tryz.prog Oo ⟨false, false⟩ noL noJ) Tryz.f111 xa xo).run = Jy  xa.1.1 xa.1.2.1 xa.1.2.2.1 xa.1.2.2.2.1 xa.1.2.2.2.2.1 xa.2.1 xa.2.2.1 := by intros; kernel_rfl
def S4 := AH Oo 111 (AAb.AF (fun xa xo => Jy xa.1.1 xa.1.2.1 xa.1.2.2.1 xa.1.2.2.2.1 xa.1.2.2.2.2.1 xa.2.1 xa.2.2.1))
theorem Yl : OKs S4 := fn_A Vt Tryz.func111 AFw
def Oq : AG := ⟨.val int <| .nil, [], .val int <| .nil, []⟩
theorem Vu : ∀  xa xo, (Oq.prog (mkC Tryz.prog S4 ⟨false, false⟩ noL noJ) Tryz.f109 xa xo).run = operands  xa.1 := by intros; kernel_rfl
def JJ := AH S4 109 (Oq.AF (fun xa xo => operands xa.1))
theorem Pq : OKs JJ := fn_A Yl Tryz.func109 Vu
def AAc : AG := ⟨.agg (.AI (.sl AB) <| .AI (.sl Ar) <| .AI (.sl AW) <| .AI (.sl Ax) <| .AI (.sl Ar) <| .nil) <| .val int <| .nil, [], .val .bool <| .nil, []⟩
theorem AFx : ∀  xa xo, (AAc.prog (mkC Tryz.prog JJ ⟨false, false⟩ noL noJ) Tryz.f110 xa xo).run = Fk  xa.1.1 xa.1.2.1 xa.1.2.2.1 xa.1.2.2.2.1 xa.1.2.2.2.2.1 xa.2.1 := by intros; kernel_rfl
def S5 := AH JJ 110 (AAc.AF (fun xa xo => Fk xa.1.1 xa.1.2.1 xa.1.2.2.1 xa.1.2.2.2.1 xa.1.2.2.2.2.1 xa.2.1))
theorem Ym : OKs S5 := fn_A Pq Tryz.func110 AFx
def AAd : AG := ⟨.agg (.AI (.sl AB) <| .AI (.sl Ar) <| .AI (.sl AW) <| .AI (.sl Ax) <| .AI (.sl Ar) <| .nil) <| .val int <| .nil, [], .val .bool <| .nil, []⟩
theorem AFy : ∀  xa xo, (AAd.prog (mkC Tryz.prog S5 ⟨false, false⟩ noL noJ) Tryz.f71 xa xo).run = VD  xa.1.1 xa.1.2.1 xa.1.2.2.1 xa.1.2.2.2.1 xa.1.2.2.2.2.1 xa.2.1 := by intros; kernel_rfl
def S6 := AH S5 71 (AAd.AF (fun xa xo => VD xa.1.1 xa.1.2.1 xa.1.2.2.1 xa.1.2.2.2.1 xa.1.2.2.2.2.1 xa.2.1))
theorem Yn : OKs S6 := fn_A Ym Tryz.func71 AFy
def Vv : AG := ⟨.agg (.AI (.sl AB) <| .AI (.sl Ar) <| .AI (.sl AW) <| .AI (.sl Ax) <| .AI (.sl Ar) <| .nil) <| .val int <| .nil, [], .val int <| .nil, []⟩
theorem ACQ : ∀  xa xo, (Vv.prog (mkC Tryz.prog S6 ⟨false, false⟩ noL noJ) Tryz.f73 xa xo).run = JA  xa.1.1 xa.1.2.1 xa.1.2.2.1 xa.1.2.2.2.1 xa.1.2.2.2.2.1 xa.2.1 := by intros; kernel_rfl
def Ot := AH S6 73 (Vv.AF (fun xa xo => JA xa.1.1 xa.1.2.1 xa.1.2.2.1 xa.1.2.2.2.1 xa.1.2.2.2.2.1 xa.2.1))
theorem Vw : OKs Ot := fn_A Yn Tryz.func73 ACQ
def AAe : AG := ⟨.agg (.AI (.sl AB) <| .AI (.sl Ar) <| .AI (.sl AW) <| .AI (.sl Ax) <| .AI (.sl Ar) <| .nil) <| .nil, [], .val .bool <| .nil, []⟩
def AIB (nn : Nat) : Nat -> Option Af := fun n =>
 bif Nat.beq n 4 then some ⟨{ env := [(3, .dat int), (4, .dat int), (5, .dat int)], heap := [], keep := [0, 1, 2], AN := [64] }, fun _ => nn⟩ else
 none
theorem AFz : ∀ (nn : Nat)  xa xo, (AAe.prog (mkC Tryz.prog Ot ⟨false, false⟩ (AIB nn) noJ) Tryz.f72 xa xo).run = Xe nn xa.1.1 xa.1.2.1 xa.1.2.2.1 xa.1.2.2.2.1 xa.1.2.2.2.2.1 := by intros; kernel_rfl
def S7 := AH Ot 72 (AAe.AF (fun xa xo => AAF xa.1.1 xa.1.2.1 xa.1.2.2.1 xa.1.2.2.2.1 xa.1.2.2.2.2.1))
theorem Yo : OKs S7 := fn_A Vw Tryz.func72 (AFz AK)
def Vx : AG := ⟨.agg (.AI (.sl AB) <| .AI (.sl Ar) <| .AI (.sl AW) <| .AI (.sl Ax) <| .AI (.sl Ar) <| .nil) <| .nil, [], .val .bool <| .nil, []⟩
def AF0 (nn : Nat) : Nat -> Option Af := fun n =>
 bif Nat.beq n 4 then some ⟨{ env := [(3, .dat int)], heap := [], keep := [0, 1, 2], AN := [64] }, fun _ => nn⟩ else
 bif Nat.beq n 12 then some ⟨{ env := [(4, .dat int), (5, .dat int)], heap := [], keep := [0, 1, 2, 3], AN := [64] }, fun _ => nn⟩ else
 bif Nat.beq n 20 then some ⟨{ env := [(8, .dat int)], heap := [], keep := [0, 1, 2, 3, 4, 5], AN := [64] }, fun _ => nn⟩ else
 bif Nat.beq n 26 then some ⟨{ env := [(10, .dat int)], heap := [], keep := [0, 1, 2, 3, 4, 5, 8], AN := [64] }, fun _ => nn⟩ else
 none
theorem ACR : ∀ (nn : Nat)  xa xo, (Vx.prog (mkC Tryz.prog S7 ⟨false, false⟩ (AF0 nn) noJ) Tryz.f25 xa xo).run = SJ nn xa.1.1 xa.1.2.1 xa.1.2.2.1 xa.1.2.2.2.1 xa.1.2.2.2.2.1 := by intros; kernel_rfl
def Ou := AH S7 25 (Vx.AF (fun xa xo => SK xa.1.1 xa.1.2.1 xa.1.2.2.1 xa.1.2.2.2.1 xa.1.2.2.2.2.1))
theorem Vy : OKs Ou := fn_A Yo Tryz.func25 (ACR AK)
def Ov : AG := ⟨.agg (.val int <| .val int <| .val int <| .val int <| .val int <| .val int <| .val int <| .nil) <| .nil, [], .val int <| .nil, []⟩
theorem Vz : ∀  xa xo, (Ov.prog (mkC Tryz.prog Ou ⟨false, false⟩ noL noJ) Tryz.f75 xa xo).run = Fl  xa.1.1 xa.1.2.1 xa.1.2.2.1 xa.1.2.2.2.1 xa.1.2.2.2.2.1 xa.1.2.2.2.2.2.1 xa.1.2.2.2.2.2.2.1 := by intros; kernel_rfl
def JK := AH Ou 75 (Ov.AF (fun xa xo => Fl xa.1.1 xa.1.2.1 xa.1.2.2.1 xa.1.2.2.2.1 xa.1.2.2.2.2.1 xa.1.2.2.2.2.2.1 xa.1.2.2.2.2.2.2.1))
theorem Pr : OKs JK := fn_A Vy Tryz.func75 Vz
def Ow : AG := ⟨.agg (.AI (.sl AB) <| .AI (.sl Ar) <| .AI (.sl AW) <| .AI (.sl Ax) <| .AI (.sl Ar) <| .nil) <| .nil, [], .val int <| .nil, []⟩
def Yp (nn : Nat) : Nat -> Option Af := fun n =>
 bif Nat.beq n 3 then some ⟨{ env := [(3, .dat int), (4, .dat int)], heap := [], keep := [0, 1, 2], AN := [64] }, fun _ => nn⟩ else
 none
theorem V0 : ∀ (nn : Nat)  xa xo, (Ow.prog (mkC Tryz.prog JK ⟨false, false⟩ (Yp nn) noJ) Tryz.f26 xa xo).run = LJ nn xa.1.1 xa.1.2.1 xa.1.2.2.1 xa.1.2.2.2.1 xa.1.2.2.2.2.1 := by intros; kernel_rfl
def JL := AH JK 26 (Ow.AF (fun xa xo => Jz xa.1.1 xa.1.2.1 xa.1.2.2.1 xa.1.2.2.2.1 xa.1.2.2.2.2.1))
theorem Ps : OKs JL := fn_A Pr Tryz.func26 (V0 AK)
def V1 : AG := ⟨.agg (.val int <| .AI (.sl AR) <| .nil) <| .val int <| .val int <| .val int <| .nil, [], .val int <| .nil, []⟩
def AF1 (nn : Nat) : Nat -> Option Af := fun n =>
 bif Nat.beq n 2 then some ⟨{ env := [(9, .dat int)], heap := [], keep := [0, 1, 2, 3, 4, 8], AN := [64] }, fun _ => nn⟩ else
 none
theorem ACS : ∀ (nn : Nat)  xa xo, (V1.prog (mkC Tryz.prog JL ⟨false, false⟩ (AF1 nn) noJ) Tryz.f79 xa xo).run = SL nn xa.1.1 xa.1.2.1 xa.2.1 xa.2.2.1 xa.2.2.2.1 := by intros; kernel_rfl
def Ox := AH JL 79 (V1.AF (fun xa xo => SM xa.1.1 xa.1.2.1 xa.2.1 xa.2.2.1 xa.2.2.2.1))
theorem V3 : OKs Ox := fn_A Ps Tryz.func79 (ACS AK)
end AL
end
end
section
noncomputable section
set_option linter.unusedVariables false
set_option maxHeartbeats 0
set_option maxRecDepth 100000
namespace AL
open Go Go.Proofs
def Q6 : AG := ⟨.agg (.val int <| .AI (.sl AR) <| .nil) <| .nil, [], .val .bool <| .nil, []⟩
def ACT (nn : Nat) : Nat -> Option Af := fun n =>
 bif Nat.beq n 4 then some ⟨{ env := [(3, .dat int)], heap := [], keep := [0, 1, 2], AN := [64] }, fun _ => nn⟩ else
 none
theorem Yq : ∀ (nn : Nat)  xa xo, (Q6.prog (mkC Tryz.prog Ox ⟨false, false⟩ (ACT nn) noJ) Tryz.f32 xa xo).run = OH nn xa.1.1 xa.1.2.1 := by intros; kernel_rfl
def LY := AH Ox 32 (Q6.AF (fun xa xo => My xa.1.1 xa.1.2.1))
theorem S8 : OKs LY := fn_A V3 Tryz.func32 (Yq AK)
def AAf : AG := ⟨.val int <| .val int <| .val int <| .val int <| .nil, [], .val .bool <| .nil, []⟩
theorem AF2 : ∀  xa xo, (AAf.prog (mkC Tryz.prog LY ⟨false, false⟩ noL noJ) Tryz.f33 xa xo).run = Qt  xa.1 xa.2.1 xa.2.2.1 xa.2.2.2.1 := by intros; kernel_rfl
def S9 := AH LY 33 (AAf.AF (fun xa xo => Qt xa.1 xa.2.1 xa.2.2.1 xa.2.2.2.1))
theorem Yr : OKs S9 := fn_A S8 Tryz.func33 AF2
def Q7 : AG := ⟨.agg (.val int <| .AI (.sl AR) <| .nil) <| .val int <| .nil, [], .val .bool <| .nil, []⟩
theorem Ys : ∀  xa xo, (Q7.prog (mkC Tryz.prog S9 ⟨false, false⟩ noL noJ) Tryz.f34 xa xo).run = literal  xa.1.1 xa.1.2.1 xa.2.1 := by intros; kernel_rfl
def LZ := AH S9 34 (Q7.AF (fun xa xo => literal xa.1.1 xa.1.2.1 xa.2.1))
theorem TL : OKs LZ := fn_A Yr Tryz.func34 Ys
def DK : AG := ⟨.agg (.val int <| .AI (.sl AR) <| .AI (.sl CL) <| .AI (.sl AU) <| .AI (.sl Et) <| .nil) <| .nil, [], .val .bool <| .nil, []⟩
def ACU (nn : Nat) : Nat -> Option Af := fun n =>
 bif Nat.beq n 4 then some ⟨{ env := [(3, .dat int)], heap := [], keep := [0, 1, 2], AN := [64] }, fun _ => nn⟩ else
 bif Nat.beq n 10 then some ⟨{ env := [(5, .dat int)], heap := [], keep := [0, 1, 2, 3], AN := [64] }, fun _ => nn⟩ else
 bif Nat.beq n 16 then some ⟨{ env := [(7, .dat int)], heap := [], keep := [0, 1, 2, 3, 5], AN := [64] }, fun _ => nn⟩ else
 none
theorem Yt : ∀ (nn : Nat)  xa xo, (DK.prog (mkC Tryz.prog LZ ⟨false, false⟩ (ACU nn) noJ) Tryz.f9 xa xo).run = OI nn xa.1.1 xa.1.2.1 xa.1.2.2.1 xa.1.2.2.2.1 xa.1.2.2.2.2.1 := by intros; kernel_rfl
def La := AH LZ 9 (DK.AF (fun xa xo => Da xa.1.1 xa.1.2.1 xa.1.2.2.1 xa.1.2.2.2.1 xa.1.2.2.2.2.1))
theorem TM : OKs La := fn_A TL Tryz.func9 (Yt AK)
end AL
end
end
section
noncomputable section
set_option linter.unusedVariables false
set_option maxHeartbeats 0
set_option maxRecDepth 100000
namespace AL
open Go Go.Proofs
def MJ : AG := ⟨.agg (.val int <| .AI (.sl AR) <| .AI (.sl CL) <| .AI (.sl AU) <| .AI (.sl Et) <| .nil) <| .nil, [], .own 4 .bool <| .nil, []⟩
def V4 (nn : Nat) : Nat -> Option Af := fun n =>
 bif Nat.beq n 3 then some ⟨{ env := [(13, .dat int)], heap := [(384, .arr 4 Ty.bool)], keep := [0, 1, 2, 3, 11, 12], AN := [64] }, fun _ => nn⟩ else
 none
theorem TN : ∀ (nn : Nat)  xa xo, (MJ.prog (mkC Tryz.prog La ⟨false, false⟩ (V4 nn) noJ) Tryz.f56 xa xo).run = OJ nn xa.1.1 xa.1.2.1 xa.1.2.2.1 xa.1.2.2.2.1 xa.1.2.2.2.2.1 := by intros; kernel_rfl
def MK := AH La 56 (MJ.AF (fun xa xo => Qu xa.1.1 xa.1.2.1 xa.1.2.2.1 xa.1.2.2.2.1 xa.1.2.2.2.2.1))
theorem Cl : OKs MK := fn_A TM Tryz.func56 (TN AK)
end AL
end
end
section
noncomputable section
set_option linter.unusedVariables false
set_option maxHeartbeats 0
set_option maxRecDepth 100000
namespace AL
open Go Go.Proofs
def E3 : AG := ⟨.AI (.sl (.sl int)) <| .val int <| .val (.sl (.sl int)) <| .val (.sl int) <| .nil, [], .val .bool <| .nil, []⟩
abbrev FgC := LLI -> LLI -> Option (Unit × ((LLI × Unit) × (LLI × Unit) × Unit) × Unit)
abbrev FrC := LI -> LLI -> Int -> Option ((Bool × Unit) × ((LLI × Unit) × (Int × Unit) × Unit) × Unit)
def V5 : Code -> Code | .seq a _ => a | c => c
def Oy : Code -> Code | .seq _ b => b | c => c
def AJP : Code -> Array Oper | .region _ ops _ => ops | _ => #[]
def AKz : Code -> Code × Code | .block _ (.rangeFunc _ _ a b) => (a, b) | c => (c, c)
def ckB : Code := Tryz.f105.body.getD .skip
def AIC := AJP (V5 ckB)
def AID := AJP (V5 (V5 (Oy ckB)))
def ckR := Oy (Oy ckB)
def ckA := (AKz (Oy (V5 (Oy ckB)))).1
def AK8 := (AKz (Oy (V5 (Oy ckB)))).2
theorem AIE : Tryz.f105.body = some (.seq (.region 0 AIC false) (.seq (.seq (.region 1 AID false) (.block 0 (.rangeFunc (.tmp 14) #[15, 16] ckA AK8))) ckR)) := by kernel_rfl
def ckT (vg : FgC) (vr : FrC) : FuncId -> Bp := AH (AH (AH (AH noS 170 (KA.AF fun xa xo => vg xo.1.1 xo.2.1.1)) 132 (M5.AF (fun xa xo => grown xa.1 xa.2.1))) 172 (GV.AF (fun xa xo => vr xa.1 xo.1.1 xo.2.1.1))) 134 (Hy.AF (fun xa xo => Mx xa.1 xa.2.1))
def ckC (vg : FgC) (vr : FrC) : Dg := mkC Tryz.prog (ckT vg vr) ⟨false, false⟩ (fun _ => none) (fun _ => none)
def AIF (l : LLI) (vars : Int) (assume : LI) : St := E3.init (l, vars, [], assume, ()) () Tryz.f105.ntmps
def AKM (vg : FgC) (vr : FrC) (l : LLI) (vars : Int) (assume : LI) : St := (Qn (ckC vg vr).cfg AIC (AIF l vars assume)).getD (AIF l vars assume)
def ACV (vg : FgC) (vr : FrC) (l : LLI) (vars : Int) (assume : LI) : St := (Qn (ckC vg vr).cfg AID (AKM vg vr l vars assume)).getD (AIF l vars assume)
theorem Q8 {α : Type} {o : Option α} {d : α} (h : o.isSome = true) : o = some (o.getD d) := by cases o <;> simp at h ⊢
theorem AK0 (vg : FgC) (vr : FrC) (l : LLI) (vars : Int) (assume : LI) : (Qn (ckC vg vr).cfg AIC (AIF l vars assume)).isSome = true := by kernel_rfl
theorem AK1 (vg : FgC) (vr : FrC) (l : LLI) (vars : Int) (assume : LI) : (Qn (ckC vg vr).cfg AID (AKM vg vr l vars assume)).isSome = true := by kernel_rfl
theorem TO (vg : FgC) (vr : FrC) (l : LLI) (vars : Int) (assume : LI) : (ACV vg vr l vars assume).next = 384 := by kernel_rfl
theorem AKN (vg : FgC) (vr : FrC) (l : LLI) (vars : Int) (assume : LI) : (ACV vg vr l vars assume).env 14 = .fn 170 (.cons (.ref 368 0) (.cons (.ref 369 0) .nil)) := by kernel_rfl
theorem AK2 (vg : FgC) (vr : FrC) (l : LLI) (vars : Int) (assume : LI) : (ACV vg vr l vars assume).heap 0 = .none := by kernel_rfl
theorem AKO (vg : FgC) (vr : FrC) (l : LLI) (vars : Int) (assume : LI) : (ckT vg vr 170 (.cons (.opq 384) (.cons (.ref 368 0) (.cons (.ref 369 0) .nil))) 448).run (ACV vg vr l vars assume).heap = (match vg l [] with
 | some y => some ⟨[], .tup .nil, [(368, .box 57 (.cons (.dat (.sl (.sl int)) l) .nil)), (369, .box 57 (.cons (.dat (.sl (.sl int)) []) .nil))]⟩
 | none => none) := by kernel_rfl
theorem AKP (vg : FgC) (vr : FrC) (l : LLI) (vars : Int) (assume : LI) : (BU (ckC vg vr) ckR { (ACV vg vr l vars assume).upd [(368, .box 57 (.cons (.dat (.sl (.sl int)) l) .nil)), (369, .box 57 (.cons (.dat (.sl (.sl int)) []) .nil))] with next := 512 } A3.no (E3.MA Tryz.prog Tryz.f105) E3.oty.den fun y => y).run =
  (gd ((0 + l.length) * 24 <= lim) <|
  gd (0 + l.length <= lim) <|
  gd ((l.length + 0) * 24 <= lim) <|
  gd (l.length + 0 <= lim) <|
  AD (vr assume (l ++ []) vars) fun y =>
  some ((y.1.1, ()), (), ())) := by kernel_rfl
def AK3 := ckT Ck Bj
theorem KB : OKs AK3 :=
 Ac (Ac (Ac (Ac Ny (Ap Cl 170 (S := KA.AF fun xa xo => Ck xo.1.1 xo.2.1.1) (by kernel_rfl))) (Ap Cl 132 (S := M5.AF (fun xa xo => grown xa.1 xa.2.1)) (by kernel_rfl))) (Ap Cl 172 (S := GV.AF (fun xa xo => Bj xa.1 xo.1.1 xo.2.1.1)) (by kernel_rfl))) (Ap Cl 134 (S := Hy.AF (fun xa xo => Mx xa.1 xa.2.1)) (by kernel_rfl))
theorem Yu (l : LLI) (h1 : (0 + l.length) * 24 <= lim) (h2 : 0 + l.length <= lim) : Ck l [] = some ((), ((l, ()), ([], ()), ()), ()) := by
 unfold Ck SI gd
 rw [if_pos h1, if_pos h2]
 rw [show AK = (AK - 1) + 1 from by unfold AK; rfl]
 rfl
theorem Pt : ADc Tryz.prog E3 105 Tryz.f105 (fun xa xo => HO xa.1 xa.2.1 xa.2.2.1 xa.2.2.2.1) := by
 intro xa xo y hy φb owb vs w hbase hsat G hG R hGR
 obtain ⟨l, vars, proof, assume, ⟨⟩⟩ := xa
 cases proof with
 | cons p ps => cases hy
 | nil =>
 have hy' : HO l vars [] assume = some y := hy
 have hend := (AKP Ck Bj l vars assume).trans hy'
 unfold HO at hy'
 obtain ⟨g1, hy'⟩ := Hw.1 hy'
 obtain ⟨g2, hy'⟩ := Hw.1 hy'
 have hgc := Yu l g1 g2
 refine IN Tryz.func105 AIE ?_
 refine wp_seq ?_
 refine Ru (C := (ckC Ck Bj).cfg) KB fol hbase (.region 0 AIC false) (U6 (Q8 (AK0 Ck Bj l vars assume)) (K := fun e st => e = .normal /\ st = AKM Ck Bj l vars assume) ⟨rfl, rfl⟩) hsat ?_
 rintro e st ⟨rfl, rfl⟩ a1 w1 hs1
 refine wp_seq (wp_seq ?_)
 refine Ru (C := (ckC Ck Bj).cfg) KB fol hbase (.region 1 AID false) (U6 (Q8 (AK1 Ck Bj l vars assume)) (K := fun e st => e = .normal /\ st = ACV Ck Bj l vars assume) ⟨rfl, rfl⟩) hs1 ?_
 rintro e st ⟨rfl, rfl⟩ a2 w2 hs2
 refine wp_block ?_
 refine ABL (C := (ckC Ck Bj).cfg) KB hs2 (AKN Ck Bj l vars assume) (res := .tup .nil) (upd := [(368, .box 57 (.cons (.dat (.sl (.sl int)) l) .nil)), (369, .box 57 (.cons (.dat (.sl (.sl int)) []) .nil))]) ?_ ?_ (AK2 Ck Bj l vars assume) ?_
 ·rw [TO]
  exact (AKO Ck Bj l vars assume).trans (by rw [hgc])
 ·rw [TO]
  intro i hi
  simp only [ids, List.map_cons, List.map_nil, List.mem_cons, List.not_mem_nil, or_false] at hi
  omega
 ·intro ow1 w3 hmid hs3
  rw [TO] at hs3
  obtain ⟨_, _, _, hdf, _⟩ := hs2
  exact AHO (C := ckC Ck Bj) KB fol hbase hend hmid hs3 hG hGR
def JM := AH MK 105 (E3.AF (fun xa xo => HO xa.1 xa.2.1 xa.2.2.1 xa.2.2.2.1))
theorem Pu : OKs JM := Ac Cl (Js (B1 Tryz.func105 (by kernel_rfl) (by kernel_rfl)) (by decide) Pt)
def AAg : AG := ⟨.val int <| .val int <| .nil, [], .val int <| .nil, []⟩
theorem AF3 : ∀  xa xo, (AAg.prog (mkC Tryz.prog JM ⟨false, false⟩ noL noJ) Tryz.f108 xa xo).run = AEA  xa.1 xa.2.1 := by intros; kernel_rfl
def TP := AH JM 108 (AAg.AF (fun xa xo => AEA xa.1 xa.2.1))
theorem Yv : OKs TP := fn_A Pu Tryz.func108 AF3
def AAh : AG := ⟨.val int <| .val int <| .nil, [], .val int <| .nil, []⟩
theorem AF4 : ∀  xa xo, (AAh.prog (mkC Tryz.prog TP ⟨false, false⟩ noL noJ) Tryz.f69 xa xo).run = IS  xa.1 xa.2.1 := by intros; kernel_rfl
def TQ := AH TP 69 (AAh.AF (fun xa xo => IS xa.1 xa.2.1))
theorem Yw : OKs TQ := fn_A Yv Tryz.func69 AF4
def Q9 : AG := ⟨.agg (.val int <| .AI (.sl AR) <| .nil) <| .nil, [], .val int <| .nil, []⟩
theorem Yx : ∀  xa xo, (Q9.prog (mkC Tryz.prog TQ ⟨false, false⟩ noL noJ) Tryz.f59 xa xo).run = SN  xa.1.1 xa.1.2.1 := by intros; kernel_rfl
def Lb := AH TQ 59 (Q9.AF (fun xa xo => SN xa.1.1 xa.1.2.1))
theorem TR : OKs Lb := fn_A Yw Tryz.func59 Yx
def KC : AG := ⟨.obj 0 <| .val (.sl int) <| .nil, [(166, .own 43 (.sl int) <| .nil)], .nil, []⟩
theorem Pv : ∀  xa xo, (KC.prog (mkC Tryz.prog Lb ⟨false, false⟩ noL noJ) Tryz.f102 xa xo).run = Dn  xa.1 xo.1.1 := by intros; kernel_rfl
def GW := AH Lb 102 (KC.AF (fun xa xo => Dn xa.1 xo.1.1))
theorem Mj : OKs GW := fn_A TR Tryz.func102 Pv
def KD : AG := ⟨.agg (.val int <| .val (.sl AR) <| .nil) <| .val int <| .nil, [], .own 43 (.sl int) <| .nil, []⟩
def TS (nn : Nat) : Nat -> Option Af := fun n =>
 bif Nat.beq n 5 then some ⟨{ env := [(22, .dat int)], heap := [(192, .box 166 ((ASh.arr 722).cons ASh.nil)), (722, .arr 43 int.sl)], keep := [0, 1, 2, 4, 5, 6, 20, 21], AN := [64] }, fun _ => nn⟩ else
 none
theorem Pw : ∀ (nn : Nat)  xa xo, (KD.prog (mkC Tryz.prog GW ⟨false, false⟩ (TS nn) noJ) Tryz.f60 xa xo).run = MC nn xa.1.1 xa.1.2.1 xa.2.1 := by intros; kernel_rfl
def GX := AH GW 60 (KD.AF (fun xa xo => OK xa.1.1 xa.1.2.1 xa.2.1))
theorem Mk : OKs GX := fn_A Mj Tryz.func60 (Pw AK)
def AAi : AG := ⟨.obj 0 <| .val (.sl int) <| .nil, [(165, .obj 1 <| .skip <| .own 43 (.sl int) <| .nil), (186, .val int <| .By 43 3 int <| .By 43 3 int <| .own 3 int <| .own 3 int <| .own 3 int <| .own 3 int <| .skip <| .skip <| .val int <| .own 3 int <| .own 3 int <| .val int <| .val .bool <| .skip <| .val int <| .own 3 int <| .own 4 .bool <| .nil)], .nil, []⟩
theorem AF5 : ∀  xa xo, (AAi.prog (mkC Tryz.prog GX ⟨false, false⟩ noL noJ) Tryz.f63 xa xo).run = AAG  xa.1 xo.1.1 xo.2.1.1 xo.2.1.2.1 xo.2.1.2.2.1 xo.2.1.2.2.2.1 xo.2.1.2.2.2.2.1 xo.2.1.2.2.2.2.2.1 xo.2.1.2.2.2.2.2.2.1 xo.2.1.2.2.2.2.2.2.2.1 xo.2.1.2.2.2.2.2.2.2.2.1 xo.2.1.2.2.2.2.2.2.2.2.2.1 xo.2.1.2.2.2.2.2.2.2.2.2.2.1 xo.2.1.2.2.2.2.2.2.2.2.2.2.2.1 xo.2.1.2.2.2.2.2.2.2.2.2.2.2.2.1 xo.2.1.2.2.2.2.2.2.2.2.2.2.2.2.2.1 xo.2.1.2.2.2.2.2.2.2.2.2.2.2.2.2.2.1 := by intros; kernel_rfl
def TT := AH GX 63 (AAi.AF (fun xa xo => AAG xa.1 xo.1.1 xo.2.1.1 xo.2.1.2.1 xo.2.1.2.2.1 xo.2.1.2.2.2.1 xo.2.1.2.2.2.2.1 xo.2.1.2.2.2.2.2.1 xo.2.1.2.2.2.2.2.2.1 xo.2.1.2.2.2.2.2.2.2.1 xo.2.1.2.2.2.2.2.2.2.2.1 xo.2.1.2.2.2.2.2.2.2.2.2.1 xo.2.1.2.2.2.2.2.2.2.2.2.2.1 xo.2.1.2.2.2.2.2.2.2.2.2.2.2.1 xo.2.1.2.2.2.2.2.2.2.2.2.2.2.2.1 xo.2.1.2.2.2.2.2.2.2.2.2.2.2.2.2.1 xo.2.1.2.2.2.2.2.2.2.2.2.2.2.2.2.2.1))
theorem Yy : OKs TT := fn_A Mk Tryz.func63 AF5
def Oz : AG := ⟨.val int <| .val (.sl (.sl int)) <| .nil, [], .obj 0 <| .nil, [(165, .obj 1 <| .val int <| .own 43 (.sl int) <| .nil), (186, .val int <| .By 43 3 int <| .By 43 3 int <| .own 3 int <| .own 3 int <| .own 3 int <| .own 3 int <| .own 3 int <| .own 3 int <| .val int <| .own 3 int <| .own 3 int <| .val int <| .val .bool <| .own 43 (.sl int) <| .val int <| .own 3 int <| .own 4 .bool <| .nil)]⟩
def Yz (nn : Nat) : Nat -> Option Af := fun n =>
 bif Nat.beq n 3 then some ⟨{ env := [(15, .dat int)], heap := [(384, .box 165 ((ASh.ref 240 0).cons ((ASh.dat int).cons ((ASh.arr 49).cons ASh.nil)))), (240, .box 186 ((ASh.dat int).cons ((ASh.arr 210).cons ((ASh.arr 211).cons ((ASh.arr 212).cons ((ASh.arr 213).cons ((ASh.arr 214).cons ((ASh.arr 215).cons ((ASh.arr 216).cons ((ASh.arr 217).cons ((ASh.dat int).cons ((ASh.arr 219).cons ((ASh.arr 220).cons ((ASh.dat int).cons ((ASh.dat Ty.bool).cons ((ASh.arr 223).cons ((ASh.dat int).cons ((ASh.arr 225).cons ((ASh.arr 226).cons ASh.nil))))))))))))))))))), (210, .BC 43 3 int []), (211, .BC 43 3 int []), (212, .arr 3 int), (213, .arr 3 int), (214, .arr 3 int), (215, .arr 3 int), (219, .arr 3 int), (220, .arr 3 int), (225, .arr 3 int), (226, .arr 4 Ty.bool), (49, .arr 43 int.sl)], keep := [0, 1, 5, 13, 14], AN := [216, 217, 223] }, fun _ => nn⟩ else
 none
theorem V6 : ∀ (nn : Nat)  xa xo, (Oz.prog (mkC Tryz.prog TT ⟨false, false⟩ (Yz nn) noJ) Tryz.f58 xa xo).run = Qv nn xa.1 xa.2.1 := by intros; kernel_rfl
def JN := AH TT 58 (Oz.AF (fun xa xo => VE xa.1 xa.2.1))
theorem Px : OKs JN := fn_A Yy Tryz.func58 (V6 AK)
def RA : AG := ⟨.obj 0 <| .val (.sl int) <| .nil, [(165, .obj 1 <| .val int <| .own 43 (.sl int) <| .nil), (186, .val int <| .By 43 3 int <| .By 43 3 int <| .own 3 int <| .own 3 int <| .own 3 int <| .own 3 int <| .own 3 int <| .own 3 int <| .val int <| .own 3 int <| .own 3 int <| .val int <| .val .bool <| .own 43 (.sl int) <| .val int <| .own 3 int <| .own 4 .bool <| .nil)], .val .bool <| .nil, []⟩
theorem Y0 : ∀  xa xo, (RA.prog (mkC Tryz.prog JN ⟨false, false⟩ noL noJ) Tryz.f68 xa xo).run = Mz  xa.1 xo.1.1 xo.1.2.1 xo.2.1.1 xo.2.1.2.1 xo.2.1.2.2.1 xo.2.1.2.2.2.1 xo.2.1.2.2.2.2.1 xo.2.1.2.2.2.2.2.1 xo.2.1.2.2.2.2.2.2.1 xo.2.1.2.2.2.2.2.2.2.1 xo.2.1.2.2.2.2.2.2.2.2.1 xo.2.1.2.2.2.2.2.2.2.2.2.1 xo.2.1.2.2.2.2.2.2.2.2.2.2.1 xo.2.1.2.2.2.2.2.2.2.2.2.2.2.1 xo.2.1.2.2.2.2.2.2.2.2.2.2.2.2.1 xo.2.1.2.2.2.2.2.2.2.2.2.2.2.2.2.1 xo.2.1.2.2.2.2.2.2.2.2.2.2.2.2.2.2.1 xo.2.1.2.2.2.2.2.2.2.2.2.2.2.2.2.2.2.1 xo.2.1.2.2.2.2.2.2.2.2.2.2.2.2.2.2.2.2.1 xo.2.1.2.2.2.2.2.2.2.2.2.2.2.2.2.2.2.2.2.1 := by intros; kernel_rfl
def Lc := AH JN 68 (RA.AF (fun xa xo => Mz xa.1 xo.1.1 xo.1.2.1 xo.2.1.1 xo.2.1.2.1 xo.2.1.2.2.1 xo.2.1.2.2.2.1 xo.2.1.2.2.2.2.1 xo.2.1.2.2.2.2.2.1 xo.2.1.2.2.2.2.2.2.1 xo.2.1.2.2.2.2.2.2.2.1 xo.2.1.2.2.2.2.2.2.2.2.1 xo.2.1.2.2.2.2.2.2.2.2.2.1 xo.2.1.2.2.2.2.2.2.2.2.2.2.1 xo.2.1.2.2.2.2.2.2.2.2.2.2.2.1 xo.2.1.2.2.2.2.2.2.2.2.2.2.2.2.1 xo.2.1.2.2.2.2.2.2.2.2.2.2.2.2.2.1 xo.2.1.2.2.2.2.2.2.2.2.2.2.2.2.2.2.1 xo.2.1.2.2.2.2.2.2.2.2.2.2.2.2.2.2.2.1 xo.2.1.2.2.2.2.2.2.2.2.2.2.2.2.2.2.2.2.1 xo.2.1.2.2.2.2.2.2.2.2.2.2.2.2.2.2.2.2.2.1))
theorem TU : OKs Lc := fn_A Px Tryz.func68 Y0
def AF6 : AG := ⟨.agg (.val int <| .AI (.sl AR) <| .AI (.sl CL) <| .AI (.sl AU) <| .AI (.sl Et) <| .nil) <| .val int <| .nil, [], .val int <| .nil, []⟩
theorem AIH : ∀  xa xo, (AF6.prog (mkC Tryz.prog Lc ⟨false, false⟩ noL noJ) Tryz.f70 xa xo).run = AJr  xa.1.1 xa.1.2.1 xa.1.2.2.1 xa.1.2.2.2.1 xa.1.2.2.2.2.1 xa.2.1 := by intros; kernel_rfl
def Y1 := AH Lc 70 (AF6.AF (fun xa xo => AJr xa.1.1 xa.1.2.1 xa.1.2.2.1 xa.1.2.2.2.1 xa.1.2.2.2.2.1 xa.2.1))
theorem ACW : OKs Y1 := fn_A TU Tryz.func70 AIH
def V7 : AG := ⟨.agg (.val int <| .AI (.sl AR) <| .AI (.sl CL) <| .AI (.sl AU) <| .AI (.sl Et) <| .nil) <| .nil, [], .own 3 int <| .nil, []⟩
def AF7 (nn : Nat) : Nat -> Option Af := fun n =>
 bif Nat.beq n 3 then some ⟨{ env := [(3, .arr 49), (9, .dat int)], heap := [(49, .arr 3 int)], keep := [0, 1, 2, 7, 8], AN := [64] }, fun _ => nn⟩ else
 none
theorem ACX : ∀ (nn : Nat)  xa xo, (V7.prog (mkC Tryz.prog Y1 ⟨false, false⟩ (AF7 nn) noJ) Tryz.f65 xa xo).run = AAH nn xa.1.1 xa.1.2.1 xa.1.2.2.1 xa.1.2.2.2.1 xa.1.2.2.2.2.1 := by intros; kernel_rfl
def O0 := AH Y1 65 (V7.AF (fun xa xo => AEB xa.1.1 xa.1.2.1 xa.1.2.2.1 xa.1.2.2.2.1 xa.1.2.2.2.2.1))
theorem V8 : OKs O0 := fn_A ACW Tryz.func65 (ACX AK)
def V9 : AG := ⟨.val int <| .obj 0 <| .nil, [(53, .AI (.sl .bool) <| .nil)], .val .bool <| .nil, []⟩
theorem ACY : ∀  xa xo, (V9.prog (mkC Tryz.prog O0 ⟨false, false⟩ noL noJ) Tryz.f100 xa xo).run = Xf  xa.1 xo.1.1 := by intros; kernel_rfl
def O1 := AH O0 100 (V9.AF (fun xa xo => Xf xa.1 xo.1.1))
theorem WA : OKs O1 := fn_A V8 Tryz.func100 ACY
def FG : AG := ⟨.AI (.sl int) <| .clo 100 (.obj 0 <| .nil) <| .nil, [(53, .AI (.sl .bool) <| .nil)], .val int <| .nil, []⟩
def KE (nn : Nat) : Nat -> Option Af := fun n =>
 bif Nat.beq n 2 then some ⟨{ env := [(8, .dat int)], heap := [(1, .box 53 ((ASh.idn 18 Ty.bool.sl).cons ASh.nil))], keep := [0, 1, 4, 7], AN := [] }, fun _ => nn⟩ else
 none
theorem JO : ∀ (nn : Nat)  xa xo, (FG.prog (mkC Tryz.prog O1 ⟨false, false⟩ (KE nn) noJ) Tryz.f95 xa xo).run = Fm nn xa.1 xo.1.1 := by intros; kernel_rfl
def Dc := AH O1 95 (FG.AF (fun xa xo => Ge xa.1 xo.1.1))
theorem HU : OKs Dc := fn_A WA Tryz.func95 (JO AK)
def D8 : AG := ⟨.AI (.sl int) <| .clo 100 (.obj 0 <| .nil) <| .nil, [(53, .AI (.sl .bool) <| .nil)], .val .bool <| .nil, []⟩
theorem Gl : ∀  xa xo, (D8.prog (mkC Tryz.prog Dc ⟨false, false⟩ noL noJ) Tryz.f45 xa xo).run = C8  xa.1 xo.1.1 := by intros; kernel_rfl
def Cm := AH Dc 45 (D8.AF (fun xa xo => C8 xa.1 xo.1.1))
theorem Fq : OKs Cm := fn_A HU Tryz.func45 Gl
def AAj : AG := ⟨.AI (.sl int) <| .AI (.sl .bool) <| .nil, [], .val .bool <| .nil, []⟩
theorem AF8 : ∀  xa xo, (AAj.prog (mkC Tryz.prog Cm ⟨false, false⟩ noL noJ) Tryz.f57 xa xo).run = meets  xa.1 xa.2.1 := by intros; kernel_rfl
def TV := AH Cm 57 (AAj.AF (fun xa xo => meets xa.1 xa.2.1))
theorem Y2 : OKs TV := fn_A Fq Tryz.func57 AF8
def AF9 : AG := ⟨.agg (.val int <| .val int <| .val .bool <| .val int <| .val int <| .nil) <| .nil, [], .val int <| .nil, []⟩
theorem AII : ∀  xa xo, (AF9.prog (mkC Tryz.prog TV ⟨false, false⟩ noL noJ) Tryz.f62 xa xo).run = AJs  xa.1.1 xa.1.2.1 xa.1.2.2.1 xa.1.2.2.2.1 xa.1.2.2.2.2.1 := by intros; kernel_rfl
def Y3 := AH TV 62 (AF9.AF (fun xa xo => AJs xa.1.1 xa.1.2.1 xa.1.2.2.1 xa.1.2.2.2.1 xa.1.2.2.2.2.1))
theorem ACZ : OKs Y3 := fn_A Y2 Tryz.func62 AII
def AAk : AG := ⟨.agg (.val int <| .val int <| .val .bool <| .val int <| .val int <| .nil) <| .nil, [], .val int <| .nil, []⟩
theorem AGA : ∀  xa xo, (AAk.prog (mkC Tryz.prog Y3 ⟨false, false⟩ noL noJ) Tryz.f67 xa xo).run = AEC  xa.1.1 xa.1.2.1 xa.1.2.2.1 xa.1.2.2.2.1 xa.1.2.2.2.2.1 := by intros; kernel_rfl
def TW := AH Y3 67 (AAk.AF (fun xa xo => AEC xa.1.1 xa.1.2.1 xa.1.2.2.1 xa.1.2.2.2.1 xa.1.2.2.2.2.1))
theorem Y4 : OKs TW := fn_A ACZ Tryz.func67 AGA
def KF : AG := ⟨.agg (.val int <| .AI (.sl AR) <| .AI (.sl CL) <| .AI (.sl AU) <| .AI (.sl Et) <| .nil) <| .val int <| .clo 62 (.nil) <| .nil, [], .val int <| .nil, []⟩
theorem ACa : ∀  xa xo, (KF.prog (mkC Tryz.prog TW ⟨false, false⟩ noL noJ) Tryz.f61 xa xo).run = OL  xa.1.1 xa.1.2.1 xa.1.2.2.1 xa.1.2.2.2.1 xa.1.2.2.2.2.1 xa.2.1 := by intros; kernel_rfl
def O2 := AH TW 61 (KF.AF (fun xa xo => OL xa.1.1 xa.1.2.1 xa.1.2.2.1 xa.1.2.2.2.1 xa.1.2.2.2.2.1 xa.2.1))
theorem ML : OKs O2 := fn_A Y4 Tryz.func61 ACa
def Hz : AG := ⟨.agg (.val int <| .AI (.sl AR) <| .AI (.sl CL) <| .AI (.sl AU) <| .AI (.sl Et) <| .nil) <| .val int <| .clo 67 (.nil) <| .nil, [], .val int <| .nil, []⟩
theorem Y5 : ∀  xa xo, (Hz.prog (mkC Tryz.prog O2 ⟨false, false⟩ noL noJ) Tryz.f61 xa xo).run = J0  xa.1.1 xa.1.2.1 xa.1.2.2.1 xa.1.2.2.2.1 xa.1.2.2.2.2.1 xa.2.1 := by intros; kernel_rfl
def RB := AH O2 61 (Hz.AF (fun xa xo => J0 xa.1.1 xa.1.2.1 xa.1.2.2.1 xa.1.2.2.2.1 xa.1.2.2.2.2.1 xa.2.1))
theorem KG : OKs RB := fn_A ML Tryz.func61 Y5
def O3 := AH RB 61 (AJg 62 (KF.AF (fun xa xo => OL xa.1.1 xa.1.2.1 xa.1.2.2.1 xa.1.2.2.2.1 xa.1.2.2.2.2.1 xa.2.1)) (Hz.AF (fun xa xo => J0 xa.1.1 xa.1.2.1 xa.1.2.2.1 xa.1.2.2.2.1 xa.1.2.2.2.2.1 xa.2.1)))
theorem WB : OKs O3 := Ac KG (AHN (Ap ML 61 (S := (KF.AF (fun xa xo => OL xa.1.1 xa.1.2.1 xa.1.2.2.1 xa.1.2.2.2.1 xa.1.2.2.2.2.1 xa.2.1))) (by kernel_rfl)) (Ap KG 61 (S := (Hz.AF (fun xa xo => J0 xa.1.1 xa.1.2.1 xa.1.2.2.1 xa.1.2.2.2.1 xa.1.2.2.2.2.1 xa.2.1))) (by kernel_rfl)))
def AAl : AG := ⟨.AI (.sl int) <| .nil, [], .own 3 int <| .nil, []⟩
def AIJ (nn : Nat) : Nat -> Option Af := fun n =>
 bif Nat.beq n 3 then some ⟨{ env := [(3, .arr 49), (8, .dat int)], heap := [(49, .arr 3 int)], keep := [0, 2, 6, 7], AN := [] }, fun _ => nn⟩ else
 none
theorem AGB : ∀ (nn : Nat)  xa xo, (AAl.prog (mkC Tryz.prog O3 ⟨false, false⟩ (AIJ nn) noJ) Tryz.f64 xa xo).run = AED nn xa.1 := by intros; kernel_rfl
def TX := AH O3 64 (AAl.AF (fun xa xo => AI4 xa.1))
theorem Y6 : OKs TX := fn_A WB Tryz.func64 (AGB AK)
def O4 : AG := ⟨.agg (.val int <| .val (.sl AR) <| .val (.sl CL) <| .val (.sl AU) <| .val (.sl Et) <| .nil) <| .val int <| .val (.sl (.sl int)) <| .nil, [], .val int <| .nil, []⟩
def AKQ (nn : Nat) : Nat -> Option Af := fun n =>
 bif Nat.beq n 4 then some ⟨{ env := [(8, .dat int), (29, .dat int)], heap := [], keep := [0, 1, 2, 3, 6, 7, 27, 28], AN := [64, 256] }, fun _ => nn⟩ else
 bif Nat.beq n 7 then some ⟨{ env := [(35, .dat int)], heap := [], keep := [0, 1, 2, 3, 6, 7, 8, 10, 27, 28, 29, 33, 34], AN := [64, 256] }, fun _ => nn⟩ else
 bif Nat.beq n 19 then some ⟨{ env := [(74, .dat int)], heap := [(1264, .box 165 ((ASh.ref 1265 0).cons ((ASh.dat int).cons ((ASh.arr 1236).cons ASh.nil)))), (1265, .box 186 ((ASh.dat int).cons ((ASh.arr 1238).cons ((ASh.arr 1239).cons ((ASh.arr 1240).cons ((ASh.arr 1241).cons ((ASh.arr 1242).cons ((ASh.arr 1243).cons ((ASh.arr 1244).cons ((ASh.arr 1245).cons ((ASh.dat int).cons ((ASh.arr 1247).cons ((ASh.arr 1248).cons ((ASh.dat int).cons ((ASh.dat Ty.bool).cons ((ASh.arr 1251).cons ((ASh.dat int).cons ((ASh.arr 1253).cons ((ASh.arr 1254).cons ASh.nil))))))))))))))))))), (1238, .BC 43 3 int []), (1239, .BC 43 3 int []), (1240, .arr 3 int), (1241, .arr 3 int), (1242, .arr 3 int), (1243, .arr 3 int), (1247, .arr 3 int), (1248, .arr 3 int), (1253, .arr 3 int), (1254, .arr 4 Ty.bool), (1236, .arr 43 int.sl)], keep := [0, 1, 2, 3, 6, 7, 8, 13, 27, 28, 29, 72, 73], AN := [64, 256, 1244, 1245, 1251] }, fun _ => nn⟩ else
 bif Nat.beq n 23 then some ⟨{ env := [(16, .arr 50), (80, .dat int)], heap := [(50, .arr 3 int)], keep := [0, 1, 2, 3, 6, 7, 8, 13, 15, 27, 28, 29, 72, 73, 74, 78, 79], AN := [64, 256, 1264, 1265, 1238, 1239, 1240, 1241, 1242, 1243, 1244, 1245, 1247, 1248, 1251, 1253, 1254, 1236] }, fun _ => nn⟩ else
 bif Nat.beq n 31 then some ⟨{ env := [(100, .dat int)], heap := [(1264, .box 165 ((ASh.ref 1265 0).cons ((ASh.dat int).cons ((ASh.arr 1236).cons ASh.nil)))), (1265, .box 186 ((ASh.dat int).cons ((ASh.arr 1238).cons ((ASh.arr 1239).cons ((ASh.arr 1240).cons ((ASh.arr 1241).cons ((ASh.arr 1242).cons ((ASh.arr 1243).cons ((ASh.arr 1244).cons ((ASh.arr 1245).cons ((ASh.dat int).cons ((ASh.arr 1247).cons ((ASh.arr 1248).cons ((ASh.dat int).cons ((ASh.dat Ty.bool).cons ((ASh.arr 1251).cons ((ASh.dat int).cons ((ASh.arr 1253).cons ((ASh.arr 1254).cons ASh.nil))))))))))))))))))), (1238, .BC 43 3 int []), (1239, .BC 43 3 int []), (1240, .arr 3 int), (1241, .arr 3 int), (1242, .arr 3 int), (1243, .arr 3 int), (1244, .arr 3 int), (1245, .arr 3 int), (1247, .arr 3 int), (1248, .arr 3 int), (1251, .arr 43 int.sl), (1253, .arr 3 int), (1254, .arr 4 Ty.bool), (1236, .arr 43 int.sl)], keep := [0, 1, 2, 3, 6, 7, 8, 13, 19, 27, 28, 29, 72, 73, 74, 98, 99], AN := [64, 256, 1728] }, fun _ => nn⟩ else
 bif Nat.beq n 35 then some ⟨{ env := [(22, .arr 2368), (108, .dat int)], heap := [(2368, .arr 3 int), (2368, .arr 3 int)], keep := [0, 1, 2, 3, 6, 7, 8, 13, 19, 21, 27, 28, 29, 72, 73, 74, 98, 99, 100, 106, 107], AN := [64, 256, 1264, 1265, 1238, 1239, 1240, 1241, 1242, 1243, 1244, 1245, 1247, 1248, 1251, 1253, 1254, 1236, 1728] }, fun _ => nn⟩ else
 none
theorem AIK : ∀ (nn : Nat)  xa xo, (O4.prog (mkC Tryz.prog TX ⟨false, false⟩ (AKQ nn) noJ) Tryz.f23 xa xo).run = AI5 nn xa.1.1 xa.1.2.1 xa.1.2.2.1 xa.1.2.2.2.1 xa.1.2.2.2.2.1 xa.2.1 xa.2.2.1 := by intros; kernel_rfl
def AGC := AH TX 23 (O4.AF (fun xa xo => AEE xa.1.1 xa.1.2.1 xa.1.2.2.1 xa.1.2.2.2.1 xa.1.2.2.2.2.1 xa.2.1 xa.2.2.1))
theorem ACb : OKs AGC := fn_A Y6 Tryz.func23 (AIK AK)
end AL
end
end
section
noncomputable section
set_option linter.unusedVariables false
set_option maxHeartbeats 0
set_option maxRecDepth 100000
namespace AL
open Go Go.Proofs
def MM := AH AGC 40 I5
theorem O5 : OKs MM := Ac ACb (Ph AGD rfl (B1 Tryz.func40 (by kernel_rfl) (by kernel_rfl)))
def MN := AH MM 88 I6
theorem O6 : OKs MN := Ac O5 (Pj AGI rfl (B1 Tryz.func88 (by kernel_rfl) (by kernel_rfl)))
def KI := AH MN 90 HL
theorem Ml : OKs KI := Ac O6 (N0 AGJ rfl (B1 Tryz.func90 (by kernel_rfl) (by kernel_rfl)))
def AGL := AH KI 84 ADl
theorem ACd : OKs AGL := Ac Ml (ADm AGE rfl (B1 Tryz.func84 (by kernel_rfl) (by kernel_rfl)))
def IT := AH AGL 113 GL
theorem Ld : OKs IT := Ac ACd (Mf AGH (by kernel_rfl) rfl (B1 Tryz.func113 (by kernel_rfl) (by kernel_rfl)))
def AAm := AH IT 85 (ADn 0 9)
theorem Y7 : OKs AAm := Ac Ld (ABP AGF (by kernel_rfl) rfl rfl rfl (B1 Tryz.func85 (by kernel_rfl) (by kernel_rfl)))
def AGM := AH AAm 41 ADo
theorem ACe : OKs AGM := Ac Y7 (ADp AGG ACc rfl (B1 Tryz.func41 (by kernel_rfl) (by kernel_rfl)))
def Y8 := AH AGM 120 ADr
theorem ACf : OKs Y8 := Ac ACe (ADs AGK rfl (B1 Tryz.func120 (by kernel_rfl) (by kernel_rfl)))
def RC : AG := ⟨.agg (.val .str <| .val int <| .nil) <| .nil, [], .val .str <| .nil, []⟩
theorem Y9 : ∀  xa xo, (RC.prog (mkC Tryz.prog Y8 ⟨false, false⟩ noL noJ) Tryz.f81 xa xo).run = M0  xa.1.1 xa.1.2.1 := by intros; kernel_rfl
def Le := AH Y8 81 (RC.AF (fun xa xo => M0 xa.1.1 xa.1.2.1))
theorem Tf : OKs Le := fn_A ACf Tryz.func81 Y9
def O7 : AG := ⟨.agg (.val .str <| .val int <| .val int <| .val int <| .nil) <| .nil, [], .val .str <| .nil, []⟩
theorem WC : ∀  xa xo, (O7.prog (mkC Tryz.prog Le ⟨false, false⟩ noL noJ) Tryz.f83 xa xo).run = J1  xa.1.1 xa.1.2.1 xa.1.2.2.1 xa.1.2.2.2.1 := by intros; kernel_rfl
def JP := AH Le 83 (O7.AF (fun xa xo => J1 xa.1.1 xa.1.2.1 xa.1.2.2.1 xa.1.2.2.2.1))
theorem Py : OKs JP := fn_A Tf Tryz.func83 WC
def RD : AG := ⟨.AI (.sl Ar) <| .clo 81 (.nil) <| .nil, [], .val .bool <| .nil, []⟩
def ACg (nn : Nat) : Nat -> Option Af := fun n =>
 bif Nat.beq n 3 then some ⟨{ env := [(12, .dat int)], heap := [(128, .mp Ty.str int)], keep := [0, 1, 4, 5, 10, 11], AN := [] }, fun _ => nn⟩ else
 none
theorem ZA : ∀ (nn : Nat)  xa xo, (RD.prog (mkC Tryz.prog JP ⟨false, false⟩ (ACg nn) noJ) Tryz.f80 xa xo).run = OM nn xa.1 := by intros; kernel_rfl
def Lf := AH JP 80 (RD.AF (fun xa xo => M3 xa.1))
theorem Tg : OKs Lf := fn_A Py Tryz.func80 (ZA AK)
def RE : AG := ⟨.AI (.sl AW) <| .clo 83 (.nil) <| .nil, [], .val .bool <| .nil, []⟩
def ACh (nn : Nat) : Nat -> Option Af := fun n =>
 bif Nat.beq n 3 then some ⟨{ env := [(12, .dat int)], heap := [(128, .mp Ty.str int)], keep := [0, 1, 4, 5, 10, 11], AN := [] }, fun _ => nn⟩ else
 none
theorem ZB : ∀ (nn : Nat)  xa xo, (RE.prog (mkC Tryz.prog Lf ⟨false, false⟩ (ACh nn) noJ) Tryz.f82 xa xo).run = ON nn xa.1 := by intros; kernel_rfl
def Lg := AH Lf 82 (RE.AF (fun xa xo => M4 xa.1))
theorem Th : OKs Lg := fn_A Tg Tryz.func82 (ZB AK)
def WD : AG := ⟨.agg (.AI (.sl AB) <| .AI (.sl Ar) <| .AI (.sl AW) <| .AI (.sl Ax) <| .AI (.sl Ar) <| .nil) <| .nil, [], .val .bool <| .nil, []⟩
theorem ACi : ∀  xa xo, (WD.prog (mkC Tryz.prog Lg ⟨false, false⟩ noL noJ) Tryz.f35 xa xo).run = JB  xa.1.1 xa.1.2.1 xa.1.2.2.1 xa.1.2.2.2.1 xa.1.2.2.2.2.1 := by intros; kernel_rfl
def O8 := AH Lg 35 (WD.AF (fun xa xo => JB xa.1.1 xa.1.2.1 xa.1.2.2.1 xa.1.2.2.2.1 xa.1.2.2.2.2.1))
theorem WE : OKs O8 := fn_A Th Tryz.func35 ACi
def AGN : AG := ⟨.agg (.AI (.sl AB) <| .AI (.sl Ar) <| .AI (.sl AW) <| .AI (.sl Ax) <| .AI (.sl Ar) <| .nil) <| .agg (.val int <| .val int <| .val .bool <| .val int <| .val int <| .nil) <| .nil, [], .val .str <| .nil, []⟩
theorem AIL : ∀  xa xo, (AGN.prog (mkC Tryz.prog O8 ⟨false, false⟩ noL noJ) Tryz.f37 xa xo).run = ABS  xa.1.1 xa.1.2.1 xa.1.2.2.1 xa.1.2.2.2.1 xa.1.2.2.2.2.1 xa.2.1.1 xa.2.1.2.1 xa.2.1.2.2.1 xa.2.1.2.2.2.1 xa.2.1.2.2.2.2.1 := by intros; kernel_rfl
def ZC := AH O8 37 (AGN.AF (fun xa xo => ABS xa.1.1 xa.1.2.1 xa.1.2.2.1 xa.1.2.2.2.1 xa.1.2.2.2.2.1 xa.2.1.1 xa.2.1.2.1 xa.2.1.2.2.1 xa.2.1.2.2.2.1 xa.2.1.2.2.2.2.1))
theorem ACj : OKs ZC := fn_A WE Tryz.func37 AIL
def AAn : AG := ⟨.val int <| .val .str <| .obj 0 <| .nil, [(93, .AI (.CE .str int) <| .nil)], .val int <| .val .bool <| .nil, []⟩
theorem AGO : ∀  xa xo, (AAn.prog (mkC Tryz.prog ZC ⟨false, false⟩ noL noJ) Tryz.f39 xa xo).run = VF  xa.1 xa.2.1 xo.1.1 := by intros; kernel_rfl
def Ti := AH ZC 39 (AAn.AF (fun xa xo => VF xa.1 xa.2.1 xo.1.1))
theorem O9 : OKs Ti := fn_A ACj Tryz.func39 AGO
def AAo : AG := ⟨.val .str <| .val .str <| .clo 39 (.obj 0 <| .nil) <| .nil, [(93, .AI (.CE .str int) <| .nil)], .own 3 int <| .val .bool <| .nil, []⟩
def AIM (nn : Nat) : Nat -> Option Af := fun n =>
 bif Nat.beq n 3 then some ⟨{ env := [(8, .arr 49), (17, .dat int)], heap := [(1, .box 93 ((ASh.idn 19 (Ty.str.CE int)).cons ASh.nil)), (49, .arr 3 int)], keep := [0, 1, 2, 6, 7, 15, 16], AN := [384, 15] }, fun _ => nn⟩ else
 none
theorem AGP : ∀ (nn : Nat)  xa xo, (AAo.IP 0 (mkC Tryz.prog Ti ⟨false, false⟩ (AIM nn) noJ) Tryz.f38 xa xo).run = Xg nn xa.1 xa.2.1 xo.1.1 := by intros; kernel_rfl
def Tj := AH Ti 38 (DW 0 (AAo.AF (fun xa xo => AAI xa.1 xa.2.1 xo.1.1)))
theorem PA : OKs Tj := HH O9 O9 fol Tryz.func38 (by kernel_rfl) (by kernel_rfl) 0 (by kernel_rfl) (AGP AK)
def FH : AG := ⟨.agg (.val (.sl AB) <| .val (.sl Ar) <| .val (.sl AW) <| .val (.sl Ax) <| .val (.sl Ar) <| .nil) <| .agg (.val int <| .val (.sl AR) <| .val (.sl CL) <| .val (.sl AU) <| .val (.sl Et) <| .nil) <| .val .str <| .nil, [], .val (.sl int) <| .val .bool <| .nil, []⟩
def AIN (nn : Nat) : Nat -> Option Af := fun n =>
 bif Nat.beq n 7 then some ⟨{ env := [(26, .dat int)], heap := [(1024, .mp Ty.str int)], keep := [0, 1, 2, 3, 4, 6, 7, 8, 24, 25], AN := [64, 128, 1088, 15] }, fun _ => nn⟩ else
 none
theorem AGQ : ∀ (nn : Nat)  xa xo, (FH.IP 0 (mkC Tryz.prog Tj ⟨false, false⟩ (AIN nn) noJ) Tryz.f10 xa xo).run = Xh nn xa.1.1 xa.1.2.1 xa.1.2.2.1 xa.1.2.2.2.1 xa.1.2.2.2.2.1 xa.2.1.1 xa.2.1.2.1 xa.2.1.2.2.1 xa.2.1.2.2.2.1 xa.2.1.2.2.2.2.1 xa.2.2.1 := by intros; kernel_rfl
def Tk := AH Tj 10 (DW 0 (FH.AF (fun xa xo => HP xa.1.1 xa.1.2.1 xa.1.2.2.1 xa.1.2.2.2.1 xa.1.2.2.2.2.1 xa.2.1.1 xa.2.1.2.1 xa.2.1.2.2.1 xa.2.1.2.2.2.1 xa.2.1.2.2.2.2.1 xa.2.2.1)))
theorem ZD : OKs Tk := HH PA PA fol Tryz.func10 (by kernel_rfl) (by kernel_rfl) 0 (by kernel_rfl) (AGQ AK)
def Fs : AG := ⟨.agg (.AI (.sl AB) <| .AI (.sl Ar) <| .AI (.sl AW) <| .AI (.sl Ax) <| .AI (.sl Ar) <| .nil) <| .agg (.val int <| .AI (.sl AR) <| .AI (.sl CL) <| .AI (.sl AU) <| .AI (.sl Et) <| .nil) <| .AI (.sl int) <| .nil, [], .val .str <| .nil, []⟩
def ACk (nn : Nat) : Nat -> Option Af := fun n =>
 bif Nat.beq n 7 then some ⟨{ env := [(7, .arr 49), (26, .dat int)], heap := [(49, .arr 9 Ty.str)], keep := [0, 1, 2, 3, 4, 6, 24, 25], AN := [64, 128] }, fun _ => nn⟩ else
 none
theorem ZE : ∀ (nn : Nat)  xa xo, (Fs.prog (mkC Tryz.prog Tk ⟨false, false⟩ (ACk nn) noJ) Tryz.f11 xa xo).run = OO nn xa.1.1 xa.1.2.1 xa.1.2.2.1 xa.1.2.2.2.1 xa.1.2.2.2.2.1 xa.2.1.1 xa.2.1.2.1 xa.2.1.2.2.1 xa.2.1.2.2.2.1 xa.2.1.2.2.2.2.1 xa.2.2.1 := by intros; kernel_rfl
def Lh := AH Tk 11 (Fs.AF (fun xa xo => GQ xa.1.1 xa.1.2.1 xa.1.2.2.1 xa.1.2.2.2.1 xa.1.2.2.2.2.1 xa.2.1.1 xa.2.1.2.1 xa.2.1.2.2.1 xa.2.1.2.2.2.1 xa.2.1.2.2.2.2.1 xa.2.2.1))
theorem Tl : OKs Lh := fn_A ZD Tryz.func11 (ZE AK)
end AL
end
end
section
noncomputable section
set_option linter.unusedVariables false
set_option maxHeartbeats 0
set_option maxRecDepth 100000
namespace AL
open Go Go.Proofs
def RF : AG := ⟨.val .str <| .nil, [], .val int <| .val .bool <| .nil, []⟩
theorem ZF : ∀  xa xo, (RF.prog (mkC Tryz.prog Lh ⟨false, false⟩ noL noJ) Tryz.f93 xa xo).run = SO  xa.1 := by intros; kernel_rfl
def Li := AH Lh 93 (RF.AF (fun xa xo => SO xa.1))
theorem Tm : OKs Li := fn_A Tl Tryz.func93 ZF
def WG : AG := ⟨.val int <| .val .str <| .obj 0 <| .nil, [(27, .AI (.sl AB) <| .AI (.sl Ar) <| .AI (.sl AW) <| .AI (.sl Ax) <| .AI (.sl Ar) <| .nil)], .val int <| .val .bool <| .nil, []⟩
theorem ACl : ∀  xa xo, (WG.prog (mkC Tryz.prog Li ⟨false, false⟩ noL noJ) Tryz.f92 xa xo).run = Xi  xa.1 xa.2.1 xo.1.1 xo.1.2.1 xo.1.2.2.1 xo.1.2.2.2.1 xo.1.2.2.2.2.1 := by intros; kernel_rfl
def PB := AH Li 92 (WG.AF (fun xa xo => Xi xa.1 xa.2.1 xo.1.1 xo.1.2.1 xo.1.2.2.1 xo.1.2.2.2.1 xo.1.2.2.2.2.1))
theorem MO : OKs PB := fn_A Tm Tryz.func92 ACl
def AAp : AG := ⟨.val .str <| .val .str <| .clo 92 (.obj 0 <| .nil) <| .nil, [(27, .AI (.sl AB) <| .AI (.sl Ar) <| .AI (.sl AW) <| .AI (.sl Ax) <| .AI (.sl Ar) <| .nil)], .own 3 int <| .val .bool <| .nil, []⟩
def AIO (nn : Nat) : Nat -> Option Af := fun n =>
 bif Nat.beq n 3 then some ⟨{ env := [(8, .arr 49), (17, .dat int)], heap := [(1, .box 27 ((ASh.idn 19 (int.pair (int.pair (int.pair (int.pair (int.pair (int.pair (int.pair Ty.unit))))))).sl).cons ((ASh.idn 20 (Ty.str.pair (int.pair Ty.unit)).sl).cons ((ASh.idn 21 (Ty.str.pair (int.pair (int.pair (int.pair Ty.unit)))).sl).cons ((ASh.idn 22 (int.pair (Ty.str.pair (int.pair Ty.unit))).sl).cons ((ASh.idn 23 (Ty.str.pair (int.pair Ty.unit)).sl).cons ASh.nil)))))), (49, .arr 3 int)], keep := [0, 1, 2, 6, 7, 15, 16], AN := [384, 15] }, fun _ => nn⟩ else
 none
theorem AGR : ∀ (nn : Nat)  xa xo, (AAp.IP 0 (mkC Tryz.prog PB ⟨false, false⟩ (AIO nn) noJ) Tryz.f38 xa xo).run = AEF nn xa.1 xa.2.1 xo.1.1 xo.1.2.1 xo.1.2.2.1 xo.1.2.2.2.1 xo.1.2.2.2.2.1 := by intros; kernel_rfl
def Tn := AH PB 38 (DW 0 (AAp.AF (fun xa xo => AI6 xa.1 xa.2.1 xo.1.1 xo.1.2.1 xo.1.2.2.1 xo.1.2.2.2.1 xo.1.2.2.2.2.1)))
theorem PC : OKs Tn := HH MO MO fol Tryz.func38 (by kernel_rfl) (by kernel_rfl) 0 (by kernel_rfl) (AGR AK)
def AAq : AG := ⟨.val int <| .val .str <| .obj 0 <| .nil, [(27, .AI (.sl AB) <| .AI (.sl Ar) <| .AI (.sl AW) <| .AI (.sl Ax) <| .AI (.sl Ar) <| .nil)], .val (.sl int) <| .val .bool <| .nil, []⟩
theorem AGS : ∀  xa xo, (AAq.IP 0 (mkC Tryz.prog Tn ⟨false, false⟩ noL noJ) Tryz.f91 xa xo).run = AEG  xa.1 xa.2.1 xo.1.1 xo.1.2.1 xo.1.2.2.1 xo.1.2.2.2.1 xo.1.2.2.2.2.1 := by intros; kernel_rfl
def To := AH Tn 91 (DW 0 (AAq.AF (fun xa xo => AEG xa.1 xa.2.1 xo.1.1 xo.1.2.1 xo.1.2.2.1 xo.1.2.2.2.1 xo.1.2.2.2.2.1)))
theorem PD : OKs To := HH PC PC fol Tryz.func91 (by kernel_rfl) (by kernel_rfl) 0 (by kernel_rfl) AGS
def AAr : AG := ⟨.val .str <| .val .str <| .clo 91 (.obj 0 <| .nil) <| .nil, [(27, .AI (.sl AB) <| .AI (.sl Ar) <| .AI (.sl AW) <| .AI (.sl Ax) <| .AI (.sl Ar) <| .nil)], .own 43 (.sl int) <| .val .bool <| .nil, []⟩
def AIP (nn : Nat) : Nat -> Option Af := fun n =>
 bif Nat.beq n 3 then some ⟨{ env := [(8, .arr 49), (17, .dat int)], heap := [(1, .box 27 ((ASh.idn 19 (int.pair (int.pair (int.pair (int.pair (int.pair (int.pair (int.pair Ty.unit))))))).sl).cons ((ASh.idn 20 (Ty.str.pair (int.pair Ty.unit)).sl).cons ((ASh.idn 21 (Ty.str.pair (int.pair (int.pair (int.pair Ty.unit)))).sl).cons ((ASh.idn 22 (int.pair (Ty.str.pair (int.pair Ty.unit))).sl).cons ((ASh.idn 23 (Ty.str.pair (int.pair Ty.unit)).sl).cons ASh.nil)))))), (49, .arr 43 int.sl)], keep := [0, 1, 2, 6, 7, 15, 16], AN := [384, 15] }, fun _ => nn⟩ else
 none
theorem AGT : ∀ (nn : Nat)  xa xo, (AAr.IP 0 (mkC Tryz.prog To ⟨false, false⟩ (AIP nn) noJ) Tryz.f89 xa xo).run = AEH nn xa.1 xa.2.1 xo.1.1 xo.1.2.1 xo.1.2.2.1 xo.1.2.2.2.1 xo.1.2.2.2.2.1 := by intros; kernel_rfl
def Tp := AH To 89 (DW 0 (AAr.AF (fun xa xo => AEI xa.1 xa.2.1 xo.1.1 xo.1.2.1 xo.1.2.2.1 xo.1.2.2.2.1 xo.1.2.2.2.2.1)))
theorem PE : OKs Tp := HH PD PD fol Tryz.func89 (by kernel_rfl) (by kernel_rfl) 0 (by kernel_rfl) (AGT AK)
def KJ : AG := ⟨.agg (.val (.sl AB) <| .val (.sl Ar) <| .val (.sl AW) <| .val (.sl Ax) <| .val (.sl Ar) <| .nil) <| .val .str <| .nil, [], .val (.sl (.sl int)) <| .val .bool <| .nil, []⟩
theorem AGU : ∀  xa xo, (KJ.IP 0 (mkC Tryz.prog Tp ⟨false, false⟩ noL noJ) Tryz.f42 xa xo).run = Qw  xa.1.1 xa.1.2.1 xa.1.2.2.1 xa.1.2.2.2.1 xa.1.2.2.2.2.1 xa.2.1 := by intros; kernel_rfl
def Tq := AH Tp 42 (DW 0 (KJ.AF (fun xa xo => Qw xa.1.1 xa.1.2.1 xa.1.2.2.1 xa.1.2.2.2.1 xa.1.2.2.2.2.1 xa.2.1)))
theorem ZG : OKs Tq := HH PE PE fol Tryz.func42 (by kernel_rfl) (by kernel_rfl) 0 (by kernel_rfl) AGU
def AAs : AG := ⟨.val .bool <| .nil, [], .val int <| .nil, []⟩
theorem AGV : ∀  xa xo, (AAs.prog (mkC Tryz.prog Tq ⟨false, false⟩ noL noJ) Tryz.f208 xa xo).run = AAJ  xa.1 := by intros; kernel_rfl
def Tt := AH Tq 208 (AAs.AF (fun xa xo => AAJ xa.1))
theorem ZH : OKs Tt := fn_A ZG Tryz.func208 AGV
def AJQ : AG := ⟨.val int <| .val int <| .nil, [], .val int <| .nil, []⟩
theorem AKR : ∀  xa xo, (AJQ.prog (mkC Tryz.prog Tt ⟨false, false⟩ noL noJ) Tryz.f213 xa xo).run = vW8  xa.1 xa.2.1 := by intros; kernel_rfl
def AGW := AH Tt 213 (AJQ.AF (fun xa xo => vW8 xa.1 xa.2.1))
theorem AGX : OKs AGW := fn_A ZH Tryz.func213 AKR
def AGY : AG := ⟨.val int <| .val int <| .nil, [], .val .bool <| .nil, []⟩
theorem AIQ : ∀  xa xo, (AGY.prog (mkC Tryz.prog AGW ⟨false, false⟩ noL noJ) Tryz.f217 xa xo).run = AJt  xa.1 xa.2.1 := by intros; kernel_rfl
def ZI := AH AGW 217 (AGY.AF (fun xa xo => AJt xa.1 xa.2.1))
theorem ACm : OKs ZI := fn_A AGX Tryz.func217 AIQ
def AGZ : AG := ⟨.val int <| .val int <| .nil, [], .val .bool <| .nil, []⟩
theorem AIR : ∀  xa xo, (AGZ.prog (mkC Tryz.prog ZI ⟨false, false⟩ noL noJ) Tryz.f218 xa xo).run = AJu  xa.1 xa.2.1 := by intros; kernel_rfl
def ZJ := AH ZI 218 (AGZ.AF (fun xa xo => AJu xa.1 xa.2.1))
theorem ACn : OKs ZJ := fn_A ACm Tryz.func218 AIR
def AJR : AG := ⟨.agg (.val int <| .val int <| .val int <| .val int <| .val int <| .val int <| .val int <| .nil) <| .val int <| .val int <| .val int <| .val int <| .nil, [], .val int <| .nil, []⟩
theorem AKS : ∀  xa xo, (AJR.prog (mkC Tryz.prog ZJ ⟨false, false⟩ noL noJ) Tryz.f202 xa xo).run = vW1  xa.1.1 xa.1.2.1 xa.1.2.2.1 xa.1.2.2.2.1 xa.1.2.2.2.2.1 xa.1.2.2.2.2.2.1 xa.1.2.2.2.2.2.2.1 xa.2.1 xa.2.2.1 xa.2.2.2.1 xa.2.2.2.2.1 := by intros; kernel_rfl
def AGa := AH ZJ 202 (AJR.AF (fun xa xo => vW1 xa.1.1 xa.1.2.1 xa.1.2.2.1 xa.1.2.2.2.1 xa.1.2.2.2.2.1 xa.1.2.2.2.2.2.1 xa.1.2.2.2.2.2.2.1 xa.2.1 xa.2.2.1 xa.2.2.2.1 xa.2.2.2.2.1))
theorem AGb : OKs AGa := fn_A ACn Tryz.func202 AKS
def AGc : AG := ⟨.agg (.val int <| .val int <| .val int <| .val int <| .val int <| .val int <| .val int <| .nil) <| .val int <| .val int <| .val int <| .val int <| .nil, [], .val int <| .nil, []⟩
theorem AIS : ∀  xa xo, (AGc.prog (mkC Tryz.prog AGa ⟨false, false⟩ noL noJ) Tryz.f221 xa xo).run = AJv  xa.1.1 xa.1.2.1 xa.1.2.2.1 xa.1.2.2.2.1 xa.1.2.2.2.2.1 xa.1.2.2.2.2.2.1 xa.1.2.2.2.2.2.2.1 xa.2.1 xa.2.2.1 xa.2.2.2.1 xa.2.2.2.2.1 := by intros; kernel_rfl
def Tu := AH AGa 221 (AGc.AF (fun xa xo => AJv xa.1.1 xa.1.2.1 xa.1.2.2.1 xa.1.2.2.2.1 xa.1.2.2.2.2.1 xa.1.2.2.2.2.2.1 xa.1.2.2.2.2.2.2.1 xa.2.1 xa.2.2.1 xa.2.2.2.1 xa.2.2.2.2.1))
theorem RG : OKs Tu := fn_A AGb Tryz.func221 AIS
def Lj : AG := ⟨.agg (.val int <| .val int <| .val int <| .val int <| .val int <| .val int <| .val int <| .nil) <| .val int <| .val int <| .val int <| .val int <| .val (.ptr .fnT) <| .nil, [], .val int <| .nil, []⟩
theorem ZK : ∀ (xa : Lj.args.ty.den) (xo : (AY Lj.Aa).den), (Lj.prog (mkC Tryz.prog Tu ⟨false, false⟩ (fun _ => none) (fun _ => none)) Tryz.f246 ((xa.1, xa.2.1, xa.2.2.1, xa.2.2.2.1, xa.2.2.2.2.1, (213 : Nat), ())) xo).run = AAK xa.1.1 xa.1.2.1 xa.1.2.2.1 xa.1.2.2.2.1 xa.1.2.2.2.2.1 xa.1.2.2.2.2.2.1 xa.1.2.2.2.2.2.2.1 xa.2.1 xa.2.2.1 xa.2.2.2.1 xa.2.2.2.2.1 xa.2.2.2.2.2.1 := by intros; kernel_rfl
def H2 : AG := ⟨.agg (.val int <| .val int <| .val int <| .val int <| .val int <| .val int <| .val int <| .nil) <| .val int <| .val int <| .val int <| .val int <| .val (.ptr .fnT) <| .nil, [], .val int <| .nil, []⟩
theorem AGd (xa : H2.args.ty.den) (xo : (AY H2.Aa).den) (y : H2.oty.den) (h : AAL xa.1.1 xa.1.2.1 xa.1.2.2.1 xa.1.2.2.2.1 xa.1.2.2.2.2.1 xa.1.2.2.2.2.2.1 xa.1.2.2.2.2.2.2.1 xa.2.1 xa.2.2.1 xa.2.2.2.1 xa.2.2.2.2.1 xa.2.2.2.2.2.1 = some y) : (H2.prog (mkC Tryz.prog Tu ⟨false, false⟩ (fun _ => none) (fun _ => none)) Tryz.f246 xa xo).run = some y := by
 obtain ⟨nd, a, b, c, wb, f, u⟩ := xa
 unfold AAL at h
 refine At h (fun e h => ?_) fun h => ?_
 ·have e : f = 213 := Int.ofNat.inj e
  subst e
  exact (ZK (nd, a, b, c, wb, (213 : Nat), u) xo).trans h
 exact Jt h
def Tv := AH Tu 246 (H2.AF (fun xa xo => AAL xa.1.1 xa.1.2.1 xa.1.2.2.1 xa.1.2.2.2.1 xa.1.2.2.2.2.1 xa.1.2.2.2.2.2.1 xa.1.2.2.2.2.2.2.1 xa.2.1 xa.2.2.1 xa.2.2.2.1 xa.2.2.2.2.1 xa.2.2.2.2.2.1))
theorem ZL : OKs Tv := R3 RG RG fol Tryz.func246 (by kernel_rfl) (by kernel_rfl) (by kernel_rfl) (S := H2) (md := ⟨false, false⟩) (L := fun _ => none) (J := fun _ => none) AGd
def ZM : AG := ⟨.val (.fnT) <| .nil, [], .clo 246 (.val (.ptr .fnT) <| .nil) <| .nil, []⟩
theorem AIT : ∀  xa xo, (ZM.prog (mkC Tryz.prog Tv ⟨false, false⟩ noL noJ) Tryz.f203 xa xo).run = AJw  xa.1 := by intros; kernel_rfl
def AGe := AH Tv 203 (ZM.AF (fun xa xo => AJw xa.1))
theorem RH : OKs AGe := fn_A ZL Tryz.func203 AIT
def KK := AH AGe 203 (AHS 246)
theorem PF : OKs KK := Ac RH (Z5 (Ap RH 203 (S := ZM.AF (fun xa xo => AJw xa.1)) (by kernel_rfl)) (by intros; kernel_rfl))
def GY : AG := ⟨.agg (.val int <| .val int <| .val int <| .val int <| .val int <| .val int <| .val int <| .nil) <| .val int <| .val int <| .val int <| .val int <| .val (.ptr .fnT) <| .nil, [], .val int <| .nil, []⟩
theorem Pz : ∀ (xa : GY.args.ty.den) (xo : (AY GY.Aa).den), (GY.prog (mkC Tryz.prog KK ⟨false, false⟩ (fun _ => none) (fun _ => none)) Tryz.f247 ((xa.1, xa.2.1, xa.2.2.1, xa.2.2.2.1, xa.2.2.2.2.1, (217 : Nat), ())) xo).run = OP xa.1.1 xa.1.2.1 xa.1.2.2.1 xa.1.2.2.2.1 xa.1.2.2.2.2.1 xa.1.2.2.2.2.2.1 xa.1.2.2.2.2.2.2.1 xa.2.1 xa.2.2.1 xa.2.2.2.1 xa.2.2.2.2.1 xa.2.2.2.2.2.1 := by intros; kernel_rfl
def GZ : AG := ⟨.agg (.val int <| .val int <| .val int <| .val int <| .val int <| .val int <| .val int <| .nil) <| .val int <| .val int <| .val int <| .val int <| .val (.ptr .fnT) <| .nil, [], .val int <| .nil, []⟩
theorem P0 : ∀ (xa : GZ.args.ty.den) (xo : (AY GZ.Aa).den), (GZ.prog (mkC Tryz.prog KK ⟨false, false⟩ (fun _ => none) (fun _ => none)) Tryz.f247 ((xa.1, xa.2.1, xa.2.2.1, xa.2.2.2.1, xa.2.2.2.2.1, (218 : Nat), ())) xo).run = OQ xa.1.1 xa.1.2.1 xa.1.2.2.1 xa.1.2.2.2.1 xa.1.2.2.2.2.1 xa.1.2.2.2.2.2.1 xa.1.2.2.2.2.2.2.1 xa.2.1 xa.2.2.1 xa.2.2.2.1 xa.2.2.2.2.1 xa.2.2.2.2.2.1 := by intros; kernel_rfl
def EX : AG := ⟨.agg (.val int <| .val int <| .val int <| .val int <| .val int <| .val int <| .val int <| .nil) <| .val int <| .val int <| .val int <| .val int <| .val (.ptr .fnT) <| .nil, [], .val int <| .nil, []⟩
theorem ZN (xa : EX.args.ty.den) (xo : (AY EX.Aa).den) (y : EX.oty.den) (h : J2 xa.1.1 xa.1.2.1 xa.1.2.2.1 xa.1.2.2.2.1 xa.1.2.2.2.2.1 xa.1.2.2.2.2.2.1 xa.1.2.2.2.2.2.2.1 xa.2.1 xa.2.2.1 xa.2.2.2.1 xa.2.2.2.2.1 xa.2.2.2.2.2.1 = some y) : (EX.prog (mkC Tryz.prog KK ⟨false, false⟩ (fun _ => none) (fun _ => none)) Tryz.f247 xa xo).run = some y := by
 obtain ⟨nd, a, b, c, wb, f, u⟩ := xa
 unfold J2 at h
 refine At h (fun e h => ?_) fun h => ?_
 ·have e : f = 217 := Int.ofNat.inj e
  subst e
  exact (Pz (nd, a, b, c, wb, (217 : Nat), u) xo).trans h
 refine At h (fun e h => ?_) fun h => ?_
 ·have e : f = 218 := Int.ofNat.inj e
  subst e
  exact (P0 (nd, a, b, c, wb, (218 : Nat), u) xo).trans h
 exact Jt h
def Lk := AH KK 247 (EX.AF (fun xa xo => J2 xa.1.1 xa.1.2.1 xa.1.2.2.1 xa.1.2.2.2.1 xa.1.2.2.2.2.1 xa.1.2.2.2.2.2.1 xa.1.2.2.2.2.2.2.1 xa.2.1 xa.2.2.1 xa.2.2.2.1 xa.2.2.2.2.1 xa.2.2.2.2.2.1))
theorem Tw : OKs Lk := R3 PF PF fol Tryz.func247 (by kernel_rfl) (by kernel_rfl) (by kernel_rfl) (S := EX) (md := ⟨false, false⟩) (L := fun _ => none) (J := fun _ => none) ZN
def PG : AG := ⟨.val (.fnT) <| .nil, [], .clo 247 (.val (.ptr .fnT) <| .nil) <| .nil, []⟩
theorem ACo : ∀  xa xo, (PG.prog (mkC Tryz.prog Lk ⟨false, false⟩ noL noJ) Tryz.f205 xa xo).run = Xj  xa.1 := by intros; kernel_rfl
def WH := AH Lk 205 (PG.AF (fun xa xo => Xj xa.1))
theorem MP : OKs WH := fn_A Tw Tryz.func205 ACo
def Ll := AH WH 205 (AHS 247)
theorem Tx : OKs Ll := Ac MP (Z5 (Ap MP 205 (S := PG.AF (fun xa xo => Xj xa.1)) (by kernel_rfl)) (by intros; kernel_rfl))
def WI : AG := ⟨.nil, [], .DM (.fm (.int .i64) [((1 : Int), AV.fn 202 .nil), ((3 : Int), AV.fn 246 (.cons (.dat (.ptr .fnT) (204 : Nat)) .nil)), ((4 : Int), AV.fn 247 (.cons (.dat (.ptr .fnT) (206 : Nat)) .nil)), ((5 : Int), AV.fn 207 .nil), ((6 : Int), AV.fn 246 (.cons (.dat (.ptr .fnT) (210 : Nat)) .nil)), ((7 : Int), AV.fn 246 (.cons (.dat (.ptr .fnT) (211 : Nat)) .nil)), ((8 : Int), AV.fn 246 (.cons (.dat (.ptr .fnT) (212 : Nat)) .nil)), ((9 : Int), AV.fn 246 (.cons (.dat (.ptr .fnT) (213 : Nat)) .nil)), ((10 : Int), AV.fn 246 (.cons (.dat (.ptr .fnT) (214 : Nat)) .nil)), ((11 : Int), AV.fn 246 (.cons (.dat (.ptr .fnT) (215 : Nat)) .nil)), ((12 : Int), AV.fn 247 (.cons (.dat (.ptr .fnT) (216 : Nat)) .nil)), ((13 : Int), AV.fn 247 (.cons (.dat (.ptr .fnT) (217 : Nat)) .nil)), ((14 : Int), AV.fn 247 (.cons (.dat (.ptr .fnT) (218 : Nat)) .nil)), ((15 : Int), AV.fn 247 (.cons (.dat (.ptr .fnT) (219 : Nat)) .nil)), ((16 : Int), AV.fn 220 .nil), ((17 : Int), AV.fn 221 .nil), ((18 : Int), AV.fn 222 .nil)]) <| .nil, []⟩
theorem ACp : ∀  xa xo, (WI.prog (mkC Tryz.prog Ll ⟨false, false⟩ noL noJ) Tryz.f160 xa xo).run = JC   := by intros; kernel_rfl
def D9 := AH Ll 160 (WI.AF (fun xa xo => JC ))
theorem MQ : OKs D9 := fn_A Tx Tryz.func160 ACp
def Tz : AG := ⟨.agg (.val int <| .val int <| .val int <| .val int <| .val int <| .val int <| .val int <| .nil) <| .val int <| .val int <| .val int <| .val int <| .nil, [], .val int <| .nil, []⟩
theorem AGf : ∀ (xa : Tz.args.ty.den) (xo : (AY Tz.Aa).den), (Tz.prog (mkC Tryz.prog D9 ⟨false, false⟩ (fun _ => none) (fun _ => none)) Tryz.f122 ((((1 : Int), xa.1.2), xa.2)) xo).run = AI7 xa.1.1 xa.1.2.1 xa.1.2.2.1 xa.1.2.2.2.1 xa.1.2.2.2.2.1 xa.1.2.2.2.2.2.1 xa.1.2.2.2.2.2.2.1 xa.2.1 xa.2.2.1 xa.2.2.2.1 xa.2.2.2.2.1 := by intros; kernel_rfl
def T4 : AG := ⟨.agg (.val int <| .val int <| .val int <| .val int <| .val int <| .val int <| .val int <| .nil) <| .val int <| .val int <| .val int <| .val int <| .nil, [], .val int <| .nil, []⟩
theorem AGg : ∀ (xa : T4.args.ty.den) (xo : (AY T4.Aa).den), (T4.prog (mkC Tryz.prog D9 ⟨false, false⟩ (fun _ => none) (fun _ => none)) Tryz.f122 ((((9 : Int), xa.1.2), xa.2)) xo).run = AI8 xa.1.1 xa.1.2.1 xa.1.2.2.1 xa.1.2.2.2.1 xa.1.2.2.2.2.1 xa.1.2.2.2.2.2.1 xa.1.2.2.2.2.2.2.1 xa.2.1 xa.2.2.1 xa.2.2.2.1 xa.2.2.2.2.1 := by intros; kernel_rfl
def PH : AG := ⟨.agg (.val int <| .val int <| .val int <| .val int <| .val int <| .val int <| .val int <| .nil) <| .val int <| .val int <| .val int <| .val int <| .nil, [], .val int <| .nil, []⟩
theorem ACq : ∀ (xa : PH.args.ty.den) (xo : (AY PH.Aa).den), (PH.prog (mkC Tryz.prog D9 ⟨false, false⟩ (fun _ => none) (fun _ => none)) Tryz.f122 ((((13 : Int), xa.1.2), xa.2)) xo).run = AEJ xa.1.1 xa.1.2.1 xa.1.2.2.1 xa.1.2.2.2.1 xa.1.2.2.2.2.1 xa.1.2.2.2.2.2.1 xa.1.2.2.2.2.2.2.1 xa.2.1 xa.2.2.1 xa.2.2.2.1 xa.2.2.2.2.1 := by intros; kernel_rfl
def PJ : AG := ⟨.agg (.val int <| .val int <| .val int <| .val int <| .val int <| .val int <| .val int <| .nil) <| .val int <| .val int <| .val int <| .val int <| .nil, [], .val int <| .nil, []⟩
theorem ACr : ∀ (xa : PJ.args.ty.den) (xo : (AY PJ.Aa).den), (PJ.prog (mkC Tryz.prog D9 ⟨false, false⟩ (fun _ => none) (fun _ => none)) Tryz.f122 ((((14 : Int), xa.1.2), xa.2)) xo).run = AEK xa.1.1 xa.1.2.1 xa.1.2.2.1 xa.1.2.2.2.1 xa.1.2.2.2.2.1 xa.1.2.2.2.2.2.1 xa.1.2.2.2.2.2.2.1 xa.2.1 xa.2.2.1 xa.2.2.2.1 xa.2.2.2.2.1 := by intros; kernel_rfl
def PK : AG := ⟨.agg (.val int <| .val int <| .val int <| .val int <| .val int <| .val int <| .val int <| .nil) <| .val int <| .val int <| .val int <| .val int <| .nil, [], .val int <| .nil, []⟩
theorem ACs : ∀ (xa : PK.args.ty.den) (xo : (AY PK.Aa).den), (PK.prog (mkC Tryz.prog D9 ⟨false, false⟩ (fun _ => none) (fun _ => none)) Tryz.f122 ((((17 : Int), xa.1.2), xa.2)) xo).run = AEL xa.1.1 xa.1.2.1 xa.1.2.2.1 xa.1.2.2.2.1 xa.1.2.2.2.2.1 xa.1.2.2.2.2.2.1 xa.1.2.2.2.2.2.2.1 xa.2.1 xa.2.2.1 xa.2.2.2.1 xa.2.2.2.2.1 := by intros; kernel_rfl
def RJ : AG := ⟨.agg (.val int <| .val int <| .val int <| .val int <| .val int <| .val int <| .val int <| .nil) <| .val int <| .val int <| .val int <| .val int <| .nil, [], .val int <| .nil, []⟩
theorem AKT (xa : RJ.args.ty.den) (xo : (AY RJ.Aa).den) (y : RJ.oty.den) (h : vDo xa.1.1 xa.1.2.1 xa.1.2.2.1 xa.1.2.2.2.1 xa.1.2.2.2.2.1 xa.1.2.2.2.2.2.1 xa.1.2.2.2.2.2.2.1 xa.2.1 xa.2.2.1 xa.2.2.2.1 xa.2.2.2.2.1 = some y) : (RJ.prog (mkC Tryz.prog D9 ⟨false, false⟩ (fun _ => none) (fun _ => none)) Tryz.f122 xa xo).run = some y := by
 obtain ⟨⟨op, r⟩, s⟩ := xa
 unfold vDo at h
 refine At h (fun e h => ?_) fun h => ?_
 ·have e : op = 1 := e
  subst e
  exact (AGf (((1 : Int), r), s) xo).trans h
 refine At h (fun e h => ?_) fun h => ?_
 ·have e : op = 9 := e
  subst e
  exact (AGg (((9 : Int), r), s) xo).trans h
 refine At h (fun e h => ?_) fun h => ?_
 ·have e : op = 13 := e
  subst e
  exact (ACq (((13 : Int), r), s) xo).trans h
 refine At h (fun e h => ?_) fun h => ?_
 ·have e : op = 14 := e
  subst e
  exact (ACr (((14 : Int), r), s) xo).trans h
 refine At h (fun e h => ?_) fun h => ?_
 ·have e : op = 17 := e
  subst e
  exact (ACs (((17 : Int), r), s) xo).trans h
 exact Jt h
def AGh := AH D9 122 (RJ.AF (fun xa xo => vDo xa.1.1 xa.1.2.1 xa.1.2.2.1 xa.1.2.2.2.1 xa.1.2.2.2.2.1 xa.1.2.2.2.2.2.1 xa.1.2.2.2.2.2.2.1 xa.2.1 xa.2.2.1 xa.2.2.2.1 xa.2.2.2.2.1))
theorem AGi : OKs AGh := R3 MQ MQ fol Tryz.func122 (by kernel_rfl) (by kernel_rfl) (by kernel_rfl) (S := RJ) (md := ⟨false, false⟩) (L := fun _ => none) (J := fun _ => none) AKT
def RM : AG := ⟨.agg (.AI (.sl AB) <| .AI (.sl Ar) <| .AI (.sl AW) <| .AI (.sl Ax) <| .AI (.sl Ar) <| .nil) <| .AI (.sl int) <| .AI (.sl int) <| .nil, [], .own 3 int <| .nil, []⟩
def ACt (nn : Nat) : Nat -> Option Af := fun n =>
 bif Nat.beq n 3 then some ⟨{ env := [(21, .dat int)], heap := [(384, .arr 3 int)], keep := [0, 1, 2, 3, 6, 7, 19, 20], AN := [64] }, fun _ => nn⟩ else
 bif Nat.beq n 8 then some ⟨{ env := [(38, .dat int)], heap := [(384, .arr 3 int)], keep := [0, 1, 2, 3, 6, 7, 19, 20, 21, 36, 37], AN := [64] }, fun _ => nn⟩ else
 bif Nat.beq n 13 then some ⟨{ env := [(55, .dat int)], heap := [(384, .arr 3 int)], keep := [0, 1, 2, 3, 6, 7, 19, 20, 21, 36, 37, 38, 53, 54], AN := [64] }, fun _ => nn⟩ else
 none
theorem ZO : ∀ (nn : Nat)  xa xo, (RM.prog (mkC Tryz.prog AGh ⟨false, false⟩ (ACt nn) noJ) Tryz.f99 xa xo).run = VG nn xa.1.1 xa.1.2.1 xa.1.2.2.1 xa.1.2.2.2.1 xa.1.2.2.2.2.1 xa.2.1 xa.2.2.1 := by intros; kernel_rfl
def Lm := AH AGh 99 (RM.AF (fun xa xo => AAM xa.1.1 xa.1.2.1 xa.1.2.2.1 xa.1.2.2.2.1 xa.1.2.2.2.2.1 xa.2.1 xa.2.2.1))
theorem T5 : OKs Lm := fn_A AGi Tryz.func99 (ZO AK)
def PL : AG := ⟨.agg (.AI (.sl AB) <| .AI (.sl Ar) <| .AI (.sl AW) <| .AI (.sl Ax) <| .AI (.sl Ar) <| .nil) <| .AI (.sl int) <| .AI (.sl int) <| .nil, [], .own 3 int <| .nil, []⟩
def ZP (nn : Nat) : Nat -> Option Af := fun n =>
 bif Nat.beq n 4 then some ⟨{ env := [(22, .dat int)], heap := [(704, .arr 3 int)], keep := [0, 1, 2, 3, 6, 7, 8, 20, 21], AN := [64, 384] }, fun _ => nn⟩ else
 none
theorem WJ : ∀ (nn : Nat)  xa xo, (PL.prog (mkC Tryz.prog Lm ⟨false, false⟩ (ZP nn) noJ) Tryz.f94 xa xo).run = Qx nn xa.1.1 xa.1.2.1 xa.1.2.2.1 xa.1.2.2.2.1 xa.1.2.2.2.2.1 xa.2.1 xa.2.2.1 := by intros; kernel_rfl
def JQ := AH Lm 94 (PL.AF (fun xa xo => AEM xa.1.1 xa.1.2.1 xa.1.2.2.1 xa.1.2.2.2.1 xa.1.2.2.2.2.1 xa.2.1 xa.2.2.1))
theorem P1 : OKs JQ := fn_A T5 Tryz.func94 (WJ AK)
def RP : AG := ⟨.agg (.val (.sl AB) <| .val (.sl Ar) <| .val (.sl AW) <| .val (.sl Ax) <| .val (.sl Ar) <| .nil) <| .val (.sl (.sl int)) <| .nil, [], .clo 98 (.obj 0 <| .obj 1 <| .nil) <| .nil, [(27, .val (.sl AB) <| .val (.sl Ar) <| .val (.sl AW) <| .val (.sl Ax) <| .val (.sl Ar) <| .nil), (57, .val (.sl (.sl int)) <| .nil)]⟩
theorem ZQ : ∀  xa xo, (RP.prog (mkC Tryz.prog JQ ⟨false, false⟩ noL noJ) Tryz.f55 xa xo).run = AAN  xa.1.1 xa.1.2.1 xa.1.2.2.1 xa.1.2.2.2.1 xa.1.2.2.2.2.1 xa.2.1 := by intros; kernel_rfl
def Ln := AH JQ 55 (RP.AF (fun xa xo => AAN xa.1.1 xa.1.2.1 xa.1.2.2.1 xa.1.2.2.2.1 xa.1.2.2.2.2.1 xa.2.1))
theorem T8 : OKs Ln := fn_A P1 Tryz.func55 ZQ
def AAt : AG := ⟨.val int <| .nil, [], .val int <| .nil, []⟩
theorem AGj : ∀  xa xo, (AAt.prog (mkC Tryz.prog Ln ⟨true, false⟩ noL noJ) Tryz.f47 xa xo).run = Qy  xa.1 := by intros; kernel_rfl
def T9 := AH Ln 47 (AAt.AF (fun xa xo => Qy xa.1))
theorem ZR : OKs T9 := fn_A T8 Tryz.func47 AGj
def WK : AG := ⟨.val int <| .obj 0 <| .nil, [(53, .AI (.sl .bool) <| .nil)], .val .bool <| .nil, []⟩
theorem ACu : ∀  xa xo, (WK.prog (mkC Tryz.prog T9 ⟨false, false⟩ noL noJ) Tryz.f46 xa xo).run = OR  xa.1 xo.1.1 := by intros; kernel_rfl
def PM := AH T9 46 (WK.AF (fun xa xo => OR xa.1 xo.1.1))
theorem WL : OKs PM := fn_A ZR Tryz.func46 ACu
def FI : AG := ⟨.AI (.sl int) <| .clo 46 (.obj 0 <| .nil) <| .nil, [(53, .AI (.sl .bool) <| .nil)], .val int <| .nil, []⟩
def KL (nn : Nat) : Nat -> Option Af := fun n =>
 bif Nat.beq n 2 then some ⟨{ env := [(8, .dat int)], heap := [(1, .box 53 ((ASh.idn 18 Ty.bool.sl).cons ASh.nil))], keep := [0, 1, 4, 7], AN := [] }, fun _ => nn⟩ else
 none
theorem JR : ∀ (nn : Nat)  xa xo, (FI.prog (mkC Tryz.prog PM ⟨false, false⟩ (KL nn) noJ) Tryz.f95 xa xo).run = Dp nn xa.1 xo.1.1 := by intros; kernel_rfl
def Dd := AH PM 95 (FI.AF (fun xa xo => CR xa.1 xo.1.1))
theorem HV : OKs Dd := fn_A WL Tryz.func95 (JR AK)
def EA : AG := ⟨.AI (.sl int) <| .clo 46 (.obj 0 <| .nil) <| .nil, [(53, .AI (.sl .bool) <| .nil)], .val .bool <| .nil, []⟩
theorem Gm : ∀  xa xo, (EA.prog (mkC Tryz.prog Dd ⟨false, false⟩ noL noJ) Tryz.f45 xa xo).run = CQ  xa.1 xo.1.1 := by intros; kernel_rfl
def Cn := AH Dd 45 (EA.AF (fun xa xo => CQ xa.1 xo.1.1))
theorem Ft : OKs Cn := fn_A HV Tryz.func45 Gm
def HW : AG := ⟨.AI (.sl int) <| .AI (.sl .bool) <| .nil, [], .val .bool <| .nil, []⟩
theorem ACv : ∀  xa xo, (HW.prog (mkC Tryz.prog Cn ⟨false, false⟩ noL noJ) Tryz.f19 xa xo).run = HQ  xa.1 xa.2.1 := by intros; kernel_rfl
def PN := AH Cn 19 (HW.AF (fun xa xo => HQ xa.1 xa.2.1))
theorem WM : OKs PN := fn_A Ft Tryz.func19 ACv
def E4 : AG := ⟨.AI (.sl (.sl int)) <| .AI (.sl (.sl int)) <| .nil, [], .val .bool <| .nil, []⟩
def ZS (nn : Nat) : Nat -> Option Af := fun n =>
 bif Nat.beq n 4 then some ⟨{ env := [(5, .dat int)], heap := [], keep := [0, 1, 4], AN := [] }, fun _ => nn⟩ else
 bif Nat.beq n 9 then some ⟨{ env := [(6, .dat int)], heap := [], keep := [0, 1, 4, 5], AN := [] }, fun _ => nn⟩ else
 none
theorem WN : ∀ (nn : Nat)  xa xo, (E4.prog (mkC Tryz.prog PN ⟨false, false⟩ (ZS nn) noJ) Tryz.f43 xa xo).run = Qz nn xa.1 xa.2.1 := by intros; kernel_rfl
def JS := AH PN 43 (E4.AF (fun xa xo => HR xa.1 xa.2.1))
theorem P4 : OKs JS := fn_A WM Tryz.func43 (WN AK)
def KM : AG := ⟨.agg (.AI (.sl AB) <| .AI (.sl Ar) <| .AI (.sl AW) <| .AI (.sl Ax) <| .AI (.sl Ar) <| .nil) <| .nil, [], .val .bool <| .nil, []⟩
def AIU (nn : Nat) : Nat -> Option Af := fun n =>
 bif Nat.beq n 6 then some ⟨{ env := [(3, .dat int), (4, .dat int), (5, .dat int)], heap := [], keep := [0, 1, 2], AN := [64] }, fun _ => nn⟩ else
 none
theorem AGk : ∀ (nn : Nat)  xa xo, (KM.prog (mkC Tryz.prog JS ⟨false, false⟩ (AIU nn) noJ) Tryz.f6 xa xo).run = Xk nn xa.1.1 xa.1.2.1 xa.1.2.2.1 xa.1.2.2.2.1 xa.1.2.2.2.2.1 := by intros; kernel_rfl
def UA := AH JS 6 (KM.AF (fun xa xo => OS xa.1.1 xa.1.2.1 xa.1.2.2.1 xa.1.2.2.2.1 xa.1.2.2.2.2.1))
theorem ZT : OKs UA := fn_A P4 Tryz.func6 (AGk AK)
def KN : AG := ⟨.nil, [], .agg (.val (.sl AB) <| .val (.sl Ar) <| .val (.sl AW) <| .val (.sl Ax) <| .val (.sl Ar) <| .nil) <| .nil, []⟩
theorem AGl : ∀  xa xo, (KN.prog (mkC Tryz.prog UA ⟨false, false⟩ noL noJ) Tryz.f20 xa xo).run = CS   := by intros; kernel_rfl
def M6 := AH UA 20 (KN.AF (fun xa xo => CS ))
theorem PO : OKs M6 := fn_A ZT Tryz.func20 AGl
end AL
end
end
section
noncomputable section
set_option linter.unusedVariables false
set_option maxHeartbeats 0
set_option maxRecDepth 100000
namespace AL
open Go Go.Proofs
def CH : AG := ⟨.agg (.val (.sl AB) <| .val (.sl Ar) <| .val (.sl AW) <| .val (.sl Ax) <| .val (.sl Ar) <| .nil) <| .val (.sl (.sl int)) <| .nil, [], .val (.sl (.sl int)) <| .nil, []⟩
theorem WO (y : CH.oty.den) (h : some (([[0], [1], [1]], ()), (), ()) = some y) : (CH.Z6 300 (mkC Tryz.prog M6 ⟨false, false⟩ (fun _ => none) (fun _ => none)) Tryz.f44 ((CS.get (by kernel_rfl)).1.1, [[1], [0]], ()) ()).run = some y := h ▸ (by kernel_rfl)
theorem ZU (xa : CH.args.ty.den) (xo : (AY CH.Aa).den) (y : CH.oty.den) (h : Hx xa.1.1 xa.1.2.1 xa.1.2.2.1 xa.1.2.2.2.1 xa.1.2.2.2.2.1 xa.2.1 = some y) : (CH.Z6 300 (mkC Tryz.prog M6 ⟨false, false⟩ (fun _ => none) (fun _ => none)) Tryz.f44 xa xo).run = some y := by
 obtain ⟨⟨a1, a2, a3, a4, a5, u⟩, l, v⟩ := xa
 have h : (match CS with
  | some y => bif @decide (a1 = y.1.1.1) ((Ty.sl AB).eqD _ _) && (decide (a2 = y.1.1.2.1) && (decide (a3 = y.1.1.2.2.1) && (decide (a4 = y.1.1.2.2.2.1) && (decide (a5 = y.1.1.2.2.2.2.1) && decide (l = [[1], [0]]))))) then some ((([[0], [1], [1]] : LLI), ()), (), ()) else none
  | none => none) = some y := h
 unfold CS at h
 simp only at h
 cases hc : (@decide (a1 = (CS.get (by kernel_rfl)).1.1.1) ((Ty.sl AB).eqD _ _) && (decide (a2 = (CS.get (by kernel_rfl)).1.1.2.1) && (decide (a3 = (CS.get (by kernel_rfl)).1.1.2.2.1) && (decide (a4 = (CS.get (by kernel_rfl)).1.1.2.2.2.1) && (decide (a5 = (CS.get (by kernel_rfl)).1.1.2.2.2.2.1) && decide (l = [[1], [0]])))))) with
 | false =>
  have h : (bif (@decide (a1 = (CS.get (by kernel_rfl)).1.1.1) ((Ty.sl AB).eqD _ _) && (decide (a2 = (CS.get (by kernel_rfl)).1.1.2.1) && (decide (a3 = (CS.get (by kernel_rfl)).1.1.2.2.1) && (decide (a4 = (CS.get (by kernel_rfl)).1.1.2.2.2.1) && (decide (a5 = (CS.get (by kernel_rfl)).1.1.2.2.2.2.1) && decide (l = [[1], [0]])))))) then some ((([[0], [1], [1]] : LLI), ()), (), ()) else none) = some y := h
  rw [hc] at h
  cases h
 | true =>
  have h : (bif (@decide (a1 = (CS.get (by kernel_rfl)).1.1.1) ((Ty.sl AB).eqD _ _) && (decide (a2 = (CS.get (by kernel_rfl)).1.1.2.1) && (decide (a3 = (CS.get (by kernel_rfl)).1.1.2.2.1) && (decide (a4 = (CS.get (by kernel_rfl)).1.1.2.2.2.1) && (decide (a5 = (CS.get (by kernel_rfl)).1.1.2.2.2.2.1) && decide (l = [[1], [0]])))))) then some ((([[0], [1], [1]] : LLI), ()), (), ()) else none) = some y := h
  rw [hc] at h
  simp only [Bool.and_eq_true] at hc
  obtain ⟨e1, e2, e3, e4, e5, e6⟩ := hc
  have e1 := @of_decide_eq_true _ ((Ty.sl AB).eqD _ _) e1
  have e2 := of_decide_eq_true e2
  have e3 := of_decide_eq_true e3
  have e4 := of_decide_eq_true e4
  have e5 := of_decide_eq_true e5
  have e6 := of_decide_eq_true e6
  subst e1; subst e2; subst e3; subst e4; subst e5; subst e6
  exact WO y h
def RQ := AH M6 44 (CH.AF (fun xa xo => Hx xa.1.1 xa.1.2.1 xa.1.2.2.1 xa.1.2.2.2.1 xa.1.2.2.2.2.1 xa.2.1))
theorem Be : OKs RQ := AJn PO PO fol Tryz.func44 (by kernel_rfl) (by kernel_rfl) (by kernel_rfl) (N := 300) (S := CH) (md := ⟨false, false⟩) ZU
end AL
end
end
section
noncomputable section
set_option linter.unusedVariables false
set_option maxHeartbeats 0
set_option maxRecDepth 100000
namespace AL
open Go Go.Proofs
def HX : AG := ⟨.nil, [], .val .bool <| .nil, []⟩
theorem ACw : ∀ (vnet30 : Option (((LN × LP × LC × LQ × LP × Unit) × Unit) × Unit × Unit)) (vCompile : LN -> LP -> LC -> LQ -> LP -> Option (((Int × L2 × L3 × LT × L3 × Unit) × Unit) × Unit × Unit)) (vlBack : LN -> LP -> LC -> LQ -> LP -> ByteArray -> Option ((LLI × Bool × Unit) × Unit × Unit)) (vlLits : LN -> LP -> LC -> LQ -> LP -> Int -> L2 -> L3 -> LT -> L3 -> ByteArray -> Option ((LI × Bool × Unit) × Unit × Unit)) (vRight15 : Int -> L2 -> L3 -> LT -> L3 -> Option ((Bool × Unit) × Unit × Unit)) (vsameRows : LLI -> LLI -> Option ((Bool × Unit) × Unit × Unit)) (vsStates : LN -> LP -> LC -> LQ -> LP -> LLI -> Option ((LLI × Unit) × Unit × Unit)) (vcubeOf : List Bool -> Option ((LI × Unit) × Unit × Unit)) (vcInd : Int -> L2 -> L3 -> LT -> L3 -> Int -> LLI -> Option ((Int × Unit) × Unit × Unit)) xa xo, (HX.IP 0 (mkC Tryz.prog (AH (AH (AH (AH (AH (AH (AH (AH (AH noS 20 (KN.AF (fun xa xo => vnet30 ))) 8 (DJ.AF (fun xa xo => vCompile xa.1.1 xa.1.2.1 xa.1.2.2.1 xa.1.2.2.2.1 xa.1.2.2.2.2.1))) 42 (DW 0 (KJ.AF (fun xa xo => vlBack xa.1.1 xa.1.2.1 xa.1.2.2.1 xa.1.2.2.2.1 xa.1.2.2.2.2.1 xa.2.1)))) 10 (DW 0 (FH.AF (fun xa xo => vlLits xa.1.1 xa.1.2.1 xa.1.2.2.1 xa.1.2.2.2.1 xa.1.2.2.2.2.1 xa.2.1.1 xa.2.1.2.1 xa.2.1.2.2.1 xa.2.1.2.2.2.1 xa.2.1.2.2.2.2.1 xa.2.2.1)))) 9 (DK.AF (fun xa xo => vRight15 xa.1.1 xa.1.2.1 xa.1.2.2.1 xa.1.2.2.2.1 xa.1.2.2.2.2.1))) 43 (E4.AF (fun xa xo => vsameRows xa.1 xa.2.1))) 44 (CH.AF (fun xa xo => vsStates xa.1.1 xa.1.2.1 xa.1.2.2.1 xa.1.2.2.2.1 xa.1.2.2.2.2.1 xa.2.1))) 17 (D7.AF (fun xa xo => vcubeOf xa.1))) 23 (O4.AF (fun xa xo => vcInd xa.1.1 xa.1.2.1 xa.1.2.2.1 xa.1.2.2.2.1 xa.1.2.2.2.2.1 xa.2.1 xa.2.2.1))) ⟨false, false⟩ noL noJ) Tryz.f14 xa xo).run = AAO vnet30 vCompile vlBack vlLits vRight15 vsameRows vsStates vcubeOf vcInd  := by intros; kernel_rfl
def AGm := (AH (AH (AH (AH (AH (AH (AH (AH (AH noS 20 (KN.AF (fun xa xo => CS ))) 8 (DJ.AF (fun xa xo => DZ xa.1.1 xa.1.2.1 xa.1.2.2.1 xa.1.2.2.2.1 xa.1.2.2.2.2.1))) 42 (DW 0 (KJ.AF (fun xa xo => Qw xa.1.1 xa.1.2.1 xa.1.2.2.1 xa.1.2.2.2.1 xa.1.2.2.2.2.1 xa.2.1)))) 10 (DW 0 (FH.AF (fun xa xo => HP xa.1.1 xa.1.2.1 xa.1.2.2.1 xa.1.2.2.2.1 xa.1.2.2.2.2.1 xa.2.1.1 xa.2.1.2.1 xa.2.1.2.2.1 xa.2.1.2.2.2.1 xa.2.1.2.2.2.2.1 xa.2.2.1)))) 9 (DK.AF (fun xa xo => Da xa.1.1 xa.1.2.1 xa.1.2.2.1 xa.1.2.2.2.1 xa.1.2.2.2.2.1))) 43 (E4.AF (fun xa xo => HR xa.1 xa.2.1))) 44 (CH.AF (fun xa xo => Hx xa.1.1 xa.1.2.1 xa.1.2.2.1 xa.1.2.2.2.1 xa.1.2.2.2.2.1 xa.2.1))) 17 (D7.AF (fun xa xo => Ew xa.1))) 23 (O4.AF (fun xa xo => AEE xa.1.1 xa.1.2.1 xa.1.2.2.1 xa.1.2.2.2.1 xa.1.2.2.2.2.1 xa.2.1 xa.2.2.1)))
theorem WQ : OKs AGm := (Ac (Ac (Ac (Ac (Ac (Ac (Ac (Ac (Ac Ny (Ap Be 20 (S := (KN.AF (fun xa xo => CS ))) (by kernel_rfl))) (Ap Be 8 (S := (DJ.AF (fun xa xo => DZ xa.1.1 xa.1.2.1 xa.1.2.2.1 xa.1.2.2.2.1 xa.1.2.2.2.2.1))) (by kernel_rfl))) (Ap Be 42 (S := (DW 0 (KJ.AF (fun xa xo => Qw xa.1.1 xa.1.2.1 xa.1.2.2.1 xa.1.2.2.2.1 xa.1.2.2.2.2.1 xa.2.1)))) (by kernel_rfl))) (Ap Be 10 (S := (DW 0 (FH.AF (fun xa xo => HP xa.1.1 xa.1.2.1 xa.1.2.2.1 xa.1.2.2.2.1 xa.1.2.2.2.2.1 xa.2.1.1 xa.2.1.2.1 xa.2.1.2.2.1 xa.2.1.2.2.2.1 xa.2.1.2.2.2.2.1 xa.2.2.1)))) (by kernel_rfl))) (Ap Be 9 (S := (DK.AF (fun xa xo => Da xa.1.1 xa.1.2.1 xa.1.2.2.1 xa.1.2.2.2.1 xa.1.2.2.2.2.1))) (by kernel_rfl))) (Ap Be 43 (S := (E4.AF (fun xa xo => HR xa.1 xa.2.1))) (by kernel_rfl))) (Ap Be 44 (S := (CH.AF (fun xa xo => Hx xa.1.1 xa.1.2.1 xa.1.2.2.1 xa.1.2.2.2.1 xa.1.2.2.2.2.1 xa.2.1))) (by kernel_rfl))) (Ap Be 17 (S := (D7.AF (fun xa xo => Ew xa.1))) (by kernel_rfl))) (Ap Be 23 (S := (O4.AF (fun xa xo => AEE xa.1.1 xa.1.2.1 xa.1.2.2.1 xa.1.2.2.2.1 xa.1.2.2.2.2.1 xa.2.1 xa.2.2.1))) (by kernel_rfl)))
def WR := AH RQ 14 (DW 0 (HX.AF (fun xa xo => LK )))
theorem BD : OKs WR := HH Be WQ fol Tryz.func14 (by kernel_rfl) (by kernel_rfl) 0 (by kernel_rfl) (ACw CS DZ Qw HP Da HR Hx Ew AEE)
def HY : AG := ⟨.agg (.val (.sl AB) <| .val (.sl Ar) <| .val (.sl AW) <| .val (.sl Ax) <| .val (.sl Ar) <| .nil) <| .val (.sl (.int .u16)) <| .val (.sl (.int .u16)) <| .nil, [], .val .bool <| .nil, []⟩
theorem ACx : ∀ (vhead27 : Option ((Bool × Unit) × Unit × Unit)) (vfew27 : LN -> LP -> LC -> LQ -> LP -> Option ((Bool × Unit) × Unit × Unit)) (vunlike30 : LN -> LP -> LC -> LQ -> LP -> Option (((LN × LP × LC × LQ × LP × Unit) × Unit) × Unit × Unit)) (vCompile : LN -> LP -> LC -> LQ -> LP -> Option (((Int × L2 × L3 × LT × L3 × Unit) × Unit) × Unit × Unit)) (vRight15 : Int -> L2 -> L3 -> LT -> L3 -> Option ((Bool × Unit) × Unit × Unit)) (vstate15 : Int -> L2 -> L3 -> LT -> L3 -> LI -> Option ((List Bool × Unit) × Unit × Unit)) (vcells27 : LN -> LP -> LC -> LQ -> LP -> LI -> Option ((LI × Unit) × Unit × Unit)) (vcubeOf : List Bool -> Option ((LI × Unit) × Unit × Unit)) (vcubeClause : LI -> Option ((LI × Unit) × Unit × Unit)) (vlClause : LN -> LP -> LC -> LQ -> LP -> Int -> L2 -> L3 -> LT -> L3 -> LI -> Option ((ByteArray × Unit) × Unit × Unit)) (vlLits : LN -> LP -> LC -> LQ -> LP -> Int -> L2 -> L3 -> LT -> L3 -> ByteArray -> Option ((LI × Bool × Unit) × Unit × Unit)) (vmet26 : LLI -> List Bool -> Option ((Bool × Unit) × Unit × Unit)) (vsame8 : List Bool -> List Bool -> Option ((Bool × Unit) × Unit × Unit)) (vcHolds : LI -> List Bool -> Option ((Bool × Unit) × Unit × Unit)) xa xo, (HY.IP 0 (mkC Tryz.prog (AH (AH (AH (AH (AH (AH (AH (AH (AH (AH (AH (AH (AH (AH noS 14 (DW 0 (HX.AF (fun xa xo => vhead27 )))) 6 (KM.AF (fun xa xo => vfew27 xa.1.1 xa.1.2.1 xa.1.2.2.1 xa.1.2.2.2.1 xa.1.2.2.2.2.1))) 7 (E2.AF (fun xa xo => vunlike30 xa.1.1 xa.1.2.1 xa.1.2.2.1 xa.1.2.2.2.1 xa.1.2.2.2.2.1))) 8 (DJ.AF (fun xa xo => vCompile xa.1.1 xa.1.2.1 xa.1.2.2.1 xa.1.2.2.2.1 xa.1.2.2.2.2.1))) 9 (DK.AF (fun xa xo => vRight15 xa.1.1 xa.1.2.1 xa.1.2.2.1 xa.1.2.2.2.1 xa.1.2.2.2.2.1))) 12 (Fo.AF (fun xa xo => vstate15 xa.1.1 xa.1.2.1 xa.1.2.2.1 xa.1.2.2.2.1 xa.1.2.2.2.2.1 xa.2.1))) 15 (Fp.AF (fun xa xo => vcells27 xa.1.1 xa.1.2.1 xa.1.2.2.1 xa.1.2.2.2.1 xa.1.2.2.2.2.1 xa.2.1))) 17 (D7.AF (fun xa xo => vcubeOf xa.1))) 16 (Db.AF (fun xa xo => vcubeClause xa.1))) 11 (Fs.AF (fun xa xo => vlClause xa.1.1 xa.1.2.1 xa.1.2.2.1 xa.1.2.2.2.1 xa.1.2.2.2.2.1 xa.2.1.1 xa.2.1.2.1 xa.2.1.2.2.1 xa.2.1.2.2.2.1 xa.2.1.2.2.2.2.1 xa.2.2.1))) 10 (DW 0 (FH.AF (fun xa xo => vlLits xa.1.1 xa.1.2.1 xa.1.2.2.1 xa.1.2.2.2.1 xa.1.2.2.2.2.1 xa.2.1.1 xa.2.1.2.1 xa.2.1.2.2.1 xa.2.1.2.2.2.1 xa.2.1.2.2.2.2.1 xa.2.2.1)))) 13 (J7.AF (fun xa xo => vmet26 xa.1 xa.2.1))) 18 (J8.AF (fun xa xo => vsame8 xa.1 xa.2.1))) 19 (HW.AF (fun xa xo => vcHolds xa.1 xa.2.1))) ⟨false, false⟩ noL noJ) Tryz.f4 xa xo).run = SP vhead27 vfew27 vunlike30 vCompile vRight15 vstate15 vcells27 vcubeOf vcubeClause vlClause vlLits vmet26 vsame8 vcHolds xa.1.1 xa.1.2.1 xa.1.2.2.1 xa.1.2.2.2.1 xa.1.2.2.2.2.1 xa.2.1 xa.2.2.1 := by intros; kernel_rfl
def AGn := (AH (AH (AH (AH (AH (AH (AH (AH (AH (AH (AH (AH (AH (AH noS 14 (DW 0 (HX.AF (fun xa xo => LK )))) 6 (KM.AF (fun xa xo => OS xa.1.1 xa.1.2.1 xa.1.2.2.1 xa.1.2.2.2.1 xa.1.2.2.2.2.1))) 7 (E2.AF (fun xa xo => Ex xa.1.1 xa.1.2.1 xa.1.2.2.1 xa.1.2.2.2.1 xa.1.2.2.2.2.1))) 8 (DJ.AF (fun xa xo => DZ xa.1.1 xa.1.2.1 xa.1.2.2.1 xa.1.2.2.2.1 xa.1.2.2.2.2.1))) 9 (DK.AF (fun xa xo => Da xa.1.1 xa.1.2.1 xa.1.2.2.1 xa.1.2.2.2.1 xa.1.2.2.2.2.1))) 12 (Fo.AF (fun xa xo => GO xa.1.1 xa.1.2.1 xa.1.2.2.1 xa.1.2.2.2.1 xa.1.2.2.2.2.1 xa.2.1))) 15 (Fp.AF (fun xa xo => GP xa.1.1 xa.1.2.1 xa.1.2.2.1 xa.1.2.2.2.1 xa.1.2.2.2.2.1 xa.2.1))) 17 (D7.AF (fun xa xo => Ew xa.1))) 16 (Db.AF (fun xa xo => C7 xa.1))) 11 (Fs.AF (fun xa xo => GQ xa.1.1 xa.1.2.1 xa.1.2.2.1 xa.1.2.2.2.1 xa.1.2.2.2.2.1 xa.2.1.1 xa.2.1.2.1 xa.2.1.2.2.1 xa.2.1.2.2.2.1 xa.2.1.2.2.2.2.1 xa.2.2.1))) 10 (DW 0 (FH.AF (fun xa xo => HP xa.1.1 xa.1.2.1 xa.1.2.2.1 xa.1.2.2.2.1 xa.1.2.2.2.2.1 xa.2.1.1 xa.2.1.2.1 xa.2.1.2.2.1 xa.2.1.2.2.2.1 xa.2.1.2.2.2.2.1 xa.2.2.1)))) 13 (J7.AF (fun xa xo => OD xa.1 xa.2.1))) 18 (J8.AF (fun xa xo => OF xa.1 xa.2.1))) 19 (HW.AF (fun xa xo => HQ xa.1 xa.2.1)))
theorem WS : OKs AGn := (Ac (Ac (Ac (Ac (Ac (Ac (Ac (Ac (Ac (Ac (Ac (Ac (Ac (Ac Ny (Ap BD 14 (S := (DW 0 (HX.AF (fun xa xo => LK )))) (by kernel_rfl))) (Ap BD 6 (S := (KM.AF (fun xa xo => OS xa.1.1 xa.1.2.1 xa.1.2.2.1 xa.1.2.2.2.1 xa.1.2.2.2.2.1))) (by kernel_rfl))) (Ap BD 7 (S := (E2.AF (fun xa xo => Ex xa.1.1 xa.1.2.1 xa.1.2.2.1 xa.1.2.2.2.1 xa.1.2.2.2.2.1))) (by kernel_rfl))) (Ap BD 8 (S := (DJ.AF (fun xa xo => DZ xa.1.1 xa.1.2.1 xa.1.2.2.1 xa.1.2.2.2.1 xa.1.2.2.2.2.1))) (by kernel_rfl))) (Ap BD 9 (S := (DK.AF (fun xa xo => Da xa.1.1 xa.1.2.1 xa.1.2.2.1 xa.1.2.2.2.1 xa.1.2.2.2.2.1))) (by kernel_rfl))) (Ap BD 12 (S := (Fo.AF (fun xa xo => GO xa.1.1 xa.1.2.1 xa.1.2.2.1 xa.1.2.2.2.1 xa.1.2.2.2.2.1 xa.2.1))) (by kernel_rfl))) (Ap BD 15 (S := (Fp.AF (fun xa xo => GP xa.1.1 xa.1.2.1 xa.1.2.2.1 xa.1.2.2.2.1 xa.1.2.2.2.2.1 xa.2.1))) (by kernel_rfl))) (Ap BD 17 (S := (D7.AF (fun xa xo => Ew xa.1))) (by kernel_rfl))) (Ap BD 16 (S := (Db.AF (fun xa xo => C7 xa.1))) (by kernel_rfl))) (Ap BD 11 (S := (Fs.AF (fun xa xo => GQ xa.1.1 xa.1.2.1 xa.1.2.2.1 xa.1.2.2.2.1 xa.1.2.2.2.2.1 xa.2.1.1 xa.2.1.2.1 xa.2.1.2.2.1 xa.2.1.2.2.2.1 xa.2.1.2.2.2.2.1 xa.2.2.1))) (by kernel_rfl))) (Ap BD 10 (S := (DW 0 (FH.AF (fun xa xo => HP xa.1.1 xa.1.2.1 xa.1.2.2.1 xa.1.2.2.2.1 xa.1.2.2.2.2.1 xa.2.1.1 xa.2.1.2.1 xa.2.1.2.2.1 xa.2.1.2.2.2.1 xa.2.1.2.2.2.2.1 xa.2.2.1)))) (by kernel_rfl))) (Ap BD 13 (S := (J7.AF (fun xa xo => OD xa.1 xa.2.1))) (by kernel_rfl))) (Ap BD 18 (S := (J8.AF (fun xa xo => OF xa.1 xa.2.1))) (by kernel_rfl))) (Ap BD 19 (S := (HW.AF (fun xa xo => HQ xa.1 xa.2.1))) (by kernel_rfl)))
def AGo := AH WR 4 (DW 0 (HY.AF (fun xa xo => TopOwn xa.1.1 xa.1.2.1 xa.1.2.2.1 xa.1.2.2.2.1 xa.1.2.2.2.2.1 xa.2.1 xa.2.2.1)))
theorem WT : OKs AGo := HH BD WS fol Tryz.func4 (by kernel_rfl) (by kernel_rfl) 0 (by kernel_rfl) (ACx LK OS Ex DZ Da GO GP Ew C7 GQ HP OD OF HQ)
end AL
end
end
