/- The texts WSatC, WSatD, WCertA, WCertB, WCertC, WCertD, WCertE, WCertF, one behind the other. -/
import Derived.Test.YtjoemkjibcfgnaaGreatGB1
import Derived.Test.YtjoemkjibcfgnaaGreatProg
set_option linter.unusedVariables false
set_option linter.unusedSimpArgs false
section
/- Walks: the functions compute what their models say: SatC. -/
set_option linter.unusedVariables false
set_option maxHeartbeats 0
set_option maxRecDepth 100000
namespace GoSx
open Go Go.Proofs
def more_s : FSig := ⟨.own 3 int <| .val int <| .nil, [], .own 3 int <| .nil, []⟩
def more_L : Nat → Option LoopS := fun n =>
  none
def more_J : Nat → Option Shape := fun n =>
  none
set_option maxRecDepth 100000 in
theorem more_eq : ∀  xa xo, (more_s.prog (mkC Tryz.prog T_Clone_ ⟨false, false⟩ more_L more_J) Tryz.f105 xa xo).run = more  xa.1 xa.2.1 := by intros; kernel_rfl
noncomputable def T_more : FuncId → Summ := addS T_Clone_ 105 (more_s.summ (fun xa xo => more xa.1 xa.2.1))
theorem T_more_ok : ∀ g, SummOK Tryz.prog g (T_more g) := fn_ok T_Clone__ok fol Tryz.func105 (by kernel_rfl) (by kernel_rfl) (by kernel_rfl) more_eq

def grow_s : FSig := ⟨.obj 0 <| .val int <| .nil, [(130, .val int <| .skip <| .own2 48 3 int <| .own 3 int <| .own 3 int <| .own 3 int <| .own 3 int <| .own 3 int <| .skip <| .skip <| .skip <| .skip <| .skip <| .skip <| .skip <| .skip <| .skip <| .skip <| .nil)], .nil, []⟩
def grow_L : Nat → Option LoopS := fun n =>
  none
def grow_J : Nat → Option Shape := fun n =>
  none
set_option maxRecDepth 100000 in
theorem grow_eq : ∀  xa xo, (grow_s.prog (mkC Tryz.prog T_more ⟨false, false⟩ grow_L grow_J) Tryz.f76 xa xo).run = grow  xa.1 xo.1.1 xo.1.2.1 xo.1.2.2.1 xo.1.2.2.2.1 xo.1.2.2.2.2.1 xo.1.2.2.2.2.2.1 xo.1.2.2.2.2.2.2.1 := by intros; kernel_rfl
noncomputable def T_grow : FuncId → Summ := addS T_more 76 (grow_s.summ (fun xa xo => grow xa.1 xo.1.1 xo.1.2.1 xo.1.2.2.1 xo.1.2.2.2.1 xo.1.2.2.2.2.1 xo.1.2.2.2.2.2.1 xo.1.2.2.2.2.2.2.1))
theorem T_grow_ok : ∀ g, SummOK Tryz.prog g (T_grow g) := fn_ok T_more_ok fol Tryz.func76 (by kernel_rfl) (by kernel_rfl) (by kernel_rfl) grow_eq

def New_s : FSig := ⟨.val int <| .nil, [], .obj 0 <| .nil, [(130, .val int <| .own2 48 3 int <| .own2 48 3 int <| .own 3 int <| .own 3 int <| .own 3 int <| .own 3 int <| .own 3 int <| .own 3 int <| .val int <| .own 3 int <| .own 3 int <| .val int <| .val .bool <| .own 48 (.sl int) <| .val int <| .own 3 int <| .own 4 .bool <| .nil)]⟩
def New_L : Nat → Option LoopS := fun n =>
  none
def New_J : Nat → Option Shape := fun n =>
  none
set_option maxRecDepth 100000 in
theorem New_eq : ∀  xa xo, (New_s.prog (mkC Tryz.prog T_grow ⟨false, false⟩ New_L New_J) Tryz.f51 xa xo).run = New  xa.1 := by intros; kernel_rfl
noncomputable def T_New : FuncId → Summ := addS T_grow 51 (New_s.summ (fun xa xo => New xa.1))
theorem T_New_ok : ∀ g, SummOK Tryz.prog g (T_New g) := fn_ok T_grow_ok fol Tryz.func51 (by kernel_rfl) (by kernel_rfl) (by kernel_rfl) New_eq

def Grow_s : FSig := ⟨.obj 0 <| .val int <| .nil, [(130, .val int <| .skip <| .own2 48 3 int <| .own 3 int <| .own 3 int <| .own 3 int <| .own 3 int <| .own 3 int <| .skip <| .skip <| .skip <| .skip <| .skip <| .skip <| .skip <| .val int <| .own 3 int <| .own 4 .bool <| .nil)], .nil, []⟩
def Grow_L : Nat → Option LoopS := fun n =>
  none
def Grow_J : Nat → Option Shape := fun n =>
  none
set_option maxRecDepth 100000 in
theorem Grow_eq : ∀  xa xo, (Grow_s.prog (mkC Tryz.prog T_New ⟨false, false⟩ Grow_L Grow_J) Tryz.f103 xa xo).run = Grow  xa.1 xo.1.1 xo.1.2.1 xo.1.2.2.1 xo.1.2.2.2.1 xo.1.2.2.2.2.1 xo.1.2.2.2.2.2.1 xo.1.2.2.2.2.2.2.1 xo.1.2.2.2.2.2.2.2.1 xo.1.2.2.2.2.2.2.2.2.1 xo.1.2.2.2.2.2.2.2.2.2.1 := by intros; kernel_rfl
noncomputable def T_Grow : FuncId → Summ := addS T_New 103 (Grow_s.summ (fun xa xo => Grow xa.1 xo.1.1 xo.1.2.1 xo.1.2.2.1 xo.1.2.2.2.1 xo.1.2.2.2.2.1 xo.1.2.2.2.2.2.1 xo.1.2.2.2.2.2.2.1 xo.1.2.2.2.2.2.2.2.1 xo.1.2.2.2.2.2.2.2.2.1 xo.1.2.2.2.2.2.2.2.2.2.1))
theorem T_Grow_ok : ∀ g, SummOK Tryz.prog g (T_Grow g) := fn_ok T_New_ok fol Tryz.func103 (by kernel_rfl) (by kernel_rfl) (by kernel_rfl) Grow_eq

def Add_s : FSig := ⟨.obj 0 <| .val (.sl int) <| .nil, [(130, .val int <| .own2 48 3 int <| .own2 48 3 int <| .own 3 int <| .own 3 int <| .own 3 int <| .own 3 int <| .skip <| .skip <| .val int <| .own 3 int <| .own 3 int <| .val int <| .val .bool <| .skip <| .val int <| .own 3 int <| .own 4 .bool <| .nil)], .nil, []⟩
def Add_L (nn : Nat) : Nat → Option LoopS := fun n =>
  bif Nat.beq n 5 then some ⟨{ env := [(4, ASh.arr 49), (17, ASh.dat (Ty.int IntKind.i64))], heap := [(1, CSh.box 130 ((ASh.dat (Ty.int IntKind.i64)).cons ((ASh.arr 19).cons ((ASh.arr 20).cons ((ASh.arr 533).cons ((ASh.arr 22).cons ((ASh.arr 23).cons ((ASh.arr 536).cons ((ASh.opq 25).cons ((ASh.opq 26).cons ((ASh.dat (Ty.int IntKind.i64)).cons ((ASh.arr 540).cons ((ASh.arr 541).cons ((ASh.dat (Ty.int IntKind.i64)).cons ((ASh.dat Ty.bool).cons ((ASh.opq 32).cons ((ASh.dat (Ty.int IntKind.i64)).cons ((ASh.arr 161).cons ((ASh.arr 162).cons ASh.nil))))))))))))))))))), (49, CSh.arr 3 (Ty.int IntKind.i64))], keep := [0, 1, 15, 16], keepH := [19, 20, 533, 22, 23, 536, 540, 541, 161, 162] }, fun _ => nn⟩ else
  none
def Add_J : Nat → Option Shape := fun n =>
  none
set_option maxRecDepth 100000 in
theorem Add_eq : ∀ (nn : Nat)  xa xo, (Add_s.prog (mkC Tryz.prog T_Grow ⟨false, false⟩ (Add_L nn) Add_J) Tryz.f53 xa xo).run = AddF nn xa.1 xo.1.1 xo.1.2.1 xo.1.2.2.1 xo.1.2.2.2.1 xo.1.2.2.2.2.1 xo.1.2.2.2.2.2.1 xo.1.2.2.2.2.2.2.1 xo.1.2.2.2.2.2.2.2.1 xo.1.2.2.2.2.2.2.2.2.1 xo.1.2.2.2.2.2.2.2.2.2.1 xo.1.2.2.2.2.2.2.2.2.2.2.1 xo.1.2.2.2.2.2.2.2.2.2.2.2.1 xo.1.2.2.2.2.2.2.2.2.2.2.2.2.1 xo.1.2.2.2.2.2.2.2.2.2.2.2.2.2.1 xo.1.2.2.2.2.2.2.2.2.2.2.2.2.2.2.1 := by intros; kernel_rfl
noncomputable def T_Add : FuncId → Summ := addS T_Grow 53 (Add_s.summ (fun xa xo => Add xa.1 xo.1.1 xo.1.2.1 xo.1.2.2.1 xo.1.2.2.2.1 xo.1.2.2.2.2.1 xo.1.2.2.2.2.2.1 xo.1.2.2.2.2.2.2.1 xo.1.2.2.2.2.2.2.2.1 xo.1.2.2.2.2.2.2.2.2.1 xo.1.2.2.2.2.2.2.2.2.2.1 xo.1.2.2.2.2.2.2.2.2.2.2.1 xo.1.2.2.2.2.2.2.2.2.2.2.2.1 xo.1.2.2.2.2.2.2.2.2.2.2.2.2.1 xo.1.2.2.2.2.2.2.2.2.2.2.2.2.2.1 xo.1.2.2.2.2.2.2.2.2.2.2.2.2.2.2.1))
theorem T_Add_ok : ∀ g, SummOK Tryz.prog g (T_Add g) := fn_ok T_Grow_ok fol Tryz.func53 (by kernel_rfl) (by kernel_rfl) (by kernel_rfl) (Add_eq fuelN)

def Core_s : FSig := ⟨.obj 0 <| .nil, [(130, .skip <| .skip <| .skip <| .skip <| .skip <| .skip <| .skip <| .skip <| .skip <| .skip <| .skip <| .skip <| .skip <| .skip <| .skip <| .skip <| .lend (.sl int) <| .skip <| .nil)], .own 3 int <| .nil, []⟩
def Core_L : Nat → Option LoopS := fun n =>
  none
def Core_J : Nat → Option Shape := fun n =>
  none
set_option maxRecDepth 100000 in
theorem Core_eq : ∀  xa xo, (Core_s.prog (mkC Tryz.prog T_Add ⟨false, false⟩ Core_L Core_J) Tryz.f57 xa xo).run = Core  xo.1.1 := by intros; kernel_rfl
noncomputable def T_Core : FuncId → Summ := addS T_Add 57 (Core_s.summ (fun xa xo => Core xo.1.1))
theorem T_Core_ok : ∀ g, SummOK Tryz.prog g (T_Core g) := fn_ok T_Add_ok fol Tryz.func57 (by kernel_rfl) (by kernel_rfl) (by kernel_rfl) Core_eq

def Proof_s : FSig := ⟨.obj 0 <| .nil, [(130, .skip <| .skip <| .skip <| .skip <| .skip <| .skip <| .skip <| .skip <| .skip <| .skip <| .skip <| .skip <| .skip <| .skip <| .own 48 (.sl int) <| .val int <| .skip <| .skip <| .nil)], .own 48 (.sl int) <| .nil, []⟩
def Proof_L (nn : Nat) : Nat → Option LoopS := fun n =>
  bif Nat.beq n 5 then some ⟨{ env := [(3, ASh.arr 49), (16, ASh.dat (Ty.int IntKind.i64))], heap := [(49, CSh.arr 48 (Ty.int IntKind.i64).sl)], keep := [0, 2, 14, 15], keepH := [1, 31] }, fun _ => nn⟩ else
  none
def Proof_J : Nat → Option Shape := fun n =>
  none
set_option maxRecDepth 100000 in
theorem Proof_eq : ∀ (nn : Nat)  xa xo, (Proof_s.prog (mkC Tryz.prog T_Core ⟨false, false⟩ (Proof_L nn) Proof_J) Tryz.f56 xa xo).run = ProofF nn xo.1.1 xo.1.2.1 := by intros; kernel_rfl
noncomputable def T_Proof : FuncId → Summ := addS T_Core 56 (Proof_s.summ (fun xa xo => Proof xo.1.1 xo.1.2.1))
theorem T_Proof_ok : ∀ g, SummOK Tryz.prog g (T_Proof g) := fn_ok T_Core_ok fol Tryz.func56 (by kernel_rfl) (by kernel_rfl) (by kernel_rfl) (Proof_eq fuelN)

def blame_s : FSig := ⟨.obj 0 <| .val int <| .nil, [(130, .skip <| .own2 48 3 int <| .skip <| .skip <| .skip <| .lend (.sl int) <| .skip <| .skip <| .skip <| .skip <| .lend (.sl int) <| .lend (.sl int) <| .skip <| .skip <| .skip <| .skip <| .skip <| .skip <| .nil)], .own 3 int <| .nil, []⟩
def blame_L (nn : Nat) : Nat → Option LoopS := fun n =>
  bif Nat.beq n 4 then some ⟨{ env := [(7, ASh.dat (Ty.int IntKind.i64)), (5, ASh.arr 192)], heap := [(19, CSh.arr2 48 3 (Ty.int IntKind.i64) []), (192, CSh.arr 3 (Ty.int IntKind.i64)), (192, CSh.arr 3 (Ty.int IntKind.i64)), (320, CSh.mp (Ty.int IntKind.i64) Ty.bool)], keep := [0, 1, 4, 6], keepH := [1] }, fun _ => nn⟩ else
  bif Nat.beq n 11 then some ⟨{ env := [(85, ASh.dat (Ty.int IntKind.i64))], heap := [(320, CSh.mp (Ty.int IntKind.i64) Ty.bool)], keep := [0, 1, 4, 5, 6, 7, 8, 83, 84], keepH := [1, 19, 4672, 192] }, fun _ => nn⟩ else
  none
def blame_J : Nat → Option Shape := fun n =>
  none
set_option maxRecDepth 100000 in
theorem blame_eq : ∀ (nn : Nat)  xa xo, (blame_s.prog (mkC Tryz.prog T_Proof ⟨false, false⟩ (blame_L nn) blame_J) Tryz.f112 xa xo).run = blameF nn xa.1 xo.1.1 xo.1.2.1 xo.1.2.2.1 xo.1.2.2.2.1 := by intros; kernel_rfl
noncomputable def T_blame : FuncId → Summ := addS T_Proof 112 (blame_s.summ (fun xa xo => blame xa.1 xo.1.1 xo.1.2.1 xo.1.2.2.1 xo.1.2.2.2.1))
theorem T_blame_ok : ∀ g, SummOK Tryz.prog g (T_blame g) := fn_ok T_Proof_ok fol Tryz.func112 (by kernel_rfl) (by kernel_rfl) (by kernel_rfl) (blame_eq fuelN)

def learn_s : FSig := ⟨.obj 0 <| .val int <| .nil, [(130, .skip <| .own2 48 3 int <| .skip <| .lend (.sl int) <| .lend (.sl int) <| .lend (.sl int) <| .skip <| .own 3 int <| .own 3 int <| .skip <| .lend (.sl int) <| .lend (.sl int) <| .skip <| .skip <| .skip <| .skip <| .skip <| .skip <| .nil)], .own 3 int <| .val int <| .nil, []⟩
def learn_L (nn : Nat) : Nat → Option LoopS := fun n =>
  bif Nat.beq n 5 then some ⟨{ env := [(7, ASh.arr 320), (8, ASh.dat (Ty.int IntKind.i64)), (9, ASh.dat (Ty.int IntKind.i64)), (10, ASh.arr 1280)], heap := [(1, CSh.box 130 ((ASh.opq 18).cons ((ASh.arr 19).cons ((ASh.opq 20).cons ((ASh.idn 21 (Ty.int IntKind.i64).sl).cons ((ASh.idn 22 (Ty.int IntKind.i64).sl).cons ((ASh.idn 23 (Ty.int IntKind.i64).sl).cons ((ASh.opq 24).cons ((ASh.arr 25).cons ((ASh.arr 26).cons ((ASh.opq 27).cons ((ASh.idn 28 (Ty.int IntKind.i64).sl).cons ((ASh.idn 29 (Ty.int IntKind.i64).sl).cons ((ASh.opq 30).cons ((ASh.opq 31).cons ((ASh.opq 32).cons ((ASh.opq 33).cons ((ASh.opq 34).cons ((ASh.opq 35).cons ASh.nil))))))))))))))))))), (19, CSh.arr2 48 3 (Ty.int IntKind.i64) [1280]), (1280, CSh.arr 3 (Ty.int IntKind.i64)), (1280, CSh.arr 3 (Ty.int IntKind.i64)), (25, CSh.arr 3 (Ty.int IntKind.i64)), (26, CSh.arr 3 (Ty.int IntKind.i64)), (192, CSh.mp (Ty.int IntKind.i64) Ty.bool), (320, CSh.arr 3 (Ty.int IntKind.i64))], keep := [0, 1, 4, 5, 6], keepH := [] }, fun _ => nn⟩ else
  bif Nat.beq n 6 then some ⟨{ env := [(34, ASh.dat (Ty.int IntKind.i64)), (8, ASh.dat (Ty.int IntKind.i64)), (7, ASh.arr 320)], heap := [(1, CSh.box 130 ((ASh.opq 18).cons ((ASh.arr 19).cons ((ASh.opq 20).cons ((ASh.idn 21 (Ty.int IntKind.i64).sl).cons ((ASh.idn 22 (Ty.int IntKind.i64).sl).cons ((ASh.idn 23 (Ty.int IntKind.i64).sl).cons ((ASh.opq 24).cons ((ASh.arr 25).cons ((ASh.arr 26).cons ((ASh.opq 27).cons ((ASh.idn 28 (Ty.int IntKind.i64).sl).cons ((ASh.idn 29 (Ty.int IntKind.i64).sl).cons ((ASh.opq 30).cons ((ASh.opq 31).cons ((ASh.opq 32).cons ((ASh.opq 33).cons ((ASh.opq 34).cons ((ASh.opq 35).cons ASh.nil))))))))))))))))))), (25, CSh.arr 3 (Ty.int IntKind.i64)), (26, CSh.arr 3 (Ty.int IntKind.i64)), (192, CSh.mp (Ty.int IntKind.i64) Ty.bool), (320, CSh.arr 3 (Ty.int IntKind.i64)), (320, CSh.arr 3 (Ty.int IntKind.i64))], keep := [0, 1, 4, 5, 6, 9, 10, 32, 33], keepH := [19, 1280] }, fun _ => nn⟩ else
  bif Nat.beq n 19 then some ⟨{ env := [(9, ASh.dat (Ty.int IntKind.i64))], heap := [], keep := [0, 1, 4, 5, 6, 7, 8, 10, 32, 33, 34], keepH := [1, 19, 1280, 25, 26, 192, 320] }, fun _ => nn⟩ else
  bif Nat.beq n 28 then some ⟨{ env := [(15, ASh.dat (Ty.int IntKind.i64)), (16, ASh.dat (Ty.int IntKind.i64))], heap := [(320, CSh.arr 3 (Ty.int IntKind.i64))], keep := [0, 1, 4, 5, 6, 7, 8, 9, 10, 14, 32, 33, 34], keepH := [1, 19, 1280, 25, 26, 192] }, fun _ => nn⟩ else
  none
def learn_J : Nat → Option Shape := fun n =>
  none
set_option maxRecDepth 100000 in
theorem learn_eq : ∀ (nn : Nat)  xa xo, (learn_s.prog (mkC Tryz.prog T_blame ⟨false, true⟩ (learn_L nn) learn_J) Tryz.f126 xa xo).run = learnF nn xa.1 xo.1.1 xo.1.2.1 xo.1.2.2.1 xo.1.2.2.2.1 xo.1.2.2.2.2.1 xo.1.2.2.2.2.2.1 xo.1.2.2.2.2.2.2.1 xo.1.2.2.2.2.2.2.2.1 := by intros; kernel_rfl
noncomputable def T_learn : FuncId → Summ := addS T_blame 126 (learn_s.summ (fun xa xo => learn xa.1 xo.1.1 xo.1.2.1 xo.1.2.2.1 xo.1.2.2.2.1 xo.1.2.2.2.2.1 xo.1.2.2.2.2.2.1 xo.1.2.2.2.2.2.2.1 xo.1.2.2.2.2.2.2.2.1))
theorem T_learn_ok : ∀ g, SummOK Tryz.prog g (T_learn g) := fn_ok T_blame_ok fol Tryz.func126 (by kernel_rfl) (by kernel_rfl) (by kernel_rfl) (learn_eq fuelN)

def unit_s : FSig := ⟨.obj 0 <| .nil, [(130, .skip <| .own2 48 3 int <| .own2 48 3 int <| .own 3 int <| .own 3 int <| .own 3 int <| .skip <| .skip <| .skip <| .skip <| .own 3 int <| .lend (.sl int) <| .val int <| .skip <| .skip <| .skip <| .skip <| .skip <| .nil)], .val int <| .nil, []⟩
def unit_L (nn : Nat) : Nat → Option LoopS := fun n =>
  bif Nat.beq n 1 then some ⟨{ env := [], heap := [(1, CSh.box 130 ((ASh.opq 17).cons ((ASh.arr 18).cons ((ASh.arr 19).cons ((ASh.arr 20).cons ((ASh.arr 21).cons ((ASh.arr 22).cons ((ASh.opq 23).cons ((ASh.opq 24).cons ((ASh.opq 25).cons ((ASh.opq 26).cons ((ASh.arr 27).cons ((ASh.idn 28 (Ty.int IntKind.i64).sl).cons ((ASh.dat (Ty.int IntKind.i64)).cons ((ASh.opq 30).cons ((ASh.opq 31).cons ((ASh.opq 32).cons ((ASh.opq 33).cons ((ASh.opq 34).cons ASh.nil))))))))))))))))))), (18, CSh.arr2 48 3 (Ty.int IntKind.i64) []), (19, CSh.arr2 48 3 (Ty.int IntKind.i64) []), (20, CSh.arr 3 (Ty.int IntKind.i64)), (21, CSh.arr 3 (Ty.int IntKind.i64)), (22, CSh.arr 3 (Ty.int IntKind.i64)), (27, CSh.arr 3 (Ty.int IntKind.i64))], keep := [0, 2], keepH := [] }, fun _ => nn⟩ else
  bif Nat.beq n 7 then some ⟨{ env := [(5, ASh.dat (Ty.int IntKind.i64)), (48, ASh.dat (Ty.int IntKind.i64))], heap := [(1, CSh.box 130 ((ASh.opq 17).cons ((ASh.arr 18).cons ((ASh.arr 19).cons ((ASh.arr 20).cons ((ASh.arr 21).cons ((ASh.arr 22).cons ((ASh.opq 23).cons ((ASh.opq 24).cons ((ASh.opq 25).cons ((ASh.opq 26).cons ((ASh.arr 27).cons ((ASh.idn 28 (Ty.int IntKind.i64).sl).cons ((ASh.dat (Ty.int IntKind.i64)).cons ((ASh.opq 30).cons ((ASh.opq 31).cons ((ASh.opq 32).cons ((ASh.opq 33).cons ((ASh.opq 34).cons ASh.nil))))))))))))))))))), (18, CSh.arr2 48 3 (Ty.int IntKind.i64) []), (19, CSh.arr2 48 3 (Ty.int IntKind.i64) [2496]), (2496, CSh.arr 3 (Ty.int IntKind.i64)), (20, CSh.arr 3 (Ty.int IntKind.i64)), (21, CSh.arr 3 (Ty.int IntKind.i64)), (22, CSh.arr 3 (Ty.int IntKind.i64)), (27, CSh.arr 3 (Ty.int IntKind.i64))], keep := [0, 2, 3, 4, 46, 47], keepH := [] }, fun _ => nn⟩ else
  bif Nat.beq n 16 then some ⟨{ env := [(9, ASh.dat (Ty.int IntKind.i64))], heap := [(1, CSh.box 130 ((ASh.opq 17).cons ((ASh.arr 18).cons ((ASh.arr 19).cons ((ASh.arr 20).cons ((ASh.arr 21).cons ((ASh.arr 22).cons ((ASh.opq 23).cons ((ASh.opq 24).cons ((ASh.opq 25).cons ((ASh.opq 26).cons ((ASh.arr 27).cons ((ASh.idn 28 (Ty.int IntKind.i64).sl).cons ((ASh.dat (Ty.int IntKind.i64)).cons ((ASh.opq 30).cons ((ASh.opq 31).cons ((ASh.opq 32).cons ((ASh.opq 33).cons ((ASh.opq 34).cons ASh.nil)))))))))))))))))))], keep := [0, 2, 3, 4, 5, 6, 7, 8, 46, 47, 48], keepH := [18, 3648, 19, 2496, 20, 21, 22, 27] }, fun _ => nn⟩ else
  none
def unit_J : Nat → Option Shape := fun n =>
  bif Nat.beq n 12 then some ({ env := [], heap := [(3648, CSh.arr 3 (Ty.int IntKind.i64))], keep := [0, 2, 3, 4, 5, 6, 7, 8, 46, 47, 48], keepH := [1, 18, 19, 2496, 20, 21, 22, 27] }) else
  bif Nat.beq n 21 then some ({ env := [(9, ASh.dat (Ty.int IntKind.i64))], heap := [(1, CSh.box 130 ((ASh.opq 17).cons ((ASh.arr 18).cons ((ASh.arr 19).cons ((ASh.arr 20).cons ((ASh.arr 21).cons ((ASh.arr 22).cons ((ASh.opq 23).cons ((ASh.opq 24).cons ((ASh.opq 25).cons ((ASh.opq 26).cons ((ASh.arr 27).cons ((ASh.idn 28 (Ty.int IntKind.i64).sl).cons ((ASh.dat (Ty.int IntKind.i64)).cons ((ASh.opq 30).cons ((ASh.opq 31).cons ((ASh.opq 32).cons ((ASh.opq 33).cons ((ASh.opq 34).cons ASh.nil)))))))))))))))))))], keep := [0, 2, 3, 4, 5, 6, 7, 8, 46, 47, 48], keepH := [18, 3648, 19, 2496, 20, 21, 22, 27] }) else
  bif Nat.beq n 29 then some ({ env := [(5, ASh.dat (Ty.int IntKind.i64)), (46, ASh.arr 2496), (47, ASh.dat (Ty.int IntKind.i64)), (48, ASh.dat (Ty.int IntKind.i64))], heap := [(1, CSh.box 130 ((ASh.opq 17).cons ((ASh.arr 18).cons ((ASh.arr 19).cons ((ASh.arr 20).cons ((ASh.arr 21).cons ((ASh.arr 22).cons ((ASh.opq 23).cons ((ASh.opq 24).cons ((ASh.opq 25).cons ((ASh.opq 26).cons ((ASh.arr 27).cons ((ASh.idn 28 (Ty.int IntKind.i64).sl).cons ((ASh.dat (Ty.int IntKind.i64)).cons ((ASh.opq 30).cons ((ASh.opq 31).cons ((ASh.opq 32).cons ((ASh.opq 33).cons ((ASh.opq 34).cons ASh.nil))))))))))))))))))), (18, CSh.arr2 48 3 (Ty.int IntKind.i64) []), (19, CSh.arr2 48 3 (Ty.int IntKind.i64) [2496]), (2496, CSh.arr 3 (Ty.int IntKind.i64)), (20, CSh.arr 3 (Ty.int IntKind.i64)), (21, CSh.arr 3 (Ty.int IntKind.i64)), (22, CSh.arr 3 (Ty.int IntKind.i64)), (27, CSh.arr 3 (Ty.int IntKind.i64))], keep := [0, 2, 3, 4], keepH := [] }) else
  none
set_option maxRecDepth 100000 in
theorem unit_eq : ∀ (nn : Nat)  xa xo, (unit_s.prog (mkC Tryz.prog T_learn ⟨false, false⟩ (unit_L nn) unit_J) Tryz.f110 xa xo).run = unitF nn xo.1.1 xo.1.2.1 xo.1.2.2.1 xo.1.2.2.2.1 xo.1.2.2.2.2.1 xo.1.2.2.2.2.2.1 xo.1.2.2.2.2.2.2.1 xo.1.2.2.2.2.2.2.2.1 := by intros; kernel_rfl
noncomputable def T_unit : FuncId → Summ := addS T_learn 110 (unit_s.summ (fun xa xo => unit xo.1.1 xo.1.2.1 xo.1.2.2.1 xo.1.2.2.2.1 xo.1.2.2.2.2.1 xo.1.2.2.2.2.2.1 xo.1.2.2.2.2.2.2.1 xo.1.2.2.2.2.2.2.2.1))
theorem T_unit_ok : ∀ g, SummOK Tryz.prog g (T_unit g) := fn_ok T_learn_ok fol Tryz.func110 (by kernel_rfl) (by kernel_rfl) (by kernel_rfl) (unit_eq fuelN)

end GoSx
end
section
/- Walks: the functions compute what their models say: SatD. -/
set_option linter.unusedVariables false
set_option maxHeartbeats 0
set_option maxRecDepth 100000
namespace GoSx
open Go Go.Proofs
def take_s : FSig := ⟨.obj 0 <| .val int <| .nil, [(130, .skip <| .own2 48 3 int <| .own2 48 3 int <| .own 3 int <| .own 3 int <| .own 3 int <| .own 3 int <| .own 3 int <| .own 3 int <| .val int <| .own 3 int <| .own 3 int <| .val int <| .skip <| .own 48 (.sl int) <| .skip <| .skip <| .skip <| .nil)], .nil, []⟩
def take_L : Nat → Option LoopS := fun n =>
  none
def take_J : Nat → Option Shape := fun n =>
  none
set_option maxRecDepth 100000 in
theorem take_eq : ∀  xa xo, (take_s.prog (mkC Tryz.prog T_unit ⟨false, false⟩ take_L take_J) Tryz.f111 xa xo).run = take  xa.1 xo.1.1 xo.1.2.1 xo.1.2.2.1 xo.1.2.2.2.1 xo.1.2.2.2.2.1 xo.1.2.2.2.2.2.1 xo.1.2.2.2.2.2.2.1 xo.1.2.2.2.2.2.2.2.1 xo.1.2.2.2.2.2.2.2.2.1 xo.1.2.2.2.2.2.2.2.2.2.1 xo.1.2.2.2.2.2.2.2.2.2.2.1 xo.1.2.2.2.2.2.2.2.2.2.2.2.1 xo.1.2.2.2.2.2.2.2.2.2.2.2.2.1 := by intros; kernel_rfl
noncomputable def T_take : FuncId → Summ := addS T_unit 111 (take_s.summ (fun xa xo => take xa.1 xo.1.1 xo.1.2.1 xo.1.2.2.1 xo.1.2.2.2.1 xo.1.2.2.2.2.1 xo.1.2.2.2.2.2.1 xo.1.2.2.2.2.2.2.1 xo.1.2.2.2.2.2.2.2.1 xo.1.2.2.2.2.2.2.2.2.1 xo.1.2.2.2.2.2.2.2.2.2.1 xo.1.2.2.2.2.2.2.2.2.2.2.1 xo.1.2.2.2.2.2.2.2.2.2.2.2.1 xo.1.2.2.2.2.2.2.2.2.2.2.2.2.1))
theorem T_take_ok : ∀ g, SummOK Tryz.prog g (T_take g) := fn_ok T_unit_ok fol Tryz.func111 (by kernel_rfl) (by kernel_rfl) (by kernel_rfl) take_eq

def search_s : FSig := ⟨.obj 0 <| .val (.sl int) <| .val int <| .nil, [(130, .val int <| .own2 48 3 int <| .own2 48 3 int <| .own 3 int <| .own 3 int <| .own 3 int <| .own 3 int <| .own 3 int <| .own 3 int <| .val int <| .own 3 int <| .own 3 int <| .val int <| .val .bool <| .own 48 (.sl int) <| .skip <| .own 3 int <| .skip <| .nil)], .val int <| .nil, []⟩
def search_L (nn : Nat) : Nat → Option LoopS := fun n =>
  bif Nat.beq n 2 then some ⟨{ env := [(7, ASh.dat (Ty.int IntKind.i64))], heap := [(1, CSh.box 130 ((ASh.dat (Ty.int IntKind.i64)).cons ((ASh.arr 20).cons ((ASh.arr 21).cons ((ASh.arr 22).cons ((ASh.arr 23).cons ((ASh.arr 24).cons ((ASh.arr 25).cons ((ASh.arr 26).cons ((ASh.arr 27).cons ((ASh.dat (Ty.int IntKind.i64)).cons ((ASh.arr 29).cons ((ASh.arr 30).cons ((ASh.dat (Ty.int IntKind.i64)).cons ((ASh.dat Ty.bool).cons ((ASh.arr 33).cons ((ASh.opq 34).cons ((ASh.arr 35).cons ((ASh.opq 36).cons ASh.nil))))))))))))))))))), (20, CSh.arr2 48 3 (Ty.int IntKind.i64) []), (21, CSh.arr2 48 3 (Ty.int IntKind.i64) []), (22, CSh.arr 3 (Ty.int IntKind.i64)), (23, CSh.arr 3 (Ty.int IntKind.i64)), (24, CSh.arr 3 (Ty.int IntKind.i64)), (25, CSh.arr 3 (Ty.int IntKind.i64)), (26, CSh.arr 3 (Ty.int IntKind.i64)), (27, CSh.arr 3 (Ty.int IntKind.i64)), (29, CSh.arr 3 (Ty.int IntKind.i64)), (30, CSh.arr 3 (Ty.int IntKind.i64)), (33, CSh.arr 48 (Ty.int IntKind.i64).sl)], keep := [0, 1, 2, 6], keepH := [35] }, fun _ => nn⟩ else
  bif Nat.beq n 12 then some ⟨{ env := [], heap := [(1, CSh.box 130 ((ASh.dat (Ty.int IntKind.i64)).cons ((ASh.arr 274).cons ((ASh.arr 275).cons ((ASh.arr 276).cons ((ASh.arr 277).cons ((ASh.arr 278).cons ((ASh.arr 25).cons ((ASh.arr 26).cons ((ASh.arr 27).cons ((ASh.dat (Ty.int IntKind.i64)).cons ((ASh.arr 283).cons ((ASh.arr 30).cons ((ASh.dat (Ty.int IntKind.i64)).cons ((ASh.dat Ty.bool).cons ((ASh.arr 33).cons ((ASh.opq 34).cons ((ASh.arr 35).cons ((ASh.opq 36).cons ASh.nil))))))))))))))))))), (30, CSh.arr 3 (Ty.int IntKind.i64))], keep := [0, 1, 2, 6, 7, 8, 9], keepH := [274, 275, 276, 277, 278, 25, 26, 27, 283, 33, 35] }, fun _ => nn⟩ else
  none
def search_J : Nat → Option Shape := fun n =>
  none
set_option maxRecDepth 100000 in
theorem search_eq : ∀ (nn : Nat)  xa xo, (search_s.prog (mkC Tryz.prog T_take ⟨false, false⟩ (search_L nn) search_J) Tryz.f84 xa xo).run = searchF nn xa.1 xa.2.1 xo.1.1 xo.1.2.1 xo.1.2.2.1 xo.1.2.2.2.1 xo.1.2.2.2.2.1 xo.1.2.2.2.2.2.1 xo.1.2.2.2.2.2.2.1 xo.1.2.2.2.2.2.2.2.1 xo.1.2.2.2.2.2.2.2.2.1 xo.1.2.2.2.2.2.2.2.2.2.1 xo.1.2.2.2.2.2.2.2.2.2.2.1 xo.1.2.2.2.2.2.2.2.2.2.2.2.1 xo.1.2.2.2.2.2.2.2.2.2.2.2.2.1 xo.1.2.2.2.2.2.2.2.2.2.2.2.2.2.1 xo.1.2.2.2.2.2.2.2.2.2.2.2.2.2.2.1 xo.1.2.2.2.2.2.2.2.2.2.2.2.2.2.2.2.1 := by intros; kernel_rfl
noncomputable def T_search : FuncId → Summ := addS T_take 84 (search_s.summ (fun xa xo => search xa.1 xa.2.1 xo.1.1 xo.1.2.1 xo.1.2.2.1 xo.1.2.2.2.1 xo.1.2.2.2.2.1 xo.1.2.2.2.2.2.1 xo.1.2.2.2.2.2.2.1 xo.1.2.2.2.2.2.2.2.1 xo.1.2.2.2.2.2.2.2.2.1 xo.1.2.2.2.2.2.2.2.2.2.1 xo.1.2.2.2.2.2.2.2.2.2.2.1 xo.1.2.2.2.2.2.2.2.2.2.2.2.1 xo.1.2.2.2.2.2.2.2.2.2.2.2.2.1 xo.1.2.2.2.2.2.2.2.2.2.2.2.2.2.1 xo.1.2.2.2.2.2.2.2.2.2.2.2.2.2.2.1 xo.1.2.2.2.2.2.2.2.2.2.2.2.2.2.2.2.1))
theorem T_search_ok : ∀ g, SummOK Tryz.prog g (T_search g) := fn_ok T_take_ok fol Tryz.func84 (by kernel_rfl) (by kernel_rfl) (by kernel_rfl) (search_eq fuelN)

def Ask_s : FSig := ⟨.obj 0 <| .val (.sl int) <| .val int <| .nil, [(130, .val int <| .own2 48 3 int <| .own2 48 3 int <| .own 3 int <| .own 3 int <| .own 3 int <| .own 3 int <| .own 3 int <| .own 3 int <| .val int <| .own 3 int <| .own 3 int <| .val int <| .val .bool <| .own 48 (.sl int) <| .val int <| .own 3 int <| .own 4 .bool <| .nil)], .val int <| .nil, []⟩
def Ask_L (nn : Nat) : Nat → Option LoopS := fun n =>
  bif Nat.beq n 11 then some ⟨{ env := [(7, ASh.dat (Ty.int IntKind.i64))], heap := [(1, CSh.box 130 ((ASh.dat (Ty.int IntKind.i64)).cons ((ASh.arr 49).cons ((ASh.arr 50).cons ((ASh.arr 51).cons ((ASh.arr 52).cons ((ASh.arr 53).cons ((ASh.arr 54).cons ((ASh.arr 55).cons ((ASh.arr 56).cons ((ASh.dat (Ty.int IntKind.i64)).cons ((ASh.arr 57).cons ((ASh.arr 58).cons ((ASh.dat (Ty.int IntKind.i64)).cons ((ASh.dat Ty.bool).cons ((ASh.arr 59).cons ((ASh.dat (Ty.int IntKind.i64)).cons ((ASh.arr 60).cons ((ASh.arr 226).cons ASh.nil))))))))))))))))))), (226, CSh.arr 4 Ty.bool)], keep := [0, 1, 2, 6, 37], keepH := [49, 50, 51, 52, 53, 54, 55, 56, 57, 58, 59, 60] }, fun _ => nn⟩ else
  bif Nat.beq n 17 then some ⟨{ env := [(8, ASh.arr 61), (69, ASh.dat (Ty.int IntKind.i64))], heap := [(61, CSh.arr 3 (Ty.int IntKind.i64))], keep := [0, 1, 2, 6, 37, 67, 68], keepH := [1, 49, 50, 51, 52, 53, 54, 55, 56, 57, 58, 59, 60, 226] }, fun _ => nn⟩ else
  none
def Ask_J : Nat → Option Shape := fun n =>
  bif Nat.beq n 8 then some ({ env := [], heap := [(1, CSh.box 130 ((ASh.dat (Ty.int IntKind.i64)).cons ((ASh.arr 49).cons ((ASh.arr 50).cons ((ASh.arr 51).cons ((ASh.arr 52).cons ((ASh.arr 53).cons ((ASh.arr 54).cons ((ASh.arr 55).cons ((ASh.arr 56).cons ((ASh.dat (Ty.int IntKind.i64)).cons ((ASh.arr 57).cons ((ASh.arr 58).cons ((ASh.dat (Ty.int IntKind.i64)).cons ((ASh.dat Ty.bool).cons ((ASh.arr 59).cons ((ASh.dat (Ty.int IntKind.i64)).cons ((ASh.arr 60).cons ((ASh.arr 226).cons ASh.nil))))))))))))))))))), (49, CSh.arr2 48 3 (Ty.int IntKind.i64) []), (50, CSh.arr2 48 3 (Ty.int IntKind.i64) []), (51, CSh.arr 3 (Ty.int IntKind.i64)), (52, CSh.arr 3 (Ty.int IntKind.i64)), (53, CSh.arr 3 (Ty.int IntKind.i64)), (54, CSh.arr 3 (Ty.int IntKind.i64)), (55, CSh.arr 3 (Ty.int IntKind.i64)), (56, CSh.arr 3 (Ty.int IntKind.i64)), (57, CSh.arr 3 (Ty.int IntKind.i64)), (58, CSh.arr 3 (Ty.int IntKind.i64)), (59, CSh.arr 48 (Ty.int IntKind.i64).sl), (60, CSh.arr 3 (Ty.int IntKind.i64))], keep := [0, 1, 2, 6], keepH := [226] }) else
  none
set_option maxRecDepth 100000 in
theorem Ask_eq : ∀ (nn : Nat)  xa xo, (Ask_s.prog (mkC Tryz.prog T_search ⟨false, false⟩ (Ask_L nn) Ask_J) Tryz.f54 xa xo).run = AskF nn xa.1 xa.2.1 xo.1.1 xo.1.2.1 xo.1.2.2.1 xo.1.2.2.2.1 xo.1.2.2.2.2.1 xo.1.2.2.2.2.2.1 xo.1.2.2.2.2.2.2.1 xo.1.2.2.2.2.2.2.2.1 xo.1.2.2.2.2.2.2.2.2.1 xo.1.2.2.2.2.2.2.2.2.2.1 xo.1.2.2.2.2.2.2.2.2.2.2.1 xo.1.2.2.2.2.2.2.2.2.2.2.2.1 xo.1.2.2.2.2.2.2.2.2.2.2.2.2.1 xo.1.2.2.2.2.2.2.2.2.2.2.2.2.2.1 xo.1.2.2.2.2.2.2.2.2.2.2.2.2.2.2.1 xo.1.2.2.2.2.2.2.2.2.2.2.2.2.2.2.2.1 xo.1.2.2.2.2.2.2.2.2.2.2.2.2.2.2.2.2.1 xo.1.2.2.2.2.2.2.2.2.2.2.2.2.2.2.2.2.2.1 := by intros; kernel_rfl
noncomputable def T_Ask : FuncId → Summ := addS T_search 54 (Ask_s.summ (fun xa xo => Ask xa.1 xa.2.1 xo.1.1 xo.1.2.1 xo.1.2.2.1 xo.1.2.2.2.1 xo.1.2.2.2.2.1 xo.1.2.2.2.2.2.1 xo.1.2.2.2.2.2.2.1 xo.1.2.2.2.2.2.2.2.1 xo.1.2.2.2.2.2.2.2.2.1 xo.1.2.2.2.2.2.2.2.2.2.1 xo.1.2.2.2.2.2.2.2.2.2.2.1 xo.1.2.2.2.2.2.2.2.2.2.2.2.1 xo.1.2.2.2.2.2.2.2.2.2.2.2.2.1 xo.1.2.2.2.2.2.2.2.2.2.2.2.2.2.1 xo.1.2.2.2.2.2.2.2.2.2.2.2.2.2.2.1 xo.1.2.2.2.2.2.2.2.2.2.2.2.2.2.2.2.1 xo.1.2.2.2.2.2.2.2.2.2.2.2.2.2.2.2.2.1 xo.1.2.2.2.2.2.2.2.2.2.2.2.2.2.2.2.2.2.1))
theorem T_Ask_ok : ∀ g, SummOK Tryz.prog g (T_Ask g) := fn_ok T_search_ok fol Tryz.func54 (by kernel_rfl) (by kernel_rfl) (by kernel_rfl) (Ask_eq fuelN)

end GoSx
end
section
/- Walks: the functions compute what their models say: CertA. -/
set_option linter.unusedVariables false
set_option maxHeartbeats 0
set_option maxRecDepth 100000
namespace GoSx
open Go Go.Proofs
def pvar_s : FSig := ⟨.val int <| .nil, [], .val int <| .nil, []⟩
def pvar_L : Nat → Option LoopS := fun n =>
  none
def pvar_J : Nat → Option Shape := fun n =>
  none
set_option maxRecDepth 100000 in
theorem pvar_eq : ∀  xa xo, (pvar_s.prog (mkC Tryz.prog T_Ask ⟨false, false⟩ pvar_L pvar_J) Tryz.f127 xa xo).run = pvar  xa.1 := by intros; kernel_rfl
noncomputable def T_pvar : FuncId → Summ := addS T_Ask 127 (pvar_s.summ (fun xa xo => pvar xa.1))
theorem T_pvar_ok : ∀ g, SummOK Tryz.prog g (T_pvar g) := fn_ok T_Ask_ok fol Tryz.func127 (by kernel_rfl) (by kernel_rfl) (by kernel_rfl) pvar_eq

def pRight_s : FSig := ⟨.lend (.sl (.sl int)) <| .val int <| .nil, [], .val .bool <| .nil, []⟩
def pRight_L (nn : Nat) : Nat → Option LoopS := fun n =>
  bif Nat.beq n 4 then some ⟨{ env := [(18, ASh.dat (Ty.int IntKind.i64))], heap := [], keep := [0, 1, 4, 16, 17], keepH := [] }, fun _ => nn⟩ else
  bif Nat.beq n 7 then some ⟨{ env := [(24, ASh.dat (Ty.int IntKind.i64))], heap := [], keep := [0, 1, 4, 6, 16, 17, 18, 22, 23], keepH := [] }, fun _ => nn⟩ else
  none
def pRight_J : Nat → Option Shape := fun n =>
  none
set_option maxRecDepth 100000 in
theorem pRight_eq : ∀ (nn : Nat)  xa xo, (pRight_s.prog (mkC Tryz.prog T_pvar ⟨false, false⟩ (pRight_L nn) pRight_J) Tryz.f117 xa xo).run = pRightF nn xa.1 xa.2.1 := by intros; kernel_rfl
noncomputable def T_pRight : FuncId → Summ := addS T_pvar 117 (pRight_s.summ (fun xa xo => pRight xa.1 xa.2.1))
theorem T_pRight_ok : ∀ g, SummOK Tryz.prog g (T_pRight g) := fn_ok T_pvar_ok fol Tryz.func117 (by kernel_rfl) (by kernel_rfl) (by kernel_rfl) (pRight_eq fuelN)

section
open Go.Conc Go.RowKit
theorem tmps29 (p x : Value) : #[p, x] ++ Array.replicate 27 undef = #[p, x, undef, undef, undef, undef, undef, undef, undef, undef, undef, undef, undef, undef, undef, undef, undef, undef, undef, undef, undef, undef, undef, undef, undef, undef, undef, undef, undef] := by
  rw [← Array.toList_inj]; simp [List.replicate]

theorem take_false (g gm : Nat) (x : Int) (w : World)
   (hl2 : w.cell? ⟨g, 2, none⟩ = some (.map (some gm)))
   (hlk : (Instr.lookup 164 (.map (some gm)) (.int .i64 (IntKind.i64.wrap (-x))) false).run Tryz.prog w = .ok (.bool true) w)  :
   Calls Tryz.prog 128 #[.pointer (some ⟨g, 0, none⟩), .int .i64 x] w (fun e w' => ∃ v, e = .returned v ∧ v = .bool false ∧ w' = w) := by
  refine Go.Conc.calls_of_loneTo (fun cs => ?_) (by rintro w' ⟨_, h, _⟩; cases h)
  rw [enter_at (c := Tryz.f128.body.getD .skip) _ Tryz.func128 (by kernel_rfl)]
  refine LoneTo.goes (n := 40) ?_
  simp only [Tryz.f128, Option.getD_some, List.size_toArray, List.length_cons, List.length_nil, Nat.reduceAdd, Nat.zero_add, Nat.reduceSub, tmps29]
  s_c stepG_seq
  s_reg
  s_op
  s_c stepG_region_end
  s_c stepG_seq
  s_c stepG_seq
  s_reg
  s_op
  s_op
  s_op
  s_op
  s_op
  s_op
  s_op
  s_c stepG_region_end
  s_cond true
  s_c stepG_seq
  s_reg
  s_op
  s_c stepG_region_end
  s_c stepG_ret'
  s_stop
  exact LoneTo.done ⟨.returned (.bool false), _, rfl, ⟨_, rfl, rfl, rfl⟩, rfl, rfl, rfl, rfl, _, Tryz.func128, by simp [results, Tryz.f128, Frame.at]⟩

theorem take_true (g gm : Nat) (x : Int) (w : World)
   (hl2 : w.cell? ⟨g, 2, none⟩ = some (.map (some gm)))
   (hlk : (Instr.lookup 164 (.map (some gm)) (.int .i64 (IntKind.i64.wrap (-x))) false).run Tryz.prog w = .ok (.bool false) w) 
   (hlk2 : (Instr.lookup 164 (.map (some gm)) (.int .i64 x) false).run Tryz.prog w = .ok (.bool true) w)  :
   Calls Tryz.prog 128 #[.pointer (some ⟨g, 0, none⟩), .int .i64 x] w (fun e w' => ∃ v, e = .returned v ∧ v = .bool true ∧ w' = w) := by
  refine Go.Conc.calls_of_loneTo (fun cs => ?_) (by rintro w' ⟨_, h, _⟩; cases h)
  rw [enter_at (c := Tryz.f128.body.getD .skip) _ Tryz.func128 (by kernel_rfl)]
  refine LoneTo.goes (n := 60) ?_
  simp only [Tryz.f128, Option.getD_some, List.size_toArray, List.length_cons, List.length_nil, Nat.reduceAdd, Nat.zero_add, Nat.reduceSub, tmps29]
  s_c stepG_seq
  s_reg
  s_op
  s_c stepG_region_end
  s_c stepG_seq
  s_c stepG_seq
  s_reg
  s_op
  s_op
  s_op
  s_op
  s_op
  s_op
  s_op
  s_c stepG_region_end
  s_cond false
  s_c stepG_skip
  s_c stepG_seq
  s_c stepG_seq
  s_reg
  s_op
  s_op
  s_op
  s_op
  s_op
  s_op
  s_op
  s_c stepG_region_end
  s_cond false
  s_c stepG_skip
  s_c stepG_seq
  s_reg
  s_op
  s_c stepG_region_end
  s_c stepG_ret'
  s_stop
  exact LoneTo.done ⟨.returned (.bool true), _, rfl, ⟨_, rfl, rfl, rfl⟩, rfl, rfl, rfl, rfl, _, Tryz.func128, by simp [results, Tryz.f128, Frame.at]⟩

theorem take_new (g gm gc : Nat) (x : Int) (w w1 : World)
   (hl2 : w.cell? ⟨g, 2, none⟩ = some (.map (some gm)))
   (hlk : (Instr.lookup 164 (.map (some gm)) (.int .i64 (IntKind.i64.wrap (-x))) false).run Tryz.prog w = .ok (.bool false) w) 
   (hlk2 : (Instr.lookup 164 (.map (some gm)) (.int .i64 x) false).run Tryz.prog w = .ok (.bool false) w) 
   (hup : (Instr.mapUpdate 164 (.map (some gm)) (.int .i64 x) (.bool true)).run Tryz.prog w = .ok () w1) 
   (hl3 : w1.cell? ⟨g, 3, none⟩ = some (.chan (some gc)))
   (cap s r : Nat) (buf : Array Value) (tm : Bool) (hc : w1.heap[gc]? = some (.chan cap buf false s r tm)) (hroom : buf.size < cap) :
   Calls Tryz.prog 128 #[.pointer (some ⟨g, 0, none⟩), .int .i64 x] w (fun e w' => ∃ v, e = .returned v ∧ v = .bool true ∧ w' = w1.setChan gc cap (buf.push (.int .i64 x)) false (s + 1) r tm) := by
  refine Go.Conc.calls_of_loneTo (fun cs => ?_) (by rintro w' ⟨_, h, _⟩; cases h)
  rw [enter_at (c := Tryz.f128.body.getD .skip) _ Tryz.func128 (by kernel_rfl)]
  refine LoneTo.goes (n := 60) ?_
  simp only [Tryz.f128, Option.getD_some, List.size_toArray, List.length_cons, List.length_nil, Nat.reduceAdd, Nat.zero_add, Nat.reduceSub, tmps29]
  s_c stepG_seq
  s_reg
  s_op
  s_c stepG_region_end
  s_c stepG_seq
  s_c stepG_seq
  s_reg
  s_op
  s_op
  s_op
  s_op
  s_op
  s_op
  s_op
  s_c stepG_region_end
  s_cond false
  s_c stepG_skip
  s_c stepG_seq
  s_c stepG_seq
  s_reg
  s_op
  s_op
  s_op
  s_op
  s_op
  s_op
  s_op
  s_c stepG_region_end
  s_cond true
  s_c stepG_seq
  s_reg
  s_op
  s_op
  s_op
  s_op
  s_op
  s_op
  s_c stepG_region_end
  s_reg
  s_op
  s_op
  s_op
  s_op
  s_op
  s_stop
  refine LoneTo.step (step_lone_send_room (c := gc) (v := .int .i64 x) (z' := .tuple #[]) (cap := cap) (buf := buf) (s := s) (r := r) (tm := tm) (stepG_comm (cases := #[scase gc (.int .i64 x) (.tuple #[])]) (blocking := true) (shape := .send) (w' := w1) rfl rfl (by decide) (by simp [go_sem, execOp, scase, Act.eval])) hc hroom) ?_
  rw [Frame.finish_at]
  walk_nrm
  refine LoneTo.goes (n := 20) ?_
  s_c stepG_region_end
  s_c stepG_seq
  s_reg
  s_op
  s_c stepG_region_end
  s_c stepG_ret'
  s_stop
  exact LoneTo.done ⟨.returned (.bool true), _, rfl, ⟨_, rfl, rfl, rfl⟩, rfl, rfl, rfl, rfl, _, Tryz.func128, by simp [results, Tryz.f128, Frame.at]⟩
end
theorem takeW : TakeW Tryz.prog 128 164 :=
  ⟨fun g gm x w h1 h2 => take_false g gm x w h1 h2, fun g gm x w h1 h2 h3 => take_true g gm x w h1 h2 h3, fun g gm gc x w w1 h1 h2 h3 h4 h5 cap s r buf tm h6 h7 => take_new g gm gc x w w1 h1 h2 h3 h4 h5 cap s r buf tm h6 h7⟩
noncomputable def T_ptake : FuncId → Summ := addS T_pRight 128 takeS
theorem T_ptake_ok : ∀ g, SummOK Tryz.prog g (T_ptake g) := addS_ok T_pRight_ok (takeS_ok (f := 128) takeW (by kernel_rfl) (call_of Tryz.func128 (by kernel_rfl) (by kernel_rfl)))

def plook_s : FSig := ⟨.obj 0 <| .lend (.sl int) <| .nil, [(169, .skip <| .skip <| .ownk (.mp int .bool) <| .ownk .ch <| .nil)], .val .bool <| .nil, []⟩
def plook_L (nn : Nat) : Nat → Option LoopS := fun n =>
  bif Nat.beq n 3 then some ⟨{ env := [(5, ASh.dat (Ty.int IntKind.i64)), (10, ASh.dat (Ty.int IntKind.i64))], heap := [], keep := [0, 1, 4, 8, 9], keepH := [1, 20, 21] }, fun _ => nn⟩ else
  none
def plook_J : Nat → Option Shape := fun n =>
  none
set_option maxRecDepth 100000 in
theorem plook_eq : ∀ (nn : Nat)  xa xo, (plook_s.prog (mkC Tryz.prog T_ptake ⟨false, false⟩ (plook_L nn) plook_J) Tryz.f129 xa xo).run = plookF nn xa.1 xo.1.1 xo.1.2.1.1 xo.1.2.1.2 := by intros; kernel_rfl
noncomputable def T_plook : FuncId → Summ := addS T_ptake 129 (plook_s.summ (fun xa xo => plook xa.1 xo.1.1 xo.1.2.1.1 xo.1.2.1.2))
theorem T_plook_ok : ∀ g, SummOK Tryz.prog g (T_plook g) := fn_ok T_ptake_ok fol Tryz.func129 (by kernel_rfl) (by kernel_rfl) (by kernel_rfl) (plook_eq fuelN)

end GoSx
end
section
/- Walks: the functions compute what their models say: CertB. -/
set_option linter.unusedVariables false
set_option maxHeartbeats 0
set_option maxRecDepth 100000
namespace GoSx
open Go Go.Proofs
def pUnit_s : FSig := ⟨.lend (.sl (.sl int)) <| .val int <| .lend (.sl int) <| .nil, [], .own 3 int <| .val .bool <| .nil, []⟩
def pUnit_L (nn : Nat) : Nat → Option LoopS := fun n =>
  bif Nat.beq n 5 then some ⟨{ env := [(8, ASh.dat (Ty.int IntKind.i64)), (38, ASh.dat (Ty.int IntKind.i64))], heap := [], keep := [0, 1, 2, 6, 7, 36, 37], keepH := [] }, fun _ => nn⟩ else
  bif Nat.beq n 11 then some ⟨{ env := [(56, ASh.dat (Ty.int IntKind.i64))], heap := [(1472, CSh.mpo (Ty.int IntKind.i64) 3)], keep := [0, 1, 2, 6, 7, 8, 11, 36, 37, 38, 54, 55], keepH := [1792, 1536, 1664] }, fun _ => nn⟩ else
  bif Nat.beq n 14 then some ⟨{ env := [(63, ASh.dat (Ty.int IntKind.i64))], heap := [(1472, CSh.mpo (Ty.int IntKind.i64) 3)], keep := [0, 1, 2, 6, 7, 8, 11, 12, 13, 36, 37, 38, 54, 55, 56, 61, 62], keepH := [1792, 1536, 1664] }, fun _ => nn⟩ else
  bif Nat.beq n 20 then some ⟨{ env := [(85, ASh.dat (Ty.int IntKind.i64))], heap := [(1536, CSh.mp (Ty.int IntKind.i64) Ty.bool), (1664, CSh.ch)], keep := [0, 1, 2, 6, 7, 8, 11, 36, 37, 38, 54, 55, 56, 83, 84], keepH := [1792, 1472] }, fun _ => nn⟩ else
  bif Nat.beq n 26 then some ⟨{ env := [(96, ASh.dat (Ty.int IntKind.i64))], heap := [(1792, CSh.box 169 ((ASh.dat (Ty.int IntKind.i64).sl.sl).cons ((ASh.mapv 1472).cons ((ASh.mapv 1536).cons ((ASh.chv 1664).cons ASh.nil))))), (1536, CSh.mp (Ty.int IntKind.i64) Ty.bool), (1664, CSh.ch)], keep := [0, 1, 2, 6, 7, 8, 11, 36, 37, 38, 54, 55, 56, 83, 84, 85, 94, 95], keepH := [1472] }, fun _ => nn⟩ else
  none
def pUnit_J : Nat → Option Shape := fun n =>
  none
set_option maxRecDepth 100000 in
theorem pUnit_eq : ∀ (nn : Nat) (vpRight : List (List Int) → Int → Option ((Bool × Unit) × Unit × Unit)) (vplook : List Int → List (Int × Bool) → Int → Int → Option ((Bool × Unit) × ((List (Int × Bool) × (Int × Int) × Unit) × Unit) × Unit)) xa xo, (pUnit_s.prog (mkC Tryz.prog (addS (addS (addS noS 117 (pRight_s.summ (fun xa xo => vpRight xa.1 xa.2.1))) 129 (plook_s.summ (fun xa xo => vplook xa.1 xo.1.1 xo.1.2.1.1 xo.1.2.1.2))) 128 takeS) ⟨true, false⟩ (pUnit_L nn) pUnit_J) Tryz.f118 xa xo).run = pUnitF nn vpRight vplook xa.1 xa.2.1 xa.2.2.1 := by intros; kernel_rfl
noncomputable def U_pUnit : FuncId → Summ := (addS (addS (addS noS 117 (pRight_s.summ (fun xa xo => pRight xa.1 xa.2.1))) 129 (plook_s.summ (fun xa xo => plook xa.1 xo.1.1 xo.1.2.1.1 xo.1.2.1.2))) 128 takeS)
theorem U_pUnit_ok : ∀ g, SummOK Tryz.prog g (U_pUnit g) := (addS_ok (addS_ok (addS_ok noS_ok (summ_at T_plook_ok 117 (S := (pRight_s.summ (fun xa xo => pRight xa.1 xa.2.1))) (by kernel_rfl))) (summ_at T_plook_ok 129 (S := (plook_s.summ (fun xa xo => plook xa.1 xo.1.1 xo.1.2.1.1 xo.1.2.1.2))) (by kernel_rfl))) (summ_at T_plook_ok 128 (S := takeS) (by kernel_rfl)))
noncomputable def T_pUnit : FuncId → Summ := addS T_plook 118 (pUnit_s.summ (fun xa xo => pUnit xa.1 xa.2.1 xa.2.2.1))
theorem T_pUnit_ok : ∀ g, SummOK Tryz.prog g (T_pUnit g) := fn_ok2 T_plook_ok U_pUnit_ok fol Tryz.func118 (by kernel_rfl) (by kernel_rfl) (by kernel_rfl) (pUnit_eq fuelN pRight plook)

def grownC_s : FSig := ⟨.skip <| .obj 0 <| .obj 1 <| .nil, [(41, .lend (.sl (.sl int)) <| .nil), (41, .lend (.sl (.sl int)) <| .nil)], .nil, []⟩
def grownC_L (nn : Nat) : Nat → Option LoopS := fun n =>
  bif Nat.beq n 2 then some ⟨{ env := [], heap := [], keep := [0, 1, 2, 4, 9, 10, 11], keepH := [1, 2, 128] }, fun _ => nn⟩ else
  none
def grownC_J : Nat → Option Shape := fun n =>
  none
set_option maxRecDepth 100000 in
theorem grownC_eq : ∀ (nn : Nat)  xa xo, (grownC_s.prog (mkC Tryz.prog T_pUnit ⟨false, false⟩ (grownC_L nn) grownC_J) Tryz.f114 xa xo).run = grownCF nn xo.1.1 xo.2.1.1 := by intros; kernel_rfl
noncomputable def T_grownC : FuncId → Summ := addS T_pUnit 114 (grownC_s.summ (fun xa xo => grownC xo.1.1 xo.2.1.1))
theorem T_grownC_ok : ∀ g, SummOK Tryz.prog g (T_grownC g) := fn_ok T_pUnit_ok fol Tryz.func114 (by kernel_rfl) (by kernel_rfl) (by kernel_rfl) (grownC_eq fuelN)

def grown_s : FSig := ⟨.val (.sl (.sl int)) <| .val (.sl (.sl int)) <| .nil, [], .clo 114 (.obj 0 <| .obj 1 <| .nil) <| .nil, [(41, .val (.sl (.sl int)) <| .nil), (41, .val (.sl (.sl int)) <| .nil)]⟩
def grown_L : Nat → Option LoopS := fun n =>
  none
def grown_J : Nat → Option Shape := fun n =>
  none
set_option maxRecDepth 100000 in
theorem grown_eq : ∀  xa xo, (grown_s.prog (mkC Tryz.prog T_grownC ⟨false, false⟩ grown_L grown_J) Tryz.f85 xa xo).run = grown  xa.1 xa.2.1 := by intros; kernel_rfl
noncomputable def T_grown : FuncId → Summ := addS T_grownC 85 (grown_s.summ (fun xa xo => grown xa.1 xa.2.1))
theorem T_grown_ok : ∀ g, SummOK Tryz.prog g (T_grown g) := fn_ok T_grownC_ok fol Tryz.func85 (by kernel_rfl) (by kernel_rfl) (by kernel_rfl) grown_eq

def refutedC_s : FSig := ⟨.lend (.sl int) <| .obj 0 <| .obj 1 <| .nil, [(41, .lend (.sl (.sl int)) <| .nil), (3, .val int <| .nil)], .val .bool <| .nil, []⟩
def refutedC_L : Nat → Option LoopS := fun n =>
  none
def refutedC_J : Nat → Option Shape := fun n =>
  none
set_option maxRecDepth 100000 in
theorem refutedC_eq : ∀  xa xo, (refutedC_s.prog (mkC Tryz.prog T_grown ⟨false, false⟩ refutedC_L refutedC_J) Tryz.f116 xa xo).run = refutedC  xa.1 xo.1.1 xo.2.1.1 := by intros; kernel_rfl
noncomputable def T_refutedC : FuncId → Summ := addS T_grown 116 (refutedC_s.summ (fun xa xo => refutedC xa.1 xo.1.1 xo.2.1.1))
theorem T_refutedC_ok : ∀ g, SummOK Tryz.prog g (T_refutedC g) := fn_ok T_grown_ok fol Tryz.func116 (by kernel_rfl) (by kernel_rfl) (by kernel_rfl) refutedC_eq

def refuted_s : FSig := ⟨.val (.sl (.sl int)) <| .val int <| .nil, [], .clo 116 (.obj 0 <| .obj 1 <| .nil) <| .nil, [(41, .val (.sl (.sl int)) <| .nil), (3, .val int <| .nil)]⟩
def refuted_L : Nat → Option LoopS := fun n =>
  none
def refuted_J : Nat → Option Shape := fun n =>
  none
set_option maxRecDepth 100000 in
theorem refuted_eq : ∀  xa xo, (refuted_s.prog (mkC Tryz.prog T_refutedC ⟨false, false⟩ refuted_L refuted_J) Tryz.f87 xa xo).run = refuted  xa.1 xa.2.1 := by intros; kernel_rfl
noncomputable def T_refuted : FuncId → Summ := addS T_refutedC 87 (refuted_s.summ (fun xa xo => refuted xa.1 xa.2.1))
theorem T_refuted_ok : ∀ g, SummOK Tryz.prog g (T_refuted g) := fn_ok T_refutedC_ok fol Tryz.func87 (by kernel_rfl) (by kernel_rfl) (by kernel_rfl) refuted_eq

end GoSx
end
section
/- Walks: the functions compute what their models say: CertC. -/
set_option linter.unusedVariables false
set_option maxHeartbeats 0
set_option maxRecDepth 100000
namespace GoSx
open Go Go.Proofs
def mask_s : FSig := ⟨.val int <| .nil, [], .val int <| .nil, []⟩
def mask_L : Nat → Option LoopS := fun n =>
  none
def mask_J : Nat → Option Shape := fun n =>
  none
set_option maxRecDepth 100000 in
theorem mask_eq : ∀  xa xo, (mask_s.prog (mkC Tryz.prog T_refuted ⟨false, false⟩ mask_L mask_J) Tryz.f62 xa xo).run = mask  xa.1 := by intros; kernel_rfl
noncomputable def T_mask : FuncId → Summ := addS T_refuted 62 (mask_s.summ (fun xa xo => mask xa.1))
theorem T_mask_ok : ∀ g, SummOK Tryz.prog g (T_mask g) := fn_ok T_refuted_ok fol Tryz.func62 (by kernel_rfl) (by kernel_rfl) (by kernel_rfl) mask_eq

def great9_s : FSig := ⟨.agg (.lend (.sl nodeT) <| .lend (.sl pinT) <| .lend (.sl cellT) <| .lend (.sl propT) <| .lend (.sl pinT) <| .nil) <| .nil, [], .val .bool <| .nil, []⟩
def great9_L : Nat → Option LoopS := fun n =>
  none
def great9_J : Nat → Option Shape := fun n =>
  none
set_option maxRecDepth 100000 in
theorem great9_eq : ∀  xa xo, (great9_s.prog (mkC Tryz.prog T_mask ⟨false, false⟩ great9_L great9_J) Tryz.f37 xa xo).run = great9  xa.1.1 xa.1.2.1 xa.1.2.2.1 xa.1.2.2.2.1 xa.1.2.2.2.2.1 := by intros; kernel_rfl
noncomputable def T_great9 : FuncId → Summ := addS T_mask 37 (great9_s.summ (fun xa xo => great9 xa.1.1 xa.1.2.1 xa.1.2.2.1 xa.1.2.2.2.1 xa.1.2.2.2.2.1))
theorem T_great9_ok : ∀ g, SummOK Tryz.prog g (T_great9 g) := fn_ok T_mask_ok fol Tryz.func37 (by kernel_rfl) (by kernel_rfl) (by kernel_rfl) great9_eq

def wide9_s : FSig := ⟨.agg (.lend (.sl nodeT) <| .lend (.sl pinT) <| .lend (.sl cellT) <| .lend (.sl propT) <| .lend (.sl pinT) <| .nil) <| .val int <| .val int <| .nil, [], .val int <| .nil, []⟩
def wide9_L : Nat → Option LoopS := fun n =>
  none
def wide9_J : Nat → Option Shape := fun n =>
  none
set_option maxRecDepth 100000 in
theorem wide9_eq : ∀  xa xo, (wide9_s.prog (mkC Tryz.prog T_great9 ⟨false, false⟩ wide9_L wide9_J) Tryz.f90 xa xo).run = wide9  xa.1.1 xa.1.2.1 xa.1.2.2.1 xa.1.2.2.2.1 xa.1.2.2.2.2.1 xa.2.1 xa.2.2.1 := by intros; kernel_rfl
noncomputable def T_wide9 : FuncId → Summ := addS T_great9 90 (wide9_s.summ (fun xa xo => wide9 xa.1.1 xa.1.2.1 xa.1.2.2.1 xa.1.2.2.2.1 xa.1.2.2.2.2.1 xa.2.1 xa.2.2.1))
theorem T_wide9_ok : ∀ g, SummOK Tryz.prog g (T_wide9 g) := fn_ok T_great9_ok fol Tryz.func90 (by kernel_rfl) (by kernel_rfl) (by kernel_rfl) wide9_eq

def operands_s : FSig := ⟨.val int <| .nil, [], .val int <| .nil, []⟩
def operands_L : Nat → Option LoopS := fun n =>
  none
def operands_J : Nat → Option Shape := fun n =>
  none
set_option maxRecDepth 100000 in
theorem operands_eq : ∀  xa xo, (operands_s.prog (mkC Tryz.prog T_wide9 ⟨false, false⟩ operands_L operands_J) Tryz.f88 xa xo).run = operands  xa.1 := by intros; kernel_rfl
noncomputable def T_operands : FuncId → Summ := addS T_wide9 88 (operands_s.summ (fun xa xo => operands xa.1))
theorem T_operands_ok : ∀ g, SummOK Tryz.prog g (T_operands g) := fn_ok T_wide9_ok fol Tryz.func88 (by kernel_rfl) (by kernel_rfl) (by kernel_rfl) operands_eq

def fits9_s : FSig := ⟨.agg (.lend (.sl nodeT) <| .lend (.sl pinT) <| .lend (.sl cellT) <| .lend (.sl propT) <| .lend (.sl pinT) <| .nil) <| .val int <| .nil, [], .val .bool <| .nil, []⟩
def fits9_L : Nat → Option LoopS := fun n =>
  none
def fits9_J : Nat → Option Shape := fun n =>
  none
set_option maxRecDepth 100000 in
theorem fits9_eq : ∀  xa xo, (fits9_s.prog (mkC Tryz.prog T_operands ⟨false, false⟩ fits9_L fits9_J) Tryz.f89 xa xo).run = fits9  xa.1.1 xa.1.2.1 xa.1.2.2.1 xa.1.2.2.2.1 xa.1.2.2.2.2.1 xa.2.1 := by intros; kernel_rfl
noncomputable def T_fits9 : FuncId → Summ := addS T_operands 89 (fits9_s.summ (fun xa xo => fits9 xa.1.1 xa.1.2.1 xa.1.2.2.1 xa.1.2.2.2.1 xa.1.2.2.2.2.1 xa.2.1))
theorem T_fits9_ok : ∀ g, SummOK Tryz.prog g (T_fits9 g) := fn_ok T_operands_ok fol Tryz.func89 (by kernel_rfl) (by kernel_rfl) (by kernel_rfl) fits9_eq

def node9_s : FSig := ⟨.agg (.lend (.sl nodeT) <| .lend (.sl pinT) <| .lend (.sl cellT) <| .lend (.sl propT) <| .lend (.sl pinT) <| .nil) <| .val int <| .nil, [], .val .bool <| .nil, []⟩
def node9_L : Nat → Option LoopS := fun n =>
  none
def node9_J : Nat → Option Shape := fun n =>
  none
set_option maxRecDepth 100000 in
theorem node9_eq : ∀  xa xo, (node9_s.prog (mkC Tryz.prog T_fits9 ⟨false, false⟩ node9_L node9_J) Tryz.f59 xa xo).run = node9  xa.1.1 xa.1.2.1 xa.1.2.2.1 xa.1.2.2.2.1 xa.1.2.2.2.2.1 xa.2.1 := by intros; kernel_rfl
noncomputable def T_node9 : FuncId → Summ := addS T_fits9 59 (node9_s.summ (fun xa xo => node9 xa.1.1 xa.1.2.1 xa.1.2.2.1 xa.1.2.2.2.1 xa.1.2.2.2.2.1 xa.2.1))
theorem T_node9_ok : ∀ g, SummOK Tryz.prog g (T_node9 g) := fn_ok T_fits9_ok fol Tryz.func59 (by kernel_rfl) (by kernel_rfl) (by kernel_rfl) node9_eq

def there9_s : FSig := ⟨.agg (.lend (.sl nodeT) <| .lend (.sl pinT) <| .lend (.sl cellT) <| .lend (.sl propT) <| .lend (.sl pinT) <| .nil) <| .val int <| .nil, [], .val int <| .nil, []⟩
def there9_L : Nat → Option LoopS := fun n =>
  none
def there9_J : Nat → Option Shape := fun n =>
  none
set_option maxRecDepth 100000 in
theorem there9_eq : ∀  xa xo, (there9_s.prog (mkC Tryz.prog T_node9 ⟨false, false⟩ there9_L there9_J) Tryz.f61 xa xo).run = there9  xa.1.1 xa.1.2.1 xa.1.2.2.1 xa.1.2.2.2.1 xa.1.2.2.2.2.1 xa.2.1 := by intros; kernel_rfl
noncomputable def T_there9 : FuncId → Summ := addS T_node9 61 (there9_s.summ (fun xa xo => there9 xa.1.1 xa.1.2.1 xa.1.2.2.1 xa.1.2.2.2.1 xa.1.2.2.2.2.1 xa.2.1))
theorem T_there9_ok : ∀ g, SummOK Tryz.prog g (T_there9 g) := fn_ok T_node9_ok fol Tryz.func61 (by kernel_rfl) (by kernel_rfl) (by kernel_rfl) there9_eq

def pins9_s : FSig := ⟨.agg (.lend (.sl nodeT) <| .lend (.sl pinT) <| .lend (.sl cellT) <| .lend (.sl propT) <| .lend (.sl pinT) <| .nil) <| .nil, [], .val .bool <| .nil, []⟩
def pins9_L (nn : Nat) : Nat → Option LoopS := fun n =>
  bif Nat.beq n 4 then some ⟨{ env := [(3, ASh.dat (Ty.int IntKind.i64)), (4, ASh.dat (Ty.int IntKind.i64)), (5, ASh.dat (Ty.int IntKind.i64))], heap := [], keep := [0, 1, 2], keepH := [64] }, fun _ => nn⟩ else
  none
def pins9_J : Nat → Option Shape := fun n =>
  none
set_option maxRecDepth 100000 in
theorem pins9_eq : ∀ (nn : Nat)  xa xo, (pins9_s.prog (mkC Tryz.prog T_there9 ⟨false, false⟩ (pins9_L nn) pins9_J) Tryz.f60 xa xo).run = pins9F nn xa.1.1 xa.1.2.1 xa.1.2.2.1 xa.1.2.2.2.1 xa.1.2.2.2.2.1 := by intros; kernel_rfl
noncomputable def T_pins9 : FuncId → Summ := addS T_there9 60 (pins9_s.summ (fun xa xo => pins9 xa.1.1 xa.1.2.1 xa.1.2.2.1 xa.1.2.2.2.1 xa.1.2.2.2.2.1))
theorem T_pins9_ok : ∀ g, SummOK Tryz.prog g (T_pins9 g) := fn_ok T_there9_ok fol Tryz.func60 (by kernel_rfl) (by kernel_rfl) (by kernel_rfl) (pins9_eq fuelN)

def right9_s : FSig := ⟨.agg (.lend (.sl nodeT) <| .lend (.sl pinT) <| .lend (.sl cellT) <| .lend (.sl propT) <| .lend (.sl pinT) <| .nil) <| .nil, [], .val .bool <| .nil, []⟩
def right9_L (nn : Nat) : Nat → Option LoopS := fun n =>
  bif Nat.beq n 4 then some ⟨{ env := [(3, ASh.dat (Ty.int IntKind.i64))], heap := [], keep := [0, 1, 2], keepH := [64] }, fun _ => nn⟩ else
  bif Nat.beq n 12 then some ⟨{ env := [(4, ASh.dat (Ty.int IntKind.i64)), (5, ASh.dat (Ty.int IntKind.i64))], heap := [], keep := [0, 1, 2, 3], keepH := [64] }, fun _ => nn⟩ else
  bif Nat.beq n 20 then some ⟨{ env := [(8, ASh.dat (Ty.int IntKind.i64))], heap := [], keep := [0, 1, 2, 3, 4, 5], keepH := [64] }, fun _ => nn⟩ else
  bif Nat.beq n 26 then some ⟨{ env := [(10, ASh.dat (Ty.int IntKind.i64))], heap := [], keep := [0, 1, 2, 3, 4, 5, 8], keepH := [64] }, fun _ => nn⟩ else
  none
def right9_J : Nat → Option Shape := fun n =>
  none
set_option maxRecDepth 100000 in
theorem right9_eq : ∀ (nn : Nat)  xa xo, (right9_s.prog (mkC Tryz.prog T_pins9 ⟨false, false⟩ (right9_L nn) right9_J) Tryz.f38 xa xo).run = right9F nn xa.1.1 xa.1.2.1 xa.1.2.2.1 xa.1.2.2.2.1 xa.1.2.2.2.2.1 := by intros; kernel_rfl
noncomputable def T_right9 : FuncId → Summ := addS T_pins9 38 (right9_s.summ (fun xa xo => right9 xa.1.1 xa.1.2.1 xa.1.2.2.1 xa.1.2.2.2.1 xa.1.2.2.2.2.1))
theorem T_right9_ok : ∀ g, SummOK Tryz.prog g (T_right9 g) := fn_ok T_pins9_ok fol Tryz.func38 (by kernel_rfl) (by kernel_rfl) (by kernel_rfl) (right9_eq fuelN)

def weight14_s : FSig := ⟨.agg (.val int <| .val int <| .val int <| .val int <| .val int <| .val int <| .val int <| .nil) <| .nil, [], .val int <| .nil, []⟩
def weight14_L : Nat → Option LoopS := fun n =>
  none
def weight14_J : Nat → Option Shape := fun n =>
  none
set_option maxRecDepth 100000 in
theorem weight14_eq : ∀  xa xo, (weight14_s.prog (mkC Tryz.prog T_right9 ⟨false, false⟩ weight14_L weight14_J) Tryz.f63 xa xo).run = weight14  xa.1.1 xa.1.2.1 xa.1.2.2.1 xa.1.2.2.2.1 xa.1.2.2.2.2.1 xa.1.2.2.2.2.2.1 xa.1.2.2.2.2.2.2.1 := by intros; kernel_rfl
noncomputable def T_weight14 : FuncId → Summ := addS T_right9 63 (weight14_s.summ (fun xa xo => weight14 xa.1.1 xa.1.2.1 xa.1.2.2.1 xa.1.2.2.2.1 xa.1.2.2.2.2.1 xa.1.2.2.2.2.2.1 xa.1.2.2.2.2.2.2.1))
theorem T_weight14_ok : ∀ g, SummOK Tryz.prog g (T_weight14 g) := fn_ok T_right9_ok fol Tryz.func63 (by kernel_rfl) (by kernel_rfl) (by kernel_rfl) weight14_eq

def weight15_s : FSig := ⟨.agg (.lend (.sl nodeT) <| .lend (.sl pinT) <| .lend (.sl cellT) <| .lend (.sl propT) <| .lend (.sl pinT) <| .nil) <| .nil, [], .val int <| .nil, []⟩
def weight15_L (nn : Nat) : Nat → Option LoopS := fun n =>
  bif Nat.beq n 3 then some ⟨{ env := [(3, ASh.dat (Ty.int IntKind.i64)), (4, ASh.dat (Ty.int IntKind.i64))], heap := [], keep := [0, 1, 2], keepH := [64] }, fun _ => nn⟩ else
  none
def weight15_J : Nat → Option Shape := fun n =>
  none
set_option maxRecDepth 100000 in
theorem weight15_eq : ∀ (nn : Nat)  xa xo, (weight15_s.prog (mkC Tryz.prog T_weight14 ⟨false, false⟩ (weight15_L nn) weight15_J) Tryz.f39 xa xo).run = weight15F nn xa.1.1 xa.1.2.1 xa.1.2.2.1 xa.1.2.2.2.1 xa.1.2.2.2.2.1 := by intros; kernel_rfl
noncomputable def T_weight15 : FuncId → Summ := addS T_weight14 39 (weight15_s.summ (fun xa xo => weight15 xa.1.1 xa.1.2.1 xa.1.2.2.1 xa.1.2.2.2.1 xa.1.2.2.2.2.1))
theorem T_weight15_ok : ∀ g, SummOK Tryz.prog g (T_weight15 g) := fn_ok T_weight14_ok fol Tryz.func39 (by kernel_rfl) (by kernel_rfl) (by kernel_rfl) (weight15_eq fuelN)

def great16_s : FSig := ⟨.agg (.lend (.sl nodeT) <| .lend (.sl pinT) <| .lend (.sl cellT) <| .lend (.sl propT) <| .lend (.sl pinT) <| .nil) <| .nil, [], .val .bool <| .nil, []⟩
def great16_L : Nat → Option LoopS := fun n =>
  none
def great16_J : Nat → Option Shape := fun n =>
  none
set_option maxRecDepth 100000 in
theorem great16_eq : ∀  xa xo, (great16_s.prog (mkC Tryz.prog T_weight15 ⟨false, false⟩ great16_L great16_J) Tryz.f15 xa xo).run = great16  xa.1.1 xa.1.2.1 xa.1.2.2.1 xa.1.2.2.2.1 xa.1.2.2.2.2.1 := by intros; kernel_rfl
noncomputable def T_great16 : FuncId → Summ := addS T_weight15 15 (great16_s.summ (fun xa xo => great16 xa.1.1 xa.1.2.1 xa.1.2.2.1 xa.1.2.2.2.1 xa.1.2.2.2.2.1))
theorem T_great16_ok : ∀ g, SummOK Tryz.prog g (T_great16 g) := fn_ok T_weight15_ok fol Tryz.func15 (by kernel_rfl) (by kernel_rfl) (by kernel_rfl) great16_eq

def wide15_s : FSig := ⟨.agg (.lend (.sl nodeT) <| .lend (.sl pinT) <| .lend (.sl cellT) <| .lend (.sl propT) <| .lend (.sl pinT) <| .nil) <| .val int <| .nil, [], .val int <| .nil, []⟩
def wide15_L (nn : Nat) : Nat → Option LoopS := fun n =>
  bif Nat.beq n 3 then some ⟨{ env := [(5, ASh.dat (Ty.int IntKind.i64)), (6, ASh.dat (Ty.int IntKind.i64))], heap := [], keep := [0, 1, 2, 4], keepH := [64] }, fun _ => nn⟩ else
  none
def wide15_J : Nat → Option Shape := fun n =>
  none
set_option maxRecDepth 100000 in
theorem wide15_eq : ∀ (nn : Nat)  xa xo, (wide15_s.prog (mkC Tryz.prog T_great16 ⟨false, false⟩ (wide15_L nn) wide15_J) Tryz.f64 xa xo).run = wide15F nn xa.1.1 xa.1.2.1 xa.1.2.2.1 xa.1.2.2.2.1 xa.1.2.2.2.2.1 xa.2.1 := by intros; kernel_rfl
noncomputable def T_wide15 : FuncId → Summ := addS T_great16 64 (wide15_s.summ (fun xa xo => wide15 xa.1.1 xa.1.2.1 xa.1.2.2.1 xa.1.2.2.2.1 xa.1.2.2.2.2.1 xa.2.1))
theorem T_wide15_ok : ∀ g, SummOK Tryz.prog g (T_wide15 g) := fn_ok T_great16_ok fol Tryz.func64 (by kernel_rfl) (by kernel_rfl) (by kernel_rfl) (wide15_eq fuelN)

def bits15_s : FSig := ⟨.val int <| .val int <| .nil, [], .own 3 int <| .nil, []⟩
def bits15_L (nn : Nat) : Nat → Option LoopS := fun n =>
  bif Nat.beq n 3 then some ⟨{ env := [(5, ASh.arr 49), (6, ASh.dat (Ty.int IntKind.i64))], heap := [(49, CSh.arr 3 (Ty.int IntKind.i64))], keep := [0, 1, 4], keepH := [] }, fun _ => nn⟩ else
  none
def bits15_J : Nat → Option Shape := fun n =>
  none
set_option maxRecDepth 100000 in
theorem bits15_eq : ∀ (nn : Nat)  xa xo, (bits15_s.prog (mkC Tryz.prog T_wide15 ⟨false, false⟩ (bits15_L nn) bits15_J) Tryz.f66 xa xo).run = bits15F nn xa.1 xa.2.1 := by intros; kernel_rfl
noncomputable def T_bits15 : FuncId → Summ := addS T_wide15 66 (bits15_s.summ (fun xa xo => bits15 xa.1 xa.2.1))
theorem T_bits15_ok : ∀ g, SummOK Tryz.prog g (T_bits15 g) := fn_ok T_wide15_ok fol Tryz.func66 (by kernel_rfl) (by kernel_rfl) (by kernel_rfl) (bits15_eq fuelN)

def new13_s : FSig := ⟨.val int <| .nil, [], .agg (.val int <| .val (.sl pair2) <| .nil) <| .nil, []⟩
def new13_L : Nat → Option LoopS := fun n =>
  none
def new13_J : Nat → Option Shape := fun n =>
  none
set_option maxRecDepth 100000 in
theorem new13_eq : ∀  xa xo, (new13_s.prog (mkC Tryz.prog T_bits15 ⟨false, false⟩ new13_L new13_J) Tryz.f65 xa xo).run = new13  xa.1 := by intros; kernel_rfl
noncomputable def T_new13 : FuncId → Summ := addS T_bits15 65 (new13_s.summ (fun xa xo => new13 xa.1))
theorem T_new13_ok : ∀ g, SummOK Tryz.prog g (T_new13 g) := fn_ok T_bits15_ok fol Tryz.func65 (by kernel_rfl) (by kernel_rfl) (by kernel_rfl) new13_eq

def find13_s : FSig := ⟨.agg (.val int <| .lend (.sl pair2) <| .nil) <| .val int <| .val int <| .val int <| .nil, [], .val int <| .nil, []⟩
def find13_L (nn : Nat) : Nat → Option LoopS := fun n =>
  bif Nat.beq n 2 then some ⟨{ env := [(9, ASh.dat (Ty.int IntKind.i64))], heap := [], keep := [0, 1, 2, 3, 4, 8], keepH := [64] }, fun _ => nn⟩ else
  none
def find13_J : Nat → Option Shape := fun n =>
  none
set_option maxRecDepth 100000 in
theorem find13_eq : ∀ (nn : Nat)  xa xo, (find13_s.prog (mkC Tryz.prog T_new13 ⟨false, false⟩ (find13_L nn) find13_J) Tryz.f132 xa xo).run = find13F nn xa.1.1 xa.1.2.1 xa.2.1 xa.2.2.1 xa.2.2.2.1 := by intros; kernel_rfl
noncomputable def T_find13 : FuncId → Summ := addS T_new13 132 (find13_s.summ (fun xa xo => find13 xa.1.1 xa.1.2.1 xa.2.1 xa.2.2.1 xa.2.2.2.1))
theorem T_find13_ok : ∀ g, SummOK Tryz.prog g (T_find13 g) := fn_ok T_new13_ok fol Tryz.func132 (by kernel_rfl) (by kernel_rfl) (by kernel_rfl) (find13_eq fuelN)

def and13_s : FSig := ⟨.agg (.val int <| .val (.sl pair2) <| .nil) <| .val int <| .val int <| .nil, [], .agg (.val int <| .val (.sl pair2) <| .nil) <| .val int <| .nil, []⟩
def and13_L : Nat → Option LoopS := fun n =>
  none
def and13_J : Nat → Option Shape := fun n =>
  none
set_option maxRecDepth 100000 in
theorem and13_eq : ∀  xa xo, (and13_s.prog (mkC Tryz.prog T_find13 ⟨false, false⟩ and13_L and13_J) Tryz.f119 xa xo).run = and13  xa.1.1 xa.1.2.1 xa.2.1 xa.2.2.1 := by intros; kernel_rfl
noncomputable def T_and13 : FuncId → Summ := addS T_find13 119 (and13_s.summ (fun xa xo => and13 xa.1.1 xa.1.2.1 xa.2.1 xa.2.2.1))
theorem T_and13_ok : ∀ g, SummOK Tryz.prog g (T_and13 g) := fn_ok T_find13_ok fol Tryz.func119 (by kernel_rfl) (by kernel_rfl) (by kernel_rfl) and13_eq

def turn13_s : FSig := ⟨.val int <| .nil, [], .val int <| .nil, []⟩
def turn13_L : Nat → Option LoopS := fun n =>
  none
def turn13_J : Nat → Option Shape := fun n =>
  none
set_option maxRecDepth 100000 in
theorem turn13_eq : ∀  xa xo, (turn13_s.prog (mkC Tryz.prog T_and13 ⟨false, false⟩ turn13_L turn13_J) Tryz.f122 xa xo).run = turn13  xa.1 := by intros; kernel_rfl
noncomputable def T_turn13 : FuncId → Summ := addS T_and13 122 (turn13_s.summ (fun xa xo => turn13 xa.1))
theorem T_turn13_ok : ∀ g, SummOK Tryz.prog g (T_turn13 g) := fn_ok T_and13_ok fol Tryz.func122 (by kernel_rfl) (by kernel_rfl) (by kernel_rfl) turn13_eq

def or13_s : FSig := ⟨.agg (.val int <| .val (.sl pair2) <| .nil) <| .val int <| .val int <| .nil, [], .agg (.val int <| .val (.sl pair2) <| .nil) <| .val int <| .nil, []⟩
def or13_L : Nat → Option LoopS := fun n =>
  none
def or13_J : Nat → Option Shape := fun n =>
  none
set_option maxRecDepth 100000 in
theorem or13_eq : ∀  xa xo, (or13_s.prog (mkC Tryz.prog T_turn13 ⟨false, false⟩ or13_L or13_J) Tryz.f120 xa xo).run = or13  xa.1.1 xa.1.2.1 xa.2.1 xa.2.2.1 := by intros; kernel_rfl
noncomputable def T_or13 : FuncId → Summ := addS T_turn13 120 (or13_s.summ (fun xa xo => or13 xa.1.1 xa.1.2.1 xa.2.1 xa.2.2.1))
theorem T_or13_ok : ∀ g, SummOK Tryz.prog g (T_or13 g) := fn_ok T_turn13_ok fol Tryz.func120 (by kernel_rfl) (by kernel_rfl) (by kernel_rfl) or13_eq

def mux13_s : FSig := ⟨.agg (.val int <| .val (.sl pair2) <| .nil) <| .val int <| .val int <| .val int <| .nil, [], .agg (.val int <| .val (.sl pair2) <| .nil) <| .val int <| .nil, []⟩
def mux13_L : Nat → Option LoopS := fun n =>
  none
def mux13_J : Nat → Option Shape := fun n =>
  none
set_option maxRecDepth 100000 in
theorem mux13_eq : ∀  xa xo, (mux13_s.prog (mkC Tryz.prog T_or13 ⟨false, false⟩ mux13_L mux13_J) Tryz.f96 xa xo).run = mux13  xa.1.1 xa.1.2.1 xa.2.1 xa.2.2.1 xa.2.2.2.1 := by intros; kernel_rfl
noncomputable def T_mux13 : FuncId → Summ := addS T_or13 96 (mux13_s.summ (fun xa xo => mux13 xa.1.1 xa.1.2.1 xa.2.1 xa.2.2.1 xa.2.2.2.1))
theorem T_mux13_ok : ∀ g, SummOK Tryz.prog g (T_mux13 g) := fn_ok T_or13_ok fol Tryz.func96 (by kernel_rfl) (by kernel_rfl) (by kernel_rfl) mux13_eq

def xor13_s : FSig := ⟨.agg (.val int <| .val (.sl pair2) <| .nil) <| .val int <| .val int <| .nil, [], .agg (.val int <| .val (.sl pair2) <| .nil) <| .val int <| .nil, []⟩
def xor13_L : Nat → Option LoopS := fun n =>
  none
def xor13_J : Nat → Option Shape := fun n =>
  none
set_option maxRecDepth 100000 in
theorem xor13_eq : ∀  xa xo, (xor13_s.prog (mkC Tryz.prog T_mux13 ⟨false, false⟩ xor13_L xor13_J) Tryz.f121 xa xo).run = xor13  xa.1.1 xa.1.2.1 xa.2.1 xa.2.2.1 := by intros; kernel_rfl
noncomputable def T_xor13 : FuncId → Summ := addS T_mux13 121 (xor13_s.summ (fun xa xo => xor13 xa.1.1 xa.1.2.1 xa.2.1 xa.2.2.1))
theorem T_xor13_ok : ∀ g, SummOK Tryz.prog g (T_xor13 g) := fn_ok T_mux13_ok fol Tryz.func121 (by kernel_rfl) (by kernel_rfl) (by kernel_rfl) xor13_eq

def sum14_s : FSig := ⟨.agg (.val int <| .val (.sl pair2) <| .nil) <| .val (.sl int) <| .val (.sl int) <| .val int <| .nil, [], .agg (.val int <| .val (.sl pair2) <| .nil) <| .own 3 int <| .nil, []⟩
def sum14_L (nn : Nat) : Nat → Option LoopS := fun n =>
  bif Nat.beq n 3 then some ⟨{ env := [(3, ASh.dat (Ty.int IntKind.i64)), (10, ASh.arr 49), (11, ASh.dat (Ty.int IntKind.i64))], heap := [(64, CSh.box 33 ((ASh.dat (Ty.int IntKind.i64)).cons ((ASh.dat ((Ty.int IntKind.i64).pair ((Ty.int IntKind.i64).pair Ty.unit)).sl).cons ASh.nil))), (49, CSh.arr 3 (Ty.int IntKind.i64))], keep := [0, 1, 2, 4, 8, 9], keepH := [128] }, fun _ => nn⟩ else
  none
def sum14_J : Nat → Option Shape := fun n =>
  none
set_option maxRecDepth 100000 in
theorem sum14_eq : ∀ (nn : Nat)  xa xo, (sum14_s.prog (mkC Tryz.prog T_xor13 ⟨false, false⟩ (sum14_L nn) sum14_J) Tryz.f94 xa xo).run = sum14F nn xa.1.1 xa.1.2.1 xa.2.1 xa.2.2.1 xa.2.2.2.1 := by intros; kernel_rfl
noncomputable def T_sum14 : FuncId → Summ := addS T_xor13 94 (sum14_s.summ (fun xa xo => sum14 xa.1.1 xa.1.2.1 xa.2.1 xa.2.2.1 xa.2.2.2.1))
theorem T_sum14_ok : ∀ g, SummOK Tryz.prog g (T_sum14 g) := fn_ok T_xor13_ok fol Tryz.func94 (by kernel_rfl) (by kernel_rfl) (by kernel_rfl) (sum14_eq fuelN)

def turned14_s : FSig := ⟨.lend (.sl int) <| .nil, [], .own 3 int <| .nil, []⟩
def turned14_L (nn : Nat) : Nat → Option LoopS := fun n =>
  bif Nat.beq n 3 then some ⟨{ env := [(3, ASh.arr 49), (4, ASh.dat (Ty.int IntKind.i64))], heap := [(49, CSh.arr 3 (Ty.int IntKind.i64))], keep := [0, 2], keepH := [] }, fun _ => nn⟩ else
  none
def turned14_J : Nat → Option Shape := fun n =>
  none
set_option maxRecDepth 100000 in
theorem turned14_eq : ∀ (nn : Nat)  xa xo, (turned14_s.prog (mkC Tryz.prog T_sum14 ⟨false, false⟩ (turned14_L nn) turned14_J) Tryz.f92 xa xo).run = turned14F nn xa.1 := by intros; kernel_rfl
noncomputable def T_turned14 : FuncId → Summ := addS T_sum14 92 (turned14_s.summ (fun xa xo => turned14 xa.1))
theorem T_turned14_ok : ∀ g, SummOK Tryz.prog g (T_turned14 g) := fn_ok T_sum14_ok fol Tryz.func92 (by kernel_rfl) (by kernel_rfl) (by kernel_rfl) (turned14_eq fuelN)

def all14_s : FSig := ⟨.agg (.val int <| .val (.sl pair2) <| .nil) <| .val (.sl int) <| .nil, [], .agg (.val int <| .val (.sl pair2) <| .nil) <| .val int <| .nil, []⟩
def all14_L (nn : Nat) : Nat → Option LoopS := fun n =>
  bif Nat.beq n 3 then some ⟨{ env := [(6, ASh.dat (Ty.int IntKind.i64)), (7, ASh.dat (Ty.int IntKind.i64))], heap := [(64, CSh.box 33 ((ASh.dat (Ty.int IntKind.i64)).cons ((ASh.dat ((Ty.int IntKind.i64).pair ((Ty.int IntKind.i64).pair Ty.unit)).sl).cons ASh.nil)))], keep := [0, 1, 2, 4, 5], keepH := [128] }, fun _ => nn⟩ else
  none
def all14_J : Nat → Option Shape := fun n =>
  none
set_option maxRecDepth 100000 in
theorem all14_eq : ∀ (nn : Nat)  xa xo, (all14_s.prog (mkC Tryz.prog T_turned14 ⟨false, false⟩ (all14_L nn) all14_J) Tryz.f123 xa xo).run = all14F nn xa.1.1 xa.1.2.1 xa.2.1 := by intros; kernel_rfl
noncomputable def T_all14 : FuncId → Summ := addS T_turned14 123 (all14_s.summ (fun xa xo => all14 xa.1.1 xa.1.2.1 xa.2.1))
theorem T_all14_ok : ∀ g, SummOK Tryz.prog g (T_all14 g) := fn_ok T_turned14_ok fol Tryz.func123 (by kernel_rfl) (by kernel_rfl) (by kernel_rfl) (all14_eq fuelN)

def less14_s : FSig := ⟨.agg (.val int <| .val (.sl pair2) <| .nil) <| .val (.sl int) <| .val (.sl int) <| .val int <| .nil, [], .agg (.val int <| .val (.sl pair2) <| .nil) <| .val int <| .nil, []⟩
def less14_L (nn : Nat) : Nat → Option LoopS := fun n =>
  bif Nat.beq n 2 then some ⟨{ env := [(3, ASh.dat (Ty.int IntKind.i64)), (10, ASh.dat (Ty.int IntKind.i64))], heap := [(64, CSh.box 33 ((ASh.dat (Ty.int IntKind.i64)).cons ((ASh.dat ((Ty.int IntKind.i64).pair ((Ty.int IntKind.i64).pair Ty.unit)).sl).cons ASh.nil)))], keep := [0, 1, 2, 4, 8, 9], keepH := [128] }, fun _ => nn⟩ else
  none
def less14_J : Nat → Option Shape := fun n =>
  none
set_option maxRecDepth 100000 in
theorem less14_eq : ∀ (nn : Nat)  xa xo, (less14_s.prog (mkC Tryz.prog T_all14 ⟨false, false⟩ (less14_L nn) less14_J) Tryz.f124 xa xo).run = less14F nn xa.1.1 xa.1.2.1 xa.2.1 xa.2.2.1 xa.2.2.2.1 := by intros; kernel_rfl
noncomputable def T_less14 : FuncId → Summ := addS T_all14 124 (less14_s.summ (fun xa xo => less14 xa.1.1 xa.1.2.1 xa.2.1 xa.2.2.1 xa.2.2.2.1))
theorem T_less14_ok : ∀ g, SummOK Tryz.prog g (T_less14 g) := fn_ok T_all14_ok fol Tryz.func124 (by kernel_rfl) (by kernel_rfl) (by kernel_rfl) (less14_eq fuelN)

def each14_s : FSig := ⟨.agg (.val int <| .val (.sl pair2) <| .nil) <| .val int <| .val (.sl int) <| .val (.sl int) <| .nil, [], .agg (.val int <| .val (.sl pair2) <| .nil) <| .own 3 int <| .nil, []⟩
def each14_L (nn : Nat) : Nat → Option LoopS := fun n =>
  bif Nat.beq n 3 then some ⟨{ env := [(10, ASh.arr 49), (11, ASh.dat (Ty.int IntKind.i64))], heap := [(64, CSh.box 33 ((ASh.dat (Ty.int IntKind.i64)).cons ((ASh.dat ((Ty.int IntKind.i64).pair ((Ty.int IntKind.i64).pair Ty.unit)).sl).cons ASh.nil))), (49, CSh.arr 3 (Ty.int IntKind.i64))], keep := [0, 1, 2, 3, 4, 8, 9], keepH := [128] }, fun _ => nn⟩ else
  none
def each14_J : Nat → Option Shape := fun n =>
  none
set_option maxRecDepth 100000 in
theorem each14_eq : ∀ (nn : Nat)  xa xo, (each14_s.prog (mkC Tryz.prog T_less14 ⟨false, false⟩ (each14_L nn) each14_J) Tryz.f93 xa xo).run = each14F nn xa.1.1 xa.1.2.1 xa.2.1 xa.2.2.1 xa.2.2.2.1 := by intros; kernel_rfl
noncomputable def T_each14 : FuncId → Summ := addS T_less14 93 (each14_s.summ (fun xa xo => each14 xa.1.1 xa.1.2.1 xa.2.1 xa.2.2.1 xa.2.2.2.1))
theorem T_each14_ok : ∀ g, SummOK Tryz.prog g (T_each14 g) := fn_ok T_less14_ok fol Tryz.func93 (by kernel_rfl) (by kernel_rfl) (by kernel_rfl) (each14_eq fuelN)

def times14_s : FSig := ⟨.agg (.val int <| .val (.sl pair2) <| .nil) <| .val (.sl int) <| .val (.sl int) <| .nil, [], .agg (.val int <| .val (.sl pair2) <| .nil) <| .own 3 int <| .nil, []⟩
def times14_L (nn : Nat) : Nat → Option LoopS := fun n =>
  bif Nat.beq n 3 then some ⟨{ env := [(8, ASh.arr 384), (9, ASh.dat (Ty.int IntKind.i64))], heap := [(64, CSh.box 33 ((ASh.dat (Ty.int IntKind.i64)).cons ((ASh.dat ((Ty.int IntKind.i64).pair ((Ty.int IntKind.i64).pair Ty.unit)).sl).cons ASh.nil))), (384, CSh.arr 3 (Ty.int IntKind.i64)), (384, CSh.arr 3 (Ty.int IntKind.i64))], keep := [0, 1, 2, 3, 6, 7], keepH := [128] }, fun _ => nn⟩ else
  bif Nat.beq n 7 then some ⟨{ env := [(10, ASh.arr 50), (11, ASh.dat (Ty.int IntKind.i64))], heap := [(64, CSh.box 33 ((ASh.dat (Ty.int IntKind.i64)).cons ((ASh.dat ((Ty.int IntKind.i64).pair ((Ty.int IntKind.i64).pair Ty.unit)).sl).cons ASh.nil))), (50, CSh.arr 3 (Ty.int IntKind.i64))], keep := [0, 1, 2, 3, 6, 7, 8, 9], keepH := [128, 384] }, fun _ => nn⟩ else
  none
def times14_J : Nat → Option Shape := fun n =>
  none
set_option maxRecDepth 100000 in
theorem times14_eq : ∀ (nn : Nat)  xa xo, (times14_s.prog (mkC Tryz.prog T_each14 ⟨false, false⟩ (times14_L nn) times14_J) Tryz.f95 xa xo).run = times14F nn xa.1.1 xa.1.2.1 xa.2.1 xa.2.2.1 := by intros; kernel_rfl
noncomputable def T_times14 : FuncId → Summ := addS T_each14 95 (times14_s.summ (fun xa xo => times14 xa.1.1 xa.1.2.1 xa.2.1 xa.2.2.1))
theorem T_times14_ok : ∀ g, SummOK Tryz.prog g (T_times14 g) := fn_ok T_each14_ok fol Tryz.func95 (by kernel_rfl) (by kernel_rfl) (by kernel_rfl) (times14_eq fuelN)

def lit14_s : FSig := ⟨.val int <| .val int <| .nil, [], .own 3 int <| .nil, []⟩
def lit14_L (nn : Nat) : Nat → Option LoopS := fun n =>
  bif Nat.beq n 3 then some ⟨{ env := [(5, ASh.arr 49), (6, ASh.dat (Ty.int IntKind.i64))], heap := [(49, CSh.arr 3 (Ty.int IntKind.i64))], keep := [0, 1, 4], keepH := [] }, fun _ => nn⟩ else
  none
def lit14_J : Nat → Option Shape := fun n =>
  none
set_option maxRecDepth 100000 in
theorem lit14_eq : ∀ (nn : Nat)  xa xo, (lit14_s.prog (mkC Tryz.prog T_times14 ⟨false, false⟩ (lit14_L nn) lit14_J) Tryz.f91 xa xo).run = lit14F nn xa.1 xa.2.1 := by intros; kernel_rfl
noncomputable def T_lit14 : FuncId → Summ := addS T_times14 91 (lit14_s.summ (fun xa xo => lit14 xa.1 xa.2.1))
theorem T_lit14_ok : ∀ g, SummOK Tryz.prog g (T_lit14 g) := fn_ok T_times14_ok fol Tryz.func91 (by kernel_rfl) (by kernel_rfl) (by kernel_rfl) (lit14_eq fuelN)

def asked14_s : FSig := ⟨.agg (.val int <| .val (.sl pair2) <| .nil) <| .agg (.val int <| .val int <| .val int <| .val int <| .val int <| .val int <| .val int <| .nil) <| .val (.sl int) <| .val (.sl int) <| .nil, [], .agg (.val int <| .val (.sl pair2) <| .nil) <| .val int <| .nil, []⟩
def asked14_L : Nat → Option LoopS := fun n =>
  none
def asked14_J : Nat → Option Shape := fun n =>
  none
set_option maxRecDepth 100000 in
theorem asked14_eq : ∀  xa xo, (asked14_s.prog (mkC Tryz.prog T_lit14 ⟨false, false⟩ asked14_L asked14_J) Tryz.f97 xa xo).run = asked14  xa.1.1 xa.1.2.1 xa.2.1.1 xa.2.1.2.1 xa.2.1.2.2.1 xa.2.1.2.2.2.1 xa.2.1.2.2.2.2.1 xa.2.1.2.2.2.2.2.1 xa.2.1.2.2.2.2.2.2.1 xa.2.2.1 xa.2.2.2.1 := by intros; kernel_rfl
noncomputable def T_asked14 : FuncId → Summ := addS T_lit14 97 (asked14_s.summ (fun xa xo => asked14 xa.1.1 xa.1.2.1 xa.2.1.1 xa.2.1.2.1 xa.2.1.2.2.1 xa.2.1.2.2.2.1 xa.2.1.2.2.2.2.1 xa.2.1.2.2.2.2.2.1 xa.2.1.2.2.2.2.2.2.1 xa.2.2.1 xa.2.2.2.1))
theorem T_asked14_ok : ∀ g, SummOK Tryz.prog g (T_asked14 g) := fn_ok T_lit14_ok fol Tryz.func97 (by kernel_rfl) (by kernel_rfl) (by kernel_rfl) asked14_eq

def do14_s : FSig := ⟨.agg (.val int <| .val (.sl pair2) <| .nil) <| .agg (.val int <| .val int <| .val int <| .val int <| .val int <| .val int <| .val int <| .nil) <| .val (.sl int) <| .val (.sl int) <| .val (.sl int) <| .nil, [], .agg (.val int <| .val (.sl pair2) <| .nil) <| .own 3 int <| .nil, []⟩
def do14_L (nn : Nat) : Nat → Option LoopS := fun n =>
  bif Nat.beq n 27 then some ⟨{ env := [(20, ASh.arr 49), (21, ASh.dat (Ty.int IntKind.i64))], heap := [(64, CSh.box 33 ((ASh.dat (Ty.int IntKind.i64)).cons ((ASh.dat ((Ty.int IntKind.i64).pair ((Ty.int IntKind.i64).pair Ty.unit)).sl).cons ASh.nil))), (49, CSh.arr 3 (Ty.int IntKind.i64))], keep := [0, 1, 2, 3, 4, 5, 6, 10, 11, 27], keepH := [128, 192] }, fun _ => nn⟩ else
  none
def do14_J : Nat → Option Shape := fun n =>
  none
set_option maxRecDepth 100000 in
theorem do14_eq : ∀ (nn : Nat)  xa xo, (do14_s.prog (mkC Tryz.prog T_asked14 ⟨false, false⟩ (do14_L nn) do14_J) Tryz.f67 xa xo).run = do14F nn xa.1.1 xa.1.2.1 xa.2.1.1 xa.2.1.2.1 xa.2.1.2.2.1 xa.2.1.2.2.2.1 xa.2.1.2.2.2.2.1 xa.2.1.2.2.2.2.2.1 xa.2.1.2.2.2.2.2.2.1 xa.2.2.1 xa.2.2.2.1 xa.2.2.2.2.1 := by intros; kernel_rfl
noncomputable def T_do14 : FuncId → Summ := addS T_asked14 67 (do14_s.summ (fun xa xo => do14 xa.1.1 xa.1.2.1 xa.2.1.1 xa.2.1.2.1 xa.2.1.2.2.1 xa.2.1.2.2.2.1 xa.2.1.2.2.2.2.1 xa.2.1.2.2.2.2.2.1 xa.2.1.2.2.2.2.2.2.1 xa.2.2.1 xa.2.2.2.1 xa.2.2.2.2.1))
theorem T_do14_ok : ∀ g, SummOK Tryz.prog g (T_do14 g) := fn_ok T_asked14_ok fol Tryz.func67 (by kernel_rfl) (by kernel_rfl) (by kernel_rfl) (do14_eq fuelN)

end GoSx
end
section
/- Walks: the functions compute what their models say: CertD. -/
set_option linter.unusedVariables false
set_option maxHeartbeats 0
set_option maxRecDepth 100000
namespace GoSx
open Go Go.Proofs
def made15_s : FSig := ⟨.agg (.val (.sl nodeT) <| .val (.sl pinT) <| .val (.sl cellT) <| .val (.sl propT) <| .val (.sl pinT) <| .nil) <| .nil, [], .agg (.val int <| .val (.sl pair2) <| .nil) <| .own 48 (.sl int) <| .nil, []⟩
def made15_L (nn : Nat) : Nat → Option LoopS := fun n =>
  bif Nat.beq n 7 then some ⟨{ env := [(6, ASh.arr 49), (7, ASh.dat (Ty.int IntKind.i64)), (9, ASh.dat (Ty.int IntKind.i64)), (8, ASh.dat (Ty.int IntKind.i64))], heap := [(768, CSh.box 33 ((ASh.dat (Ty.int IntKind.i64)).cons ((ASh.dat ((Ty.int IntKind.i64).pair ((Ty.int IntKind.i64).pair Ty.unit)).sl).cons ASh.nil))), (49, CSh.arr 48 (Ty.int IntKind.i64).sl)], keep := [0, 1, 2, 3, 4, 5], keepH := [64, 128] }, fun _ => nn⟩ else
  none
def made15_J : Nat → Option Shape := fun n =>
  none
set_option maxRecDepth 100000 in
theorem made15_eq : ∀ (nn : Nat)  xa xo, (made15_s.prog (mkC Tryz.prog T_do14 ⟨false, false⟩ (made15_L nn) made15_J) Tryz.f40 xa xo).run = made15F nn xa.1.1 xa.1.2.1 xa.1.2.2.1 xa.1.2.2.2.1 xa.1.2.2.2.2.1 := by intros; kernel_rfl
noncomputable def T_made15 : FuncId → Summ := addS T_do14 40 (made15_s.summ (fun xa xo => made15 xa.1.1 xa.1.2.1 xa.1.2.2.1 xa.1.2.2.2.1 xa.1.2.2.2.2.1))
theorem T_made15_ok : ∀ g, SummOK Tryz.prog g (T_made15 g) := fn_ok T_do14_ok fol Tryz.func40 (by kernel_rfl) (by kernel_rfl) (by kernel_rfl) (made15_eq fuelN)

def compile15_s : FSig := ⟨.agg (.val (.sl nodeT) <| .val (.sl pinT) <| .val (.sl cellT) <| .val (.sl propT) <| .val (.sl pinT) <| .nil) <| .nil, [], .agg (.val int <| .val (.sl pair2) <| .val (.sl pair3) <| .val (.sl latchT) <| .val (.sl outT) <| .nil) <| .nil, []⟩
def compile15_L (nn : Nat) : Nat → Option LoopS := fun n =>
  bif Nat.beq n 4 then some ⟨{ env := [(6, ASh.dat (Ty.int IntKind.i64))], heap := [(832, CSh.box 38 ((ASh.dat (Ty.int IntKind.i64)).cons ((ASh.dat ((Ty.int IntKind.i64).pair ((Ty.int IntKind.i64).pair Ty.unit)).sl).cons ((ASh.arr 51).cons (ASh.nilv.cons (ASh.nilv.cons ASh.nil)))))), (51, CSh.arr 68 ((Ty.int IntKind.i64).pair ((Ty.int IntKind.i64).pair ((Ty.int IntKind.i64).pair Ty.unit))))], keep := [0, 1, 2, 3, 4, 5], keepH := [64, 128, 512, 258] }, fun _ => nn⟩ else
  bif Nat.beq n 7 then some ⟨{ env := [(7, ASh.dat (Ty.int IntKind.i64))], heap := [(832, CSh.box 38 ((ASh.dat (Ty.int IntKind.i64)).cons ((ASh.dat ((Ty.int IntKind.i64).pair ((Ty.int IntKind.i64).pair Ty.unit)).sl).cons ((ASh.arr 51).cons (ASh.nilv.cons (ASh.nilv.cons ASh.nil)))))), (51, CSh.arr 68 ((Ty.int IntKind.i64).pair ((Ty.int IntKind.i64).pair ((Ty.int IntKind.i64).pair Ty.unit))))], keep := [0, 1, 2, 3, 4, 5, 6], keepH := [64, 128, 512, 258] }, fun _ => nn⟩ else
  bif Nat.beq n 11 then some ⟨{ env := [(8, ASh.dat (Ty.int IntKind.i64))], heap := [(832, CSh.box 38 ((ASh.dat (Ty.int IntKind.i64)).cons ((ASh.dat ((Ty.int IntKind.i64).pair ((Ty.int IntKind.i64).pair Ty.unit)).sl).cons ((ASh.arr 51).cons ((ASh.arr 54).cons (ASh.nilv.cons ASh.nil)))))), (54, CSh.arr 65 ((Ty.int IntKind.i64).pair ((Ty.int IntKind.i64).pair (Ty.bool.pair ((Ty.int IntKind.i64).pair ((Ty.int IntKind.i64).pair Ty.unit))))))], keep := [0, 1, 2, 3, 4, 5, 6], keepH := [64, 128, 512, 258, 51] }, fun _ => nn⟩ else
  bif Nat.beq n 15 then some ⟨{ env := [(10, ASh.dat (Ty.int IntKind.i64))], heap := [(832, CSh.box 38 ((ASh.dat (Ty.int IntKind.i64)).cons ((ASh.dat ((Ty.int IntKind.i64).pair ((Ty.int IntKind.i64).pair Ty.unit)).sl).cons ((ASh.arr 51).cons ((ASh.arr 54).cons (ASh.nilv.cons ASh.nil)))))), (54, CSh.arr 65 ((Ty.int IntKind.i64).pair ((Ty.int IntKind.i64).pair (Ty.bool.pair ((Ty.int IntKind.i64).pair ((Ty.int IntKind.i64).pair Ty.unit))))))], keep := [0, 1, 2, 3, 4, 5, 6, 8, 9], keepH := [64, 128, 512, 258, 51, 2048] }, fun _ => nn⟩ else
  bif Nat.beq n 19 then some ⟨{ env := [(11, ASh.dat (Ty.int IntKind.i64))], heap := [(832, CSh.box 38 ((ASh.dat (Ty.int IntKind.i64)).cons ((ASh.dat ((Ty.int IntKind.i64).pair ((Ty.int IntKind.i64).pair Ty.unit)).sl).cons ((ASh.arr 51).cons ((ASh.arr 54).cons ((ASh.arr 55).cons ASh.nil)))))), (55, CSh.arr 61 ((Ty.int IntKind.i64).pair ((Ty.int IntKind.i64).pair ((Ty.int IntKind.i64).pair Ty.unit))))], keep := [0, 1, 2, 3, 4, 5, 6, 8], keepH := [64, 128, 512, 258, 51, 54] }, fun _ => nn⟩ else
  none
def compile15_J : Nat → Option Shape := fun n =>
  none
set_option maxRecDepth 100000 in
theorem compile15_eq : ∀ (nn : Nat)  xa xo, (compile15_s.prog (mkC Tryz.prog T_made15 ⟨false, false⟩ (compile15_L nn) compile15_J) Tryz.f16 xa xo).run = compile15F nn xa.1.1 xa.1.2.1 xa.1.2.2.1 xa.1.2.2.2.1 xa.1.2.2.2.2.1 := by intros; kernel_rfl
noncomputable def T_compile15 : FuncId → Summ := addS T_made15 16 (compile15_s.summ (fun xa xo => compile15 xa.1.1 xa.1.2.1 xa.1.2.2.1 xa.1.2.2.2.1 xa.1.2.2.2.2.1))
theorem T_compile15_ok : ∀ g, SummOK Tryz.prog g (T_compile15 g) := fn_ok T_made15_ok fol Tryz.func16 (by kernel_rfl) (by kernel_rfl) (by kernel_rfl) (compile15_eq fuelN)

def aLit_s : FSig := ⟨.lend (.sl .bool) <| .val int <| .nil, [], .val .bool <| .nil, []⟩
def aLit_L : Nat → Option LoopS := fun n =>
  none
def aLit_J : Nat → Option Shape := fun n =>
  none
set_option maxRecDepth 100000 in
theorem aLit_eq : ∀  xa xo, (aLit_s.prog (mkC Tryz.prog T_compile15 ⟨false, false⟩ aLit_L aLit_J) Tryz.f19 xa xo).run = aLit  xa.1 xa.2.1 := by intros; kernel_rfl
noncomputable def T_aLit : FuncId → Summ := addS T_compile15 19 (aLit_s.summ (fun xa xo => aLit xa.1 xa.2.1))
theorem T_aLit_ok : ∀ g, SummOK Tryz.prog g (T_aLit g) := fn_ok T_compile15_ok fol Tryz.func19 (by kernel_rfl) (by kernel_rfl) (by kernel_rfl) aLit_eq

def aEval_s : FSig := ⟨.agg (.val int <| .lend (.sl pair2) <| .nil) <| .lend (.sl .bool) <| .nil, [], .own 4 .bool <| .nil, []⟩
def aEval_L (nn : Nat) : Nat → Option LoopS := fun n =>
  bif Nat.beq n 4 then some ⟨{ env := [(5, ASh.arr 832), (26, ASh.dat (Ty.int IntKind.i64))], heap := [(832, CSh.arr 4 Ty.bool), (832, CSh.arr 4 Ty.bool)], keep := [0, 1, 2, 4, 24, 25], keepH := [64] }, fun _ => nn⟩ else
  none
def aEval_J : Nat → Option Shape := fun n =>
  none
set_option maxRecDepth 100000 in
theorem aEval_eq : ∀ (nn : Nat)  xa xo, (aEval_s.prog (mkC Tryz.prog T_aLit ⟨false, false⟩ (aEval_L nn) aEval_J) Tryz.f18 xa xo).run = aEvalF nn xa.1.1 xa.1.2.1 xa.2.1 := by intros; kernel_rfl
noncomputable def T_aEval : FuncId → Summ := addS T_aLit 18 (aEval_s.summ (fun xa xo => aEval xa.1.1 xa.1.2.1 xa.2.1))
theorem T_aEval_ok : ∀ g, SummOK Tryz.prog g (T_aEval g) := fn_ok T_aLit_ok fol Tryz.func18 (by kernel_rfl) (by kernel_rfl) (by kernel_rfl) (aEval_eq fuelN)

def circFirst_s : FSig := ⟨.agg (.val int <| .lend (.sl pair2) <| .lend (.sl pair3) <| .lend (.sl latchT) <| .lend (.sl outT) <| .nil) <| .nil, [], .own 4 .bool <| .nil, []⟩
def circFirst_L (nn : Nat) : Nat → Option LoopS := fun n =>
  bif Nat.beq n 3 then some ⟨{ env := [(13, ASh.dat (Ty.int IntKind.i64))], heap := [(384, CSh.arr 4 Ty.bool)], keep := [0, 1, 2, 3, 11, 12], keepH := [64] }, fun _ => nn⟩ else
  none
def circFirst_J : Nat → Option Shape := fun n =>
  none
set_option maxRecDepth 100000 in
theorem circFirst_eq : ∀ (nn : Nat)  xa xo, (circFirst_s.prog (mkC Tryz.prog T_aEval ⟨false, false⟩ (circFirst_L nn) circFirst_J) Tryz.f7 xa xo).run = circFirstF nn xa.1.1 xa.1.2.1 xa.1.2.2.1 xa.1.2.2.2.1 xa.1.2.2.2.2.1 := by intros; kernel_rfl
noncomputable def T_circFirst : FuncId → Summ := addS T_aEval 7 (circFirst_s.summ (fun xa xo => circFirst xa.1.1 xa.1.2.1 xa.1.2.2.1 xa.1.2.2.2.1 xa.1.2.2.2.2.1))
theorem T_circFirst_ok : ∀ g, SummOK Tryz.prog g (T_circFirst g) := fn_ok T_aEval_ok fol Tryz.func7 (by kernel_rfl) (by kernel_rfl) (by kernel_rfl) (circFirst_eq fuelN)

def circStep_s : FSig := ⟨.agg (.val int <| .lend (.sl pair2) <| .lend (.sl pair3) <| .lend (.sl latchT) <| .lend (.sl outT) <| .nil) <| .lend (.sl .bool) <| .lend (.sl .bool) <| .nil, [], .own 4 .bool <| .own 4 .bool <| .nil, []⟩
def circStep_L (nn : Nat) : Nat → Option LoopS := fun n =>
  bif Nat.beq n 5 then some ⟨{ env := [(41, ASh.dat (Ty.int IntKind.i64))], heap := [(1472, CSh.arr 4 Ty.bool)], keep := [0, 1, 2, 3, 6, 7, 8, 9, 10, 11, 39, 40], keepH := [64, 1152, 1728] }, fun _ => nn⟩ else
  bif Nat.beq n 10 then some ⟨{ env := [(57, ASh.dat (Ty.int IntKind.i64))], heap := [(1728, CSh.arr 4 Ty.bool)], keep := [0, 1, 2, 3, 6, 7, 8, 9, 10, 11, 39, 40, 41, 55, 56], keepH := [64, 1152, 1472] }, fun _ => nn⟩ else
  none
def circStep_J : Nat → Option Shape := fun n =>
  none
set_option maxRecDepth 100000 in
theorem circStep_eq : ∀ (nn : Nat)  xa xo, (circStep_s.prog (mkC Tryz.prog T_circFirst ⟨false, false⟩ (circStep_L nn) circStep_J) Tryz.f8 xa xo).run = circStepF nn xa.1.1 xa.1.2.1 xa.1.2.2.1 xa.1.2.2.2.1 xa.1.2.2.2.2.1 xa.2.1 xa.2.2.1 := by intros; kernel_rfl
noncomputable def T_circStep : FuncId → Summ := addS T_circFirst 8 (circStep_s.summ (fun xa xo => circStep xa.1.1 xa.1.2.1 xa.1.2.2.1 xa.1.2.2.2.1 xa.1.2.2.2.2.1 xa.2.1 xa.2.2.1))
theorem T_circStep_ok : ∀ g, SummOK Tryz.prog g (T_circStep g) := fn_ok T_circFirst_ok fol Tryz.func8 (by kernel_rfl) (by kernel_rfl) (by kernel_rfl) (circStep_eq fuelN)

def circIns_s : FSig := ⟨.agg (.val int <| .lend (.sl pair2) <| .lend (.sl pair3) <| .lend (.sl latchT) <| .lend (.sl outT) <| .nil) <| .lend (.sl int) <| .nil, [], .own 4 .bool <| .nil, []⟩
def circIns_L (nn : Nat) : Nat → Option LoopS := fun n =>
  bif Nat.beq n 3 then some ⟨{ env := [(15, ASh.dat (Ty.int IntKind.i64))], heap := [(384, CSh.arr 4 Ty.bool)], keep := [0, 1, 2, 4, 5, 13, 14], keepH := [64] }, fun _ => nn⟩ else
  none
def circIns_J : Nat → Option Shape := fun n =>
  none
set_option maxRecDepth 100000 in
theorem circIns_eq : ∀ (nn : Nat)  xa xo, (circIns_s.prog (mkC Tryz.prog T_circStep ⟨false, false⟩ (circIns_L nn) circIns_J) Tryz.f9 xa xo).run = circInsF nn xa.1.1 xa.1.2.1 xa.1.2.2.1 xa.1.2.2.2.1 xa.1.2.2.2.2.1 xa.2.1 := by intros; kernel_rfl
noncomputable def T_circIns : FuncId → Summ := addS T_circStep 9 (circIns_s.summ (fun xa xo => circIns xa.1.1 xa.1.2.1 xa.1.2.2.1 xa.1.2.2.2.1 xa.1.2.2.2.2.1 xa.2.1))
theorem T_circIns_ok : ∀ g, SummOK Tryz.prog g (T_circIns g) := fn_ok T_circStep_ok fol Tryz.func9 (by kernel_rfl) (by kernel_rfl) (by kernel_rfl) (circIns_eq fuelN)

def legal16_s : FSig := ⟨.agg (.val int <| .lend (.sl pair2) <| .lend (.sl pair3) <| .lend (.sl latchT) <| .lend (.sl outT) <| .nil) <| .lend (.sl .bool) <| .nil, [], .val .bool <| .nil, []⟩
def legal16_L (nn : Nat) : Nat → Option LoopS := fun n =>
  bif Nat.beq n 2 then some ⟨{ env := [(5, ASh.dat (Ty.int IntKind.i64))], heap := [], keep := [0, 1, 2, 4], keepH := [64] }, fun _ => nn⟩ else
  none
def legal16_J : Nat → Option Shape := fun n =>
  none
set_option maxRecDepth 100000 in
theorem legal16_eq : ∀ (nn : Nat)  xa xo, (legal16_s.prog (mkC Tryz.prog T_circIns ⟨false, false⟩ (legal16_L nn) legal16_J) Tryz.f10 xa xo).run = legal16F nn xa.1.1 xa.1.2.1 xa.1.2.2.1 xa.1.2.2.2.1 xa.1.2.2.2.2.1 xa.2.1 := by intros; kernel_rfl
noncomputable def T_legal16 : FuncId → Summ := addS T_circIns 10 (legal16_s.summ (fun xa xo => legal16 xa.1.1 xa.1.2.1 xa.1.2.2.1 xa.1.2.2.2.1 xa.1.2.2.2.2.1 xa.2.1))
theorem T_legal16_ok : ∀ g, SummOK Tryz.prog g (T_legal16 g) := fn_ok T_circIns_ok fol Tryz.func10 (by kernel_rfl) (by kernel_rfl) (by kernel_rfl) (legal16_eq fuelN)

def hits16_s : FSig := ⟨.agg (.val int <| .lend (.sl pair2) <| .lend (.sl pair3) <| .lend (.sl latchT) <| .lend (.sl outT) <| .nil) <| .val int <| .lend (.sl .bool) <| .nil, [], .val .bool <| .nil, []⟩
def hits16_L : Nat → Option LoopS := fun n =>
  none
def hits16_J : Nat → Option Shape := fun n =>
  none
set_option maxRecDepth 100000 in
theorem hits16_eq : ∀  xa xo, (hits16_s.prog (mkC Tryz.prog T_legal16 ⟨false, false⟩ hits16_L hits16_J) Tryz.f11 xa xo).run = hits16  xa.1.1 xa.1.2.1 xa.1.2.2.1 xa.1.2.2.2.1 xa.1.2.2.2.2.1 xa.2.1 xa.2.2.1 := by intros; kernel_rfl
noncomputable def T_hits16 : FuncId → Summ := addS T_legal16 11 (hits16_s.summ (fun xa xo => hits16 xa.1.1 xa.1.2.1 xa.1.2.2.1 xa.1.2.2.2.1 xa.1.2.2.2.2.1 xa.2.1 xa.2.2.1))
theorem T_hits16_ok : ∀ g, SummOK Tryz.prog g (T_hits16 g) := fn_ok T_legal16_ok fol Tryz.func11 (by kernel_rfl) (by kernel_rfl) (by kernel_rfl) hits16_eq

def pins26_s : FSig := ⟨.agg (.val int <| .lend (.sl pair2) <| .lend (.sl pair3) <| .lend (.sl latchT) <| .lend (.sl outT) <| .nil) <| .nil, [], .val int <| .nil, []⟩
def pins26_L (nn : Nat) : Nat → Option LoopS := fun n =>
  bif Nat.beq n 3 then some ⟨{ env := [(3, ASh.dat (Ty.int IntKind.i64)), (4, ASh.dat (Ty.int IntKind.i64))], heap := [], keep := [0, 1, 2], keepH := [64] }, fun _ => nn⟩ else
  none
def pins26_J : Nat → Option Shape := fun n =>
  none
set_option maxRecDepth 100000 in
theorem pins26_eq : ∀ (nn : Nat)  xa xo, (pins26_s.prog (mkC Tryz.prog T_hits16 ⟨false, false⟩ (pins26_L nn) pins26_J) Tryz.f17 xa xo).run = pins26F nn xa.1.1 xa.1.2.1 xa.1.2.2.1 xa.1.2.2.2.1 xa.1.2.2.2.2.1 := by intros; kernel_rfl
noncomputable def T_pins26 : FuncId → Summ := addS T_hits16 17 (pins26_s.summ (fun xa xo => pins26 xa.1.1 xa.1.2.1 xa.1.2.2.1 xa.1.2.2.2.1 xa.1.2.2.2.2.1))
theorem T_pins26_ok : ∀ g, SummOK Tryz.prog g (T_pins26 g) := fn_ok T_hits16_ok fol Tryz.func17 (by kernel_rfl) (by kernel_rfl) (by kernel_rfl) (pins26_eq fuelN)

def cpins_s : FSig := ⟨.agg (.val int <| .lend (.sl pair2) <| .lend (.sl pair3) <| .lend (.sl latchT) <| .lend (.sl outT) <| .nil) <| .nil, [], .val int <| .nil, []⟩
def cpins_L : Nat → Option LoopS := fun n =>
  none
def cpins_J : Nat → Option Shape := fun n =>
  none
set_option maxRecDepth 100000 in
theorem cpins_eq : ∀  xa xo, (cpins_s.prog (mkC Tryz.prog T_pins26 ⟨false, false⟩ cpins_L cpins_J) Tryz.f41 xa xo).run = cpins  xa.1.1 xa.1.2.1 xa.1.2.2.1 xa.1.2.2.2.1 xa.1.2.2.2.2.1 := by intros; kernel_rfl
noncomputable def T_cpins : FuncId → Summ := addS T_pins26 41 (cpins_s.summ (fun xa xo => cpins xa.1.1 xa.1.2.1 xa.1.2.2.1 xa.1.2.2.2.1 xa.1.2.2.2.2.1))
theorem T_cpins_ok : ∀ g, SummOK Tryz.prog g (T_cpins g) := fn_ok T_pins26_ok fol Tryz.func41 (by kernel_rfl) (by kernel_rfl) (by kernel_rfl) cpins_eq

def oddC1_s : FSig := ⟨.val int <| .nil, [], .val .bool <| .nil, []⟩
def oddC1_L : Nat → Option LoopS := fun n =>
  none
def oddC1_J : Nat → Option Shape := fun n =>
  none
set_option maxRecDepth 100000 in
theorem oddC1_eq : ∀  xa xo, (oddC1_s.prog (mkC Tryz.prog T_cpins ⟨false, false⟩ oddC1_L oddC1_J) Tryz.f44 xa xo).run = oddC1  xa.1 := by intros; kernel_rfl
noncomputable def T_oddC1 : FuncId → Summ := addS T_cpins 44 (oddC1_s.summ (fun xa xo => oddC1 xa.1))
theorem T_oddC1_ok : ∀ g, SummOK Tryz.prog g (T_oddC1 g) := fn_ok T_cpins_ok fol Tryz.func44 (by kernel_rfl) (by kernel_rfl) (by kernel_rfl) oddC1_eq

def IndexFunc_odd_s : FSig := ⟨.lend (.sl int) <| .clo 44 (.nil) <| .nil, [], .val int <| .nil, []⟩
def IndexFunc_odd_L (nn : Nat) : Nat → Option LoopS := fun n =>
  bif Nat.beq n 2 then some ⟨{ env := [(8, ASh.dat (Ty.int IntKind.i64))], heap := [], keep := [0, 1, 4, 7], keepH := [] }, fun _ => nn⟩ else
  none
def IndexFunc_odd_J : Nat → Option Shape := fun n =>
  none
set_option maxRecDepth 100000 in
theorem IndexFunc_odd_eq : ∀ (nn : Nat)  xa xo, (IndexFunc_odd_s.prog (mkC Tryz.prog T_oddC1 ⟨false, false⟩ (IndexFunc_odd_L nn) IndexFunc_odd_J) Tryz.f68 xa xo).run = IndexFunc_oddF nn xa.1 := by intros; kernel_rfl
noncomputable def T_IndexFunc_odd : FuncId → Summ := addS T_oddC1 68 (IndexFunc_odd_s.summ (fun xa xo => IndexFunc_odd xa.1))
theorem T_IndexFunc_odd_ok : ∀ g, SummOK Tryz.prog g (T_IndexFunc_odd g) := fn_ok T_oddC1_ok fol Tryz.func68 (by kernel_rfl) (by kernel_rfl) (by kernel_rfl) (IndexFunc_odd_eq fuelN)

def ContainsFunc_odd_s : FSig := ⟨.lend (.sl int) <| .clo 44 (.nil) <| .nil, [], .val .bool <| .nil, []⟩
def ContainsFunc_odd_L : Nat → Option LoopS := fun n =>
  none
def ContainsFunc_odd_J : Nat → Option Shape := fun n =>
  none
set_option maxRecDepth 100000 in
theorem ContainsFunc_odd_eq : ∀  xa xo, (ContainsFunc_odd_s.prog (mkC Tryz.prog T_IndexFunc_odd ⟨false, false⟩ ContainsFunc_odd_L ContainsFunc_odd_J) Tryz.f43 xa xo).run = ContainsFunc_odd  xa.1 := by intros; kernel_rfl
noncomputable def T_ContainsFunc_odd : FuncId → Summ := addS T_IndexFunc_odd 43 (ContainsFunc_odd_s.summ (fun xa xo => ContainsFunc_odd xa.1))
theorem T_ContainsFunc_odd_ok : ∀ g, SummOK Tryz.prog g (T_ContainsFunc_odd g) := fn_ok T_IndexFunc_odd_ok fol Tryz.func43 (by kernel_rfl) (by kernel_rfl) (by kernel_rfl) ContainsFunc_odd_eq

def oddC_s : FSig := ⟨.lend (.sl int) <| .obj 0 <| .nil, [(3, .val int <| .nil)], .val .bool <| .nil, []⟩
def oddC_L : Nat → Option LoopS := fun n =>
  none
def oddC_J : Nat → Option Shape := fun n =>
  none
set_option maxRecDepth 100000 in
theorem oddC_eq : ∀  xa xo, (oddC_s.prog (mkC Tryz.prog T_ContainsFunc_odd ⟨false, false⟩ oddC_L oddC_J) Tryz.f42 xa xo).run = oddC  xa.1 xo.1.1 := by intros; kernel_rfl
noncomputable def T_oddC : FuncId → Summ := addS T_ContainsFunc_odd 42 (oddC_s.summ (fun xa xo => oddC xa.1 xo.1.1))
theorem T_oddC_ok : ∀ g, SummOK Tryz.prog g (T_oddC g) := fn_ok T_ContainsFunc_odd_ok fol Tryz.func42 (by kernel_rfl) (by kernel_rfl) (by kernel_rfl) oddC_eq

def IndexFunc_rows_s : FSig := ⟨.lend (.sl (.sl int)) <| .clo 42 (.obj 0 <| .nil) <| .nil, [(3, .val int <| .nil)], .val int <| .nil, []⟩
def IndexFunc_rows_L (nn : Nat) : Nat → Option LoopS := fun n =>
  bif Nat.beq n 2 then some ⟨{ env := [(8, ASh.dat (Ty.int IntKind.i64))], heap := [(1, CSh.box 3 ((ASh.dat (Ty.int IntKind.i64)).cons ASh.nil))], keep := [0, 1, 4, 7], keepH := [] }, fun _ => nn⟩ else
  none
def IndexFunc_rows_J : Nat → Option Shape := fun n =>
  none
set_option maxRecDepth 100000 in
theorem IndexFunc_rows_eq : ∀ (nn : Nat)  xa xo, (IndexFunc_rows_s.prog (mkC Tryz.prog T_oddC ⟨false, false⟩ (IndexFunc_rows_L nn) IndexFunc_rows_J) Tryz.f69 xa xo).run = IndexFunc_rowsF nn xa.1 xo.1.1 := by intros; kernel_rfl
noncomputable def T_IndexFunc_rows : FuncId → Summ := addS T_oddC 69 (IndexFunc_rows_s.summ (fun xa xo => IndexFunc_rows xa.1 xo.1.1))
theorem T_IndexFunc_rows_ok : ∀ g, SummOK Tryz.prog g (T_IndexFunc_rows g) := fn_ok T_oddC_ok fol Tryz.func69 (by kernel_rfl) (by kernel_rfl) (by kernel_rfl) (IndexFunc_rows_eq fuelN)

def ContainsFunc_rows_s : FSig := ⟨.lend (.sl (.sl int)) <| .clo 42 (.obj 0 <| .nil) <| .nil, [(3, .val int <| .nil)], .val .bool <| .nil, []⟩
def ContainsFunc_rows_L : Nat → Option LoopS := fun n =>
  none
def ContainsFunc_rows_J : Nat → Option Shape := fun n =>
  none
set_option maxRecDepth 100000 in
theorem ContainsFunc_rows_eq : ∀  xa xo, (ContainsFunc_rows_s.prog (mkC Tryz.prog T_IndexFunc_rows ⟨false, false⟩ ContainsFunc_rows_L ContainsFunc_rows_J) Tryz.f45 xa xo).run = ContainsFunc_rows  xa.1 xo.1.1 := by intros; kernel_rfl
noncomputable def T_ContainsFunc_rows : FuncId → Summ := addS T_IndexFunc_rows 45 (ContainsFunc_rows_s.summ (fun xa xo => ContainsFunc_rows xa.1 xo.1.1))
theorem T_ContainsFunc_rows_ok : ∀ g, SummOK Tryz.prog g (T_ContainsFunc_rows g) := fn_ok T_IndexFunc_rows_ok fol Tryz.func45 (by kernel_rfl) (by kernel_rfl) (by kernel_rfl) ContainsFunc_rows_eq

def replayed_s : FSig := ⟨.agg (.val int <| .lend (.sl pair2) <| .lend (.sl pair3) <| .lend (.sl latchT) <| .lend (.sl outT) <| .nil) <| .val int <| .lend (.sl (.sl int)) <| .nil, [], .val .bool <| .nil, []⟩
def replayed_L (nn : Nat) : Nat → Option LoopS := fun n =>
  bif Nat.beq n 7 then some ⟨{ env := [(9, ASh.arr 1472), (37, ASh.dat (Ty.int IntKind.i64))], heap := [(1472, CSh.arr 4 Ty.bool)], keep := [0, 1, 2, 3, 6, 7, 8, 35, 36], keepH := [64, 320] }, fun _ => nn⟩ else
  bif Nat.beq n 11 then some ⟨{ env := [(54, ASh.dat (Ty.int IntKind.i64))], heap := [], keep := [0, 1, 2, 3, 6, 7, 8, 9, 10, 11, 12, 13, 35, 36, 37, 52, 53], keepH := [64, 320, 1472, 2496, 2497] }, fun _ => nn⟩ else
  none
def replayed_J : Nat → Option Shape := fun n =>
  none
set_option maxRecDepth 100000 in
theorem replayed_eq : ∀ (nn : Nat)  xa xo, (replayed_s.prog (mkC Tryz.prog T_ContainsFunc_rows ⟨false, false⟩ (replayed_L nn) replayed_J) Tryz.f20 xa xo).run = replayedF nn xa.1.1 xa.1.2.1 xa.1.2.2.1 xa.1.2.2.2.1 xa.1.2.2.2.2.1 xa.2.1 xa.2.2.1 := by intros; kernel_rfl
noncomputable def T_replayed : FuncId → Summ := addS T_ContainsFunc_rows 20 (replayed_s.summ (fun xa xo => replayed xa.1.1 xa.1.2.1 xa.1.2.2.1 xa.1.2.2.2.1 xa.1.2.2.2.2.1 xa.2.1 xa.2.2.1))
theorem T_replayed_ok : ∀ g, SummOK Tryz.prog g (T_replayed g) := fn_ok T_ContainsFunc_rows_ok fol Tryz.func20 (by kernel_rfl) (by kernel_rfl) (by kernel_rfl) (replayed_eq fuelN)

def some16_s : FSig := ⟨.nil, [], .agg (.val int <| .val (.sl pair2) <| .val (.sl pair3) <| .val (.sl latchT) <| .val (.sl outT) <| .nil) <| .nil, []⟩
def some16_L : Nat → Option LoopS := fun n =>
  none
def some16_J : Nat → Option Shape := fun n =>
  none
set_option maxRecDepth 100000 in
theorem some16_eq : ∀  xa xo, (some16_s.prog (mkC Tryz.prog T_replayed ⟨false, false⟩ some16_L some16_J) Tryz.f22 xa xo).run = some16   := by intros; kernel_rfl
noncomputable def T_some16 : FuncId → Summ := addS T_replayed 22 (some16_s.summ (fun xa xo => some16 ))
theorem T_some16_ok : ∀ g, SummOK Tryz.prog g (T_some16 g) := fn_ok T_replayed_ok fol Tryz.func22 (by kernel_rfl) (by kernel_rfl) (by kernel_rfl) some16_eq

def never26_s : FSig := ⟨.nil, [], .agg (.val int <| .val (.sl pair2) <| .val (.sl pair3) <| .val (.sl latchT) <| .val (.sl outT) <| .nil) <| .nil, []⟩
def never26_L : Nat → Option LoopS := fun n =>
  none
def never26_J : Nat → Option Shape := fun n =>
  none
set_option maxRecDepth 100000 in
theorem never26_eq : ∀  xa xo, (never26_s.prog (mkC Tryz.prog T_some16 ⟨false, false⟩ never26_L never26_J) Tryz.f13 xa xo).run = never26   := by intros; kernel_rfl
noncomputable def T_never26 : FuncId → Summ := addS T_some16 13 (never26_s.summ (fun xa xo => never26 ))
theorem T_never26_ok : ∀ g, SummOK Tryz.prog g (T_never26 g) := fn_ok T_some16_ok fol Tryz.func13 (by kernel_rfl) (by kernel_rfl) (by kernel_rfl) never26_eq

def few26_s : FSig := ⟨.agg (.val (.sl nodeT) <| .val (.sl pinT) <| .val (.sl cellT) <| .val (.sl propT) <| .val (.sl pinT) <| .nil) <| .val (.int .u8) <| .nil, [], .agg (.val int <| .val (.sl pair2) <| .val (.sl pair3) <| .val (.sl latchT) <| .val (.sl outT) <| .nil) <| .val int <| .val .bool <| .nil, []⟩
def few26_L : Nat → Option LoopS := fun n =>
  none
def few26_J : Nat → Option Shape := fun n =>
  none
set_option maxRecDepth 100000 in
theorem few26_eq : ∀  xa xo, (few26_s.prog (mkC Tryz.prog T_never26 ⟨false, false⟩ few26_L few26_J) Tryz.f5 xa xo).run = few26  xa.1.1 xa.1.2.1 xa.1.2.2.1 xa.1.2.2.2.1 xa.1.2.2.2.2.1 xa.2.1 := by intros; kernel_rfl
noncomputable def T_few26 : FuncId → Summ := addS T_never26 5 (few26_s.summ (fun xa xo => few26 xa.1.1 xa.1.2.1 xa.1.2.2.1 xa.1.2.2.2.1 xa.1.2.2.2.2.1 xa.2.1))
theorem T_few26_ok : ∀ g, SummOK Tryz.prog g (T_few26 g) := fn_ok T_never26_ok fol Tryz.func5 (by kernel_rfl) (by kernel_rfl) (by kernel_rfl) few26_eq

def rows26_s : FSig := ⟨.agg (.val int <| .val (.sl pair2) <| .val (.sl pair3) <| .val (.sl latchT) <| .val (.sl outT) <| .nil) <| .val (.sl (.sl (.int .u16))) <| .nil, [], .own 48 (.sl int) <| .nil, []⟩
def rows26_L (nn : Nat) : Nat → Option LoopS := fun n =>
  bif Nat.beq n 3 then some ⟨{ env := [(5, ASh.arr 50), (6, ASh.dat (Ty.int IntKind.i64))], heap := [(50, CSh.arr 48 (Ty.int IntKind.i64).sl)], keep := [0, 1, 2, 4], keepH := [64] }, fun _ => nn⟩ else
  bif Nat.beq n 7 then some ⟨{ env := [(7, ASh.arr 51), (8, ASh.dat (Ty.int IntKind.i64))], heap := [(51, CSh.arr 3 (Ty.int IntKind.i64))], keep := [0, 1, 2, 4, 5, 6], keepH := [64, 50] }, fun _ => nn⟩ else
  none
def rows26_J : Nat → Option Shape := fun n =>
  none
set_option maxRecDepth 100000 in
theorem rows26_eq : ∀ (nn : Nat)  xa xo, (rows26_s.prog (mkC Tryz.prog T_few26 ⟨false, false⟩ (rows26_L nn) rows26_J) Tryz.f6 xa xo).run = rows26F nn xa.1.1 xa.1.2.1 xa.1.2.2.1 xa.1.2.2.2.1 xa.1.2.2.2.2.1 xa.2.1 := by intros; kernel_rfl
noncomputable def T_rows26 : FuncId → Summ := addS T_few26 6 (rows26_s.summ (fun xa xo => rows26 xa.1.1 xa.1.2.1 xa.1.2.2.1 xa.1.2.2.2.1 xa.1.2.2.2.2.1 xa.2.1))
theorem T_rows26_ok : ∀ g, SummOK Tryz.prog g (T_rows26 g) := fn_ok T_few26_ok fol Tryz.func6 (by kernel_rfl) (by kernel_rfl) (by kernel_rfl) (rows26_eq fuelN)

end GoSx
end
section
/- Walks: the functions compute what their models say: CertE. -/
set_option linter.unusedVariables false
set_option maxHeartbeats 0
set_option maxRecDepth 100000
namespace GoSx
open Go Go.Proofs
def rupCheck_s : FSig := ⟨.lend (.sl (.sl int)) <| .val int <| .val (.sl (.sl int)) <| .val (.sl int) <| .nil, [], .val .bool <| .nil, []⟩
abbrev FgC := List (List Int) → List (List Int) → Option (Unit × ((List (List Int) × Unit) × (List (List Int) × Unit) × Unit) × Unit)
abbrev FrC := List Int → List (List Int) → Int → Option ((Bool × Unit) × ((List (List Int) × Unit) × (Int × Unit) × Unit) × Unit)
def ckFst : Code → Code | .seq a _ => a | c => c
def ckSnd : Code → Code | .seq _ b => b | c => c
def ckOps : Code → Array Oper | .region _ ops _ => ops | _ => #[]
def ckRf : Code → Code × Code | .block _ (.rangeFunc _ _ a b) => (a, b) | c => (c, c)
noncomputable def ckB : Code := Tryz.f55.body.getD .skip
noncomputable def ckR0 := ckOps (ckFst ckB)
noncomputable def ckR1 := ckOps (ckFst (ckFst (ckSnd ckB)))
noncomputable def ckR := ckSnd (ckSnd ckB)
noncomputable def ckA := (ckRf (ckSnd (ckFst (ckSnd ckB)))).1
noncomputable def ckBd := (ckRf (ckSnd (ckFst (ckSnd ckB)))).2
theorem ck_body : Tryz.f55.body = some (.seq (.region 0 ckR0 false) (.seq (.seq (.region 1 ckR1 false) (.block 0 (.rangeFunc (.tmp 14) #[15, 16] ckA ckBd))) ckR)) := by kernel_rfl

noncomputable def ckT (vg : FgC) (vr : FrC) : FuncId → Summ := addS (addS (addS (addS noS 114 (grownC_s.summ fun xa xo => vg xo.1.1 xo.2.1.1)) 85 (grown_s.summ (fun xa xo => grown xa.1 xa.2.1))) 116 (refutedC_s.summ (fun xa xo => vr xa.1 xo.1.1 xo.2.1.1))) 87 (refuted_s.summ (fun xa xo => refuted xa.1 xa.2.1))
noncomputable def ckC (vg : FgC) (vr : FrC) : XCfg := mkC Tryz.prog (ckT vg vr) ⟨false, false⟩ (fun _ => none) (fun _ => none)
noncomputable def ckS0 (l : List (List Int)) (vars : Int) (assume : List Int) : St := rupCheck_s.init (l, vars, [], assume, ()) () Tryz.f55.ntmps
noncomputable def ckS1 (vg : FgC) (vr : FrC) (l : List (List Int)) (vars : Int) (assume : List Int) : St := (regSt (ckC vg vr).cfg ckR0 (ckS0 l vars assume)).getD (ckS0 l vars assume)
noncomputable def ckS2 (vg : FgC) (vr : FrC) (l : List (List Int)) (vars : Int) (assume : List Int) : St := (regSt (ckC vg vr).cfg ckR1 (ckS1 vg vr l vars assume)).getD (ckS0 l vars assume)
theorem some_getD {α : Type} {o : Option α} {d : α} (h : o.isSome = true) : o = some (o.getD d) := by cases o <;> simp at h ⊢
theorem ck_s1 (vg : FgC) (vr : FrC) (l : List (List Int)) (vars : Int) (assume : List Int) : (regSt (ckC vg vr).cfg ckR0 (ckS0 l vars assume)).isSome = true := by kernel_rfl
theorem ck_s2 (vg : FgC) (vr : FrC) (l : List (List Int)) (vars : Int) (assume : List Int) : (regSt (ckC vg vr).cfg ckR1 (ckS1 vg vr l vars assume)).isSome = true := by kernel_rfl
theorem ck_next (vg : FgC) (vr : FrC) (l : List (List Int)) (vars : Int) (assume : List Int) : (ckS2 vg vr l vars assume).next = 384 := by kernel_rfl
theorem ck_env (vg : FgC) (vr : FrC) (l : List (List Int)) (vars : Int) (assume : List Int) : (ckS2 vg vr l vars assume).env 14 = .fn 114 (.cons (.ref 368 0) (.cons (.ref 369 0) .nil)) := by kernel_rfl
theorem ck_h0 (vg : FgC) (vr : FrC) (l : List (List Int)) (vars : Int) (assume : List Int) : (ckS2 vg vr l vars assume).heap 0 = .none := by kernel_rfl
theorem ck_run (vg : FgC) (vr : FrC) (l : List (List Int)) (vars : Int) (assume : List Int) : (ckT vg vr 114 (.cons (.opq 384) (.cons (.ref 368 0) (.cons (.ref 369 0) .nil))) 448).run (ckS2 vg vr l vars assume).heap = (match vg l [] with
  | some y => some ⟨[], .tup .nil, [(368, .box 41 (.cons (.dat (.sl (.sl int)) l) .nil)), (369, .box 41 (.cons (.dat (.sl (.sl int)) []) .nil))]⟩
  | none => none) := by kernel_rfl
theorem ck_end (vg : FgC) (vr : FrC) (l : List (List Int)) (vars : Int) (assume : List Int) : (exCode (ckC vg vr) ckR { (ckS2 vg vr l vars assume).upd [(368, .box 41 (.cons (.dat (.sl (.sl int)) l) .nil)), (369, .box 41 (.cons (.dat (.sl (.sl int)) []) .nil))] with next := 512 } Dirt.no (rupCheck_s.kont0 Tryz.prog Tryz.f55) rupCheck_s.oty.den fun y => y).run =
    (gd ((0 + l.length) * 24 ≤ lim) <|
    gd (0 + l.length ≤ lim) <|
    gd ((l.length + 0) * 24 ≤ lim) <|
    gd (l.length + 0 ≤ lim) <|
    bindO (vr assume (l ++ []) vars) fun y =>
    some ((y.1.1, ()), (), ())) := by kernel_rfl
noncomputable def ckTab : FuncId → Summ := ckT grownC refutedC
theorem ckTab_ok : ∀ g, SummOK Tryz.prog g (ckTab g) :=
  addS_ok (addS_ok (addS_ok (addS_ok noS_ok (summ_at T_rows26_ok 114 (S := grownC_s.summ fun xa xo => grownC xo.1.1 xo.2.1.1) (by kernel_rfl))) (summ_at T_rows26_ok 85 (S := grown_s.summ (fun xa xo => grown xa.1 xa.2.1)) (by kernel_rfl))) (summ_at T_rows26_ok 116 (S := refutedC_s.summ (fun xa xo => refutedC xa.1 xo.1.1 xo.2.1.1)) (by kernel_rfl))) (summ_at T_rows26_ok 87 (S := refuted_s.summ (fun xa xo => refuted xa.1 xa.2.1)) (by kernel_rfl))

theorem grownC_nil (l : List (List Int)) (h1 : (0 + l.length) * 24 ≤ lim) (h2 : 0 + l.length ≤ lim) : grownC l [] = some ((), ((l, ()), ([], ()), ()), ()) := by
  unfold grownC grownCF gd
  rw [if_pos h1, if_pos h2]
  rw [show fuelN = (fuelN - 1) + 1 from by unfold fuelN; rfl]
  rfl

theorem rupCheck_runs : RunsBy Tryz.prog rupCheck_s 55 Tryz.f55 (fun xa xo => rupCheck xa.1 xa.2.1 xa.2.2.1 xa.2.2.2.1) := by
  intro xa xo y hy φb owb vs w hbase hsat G hG R hGR
  obtain ⟨l, vars, proof, assume, ⟨⟩⟩ := xa
  cases proof with
  | cons p ps => cases hy
  | nil =>
  have hy' : rupCheck l vars [] assume = some y := hy
  have hend := (ck_end grownC refutedC l vars assume).trans hy'
  unfold rupCheck at hy'
  obtain ⟨g1, hy'⟩ := gd_some.1 hy'
  obtain ⟨g2, hy'⟩ := gd_some.1 hy'
  have hgc := grownC_nil l g1 g2
  refine calls_of_mark Tryz.func55 ck_body ?_
  refine wp_seq ?_
  refine code_ok (C := (ckC grownC refutedC).cfg) ckTab_ok fol hbase (.region 0 ckR0 false) (regSt_vc (some_getD (ck_s1 grownC refutedC l vars assume)) (K := fun e st => e = .normal ∧ st = ckS1 grownC refutedC l vars assume) ⟨rfl, rfl⟩) hsat ?_
  rintro e st ⟨rfl, rfl⟩ a1 w1 hs1
  refine wp_seq (wp_seq ?_)
  refine code_ok (C := (ckC grownC refutedC).cfg) ckTab_ok fol hbase (.region 1 ckR1 false) (regSt_vc (some_getD (ck_s2 grownC refutedC l vars assume)) (K := fun e st => e = .normal ∧ st = ckS2 grownC refutedC l vars assume) ⟨rfl, rfl⟩) hs1 ?_
  rintro e st ⟨rfl, rfl⟩ a2 w2 hs2
  refine wp_block ?_
  refine range_sat (C := (ckC grownC refutedC).cfg) ckTab_ok hs2 (ck_env grownC refutedC l vars assume) (res := .tup .nil) (upd := [(368, .box 41 (.cons (.dat (.sl (.sl int)) l) .nil)), (369, .box 41 (.cons (.dat (.sl (.sl int)) []) .nil))]) ?_ ?_ (ck_h0 grownC refutedC l vars assume) ?_
  · rw [ck_next]
    exact (ck_run grownC refutedC l vars assume).trans (by rw [hgc])
  · rw [ck_next]
    intro i hi
    simp only [ids, List.map_cons, List.map_nil, List.mem_cons, List.not_mem_nil, or_false] at hi
    omega
  · intro ow1 w3 hmid hs3
    rw [ck_next] at hs3
    obtain ⟨_, _, _, hdf, _⟩ := hs2
    exact tail_ok (C := ckC grownC refutedC) ckTab_ok fol hbase hend hmid hs3 hG hGR
noncomputable def T_rupCheck : FuncId → Summ := addS T_rows26 55 (rupCheck_s.summ (fun xa xo => rupCheck xa.1 xa.2.1 xa.2.2.1 xa.2.2.2.1))
theorem T_rupCheck_ok : ∀ g, SummOK Tryz.prog g (T_rupCheck g) := addS_ok T_rows26_ok (sig_core (call_of Tryz.func55 (by kernel_rfl) (by kernel_rfl)) (by decide) rupCheck_runs)

def litOf_s : FSig := ⟨.val int <| .val int <| .nil, [], .val int <| .nil, []⟩
def litOf_L : Nat → Option LoopS := fun n =>
  none
def litOf_J : Nat → Option Shape := fun n =>
  none
set_option maxRecDepth 100000 in
theorem litOf_eq : ∀  xa xo, (litOf_s.prog (mkC Tryz.prog T_rupCheck ⟨false, false⟩ litOf_L litOf_J) Tryz.f58 xa xo).run = litOf  xa.1 xa.2.1 := by intros; kernel_rfl
noncomputable def T_litOf : FuncId → Summ := addS T_rupCheck 58 (litOf_s.summ (fun xa xo => litOf xa.1 xa.2.1))
theorem T_litOf_ok : ∀ g, SummOK Tryz.prog g (T_litOf g) := fn_ok T_rupCheck_ok fol Tryz.func58 (by kernel_rfl) (by kernel_rfl) (by kernel_rfl) litOf_eq

def cnfOf_s : FSig := ⟨.val int <| .val int <| .nil, [], .val int <| .nil, []⟩
def cnfOf_L : Nat → Option LoopS := fun n =>
  none
def cnfOf_J : Nat → Option Shape := fun n =>
  none
set_option maxRecDepth 100000 in
theorem cnfOf_eq : ∀  xa xo, (cnfOf_s.prog (mkC Tryz.prog T_litOf ⟨false, false⟩ cnfOf_L cnfOf_J) Tryz.f35 xa xo).run = cnfOf  xa.1 xa.2.1 := by intros; kernel_rfl
noncomputable def T_cnfOf : FuncId → Summ := addS T_litOf 35 (cnfOf_s.summ (fun xa xo => cnfOf xa.1 xa.2.1))
theorem T_cnfOf_ok : ∀ g, SummOK Tryz.prog g (T_cnfOf g) := fn_ok T_litOf_ok fol Tryz.func35 (by kernel_rfl) (by kernel_rfl) (by kernel_rfl) cnfOf_eq

def cnfVars_s : FSig := ⟨.agg (.val int <| .lend (.sl pair2) <| .nil) <| .nil, [], .val int <| .nil, []⟩
def cnfVars_L : Nat → Option LoopS := fun n =>
  none
def cnfVars_J : Nat → Option Shape := fun n =>
  none
set_option maxRecDepth 100000 in
theorem cnfVars_eq : ∀  xa xo, (cnfVars_s.prog (mkC Tryz.prog T_cnfOf ⟨false, false⟩ cnfVars_L cnfVars_J) Tryz.f25 xa xo).run = cnfVars  xa.1.1 xa.1.2.1 := by intros; kernel_rfl
noncomputable def T_cnfVars : FuncId → Summ := addS T_cnfOf 25 (cnfVars_s.summ (fun xa xo => cnfVars xa.1.1 xa.1.2.1))
theorem T_cnfVars_ok : ∀ g, SummOK Tryz.prog g (T_cnfVars g) := fn_ok T_cnfOf_ok fol Tryz.func25 (by kernel_rfl) (by kernel_rfl) (by kernel_rfl) cnfVars_eq

def clausesAdd_s : FSig := ⟨.obj 0 <| .val (.sl int) <| .nil, [(110, .own 48 (.sl int) <| .nil)], .nil, []⟩
def clausesAdd_L : Nat → Option LoopS := fun n =>
  none
def clausesAdd_J : Nat → Option Shape := fun n =>
  none
set_option maxRecDepth 100000 in
theorem clausesAdd_eq : ∀  xa xo, (clausesAdd_s.prog (mkC Tryz.prog T_cnfVars ⟨false, false⟩ clausesAdd_L clausesAdd_J) Tryz.f52 xa xo).run = clausesAdd  xa.1 xo.1.1 := by intros; kernel_rfl
noncomputable def T_clausesAdd : FuncId → Summ := addS T_cnfVars 52 (clausesAdd_s.summ (fun xa xo => clausesAdd xa.1 xo.1.1))
theorem T_clausesAdd_ok : ∀ g, SummOK Tryz.prog g (T_clausesAdd g) := fn_ok T_cnfVars_ok fol Tryz.func52 (by kernel_rfl) (by kernel_rfl) (by kernel_rfl) clausesAdd_eq

def cnfClauses_s : FSig := ⟨.agg (.val int <| .val (.sl pair2) <| .nil) <| .val int <| .nil, [], .own 48 (.sl int) <| .nil, []⟩
def cnfClauses_L (nn : Nat) : Nat → Option LoopS := fun n =>
  bif Nat.beq n 5 then some ⟨{ env := [(22, ASh.dat (Ty.int IntKind.i64))], heap := [(192, CSh.box 110 ((ASh.arr 722).cons ASh.nil)), (722, CSh.arr 48 (Ty.int IntKind.i64).sl)], keep := [0, 1, 2, 4, 5, 6, 20, 21], keepH := [64] }, fun _ => nn⟩ else
  none
def cnfClauses_J : Nat → Option Shape := fun n =>
  none
set_option maxRecDepth 100000 in
theorem cnfClauses_eq : ∀ (nn : Nat)  xa xo, (cnfClauses_s.prog (mkC Tryz.prog T_clausesAdd ⟨false, false⟩ (cnfClauses_L nn) cnfClauses_J) Tryz.f26 xa xo).run = cnfClausesF nn xa.1.1 xa.1.2.1 xa.2.1 := by intros; kernel_rfl
noncomputable def T_cnfClauses : FuncId → Summ := addS T_clausesAdd 26 (cnfClauses_s.summ (fun xa xo => cnfClauses xa.1.1 xa.1.2.1 xa.2.1))
theorem T_cnfClauses_ok : ∀ g, SummOK Tryz.prog g (T_cnfClauses g) := fn_ok T_clausesAdd_ok fol Tryz.func26 (by kernel_rfl) (by kernel_rfl) (by kernel_rfl) (cnfClauses_eq fuelN)

def unNew_s : FSig := ⟨.agg (.val int <| .val (.sl pair2) <| .val (.sl pair3) <| .val (.sl latchT) <| .val (.sl outT) <| .nil) <| .val int <| .val .bool <| .nil, [], .val (.ptr framesT) <| .nil, []⟩
def unNew_L : Nat → Option LoopS := fun n =>
  none
def unNew_J : Nat → Option Shape := fun n =>
  none
set_option maxRecDepth 100000 in
theorem unNew_eq : ∀  xa xo, (unNew_s.prog (mkC Tryz.prog T_cnfClauses ⟨false, false⟩ unNew_L unNew_J) Tryz.f70 xa xo).run = unNew  xa.1.1 xa.1.2.1 xa.1.2.2.1 xa.1.2.2.2.1 xa.1.2.2.2.2.1 xa.2.1 xa.2.2.1 := by intros; kernel_rfl
noncomputable def T_unNew : FuncId → Summ := addS T_cnfClauses 70 (unNew_s.summ (fun xa xo => unNew xa.1.1 xa.1.2.1 xa.1.2.2.1 xa.1.2.2.2.1 xa.1.2.2.2.2.1 xa.2.1 xa.2.2.1))
theorem T_unNew_ok : ∀ g, SummOK Tryz.prog g (T_unNew g) := fn_ok T_cnfClauses_ok fol Tryz.func70 (by kernel_rfl) (by kernel_rfl) (by kernel_rfl) unNew_eq

def frameLit_s : FSig := ⟨.agg (.val int <| .nil) <| .val int <| .nil, [], .val int <| .nil, []⟩
def frameLit_L : Nat → Option LoopS := fun n =>
  none
def frameLit_J : Nat → Option Shape := fun n =>
  none
set_option maxRecDepth 100000 in
theorem frameLit_eq : ∀  xa xo, (frameLit_s.prog (mkC Tryz.prog T_unNew ⟨false, false⟩ frameLit_L frameLit_J) Tryz.f125 xa xo).run = frameLit  xa.1.1 xa.2.1 := by intros; kernel_rfl
noncomputable def T_frameLit : FuncId → Summ := addS T_unNew 125 (frameLit_s.summ (fun xa xo => frameLit xa.1.1 xa.2.1))
theorem T_frameLit_ok : ∀ g, SummOK Tryz.prog g (T_frameLit g) := fn_ok T_unNew_ok fol Tryz.func125 (by kernel_rfl) (by kernel_rfl) (by kernel_rfl) frameLit_eq

def unFrame_s : FSig := ⟨.val (.ptr framesT) <| .val int <| .nil, [], .agg (.val int <| .nil) <| .nil, []⟩
def unFrame_L : Nat → Option LoopS := fun n =>
  none
def unFrame_J : Nat → Option Shape := fun n =>
  none
set_option maxRecDepth 100000 in
theorem unFrame_eq : ∀  xa xo, (unFrame_s.prog (mkC Tryz.prog T_frameLit ⟨false, false⟩ unFrame_L unFrame_J) Tryz.f98 xa xo).run = unFrame  xa.1.1 xa.1.2.1 xa.1.2.2.1 xa.1.2.2.2.1 xa.1.2.2.2.2.1 xa.1.2.2.2.2.2.1 xa.1.2.2.2.2.2.2.1 xa.1.2.2.2.2.2.2.2.1 xa.2.1 := by intros; kernel_rfl
noncomputable def T_unFrame : FuncId → Summ := addS T_frameLit 98 (unFrame_s.summ (fun xa xo => unFrame xa.1.1 xa.1.2.1 xa.1.2.2.1 xa.1.2.2.2.1 xa.1.2.2.2.2.1 xa.1.2.2.2.2.2.1 xa.1.2.2.2.2.2.2.1 xa.1.2.2.2.2.2.2.2.1 xa.2.1))
theorem T_unFrame_ok : ∀ g, SummOK Tryz.prog g (T_unFrame g) := fn_ok T_frameLit_ok fol Tryz.func98 (by kernel_rfl) (by kernel_rfl) (by kernel_rfl) unFrame_eq

def unVars_s : FSig := ⟨.val (.ptr framesT) <| .nil, [], .val int <| .nil, []⟩
def unVars_L : Nat → Option LoopS := fun n =>
  none
def unVars_J : Nat → Option Shape := fun n =>
  none
set_option maxRecDepth 100000 in
theorem unVars_eq : ∀  xa xo, (unVars_s.prog (mkC Tryz.prog T_unFrame ⟨false, false⟩ unVars_L unVars_J) Tryz.f71 xa xo).run = unVars  xa.1.1 xa.1.2.1 xa.1.2.2.1 xa.1.2.2.2.1 xa.1.2.2.2.2.1 xa.1.2.2.2.2.2.1 xa.1.2.2.2.2.2.2.1 xa.1.2.2.2.2.2.2.2.1 := by intros; kernel_rfl
noncomputable def T_unVars : FuncId → Summ := addS T_unFrame 71 (unVars_s.summ (fun xa xo => unVars xa.1.1 xa.1.2.1 xa.1.2.2.1 xa.1.2.2.2.1 xa.1.2.2.2.2.1 xa.1.2.2.2.2.2.1 xa.1.2.2.2.2.2.2.1 xa.1.2.2.2.2.2.2.2.1))
theorem T_unVars_ok : ∀ g, SummOK Tryz.prog g (T_unVars g) := fn_ok T_unFrame_ok fol Tryz.func71 (by kernel_rfl) (by kernel_rfl) (by kernel_rfl) unVars_eq

def latchC_s : FSig := ⟨.val int <| .obj 0 <| .nil, [(100, .val (.ptr framesT) <| .nil)], .val int <| .nil, []⟩
def latchC_L : Nat → Option LoopS := fun n =>
  none
def latchC_J : Nat → Option Shape := fun n =>
  none
set_option maxRecDepth 100000 in
theorem latchC_eq : ∀  xa xo, (latchC_s.prog (mkC Tryz.prog T_unVars ⟨false, false⟩ latchC_L latchC_J) Tryz.f104 xa xo).run = latchC  xa.1 xo.1.1.1 xo.1.1.2.1 xo.1.1.2.2.1 xo.1.1.2.2.2.1 xo.1.1.2.2.2.2.1 xo.1.1.2.2.2.2.2.1 xo.1.1.2.2.2.2.2.2.1 xo.1.1.2.2.2.2.2.2.2.1 := by intros; kernel_rfl
noncomputable def T_latchC : FuncId → Summ := addS T_unVars 104 (latchC_s.summ (fun xa xo => latchC xa.1 xo.1.1.1 xo.1.1.2.1 xo.1.1.2.2.1 xo.1.1.2.2.2.1 xo.1.1.2.2.2.2.1 xo.1.1.2.2.2.2.2.1 xo.1.1.2.2.2.2.2.2.1 xo.1.1.2.2.2.2.2.2.2.1))
theorem T_latchC_ok : ∀ g, SummOK Tryz.prog g (T_latchC g) := fn_ok T_unVars_ok fol Tryz.func104 (by kernel_rfl) (by kernel_rfl) (by kernel_rfl) latchC_eq

def unAtL_s : FSig := ⟨.val (.ptr framesT) <| .val int <| .val int <| .val int <| .clo 104 (.obj 0 <| .nil) <| .nil, [(100, .val (.ptr framesT) <| .nil)], .val int <| .nil, []⟩
def unAtL_L : Nat → Option LoopS := fun n =>
  none
def unAtL_J : Nat → Option Shape := fun n =>
  none
set_option maxRecDepth 100000 in
theorem unAtL_eq : ∀  xa xo, (unAtL_s.prog (mkC Tryz.prog T_latchC ⟨false, false⟩ unAtL_L unAtL_J) Tryz.f101 xa xo).run = unAtL  xa.1.1 xa.1.2.1 xa.1.2.2.1 xa.1.2.2.2.1 xa.1.2.2.2.2.1 xa.1.2.2.2.2.2.1 xa.1.2.2.2.2.2.2.1 xa.1.2.2.2.2.2.2.2.1 xa.2.1 xa.2.2.1 xa.2.2.2.1 xo.1.1.1 xo.1.1.2.1 xo.1.1.2.2.1 xo.1.1.2.2.2.1 xo.1.1.2.2.2.2.1 xo.1.1.2.2.2.2.2.1 xo.1.1.2.2.2.2.2.2.1 xo.1.1.2.2.2.2.2.2.2.1 := by intros; kernel_rfl
noncomputable def T_unAtL : FuncId → Summ := addS T_latchC 101 (unAtL_s.summ (fun xa xo => unAtL xa.1.1 xa.1.2.1 xa.1.2.2.1 xa.1.2.2.2.1 xa.1.2.2.2.2.1 xa.1.2.2.2.2.2.1 xa.1.2.2.2.2.2.2.1 xa.1.2.2.2.2.2.2.2.1 xa.2.1 xa.2.2.1 xa.2.2.2.1 xo.1.1.1 xo.1.1.2.1 xo.1.1.2.2.1 xo.1.1.2.2.2.1 xo.1.1.2.2.2.2.1 xo.1.1.2.2.2.2.2.1 xo.1.1.2.2.2.2.2.2.1 xo.1.1.2.2.2.2.2.2.2.1))
theorem T_unAtL_ok : ∀ g, SummOK Tryz.prog g (T_unAtL g) := fn_ok T_latchC_ok fol Tryz.func101 (by kernel_rfl) (by kernel_rfl) (by kernel_rfl) unAtL_eq

def unLatch_s : FSig := ⟨.val (.ptr framesT) <| .val int <| .val int <| .nil, [], .val int <| .nil, []⟩
def unLatch_L : Nat → Option LoopS := fun n =>
  none
def unLatch_J : Nat → Option Shape := fun n =>
  none
set_option maxRecDepth 100000 in
theorem unLatch_eq : ∀  xa xo, (unLatch_s.prog (mkC Tryz.prog T_unAtL ⟨false, false⟩ unLatch_L unLatch_J) Tryz.f75 xa xo).run = unLatch  xa.1.1 xa.1.2.1 xa.1.2.2.1 xa.1.2.2.2.1 xa.1.2.2.2.2.1 xa.1.2.2.2.2.2.1 xa.1.2.2.2.2.2.2.1 xa.1.2.2.2.2.2.2.2.1 xa.2.1 xa.2.2.1 := by intros; kernel_rfl
noncomputable def T_unLatch : FuncId → Summ := addS T_unAtL 75 (unLatch_s.summ (fun xa xo => unLatch xa.1.1 xa.1.2.1 xa.1.2.2.1 xa.1.2.2.2.1 xa.1.2.2.2.2.1 xa.1.2.2.2.2.2.1 xa.1.2.2.2.2.2.2.1 xa.1.2.2.2.2.2.2.2.1 xa.2.1 xa.2.2.1))
theorem T_unLatch_ok : ∀ g, SummOK Tryz.prog g (T_unLatch g) := fn_ok T_unAtL_ok fol Tryz.func75 (by kernel_rfl) (by kernel_rfl) (by kernel_rfl) unLatch_eq

def outC_s : FSig := ⟨.val int <| .obj 0 <| .nil, [(100, .val (.ptr framesT) <| .nil)], .val int <| .nil, []⟩
def outC_L : Nat → Option LoopS := fun n =>
  none
def outC_J : Nat → Option Shape := fun n =>
  none
set_option maxRecDepth 100000 in
theorem outC_eq : ∀  xa xo, (outC_s.prog (mkC Tryz.prog T_unLatch ⟨false, false⟩ outC_L outC_J) Tryz.f102 xa xo).run = outC  xa.1 xo.1.1.1 xo.1.1.2.1 xo.1.1.2.2.1 xo.1.1.2.2.2.1 xo.1.1.2.2.2.2.1 xo.1.1.2.2.2.2.2.1 xo.1.1.2.2.2.2.2.2.1 xo.1.1.2.2.2.2.2.2.2.1 := by intros; kernel_rfl
noncomputable def T_outC : FuncId → Summ := addS T_unLatch 102 (outC_s.summ (fun xa xo => outC xa.1 xo.1.1.1 xo.1.1.2.1 xo.1.1.2.2.1 xo.1.1.2.2.2.1 xo.1.1.2.2.2.2.1 xo.1.1.2.2.2.2.2.1 xo.1.1.2.2.2.2.2.2.1 xo.1.1.2.2.2.2.2.2.2.1))
theorem T_outC_ok : ∀ g, SummOK Tryz.prog g (T_outC g) := fn_ok T_unLatch_ok fol Tryz.func102 (by kernel_rfl) (by kernel_rfl) (by kernel_rfl) outC_eq

def unAtO_s : FSig := ⟨.val (.ptr framesT) <| .val int <| .val int <| .val int <| .clo 102 (.obj 0 <| .nil) <| .nil, [(100, .val (.ptr framesT) <| .nil)], .val int <| .nil, []⟩
def unAtO_L : Nat → Option LoopS := fun n =>
  none
def unAtO_J : Nat → Option Shape := fun n =>
  none
set_option maxRecDepth 100000 in
theorem unAtO_eq : ∀  xa xo, (unAtO_s.prog (mkC Tryz.prog T_outC ⟨false, false⟩ unAtO_L unAtO_J) Tryz.f101 xa xo).run = unAtO  xa.1.1 xa.1.2.1 xa.1.2.2.1 xa.1.2.2.2.1 xa.1.2.2.2.2.1 xa.1.2.2.2.2.2.1 xa.1.2.2.2.2.2.2.1 xa.1.2.2.2.2.2.2.2.1 xa.2.1 xa.2.2.1 xa.2.2.2.1 xo.1.1.1 xo.1.1.2.1 xo.1.1.2.2.1 xo.1.1.2.2.2.1 xo.1.1.2.2.2.2.1 xo.1.1.2.2.2.2.2.1 xo.1.1.2.2.2.2.2.2.1 xo.1.1.2.2.2.2.2.2.2.1 := by intros; kernel_rfl
noncomputable def T_unAtO : FuncId → Summ := addS T_outC 101 (unAtO_s.summ (fun xa xo => unAtO xa.1.1 xa.1.2.1 xa.1.2.2.1 xa.1.2.2.2.1 xa.1.2.2.2.2.1 xa.1.2.2.2.2.2.1 xa.1.2.2.2.2.2.2.1 xa.1.2.2.2.2.2.2.2.1 xa.2.1 xa.2.2.1 xa.2.2.2.1 xo.1.1.1 xo.1.1.2.1 xo.1.1.2.2.1 xo.1.1.2.2.2.1 xo.1.1.2.2.2.2.1 xo.1.1.2.2.2.2.2.1 xo.1.1.2.2.2.2.2.2.1 xo.1.1.2.2.2.2.2.2.2.1))
theorem T_unAtO_ok : ∀ g, SummOK Tryz.prog g (T_unAtO g) := fn_ok T_outC_ok fol Tryz.func101 (by kernel_rfl) (by kernel_rfl) (by kernel_rfl) unAtO_eq

def unOut_s : FSig := ⟨.val (.ptr framesT) <| .val int <| .val int <| .nil, [], .val int <| .nil, []⟩
def unOut_L : Nat → Option LoopS := fun n =>
  none
def unOut_J : Nat → Option Shape := fun n =>
  none
set_option maxRecDepth 100000 in
theorem unOut_eq : ∀  xa xo, (unOut_s.prog (mkC Tryz.prog T_unAtO ⟨false, false⟩ unOut_L unOut_J) Tryz.f73 xa xo).run = unOut  xa.1.1 xa.1.2.1 xa.1.2.2.1 xa.1.2.2.2.1 xa.1.2.2.2.2.1 xa.1.2.2.2.2.2.1 xa.1.2.2.2.2.2.2.1 xa.1.2.2.2.2.2.2.2.1 xa.2.1 xa.2.2.1 := by intros; kernel_rfl
noncomputable def T_unOut : FuncId → Summ := addS T_unAtO 73 (unOut_s.summ (fun xa xo => unOut xa.1.1 xa.1.2.1 xa.1.2.2.1 xa.1.2.2.2.1 xa.1.2.2.2.2.1 xa.1.2.2.2.2.2.1 xa.1.2.2.2.2.2.2.1 xa.1.2.2.2.2.2.2.2.1 xa.2.1 xa.2.2.1))
theorem T_unOut_ok : ∀ g, SummOK Tryz.prog g (T_unOut g) := fn_ok T_unAtO_ok fol Tryz.func73 (by kernel_rfl) (by kernel_rfl) (by kernel_rfl) unOut_eq

def unInits_s : FSig := ⟨.val (.ptr framesT) <| .nil, [], .own 48 (.sl int) <| .nil, []⟩
def unInits_L (nn : Nat) : Nat → Option LoopS := fun n =>
  bif Nat.beq n 4 then some ⟨{ env := [(3, ASh.arr 49), (17, ASh.dat (Ty.int IntKind.i64))], heap := [(49, CSh.arr 48 (Ty.int IntKind.i64).sl)], keep := [0, 2, 4, 15, 16], keepH := [] }, fun _ => nn⟩ else
  none
def unInits_J : Nat → Option Shape := fun n =>
  none
set_option maxRecDepth 100000 in
theorem unInits_eq : ∀ (nn : Nat)  xa xo, (unInits_s.prog (mkC Tryz.prog T_unOut ⟨false, false⟩ (unInits_L nn) unInits_J) Tryz.f100 xa xo).run = unInitsF nn xa.1.1 xa.1.2.1 xa.1.2.2.1 xa.1.2.2.2.1 xa.1.2.2.2.2.1 xa.1.2.2.2.2.2.1 xa.1.2.2.2.2.2.2.1 xa.1.2.2.2.2.2.2.2.1 := by intros; kernel_rfl
noncomputable def T_unInits : FuncId → Summ := addS T_unOut 100 (unInits_s.summ (fun xa xo => unInits xa.1.1 xa.1.2.1 xa.1.2.2.1 xa.1.2.2.2.1 xa.1.2.2.2.2.1 xa.1.2.2.2.2.2.1 xa.1.2.2.2.2.2.2.1 xa.1.2.2.2.2.2.2.2.1))
theorem T_unInits_ok : ∀ g, SummOK Tryz.prog g (T_unInits g) := fn_ok T_unOut_ok fol Tryz.func100 (by kernel_rfl) (by kernel_rfl) (by kernel_rfl) (unInits_eq fuelN)

def unLinks_s : FSig := ⟨.val (.ptr framesT) <| .val int <| .nil, [], .own 48 (.sl int) <| .nil, []⟩
def unLinks_L (nn : Nat) : Nat → Option LoopS := fun n =>
  bif Nat.beq n 4 then some ⟨{ env := [(5, ASh.arr 49), (27, ASh.dat (Ty.int IntKind.i64))], heap := [(49, CSh.arr 48 (Ty.int IntKind.i64).sl)], keep := [0, 1, 4, 6, 7, 25, 26], keepH := [] }, fun _ => nn⟩ else
  none
def unLinks_J : Nat → Option Shape := fun n =>
  none
set_option maxRecDepth 100000 in
theorem unLinks_eq : ∀ (nn : Nat)  xa xo, (unLinks_s.prog (mkC Tryz.prog T_unInits ⟨false, false⟩ (unLinks_L nn) unLinks_J) Tryz.f99 xa xo).run = unLinksF nn xa.1.1 xa.1.2.1 xa.1.2.2.1 xa.1.2.2.2.1 xa.1.2.2.2.2.1 xa.1.2.2.2.2.2.1 xa.1.2.2.2.2.2.2.1 xa.1.2.2.2.2.2.2.2.1 xa.2.1 := by intros; kernel_rfl
noncomputable def T_unLinks : FuncId → Summ := addS T_unInits 99 (unLinks_s.summ (fun xa xo => unLinks xa.1.1 xa.1.2.1 xa.1.2.2.1 xa.1.2.2.2.1 xa.1.2.2.2.2.1 xa.1.2.2.2.2.2.1 xa.1.2.2.2.2.2.2.1 xa.1.2.2.2.2.2.2.2.1 xa.2.1))
theorem T_unLinks_ok : ∀ g, SummOK Tryz.prog g (T_unLinks g) := fn_ok T_unInits_ok fol Tryz.func99 (by kernel_rfl) (by kernel_rfl) (by kernel_rfl) (unLinks_eq fuelN)

def unClauses_s : FSig := ⟨.val (.ptr framesT) <| .nil, [], .own 48 (.sl int) <| .nil, []⟩
def unClauses_L (nn : Nat) : Nat → Option LoopS := fun n =>
  bif Nat.beq n 3 then some ⟨{ env := [(3, ASh.arr 49), (9, ASh.dat (Ty.int IntKind.i64))], heap := [(49, CSh.arr 48 (Ty.int IntKind.i64).sl)], keep := [0, 2, 8], keepH := [] }, fun _ => nn⟩ else
  none
def unClauses_J : Nat → Option Shape := fun n =>
  none
set_option maxRecDepth 100000 in
theorem unClauses_eq : ∀ (nn : Nat)  xa xo, (unClauses_s.prog (mkC Tryz.prog T_unLinks ⟨false, false⟩ (unClauses_L nn) unClauses_J) Tryz.f72 xa xo).run = unClausesF nn xa.1.1 xa.1.2.1 xa.1.2.2.1 xa.1.2.2.2.1 xa.1.2.2.2.2.1 xa.1.2.2.2.2.2.1 xa.1.2.2.2.2.2.2.1 xa.1.2.2.2.2.2.2.2.1 := by intros; kernel_rfl
noncomputable def T_unClauses : FuncId → Summ := addS T_unLinks 72 (unClauses_s.summ (fun xa xo => unClauses xa.1.1 xa.1.2.1 xa.1.2.2.1 xa.1.2.2.2.1 xa.1.2.2.2.2.1 xa.1.2.2.2.2.2.1 xa.1.2.2.2.2.2.2.1 xa.1.2.2.2.2.2.2.2.1))
theorem T_unClauses_ok : ∀ g, SummOK Tryz.prog g (T_unClauses g) := fn_ok T_unLinks_ok fol Tryz.func72 (by kernel_rfl) (by kernel_rfl) (by kernel_rfl) (unClauses_eq fuelN)

def cTell_s : FSig := ⟨.obj 0 <| .val (.sl int) <| .nil, [(109, .obj 1 <| .skip <| .own 48 (.sl int) <| .nil), (130, .val int <| .own2 48 3 int <| .own2 48 3 int <| .own 3 int <| .own 3 int <| .own 3 int <| .own 3 int <| .skip <| .skip <| .val int <| .own 3 int <| .own 3 int <| .val int <| .val .bool <| .skip <| .val int <| .own 3 int <| .own 4 .bool <| .nil)], .nil, []⟩
def cTell_L : Nat → Option LoopS := fun n =>
  none
def cTell_J : Nat → Option Shape := fun n =>
  none
set_option maxRecDepth 100000 in
theorem cTell_eq : ∀  xa xo, (cTell_s.prog (mkC Tryz.prog T_unClauses ⟨false, false⟩ cTell_L cTell_J) Tryz.f29 xa xo).run = cTell  xa.1 xo.1.1 xo.2.1.1 xo.2.1.2.1 xo.2.1.2.2.1 xo.2.1.2.2.2.1 xo.2.1.2.2.2.2.1 xo.2.1.2.2.2.2.2.1 xo.2.1.2.2.2.2.2.2.1 xo.2.1.2.2.2.2.2.2.2.1 xo.2.1.2.2.2.2.2.2.2.2.1 xo.2.1.2.2.2.2.2.2.2.2.2.1 xo.2.1.2.2.2.2.2.2.2.2.2.2.1 xo.2.1.2.2.2.2.2.2.2.2.2.2.2.1 xo.2.1.2.2.2.2.2.2.2.2.2.2.2.2.1 xo.2.1.2.2.2.2.2.2.2.2.2.2.2.2.2.1 xo.2.1.2.2.2.2.2.2.2.2.2.2.2.2.2.2.1 := by intros; kernel_rfl
noncomputable def T_cTell : FuncId → Summ := addS T_unClauses 29 (cTell_s.summ (fun xa xo => cTell xa.1 xo.1.1 xo.2.1.1 xo.2.1.2.1 xo.2.1.2.2.1 xo.2.1.2.2.2.1 xo.2.1.2.2.2.2.1 xo.2.1.2.2.2.2.2.1 xo.2.1.2.2.2.2.2.2.1 xo.2.1.2.2.2.2.2.2.2.1 xo.2.1.2.2.2.2.2.2.2.2.1 xo.2.1.2.2.2.2.2.2.2.2.2.1 xo.2.1.2.2.2.2.2.2.2.2.2.2.1 xo.2.1.2.2.2.2.2.2.2.2.2.2.2.1 xo.2.1.2.2.2.2.2.2.2.2.2.2.2.2.1 xo.2.1.2.2.2.2.2.2.2.2.2.2.2.2.2.1 xo.2.1.2.2.2.2.2.2.2.2.2.2.2.2.2.2.1))
theorem T_cTell_ok : ∀ g, SummOK Tryz.prog g (T_cTell g) := fn_ok T_unClauses_ok fol Tryz.func29 (by kernel_rfl) (by kernel_rfl) (by kernel_rfl) cTell_eq

def cMore_s : FSig := ⟨.obj 0 <| .val int <| .nil, [(109, .obj 1 <| .val int <| .skip <| .nil), (130, .val int <| .skip <| .own2 48 3 int <| .own 3 int <| .own 3 int <| .own 3 int <| .own 3 int <| .own 3 int <| .skip <| .skip <| .skip <| .skip <| .skip <| .skip <| .skip <| .val int <| .own 3 int <| .own 4 .bool <| .nil)], .val int <| .nil, []⟩
def cMore_L : Nat → Option LoopS := fun n =>
  none
def cMore_J : Nat → Option Shape := fun n =>
  none
set_option maxRecDepth 100000 in
theorem cMore_eq : ∀  xa xo, (cMore_s.prog (mkC Tryz.prog T_cTell ⟨false, false⟩ cMore_L cMore_J) Tryz.f74 xa xo).run = cMore  xa.1 xo.1.1 xo.2.1.1 xo.2.1.2.1 xo.2.1.2.2.1 xo.2.1.2.2.2.1 xo.2.1.2.2.2.2.1 xo.2.1.2.2.2.2.2.1 xo.2.1.2.2.2.2.2.2.1 xo.2.1.2.2.2.2.2.2.2.1 xo.2.1.2.2.2.2.2.2.2.2.1 xo.2.1.2.2.2.2.2.2.2.2.2.1 := by intros; kernel_rfl
noncomputable def T_cMore : FuncId → Summ := addS T_cTell 74 (cMore_s.summ (fun xa xo => cMore xa.1 xo.1.1 xo.2.1.1 xo.2.1.2.1 xo.2.1.2.2.1 xo.2.1.2.2.2.1 xo.2.1.2.2.2.2.1 xo.2.1.2.2.2.2.2.1 xo.2.1.2.2.2.2.2.2.1 xo.2.1.2.2.2.2.2.2.2.1 xo.2.1.2.2.2.2.2.2.2.2.1 xo.2.1.2.2.2.2.2.2.2.2.2.1))
theorem T_cMore_ok : ∀ g, SummOK Tryz.prog g (T_cMore g) := fn_ok T_cTell_ok fol Tryz.func74 (by kernel_rfl) (by kernel_rfl) (by kernel_rfl) cMore_eq

def cAskerOf_s : FSig := ⟨.val int <| .val (.sl (.sl int)) <| .nil, [], .obj 0 <| .nil, [(109, .obj 1 <| .val int <| .own 48 (.sl int) <| .nil), (130, .val int <| .own2 48 3 int <| .own2 48 3 int <| .own 3 int <| .own 3 int <| .own 3 int <| .own 3 int <| .own 3 int <| .own 3 int <| .val int <| .own 3 int <| .own 3 int <| .val int <| .val .bool <| .own 48 (.sl int) <| .val int <| .own 3 int <| .own 4 .bool <| .nil)]⟩
def cAskerOf_L (nn : Nat) : Nat → Option LoopS := fun n =>
  bif Nat.beq n 3 then some ⟨{ env := [(15, ASh.dat (Ty.int IntKind.i64))], heap := [(384, CSh.box 109 ((ASh.ref 240 0).cons ((ASh.dat (Ty.int IntKind.i64)).cons ((ASh.arr 49).cons ASh.nil)))), (240, CSh.box 130 ((ASh.dat (Ty.int IntKind.i64)).cons ((ASh.arr 210).cons ((ASh.arr 211).cons ((ASh.arr 212).cons ((ASh.arr 213).cons ((ASh.arr 214).cons ((ASh.arr 215).cons ((ASh.arr 216).cons ((ASh.arr 217).cons ((ASh.dat (Ty.int IntKind.i64)).cons ((ASh.arr 219).cons ((ASh.arr 220).cons ((ASh.dat (Ty.int IntKind.i64)).cons ((ASh.dat Ty.bool).cons ((ASh.arr 223).cons ((ASh.dat (Ty.int IntKind.i64)).cons ((ASh.arr 225).cons ((ASh.arr 226).cons ASh.nil))))))))))))))))))), (210, CSh.arr2 48 3 (Ty.int IntKind.i64) []), (211, CSh.arr2 48 3 (Ty.int IntKind.i64) []), (212, CSh.arr 3 (Ty.int IntKind.i64)), (213, CSh.arr 3 (Ty.int IntKind.i64)), (214, CSh.arr 3 (Ty.int IntKind.i64)), (215, CSh.arr 3 (Ty.int IntKind.i64)), (219, CSh.arr 3 (Ty.int IntKind.i64)), (220, CSh.arr 3 (Ty.int IntKind.i64)), (225, CSh.arr 3 (Ty.int IntKind.i64)), (226, CSh.arr 4 Ty.bool), (49, CSh.arr 48 (Ty.int IntKind.i64).sl)], keep := [0, 1, 5, 13, 14], keepH := [216, 217, 223] }, fun _ => nn⟩ else
  none
def cAskerOf_J : Nat → Option Shape := fun n =>
  none
set_option maxRecDepth 100000 in
theorem cAskerOf_eq : ∀ (nn : Nat)  xa xo, (cAskerOf_s.prog (mkC Tryz.prog T_cMore ⟨false, false⟩ (cAskerOf_L nn) cAskerOf_J) Tryz.f24 xa xo).run = cAskerOfF nn xa.1 xa.2.1 := by intros; kernel_rfl
noncomputable def T_cAskerOf : FuncId → Summ := addS T_cMore 24 (cAskerOf_s.summ (fun xa xo => cAskerOf xa.1 xa.2.1))
theorem T_cAskerOf_ok : ∀ g, SummOK Tryz.prog g (T_cAskerOf g) := fn_ok T_cMore_ok fol Tryz.func24 (by kernel_rfl) (by kernel_rfl) (by kernel_rfl) (cAskerOf_eq fuelN)

def cBarred_s : FSig := ⟨.obj 0 <| .val (.sl int) <| .nil, [(109, .obj 1 <| .val int <| .own 48 (.sl int) <| .nil), (130, .val int <| .own2 48 3 int <| .own2 48 3 int <| .own 3 int <| .own 3 int <| .own 3 int <| .own 3 int <| .own 3 int <| .own 3 int <| .val int <| .own 3 int <| .own 3 int <| .val int <| .val .bool <| .own 48 (.sl int) <| .val int <| .own 3 int <| .own 4 .bool <| .nil)], .val .bool <| .nil, []⟩
def cBarred_L : Nat → Option LoopS := fun n =>
  none
def cBarred_J : Nat → Option Shape := fun n =>
  none
set_option maxRecDepth 100000 in
theorem cBarred_eq : ∀  xa xo, (cBarred_s.prog (mkC Tryz.prog T_cAskerOf ⟨false, false⟩ cBarred_L cBarred_J) Tryz.f34 xa xo).run = cBarred  xa.1 xo.1.1 xo.1.2.1 xo.2.1.1 xo.2.1.2.1 xo.2.1.2.2.1 xo.2.1.2.2.2.1 xo.2.1.2.2.2.2.1 xo.2.1.2.2.2.2.2.1 xo.2.1.2.2.2.2.2.2.1 xo.2.1.2.2.2.2.2.2.2.1 xo.2.1.2.2.2.2.2.2.2.2.1 xo.2.1.2.2.2.2.2.2.2.2.2.1 xo.2.1.2.2.2.2.2.2.2.2.2.2.1 xo.2.1.2.2.2.2.2.2.2.2.2.2.2.1 xo.2.1.2.2.2.2.2.2.2.2.2.2.2.2.1 xo.2.1.2.2.2.2.2.2.2.2.2.2.2.2.2.1 xo.2.1.2.2.2.2.2.2.2.2.2.2.2.2.2.2.1 xo.2.1.2.2.2.2.2.2.2.2.2.2.2.2.2.2.2.1 xo.2.1.2.2.2.2.2.2.2.2.2.2.2.2.2.2.2.2.1 xo.2.1.2.2.2.2.2.2.2.2.2.2.2.2.2.2.2.2.2.1 := by intros; kernel_rfl
noncomputable def T_cBarred : FuncId → Summ := addS T_cAskerOf 34 (cBarred_s.summ (fun xa xo => cBarred xa.1 xo.1.1 xo.1.2.1 xo.2.1.1 xo.2.1.2.1 xo.2.1.2.2.1 xo.2.1.2.2.2.1 xo.2.1.2.2.2.2.1 xo.2.1.2.2.2.2.2.1 xo.2.1.2.2.2.2.2.2.1 xo.2.1.2.2.2.2.2.2.2.1 xo.2.1.2.2.2.2.2.2.2.2.1 xo.2.1.2.2.2.2.2.2.2.2.2.1 xo.2.1.2.2.2.2.2.2.2.2.2.2.1 xo.2.1.2.2.2.2.2.2.2.2.2.2.2.1 xo.2.1.2.2.2.2.2.2.2.2.2.2.2.2.1 xo.2.1.2.2.2.2.2.2.2.2.2.2.2.2.2.1 xo.2.1.2.2.2.2.2.2.2.2.2.2.2.2.2.2.1 xo.2.1.2.2.2.2.2.2.2.2.2.2.2.2.2.2.2.1 xo.2.1.2.2.2.2.2.2.2.2.2.2.2.2.2.2.2.2.1 xo.2.1.2.2.2.2.2.2.2.2.2.2.2.2.2.2.2.2.2.1))
theorem T_cBarred_ok : ∀ g, SummOK Tryz.prog g (T_cBarred g) := fn_ok T_cAskerOf_ok fol Tryz.func34 (by kernel_rfl) (by kernel_rfl) (by kernel_rfl) cBarred_eq

def cHit_s : FSig := ⟨.agg (.val int <| .lend (.sl pair2) <| .lend (.sl pair3) <| .lend (.sl latchT) <| .lend (.sl outT) <| .nil) <| .val int <| .nil, [], .val int <| .nil, []⟩
def cHit_L : Nat → Option LoopS := fun n =>
  none
def cHit_J : Nat → Option Shape := fun n =>
  none
set_option maxRecDepth 100000 in
theorem cHit_eq : ∀  xa xo, (cHit_s.prog (mkC Tryz.prog T_cBarred ⟨false, false⟩ cHit_L cHit_J) Tryz.f36 xa xo).run = cHit  xa.1.1 xa.1.2.1 xa.1.2.2.1 xa.1.2.2.2.1 xa.1.2.2.2.2.1 xa.2.1 := by intros; kernel_rfl
noncomputable def T_cHit : FuncId → Summ := addS T_cBarred 36 (cHit_s.summ (fun xa xo => cHit xa.1.1 xa.1.2.1 xa.1.2.2.1 xa.1.2.2.2.1 xa.1.2.2.2.2.1 xa.2.1))
theorem T_cHit_ok : ∀ g, SummOK Tryz.prog g (T_cHit g) := fn_ok T_cBarred_ok fol Tryz.func36 (by kernel_rfl) (by kernel_rfl) (by kernel_rfl) cHit_eq

def cLegal_s : FSig := ⟨.agg (.val int <| .lend (.sl pair2) <| .lend (.sl pair3) <| .lend (.sl latchT) <| .lend (.sl outT) <| .nil) <| .nil, [], .own 3 int <| .nil, []⟩
def cLegal_L (nn : Nat) : Nat → Option LoopS := fun n =>
  bif Nat.beq n 3 then some ⟨{ env := [(3, ASh.arr 49), (9, ASh.dat (Ty.int IntKind.i64))], heap := [(49, CSh.arr 3 (Ty.int IntKind.i64))], keep := [0, 1, 2, 7, 8], keepH := [64] }, fun _ => nn⟩ else
  none
def cLegal_J : Nat → Option Shape := fun n =>
  none
set_option maxRecDepth 100000 in
theorem cLegal_eq : ∀ (nn : Nat)  xa xo, (cLegal_s.prog (mkC Tryz.prog T_cHit ⟨false, false⟩ (cLegal_L nn) cLegal_J) Tryz.f31 xa xo).run = cLegalF nn xa.1.1 xa.1.2.1 xa.1.2.2.1 xa.1.2.2.2.1 xa.1.2.2.2.2.1 := by intros; kernel_rfl
noncomputable def T_cLegal : FuncId → Summ := addS T_cHit 31 (cLegal_s.summ (fun xa xo => cLegal xa.1.1 xa.1.2.1 xa.1.2.2.1 xa.1.2.2.2.1 xa.1.2.2.2.2.1))
theorem T_cLegal_ok : ∀ g, SummOK Tryz.prog g (T_cLegal g) := fn_ok T_cHit_ok fol Tryz.func31 (by kernel_rfl) (by kernel_rfl) (by kernel_rfl) (cLegal_eq fuelN)

def meetsC_s : FSig := ⟨.val int <| .obj 0 <| .nil, [(43, .lend (.sl .bool) <| .nil)], .val .bool <| .nil, []⟩
def meetsC_L : Nat → Option LoopS := fun n =>
  none
def meetsC_J : Nat → Option Shape := fun n =>
  none
set_option maxRecDepth 100000 in
theorem meetsC_eq : ∀  xa xo, (meetsC_s.prog (mkC Tryz.prog T_cLegal ⟨false, false⟩ meetsC_L meetsC_J) Tryz.f50 xa xo).run = meetsC  xa.1 xo.1.1 := by intros; kernel_rfl
noncomputable def T_meetsC : FuncId → Summ := addS T_cLegal 50 (meetsC_s.summ (fun xa xo => meetsC xa.1 xo.1.1))
theorem T_meetsC_ok : ∀ g, SummOK Tryz.prog g (T_meetsC g) := fn_ok T_cLegal_ok fol Tryz.func50 (by kernel_rfl) (by kernel_rfl) (by kernel_rfl) meetsC_eq

def IndexFunc_meets_s : FSig := ⟨.lend (.sl int) <| .clo 50 (.obj 0 <| .nil) <| .nil, [(43, .lend (.sl .bool) <| .nil)], .val int <| .nil, []⟩
def IndexFunc_meets_L (nn : Nat) : Nat → Option LoopS := fun n =>
  bif Nat.beq n 2 then some ⟨{ env := [(8, ASh.dat (Ty.int IntKind.i64))], heap := [(1, CSh.box 43 ((ASh.idn 18 Ty.bool.sl).cons ASh.nil))], keep := [0, 1, 4, 7], keepH := [] }, fun _ => nn⟩ else
  none
def IndexFunc_meets_J : Nat → Option Shape := fun n =>
  none
set_option maxRecDepth 100000 in
theorem IndexFunc_meets_eq : ∀ (nn : Nat)  xa xo, (IndexFunc_meets_s.prog (mkC Tryz.prog T_meetsC ⟨false, false⟩ (IndexFunc_meets_L nn) IndexFunc_meets_J) Tryz.f68 xa xo).run = IndexFunc_meetsF nn xa.1 xo.1.1 := by intros; kernel_rfl
noncomputable def T_IndexFunc_meets : FuncId → Summ := addS T_meetsC 68 (IndexFunc_meets_s.summ (fun xa xo => IndexFunc_meets xa.1 xo.1.1))
theorem T_IndexFunc_meets_ok : ∀ g, SummOK Tryz.prog g (T_IndexFunc_meets g) := fn_ok T_meetsC_ok fol Tryz.func68 (by kernel_rfl) (by kernel_rfl) (by kernel_rfl) (IndexFunc_meets_eq fuelN)

def ContainsFunc_meets_s : FSig := ⟨.lend (.sl int) <| .clo 50 (.obj 0 <| .nil) <| .nil, [(43, .lend (.sl .bool) <| .nil)], .val .bool <| .nil, []⟩
def ContainsFunc_meets_L : Nat → Option LoopS := fun n =>
  none
def ContainsFunc_meets_J : Nat → Option Shape := fun n =>
  none
set_option maxRecDepth 100000 in
theorem ContainsFunc_meets_eq : ∀  xa xo, (ContainsFunc_meets_s.prog (mkC Tryz.prog T_IndexFunc_meets ⟨false, false⟩ ContainsFunc_meets_L ContainsFunc_meets_J) Tryz.f43 xa xo).run = ContainsFunc_meets  xa.1 xo.1.1 := by intros; kernel_rfl
noncomputable def T_ContainsFunc_meets : FuncId → Summ := addS T_IndexFunc_meets 43 (ContainsFunc_meets_s.summ (fun xa xo => ContainsFunc_meets xa.1 xo.1.1))
theorem T_ContainsFunc_meets_ok : ∀ g, SummOK Tryz.prog g (T_ContainsFunc_meets g) := fn_ok T_IndexFunc_meets_ok fol Tryz.func43 (by kernel_rfl) (by kernel_rfl) (by kernel_rfl) ContainsFunc_meets_eq

def meets_s : FSig := ⟨.lend (.sl int) <| .lend (.sl .bool) <| .nil, [], .val .bool <| .nil, []⟩
def meets_L : Nat → Option LoopS := fun n =>
  none
def meets_J : Nat → Option Shape := fun n =>
  none
set_option maxRecDepth 100000 in
theorem meets_eq : ∀  xa xo, (meets_s.prog (mkC Tryz.prog T_ContainsFunc_meets ⟨false, false⟩ meets_L meets_J) Tryz.f23 xa xo).run = meets  xa.1 xa.2.1 := by intros; kernel_rfl
noncomputable def T_meets : FuncId → Summ := addS T_ContainsFunc_meets 23 (meets_s.summ (fun xa xo => meets xa.1 xa.2.1))
theorem T_meets_ok : ∀ g, SummOK Tryz.prog g (T_meets g) := fn_ok T_ContainsFunc_meets_ok fol Tryz.func23 (by kernel_rfl) (by kernel_rfl) (by kernel_rfl) meets_eq

def lNow_s : FSig := ⟨.agg (.val int <| .val int <| .val .bool <| .val int <| .val int <| .nil) <| .nil, [], .val int <| .nil, []⟩
def lNow_L : Nat → Option LoopS := fun n =>
  none
def lNow_J : Nat → Option Shape := fun n =>
  none
set_option maxRecDepth 100000 in
theorem lNow_eq : ∀  xa xo, (lNow_s.prog (mkC Tryz.prog T_meets ⟨false, false⟩ lNow_L lNow_J) Tryz.f28 xa xo).run = lNow  xa.1.1 xa.1.2.1 xa.1.2.2.1 xa.1.2.2.2.1 xa.1.2.2.2.2.1 := by intros; kernel_rfl
noncomputable def T_lNow : FuncId → Summ := addS T_meets 28 (lNow_s.summ (fun xa xo => lNow xa.1.1 xa.1.2.1 xa.1.2.2.1 xa.1.2.2.2.1 xa.1.2.2.2.2.1))
theorem T_lNow_ok : ∀ g, SummOK Tryz.prog g (T_lNow g) := fn_ok T_meets_ok fol Tryz.func28 (by kernel_rfl) (by kernel_rfl) (by kernel_rfl) lNow_eq

def lNext_s : FSig := ⟨.agg (.val int <| .val int <| .val .bool <| .val int <| .val int <| .nil) <| .nil, [], .val int <| .nil, []⟩
def lNext_L : Nat → Option LoopS := fun n =>
  none
def lNext_J : Nat → Option Shape := fun n =>
  none
set_option maxRecDepth 100000 in
theorem lNext_eq : ∀  xa xo, (lNext_s.prog (mkC Tryz.prog T_lNow ⟨false, false⟩ lNext_L lNext_J) Tryz.f33 xa xo).run = lNext  xa.1.1 xa.1.2.1 xa.1.2.2.1 xa.1.2.2.2.1 xa.1.2.2.2.2.1 := by intros; kernel_rfl
noncomputable def T_lNext : FuncId → Summ := addS T_lNow 33 (lNext_s.summ (fun xa xo => lNext xa.1.1 xa.1.2.1 xa.1.2.2.1 xa.1.2.2.2.1 xa.1.2.2.2.2.1))
theorem T_lNext_ok : ∀ g, SummOK Tryz.prog g (T_lNext g) := fn_ok T_lNow_ok fol Tryz.func33 (by kernel_rfl) (by kernel_rfl) (by kernel_rfl) lNext_eq

def litNow_s : FSig := ⟨.agg (.val int <| .lend (.sl pair2) <| .lend (.sl pair3) <| .lend (.sl latchT) <| .lend (.sl outT) <| .nil) <| .val int <| .clo 28 (.nil) <| .nil, [], .val int <| .nil, []⟩
def litNow_L : Nat → Option LoopS := fun n =>
  none
def litNow_J : Nat → Option Shape := fun n =>
  none
set_option maxRecDepth 100000 in
theorem litNow_eq : ∀  xa xo, (litNow_s.prog (mkC Tryz.prog T_lNext ⟨false, false⟩ litNow_L litNow_J) Tryz.f27 xa xo).run = litNow  xa.1.1 xa.1.2.1 xa.1.2.2.1 xa.1.2.2.2.1 xa.1.2.2.2.2.1 xa.2.1 := by intros; kernel_rfl
noncomputable def T_litNow : FuncId → Summ := addS T_lNext 27 (litNow_s.summ (fun xa xo => litNow xa.1.1 xa.1.2.1 xa.1.2.2.1 xa.1.2.2.2.1 xa.1.2.2.2.2.1 xa.2.1))
theorem T_litNow_ok : ∀ g, SummOK Tryz.prog g (T_litNow g) := fn_ok T_lNext_ok fol Tryz.func27 (by kernel_rfl) (by kernel_rfl) (by kernel_rfl) litNow_eq

def litNext_s : FSig := ⟨.agg (.val int <| .lend (.sl pair2) <| .lend (.sl pair3) <| .lend (.sl latchT) <| .lend (.sl outT) <| .nil) <| .val int <| .clo 33 (.nil) <| .nil, [], .val int <| .nil, []⟩
def litNext_L : Nat → Option LoopS := fun n =>
  none
def litNext_J : Nat → Option Shape := fun n =>
  none
set_option maxRecDepth 100000 in
theorem litNext_eq : ∀  xa xo, (litNext_s.prog (mkC Tryz.prog T_litNow ⟨false, false⟩ litNext_L litNext_J) Tryz.f27 xa xo).run = litNext  xa.1.1 xa.1.2.1 xa.1.2.2.1 xa.1.2.2.2.1 xa.1.2.2.2.2.1 xa.2.1 := by intros; kernel_rfl
noncomputable def T_litNext : FuncId → Summ := addS T_litNow 27 (litNext_s.summ (fun xa xo => litNext xa.1.1 xa.1.2.1 xa.1.2.2.1 xa.1.2.2.2.1 xa.1.2.2.2.2.1 xa.2.1))
theorem T_litNext_ok : ∀ g, SummOK Tryz.prog g (T_litNext g) := fn_ok T_litNow_ok fol Tryz.func27 (by kernel_rfl) (by kernel_rfl) (by kernel_rfl) litNext_eq

noncomputable def T_litAlt : FuncId → Summ := addS T_litNext 27 (altA 28 (litNow_s.summ (fun xa xo => litNow xa.1.1 xa.1.2.1 xa.1.2.2.1 xa.1.2.2.2.1 xa.1.2.2.2.2.1 xa.2.1)) (litNext_s.summ (fun xa xo => litNext xa.1.1 xa.1.2.1 xa.1.2.2.1 xa.1.2.2.2.1 xa.1.2.2.2.2.1 xa.2.1)))
theorem T_litAlt_ok : ∀ g, SummOK Tryz.prog g (T_litAlt g) := addS_ok T_litNext_ok (altA_ok (summ_at T_litNow_ok 27 (S := (litNow_s.summ (fun xa xo => litNow xa.1.1 xa.1.2.1 xa.1.2.2.1 xa.1.2.2.2.1 xa.1.2.2.2.2.1 xa.2.1))) (by kernel_rfl)) (summ_at T_litNext_ok 27 (S := (litNext_s.summ (fun xa xo => litNext xa.1.1 xa.1.2.1 xa.1.2.2.1 xa.1.2.2.2.1 xa.1.2.2.2.2.1 xa.2.1))) (by kernel_rfl)))

def cLits_s : FSig := ⟨.lend (.sl int) <| .nil, [], .own 3 int <| .nil, []⟩
def cLits_L (nn : Nat) : Nat → Option LoopS := fun n =>
  bif Nat.beq n 3 then some ⟨{ env := [(3, ASh.arr 49), (8, ASh.dat (Ty.int IntKind.i64))], heap := [(49, CSh.arr 3 (Ty.int IntKind.i64))], keep := [0, 2, 6, 7], keepH := [] }, fun _ => nn⟩ else
  none
def cLits_J : Nat → Option Shape := fun n =>
  none
set_option maxRecDepth 100000 in
theorem cLits_eq : ∀ (nn : Nat)  xa xo, (cLits_s.prog (mkC Tryz.prog T_litAlt ⟨false, false⟩ (cLits_L nn) cLits_J) Tryz.f30 xa xo).run = cLitsF nn xa.1 := by intros; kernel_rfl
noncomputable def T_cLits : FuncId → Summ := addS T_litAlt 30 (cLits_s.summ (fun xa xo => cLits xa.1))
theorem T_cLits_ok : ∀ g, SummOK Tryz.prog g (T_cLits g) := fn_ok T_litAlt_ok fol Tryz.func30 (by kernel_rfl) (by kernel_rfl) (by kernel_rfl) (cLits_eq fuelN)

def cInd_s : FSig := ⟨.agg (.val int <| .val (.sl pair2) <| .val (.sl pair3) <| .val (.sl latchT) <| .val (.sl outT) <| .nil) <| .val int <| .val (.sl (.sl int)) <| .nil, [], .val int <| .nil, []⟩
def cInd_L (nn : Nat) : Nat → Option LoopS := fun n =>
  bif Nat.beq n 4 then some ⟨{ env := [(8, ASh.dat (Ty.int IntKind.i64)), (29, ASh.dat (Ty.int IntKind.i64))], heap := [], keep := [0, 1, 2, 3, 6, 7, 27, 28], keepH := [64, 256] }, fun _ => nn⟩ else
  bif Nat.beq n 7 then some ⟨{ env := [(35, ASh.dat (Ty.int IntKind.i64))], heap := [], keep := [0, 1, 2, 3, 6, 7, 8, 10, 27, 28, 29, 33, 34], keepH := [64, 256] }, fun _ => nn⟩ else
  bif Nat.beq n 19 then some ⟨{ env := [(74, ASh.dat (Ty.int IntKind.i64))], heap := [(1264, CSh.box 109 ((ASh.ref 1265 0).cons ((ASh.dat (Ty.int IntKind.i64)).cons ((ASh.arr 1236).cons ASh.nil)))), (1265, CSh.box 130 ((ASh.dat (Ty.int IntKind.i64)).cons ((ASh.arr 1238).cons ((ASh.arr 1239).cons ((ASh.arr 1240).cons ((ASh.arr 1241).cons ((ASh.arr 1242).cons ((ASh.arr 1243).cons ((ASh.arr 1244).cons ((ASh.arr 1245).cons ((ASh.dat (Ty.int IntKind.i64)).cons ((ASh.arr 1247).cons ((ASh.arr 1248).cons ((ASh.dat (Ty.int IntKind.i64)).cons ((ASh.dat Ty.bool).cons ((ASh.arr 1251).cons ((ASh.dat (Ty.int IntKind.i64)).cons ((ASh.arr 1253).cons ((ASh.arr 1254).cons ASh.nil))))))))))))))))))), (1238, CSh.arr2 48 3 (Ty.int IntKind.i64) []), (1239, CSh.arr2 48 3 (Ty.int IntKind.i64) []), (1240, CSh.arr 3 (Ty.int IntKind.i64)), (1241, CSh.arr 3 (Ty.int IntKind.i64)), (1242, CSh.arr 3 (Ty.int IntKind.i64)), (1243, CSh.arr 3 (Ty.int IntKind.i64)), (1247, CSh.arr 3 (Ty.int IntKind.i64)), (1248, CSh.arr 3 (Ty.int IntKind.i64)), (1253, CSh.arr 3 (Ty.int IntKind.i64)), (1254, CSh.arr 4 Ty.bool), (1236, CSh.arr 48 (Ty.int IntKind.i64).sl)], keep := [0, 1, 2, 3, 6, 7, 8, 13, 27, 28, 29, 72, 73], keepH := [64, 256, 1244, 1245, 1251] }, fun _ => nn⟩ else
  bif Nat.beq n 23 then some ⟨{ env := [(16, ASh.arr 50), (80, ASh.dat (Ty.int IntKind.i64))], heap := [(50, CSh.arr 3 (Ty.int IntKind.i64))], keep := [0, 1, 2, 3, 6, 7, 8, 13, 15, 27, 28, 29, 72, 73, 74, 78, 79], keepH := [64, 256, 1264, 1265, 1238, 1239, 1240, 1241, 1242, 1243, 1244, 1245, 1247, 1248, 1251, 1253, 1254, 1236] }, fun _ => nn⟩ else
  bif Nat.beq n 31 then some ⟨{ env := [(100, ASh.dat (Ty.int IntKind.i64))], heap := [(1264, CSh.box 109 ((ASh.ref 1265 0).cons ((ASh.dat (Ty.int IntKind.i64)).cons ((ASh.arr 1236).cons ASh.nil)))), (1265, CSh.box 130 ((ASh.dat (Ty.int IntKind.i64)).cons ((ASh.arr 1238).cons ((ASh.arr 1239).cons ((ASh.arr 1240).cons ((ASh.arr 1241).cons ((ASh.arr 1242).cons ((ASh.arr 1243).cons ((ASh.arr 1244).cons ((ASh.arr 1245).cons ((ASh.dat (Ty.int IntKind.i64)).cons ((ASh.arr 1247).cons ((ASh.arr 1248).cons ((ASh.dat (Ty.int IntKind.i64)).cons ((ASh.dat Ty.bool).cons ((ASh.arr 1251).cons ((ASh.dat (Ty.int IntKind.i64)).cons ((ASh.arr 1253).cons ((ASh.arr 1254).cons ASh.nil))))))))))))))))))), (1238, CSh.arr2 48 3 (Ty.int IntKind.i64) []), (1239, CSh.arr2 48 3 (Ty.int IntKind.i64) []), (1240, CSh.arr 3 (Ty.int IntKind.i64)), (1241, CSh.arr 3 (Ty.int IntKind.i64)), (1242, CSh.arr 3 (Ty.int IntKind.i64)), (1243, CSh.arr 3 (Ty.int IntKind.i64)), (1244, CSh.arr 3 (Ty.int IntKind.i64)), (1245, CSh.arr 3 (Ty.int IntKind.i64)), (1247, CSh.arr 3 (Ty.int IntKind.i64)), (1248, CSh.arr 3 (Ty.int IntKind.i64)), (1251, CSh.arr 48 (Ty.int IntKind.i64).sl), (1253, CSh.arr 3 (Ty.int IntKind.i64)), (1254, CSh.arr 4 Ty.bool), (1236, CSh.arr 48 (Ty.int IntKind.i64).sl)], keep := [0, 1, 2, 3, 6, 7, 8, 13, 19, 27, 28, 29, 72, 73, 74, 98, 99], keepH := [64, 256, 1728] }, fun _ => nn⟩ else
  bif Nat.beq n 35 then some ⟨{ env := [(22, ASh.arr 2368), (108, ASh.dat (Ty.int IntKind.i64))], heap := [(2368, CSh.arr 3 (Ty.int IntKind.i64)), (2368, CSh.arr 3 (Ty.int IntKind.i64))], keep := [0, 1, 2, 3, 6, 7, 8, 13, 19, 21, 27, 28, 29, 72, 73, 74, 98, 99, 100, 106, 107], keepH := [64, 256, 1264, 1265, 1238, 1239, 1240, 1241, 1242, 1243, 1244, 1245, 1247, 1248, 1251, 1253, 1254, 1236, 1728] }, fun _ => nn⟩ else
  none
def cInd_J : Nat → Option Shape := fun n =>
  none
set_option maxRecDepth 100000 in
theorem cInd_eq : ∀ (nn : Nat)  xa xo, (cInd_s.prog (mkC Tryz.prog T_cLits ⟨false, false⟩ (cInd_L nn) cInd_J) Tryz.f14 xa xo).run = cIndF nn xa.1.1 xa.1.2.1 xa.1.2.2.1 xa.1.2.2.2.1 xa.1.2.2.2.2.1 xa.2.1 xa.2.2.1 := by intros; kernel_rfl
noncomputable def T_cInd : FuncId → Summ := addS T_cLits 14 (cInd_s.summ (fun xa xo => cInd xa.1.1 xa.1.2.1 xa.1.2.2.1 xa.1.2.2.2.1 xa.1.2.2.2.2.1 xa.2.1 xa.2.2.1))
theorem T_cInd_ok : ∀ g, SummOK Tryz.prog g (T_cInd g) := fn_ok T_cLits_ok fol Tryz.func14 (by kernel_rfl) (by kernel_rfl) (by kernel_rfl) (cInd_eq fuelN)

def framesOf_s : FSig := ⟨.agg (.val int <| .val (.sl pair2) <| .val (.sl pair3) <| .val (.sl latchT) <| .val (.sl outT) <| .nil) <| .val int <| .val .bool <| .nil, [], .agg (.obj 0 <| .val int <| .val (.sl pair2) <| .val (.sl pair3) <| .val (.sl latchT) <| .val (.sl outT) <| .val (.ptr framesT) <| .own 3 int <| .nil) <| .nil, [(109, .obj 1 <| .val int <| .own 48 (.sl int) <| .nil), (130, .val int <| .own2 48 3 int <| .own2 48 3 int <| .own 3 int <| .own 3 int <| .own 3 int <| .own 3 int <| .own 3 int <| .own 3 int <| .val int <| .own 3 int <| .own 3 int <| .val int <| .val .bool <| .own 48 (.sl int) <| .val int <| .own 3 int <| .own 4 .bool <| .nil)]⟩
def framesOf_L (nn : Nat) : Nat → Option LoopS := fun n =>
  bif Nat.beq n 4 then some ⟨{ env := [(26, ASh.dat (Ty.int IntKind.i64))], heap := [(1024, CSh.box 102 ((ASh.ref 816 0).cons ((ASh.dat (Ty.int IntKind.i64)).cons ((ASh.dat ((Ty.int IntKind.i64).pair ((Ty.int IntKind.i64).pair Ty.unit)).sl).cons ((ASh.dat ((Ty.int IntKind.i64).pair ((Ty.int IntKind.i64).pair ((Ty.int IntKind.i64).pair Ty.unit))).sl).cons ((ASh.dat ((Ty.int IntKind.i64).pair ((Ty.int IntKind.i64).pair (Ty.bool.pair ((Ty.int IntKind.i64).pair ((Ty.int IntKind.i64).pair Ty.unit))))).sl).cons ((ASh.dat ((Ty.int IntKind.i64).pair ((Ty.int IntKind.i64).pair ((Ty.int IntKind.i64).pair Ty.unit))).sl).cons ((ASh.dat ((Ty.int IntKind.i64).pair (((Ty.int IntKind.i64).pair ((Ty.int IntKind.i64).pair Ty.unit)).sl.pair (((Ty.int IntKind.i64).pair ((Ty.int IntKind.i64).pair ((Ty.int IntKind.i64).pair Ty.unit))).sl.pair (((Ty.int IntKind.i64).pair ((Ty.int IntKind.i64).pair (Ty.bool.pair ((Ty.int IntKind.i64).pair ((Ty.int IntKind.i64).pair Ty.unit))))).sl.pair (((Ty.int IntKind.i64).pair ((Ty.int IntKind.i64).pair ((Ty.int IntKind.i64).pair Ty.unit))).sl.pair ((Ty.int IntKind.i64).pair (Ty.bool.pair ((Ty.int IntKind.i64).pair Ty.unit)))))))).ptr).cons ((ASh.arr 49).cons ASh.nil))))))))), (49, CSh.arr 3 (Ty.int IntKind.i64))], keep := [0, 1, 2, 3, 6, 7, 8, 24, 25], keepH := [64, 128, 816, 817, 790, 791, 792, 793, 794, 795, 796, 797, 799, 800, 803, 805, 806, 788] }, fun _ => nn⟩ else
  none
def framesOf_J : Nat → Option Shape := fun n =>
  none
set_option maxRecDepth 100000 in
theorem framesOf_eq : ∀ (nn : Nat)  xa xo, (framesOf_s.prog (mkC Tryz.prog T_cInd ⟨false, false⟩ (framesOf_L nn) framesOf_J) Tryz.f46 xa xo).run = framesOfF nn xa.1.1 xa.1.2.1 xa.1.2.2.1 xa.1.2.2.2.1 xa.1.2.2.2.2.1 xa.2.1 xa.2.2.1 := by intros; kernel_rfl
noncomputable def T_framesOf : FuncId → Summ := addS T_cInd 46 (framesOf_s.summ (fun xa xo => framesOf xa.1.1 xa.1.2.1 xa.1.2.2.1 xa.1.2.2.2.1 xa.1.2.2.2.2.1 xa.2.1 xa.2.2.1))
theorem T_framesOf_ok : ∀ g, SummOK Tryz.prog g (T_framesOf g) := fn_ok T_cInd_ok fol Tryz.func46 (by kernel_rfl) (by kernel_rfl) (by kernel_rfl) (framesOf_eq fuelN)

def fHit_s : FSig := ⟨.agg (.skip <| .val int <| .lend (.sl pair2) <| .lend (.sl pair3) <| .lend (.sl latchT) <| .lend (.sl outT) <| .val (.ptr framesT) <| .skip <| .nil) <| .val int <| .val int <| .nil, [], .val int <| .nil, []⟩
def fHit_L : Nat → Option LoopS := fun n =>
  none
def fHit_J : Nat → Option Shape := fun n =>
  none
set_option maxRecDepth 100000 in
theorem fHit_eq : ∀  xa xo, (fHit_s.prog (mkC Tryz.prog T_framesOf ⟨false, false⟩ fHit_L fHit_J) Tryz.f48 xa xo).run = fHit  xa.1.1 xa.1.2.1 xa.1.2.2.1 xa.1.2.2.2.1 xa.1.2.2.2.2.1 xa.1.2.2.2.2.2.1.1 xa.1.2.2.2.2.2.1.2.1 xa.1.2.2.2.2.2.1.2.2.1 xa.1.2.2.2.2.2.1.2.2.2.1 xa.1.2.2.2.2.2.1.2.2.2.2.1 xa.1.2.2.2.2.2.1.2.2.2.2.2.1 xa.1.2.2.2.2.2.1.2.2.2.2.2.2.1 xa.1.2.2.2.2.2.1.2.2.2.2.2.2.2.1 xa.2.1 xa.2.2.1 := by intros; kernel_rfl
noncomputable def T_fHit : FuncId → Summ := addS T_framesOf 48 (fHit_s.summ (fun xa xo => fHit xa.1.1 xa.1.2.1 xa.1.2.2.1 xa.1.2.2.2.1 xa.1.2.2.2.2.1 xa.1.2.2.2.2.2.1.1 xa.1.2.2.2.2.2.1.2.1 xa.1.2.2.2.2.2.1.2.2.1 xa.1.2.2.2.2.2.1.2.2.2.1 xa.1.2.2.2.2.2.1.2.2.2.2.1 xa.1.2.2.2.2.2.1.2.2.2.2.2.1 xa.1.2.2.2.2.2.1.2.2.2.2.2.2.1 xa.1.2.2.2.2.2.1.2.2.2.2.2.2.2.1 xa.2.1 xa.2.2.1))
theorem T_fHit_ok : ∀ g, SummOK Tryz.prog g (T_fHit g) := fn_ok T_framesOf_ok fol Tryz.func48 (by kernel_rfl) (by kernel_rfl) (by kernel_rfl) fHit_eq

def fLegal_s : FSig := ⟨.agg (.obj 0 <| .val int <| .val (.sl pair2) <| .val (.sl pair3) <| .val (.sl latchT) <| .val (.sl outT) <| .val (.ptr framesT) <| .val (.sl int) <| .nil) <| .val int <| .nil, [(109, .obj 1 <| .skip <| .own 48 (.sl int) <| .nil), (130, .val int <| .own2 48 3 int <| .own2 48 3 int <| .own 3 int <| .own 3 int <| .own 3 int <| .own 3 int <| .skip <| .skip <| .val int <| .own 3 int <| .own 3 int <| .val int <| .val .bool <| .skip <| .val int <| .own 3 int <| .own 4 .bool <| .nil)], .nil, []⟩
def fLegal_L (nn : Nat) : Nat → Option LoopS := fun n =>
  bif Nat.beq n 2 then some ⟨{ env := [(9, ASh.dat (Ty.int IntKind.i64))], heap := [(1, CSh.box 109 ((ASh.ref 2 0).cons ((ASh.opq 26).cons ((ASh.arr 27).cons ASh.nil)))), (2, CSh.box 130 ((ASh.dat (Ty.int IntKind.i64)).cons ((ASh.arr 29).cons ((ASh.arr 30).cons ((ASh.arr 31).cons ((ASh.arr 32).cons ((ASh.arr 33).cons ((ASh.arr 34).cons ((ASh.opq 35).cons ((ASh.opq 36).cons ((ASh.dat (Ty.int IntKind.i64)).cons ((ASh.arr 38).cons ((ASh.arr 39).cons ((ASh.dat (Ty.int IntKind.i64)).cons ((ASh.dat Ty.bool).cons ((ASh.opq 42).cons ((ASh.dat (Ty.int IntKind.i64)).cons ((ASh.arr 44).cons ((ASh.arr 45).cons ASh.nil))))))))))))))))))), (29, CSh.arr2 48 3 (Ty.int IntKind.i64) []), (30, CSh.arr2 48 3 (Ty.int IntKind.i64) []), (31, CSh.arr 3 (Ty.int IntKind.i64)), (32, CSh.arr 3 (Ty.int IntKind.i64)), (33, CSh.arr 3 (Ty.int IntKind.i64)), (34, CSh.arr 3 (Ty.int IntKind.i64)), (38, CSh.arr 3 (Ty.int IntKind.i64)), (39, CSh.arr 3 (Ty.int IntKind.i64)), (44, CSh.arr 3 (Ty.int IntKind.i64)), (45, CSh.arr 4 Ty.bool), (27, CSh.arr 48 (Ty.int IntKind.i64).sl)], keep := [0, 1, 2, 7, 8], keepH := [64] }, fun _ => nn⟩ else
  none
def fLegal_J : Nat → Option Shape := fun n =>
  none
set_option maxRecDepth 100000 in
theorem fLegal_eq : ∀ (nn : Nat)  xa xo, (fLegal_s.prog (mkC Tryz.prog T_fHit ⟨false, false⟩ (fLegal_L nn) fLegal_J) Tryz.f47 xa xo).run = fLegalF nn xa.1.1 xa.1.2.1 xa.1.2.2.1 xa.1.2.2.2.1 xa.1.2.2.2.2.1 xa.1.2.2.2.2.2.1.1 xa.1.2.2.2.2.2.1.2.1 xa.1.2.2.2.2.2.1.2.2.1 xa.1.2.2.2.2.2.1.2.2.2.1 xa.1.2.2.2.2.2.1.2.2.2.2.1 xa.1.2.2.2.2.2.1.2.2.2.2.2.1 xa.1.2.2.2.2.2.1.2.2.2.2.2.2.1 xa.1.2.2.2.2.2.1.2.2.2.2.2.2.2.1 xa.1.2.2.2.2.2.2.1 xa.2.1 xo.1.1 xo.2.1.1 xo.2.1.2.1 xo.2.1.2.2.1 xo.2.1.2.2.2.1 xo.2.1.2.2.2.2.1 xo.2.1.2.2.2.2.2.1 xo.2.1.2.2.2.2.2.2.1 xo.2.1.2.2.2.2.2.2.2.1 xo.2.1.2.2.2.2.2.2.2.2.1 xo.2.1.2.2.2.2.2.2.2.2.2.1 xo.2.1.2.2.2.2.2.2.2.2.2.2.1 xo.2.1.2.2.2.2.2.2.2.2.2.2.2.1 xo.2.1.2.2.2.2.2.2.2.2.2.2.2.2.1 xo.2.1.2.2.2.2.2.2.2.2.2.2.2.2.2.1 xo.2.1.2.2.2.2.2.2.2.2.2.2.2.2.2.2.1 := by intros; kernel_rfl
noncomputable def T_fLegal : FuncId → Summ := addS T_fHit 47 (fLegal_s.summ (fun xa xo => fLegal xa.1.1 xa.1.2.1 xa.1.2.2.1 xa.1.2.2.2.1 xa.1.2.2.2.2.1 xa.1.2.2.2.2.2.1.1 xa.1.2.2.2.2.2.1.2.1 xa.1.2.2.2.2.2.1.2.2.1 xa.1.2.2.2.2.2.1.2.2.2.1 xa.1.2.2.2.2.2.1.2.2.2.2.1 xa.1.2.2.2.2.2.1.2.2.2.2.2.1 xa.1.2.2.2.2.2.1.2.2.2.2.2.2.1 xa.1.2.2.2.2.2.1.2.2.2.2.2.2.2.1 xa.1.2.2.2.2.2.2.1 xa.2.1 xo.1.1 xo.2.1.1 xo.2.1.2.1 xo.2.1.2.2.1 xo.2.1.2.2.2.1 xo.2.1.2.2.2.2.1 xo.2.1.2.2.2.2.2.1 xo.2.1.2.2.2.2.2.2.1 xo.2.1.2.2.2.2.2.2.2.1 xo.2.1.2.2.2.2.2.2.2.2.1 xo.2.1.2.2.2.2.2.2.2.2.2.1 xo.2.1.2.2.2.2.2.2.2.2.2.2.1 xo.2.1.2.2.2.2.2.2.2.2.2.2.2.1 xo.2.1.2.2.2.2.2.2.2.2.2.2.2.2.1 xo.2.1.2.2.2.2.2.2.2.2.2.2.2.2.2.1 xo.2.1.2.2.2.2.2.2.2.2.2.2.2.2.2.2.1))
theorem T_fLegal_ok : ∀ g, SummOK Tryz.prog g (T_fLegal g) := fn_ok T_fHit_ok fol Tryz.func47 (by kernel_rfl) (by kernel_rfl) (by kernel_rfl) (fLegal_eq fuelN)

def fUnlike_s : FSig := ⟨.agg (.obj 0 <| .val int <| .val (.sl pair2) <| .val (.sl pair3) <| .val (.sl latchT) <| .val (.sl outT) <| .val (.ptr framesT) <| .skip <| .nil) <| .val int <| .val int <| .nil, [(109, .obj 1 <| .val int <| .own 48 (.sl int) <| .nil), (130, .val int <| .own2 48 3 int <| .own2 48 3 int <| .own 3 int <| .own 3 int <| .own 3 int <| .own 3 int <| .own 3 int <| .own 3 int <| .val int <| .own 3 int <| .own 3 int <| .val int <| .val .bool <| .own 48 (.sl int) <| .val int <| .own 3 int <| .own 4 .bool <| .nil)], .nil, []⟩
def fUnlike_L (nn : Nat) : Nat → Option LoopS := fun n =>
  bif Nat.beq n 4 then some ⟨{ env := [(7, ASh.arr 49), (23, ASh.dat (Ty.int IntKind.i64))], heap := [(1, CSh.box 109 ((ASh.ref 2 0).cons ((ASh.dat (Ty.int IntKind.i64)).cons ((ASh.arr 28).cons ASh.nil)))), (2, CSh.box 130 ((ASh.dat (Ty.int IntKind.i64)).cons ((ASh.arr 30).cons ((ASh.arr 535).cons ((ASh.arr 536).cons ((ASh.arr 537).cons ((ASh.arr 538).cons ((ASh.arr 539).cons ((ASh.arr 540).cons ((ASh.arr 37).cons ((ASh.dat (Ty.int IntKind.i64)).cons ((ASh.arr 39).cons ((ASh.arr 40).cons ((ASh.dat (Ty.int IntKind.i64)).cons ((ASh.dat Ty.bool).cons ((ASh.arr 43).cons ((ASh.dat (Ty.int IntKind.i64)).cons ((ASh.arr 549).cons ((ASh.arr 550).cons ASh.nil))))))))))))))))))), (30, CSh.arr2 48 3 (Ty.int IntKind.i64) []), (535, CSh.arr2 48 3 (Ty.int IntKind.i64) []), (536, CSh.arr 3 (Ty.int IntKind.i64)), (537, CSh.arr 3 (Ty.int IntKind.i64)), (538, CSh.arr 3 (Ty.int IntKind.i64)), (539, CSh.arr 3 (Ty.int IntKind.i64)), (39, CSh.arr 3 (Ty.int IntKind.i64)), (40, CSh.arr 3 (Ty.int IntKind.i64)), (549, CSh.arr 3 (Ty.int IntKind.i64)), (550, CSh.arr 4 Ty.bool), (28, CSh.arr 48 (Ty.int IntKind.i64).sl), (49, CSh.arr 3 (Ty.int IntKind.i64))], keep := [0, 1, 2, 3, 6, 22], keepH := [540, 37, 43, 64] }, fun _ => nn⟩ else
  none
def fUnlike_J : Nat → Option Shape := fun n =>
  none
set_option maxRecDepth 100000 in
theorem fUnlike_eq : ∀ (nn : Nat)  xa xo, (fUnlike_s.prog (mkC Tryz.prog T_fLegal ⟨false, false⟩ (fUnlike_L nn) fUnlike_J) Tryz.f49 xa xo).run = fUnlikeF nn xa.1.1 xa.1.2.1 xa.1.2.2.1 xa.1.2.2.2.1 xa.1.2.2.2.2.1 xa.1.2.2.2.2.2.1.1 xa.1.2.2.2.2.2.1.2.1 xa.1.2.2.2.2.2.1.2.2.1 xa.1.2.2.2.2.2.1.2.2.2.1 xa.1.2.2.2.2.2.1.2.2.2.2.1 xa.1.2.2.2.2.2.1.2.2.2.2.2.1 xa.1.2.2.2.2.2.1.2.2.2.2.2.2.1 xa.1.2.2.2.2.2.1.2.2.2.2.2.2.2.1 xa.2.1 xa.2.2.1 xo.1.1 xo.1.2.1 xo.2.1.1 xo.2.1.2.1 xo.2.1.2.2.1 xo.2.1.2.2.2.1 xo.2.1.2.2.2.2.1 xo.2.1.2.2.2.2.2.1 xo.2.1.2.2.2.2.2.2.1 xo.2.1.2.2.2.2.2.2.2.1 xo.2.1.2.2.2.2.2.2.2.2.1 xo.2.1.2.2.2.2.2.2.2.2.2.1 xo.2.1.2.2.2.2.2.2.2.2.2.2.1 xo.2.1.2.2.2.2.2.2.2.2.2.2.2.1 xo.2.1.2.2.2.2.2.2.2.2.2.2.2.2.1 xo.2.1.2.2.2.2.2.2.2.2.2.2.2.2.2.1 xo.2.1.2.2.2.2.2.2.2.2.2.2.2.2.2.2.1 xo.2.1.2.2.2.2.2.2.2.2.2.2.2.2.2.2.2.1 xo.2.1.2.2.2.2.2.2.2.2.2.2.2.2.2.2.2.2.1 xo.2.1.2.2.2.2.2.2.2.2.2.2.2.2.2.2.2.2.2.1 := by intros; kernel_rfl
noncomputable def T_fUnlike : FuncId → Summ := addS T_fLegal 49 (fUnlike_s.summ (fun xa xo => fUnlike xa.1.1 xa.1.2.1 xa.1.2.2.1 xa.1.2.2.2.1 xa.1.2.2.2.2.1 xa.1.2.2.2.2.2.1.1 xa.1.2.2.2.2.2.1.2.1 xa.1.2.2.2.2.2.1.2.2.1 xa.1.2.2.2.2.2.1.2.2.2.1 xa.1.2.2.2.2.2.1.2.2.2.2.1 xa.1.2.2.2.2.2.1.2.2.2.2.2.1 xa.1.2.2.2.2.2.1.2.2.2.2.2.2.1 xa.1.2.2.2.2.2.1.2.2.2.2.2.2.2.1 xa.2.1 xa.2.2.1 xo.1.1 xo.1.2.1 xo.2.1.1 xo.2.1.2.1 xo.2.1.2.2.1 xo.2.1.2.2.2.1 xo.2.1.2.2.2.2.1 xo.2.1.2.2.2.2.2.1 xo.2.1.2.2.2.2.2.2.1 xo.2.1.2.2.2.2.2.2.2.1 xo.2.1.2.2.2.2.2.2.2.2.1 xo.2.1.2.2.2.2.2.2.2.2.2.1 xo.2.1.2.2.2.2.2.2.2.2.2.2.1 xo.2.1.2.2.2.2.2.2.2.2.2.2.2.1 xo.2.1.2.2.2.2.2.2.2.2.2.2.2.2.1 xo.2.1.2.2.2.2.2.2.2.2.2.2.2.2.2.1 xo.2.1.2.2.2.2.2.2.2.2.2.2.2.2.2.2.1 xo.2.1.2.2.2.2.2.2.2.2.2.2.2.2.2.2.2.1 xo.2.1.2.2.2.2.2.2.2.2.2.2.2.2.2.2.2.2.1 xo.2.1.2.2.2.2.2.2.2.2.2.2.2.2.2.2.2.2.2.1))
theorem T_fUnlike_ok : ∀ g, SummOK Tryz.prog g (T_fUnlike g) := fn_ok T_fLegal_ok fol Tryz.func49 (by kernel_rfl) (by kernel_rfl) (by kernel_rfl) (fUnlike_eq fuelN)

def deep_s : FSig := ⟨.agg (.val int <| .val (.sl pair2) <| .val (.sl pair3) <| .val (.sl latchT) <| .val (.sl outT) <| .nil) <| .val int <| .val int <| .nil, [], .val .bool <| .nil, []⟩
def deep_L (nn : Nat) : Nat → Option LoopS := fun n =>
  bif Nat.beq n 3 then some ⟨{ env := [(16, ASh.dat (Ty.int IntKind.i64))], heap := [(368, CSh.box 109 ((ASh.ref 369 0).cons ((ASh.dat (Ty.int IntKind.i64)).cons ((ASh.arr 345).cons ASh.nil)))), (369, CSh.box 130 ((ASh.dat (Ty.int IntKind.i64)).cons ((ASh.arr 347).cons ((ASh.arr 348).cons ((ASh.arr 349).cons ((ASh.arr 350).cons ((ASh.arr 351).cons ((ASh.arr 352).cons ((ASh.arr 353).cons ((ASh.arr 354).cons ((ASh.dat (Ty.int IntKind.i64)).cons ((ASh.arr 356).cons ((ASh.arr 357).cons ((ASh.dat (Ty.int IntKind.i64)).cons ((ASh.dat Ty.bool).cons ((ASh.arr 360).cons ((ASh.dat (Ty.int IntKind.i64)).cons ((ASh.arr 362).cons ((ASh.arr 363).cons ASh.nil))))))))))))))))))), (347, CSh.arr2 48 3 (Ty.int IntKind.i64) []), (348, CSh.arr2 48 3 (Ty.int IntKind.i64) []), (349, CSh.arr 3 (Ty.int IntKind.i64)), (350, CSh.arr 3 (Ty.int IntKind.i64)), (351, CSh.arr 3 (Ty.int IntKind.i64)), (352, CSh.arr 3 (Ty.int IntKind.i64)), (353, CSh.arr 3 (Ty.int IntKind.i64)), (354, CSh.arr 3 (Ty.int IntKind.i64)), (356, CSh.arr 3 (Ty.int IntKind.i64)), (357, CSh.arr 3 (Ty.int IntKind.i64)), (360, CSh.arr 48 (Ty.int IntKind.i64).sl), (362, CSh.arr 3 (Ty.int IntKind.i64)), (363, CSh.arr 4 Ty.bool), (345, CSh.arr 48 (Ty.int IntKind.i64).sl), (327, CSh.sld (Ty.int IntKind.i64))], keep := [0, 1, 2, 3, 6, 7, 15], keepH := [64, 384] }, fun _ => nn⟩ else
  bif Nat.beq n 11 then some ⟨{ env := [(38, ASh.dat (Ty.int IntKind.i64))], heap := [(944, CSh.box 109 ((ASh.ref 945 0).cons ((ASh.dat (Ty.int IntKind.i64)).cons ((ASh.arr 921).cons ASh.nil)))), (945, CSh.box 130 ((ASh.dat (Ty.int IntKind.i64)).cons ((ASh.arr 923).cons ((ASh.arr 924).cons ((ASh.arr 925).cons ((ASh.arr 926).cons ((ASh.arr 927).cons ((ASh.arr 928).cons ((ASh.arr 929).cons ((ASh.arr 930).cons ((ASh.dat (Ty.int IntKind.i64)).cons ((ASh.arr 932).cons ((ASh.arr 933).cons ((ASh.dat (Ty.int IntKind.i64)).cons ((ASh.dat Ty.bool).cons ((ASh.arr 936).cons ((ASh.dat (Ty.int IntKind.i64)).cons ((ASh.arr 938).cons ((ASh.arr 939).cons ASh.nil))))))))))))))))))), (923, CSh.arr2 48 3 (Ty.int IntKind.i64) []), (924, CSh.arr2 48 3 (Ty.int IntKind.i64) []), (925, CSh.arr 3 (Ty.int IntKind.i64)), (926, CSh.arr 3 (Ty.int IntKind.i64)), (927, CSh.arr 3 (Ty.int IntKind.i64)), (928, CSh.arr 3 (Ty.int IntKind.i64)), (929, CSh.arr 3 (Ty.int IntKind.i64)), (930, CSh.arr 3 (Ty.int IntKind.i64)), (932, CSh.arr 3 (Ty.int IntKind.i64)), (933, CSh.arr 3 (Ty.int IntKind.i64)), (936, CSh.arr 48 (Ty.int IntKind.i64).sl), (938, CSh.arr 3 (Ty.int IntKind.i64)), (939, CSh.arr 4 Ty.bool), (921, CSh.arr 48 (Ty.int IntKind.i64).sl), (903, CSh.sld (Ty.int IntKind.i64))], keep := [0, 1, 2, 3, 6, 7, 9, 15, 16, 37], keepH := [64, 384, 368, 369, 347, 348, 349, 350, 351, 352, 353, 354, 356, 357, 360, 362, 363, 345, 327, 960] }, fun _ => nn⟩ else
  bif Nat.beq n 15 then some ⟨{ env := [(45, ASh.dat (Ty.int IntKind.i64))], heap := [(944, CSh.box 109 ((ASh.ref 945 0).cons ((ASh.dat (Ty.int IntKind.i64)).cons ((ASh.arr 1627).cons ASh.nil)))), (945, CSh.box 130 ((ASh.dat (Ty.int IntKind.i64)).cons ((ASh.arr 1629).cons ((ASh.arr 1630).cons ((ASh.arr 1631).cons ((ASh.arr 1632).cons ((ASh.arr 1633).cons ((ASh.arr 1634).cons ((ASh.arr 929).cons ((ASh.arr 930).cons ((ASh.dat (Ty.int IntKind.i64)).cons ((ASh.arr 1638).cons ((ASh.arr 1639).cons ((ASh.dat (Ty.int IntKind.i64)).cons ((ASh.dat Ty.bool).cons ((ASh.arr 936).cons ((ASh.dat (Ty.int IntKind.i64)).cons ((ASh.arr 1644).cons ((ASh.arr 1645).cons ASh.nil))))))))))))))))))), (1629, CSh.arr2 48 3 (Ty.int IntKind.i64) []), (1630, CSh.arr2 48 3 (Ty.int IntKind.i64) []), (1631, CSh.arr 3 (Ty.int IntKind.i64)), (1632, CSh.arr 3 (Ty.int IntKind.i64)), (1633, CSh.arr 3 (Ty.int IntKind.i64)), (1634, CSh.arr 3 (Ty.int IntKind.i64)), (929, CSh.arr 3 (Ty.int IntKind.i64)), (930, CSh.arr 3 (Ty.int IntKind.i64)), (1638, CSh.arr 3 (Ty.int IntKind.i64)), (1639, CSh.arr 3 (Ty.int IntKind.i64)), (936, CSh.arr 48 (Ty.int IntKind.i64).sl), (1644, CSh.arr 3 (Ty.int IntKind.i64)), (1645, CSh.arr 4 Ty.bool), (1627, CSh.arr 48 (Ty.int IntKind.i64).sl)], keep := [0, 1, 2, 3, 6, 7, 9, 10, 15, 16, 37, 38, 44], keepH := [64, 384, 368, 369, 347, 348, 349, 350, 351, 352, 353, 354, 356, 357, 360, 362, 363, 345, 327, 960, 903] }, fun _ => nn⟩ else
  none
def deep_J : Nat → Option Shape := fun n =>
  none
set_option maxRecDepth 100000 in
theorem deep_eq : ∀ (nn : Nat)  xa xo, (deep_s.prog (mkC Tryz.prog T_fUnlike ⟨false, false⟩ (deep_L nn) deep_J) Tryz.f21 xa xo).run = deepF nn xa.1.1 xa.1.2.1 xa.1.2.2.1 xa.1.2.2.2.1 xa.1.2.2.2.2.1 xa.2.1 xa.2.2.1 := by intros; kernel_rfl
noncomputable def T_deep : FuncId → Summ := addS T_fUnlike 21 (deep_s.summ (fun xa xo => deep xa.1.1 xa.1.2.1 xa.1.2.2.1 xa.1.2.2.2.1 xa.1.2.2.2.2.1 xa.2.1 xa.2.2.1))
theorem T_deep_ok : ∀ g, SummOK Tryz.prog g (T_deep g) := fn_ok T_fUnlike_ok fol Tryz.func21 (by kernel_rfl) (by kernel_rfl) (by kernel_rfl) (deep_eq fuelN)

def cCheck_s : FSig := ⟨.agg (.val int <| .val (.sl pair2) <| .val (.sl pair3) <| .val (.sl latchT) <| .val (.sl outT) <| .nil) <| .val int <| .agg (.val int <| .val int <| .val (.sl (.sl int)) <| .val (.sl (.sl int)) <| .nil) <| .nil, [], .val int <| .nil, []⟩
def cCheck_L : Nat → Option LoopS := fun n =>
  none
def cCheck_J : Nat → Option Shape := fun n =>
  none
set_option maxRecDepth 100000 in
theorem cCheck_eq : ∀  xa xo, (cCheck_s.prog (mkC Tryz.prog T_deep ⟨false, false⟩ cCheck_L cCheck_J) Tryz.f12 xa xo).run = cCheck  xa.1.1 xa.1.2.1 xa.1.2.2.1 xa.1.2.2.2.1 xa.1.2.2.2.2.1 xa.2.1 xa.2.2.1.1 xa.2.2.1.2.1 xa.2.2.1.2.2.1 xa.2.2.1.2.2.2.1 := by intros; kernel_rfl
noncomputable def T_cCheck : FuncId → Summ := addS T_deep 12 (cCheck_s.summ (fun xa xo => cCheck xa.1.1 xa.1.2.1 xa.1.2.2.1 xa.1.2.2.2.1 xa.1.2.2.2.2.1 xa.2.1 xa.2.2.1.1 xa.2.2.1.2.1 xa.2.2.1.2.2.1 xa.2.2.1.2.2.2.1))
theorem T_cCheck_ok : ∀ g, SummOK Tryz.prog g (T_cCheck g) := fn_ok T_deep_ok fol Tryz.func12 (by kernel_rfl) (by kernel_rfl) (by kernel_rfl) cCheck_eq

end GoSx
end
section
/- Walks: the functions compute what their models say: CertF. -/
set_option linter.unusedVariables false
set_option maxHeartbeats 0
set_option maxRecDepth 100000
namespace GoSx
open Go Go.Proofs
def head26_s : FSig := ⟨.nil, [], .val .bool <| .nil, []⟩
def head26_L : Nat → Option LoopS := fun n =>
  none
def head26_J : Nat → Option Shape := fun n =>
  none
set_option maxRecDepth 100000 in
theorem head26_eq : ∀ (vnever26 : Option (((Int × List (Int × Int × Unit) × List (Int × Int × Int × Unit) × List (Int × Int × Bool × Int × Int × Unit) × List (Int × Int × Int × Unit) × Unit) × Unit) × Unit × Unit)) (vcCheck : Int → List (Int × Int × Unit) → List (Int × Int × Int × Unit) → List (Int × Int × Bool × Int × Int × Unit) → List (Int × Int × Int × Unit) → Int → Int → Int → List (List Int) → List (List Int) → Option ((Int × Unit) × Unit × Unit)) (vcInd : Int → List (Int × Int × Unit) → List (Int × Int × Int × Unit) → List (Int × Int × Bool × Int × Int × Unit) → List (Int × Int × Int × Unit) → Int → List (List Int) → Option ((Int × Unit) × Unit × Unit)) xa xo, (head26_s.prog (mkC Tryz.prog (addS (addS (addS noS 13 (never26_s.summ (fun xa xo => vnever26 ))) 12 (cCheck_s.summ (fun xa xo => vcCheck xa.1.1 xa.1.2.1 xa.1.2.2.1 xa.1.2.2.2.1 xa.1.2.2.2.2.1 xa.2.1 xa.2.2.1.1 xa.2.2.1.2.1 xa.2.2.1.2.2.1 xa.2.2.1.2.2.2.1))) 14 (cInd_s.summ (fun xa xo => vcInd xa.1.1 xa.1.2.1 xa.1.2.2.1 xa.1.2.2.2.1 xa.1.2.2.2.2.1 xa.2.1 xa.2.2.1))) ⟨false, false⟩ head26_L head26_J) Tryz.f4 xa xo).run = head26F vnever26 vcCheck vcInd  := by intros; kernel_rfl
noncomputable def U_head26 : FuncId → Summ := (addS (addS (addS noS 13 (never26_s.summ (fun xa xo => never26 ))) 12 (cCheck_s.summ (fun xa xo => cCheck xa.1.1 xa.1.2.1 xa.1.2.2.1 xa.1.2.2.2.1 xa.1.2.2.2.2.1 xa.2.1 xa.2.2.1.1 xa.2.2.1.2.1 xa.2.2.1.2.2.1 xa.2.2.1.2.2.2.1))) 14 (cInd_s.summ (fun xa xo => cInd xa.1.1 xa.1.2.1 xa.1.2.2.1 xa.1.2.2.2.1 xa.1.2.2.2.2.1 xa.2.1 xa.2.2.1)))
theorem U_head26_ok : ∀ g, SummOK Tryz.prog g (U_head26 g) := (addS_ok (addS_ok (addS_ok noS_ok (summ_at T_cCheck_ok 13 (S := (never26_s.summ (fun xa xo => never26 ))) (by kernel_rfl))) (summ_at T_cCheck_ok 12 (S := (cCheck_s.summ (fun xa xo => cCheck xa.1.1 xa.1.2.1 xa.1.2.2.1 xa.1.2.2.2.1 xa.1.2.2.2.2.1 xa.2.1 xa.2.2.1.1 xa.2.2.1.2.1 xa.2.2.1.2.2.1 xa.2.2.1.2.2.2.1))) (by kernel_rfl))) (summ_at T_cCheck_ok 14 (S := (cInd_s.summ (fun xa xo => cInd xa.1.1 xa.1.2.1 xa.1.2.2.1 xa.1.2.2.2.1 xa.1.2.2.2.2.1 xa.2.1 xa.2.2.1))) (by kernel_rfl)))
noncomputable def T_head26 : FuncId → Summ := addS T_cCheck 4 (head26_s.summ (fun xa xo => head26 ))
theorem T_head26_ok : ∀ g, SummOK Tryz.prog g (T_head26 g) := fn_ok2 T_cCheck_ok U_head26_ok fol Tryz.func4 (by kernel_rfl) (by kernel_rfl) (by kernel_rfl) (head26_eq never26 cCheck cInd)

def CertTrace_s : FSig := ⟨.agg (.val (.sl nodeT) <| .val (.sl pinT) <| .val (.sl cellT) <| .val (.sl propT) <| .val (.sl pinT) <| .nil) <| .val (.int .u8) <| .val (.sl (.sl (.int .u16))) <| .val (.int .u16) <| .nil, [], .val .bool <| .nil, []⟩
def CertTrace_L (nn : Nat) : Nat → Option LoopS := fun n =>
  bif Nat.beq n 9 then some ⟨{ env := [(14, ASh.arr 1472), (15, ASh.dat (Ty.int IntKind.i64)), (16, ASh.dat (Ty.int IntKind.i64))], heap := [(1472, CSh.arr 4 Ty.bool)], keep := [0, 1, 2, 3, 4, 8, 9, 10, 11, 12, 13], keepH := [64, 768, 1280] }, fun _ => nn⟩ else
  none
def CertTrace_J : Nat → Option Shape := fun n =>
  bif Nat.beq n 19 then some ({ env := [(15, ASh.dat (Ty.int IntKind.i64))], heap := [], keep := [0, 1, 2, 3, 4, 8, 9, 10, 11, 12, 13, 14, 16, 17, 18], keepH := [64, 768, 1280, 1472, 3136, 3137] }) else
  bif Nat.beq n 20 then some ({ env := [(14, ASh.arr 51), (15, ASh.dat (Ty.int IntKind.i64)), (16, ASh.dat (Ty.int IntKind.i64))], heap := [(51, CSh.arr 4 Ty.bool)], keep := [0, 1, 2, 3, 4, 8, 9, 10, 11, 12, 13], keepH := [64, 768, 1280] }) else
  bif Nat.beq n 24 then some ({ env := [], heap := [(1280, CSh.sld (Ty.int IntKind.i64).sl)], keep := [0, 1, 2, 3, 4, 8, 9, 10, 11, 12, 13, 14, 15, 16, 19], keepH := [64, 768, 51, 1920] }) else
  bif Nat.beq n 31 then some ({ env := [], heap := [(3456, CSh.arr 3 (Ty.int IntKind.i64))], keep := [0, 1, 2, 3, 4, 8, 9, 10, 11, 12, 13, 14, 15, 16, 19, 20, 21], keepH := [64, 768, 1280, 51, 1920, 3008] }) else
  none
set_option maxRecDepth 100000 in
theorem CertTrace_eq : ∀ (nn : Nat) (vhead26 : Option ((Bool × Unit) × Unit × Unit)) (vfew26 : List (Int × Int × Int × Int × Int × Int × Int × Unit) → List (ByteArray × Int × Unit) → List (ByteArray × Int × Int × Int × Unit) → List (Int × ByteArray × Int × Unit) → List (ByteArray × Int × Unit) → Int → Option (((Int × List (Int × Int × Unit) × List (Int × Int × Int × Unit) × List (Int × Int × Bool × Int × Int × Unit) × List (Int × Int × Int × Unit) × Unit) × Int × Bool × Unit) × Unit × Unit)) (vrows26 : Int → List (Int × Int × Unit) → List (Int × Int × Int × Unit) → List (Int × Int × Bool × Int × Int × Unit) → List (Int × Int × Int × Unit) → List (List Int) → Option ((List (List Int) × Unit) × Unit × Unit)) (vcircFirst : Int → List (Int × Int × Unit) → List (Int × Int × Int × Unit) → List (Int × Int × Bool × Int × Int × Unit) → List (Int × Int × Int × Unit) → Option ((List Bool × Unit) × Unit × Unit)) (vcircIns : Int → List (Int × Int × Unit) → List (Int × Int × Int × Unit) → List (Int × Int × Bool × Int × Int × Unit) → List (Int × Int × Int × Unit) → List Int → Option ((List Bool × Unit) × Unit × Unit)) (vcircStep : Int → List (Int × Int × Unit) → List (Int × Int × Int × Unit) → List (Int × Int × Bool × Int × Int × Unit) → List (Int × Int × Int × Unit) → List Bool → List Bool → Option ((List Bool × List Bool × Unit) × Unit × Unit)) (vlegal16 : Int → List (Int × Int × Unit) → List (Int × Int × Int × Unit) → List (Int × Int × Bool × Int × Int × Unit) → List (Int × Int × Int × Unit) → List Bool → Option ((Bool × Unit) × Unit × Unit)) (vhits16 : Int → List (Int × Int × Unit) → List (Int × Int × Int × Unit) → List (Int × Int × Bool × Int × Int × Unit) → List (Int × Int × Int × Unit) → Int → List Bool → Option ((Bool × Unit) × Unit × Unit)) (vcCheck : Int → List (Int × Int × Unit) → List (Int × Int × Int × Unit) → List (Int × Int × Bool × Int × Int × Unit) → List (Int × Int × Int × Unit) → Int → Int → Int → List (List Int) → List (List Int) → Option ((Int × Unit) × Unit × Unit)) xa xo, (CertTrace_s.prog (mkC Tryz.prog (addS (addS (addS (addS (addS (addS (addS (addS (addS noS 4 (head26_s.summ (fun xa xo => vhead26 ))) 5 (few26_s.summ (fun xa xo => vfew26 xa.1.1 xa.1.2.1 xa.1.2.2.1 xa.1.2.2.2.1 xa.1.2.2.2.2.1 xa.2.1))) 6 (rows26_s.summ (fun xa xo => vrows26 xa.1.1 xa.1.2.1 xa.1.2.2.1 xa.1.2.2.2.1 xa.1.2.2.2.2.1 xa.2.1))) 7 (circFirst_s.summ (fun xa xo => vcircFirst xa.1.1 xa.1.2.1 xa.1.2.2.1 xa.1.2.2.2.1 xa.1.2.2.2.2.1))) 9 (circIns_s.summ (fun xa xo => vcircIns xa.1.1 xa.1.2.1 xa.1.2.2.1 xa.1.2.2.2.1 xa.1.2.2.2.2.1 xa.2.1))) 8 (circStep_s.summ (fun xa xo => vcircStep xa.1.1 xa.1.2.1 xa.1.2.2.1 xa.1.2.2.2.1 xa.1.2.2.2.2.1 xa.2.1 xa.2.2.1))) 10 (legal16_s.summ (fun xa xo => vlegal16 xa.1.1 xa.1.2.1 xa.1.2.2.1 xa.1.2.2.2.1 xa.1.2.2.2.2.1 xa.2.1))) 11 (hits16_s.summ (fun xa xo => vhits16 xa.1.1 xa.1.2.1 xa.1.2.2.1 xa.1.2.2.2.1 xa.1.2.2.2.2.1 xa.2.1 xa.2.2.1))) 12 (cCheck_s.summ (fun xa xo => vcCheck xa.1.1 xa.1.2.1 xa.1.2.2.1 xa.1.2.2.2.1 xa.1.2.2.2.2.1 xa.2.1 xa.2.2.1.1 xa.2.2.1.2.1 xa.2.2.1.2.2.1 xa.2.2.1.2.2.2.1))) ⟨false, false⟩ (CertTrace_L nn) CertTrace_J) Tryz.f3 xa xo).run = CertTraceF nn vhead26 vfew26 vrows26 vcircFirst vcircIns vcircStep vlegal16 vhits16 vcCheck xa.1.1 xa.1.2.1 xa.1.2.2.1 xa.1.2.2.2.1 xa.1.2.2.2.2.1 xa.2.1 xa.2.2.1 xa.2.2.2.1 := by intros; kernel_rfl
noncomputable def U_CertTrace : FuncId → Summ := (addS (addS (addS (addS (addS (addS (addS (addS (addS noS 4 (head26_s.summ (fun xa xo => head26 ))) 5 (few26_s.summ (fun xa xo => few26 xa.1.1 xa.1.2.1 xa.1.2.2.1 xa.1.2.2.2.1 xa.1.2.2.2.2.1 xa.2.1))) 6 (rows26_s.summ (fun xa xo => rows26 xa.1.1 xa.1.2.1 xa.1.2.2.1 xa.1.2.2.2.1 xa.1.2.2.2.2.1 xa.2.1))) 7 (circFirst_s.summ (fun xa xo => circFirst xa.1.1 xa.1.2.1 xa.1.2.2.1 xa.1.2.2.2.1 xa.1.2.2.2.2.1))) 9 (circIns_s.summ (fun xa xo => circIns xa.1.1 xa.1.2.1 xa.1.2.2.1 xa.1.2.2.2.1 xa.1.2.2.2.2.1 xa.2.1))) 8 (circStep_s.summ (fun xa xo => circStep xa.1.1 xa.1.2.1 xa.1.2.2.1 xa.1.2.2.2.1 xa.1.2.2.2.2.1 xa.2.1 xa.2.2.1))) 10 (legal16_s.summ (fun xa xo => legal16 xa.1.1 xa.1.2.1 xa.1.2.2.1 xa.1.2.2.2.1 xa.1.2.2.2.2.1 xa.2.1))) 11 (hits16_s.summ (fun xa xo => hits16 xa.1.1 xa.1.2.1 xa.1.2.2.1 xa.1.2.2.2.1 xa.1.2.2.2.2.1 xa.2.1 xa.2.2.1))) 12 (cCheck_s.summ (fun xa xo => cCheck xa.1.1 xa.1.2.1 xa.1.2.2.1 xa.1.2.2.2.1 xa.1.2.2.2.2.1 xa.2.1 xa.2.2.1.1 xa.2.2.1.2.1 xa.2.2.1.2.2.1 xa.2.2.1.2.2.2.1)))
theorem U_CertTrace_ok : ∀ g, SummOK Tryz.prog g (U_CertTrace g) := (addS_ok (addS_ok (addS_ok (addS_ok (addS_ok (addS_ok (addS_ok (addS_ok (addS_ok noS_ok (summ_at T_head26_ok 4 (S := (head26_s.summ (fun xa xo => head26 ))) (by kernel_rfl))) (summ_at T_head26_ok 5 (S := (few26_s.summ (fun xa xo => few26 xa.1.1 xa.1.2.1 xa.1.2.2.1 xa.1.2.2.2.1 xa.1.2.2.2.2.1 xa.2.1))) (by kernel_rfl))) (summ_at T_head26_ok 6 (S := (rows26_s.summ (fun xa xo => rows26 xa.1.1 xa.1.2.1 xa.1.2.2.1 xa.1.2.2.2.1 xa.1.2.2.2.2.1 xa.2.1))) (by kernel_rfl))) (summ_at T_head26_ok 7 (S := (circFirst_s.summ (fun xa xo => circFirst xa.1.1 xa.1.2.1 xa.1.2.2.1 xa.1.2.2.2.1 xa.1.2.2.2.2.1))) (by kernel_rfl))) (summ_at T_head26_ok 9 (S := (circIns_s.summ (fun xa xo => circIns xa.1.1 xa.1.2.1 xa.1.2.2.1 xa.1.2.2.2.1 xa.1.2.2.2.2.1 xa.2.1))) (by kernel_rfl))) (summ_at T_head26_ok 8 (S := (circStep_s.summ (fun xa xo => circStep xa.1.1 xa.1.2.1 xa.1.2.2.1 xa.1.2.2.2.1 xa.1.2.2.2.2.1 xa.2.1 xa.2.2.1))) (by kernel_rfl))) (summ_at T_head26_ok 10 (S := (legal16_s.summ (fun xa xo => legal16 xa.1.1 xa.1.2.1 xa.1.2.2.1 xa.1.2.2.2.1 xa.1.2.2.2.2.1 xa.2.1))) (by kernel_rfl))) (summ_at T_head26_ok 11 (S := (hits16_s.summ (fun xa xo => hits16 xa.1.1 xa.1.2.1 xa.1.2.2.1 xa.1.2.2.2.1 xa.1.2.2.2.2.1 xa.2.1 xa.2.2.1))) (by kernel_rfl))) (summ_at T_head26_ok 12 (S := (cCheck_s.summ (fun xa xo => cCheck xa.1.1 xa.1.2.1 xa.1.2.2.1 xa.1.2.2.2.1 xa.1.2.2.2.2.1 xa.2.1 xa.2.2.1.1 xa.2.2.1.2.1 xa.2.2.1.2.2.1 xa.2.2.1.2.2.2.1))) (by kernel_rfl)))
noncomputable def T_CertTrace : FuncId → Summ := addS T_head26 3 (CertTrace_s.summ (fun xa xo => CertTrace xa.1.1 xa.1.2.1 xa.1.2.2.1 xa.1.2.2.2.1 xa.1.2.2.2.2.1 xa.2.1 xa.2.2.1 xa.2.2.2.1))
theorem T_CertTrace_ok : ∀ g, SummOK Tryz.prog g (T_CertTrace g) := fn_ok2 T_head26_ok U_CertTrace_ok fol Tryz.func3 (by kernel_rfl) (by kernel_rfl) (by kernel_rfl) (CertTrace_eq fuelN head26 few26 rows26 circFirst circIns circStep legal16 hits16 cCheck)

end GoSx
end
