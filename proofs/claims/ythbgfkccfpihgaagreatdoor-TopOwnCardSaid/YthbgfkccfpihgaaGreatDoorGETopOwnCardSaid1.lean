/- TopOwnCardSaid: whatever the input, the law returns true, and the input reads as it did. Conditions: none. (The texts RowTopOwn, one behind the other.) -/
import Derived.Test.YthbgfkccfpihgaaGreatDoorGDTopOwnCardSaid1
import Derived.Test.YthbgfkccfpihgaaGreatDoorTie
import Derived.Test.YthbgfkccfpihgaaGreatDoorCards
import Derived.ProofKit
import Derived.OpenShut
import Derived.LaidMore
import Derived.SevenTiedAt
import Derived.Stop.Joined
set_option linter.unusedVariables false
set_option linter.unusedSimpArgs false
section
namespace Go.Proofs.YthbgfkccfpihgaaGreatDoor
open Go AL Go.ChangeShapes Go.WideShapes Go.ChangeAt Go.RowKit
theorem Tryz.own : ownKnob Tryz.prog.godebug = none := by kernel_rfl
theorem Tryz.laidOut : laidOutB Tryz.prog = true := by kernel_rfl
theorem Tryz.maxLen (w : World) (h : w.ShapedOpen Tryz.prog) : 0 < w.heap.size /\ ∃ m, w.cell? ⟨0, 0, Option.none⟩ = some (.int .i64 m) := by
 have hm := cell_of_shapedOpen_int (g := 0) (t := 3) (zero := #[.int .i64 0]) (k := .i64) h (of_decide_eq_true (by kernel_rfl)) (by kernel_rfl) rfl (by kernel_rfl) (by kernel_rfl) Tryz.underlying3
 refine ⟨?_, hm⟩
 obtain ⟨m, hm⟩ := hm
 rcases Nat.eq_zero_or_pos w.heap.size with h0 | h0
 ·have : w.heap[0]? = none := by rw [Array.getElem?_eq_none_iff]; omega
  simp [World.cell?, this] at hm
 ·exact h0
theorem Zl (x : (ZX [AGs, .sl (.int .u16), .sl (.int .u16)]).den) (hx : AAw [AGs, .sl (.int .u16), .sl (.int .u16)] x) : ∃ o, ((DX 0 (HY.AF fun xa xo => AL.TopOwn xa.1.1 xa.1.2.1 xa.1.2.2.1 xa.1.2.2.2.1 xa.1.2.2.2.2.1 xa.2.1 xa.2.2.1)) (ZY [AGs, .sl (.int .u16), .sl (.int .u16)] x) 64).run (hpG 0) = some o /\ o.Bu = [] /\ o.res = .dat .bool true := by
 have e : ((DX 0 (HY.AF fun xa xo => AL.TopOwn xa.1.1 xa.1.2.1 xa.1.2.2.1 xa.1.2.2.2.1 xa.1.2.2.2.2.1 xa.2.1 xa.2.2.1)) (ZY [AGs, .sl (.int .u16), .sl (.int .u16)] x) 64).run (hpG 0) =
   (match AL.TopOwn x.1.1 x.1.2.1 x.1.2.2.1 x.1.2.2.2.1 x.1.2.2.2.2.1 x.2.1 x.2.2.1 with
    | some y => some ⟨[], .dat .bool y.1.1, []⟩
    | Option.none => Option.none) := by kernel_rfl
 rw [AL.Wt] at e
 exact ⟨_, e, rfl, rfl⟩
noncomputable def rowW (os : Os) : World := World.laidAll Tryz.prog os Rows.topOwnRow.laid
noncomputable def rowA : Array Value := #[.agg #[.slice none 0 0, .slice none 0 0, .slice none 0 0, .slice none 0 0, .slice none 0 0], .slice none 0 0, .slice none 0 0]
set_option maxRecDepth 100000 in
theorem rowW_zip (os : Os) : ((rowW os).forCall (fun _ _ => 0) ⟨#[], rowA, []⟩).variablesZipB Tryz.prog = true := by kernel_rfl
set_option maxRecDepth 100000 in
theorem rowW_shaped (os : Os) : ((rowW os).forCall (fun _ _ => 0) ⟨#[], rowA, []⟩).Shaped Tryz.prog := World.shaped_of_ZipB (rowW_zip os) (by kernel_rfl)
set_option maxRecDepth 100000 in
theorem rowW_ok (os : Os) : Input.okWideB Tryz.prog ((rowW os).forCall (fun _ _ => 0) ⟨#[], rowA, []⟩) 4 ⟨#[], rowA, []⟩ = true := by kernel_rfl
set_option maxRecDepth 100000 in
theorem rowW_pre (os : Os) (H : Type) (enc : TypeId × Value -> H) : Rows.topOwnSpec.preB enc Tryz.prog Tryz.f4 [] false ((rowW os).forCall (fun _ _ => 0) ⟨#[], rowA, []⟩).memory rowA 8 = true := by kernel_rfl
set_option maxRecDepth 100000 in
theorem rowW_sized (os : Os) (H : Type) (enc : TypeId × Value -> H) : Rows.topOwnSpec.sizedB enc Tryz.prog Tryz.f4 false ((rowW os).forCall (fun _ _ => 0) ⟨#[], rowA, []⟩).memory rowA 8 = true := by kernel_rfl
set_option maxRecDepth 100000 in
theorem rowW_laid (os : Os) : laidMetH Tryz.prog Rows.topOwnRow.laid ((rowW os).forCall (fun _ _ => 0) ⟨#[], rowA, []⟩).memory := by
 rw [MakeChecks.laidMetH_plain _ _ _ (by kernel_rfl)]
 exact laidMet_laidAll _ (by kernel_rfl) (by kernel_rfl)
theorem QE (os : Os) (started : os.Started) (H : Type) (enc : TypeId × Value -> H) :
  ReturnsInHanded {} Tryz.checked os 4 .any (fun w args => (Rows.topOwnSpec.pre enc Tryz.prog Tryz.f4 Rows.topOwnRow.domain false w args /\ laidMetH Tryz.prog Rows.topOwnRow.laid w) /\ sizedMet enc Tryz.prog Tryz.f4 (OpenSpec.ofChange Rows.topOwnSpec) false w args)
   (Rows.topOwnSpec.post enc Tryz.prog Tryz.f4 false true false false) :=
 WY (C := Tryz.checked) (Ts := [AGs, .sl (.int .u16), .sl (.int .u16)]) (tb := 4) (g := 0) (X := fun w => laidMetH Tryz.prog Rows.topOwnRow.laid w) Tryz.own started (by kernel_rfl) Tryz.func4
  (ChangeSpec.witness_shaped (enc := enc) (C := Tryz.checked) (os := os) (X := fun w _ => laidMetH Tryz.prog Rows.topOwnRow.laid w) false (rowW os) rowA 8 (World.laidAll_os _ _ _) (rowW_shaped os) (rowW_ok os) (rowW_pre os H enc) (rowW_sized os H enc) (rowW_laid os))
  Tryz.laidOut rfl (fun ds h => by match ds, h with | [a, b, c], _ => rfl) (by kernel_rfl) (by kernel_rfl) (by kernel_rfl) Tryz.maxLen (Ap WW 4 (S := DX 0 (HY.AF fun xa xo => AL.TopOwn xa.1.1 xa.1.2.1 xa.1.2.2.1 xa.1.2.2.2.1 xa.1.2.2.2.2.1 xa.2.1 xa.2.2.1)) (by kernel_rfl)) Zl
theorem Zm : Rows.TopOwnSaid :=
 OpenClaim.holds_of_wide 4 Tryz.f4 rfl rfl rfl rfl rfl rfl rfl ⟨rfl, rfl, rfl, rfl, rfl⟩ rfl rfl rfl rfl rfl (by kernel_rfl) Tryz.func4 (by kernel_rfl)
  (of_decide_eq_true (by kernel_rfl)) (by unfold Func.isWrapper; first | (rw [if_pos (by decide +kernel)]; kernel_rfl) | (rw [if_neg (by decide +kernel)]; exact ⟨rfl, rfl⟩))
  (fun os started H enc _ => QE os started H enc)
theorem topOwn_holds : Rows.TopOwnCardSaid :=
 Claim7.holds_tied_plain_at .later [] [.data, .data, .data, .data, .sentinel, .sentinel, .pinned] true (true, "ba050d6e28a48b2a201dc44eea00d240d1885b4c9270b278390797b5d3e651f2") true Zm (fun _ h => by cases h) (by kernel_rfl) (fun _ h => by cases h) topOwn_row_tie rfl ⟨rfl, rfl⟩ (by kernel_rfl) rfl
  (fun f fn hf hfn => by
   obtain rfl : f = 4 := Option.some.inj ((show Tryz.prog.funcNamed "proofmark/proofmarktop.TopOwn" = some 4 by kernel_rfl).symm.trans hf) |>.symm
   obtain rfl : fn = Tryz.f4 := (Option.some.inj (Tryz.func4.symm.trans hfn)).symm
   exact ⟨by kernel_rfl, fun j t ht => by
    have hm : t ∈ Tryz.f4.params.toList := by simpa using Array.mem_of_getElem? ht
    have hall : (Tryz.f4.params.toList.all fun u => !Tryz.prog.wantsStandIn u) = true := by kernel_rfl
    exact (show Tryz.prog.wantsStandIn t = false by simpa using List.all_eq_true.1 hall t hm)⟩)
  (by kernel_rfl)
end Go.Proofs.YthbgfkccfpihgaaGreatDoor
end
