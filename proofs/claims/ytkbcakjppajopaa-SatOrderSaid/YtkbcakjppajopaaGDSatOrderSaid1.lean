/- The texts LOrder, RowSatOrder, one behind the other. -/
import Derived.Test.YtkbcakjppajopaaGC2
import Derived.Test.YtkbcakjppajopaaRows
set_option linter.unusedVariables false
set_option linter.unusedSimpArgs false
section
/- The pure claim of SatOrder. -/
set_option linter.unusedVariables false
set_option linter.unusedSimpArgs false
namespace GoSx
open Go
theorem dropI_mem {l : List Int} {i : Int} {y : Int} (h0 : 0 ≤ i) (h1 : i < l.length) : y ∈ l.drop i.toNat ↔ (y = getI l i ∨ y ∈ l.drop (i + 1).toNat) := by
  rw [dropI_eq h0 h1, List.mem_cons]
theorem dropL_eq {l : List (List Int)} {i : Int} (h0 : 0 ≤ i) (hi : i < l.length) : l.drop i.toNat = getL l i :: l.drop (i+1).toNat := by
  have e : getL l i = l[i.toNat]'(by omega) := by
    have := getL_nat l i.toNat (by omega)
    rwa [Int.toNat_of_nonneg (by omega)] at this
  rw [e, show (i+1).toNat = i.toNat + 1 by omega]
  exact List.drop_eq_getElem_cons (by omega)
set_option maxHeartbeats 2000000 in
theorem satOrder_pure (l : List (List Int)) (assume : List Int) (twice : Int) (ht : 0 ≤ twice ∧ twice ≤ 255) : SatOrder l assume twice = some ((true, ()), (), ()) := by
  suffices hs : Runs (SatOrder l assume twice) (fun o => o = ((true, ()), (), ())) by
    obtain ⟨_, e, rfl⟩ := hs; exact e
  obtain ⟨c, ec, hc⟩ := rSmalls_ok l
  obtain ⟨a, ea, ha⟩ := rCut_ok (l := assume) (k := 12) (by omega) (by omega)
  obtain ⟨x, ex, hxl, hx⟩ := rSmall_ok (c := a) (by omega)
  obtain ⟨s, es, id, hv, hp⟩ := small_made hc
  have hcl := hc.1
  have hp0 : s.proof.length = 0 := by rw [hp]; rfl
  obtain ⟨rf, s3, rf1, pf, qf⟩ := ask8 id (by omega) (x := x) 6561 (by omega) (by omega)
  have hxv : ∀ y ∈ x, lit s.vars y := by rw [hv]; exact hx
  have f3 : rf ≠ 3 := fun h => by have := qf h; omega
  have wt : IntKind.i64.wrap twice = twice := by rw [IntKind.wrap_i64]; omega
  unfold SatOrder SatOrderF
  refine Runs.bind head_ok (Runs.bind ec (Runs.bind ea (Runs.bind ex ?_)))
  simp only [cond_t, cond_f]
  rw [wt]
  refine Runs.inK ⟨by simp only [nI]; omega, by simp only [nI]; omega⟩ ?_
  -- what the other one has
  have fin : ∀ (d : List (List Int)) (y : List Int), d.length ≤ 80 → (∀ e ∈ d, e.length ≤ 8 ∧ ∀ z ∈ e, lit 8 z) → (∀ m : List Bool, (∀ g ∈ c, ∃ z ∈ g, tru m z) ↔ (∀ g ∈ d, ∃ z ∈ g, tru m z)) → (∀ z, z ∈ y ↔ z ∈ x) → y.length ≤ 12 → ∃ t, made d = some ((), (), Sol.tup t, ()) ∧ ∃ (r : Int) (t' : Sol), Ask y 6561 t.vars t.all t.watch t.is t.depth t.why t.old t.hot t.warm t.cold t.row t.begin t.done t.empty t.proof t.answer t.core t.model = some ((r, ()), (Sol.tup t', ()), ()) ∧ r = rf := by
    intro d y hd1 hd2 hd3 hy hyl
    obtain ⟨t, et, it, tv, tp⟩ := made_ok (l := d) (by omega) (fun e he => ⟨by have := (hd2 e he).1; omega, (hd2 e he).2⟩)
    have tp0 : t.proof.length = 0 := by rw [tp]; rfl
    obtain ⟨r, t', er, p, q⟩ := ask8 it (by omega) (x := y) 6561 (by omega) (by omega)
    refine ⟨t, et, r, t', er, ?_⟩
    refine answers_same p pf (by rw [tv]; exact fun z hz => hx z ((hy z).mp hz)) hxv (fun h => by have := q h; omega) f3 ?_
    rw [tv, hv]
    exact can_congr (fun m => (hd3 m).symm) hy
  refine Runs.iter (fun X : Int × List (List Int) × List (List Int) => -1 ≤ X.1 ∧ X.1 < c.length ∧ (X.2.1.length : Int) = c.length - 1 - X.1 ∧ (∀ e ∈ X.2.1, e.length ≤ 8 ∧ ∀ z ∈ e, lit 8 z) ∧ ∀ m : List Bool, (∀ g ∈ c.drop (X.1 + 1).toNat, ∃ z ∈ g, tru m z) ↔ (∀ g ∈ X.2.1, ∃ z ∈ g, tru m z)) (fun X => (X.1 + 1).toNat) ?_ ⟨by simp only [nI]; omega, by simp only [nI]; omega, by simp only [nI, List.length_nil]; omega, by simp, fun m => ?_⟩ (fuelN_gt (by simp only [nI]; omega))
  rotate_left
  · dsimp only
    simp only [nI]
    rw [show ((c.length : Int) - 1 + 1).toNat = c.length by omega, List.drop_length]
  rintro ⟨i, o, o2⟩ ⟨i0, i1, ol, ho1, ho2⟩
  dsimp only at i0 i1 ol ho1 ho2 ⊢
  refine Runs.dec (fun hi => ?_) (fun hi => ?_)
  · have hcm := hc.2 _ (getL_mem (l := c) (i := i) (by omega) i1)
    refine Runs.gd (by omega) (Runs.gd (by simp only [nI]; omega) (Runs.inK ⟨by simp only [nI]; omega, by simp only [nI]; omega⟩ ?_))
    refine Runs.iter (fun X : Int × List Int × List Int => -1 ≤ X.1 ∧ X.1 < (getL c i).length ∧ (X.2.1.length : Int) = (getL c i).length - 1 - X.1 ∧ ∀ y, y ∈ X.2.1 ↔ y ∈ (getL c i).drop (X.1 + 1).toNat) (fun X => (X.1 + 1).toNat) ?_ ⟨by simp only [nI]; omega, by simp only [nI]; omega, by simp only [nI, List.length_nil]; omega, fun y => ?_⟩ (fuelN_gt (by simp only [nI]; omega))
    · rintro ⟨k, e, e2⟩ ⟨k0, k1, el, he⟩
      dsimp only at k0 k1 el he ⊢
      refine Runs.dec (fun hk => ?_) (fun hk => ?_)
      · refine Runs.gd (by omega) (Runs.gd (by simp only [nI]; omega) (Runs.gd (by omega) (Runs.gd (by simp only [nI]; omega) (Runs.gd (by simp only [lim, List.length_singleton]; omega) (Runs.gd (by simp only [lim, List.length_singleton]; omega) (Runs.inK ⟨by omega, by omega⟩ (Runs.ret ⟨⟨by dsimp only; omega, by dsimp only; omega, by dsimp only; rw [List.length_append, List.length_singleton]; omega, fun y => ?_⟩, by dsimp only; omega⟩)))))))
        dsimp only
        rw [List.mem_append, List.mem_singleton, he y, show k - 1 + 1 = k by omega, dropI_mem (l := getL c i) (i := k) (by omega) (by omega)]
        constructor
        · rintro (h | h)
          · exact .inr h
          · exact .inl h
        · rintro (h | h)
          · exact .inr h
          · exact .inl h
      · have ek : k = -1 := by omega
        subst ek
        have he' : ∀ y, y ∈ e ↔ y ∈ getL c i := fun y => by have := he y; simpa using this
        refine Runs.gd (by simp only [lim, List.length_singleton]; omega) (Runs.gd (by simp only [lim, List.length_singleton]; omega) (Runs.inK ⟨by omega, by omega⟩ (Runs.ret ⟨⟨by dsimp only; omega, by dsimp only; omega, by dsimp only; rw [List.length_append, List.length_singleton]; omega, fun f hf => ?_, fun m => ?_⟩, by dsimp only; omega⟩)))
        · dsimp only at hf
          rw [List.mem_append, List.mem_singleton] at hf
          rcases hf with hf | rfl
          · exact ho1 f hf
          · exact ⟨by omega, fun z hz => hcm.2 z ((he' z).mp hz)⟩
        · dsimp only
          rw [show i - 1 + 1 = i by omega, dropL_eq (by omega) (by omega)]
          simp only [List.mem_cons, List.mem_append, List.mem_singleton, List.not_mem_nil, or_false]
          constructor
          · intro h g hg
            rcases hg with hg | rfl
            · exact (ho2 m).mp (fun g hg => h g (.inr hg)) g hg
            · obtain ⟨z, hz, hz2⟩ := h _ (.inl rfl)
              exact ⟨z, (he' z).mpr hz, hz2⟩
          · intro h g hg
            rcases hg with rfl | hg
            · obtain ⟨z, hz, hz2⟩ := h _ (.inr rfl)
              exact ⟨z, (he' z).mp hz, hz2⟩
            · exact (ho2 m).mpr (fun g hg => h g (.inl hg)) g hg
    · dsimp only
      simp only [nI]
      rw [show (((getL c i).length : Int) - 1 + 1).toNat = (getL c i).length by omega, List.drop_length]
  · have ei : i = -1 := by omega
    subst ei
    have ho3 : ∀ m : List Bool, (∀ g ∈ c, ∃ z ∈ g, tru m z) ↔ (∀ g ∈ o, ∃ z ∈ g, tru m z) := fun m => by have := ho2 m; simpa using this
    refine Runs.inK ⟨by simp only [nI]; omega, by simp only [nI]; omega⟩ ?_
    refine Runs.iter (fun X : Int × List Int × List Int => -1 ≤ X.1 ∧ X.1 < x.length ∧ (X.2.1.length : Int) = x.length - 1 - X.1 ∧ ∀ y, y ∈ X.2.1 ↔ y ∈ x.drop (X.1 + 1).toNat) (fun X => (X.1 + 1).toNat) ?_ ⟨by simp only [nI]; omega, by simp only [nI]; omega, by simp only [nI, List.length_nil]; omega, fun y => ?_⟩ (fuelN_gt (by simp only [nI]; omega))
    · rintro ⟨k, e, e2⟩ ⟨k0, k1, el, he⟩
      dsimp only at k0 k1 el he ⊢
      refine Runs.dec (fun hk => ?_) (fun hk => ?_)
      · refine Runs.gd (by omega) (Runs.gd (by simp only [nI]; omega) (Runs.gd (by simp only [lim, List.length_singleton]; omega) (Runs.gd (by simp only [lim, List.length_singleton]; omega) (Runs.inK ⟨by omega, by omega⟩ (Runs.ret ⟨⟨by dsimp only; omega, by dsimp only; omega, by dsimp only; rw [List.length_append, List.length_singleton]; omega, fun y => ?_⟩, by dsimp only; omega⟩)))))
        dsimp only
        rw [List.mem_append, List.mem_singleton, he y, show k - 1 + 1 = k by omega, dropI_mem (l := x) (i := k) (by omega) (by omega)]
        constructor
        · rintro (h | h)
          · exact .inr h
          · exact .inl h
        · rintro (h | h)
          · exact .inr h
          · exact .inl h
      · have ek : k = -1 := by omega
        subst ek
        have he' : ∀ y, y ∈ e ↔ y ∈ x := fun y => by have := he y; simpa using this
        refine Runs.dec (fun hpos => ?_) (fun hpos => ?_)
        · simp only [nI] at hpos
          have hm : 0 ≤ twice.tmod c.length ∧ twice.tmod c.length < c.length := by
            rw [Int.tmod_eq_emod_of_nonneg ht.1]
            exact ⟨Int.emod_nonneg _ (by omega), Int.emod_lt_of_pos _ (by omega)⟩
          simp only [nI]
          generalize hk2 : twice.tmod c.length = w at *
          have hgm := getL_mem hm.1 hm.2
          obtain ⟨t, et, r, t', er, err⟩ := fin (o ++ [getL c w]) e (by rw [List.length_append, List.length_singleton]; omega) (fun f hf => by
            rw [List.mem_append, List.mem_singleton] at hf
            rcases hf with hf | rfl
            · exact ho1 f hf
            · exact hc.2 _ hgm) (fun m => by
            rw [ho3 m]
            constructor
            · intro h g hg
              rw [List.mem_append, List.mem_singleton] at hg
              rcases hg with hg | rfl
              · exact h g hg
              · exact (ho3 m).mpr h _ hgm
            · exact fun h g hg => h g (List.mem_append_left _ hg)) he' (by omega)
          refine Runs.gd (by omega) (Runs.gd hm.1 (Runs.gd hm.2 (Runs.gd (by simp only [lim, List.length_singleton]; omega) (Runs.gd (by simp only [lim, List.length_singleton]; omega) (Runs.bind es (Runs.bind et (Runs.bind rFuel_ok (Runs.bind rf1 (Runs.bind rFuel_ok (Runs.bind er (Runs.ret ?_)))))))))))
          show _ = _
          rw [err, beq_self_eq_true]
        · obtain ⟨t, et, r, t', er, err⟩ := fin o e (by omega) ho1 ho3 he' (by omega)
          refine Runs.bind es (Runs.bind et (Runs.bind rFuel_ok (Runs.bind rf1 (Runs.bind rFuel_ok (Runs.bind er (Runs.ret ?_))))))
          show _ = _
          rw [err, beq_self_eq_true]
    · dsimp only
      simp only [nI]
      rw [show ((x.length : Int) - 1 + 1).toNat = x.length by omega, List.drop_length]
theorem satOrder_pure_fit (x : (inTy [.sl ints, ints, .int .u8]).den) (h : inFit [.sl ints, ints, .int .u8] x) : SatOrder x.1 x.2.1 x.2.2.1 = some ((true, ()), (), ()) := by
  obtain ⟨_, _, h3, _⟩ := h
  exact satOrder_pure _ _ _ h3
end GoSx
end
section
/- The row of SatOrder: whatever the input, it returns true, and the input reads as it did. -/
namespace Go.Proofs.Ytkbcakjppajopaa
open Go GoSx Go.ChangeShapes Go.WideShapes Go.ChangeAt Go.RowKit

theorem Try.own : ownKnob Try.prog.godebug = none := by kernel_rfl
theorem Try.laidOut : laidOutB Try.prog = true := by kernel_rfl

theorem satOrder_run (x : (inTy [.sl ints, ints, .int .u8]).den) (hx : inFit [.sl ints, ints, .int .u8] x) : ∃ o, ((SatOrder_s.summ fun xa xo => GoSx.SatOrder xa.1 xa.2.1 xa.2.2.1) (inAV [.sl ints, ints, .int .u8] x) 64).run (fun _ => .none) = some o ∧ o.obls = [] ∧ o.res = .dat .bool true := by
  have e : ((SatOrder_s.summ fun xa xo => GoSx.SatOrder xa.1 xa.2.1 xa.2.2.1) (inAV [.sl ints, ints, .int .u8] x) 64).run (fun _ => .none) =
      (match GoSx.SatOrder x.1 x.2.1 x.2.2.1 with
        | some y => some ⟨[], .dat .bool y.1.1, []⟩
        | Option.none => Option.none) := by kernel_rfl
  rw [GoSx.satOrder_pure_fit x hx] at e
  exact ⟨_, e, rfl, rfl⟩

theorem satOrder_lifted (os : Os) (started : os.Started) (H : Type) (enc : TypeId × Value → H) :
    ReturnsInHanded {} Try.checked os 11 .any (Rows.satOrderSpec.pre6 enc Try.prog Try.f11 Rows.satOrderRow.domain false) (Rows.satOrderSpec.post enc Try.prog Try.f11 false true false false) :=
  law_lifted (C := Try.checked) (Ts := [.sl ints, ints, .int .u8]) (tb := 4) Try.own started (by kernel_rfl) Try.func11
    (ChangeSpec.witness6 (enc := enc) (C := Try.checked) false ⟨#[], #[.slice none 0 0, .slice none 0 0, .int .u8 0], []⟩ 8 (by kernel_rfl) (by kernel_rfl) (by kernel_rfl) (by kernel_rfl))
    Try.laidOut rfl (fun ds h => by match ds, h with | [a, b, c], _ => rfl) (by kernel_rfl) (by kernel_rfl) (by kernel_rfl) (summ_at T_SatSame_ok 11 (S := SatOrder_s.summ fun xa xo => GoSx.SatOrder xa.1 xa.2.1 xa.2.2.1) (by kernel_rfl)) satOrder_run

theorem satOrder_holds : Rows.SatOrderSaid :=
  OpenClaim.holds_of_wide 11 Try.f11 rfl rfl rfl rfl rfl rfl rfl ⟨rfl, rfl, rfl, rfl, rfl⟩ rfl rfl rfl rfl rfl (by kernel_rfl) Try.func11 (by kernel_rfl)
    (of_decide_eq_true (by kernel_rfl)) (by unfold Func.isWrapper; first | (rw [if_pos (by decide +kernel)]; kernel_rfl) | (rw [if_neg (by decide +kernel)]; exact ⟨rfl, rfl⟩))
    (fun os started H enc _ => satOrder_lifted os started H enc)
end Go.Proofs.Ytkbcakjppajopaa
end
