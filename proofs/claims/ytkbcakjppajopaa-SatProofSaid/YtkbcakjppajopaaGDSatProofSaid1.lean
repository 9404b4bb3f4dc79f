/- The texts LProof, RowSatProof, one behind the other. -/
import Derived.Test.YtkbcakjppajopaaGC2
import Derived.Test.YtkbcakjppajopaaRows
set_option linter.unusedVariables false
set_option linter.unusedSimpArgs false
section
/- The pure claim of SatProof. -/
set_option linter.unusedVariables false
set_option linter.unusedSimpArgs false
namespace GoSx
open Go
theorem rFollows_ok {N : Int} {l : List (List Int)} {c : List Int} (hN0 : 0 ≤ N) (hN : N ≤ 1024) (hl : l.length ≤ 4294967296) (hc : ∀ d ∈ l, d.length ≤ 4294967296 ∧ ∀ x ∈ d, lit N x) (hk : c.length ≤ 4294967296) (hkl : ∀ x ∈ c, lit N x)
    (hno : ∀ T, CC l T → ¬ ∀ x ∈ c, T (-x)) : rFollows l N c = some ((true, ()), (), ()) := by
  have : Runs (rFollows l N c) (fun r => r = ((true, ()), (), ())) := by
    unfold rFollows rFollowsF
    simp only [cond_t, cond_f]
    refine Runs.iter (fun X : Int × List Int × List Int => 0 ≤ X.1 ∧ X.1 ≤ c.length ∧ (X.2.1.length : Int) = X.1 ∧ (∀ y ∈ X.2.1, lit N y) ∧ ∀ j : Int, 0 ≤ j → j < X.1 → -(getI c j) ∈ X.2.1) (fun X => ((c.length : Int) - X.1).toNat) ?_ ⟨by dsimp only; omega, by dsimp only; omega, rfl, by simp, fun j a b => by dsimp only at b; omega⟩ (fuelN_gt (by dsimp only; omega))
    rintro ⟨i, o, o2⟩ ⟨i0, i1, ol, hol, ho⟩
    dsimp only at i0 i1 ol hol ho ⊢
    refine Runs.dec (fun hi => ?_) (fun hi => ?_)
    · simp only [nI] at hi
      have hxl := hkl _ (getI_mem i0 hi)
      have hxb := hxl; unfold lit at hxb
      have e : 0 - getI c i = -getI c i := by omega
      refine Runs.gd i0 (Runs.gd (by simp only [nI]; omega) (Runs.inK ⟨by omega, by omega⟩ (Runs.gd (by simp only [lim, List.length_singleton]; omega) (Runs.gd (by simp only [lim, List.length_singleton]; omega) (Runs.inK ⟨by omega, by omega⟩ (Runs.ret ⟨⟨by dsimp only; omega, by dsimp only; omega, by dsimp only; rw [List.length_append, List.length_singleton]; omega, fun y hy => ?_, fun j a b => ?_⟩, by dsimp only; omega⟩))))))
      · dsimp only at hy
        rw [e, List.mem_append, List.mem_singleton] at hy
        rcases hy with hy | rfl
        · exact hol y hy
        · exact lit_neg hxl
      · dsimp only at b ⊢
        rw [e]
        by_cases ej : j = i
        · rw [ej]; simp
        · exact List.mem_append_left _ (ho j a (by omega))
    · simp only [nI] at hi
      obtain ⟨o3, b, e, hb⟩ := rUnit_ok hN0 hN hl hc (known := o) (by omega) hol
      have hbf : b = false := by
        cases hbb : b with
        | false => rfl
        | true =>
          exfalso
          obtain ⟨T, hT, hTk⟩ := hb hbb
          refine hno T hT fun x hx => ?_
          obtain ⟨j, j0, j1, rfl⟩ := mem_getI hx
          exact hTk _ (ho j j0 (by omega))
      obtain ⟨b1, e1, h1⟩ := rRight_ok (l := l) hN0 (by omega) (by omega) (fun d hd => ⟨by have := (hc d hd).1; omega, fun x hx => lit_fits ((hc d hd).2 x hx) (by omega)⟩)
      obtain ⟨b2, e2, h2⟩ := rRight_ok (l := [c]) hN0 (by omega) (by simp) (fun d hd => by
        rw [List.mem_singleton] at hd; rw [hd]; exact ⟨by omega, fun x hx => lit_fits (hkl x hx) (by omega)⟩)
      have b1t : b1 = true := h1.mpr fun d hd => (hc d hd).2
      have b2t : b2 = true := h2.mpr fun d hd => by rw [List.mem_singleton] at hd; rw [hd]; exact hkl
      refine Runs.bind e (Runs.bind e1 ?_)
      dsimp only
      rw [b1t, cond_t]
      refine Runs.bind e2 ?_
      dsimp only
      rw [b2t, cond_t, hbf]
      exact Runs.ret rfl
  obtain ⟨_, e, rfl⟩ := this
  exact e
theorem rRefutes_ok {N : Int} {l proof : List (List Int)} {assume : List Int} (hN0 : 0 ≤ N) (hN : N ≤ 1024) (hl : l.length + proof.length ≤ 4294967296) (hc : ∀ d ∈ l, d.length ≤ 4294967296 ∧ ∀ x ∈ d, lit N x) (hp : ∀ d ∈ proof, d.length ≤ 4294967296 ∧ ∀ x ∈ d, lit N x) (hk : assume.length ≤ 4294967296) (hkl : ∀ x ∈ assume, lit N x)
    (h1 : ∀ (k : Nat) (h : k < proof.length), ∀ T, CC (l ++ proof.take k) T → ¬ ∀ x ∈ proof[k], T (-x)) (h2 : ∀ T, CC (l ++ proof) T → ¬ ∀ x ∈ assume, T x) : rRefutes l N proof assume = some ((true, ()), (), ()) := by
  have : Runs (rRefutes l N proof assume) (fun r => r = ((true, ()), (), ())) := by
    unfold rRefutes rRefutesF
    simp only [cond_t, cond_f]
    refine Runs.gd (by simp only [lim]; omega) (Runs.gd (by simp only [lim]; omega) ?_)
    refine Runs.iter (fun X : Int × List (List Int) × List (List Int) => 0 ≤ X.1 ∧ X.1 ≤ proof.length ∧ X.2.1 = l ++ proof.take X.1.toNat) (fun X => ((proof.length : Int) - X.1).toNat) ?_ ⟨by dsimp only; omega, by dsimp only; omega, by simp⟩ (fuelN_gt (by dsimp only; omega))
    rintro ⟨i, o, o2⟩ ⟨i0, i1, ho⟩
    dsimp only at i0 i1 ho ⊢
    have hol : (o.length : Int) = l.length + i := by rw [ho, List.length_append, List.length_take]; omega
    have hoc : ∀ d ∈ o, d.length ≤ 4294967296 ∧ ∀ x ∈ d, lit N x := fun d hd => by
      rw [ho, List.mem_append] at hd
      rcases hd with hd | hd
      · exact hc d hd
      · exact hp d (List.mem_of_mem_take hd)
    refine Runs.dec (fun hi => ?_) (fun hi => ?_)
    · simp only [nI] at hi
      have hm := getL_mem i0 hi
      have e2 : getL proof i = proof[i.toNat]'(by omega) := by
        have := getL_nat proof i.toNat (by omega)
        rwa [Int.toNat_of_nonneg (by omega)] at this
      have ef := rFollows_ok hN0 hN (l := o) (by omega) hoc (c := getL proof i) (hp _ hm).1 (hp _ hm).2 (fun T hT => by
        rw [ho] at hT; rw [e2]; exact h1 i.toNat (by omega) T hT)
      refine Runs.gd i0 (Runs.gd (by simp only [nI]; omega) (Runs.bind ef ?_))
      dsimp only
      refine Runs.bool (fun h => by cases h) (fun _ => ?_)
      refine Runs.gd i0 (Runs.gd (by simp only [nI]; omega) (Runs.gd (by simp only [lim, List.length_singleton]; omega) (Runs.gd (by simp only [lim, List.length_singleton]; omega) (Runs.inK ⟨by omega, by omega⟩ (Runs.ret ⟨⟨by dsimp only; omega, by dsimp only; omega, ?_⟩, by dsimp only; omega⟩)))))
      dsimp only
      rw [ho, take_getL i0 hi, List.append_assoc]
    · simp only [nI] at hi
      have ei : i.toNat = proof.length := by omega
      rw [ei, List.take_length] at ho
      obtain ⟨o3, b, e, hb⟩ := rUnit_ok hN0 hN (l := o) (by omega) hoc hk hkl
      have hbf : b = false := by
        cases hbb : b with
        | false => rfl
        | true =>
          exfalso
          obtain ⟨T, hT, hTk⟩ := hb hbb
          rw [ho] at hT
          exact h2 T hT hTk
      obtain ⟨b1, e1, g1⟩ := rRight_ok (l := o) hN0 (by omega) (by omega) (fun d hd => ⟨by have := (hoc d hd).1; omega, fun x hx => lit_fits ((hoc d hd).2 x hx) (by omega)⟩)
      obtain ⟨b2, e2, g2⟩ := rRight_ok (l := [assume]) hN0 (by omega) (by simp) (fun d hd => by
        rw [List.mem_singleton] at hd; rw [hd]; exact ⟨by omega, fun x hx => lit_fits (hkl x hx) (by omega)⟩)
      have b1t : b1 = true := g1.mpr fun d hd => (hoc d hd).2
      have b2t : b2 = true := g2.mpr fun d hd => by rw [List.mem_singleton] at hd; rw [hd]; exact hkl
      refine Runs.bind e (Runs.bind e1 ?_)
      dsimp only
      rw [b1t, cond_t]
      refine Runs.bind e2 ?_
      dsimp only
      rw [b2t, cond_t, hbf]
      exact Runs.ret rfl
  obtain ⟨_, e, rfl⟩ := this
  exact e

abbrev XPf := Int × (Int × Int × Int × Bool × Int) × List (List Int) × List (List Int) × List Int × List Int × List Int × List Int × List Int × List Int × List Int × List Int × List (List Int) × List Int × List Bool
def pfX (i : Int) (s : Sol) : XPf := (i, (s.vars, s.cold, s.done, s.empty, s.answer), s.all, s.watch, s.is, s.depth, s.why, s.old, s.hot, s.warm, s.row, s.begin, s.proof, s.core, s.model)
/-- Unlike variables: no number twice, none with its opposite. -/
theorem ab_nodup {c : List Int} (h : (c.map ab).Nodup) (hz : ∀ x ∈ c, x ≠ 0) : c.Nodup ∧ ∀ x ∈ c, -x ∉ c := by
  rw [List.nodup_iff_pairwise_ne, List.pairwise_map] at h
  refine ⟨?_, fun x hx hn => ?_⟩
  · rw [List.nodup_iff_pairwise_ne]
    exact List.Pairwise.imp (fun {a b} hne e => hne (by rw [e])) h
  · obtain ⟨i, i0, i1, i2⟩ := mem_getI hx
    obtain ⟨j, j0, j1, j2⟩ := mem_getI hn
    rw [List.pairwise_iff_getElem] at h
    have gi := getI_nat c i.toNat (by omega)
    have gj := getI_nat c j.toNat (by omega)
    rw [Int.toNat_of_nonneg i0, i2] at gi
    rw [Int.toNat_of_nonneg j0, j2] at gj
    rcases Nat.lt_trichotomy i.toNat j.toNat with e | e | e
    · exact h i.toNat j.toNat (by omega) (by omega) e (by rw [← gi, ← gj, ab_neg])
    · have : i = j := by omega
      have := hz x hx
      rw [‹i = j›] at i2
      omega
    · exact h j.toNat i.toNat (by omega) (by omega) e (by rw [← gi, ← gj, ab_neg])
set_option maxHeartbeats 2000000 in
theorem satProof_pure (l asked : List (List Int)) (assume : List Int) : SatProof l asked assume = some ((true, ()), (), ()) := by
  suffices hs : Runs (SatProof l asked assume) (fun o => o = ((true, ()), (), ())) by
    obtain ⟨_, e, rfl⟩ := hs; exact e
  obtain ⟨c, ec, hc⟩ := rSmalls_ok l
  obtain ⟨more, em, hmo⟩ := rSmalls_ok asked
  obtain ⟨a, ea, ha⟩ := rCut_ok (l := assume) (k := 12) (by omega) (by omega)
  obtain ⟨x, ex, hxl, hx⟩ := rSmall_ok (c := a) (by omega)
  obtain ⟨t0, et, it, vt, pt, _, _, _⟩ := new_ok (n := 8) 8 (by decide)
  have hcl := hc.1
  unfold SatProof SatProofF
  refine Runs.bind head_ok (Runs.bind ec (Runs.bind ea (Runs.bind ex (Runs.bind em (Runs.bind et ?_)))))
  simp only [cond_t, cond_f]
  refine Runs.iter (fun X : XPf => ∃ (i : Int) (t : Sol), X = pfX i t ∧ 0 ≤ i ∧ i ≤ c.length ∧ Idle (c.take i.toNat) t ∧ t.vars = 8 ∧ t.proof.length ≤ 6561 * i) (fun X => ((c.length : Int) - X.1).toNat) ?_ ⟨0, t0, rfl, by omega, by omega, by simpa using it, vt, by rw [pt]; simp⟩ (fuelN_gt (by dsimp only; omega))
  rintro _ ⟨i, t, rfl, i0, i1, idt, tv, tp⟩
  have htl : (c.take i.toNat).length ≤ 40 := by rw [List.length_take]; omega
  dsimp only [pfX]
  refine Runs.dec (fun hi => ?_) (fun hi => ?_)
  · simp only [nI] at hi
    have hcm := hc.2 _ (getL_mem i0 hi)
    obtain ⟨t', e', ap⟩ := add_ok idt (c := getL c i) (by omega) (by omega) (by have := hcm.1; omega)
    have id' : Idle (c.take (i + 1).toNat) t' := by rw [take_getL i0 hi]; exact ap.idy (by rw [tv]; exact hcm.2)
    have hht := ap.ht; have hwm := ap.wm; have hpf := ap.pf
    have hva := ap.va
    refine Runs.gd i0 (Runs.gd (by simp only [nI]; omega) (Runs.bind e' ?_))
    dsimp only [Sol.addT]
    refine Runs.dec (fun h1 => ?_) (fun h1 => ?_)
    · have hta : (c.take (i + 1).toNat).length ≤ 40 := by rw [List.length_take]; omega
      have hmm := (hmo.2 _ (getL_mem i0 (by simpa only [nI] using h1))).1
      obtain ⟨r, t'', er, pr, _⟩ := ask8 id' (by rw [hva]; omega) (x := getL more i) 6561 (by omega) (by rw [hpf]; omega)
      rw [hht, hwm, hpf] at er
      refine Runs.gd i0 (Runs.gd (by omega) (Runs.bind rFuel_ok (Runs.bind er ?_)))
      have h2 := pr.pl.2
      exact Runs.inK ⟨by omega, by omega⟩ (Runs.ret ⟨⟨i + 1, t'', rfl, by omega, by omega, pr.id, by rw [pr.va, hva]; exact tv, by rw [hpf] at h2; omega⟩, by dsimp only [pfX]; omega⟩)
    · rw [← hht, ← hwm, ← hpf]
      exact Runs.inK ⟨by omega, by omega⟩ (Runs.ret ⟨⟨i + 1, t', rfl, by omega, by omega, id', by rw [hva]; exact tv, by rw [hpf]; omega⟩, by dsimp only [pfX]; omega⟩)
  · simp only [nI] at hi
    have e : i.toNat = c.length := by omega
    rw [e, List.take_length] at idt
    obtain ⟨r, s', er, p, q⟩ := ask8 idt (by omega) (x := x) 6561 (by omega) (by omega)
    have hxv : ∀ y ∈ x, lit t.vars y := by rw [tv]; exact hx
    have r3 : r ≠ 3 := fun h => by have := q h; omega
    have r0 := (p.truth hxv).1
    have hpl := p.pl.2
    have s6 := p.id.se.s6
    rw [p.va, tv] at s6
    have hplen : ∀ d ∈ s'.proof, d.length ≤ 8 := fun d hd => by
      have := lits_le (N := 8) (by omega) (s6 d hd).2.1 (ab_nodup (s6 d hd).2.2 (fun x hx => ((s6 d hd).2.1 x hx).1)).1 (ab_nodup (s6 d hd).2.2 (fun x hx => ((s6 d hd).2.1 x hx).1)).2
      omega
    have epr := Proof_ok (l := s'.proof) (a := s'.answer) (by omega) (fun d hd => by have := hplen d hd; omega)
    rw [p.an] at epr
    refine Runs.bind rFuel_ok (Runs.bind er ?_)
    dsimp only [Sol.tup]
    rw [p.an]
    refine Runs.neI (fun h2 => ?_) (fun h2 => ?_)
    · have h1 : r = 1 := by have := p.rr; omega
      refine Runs.eqI (fun _ => ?_) (fun h => absurd h1 h)
      rw [if_neg h2] at epr
      refine Runs.bind epr (Runs.ret ?_)
      rfl
    · rw [if_pos h2] at epr
      refine Runs.bind epr ?_
      dsimp only
      refine Runs.iter (fun k : Int => 0 ≤ k ∧ k ≤ s'.proof.length) (fun k => ((s'.proof.length : Int) - k).toNat) ?_ ⟨by omega, by omega⟩ (fuelN_gt (by omega))
      rintro k ⟨k0, k1⟩
      refine Runs.dec (fun hk => ?_) (fun hk => ?_)
      · simp only [nI] at hk
        have hm := getL_mem k0 hk
        have h6 := s6 _ hm
        have hab := ab_nodup h6.2.2 (fun x hx => (h6.2.1 x hx).1)
        obtain ⟨o, b, eo, ol, hb, hb2⟩ := rNorm_ok (N := 8) (c := getL s'.proof k) (by omega) h6.2.1 (by have := hplen _ hm; omega)
        have hbt := hb2 hab.2
        obtain ⟨mem, nd, _⟩ := hb hbt
        have hlen : o.length = (getL s'.proof k).length := ((List.perm_ext_iff_of_nodup nd hab.1).mpr mem).length_eq
        refine Runs.gd k0 (Runs.gd (by simp only [nI]; omega) (Runs.bind eo ?_))
        dsimp only
        rw [hbt]
        refine Runs.bool (fun h => by cases h) (fun _ => Runs.gd k0 (Runs.gd (by simp only [nI]; omega) ?_))
        refine Runs.neI (fun h => absurd (by simp only [nI]; omega) h) (fun _ => ?_)
        exact Runs.inK ⟨by omega, by omega⟩ (Runs.ret ⟨⟨by omega, by omega⟩, by dsimp only; omega⟩)
      · obtain ⟨out, eco, hno⟩ := p.c2 h2
        have hcol := dedup_len (out := out) x
        rw [← eco] at hcol
        refine Runs.bind (Core_ok (l := s'.core) (by omega)) ?_
        dsimp only
        have er2 := rRefutes_ok (N := 8) (l := c) (proof := s'.proof) (assume := s'.core) (by omega) (by omega) (by omega) (fun d hd => ⟨by have := (hc.2 d hd).1; omega, (hc.2 d hd).2⟩) (fun d hd => ⟨by have := hplen d hd; omega, (s6 d hd).2.1⟩) (by omega) (fun y hy => by
          rw [eco] at hy; exact hx y ((dedup_mem _ _).mp hy).1) (fun k h T hT => p.id.se.s5 k h T hT) (fun T hT hall => hno T hT fun a ha1 ha2 => hall a (by rw [eco]; exact (dedup_mem _ _).mpr ⟨ha1, ha2⟩))
        refine Runs.bind er2 (Runs.ret ?_)
        rfl
theorem satProof_pure_fit (x : (inTy [.sl ints, .sl ints, ints]).den) (h : inFit [.sl ints, .sl ints, ints] x) : SatProof x.1 x.2.1 x.2.2.1 = some ((true, ()), (), ()) := satProof_pure _ _ _
end GoSx
end
section
/- The row of SatProof: whatever the input, it returns true, and the input reads as it did. -/
namespace Go.Proofs.Ytkbcakjppajopaa
open Go GoSx Go.ChangeShapes Go.WideShapes Go.ChangeAt Go.RowKit

theorem Try.own : ownKnob Try.prog.godebug = none := by kernel_rfl
theorem Try.laidOut : laidOutB Try.prog = true := by kernel_rfl

theorem satProof_run (x : (inTy [.sl ints, .sl ints, ints]).den) (hx : inFit [.sl ints, .sl ints, ints] x) : ∃ o, ((SatProof_s.summ fun xa xo => GoSx.SatProof xa.1 xa.2.1 xa.2.2.1) (inAV [.sl ints, .sl ints, ints] x) 64).run (fun _ => .none) = some o ∧ o.obls = [] ∧ o.res = .dat .bool true := by
  have e : ((SatProof_s.summ fun xa xo => GoSx.SatProof xa.1 xa.2.1 xa.2.2.1) (inAV [.sl ints, .sl ints, ints] x) 64).run (fun _ => .none) =
      (match GoSx.SatProof x.1 x.2.1 x.2.2.1 with
        | some y => some ⟨[], .dat .bool y.1.1, []⟩
        | Option.none => Option.none) := by kernel_rfl
  rw [GoSx.satProof_pure_fit x hx] at e
  exact ⟨_, e, rfl, rfl⟩

theorem satProof_lifted (os : Os) (started : os.Started) (H : Type) (enc : TypeId × Value → H) :
    ReturnsInHanded {} Try.checked os 6 .any (Rows.satProofSpec.pre6 enc Try.prog Try.f6 Rows.satProofRow.domain false) (Rows.satProofSpec.post enc Try.prog Try.f6 false true false false) :=
  law_lifted (C := Try.checked) (Ts := [.sl ints, .sl ints, ints]) (tb := 4) Try.own started (by kernel_rfl) Try.func6
    (ChangeSpec.witness6 (enc := enc) (C := Try.checked) false ⟨#[], #[.slice none 0 0, .slice none 0 0, .slice none 0 0], []⟩ 8 (by kernel_rfl) (by kernel_rfl) (by kernel_rfl) (by kernel_rfl))
    Try.laidOut rfl (fun ds h => by match ds, h with | [a, b, c], _ => rfl) (by kernel_rfl) (by kernel_rfl) (by kernel_rfl) (summ_at T_SatSame_ok 6 (S := SatProof_s.summ fun xa xo => GoSx.SatProof xa.1 xa.2.1 xa.2.2.1) (by kernel_rfl)) satProof_run

theorem satProof_holds : Rows.SatProofSaid :=
  OpenClaim.holds_of_wide 6 Try.f6 rfl rfl rfl rfl rfl rfl rfl ⟨rfl, rfl, rfl, rfl, rfl⟩ rfl rfl rfl rfl rfl (by kernel_rfl) Try.func6 (by kernel_rfl)
    (of_decide_eq_true (by kernel_rfl)) (by unfold Func.isWrapper; first | (rw [if_pos (by decide +kernel)]; kernel_rfl) | (rw [if_neg (by decide +kernel)]; exact ⟨rfl, rfl⟩))
    (fun os started H enc _ => satProof_lifted os started H enc)
end Go.Proofs.Ytkbcakjppajopaa
end
