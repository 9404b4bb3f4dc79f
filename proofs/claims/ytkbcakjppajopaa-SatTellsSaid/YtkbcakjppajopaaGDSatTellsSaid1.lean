/- The texts LTells, RowSatTells, one behind the other. -/
import Derived.Test.YtkbcakjppajopaaGC2
import Derived.Test.YtkbcakjppajopaaRows
set_option linter.unusedVariables false
set_option linter.unusedSimpArgs false
section
/- The pure claim of SatTells. -/
set_option linter.unusedVariables false
set_option linter.unusedSimpArgs false
namespace GoSx
open Go
abbrev Act := Int × Int × List Int × Unit
theorem get_mem {l : List Act} {i : Int} (h0 : 0 ≤ i) (h1 : i < l.length) : get actT l i ∈ l := by
  have : i.toNat < l.length := by omega
  show l.getD i.toNat _ ∈ l
  rw [List.getD_eq_getElem?_getD, List.getElem?_eq_getElem this]
  exact List.getElem_mem this
theorem great_ok {l : List Act} (hl : l.length ≤ lim) : ∃ b, great l = some ((b, ()), (), ()) ∧ (b = false → l.length ≤ 24 ∧ ∀ a ∈ l, a.2.2.1.length ≤ 12) := by
  have : Runs (great l) (fun o => ∃ b, o = ((b, ()), (), ()) ∧ (b = false → l.length ≤ 24 ∧ ∀ a ∈ l, a.2.2.1.length ≤ 12)) := by
    unfold great greatF
    refine Runs.dec (fun h => Runs.ret ⟨true, rfl, fun h => by cases h⟩) (fun h => ?_)
    simp only [nI] at h
    refine Runs.iter (fun i : Int => 0 ≤ i ∧ i ≤ l.length ∧ ∀ j : Int, 0 ≤ j → j < i → (get actT l j).2.2.1.length ≤ 12) (fun i => ((l.length : Int) - i).toNat) ?_ ⟨by omega, by omega, fun j a b => by omega⟩ (fuelN_gt (by omega))
    rintro i ⟨i0, i1, hi⟩
    refine Runs.dec (fun hil => ?_) (fun hil => ?_)
    · simp only [nI] at hil
      refine Runs.gd i0 (Runs.gd (by simp only [nI]; omega) (Runs.dec (fun h12 => Runs.ret ⟨true, rfl, fun h => by cases h⟩) (fun h12 => ?_)))
      simp only [nI] at h12
      refine Runs.inK ⟨by omega, by omega⟩ (Runs.ret ⟨⟨by omega, by omega, fun j a b => ?_⟩, by dsimp only; omega⟩)
      by_cases e : j = i
      · rw [e]; omega
      · exact hi j a (by omega)
    · simp only [nI] at hil
      refine Runs.ret ⟨false, rfl, fun _ => ⟨by omega, fun a ha => ?_⟩⟩
      obtain ⟨n, hn, e⟩ := List.getElem_of_mem ha
      have := hi n (by omega) (by omega)
      have e2 : get actT l (n : Int) = a := by
        show l.getD (n : Int).toNat _ = a
        rw [List.getD_eq_getElem?_getD, show (n : Int).toNat = n by omega, List.getElem?_eq_getElem hn]
        exact e
      rw [e2] at this
      exact this
  obtain ⟨_, e, b, rfl, h⟩ := this
  exact ⟨b, e, h⟩

theorem rOwn_ok {c : List Int} {N : Int} (hN0 : 0 ≤ N) (hN : N ≤ 1048576) (hl : c.length ≤ 4398046511104) (hf : ∀ x ∈ c, fits x) : ∃ b, rOwn c N = some ((b, ()), ((N, ()), ()), ()) ∧ (b = true ↔ ∀ x ∈ c, lit N x) := by
  obtain ⟨b, e, h⟩ := rRight_ok (l := [c]) hN0 hN (by simp) (fun d hd => by rw [List.mem_singleton] at hd; rw [hd]; exact ⟨hl, hf⟩)
  unfold rOwn
  rw [e, bindO_some]
  exact ⟨b, rfl, by rw [h]; simp⟩
theorem rAdd_ok {c : List Int} {N : Int} {L : List (List Int)} (hN0 : 0 ≤ N) (hN : N ≤ 1048576) (hl : c.length ≤ 4398046511104) (hf : ∀ x ∈ c, fits x) (hL : L.length ≤ 4294967296) : ∃ L', rAdd c N L = some ((), ((N, L', ()), ()), ()) ∧ ((∀ x ∈ c, lit N x) → L' = L ++ [c]) ∧ ((¬ ∀ x ∈ c, lit N x) → L' = L) := by
  obtain ⟨b, e, h⟩ := rOwn_ok hN0 hN hl hf
  unfold rAdd
  rw [e, bindO_some]
  dsimp only
  cases b with
  | true =>
    have hall := h.mp rfl
    rw [cond_t, gd_pos (by simp only [lim]; omega), gd_pos (by simp only [lim]; omega), gd_pos (by simp only [lim, List.length_singleton, List.nil_append]; omega), gd_pos (by simp only [lim, List.length_singleton, List.nil_append]; omega)]
    exact ⟨_, rfl, fun _ => by rw [List.nil_append], fun hn => absurd hall hn⟩
  | false =>
    rw [cond_f]
    exact ⟨_, rfl, fun hall => (by have := h.mpr hall; cases this), fun _ => rfl⟩
theorem rAsk_ok {x : List Int} {N : Int} {L : List (List Int)} (hN0 : 0 ≤ N) (hN : N ≤ 8) (hx : x.length ≤ 4294967296) (hf : ∀ y ∈ x, fits y) (hL : L.length ≤ 4294967296) (hc : ∀ c ∈ L, c.length ≤ 4294967296 ∧ ∀ y ∈ c, lit N y) :
    ∃ r, rAsk x N L = some ((r, ()), ((N, L, ()), ()), ()) ∧ ((¬ ∀ y ∈ x, lit N y) → r = 0) ∧ ((∀ y ∈ x, lit N y) → (r = 1 ∧ Can N L x) ∨ (r = 2 ∧ ¬ Can N L x)) := by
  obtain ⟨b, e, h⟩ := rOwn_ok (N := N) (c := x) hN0 (by omega) (by omega) hf
  unfold rAsk
  rw [e, bindO_some]
  dsimp only
  cases b with
  | false =>
    rw [Bool.not_false, cond_t]
    exact ⟨0, rfl, fun _ => rfl, fun hall => by have := h.mpr hall; cases this⟩
  | true =>
    have hall := h.mp rfl
    obtain ⟨b2, e2, h2⟩ := rCan_ok (N := N) (l := L) (assume := x) hN0 hN hL hc hx hall
    rw [Bool.not_true, cond_f, e2, bindO_some]
    dsimp only
    cases b2 with
    | true => exact ⟨1, rfl, fun hn => absurd hall hn, fun _ => .inl ⟨rfl, h2.mp rfl⟩⟩
    | false => exact ⟨2, rfl, fun hn => absurd hall hn, fun _ => .inr ⟨rfl, fun hc => by have := h2.mpr hc; cases this⟩⟩
theorem rGrow_ok (n N : Int) : rGrow n N = some ((), ((if N < n ∧ n ≤ 1048576 then n else N, ()), ()), ()) := by
  unfold rGrow
  rw [cond_dec, cond_t, cond_dec]
  by_cases h1 : n > N
  · rw [if_pos h1]
    by_cases h2 : n ≤ 1048576
    · rw [if_pos h2, if_pos ⟨by omega, h2⟩]
    · rw [if_neg h2, if_neg (by omega)]
  · rw [if_neg h1, if_neg (by omega)]

theorem do_no {d : Int} (h0 : d ≠ 0) (h1 : d ≠ 1) (h2 : d ≠ 2) (a : d ≥ 0) (b : d ≤ 2) : False := by omega
abbrev XTell := Int × (Int × Int × Int × Bool × Int) × List (List Int) × List (List Int) × List Int × List Int × List Int × List Int × List Int × List Int × List Int × List Int × List (List Int) × List Int × List Bool × Int × List (List Int)
def tellX (i : Int) (s : Sol) (L : List (List Int)) : XTell := (i, (s.vars, s.cold, s.done, s.empty, s.answer), s.all, s.watch, s.is, s.depth, s.why, s.old, s.hot, s.warm, s.row, s.begin, s.proof, s.core, s.model, s.vars, L)
/-- What stands between acts. -/
structure TellI (l : List Act) (i : Int) (s : Sol) (L : List (List Int)) : Prop where
  i0 : 0 ≤ i
  i1 : i ≤ l.length
  id : Idle L s
  v8 : s.vars ≤ 8
  pl : s.proof.length ≤ 6561 * i
  Ll : L.length ≤ i
  Lc : ∀ c ∈ L, c.length ≤ 12
  ml : s.model.length ≤ 8
  cl : s.core.length ≤ 12
set_option maxHeartbeats 8000000 in
theorem satTells_pure (first : Int) (l : List Act) (hf : l.length ≤ lim) (hfit : ∀ a ∈ l, ∀ x ∈ a.2.2.1, fits x) : SatTells first l = some ((true, ()), (), ()) := by
  suffices hs : Runs (SatTells first l) (fun o => o = ((true, ()), (), ())) by
    obtain ⟨_, e, rfl⟩ := hs; exact e
  obtain ⟨b, eg, hb⟩ := great_ok hf
  unfold SatTells SatTellsF
  refine Runs.bind head_ok (Runs.bind eg ?_)
  simp only [cond_t, cond_f]
  refine Runs.bool (fun _ => Runs.ret rfl) (fun hbf => ?_)
  obtain ⟨hl24, hl12⟩ := hb hbf
  refine Runs.dec (fun _ => Runs.ret rfl) (fun hfirst => ?_)
  have hN : ∃ N, N = min2 (max2 first 0) 1048576 ∧ 0 ≤ N ∧ N ≤ 8 ∧ rNew first = some ((), (), (N, [], ()), ()) := by
    refine ⟨if first < 0 then 0 else first, ?_, ?_, ?_, ?_⟩
    · have e : max2 first 0 = if first < 0 then 0 else first := by unfold max2; rfl
      rw [e]; unfold min2
      by_cases h0 : first < 0
      · rw [if_pos h0, if_neg (by omega)]
      · rw [if_neg h0, if_neg (by omega)]
    · split <;> omega
    · split <;> omega
    · unfold rNew
      rw [cond_dec, cond_dec]
      by_cases h0 : first < 0
      · rw [if_pos h0, if_pos h0]
      · rw [if_neg h0, if_neg h0, if_neg (by omega)]
  obtain ⟨N, eN, N0, N8, eR⟩ := hN
  obtain ⟨t0, et, it, vt, pt, at0, ct0, mt0⟩ := new_ok (n := first) N eN
  subst vt
  refine Runs.bind et (Runs.bind eR ?_)
  refine Runs.iter (fun X : XTell => ∃ (i : Int) (s : Sol) (L : List (List Int)), X = tellX i s L ∧ TellI l i s L) (fun X => ((l.length : Int) - X.1).toNat) ?_ ⟨0, t0, [], rfl, ⟨by omega, by omega, it, by omega, by rw [pt]; simp, by simp, by simp, by rw [mt0]; simp, by rw [ct0]; simp⟩⟩ (fuelN_gt (by dsimp only; omega))
  rintro _ ⟨i, s, L, rfl, ti⟩
  have i0 := ti.i0; have i1 := ti.i1; have v8 := ti.v8; have pl := ti.pl; have Ll := ti.Ll; have ml := ti.ml; have cl := ti.cl
  have v0 := ti.id.tr.n0
  dsimp only [tellX]
  refine Runs.dec (fun hi => ?_) (fun hi => Runs.ret rfl)
  simp only [nI] at hi
  have hin := get_mem i0 hi
  have hc12 := hl12 _ hin
  have hcf := hfit _ hin
  obtain ⟨c, ec⟩ : ∃ c : List Int, c = (get actT l i).2.2.1 := ⟨_, rfl⟩
  obtain ⟨n, en⟩ : ∃ n : Int, n = (get actT l i).2.1 := ⟨_, rfl⟩
  rw [← ec] at hc12 hcf
  have plen : ∀ {G : List (List Int)} {t : Sol}, Idle G t → t.vars ≤ 8 → ∀ d ∈ t.proof, d.length ≤ 8 := by
    intro G t idt hv d hd
    have h6 := idt.se.s6 d hd
    have := nodup_le 8 ((d.map ab).map fun x => x - 1) (by
      rw [List.nodup_iff_pairwise_ne, List.pairwise_map]
      exact List.Pairwise.imp (fun {a b} (hne : a ≠ b) => by omega) h6.2.2) (by
      intro x hx
      obtain ⟨y, hy, rfl⟩ := List.mem_map.mp hx
      obtain ⟨z, hz, rfl⟩ := List.mem_map.mp hy
      have := lit_ab (h6.2.1 z hz)
      omega)
    rw [List.length_map, List.length_map] at this
    exact this
  have next : ∀ (t : Sol) (L' : List (List Int)), TellI l (i + 1) t L' → ∀ Q : ((Bool × Unit) × Unit × Unit) → Prop, Runs (gd (inK IntKind.i64 (i + 1)) (some (Sum.inl (tellX (i + 1) t L'))) : Option (XTell ⊕ ((Bool × Unit) × Unit × Unit))) (Stp (fun X : XTell => ∃ (i : Int) (s : Sol) (L : List (List Int)), X = tellX i s L ∧ TellI l i s L) Q (fun X => ((l.length : Int) - X.1).toNat) (tellX i s L)) := by
    intro t L' h Q
    exact Runs.inK ⟨by omega, by omega⟩ (Runs.ret ⟨⟨i + 1, t, L', rfl, h⟩, by dsimp only [tellX]; omega⟩)
  refine Runs.gd i0 (Runs.gd (by simp only [nI]; omega) ?_)
  refine Runs.eqI (fun hd0 => ?_) (fun hd0 => ?_)
  · -- Add
    obtain ⟨t, ea, ap⟩ := add_ok ti.id (c := c) (by omega) (by omega) (by omega)
    obtain ⟨L', el, hL1, hL2⟩ := rAdd_ok (c := c) (L := L) v0 (by omega) (by omega) hcf (by omega)
    have hht := ap.ht; have hwm := ap.wm; have hpf := ap.pf; have hva := ap.va
    have tn : TellI l (i + 1) t L' := by
      have idt : Idle L' t := by
        by_cases hown : ∀ x ∈ c, lit s.vars x
        · rw [hL1 hown]; exact ap.idy hown
        · rw [hL2 hown]; exact ap.idn hown
      have hLl : L'.length ≤ L.length + 1 ∧ ∀ d ∈ L', d.length ≤ 12 := by
        by_cases hown : ∀ x ∈ c, lit s.vars x
        · rw [hL1 hown]
          refine ⟨by rw [List.length_append, List.length_singleton]; omega, fun d hd => ?_⟩
          rw [List.mem_append, List.mem_singleton] at hd
          rcases hd with hd | rfl
          · exact ti.Lc d hd
          · exact hc12
        · rw [hL2 hown]; exact ⟨by omega, ti.Lc⟩
      exact ⟨by omega, by omega, idt, by rw [hva]; exact v8, by rw [hpf]; omega, by omega, hLl.2, by rw [ap.mo]; simp, by rw [ap.co]; simp⟩
    have nx := next t L' tn
    have hpl2 := plen tn.id tn.v8
    rw [ec] at ea el
    refine Runs.bind ea (Runs.bind el ?_)
    dsimp only [Sol.addT]
    refine Runs.bind (Model_ok (by rw [ap.mo]; simp)) (Runs.bind (Core_ok (by rw [ap.co]; simp)) ?_)
    dsimp only
    rw [ap.mo, ap.co, ap.an]
    refine Runs.inK ⟨by simp, by simp⟩ (Runs.bind (Proof_ok (by omega) (fun d hd => by rw [← hpf] at hd; have := hpl2 d hd; omega)) (Runs.inK ⟨by simp, by simp⟩ ?_))
    refine Runs.dec (fun h => by simp at h) (fun _ => ?_)
    have := nx
    unfold tellX at this
    rw [ap.mo, ap.co, ap.an, hht, hwm, hpf, hva] at this
    rw [hva]
    exact this _
  refine Runs.eqI (fun hd1 => ?_) (fun hd1 => ?_)
  · -- Ask
    obtain ⟨r, t, er, p, q⟩ := ask8 ti.id v8 (x := c) 6561 (by omega) (by omega)
    obtain ⟨r2, er2, g1, g2⟩ := rAsk_ok (x := c) (L := L) v0 v8 (by omega) hcf (by omega) (fun d hd => ⟨by have := ti.Lc d hd; omega, ti.id.gl d hd⟩)
    have r3 : r ≠ 3 := fun h => by have := q h; omega
    have hrr := p.rr
    have hr : r = r2 := by
      by_cases hown : ∀ x ∈ c, lit s.vars x
      · obtain ⟨t0, t1, t2⟩ := p.truth hown
        rcases g2 hown with ⟨e, hc⟩ | ⟨e, hc⟩
        · have : r ≠ 2 := fun h => t2 h hc
          omega
        · have : r ≠ 1 := fun h => hc (t1 h)
          omega
      · rw [g1 hown]; exact p.ow.mpr hown
    have hpl := p.pl.2
    have hm1 : r = 1 → (t.model.length : Int) = s.vars := fun h => (p.m1 h).1
    have hm0 : r ≠ 1 → t.model.length = 0 := fun h => by rw [p.m0 h]; rfl
    have hc0 : r ≠ 2 → t.core.length = 0 := fun h => by rw [p.c0 h]; rfl
    have hc2 : t.core.length ≤ 12 := by
      by_cases h2 : r = 2
      · obtain ⟨out, e, _⟩ := p.c2 h2
        have := dedup_len (out := out) c
        rw [← e] at this; omega
      · have := hc0 h2; omega
    have tn : TellI l (i + 1) t L := ⟨by omega, by omega, p.id, by rw [p.va]; exact v8, by omega, by omega, ti.Lc, by
      by_cases h1 : r = 1
      · have := hm1 h1; omega
      · have := hm0 h1; omega, hc2⟩
    have nx := next t L tn
    have hpl2 := plen tn.id tn.v8
    have em := Model_ok (l := t.model) (by have := tn.ml; omega)
    have eco := Core_ok (l := t.core) (by omega)
    have epr := Proof_ok (l := t.proof) (a := t.answer) (by omega) (fun d hd => by have := hpl2 d hd; omega)
    rw [p.an] at epr
    unfold tellX at nx
    rw [p.an, p.va] at nx
    rw [ec] at er er2
    refine Runs.bind rFuel_ok (Runs.bind er (Runs.bind er2 ?_))
    dsimp only [Sol.tup]
    rw [p.an, p.va]
    refine Runs.neI (fun h => absurd hr h) (fun _ => Runs.bind em ?_)
    dsimp only
    have last : ∀ Q : ((Bool × Unit) × Unit × Unit) → Prop, Runs (bif r != 2 then bindO (Core t.core) fun y10 => bindO (Proof t.proof r) fun y11 => gd (inK IntKind.i64 (nI y10.1.1.length + nI y11.1.1.length)) <| bif decide (nI y10.1.1.length + nI y11.1.1.length > 0) then some (Sum.inr ((false, ()), (), ())) else gd (inK IntKind.i64 (i + 1)) <| some (Sum.inl (i + 1, (s.vars, t.cold, t.done, t.empty, y11.2.1.1.2.1), t.all, t.watch, t.is, t.depth, t.why, t.old, t.hot, t.warm, t.row, t.begin, y11.2.1.1.1, t.core, t.model, s.vars, L))
        else gd (inK IntKind.i64 (i + 1)) <| some (Sum.inl (i + 1, (s.vars, t.cold, t.done, t.empty, r), t.all, t.watch, t.is, t.depth, t.why, t.old, t.hot, t.warm, t.row, t.begin, t.proof, t.core, t.model, s.vars, L)) : Option (XTell ⊕ ((Bool × Unit) × Unit × Unit))) (Stp (fun X : XTell => ∃ (i : Int) (s : Sol) (L : List (List Int)), X = tellX i s L ∧ TellI l i s L) Q (fun X => ((l.length : Int) - X.1).toNat) (tellX i s L)) := by
      intro Q
      refine Runs.neI (fun h2 => ?_) (fun h2 => nx Q)
      have := hc0 h2
      rw [if_neg h2] at epr
      refine Runs.bind eco (Runs.bind epr ?_)
      dsimp only
      refine Runs.inK ⟨by simp only [nI, List.length_nil]; omega, by simp only [nI, List.length_nil]; omega⟩ (Runs.dec (fun h => ?_) (fun _ => nx Q))
      simp only [nI, List.length_nil] at h; omega
    have mtail : ∀ Q : ((Bool × Unit) × Unit × Unit) → Prop, Runs (bif r != 1 then bindO (Model t.model) fun y9 => bif decide (nI y9.1.1.length > 0) then some (Sum.inr ((false, ()), (), ())) else
          bif r != 2 then bindO (Core t.core) fun y10 => bindO (Proof t.proof r) fun y11 => gd (inK IntKind.i64 (nI y10.1.1.length + nI y11.1.1.length)) <| bif decide (nI y10.1.1.length + nI y11.1.1.length > 0) then some (Sum.inr ((false, ()), (), ())) else gd (inK IntKind.i64 (i + 1)) <| some (Sum.inl (i + 1, (s.vars, t.cold, t.done, t.empty, y11.2.1.1.2.1), t.all, t.watch, t.is, t.depth, t.why, t.old, t.hot, t.warm, t.row, t.begin, y11.2.1.1.1, t.core, t.model, s.vars, L))
          else gd (inK IntKind.i64 (i + 1)) <| some (Sum.inl (i + 1, (s.vars, t.cold, t.done, t.empty, r), t.all, t.watch, t.is, t.depth, t.why, t.old, t.hot, t.warm, t.row, t.begin, t.proof, t.core, t.model, s.vars, L))
        else bif r != 2 then bindO (Core t.core) fun y10 => bindO (Proof t.proof r) fun y11 => gd (inK IntKind.i64 (nI y10.1.1.length + nI y11.1.1.length)) <| bif decide (nI y10.1.1.length + nI y11.1.1.length > 0) then some (Sum.inr ((false, ()), (), ())) else gd (inK IntKind.i64 (i + 1)) <| some (Sum.inl (i + 1, (s.vars, t.cold, t.done, t.empty, y11.2.1.1.2.1), t.all, t.watch, t.is, t.depth, t.why, t.old, t.hot, t.warm, t.row, t.begin, y11.2.1.1.1, t.core, t.model, s.vars, L))
        else gd (inK IntKind.i64 (i + 1)) <| some (Sum.inl (i + 1, (s.vars, t.cold, t.done, t.empty, r), t.all, t.watch, t.is, t.depth, t.why, t.old, t.hot, t.warm, t.row, t.begin, t.proof, t.core, t.model, s.vars, L)) : Option (XTell ⊕ ((Bool × Unit) × Unit × Unit))) (Stp (fun X : XTell => ∃ (i : Int) (s : Sol) (L : List (List Int)), X = tellX i s L ∧ TellI l i s L) Q (fun X => ((l.length : Int) - X.1).toNat) (tellX i s L)) := by
      intro Q
      refine Runs.neI (fun h1 => ?_) (fun h1 => last Q)
      have := hm0 h1
      refine Runs.bind em ?_
      dsimp only
      refine Runs.dec (fun h => by simp only [nI] at h; omega) (fun _ => last Q)
    refine Runs.eqI (fun hm => ?_) (fun hm => ?_)
    · refine Runs.bool (fun hb1 => Runs.dec (fun hv => ?_) (fun _ => mtail _)) (fun _ => mtail _)
      exfalso
      simp only [nI] at hm
      have h1 : r = 1 := Classical.byContradiction fun h => by have := hm0 h; omega
      rw [h1, decide_eq_true hv] at hb1
      exact absurd hb1 (by decide)
    · refine Runs.bool (fun hb1 => Runs.dec (fun hv => ?_) (fun _ => mtail _)) (fun _ => mtail _)
      exfalso
      simp only [nI] at hm
      have h1 : r ≠ 1 := fun h => hm (hm1 h)
      rw [beq_eq_false_iff_ne.mpr h1] at hb1
      exact absurd hb1 (by decide)
  refine Runs.eqI (fun hd2 => ?_) (fun hd2 => ?_)
  · -- Grow
    have go : (n ≤ 8 ∨ 1048576 < n) → ∃ t, Grow n s.vars s.watch s.is s.depth s.why s.old s.hot s.answer s.core s.model = some ((), (Sol.growT t, ()), ()) ∧ rGrow n s.vars = some ((), ((t.vars, ()), ()), ()) ∧ TellI l (i + 1) t L ∧ tellX (i + 1) t L = (i + 1, (t.vars, s.cold, s.done, s.empty, 0), s.all, t.watch, t.is, t.depth, t.why, t.old, t.hot, s.warm, s.row, s.begin, s.proof, [], [], t.vars, L) ∧ t.answer = 0 ∧ t.core = [] ∧ t.model = [] := by
      intro hn
      obtain ⟨t, eg2, idt, tv, e1, e2, e3, e4, e5, e6, e7, e8, e9, e10, e11⟩ := Grow_ok ti.id n
      refine ⟨t, eg2, by rw [rGrow_ok, tv], ⟨by omega, by omega, idt, ?_, by rw [e8]; omega, by omega, ti.Lc, by rw [e11]; simp, by rw [e10]; simp⟩, ?_, e9, e10, e11⟩
      · rw [tv]; split <;> omega
      · unfold tellX
        rw [e1, e2, e3, e4, e5, e6, e7, e8, e9, e10, e11]
    have hpl2 := plen ti.id v8
    have fin : (n ≤ 8 ∨ 1048576 < n) → ∀ Q : ((Bool × Unit) × Unit × Unit) → Prop, Runs (bindO (Grow n s.vars s.watch s.is s.depth s.why s.old s.hot s.answer s.core s.model) fun y5 => bindO (rGrow n s.vars) fun y6 => bindO (Model y5.2.1.1.2.2.2.2.2.2.2.2.2.1) fun y7 => bindO (Core y5.2.1.1.2.2.2.2.2.2.2.2.1) fun y8 =>
        gd (inK IntKind.i64 (nI y7.1.1.length + nI y8.1.1.length)) <| bindO (Proof s.proof y5.2.1.1.2.2.2.2.2.2.2.1) fun y9 => gd (inK IntKind.i64 (nI y7.1.1.length + nI y8.1.1.length + nI y9.1.1.length)) <|
        bif decide (nI y7.1.1.length + nI y8.1.1.length + nI y9.1.1.length > 0) then
          bif decide ((get actT l i).1 ≥ 0) then bif decide ((get actT l i).1 ≤ 2) then some (Sum.inr ((false, ()), (), ())) else gd (inK IntKind.i64 (i + 1)) <| some (Sum.inl (i + 1, (y5.2.1.1.1, s.cold, s.done, s.empty, y9.2.1.1.2.1), s.all, y5.2.1.1.2.1, y5.2.1.1.2.2.1, y5.2.1.1.2.2.2.1, y5.2.1.1.2.2.2.2.1, y5.2.1.1.2.2.2.2.2.1, y5.2.1.1.2.2.2.2.2.2.1, s.warm, s.row, s.begin, y9.2.1.1.1, y5.2.1.1.2.2.2.2.2.2.2.2.1, y5.2.1.1.2.2.2.2.2.2.2.2.2.1, y6.2.1.1.1, L))
          else gd (inK IntKind.i64 (i + 1)) <| some (Sum.inl (i + 1, (y5.2.1.1.1, s.cold, s.done, s.empty, y9.2.1.1.2.1), s.all, y5.2.1.1.2.1, y5.2.1.1.2.2.1, y5.2.1.1.2.2.2.1, y5.2.1.1.2.2.2.2.1, y5.2.1.1.2.2.2.2.2.1, y5.2.1.1.2.2.2.2.2.2.1, s.warm, s.row, s.begin, y9.2.1.1.1, y5.2.1.1.2.2.2.2.2.2.2.2.1, y5.2.1.1.2.2.2.2.2.2.2.2.2.1, y6.2.1.1.1, L))
        else gd (inK IntKind.i64 (i + 1)) <| some (Sum.inl (i + 1, (y5.2.1.1.1, s.cold, s.done, s.empty, y9.2.1.1.2.1), s.all, y5.2.1.1.2.1, y5.2.1.1.2.2.1, y5.2.1.1.2.2.2.1, y5.2.1.1.2.2.2.2.1, y5.2.1.1.2.2.2.2.2.1, y5.2.1.1.2.2.2.2.2.2.1, s.warm, s.row, s.begin, y9.2.1.1.1, y5.2.1.1.2.2.2.2.2.2.2.2.1, y5.2.1.1.2.2.2.2.2.2.2.2.2.1, y6.2.1.1.1, L)) : Option (XTell ⊕ ((Bool × Unit) × Unit × Unit))) (Stp (fun X : XTell => ∃ (i : Int) (s : Sol) (L : List (List Int)), X = tellX i s L ∧ TellI l i s L) Q (fun X => ((l.length : Int) - X.1).toNat) (tellX i s L)) := by
      intro hn Q
      obtain ⟨t, eg2, eg3, tn, et2, e9, e10, e11⟩ := go hn
      have nx := next t L tn
      rw [et2] at nx
      refine Runs.bind eg2 (Runs.bind eg3 ?_)
      dsimp only [Sol.growT]
      rw [e9, e10, e11]
      refine Runs.bind (Model_ok (by simp)) (Runs.bind (Core_ok (by simp)) (Runs.inK ⟨by simp, by simp⟩ (Runs.bind (Proof_ok (by omega) (fun d hd => by have := hpl2 d hd; omega)) (Runs.inK ⟨by simp, by simp⟩ ?_))))
      refine Runs.dec (fun h => by simp at h) (fun _ => nx Q)
    rw [en] at fin
    refine Runs.dec (fun h1 => Runs.dec (fun h2 => Runs.ret rfl) (fun h2 => fin (.inr (Int.not_le.mp h2)) _)) (fun h1 => fin (.inl (Int.not_lt.mp h1)) _)
  · -- nothing
    have tn : TellI l (i + 1) s L := ⟨by omega, by omega, ti.id, v8, by omega, by omega, ti.Lc, ml, cl⟩
    have nx := next s L tn
    have hpl2 := plen ti.id v8
    have hps : ((if s.answer = 2 then s.proof else []).length : Int) ≤ 6561 * 24 := by
      split
      · omega
      · simp
    refine Runs.bind (Model_ok (by omega)) (Runs.bind (Core_ok (by omega)) (Runs.inK ⟨by simp only [nI]; omega, by simp only [nI]; omega⟩ (Runs.bind (Proof_ok (by omega) (fun d hd => by have := hpl2 d hd; omega)) (Runs.inK ⟨by simp only [nI]; omega, by simp only [nI]; omega⟩ ?_))))
    refine Runs.dec (fun h => ?_) (fun _ => nx _)
    refine Runs.dec (fun h1 => ?_) (fun _ => nx _)
    refine Runs.dec (fun h2 => ?_) (fun _ => nx _)
    exact (do_no hd0 hd1 hd2 h1 h2).elim
theorem satTells_pure_fit (x : (inTy [int, .sl actT]).den) (h : inFit [int, .sl actT] x) : SatTells x.1 x.2.1 = some ((true, ()), (), ()) := by
  obtain ⟨_, ⟨h2, h3⟩, _⟩ := h
  refine satTells_pure _ _ h2 fun a ha y hy => ?_
  obtain ⟨_, _, ⟨_, h4⟩, _⟩ := h3 a ha
  exact h4 y hy
end GoSx
end
section
/- The row of SatTells: whatever the input, it returns true, and the input reads as it did. -/
namespace Go.Proofs.Ytkbcakjppajopaa
open Go GoSx Go.ChangeShapes Go.WideShapes Go.ChangeAt Go.RowKit

theorem Try.own : ownKnob Try.prog.godebug = none := by kernel_rfl
theorem Try.laidOut : laidOutB Try.prog = true := by kernel_rfl

theorem satTells_run (x : (inTy [int, .sl actT]).den) (hx : inFit [int, .sl actT] x) : ∃ o, ((SatTells_s.summ fun xa xo => GoSx.SatTells xa.1 xa.2.1) (inAV [int, .sl actT] x) 64).run (fun _ => .none) = some o ∧ o.obls = [] ∧ o.res = .dat .bool true := by
  have e : ((SatTells_s.summ fun xa xo => GoSx.SatTells xa.1 xa.2.1) (inAV [int, .sl actT] x) 64).run (fun _ => .none) =
      (match GoSx.SatTells x.1 x.2.1 with
        | some y => some ⟨[], .dat .bool y.1.1, []⟩
        | Option.none => Option.none) := by kernel_rfl
  rw [GoSx.satTells_pure_fit x hx] at e
  exact ⟨_, e, rfl, rfl⟩

theorem satTells_lifted (os : Os) (started : os.Started) (H : Type) (enc : TypeId × Value → H) :
    ReturnsInHanded {} Try.checked os 3 .any (Rows.satTellsSpec.pre6 enc Try.prog Try.f3 Rows.satTellsRow.domain false) (Rows.satTellsSpec.post enc Try.prog Try.f3 false true false false) :=
  law_lifted (C := Try.checked) (Ts := [int, .sl actT]) (tb := 4) Try.own started (by kernel_rfl) Try.func3
    (ChangeSpec.witness6 (enc := enc) (C := Try.checked) false ⟨#[], #[.int .i64 0, .slice none 0 0], []⟩ 8 (by kernel_rfl) (by kernel_rfl) (by kernel_rfl) (by kernel_rfl))
    Try.laidOut rfl (fun ds h => by match ds, h with | [a, b], _ => rfl) (by kernel_rfl) (by kernel_rfl) (by kernel_rfl) (summ_at T_SatSame_ok 3 (S := SatTells_s.summ fun xa xo => GoSx.SatTells xa.1 xa.2.1) (by kernel_rfl)) satTells_run

theorem satTells_holds : Rows.SatTellsSaid :=
  OpenClaim.holds_of_wide 3 Try.f3 rfl rfl rfl rfl rfl rfl rfl ⟨rfl, rfl, rfl, rfl, rfl⟩ rfl rfl rfl rfl rfl (by kernel_rfl) Try.func3 (by kernel_rfl)
    (of_decide_eq_true (by kernel_rfl)) (by unfold Func.isWrapper; first | (rw [if_pos (by decide +kernel)]; kernel_rfl) | (rw [if_neg (by decide +kernel)]; exact ⟨rfl, rfl⟩))
    (fun os started H enc _ => satTells_lifted os started H enc)
end Go.Proofs.Ytkbcakjppajopaa
end
