/- The texts SxH, SxE, SxF, SxI, SxG, Sx13, Sx14, Sx15, Sx16, Sx17, Sx18, Sx19, Sx20, Sx21, one behind the other. -/
import Derived.Test.YtjoemkjibcfgnaaGreatGA1
import Derived.MapKept
import Derived.Laws.Tables
import Derived.Laws.StructEq
import Derived.Conc.SmallLaws
import Derived.Deep.LoopGhost
import Derived.Scope
set_option linter.unusedVariables false
set_option linter.unusedSimpArgs false
section
/- Sx, part H: the rules are right: append to a row of a map of rows. -/
set_option linter.unusedVariables false
set_option linter.unusedSimpArgs false
namespace GoSx
open Go

section
variable {φ : Hnd} {ow : Own} {w : World} {P : Program} {hp : Nat → Chunk} {nx : Nat}

theorem zeros_int (n : Nat) : ∀ u ∈ (Builtin.zeroCells (Value.int .i64 0).cells n).toList, ∃ x, u = .int .i64 x ∧ IntKind.i64.has x := by
  intro u hu
  refine ⟨0, ?_, by simp [IntKind.has, IntKind.min, IntKind.max, IntKind.signed, IntKind.bits]⟩
  simp only [Builtin.zeroCells, Value.cells, Array.toList_map, List.mem_map] at hu
  obtain ⟨i, _, rfl⟩ := hu
  simp [Nat.mod_one]

theorem rowO_le {id : Nat} {e : TypeId} {B C : Int} {v : Value} (h : rowO ow w id e B v) (hle : B ≤ C) : rowO ow w id e C v := by
  rcases h with ⟨h, h0⟩ | ⟨b, n, c, cur, h1, h2, h3, h4, h5, h6, h7, h8⟩
  · exact .inl ⟨h, by omega⟩
  · exact .inr ⟨b, n, c, cur, h1, h2, h3, h4, h5, h6, h7, by omega⟩

theorem appendO_ok (H : Hyp hp nx φ ow w) {t t2 ty : TypeId} {k : Nat} {x : AV} {vs vx : Value} {out : Out} (hr : (reqAppendO P t t2 k x nx).run hp = some out) (hs : (AV.opq k).holds φ ow w [vs]) (hx : x.holds φ ow w [vx]) (hobl : ∀ p ∈ out.obls, p) :
    ∃ u w', (Builtin.append_ #[t, t2] ty #[vs, vx]).run P w = .ok u w' ∧ Post out nx φ ow w u w' := by
  unfold reqAppendO at hr
  simp only [Req.run] at hr
  split at hr <;> try (simp [Req.run] at hr; done)
  rename_i id hk
  simp only [Req.run] at hr
  split at hr <;> try (simp [Req.run] at hr; done)
  rename_i K e B outs hc
  split at hr <;> try (simp [Req.run] at hr; done)
  rename_i e2 i hu hi
  split at hr <;> try (simp [Req.run] at hr; done)
  rename_i hcond
  obtain ⟨hkm, rfl, rfl, hs1, hz, h8⟩ := hcond
  have hz := zeroInt_eq hz
  obtain ⟨ys, u, zs, hr2, hsrc, hrows, _⟩ := srcOf_ok H hr hx
  split at hr2 <;> try (simp [Req.run] at hr2; done)
  rename_i y _
  simp only [Req.run, Option.some.injEq] at hr2
  subst hr2
  have hB : (B + 1) * 8 ≤ (lim : Int) := hobl _ (by simp)
  have hch := H.chunk id
  rw [hc] at hch
  obtain ⟨g, es, clock, L, h1, h2, h3, h4, h5⟩ := hch
  obtain ⟨v, hv, hrow⟩ := h5 k (memN_iff.1 hkm)
  obtain ⟨v0, hv0, e0, _⟩ := hs
  rw [hv] at hv0
  injection hv0 with hv0
  injection e0 with e0
  subst hv0; subst e0
  have hzs : zs = [.int .i64 y] ∧ IntKind.i64.has y := by
    obtain ⟨c, r, rfl, ⟨rfl, hy⟩, hr0⟩ := hrows
    rw [show r = [] from hr0]
    exact ⟨rfl, hy⟩
  obtain ⟨rfl, hy⟩ := hzs
  obtain ⟨A, c0, rfl, hA⟩ := hsrc
  simp only [List.length_cons, List.length_nil, Nat.zero_add] at hA ⊢
  rcases hA with hA | ⟨gg, o, rfl, hrd⟩
  · cases hA
  have hcells : ∀ j u, [Value.int .i64 y][j]? = some u → w.cell? ((⟨gg, o, none⟩ : Addr).add j) = some u := fun j u hu => by
    rw [add_lit]
    exact hrd j u hu
  have hgs : g < w.heap.size := (H.own g id h2).1
  have hlim : (lim : Int) = 140737488355328 := rfl
  have fin : ∀ (u : Value) (w' : World) (ow' : Own), (Builtin.append_ #[t2, t2] ty #[vs, .slice (some ⟨gg, o, none⟩) 1 c0]).run P w = .ok u w' →
      w.heap.size ≤ w'.heap.size → w'.os = w.os → w'.tape = w.tape → w'.output = w.output →
      (∀ b, b < w.heap.size → ow' b = ow b ∧ (ow b ≠ some id → w'.heap[b]? = w.heap[b]?)) → w'.heap[g]? = w.heap[g]? →
      (∀ b j, ow' b = some j → b < w'.heap.size ∧ (j = id ∨ (b < w.heap.size ∧ ow b = some j))) →
      (∀ v, rowO ow w id e2 B v → rowO ow' w' id e2 (B + 1) v) → rowO ow' w' id e2 (B + 1) u →
      ∃ u w', (Builtin.append_ #[t2, t2] ty #[vs, .slice (some ⟨gg, o, none⟩) 1 c0]).run P w = .ok u w' ∧ Post ⟨[(B + 1) * 8 ≤ (lim : Int)], .opq nx, [(nx, .orw id), (id, .mpo K e2 (B + 1) (nx :: outs))]⟩ nx φ ow w u w' := by
    intro u w' ow' hrun f1 f2 f3 f4 f5 f6 f7 f8 f9
    have h1c : u.oneCell' = true := by
      rcases f9 with ⟨rfl, _⟩ | ⟨b, n, c, cur, rfl, _⟩ <;> simp [Value.oneCell']
    refine ⟨u, w', hrun, newPhi φ nx u, ow', ⟨f1, f2, f3, f4, ?_, ?_, newPhi_le H u, ?_⟩, ⟨u, newPhi_self _, rfl, h1c⟩, ?_⟩
    · intro b hb hno
      exact ⟨(f5 b hb).1, (f5 b hb).2 fun e => hno id e (by simp [ids])⟩
    · intro b j hj
      obtain ⟨k1, k2⟩ := f7 b j hj
      exact ⟨k1, k2.elim (fun e => .inl (.inl (by simp [ids, e]))) .inr⟩
    · intro j hj
      unfold newPhi
      rw [if_neg (by omega)]
    · intro p hp
      simp only [List.mem_cons, List.not_mem_nil, or_false] at hp
      rcases hp with rfl | rfl
      · trivial
      · refine ⟨g, es, clock, L, newPhi_le H u _ _ h1, (f5 g hgs).1.trans h2, f6.trans h3, entsR_mono (fun _ _ ⟨v, e1, e2⟩ => ⟨v, e1, f8 v e2⟩) h4, fun j hj => ?_⟩
        rcases List.mem_cons.1 hj with rfl | hj
        · exact ⟨u, newPhi_self _, f9⟩
        · obtain ⟨v, e1, e2⟩ := h5 j hj
          exact ⟨v, newPhi_le H u _ _ e1, f8 v e2⟩
  -- a new block
  have new : ∀ (n c : Nat) (cur : Array Value) (u : Value), (Builtin.append_ #[t2, t2] ty #[vs, .slice (some ⟨gg, o, none⟩) 1 c0]).run P w = .ok u (w.drew.alloc (.cells cur e2)) → u = .slice (some ⟨w.heap.size, 0, none⟩) n c →
      (∀ u ∈ cur.toList, ∃ x, u = .int .i64 x ∧ IntKind.i64.has x) → n ≤ c → c ≤ maxLen → cur.size = c → (n : Int) ≤ B + 1 →
      ∃ u w', (Builtin.append_ #[t2, t2] ty #[vs, .slice (some ⟨gg, o, none⟩) 1 c0]).run P w = .ok u w' ∧ Post ⟨[(B + 1) * 8 ≤ (lim : Int)], .opq nx, [(nx, .orw id), (id, .mpo K e2 (B + 1) (nx :: outs))]⟩ nx φ ow w u w' := by
    intro n c cur u hrun hu q1 q2 q3 q4 q5
    have hold : ∀ b, b < w.heap.size → (w.drew.alloc (.cells cur e2)).heap[b]? = w.heap[b]? := fun b hb => heap_alloc_old w.drew _ hb
    have how : ∀ b, b < w.heap.size → newOw ow w.heap.size id b = ow b := fun b hb => by unfold newOw; rw [if_neg (by omega)]
    refine fin u _ (newOw ow w.heap.size id) hrun (by simp) rfl rfl rfl (fun b hb => ⟨how b hb, fun _ => hold b hb⟩) (hold g hgs) ?_ ?_ ?_
    · intro b j hj
      unfold newOw at hj
      split at hj
      · rename_i e
        injection hj with hj
        subst e
        exact ⟨by simp, .inl hj.symm⟩
      · have := (H.own b j hj).1
        exact ⟨by simp; omega, .inr ⟨this, hj⟩⟩
    · intro v hv
      exact rowO_le (rowO_keep (fun b hb ho => ⟨(how b hb).trans ho, hold b hb⟩) hv) (by omega)
    · exact .inr ⟨w.heap.size, n, c, cur, hu, by simp [newOw], heap_alloc_new w.drew _, q1, q2, q3, q4, q5⟩
  have hzc : (Value.int .i64 0).cells.size = 1 := rfl
  rcases hrow with ⟨rfl, hB0⟩ | ⟨b, n, c, cur, rfl, hb1, hb2, hb3, hb4, hb5, hb6, hb7⟩
  · have hr := run_append_nil (P := P) w t2 ty e2 i (.int .i64 0) hu hi hz ⟨gg, o, none⟩ 1 c0 [.int .i64 y] (by rw [hs1]; rfl) hcells (by omega) (by omega) (by rw [h8]; omega)
    refine new 1 (grownCap w 1 0 e2) _ _ hr rfl ?_ (grownCap_ge w 1 0 e2) (grownCap_le_maxLen w 1 0 e2 (by simp [maxLen])) ?_ (by omega)
    · intro u hu
      rw [Array.toList_append, List.mem_append] at hu
      rcases hu with hu | hu
      · simp at hu; subst hu; exact ⟨y, rfl, hy⟩
      · exact zeros_int _ u hu
    · have := grownCap_ge w 1 0 e2
      simp only [Array.size_append, List.size_toArray, size_zeroCells, hzc, List.length_cons, List.length_nil]
      omega
  · have hcur : ∀ j u, (cur.toList.take n)[j]? = some u → w.cell? ((⟨b, 0, none⟩ : Addr).add j) = some u := by
      intro j u hu
      rw [add_lit, Nat.zero_add]
      have hj : cur[j]? = some u := by
        rw [List.getElem?_take] at hu
        split at hu
        · rwa [Array.getElem?_toList] at hu
        · cases hu
      unfold World.cell?
      rw [hb2]
      simp [hj]
    by_cases hroom : n + 1 ≤ c
    · have hr := run_append_room (P := P) w t2 ty e2 i hu hi b n c cur hb2 ⟨gg, o, none⟩ 1 c0 [.int .i64 y] (by rw [hs1]; rfl) hcells (by intro u hu; simp at hu; subst hu; rfl) hroom (by rw [hs1]; simp; omega)
      have hints : ∀ u ∈ (cur.toList.take (n * i.size) ++ [Value.int .i64 y] ++ cur.toList.drop (n * i.size + [Value.int .i64 y].length)).toArray.toList, ∃ x, u = .int .i64 x ∧ IntKind.i64.has x := by
        intro u hu
        simp only [List.mem_append, List.mem_singleton] at hu
        rcases hu with (hu | hu) | hu
        · exact hb3 u (List.mem_of_mem_take hu)
        · subst hu; exact ⟨y, rfl, hy⟩
        · exact hb3 u (List.mem_of_mem_drop hu)
      have hsz : (cur.toList.take (n * i.size) ++ [Value.int .i64 y] ++ cur.toList.drop (n * i.size + [Value.int .i64 y].length)).toArray.size = c := by
        rw [hs1]
        simp only [List.size_toArray, List.length_append, List.length_take, List.length_drop, Array.length_toList, List.length_cons, List.length_nil]
        omega
      generalize (cur.toList.take (n * i.size) ++ [Value.int .i64 y] ++ cur.toList.drop (n * i.size + [Value.int .i64 y].length)).toArray = cur' at hr hints hsz
      have hnew := setRow_heap w b cur cur' e2 (0, 0) hb2
      have hgb : g ≠ b := by
        intro e
        subst e
        rw [h3] at hb2
        cases hb2
      have hrows : ∀ v, rowO ow w id e2 B v → rowO ow (w.setRow b cur') id e2 (B + 1) v := by
        intro v hv
        rcases hv with ⟨h, h0⟩ | ⟨b', n', c', cur1, q1, q2, q3, q4, q5, q6, q7, q8⟩
        · exact .inl ⟨h, by omega⟩
        · by_cases hbb : b' = b
          · subst hbb
            rw [hb2] at q3
            injection q3 with q3
            injection q3 with q3 _ _
            subst q3
            exact .inr ⟨b', n', c', cur', q1, q2, hnew, hints, q5, q6, by omega, by omega⟩
          · exact .inr ⟨b', n', c', cur1, q1, q2, (setRow_other w b b' cur' hbb).trans q3, q4, q5, q6, q7, by omega⟩
      refine fin _ _ ow hr (by simp [World.setRow]) rfl rfl rfl (fun b' hb' => ⟨rfl, fun hno => setRow_other w b b' cur' fun e => hno (by rw [e]; exact hb1)⟩) (setRow_other w b g cur' hgb) ?_ hrows ?_
      · intro b' j hj
        have := (H.own b' j hj).1
        exact ⟨by simp [World.setRow]; exact this, .inr ⟨this, hj⟩⟩
      · exact .inr ⟨b, n + 1, c, cur', rfl, hb1, hnew, hints, hroom, hb5, hsz, by omega⟩
    · have hmx : maxLen = 9223372036854775807 ∨ maxLen ≥ 17592186044416 := by simp [maxLen]
      have hr := run_append_grow (P := P) w t2 ty e2 i (.int .i64 0) hu hi hz ⟨b, 0, none⟩ n c (cur.toList.take n) (by rw [hs1, List.length_take, Array.length_toList]; omega) hcur ⟨gg, o, none⟩ 1 c0 [.int .i64 y] (by rw [hs1]; rfl) hcells (by omega) (by omega) (growslice_fits (by omega) (by rw [h8]; omega))
      refine new (n + 1) (grownCap w (n + 1) c e2) _ _ hr rfl ?_ (grownCap_ge w (n + 1) c e2) (grownCap_le_maxLen w (n + 1) c e2 (by omega)) ?_ (by omega)
      · intro u hu
        simp only [Array.toList_append, List.mem_append] at hu
        rcases hu with (hu | hu) | hu
        · exact hb3 u (List.mem_of_mem_take (by simpa using hu))
        · simp at hu; subst hu; exact ⟨y, rfl, hy⟩
        · exact zeros_int _ u hu
      · have := grownCap_ge w (n + 1) c e2
        simp only [Array.size_append, List.size_toArray, size_zeroCells, hzc, List.length_cons, List.length_nil, List.length_take, Array.length_toList]
        omega

end
end GoSx
end
section
/- Sx, part E: append onto rows of rows. -/
set_option linter.unusedVariables false
set_option linter.unusedSimpArgs false
namespace GoSx
open Go

section
variable {φ : Hnd} {ow : Own} {w : World} {P : Program} {hp : Nat → Chunk} {nx : Nat}

/-- A row in another owner's hands, in a later world. -/
theorem rowH_hand {ow' : Own} {w' : World} {id id' : Nat} {v : Value} {e : TypeId} {T : Ty} {l : List T.den} (hk : Keep ow w ow' w') (hb : ∀ b, v.ownBlock = some b → ow' b = some id' ∧ w'.heap[b]? = w.heap[b]?) (h : rowH ow w id v e T l) : rowH ow' w' id' v e T l := by
  obtain ⟨xs, h1, h2, h3, h4⟩ := h
  refine ⟨xs, ⟨h1.1, ?_⟩, fun b hv => (hb b hv).1, h3, Rows.mono (fun _ _ => Ty.rep_keep hk) h4⟩
  rcases h1.2 with h | ⟨g, cap, cur, rfl, hb0, hg, r⟩
  · exact .inl h
  · exact .inr ⟨g, cap, cur, rfl, hb0, (hb g rfl).2.trans hg, r⟩

theorem rows_moved {id : Nat} {pos pos' : Nat → Nat} {e' : TypeId} {T : Ty} {l : List (List T.den)} {xs : List Value} {ow' : Own} {w' : World} {v : Value} (hsub : subH φ ow w id pos e' T l [] xs) (hv : ∀ g, v.ownBlock = some g → pos g = 0)
    (hk : Keep ow w ow' w') (hmv : ∀ b, ow b = some id → ow' b = some nx) (hblk : ∀ b, b < w.heap.size → some b ≠ v.ownBlock → w'.heap[b]? = w.heap[b]?) (hown : ∀ b, ow b = some id → b < w.heap.size)
    (hpos : ∀ b, ow b = some id → pos b ≠ 0 → pos' b = pos b) : ∀ j h, xs[j]? = some h → rowH ow' w' nx h e' T (l.getD j []) ∧ ∀ g, h.ownBlock = some g → pos' g = j + 1 := by
  intro j h hj
  have h5 := hsub.2.2.2 j h hj
  simp only [holeAt] at h5
  obtain ⟨h6, h7⟩ := h5
  have hob := h6.choose_spec.2.1
  refine ⟨rowH_hand hk (fun b hb => ⟨hmv b (hob b hb), hblk b (hown b (hob b hb)) ?_⟩) h6, fun g hg => ?_⟩
  · intro e
    have q1 := h7 b hb
    have q2 := hv b e.symm
    omega
  · rw [hpos g (hob g hg) (by have := h7 g hg; omega)]
    exact h7 g hg

theorem subH_append {ow' : Own} {w' : World} {φ' : Hnd} {pos' : Nat → Nat} {e' : TypeId} {T : Ty} {l r : List (List T.den)} {xs ys : List Value} (h1 : xs.length = l.length) (h2 : ys.length = r.length)
    (hx : ∀ j h, xs[j]? = some h → rowH ow' w' nx h e' T (l.getD j []) ∧ ∀ g, h.ownBlock = some g → pos' g = j + 1)
    (hy : ∀ j h, ys[j]? = some h → rowH ow' w' nx h e' T (r.getD j []) ∧ ∀ g, h.ownBlock = some g → pos' g = l.length + j + 1) : subH φ' ow' w' nx pos' e' T (l ++ r) [] (xs ++ ys) := by
  refine ⟨by simp [h1, h2], by simp, by simp, fun j h hj => ?_⟩
  simp only [holeAt]
  rcases Nat.lt_or_ge j xs.length with hlt | hge
  · rw [List.getElem?_append_left hlt] at hj
    have : (l ++ r).getD j [] = l.getD j [] := by
      rw [List.getD_eq_getElem?_getD, List.getElem?_append_left (by omega), List.getD_eq_getElem?_getD]
    rw [this]
    exact hx j h hj
  · rw [List.getElem?_append_right hge] at hj
    have : (l ++ r).getD j [] = r.getD (j - xs.length) [] := by
      rw [List.getD_eq_getElem?_getD, List.getElem?_append_right (by omega), List.getD_eq_getElem?_getD, h1]
    rw [this]
    obtain ⟨k1, k2⟩ := hy _ _ hj
    refine ⟨k1, fun g hg => ?_⟩
    have := k2 g hg
    omega

theorem rowH_nil (ow : Own) (w : World) (id : Nat) (e : TypeId) (T : Ty) : rowH ow w id (.slice none 0 0) e T [] := ⟨[], World.ownsRow_nil w 0 e T.size, by simp [Value.ownBlock], Nat.zero_le _, rfl⟩

theorem appendZ2_ok (H : Hyp hp nx φ ow w) {t t2 ty : TypeId} {id : Nat} {e e' : TypeId} {T : Ty} {l : List (List T.den)} {x : AV} {vs vx : Value} {out : Out} (hr : (reqAppendZ2 P t t2 id e e' T l x nx).run hp = some out) (hc : hp id = .arr2 e e' T l []) (hs : (AV.arr id).holds φ ow w [vs]) (hx : x.holds φ ow w [vx]) (hobl : ∀ p ∈ out.obls, p) :
    ∃ u w', (Builtin.append_ #[t, t2] ty #[vs, vx]).run P w = .ok u w' ∧ Post out nx φ ow w u w' := by
  unfold reqAppendZ2 at hr
  split at hr <;> try (simp [Req.run] at hr; done)
  rename_i e0 k n hu hu2
  split at hr <;> try (simp [Req.run] at hr; done)
  rename_i i hi
  split at hr <;> try (simp [Req.run] at hr; done)
  rename_i hz
  split at hr <;> try (simp [Req.run] at hr; done)
  rename_i hcond
  obtain ⟨rfl, z1, z2⟩ := hcond
  simp only [Req.run, Option.some.injEq] at hr
  subst hr
  obtain ⟨rfl, hn⟩ := int_holds hx
  change Int at n
  simp only [List.mem_cons, List.not_mem_nil, or_false, forall_eq_or_imp, forall_eq] at hobl
  obtain ⟨o1, o2, o3⟩ := hobl
  change @LE.le Int _ 0 n at o1
  obtain ⟨m, rfl⟩ := Int.eq_ofNat_of_zero_le o1
  have hch := H.chunk id
  rw [hc] at hch
  obtain ⟨v, xs, pos, hφ, hown, hvb, hlim, hsub⟩ := hch
  obtain ⟨A, n', c, hφ', e2⟩ := hs
  injection e2 with e2
  subst e2
  rw [hφ'] at hφ
  injection hφ with hφ
  subst hφ
  have hrepl : (Builtin.zeroCells (Value.slice none 0 0).cells m).toList = List.replicate m (.slice none 0 0) := by
    have := range_rep (Value.slice none 0 0).cells m
    unfold Builtin.zeroCells
    rw [this]
    simp [Value.cells]
  obtain ⟨v', w', hrun, hown', hgrow, hat⟩ := run_append_zeros (ty := ty) hu hu2 hi hz (by rw [z1]; rfl) (by omega) z2 (by rw [z1]; exact hown) m rfl (by
    rw [hrepl]
    intro u hu
    rw [(List.mem_replicate.1 hu).2]
    rfl) (by simpa [lim] using o2)
  rw [hrepl, z1] at hown'
  have hd : ∀ g, (Value.slice A n' c).ownBlock = some g → ∃ i ∈ [id], ow g = some i := fun g hg => ⟨id, by simp, (hvb g hg).1⟩
  obtain ⟨E, K, self, mv⟩ := grow_post (u := []) H hd (by simp [meetN, memN, ids]) hgrow (fun g hg => (hown'.lt g hg).2) hat
  refine ⟨v', w', hrun, newPhi φ nx v', ownAt (moveOw [id] nx (sealOw (ids []) ow)) nx v'.ownBlock, E, ?_, ?_⟩
  · obtain ⟨A, c, rfl⟩ := slice_of hown'
    exact ⟨A, _, c, newPhi_self _, rfl⟩
  · intro p hp
    simp only [List.mem_cons, List.not_mem_nil, or_false] at hp
    rcases hp with rfl | rfl
    · have hk2 : Keep ow w (ownAt (moveOw [id] nx (sealOw (ids []) ow)) nx v'.ownBlock) w' := Keep.trans (keep_seal _) K
      refine ⟨v', xs ++ List.replicate m (.slice none 0 0), fun b => if v'.ownBlock = some b then 0 else pos b, newPhi_self _, ?_, ?_, ?_, ?_⟩
      · rw [List.length_append, List.length_replicate]; simpa using hown'
      · intro g hg
        exact ⟨self g hg, by simp [hg]⟩
      · rw [List.length_append, List.length_replicate]; simpa using o3
      · refine subH_append hsub.1 (by simp) (rows_moved hsub (fun g hg => (hvb g hg).2) hk2 (fun b hb => mv b id (by simp) hb) hgrow.block (fun b hb => (H.own b id hb).1) ?_) ?_
        · intro b hb hp0
          show (if v'.ownBlock = some b then 0 else pos b) = pos b
          rw [if_neg]
          intro hv
          rcases hat with h | h
          · rw [h] at hv
            exact hp0 (hvb b hv).2
          · rw [h] at hv
            injection hv with hv
            have := (H.own b id hb).1
            omega
        · intro j h hj
          have hh := List.eq_of_mem_replicate (List.mem_of_getElem? hj)
          subst hh
          have : (List.replicate (Int.toNat (m : Int)) ([] : List T.den)).getD j [] = [] := by
            rw [List.getD_eq_getElem?_getD, List.getElem?_replicate]
            split <;> rfl
          rw [this]
          exact ⟨rowH_nil _ _ _ _ _, by simp [Value.ownBlock]⟩
    · trivial

theorem rowOf_ok (H : Hyp hp nx φ ow w) {e' : TypeId} {T : Ty} {x : AV} {v : Value} {k : List T.den → List Nat → Upd → Option Nat → Req} {out : Out} (hr : (rowOf e' T x k).run hp = some out) (hx : x.holds φ ow w [v]) :
    ∃ r d u h vr, (k r d u h).run hp = some out ∧ srcH w v 1 [vr] ∧ (∃ A n c, vr = .slice A n c) ∧ SldOK φ (sealOw (ids u) ow) w u ∧
      match h with
      | some i => φ i = some vr
      | none => ∃ xs, w.ownsRow 0 e' T.size vr r.length xs ∧ (∀ g, vr.ownBlock = some g → ∃ i ∈ d, ow g = some i) ∧ Rows (T.rep (sealOw (ids u) ow) w) xs r ∧ r.length ≤ lim := by
  unfold rowOf at hr
  split at hr <;> try (simp [Req.run] at hr; done)
  rename_i id2
  obtain ⟨A, n', c, hφ, e2⟩ := hx
  injection e2 with e2
  subst e2
  simp only [Req.run] at hr
  have hch := H.chunk id2
  have lit : ∀ (e : TypeId) (a : AV), hp id2 = .lit e 1 (.cons a .nil) → ∃ vr, a.holds φ ow w [vr] ∧ srcH w (.slice A n' c) 1 [vr] := by
    intro e a hc
    rw [hc] at hch
    obtain ⟨g, cs, hφ', g1, g2, g3, vr, rest, g4, g5, g6⟩ := hch
    have g6' : rest = [] := g6
    subst g6'
    rw [hφ] at hφ'
    injection hφ' with hφ'
    injection hφ' with e1 e2 e3
    subst e1; subst e2; subst e3
    refine ⟨vr, g5, _, _, rfl, .inr ⟨g, 0, rfl, ?_⟩⟩
    have := reads_block g2
    rwa [g4] at this
  have own : ∀ (a : AV) (vr : Value), a.holds φ ow w [vr] → srcH w (.slice A n' c) 1 [vr] → (ownOf e' T a fun r d u => k r (id2 :: d) u none).run hp = some out → ∃ r d u h vr, (k r d u h).run hp = some out ∧ srcH w (.slice A n' c) 1 [vr] ∧ (∃ A n c, vr = .slice A n c) ∧ SldOK φ (sealOw (ids u) ow) w u ∧
      match h with
      | some i => φ i = some vr
      | none => ∃ xs, w.ownsRow 0 e' T.size vr r.length xs ∧ (∀ g, vr.ownBlock = some g → ∃ i ∈ d, ow g = some i) ∧ Rows (T.rep (sealOw (ids u) ow) w) xs r ∧ r.length ≤ lim := by
    intro a vr ha hs hr
    obtain ⟨l, d, u, xs, hr1, h1, h2, h3, h4, h5⟩ := ownOf_ok H hr ha
    refine ⟨l, id2 :: d, u, none, vr, hr1, hs, ?_, h4, xs, h1, fun g hg => ?_, h3, h5⟩
    · obtain ⟨A, c, h⟩ := slice_of h1
      exact ⟨_, _, _, h⟩
    · obtain ⟨i, hi, hi2⟩ := h2 g hg
      exact ⟨i, List.mem_cons_of_mem _ hi, hi2⟩
  split at hr <;> try (simp [Req.run] at hr; done)
  · rename_i e i hc
    obtain ⟨vr, ha, hs⟩ := lit e _ hc
    have ha' := ha
    obtain ⟨A2, n2, c2, hφ2, e2⟩ := ha'
    injection e2 with e2
    simp only [Req.run] at hr
    split at hr
    · split at hr <;> try (simp [Req.run] at hr; done)
      rename_i hT
      subst hT
      split at hr <;> try (simp [Req.run] at hr; done)
      exact ⟨_, _, [], some i, vr, hr, hs, ⟨_, _, _, e2⟩, (fun p hp => by cases hp), (show φ i = some vr by rw [hφ2, e2])⟩
    · split at hr <;> try (simp [Req.run] at hr; done)
      rename_i hT
      subst hT
      exact ⟨_, _, [], some i, vr, hr, hs, ⟨_, _, _, e2⟩, (fun p hp => by cases hp), (show φ i = some vr by rw [hφ2, e2])⟩
    · exact own _ vr ha hs hr
  · rename_i e a _ hc
    obtain ⟨vr, ha, hs⟩ := lit e _ hc
    exact own _ vr ha hs hr

theorem subH_hole {ow' : Own} {w' : World} {φ' : Hnd} {pos' : Nat → Nat} {e' : TypeId} {T : Ty} {l : List (List T.den)} {r : List T.den} {xs : List Value} {v : Value} {i : Nat} (h1 : xs.length = l.length) (hφ : φ' i = some v)
    (hx : ∀ j h, xs[j]? = some h → rowH ow' w' nx h e' T (l.getD j []) ∧ ∀ g, h.ownBlock = some g → pos' g = j + 1) : subH φ' ow' w' nx pos' e' T (l ++ [r]) [((l.length : Int), i)] (xs ++ [v]) := by
  refine ⟨by simp [h1], by simp, by simp, fun j h hj => ?_⟩
  unfold holeAt
  rcases Nat.lt_or_ge j xs.length with hlt | hge
  · rw [if_neg (by omega)]
    simp only [holeAt]
    rw [List.getElem?_append_left hlt] at hj
    have : (l ++ [r]).getD j [] = l.getD j [] := by
      rw [List.getD_eq_getElem?_getD, List.getElem?_append_left (by omega), List.getD_eq_getElem?_getD]
    rw [this]
    exact hx j h hj
  · rw [List.getElem?_append_right hge] at hj
    have hj0 : j - xs.length = 0 := by
      rcases Nat.eq_zero_or_pos (j - xs.length) with h | h
      · exact h
      · rw [List.getElem?_eq_none (by simp; omega)] at hj; cases hj
    rw [hj0] at hj
    simp only [List.getElem?_cons_zero, Option.some.injEq] at hj
    rw [if_pos (by omega)]
    simp only
    rw [← hj]
    exact hφ

theorem append2_ok (H : Hyp hp nx φ ow w) {t t2 ty : TypeId} {id : Nat} {e e' : TypeId} {T : Ty} {l : List (List T.den)} {x : AV} {vs vx : Value} {out : Out} (hr : (reqAppend2 P t t2 id e e' T l x nx).run hp = some out) (hc : hp id = .arr2 e e' T l []) (hs : (AV.arr id).holds φ ow w [vs]) (hx : x.holds φ ow w [vx]) (hobl : ∀ p ∈ out.obls, p) :
    ∃ u w', (Builtin.append_ #[t, t2] ty #[vs, vx]).run P w = .ok u w' ∧ Post out nx φ ow w u w' := by
  unfold reqAppend2 at hr
  split at hr <;> try (simp [Req.run] at hr; done)
  rename_i e0 hu
  split at hr <;> try (simp [Req.run] at hr; done)
  rename_i i hi
  split at hr <;> try (simp [Req.run] at hr; done)
  rename_i z hz
  split at hr <;> try (simp [Req.run] at hr; done)
  rename_i hcond
  obtain ⟨rfl, rfl, z1, z2⟩ := hcond
  obtain ⟨r, d, u, hh, vr, hr1, hsrc, hvs, hsl, hrow0⟩ := rowOf_ok H hr hx
  split at hr1 <;> try (simp [Req.run] at hr1; done)
  rename_i hcond
  simp only [Bool.or_eq_true, not_or, Bool.not_eq_true] at hcond
  obtain ⟨⟨c1, c2⟩, c3⟩ := hcond
  have hidd : id ∉ d := fun h => by have := memN_iff.2 h; rw [c1] at this; cases this
  have c2' : memN id (ids u) = false := c2
  have c3' : meetN d (ids u) = false := c3
  have hidu : id ∉ ids u := fun h => by have := memN_iff.2 h; rw [c2'] at this; cases this
  simp only [Req.run, Option.some.injEq] at hr1
  subst hr1
  simp only [List.mem_cons, List.not_mem_nil, or_false, forall_eq_or_imp, forall_eq] at hobl
  obtain ⟨o2, o3⟩ := hobl
  have hch := H.chunk id
  rw [hc] at hch
  obtain ⟨v, xs, pos, hφ, hown, hvb, hlim, hsub⟩ := hch
  obtain ⟨A, n', c, hφ', e2⟩ := hs
  injection e2 with e2
  subst e2
  rw [hφ'] at hφ
  injection hφ with hφ
  subst hφ
  have hvr : vr.oneCell' = true := by
    obtain ⟨A, n, c, rfl⟩ := hvs
    rfl
  obtain ⟨v', w', hrun, hown', hgrow, hat⟩ := run_append_src (ty := ty) hu hi hz (by rw [z1, z2]) (by omega) (by rw [z1]; exact hown) hsrc (by rw [z1]; rfl) (by simp [hvr]) (by have := lim_max; omega) (by simpa [lim] using o2)
  rw [z1] at hown'
  have hd' : ∀ g, (Value.slice A n' c).ownBlock = some g → ∃ i ∈ id :: d, ow g = some i := fun g hg => ⟨id, by simp, (hvb g hg).1⟩
  obtain ⟨E, K, self, mv⟩ := grow_post (u := u) (d := id :: d) H hd' (by simp [meetN, c2', c3']) hgrow (fun g hg => (hown'.lt g hg).2) hat
  have hpos : ∀ b, ow b = some id → pos b ≠ 0 → v'.ownBlock ≠ some b := by
    intro b hb hp0 hv
    rcases hat with h | h
    · rw [h] at hv
      exact hp0 (hvb b hv).2
    · rw [h] at hv
      injection hv with hv
      have := (H.own b id hb).1
      omega
  cases hh with
  | some k =>
    have hk2 : Keep ow w (ownAt (moveOw (id :: d) nx (sealOw (ids u) ow)) nx v'.ownBlock) w' := Keep.trans (keep_seal _) K
    refine ⟨v', w', hrun, newPhi φ nx v', ownAt (moveOw (id :: d) nx (sealOw (ids u) ow)) nx v'.ownBlock, ?_, ?_, ?_⟩
    · have hX : ids ((nx, Chunk.arr2 e0 e' T (l ++ [r]) (holeOf l.length (some k))) :: ((id :: d).map (fun j => (j, Chunk.none)) ++ u)) = nx :: ((id :: d) ++ ids u) := by simp [ids, Function.comp_def]
      show Ext (ids _) nx φ ow w _ _ w'
      rw [hX]
      exact E
    · obtain ⟨A, c, rfl⟩ := slice_of hown'
      exact ⟨A, _, c, newPhi_self _, rfl⟩
    · intro p hp
      rcases List.mem_cons.1 hp with rfl | hp
      · refine ⟨v', xs ++ [vr], fun b => if v'.ownBlock = some b then 0 else pos b, newPhi_self _, ?_, ?_, ?_, ?_⟩
        · rw [List.length_append]; exact hown'
        · intro g hg
          exact ⟨self g hg, by simp [hg]⟩
        · rw [List.length_append]; exact o3
        · refine subH_hole hsub.1 (newPhi_le H v' _ _ hrow0) (rows_moved hsub (fun g hg => (hvb g hg).2) hk2 (fun b hb => mv b id (by simp) hb) hgrow.block (fun b hb => (H.own b id hb).1) ?_)
          intro b hb hp0
          show (if v'.ownBlock = some b then 0 else pos b) = pos b
          rw [if_neg (hpos b hb hp0)]
      · rcases List.mem_append.1 hp with hp | hp
        · obtain ⟨j, _, rfl⟩ := List.mem_map.1 hp
          trivial
        · exact SldOK.post (S := ids u) (fun i hi => hi) (newPhi_le H v') K hsl p hp
  | none =>
  obtain ⟨ys, hownr, hd, hrow, hrl⟩ := hrow0
  have hvrid : ∀ b, vr.ownBlock = some b → ow b ≠ some id := by
    intro b hb h
    obtain ⟨j, hj, hj2⟩ := hd b hb
    rw [h] at hj2
    injection hj2 with hj2
    subst hj2
    exact hidd hj
  have hvrlt : ∀ b, vr.ownBlock = some b → b < w.heap.size ∧ some b ≠ (Value.slice A n' c).ownBlock := by
    intro b hb
    refine ⟨(hownr.lt b hb).2, fun h => ?_⟩
    exact hvrid b hb (hvb b h.symm).1
  have hvrv' : ∀ b, vr.ownBlock = some b → v'.ownBlock ≠ some b := by
    intro b hb hv
    rcases hat with h | h
    · rw [h] at hv
      exact (hvrlt b hb).2 hv.symm
    · rw [h] at hv
      injection hv with hv
      have := (hvrlt b hb).1
      omega
  refine ⟨v', w', hrun, newPhi φ nx v', ownAt (moveOw (id :: d) nx (sealOw (ids u) ow)) nx v'.ownBlock, ?_, ?_, ?_⟩
  · have hX : ids ((nx, Chunk.arr2 e0 e' T (l ++ [r]) (holeOf l.length none)) :: ((id :: d).map (fun j => (j, Chunk.none)) ++ u)) = nx :: ((id :: d) ++ ids u) := by simp [ids, Function.comp_def]
    show Ext (ids _) nx φ ow w _ _ w'
    rw [hX]
    exact E
  · obtain ⟨A, c, rfl⟩ := slice_of hown'
    exact ⟨A, _, c, newPhi_self _, rfl⟩
  · intro p hp
    rcases List.mem_cons.1 hp with rfl | hp
    · have hk2 : Keep ow w (ownAt (moveOw (id :: d) nx (sealOw (ids u) ow)) nx v'.ownBlock) w' := Keep.trans (keep_seal _) K
      refine ⟨v', xs ++ [vr], fun b => if v'.ownBlock = some b then 0 else if vr.ownBlock = some b then l.length + 1 else pos b, newPhi_self _, ?_, ?_, ?_, ?_⟩
      · rw [List.length_append]; exact hown'
      · intro g hg
        exact ⟨self g hg, by simp [hg]⟩
      · rw [List.length_append]; exact o3
      · refine subH_append hsub.1 (by simp) (rows_moved hsub (fun g hg => (hvb g hg).2) hk2 (fun b hb => mv b id (by simp) hb) hgrow.block (fun b hb => (H.own b id hb).1) ?_) ?_
        · intro b hb hp0
          show (if v'.ownBlock = some b then 0 else if vr.ownBlock = some b then l.length + 1 else pos b) = pos b
          rw [if_neg, if_neg]
          · intro h
            exact hvrid b h hb
          · intro hv
            rcases hat with h | h
            · rw [h] at hv
              exact hp0 (hvb b hv).2
            · rw [h] at hv
              injection hv with hv
              have := (H.own b id hb).1
              omega
        · intro j h hj
          cases j with
          | succ j => simp at hj
          | zero =>
            simp only [List.getElem?_cons_zero, Option.some.injEq] at hj
            subst hj
            refine ⟨⟨ys, ?_, fun b hb => ?_, hrl, Rows.mono (fun cs x => Ty.rep_keep K) hrow⟩, fun g hg => ?_⟩
            · refine ⟨hownr.1, ?_⟩
              rcases hownr.2 with h | ⟨g1, cap1, cur1, k1, k2, k3, k4⟩
              · exact .inl h
              · have hb : vr.ownBlock = some g1 := by rw [k1]; rfl
                exact .inr ⟨g1, cap1, cur1, k1, k2, (hgrow.block g1 (hvrlt g1 hb).1 (hvrlt g1 hb).2).trans k3, k4⟩
            · obtain ⟨j, hj, hj2⟩ := hd b hb
              exact mv b j (List.mem_cons_of_mem _ hj) hj2
            · show (if v'.ownBlock = some g then 0 else if vr.ownBlock = some g then l.length + 1 else pos g) = l.length + 0 + 1
              rw [if_neg (hvrv' g hg), if_pos hg]
    · rcases List.mem_append.1 hp with hp | hp
      · obtain ⟨j, _, rfl⟩ := List.mem_map.1 hp
        trivial
      · exact SldOK.post (S := ids u) (fun i hi => hi) (newPhi_le H v') K hsl p hp

theorem appendX_ok (H : Hyp hp nx φ ow w) {t t2 ty : TypeId} {s x : AV} {vs vx : Value} {out : Out} (hr : (reqAppendX P t t2 s x nx).run hp = some out) (hs : s.holds φ ow w [vs]) (hx : x.holds φ ow w [vx]) (hobl : ∀ p ∈ out.obls, p) :
    ∃ u w', (Builtin.append_ #[t, t2] ty #[vs, vx]).run P w = .ok u w' ∧ Post out nx φ ow w u w' := by
  have old : (if isInt P t2 = true then reqAppendZ P t t2 s x nx else reqAppend P t t2 s x nx).run hp = some out → ∃ u w', (Builtin.append_ #[t, t2] ty #[vs, vx]).run P w = .ok u w' ∧ Post out nx φ ow w u w' := by
    intro hr
    split at hr
    · exact appendZ_ok H hr hs hx hobl
    · exact append_ok H hr hs hx hobl
  unfold reqAppendX at hr
  split at hr
  · exact appendO_ok H hr hs hx hobl
  · rename_i id
    simp only [Req.run] at hr
    split at hr
    · rename_i e e' T l hc
      split at hr
      · exact appendZ2_ok H hr hc hs hx hobl
      · exact append2_ok H hr hc hs hx hobl
    · exact old hr
  · exact old hr

end
end GoSx
end
section
/- Sx, part F: the rules are right: copy, maps, structs. -/
set_option linter.unusedVariables false
set_option linter.unusedSimpArgs false
namespace GoSx
open Go

section
variable {φ : Hnd} {ow : Own} {w : World} {P : Program} {hp : Nat → Chunk} {nx : Nat}

theorem seal_nil : sealOw [] ow = ow := by
  funext b
  unfold sealOw
  cases ow b <;> simp

/-! ### copy -/
theorem seg_take (cur v : List Value) (a m : Nat) (h : a + v.length ≤ m) (hm : m ≤ cur.length) : (cur.take a ++ v ++ cur.drop (a + v.length)).take m = (cur.take m).take a ++ v ++ (cur.take m).drop (a + v.length) := by
  rw [List.take_append, List.take_of_length_le (by simp; omega), List.take_take, Nat.min_eq_left (by omega), List.drop_take]
  congr 2
  simp
  omega

theorem copy_core (H : Hyp hp nx φ ow w) {t t2 ty e : TypeId} {i : TypeInfo} {id : Nat} {T : Ty} {l : List T.den} {X : Option Addr} {A0 : Option Addr} {n0 c0 lo hi c : Nat} {vx : Value} {ys : List T.den} {zs : List Value} (hu : P.underlying t = some (.slice e)) (hi0 : P.info? e = some i) (hsz : T.size = i.size) (hs0 : 0 < i.size)
    (hφ : φ id = some (.slice A0 n0 c0)) (hrow : rowH ow w id (.slice A0 n0 c0) e T l) (h1 : lo ≤ hi) (h2 : hi ≤ n0) (hX : lo = hi ∨ X = A0.map (·.add (lo * i.size))) (hsrc : srcH w vx ys.length zs) (hys : Rows (T.rep ow w) zs ys) (hylim : ys.length ≤ lim) (ob : List Prop) [Decs ob] :
    ∃ w', (Builtin.copy_ #[t, t2] ty #[.slice X (hi - lo) c, vx]).run P w = .ok (goInt (Nat.min ys.length (hi - lo))) w' ∧
      Post ⟨ob, .dat (.int .i64) ((Nat.min ys.length (hi - lo) : Nat) : Int), [(id, .arr e T (l.take lo ++ ys.take (Nat.min ys.length (hi - lo)) ++ l.drop (lo + Nat.min ys.length (hi - lo))))]⟩ nx φ ow w (goInt (Nat.min ys.length (hi - lo))) w' := by
  obtain ⟨A, cx, rfl, hA⟩ := hsrc
  have hn : Nat.min ys.length (hi - lo) ≤ ys.length := Nat.min_le_left _ _
  have hn2 : Nat.min ys.length (hi - lo) ≤ hi - lo := Nat.min_le_right _ _
  generalize hnn : Nat.min ys.length (hi - lo) = n at hn hn2
  have hgo : (AV.dat (.int .i64) ((n : Nat) : Int)).holds φ ow w [goInt n] := int_mk (lim_lt (by omega))
  have hl0 : n0 = l.length := by
    obtain ⟨xs, q1, _⟩ := (show _ from hrow)
    rcases q1.2 with ⟨h, hn⟩ | ⟨g', cap, cur, he, _⟩
    · injection h with _ h _; omega
    · injection he
  by_cases hz : n = 0
  · subst hz
    refine ⟨w, ?_, φ, ow, ?_, hgo, ?_⟩
    · have hl : ∀ (x : Addr), (loadCells x 0).run P w = .ok #[] w := fun x => by simpa using run_loadCells_list (P := P) w x [] (by simp)
      cases X <;> cases A <;> simp [Builtin.copy_, run_underlying hu, Builtin.lenOf, Builtin.firstCells, Go.sizeOf, typeInfo, hi0, hnn, storeCells, hl]
    · have := Ext.sealedOw H []
      rw [seal_nil] at this
      refine ⟨this.size, this.os, this.tape, this.output, fun b hb h => ⟨rfl, rfl⟩, fun b i h => ⟨(H.own b i h).1, .inr ⟨(H.own b i h).1, h⟩⟩, PhiLe.refl _, fun _ _ => rfl⟩
    · intro p hp
      simp only [List.mem_singleton] at hp
      subst hp
      refine ⟨_, hφ, ?_⟩
      simpa using hrow
  · obtain ⟨xs, q1, q2, q3, q4⟩ := (show _ from hrow)
    rcases q1.2 with ⟨h, h0⟩ | ⟨g, cap, cur, he, hb0, hg, hle, hm, hcs, ht⟩
    · omega
    · injection he with f1 f2 f3
      subst f1; subst f3
      obtain rfl : X = some ⟨g, lo * i.size, none⟩ := by
        rcases hX with h | h
        · omega
        · rw [h]
          simp [add_lit]
      have hnz : ys.length ≠ 0 := by omega
      obtain ⟨g2, o2, hA2, hrd⟩ := hA.resolve_left hnz
      subst hA2
      have hzl : zs.length = ys.length * i.size := Rows.len (fun cs x hr => by rw [Ty.rep_length hr, hsz]) hys
      have hvs : (zs.take (n * i.size)).length = n * i.size := by
        rw [List.length_take, hzl]
        exact Nat.min_eq_left (Nat.mul_le_mul_right _ hn)
      have hload := run_loadCells_list (P := P) w ⟨g2, o2, none⟩ (zs.take (n * i.size)) (fun j v hv => by rw [add_lit]; exact reads_take hrd _ j v hv)
      rw [hvs] at hload
      have hfit : lo * i.size + n * i.size ≤ l.length * i.size := by
        rw [← Nat.add_mul]
        exact Nat.mul_le_mul_right _ (by omega)
      have hcur : l.length * i.size ≤ cur.size := by
        rw [hcs, hsz]
        exact Nat.mul_le_mul_right _ (by omega)
      have hst := run_storeCells_at P g (lo * i.size) e (zs.take (n * i.size)) 0 cur w hg (by rw [hvs]; omega) (fun u hu => Rows.all (p := fun v => v.oneCell' = true) (fun cs x hr => Ty.rep_one hr) hys u (List.mem_of_mem_take hu))
      simp only [Nat.add_zero] at hst
      have hog := q2 g rfl
      refine ⟨w.setRow g (cur.toList.take (lo * i.size) ++ zs.take (n * i.size) ++ cur.toList.drop (lo * i.size + (zs.take (n * i.size)).length)).toArray, ?_, φ, ow, ?_, ?_, ?_⟩
      · simp only [Builtin.copy_, run_underlying hu, Builtin.lenOf, Builtin.firstCells, Go.sizeOf, typeInfo, hi0, hnn]
        have e1 : (#[t, t2] : Array TypeId)[0]? = some t := rfl
        simp [run_underlying hu, hi0, hnn, hload, hst]
      · have := Ext.write H [] hog (by simp) (cur.toList.take (lo * i.size) ++ zs.take (n * i.size) ++ cur.toList.drop (lo * i.size + (zs.take (n * i.size)).length)).toArray
        rw [seal_nil] at this
        exact this
      · exact int_mk (lim_lt (by omega))
      · intro p hp
        simp only [List.mem_singleton] at hp
        subst hp
        have K := keep_write (w := w) [] hog (by simp) (cur.toList.take (lo * i.size) ++ zs.take (n * i.size) ++ cur.toList.drop (lo * i.size + (zs.take (n * i.size)).length)).toArray
        rw [seal_nil] at K
        have hnn : ∀ cs x, Ty.rep ow w T cs x → cs.length = i.size := fun cs x hr => by rw [Ty.rep_length hr, hsz]
        have hrows := Rows.app (Rows.app (Rows.takeR hnn q4 lo) (Rows.takeR hnn hys n)) (Rows.dropR hnn q4 (lo + n))
        have hll : (l.take lo ++ ys.take n ++ l.drop (lo + n)).length = l.length := by
          simp only [List.length_append, List.length_take, List.length_drop]
          omega
        refine ⟨_, hφ, _, ⟨?_, .inr ⟨g, c0, _, ?_, hb0, setRow_heap w g cur _ e _ hg, ?_, hm, ?_, ?_⟩⟩, q2, ?_, Rows.mono (fun cs x => Ty.rep_keep K) hrows⟩
        · exact Rows.len (fun cs x hr => Ty.rep_length hr) hrows
        · rw [hll, hl0]
        · rw [hll]; exact hle
        · rw [← hcs]
          simp only [List.size_toArray, List.length_append, List.length_take, List.length_drop, Array.length_toList, hvs]
          omega
        · rw [hll, List.toList_toArray, hsz, seg_take _ _ _ _ (by rw [hvs]; omega) (by rw [Array.length_toList]; exact hcur)]
          rw [hsz] at ht
          rw [ht, hvs, Nat.add_mul]
        · rw [hll]; exact q3

/-- What cells lie where a source's are. -/
theorem copy_ok (H : Hyp hp nx φ ow w) {t t2 ty : TypeId} {a x : AV} {va vx : Value} {out : Out} (hr : (reqCopy P t a x).run hp = some out) (ha : a.holds φ ow w [va]) (hx : x.holds φ ow w [vx]) (hobl : ∀ p ∈ out.obls, p) :
    ∃ u w', (Builtin.copy_ #[t, t2] ty #[va, vx]).run P w = .ok u w' ∧ Post out nx φ ow w u w' := by
  unfold reqCopy at hr
  simp only at hr
  split at hr <;> try (simp [Req.run] at hr; done)
  rename_i e hu
  split at hr <;> try (simp [Req.run] at hr; done)
  · rename_i i id hi
    obtain ⟨A, n', c, hφ, e'⟩ := ha
    injection e' with e'
    subst e'
    simp only [Req.run] at hr
    have hch := H.chunk id
    generalize hp id = ch at hr hch
    cases ch <;> try (simp [Req.run] at hr; done)
    rename_i e2 T l
    simp only at hr
    split at hr <;> try (simp [Req.run] at hr; done)
    rename_i hz
    obtain ⟨rfl, z1, z2⟩ := hz
    obtain ⟨ys, u, xs, hr1, h1, h2, h3⟩ := srcOf_ok H hr hx
    split at hr1 <;> try (simp [Req.run] at hr1; done)
    simp only [Req.run, Option.some.injEq] at hr1
    subst hr1
    obtain ⟨v', hv', hrow⟩ := hch
    rw [hφ] at hv'
    injection hv' with hv'
    subst hv'
    have hl0 : n' = l.length := by
      obtain ⟨xs, q1, _⟩ := (show _ from hrow)
      rcases q1.2 with ⟨h, hn⟩ | ⟨g', cap, cur, he, _⟩
      · injection h with _ h _; omega
      · injection he
    simp only [List.mem_cons, List.not_mem_nil, or_false, forall_eq] at hobl
    have h2' : Rows (T.rep ow w) xs ys := by
      have h4 : sealOw (ids []) ow = ow := seal_nil
      rwa [h4] at h2
    obtain ⟨w', k1, k2⟩ := copy_core (ty := ty) (t2 := t2) (lo := 0) (hi := n') (X := A) (c := c) H hu hi z1 z2 hφ hrow (by omega) (by omega) (.inr (by cases A <;> simp [Addr.add])) h1 h2' hobl [ys.length ≤ lim]
    refine ⟨_, w', k1, ?_⟩
    subst hl0
    simpa using k2
  · rename_i i id sz lo hi' hi
    split at hr <;> try (simp [Req.run] at hr; done)
    rename_i hsz
    subst hsz
    obtain ⟨A, n', c, X, hφ, q1, q2, q3, q4, q5, e'⟩ := ha
    injection e' with e'
    subst e'
    simp only [Req.run] at hr
    have hch := H.chunk id
    generalize hp id = ch at hr hch
    cases ch <;> try (simp [Req.run] at hr; done)
    rename_i e2 T l
    simp only at hr
    split at hr <;> try (simp [Req.run] at hr; done)
    rename_i hz
    obtain ⟨rfl, z1, z2⟩ := hz
    obtain ⟨ys, u, xs, hr1, h1, h2, h3⟩ := srcOf_ok H hr hx
    split at hr1 <;> try (simp [Req.run] at hr1; done)
    simp only [Req.run, Option.some.injEq] at hr1
    subst hr1
    obtain ⟨v', hv', hrow⟩ := hch
    rw [hφ] at hv'
    injection hv' with hv'
    subst hv'
    simp only [List.mem_cons, List.not_mem_nil, or_false, forall_eq] at hobl
    have h2' : Rows (T.rep ow w) xs ys := by
      have h4 : sealOw (ids []) ow = ow := seal_nil
      rwa [h4] at h2
    obtain ⟨w', k1, k2⟩ := copy_core (ty := ty) (t2 := t2) (lo := lo.toNat) (hi := hi'.toNat) (X := X) (c := c - lo.toNat) H hu hi z1 z2 hφ hrow (by omega) (by omega) (q5.imp (fun h => by omega) (fun h => h)) h1 h2' hobl [ys.length ≤ lim]
    refine ⟨_, w', k1, ?_⟩
    simpa using k2

/-! ### Maps -/
theorem mapKinds_spec {t : TypeId} {K V : Ty} (h : mapKinds P t = some (K, V)) : ∃ kt e z i, P.underlying t = some (.map kt e) ∧ keyTy P kt = some K ∧ P.info? e = some i ∧ i.zero = some z ∧ V.leaf = true ∧ V.rep ow w [z] V.dflt := by
  unfold mapKinds at h
  split at h <;> try (cases h; done)
  rename_i kt e hu
  cases hi : P.info? e with
  | none =>
    rw [hi] at h
    simp only [Option.bind_none] at h
    split at h <;> simp_all
  | some i =>
    rw [hi] at h
    simp only [Option.bind_some] at h
    split at h <;> try (cases h; done)
    · rename_i k' h1 h2 h3
      injection h with h
      injection h with e1 e2
      subst e1; subst e2
      exact ⟨kt, e, _, i, hu, h1, hi, h3, rfl, rfl⟩
    · rename_i k' q q' h1 h2 h3
      split at h <;> try (cases h; done)
      rename_i hq
      subst hq
      injection h with h
      injection h with e1 e2
      subst e1; subst e2
      have h0 : q'.has 0 := by cases q' <;> simp [IntKind.has, IntKind.min, IntKind.max, IntKind.signed, IntKind.bits]
      exact ⟨kt, e, _, i, hu, h1, hi, h3, rfl, rfl, h0⟩

theorem makeMap_ok (H : Hyp hp nx φ ow w) {t : TypeId} {out : Out} (hr : (reqMakeMap P t nx).run hp = some out) : ∃ u w', (Instr.makeMap t none).run P w = .ok u w' ∧ Post out nx φ ow w u w' := by
  unfold reqMakeMap at hr
  split at hr <;> try (simp [Req.run] at hr; done)
  rename_i k V hk
  simp only [Req.run, Option.some.injEq] at hr
  subst hr
  obtain ⟨kt, e, z, i, _, _, _, _, hV, _⟩ := mapKinds_spec (ow := ow) (w := w) hk
  have hrun : (Instr.makeMap t none).run P w = .ok (.map (some w.heap.size)) (w.alloc (.map #[] 0)) := rfl
  have E := Ext.new (w' := w.alloc (.map #[] 0)) H [] (.map (some w.heap.size)) rfl rfl rfl rfl
  refine ⟨_, _, hrun, _, _, E, ⟨_, newPhi_self _, rfl⟩, ?_⟩
  intro p hp
  simp only [List.mem_singleton] at hp
  subst hp
  exact ⟨w.heap.size, #[], 0, newPhi_self _, by simp [newOw], new_block (w' := w.alloc (.map #[] 0)) rfl, hV, rfl⟩

theorem keyAV_ok {K : Ty} {ix : AV} {n : K.den} {vi : Value} (h : keyAV K ix = some n) (hx : ix.holds φ ow w [vi]) : vi = keyV K n ∧ keyFit K n := by
  unfold keyAV at h
  split at h <;> try (cases h; done)
  · split at h <;> try (cases h; done)
    rename_i e
    subst e
    injection h with h
    subst h
    obtain ⟨rfl, hn⟩ := int_holds hx
    exact ⟨rfl, hn⟩
  · injection h with h
    subst h
    obtain ⟨_, _, h1, h2⟩ := hx
    injection h1 with h1
    exact ⟨h1, h2⟩
  · split at h <;> try (cases h; done)
    rename_i e
    obtain ⟨rfl, rfl⟩ := e
    injection h with h
    subst h
    obtain ⟨cs, h1, v0, r0, h2, ha, v1, r1, h3, hb, h4⟩ := hx
    injection h1 with h1
    subst h1
    obtain ⟨rfl, hn⟩ := int_holds ha
    obtain ⟨rfl, hm⟩ := int_holds hb
    have h4' : r1 = [] := h4
    subst h4'
    subst h3
    refine ⟨?_, hn, hm⟩
    show Value.agg cs = Value.agg _
    congr 1
    rw [← Array.toArray_toList (xs := cs), h2]

/-- The first entry of a key. -/
def scanK (K V : Ty) (n : K.den) : List MapEntry → List (K.den × V.den) → Nat → Option (Nat × Value)
  | e :: es, (a, _) :: r, i => if @decide (n = a) (K.eqD n a) then some (i, e.val) else scanK K V n es r (i + 1)
  | _, _, _ => none

theorem keyTy_spec {kt : TypeId} {K : Ty} (h : keyTy P kt = some K) : (∃ k, K = .int k ∧ P.underlying kt = some (.int k)) ∨ (K = .str ∧ P.underlying kt = some .string) ∨
    (∃ fs f g k q, K = .pair (.int k) (.pair (.int q) .unit) ∧ P.underlying kt = some (.struct fs) ∧ fs.toList = [f, g] ∧ P.underlying f.type = some (.int k) ∧ P.underlying g.type = some (.int q) ∧ f.name ≠ "_" ∧ g.name ≠ "_" ∧ f.offset = 0 ∧ g.offset = 1 ∧ P.stoodInHeld kt = false) := by
  unfold keyTy at h
  split at h <;> try (cases h; done)
  · rename_i k hu
    injection h with h
    exact .inl ⟨k, h.symm, hu⟩
  · rename_i hu
    injection h with h
    exact .inr (.inl ⟨h.symm, hu⟩)
  · rename_i fs hu
    split at h <;> try (cases h; done)
    rename_i f g hfs
    split at h <;> try (cases h; done)
    rename_i k q h1 h2
    split at h <;> try (cases h; done)
    rename_i hc
    injection h with h
    obtain ⟨c1, c2, c3, c4, c5⟩ := hc
    exact .inr (.inr ⟨fs, f, g, k, q, h.symm, hu, hfs, h1, h2, c1, c2, c3, c4, c5⟩)

theorem run_isAgg_int {t : TypeId} {k : IntKind} (h : P.underlying t = some (.int k)) : (isAgg t).run P w = .ok false w := by
  simp [isAgg, run_underlying h]

theorem beqB (x y : ByteArray) : (x == y) = decide (x = y) := by
  obtain ⟨x⟩ := x
  obtain ⟨y⟩ := y
  show (x == y) = _
  rw [Bool.eq_iff_iff, decide_eq_true_eq, beq_iff_eq, ByteArray.mk.injEq]

theorem findKey_run {kt : TypeId} {K V : Ty} {R : List Value → V.den → Prop} (hK : keyTy P kt = some K) {n : K.den} {es : List MapEntry} {l : List (K.den × V.den)} (h : entsR R K es l) : (Instr.findKey kt (keyV K n) es).run P w = .ok (scanK K V n es l 0) w := by
  rcases keyTy_spec hK with ⟨k, rfl, hu⟩ | ⟨rfl, hu⟩ | ⟨fs, f, g, k, q, rfl, hu, hfs, h1, h2, c1, c2, c3, c4, c5⟩
  · have : ∀ (es : List MapEntry) (l : List (Int × V.den)) (i : Nat), entsR R (.int k) es l → Instr.findNow (.int k) (.int k n) es i = some (scanK (.int k) V n es l i) := by
      intro es
      induction es with
      | nil => intro l i _; cases l <;> rfl
      | cons e es ih =>
        rintro _ i ⟨a, y, r, rfl, e1, e2, e3, e4⟩
        change e.key = .int k a at e1
        have ih2 := ih r (i + 1) e4
        unfold scanK
        by_cases hn : n = a
        · subst hn
          rw [if_pos (by exact decide_eq_true rfl)]
          simp [Instr.findNow, Instr.sameNow, e1]
        · rw [if_neg (by simpa using hn)]
          change Int at n a
          simp only [Instr.findNow, Instr.sameNow, e1, if_true]
          have : (n == a) = false := by simpa using hn
          rw [this]
          exact ih2
    have := this es l 0 h
    exact MapKept.run_findKey hu this
  · have : ∀ (es : List MapEntry) (l : List (ByteArray × V.den)) (i : Nat), entsR R .str es l → Instr.findNow .string (.string n) es i = some (scanK .str V n es l i) := by
      intro es
      induction es with
      | nil => intro l i _; cases l <;> rfl
      | cons e es ih =>
        rintro _ i ⟨a, y, r, rfl, e1, e2, e3, e4⟩
        change e.key = .string a at e1
        have ih2 := ih r (i + 1) e4
        unfold scanK
        by_cases hn : n = a
        · subst hn
          rw [if_pos (by exact decide_eq_true rfl)]
          have : ((n : ByteArray) == n) = true := by rw [beqB]; exact decide_eq_true rfl
          simp only [Instr.findNow, Instr.sameNow, e1]
          rw [this]
        · rw [if_neg (by simpa using hn)]
          simp only [Instr.findNow, Instr.sameNow, e1]
          have : ((n : ByteArray) == a) = false := by rw [beqB]; exact decide_eq_false hn
          rw [this]
          exact ih2
    have := this es l 0 h
    exact MapKept.run_findKey hu this
  · have hfo : P.fieldsOf kt = fs := by simp [Program.fieldsOf, hu]
    have heq : ∀ (x y : Int × Int × Unit), (Op.equal kt (keyV (.pair (.int k) (.pair (.int q) .unit)) x) (keyV (.pair (.int k) (.pair (.int q) .unit)) y)).run P w = .ok (@decide (x = y) ((Ty.pair (.int k) (.pair (.int q) .unit)).eqD x y)) w := by
      rintro ⟨x1, x2, ⟨⟩⟩ ⟨y1, y2, ⟨⟩⟩
      have pf : ∀ a b : Int, (part f.type #[.int k a, .int q b] f.offset).run P w = .ok (.int k a) w := fun a b => by
        simp [part, isAgg, run_underlying h1, c3]
      have pg : ∀ a b : Int, (part g.type #[.int k a, .int q b] g.offset).run P w = .ok (.int q b) w := fun a b => by
        simp [part, isAgg, run_underlying h2, c4]
      show (Op.equalIn 10000 kt (.agg #[.int k x1, .int q x2]) (.agg #[.int k y1, .int q y2])).run P w = _
      rw [run_equalIn_struct w 9999 kt _ _ (by rw [hfo]; exact hu) c5, hfo, hfs]
      have f1 : (Op.equalIn 9999 f.type (.int k x1) (.int k y1)).run P w = .ok (x1 == y1) w := run_equalIn_int (P := P) w 9998 f.type k k x1 y1 h1
      have f2 : (Op.equalIn 9999 g.type (.int q x2) (.int q y2)).run P w = .ok (x2 == y2) w := run_equalIn_int (P := P) w 9998 g.type q q x2 y2 h2
      simp only [Op.eqFields, c1, c2, ne_eq, not_false_eq_true, if_true, Sem.run_bind, pf, f1, Result.andThen_ok]
      by_cases g1 : x1 = y1
      · subst g1
        simp only [beq_self_eq_true, Bool.not_true, Bool.false_eq_true, if_false, Sem.run_bind, pg, f2, Result.andThen_ok]
        by_cases g2 : x2 = y2
        · subst g2
          simp
        · have : (x2 == y2) = false := by simpa using g2
          simp [this, g2]
      · have : (x1 == y1) = false := by simpa using g1
        simp [this, g1]
    have hask : ∀ (es : List MapEntry) (l : List ((Int × Int × Unit) × V.den)) (i : Nat), entsR R (.pair (.int k) (.pair (.int q) .unit)) es l → (Instr.findAsking kt (keyV (.pair (.int k) (.pair (.int q) .unit)) n) es i).run P w = .ok (scanK (.pair (.int k) (.pair (.int q) .unit)) V n es l i) w := by
      intro es
      induction es with
      | nil => intro l i _; cases l <;> simp [Instr.findAsking, scanK]
      | cons e es ih =>
        rintro _ i ⟨a, y, r, rfl, e1, e2, e3, e4⟩
        have ih2 := ih r (i + 1) e4
        unfold scanK
        rw [Instr.findAsking]
        rw [Sem.run_bind, e1, heq n a, Result.andThen_ok]
        by_cases hn : n = a
        · subst hn
          simp
        · have hd : @decide (n = a) ((Ty.pair (.int k) (.pair (.int q) .unit)).eqD n a) = false := by
            exact decide_eq_false hn
          rw [hd]
          simp only [Bool.false_eq_true, if_false]
          exact ih2
    cases es with
    | nil =>
      have hl : l = [] := h
      subst hl
      simp [Instr.findKey, run_underlying hu, Instr.findNow, scanK]
    | cons e es =>
      have hk := h
      obtain ⟨a, y, r, rfl, e1, e2, e3, e4⟩ := hk
      have hnow : Instr.findNow (.struct fs) (keyV (.pair (.int k) (.pair (.int q) .unit)) n) (e :: es) 0 = none := by
        simp [Instr.findNow, Instr.sameNow, e1]
      rw [Instr.findKey, Sem.run_bind, run_underlying hu, Result.andThen_ok, hnow]
      exact hask _ _ 0 h

theorem scan_spec {K V : Ty} {n : K.den} {d x : V.den} : ∀ (es : List MapEntry) (l : List (K.den × V.den)) (i : Nat), entsH ow w K V es l →
    (scanK K V n es l i = none ∧ @mapGet _ _ K.eqD d l n = d ∧ @mapHas _ _ K.eqD l n = false ∧ @mapSet _ _ K.eqD x l n = l ++ [(n, x)]) ∨
    ∃ j e, scanK K V n es l i = some (i + j, e.val) ∧ es[j]? = some e ∧ e.key = keyV K n ∧ V.rep ow w [e.val] (@mapGet _ _ K.eqD d l n) ∧ @mapHas _ _ K.eqD l n = true ∧
      ∀ (ow' : Own) (w' : World) (u : Value), Keep ow w ow' w' → V.rep ow' w' [u] x → entsH ow' w' K V (es.modify j fun e => { e with key := keyV K n, val := u }) (@mapSet _ _ K.eqD x l n)
  | [], l, i, h => by
    have : l = [] := h
    subst this
    exact .inl ⟨rfl, rfl, rfl, rfl⟩
  | e :: es, _, i, ⟨a, y, r, rfl, h1, h2, h3, h4⟩ => by
    letI := K.eqD
    by_cases hn : n = a
    · subst hn
      right
      refine ⟨0, e, ?_, rfl, h1, ?_, ?_, ?_⟩
      · unfold scanK
        rw [if_pos (by exact decide_eq_true rfl)]
        rfl
      · simpa [mapGet] using h3
      · simp [mapHas]
      · intro ow' w' u hk hu
        simp only [mapSet, decide_true, cond_true]
        refine ⟨n, x, r, rfl, ?_, h2, ?_, entsH_keep hk ?_⟩ <;> simp [h4, hu]
    · have hd : @decide (n = a) (K.eqD n a) = false := decide_eq_false hn
      rcases scan_spec (n := n) (d := d) (x := x) es r (i + 1) h4 with ⟨k1, k2, k4, k3⟩ | ⟨j, e', k1, k2, k3, k4, k6, k5⟩
      · left
        simp only [scanK, mapGet, mapSet, mapHas, hd, cond_false, Bool.false_eq_true, if_false]
        exact ⟨k1, k2, k4, by rw [k3]; rfl⟩
      · right
        refine ⟨j + 1, e', ?_, by simpa using k2, k3, ?_, ?_, ?_⟩
        · simp only [scanK, hd, Bool.false_eq_true, if_false]
          rw [k1, Nat.add_assoc, Nat.add_comm 1 j]
        · simp only [mapGet, hd, cond_false]
          exact k4
        · simp only [mapHas, hd, cond_false]
          exact k6
        · intro ow' w' u hk hu
          simp only [mapSet, hd, cond_false]
          exact ⟨a, y, _, rfl, h1, h2, Ty.rep_keep hk h3, k5 ow' w' u hk hu⟩

theorem entsH_app {K V : Ty} {n : K.den} {x : V.den} {e : MapEntry} (h1 : e.key = keyV K n) (h2 : keyFit K n) (h3 : V.rep ow w [e.val] x) : ∀ {es : List MapEntry} {l : List (K.den × V.den)}, entsH ow w K V es l → entsH ow w K V (es ++ [e]) (l ++ [(n, x)])
  | [], l, h => by
    have : l = [] := h
    subst this
    exact ⟨n, x, [], rfl, h1, h2, h3, rfl⟩
  | e0 :: es, _, ⟨a, y, r, rfl, k1, k2, k3, k4⟩ => ⟨a, y, _, rfl, k1, k2, k3, entsH_app h1 h2 h3 k4⟩

theorem checkKey_run {kt : TypeId} {K : Ty} (hK : keyTy P kt = some K) (n : K.den) (b : Bool) : (Instr.checkKey b 10000 kt (keyV K n)).run P w = .ok () w := by
  rcases keyTy_spec hK with ⟨k, rfl, hu⟩ | ⟨rfl, hu⟩ | ⟨fs, f, g, k, q, rfl, hu, hfs, h1, h2, c1, c2, c3, c4, c5⟩
  · exact MapKept.run_checkKey hu (by simp [MapKept.IsKey, keyV]) b 9999
  · exact MapKept.run_checkKey hu (by simp [MapKept.IsKey, keyV]) b 9999
  · have e1 : (part f.type #[.int k n.1, .int q n.2.1] f.offset).run P w = .ok (.int k n.1) w := by
      simp [part, isAgg, run_underlying h1, c3]
    have e2 : (part g.type #[.int k n.1, .int q n.2.1] g.offset).run P w = .ok (.int q n.2.1) w := by
      simp [part, isAgg, run_underlying h2, c4]
    have k1 := MapKept.run_checkKey (w := w) h1 (k := .int k n.1) (by simp [MapKept.IsKey]) b 9998
    have k2 := MapKept.run_checkKey (w := w) h2 (k := .int q n.2.1) (by simp [MapKept.IsKey]) b 9998
    show (Instr.checkKey b (9999 + 1) kt (.agg #[.int k n.1, .int q n.2.1])).run P w = _
    rw [Instr.checkKey]
    simp only [Sem.run_bind, run_underlying hu, Result.andThen_ok]
    rw [← Array.forIn_toList, hfs]
    simp only [List.forIn_cons, List.forIn_nil, c1, c2, ne_eq, not_false_eq_true, if_true, Sem.run_bind, e1, e2, k1, k2, Result.andThen_ok, Sem.run_pure]

theorem stays_run {K : Ty} {kt : TypeId} (hK : keyTy P kt = some K) (n : K.den) : (Instr.keyThatStays (keyV K n) (keyV K n)).run P w = .ok (keyV K n) w := by
  rcases keyTy_spec hK with ⟨k, rfl, hu⟩ | ⟨rfl, hu⟩ | ⟨fs, f, g, k, q, rfl, hu, hfs, h1, h2, c1, c2, c3, c4, c5⟩
  · simp [Instr.keyThatStays, Instr.sameBits, keyV]
  · have : ((n : ByteArray) == n) = true := by rw [beqB]; exact decide_eq_true rfl
    simp [Instr.keyThatStays, Instr.sameBits, keyV, this]
  · simp [Instr.keyThatStays, Instr.sameBits, keyV]

theorem ans_ok {t : TypeId} {K V : Ty} (hk : mapKinds P t = some (K, V)) {ok : Bool} {out : Out} {n : K.den} {l : List (K.den × V.den)} {g clock : Nat} {es : Array MapEntry} (h2 : w.heap[g]? = some (.map es clock)) (h4 : entsH ow w K V es.toList l)
    (hr : (ansLook ok K V l n).run hp = some out) : out.upd = [] ∧ ∃ u, (Instr.lookup t (.map (some g)) (keyV K n) ok).run P w = .ok u w ∧ out.res.holds φ ow w [u] := by
  obtain ⟨kt, e, z, i, m1, m2, m3, m4, m5, m6⟩ := mapKinds_spec (ow := ow) (w := w) hk
  have hck := fun b => checkKey_run (w := w) m2 n b
  have hfk := findKey_run (w := w) (n := n) m2 h4
  unfold ansLook at hr
  have fin : ∀ (v : Value) (b : Bool), V.rep ow w [v] (@mapGet _ _ K.eqD V.dflt l n) → @mapHas _ _ K.eqD l n = b → (Instr.lookup t (.map (some g)) (keyV K n) ok).run P w = .ok (if ok then .tuple #[v, .bool b] else v) w → out.upd = [] ∧ ∃ u, (Instr.lookup t (.map (some g)) (keyV K n) ok).run P w = .ok u w ∧ out.res.holds φ ow w [u] := by
    intro v b hv hb hrun
    cases ok with
    | false =>
      simp only [cond_false, Req.ret, Req.run, Option.some.injEq] at hr
      subst hr
      exact ⟨rfl, v, hrun, rfl, m5, hv⟩
    | true =>
      simp only [cond_true, Req.ret, Req.run, Option.some.injEq] at hr
      subst hr
      refine ⟨rfl, _, hrun, #[v, .bool b], rfl, v, [.bool b], rfl, ⟨rfl, m5, hv⟩, .bool b, [], rfl, ⟨rfl, rfl, ?_⟩, rfl⟩
      show [Value.bool b] = [.bool _]
      rw [hb]
  rcases scan_spec (n := n) (d := V.dflt) (x := V.dflt) es.toList l 0 h4 with ⟨k1, k3, k4, _⟩ | ⟨j, e0, k1, _, _, k4, k6, _⟩
  · rw [k1] at hfk
    refine fin z false (by rw [k3]; exact m6) k4 ?_
    cases ok <;> simp [Instr.lookup, run_underlying m1, MapKept.run_getObj_map h2, hck, hfk, zeroValue, typeInfo, m3, m4]
  · rw [k1] at hfk
    refine fin e0.val true k4 k6 ?_
    cases ok <;> simp [Instr.lookup, run_underlying m1, MapKept.run_getObj_map h2, hck, hfk]

theorem lookup_ok (H : Hyp hp nx φ ow w) {t : TypeId} {m ix : AV} {vm vi : Value} {ok : Bool} {out : Out} (hr : (reqLookup P t m ix ok).run hp = some out) (hm : m.holds φ ow w [vm]) (hx : ix.holds φ ow w [vi]) :
    out.upd = [] ∧ ∃ u, (Instr.lookup t vm vi ok).run P w = .ok u w ∧ out.res.holds φ ow w [u] := by
  unfold reqLookup at hr
  split at hr <;> try (simp [Req.run] at hr; done)
  rename_i K V hk
  split at hr <;> try (simp [Req.run] at hr; done)
  rename_i n hn
  obtain ⟨rfl, hfit⟩ := keyAV_ok hn hx
  split at hr <;> try (simp [Req.run] at hr; done)
  · rename_i id
    simp only [Req.run] at hr
    obtain ⟨g, hφ, e'⟩ := hm
    injection e' with e'
    subst e'
    have hch := H.chunk id
    generalize hp id = ch at hr hch
    cases ch <;> try (simp [Req.run] at hr; done)
    rename_i K2 V2 l
    simp only at hr
    split at hr <;> try (simp [Req.run] at hr; done)
    rename_i hV
    subst hV
    split at hr <;> try (simp [Req.run] at hr; done)
    rename_i hk2
    subst hk2
    obtain ⟨g', es, clock, hφ', h1, h2, h3, h4⟩ := hch
    rw [hφ] at hφ'
    injection hφ' with hφ'; injection hφ' with hφ'; injection hφ' with hφ'
    subst hφ'
    exact ans_ok hk h2 h4 hr
  · rename_i T l
    split at hr <;> try (simp [Req.run] at hr; done)
    rename_i hT
    subst hT
    obtain ⟨_, _, g, es, clock, e, h1, h2, h3, h4⟩ := hm
    injection e with e
    subst e
    exact ans_ok hk h2 h4 hr

theorem mapSet_ok (H : Hyp hp nx φ ow w) {t : TypeId} {m ix x : AV} {vm vi vx : Value} {out : Out} (hr : (reqMapSet P t m ix x).run hp = some out) (hm : m.holds φ ow w [vm]) (hi : ix.holds φ ow w [vi]) (hx : x.holds φ ow w [vx]) :
    ∃ w', (Instr.mapUpdate t vm vi vx).run P w = .ok () w' ∧ Post out nx φ ow w undef w' := by
  unfold reqMapSet at hr
  split at hr <;> try (simp [Req.run] at hr; done)
  rename_i K V id V' y hk
  split at hr <;> try (simp [Req.run] at hr; done)
  rename_i n hn
  simp only [Req.run] at hr
  obtain ⟨rfl, hfit⟩ := keyAV_ok hn hi
  obtain ⟨_, _, hy⟩ := hx
  obtain ⟨g, hφ, e'⟩ := hm
  injection e' with e'
  subst e'
  have hch := H.chunk id
  generalize hp id = ch at hr hch
  cases ch <;> try (simp [Req.run] at hr; done)
  rename_i K2 V2 l
  simp only at hr
  split at hr <;> try (simp [Req.run] at hr; done)
  rename_i hV
  subst hV
  split at hr <;> try (simp [Req.run] at hr; done)
  rename_i hV'
  subst hV'
  split at hr <;> try (simp [Req.run] at hr; done)
  rename_i hk2
  subst hk2
  simp only [Req.run, Option.some.injEq] at hr
  subst hr
  obtain ⟨g', es, clock, hφ', h1, h2, h3, h4⟩ := hch
  rw [hφ] at hφ'
  injection hφ' with hφ'; injection hφ' with hφ'; injection hφ' with hφ'
  subst hφ'
  obtain ⟨kt, e, z, i, m1, m2, m3, m4, m5, m6⟩ := mapKinds_spec (ow := ow) (w := w) hk
  have hck := fun b => checkKey_run (w := w) m2 n b
  have hfk := findKey_run (w := w) (n := n) m2 h4
  have fin : ∀ (es' : Array MapEntry) (clock' : Nat), (Instr.mapUpdate t (.map (some g)) (keyV K2 n) vx).run P w = .ok () { w with heap := w.heap.setIfInBounds g (.map es' clock') } →
      (∀ w', Keep ow w ow w' → entsH ow w' K2 V' es'.toList (@mapSet _ _ K2.eqD y l n)) → ∃ w', (Instr.mapUpdate t (.map (some g)) (keyV K2 n) vx).run P w = .ok () w' ∧ Post ⟨[l.length < lim], .raw undef, [(id, .mp K2 V' (@mapSet _ _ K2.eqD (coeT rfl y) (coeM rfl rfl l) n))]⟩ nx φ ow w undef w' := by
    intro es' clock' hrun hents
    obtain ⟨hs1, hs2⟩ := MapKept.heap_set (o' := Obj.map es' clock') h2
    have E : Ext [id] nx φ ow w φ ow { w with heap := w.heap.setIfInBounds g (.map es' clock') } := by
      refine ⟨by simp, rfl, rfl, rfl, fun b hb h => ⟨rfl, hs2 b ?_⟩, fun b i h => ⟨by simpa using (H.own b i h).1, .inr ⟨(H.own b i h).1, h⟩⟩, PhiLe.refl _, fun _ _ => rfl⟩
      intro e
      subst e
      exact h id h1 (by simp)
    refine ⟨_, hrun, φ, ow, E, rfl, ?_⟩
    intro p hp
    simp only [List.mem_singleton] at hp
    subst hp
    exact ⟨g, es', clock', hφ, h1, hs1, h3, hents _ E.keep⟩
  rcases scan_spec (n := n) (d := V'.dflt) (x := y) es.toList l 0 h4 with ⟨k1, _, _, k3⟩ | ⟨j, e0, k1, k2', k3, _, _, k5⟩
  · rw [k1] at hfk
    refine fin (es.push { key := keyV K2 n, val := vx, born := clock }) (clock + 1) ?_ ?_
    · simp [Instr.mapUpdate, run_underlying m1, MapKept.run_getObj_map h2, hck, hfk, MapKept.run_setObj_map _ h2]
    · intro w' hk'
      rw [k3, Array.toList_push]
      exact entsH_app rfl hfit (Ty.rep_keep hk' hy) (entsH_keep hk' h4)
  · rw [k1, Nat.zero_add] at hfk
    have hj : es[j]? = some e0 := by simpa using k2'
    refine fin (es.modify j fun e => { e with key := keyV K2 n, val := vx }) clock ?_ ?_
    · have hkeep := stays_run (P := P) (w := w) m2 n
      simp [Instr.mapUpdate, run_underlying m1, MapKept.run_getObj_map h2, hck, hfk, MapKept.run_setObj_map _ h2, hj, k3, hkeep]
    · intro w' hk'
      rw [Array.toList_modify]
      exact k5 ow w' vx hk' (Ty.rep_keep hk' hy)

end
end GoSx
end
section
/- Sx, part I: the rules are right: maps of rows whose contents nobody tracks, channels. -/
set_option linter.unusedVariables false
set_option linter.unusedSimpArgs false
namespace GoSx
open Go

section
variable {φ : Hnd} {ow : Own} {w : World} {P : Program} {hp : Nat → Chunk} {nx : Nat}

theorem mapOKinds_spec {t : TypeId} {K : Ty} {e' : TypeId} (h : mapOKinds P t = some (K, e')) : ∃ kt e i0, P.underlying t = some (.map kt e) ∧ keyTy P kt = some K ∧ P.info? e = some i0 ∧ i0.zero = some (.slice none 0 0) := by
  unfold mapOKinds at h
  split at h <;> try (cases h; done)
  rename_i kt e hu
  split at h <;> try (cases h; done)
  rename_i K' e2 h1 h2 h3
  split at h <;> try (cases h; done)
  split at h <;> try (cases h; done)
  injection h with h
  injection h with g1 g2
  subst g1; subst g2
  cases hi : P.info? e with
  | none => rw [hi] at h3; cases h3
  | some i0 =>
    rw [hi] at h3
    exact ⟨kt, e, i0, hu, h1, hi, h3⟩

theorem makeMapX_ok (H : Hyp hp nx φ ow w) {t : TypeId} {out : Out} (hr : (reqMakeMapX P t nx).run hp = some out) : ∃ u w', (Instr.makeMap t none).run P w = .ok u w' ∧ Post out nx φ ow w u w' := by
  unfold reqMakeMapX at hr
  split at hr
  · rename_i K e hk
    simp only [Req.run, Option.some.injEq] at hr
    subst hr
    have hrun : (Instr.makeMap t none).run P w = .ok (.map (some w.heap.size)) (w.alloc (.map #[] 0)) := rfl
    have E := Ext.new (w' := w.alloc (.map #[] 0)) H [] (.map (some w.heap.size)) rfl rfl rfl rfl
    refine ⟨_, _, hrun, _, _, E, ⟨_, newPhi_self _, rfl⟩, ?_⟩
    intro p hp
    simp only [List.mem_singleton] at hp
    subst hp
    exact ⟨w.heap.size, #[], 0, [], newPhi_self _, by simp [newOw], new_block (w' := w.alloc (.map #[] 0)) rfl, rfl, fun k hk => by cases hk⟩
  · exact makeMap_ok H hr

theorem makeChan_ok (H : Hyp hp nx φ ow w) {t : TypeId} {x : AV} {vx : Value} {out : Out} (hr : (reqMakeChan P t x nx).run hp = some out) (hx : x.holds φ ow w [vx]) (hobl : ∀ p ∈ out.obls, p) : ∃ u w', (Instr.makeChan t vx).run P w = .ok u w' ∧ Post out nx φ ow w u w' := by
  unfold reqMakeChan at hr
  split at hr <;> try (simp [Req.run] at hr; done)
  rename_i dir elem n hu
  split at hr <;> try (simp [Req.run] at hr; done)
  rename_i i hi
  simp only [Req.run, Option.some.injEq] at hr
  subst hr
  obtain ⟨rfl, hn⟩ := int_holds hx
  have h0 : (0 : Int) ≤ n := hobl _ (by simp)
  have h1 : n ≤ IntKind.i64.max := hobl _ (by simp)
  have h2 : (i.bytes : Int) * n ≤ 2 ^ 48 - 112 := hobl _ (by simp)
  have hmax : IntKind.i64.max = 9223372036854775807 := rfl
  obtain ⟨m, rfl⟩ := Int.eq_ofNat_of_zero_le h0
  have hp48 : (2 ^ 48 - 112 : Int) = 281474976710544 := by decide
  have hrun := Go.Conc.run_makeChan (w := w) hu hi .i64 m (le_of_le_of_eq h1 hmax) (by omega)
  have E := Ext.new (w' := w.alloc (.chan m #[] false 0 0 false)) H [] (.chan (some w.heap.size)) rfl rfl rfl rfl
  refine ⟨_, _, hrun, _, _, E, ⟨_, newPhi_self _, rfl⟩, ?_⟩
  intro p hp
  simp only [List.mem_singleton] at hp
  subst hp
  exact ⟨w.heap.size, m, 0, 0, #[], newPhi_self _, by simp [newOw], new_block (w' := w.alloc (.chan m #[] false 0 0 false)) rfl, rfl, rfl⟩

/-- What the search for a key tells. -/
theorem scanO_spec {K : Ty} {n : K.den} {R : List Value → Unit → Prop} : ∀ (es : List MapEntry) (l : List (K.den × Ty.unit.den)) (i : Nat), entsR (α := Ty.unit.den) R K es l →
    (scanK K .unit n es l i = none) ∨
    ∃ j e, scanK K .unit n es l i = some (i + j, e.val) ∧ es[j]? = some e ∧ e.key = keyV K n ∧ R [e.val] () ∧
      ∀ (R' : List Value → Unit → Prop) (u : Value), (∀ c a, R c a → R' c a) → R' [u] () → entsR (α := Ty.unit.den) R' K (es.modify j fun e => { e with key := keyV K n, val := u }) l
  | [], l, i, h => .inl (by cases l <;> rfl)
  | e :: es, _, i, ⟨a, y, r, rfl, h1, h2, h3, h4⟩ => by
    letI := K.eqD
    by_cases hn : n = a
    · subst hn
      right
      refine ⟨0, e, ?_, rfl, h1, h3, ?_⟩
      · unfold scanK
        rw [if_pos (by exact decide_eq_true rfl)]
        rfl
      · intro R' u hm hu
        refine ⟨n, y, r, rfl, ?_, h2, ?_, ?_⟩
        · rfl
        · exact hu
        · simpa using entsR_mono hm h4
    · have hd : @decide (n = a) (K.eqD n a) = false := decide_eq_false hn
      rcases scanO_spec (n := n) es r (i + 1) h4 with k1 | ⟨j, e', k1, k2, k3, k4, k5⟩
      · left
        simp only [scanK, hd, Bool.false_eq_true, if_false]
        exact k1
      · right
        refine ⟨j + 1, e', ?_, by simpa using k2, k3, k4, ?_⟩
        · simp only [scanK, hd, Bool.false_eq_true, if_false]
          rw [k1, Nat.add_assoc, Nat.add_comm 1 j]
        · intro R' u hm hu
          exact ⟨a, y, _, rfl, h1, h2, hm _ _ h3, k5 R' u hm hu⟩

theorem entsR_app {α : Type} {R : List Value → α → Prop} {K : Ty} {n : K.den} {x : α} {e : MapEntry} (h1 : e.key = keyV K n) (h2 : keyFit K n) (h3 : R [e.val] x) : ∀ {es : List MapEntry} {l : List (K.den × α)}, entsR R K es l → entsR R K (es ++ [e]) (l ++ [(n, x)])
  | [], l, h => by
    have : l = [] := h
    subst this
    exact ⟨n, x, [], rfl, h1, h2, h3, rfl⟩
  | e0 :: es, _, ⟨a, y, r, rfl, k1, k2, k3, k4⟩ => ⟨a, y, _, rfl, k1, k2, k3, entsR_app h1 h2 h3 k4⟩

theorem rowO_one {id : Nat} {e : TypeId} {B : Int} {v : Value} (h : rowO ow w id e B v) : v.oneCell' = true := by
  rcases h with ⟨rfl, _⟩ | ⟨b, n, c, cur, rfl, _⟩ <;> simp [Value.oneCell']

theorem lookupX_ok (H : Hyp hp nx φ ow w) {t : TypeId} {m ix : AV} {vm vi : Value} {ok : Bool} {out : Out} (hr : (reqLookupX P t m ix ok nx).run hp = some out) (hm : m.holds φ ow w [vm]) (hx : ix.holds φ ow w [vi]) (hobl : ∀ p ∈ out.obls, p) :
    ∃ u, (Instr.lookup t vm vi ok).run P w = .ok u w ∧ Post out nx φ ow w u w := by
  unfold reqLookupX at hr
  split at hr
  · rename_i K e hk
    split at hr <;> try (simp [Req.run] at hr; done)
    rename_i n hn
    obtain ⟨rfl, hfit⟩ := keyAV_ok hn hx
    split at hr <;> try (simp [Req.run] at hr; done)
    rename_i id
    simp only [Req.run] at hr
    obtain ⟨g, hφ, e'⟩ := hm
    injection e' with e'
    subst e'
    have hch := H.chunk id
    generalize hp id = ch at hr hch
    cases ch <;> try (simp [Req.run] at hr; done)
    rename_i K2 e2 B outs
    simp only at hr
    split at hr <;> try (simp [Req.run] at hr; done)
    rename_i hc
    obtain ⟨rfl, rfl, rfl⟩ := hc
    simp only [Req.run, Option.some.injEq] at hr
    subst hr
    have hB : 0 ≤ B := hobl _ (by simp)
    obtain ⟨g', es, clock, L, hφ', h1, h2, h4, h5⟩ := hch
    rw [hφ] at hφ'
    injection hφ' with hφ'; injection hφ' with hφ'; injection hφ' with hφ'
    subst hφ'
    obtain ⟨kt, ev, i0, m1, m2, m3, m4⟩ := mapOKinds_spec hk
    have hck := fun b => checkKey_run (w := w) m2 n b
    have hfk := findKey_run (w := w) (V := .unit) (n := n) m2 h4
    have fin : ∀ u, (Instr.lookup t (.map (some g)) (keyV K2 n) false).run P w = .ok u w → rowO ow w id e2 B u → ∃ u, (Instr.lookup t (.map (some g)) (keyV K2 n) false).run P w = .ok u w ∧ Post ⟨[0 ≤ B], .opq nx, [(nx, .orw id), (id, .mpo K2 e2 B (nx :: outs))]⟩ nx φ ow w u w := by
      intro u hrun hu
      refine ⟨u, hrun, newPhi φ nx u, ow, ⟨Nat.le_refl _, rfl, rfl, rfl, fun b hb h => ⟨rfl, rfl⟩, fun b i h => ⟨(H.own b i h).1, .inr ⟨(H.own b i h).1, h⟩⟩, newPhi_le H u, ?_⟩, ⟨u, newPhi_self _, rfl, rowO_one hu⟩, ?_⟩
      · intro j hj
        unfold newPhi
        rw [if_neg (by omega)]
      · intro p hp
        simp only [List.mem_cons, List.not_mem_nil, or_false] at hp
        rcases hp with rfl | rfl
        · trivial
        · refine ⟨g, es, clock, L, newPhi_le H u _ _ hφ, h1, h2, h4, fun j hj => ?_⟩
          rcases List.mem_cons.1 hj with rfl | hj
          · exact ⟨u, newPhi_self _, hu⟩
          · obtain ⟨v, e1, e2⟩ := h5 j hj
            exact ⟨v, newPhi_le H u _ _ e1, e2⟩
    rcases scanO_spec (n := n) es.toList L 0 h4 with k1 | ⟨j, e0, k1, _, _, ⟨v, k4, k5⟩, _⟩
    · rw [k1] at hfk
      refine fin (.slice none 0 0) ?_ (.inl ⟨rfl, hB⟩)
      simp [Instr.lookup, run_underlying m1, MapKept.run_getObj_map h2, hck, hfk, zeroValue, typeInfo, m3, m4]
    · rw [k1] at hfk
      injection k4 with k4
      refine fin e0.val ?_ (by rw [k4]; exact k5)
      simp [Instr.lookup, run_underlying m1, MapKept.run_getObj_map h2, hck, hfk]
  · obtain ⟨h0, u, h1, h2⟩ := lookup_ok H hr hm hx
    exact ⟨u, h1, Post.pure H h0 h2⟩

theorem rowO_set {g : Nat} {es : Array MapEntry} {clock : Nat} {o : Obj} (h2 : w.heap[g]? = some (.map es clock)) {id : Nat} {e : TypeId} {B : Int} {v : Value} (h : rowO ow w id e B v) : rowO ow { w with heap := w.heap.setIfInBounds g o } id e B v := by
  rcases h with h | ⟨b, n, c, cur, q1, q2, q3, q4⟩
  · exact .inl h
  · have hb : b ≠ g := by
      intro hb
      subst hb
      rw [h2] at q3
      cases q3
    exact .inr ⟨b, n, c, cur, q1, q2, ((MapKept.heap_set (o' := o) h2).2 b hb).trans q3, q4⟩

theorem mapSetX_ok (H : Hyp hp nx φ ow w) {t : TypeId} {m ix x : AV} {vm vi vx : Value} {out : Out} (hr : (reqMapSetX P t m ix x).run hp = some out) (hm : m.holds φ ow w [vm]) (hi : ix.holds φ ow w [vi]) (hx : x.holds φ ow w [vx]) :
    ∃ w', (Instr.mapUpdate t vm vi vx).run P w = .ok () w' ∧ Post out nx φ ow w undef w' := by
  unfold reqMapSetX at hr
  split at hr
  · rename_i K e hk
    split at hr <;> try (simp [Req.run] at hr; done)
    rename_i n id k hn
    obtain ⟨rfl, hfit⟩ := keyAV_ok hn hi
    simp only [Req.run] at hr
    obtain ⟨g, hφ, e'⟩ := hm
    injection e' with e'
    subst e'
    have hch := H.chunk id
    generalize hp id = ch at hr hch
    cases ch <;> try (simp [Req.run] at hr; done)
    rename_i K2 e2 B outs
    simp only at hr
    split at hr <;> try (simp [Req.run] at hr; done)
    rename_i hc
    obtain ⟨rfl, rfl, hmem⟩ := hc
    simp only [Req.run, Option.some.injEq] at hr
    subst hr
    obtain ⟨g', es, clock, L, hφ', h1, h2, h4, h5⟩ := hch
    rw [hφ] at hφ'
    injection hφ' with hφ'; injection hφ' with hφ'; injection hφ' with hφ'
    subst hφ'
    obtain ⟨v, hv, hrow⟩ := h5 k (memN_iff.1 hmem)
    obtain ⟨v0, hv0, e0, _⟩ := hx
    rw [hv] at hv0
    injection hv0 with hv0
    injection e0 with e0
    subst hv0; subst e0
    obtain ⟨kt, ev, i0, m1, m2, m3, m4⟩ := mapOKinds_spec hk
    have hck := fun b => checkKey_run (w := w) m2 n b
    have hfk := findKey_run (w := w) (V := .unit) (n := n) m2 h4
    have fin : ∀ (es' : Array MapEntry) (clock' : Nat) (L' : List (K2.den × Unit)), (Instr.mapUpdate t (.map (some g)) (keyV K2 n) vx).run P w = .ok () { w with heap := w.heap.setIfInBounds g (.map es' clock') } →
        entsR (rowO1 ow { w with heap := w.heap.setIfInBounds g (.map es' clock') } id e2 B) K2 es'.toList L' → ∃ w', (Instr.mapUpdate t (.map (some g)) (keyV K2 n) vx).run P w = .ok () w' ∧ Post ⟨[], .raw undef, [(id, .mpo K2 e2 B outs)]⟩ nx φ ow w undef w' := by
      intro es' clock' L' hrun hents
      obtain ⟨hs1, hs2⟩ := MapKept.heap_set (o' := Obj.map es' clock') h2
      have E : Ext [id] nx φ ow w φ ow { w with heap := w.heap.setIfInBounds g (.map es' clock') } := by
        refine ⟨by simp, rfl, rfl, rfl, fun b hb h => ⟨rfl, hs2 b ?_⟩, fun b i h => ⟨by simpa using (H.own b i h).1, .inr ⟨(H.own b i h).1, h⟩⟩, PhiLe.refl _, fun _ _ => rfl⟩
        intro e
        subst e
        exact h id h1 (by simp)
      refine ⟨_, hrun, φ, ow, E, rfl, ?_⟩
      intro p hp
      simp only [List.mem_singleton] at hp
      subst hp
      refine ⟨g, es', clock', L', hφ, h1, hs1, hents, fun j hj => ?_⟩
      obtain ⟨v, e1, e2⟩ := h5 j hj
      exact ⟨v, e1, rowO_set h2 e2⟩
    rcases scanO_spec (n := n) es.toList L 0 h4 with k1 | ⟨j, e0, k1, k2', k3, _, k5⟩
    · rw [k1] at hfk
      refine fin (es.push { key := keyV K2 n, val := vx, born := clock }) (clock + 1) (L ++ [(n, ())]) ?_ ?_
      · simp [Instr.mapUpdate, run_underlying m1, MapKept.run_getObj_map h2, hck, hfk, MapKept.run_setObj_map _ h2]
      · rw [Array.toList_push]
        exact entsR_app rfl hfit ⟨vx, rfl, rowO_set h2 hrow⟩ (entsR_mono (fun c a ⟨v, e1, e2⟩ => ⟨v, e1, rowO_set h2 e2⟩) h4)
    · rw [k1, Nat.zero_add] at hfk
      have hj : es[j]? = some e0 := by simpa using k2'
      refine fin (es.modify j fun e => { e with key := keyV K2 n, val := vx }) clock L ?_ ?_
      · have hkeep := stays_run (P := P) (w := w) m2 n
        simp [Instr.mapUpdate, run_underlying m1, MapKept.run_getObj_map h2, hck, hfk, MapKept.run_setObj_map _ h2, hj, k3, hkeep]
      · rw [Array.toList_modify]
        exact k5 _ vx (fun c a ⟨v, e1, e2⟩ => ⟨v, e1, rowO_set h2 e2⟩) ⟨vx, rfl, rowO_set h2 hrow⟩
  · exact mapSet_ok H hr hm hi hx

end
end GoSx
end
section
/- Sx, part G: the rules are right: structs out of parts, and their parts. -/
set_option linter.unusedVariables false
set_option linter.unusedSimpArgs false
namespace GoSx
open Go

section
variable {φ : Hnd} {ow : Own} {w : World} {P : Program} {hp : Nat → Chunk} {nx : Nat}

theorem fillAV_ok {places : List (Nat × Nat)} : ∀ (parts : List (Nat × AV)) (ps : List (Nat × Value)) (cells c : AV) (acc : Array Value), partsH φ ow w parts ps → fillAV places cells parts = some c → cells.holds φ ow w acc.toList →
    ∃ r, Instr.fill (places.toArray[·]?) acc ps = some r ∧ c.holds φ ow w r.toList
  | [], [], cells, c, acc, _, h, hc => by
    simp only [fillAV, Option.some.injEq] at h
    subst h
    exact ⟨acc, rfl, hc⟩
  | [], _ :: _, _, _, _, hps, _, _ => hps.elim
  | _ :: _, [], _, _, _, hps, _, _ => hps.elim
  | (f, x) :: parts, (f', v) :: ps, cells, c, acc, ⟨hf, hx, hps⟩, h, hc => by
    simp only at hf hx
    subst hf
    unfold fillAV at h
    split at h <;> try (cases h; done)
    rename_i off size hp
    split at h <;> try (cases h; done)
    rename_i hcond
    obtain ⟨c1, c2, c3, c4⟩ := hcond
    obtain ⟨k1, k2⟩ := cells_one hx c2 c3
    have hl := len_list c3 k1
    have hlc := len_le hc
    simp only [Array.length_toList] at hl hlc
    have hset := setAt_holds off c3 c4 k1 hc
    have hput := put_cells off v.cells.toList 0 acc (by simp; omega)
    have hfold : (v.cells.zipIdx.foldl (fun (cs : Array Value) (c, j) => cs.setIfInBounds (off + j) c) acc).toList = acc.toList.take off ++ v.cells.toList ++ acc.toList.drop (off + v.cells.toList.length) := by
      rw [← Array.foldl_toList, Array.toList_zipIdx]
      simpa using hput
    generalize ha : v.cells.zipIdx.foldl (fun (cs : Array Value) (c, j) => cs.setIfInBounds (off + j) c) acc = acc' at hfold
    obtain ⟨r, h1, h2⟩ := fillAV_ok parts ps _ c acc' hps h (by rw [hfold]; exact hset)
    refine ⟨r, ?_, h2⟩
    have hpl : places.toArray[f]? = some (off, size) := by simpa using hp
    have hpre : ¬ (v.cells.size ≠ size || off + v.cells.size > acc.size) = true := by
      simp
      omega
    simp only [Instr.fill, hpl]
    rw [if_neg hpre, ha]
    exact h1

theorem fill_mono {f g : Nat → Option (Nat × Nat)} (hfg : ∀ i p, f i = some p → g i = some p) : ∀ (ps : List (Nat × Value)) (acc r : Array Value), Instr.fill f acc ps = some r → Instr.fill g acc ps = some r
  | [], acc, r, h => h
  | (i, v) :: ps, acc, r, h => by
    simp only [Instr.fill] at h ⊢
    cases hf : f i with
    | none => rw [hf] at h; simp at h
    | some p =>
      obtain ⟨off, size⟩ := p
      rw [hfg i _ hf]
      rw [hf] at h
      simp only at h ⊢
      split at h
      · cases h
      · rename_i hc
        rw [if_neg hc]
        exact fill_mono hfg ps _ r h

theorem buildS_ok (H : Hyp hp nx φ ow w) {t : TypeId} {parts : List (Nat × AV)} {ps : List (Nat × Value)} {out : Out} (hr : (reqBuild P t parts).run hp = some out) (hps : partsH φ ow w parts ps) :
    out.upd = [] ∧ ∃ u, (Instr.build t ps.toArray).run P w = .ok u w ∧ out.res.holds φ ow w [u] := by
  unfold reqBuild at hr
  split at hr <;> try (simp [Req.run] at hr; done)
  · rename_i it fs hi hu
    split at hr <;> try (simp [Req.run] at hr; done)
    rename_i z places hz hpl
    split at hr <;> try (simp [Req.run] at hr; done)
    rename_i c hc
    simp only [Req.ret, Req.run, Option.some.injEq] at hr
    subst hr
    obtain ⟨r, h1, h2⟩ := fillAV_ok parts ps _ c z.cells hps hc (constCells_holds z.cells.toList)
    refine ⟨rfl, .agg r, Go.run_build w t ps.toArray r ?_, r, rfl, h2⟩
    unfold Program.built
    simp only [hi, hu, hz, hpl]
    exact h1
  · rename_i it m e hi hu
    split at hr <;> try (simp [Req.run] at hr; done)
    rename_i z ie hz hie
    split at hr <;> try (simp [Req.run] at hr; done)
    rename_i c hc
    simp only [Req.ret, Req.run, Option.some.injEq] at hr
    subst hr
    obtain ⟨r, h1, h2⟩ := fillAV_ok parts ps _ c z.cells hps hc (constCells_holds z.cells.toList)
    refine ⟨rfl, .agg r, Go.run_build w t ps.toArray r ?_, r, rfl, h2⟩
    unfold Program.built
    simp only [hi, hu, hz, hie]
    refine fill_mono (fun i p hp => ?_) _ _ _ h1
    simp only [List.getElem?_toArray, List.getElem?_map, Option.map_eq_some_iff] at hp
    obtain ⟨j, hj, rfl⟩ := hp
    rw [List.getElem?_range] at hj
    · simp only [Option.some.injEq] at hj; subst hj; rfl
    · exact (by have := (List.getElem?_eq_some_iff.1 hj).1; simpa using this)

theorem strAt_ok {t : TypeId} {x ix : AV} {v vi : Value} {out : Out} (hr : (reqStrAt P t x ix).run hp = some out) (hx : x.holds φ ow w [v]) (hi : ix.holds φ ow w [vi]) (hobl : ∀ p ∈ out.obls, p) :
    out.upd = [] ∧ ∃ u, (Instr.index t v vi).run P w = .ok u w ∧ out.res.holds φ ow w [u] := by
  unfold reqStrAt at hr
  split at hr <;> try (simp [Req.run] at hr; done)
  rename_i s k n hu
  obtain rfl := str_holds hx
  obtain ⟨rfl, hn⟩ := int_holds hi
  simp only [Req.run, Option.some.injEq] at hr
  subst hr
  simp only [List.mem_cons, List.not_mem_nil, or_false, forall_eq_or_imp, forall_eq] at hobl
  obtain ⟨h0, h1⟩ := hobl
  have hlt : n.toNat < s.size := (Int.toNat_lt h0).2 h1
  have he : s[n.toNat]? = some (s[n.toNat]'hlt) := getElem?_pos s n.toNat hlt
  refine ⟨rfl, .int .u8 ((s[n.toNat]'hlt).toNat : Int), ?_, ?_⟩
  · simp [Instr.index, asIntOf, run_underlying hu, h0, he]
  · unfold bAt
    rw [he]
    refine int_mk ?_
    have := (s[n.toNat]'hlt).toNat_lt
    unfold IntKind.has IntKind.min IntKind.max
    simp only [IntKind.bits, IntKind.signed]
    simp
    omega

theorem fieldV_ok (H : Hyp hp nx φ ow w) {t : TypeId} {x : AV} {f : Nat} {v : Value} {out : Out} (hr : (reqFieldV P t x f).run hp = some out) (hx : x.holds φ ow w [v]) :
    out.upd = [] ∧ ∃ u, (Instr.field t v f).run P w = .ok u w ∧ out.res.holds φ ow w [u] := by
  unfold reqFieldV at hr
  split at hr <;> try (simp [Req.run] at hr; done)
  rename_i fs c hu
  split at hr <;> try (simp [Req.run] at hr; done)
  rename_i fd hfd
  split at hr <;> try (simp [Req.run] at hr; done)
  rename_i d i hd hi
  split at hr <;> try (simp [Req.run] at hr; done)
  rename_i hoff
  obtain ⟨cs, e, hc⟩ := hx
  injection e with e
  subst e
  have hlen := len_le hc
  simp only [Array.length_toList] at hlen
  unfold reqVal takeVal at hr
  have hdrop := drop_holds fd.offset hoff hc
  by_cases ha : isAggD d = true
  · rw [if_pos ha] at hr
    by_cases hn : i.size ≤ (c.drop fd.offset).len
    · rw [if_pos hn] at hr
      simp only [Req.ret, Req.run, Option.some.injEq] at hr
      subst hr
      have ht := take_holds i.size hn hdrop
      refine ⟨rfl, .agg (cs.extract fd.offset (fd.offset + i.size)), ?_, _, rfl, ?_⟩
      · simp [Instr.field, run_underlying hu, hfd, asAgg, part, run_isAgg hd, ha, run_sizeOf hi]
      · have : (cs.extract fd.offset (fd.offset + i.size)).toList = (cs.toList.drop fd.offset).take i.size := by simp
        rw [this]
        exact ht
    · rw [if_neg hn] at hr
      simp [Req.run] at hr
  · rw [if_neg ha] at hr
    generalize hcd : c.drop fd.offset = cd at hr hdrop
    cases cd <;> try (simp [Req.run] at hr; done)
    rename_i c' r
    simp only at hr
    split at hr
    · rename_i v hv
      split at hv
      · injection hv with hv
        subst hv
        simp only [Req.ret, Req.run, Option.some.injEq] at hr
        subst hr
        obtain ⟨v, rs, hcs, h1, h2⟩ := hdrop
        have hcell : cs[fd.offset]? = some v := by
          have := congrArg (·[0]?) hcs
          simpa using this
        refine ⟨rfl, v, ?_, AV.holds_strip h1⟩
        simp [Instr.field, run_underlying hu, hfd, asAgg, part, run_isAgg hd, ha, hcell]
      · cases hv
    · simp [Req.run] at hr

end
end GoSx
end
section
/- Sx, part 13: an operation does what the rules say. -/
set_option linter.unusedVariables false
set_option linter.unusedSimpArgs false
namespace GoSx
open Go

section
variable {φ : Hnd} {ow : Own} {w : World} {P : Program} {hp : Nat → Chunk} {nx : Nat}

/-- A summary is right of a function. -/
def SummOK (P : Program) (f : FuncId) (S : Summ) : Prop :=
  ∀ (av : AV) (nx : Nat) (hp : Nat → Chunk) (out : Out) (φ : Hnd) (ow : Own) (w : World) (vs : Array Value), Hyp hp nx φ ow w → av.holds φ ow w vs.toList → (S av nx).run hp = some out → (∀ p ∈ out.obls, p) →
    (callFunc f vs).run P w = .ok (.enter f vs) w ∧ Calls P f vs w (fun e w' => ∃ v, e = .returned v ∧ Post out nx φ ow w v w')

/-- What an operation runs to. -/
def OpRun (P : Program) (op : Op) (ty : TypeId) (ρ : Operand → Value) (w : World) (R : Value → World → Prop) : Prop :=
  match (execOp ρ { dst := none, op := op, type := ty, pos := "", after := #[], guard := none }).run P w with
  | .ok (.value v) w' => R v w'
  | .ok .skip w' => R undef w'
  | .ok (.enter f args) w' => Calls P f args w' fun
    | .returned v, w'' => R v w''
    | _, _ => False
  | _ => False

theorem OpRun.wp {o : Oper} {a : Act} {next : Act → World → Prop} {Q : Exit → Act → World → Prop} {R : Value → World → Prop} (h : OpRun P o.op o.type a.eval w R) (hn : ∀ v w', R v w' → next (a.put o.dst v) w') : o.wp P a w next Q := by
  unfold Oper.wp
  unfold OpRun at h
  have e : execOp a.eval { dst := none, op := o.op, type := o.type, pos := "", after := #[], guard := none } = execOp a.eval o := by cases o; rfl
  rw [e] at h
  generalize (execOp a.eval o).run P w = r at h ⊢
  cases r with
  | halt x w' => exact h.elim
  | ok n w' =>
    cases n <;> try (exact h.elim)
    · exact hn _ _ h
    · exact hn _ _ h
    · exact Calls.mono h fun e w'' he => by
        cases e with
        | returned v => exact hn _ _ he
        | panicked => exact he.elim
        | outgrown => exact he.elim

theorem listAV_list : ∀ (l : List AV), (listAV l).isList = true
  | [] => rfl
  | _ :: r => listAV_list r
theorem listAV_holds {ev : Operand → AV} {ρ : Operand → Value} (h : ∀ x, (ev x).holds φ ow w [ρ x]) : ∀ (l : List Operand), (listAV (l.map ev)).holds φ ow w (l.map ρ)
  | [] => rfl
  | x :: r => ⟨_, _, rfl, h x, listAV_holds h r⟩
theorem allH_map {ev : Operand → AV} {ρ : Operand → Value} (h : ∀ x, (ev x).holds φ ow w [ρ x]) : ∀ (l : List Operand), allH φ ow w (l.map ev) (l.map ρ)
  | [] => trivial
  | x :: r => ⟨h x, allH_map h r⟩
theorem partsH_map {ev : Operand → AV} {ρ : Operand → Value} (h : ∀ x, (ev x).holds φ ow w [ρ x]) : ∀ (l : List (Nat × Operand)), partsH φ ow w (l.map fun p => (p.1, ev p.2)) (l.map fun p => (p.1, ρ p.2))
  | [] => trivial
  | x :: r => ⟨rfl, h x.2, partsH_map h r⟩

theorem value_run {op : Op} {ty : TypeId} {ρ : Operand → Value} {s : Sem Value} (he : execOp ρ { dst := none, op := op, type := ty, pos := "", after := #[], guard := none } = (do pure (Next.value (← s)))) {R : Value → World → Prop} {u : Value} {w' : World}
    (hr : s.run P w = .ok u w') (h : R u w') : OpRun P op ty ρ w R := by
  unfold OpRun
  rw [he]
  simp [hr, h]

theorem builtin_ok (H : Hyp hp nx φ ow w) {b : Builtin} {ts : Array TypeId} {ty : TypeId} {consts : Array Bool} {args : List AV} {vs : List Value} {out : Out} (hr : (reqBuiltin P b ts.toList args nx).run hp = some out) (ha : allH φ ow w args vs) (hobl : ∀ p ∈ out.obls, p) :
    ∃ u w', (builtin b ts ty consts vs.toArray).run P w = .ok (.value u) w' ∧ Post out nx φ ow w u w' := by
  have ets : ts = ts.toList.toArray := by simp
  unfold reqBuiltin at hr
  split at hr <;> try (simp [Req.run] at hr; done)
  · rename_i t x h1
    rw [ets, h1]
    match vs, ha with
    | [v], ⟨h, _⟩ =>
      obtain ⟨h1, u, h2, h3⟩ := lenX_ok H (ty := ty) hr h hobl
      exact ⟨u, w, by simp [builtin, h2], Post.pure H h1 h3⟩
  · rename_i t t2 s x h1
    rw [ets, h1]
    match vs, ha with
    | [v, v2], ⟨h, h', _⟩ =>
      obtain ⟨u, w', h2, h3⟩ := appendX_ok H (ty := ty) hr h h' hobl
      exact ⟨u, w', by simp [builtin, h2], h3⟩
  · rename_i t t2 s x h1
    rw [ets, h1]
    match vs, ha with
    | [v, v2], ⟨h, h', _⟩ =>
      obtain ⟨u, w', h2, h3⟩ := copy_ok H (ty := ty) (t2 := t2) hr h h' hobl
      exact ⟨u, w', by simp [builtin, h2], h3⟩
  · rename_i k a r
    match vs, ha with
    | v :: vs, ⟨h, h'⟩ =>
      obtain ⟨rfl, hk⟩ := int_holds h
      obtain ⟨h1, h2, u, h3, h4⟩ := fold_ok (f := min2) (g := Builtin.min2) (fun a b => min2_has a b) (fun k a b => rfl) hr h' hk
      have e : (Builtin.min_ ts ty (Value.int k a :: vs).toArray).run P w = .ok u w := h3
      exact ⟨u, w, by simp [builtin, e], Post.pure H h2 h4⟩
  · rename_i k a r
    match vs, ha with
    | v :: vs, ⟨h, h'⟩ =>
      obtain ⟨rfl, hk⟩ := int_holds h
      obtain ⟨h1, h2, u, h3, h4⟩ := fold_ok (f := max2) (g := Builtin.max2) (fun a b => max2_has a b) (fun k a b => rfl) hr h' hk
      have e : (Builtin.max_ ts ty (Value.int k a :: vs).toArray).run P w = .ok u w := h3
      exact ⟨u, w, by simp [builtin, e], Post.pure H h2 h4⟩

theorem op_ok (H : Hyp hp nx φ ow w) {S : FuncId → Summ} (hS : ∀ f, SummOK P f (S f)) {wr : Md} {op : Op} {ty : TypeId} {ev : Operand → AV} {ρ : Operand → Value} {out : Out}
    (hr : (reqOp P S wr op ev nx).run hp = some out) (hev : ∀ x, (ev x).holds φ ow w [ρ x]) (hobl : ∀ p ∈ out.obls, p) : OpRun P op ty ρ w (Post out nx φ ow w) := by
  unfold reqOp at hr
  split at hr <;> try (simp [Req.run] at hr; done)
  · -- move
    rename_i x
    simp only [Req.ret, Req.run, Option.some.injEq] at hr
    subst hr
    exact Post.pure H rfl (hev x)
  · rename_i x
    simp only [Req.ret, Req.run, Option.some.injEq] at hr
    subst hr
    exact Post.pure H rfl (hev x)
  · -- pick
    rename_i c a b
    have hc := hev c
    have hA := hev a
    have hB := hev b
    have key : ∀ b', ρ c = .bool b' → ∀ u, u = (if b' then ρ a else ρ b) → out.upd = [] → out.res.holds φ ow w [u] → OpRun P (.pick c a b) ty ρ w (Post out nx φ ow w) := by
      intro b' h1 u h2 h3 h4
      refine value_run (s := do pure (if ← asBool (ρ c) then ρ a else ρ b)) (u := if b' then ρ a else ρ b) (w' := w) ?_ (by simp [h1, asBool]) (Post.pure H h3 ?_)
      · simp [execOp]
      · rw [← h2]; exact h4
    split at hr <;> try (simp [Req.run] at hr; done)
    · rename_i c' x y e1 e2 e3
      rw [e1] at hc
      rw [e2] at hA
      rw [e3] at hB
      have h1 := bool_holds hc
      simp only [Req.ret, Req.run, Option.some.injEq] at hr
      subst hr
      refine key c' h1 _ rfl rfl ?_
      cases c'
      · simpa using hB
      · simpa using hA
    · rename_i e1 _
      rw [e1] at hc
      simp only [Req.ret, Req.run, Option.some.injEq] at hr
      subst hr
      exact key true (bool_holds hc) _ rfl rfl (by simpa using hA)
    · rename_i e1 _
      rw [e1] at hc
      simp only [Req.ret, Req.run, Option.some.injEq] at hr
      subst hr
      exact key false (bool_holds hc) _ rfl rfl (by simpa using hB)
  · -- alloc
    rename_i e
    obtain ⟨_, u, w', h1, h2⟩ := alloc_ok H hr
    exact value_run (s := Instr.alloc e true (.tuple #[])) rfl h1 h2
  · rename_i e x
    obtain ⟨_, u, w', h1, h2⟩ := box_ok H hr (hev x)
    exact value_run (s := Instr.box e (ρ x)) rfl h1 h2
  · rename_i t a
    obtain ⟨u, h1, h2⟩ := loadX_ok H hr (hev a) hobl
    exact value_run (s := Instr.loadAt t (ρ a)) rfl h1 h2
  · rename_i t a x
    obtain ⟨w', h1, h2⟩ := storeX_ok H hr (hev a) (hev x) hobl
    unfold OpRun
    simp [execOp, h1, h2]
  · -- nilCheck
    rename_i x
    have hx := hev x
    split at hr <;> try (simp [Req.run] at hr; done)
    · rename_i id off e
      rw [e] at hx
      simp only [Req.ret, Req.run, Option.some.injEq] at hr
      subst hr
      obtain ⟨g, h1, h2⟩ := (show _ from hx)
      injection h2 with h2
      unfold OpRun
      simp only [execOp, h2, Sem.run_pure]
      rw [← h2]
      exact Post.pure H rfl hx
    · rename_i id sz i off e
      rw [e] at hx
      simp only [Req.ret, Req.run, Option.some.injEq] at hr
      subst hr
      obtain ⟨g, n, c, h1, _, _, h2⟩ := (show _ from hx)
      injection h2 with h2
      unfold OpRun
      simp only [execOp, h2, Sem.run_pure]
      rw [← h2]
      exact Post.pure H rfl hx
    · rename_i T y e
      rw [e] at hx
      simp only [Req.ret, Req.run, Option.some.injEq] at hr
      subst hr
      obtain ⟨g, o, cs, h2, _⟩ := (show _ from hx)
      injection h2 with h2
      unfold OpRun
      simp only [execOp, h2, Sem.run_pure]
      rw [← h2]
      exact Post.pure H rfl hx
    · rename_i T y e
      rw [e] at hx
      simp only [Req.ret, Req.run, Option.some.injEq] at hr
      subst hr
      obtain ⟨_, _, g, o, h2, g1, g2, cs', g3, g4⟩ := (show _ from hx)
      injection h2 with h2
      unfold OpRun
      simp only [execOp, h2, Sem.run_pure]
      exact Post.pure H rfl ⟨g, o, cs', rfl, g1, g2, g3, g4⟩
  · rename_i s x f
    obtain ⟨_, h0, u, h1, h2⟩ := field_ok hr (hev x)
    exact value_run (s := Instr.fieldAt s (ρ x) f) rfl h1 (Post.pure H h0 h2)
  · rename_i t x i
    obtain ⟨h0, u, h1, h2⟩ := indexX_ok H hr (hev x) (hev i) hobl
    exact value_run (s := Instr.indexAt t (ρ x) (ρ i)) rfl h1 (Post.pure H h0 h2)
  · rename_i o t x y _
    split at hr
    · obtain ⟨h0, u, h1, h2⟩ := shr_ok (P := P) (t := t) (ox := x) (oy := y) hr (hev x) (hev y) hobl
      exact value_run (s := do eqGuard .shr t x y (ρ x) (ρ y); binOp .shr t (ρ x) (ρ y)) rfl h1 (Post.pure H h0 h2)
    · obtain ⟨h0, u, h1, h2⟩ := shl_ok (P := P) (t := t) (ox := x) (oy := y) hr (hev x) (hev y) hobl
      exact value_run (s := do eqGuard .shl t x y (ρ x) (ρ y); binOp .shl t (ρ x) (ρ y)) rfl h1 (Post.pure H h0 h2)
    · obtain ⟨h0, u, h1, h2⟩ := bin_ok (ox := x) (oy := y) hr (hev x) (hev y) hobl
      exact value_run (s := do eqGuard o t x y (ρ x) (ρ y); binOp o t (ρ x) (ρ y)) rfl h1 (Post.pure H h0 h2)
  · rename_i o _ x
    obtain ⟨h0, u, h1, h2⟩ := un_ok hr (hev x) hobl
    exact value_run (s := Op.unary o (ρ x)) rfl h1 (Post.pure H h0 h2)
  · rename_i t x i
    obtain ⟨h0, u, h1, h2⟩ := strAt_ok hr (hev x) (hev i) hobl
    exact value_run (s := Instr.index t (ρ x) (ρ i)) rfl h1 (Post.pure H h0 h2)
  · rename_i s d x
    obtain ⟨h0, u, h1, h2⟩ := conv_ok hr (hev x)
    exact value_run (s := convert s d (ρ x)) rfl h1 (Post.pure H h0 h2)
  · rename_i t len parts
    obtain ⟨u, w', h1, h2⟩ := build_ok H hr (partsH_map hev parts.toList)
    refine value_run (s := Instr.buildSlice t len (parts.map fun (i, x) => (i, ρ x))) rfl ?_ h2
    rw [← h1]
    congr 2
    rw [← Array.toList_map, Array.toArray_toList]
  · rename_i t
    obtain ⟨u, w', h1, h2⟩ := makeMapX_ok H hr
    exact value_run (s := Instr.makeMap t none) rfl h1 h2
  · rename_i t n
    obtain ⟨u, w', h1, h2⟩ := makeChan_ok H hr (hev n) hobl
    exact value_run (s := Instr.makeChan t (ρ n)) rfl h1 h2
  · rename_i t m k ok
    obtain ⟨u, h1, h2⟩ := lookupX_ok H hr (hev m) (hev k) hobl
    exact value_run (s := Instr.lookup t (ρ m) (ρ k) ok) rfl h1 h2
  · rename_i t m k x
    obtain ⟨w', h1, h2⟩ := mapSetX_ok H hr (hev m) (hev k) (hev x)
    unfold OpRun
    simp [execOp, h1, h2]
  · rename_i t m k x
    obtain ⟨w', h1, h2⟩ := mapSetX_ok H hr (hev m) (hev k) (hev x)
    unfold OpRun
    simp [execOp, h1, h2]
  · rename_i t parts
    obtain ⟨h0, u, h1, h2⟩ := buildS_ok H hr (partsH_map hev parts.toList)
    refine value_run (s := Instr.build t (parts.map fun (i, x) => (i, ρ x))) rfl ?_ (Post.pure H h0 h2)
    rw [← h1]
    congr 2
    rw [← Array.toList_map, Array.toArray_toList]
  · rename_i t x f
    obtain ⟨h0, u, h1, h2⟩ := fieldV_ok H hr (hev x)
    exact value_run (s := Instr.field t (ρ x) f) rfl h1 (Post.pure H h0 h2)
  · rename_i t l c
    obtain ⟨u, w', h1, h2⟩ := make_ok H hr (hev l) (hev c) hobl
    exact value_run (s := Instr.makeSlice t (ρ l) (ρ c)) rfl h1 h2
  · rename_i t x lo hi mx
    split at hr <;> try (simp [Req.run] at hr; done)
    obtain ⟨h0, u, h1, h2⟩ := slice_ok H (vlo := lo.map ρ) (vhi := hi.map ρ) hr (hev x) (by cases lo <;> simp [optH, hev]) (by cases hi <;> simp [optH, hev]) hobl
    exact value_run (s := Instr.sliceAt t (ρ x) (lo.map ρ) (hi.map ρ) Option.none) rfl h1 (Post.pure H h0 h2)
  · rename_i f first captured
    split at hr <;> try (simp [Req.run] at hr; done)
    · rename_i hf
      simp only [Req.ret, Req.run, Option.some.injEq] at hr
      subst hr
      have hf' : first = #[] := by rw [← Array.toArray_toList (xs := first), hf]
      subst hf'
      refine value_run (s := Instr.makeFunc (.func f) (#[].map ρ) (captured.map ρ)) rfl (u := .func (.func f) #[] (captured.map ρ)) (w' := w) (by simp [Instr.makeFunc]) (Post.pure H rfl ⟨captured.map ρ, rfl, ?_⟩)
      simpa using listAV_holds hev captured.toList
    · rename_i x hf
      have hf' : first = #[x] := by rw [← Array.toArray_toList (xs := first), hf]
      subst hf'
      split at hr <;> try (simp [Req.run] at hr; done)
      · rename_i id e hc
        have hx := hev x
        rw [e] at hx
        obtain ⟨g, h1, h2⟩ := hx
        injection h2 with h2
        have hc' : captured = #[] := by rw [← Array.toArray_toList (xs := captured), hc]
        subst hc'
        simp only [Req.ret, Req.run, Option.some.injEq] at hr
        subst hr
        refine value_run (s := Instr.makeFunc (.func f) (#[x].map ρ) (#[].map ρ)) rfl (u := .func (.func f) #[.pointer (some ⟨g, 0, none⟩)] #[]) (w' := w) (by simp [Instr.makeFunc, h2]) (Post.pure H rfl ⟨g, h1, rfl⟩)
      · rename_i k n e hc
        have hx := hev x
        rw [e] at hx
        obtain ⟨cs, h1, v0, r0, h2, h3, h4⟩ := hx
        injection h1 with h1
        obtain ⟨rfl, hn⟩ := int_holds h3
        have h4' : r0 = [] := h4
        subst h4'
        have hcs : cs = #[.int k n] := by rw [← Array.toArray_toList (xs := cs), h2]
        subst hcs
        have hc' : captured = #[] := by rw [← Array.toArray_toList (xs := captured), hc]
        subst hc'
        simp only [Req.ret, Req.run, Option.some.injEq] at hr
        subst hr
        refine value_run (s := Instr.makeFunc (.func f) (#[x].map ρ) (#[].map ρ)) rfl (u := .func (.func f) #[.agg #[.int k n]] #[]) (w' := w) (by simp [Instr.makeFunc, h1]) (Post.pure H rfl rfl)
  · rename_i x i
    unfold reqExtract at hr
    split at hr <;> try (simp [Req.run] at hr; done)
    rename_i l e
    split at hr <;> try (simp [Req.run] at hr; done)
    rename_i hi
    simp only [Req.ret, Req.run, Option.some.injEq] at hr
    subst hr
    have hx := hev x
    rw [e] at hx
    obtain ⟨cs, h1, h2⟩ := hx
    injection h1 with h1
    have hlen := len_le h2
    simp only [Array.length_toList] at hlen
    refine value_run (s := Instr.extract (ρ x) i) rfl (u := cs.toList.getD i undef) (w' := w) ?_ (Post.pure H rfl (nth_holds i hi h2))
    have : i < cs.size := by omega
    simp [Instr.extract, h1, this]
  · -- call
    rename_i c
    split at hr <;> try (simp [Req.run] at hr; done)
    · rename_i b hb
      have hh : ∀ consts, ∃ u w', (builtin b c.argTypes ty consts (c.args.map ρ)).run P w = .ok (.value u) w' ∧ Post out nx φ ow w u w' := by
        intro consts
        have := builtin_ok H (ty := ty) (consts := consts) hr (allH_map hev c.args.toList) hobl
        rwa [show (c.args.toList.map ρ).toArray = c.args.map ρ from by rw [← Array.toList_map, Array.toArray_toList]] at this
      unfold OpRun
      simp only [execOp, resolve, hb, invoke, Sem.run_bind, Sem.run_pure, Result.andThen_ok]
      obtain ⟨u, w', h1, h2⟩ := hh _
      have fin : ∀ r : Result Next, r = .ok (.value u) w' → (match r with
        | .ok (.value v) w' => Post out nx φ ow w v w'
        | .ok .skip w' => Post out nx φ ow w undef w'
        | .ok (.enter f args) w' => Calls P f args w' fun
          | .returned v, w'' => Post out nx φ ow w v w''
          | _, _ => False
        | _ => False) := by
        intro r hr
        subst hr
        exact h2
      exact fin _ h1
    · rename_i f hf
      split at hr <;> try (simp [Req.run] at hr; done)
      · rename_i g caps e
        have hfv := hev f
        rw [e] at hfv
        obtain ⟨cs, h1, h2⟩ := hfv
        injection h1 with h1
        have hargs : ((listAV (c.args.toList.map ev)).app caps).holds φ ow w (c.args.map ρ ++ cs).toList := by
          simpa using app_holds (listAV_list _) (listAV_holds hev c.args.toList) h2
        obtain ⟨hc, hcalls⟩ := hS g _ nx hp out φ ow w (c.args.map ρ ++ cs) H hargs hr hobl
        unfold OpRun
        simp only [execOp, resolve, hf, h1, Deferred.ofValue, Sem.run_bind, Sem.run_pure, Result.andThen_ok, invoke, Array.empty_append, hc]
        exact Calls.mono hcalls fun e' w' ⟨v, he, hp⟩ => by subst he; exact hp
      · rename_i id g e
        have hfv := hev f
        rw [e] at hfv
        obtain ⟨b, h1, h2⟩ := hfv
        injection h2 with h2
        have hargs : (AV.cons (.ref id 0) (listAV (c.args.toList.map ev))).holds φ ow w ((#[Value.pointer (some ⟨b, 0, none⟩)] : Array Value) ++ c.args.map ρ).toList := by
          refine ⟨.pointer (some ⟨b, 0, none⟩), (c.args.map ρ).toList, by simp, ⟨b, h1, rfl⟩, ?_⟩
          simpa using listAV_holds hev c.args.toList
        obtain ⟨hc, hcalls⟩ := hS g _ nx hp out φ ow w _ H hargs hr hobl
        unfold OpRun
        simp only [execOp, resolve, hf, h2, Deferred.ofValue, Sem.run_bind, Sem.run_pure, Result.andThen_ok, invoke, Array.append_empty, hc]
        exact Calls.mono hcalls fun e' w' ⟨v, he, hp⟩ => by subst he; exact hp
      · rename_i v e
        split at hr <;> try (simp [Req.run] at hr; done)
        rename_i g k n hb
        have hin : inK k n := by
          by_cases h : inK k n
          · exact h
          · rw [if_neg h] at hr; cases hr
        rw [if_pos hin] at hr
        change (S g (AV.cons (.agg (.cons (.dat (.int k) n) .nil)) (listAV (c.args.toList.map ev))) nx).run hp = some out at hr
        have hfv := hev f
        rw [e] at hfv
        injection hfv with hfv
        have hv : v = .func (.func g) #[.agg #[.int k n]] #[] := by
          unfold boundInt at hb
          split at hb <;> try (cases hb; done)
          rename_i g' r c'
          split at hb <;> try (cases hb; done)
          rename_i cs hr1 hc1
          split at hb <;> try (cases hb; done)
          rename_i k' n' hcs
          injection hb with hb
          injection hb with e1 hb
          injection hb with e2 e3
          subst e1; subst e2; subst e3
          rw [← Array.toArray_toList (xs := r), hr1, ← Array.toArray_toList (xs := c'), hc1, ← Array.toArray_toList (xs := cs), hcs]
        rw [hv] at hfv
        have hargs : (AV.cons (.agg (.cons (.dat (.int k) n) .nil)) (listAV (c.args.toList.map ev))).holds φ ow w ((#[Value.agg #[.int k n]] : Array Value) ++ c.args.map ρ).toList := by
          refine ⟨.agg #[.int k n], (c.args.map ρ).toList, by simp, ⟨#[.int k n], rfl, .int k n, [], rfl, ⟨rfl, rfl, rfl, hin⟩, rfl⟩, ?_⟩
          simpa using listAV_holds hev c.args.toList
        obtain ⟨hc, hcalls⟩ := hS g _ nx hp out φ ow w _ H hargs hr hobl
        unfold OpRun
        simp only [execOp, resolve, hf, hfv, Deferred.ofValue, Sem.run_bind, Sem.run_pure, Result.andThen_ok, invoke, Array.append_empty, hc]
        exact Calls.mono hcalls fun e' w' ⟨v, he, hp⟩ => by subst he; exact hp

end
end GoSx
end
section
/- Sx, part 14: a region's operations, one behind the other. -/
set_option linter.unusedVariables false
set_option linter.unusedSimpArgs false
namespace GoSx
open Go

/-- What a function leaves alone: all that nobody owned, and all that is its caller's (number 0). -/
structure Fr (φ0 : Hnd) (ow0 : Own) (w0 : World) (φ : Hnd) (ow : Own) (w : World) : Prop where
  size : w0.heap.size ≤ w.heap.size
  os : w.os = w0.os
  tape : w.tape = w0.tape
  output : w.output = w0.output
  blk : ∀ b, b < w0.heap.size → (ow0 b = Option.none ∨ ow0 b = some 0) → ow b = ow0 b ∧ w.heap[b]? = w0.heap[b]?
  frn : ∀ b, ow b = some 0 → b < w0.heap.size ∧ ow0 b = some 0
  phi : PhiLe φ0 φ

theorem Fr.step {φ0 φ φ' : Hnd} {ow0 ow ow' : Own} {w0 w w' : World} {X : List Nat} {nx : Nat} (h : Fr φ0 ow0 w0 φ ow w) (E : Ext X nx φ ow w φ' ow' w') (hX : 0 ∉ X) (hn : 0 < nx) : Fr φ0 ow0 w0 φ' ow' w' := by
  refine ⟨Nat.le_trans h.size E.size, E.os.trans h.os, E.tape.trans h.tape, E.output.trans h.output, ?_, ?_, h.phi.trans E.phi⟩
  · intro b hb h0
    obtain ⟨h1, h2⟩ := h.blk b hb h0
    obtain ⟨h3, h4⟩ := E.blk b (Nat.lt_of_lt_of_le hb h.size) (by
      intro id hid
      rw [h1] at hid
      rcases h0 with h0 | h0
      · rw [h0] at hid; cases hid
      · rw [h0] at hid
        injection hid with hid
        subst hid
        exact hX)
    exact ⟨h3.trans h1, h4.trans h2⟩
  · intro b hb
    obtain ⟨_, h1⟩ := E.ownN b 0 hb
    rcases h1 with (h1 | h1) | h1
    · exact absurd h1 hX
    · omega
    · exact h.frn b h1.2

def inWin (next k id : Nat) : Prop := next + 64 * k ≤ id ∧ id < next + 64 * k + 64
def up (b : Nat → Bool) (i : Nat) : Nat → Bool := fun k => if k = i then true else b k

section
variable (D0 : List Deferred) (φ0 : Hnd) (ow0 : Own) (w0 : World)

/-- A world within a region: the operations b have been carried out. -/
def RSat (next N : Nat) (b : Nat → Bool) (st : St) (a : Act) (w : World) : Prop :=
  ∃ φ ow, a.tmps.size = st.n ∧ a.defers = D0 ∧ (∀ t, (st.env t).holds φ ow w [a.tmps.getD t undef]) ∧ (∀ id, cH φ ow w id (st.heap id)) ∧
    (∀ id, next ≤ id → (∀ k, b k = true → ¬ inWin next k id) → φ id = Option.none) ∧
    (∀ c id, ow c = some id → c < w.heap.size ∧ (id < next ∨ ∃ k, k < N ∧ b k = true ∧ inWin next k id)) ∧ Fr φ0 ow0 w0 φ ow w

/-- A world between regions. -/
def SatF (st : St) (a : Act) (w : World) : Prop :=
  ∃ φ ow, a.tmps.size = st.n ∧ a.defers = D0 ∧ (∀ t, (st.env t).holds φ ow w [a.tmps.getD t undef]) ∧ (∀ id, cH φ ow w id (st.heap id)) ∧
    (∀ id, st.next ≤ id → φ id = Option.none) ∧ (∀ c id, ow c = some id → c < w.heap.size ∧ id < st.next) ∧ 0 < st.next ∧ Fr φ0 ow0 w0 φ ow w
end

section
variable {D0 : List Deferred} {φ0 : Hnd} {ow0 : Own} {w0 : World} {P : Program} {C : Cfg}

theorem evalAV_holds {φ : Hnd} {ow : Own} {w : World} {env : Nat → AV} {a : Act} (h : ∀ t, (env t).holds φ ow w [a.tmps.getD t undef]) : ∀ x, (evalAV env x).holds φ ow w [a.eval x]
  | .tmp t => h t
  | .const v => constAV_holds v
  | .func f => ⟨#[], rfl, rfl⟩
  | .global g => rfl

theorem upd_heap : ∀ (u : Upd) (st : St) (id : Nat), (id ∈ ids u ∧ ∃ c, (id, c) ∈ u ∧ (st.upd u).heap id = c) ∨ (id ∉ ids u ∧ (st.upd u).heap id = st.heap id)
  | [], st, id => .inr ⟨by simp [ids], rfl⟩
  | (i, c) :: r, st, id => by
    simp only [St.upd]
    cases e : Nat.beq id i with
    | true =>
      have := Nat.eq_of_beq_eq_true e
      subst this
      exact .inl ⟨by simp [ids], c, by simp, by simp⟩
    | false =>
      have hne : id ≠ i := fun h => by subst h; rw [Nat.beq_refl] at e; cases e
      rcases upd_heap r st id with ⟨h1, c', h2, h3⟩ | ⟨h1, h2⟩
      · exact .inl ⟨by simp only [ids, List.map_cons, List.mem_cons]; exact .inr h1, c', by simp [h2], by simpa using h3⟩
      · refine .inr ⟨?_, by simpa using h2⟩
        simp only [ids, List.map_cons, List.mem_cons, not_or]
        exact ⟨hne, h1⟩
theorem upd_env (u : Upd) (st : St) : (st.upd u).env = st.env ∧ (st.upd u).next = st.next ∧ (st.upd u).n = st.n := by
  induction u with
  | nil => exact ⟨rfl, rfl, rfl⟩
  | cons p r ih => exact ih
theorem put_heap (st : St) (d : Option Tmp) (a : AV) : (st.put d a).heap = st.heap ∧ (st.put d a).next = st.next ∧ (st.put d a).n = st.n := by cases d <;> exact ⟨rfl, rfl, rfl⟩
theorem put_env (st : St) (d : Option Tmp) (a : AV) (t : Nat) : (st.put d a).env t = if d = some t then a else st.env t := by
  cases d with
  | none => simp [St.put]
  | some d =>
    simp only [St.put]
    by_cases e : t = d
    · subst e; simp [Nat.beq_refl]
    · have : Nat.beq t d = false := by
        cases h : Nat.beq t d with
        | false => rfl
        | true => exact absurd (Nat.eq_of_beq_eq_true h) e
      rw [this]
      simp [Ne.symm e]

theorem put_holds {φ φ' : Hnd} {ow ow' : Own} {w w' : World} {st : St} {a : Act} (hn : a.tmps.size = st.n) (h : ∀ t, (st.env t).holds φ ow w [a.tmps.getD t undef]) (hk : ∀ {av vs}, AV.holds φ ow w av vs → AV.holds φ' ow' w' av vs)
    {d : Option Tmp} (hd : dstOk st.n d = true) {v : Value} {r : AV} (hr : r.holds φ' ow' w' [v]) : ∀ t, ((st.put d r).env t).holds φ' ow' w' [(a.put d v).tmps.getD t undef] := by
  intro t
  rw [put_env]
  cases d with
  | none => simpa [Act.put] using hk (h t)
  | some d =>
    have hlt : d < a.tmps.size := by
      rw [hn]
      simp only [dstOk, Nat.blt] at hd
      exact Nat.le_of_ble_eq_true hd
    by_cases e : d = t
    · subst e
      simpa [Act.put, Array.getElem?_setIfInBounds, hlt] using hr
    · rw [if_neg (fun h => e (Option.some.inj h))]
      simpa [Act.put, Array.getElem?_setIfInBounds, e] using hk (h t)

theorem put_tmps (a : Act) (d : Option Tmp) (v : Value) : (a.put d v).tmps.size = a.tmps.size ∧ (a.put d v).defers = a.defers := by cases d <;> simp [Act.put]

theorem updOk_mem {next i : Nat} {ord : Nat → Bool} {tch : List Nat} : ∀ {u : Upd}, updOk next i ord tch u = true → ∀ id ∈ ids u, 0 < id ∧ ((id ∈ tch ∧ (id < next ∨ ord ((id - next) / 64) = true)) ∨ inWin next i id)
  | [], _, id, hid => by simp [ids] at hid
  | (j, c) :: r, h, id, hid => by
    simp only [updOk, Bool.and_eq_true, Bool.or_eq_true] at h
    obtain ⟨⟨h1, h2⟩, h3⟩ := h
    simp only [ids, List.map_cons, List.mem_cons] at hid
    rcases hid with rfl | hid
    · refine ⟨Nat.le_of_ble_eq_true h1, ?_⟩
      rcases h2 with ⟨h2, h4⟩ | ⟨h2, h4⟩
      · exact .inl ⟨memN_iff.1 h2, h4.imp (fun h => Nat.le_of_ble_eq_true h) (fun h => h)⟩
      · exact .inr ⟨Nat.le_of_ble_eq_true h2, Nat.le_of_ble_eq_true h4⟩
    · exact updOk_mem h3 id hid

theorem win_apart {next k i id : Nat} (h : k ≠ i) (h1 : inWin next k id) (h2 : inWin next i id) : False := by
  unfold inWin at *
  omega

/-- One operation, at a world where the operations b have been carried out. -/
theorem step_op (hS : ∀ f, SummOK C.P f (C.S f)) {next N i : Nat} {b : Nat → Bool} {st : St} {a : Act} {w : World} {o : Oper} {Q : Exit → Act → World → Prop} {K : Act → World → Prop} (hnx : 0 < next)
    (hR : RSat D0 φ0 ow0 w0 next N b st a w) (hb : b i = false) (hi : i < N) {ord : Nat → Bool} (hord : ∀ k, ord k = true → b k = true ∧ k < N) {out : Out} {tch : List Nat}
    (hr : (reqOp C.P C.S C.wr o.op (evalAV st.env) (next + 64 * i)).run st.heap = some out) (hobl : ∀ p ∈ out.obls, p) (hu : updOk next i ord tch out.upd = true) (hd : dstOk st.n o.dst = true)
    (hK : ∀ a' w', RSat D0 φ0 ow0 w0 next N (up b i) ((st.upd out.upd).put o.dst out.res) a' w' → K a' w') : o.wp C.P a w K Q := by
  obtain ⟨φ, ow, hn, hdf, henv, hheap, hfresh, hown, hfr⟩ := hR
  have H : Hyp st.heap (next + 64 * i) φ ow w := by
    refine ⟨hheap, ?_, ?_⟩
    · intro id h1 h2
      refine hfresh id (by omega) ?_
      intro k hk hw
      exact win_apart (fun e => by subst e; rw [hb] at hk; cases hk) hw ⟨h1, h2⟩
    · intro c id hc
      obtain ⟨h1, h2⟩ := hown c id hc
      refine ⟨h1, ?_⟩
      rcases h2 with h2 | ⟨k, _, hk, hw⟩
      · left; omega
      · have hne : k ≠ i := fun e => by subst e; rw [hb] at hk; cases hk
        unfold inWin at hw
        omega
  have hrun := op_ok H hS (ty := o.type) hr (evalAV_holds henv) hobl
  refine OpRun.wp hrun ?_
  rintro v w' ⟨φ', ow', E, hres, hupd⟩
  have hmem := updOk_mem hu
  refine hK _ _ ⟨φ', ow', ?_, ?_, ?_, ?_, ?_, ?_, hfr.step E (fun h => by have := (hmem 0 h).1; omega) (by omega)⟩
  · rw [(put_tmps a o.dst v).1, hn, (put_heap _ _ _).2.2, (upd_env _ _).2.2]
  · rw [(put_tmps a o.dst v).2, hdf]
  · have henv' : ∀ t, ((st.upd out.upd).env t).holds φ ow w [a.tmps.getD t undef] := by rw [(upd_env _ _).1]; exact henv
    exact put_holds (st := st.upd out.upd) (by rw [(upd_env _ _).2.2]; exact hn) henv' (fun h => AV.holds_keep E.phi E.keep h) (by rw [(upd_env _ _).2.2]; exact hd) hres
  · intro id
    rw [(put_heap _ _ _).1]
    rcases upd_heap out.upd st id with ⟨h1, c, h2, h3⟩ | ⟨h1, h2⟩
    · rw [h3]; exact hupd _ h2
    · rw [h2]; exact E.chunk h1 (hheap id)
  · intro id h1 h2
    have hni : ¬ inWin next i id := h2 i (by simp [up])
    rw [E.phiN id (by unfold inWin at hni; omega)]
    refine hfresh id h1 fun k hk => h2 k ?_
    unfold up
    by_cases e : k = i
    · rw [if_pos e]
    · rw [if_neg e]; exact hk
  · intro c id hc
    obtain ⟨h1, h2⟩ := E.ownN c id hc
    refine ⟨h1, ?_⟩
    have old : (id < next ∨ ∃ k, k < N ∧ b k = true ∧ inWin next k id) → (id < next ∨ ∃ k, k < N ∧ up b i k = true ∧ inWin next k id) := by
      rintro (h | ⟨k, hk1, hk2, hk3⟩)
      · exact .inl h
      · exact .inr ⟨k, hk1, by unfold up; by_cases e : k = i <;> simp [e, hk2], hk3⟩
    have here : inWin next i id → (id < next ∨ ∃ k, k < N ∧ up b i k = true ∧ inWin next k id) := fun h => .inr ⟨i, hi, by simp [up], h⟩
    rcases h2 with (h2 | h2) | h2
    · rcases (hmem id h2).2 with ⟨_, h3⟩ | h3
      · by_cases hlt : id < next
        · exact .inl hlt
        · rcases h3 with h3 | h3
          · exact absurd h3 hlt
          · obtain ⟨k1, k2⟩ := hord _ h3
            refine old (.inr ⟨_, k2, k1, ?_⟩)
            unfold inWin
            have := Nat.div_add_mod (id - next) 64
            have := Nat.mod_lt (id - next) (show 0 < 64 by decide)
            omega
      · exact here h3
    · exact here ⟨h2.1, h2.2⟩
    · exact old (hown c id h2.2).2

/-- An operation that is passed over. -/
theorem step_skip {next N i : Nat} {b : Nat → Bool} {st : St} {a : Act} {w : World} {d : Option Tmp} (hR : RSat D0 φ0 ow0 w0 next N b st a w) (hd : dstOk st.n d = true) :
    RSat D0 φ0 ow0 w0 next N (up b i) (st.put d (.raw undef)) (a.put d undef) w := by
  obtain ⟨φ, ow, hn, hdf, henv, hheap, hfresh, hown, hfr⟩ := hR
  refine ⟨φ, ow, ?_, ?_, put_holds hn henv (fun h => h) hd rfl, ?_, ?_, ?_, hfr⟩
  · rw [(put_tmps a d _).1, hn, (put_heap _ _ _).2.2]
  · rw [(put_tmps a d _).2, hdf]
  · rw [(put_heap _ _ _).1]; exact hheap
  · intro id h1 h2
    refine hfresh id h1 fun k hk => h2 k ?_
    unfold up
    by_cases e : k = i
    · rw [if_pos e]
    · rw [if_neg e]; exact hk
  · intro c id hc
    obtain ⟨h1, h2⟩ := hown c id hc
    refine ⟨h1, h2.imp (fun h => h) fun ⟨k, k1, k2, k3⟩ => ⟨k, k1, ?_, k3⟩⟩
    unfold up
    by_cases e : k = i <;> simp [e, k2]

/-! ### What a region's operations do, in the order of the text -/
structure Itm where
  i : Nat
  o : Oper
  eff : Option Out
  t : Trc

def applyE (st : St) (o : Oper) : Option Out → St
  | some out => (st.upd out.upd).put o.dst out.res
  | Option.none => st.put o.dst (.raw undef)

def runB (b : Nat → Bool) : List Itm → St → St
  | [], s => s
  | x :: r, s => runB b r (bif b x.i then applyE s x.o x.eff else s)

/-- Whether the guard lets it run, and what it reads. -/
def GuardH (ops : Array Oper) (st : St) (o : Oper) (run : Bool) (rd : List Nat) : Prop :=
  (o.guard = Option.none ∧ run = true ∧ rd = []) ∨
  (∃ j want d c, o.guard = some (j, want) ∧ (ops[j]?).bind (·.dst) = some d ∧ st.env d = .dat .bool c ∧ run = (c == want) ∧ rd = [d]) ∨
  ∃ j want d v, o.guard = some (j, want) ∧ (ops[j]?).bind (·.dst) = some d ∧ st.env d = .raw v ∧ notBool v = true ∧ run = false ∧ rd = [d]

def Valid (C : Cfg) (ops : Array Oper) (bef : Option (Array Nat)) (next : Nat) (x : Itm) (st : St) : Prop :=
  dstOk st.n x.o.dst = true ∧ match x.eff with
  | some out => ∃ rd, GuardH ops st x.o true rd ∧ (reqOp C.P C.S C.wr x.o.op (evalAV st.env) (next + 64 * x.i)).run st.heap = some out ∧ (∀ p ∈ out.obls, p) ∧
      updOk next x.i (ordOf bef x.i) ((reqOp C.P C.S C.wr x.o.op (evalAV st.env) (next + 64 * x.i)).touched st.heap) out.upd = true ∧
      x.t = ⟨x.i, rd ++ rdSlots x.o, x.o.dst, (reqOp C.P C.S C.wr x.o.op (evalAV st.env) (next + 64 * x.i)).touched st.heap, ids out.upd⟩
  | Option.none => ∃ rd, GuardH ops st x.o false rd ∧ x.t = ⟨x.i, rd, x.o.dst, [], []⟩

def Good (C : Cfg) (ops : Array Oper) (bef : Option (Array Nat)) (next : Nat) : Nat → List Itm → St → Prop
  | _, [], _ => True
  | i, x :: r, st => x.i = i ∧ ops[i]? = some x.o ∧ Valid C ops bef next x st ∧ Good C ops bef next (i + 1) r (applyE st x.o x.eff)

def runAll : List Itm → St → St
  | [], s => s
  | x :: r, s => runAll r (applyE s x.o x.eff)

theorem conj_all : ∀ {l : List Prop} {q : Prop}, conj l q → (∀ p ∈ l, p) ∧ q
  | [], _, h => ⟨fun p hp => (by cases hp), h⟩
  | p :: l, _, ⟨h1, h2⟩ => by
    obtain ⟨h3, h4⟩ := conj_all h2
    refine ⟨fun r hr => ?_, h4⟩
    rcases List.mem_cons.1 hr with e | hr
    · rw [e]; exact h1
    · exact h3 r hr

theorem put_same {st : St} {d : Nat} {a : AV} (h : st.env d = a) : st.put (some d) a = st := by
  cases st with
  | mk env heap next n =>
    simp only [St.put]
    congr 1
    funext t
    cases e : Nat.beq t d with
    | true => have := Nat.eq_of_beq_eq_true e; subst this; exact h.symm
    | false => rfl

theorem vcOps_good {ops : Array Oper} {bef : Option (Array Nat)} {next : Nat} {K : St → Prop} : ∀ (l : List Oper) (i : Nat) (tr : List Trc) (st : St), ops.toList.drop i = l → vcOps C ops bef next l i tr st K →
    ∃ L, L.length = l.length ∧ Good C ops bef next i L st ∧ K (runAll L st) ∧ ∀ b, bef = some b → trcOk b (tr.reverse ++ L.map (·.t)) = true
  | [], i, tr, st, hl, h => by
    unfold vcOps at h
    cases bef with
    | none => exact ⟨[], rfl, trivial, h, fun b hb => by cases hb⟩
    | some b =>
      change (bif trcOk b tr.reverse then K st else Stuck 3) at h
      cases ht : trcOk b tr.reverse with
      | false => rw [ht] at h; cases h
      | true =>
        rw [ht] at h
        exact ⟨[], rfl, trivial, h, fun b' hb => by injection hb with hb; subst hb; simpa using ht⟩
  | o :: r, i, tr, st, hl, h => by
    have hoi : ops[i]? = some o := by
      have : (ops.toList.drop i)[0]? = some o := by rw [hl]; rfl
      simpa [List.getElem?_drop] using this
    have hr : ops.toList.drop (i + 1) = r := by
      rw [← List.tail_drop, hl]; rfl
    -- the operation runs
    have run : ∀ rd st1, st1 = st → GuardH ops st o true rd → vcRun C o next i (ordOf bef i) st1 (fun tch upd st' => vcOps C ops bef next r (i + 1) (⟨i, rd ++ rdSlots o, o.dst, tch, upd⟩ :: tr) st' K) →
        ∃ L, L.length = (o :: r).length ∧ Good C ops bef next i L st ∧ K (runAll L st) ∧ ∀ b, bef = some b → trcOk b (tr.reverse ++ L.map (·.t)) = true := by
      intro rd st1 e hg hh
      subst e
      unfold vcRun at hh
      simp only at hh
      split at hh
      · rename_i out hout
        cases hb : updOk next i (ordOf bef i) ((reqOp C.P C.S C.wr o.op (evalAV st1.env) (next + 64 * i)).touched st1.heap) out.upd && dstOk st1.n o.dst with
        | false => rw [hb] at hh; cases hh
        | true =>
          rw [hb] at hh
          simp only [Bool.and_eq_true] at hb
          obtain ⟨hobl, hh⟩ := conj_all hh
          obtain ⟨L, h1, h2, h3, h4⟩ := vcOps_good r (i + 1) _ _ hr hh
          refine ⟨⟨i, o, some out, ⟨i, rd ++ rdSlots o, o.dst, (reqOp C.P C.S C.wr o.op (evalAV st1.env) (next + 64 * i)).touched st1.heap, ids out.upd⟩⟩ :: L, by simp [h1], ⟨rfl, hoi, ⟨hb.2, rd, hg, hout, hobl, hb.1, rfl⟩, h2⟩, h3, ?_⟩
          intro b hbb
          simpa using h4 b hbb
      · cases hh
    unfold vcOps at h
    simp only at h
    split at h
    · rename_i hg
      exact run [] st rfl (.inl ⟨hg, rfl, rfl⟩) (by simpa using h)
    · rename_i j want hg
      split at h
      · rename_i d hd
        split at h
        · rename_i c hc
          have key : ∀ c', c' = c → (bif c' == want then vcRun C o next i (ordOf bef i) (st.put (some d) (.dat .bool c')) (fun tch upd st' => vcOps C ops bef next r (i + 1) (⟨i, [d] ++ rdSlots o, o.dst, tch, upd⟩ :: tr) st' K) else
              bif dstOk st.n o.dst then vcOps C ops bef next r (i + 1) (⟨i, [d], o.dst, [], []⟩ :: tr) ((st.put (some d) (.dat .bool c')).put o.dst (.raw undef)) K else Stuck 6) →
              ∃ L, L.length = (o :: r).length ∧ Good C ops bef next i L st ∧ K (runAll L st) ∧ ∀ b, bef = some b → trcOk b (tr.reverse ++ L.map (·.t)) = true := by
            intro c' e hh
            subst e
            rw [put_same hc] at hh
            cases hw : c' == want with
            | true =>
              rw [hw] at hh
              exact run [d] st rfl (.inr (.inl ⟨j, want, d, c', hg, hd, hc, hw.symm, rfl⟩)) hh
            | false =>
              rw [hw] at hh
              cases hds : dstOk st.n o.dst with
              | false => rw [hds] at hh; cases hh
              | true =>
                rw [hds] at hh
                obtain ⟨L, h1, h2, h3, h4⟩ := vcOps_good r (i + 1) _ _ hr hh
                refine ⟨⟨i, o, Option.none, ⟨i, [d], o.dst, [], []⟩⟩ :: L, by simp [h1], ⟨rfl, hoi, ⟨hds, [d], .inr (.inl ⟨j, want, d, c', hg, hd, hc, hw.symm, rfl⟩), rfl⟩, h2⟩, h3, ?_⟩
                intro b hbb
                simpa using h4 b hbb
          cases c
          · exact key false rfl h
          · exact key true rfl h
        · rename_i v hv
          cases hb : notBool v && dstOk st.n o.dst with
          | false => rw [hb] at h; cases h
          | true =>
            rw [hb, cond_true] at h
            simp only [Bool.and_eq_true] at hb
            obtain ⟨L, h1, h2, h3, h4⟩ := vcOps_good r (i + 1) _ _ hr h
            refine ⟨⟨i, o, Option.none, ⟨i, [d], o.dst, [], []⟩⟩ :: L, by simp [h1], ⟨rfl, hoi, ⟨hb.2, [d], .inr (.inr ⟨j, want, d, v, hg, hd, hv, hb.1, rfl, rfl⟩), rfl⟩, h2⟩, h3, ?_⟩
            intro b hbb
            simpa using h4 b hbb
        · cases h
      · cases h

end
end GoSx
end
section
/- Sx, part 15: regions: in the order of the text; in any order. -/
set_option linter.unusedVariables false
set_option linter.unusedSimpArgs false
namespace GoSx
open Go

section
variable {D0 : List Deferred} {φ0 : Hnd} {ow0 : Own} {w0 : World} {C : Cfg} {ops : Array Oper} {Q : Exit → Act → World → Prop}

theorem guard_wanted {φ : Hnd} {ow : Own} {w : World} {st : St} {a : Act} {o : Oper} {run : Bool} {rd : List Nat} (h : GuardH ops st o run rd) (henv : ∀ t, (st.env t).holds φ ow w [a.tmps.getD t undef]) :
    Region.wanted o (yielded ops a.tmps) = run := by
  rcases h with ⟨h1, h2, _⟩ | ⟨j, want, d, c, h1, h2, h3, h4, _⟩ | ⟨j, want, d, v, h1, h2, h3, h5, h4, _⟩
  · simp [Region.wanted, h1, h2]
  rotate_left
  · have hd := henv d
    rw [h3] at hd
    have hv : a.tmps.getD d undef = v := by injection hd
    have hy : yielded ops a.tmps j = none := by
      rw [Array.getD_eq_getD_getElem?] at hv
      simp only [yielded, h2, Option.bind_some]
      cases hx : a.tmps[d]? with
      | none => simp
      | some u =>
        rw [hx] at hv
        have hv : u = v := by simpa using hv
        subst hv
        cases u <;> first | rfl | (simp [notBool] at h5; done)
    simp only [Region.wanted, h1, hy, h4]
    rfl
  · have hd := henv d
    rw [h3] at hd
    have hv := bool_holds hd
    have ht : a.tmps[d]? = some (.bool c) := by
      rw [Array.getD_eq_getD_getElem?] at hv
      cases hx : a.tmps[d]? with
      | none => rw [hx] at hv; simp [undef] at hv
      | some v => rw [hx] at hv; simpa using hv
    have hy : yielded ops a.tmps j = some c := by simp [yielded, h2, ht]
    simp only [Region.wanted, h1, hy, h4]
    cases c <;> cases want <;> rfl

theorem RSat.congr {next N : Nat} {b b' : Nat → Bool} {st : St} {a : Act} {w : World} (h : RSat D0 φ0 ow0 w0 next N b st a w) (e : ∀ k, b k = b' k) : RSat D0 φ0 ow0 w0 next N b' st a w := by
  obtain rfl : b = b' := funext e
  exact h

theorem plain_run (hS : ∀ f, SummOK C.P f (C.S f)) {next N : Nat} (hnx : 0 < next) {F : St} (hQ : ∀ a w, RSat D0 φ0 ow0 w0 next N (fun k => decide (k < N)) F a w → Q .normal a w) :
    ∀ (L : List Itm) (i : Nat) (st : St) (a : Act) (w : World), runAll L st = F → i + L.length = N → Good C ops none next i L st → RSat D0 φ0 ow0 w0 next N (fun k => decide (k < i)) st a w → wpOps C.P ops Q (List.range' i L.length) a w
  | [], i, st, a, w, hF, hN, _, hR => by
    have : i = N := by simpa using hN
    subst this; subst hF
    exact hQ a w hR
  | x :: L, i, st, a, w, hF, hN, ⟨hxi, hox, hval, hgood⟩, hR => by
    subst hxi
    have hiN : x.i < N := by simp at hN; omega
    have hup : ∀ k, up (fun k => decide (k < x.i)) x.i k = decide (k < x.i + 1) := by
      intro k
      unfold up
      by_cases e : k = x.i
      · simp [e]
      · simp only [if_neg e]
        congr 1
        exact propext ⟨fun h => by omega, fun h => by omega⟩
    rw [List.length_cons, List.range'_succ]
    have hrec : ∀ a' w', RSat D0 φ0 ow0 w0 next N (up (fun k => decide (k < x.i)) x.i) (applyE st x.o x.eff) a' w' → wpOps C.P ops Q (List.range' (x.i + 1) L.length) a' w' := by
      intro a' w' h
      exact plain_run hS hnx hQ L (x.i + 1) _ a' w' hF (by simp at hN; omega) hgood (h.congr hup)
    rw [wpOps_cons, wpOp, hox]
    obtain ⟨φ, ow, hn, hdf, henv, hrest⟩ := id hR
    obtain ⟨hds, hval⟩ := hval
    cases heff : x.eff with
    | none =>
      rw [heff] at hval hrec
      obtain ⟨rd, hg, _⟩ := hval
      have hw := guard_wanted hg henv
      simp only [hw]
      rw [if_neg (by simp)]
      exact hrec _ _ (step_skip hR hds)
    | some out =>
      rw [heff] at hval hrec
      obtain ⟨rd, hg, h1, h2, h3, _⟩ := hval
      have hw := guard_wanted hg henv
      simp only [hw]
      rw [if_pos trivial]
      left
      exact step_op hS hnx hR (by simp) hiN (ord := fun k => Nat.blt k x.i) (fun k hk => by
        have := Nat.le_of_ble_eq_true hk
        simp; omega) h1 h2 h3 hds hrec

/-! ### Any order -/
def updI (x : Itm) : List Nat := match x.eff with
  | some out => ids out.upd
  | none => []
def resE : Option Out → AV
  | some out => out.res
  | none => .raw undef

theorem applyE_env (st : St) (o : Oper) (e : Option Out) (t : Nat) : (applyE st o e).env t = if o.dst = some t then resE e else st.env t := by
  cases e with
  | none => simp [applyE, put_env, resE]
  | some out => simp [applyE, put_env, resE, (upd_env _ _).1]
theorem applyE_n (st : St) (o : Oper) (e : Option Out) : (applyE st o e).n = st.n ∧ (applyE st o e).next = st.next := by
  cases e with
  | none => exact ⟨(put_heap _ _ _).2.2, (put_heap _ _ _).2.1⟩
  | some out => exact ⟨(put_heap _ _ _).2.2.trans (upd_env _ _).2.2, (put_heap _ _ _).2.1.trans (upd_env _ _).2.1⟩
theorem upd_heap_congr : ∀ (u : Upd) {st st' : St} {id : Nat}, (id ∉ ids u → st.heap id = st'.heap id) → (st.upd u).heap id = (st'.upd u).heap id
  | [], st, st', id, h => h (by simp [ids])
  | (i, c) :: r, st, st', id, h => by
    simp only [St.upd]
    cases e : Nat.beq id i with
    | true => simp
    | false =>
      simp only [cond_false]
      refine upd_heap_congr r fun hn => h ?_
      simp only [ids, List.map_cons, List.mem_cons, not_or]
      exact ⟨fun h => (by subst h; rw [Nat.beq_refl] at e; cases e), hn⟩
theorem applyE_heap_congr {x : Itm} {st st' : St} {id : Nat} (h : id ∉ updI x → st.heap id = st'.heap id) : (applyE st x.o x.eff).heap id = (applyE st' x.o x.eff).heap id := by
  unfold updI at h
  cases e : x.eff with
  | none =>
    rw [e] at h
    simp only [applyE, (put_heap _ _ _).1]
    exact h (by simp)
  | some out =>
    rw [e] at h
    simp only [applyE, (put_heap _ _ _).1]
    exact upd_heap_congr _ h
theorem applyE_heap_skip {x : Itm} {st : St} {id : Nat} (h : id ∉ updI x) : (applyE st x.o x.eff).heap id = st.heap id := by
  unfold updI at h
  cases e : x.eff with
  | none => simp only [applyE, (put_heap _ _ _).1]
  | some out =>
    rw [e] at h
    simp only [applyE, (put_heap _ _ _).1]
    rcases upd_heap out.upd st id with ⟨h1, _⟩ | ⟨_, h2⟩
    · exact absurd h1 h
    · exact h2

theorem runB_app (b : Nat → Bool) : ∀ (L M : List Itm) (s : St), runB b (L ++ M) s = runB b M (runB b L s)
  | [], _, _ => rfl
  | x :: L, M, s => runB_app b L M _
theorem runB_n (b : Nat → Bool) : ∀ (L : List Itm) (s : St), (runB b L s).n = s.n ∧ (runB b L s).next = s.next
  | [], _ => ⟨rfl, rfl⟩
  | x :: L, s => by
    simp only [runB]
    obtain ⟨h1, h2⟩ := runB_n b L (bif b x.i then applyE s x.o x.eff else s)
    cases hb : b x.i <;> rw [hb] at h1 h2 <;> simp only [cond_true, cond_false] at h1 h2 ⊢
    · exact ⟨h1, h2⟩
    · exact ⟨h1.trans (applyE_n _ _ _).1, h2.trans (applyE_n _ _ _).2⟩
theorem runB_all : ∀ (L : List Itm) (s : St), runAll L s = runB (fun _ => true) L s
  | [], _ => rfl
  | x :: L, s => runB_all L _
theorem runB_env {b b' : Nat → Bool} {t : Nat} : ∀ {L : List Itm} {s s' : St}, s.env t = s'.env t → (∀ x ∈ L, x.o.dst = some t → b x.i = b' x.i) → (runB b L s).env t = (runB b' L s').env t
  | [], _, _, h, _ => h
  | x :: L, s, s', h, hb => by
    simp only [runB]
    refine runB_env ?_ fun y hy => hb y (List.mem_cons_of_mem _ hy)
    have h0 := hb x (by simp)
    by_cases e : x.o.dst = some t
    · rw [h0 e]
      cases b' x.i
      · exact h
      · simp only [cond_true, applyE_env, if_pos e]
    · cases b x.i <;> cases b' x.i <;> simp only [cond_true, cond_false, applyE_env, if_neg e] <;> exact h
theorem runB_heap {b b' : Nat → Bool} {id : Nat} : ∀ {L : List Itm} {s s' : St}, s.heap id = s'.heap id → (∀ x ∈ L, id ∈ updI x → b x.i = b' x.i) → (runB b L s).heap id = (runB b' L s').heap id
  | [], _, _, h, _ => h
  | x :: L, s, s', h, hb => by
    simp only [runB]
    refine runB_heap ?_ fun y hy => hb y (List.mem_cons_of_mem _ hy)
    have h0 := hb x (by simp)
    by_cases e : id ∈ updI x
    · rw [h0 e]
      cases b' x.i
      · exact h
      · exact applyE_heap_congr fun _ => h
    · cases b x.i <;> cases b' x.i <;> simp only [cond_true, cond_false, applyE_heap_skip e] <;> exact h

/-- What is asked hangs on the operands alone. -/
theorem reqOp_congr {P : Program} {S : FuncId → Summ} {wr : Md} {op : Op} {ev ev' : Operand → AV} {nx : Nat} (h : ∀ x ∈ op.operands.toList, ev x = ev' x) : reqOp P S wr op ev nx = reqOp P S wr op ev' nx := by
  unfold reqOp
  cases op <;> try rfl
  case move x => simp only [h x (by simp [Op.operands])]
  case assign x => simp only [h x (by simp [Op.operands])]
  case pick c a b => simp only [h c (by simp [Op.operands]), h a (by simp [Op.operands]), h b (by simp [Op.operands])]
  case box e x => simp only [h x (by simp [Op.operands])]
  case load t x => simp only [h x (by simp [Op.operands])]
  case store t x y => simp only [h x (by simp [Op.operands]), h y (by simp [Op.operands])]
  case nilCheck x => simp only [h x (by simp [Op.operands])]
  case fieldAddr s x f => simp only [h x (by simp [Op.operands])]
  case indexAddr t x y => simp only [h x (by simp [Op.operands]), h y (by simp [Op.operands])]
  case binOp o t x y u => simp only [h x (by simp [Op.operands]), h y (by simp [Op.operands])]
  case index t x y => simp only [h x (by simp [Op.operands]), h y (by simp [Op.operands])]
  case unOp o t x => simp only [h x (by simp [Op.operands])]
  case convert s d x => simp only [h x (by simp [Op.operands])]
  case buildSlice t len parts =>
    simp only
    congr 1
    apply List.map_congr_left
    intro p hp
    rw [h p.2]
    simp only [Op.operands, List.mem_map]
    exact ⟨p, hp, rfl⟩
  case build t parts =>
    simp only
    congr 1
    apply List.map_congr_left
    intro p hp
    rw [h p.2]
    simp only [Op.operands, Array.toList_map, List.mem_map]
    exact ⟨p, hp, rfl⟩
  case makeMap t r => cases r <;> rfl
  case makeChan t n => simp only [h n (by simp [Op.operands])]
  case field t x f => simp only [h x (by simp [Op.operands])]
  case lookup t m k ok => simp only [h m (by simp [Op.operands]), h k (by simp [Op.operands])]
  case mapUpdate t m k x => simp only [h m (by simp [Op.operands]), h k (by simp [Op.operands]), h x (by simp [Op.operands])]
  case insert t m k x => simp only [h m (by simp [Op.operands]), h k (by simp [Op.operands]), h x (by simp [Op.operands])]
  case makeSlice t x y => simp only [h x (by simp [Op.operands]), h y (by simp [Op.operands])]
  case slice t x lo hi mx =>
    have hx := h x (by simp [Op.operands])
    have hlo : lo.map ev = lo.map ev' := by
      cases lo with
      | none => rfl
      | some y => simp only [Option.map_some, h y (by simp [Op.operands])]
    have hhi : hi.map ev = hi.map ev' := by
      cases hi with
      | none => rfl
      | some y => simp only [Option.map_some, h y (by simp [Op.operands])]
    simp only [hx, hlo, hhi]
  case makeFunc fn first captured =>
    cases fn <;> try rfl
    have : captured.toList.map ev = captured.toList.map ev' := List.map_congr_left fun x hx => h x (by simp [Op.operands]; right; simpa using hx)
    simp only [this]
    split
    · rfl
    · rename_i x hf
      rw [h x (by simp [Op.operands]; left; rw [← Array.mem_toList_iff, hf]; simp)]
    · rfl
  case extract x i => simp only [h x (by simp [Op.operands])]
  case call c =>
    have ha : c.args.toList.map ev = c.args.toList.map ev' := List.map_congr_left fun x hx => h x (by simp [Op.operands, Call.operands]; right; simpa using hx)
    simp only [ha]
    cases hc : c.callee with
    | value f => simp only [h f (by simp [Op.operands, Call.operands, hc])]
    | invoke r n => rfl
    | builtin b => rfl

theorem opSlots_mem : ∀ {l : List Operand} {t : Nat}, .tmp t ∈ l → t ∈ opSlots l
  | .tmp u :: r, t, h => by
    rcases List.mem_cons.1 h with h | h
    · injection h with h; subst h; simp [opSlots]
    · simp [opSlots, opSlots_mem h]
  | .const v :: r, t, h => by
    rcases List.mem_cons.1 h with h | h
    · cases h
    · exact opSlots_mem (l := r) h
  | .global g :: r, t, h => by
    rcases List.mem_cons.1 h with h | h
    · cases h
    · exact opSlots_mem (l := r) h
  | .func f :: r, t, h => by
    rcases List.mem_cons.1 h with h | h
    · cases h
    · exact opSlots_mem (l := r) h

/-- The pairs of a trace. -/
theorem trc_pair {bef : Array Nat} : ∀ {L1 : List Trc} {x : Trc} {L2 : List Trc}, trcOk bef (L1 ++ x :: L2) = true → (∀ y ∈ L2, (bef.getD y.i 0).testBit x.i = true ∨ apart x y = true) ∧ (∀ z ∈ L1, (bef.getD x.i 0).testBit z.i = true ∨ apart z x = true)
  | [], x, L2, h => by
    simp only [List.nil_append, trcOk, Bool.and_eq_true, List.all_eq_true, Bool.or_eq_true] at h
    exact ⟨h.1, fun z hz => by cases hz⟩
  | z :: L1, x, L2, h => by
    simp only [List.cons_append, trcOk, Bool.and_eq_true, List.all_eq_true, Bool.or_eq_true] at h
    obtain ⟨h1, h2⟩ := trc_pair h.2
    refine ⟨h1, fun u hu => ?_⟩
    rcases List.mem_cons.1 hu with rfl | hu
    · exact h.1 x (by simp)
    · exact h2 u hu

theorem meet_no {x : Nat} {a b : List Nat} (h : (!meetN a b) = true) (ha : x ∈ a) : x ∉ b := meetN_no (by simpa using h) ha

theorem apart_spec {a b : Trc} (h : apart a b = true) : (∀ t, a.wt = some t → t ∉ b.rd) ∧ (∀ t, b.wt = some t → t ∉ a.rd) ∧ (∀ t, a.wt = some t → b.wt ≠ some t) ∧ (∀ i ∈ a.upd, i ∉ b.tch) ∧ (∀ i ∈ b.upd, i ∉ a.tch) ∧ (∀ i ∈ a.upd, i ∉ b.upd) := by
  simp only [apart, Bool.and_eq_true] at h
  obtain ⟨⟨⟨⟨⟨h1, h2⟩, h3⟩, h4⟩, h5⟩, h6⟩ := h
  refine ⟨fun t ht => ?_, fun t ht => ?_, fun t ht hb => ?_, fun i hi => meet_no h4 hi, fun i hi => meet_no h5 hi, fun i hi => meet_no h6 hi⟩
  · rw [ht] at h1; exact meet_no h1 (by simp [optN])
  · rw [ht] at h2; exact meet_no h2 (by simp [optN])
  · rw [ht, hb] at h3; exact meet_no h3 (x := t) (by simp [optN]) (by simp [optN])

theorem good_split {bef : Option (Array Nat)} {next : Nat} : ∀ {L1 : List Itm} {x : Itm} {L2 : List Itm} {i : Nat} {st : St}, Good C ops bef next i (L1 ++ x :: L2) st →
    x.i = i + L1.length ∧ ops[x.i]? = some x.o ∧ Valid C ops bef next x (runAll L1 st) ∧ (∀ z ∈ L1, z.i < x.i) ∧ (∀ y ∈ L2, x.i < y.i)
  | [], x, L2, i, st, h => by
    obtain ⟨h1, h2, h3, h4⟩ := h
    subst h1
    refine ⟨rfl, h2, h3, fun z hz => (by cases hz), fun y hy => ?_⟩
    have lt : ∀ (M : List Itm) (j : Nat) (s : St), Good C ops bef next j M s → ∀ y ∈ M, j ≤ y.i := by
      intro M
      induction M with
      | nil => intro j s _ y hy; cases hy
      | cons u M ih =>
        intro j s hg y hy
        rcases List.mem_cons.1 hy with rfl | hy
        · exact Nat.le_of_eq hg.1.symm
        · have := ih (j + 1) _ hg.2.2.2 y hy; omega
    exact lt L2 (x.i + 1) _ h4 y hy
  | z :: L1, x, L2, i, st, h => by
    obtain ⟨h1, _, _, h4⟩ := h
    obtain ⟨g1, g2, g3, g4, g5⟩ := good_split h4
    refine ⟨by simp only [List.length_cons]; omega, g2, g3, fun u hu => ?_, g5⟩
    rcases List.mem_cons.1 hu with rfl | hu
    · omega
    · exact g4 u hu

theorem valid_trc {bef : Option (Array Nat)} {next : Nat} {x : Itm} {st : St} (h : Valid C ops bef next x st) : x.t.i = x.i ∧ x.t.wt = x.o.dst ∧ x.t.upd = updI x := by
  obtain ⟨_, h⟩ := h
  unfold updI
  cases e : x.eff with
  | none => rw [e] at h; obtain ⟨rd, _, h⟩ := h; rw [h]; exact ⟨rfl, rfl, rfl⟩
  | some out => rw [e] at h; obtain ⟨rd, _, _, _, _, h⟩ := h; rw [h]; exact ⟨rfl, rfl, rfl⟩

/-- What an operation sees is what it saw in the order of the text; what it does commutes. -/
theorem any_step (hS : ∀ f, SummOK C.P f (C.S f)) {next N : Nat} (hnx : 0 < next) {B : Array Nat} {L1 L2 : List Itm} {x : Itm} {s0 : St} (hg : Good C ops (some B) next 0 (L1 ++ x :: L2) s0) (hN : (L1 ++ x :: L2).length = N)
    (ht : trcOk B ((L1 ++ x :: L2).map (·.t)) = true) {b : Nat → Bool} (hb : b x.i = false) (hbN : ∀ k, b k = true → k < N) (hpre : ∀ j, (B.getD x.i 0).testBit j = true → b j = true) (hcl : ∀ k, b k = true → ∀ j, (B.getD k 0).testBit j = true → b j = true)
    {a : Act} {w : World} (hR : RSat D0 φ0 ow0 w0 next N b (runB b (L1 ++ x :: L2) s0) a w) {K : Act → World → Prop} (hK : ∀ a' w', RSat D0 φ0 ow0 w0 next N (up b x.i) (runB (up b x.i) (L1 ++ x :: L2) s0) a' w' → K a' w') :
    wpOp C.P ops Q x.i K a w := by
  obtain ⟨hxi, hox, hval, hlt1, hlt2⟩ := good_split hg
  have hiN : x.i < N := by rw [hxi, ← hN]; simp
  rw [List.map_append, List.map_cons] at ht
  obtain ⟨hp2, hp1⟩ := trc_pair ht
  obtain ⟨ti, tw, tu⟩ := valid_trc hval
  -- the traces of the others
  have vt : ∀ y ∈ L1 ++ x :: L2, y.t.i = y.i ∧ y.t.wt = y.o.dst ∧ y.t.upd = updI y := by
    intro y hy
    obtain ⟨M1, M2, e⟩ := List.append_of_mem hy
    rw [e] at hg
    exact valid_trc (good_split hg).2.2.1
  have far2 : ∀ y ∈ L2, b y.i = true → apart x.t y.t = true := by
    intro y hy hby
    rcases hp2 y.t (List.mem_map_of_mem hy) with h | h
    · rw [(vt y (by simp [hy])).1, ti] at h
      rw [hcl _ hby _ h] at hb
      cases hb
    · exact h
  have far1 : ∀ z ∈ L1, b z.i = true ∨ apart z.t x.t = true := by
    intro z hz
    rcases hp1 z.t (List.mem_map_of_mem hz) with h | h
    · rw [(vt z (by simp [hz])).1, ti] at h
      exact .inl (hpre _ h)
    · exact .inr h
  have hsplit : ∀ c : Nat → Bool, runB c (L1 ++ x :: L2) s0 = runB c L2 (bif c x.i then applyE (runB c L1 s0) x.o x.eff else runB c L1 s0) := fun c => by rw [runB_app]; rfl
  -- slots and chunks that it reads
  have venv : ∀ t ∈ x.t.rd, (runB b (L1 ++ x :: L2) s0).env t = (runAll L1 s0).env t := by
    intro t htr
    rw [hsplit, hb, cond_false, runB_all]
    have e1 : (runB b L2 (runB b L1 s0)).env t = (runB (fun _ => false) L2 (runB b L1 s0)).env t := by
      refine runB_env rfl fun y hy hyt => ?_
      cases hby : b y.i with
      | false => rfl
      | true =>
        have := (apart_spec (far2 y hy hby)).2.1 t (by rw [(vt y (by simp [hy])).2.1]; exact hyt)
        exact absurd htr this
    have e2 : ∀ (M : List Itm) (s : St), runB (fun _ => false) M s = s := by
      intro M
      induction M with
      | nil => intro s; rfl
      | cons y M ih => intro s; simp only [runB, cond_false]; exact ih s
    rw [e1, e2]
    refine runB_env rfl fun z hz hzt => ?_
    rcases far1 z hz with h | h
    · exact h
    · have := (apart_spec h).1 t (by rw [(vt z (by simp [hz])).2.1]; exact hzt)
      exact absurd htr this
  have vheap : ∀ id ∈ x.t.tch, (runB b (L1 ++ x :: L2) s0).heap id = (runAll L1 s0).heap id := by
    intro id hid
    rw [hsplit, hb, cond_false, runB_all]
    have e1 : (runB b L2 (runB b L1 s0)).heap id = (runB (fun _ => false) L2 (runB b L1 s0)).heap id := by
      refine runB_heap rfl fun y hy hyt => ?_
      cases hby : b y.i with
      | false => rfl
      | true =>
        have := (apart_spec (far2 y hy hby)).2.2.2.2.1 id (by rw [(vt y (by simp [hy])).2.2]; exact hyt)
        exact absurd hid this
    have e2 : ∀ (M : List Itm) (s : St), runB (fun _ => false) M s = s := by
      intro M
      induction M with
      | nil => intro s; rfl
      | cons y M ih => intro s; simp only [runB, cond_false]; exact ih s
    rw [e1, e2]
    refine runB_heap rfl fun z hz hzt => ?_
    rcases far1 z hz with h | h
    · exact h
    · have := (apart_spec h).2.2.2.1 id (by rw [(vt z (by simp [hz])).2.2]; exact hzt)
      exact absurd hid this
  -- what it leaves
  have hfin : runB (up b x.i) (L1 ++ x :: L2) s0 = applyE (runB b (L1 ++ x :: L2) s0) x.o x.eff := by
    have hupx : up b x.i x.i = true := by simp [up]
    have hup1 : ∀ z ∈ L1, up b x.i z.i = b z.i := fun z hz => by unfold up; rw [if_neg (by have := hlt1 z hz; omega)]
    have hup2 : ∀ y ∈ L2, up b x.i y.i = b y.i := fun y hy => by unfold up; rw [if_neg (by have := hlt2 y hy; omega)]
    have env : ∀ t, (runB (up b x.i) (L1 ++ x :: L2) s0).env t = (applyE (runB b (L1 ++ x :: L2) s0) x.o x.eff).env t := by
      intro t
      rw [applyE_env, hsplit, hsplit, hupx, hb, cond_true, cond_false]
      by_cases e : x.o.dst = some t
      · rw [if_pos e]
        have : (runB (up b x.i) L2 (applyE (runB (up b x.i) L1 s0) x.o x.eff)).env t = (runB (fun _ => false) L2 (applyE (runB (up b x.i) L1 s0) x.o x.eff)).env t := by
          refine runB_env rfl fun y hy hyt => ?_
          rw [hup2 y hy]
          cases hby : b y.i with
          | false => rfl
          | true =>
            have := (apart_spec (far2 y hy hby)).2.2.1 t (by rw [tw]; exact e)
            rw [(vt y (by simp [hy])).2.1] at this
            exact absurd hyt this
        rw [this]
        have e2 : ∀ (M : List Itm) (s : St), runB (fun _ => false) M s = s := by
          intro M
          induction M with
          | nil => intro s; rfl
          | cons y M ih => intro s; simp only [runB, cond_false]; exact ih s
        rw [e2, applyE_env, if_pos e]
      · rw [if_neg e]
        refine runB_env ?_ fun y hy _ => hup2 y hy
        rw [applyE_env, if_neg e]
        exact runB_env rfl fun z hz _ => hup1 z hz
    have heap : ∀ id, (runB (up b x.i) (L1 ++ x :: L2) s0).heap id = (applyE (runB b (L1 ++ x :: L2) s0) x.o x.eff).heap id := by
      intro id
      rw [hsplit, hsplit, hupx, hb, cond_true, cond_false]
      by_cases e : id ∈ updI x
      · have : (runB (up b x.i) L2 (applyE (runB (up b x.i) L1 s0) x.o x.eff)).heap id = (runB (fun _ => false) L2 (applyE (runB (up b x.i) L1 s0) x.o x.eff)).heap id := by
          refine runB_heap rfl fun y hy hyt => ?_
          rw [hup2 y hy]
          cases hby : b y.i with
          | false => rfl
          | true =>
            have := (apart_spec (far2 y hy hby)).2.2.2.2.2 id (by rw [tu]; exact e)
            rw [(vt y (by simp [hy])).2.2] at this
            exact absurd hyt this
        rw [this]
        have e2 : ∀ (M : List Itm) (s : St), runB (fun _ => false) M s = s := by
          intro M
          induction M with
          | nil => intro s; rfl
          | cons y M ih => intro s; simp only [runB, cond_false]; exact ih s
        rw [e2]
        exact applyE_heap_congr fun h => absurd e h
      · rw [applyE_heap_skip e]
        refine runB_heap ?_ fun y hy _ => hup2 y hy
        rw [applyE_heap_skip e]
        exact runB_heap rfl fun z hz _ => hup1 z hz
    have hn : (runB (up b x.i) (L1 ++ x :: L2) s0).n = (applyE (runB b (L1 ++ x :: L2) s0) x.o x.eff).n := by rw [(runB_n _ _ _).1, (applyE_n _ _ _).1, (runB_n _ _ _).1]
    have hnx : (runB (up b x.i) (L1 ++ x :: L2) s0).next = (applyE (runB b (L1 ++ x :: L2) s0) x.o x.eff).next := by rw [(runB_n _ _ _).2, (applyE_n _ _ _).2, (runB_n _ _ _).2]
    revert env heap hn hnx
    generalize runB (up b x.i) (L1 ++ x :: L2) s0 = s1
    generalize applyE (runB b (L1 ++ x :: L2) s0) x.o x.eff = s2
    intro env heap hn hnx
    cases s1; cases s2
    simp only at env heap hn hnx
    rw [show _ = _ from funext env, show _ = _ from funext heap, hn, hnx]
  rw [hfin] at hK
  rw [wpOp, hox]
  obtain ⟨φ, ow, hn, hdf, henv, hrest⟩ := id hR
  obtain ⟨hds, hval⟩ := hval
  have hds' : dstOk (runB b (L1 ++ x :: L2) s0).n x.o.dst = true := by
    rw [(runB_n _ _ _).1]
    rw [runB_all, (runB_n _ _ _).1] at hds
    exact hds
  -- the guard
  have guard : ∀ run rd, GuardH ops (runAll L1 s0) x.o run rd → (∀ t ∈ rd, t ∈ x.t.rd) → Region.wanted x.o (yielded ops a.tmps) = run := by
    intro run rd h hsub
    refine guard_wanted (st := runB b (L1 ++ x :: L2) s0) (rd := rd) ?_ henv
    rcases h with h | ⟨j, want, d, c, h1, h2, h3, h4, h5⟩ | ⟨j, want, d, v, h1, h2, h3, h6, h4, h5⟩
    · exact .inl h
    · refine .inr (.inl ⟨j, want, d, c, h1, h2, ?_, h4, h5⟩)
      rw [venv d (hsub d (by rw [h5]; simp))]
      exact h3
    · refine .inr (.inr ⟨j, want, d, v, h1, h2, ?_, h6, h4, h5⟩)
      rw [venv d (hsub d (by rw [h5]; simp))]
      exact h3
  cases heff : x.eff with
  | none =>
    rw [heff] at hval hK
    obtain ⟨rd, hgd, htr⟩ := hval
    have hw := guard _ _ hgd (by rw [htr]; intro t h; exact h)
    simp only [hw]
    rw [if_neg (by simp)]
    exact hK _ _ (step_skip hR hds')
  | some out =>
    rw [heff] at hval hK
    obtain ⟨rd, hgd, h1, h2, h3, htr⟩ := hval
    have hw := guard _ _ hgd (by rw [htr]; intro t h; exact List.mem_append_left _ h)
    simp only [hw]
    rw [if_pos trivial]
    left
    have hev : reqOp C.P C.S C.wr x.o.op (evalAV (runAll L1 s0).env) (next + 64 * x.i) = reqOp C.P C.S C.wr x.o.op (evalAV (runB b (L1 ++ x :: L2) s0).env) (next + 64 * x.i) := by
      refine reqOp_congr fun y hy => ?_
      cases y <;> try rfl
      rename_i t
      refine (venv t ?_).symm
      rw [htr]
      exact List.mem_append_right _ (opSlots_mem hy)
    rw [hev] at h1 h3 htr
    have htch : x.t.tch = (reqOp C.P C.S C.wr x.o.op (evalAV (runB b (L1 ++ x :: L2) s0).env) (next + 64 * x.i)).touched (runAll L1 s0).heap := by rw [htr]
    obtain ⟨l1, l2⟩ := Req.local_ (hp := (runAll L1 s0).heap) (hp' := (runB b (L1 ++ x :: L2) s0).heap) (r := reqOp C.P C.S C.wr x.o.op (evalAV (runB b (L1 ++ x :: L2) s0).env) (next + 64 * x.i)) (fun id hid => vheap id (by rw [htch]; exact hid))
    rw [← l1] at h1
    exact step_op hS hnx hR hb hiN (ord := fun k => (B.getD x.i 0).testBit k) (fun k hk => ⟨hpre k hk, hbN k (hpre k hk)⟩) h1 h2 h3 hds' hK

end
end GoSx
end
section
/- Sx, part 16: a region, whatever its order. -/
set_option linter.unusedVariables false
set_option linter.unusedSimpArgs false
namespace GoSx
open Go

/-! ### Which operations are ahead of one -/
def bitsOf (g : Nat → Nat) (o : Oper) : Nat := o.after.foldl (fun s e => if Region.binds .any e then s ||| 2 ^ e.on ||| g e.on else s) 0

theorem bits_fold (g : Nat → Nat) (j : Nat) : ∀ (l : List Edge) (s : Nat), (l.foldl (fun s e => if Region.binds .any e then s ||| 2 ^ e.on ||| g e.on else s) s).testBit j = true →
    s.testBit j = true ∨ ∃ e ∈ l, Region.binds .any e = true ∧ (j = e.on ∨ (g e.on).testBit j = true)
  | [], s, h => .inl h
  | e :: l, s, h => by
    rw [List.foldl_cons] at h
    rcases bits_fold g j l _ h with h1 | ⟨e', h1, h2⟩
    · by_cases hb : Region.binds .any e = true
      · rw [if_pos hb] at h1
        simp only [Nat.testBit_or, Bool.or_eq_true, Nat.testBit_two_pow, decide_eq_true_eq] at h1
        rcases h1 with (h1 | h1) | h1
        · exact .inl h1
        · exact .inr ⟨e, by simp, hb, .inl h1.symm⟩
        · exact .inr ⟨e, by simp, hb, .inr h1⟩
      · rw [if_neg hb] at h1
        exact .inl h1
    · exact .inr ⟨e', List.mem_cons_of_mem _ h1, h2⟩

def befF (acc : Array Nat) (o : Oper) : Array Nat := acc.push (o.after.foldl (fun s e => if Region.binds .any e then s ||| 2 ^ e.on ||| acc.getD e.on 0 else s) 0)
theorem before_eq (ops : Array Oper) : Region.before ops = ops.toList.foldl befF #[] := by
  unfold Region.before
  rw [← Array.foldl_toList]
  rfl

theorem bef_fold : ∀ (l : List Oper) (acc : Array Nat), (l.foldl befF acc).size = acc.size + l.length ∧ (∀ j, j < acc.size → (l.foldl befF acc).getD j 0 = acc.getD j 0) ∧
    ∀ k o, l[k]? = some o → (l.foldl befF acc).getD (acc.size + k) 0 = bitsOf (fun j => if j < acc.size + k then (l.foldl befF acc).getD j 0 else 0) o
  | [], acc => ⟨by simp, fun _ _ => rfl, fun k o h => by simp at h⟩
  | o :: l, acc => by
    rw [List.foldl_cons]
    obtain ⟨h1, h2, h3⟩ := bef_fold l (befF acc o)
    have hs : (befF acc o).size = acc.size + 1 := by simp [befF]
    have hold : ∀ j, j < acc.size → (l.foldl befF (befF acc o)).getD j 0 = acc.getD j 0 := by
      intro j hj
      rw [h2 j (by omega)]
      simp [befF, Array.getElem?_push, Nat.ne_of_lt hj]
    refine ⟨by rw [h1, hs]; simp; omega, hold, ?_⟩
    intro k o' hk
    cases k with
    | zero =>
      simp only [List.getElem?_cons_zero, Option.some.injEq] at hk
      subst hk
      rw [Nat.add_zero, h2 acc.size (by omega)]
      have : (befF acc o).getD acc.size 0 = o.after.foldl (fun s e => if Region.binds .any e then s ||| 2 ^ e.on ||| acc.getD e.on 0 else s) 0 := by simp [befF]
      rw [this]
      unfold bitsOf
      congr 1
      funext s e
      by_cases hb : Region.binds .any e = true
      · rw [if_pos hb, if_pos hb]
        simp only
        by_cases hlt : e.on < acc.size
        · rw [if_pos hlt, hold _ hlt]
        · rw [if_neg hlt]
          have : acc.getD e.on 0 = 0 := by simp [Array.getElem?_eq_none (by omega : acc.size ≤ e.on)]
          rw [this]
      · rw [if_neg hb, if_neg hb]
    | succ k =>
      have := h3 k o' (by simpa using hk)
      rw [hs] at this
      rw [show acc.size + (k + 1) = acc.size + 1 + k from by omega]
      exact this

theorem before_bit {ops : Array Oper} {k j : Nat} (h : ((Region.before ops).getD k 0).testBit j = true) :
    ∃ o e, ops[k]? = some o ∧ e ∈ o.after.toList ∧ Region.binds .any e = true ∧ (j = e.on ∨ (e.on < k ∧ ((Region.before ops).getD e.on 0).testBit j = true)) := by
  rw [before_eq] at h ⊢
  obtain ⟨h1, _, h3⟩ := bef_fold ops.toList #[]
  cases ho : ops[k]? with
  | none =>
    have hk : ops.size ≤ k := by
      rcases Nat.lt_or_ge k ops.size with hk | hk
      · rw [Array.getElem?_eq_getElem hk] at ho; cases ho
      · exact hk
    have hsz : (ops.toList.foldl befF #[]).size ≤ k := by rw [h1]; simpa using hk
    rw [Array.getD_eq_getD_getElem?, Array.getElem?_eq_none hsz] at h
    simp at h
  | some o =>
    have h4 := h3 k o (by simpa using ho)
    simp only [Array.size_empty, Nat.zero_add] at h4
    rw [h4] at h
    unfold bitsOf at h
    rw [← Array.foldl_toList] at h
    rcases bits_fold (fun j => if j < k then (ops.toList.foldl befF #[]).getD j 0 else 0) j _ _ h with h5 | ⟨e, h5, h6, h7⟩
    · simp at h5
    · refine ⟨o, e, rfl, h5, h6, h7.imp (fun h => h) fun h => ?_⟩
      by_cases hlt : e.on < k
      · rw [if_pos hlt] at h; exact ⟨hlt, h⟩
      · rw [if_neg hlt] at h; simp at h

/-- What is closed under the edges is closed under what they lead to. -/
theorem closed_bits {ops : Array Oper} {b : Nat → Bool} (hd : ∀ k o e, ops[k]? = some o → e ∈ o.after.toList → Region.binds .any e = true → b k = true → b e.on = true) :
    ∀ n k, k ≤ n → b k = true → ∀ j, ((Region.before ops).getD k 0).testBit j = true → b j = true := by
  intro n
  induction n with
  | zero =>
    intro k hk hb j hj
    obtain ⟨o, e, h1, h2, h3, h4⟩ := before_bit hj
    rcases h4 with rfl | ⟨h4, _⟩
    · exact hd k o e h1 h2 h3 hb
    · omega
  | succ n ih =>
    intro k hk hb j hj
    obtain ⟨o, e, h1, h2, h3, h4⟩ := before_bit hj
    rcases h4 with rfl | ⟨h4, h5⟩
    · exact hd k o e h1 h2 h3 hb
    · exact ih e.on (by omega) (hd k o e h1 h2 h3 hb) j h5

theorem edgesOk_spec : ∀ {l : List Oper} {i : Nat}, edgesOk i l = true → ∀ k o e, l[k]? = some o → e ∈ o.after.toList → Region.binds .any e = true → e.on < i + k
  | [], _, _, k, o, e, h, _, _ => by simp at h
  | x :: l, i, h, k, o, e, hk, he, hb => by
    simp only [edgesOk, Bool.and_eq_true, List.all_eq_true] at h
    cases k with
    | zero =>
      simp only [List.getElem?_cons_zero, Option.some.injEq] at hk
      subst hk
      have := h.1 e he
      rw [hb] at this
      have := Nat.le_of_ble_eq_true (show Nat.ble (e.on + 1) i = true by simpa [Nat.blt] using this)
      omega
    | succ k =>
      have := edgesOk_spec h.2 k o e (by simpa using hk) he hb
      omega

section
variable {D0 : List Deferred} {φ0 : Hnd} {ow0 : Own} {w0 : World} {C : Cfg} {ops : Array Oper} {Q : Exit → Act → World → Prop}

def bOf (listed : Array Bool) : Nat → Bool := fun k => listed.getD k false

theorem bOf_set {listed : Array Bool} {i : Nat} (hi : i < listed.size) : bOf (listed.setIfInBounds i true) = up (bOf listed) i := by
  funext k
  unfold bOf up
  by_cases e : k = i
  · subst e
    simp [Array.getElem?_setIfInBounds, hi]
  · rw [if_neg e]
    simp [Array.getElem?_setIfInBounds, Ne.symm e]

theorem count_set {N i : Nat} {b : Nat → Bool} (hi : i < N) (hb : b i = false) : ((List.range N).filter fun k => !(up b i k)).length + 1 = ((List.range N).filter fun k => !(b k)).length := by
  have : ∀ (l : List Nat), l.Nodup → i ∈ l → (l.filter fun k => !(up b i k)).length + 1 = (l.filter fun k => !(b k)).length := by
    intro l
    induction l with
    | nil => intro _ h; cases h
    | cons x l ih =>
      intro hn hm
      rw [List.nodup_cons] at hn
      rcases List.mem_cons.1 hm with rfl | hm
      · have h1 : (l.filter fun k => !(up b i k)) = l.filter fun k => !(b k) := by
          refine List.filter_congr fun k hk => ?_
          unfold up
          rw [if_neg (by intro e; subst e; exact hn.1 hk)]
        rw [List.filter_cons, List.filter_cons]
        simp [up, hb]
        exact congrArg List.length (by simpa [up] using h1)
      · have hx : x ≠ i := by intro e; subst e; exact hn.1 hm
        have := ih hn.2 hm
        rw [List.filter_cons, List.filter_cons]
        have e : up b i x = b x := by unfold up; rw [if_neg hx]
        rw [e]
        cases b x
        · simp only [Bool.not_false, if_true, List.length_cons]; omega
        · simpa using this
  exact this _ List.nodup_range (List.mem_range.2 hi)

theorem any_run (hS : ∀ f, SummOK C.P f (C.S f)) {next : Nat} (hnx : 0 < next) {L : List Itm} {s0 : St} (hg : Good C ops (some (Region.before ops)) next 0 L s0) (hL : L.length = ops.size) (ht : trcOk (Region.before ops) (L.map (·.t)) = true)
    (he : edgesOk 0 ops.toList = true) (hQ : ∀ a w, RSat D0 φ0 ow0 w0 next ops.size (fun k => decide (k < ops.size)) (runAll L s0) a w → Q .normal a w) :
    ∀ (fuel : Nat) (listed : Array Bool) (a : Act) (w : World), listed.size = ops.size → ((List.range ops.size).filter fun k => !(bOf listed k)).length ≤ fuel →
      (∀ k o e, ops[k]? = some o → e ∈ o.after.toList → Region.binds .any e = true → bOf listed k = true → bOf listed e.on = true) →
      RSat D0 φ0 ow0 w0 next ops.size (bOf listed) (runB (bOf listed) L s0) a w → wpAny C.P .any ops Q fuel listed a w := by
  have hbN : ∀ (listed : Array Bool), listed.size = ops.size → ∀ k, bOf listed k = true → k < ops.size := by
    intro listed hs k hk
    rcases Nat.lt_or_ge k ops.size with h | h
    · exact h
    · unfold bOf at hk
      simp [Array.getElem?_eq_none (show listed.size ≤ k by omega)] at hk
  -- all are listed
  have hdone : ∀ (listed : Array Bool) (a : Act) (w : World), listed.size = ops.size → (∀ k, k < ops.size → bOf listed k = true) → RSat D0 φ0 ow0 w0 next ops.size (bOf listed) (runB (bOf listed) L s0) a w → Q .normal a w := by
    intro listed a w hs hall hR
    have e : bOf listed = fun k => decide (k < ops.size) := by
      funext k
      by_cases hk : k < ops.size
      · rw [hall k hk]; simp [hk]
      · have : bOf listed k = false := by
          cases h : bOf listed k with
          | false => rfl
          | true => exact absurd (hbN listed hs k h) hk
        rw [this]; simp [hk]
    have e2 : runB (bOf listed) L s0 = runAll L s0 := by
      rw [runB_all]
      have : ∀ (M : List Itm) (s : St), (∀ x ∈ M, bOf listed x.i = true) → runB (bOf listed) M s = runB (fun _ => true) M s := by
        intro M
        induction M with
        | nil => intro s _; rfl
        | cons x M ih =>
          intro s h
          simp only [runB, h x (by simp)]
          exact ih _ fun y hy => h y (List.mem_cons_of_mem _ hy)
      refine this L s0 fun x hx => hall _ ?_
      obtain ⟨L1, L2, e⟩ := List.append_of_mem hx
      have h1 := hg
      rw [e] at h1
      have := (good_split h1).1
      rw [this, ← hL, e]
      simp
    rw [e2, e] at hR
    exact hQ a w hR
  -- one that is not listed, all its edges being so
  have hready : ∀ listed : Array Bool, listed.size = ops.size → (∃ k, k < ops.size ∧ bOf listed k = false) → Region.ready .any ops listed ≠ [] := by
    intro listed hs hex
    have hmin : ∀ n k, k ≤ n → k < ops.size → bOf listed k = false → ∃ i, i < ops.size ∧ bOf listed i = false ∧ ∀ j, j < i → bOf listed j = true := by
      intro n
      induction n with
      | zero => intro k hk h1 h2; exact ⟨k, h1, h2, fun j hj => by omega⟩
      | succ n ih =>
        intro k hk h1 h2
        by_cases hlow : ∃ j, j < k ∧ bOf listed j = false
        · obtain ⟨j, hj, hj2⟩ := hlow
          exact ih j (by omega) (by omega) hj2
        · refine ⟨k, h1, h2, fun j hj => ?_⟩
          cases hb : bOf listed j with
          | true => rfl
          | false => exact absurd ⟨j, hj, hb⟩ hlow
    obtain ⟨k, hk, hkb⟩ := hex
    obtain ⟨i, hi, hib, hlow⟩ := hmin k k (Nat.le_refl _) hk hkb
    have : i ∈ Region.ready .any ops listed := by
      unfold Region.ready
      rw [List.mem_filter, List.mem_range]
      refine ⟨hi, ?_⟩
      have hoi : ops[i]? = some ops[i] := Array.getElem?_eq_getElem hi
      have hl : listed.getD i true = false := by
        have h1 : i < listed.size := by omega
        unfold bOf at hib
        simp only [Array.getD_eq_getD_getElem?, Array.getElem?_eq_getElem h1, Option.getD_some] at hib ⊢
        exact hib
      rw [hl, hoi]
      simp only [Bool.not_false, Option.map_some, Option.getD_some, Bool.true_and]
      rw [Array.all_eq_true']
      intro e hem
      cases hb : Region.binds .any e with
      | false => rfl
      | true =>
        have := edgesOk_spec he i ops[i] e (by simp) (by simpa using hem) hb
        simpa [bOf] using hlow e.on (by omega)
    intro h
    rw [h] at this
    cases this
  intro fuel
  induction fuel with
  | zero =>
    intro listed a w hs hc hcl hR
    have hall : ∀ k, k < ops.size → bOf listed k = true := by
      intro k hk
      cases hb : bOf listed k with
      | true => rfl
      | false =>
        have : k ∈ (List.range ops.size).filter fun k => !(bOf listed k) := List.mem_filter.2 ⟨List.mem_range.2 hk, by simp [hb]⟩
        rw [List.eq_nil_of_length_eq_zero (Nat.le_zero.1 hc)] at this
        cases this
    refine ⟨?_, hdone listed a w hs hall hR⟩
    refine List.eq_nil_iff_forall_not_mem.2 fun i hi => ?_
    unfold Region.ready at hi
    rw [List.mem_filter, List.mem_range] at hi
    have h1 := hall i hi.1
    have h2 : i < listed.size := by omega
    unfold bOf at h1
    simp only [Array.getD_eq_getD_getElem?, Array.getElem?_eq_getElem h2, Option.getD_some] at h1
    have h3 := hi.2
    simp only [Array.getD_eq_getD_getElem?, Array.getElem?_eq_getElem h2, Option.getD_some, h1] at h3
    simp at h3
  | succ fuel ih =>
    intro listed a w hs hc hcl hR
    refine ⟨fun hr => ?_, fun i hi => ?_⟩
    · refine hdone listed a w hs (fun k hk => ?_) hR
      cases hb : bOf listed k with
      | true => rfl
      | false => exact absurd hr (hready listed hs ⟨k, hk, hb⟩)
    · unfold Region.ready at hi
      rw [List.mem_filter, List.mem_range, Bool.and_eq_true] at hi
      obtain ⟨hiN, hi1, hi2⟩ := hi
      have h2 : i < listed.size := by omega
      have hib : bOf listed i = false := by
        simp only [Array.getD_eq_getD_getElem?, Array.getElem?_eq_getElem h2, Option.getD_some] at hi1
        unfold bOf
        simp only [Array.getD_eq_getD_getElem?, Array.getElem?_eq_getElem h2, Option.getD_some]
        simpa using hi1
      have hedge : ∀ o e, ops[i]? = some o → e ∈ o.after.toList → Region.binds .any e = true → bOf listed e.on = true := by
        intro o e ho hem hb
        rw [ho] at hi2
        simp only [Option.map_some, Option.getD_some, Array.all_eq_true'] at hi2
        have := hi2 e (by simpa using hem)
        rw [hb] at this
        simpa [bOf] using this
      -- the item
      have hex : ∃ L1 x L2, L = L1 ++ x :: L2 ∧ L1.length = i := by
        have hlt : i < L.length := by omega
        exact ⟨L.take i, L[i], L.drop (i + 1), by rw [← List.drop_eq_getElem_cons hlt, List.take_append_drop], by rw [List.length_take]; omega⟩
      obtain ⟨L1, x, L2, rfl, hl1⟩ := hex
      have hxi : x.i = i := by rw [(good_split hg).1, hl1]; omega
      subst hxi
      have hcl' : ∀ k, bOf listed k = true → ∀ j, ((Region.before ops).getD k 0).testBit j = true → bOf listed j = true := fun k hk j hj => closed_bits hcl k k (Nat.le_refl _) hk j hj
      refine any_step hS hnx hg (by simpa using hL) ht hib (hbN listed hs) (fun j hj => ?_) hcl' hR fun a' w' h => ?_
      · obtain ⟨o, e, q1, q2, q3, q4⟩ := before_bit hj
        have hon := hedge o e q1 q2 q3
        rcases q4 with rfl | ⟨_, q4⟩
        · exact hon
        · exact hcl' _ hon j q4
      · have hset := bOf_set (listed := listed) h2
        refine ih (listed.setIfInBounds x.i true) a' w' (by simpa using hs) ?_ ?_ (by rw [hset]; exact h)
        · rw [hset]
          have := count_set hiN hib
          omega
        · rw [hset]
          intro k o e q1 q2 q3 q4
          unfold up at q4 ⊢
          by_cases hk : k = x.i
          · subst hk
            by_cases hj : e.on = x.i
            · rw [if_pos hj]
            · rw [if_neg hj]; exact hedge o e q1 q2 q3
          · rw [if_neg hk] at q4
            by_cases hj : e.on = x.i
            · rw [if_pos hj]
            · rw [if_neg hj]; exact hcl k o e q1 q2 q3 q4

/-- A region does what its condition says. -/
theorem region_ok (hS : ∀ f, SummOK C.P f (C.S f)) (hm : C.P.follows .mixedOrders = true) {id : Nat} {draw : Bool} {st : St} {K : St → Prop} (h : vcRegion C ops draw st K) {a : Act} {w : World} (hsat : SatF D0 φ0 ow0 w0 st a w)
    (hK : ∀ st', K st' → ∀ a' w', SatF D0 φ0 ow0 w0 st' a' w' → Q .normal a' w') : (Code.region id ops draw).wp C.P Q a w := by
  unfold vcRegion at h
  cases hc : !draw || edgesOk 0 ops.toList with
  | false => rw [hc] at h; cases h
  | true =>
    rw [hc, cond_true] at h
    obtain ⟨L, hL, hgood, hk, htr⟩ := vcOps_good _ 0 [] st (by simp) h
    obtain ⟨φ, ow, hn, hdf, henv, hheap, hfresh, hown, hnx, hfr⟩ := hsat
    have hlen : L.length = ops.size := by simpa using hL
    -- at the end
    have hend : ∀ a w, RSat D0 φ0 ow0 w0 st.next ops.size (fun k => decide (k < ops.size)) (runAll L st) a w → Q .normal a w := by
      rintro a w ⟨φ, ow, hn, hdf, henv, hheap, hfresh, hown, hfr⟩
      refine hK _ hk a w ⟨φ, ow, hn, hdf, henv, hheap, ?_, ?_, ?_, hfr⟩
      · intro id hid
        have hid' : st.next + 64 * ops.size ≤ id := hid
        refine hfresh id (by omega) fun k hk hw => ?_
        have : k < ops.size := by simpa using hk
        unfold inWin at hw
        omega
      · intro c id hc
        obtain ⟨h1, h2⟩ := hown c id hc
        refine ⟨h1, ?_⟩
        show id < st.next + 64 * ops.size
        rcases h2 with h2 | ⟨k, h2, _, h3⟩
        · omega
        · unfold inWin at h3; omega
      · show 0 < st.next + 64 * ops.size
        omega
    cases draw with
    | false =>
      refine wp_region ?_
      rw [List.range_eq_range', ← hlen]
      refine plain_run hS hnx (N := ops.size) (F := runAll L st) hend L 0 st a w rfl (by omega) hgood ⟨φ, ow, hn, hdf, henv, hheap, ?_, ?_, hfr⟩
      · intro id hid _; exact hfresh id hid
      · intro c id hc
        exact ⟨(hown c id hc).1, .inl (hown c id hc).2⟩
    | true =>
      have he : edgesOk 0 ops.toList = true := by simpa using hc
      refine wp_region_any hm ?_
      have hrep : ∀ k, bOf (Array.replicate ops.size false) k = false := by
        intro k
        unfold bOf
        simp [Array.getElem?_replicate]
        split <;> rfl
      have e0 : runB (bOf (Array.replicate ops.size false)) L st = st := by
        have : ∀ (M : List Itm) (s : St), runB (bOf (Array.replicate ops.size false)) M s = s := by
          intro M
          induction M with
          | nil => intro s; rfl
          | cons y M ih => intro s; simp only [runB, hrep, cond_false]; exact ih s
        exact this L st
      refine any_run hS hnx hgood hlen (by simpa using htr _ rfl) he hend ops.size _ a _ (by simp) ?_ ?_ ?_
      · exact Nat.le_trans (List.length_filter_le _ _) (by simp)
      · intro k o e _ _ _ hk
        rw [hrep] at hk
        cases hk
      · rw [e0]
        have hdr : Keep ow w ow { w with drawn := w.drawn + 1 } := ⟨Nat.le_refl _, fun b _ h => ⟨h, rfl⟩⟩
        refine ⟨φ, ow, hn, hdf, fun t => AV.holds_keep (PhiLe.refl φ) hdr (henv t), fun id => cH_keep (PhiLe.refl φ) hdr (fun b _ h => ⟨h, rfl⟩) (hheap id), fun id hid _ => hfresh id hid, fun c id hc => ⟨(hown c id hc).1, .inl (hown c id hc).2⟩, ?_⟩
        exact ⟨hfr.size, hfr.os, hfr.tape, hfr.output, hfr.blk, hfr.frn, hfr.phi⟩

end
end GoSx
end
section
/- Sx, part 17: what an invariant tells, the state tells. -/
set_option linter.unusedVariables false
set_option linter.unusedSimpArgs false
namespace GoSx
open Go

section
variable {φ : Hnd} {ow : Own} {w : World}

/-! ### Rows that are out come back -/
theorem updH_spec : ∀ (u : Upd) (heap : Nat → Chunk) (j : Nat), (∃ c, (j, c) ∈ u ∧ updH heap u j = c) ∨ (j ∉ ids u ∧ updH heap u j = heap j)
  | [], heap, j => .inr ⟨by simp [ids], rfl⟩
  | (i, c) :: r, heap, j => by
    unfold updH
    by_cases h : j = i
    · subst h
      simp only [Nat.beq_refl, cond_true]
      exact .inl ⟨c, by simp, rfl⟩
    · have : Nat.beq j i = false := Bool.eq_false_iff.2 fun e => h (Nat.eq_of_beq_eq_true e)
      simp only [this, cond_false]
      rcases updH_spec r heap j with ⟨c', h1, h2⟩ | ⟨h1, h2⟩
      · exact .inl ⟨c', List.mem_cons_of_mem _ h1, h2⟩
      · refine .inr ⟨?_, h2⟩
        simp only [ids, List.map_cons, List.mem_cons, not_or]
        exact ⟨h, h1⟩

/-- Owners that changed hands among what is ours. -/
structure Hand (ow ow' : Own) : Prop where
  none : ∀ c, ow' c = Option.none ↔ ow c = Option.none
  zero : ∀ c, ow' c = some 0 ↔ ow c = some 0

theorem Hand.refl (ow : Own) : Hand ow ow := ⟨fun _ => Iff.rfl, fun _ => Iff.rfl⟩
theorem Hand.trans {a b c : Own} (h : Hand a b) (k : Hand b c) : Hand a c := ⟨fun x => (k.none x).trans (h.none x), fun x => (k.zero x).trans (h.zero x)⟩
theorem Hand.keep {ow' : Own} (h : Hand ow ow') : Keep ow w ow' w := ⟨Nat.le_refl _, fun b _ hb => ⟨(h.none b).2 hb, rfl⟩⟩

theorem closeAt_cases (b : Nat) (heap : Nat → Chunk) : closeAt b heap = heap ∨ ∃ e e' T l h hs o, heap b = .arr2 e e' T l (h :: hs) ∧
    (closeHs e' T (h :: hs) l fun l d => if memN b d || !(nodupN d) || memN 0 d || Nat.beq b 0 then .fail else .out ⟨[], .nil, (b, .arr2 e e' T l []) :: d.map fun j => (j, .none)⟩).run heap = some o ∧ closeAt b heap = updH heap o.upd := by
  unfold closeAt
  cases hb : heap b <;> try (exact .inl rfl)
  rename_i e e' T l hs
  cases hs with
  | nil => exact .inl rfl
  | cons h hs =>
    simp only
    split
    · rename_i o ho
      exact .inr ⟨e, e', T, l, h, hs, o, rfl, ho, rfl⟩
    · exact .inl rfl

theorem closeAt_ok {b : Nat} {heap : Nat → Chunk} (hc : ∀ i, cH φ ow w i (heap i)) : ∃ ow', Hand ow ow' ∧ ∀ i, cH φ ow' w i (closeAt b heap i) := by
  rcases closeAt_cases b heap with hcl | ⟨e, e', T, l, h, hs, o, hb, ho, hcl⟩
  · exact ⟨ow, Hand.refl _, by rw [hcl]; exact hc⟩
  · rw [hcl]
    obtain ⟨l', h1, h2, h3⟩ := closeHs_ok (φ := φ) (w := w) (id := b) (h :: hs) l _ ho
    split at h1 <;> try (simp [Req.run] at h1; done)
    rename_i hcond
    simp only [Bool.or_eq_true, Bool.not_eq_true', not_or, Bool.not_eq_true, Bool.not_eq_false] at hcond
    obtain ⟨⟨⟨c1, c2⟩, c3⟩, c4⟩ := hcond
    simp only [Req.run, Option.some.injEq] at h1
    subst h1
    have hbd : b ∉ (h :: hs).map (·.2) := fun h => by have := memN_iff.2 h; rw [c1] at this; cases this
    have h0d : 0 ∉ (h :: hs).map (·.2) := fun h => by have := memN_iff.2 h; rw [c3] at this; cases this
    have hb0 : b ≠ 0 := fun h => by rw [h] at c4; cases c4
    have hcb := hc b
    rw [hb] at hcb
    obtain ⟨v, xs, pos, hv, hown, hvb, hlim, hsub⟩ := hcb
    obtain ⟨pos', hpos, hsub'⟩ := h3 ow pos xs (fun p _ => hc p.2) (nodupN_iff.1 c2) hbd hsub
    refine ⟨moveOw ((h :: hs).map (·.2)) b ow, ⟨fun c => moveOw_none, fun c => ⟨fun hm => ?_, fun hm => moveOw_out hm h0d⟩⟩, fun i => ?_⟩
    · rcases moveOw_some hm with ⟨h1, _⟩ | ⟨h1, _⟩
      · exact h1
      · exact absurd h1.symm hb0
    · rcases updH_spec ((b, Chunk.arr2 e e' T l' []) :: ((h :: hs).map (·.2)).map fun j => (j, Chunk.none)) heap i with ⟨c, k1, k2⟩ | ⟨k1, k2⟩
      · rw [k2]
        rcases List.mem_cons.1 k1 with k1 | k1
        · injection k1 with e1 e2
          subst e1; subst e2
          exact ⟨v, xs, pos', hv, by rw [h2]; exact hown, fun g hg => ⟨moveOw_out (hvb g hg).1 hbd, by rw [hpos g (hvb g hg).1]; exact (hvb g hg).2⟩, by rw [h2]; exact hlim, hsub'⟩
        · obtain ⟨j, _, e1⟩ := List.mem_map.1 k1
          injection e1 with e1 e2
          subst e2
          trivial
      · rw [k2]
        have k3 : i ∉ (h :: hs).map (·.2) := by
          intro hi
          refine k1 ?_
          simp only [ids, List.map_cons, List.mem_cons]
          right
          obtain ⟨p, hp, rfl⟩ := List.mem_map.1 hi
          rcases List.mem_cons.1 hp with rfl | hp
          · exact .inl rfl
          · refine .inr ?_
            simp only [List.map_map, List.mem_map]
            exact ⟨p, hp, rfl⟩
        exact cH_keep (PhiLe.refl φ) (keep_move _ _) (fun c _ hb => ⟨moveOw_out hb k3, rfl⟩) (hc i)

theorem preClose_ok {ρ : Ren} : ∀ (l : List (Nat × Chunk)) (heap : Nat → Chunk) (ow : Own), (∀ i, cH φ ow w i (heap i)) → ∃ ow', Hand ow ow' ∧ ∀ i, cH φ ow' w i (preClose ρ l heap i)
  | [], heap, ow, hc => ⟨ow, Hand.refl _, hc⟩
  | (a, c) :: r, heap, ow, hc => by
    have skip : preClose ρ ((a, c) :: r) heap = preClose ρ r heap → ∃ ow', Hand ow ow' ∧ ∀ i, cH φ ow' w i (preClose ρ ((a, c) :: r) heap i) := by
      intro h
      rw [h]
      exact preClose_ok r heap ow hc
    cases c <;> try (exact skip rfl)
    rename_i e e' T l hs
    cases hs with
    | cons => exact skip rfl
    | nil =>
      obtain ⟨ow1, k1, k2⟩ := closeAt_ok (b := (ρ.find a).getD a) hc
      obtain ⟨ow2, k3, k4⟩ := preClose_ok r _ ow1 k2
      exact ⟨ow2, k1.trans k3, k4⟩

/-! ### Renaming -/
def Ren.le (ρ ρ' : Ren) : Prop := ∀ a b, ρ.find a = some b → ρ'.find a = some b
theorem Ren.le_refl (ρ : Ren) : ρ.le ρ := fun _ _ h => h
theorem Ren.le_trans {a b c : Ren} (h : a.le b) (k : b.le c) : a.le c := fun x y e => k x y (h x y e)

theorem bind_spec {ρ ρ' : Ren} {a b : Nat} (h : ρ.bind a b = some ρ') : ρ.le ρ' ∧ ρ'.find a = some b := by
  unfold Ren.bind at h
  split at h
  · rename_i c hc
    cases hcb : Nat.beq c b with
    | false => rw [hcb] at h; cases h
    | true =>
      rw [hcb] at h
      injection h with h
      subst h
      rw [Nat.eq_of_beq_eq_true hcb] at hc
      exact ⟨Ren.le_refl _, hc⟩
  · rename_i hc
    injection h with h
    subst h
    refine ⟨fun x y e => ?_, by simp [Ren.find]⟩
    unfold Ren.find
    cases hx : Nat.beq a x with
    | false => exact e
    | true =>
      rw [Nat.eq_of_beq_eq_true hx] at hc
      rw [hc] at e
      cases e

theorem find_mem : ∀ {ρ : Ren} {a b : Nat}, ρ.find a = some b → (a, b) ∈ ρ
  | (x, y) :: r, a, b, h => by
    unfold Ren.find at h
    cases hx : Nat.beq x a with
    | false => rw [hx] at h; exact List.mem_cons_of_mem _ (find_mem h)
    | true =>
      rw [hx] at h
      injection h with h
      rw [Nat.eq_of_beq_eq_true hx, h]
      simp

/-- Which number stands for b. -/
def Ren.inv : Ren → Nat → Option Nat
  | [], _ => Option.none
  | (x, y) :: r, b => if y = b then some x else Ren.inv r b
theorem inv_mem : ∀ {ρ : Ren} {a b : Nat}, ρ.inv b = some a → (a, b) ∈ ρ
  | (x, y) :: r, a, b, h => by
    unfold Ren.inv at h
    split at h
    · rename_i e
      injection h with h
      rw [h, e]
      simp
    · exact List.mem_cons_of_mem _ (inv_mem h)
theorem inv_of : ∀ {ρ : Ren} {a b : Nat}, ρ.inj = true → (a, b) ∈ ρ → ρ.inv b = some a
  | (x, y) :: r, a, b, hi, h => by
    simp only [Ren.inj, Bool.and_eq_true, List.all_eq_true] at hi
    unfold Ren.inv
    rcases List.mem_cons.1 h with h | h
    · injection h with h1 h2
      rw [if_pos h2.symm, h1]
    · rw [if_neg]
      · exact inv_of hi.2 h
      · intro e
        have := hi.1 _ h
        simp [e] at this

def renPhi (φ0 φ : Hnd) (ρ : Ren) : Hnd := fun id => match ρ.find id with
  | some b => φ b
  | Option.none => φ0 id
def renOw (ow : Own) (ρ : Ren) : Own := fun c => match ow c with
  | Option.none => Option.none
  | some 0 => some 0
  | some (j + 1) => ρ.inv (j + 1)

section
variable {φ0 : Hnd} {ow1 : Own} {ρf : Ren}

theorem keep_ren (h : Hand ow ow1) : Keep ow w (renOw ow1 ρf) w := ⟨Nat.le_refl _, fun b _ hb => ⟨by unfold renOw; rw [(h.none b).2 hb], rfl⟩⟩
theorem keep_ren1 : Keep ow1 w (renOw ow1 ρf) w := ⟨Nat.le_refl _, fun b _ hb => ⟨by unfold renOw; rw [hb], rfl⟩⟩

theorem renPhi_find {a b : Nat} (h : ρf.find a = some b) : renPhi φ0 φ ρf a = φ b := by unfold renPhi; rw [h]

/-- What one value tells the other one tells, under other numbers. -/
def Tr (φ0 φ : Hnd) (ow ow1 : Own) (w : World) (ρf : Ren) (a a' : AV) : Prop := ∀ vs, a'.holds φ ow w vs → a.holds (renPhi φ0 φ ρf) (renOw ow1 ρf) w vs

theorem matchAV_ok (hH : Hand ow ow1) : ∀ (a a' : AV) (ρ ρ' : Ren) (ps : List Prop), matchAV ρ a a' = some (ρ', ps) → ρ.le ρ' ∧ (ρ'.le ρf → (∀ p ∈ ps, p) → Tr φ0 φ ow ow1 w ρf a a') := by
  intro a
  induction a with
  | bot =>
    intro a' ρ ρ' ps h
    unfold matchAV at h
    cases hs : a'.single <;> rw [hs] at h <;> simp at h
    obtain ⟨rfl, rfl⟩ := h
    exact ⟨Ren.le_refl _, fun _ _ vs hv => AV.holds_length hv hs⟩
  | raw v =>
    intro a' ρ ρ' ps h
    cases a' <;> simp [matchAV] at h
    obtain ⟨rfl, rfl⟩ := h
    refine ⟨Ren.le_refl _, fun _ hp vs hv => ?_⟩
    have := hp _ (List.mem_singleton.2 rfl)
    subst this
    exact hv
  | dat T x =>
    intro a' ρ ρ' ps h
    cases a' with
    | dat T' y =>
      simp only [matchAV] at h
      split at h <;> try (cases h; done)
      rename_i hT
      subst hT
      injection h with h
      injection h with h1 h2
      subst h1; subst h2
      refine ⟨Ren.le_refl _, fun _ hp vs hv => ?_⟩
      have : y = x := hp _ (List.mem_singleton.2 rfl)
      subst this
      exact AV.holds_keep (a := .dat _ y) (PhiLe.refl φ) (keep_ren hH) hv
    | raw u =>
      have key : ∃ t, T = .sl t ∧ u = .slice none 0 0 := by
        cases T <;> try (simp [matchAV] at h; done)
        rename_i t
        cases u <;> try (simp [matchAV] at h; done)
        rename_i A n c
        cases A <;> try (simp [matchAV] at h; done)
        cases n <;> try (simp [matchAV] at h; done)
        cases c <;> try (simp [matchAV] at h; done)
        exact ⟨t, rfl, rfl⟩
      obtain ⟨t, rfl, rfl⟩ := key
      simp only [matchAV, Option.some.injEq, Prod.mk.injEq] at h
      obtain ⟨rfl, rfl⟩ := h
      refine ⟨Ren.le_refl _, fun _ hp vs hv => ?_⟩
      have : x = [] := hp _ (List.mem_singleton.2 rfl)
      subst this
      have : vs = [.slice none 0 0] := hv
      subst this
      exact ⟨rfl, rfl, none, 0, rfl, Nat.le_refl _, Nat.zero_le _, Nat.zero_le _, .inl rfl⟩
    | _ => simp [matchAV] at h
  | isNil p => intro a' ρ ρ' ps h; cases a' <;> simp [matchAV] at h
  | arr id =>
    intro a' ρ ρ' ps h
    cases a' <;> simp [matchAV] at h
    obtain ⟨_, hb, rfl, rfl⟩ := h
    obtain ⟨h1, h2⟩ := bind_spec hb
    refine ⟨h1, fun hle _ vs ⟨A, n, c, k1, k2⟩ => ⟨A, n, c, ?_, k2⟩⟩
    rw [renPhi_find (hle _ _ h2)]
    exact k1
  | vw id sz lo hi =>
    intro a' ρ ρ' ps h
    cases a' with
    | vw id' sz' lo' hi' =>
      simp only [matchAV] at h
      cases hz : Nat.beq sz sz' <;> rw [hz] at h <;> simp at h
      obtain ⟨_, hb, rfl, rfl⟩ := h
      have hz' := Nat.eq_of_beq_eq_true hz
      subst hz'
      obtain ⟨h1, h2⟩ := bind_spec hb
      refine ⟨h1, fun hle hp vs hv => ?_⟩
      have e1 : lo' = lo := hp _ (by simp)
      have e2 : hi' = hi := hp _ (by simp)
      subst e1; subst e2
      obtain ⟨A, n, c, X, k1, k2⟩ := hv
      refine ⟨A, n, c, X, ?_, k2⟩
      rw [renPhi_find (hle _ _ h2)]
      exact k1
    | _ => simp [matchAV] at h
  | ref id off =>
    intro a' ρ ρ' ps h
    cases a' with
    | ref id' off' =>
      simp only [matchAV] at h
      cases hz : Nat.beq off off' <;> rw [hz] at h <;> simp at h
      obtain ⟨_, hb, rfl, rfl⟩ := h
      have hz' := Nat.eq_of_beq_eq_true hz
      subst hz'
      obtain ⟨h1, h2⟩ := bind_spec hb
      refine ⟨h1, fun hle hp vs ⟨g, k1, k2⟩ => ⟨g, ?_, k2⟩⟩
      rw [renPhi_find (hle _ _ h2)]
      exact k1
    | _ => simp [matchAV] at h
  | elt id sz i off =>
    intro a' ρ ρ' ps h
    cases a' with
    | elt id' sz' i' off' =>
      simp only [matchAV] at h
      cases hz : Nat.beq sz sz' && Nat.beq off off' <;> rw [hz] at h <;> simp at h
      obtain ⟨_, hb, rfl, rfl⟩ := h
      simp only [Bool.and_eq_true] at hz
      have hz' := Nat.eq_of_beq_eq_true hz.1
      have hz2 := Nat.eq_of_beq_eq_true hz.2
      subst hz'; subst hz2
      obtain ⟨h1, h2⟩ := bind_spec hb
      refine ⟨h1, fun hle hp vs hv => ?_⟩
      have e1 : i' = i := hp _ (by simp)
      subst e1
      obtain ⟨g, n, c, k1, k2⟩ := hv
      refine ⟨g, n, c, ?_, k2⟩
      rw [renPhi_find (hle _ _ h2)]
      exact k1
    | _ => simp [matchAV] at h
  | spt T x =>
    intro a' ρ ρ' ps h
    cases a' with
    | spt T' y =>
      simp only [matchAV] at h
      split at h <;> try (cases h; done)
      rename_i hT
      subst hT
      injection h with h
      injection h with h1 h2
      subst h1; subst h2
      refine ⟨Ren.le_refl _, fun _ hp vs hv => ?_⟩
      have : y = x := hp _ (List.mem_singleton.2 rfl)
      subst this
      exact AV.holds_keep (a := .spt _ y) (PhiLe.refl φ) (keep_ren hH) hv
    | _ => simp [matchAV] at h
  | fn f c ih =>
    intro a' ρ ρ' ps h
    cases a' with
    | fn g c' =>
      simp only [matchAV] at h
      cases hz : Nat.beq f g <;> rw [hz] at h <;> simp only [cond_true, cond_false] at h <;> try (cases h; done)
      have hz' := Nat.eq_of_beq_eq_true hz
      subst hz'
      obtain ⟨h1, h2⟩ := ih _ _ _ _ h
      exact ⟨h1, fun hle hp vs ⟨cs, k1, k2⟩ => ⟨cs, k1, h2 hle hp _ k2⟩⟩
    | _ => simp [matchAV] at h
  | mapv id =>
    intro a' ρ ρ' ps h
    cases a' <;> simp [matchAV] at h
    obtain ⟨_, hb, rfl, rfl⟩ := h
    obtain ⟨h1, h2⟩ := bind_spec hb
    refine ⟨h1, fun hle _ vs ⟨g, k1, k2⟩ => ⟨g, ?_, k2⟩⟩
    rw [renPhi_find (hle _ _ h2)]
    exact k1
  | chv id =>
    intro a' ρ ρ' ps h
    cases a' <;> simp [matchAV] at h
    obtain ⟨_, hb, rfl, rfl⟩ := h
    obtain ⟨h1, h2⟩ := bind_spec hb
    refine ⟨h1, fun hle _ vs ⟨g, k1, k2⟩ => ⟨g, ?_, k2⟩⟩
    rw [renPhi_find (hle _ _ h2)]
    exact k1
  | bfn id f =>
    intro a' ρ ρ' ps h
    cases a' with
    | bfn id' f' =>
      simp only [matchAV] at h
      cases hz : Nat.beq f f' <;> rw [hz] at h <;> simp only [cond_true, cond_false] at h <;> try (cases h; done)
      have hz' := Nat.eq_of_beq_eq_true hz
      subst hz'
      simp at h
      obtain ⟨_, hb, rfl, rfl⟩ := h
      obtain ⟨h1, h2⟩ := bind_spec hb
      refine ⟨h1, fun hle _ vs ⟨g, k1, k2⟩ => ⟨g, ?_, k2⟩⟩
      rw [renPhi_find (hle _ _ h2)]
      exact k1
    | _ => simp [matchAV] at h
  | opq id =>
    intro a' ρ ρ' ps h
    cases a' <;> simp [matchAV] at h
    obtain ⟨_, hb, rfl, rfl⟩ := h
    obtain ⟨h1, h2⟩ := bind_spec hb
    refine ⟨h1, fun hle _ vs ⟨g, k1, k2⟩ => ⟨g, ?_, k2⟩⟩
    rw [renPhi_find (hle _ _ h2)]
    exact k1
  | idn id T x =>
    intro a' ρ ρ' ps h
    cases a' with
    | idn id' T' y =>
      simp only [matchAV] at h
      split at h <;> try (cases h; done)
      rename_i hT
      subst hT
      simp only [Option.map_eq_some_iff, Prod.mk.injEq] at h
      obtain ⟨_, hb, rfl, rfl⟩ := h
      obtain ⟨h1, h2⟩ := bind_spec hb
      refine ⟨h1, fun hle hp vs ⟨g, k1, k2, k3, k4⟩ => ?_⟩
      have e2 : y = x := hp _ (.head _)
      subst e2
      refine ⟨g, ?_, k2, k3, Ty.rep_keep (keep_ren hH) k4⟩
      rw [renPhi_find (hle _ _ h2)]
      exact k1
    | _ => simp [matchAV] at h
  | nil =>
    intro a' ρ ρ' ps h
    cases a' <;> simp [matchAV] at h
    obtain ⟨rfl, rfl⟩ := h
    exact ⟨Ren.le_refl _, fun _ _ vs hv => hv⟩
  | cons a b iha ihb =>
    intro a' ρ ρ' ps h
    cases a' with
    | cons a2 b2 =>
      simp only [matchAV] at h
      split at h <;> try (cases h; done)
      rename_i ρ1 p h1
      split at h <;> try (cases h; done)
      rename_i ρ2 q h2
      injection h with h
      injection h with h3 h4
      subst h3; subst h4
      obtain ⟨k1, k2⟩ := iha _ _ _ _ h1
      obtain ⟨k3, k4⟩ := ihb _ _ _ _ h2
      refine ⟨Ren.le_trans k1 k3, fun hle hp vs ⟨v, r, e, g1, g2⟩ => ⟨v, r, e, k2 (Ren.le_trans k3 hle) (fun p hp' => hp p (by simp [hp'])) _ g1, k4 hle (fun p hp' => hp p (by simp [hp'])) _ g2⟩⟩
    | _ => simp [matchAV] at h
  | agg l ih =>
    intro a' ρ ρ' ps h
    cases a' with
    | agg l' =>
      simp only [matchAV] at h
      obtain ⟨h1, h2⟩ := ih _ _ _ _ h
      exact ⟨h1, fun hle hp vs ⟨cs, k1, k2⟩ => ⟨cs, k1, h2 hle hp _ k2⟩⟩
    | _ => simp [matchAV] at h
  | tup l ih =>
    intro a' ρ ρ' ps h
    cases a' with
    | tup l' =>
      simp only [matchAV] at h
      obtain ⟨h1, h2⟩ := ih _ _ _ _ h
      exact ⟨h1, fun hle hp vs ⟨cs, k1, k2⟩ => ⟨cs, k1, h2 hle hp _ k2⟩⟩
    | _ => simp [matchAV] at h

end
end
end GoSx
end
section
/- Sx, part 18: what an invariant tells, the state tells: chunks, and all. -/
set_option linter.unusedVariables false
set_option linter.unusedSimpArgs false
namespace GoSx
open Go

section
variable {φ : Hnd} {ow : Own} {w : World} {φ0 : Hnd} {ow1 : Own} {ρf : Ren}

theorem matchHs_ok : ∀ (hs hs' : List (Int × Nat)) (ρ ρ' : Ren) (ps : List Prop), matchHs ρ hs hs' = some (ρ', ps) → ρ.le ρ' ∧
    (ρ'.le ρf → (∀ p ∈ ps, p) → hs.map (·.1) = hs'.map (·.1) ∧ ∀ j, match holeAt hs j with
      | some k => ∃ k', holeAt hs' j = some k' ∧ ρf.find k = some k'
      | Option.none => holeAt hs' j = Option.none)
  | [], [], ρ, ρ', ps, h => by
    simp only [matchHs, Option.some.injEq, Prod.mk.injEq] at h
    obtain ⟨rfl, rfl⟩ := h
    exact ⟨Ren.le_refl _, fun _ _ => ⟨rfl, fun j => rfl⟩⟩
  | [], _ :: _, ρ, ρ', ps, h => by simp [matchHs] at h
  | _ :: _, [], ρ, ρ', ps, h => by simp [matchHs] at h
  | (i, k) :: r, (i', k') :: r', ρ, ρ', ps, h => by
    simp only [matchHs] at h
    split at h <;> try (cases h; done)
    rename_i ρ1 h1
    split at h <;> try (cases h; done)
    rename_i ρ2 q h2
    simp only [Option.some.injEq, Prod.mk.injEq] at h
    obtain ⟨rfl, rfl⟩ := h
    obtain ⟨k1, k2⟩ := bind_spec h1
    obtain ⟨k3, k4⟩ := matchHs_ok r r' _ _ _ h2
    refine ⟨Ren.le_trans k1 k3, fun hle hp => ?_⟩
    obtain ⟨g1, g2⟩ := k4 hle (fun p hp' => hp p (List.mem_cons_of_mem _ hp'))
    have hi : i' = i := hp _ (by simp)
    subst hi
    refine ⟨by simp [g1], fun j => ?_⟩
    unfold holeAt
    by_cases hj : i' = (j : Int)
    · rw [if_pos hj, if_pos hj]
      exact ⟨k', rfl, hle _ _ (k3 _ _ k2)⟩
    · rw [if_neg hj, if_neg hj]
      exact g2 j

theorem renOw_of {a b c : Nat} (hinj : ρf.inj = true) (hf : ρf.find a = some b) (hb : 0 < b) (h : ow1 c = some b) : renOw ow1 ρf c = some a := by
  unfold renOw
  rw [h]
  obtain ⟨b', rfl⟩ := Nat.exists_eq_succ_of_ne_zero (by omega : b ≠ 0)
  exact inv_of hinj (find_mem hf)

theorem rowH_ren {a b : Nat} (hinj : ρf.inj = true) (hf : ρf.find a = some b) (hb : 0 < b) {v : Value} {e : TypeId} {T : Ty} {l : List T.den} (h : rowH ow1 w b v e T l) : rowH (renOw ow1 ρf) w a v e T l :=
  rowH_move keep_ren1 (fun g hg => renOw_of hinj hf hb (h.choose_spec.2.1 g hg)) h

theorem matchCh_ok (a b : Nat) (hinj : ρf.inj = true) (hf : ρf.find a = some b) (hb : 0 < b) : ∀ (c c' : Chunk) (ρ ρ' : Ren) (ps : List Prop), matchCh ρ c c' = some (ρ', ps) → ρ'.le ρf → (∀ p ∈ ps, p) → cH φ ow1 w b c' → cH (renPhi φ0 φ ρf) (renOw ow1 ρf) w a c := by
  intro c c' ρ ρ' ps h hle hp hc
  have hφ : ∀ v, φ b = some v → renPhi φ0 φ ρf a = some v := fun v hv => by rw [renPhi_find hf]; exact hv
  cases c with
  | none => trivial
  | box e cells =>
    cases c' <;> try (simp [matchCh] at h; done)
    rename_i e' cells'
    simp only [matchCh] at h
    cases hz : Nat.beq e e' <;> rw [hz] at h <;> simp only [cond_true, cond_false] at h <;> try (cases h; done)
    have hz' := Nat.eq_of_beq_eq_true hz
    subst hz'
    obtain ⟨g, cs, h1, h2, h3, h4⟩ := hc
    exact ⟨g, cs, hφ _ h1, renOw_of hinj hf hb h2, h3, (matchAV_ok (φ0 := φ0) (Hand.refl ow1) _ _ _ _ _ h).2 hle hp _ h4⟩
  | arr e T l =>
    cases c' <;> try (simp [matchCh] at h; done)
    rename_i e' T' l'
    simp only [matchCh] at h
    cases hz : Nat.beq e e' <;> rw [hz] at h <;> simp only [cond_true, cond_false] at h <;> try (cases h; done)
    have hz' := Nat.eq_of_beq_eq_true hz
    subst hz'
    split at h <;> try (cases h; done)
    rename_i hT
    subst hT
    simp only [Option.some.injEq, Prod.mk.injEq] at h
    obtain ⟨rfl, rfl⟩ := h
    have hl : l' = l := hp _ (List.mem_singleton.2 rfl)
    subst hl
    obtain ⟨v, h1, h2⟩ := hc
    exact ⟨v, hφ _ h1, rowH_ren hinj hf hb h2⟩
  | lit e n cells =>
    cases c' <;> try (simp [matchCh] at h; done)
    rename_i e' n' cells'
    simp only [matchCh] at h
    cases hz : Nat.beq e e' && Nat.beq n n' <;> rw [hz] at h <;> simp only [cond_true, cond_false] at h <;> try (cases h; done)
    simp only [Bool.and_eq_true] at hz
    have hz1 := Nat.eq_of_beq_eq_true hz.1
    have hz2 := Nat.eq_of_beq_eq_true hz.2
    subst hz1; subst hz2
    obtain ⟨g, cs, h1, h2, h3, h4, h5⟩ := hc
    exact ⟨g, cs, hφ _ h1, renOw_of hinj hf hb h2, h3, h4, (matchAV_ok (φ0 := φ0) (Hand.refl ow1) _ _ _ _ _ h).2 hle hp _ h5⟩
  | sld T l =>
    cases c' <;> try (simp [matchCh] at h; done)
    rename_i T' l'
    simp only [matchCh] at h
    split at h <;> try (cases h; done)
    rename_i hT
    subst hT
    simp only [Option.some.injEq, Prod.mk.injEq] at h
    obtain ⟨rfl, rfl⟩ := h
    have hl : l' = l := hp _ (List.mem_singleton.2 rfl)
    subst hl
    obtain ⟨v, h1, h2⟩ := hc
    exact ⟨v, hφ _ h1, Ty.rep_keep keep_ren1 h2⟩
  | arr2 e e1 T l hs =>
    cases c' <;> try (simp [matchCh] at h; done)
    rename_i e' e1' T' l' hs'
    simp only [matchCh] at h
    cases hz : Nat.beq e e' && Nat.beq e1 e1' <;> rw [hz] at h <;> simp only [cond_true, cond_false] at h <;> try (cases h; done)
    simp only [Bool.and_eq_true] at hz
    have hz1 := Nat.eq_of_beq_eq_true hz.1
    have hz2 := Nat.eq_of_beq_eq_true hz.2
    subst hz1; subst hz2
    split at h <;> try (cases h; done)
    rename_i hT
    subst hT
    split at h <;> try (cases h; done)
    rename_i ρ1 qs hm
    simp only [Option.some.injEq, Prod.mk.injEq] at h
    obtain ⟨rfl, rfl⟩ := h
    have hl : l' = l := hp _ (.head _)
    subst hl
    obtain ⟨_, hm2⟩ := matchHs_ok (ρf := ρf) hs hs' _ _ _ hm
    obtain ⟨g1, g2⟩ := hm2 hle (fun p hp' => hp p (List.mem_cons_of_mem _ hp'))
    obtain ⟨v, xs, pos, hv, hown, hvb, hlim, s1, s2, s3, s4⟩ := hc
    refine ⟨v, xs, pos, hφ _ hv, hown, fun g hg => ⟨renOw_of hinj hf hb (hvb g hg).1, (hvb g hg).2⟩, hlim, s1, ?_, by rw [g1]; exact s3, ?_⟩
    · intro p hp
      have h6 : p.1 ∈ hs'.map (·.1) := by rw [← g1]; exact List.mem_map.2 ⟨p, hp, rfl⟩
      obtain ⟨p', hp', e⟩ := List.mem_map.1 h6
      rw [← e]
      exact s2 p' hp'
    · intro j h hj
      have h7 := s4 j h hj
      have h8 := g2 j
      cases hh : holeAt hs j with
      | some k =>
        rw [hh] at h8
        obtain ⟨k', h9, h10⟩ := h8
        rw [h9] at h7
        simp only at h7 ⊢
        rw [renPhi_find h10]
        exact h7
      | none =>
        rw [hh] at h8
        simp only at h8
        rw [h8] at h7
        exact ⟨rowH_ren hinj hf hb h7.1, h7.2⟩
  | mp k V l =>
    cases c' <;> try (simp [matchCh] at h; done)
    rename_i k' V' l'
    simp only [matchCh] at h
    split at h <;> try (cases h; done)
    rename_i hT
    subst hT
    split at h <;> try (cases h; done)
    rename_i hk
    subst hk
    simp only [Option.some.injEq, Prod.mk.injEq] at h
    obtain ⟨rfl, rfl⟩ := h
    have hl : l' = l := hp _ (List.mem_singleton.2 rfl)
    subst hl
    obtain ⟨g, es, clock, h1, h2, h3, h4, h5⟩ := hc
    exact ⟨g, es, clock, hφ _ h1, renOw_of hinj hf hb h2, h3, h4, entsH_keep keep_ren1 h5⟩
  | mpo K e B outs =>
    cases c' <;> try (simp [matchCh] at h; done)
    cases outs <;> try (simp [matchCh] at h; done)
    rename_i K' e' B' outs'
    simp only [matchCh] at h
    split at h <;> try (cases h; done)
    rename_i hk
    obtain ⟨rfl, rfl⟩ := hk
    simp only [Option.some.injEq, Prod.mk.injEq] at h
    obtain ⟨rfl, rfl⟩ := h
    have hl : B' = B := hp _ (List.mem_singleton.2 rfl)
    subst hl
    obtain ⟨g, es, clock, L, h1, h2, h3, h4, h5⟩ := hc
    exact ⟨g, es, clock, L, hφ _ h1, renOw_of hinj hf hb h2, h3, entsR_mono (fun _ _ ⟨v, e1, e2⟩ => ⟨v, e1, rowO_keep (fun b _ h => ⟨renOw_of hinj hf hb h, rfl⟩) e2⟩) h4, fun k hk => by cases hk⟩
  | orw id => exact trivial
  | ch cap n =>
    cases c' <;> try (simp [matchCh] at h; done)
    rename_i cap' n'
    simp only [matchCh, Option.some.injEq, Prod.mk.injEq] at h
    obtain ⟨rfl, rfl⟩ := h
    have h1 : cap' = cap := hp _ (by simp)
    have h2 : n' = n := hp _ (by simp)
    subst h1; subst h2
    obtain ⟨g, c, s, r, buf, h1, h2, h3, h4⟩ := hc
    exact ⟨g, c, s, r, buf, hφ _ h1, renOw_of hinj hf hb h2, h3, h4⟩

theorem matchCh_le : ∀ (c c' : Chunk) (ρ ρ' : Ren) (ps : List Prop), matchCh ρ c c' = some (ρ', ps) → ρ.le ρ' := by
  intro c c' ρ ρ' ps h
  have av : ∀ x y ρ ρ' ps, matchAV ρ x y = some (ρ', ps) → ρ.le ρ' := fun x y ρ ρ' ps h => (matchAV_ok (φ := fun _ => none) (φ0 := fun _ => none) (w := default) (ρf := []) (Hand.refl (fun _ => none)) _ _ _ _ _ h).1
  unfold matchCh at h
  split at h <;> try (cases h; done)
  · injection h with h; injection h with h _; subst h; exact Ren.le_refl _
  · rename_i e c e' c'
    cases hz : Nat.beq e e' <;> rw [hz] at h <;> simp only [cond_true, cond_false] at h <;> try (cases h; done)
    exact av _ _ _ _ _ h
  · rename_i e T l e' T' l'
    cases hz : Nat.beq e e' <;> rw [hz] at h <;> simp only [cond_true, cond_false] at h <;> try (cases h; done)
    split at h <;> try (cases h; done)
    injection h with h; injection h with h _; subst h; exact Ren.le_refl _
  · rename_i e n c e' n' c'
    cases hz : Nat.beq e e' && Nat.beq n n' <;> rw [hz] at h <;> simp only [cond_true, cond_false] at h <;> try (cases h; done)
    exact av _ _ _ _ _ h
  · split at h <;> try (cases h; done)
    injection h with h; injection h with h _; subst h; exact Ren.le_refl _
  · rename_i e e1 T l hs e' e1' T' l' hs'
    cases hz : Nat.beq e e' && Nat.beq e1 e1' <;> rw [hz] at h <;> simp only [cond_true, cond_false] at h <;> try (cases h; done)
    split at h <;> try (cases h; done)
    split at h <;> try (cases h; done)
    rename_i hm
    injection h with h; injection h with h _; subst h
    exact (matchHs_ok (ρf := []) _ _ _ _ _ hm).1
  · split at h <;> try (cases h; done)
    split at h <;> try (cases h; done)
    injection h with h; injection h with h _; subst h; exact Ren.le_refl _
  · split at h <;> try (cases h; done)
    injection h with h; injection h with h _; subst h; exact Ren.le_refl _
  · injection h with h; injection h with h _; subst h; exact Ren.le_refl _

theorem entEnv_ok (hH : Hand ow ow1) {env : Nat → AV} : ∀ (l : List (Nat × AV)) (ρ ρ' : Ren) (ps ps' : List Prop), entEnv env l ρ ps = some (ρ', ps') → ρ.le ρ' ∧ (∀ p ∈ ps, p ∈ ps') ∧
    (ρ'.le ρf → (∀ p ∈ ps', p) → ∀ x ∈ l, Tr φ0 φ ow ow1 w ρf x.2 (env x.1))
  | [], ρ, ρ', ps, ps', h => by
    simp only [entEnv, Option.some.injEq, Prod.mk.injEq] at h
    obtain ⟨rfl, rfl⟩ := h
    exact ⟨Ren.le_refl _, fun p hp => hp, fun _ _ x hx => by cases hx⟩
  | (t, a) :: r, ρ, ρ', ps, ps', h => by
    simp only [entEnv] at h
    split at h <;> try (cases h; done)
    rename_i ρ1 q h1
    obtain ⟨k1, k2⟩ := matchAV_ok (φ := φ) (φ0 := φ0) (w := w) (ρf := ρf) hH _ _ _ _ _ h1
    obtain ⟨k3, k4, k5⟩ := entEnv_ok hH r _ _ _ _ h
    refine ⟨Ren.le_trans k1 k3, fun p hp => k4 p (by simp [hp]), fun hle hp x hx => ?_⟩
    rcases List.mem_cons.1 hx with rfl | hx
    · exact k2 (Ren.le_trans k3 hle) fun p hp' => hp p (k4 p (by simp [hp']))
    · exact k5 hle hp x hx

theorem entHeap_ok {heap : Nat → Chunk} : ∀ (l : List (Nat × Chunk)) (ρ ρ' : Ren) (ps ps' : List Prop), entHeap heap l ρ ps = some (ρ', ps') → ρ.le ρ' ∧ (∀ p ∈ ps, p ∈ ps') ∧
    (ρ'.le ρf → ρf.inj = true → (∀ a b, ρf.find a = some b → 0 < b) → (∀ p ∈ ps', p) → (∀ i, cH φ ow1 w i (heap i)) → ∀ x ∈ l, cH (renPhi φ0 φ ρf) (renOw ow1 ρf) w x.1 x.2)
  | [], ρ, ρ', ps, ps', h => by
    simp only [entHeap, Option.some.injEq, Prod.mk.injEq] at h
    obtain ⟨rfl, rfl⟩ := h
    exact ⟨Ren.le_refl _, fun p hp => hp, fun _ _ _ _ _ x hx => by cases hx⟩
  | (a, c) :: r, ρ, ρ', ps, ps', h => by
    simp only [entHeap] at h
    split at h <;> try (cases h; done)
    rename_i ρ0 h0
    split at h <;> try (cases h; done)
    rename_i ρ1 q h1
    obtain ⟨k1, k2⟩ := bind_spec h0
    have k3 := matchCh_le _ _ _ _ _ h1
    obtain ⟨k4, k5, k6⟩ := entHeap_ok r _ _ _ _ h
    refine ⟨Ren.le_trans k1 (Ren.le_trans k3 k4), fun p hp => k5 p (by simp [hp]), fun hle hinj hpos hp hc x hx => ?_⟩
    rcases List.mem_cons.1 hx with rfl | hx
    · have hf := hle _ _ (k4 _ _ (k3 _ _ k2))
      exact matchCh_ok a _ hinj hf (hpos _ _ hf) _ _ _ _ _ h1 (Ren.le_trans k4 hle) (fun p hp' => hp p (k5 p (by simp [hp']))) (hc _)
    · exact k6 hle hinj hpos hp hc x hx

theorem lookAV_spec : ∀ (l : List (Nat × AV)) (t : Nat) (d : AV), (∃ a, (t, a) ∈ l ∧ lookAV l t d = a) ∨ lookAV l t d = d
  | [], t, d => .inr rfl
  | (x, a) :: r, t, d => by
    unfold lookAV
    cases h : Nat.beq x t with
    | true =>
      rw [Nat.eq_of_beq_eq_true h]
      exact .inl ⟨a, by simp, rfl⟩
    | false =>
      rcases lookAV_spec r t d with ⟨a', h1, h2⟩ | h1
      · exact .inl ⟨a', List.mem_cons_of_mem _ h1, h2⟩
      · exact .inr h1
theorem lookCh_spec : ∀ (l : List (Nat × Chunk)) (t : Nat) (d : Chunk), (∃ a, (t, a) ∈ l ∧ lookCh l t d = a) ∨ lookCh l t d = d
  | [], t, d => .inr rfl
  | (x, a) :: r, t, d => by
    unfold lookCh
    cases h : Nat.beq x t with
    | true =>
      rw [Nat.eq_of_beq_eq_true h]
      exact .inl ⟨a, by simp, rfl⟩
    | false =>
      rcases lookCh_spec r t d with ⟨a', h1, h2⟩ | h1
      · exact .inl ⟨a', List.mem_cons_of_mem _ h1, h2⟩
      · exact .inr h1

end

theorem entails_ok {D0 : List Deferred} {φ0 : Hnd} {ow0 : Own} {w0 : World} {fix : List Nat} (hbase : ∀ id, id ∉ fix → φ0 id = none) {A : Ann} {x : A.ι} {s0 st : St} {a : Act} {w : World} (h : entails fix A x s0 st) (hs : SatF D0 φ0 ow0 w0 st a w) : SatF D0 φ0 ow0 w0 (invSt A x s0) a w := by
  unfold entails at h
  split at h <;> try (cases h; done)
  rename_i ρ1 hf
  split at h <;> try (cases h; done)
  rename_i ρ2 ps2 he
  split at h <;> try (cases h; done)
  rename_i ρ3 ps3 hh
  cases hb : ρ3.ok fix s0.next && (Nat.beq st.n s0.n && (Nat.blt 0 s0.next && fix.all fun i => Nat.blt i s0.next)) with
  | false => rw [hb] at h; cases h
  | true =>
    rw [hb, cond_true] at h
    obtain ⟨hps, _⟩ := conj_all h
    simp only [Bool.and_eq_true, Ren.ok, List.all_eq_true, Bool.or_eq_true, Bool.not_eq_true'] at hb
    obtain ⟨⟨hinj, hall⟩, hn, hnx, hbn⟩ := hb
    have hn' := Nat.eq_of_beq_eq_true hn
    have hnx' : 0 < s0.next := Nat.le_of_ble_eq_true hnx
    have hbn' : ∀ i ∈ fix, i < s0.next := fun i hi => Nat.le_of_ble_eq_true (hbn i hi)
    obtain ⟨φ, ow, hsz, hdf, henv, hheap, hfresh, hown, _, hfr⟩ := hs
    obtain ⟨ow1, hH, hheap1⟩ := preClose_ok (ρ := ρ2) (A.heap x) st.heap ow hheap
    obtain ⟨e1, e2, e3⟩ := entEnv_ok (φ := φ) (φ0 := φ0) (w := w) (ρf := ρ3) hH _ _ _ _ _ he
    obtain ⟨g1, g2, g3⟩ := entHeap_ok (φ := φ) (φ0 := φ0) (w := w) (ow1 := ow1) (ρf := ρ3) _ _ _ _ _ hh
    have hpos : ∀ a b, (a, b) ∈ ρ3 → 0 < a ∧ a < s0.next ∧ 0 < b ∧ (a = b ∨ a ∉ fix) := by
      intro a b hab
      obtain ⟨⟨⟨h1, h2⟩, h3⟩, h4⟩ := hall _ hab
      exact ⟨Nat.le_of_ble_eq_true h1, Nat.le_of_ble_eq_true h2, Nat.le_of_ble_eq_true h3, h4.imp Nat.eq_of_beq_eq_true fun h hm => (by rw [memN_iff.2 hm] at h; cases h)⟩
    have E := e3 g1 (fun p hp => hps p (g2 p hp))
    have G := g3 (Ren.le_refl _) hinj (fun a b hab => (hpos a b (find_mem hab)).2.2.1) hps hheap1
    refine ⟨renPhi φ0 φ ρ3, renOw ow1 ρ3, by rw [hsz]; exact hn', hdf, ?_, ?_, ?_, ?_, hnx', ?_⟩
    · intro t
      have hv := henv t
      rcases lookAV_spec (A.env x) t (bif memN t A.keep then s0.env t else .bot) with ⟨a', h1, h2⟩ | h1
      · show (lookAV _ _ _).holds _ _ _ _
        rw [h2]
        exact E (t, a') (by simp [h1]) _ hv
      · show (lookAV _ _ _).holds _ _ _ _
        rw [h1]
        cases hm : memN t A.keep with
        | false => exact rfl
        | true =>
          rw [cond_true]
          exact E (t, s0.env t) (List.mem_append_right _ (List.mem_map.2 ⟨t, memN_iff.1 hm, rfl⟩)) _ hv
    · intro id
      show cH _ _ _ id (lookCh _ _ _)
      rcases lookCh_spec (A.heap x) id (bif memN id A.keepH then s0.heap id else .none) with ⟨c, h1, h2⟩ | h1
      · rw [h2]
        exact G (id, c) (by simp [h1])
      · rw [h1]
        cases hm : memN id A.keepH with
        | false => trivial
        | true =>
          rw [cond_true]
          exact G (id, s0.heap id) (List.mem_append_right _ (List.mem_map.2 ⟨id, memN_iff.1 hm, rfl⟩))
    · intro id hid
      change s0.next ≤ id at hid
      unfold renPhi
      cases hfd : ρ3.find id with
      | some b =>
        have := (hpos _ _ (find_mem hfd)).2.1
        omega
      | none => exact hbase id fun hm => (by have := hbn' id hm; omega)
    · intro c id hc
      show c < w.heap.size ∧ id < s0.next
      have hc1 : ow1 c ≠ none := by
        intro hn
        unfold renOw at hc
        rw [hn] at hc
        cases hc
      have hc2 : ow c ≠ none := fun hn => hc1 ((hH.none c).2 hn)
      obtain ⟨j, hj⟩ := Option.ne_none_iff_exists'.1 hc2
      refine ⟨(hown c j hj).1, ?_⟩
      unfold renOw at hc
      split at hc
      · cases hc
      · injection hc with hc; omega
      · exact (hpos _ _ (inv_mem hc)).2.1
    · refine ⟨hfr.size, hfr.os, hfr.tape, hfr.output, ?_, ?_, ?_⟩
      · intro b hb h0
        obtain ⟨h1, h2⟩ := hfr.blk b hb h0
        refine ⟨?_, h2⟩
        rcases h0 with h0 | h0
        · rw [h0] at h1 ⊢
          unfold renOw
          rw [(hH.none b).2 h1]
        · rw [h0] at h1 ⊢
          unfold renOw
          rw [(hH.zero b).2 h1]
      · intro b hb
        refine hfr.frn b ((hH.zero b).1 ?_)
        unfold renOw at hb
        split at hb
        · cases hb
        · assumption
        · have := (hpos _ _ (inv_mem hb)).1
          omega
      · intro id v hv
        unfold renPhi
        cases hfd : ρ3.find id with
        | none => exact hv
        | some b =>
          simp only
          rcases (hpos _ _ (find_mem hfd)).2.2.2 with h1 | h1
          · rw [← h1]; exact hfr.phi id v hv
          · rw [hbase id h1] at hv; cases hv

end GoSx
end
section
/- Sx, part 19: code does what its condition says. -/
set_option linter.unusedVariables false
set_option linter.unusedSimpArgs false
namespace GoSx
open Go

section
variable {D0 : List Deferred} {φ0 : Hnd} {ow0 : Own} {w0 : World} {C : Cfg}

theorem put_put {st : St} {t : Nat} {b : Bool} {a : Act} {w : World} (h : st.env t = .dat .bool b) (hs : SatF D0 φ0 ow0 w0 st a w) : SatF D0 φ0 ow0 w0 (st.put (some t) (.dat .bool b)) a w := by
  rw [put_same h]
  exact hs

theorem cond_st {st : St} {c : Operand} {v : Bool} {a : Act} {w : World} (hv : evalAV st.env c = .dat .bool v) (hs : SatF D0 φ0 ow0 w0 st a w) : SatF D0 φ0 ow0 w0 (match (generalizing := false) c with
    | .tmp t => st.put (some t) (.dat .bool v)
    | _ => st) a w := by
  cases c with
  | tmp t => exact put_put hv hs
  | _ => exact hs

theorem code_ok (hS : ∀ f, SummOK C.P f (C.S f)) (hm : C.P.follows .mixedOrders = true) (hbase : ∀ id, id ∉ C.fix → φ0 id = none) : ∀ (c : Code) {st : St} {K : Exit → St → Prop}, vcCode C c st K → ∀ {Q : Exit → Act → World → Prop} {a : Act} {w : World}, SatF D0 φ0 ow0 w0 st a w →
    (∀ e st', K e st' → ∀ a' w', SatF D0 φ0 ow0 w0 st' a' w' → Q e a' w') → c.wp C.P Q a w := by
  intro c
  induction c with
  | skip => intro st K h Q a w hs hK; exact wp_skip (hK _ _ h _ _ hs)
  | label l => intro st K h Q a w hs hK; exact wp_label (hK _ _ h _ _ hs)
  | region id ops draw =>
    intro st K h Q a w hs hK
    exact region_ok hS hm h hs fun st' h' a' w' hs' => hK _ _ h' _ _ hs'
  | seq x y ihx ihy =>
    intro st K h Q a w hs hK
    simp only [vcCode] at h
    refine wp_seq ?_
    split at h
    · refine ihx h hs fun e st' h' a' w' hs' => ?_
      cases e with
      | normal => exact ihy h' hs' hK
      | exit => exact hK _ _ h' _ _ hs'
      | goto => exact hK _ _ h' _ _ hs'
      | ret => exact hK _ _ h' _ _ hs'
      | panic => exact hK _ _ h' _ _ hs'
      | outgrown => exact hK _ _ h' _ _ hs'
    · rename_i A hA
      refine ihx h.1 hs fun e st' h' a' w' hs' => ?_
      cases e with
      | normal =>
        obtain ⟨x, hx, hent⟩ := h'
        exact ihy (h.2 x hx) (entails_ok hbase hent hs') hK
      | exit => exact hK _ _ h' _ _ hs'
      | goto => exact hK _ _ h' _ _ hs'
      | ret => exact hK _ _ h' _ _ hs'
      | panic => exact hK _ _ h' _ _ hs'
      | outgrown => exact hK _ _ h' _ _ hs'
  | cond c x y ihx ihy =>
    intro st K h Q a w hs hK
    simp only [vcCode] at h
    have hev : (evalAV st.env c).holds hs.choose hs.choose_spec.choose w [a.eval c] := evalAV_holds hs.choose_spec.choose_spec.2.2.1 c
    split at h
    · rename_i v hv
      rw [hv] at hev
      have hb := bool_holds hev
      cases v with
      | true =>
        simp only [brB, cond_true] at h
        exact wp_cond hb (ihx h (cond_st hv hs) hK)
      | false =>
        simp only [brB, cond_false] at h
        exact wp_cond hb (ihy h (cond_st hv hs) hK)
    · rename_i p hv
      rw [hv] at hev
      obtain ⟨b, hb, hp⟩ := hev
      injection hb with hb
      cases b with
      | true => exact wp_cond hb (ihx (h.1 (hp rfl)) hs hK)
      | false => exact wp_cond hb (ihy h.2 hs hK)
    · cases h
  | block id x ih =>
    intro st K h Q a w hs hK
    simp only [vcCode] at h
    refine wp_block (ih h hs fun e st' h' a' w' hs' => ?_)
    cases e with
    | exit id' =>
      cases hz : Nat.beq id' id with
      | true =>
        simp only [hz, cond_true] at h'
        simp only [Exit.inBlock, Nat.eq_of_beq_eq_true hz, if_true]
        exact hK _ _ h' _ _ hs'
      | false =>
        simp only [hz, cond_false] at h'
        simp only [Exit.inBlock]
        rw [if_neg (fun e => by rw [e, Nat.beq_refl] at hz; cases hz)]
        exact hK _ _ h' _ _ hs'
    | normal => exact hK _ _ h' _ _ hs'
    | goto => exact hK _ _ h' _ _ hs'
    | ret => exact hK _ _ h' _ _ hs'
    | panic => exact hK _ _ h' _ _ hs'
    | outgrown => exact hK _ _ h' _ _ hs'
  | scope x ih =>
    intro st K h Q a w hs hK
    simp only [vcCode] at h
    refine wp_scope_straight (ih h hs fun e st' h' a' w' hs' => ?_)
    cases e with
    | goto => cases h'
    | normal => exact hK _ _ h' _ _ hs'
    | exit => exact hK _ _ h' _ _ hs'
    | ret => exact hK _ _ h' _ _ hs'
    | panic => exact hK _ _ h' _ _ hs'
    | outgrown => exact hK _ _ h' _ _ hs'
  | exit id => intro st K h Q a w hs hK; exact wp_exit (hK _ _ h _ _ hs)
  | ret => intro st K h Q a w hs hK; exact wp_ret (hK _ _ h _ _ hs)
  | loop x ih =>
    intro st K h Q a w hs hK
    simp only [vcCode] at h
    split at h
    · rename_i A hA
      obtain ⟨⟨x0, hx0, hent0⟩, hround⟩ := h
      refine wp_loop_ghost (fun n a w => ∃ x, A.inv x ∧ A.meas x = n ∧ SatF D0 φ0 ow0 w0 (invSt A x st) a w) (A.meas x0) ⟨x0, hx0, rfl, entails_ok hbase hent0 hs⟩ ?_
      rintro n a' w' ⟨x1, hx1, rfl, hs1⟩
      refine ih (hround x1 hx1) hs1 fun e st' h' a2 w2 hs2 => ?_
      cases e with
      | normal =>
        obtain ⟨y, hy, hlt, hent⟩ := h'
        exact ⟨_, hlt, y, hy, rfl, entails_ok hbase hent hs2⟩
      | exit => exact hK _ _ h' _ _ hs2
      | goto => exact hK _ _ h' _ _ hs2
      | ret => exact hK _ _ h' _ _ hs2
      | panic => exact hK _ _ h' _ _ hs2
      | outgrown => exact hK _ _ h' _ _ hs2
    · cases h
  | _ => intros st K h; simp only [vcCode] at h; cases h

end
end GoSx
end
section
/- Sx, part 20: what goes over to a function, and comes back: patterns. -/
set_option linter.unusedVariables false
set_option linter.unusedSimpArgs false
namespace GoSx
open Go

/-- A map, or a channel, of our own. -/
inductive Knd where
  | mp (K V : Ty)
  | ch
@[reducible] def Knd.ty : Knd → Ty
  | .mp K V => .sl (.pair K V)
  | .ch => .pair (.int .i64) (.int .i64)
def Knd.chunk : (k : Knd) → k.ty.den → Chunk
  | .mp K V, x => .mp K V x
  | .ch, x => .ch x.1 x.2
def Knd.hnd : Knd → Nat → AV
  | .mp _ _, c => .mapv c
  | .ch, c => .chv c
def Knd.tys : Knd → List Ty
  | .mp _ V => [V]
  | .ch => []

/-- What a list of values is to be. -/
inductive APat where
  | nil
  | val (T : Ty) (r : APat)                    -- data; what of it is ours is nobody's from then on
  | lend (T : Ty) (r : APat)                   -- data, for the time of a call
  | own (e : TypeId) (T : Ty) (r : APat)       -- a row of our own
  | own2 (e e' : TypeId) (T : Ty) (r : APat)   -- a row of rows
  | lendh (T : Ty) (r : APat)                  -- a row, for the time of a call; a row of rows may keep it
  | own2h (e e' : TypeId) (T : Ty) (k : Nat) (r : APat)   -- a row of rows; on the way back row number k (a lent one) is out of it
  | skip (r : APat)                            -- one cell, whatever it is
  | obj (n : Nat) (r : APat)                   -- a pointer to object n
  | clo (f : FuncId) (c : APat) (r : APat)     -- a function with what it captured
  | agg (q : APat) (r : APat)                  -- a struct
  | ownk (k : Knd) (r : APat)                  -- a map, a channel of our own

@[reducible] def APat.ty : APat → Ty
  | .nil => .unit
  | .val T r => .pair T r.ty
  | .lend T r => .pair T r.ty
  | .own _ T r => .pair (.sl T) r.ty
  | .own2 _ _ T r => .pair (.sl (.sl T)) r.ty
  | .lendh T r => .pair (.sl T) r.ty
  | .own2h _ _ T _ r => .pair (.sl (.sl T)) (.pair (.int .i64) r.ty)
  | .skip r => r.ty
  | .obj _ r => r.ty
  | .clo _ c r => .pair c.ty r.ty
  | .agg q r => .pair q.ty r.ty
  | .ownk k r => .pair k.ty r.ty

/-- How many numbers it takes. -/
def APat.size : APat → Nat
  | .nil => 0
  | .val _ r => r.size + 1
  | .lend _ r => r.size + 1
  | .own _ _ r => r.size + 1
  | .own2 _ _ _ r => r.size + 1
  | .lendh _ r => r.size + 1
  | .own2h _ _ _ _ r => r.size + 1
  | .skip r => r.size + 1
  | .obj _ r => r.size + 1
  | .clo _ c r => c.size + r.size
  | .agg q r => q.size + r.size
  | .ownk _ r => r.size + 1

/-- The values, as who gets them sees them. -/
def APat.av (box : Bool) : (p : APat) → Nat → p.ty.den → AV
  | .nil, _, _ => .nil
  | .val T r, c, x => .cons (.dat T x.1) (r.av box (c + 1) x.2)
  | .lend T r, c, x => .cons (bif box then .idn c T x.1 else .dat T x.1) (r.av box (c + 1) x.2)
  | .own _ T r, c, x => .cons (.arr c) (r.av box (c + 1) x.2)
  | .own2 _ _ T r, c, x => .cons (.arr c) (r.av box (c + 1) x.2)
  | .lendh T r, c, x => .cons (.arr c) (r.av box (c + 1) x.2)
  | .own2h _ _ T _ r, c, x => .cons (.arr c) (r.av box (c + 1) x.2.2)
  | .skip r, c, x => .cons (.opq c) (r.av box (c + 1) x)
  | .obj n r, c, x => .cons (.ref (n + 1) 0) (r.av box (c + 1) x)
  | .clo f q r, c, x => .cons (.fn f (q.av box c x.1)) (r.av box (c + q.size) x.2)
  | .agg q r, c, x => .cons (.agg (q.av box c x.1)) (r.av box (c + q.size) x.2)
  | .ownk k r, c, x => .cons (k.hnd c) (r.av box (c + 1) x.2)

def APat.heap : (p : APat) → Nat → p.ty.den → List (Nat × Chunk)
  | .nil, _, _ => []
  | .val T r, c, x => r.heap (c + 1) x.2
  | .lend T r, c, x => r.heap (c + 1) x.2
  | .own e T r, c, x => (c, .arr e T x.1) :: r.heap (c + 1) x.2
  | .own2 e e' T r, c, x => (c, .arr2 e e' T x.1 []) :: r.heap (c + 1) x.2
  | .lendh T r, c, x => (c, .sld T x.1) :: r.heap (c + 1) x.2
  | .own2h e e' T _ r, c, x => (c, .arr2 e e' T x.1 []) :: r.heap (c + 1) x.2.2
  | .skip r, c, x => r.heap (c + 1) x
  | .obj n r, c, x => r.heap (c + 1) x
  | .clo f q r, c, x => q.heap c x.1 ++ r.heap (c + q.size) x.2
  | .agg q r, c, x => q.heap c x.1 ++ r.heap (c + q.size) x.2
  | .ownk k r, c, x => (c, k.chunk x.1) :: r.heap (c + 1) x.2

/-- On the way back. -/
def APat.heapO (o : Nat) (ob : Nat → Nat) : (p : APat) → Nat → p.ty.den → List (Nat × Chunk)
  | .nil, _, _ => []
  | .val T r, c, x => r.heapO o ob (c + 1) x.2
  | .lend T r, c, x => r.heapO o ob (c + 1) x.2
  | .own e T r, c, x => (o + c, .arr e T x.1) :: r.heapO o ob (c + 1) x.2
  | .own2 e e' T r, c, x => (o + c, .arr2 e e' T x.1 []) :: r.heapO o ob (c + 1) x.2
  | .lendh T r, c, x => r.heapO o ob (c + 1) x.2
  | .own2h e e' T k r, c, x => (o + c, .arr2 e e' T x.1 [(x.2.1, ob (1000 + k))]) :: r.heapO o ob (c + 1) x.2.2
  | .skip r, c, x => r.heapO o ob (c + 1) x
  | .obj n r, c, x => r.heapO o ob (c + 1) x
  | .clo _ q r, c, x => q.heapO o ob c x.1 ++ r.heapO o ob (c + q.size) x.2
  | .agg q r, c, x => q.heapO o ob c x.1 ++ r.heapO o ob (c + q.size) x.2
  | .ownk k r, c, x => (o + c, k.chunk x.1) :: r.heapO o ob (c + 1) x.2

/-- The rows that were lent, and may be kept. -/
def APat.lents : APat → Nat → List Nat
  | .nil, _ => []
  | .val _ r, c => r.lents (c + 1)
  | .lend _ r, c => r.lents (c + 1)
  | .own _ _ r, c => r.lents (c + 1)
  | .own2 _ _ _ r, c => r.lents (c + 1)
  | .lendh _ r, c => c :: r.lents (c + 1)
  | .own2h _ _ _ _ r, c => r.lents (c + 1)
  | .skip r, c => r.lents (c + 1)
  | .obj _ r, c => r.lents (c + 1)
  | .clo _ q r, c => q.lents c ++ r.lents (c + q.size)
  | .agg q r, c => q.lents c ++ r.lents (c + q.size)
  | .ownk _ r, c => r.lents (c + 1)
/-- Those that are kept. -/
def APat.refs : APat → List Nat
  | .nil => []
  | .val _ r => r.refs
  | .lend _ r => r.refs
  | .own _ _ r => r.refs
  | .own2 _ _ _ r => r.refs
  | .lendh _ r => r.refs
  | .own2h _ _ _ k r => k :: r.refs
  | .skip r => r.refs
  | .obj _ r => r.refs
  | .clo _ q r => q.refs ++ r.refs
  | .agg q r => q.refs ++ r.refs
  | .ownk _ r => r.refs

/-- The numbers of what is to come back as it was. -/
def APat.skips : APat → Nat → List Nat
  | .nil, _ => []
  | .val _ r, c => r.skips (c + 1)
  | .lend _ r, c => c :: r.skips (c + 1)
  | .own _ _ r, c => r.skips (c + 1)
  | .own2 _ _ _ r, c => r.skips (c + 1)
  | .lendh _ r, c => r.skips (c + 1)
  | .own2h _ _ _ _ r, c => r.skips (c + 1)
  | .skip r, c => c :: r.skips (c + 1)
  | .obj _ r, c => r.skips (c + 1)
  | .clo _ q r, c => q.skips c ++ r.skips (c + q.size)
  | .agg q r, c => q.skips c ++ r.skips (c + q.size)
  | .ownk _ r, c => r.skips (c + 1)

/-- The types of what comes back anew. -/
def APat.tys : APat → List Ty
  | .nil => []
  | .val T r => T :: r.tys
  | .lend _ r => r.tys
  | .own _ T r => T :: r.tys
  | .own2 _ _ T r => T :: r.tys
  | .lendh _ r => r.tys
  | .own2h _ _ T _ r => T :: r.tys
  | .skip r => r.tys
  | .obj _ r => r.tys
  | .clo _ q r => q.tys ++ r.tys
  | .agg q r => q.tys ++ r.tys
  | .ownk k r => k.tys ++ r.tys

/-- What was read: which chunks went into which, which were lent, which are sealed, which objects are which. -/
structure It where
  own : List (Nat × List Nat)
  lent : List Nat
  sls : Upd
  objs : List (Nat × Nat)
  rows : List (Nat × Nat)

def It.nil : It := ⟨[], [], [], [], []⟩
def It.app (a b : It) : It := ⟨a.own ++ b.own, a.lent ++ b.lent, a.sls ++ b.sls, a.objs ++ b.objs, a.rows ++ b.rows⟩

def own2Of (e e' : TypeId) (T : Ty) (a : AV) (k : List (List T.den) → List Nat → Req) : Req :=
  match a with
  | .raw (.slice Option.none 0 0) => k [] []
  | .arr id => .look id fun
    | .arr2 e2 e2' T2 l hs => if h : T2 = T then (if e2 = e ∧ e2' = e' then closeHs e2' T2 hs l fun l d => if memN id d || !(nodupN d) then .fail else k (coeT (congrArg (fun t => Ty.sl (Ty.sl t)) h) l) (id :: d) else .fail) else .fail
    | _ => .fail
  | _ => .fail

def ownkOf : (kd : Knd) → AV → (kd.ty.den → List Nat → Req) → Req
  | .mp K V, a, k => match a with
    | .mapv id => .look id fun
      | .mp K2 V2 l => if h : V2 = V then (if h2 : K2 = K then k (coeM h2 h l) [id] else .fail) else .fail
      | _ => .fail
    | _ => .fail
  | .ch, a, k => match a with
    | .chv id => .look id fun
      | .ch c n => k (c, n) [id]
      | _ => .fail
    | _ => .fail

/-- On the way in. -/
def rdIn : (p : APat) → Nat → AV → (p.ty.den → It → Req) → Req
  | .nil, _, .nil, k => k () It.nil
  | .val T r, c, .cons a b, k => if T.leaf then datOf T (.cons a.strip .nil) fun x c' u => match c' with
      | .nil => rdIn r (c + 1) b fun y it => k (x, y) (It.app ⟨[], [], u, [], []⟩ it)
      | _ => .fail else .fail
  | .lend T r, c, .cons a b, k => if T.leaf then datOf T (.cons a.strip .nil) fun x c' u => match c' with
      | .nil => rdIn r (c + 1) b fun y it => k (x, y) (It.app ⟨[], ids u, [], [], []⟩ it)
      | _ => .fail else .fail
  | .own e T r, c, .cons a b, k => ownOf e T a fun l d u => rdIn r (c + 1) b fun y it => k (l, y) (It.app ⟨[(c, d)], [], u, [], []⟩ it)
  | .own2 e e' T r, c, .cons a b, k => own2Of e e' T a fun l d => rdIn r (c + 1) b fun y it => k (l, y) (It.app ⟨[(c, d)], [], [], [], []⟩ it)
  | .lendh T r, c, .cons a b, k => match a with
    | .arr id => datOf (.sl T) (.cons (.arr id) .nil) fun x c' u => match c' with
      | .nil => rdIn r (c + 1) b fun y it => k (x, y) (It.app ⟨[], ids u, [], [], [(c, id)]⟩ it)
      | _ => .fail
    | _ => .fail
  | .own2h e e' T _ r, c, .cons a b, k => own2Of e e' T a fun l d => rdIn r (c + 1) b fun y it => k (l, (0 : Int), y) (It.app ⟨[(c, d)], [], [], [], []⟩ it)
  | .skip r, c, .cons a b, k => if a.one then rdIn r (c + 1) b fun y it => k y it else .fail
  | .obj n r, c, .cons (.ref id 0) b, k => rdIn r (c + 1) b fun y it => k y (It.app ⟨[], [], [], [(n, id)], []⟩ it)
  | .clo f q r, c, .cons (.fn g caps) b, k => if g = f then rdIn q c caps fun x it => rdIn r (c + q.size) b fun y it' => k (x, y) (It.app it it') else .fail
  | .agg q r, c, .cons (.agg l) b, k => rdIn q c l fun x it => rdIn r (c + q.size) b fun y it' => k (x, y) (It.app it it')
  | .ownk kd r, c, .cons a b, k => ownkOf kd a fun x d => rdIn r (c + 1) b fun y it => k (x, y) (It.app ⟨[(c, d)], [], [], [], []⟩ it)
  | _, _, _, _ => .fail

def AV.hd : AV → AV
  | .cons a _ => a
  | _ => .bot
def AV.tl : AV → AV
  | .cons _ b => b
  | _ => .bot

/-- What was left alone holds. -/
def backH (φ : Hnd) (ow : Own) (w : World) (vs : Nat → Value) : APat → Nat → AV → Prop
  | .skip r, c, g => g.hd.holds φ ow w [vs c] ∧ backH φ ow w vs r (c + 1) g.tl
  | .lend _ r, c, g => g.hd.holds φ ow w [vs c] ∧ backH φ ow w vs r (c + 1) g.tl
  | .val _ r, c, g => backH φ ow w vs r (c + 1) g.tl
  | .own _ _ r, c, g => backH φ ow w vs r (c + 1) g.tl
  | .own2 _ _ _ r, c, g => backH φ ow w vs r (c + 1) g.tl
  | .lendh _ r, c, g => backH φ ow w vs r (c + 1) g.tl
  | .own2h _ _ _ _ r, c, g => backH φ ow w vs r (c + 1) g.tl
  | .obj _ r, c, g => backH φ ow w vs r (c + 1) g.tl
  | .ownk _ r, c, g => backH φ ow w vs r (c + 1) g.tl
  | .agg q r, c, g => backH φ ow w vs r (c + q.size) g.tl
  | .clo _ q r, c, g => backH φ ow w vs r (c + q.size) g.tl
  | _, _, _ => True

theorem backH_keep {φ φ' : Hnd} {ow ow' : Own} {w w' : World} {vs : Nat → Value} (hp : PhiLe φ φ') (hk : Keep ow w ow' w') : ∀ (p : APat) (c : Nat) (g : AV), backH φ ow w vs p c g → backH φ' ow' w' vs p c g
  | .nil, _, _, _ => trivial
  | .clo _ q r, c, g, h => backH_keep hp hk r (c + q.size) g.tl h
  | .agg q r, c, g, h => backH_keep hp hk r (c + q.size) g.tl h
  | .val _ r, c, g, h => backH_keep hp hk r (c + 1) g.tl h
  | .own _ _ r, c, g, h => backH_keep hp hk r (c + 1) g.tl h
  | .own2 _ _ _ r, c, g, h => backH_keep hp hk r (c + 1) g.tl h
  | .lendh _ r, c, g, h => backH_keep hp hk r (c + 1) g.tl h
  | .own2h _ _ _ _ r, c, g, h => backH_keep hp hk r (c + 1) g.tl h
  | .obj _ r, c, g, h => backH_keep hp hk r (c + 1) g.tl h
  | .ownk _ r, c, g, h => backH_keep hp hk r (c + 1) g.tl h
  | .skip r, c, g, h => ⟨AV.holds_keep hp hk h.1, backH_keep hp hk r (c + 1) g.tl h.2⟩
  | .lend _ r, c, g, h => ⟨AV.holds_keep hp hk h.1, backH_keep hp hk r (c + 1) g.tl h.2⟩

section
variable {φ : Hnd} {ow : Own} {w : World} {hp : Nat → Chunk} {nx : Nat}

theorem Ty.rep_unmove {d : List Nat} {id : Nat} : ∀ {T : Ty} {cs : List Value} {x : T.den}, T.rep (moveOw d id ow) w cs x → T.rep ow w cs x := fun h => Ty.rep_keep ⟨Nat.le_refl _, fun b _ hb => ⟨moveOw_none.1 hb, rfl⟩⟩ h

theorem own2Of_ok (H : Hyp hp nx φ ow w) {e e' : TypeId} {T : Ty} {a : AV} {v : Value} {k : List (List T.den) → List Nat → Req} {out : Out} (hr : (own2Of e e' T a k).run hp = some out) (ha : a.holds φ ow w [v]) :
    ∃ l d, (k l d).run hp = some out ∧ (∀ g, v.ownBlock = some g → ∃ i ∈ d, ow g = some i) ∧ (∃ A n c, v = .slice A n c) ∧
      ∀ (ow' : Own) (φ' : Hnd) (t : Nat), (∀ cs x, Ty.rep ow w T cs x → Ty.rep ow' w T cs x) → (∀ g i, i ∈ d → ow g = some i → ow' g = some t) → φ' t = some v → cH φ' ow' w t (.arr2 e e' T l []) := by
  unfold own2Of at hr
  split at hr <;> try (simp [Req.run] at hr; done)
  · injection ha with ha
    subst ha
    refine ⟨[], [], hr, by simp [Value.ownBlock], ⟨_, _, _, rfl⟩, fun ow' φ' t _ _ h => ⟨_, [], fun _ => 0, h, World.ownsRow_nil w 0 e 1, by simp [Value.ownBlock], Nat.zero_le _, rfl, by simp, by simp, by simp⟩⟩
  · rename_i id
    obtain ⟨A, n', c, hφ, e2⟩ := ha
    injection e2 with e2
    subst e2
    simp only [Req.run] at hr
    have hch := H.chunk id
    split at hr <;> try (simp [Req.run] at hr; done)
    rename_i e2 e2' T2 l hs hc
    rw [hc] at hch
    split at hr <;> try (simp [Req.run] at hr; done)
    rename_i hT
    subst hT
    split at hr <;> try (simp [Req.run] at hr; done)
    rename_i he
    obtain ⟨rfl, rfl⟩ := he
    obtain ⟨l', hr', hll, hcl⟩ := closeHs_ok (φ := φ) (w := w) (id := id) hs l _ hr
    split at hr' <;> try (simp [Req.run] at hr'; done)
    rename_i hcond
    simp only [Bool.or_eq_true, Bool.not_eq_true', not_or, Bool.not_eq_true, Bool.not_eq_false] at hcond
    have hid : id ∉ hs.map (·.2) := fun h => by have := memN_iff.2 h; rw [hcond.1] at this; cases this
    obtain ⟨v, xs, pos, hv, hown, hvb, hlim, hsub⟩ := hch
    rw [hφ] at hv
    injection hv with hv
    subst hv
    obtain ⟨pos', hpos, hsub'⟩ := hcl ow pos xs (fun p _ => H.chunk p.2) (nodupN_iff.1 hcond.2) hid hsub
    have hr' : (k l' (id :: hs.map (·.2))).run hp = some out := hr'
    refine ⟨l', id :: hs.map (·.2), hr', fun g hg => ⟨id, by simp, (hvb g hg).1⟩, ⟨_, _, _, rfl⟩, fun ow' φ' t hk hm h => ⟨_, xs, pos', h, by rw [hll]; exact hown, fun g hg => ⟨hm g id (by simp) (hvb g hg).1, by rw [hpos g (hvb g hg).1]; exact (hvb g hg).2⟩, by rw [hll]; exact hlim, hsub'.1, by simp, by simp, fun j u hu => ?_⟩⟩
    have h5 := hsub'.2.2.2 j u hu
    simp only [holeAt] at h5 ⊢
    obtain ⟨zs, r1, r2, r3, r4⟩ := h5.1
    refine ⟨⟨zs, r1, fun g hg => ?_, r3, Rows.mono (fun cs x hx => hk cs x (Ty.rep_unmove hx)) r4⟩, h5.2⟩
    rcases moveOw_some (r2 g hg) with ⟨h6, _⟩ | ⟨_, j', hj', h6⟩
    · exact hm g id (by simp) h6
    · exact hm g j' (List.mem_cons_of_mem _ hj') h6

theorem ownkOf_ok (H : Hyp hp nx φ ow w) : ∀ {kd : Knd} {a : AV} {v : Value} {k : kd.ty.den → List Nat → Req} {out : Out}, (ownkOf kd a k).run hp = some out → a.holds φ ow w [v] →
    ∃ x d, (k x d).run hp = some out ∧
      ∀ (ow' : Own) (φ' : Hnd) (t : Nat), (∀ T ∈ kd.tys, ∀ cs x, Ty.rep ow w T cs x → Ty.rep ow' w T cs x) → (∀ g i, i ∈ d → ow g = some i → ow' g = some t) → φ' t = some v → (kd.hnd t).holds φ' ow' w [v] ∧ cH φ' ow' w t (kd.chunk x)
  | .mp K V, a, v, k, out, hr, ha => by
    simp only [ownkOf] at hr
    split at hr <;> try (simp [Req.run] at hr; done)
    rename_i id
    obtain ⟨g, hφ, e⟩ := ha
    injection e with e
    subst e
    simp only [Req.run] at hr
    have hch := H.chunk id
    split at hr <;> try (simp [Req.run] at hr; done)
    rename_i K2 V2 l hc
    rw [hc] at hch
    split at hr <;> try (simp [Req.run] at hr; done)
    rename_i hV
    subst hV
    split at hr <;> try (simp [Req.run] at hr; done)
    rename_i hK
    subst hK
    obtain ⟨g', es, clock, hφ', h1, h2, h3, h4⟩ := hch
    rw [hφ] at hφ'
    injection hφ' with hφ'; injection hφ' with hφ'; injection hφ' with hφ'
    subst hφ'
    exact ⟨l, [id], hr, fun ow' φ' t hk hm h => ⟨⟨g, h, rfl⟩, g, es, clock, h, hm g id (by simp) h1, h2, h3, entsR_mono (fun cs x => hk _ (by simp [Knd.tys]) cs x) h4⟩⟩
  | .ch, a, v, k, out, hr, ha => by
    simp only [ownkOf] at hr
    split at hr <;> try (simp [Req.run] at hr; done)
    rename_i id
    obtain ⟨g, hφ, e⟩ := ha
    injection e with e
    subst e
    simp only [Req.run] at hr
    have hch := H.chunk id
    split at hr <;> try (simp [Req.run] at hr; done)
    rename_i cp n hc
    rw [hc] at hch
    obtain ⟨g', c, s, r, buf, hφ', h1, h2, h3, h4⟩ := hch
    rw [hφ] at hφ'
    injection hφ' with hφ'; injection hφ' with hφ'; injection hφ' with hφ'
    subst hφ'
    exact ⟨(cp, n), [id], hr, fun ow' φ' t hk hm h => ⟨⟨g, h, rfl⟩, g, c, s, r, buf, h, hm g id (by simp) h1, h2, h3, h4⟩⟩

/-- What holds of what was read, for whoever gets it. -/
structure InOK (φ : Hnd) (ow : Own) (w : World) (box : Bool) (p : APat) (c : Nat) (a : AV) (vals : List Value) (x : p.ty.den) (it : It) (hv : Nat → Option Value) : Prop where
  sld : SldOK φ (sealOw (ids it.sls) ow) w it.sls
  own : ∀ t d, (t, d) ∈ it.own → c ≤ t ∧ t < c + p.size ∧ ∃ v, hv t = some v
  hvlt : ∀ t v, hv t = some v → c ≤ t ∧ t < c + p.size
  sk : box = true → ∀ t ∈ p.skips c, ∃ v, hv t = some v
  orig : ∀ vs : Nat → Value, (∀ t v, hv t = some v → vs t = v) → backH φ ow w vs p c a
  lh : ∀ t id, (t, id) ∈ it.rows → t ∈ p.lents c ∧ ∃ v, hv t = some v ∧ φ id = some v
  tgt : ∀ (φ' : Hnd) (ow' : Own), (∀ t v, hv t = some v → φ' t = some v) → Keep (sealOw (it.lent ++ ids it.sls) ow) w ow' w → (∀ t d, (t, d) ∈ it.own → ∀ g i, i ∈ d → ow g = some i → ow' g = some t) →
    (∀ n id, (n, id) ∈ it.objs → φ' (n + 1) = φ id) → (p.av box c x).holds φ' ow' w vals ∧ ∀ j ch, (j, ch) ∈ p.heap c x → cH φ' ow' w j ch

theorem keep_of_seal {S S' : List Nat} {ow' : Own} (h : Keep (sealOw S' ow) w ow' w) (hs : ∀ i ∈ S, i ∈ S') : Keep (sealOw S ow) w ow' w := Keep.trans (keep_seal_mono hs) h

theorem SldOK.app {u v : Upd} (h1 : SldOK φ (sealOw (ids u) ow) w u) (h2 : SldOK φ (sealOw (ids v) ow) w v) : SldOK φ (sealOw (ids (u ++ v)) ow) w (u ++ v) := by
  intro p hp
  rcases List.mem_append.1 hp with hp | hp
  · exact SldOK.mono (keep_seal_mono (ids_l _ _)) h1 p hp
  · exact SldOK.mono (keep_seal_mono (ids_r _ _)) h2 p hp

theorem ids_app (u v : Upd) : ids (u ++ v) = ids u ++ ids v := by simp [ids]

theorem rdIn_ok (H : Hyp hp nx φ ow w) {box : Bool} {out : Out} : ∀ (p : APat) (c : Nat) (a : AV) (k : p.ty.den → It → Req) (vals : List Value), (rdIn p c a k).run hp = some out → a.holds φ ow w vals →
    ∃ x it hv, (k x it).run hp = some out ∧ InOK φ ow w box p c a vals x it hv := by
  intro p
  induction p with
  | nil =>
    intro c a k vals hr ha
    unfold rdIn at hr
    cases a <;> try (simp [Req.run] at hr; done)
    exact ⟨(), It.nil, fun _ => none, hr, fun p hp => (by cases hp), fun t d h => (by cases h), fun t v h => (by cases h), fun _ t h => (by cases h), fun _ _ => trivial, fun t id h => (by cases h), fun φ' ow' _ _ _ _ => ⟨ha, fun j ch h => (by cases h)⟩⟩
  | val T r ih =>
    intro c a k vals hr ha
    cases a <;> try (simp [rdIn, Req.run] at hr; done)
    rename_i a b
    simp only [rdIn] at hr
    split at hr <;> try (simp [Req.run] at hr; done)
    rename_i hT
    obtain ⟨v, rest, rfl, h1, h2⟩ := ha
    obtain ⟨x, c', u, cs1, cs2, e1, h3, hr1, hy, hsl⟩ := datOf_ok H T (.cons a.strip .nil) _ [v] out ⟨v, [], rfl, AV.holds_strip h1, rfl⟩ hr
    cases c' <;> try (simp [Req.run] at hr1; done)
    have h0 : cs2 = [] := h3
    subst h0
    rw [List.append_nil] at e1
    subst e1
    obtain ⟨y, it, hv, hr2, k1, k2, k3, ks, k4, kl, k5⟩ := ih (c + 1) b _ rest hr1 h2
    refine ⟨(x, y), It.app ⟨[], [], u, [], []⟩ it, hv, hr2, SldOK.app hsl k1, fun t d h => ?_, fun t v h => ?_, fun hb t ht => ks hb t ht, fun vs hvs => k4 vs hvs, fun t id h => kl t id (by simpa [It.app] using h), fun φ' ow' g1 g2 g3 g4 => ?_⟩
    · have := k2 t d (by simpa [It.app] using h)
      simp only [APat.size]
      exact ⟨by omega, by omega, this.2.2⟩
    · have := k3 t v h
      simp only [APat.size]
      exact ⟨by omega, by omega⟩
    · obtain ⟨q1, q2⟩ := k5 φ' ow' g1 (keep_of_seal g2 (by simp [It.app, ids_app]; intro i hi; rcases hi with hi | hi <;> simp [hi])) (fun t d h => g3 t d (by simpa [It.app] using h)) (fun n id h => g4 n id (by simpa [It.app] using h))
      refine ⟨⟨v, rest, rfl, ⟨rfl, hT, Ty.rep_keep (keep_of_seal g2 (by simp [It.app, ids_app]; intro i hi; simp [hi])) hy⟩, q1⟩, q2⟩
  | lend T r ih =>
    intro c a k vals hr ha
    cases a <;> try (simp [rdIn, Req.run] at hr; done)
    rename_i a b
    simp only [rdIn] at hr
    split at hr <;> try (simp [Req.run] at hr; done)
    rename_i hT
    obtain ⟨v, rest, rfl, h1, h2⟩ := ha
    obtain ⟨x, c', u, cs1, cs2, e1, h3, hr1, hy, hsl⟩ := datOf_ok H T (.cons a.strip .nil) _ [v] out ⟨v, [], rfl, AV.holds_strip h1, rfl⟩ hr
    cases c' <;> try (simp [Req.run] at hr1; done)
    have h0 : cs2 = [] := h3
    subst h0
    rw [List.append_nil] at e1
    subst e1
    obtain ⟨y, it, hv, hr2, k1, k2, k3, ks, k4, kl, k5⟩ := ih (c + 1) b _ rest hr1 h2
    refine ⟨(x, y), It.app ⟨[], ids u, [], [], []⟩ it, fun t => if t = c then some v else hv t, hr2, by simpa [It.app] using k1, fun t d h => ?_, fun t v h => ?_, fun hb t ht => ?_, fun vs hvs => ⟨?_, k4 vs fun t v h => ?_⟩, fun t id h => (by obtain ⟨b0, v', b1, b2⟩ := kl t id (by simpa [It.app] using h); have := k3 t v' b1; exact ⟨b0, v', by rw [if_neg (by omega)]; exact b1, b2⟩), fun φ' ow' g1 g2 g3 g4 => ?_⟩
    · have := k2 t d (by simpa [It.app] using h)
      simp only [APat.size]
      rw [if_neg (by omega)]
      exact ⟨by omega, by omega, this.2.2⟩
    · simp only [APat.size]
      by_cases e : t = c
      · omega
      · rw [if_neg e] at h
        have := k3 t v h
        omega
    · rcases List.mem_cons.1 ht with rfl | ht
      · exact ⟨v, by simp⟩
      · obtain ⟨v', hv'⟩ := ks hb t ht
        have := k3 t v' hv'
        exact ⟨v', by rw [if_neg (by omega)]; exact hv'⟩
    · rw [hvs c v (by simp)]
      exact h1
    · have := k3 t v h
      exact hvs t v (by rw [if_neg (by omega)]; exact h)
    · have hvc : φ' c = some v := g1 c v (by simp)
      obtain ⟨q1, q2⟩ := k5 φ' ow' (fun t v h => by have := k3 t v h; exact g1 t v (by rw [if_neg (by omega)]; exact h)) (keep_of_seal g2 (by simp [It.app]; intro i hi; rcases hi with hi | hi <;> simp [hi])) (fun t d h => g3 t d (by simpa [It.app] using h)) (fun n id h => g4 n id (by simpa [It.app] using h))
      have hrep : T.rep ow' w [v] x := Ty.rep_keep (keep_of_seal g2 (by simp [It.app]; intro i hi; simp [hi])) hy
      refine ⟨⟨v, rest, rfl, ?_, q1⟩, q2⟩
      cases box
      · exact ⟨rfl, hT, hrep⟩
      · exact ⟨v, hvc, rfl, hT, hrep⟩
  | own e T r ih =>
    intro c a k vals hr ha
    cases a <;> try (simp [rdIn, Req.run] at hr; done)
    rename_i a b
    simp only [rdIn] at hr
    obtain ⟨v, rest, rfl, h1, h2⟩ := ha
    obtain ⟨l, d, u, xs, hr1, hown, hd, hrow, hsl, hll⟩ := ownOf_ok H hr h1
    obtain ⟨y, it, hv, hr2, k1, k2, k3, ks, k4, kl, k5⟩ := ih (c + 1) b _ rest hr1 h2
    have hsv : ∃ A n c, v = .slice A n c := by
      obtain ⟨A, c, h⟩ := slice_of hown
      exact ⟨_, _, _, h⟩
    refine ⟨(l, y), It.app ⟨[(c, d)], [], u, [], []⟩ it, fun t => if t = c then some v else hv t, hr2, SldOK.app hsl k1, fun t d' h => ?_, fun t v h => ?_, fun hb t ht => ?_, fun vs hvs => k4 vs fun t v h => ?_, fun t id h => (by obtain ⟨b0, v', b1, b2⟩ := kl t id (by simpa [It.app] using h); have := k3 t v' b1; exact ⟨b0, v', by rw [if_neg (by omega)]; exact b1, b2⟩), fun φ' ow' g1 g2 g3 g4 => ?_⟩
    · simp only [It.app, List.mem_append, List.mem_singleton] at h
      simp only [APat.size]
      rcases h with h | h
      · injection h with e1 e2
        subst e1; subst e2
        exact ⟨by omega, by omega, v, by simp⟩
      · have := k2 t d' h
        refine ⟨by omega, by omega, ?_⟩
        rw [if_neg (by omega)]
        exact this.2.2
    · simp only [APat.size]
      by_cases e : t = c
      · omega
      · rw [if_neg e] at h
        have := k3 t v h
        omega
    · obtain ⟨v', hv'⟩ := ks hb t ht
      have := k3 t v' hv'
      exact ⟨v', by rw [if_neg (by omega)]; exact hv'⟩
    · have := k3 t v h
      exact hvs t v (by rw [if_neg (by omega)]; exact h)
    · obtain ⟨q1, q2⟩ := k5 φ' ow' (fun t v h => by have := k3 t v h; exact g1 t v (by rw [if_neg (by omega)]; exact h)) (keep_of_seal g2 (by simp [It.app, ids_app]; intro i hi; rcases hi with hi | hi <;> simp [hi])) (fun t d h => g3 t d (by simp [It.app, h])) (fun n id h => g4 n id (by simpa [It.app] using h))
      have p2 := g3 c d (by simp [It.app])
      have p1 : φ' c = some v := g1 c v (by simp)
      have hrow' : rowH ow' w c v e T l := by
        refine ⟨xs, hown, fun g hg => ?_, hll, Rows.mono (fun cs x => Ty.rep_keep (keep_of_seal g2 (by simp [It.app, ids_app]; intro i hi; simp [hi]))) hrow⟩
        obtain ⟨i, hi, hi2⟩ := hd g hg
        exact p2 g i hi hi2
      refine ⟨⟨v, rest, rfl, ?_, q1⟩, fun j ch h => ?_⟩
      · obtain ⟨A, n, c', rfl⟩ := hsv
        exact ⟨A, n, c', p1, rfl⟩
      · rcases List.mem_cons.1 h with h | h
        · injection h with e1 e2
          subst e1; subst e2
          exact ⟨v, p1, hrow'⟩
        · exact q2 j ch h
  | own2 e e' T r ih =>
    intro c a k vals hr ha
    cases a <;> try (simp [rdIn, Req.run] at hr; done)
    rename_i a b
    simp only [rdIn] at hr
    obtain ⟨v, rest, rfl, h1, h2⟩ := ha
    obtain ⟨l, d, hr1, hd, hsv, hch⟩ := own2Of_ok H hr h1
    obtain ⟨y, it, hv, hr2, k1, k2, k3, ks, k4, kl, k5⟩ := ih (c + 1) b _ rest hr1 h2
    refine ⟨(l, y), It.app ⟨[(c, d)], [], [], [], []⟩ it, fun t => if t = c then some v else hv t, hr2, by simpa [It.app] using k1, fun t d' h => ?_, fun t v h => ?_, fun hb t ht => ?_, fun vs hvs => k4 vs fun t v h => ?_, fun t id h => (by obtain ⟨b0, v', b1, b2⟩ := kl t id (by simpa [It.app] using h); have := k3 t v' b1; exact ⟨b0, v', by rw [if_neg (by omega)]; exact b1, b2⟩), fun φ' ow' g1 g2 g3 g4 => ?_⟩
    · simp only [It.app, List.mem_append, List.mem_singleton] at h
      simp only [APat.size]
      rcases h with h | h
      · injection h with e1 e2
        subst e1; subst e2
        exact ⟨by omega, by omega, v, by simp⟩
      · have := k2 t d' h
        refine ⟨by omega, by omega, ?_⟩
        rw [if_neg (by omega)]
        exact this.2.2
    · simp only [APat.size]
      by_cases e : t = c
      · omega
      · rw [if_neg e] at h
        have := k3 t v h
        omega
    · obtain ⟨v', hv'⟩ := ks hb t ht
      have := k3 t v' hv'
      exact ⟨v', by rw [if_neg (by omega)]; exact hv'⟩
    · have := k3 t v h
      exact hvs t v (by rw [if_neg (by omega)]; exact h)
    · obtain ⟨q1, q2⟩ := k5 φ' ow' (fun t v h => by have := k3 t v h; exact g1 t v (by rw [if_neg (by omega)]; exact h)) (keep_of_seal g2 (by simp [It.app])) (fun t d h => g3 t d (by simp [It.app, h])) (fun n id h => g4 n id (by simpa [It.app] using h))
      have p2 := g3 c d (by simp [It.app])
      have p1 : φ' c = some v := g1 c v (by simp)
      have hc2 := hch ow' φ' c (fun cs x => Ty.rep_keep (Keep.trans (keep_seal _) g2)) p2 p1
      refine ⟨⟨v, rest, rfl, ?_, q1⟩, fun j ch h => ?_⟩
      · obtain ⟨A, n, c', rfl⟩ := hsv
        exact ⟨A, n, c', p1, rfl⟩
      · rcases List.mem_cons.1 h with h | h
        · injection h with e1 e2
          subst e1; subst e2
          exact hc2
        · exact q2 j ch h
  | lendh T r ih =>
    intro c a k vals hr ha
    cases a <;> try (simp [rdIn, Req.run] at hr; done)
    rename_i a b
    simp only [rdIn] at hr
    split at hr <;> try (simp [Req.run] at hr; done)
    rename_i a id
    obtain ⟨v, rest, rfl, h1, h2⟩ := ha
    obtain ⟨x, c', u, cs1, cs2, e1, h3, hr1, hy, hsl⟩ := datOf_ok H (.sl T) (.cons (.arr id) .nil) _ [v] out ⟨v, [], rfl, h1, rfl⟩ hr
    obtain ⟨A, n, cp, hφ, hva⟩ := h1
    injection hva with hva
    cases c' <;> try (simp [Req.run] at hr1; done)
    have h0 : cs2 = [] := h3
    subst h0
    rw [List.append_nil] at e1
    subst e1
    obtain ⟨y, it, hv, hr2, k1, k2, k3, ks, k4, kl, k5⟩ := ih (c + 1) b _ rest hr1 h2
    refine ⟨(x, y), It.app ⟨[], ids u, [], [], [(c, id)]⟩ it, fun t => if t = c then some v else hv t, hr2, by simpa [It.app] using k1, fun t d h => ?_, fun t v h => ?_, fun hb t ht => ?_, fun vs hvs => k4 vs fun t v h => ?_, fun t id' h => ?_, fun φ' ow' g1 g2 g3 g4 => ?_⟩
    · have := k2 t d (by simpa [It.app] using h)
      simp only [APat.size]
      rw [if_neg (by omega)]
      exact ⟨by omega, by omega, this.2.2⟩
    · simp only [APat.size]
      by_cases e : t = c
      · omega
      · rw [if_neg e] at h
        have := k3 t v h
        omega
    · obtain ⟨v', hv'⟩ := ks hb t ht
      have := k3 t v' hv'
      exact ⟨v', by rw [if_neg (by omega)]; exact hv'⟩
    · have := k3 t v h
      exact hvs t v (by rw [if_neg (by omega)]; exact h)
    · simp only [It.app, List.cons_append, List.nil_append, List.mem_cons] at h
      simp only [APat.lents, List.mem_cons]
      rcases h with h | h
      · injection h with e1 e2
        subst e1; subst e2
        exact ⟨.inl rfl, v, by simp, by rw [hva]; exact hφ⟩
      · obtain ⟨b0, v', b1, b2⟩ := kl t id' h
        have := k3 t v' b1
        exact ⟨.inr b0, v', by rw [if_neg (by omega)]; exact b1, b2⟩
    · have hvc : φ' c = some v := g1 c v (by simp)
      obtain ⟨q1, q2⟩ := k5 φ' ow' (fun t v h => by have := k3 t v h; exact g1 t v (by rw [if_neg (by omega)]; exact h)) (keep_of_seal g2 (by simp [It.app]; intro i hi; rcases hi with hi | hi <;> simp [hi])) (fun t d h => g3 t d (by simpa [It.app] using h)) (fun n id h => g4 n id (by simpa [It.app] using h))
      have hrep : (Ty.sl T).rep ow' w [v] x := Ty.rep_keep (keep_of_seal g2 (by simp [It.app]; intro i hi; simp [hi])) hy
      refine ⟨⟨v, rest, rfl, ⟨A, n, cp, by rw [hvc, hva], by rw [hva]⟩, q1⟩, fun j ch h => ?_⟩
      rcases List.mem_cons.1 h with h | h
      · injection h with e1 e2
        subst e1; subst e2
        exact ⟨v, hvc, hrep⟩
      · exact q2 j ch h
  | own2h e e' T kk r ih =>
    intro c a k vals hr ha
    cases a <;> try (simp [rdIn, Req.run] at hr; done)
    rename_i a b
    simp only [rdIn] at hr
    obtain ⟨v, rest, rfl, h1, h2⟩ := ha
    obtain ⟨l, d, hr1, hd, hsv, hch⟩ := own2Of_ok H hr h1
    obtain ⟨y, it, hv, hr2, k1, k2, k3, ks, k4, kl, k5⟩ := ih (c + 1) b _ rest hr1 h2
    refine ⟨(l, (0 : Int), y), It.app ⟨[(c, d)], [], [], [], []⟩ it, fun t => if t = c then some v else hv t, hr2, by simpa [It.app] using k1, fun t d' h => ?_, fun t v h => ?_, fun hb t ht => ?_, fun vs hvs => k4 vs fun t v h => ?_, fun t id h => (by obtain ⟨b0, v', b1, b2⟩ := kl t id (by simpa [It.app] using h); have := k3 t v' b1; exact ⟨b0, v', by rw [if_neg (by omega)]; exact b1, b2⟩), fun φ' ow' g1 g2 g3 g4 => ?_⟩
    · simp only [It.app, List.mem_append, List.mem_singleton] at h
      simp only [APat.size]
      rcases h with h | h
      · injection h with e1 e2
        subst e1; subst e2
        exact ⟨by omega, by omega, v, by simp⟩
      · have := k2 t d' h
        refine ⟨by omega, by omega, ?_⟩
        rw [if_neg (by omega)]
        exact this.2.2
    · simp only [APat.size]
      by_cases e : t = c
      · omega
      · rw [if_neg e] at h
        have := k3 t v h
        omega
    · obtain ⟨v', hv'⟩ := ks hb t ht
      have := k3 t v' hv'
      exact ⟨v', by rw [if_neg (by omega)]; exact hv'⟩
    · have := k3 t v h
      exact hvs t v (by rw [if_neg (by omega)]; exact h)
    · obtain ⟨q1, q2⟩ := k5 φ' ow' (fun t v h => by have := k3 t v h; exact g1 t v (by rw [if_neg (by omega)]; exact h)) (keep_of_seal g2 (by simp [It.app])) (fun t d h => g3 t d (by simp [It.app, h])) (fun n id h => g4 n id (by simpa [It.app] using h))
      have p2 := g3 c d (by simp [It.app])
      have p1 : φ' c = some v := g1 c v (by simp)
      have hc2 := hch ow' φ' c (fun cs x => Ty.rep_keep (Keep.trans (keep_seal _) g2)) p2 p1
      refine ⟨⟨v, rest, rfl, ?_, q1⟩, fun j ch h => ?_⟩
      · obtain ⟨A, n, c', rfl⟩ := hsv
        exact ⟨A, n, c', p1, rfl⟩
      · rcases List.mem_cons.1 h with h | h
        · injection h with e1 e2
          subst e1; subst e2
          exact hc2
        · exact q2 j ch h
  | skip r ih =>
    intro c a k vals hr ha
    cases a <;> try (simp [rdIn, Req.run] at hr; done)
    rename_i a b
    simp only [rdIn] at hr
    split at hr <;> try (simp [Req.run] at hr; done)
    rename_i hone
    obtain ⟨v, rest, rfl, h1, h2⟩ := ha
    obtain ⟨y, it, hv, hr2, k1, k2, k3, ks, k4, kl, k5⟩ := ih (c + 1) b _ rest hr h2
    refine ⟨y, it, fun t => if t = c then some v else hv t, hr2, k1, fun t d h => ?_, fun t v h => ?_, fun hb t ht => ?_, fun vs hvs => ⟨?_, k4 vs fun t v h => ?_⟩, fun t id h => (by obtain ⟨b0, v', b1, b2⟩ := kl t id (by simpa [It.app] using h); have := k3 t v' b1; exact ⟨b0, v', by rw [if_neg (by omega)]; exact b1, b2⟩), fun φ' ow' g1 g2 g3 g4 => ?_⟩
    · have := k2 t d h
      simp only [APat.size]
      rw [if_neg (by omega)]
      exact ⟨by omega, by omega, this.2.2⟩
    · simp only [APat.size]
      by_cases e : t = c
      · omega
      · rw [if_neg e] at h
        have := k3 t v h
        omega
    · rcases List.mem_cons.1 ht with rfl | ht
      · exact ⟨v, by simp⟩
      · obtain ⟨v', hv'⟩ := ks hb t ht
        have := k3 t v' hv'
        exact ⟨v', by rw [if_neg (by omega)]; exact hv'⟩
    · rw [hvs c v (by simp)]
      exact h1
    · have := k3 t v h
      exact hvs t v (by rw [if_neg (by omega)]; exact h)
    · have hvc : φ' c = some v := g1 c v (by simp)
      obtain ⟨q1, q2⟩ := k5 φ' ow' (fun t v h => by have := k3 t v h; exact g1 t v (by rw [if_neg (by omega)]; exact h)) g2 g3 g4
      exact ⟨⟨v, rest, rfl, ⟨v, hvc, rfl, one_cell hone h1⟩, q1⟩, q2⟩
  | obj n r ih =>
    intro c a k vals hr ha
    cases a <;> try (simp [rdIn, Req.run] at hr; done)
    rename_i a b
    cases a <;> try (simp [rdIn, Req.run] at hr; done)
    rename_i id off
    cases off <;> try (simp [rdIn, Req.run] at hr; done)
    simp only [rdIn] at hr
    obtain ⟨v, rest, rfl, h1, h2⟩ := ha
    obtain ⟨y, it, hv, hr2, k1, k2, k3, ks, k4, kl, k5⟩ := ih (c + 1) b _ rest hr h2
    refine ⟨y, It.app ⟨[], [], [], [(n, id)], []⟩ it, hv, hr2, by simpa [It.app] using k1, fun t d h => ?_, fun t v h => ?_, fun hb t ht => ks hb t ht, fun vs hvs => k4 vs hvs, fun t id h => kl t id (by simpa [It.app] using h), fun φ' ow' g1 g2 g3 g4 => ?_⟩
    · have := k2 t d (by simpa [It.app] using h)
      simp only [APat.size]
      exact ⟨by omega, by omega, this.2.2⟩
    · have := k3 t v h
      simp only [APat.size]
      exact ⟨by omega, by omega⟩
    · obtain ⟨q1, q2⟩ := k5 φ' ow' g1 (keep_of_seal g2 (by simp [It.app])) (fun t d h => g3 t d (by simpa [It.app] using h)) (fun n id h => g4 n id (by simp [It.app, h]))
      refine ⟨⟨v, rest, rfl, ?_, q1⟩, q2⟩
      obtain ⟨g, m1, m2⟩ := h1
      exact ⟨g, by rw [g4 n id (by simp [It.app])]; exact m1, m2⟩
  | clo f q r ihq ihr =>
    intro c a k vals hr ha
    cases a <;> try (simp [rdIn, Req.run] at hr; done)
    rename_i a b
    cases a <;> try (simp [rdIn, Req.run] at hr; done)
    rename_i g caps
    simp only [rdIn] at hr
    split at hr <;> try (simp [Req.run] at hr; done)
    rename_i hg
    subst hg
    obtain ⟨v, rest, rfl, h1, h2⟩ := ha
    obtain ⟨cs, ev, hcs⟩ := h1
    obtain ⟨x, it, hv, hr1, k1, k2, k3, ks, k4, kl, k5⟩ := ihq c caps _ cs.toList hr hcs
    obtain ⟨y, it', hv', hr2, m1, m2, m3, ms, m4, ml, m5⟩ := ihr (c + q.size) b _ rest hr1 h2
    refine ⟨(x, y), It.app it it', fun t => if t < c + q.size then hv t else hv' t, hr2, SldOK.app k1 m1, fun t d h => ?_, fun t v h => ?_, fun hb t ht => ?_, fun vs hvs => m4 vs fun t v h => ?_, fun t id h => ?_, fun φ' ow' g1 g2 g3 g4 => ?_⟩
    · simp only [It.app, List.mem_append] at h
      simp only [APat.size]
      rcases h with h | h
      · have := k2 t d h
        rw [if_pos (by omega)]
        exact ⟨by omega, by omega, this.2.2⟩
      · have := m2 t d h
        rw [if_neg (by omega)]
        exact ⟨by omega, by omega, this.2.2⟩
    · simp only [APat.size]
      by_cases e : t < c + q.size
      · rw [if_pos e] at h
        have := k3 t v h
        omega
      · rw [if_neg e] at h
        have := m3 t v h
        omega
    · simp only [APat.skips, List.mem_append] at ht
      rcases ht with ht | ht
      · obtain ⟨v', hv'⟩ := ks hb t ht
        have := k3 t v' hv'
        exact ⟨v', by rw [if_pos (by omega)]; exact hv'⟩
      · obtain ⟨v', hv'⟩ := ms hb t ht
        have := m3 t v' hv'
        exact ⟨v', by rw [if_neg (by omega)]; exact hv'⟩
    · have := m3 t v h
      exact hvs t v (by rw [if_neg (by omega)]; exact h)
    · simp only [It.app, List.mem_append] at h
      simp only [APat.lents, List.mem_append]
      rcases h with h | h
      · obtain ⟨b0, v', b1, b2⟩ := kl t id h
        have := k3 t v' b1
        exact ⟨.inl b0, v', by rw [if_pos (by omega)]; exact b1, b2⟩
      · obtain ⟨b0, v', b1, b2⟩ := ml t id h
        have := m3 t v' b1
        exact ⟨.inr b0, v', by rw [if_neg (by omega)]; exact b1, b2⟩
    · obtain ⟨q1, q2⟩ := k5 φ' ow' (fun t v h => by have := k3 t v h; exact g1 t v (by rw [if_pos (by omega)]; exact h)) (keep_of_seal g2 (by simp [It.app, ids_app]; intro i hi; rcases hi with hi | hi <;> simp [hi]))
        (fun t d h => g3 t d (by simp [It.app, h])) (fun n id h => g4 n id (by simp [It.app, h]))
      obtain ⟨q3, q4⟩ := m5 φ' ow' (fun t v h => by have := m3 t v h; exact g1 t v (by rw [if_neg (by omega)]; exact h)) (keep_of_seal g2 (by simp [It.app, ids_app]; intro i hi; rcases hi with hi | hi <;> simp [hi]))
        (fun t d h => g3 t d (by simp [It.app, h])) (fun n id h => g4 n id (by simp [It.app, h]))
      refine ⟨⟨v, rest, rfl, ⟨cs, ev, q1⟩, q3⟩, fun j ch h => ?_⟩
      simp only [APat.heap, List.mem_append] at h
      exact h.elim (q2 j ch) (q4 j ch)
  | agg q r ihq ihr =>
    intro c a k vals hr ha
    cases a <;> try (simp [rdIn, Req.run] at hr; done)
    rename_i a b
    cases a <;> try (simp [rdIn, Req.run] at hr; done)
    rename_i caps
    simp only [rdIn] at hr
    obtain ⟨v, rest, rfl, h1, h2⟩ := ha
    obtain ⟨cs, ev, hcs⟩ := h1
    obtain ⟨x, it, hv, hr1, k1, k2, k3, ks, k4, kl, k5⟩ := ihq c caps _ cs.toList hr hcs
    obtain ⟨y, it', hv', hr2, m1, m2, m3, ms, m4, ml, m5⟩ := ihr (c + q.size) b _ rest hr1 h2
    refine ⟨(x, y), It.app it it', fun t => if t < c + q.size then hv t else hv' t, hr2, SldOK.app k1 m1, fun t d h => ?_, fun t v h => ?_, fun hb t ht => ?_, fun vs hvs => m4 vs fun t v h => ?_, fun t id h => ?_, fun φ' ow' g1 g2 g3 g4 => ?_⟩
    · simp only [It.app, List.mem_append] at h
      simp only [APat.size]
      rcases h with h | h
      · have := k2 t d h
        rw [if_pos (by omega)]
        exact ⟨by omega, by omega, this.2.2⟩
      · have := m2 t d h
        rw [if_neg (by omega)]
        exact ⟨by omega, by omega, this.2.2⟩
    · simp only [APat.size]
      by_cases e : t < c + q.size
      · rw [if_pos e] at h
        have := k3 t v h
        omega
      · rw [if_neg e] at h
        have := m3 t v h
        omega
    · simp only [APat.skips, List.mem_append] at ht
      rcases ht with ht | ht
      · obtain ⟨v', hv'⟩ := ks hb t ht
        have := k3 t v' hv'
        exact ⟨v', by rw [if_pos (by omega)]; exact hv'⟩
      · obtain ⟨v', hv'⟩ := ms hb t ht
        have := m3 t v' hv'
        exact ⟨v', by rw [if_neg (by omega)]; exact hv'⟩
    · have := m3 t v h
      exact hvs t v (by rw [if_neg (by omega)]; exact h)
    · simp only [It.app, List.mem_append] at h
      simp only [APat.lents, List.mem_append]
      rcases h with h | h
      · obtain ⟨b0, v', b1, b2⟩ := kl t id h
        have := k3 t v' b1
        exact ⟨.inl b0, v', by rw [if_pos (by omega)]; exact b1, b2⟩
      · obtain ⟨b0, v', b1, b2⟩ := ml t id h
        have := m3 t v' b1
        exact ⟨.inr b0, v', by rw [if_neg (by omega)]; exact b1, b2⟩
    · obtain ⟨q1, q2⟩ := k5 φ' ow' (fun t v h => by have := k3 t v h; exact g1 t v (by rw [if_pos (by omega)]; exact h)) (keep_of_seal g2 (by simp [It.app, ids_app]; intro i hi; rcases hi with hi | hi <;> simp [hi]))
        (fun t d h => g3 t d (by simp [It.app, h])) (fun n id h => g4 n id (by simp [It.app, h]))
      obtain ⟨q3, q4⟩ := m5 φ' ow' (fun t v h => by have := m3 t v h; exact g1 t v (by rw [if_neg (by omega)]; exact h)) (keep_of_seal g2 (by simp [It.app, ids_app]; intro i hi; rcases hi with hi | hi <;> simp [hi]))
        (fun t d h => g3 t d (by simp [It.app, h])) (fun n id h => g4 n id (by simp [It.app, h]))
      refine ⟨⟨v, rest, rfl, ⟨cs, ev, q1⟩, q3⟩, fun j ch h => ?_⟩
      simp only [APat.heap, List.mem_append] at h
      exact h.elim (q2 j ch) (q4 j ch)
  | ownk kd r ih =>
    intro c a k vals hr ha
    cases a <;> try (simp [rdIn, Req.run] at hr; done)
    rename_i a b
    simp only [rdIn] at hr
    obtain ⟨v, rest, rfl, h1, h2⟩ := ha
    obtain ⟨l, d, hr1, hch⟩ := ownkOf_ok H hr h1
    obtain ⟨y, it, hv, hr2, k1, k2, k3, ks, k4, kl, k5⟩ := ih (c + 1) b _ rest hr1 h2
    refine ⟨(l, y), It.app ⟨[(c, d)], [], [], [], []⟩ it, fun t => if t = c then some v else hv t, hr2, by simpa [It.app] using k1, fun t d' h => ?_, fun t v h => ?_, fun hb t ht => ?_, fun vs hvs => k4 vs fun t v h => ?_, fun t id h => (by obtain ⟨b0, v', b1, b2⟩ := kl t id (by simpa [It.app] using h); have := k3 t v' b1; exact ⟨b0, v', by rw [if_neg (by omega)]; exact b1, b2⟩), fun φ' ow' g1 g2 g3 g4 => ?_⟩
    · simp only [It.app, List.mem_append, List.mem_singleton] at h
      simp only [APat.size]
      rcases h with h | h
      · injection h with e1 e2
        subst e1; subst e2
        exact ⟨by omega, by omega, v, by simp⟩
      · have := k2 t d' h
        refine ⟨by omega, by omega, ?_⟩
        rw [if_neg (by omega)]
        exact this.2.2
    · simp only [APat.size]
      by_cases e : t = c
      · omega
      · rw [if_neg e] at h
        have := k3 t v h
        omega
    · obtain ⟨v', hv'⟩ := ks hb t ht
      have := k3 t v' hv'
      exact ⟨v', by rw [if_neg (by omega)]; exact hv'⟩
    · have := k3 t v h
      exact hvs t v (by rw [if_neg (by omega)]; exact h)
    · obtain ⟨q1, q2⟩ := k5 φ' ow' (fun t v h => by have := k3 t v h; exact g1 t v (by rw [if_neg (by omega)]; exact h)) (keep_of_seal g2 (by simp [It.app])) (fun t d h => g3 t d (by simp [It.app, h])) (fun n id h => g4 n id (by simpa [It.app] using h))
      have p2 := g3 c d (by simp [It.app])
      have p1 : φ' c = some v := g1 c v (by simp)
      obtain ⟨hc1, hc2⟩ := hch ow' φ' c (fun T _ cs x => Ty.rep_keep (Keep.trans (keep_seal _) g2)) p2 p1
      refine ⟨⟨v, rest, rfl, hc1, q1⟩, fun j ch h => ?_⟩
      rcases List.mem_cons.1 h with h | h
      · injection h with e1 e2
        subst e1; subst e2
        exact hc2
      · exact q2 j ch h

theorem backH_bot {vs : Nat → Value} : ∀ (p : APat) (c : Nat), backH φ ow w vs p c .bot
  | .nil, _ => trivial
  | .clo _ q r, c => backH_bot r (c + q.size)
  | .agg q r, c => backH_bot r (c + q.size)
  | .val _ r, c => backH_bot r (c + 1)
  | .own _ _ r, c => backH_bot r (c + 1)
  | .own2 _ _ _ r, c => backH_bot r (c + 1)
  | .lendh _ r, c => backH_bot r (c + 1)
  | .own2h _ _ _ _ r, c => backH_bot r (c + 1)
  | .obj _ r, c => backH_bot r (c + 1)
  | .ownk _ r, c => backH_bot r (c + 1)
  | .skip r, c => ⟨rfl, backH_bot r (c + 1)⟩
  | .lend _ r, c => ⟨rfl, backH_bot r (c + 1)⟩

end
end GoSx
end
section
/- Sx, part 21: the way back. -/
set_option linter.unusedVariables false
set_option linter.unusedSimpArgs false
namespace GoSx
open Go

/-- The values, as who gets them back sees them: what was left alone is as it was (orig); rows have numbers from o on. -/
def APat.back (o : Nat) (ob : Nat → Nat) : (p : APat) → Nat → AV → p.ty.den → AV
  | .nil, _, _, _ => .nil
  | .val T r, c, g, x => .cons (.dat T x.1) (r.back o ob (c + 1) g.tl x.2)
  | .lend T r, c, g, x => .cons g.hd (r.back o ob (c + 1) g.tl x.2)
  | .own _ T r, c, g, x => .cons (.arr (o + c)) (r.back o ob (c + 1) g.tl x.2)
  | .own2 _ _ T r, c, g, x => .cons (.arr (o + c)) (r.back o ob (c + 1) g.tl x.2)
  | .lendh _ r, c, g, x => .bot
  | .own2h _ _ T _ r, c, g, x => .cons (.arr (o + c)) (r.back o ob (c + 1) g.tl x.2.2)
  | .skip r, c, g, x => .cons g.hd (r.back o ob (c + 1) g.tl x)
  | .obj n r, c, g, x => .cons (.ref (ob n) 0) (r.back o ob (c + 1) g.tl x)
  | .clo f q r, c, g, x => .cons (.fn f (q.back o ob c .bot x.1)) (r.back o ob (c + q.size) g.tl x.2)
  | .agg q r, c, g, x => .cons (.agg (q.back o ob c .bot x.1)) (r.back o ob (c + q.size) g.tl x.2)
  | .ownk k r, c, g, x => .cons (k.hnd (o + c)) (r.back o ob (c + 1) g.tl x.2)

def own2hOf (e e' : TypeId) (T : Ty) (kk : Nat) (a : AV) (k : List (List T.den) → Int → List Nat → Req) : Req :=
  match a with
  | .arr id => .look id fun
    | .arr2 e2 e2' T2 l [(i, k2)] => if h : T2 = T then (if e2 = e ∧ e2' = e' ∧ k2 = kk then k (coeT (congrArg (fun t => Ty.sl (Ty.sl t)) h) l) i [id] else .fail) else .fail
    | _ => .fail
  | _ => .fail

def rdOut : (p : APat) → Nat → AV → (p.ty.den → It → Req) → Req
  | .nil, _, .nil, k => k () It.nil
  | .val T r, c, .cons a b, k => if T.leaf then datOf T (.cons a .nil) fun x c' u => match c' with
      | .nil => rdOut r (c + 1) b fun y it => k (x, y) (It.app ⟨[], [], u, [], []⟩ it)
      | _ => .fail else .fail
  | .lend T r, c, .cons (.idn u T' x) b, k => if h : T' = T then (if u = c then rdOut r (c + 1) b fun y it => k (coeT h x, y) it else .fail) else .fail
  | .own e T r, c, .cons a b, k => ownOf e T a fun l d u => rdOut r (c + 1) b fun y it => k (l, y) (It.app ⟨[(c, d)], [], u, [], []⟩ it)
  | .own2 e e' T r, c, .cons a b, k => own2Of e e' T a fun l d => rdOut r (c + 1) b fun y it => k (l, y) (It.app ⟨[(c, d)], [], [], [], []⟩ it)
  | .own2h e e' T kk r, c, .cons a b, k => own2hOf e e' T kk a fun l i d => rdOut r (c + 1) b fun y it => k (l, i, y) (It.app ⟨[(c, d)], [], [], [], []⟩ it)
  | .skip r, c, .cons (.opq u) b, k => if u = c then rdOut r (c + 1) b fun y it => k y it else .fail
  | .obj n r, c, .cons (.ref id 0) b, k => rdOut r (c + 1) b fun y it => k y (It.app ⟨[], [], [], [(n, id)], []⟩ it)
  | .clo f q r, c, .cons (.fn g caps) b, k => if g = f then rdOut q c caps fun x it => rdOut r (c + q.size) b fun y it' => k (x, y) (It.app it it') else .fail
  | .agg q r, c, .cons (.agg l) b, k => rdOut q c l fun x it => rdOut r (c + q.size) b fun y it' => k (x, y) (It.app it it')
  | .ownk kd r, c, .cons a b, k => ownkOf kd a fun x d => rdOut r (c + 1) b fun y it => k (x, y) (It.app ⟨[(c, d)], [], [], [], []⟩ it)
  | _, _, _, _ => .fail

section
variable {φ : Hnd} {ow : Own} {w : World} {hp : Nat → Chunk} {nx : Nat}

theorem own2hOf_ok (H : Hyp hp nx φ ow w) {e e' : TypeId} {T : Ty} {kk : Nat} {a : AV} {v : Value} {k : List (List T.den) → Int → List Nat → Req} {out : Out} (hr : (own2hOf e e' T kk a k).run hp = some out) (ha : a.holds φ ow w [v]) :
    ∃ l i d, (k l i d).run hp = some out ∧ (∀ g, v.ownBlock = some g → ∃ i ∈ d, ow g = some i) ∧ (∃ A n c, v = .slice A n c) ∧
      ∀ (ow' : Own) (φ' : Hnd) (t k' : Nat), (∀ cs x, Ty.rep ow w T cs x → Ty.rep ow' w T cs x) → (∀ g i, i ∈ d → ow g = some i → ow' g = some t) → (∀ h, φ kk = some h → φ' k' = some h) → φ' t = some v → cH φ' ow' w t (.arr2 e e' T l [(i, k')]) := by
  unfold own2hOf at hr
  split at hr <;> try (simp [Req.run] at hr; done)
  rename_i id
  obtain ⟨A, n', c, hφ, e2⟩ := ha
  injection e2 with e2
  subst e2
  simp only [Req.run] at hr
  have hch := H.chunk id
  split at hr <;> try (simp [Req.run] at hr; done)
  rename_i e2 e2' T2 l i k2 hc
  rw [hc] at hch
  split at hr <;> try (simp [Req.run] at hr; done)
  rename_i hT
  subst hT
  split at hr <;> try (simp [Req.run] at hr; done)
  rename_i he
  obtain ⟨rfl, rfl, rfl⟩ := he
  obtain ⟨v, xs, pos, hv, hown, hvb, hlim, hsub⟩ := hch
  rw [hφ] at hv
  injection hv with hv
  subst hv
  have hr : (k l i [id]).run hp = some out := hr
  refine ⟨l, i, [id], hr, fun g hg => ⟨id, by simp, (hvb g hg).1⟩, ⟨_, _, _, rfl⟩, fun ow' φ' t k' hk hm hkk h => ⟨_, xs, pos, h, hown, fun g hg => ⟨hm g id (by simp) (hvb g hg).1, (hvb g hg).2⟩, hlim, hsub.1, fun p hp => ?_, by simp, fun j u hu => ?_⟩⟩
  · simp only [List.mem_singleton] at hp
    subst hp
    exact hsub.2.1 (i, k2) (by simp)
  · have h5 := hsub.2.2.2 j u hu
    simp only [holeAt] at h5 ⊢
    split at h5
    · rename_i k3 hk3
      split at hk3
      · rename_i hij
        injection hk3 with hk3
        subst hk3
        rw [if_pos hij]
        exact hkk u h5
      · cases hk3
    · rename_i hk3
      split at hk3
      · cases hk3
      · rename_i hij
        rw [if_neg hij]
        obtain ⟨⟨zs, r1, r2, r3, r4⟩, h6⟩ := h5
        exact ⟨⟨zs, r1, fun g hg => hm g id (by simp) (r2 g hg), r3, Rows.mono (fun cs x hx => hk cs x hx) r4⟩, h6⟩

structure OutOK (φ : Hnd) (ow : Own) (w : World) (p : APat) (c : Nat) (vals : List Value) (x : p.ty.den) (it : It) (hv : Nat → Option Value) : Prop where
  sld : SldOK φ (sealOw (ids it.sls) ow) w it.sls
  own : ∀ t d, (t, d) ∈ it.own → c ≤ t ∧ t < c + p.size ∧ ∃ v, hv t = some v
  tgt : ∀ (vs : Nat → Value) (o : Nat) (ob : Nat → Nat) (g : AV) (φ' : Hnd) (ow' : Own), (∀ t ∈ p.skips c, ∀ v, φ t = some v → v = vs t) → (∀ T ∈ p.tys, ∀ cs x, Ty.rep (sealOw (ids it.sls) ow) w T cs x → Ty.rep ow' w T cs x) → (∀ t d, (t, d) ∈ it.own → φ' (o + t) = hv t ∧ ∀ b i, i ∈ d → ow b = some i → ow' b = some (o + t)) →
    (∀ n id, (n, id) ∈ it.objs → φ' (ob n) = φ id) → (∀ k ∈ p.refs, ∀ h, φ k = some h → φ' (ob (1000 + k)) = some h) → backH φ' ow' w vs p c g → (p.back o ob c g x).holds φ' ow' w vals ∧ ∀ j ch, (j, ch) ∈ p.heapO o ob c x → cH φ' ow' w j ch

theorem rdOut_ok (H : Hyp hp nx φ ow w) {out : Out} : ∀ (p : APat) (c : Nat) (a : AV) (k : p.ty.den → It → Req) (vals : List Value), (rdOut p c a k).run hp = some out → a.holds φ ow w vals →
    ∃ x it hv, (k x it).run hp = some out ∧ OutOK φ ow w p c vals x it hv := by
  intro p
  induction p with
  | nil =>
    intro c a k vals hr ha
    unfold rdOut at hr
    cases a <;> try (simp [Req.run] at hr; done)
    exact ⟨(), It.nil, fun _ => none, hr, fun p hp => (by cases hp), fun t d h => (by cases h), fun vs o ob g φ' ow' _ _ _ _ _ _ => ⟨ha, fun j ch h => (by cases h)⟩⟩
  | val T r ih =>
    intro c a k vals hr ha
    cases a <;> try (simp [rdOut, Req.run] at hr; done)
    rename_i a b
    simp only [rdOut] at hr
    split at hr <;> try (simp [Req.run] at hr; done)
    rename_i hT
    obtain ⟨v, rest, rfl, h1, h2⟩ := ha
    obtain ⟨x, c', u, cs1, cs2, e1, h3, hr1, hy, hsl⟩ := datOf_ok H T (.cons a .nil) _ [v] out ⟨v, [], rfl, h1, rfl⟩ hr
    cases c' <;> try (simp [Req.run] at hr1; done)
    have h0 : cs2 = [] := h3
    subst h0
    rw [List.append_nil] at e1
    subst e1
    obtain ⟨y, it, hv, hr2, k1, k2, k5⟩ := ih (c + 1) b _ rest hr1 h2
    refine ⟨(x, y), It.app ⟨[], [], u, [], []⟩ it, hv, hr2, SldOK.app hsl k1, fun t d h => ?_, fun vs o ob g φ' ow' g1 g2 g3 g4 gr g5 => ?_⟩
    · have := k2 t d (by simpa [It.app] using h)
      simp only [APat.size]
      exact ⟨by omega, by omega, this.2.2⟩
    · obtain ⟨q1, q2⟩ := k5 vs o ob g.tl φ' ow' g1 (fun T hT cs x h => g2 T (List.mem_cons_of_mem _ hT) cs x (rep_mono (by simp [It.app, ids_app]; intro i hi; simp [hi]) h)) (fun t d h => g3 t d (by simpa [It.app] using h)) (fun n id h => g4 n id (by simpa [It.app] using h)) gr g5
      exact ⟨⟨v, rest, rfl, ⟨rfl, hT, g2 T (.head _) _ _ (rep_mono (by simp [It.app, ids_app]; intro i hi; simp [hi]) hy)⟩, q1⟩, q2⟩
  | lend T r ih =>
    intro c a k vals hr ha
    cases a <;> try (simp [rdOut, Req.run] at hr; done)
    rename_i a b
    cases a <;> try (simp [rdOut, Req.run] at hr; done)
    rename_i u T' x
    simp only [rdOut] at hr
    split at hr <;> try (simp [Req.run] at hr; done)
    rename_i hT
    subst hT
    split at hr <;> try (simp [Req.run] at hr; done)
    rename_i hu
    subst hu
    obtain ⟨v, rest, rfl, h1, h2⟩ := ha
    obtain ⟨v', h0, hu, _, _⟩ := h1
    injection hu with hu
    subst hu
    obtain ⟨y, it, hv, hr2, k1, k2, k5⟩ := ih (u + 1) b _ rest hr h2
    refine ⟨(x, y), it, hv, hr2, k1, fun t d h => ?_, fun vs o ob g φ' ow' g1 g2 g3 g4 gr g5 => ?_⟩
    · have := k2 t d h
      simp only [APat.size]
      exact ⟨by omega, by omega, this.2.2⟩
    · obtain ⟨q1, q2⟩ := k5 vs o ob g.tl φ' ow' (fun t ht => g1 t (List.mem_cons_of_mem _ ht)) g2 g3 g4 gr g5.2
      have hvc : v = vs u := g1 u (.head _) v h0
      exact ⟨⟨v, rest, rfl, by rw [hvc]; exact g5.1, q1⟩, q2⟩
  | own e T r ih =>
    intro c a k vals hr ha
    cases a <;> try (simp [rdOut, Req.run] at hr; done)
    rename_i a b
    simp only [rdOut] at hr
    obtain ⟨v, rest, rfl, h1, h2⟩ := ha
    obtain ⟨l, d, u, xs, hr1, hown, hd, hrow, hsl, hll⟩ := ownOf_ok H hr h1
    obtain ⟨y, it, hv, hr2, k1, k2, k5⟩ := ih (c + 1) b _ rest hr1 h2
    have hsv : ∃ A n c, v = .slice A n c := by
      obtain ⟨A, c, h⟩ := slice_of hown
      exact ⟨_, _, _, h⟩
    refine ⟨(l, y), It.app ⟨[(c, d)], [], u, [], []⟩ it, fun t => if t = c then some v else hv t, hr2, SldOK.app hsl k1, fun t d' h => ?_, fun vs o ob g φ' ow' g1 g2 g3 g4 gr g5 => ?_⟩
    · simp only [It.app, List.mem_append, List.mem_singleton] at h
      simp only [APat.size]
      rcases h with h | h
      · injection h with e1 e2
        subst e1; subst e2
        exact ⟨by omega, by omega, v, by simp⟩
      · have := k2 t d' h
        refine ⟨by omega, by omega, ?_⟩
        rw [if_neg (by omega)]
        exact this.2.2
    · obtain ⟨q1, q2⟩ := k5 vs o ob g.tl φ' ow' g1 (fun T hT cs x h => g2 T (List.mem_cons_of_mem _ hT) cs x (rep_mono (by simp [It.app, ids_app]; intro i hi; simp [hi]) h)) (fun t d h => by
          have h3 := g3 t d (by simp [It.app, h])
          have h4 := (k2 t d h).1
          rw [if_neg (by omega)] at h3
          exact h3) (fun n id h => g4 n id (by simpa [It.app] using h)) gr g5
      obtain ⟨p1, p2⟩ := g3 c d (by simp [It.app])
      rw [if_pos rfl] at p1
      have hrow' : rowH ow' w (o + c) v e T l := by
        refine ⟨xs, hown, fun b hb => ?_, hll, Rows.mono (fun cs x h => g2 T (.head _) cs x (rep_mono (by simp [It.app, ids_app]; intro i hi; simp [hi]) h)) hrow⟩
        obtain ⟨i, hi, hi2⟩ := hd b hb
        exact p2 b i hi hi2
      refine ⟨⟨v, rest, rfl, ?_, q1⟩, fun j ch h => ?_⟩
      · obtain ⟨A, n, c', rfl⟩ := hsv
        exact ⟨A, n, c', p1, rfl⟩
      · rcases List.mem_cons.1 h with h | h
        · injection h with e1 e2
          subst e1; subst e2
          exact ⟨v, p1, hrow'⟩
        · exact q2 j ch h
  | own2 e e' T r ih =>
    intro c a k vals hr ha
    cases a <;> try (simp [rdOut, Req.run] at hr; done)
    rename_i a b
    simp only [rdOut] at hr
    obtain ⟨v, rest, rfl, h1, h2⟩ := ha
    obtain ⟨l, d, hr1, hd, hsv, hch⟩ := own2Of_ok H hr h1
    obtain ⟨y, it, hv, hr2, k1, k2, k5⟩ := ih (c + 1) b _ rest hr1 h2
    refine ⟨(l, y), It.app ⟨[(c, d)], [], [], [], []⟩ it, fun t => if t = c then some v else hv t, hr2, by simpa [It.app] using k1, fun t d' h => ?_, fun vs o ob g φ' ow' g1 g2 g3 g4 gr g5 => ?_⟩
    · simp only [It.app, List.mem_append, List.mem_singleton] at h
      simp only [APat.size]
      rcases h with h | h
      · injection h with e1 e2
        subst e1; subst e2
        exact ⟨by omega, by omega, v, by simp⟩
      · have := k2 t d' h
        refine ⟨by omega, by omega, ?_⟩
        rw [if_neg (by omega)]
        exact this.2.2
    · obtain ⟨q1, q2⟩ := k5 vs o ob g.tl φ' ow' g1 (fun T hT cs x h => g2 T (List.mem_cons_of_mem _ hT) cs x (by simpa [It.app] using h)) (fun t d h => by
          have h3 := g3 t d (by simp [It.app, h])
          have h4 := (k2 t d h).1
          rw [if_neg (by omega)] at h3
          exact h3) (fun n id h => g4 n id (by simpa [It.app] using h)) gr g5
      obtain ⟨p1, p2⟩ := g3 c d (by simp [It.app])
      rw [if_pos rfl] at p1
      have hc2 := hch ow' φ' (o + c) (fun cs x h => g2 T (.head _) cs x (Ty.rep_keep (keep_seal _) h)) p2 p1
      refine ⟨⟨v, rest, rfl, ?_, q1⟩, fun j ch h => ?_⟩
      · obtain ⟨A, n, c', rfl⟩ := hsv
        exact ⟨A, n, c', p1, rfl⟩
      · rcases List.mem_cons.1 h with h | h
        · injection h with e1 e2
          subst e1; subst e2
          exact hc2
        · exact q2 j ch h
  | lendh T r ih =>
    intro c a k vals hr ha
    unfold rdOut at hr
    cases a <;> simp [Req.run] at hr
  | own2h e e' T kk r ih =>
    intro c a k vals hr ha
    cases a <;> try (simp [rdOut, Req.run] at hr; done)
    rename_i a b
    simp only [rdOut] at hr
    obtain ⟨v, rest, rfl, h1, h2⟩ := ha
    obtain ⟨l, ix, d, hr1, hd, hsv, hch⟩ := own2hOf_ok H hr h1
    obtain ⟨y, it, hv, hr2, k1, k2, k5⟩ := ih (c + 1) b _ rest hr1 h2
    refine ⟨(l, ix, y), It.app ⟨[(c, d)], [], [], [], []⟩ it, fun t => if t = c then some v else hv t, hr2, by simpa [It.app] using k1, fun t d' h => ?_, fun vs o ob g φ' ow' g1 g2 g3 g4 gr g5 => ?_⟩
    · simp only [It.app, List.mem_append, List.mem_singleton] at h
      simp only [APat.size]
      rcases h with h | h
      · injection h with e1 e2
        subst e1; subst e2
        exact ⟨by omega, by omega, v, by simp⟩
      · have := k2 t d' h
        refine ⟨by omega, by omega, ?_⟩
        rw [if_neg (by omega)]
        exact this.2.2
    · obtain ⟨q1, q2⟩ := k5 vs o ob g.tl φ' ow' g1 (fun T hT cs x h => g2 T (List.mem_cons_of_mem _ hT) cs x (by simpa [It.app] using h)) (fun t d h => by
          have h3 := g3 t d (by simp [It.app, h])
          have h4 := (k2 t d h).1
          rw [if_neg (by omega)] at h3
          exact h3) (fun n id h => g4 n id (by simpa [It.app] using h)) (fun k hk => gr k (List.mem_cons_of_mem _ hk)) g5
      obtain ⟨p1, p2⟩ := g3 c d (by simp [It.app])
      rw [if_pos rfl] at p1
      have hc2 := hch ow' φ' (o + c) (ob (1000 + kk)) (fun cs x h => g2 T (.head _) cs x (Ty.rep_keep (keep_seal _) h)) p2 (gr kk (.head _)) p1
      refine ⟨⟨v, rest, rfl, ?_, q1⟩, fun j ch h => ?_⟩
      · obtain ⟨A, n, c', rfl⟩ := hsv
        exact ⟨A, n, c', p1, rfl⟩
      · rcases List.mem_cons.1 h with h | h
        · injection h with e1 e2
          subst e1; subst e2
          exact hc2
        · exact q2 j ch h
  | skip r ih =>
    intro c a k vals hr ha
    cases a <;> try (simp [rdOut, Req.run] at hr; done)
    rename_i a b
    cases a <;> try (simp [rdOut, Req.run] at hr; done)
    rename_i u
    simp only [rdOut] at hr
    split at hr <;> try (simp [Req.run] at hr; done)
    rename_i hu
    subst hu
    obtain ⟨v, rest, rfl, h1, h2⟩ := ha
    obtain ⟨v', h0, hu, _⟩ := h1
    injection hu with hu
    subst hu
    obtain ⟨y, it, hv, hr2, k1, k2, k5⟩ := ih (u + 1) b _ rest hr h2
    refine ⟨y, it, hv, hr2, k1, fun t d h => ?_, fun vs o ob g φ' ow' g1 g2 g3 g4 gr g5 => ?_⟩
    · have := k2 t d h
      simp only [APat.size]
      exact ⟨by omega, by omega, this.2.2⟩
    · obtain ⟨q1, q2⟩ := k5 vs o ob g.tl φ' ow' (fun t ht => g1 t (List.mem_cons_of_mem _ ht)) g2 g3 g4 gr g5.2
      have hvc : v = vs u := g1 u (.head _) v h0
      exact ⟨⟨v, rest, rfl, by rw [hvc]; exact g5.1, q1⟩, q2⟩
  | obj n r ih =>
    intro c a k vals hr ha
    cases a <;> try (simp [rdOut, Req.run] at hr; done)
    rename_i a b
    cases a <;> try (simp [rdOut, Req.run] at hr; done)
    rename_i id off
    cases off <;> try (simp [rdOut, Req.run] at hr; done)
    simp only [rdOut] at hr
    obtain ⟨v, rest, rfl, h1, h2⟩ := ha
    obtain ⟨y, it, hv, hr2, k1, k2, k5⟩ := ih (c + 1) b _ rest hr h2
    refine ⟨y, It.app ⟨[], [], [], [(n, id)], []⟩ it, hv, hr2, by simpa [It.app] using k1, fun t d h => ?_, fun vs o ob g φ' ow' g1 g2 g3 g4 gr g5 => ?_⟩
    · have := k2 t d (by simpa [It.app] using h)
      simp only [APat.size]
      exact ⟨by omega, by omega, this.2.2⟩
    · obtain ⟨q1, q2⟩ := k5 vs o ob g.tl φ' ow' g1 (fun T hT cs x h => g2 T hT cs x (by simpa [It.app] using h)) (fun t d h => g3 t d (by simpa [It.app] using h)) (fun n id h => g4 n id (by simp [It.app, h])) gr g5
      refine ⟨⟨v, rest, rfl, ?_, q1⟩, q2⟩
      obtain ⟨b, m1, m2⟩ := h1
      exact ⟨b, by rw [g4 n id (by simp [It.app])]; exact m1, m2⟩
  | clo f q r ihq ihr =>
    intro c a k vals hr ha
    cases a <;> try (simp [rdOut, Req.run] at hr; done)
    rename_i a b
    cases a <;> try (simp [rdOut, Req.run] at hr; done)
    rename_i g caps
    simp only [rdOut] at hr
    split at hr <;> try (simp [Req.run] at hr; done)
    rename_i hg
    subst hg
    obtain ⟨v, rest, rfl, h1, h2⟩ := ha
    obtain ⟨cs, ev, hcs⟩ := h1
    obtain ⟨x, it, hv, hr1, k1, k2, k5⟩ := ihq c caps _ cs.toList hr hcs
    obtain ⟨y, it', hv', hr2, m1, m2, m5⟩ := ihr (c + q.size) b _ rest hr1 h2
    refine ⟨(x, y), It.app it it', fun t => if t < c + q.size then hv t else hv' t, hr2, SldOK.app k1 m1, fun t d h => ?_, fun vs o ob g φ' ow' g1 g2 g3 g4 gr g5 => ?_⟩
    · simp only [It.app, List.mem_append] at h
      simp only [APat.size]
      rcases h with h | h
      · have := k2 t d h
        rw [if_pos (by omega)]
        exact ⟨by omega, by omega, this.2.2⟩
      · have := m2 t d h
        rw [if_neg (by omega)]
        exact ⟨by omega, by omega, this.2.2⟩
    · obtain ⟨q1, q2⟩ := k5 vs o ob .bot φ' ow' (fun t ht => g1 t (by simp [APat.skips, ht])) (fun T hT cs x h => g2 T (by simp [APat.tys, hT]) cs x (Ty.rep_keep (keep_seal_mono (by intro i hi; simp [It.app, ids_app, hi])) h))
        (fun t d h => (by have := g3 t d (by simp [It.app, h]); have h3 := k2 t d h; rw [if_pos (by omega)] at this; exact this)) (fun n id h => g4 n id (by simp [It.app, h])) (fun k hk => gr k (by simp [APat.refs, hk])) (backH_bot q c)
      obtain ⟨q3, q4⟩ := m5 vs o ob g.tl φ' ow' (fun t ht => g1 t (by simp [APat.skips, ht])) (fun T hT cs x h => g2 T (by simp [APat.tys, hT]) cs x (Ty.rep_keep (keep_seal_mono (by intro i hi; simp [It.app, ids_app, hi])) h))
        (fun t d h => (by have := g3 t d (by simp [It.app, h]); have h3 := m2 t d h; rw [if_neg (by omega)] at this; exact this)) (fun n id h => g4 n id (by simp [It.app, h])) (fun k hk => gr k (by simp [APat.refs, hk])) g5
      refine ⟨⟨v, rest, rfl, ⟨cs, ev, q1⟩, q3⟩, fun j ch h => ?_⟩
      simp only [APat.heapO, List.mem_append] at h
      exact h.elim (q2 j ch) (q4 j ch)
  | agg q r ihq ihr =>
    intro c a k vals hr ha
    cases a <;> try (simp [rdOut, Req.run] at hr; done)
    rename_i a b
    cases a <;> try (simp [rdOut, Req.run] at hr; done)
    rename_i l
    simp only [rdOut] at hr
    obtain ⟨v, rest, rfl, h1, h2⟩ := ha
    obtain ⟨cs, ev, hcs⟩ := h1
    obtain ⟨x, it, hv, hr1, k1, k2, k5⟩ := ihq c l _ cs.toList hr hcs
    obtain ⟨y, it', hv', hr2, m1, m2, m5⟩ := ihr (c + q.size) b _ rest hr1 h2
    refine ⟨(x, y), It.app it it', fun t => if t < c + q.size then hv t else hv' t, hr2, SldOK.app k1 m1, fun t d h => ?_, fun vs o ob g φ' ow' g1 g2 g3 g4 gr g5 => ?_⟩
    · simp only [It.app, List.mem_append] at h
      simp only [APat.size]
      rcases h with h | h
      · have := k2 t d h
        rw [if_pos (by omega)]
        exact ⟨by omega, by omega, this.2.2⟩
      · have := m2 t d h
        rw [if_neg (by omega)]
        exact ⟨by omega, by omega, this.2.2⟩
    · obtain ⟨q1, q2⟩ := k5 vs o ob .bot φ' ow' (fun t ht => g1 t (by simp [APat.skips, ht])) (fun T hT cs x h => g2 T (by simp [APat.tys, hT]) cs x (Ty.rep_keep (keep_seal_mono (by intro i hi; simp [It.app, ids_app, hi])) h))
        (fun t d h => (by have := g3 t d (by simp [It.app, h]); have h3 := k2 t d h; rw [if_pos (by omega)] at this; exact this)) (fun n id h => g4 n id (by simp [It.app, h])) (fun k hk => gr k (by simp [APat.refs, hk])) (backH_bot q c)
      obtain ⟨q3, q4⟩ := m5 vs o ob g.tl φ' ow' (fun t ht => g1 t (by simp [APat.skips, ht])) (fun T hT cs x h => g2 T (by simp [APat.tys, hT]) cs x (Ty.rep_keep (keep_seal_mono (by intro i hi; simp [It.app, ids_app, hi])) h))
        (fun t d h => (by have := g3 t d (by simp [It.app, h]); have h3 := m2 t d h; rw [if_neg (by omega)] at this; exact this)) (fun n id h => g4 n id (by simp [It.app, h])) (fun k hk => gr k (by simp [APat.refs, hk])) g5
      refine ⟨⟨v, rest, rfl, ⟨cs, ev, q1⟩, q3⟩, fun j ch h => ?_⟩
      simp only [APat.heapO, List.mem_append] at h
      exact h.elim (q2 j ch) (q4 j ch)
  | ownk kd r ih =>
    intro c a k vals hr ha
    cases a <;> try (simp [rdOut, Req.run] at hr; done)
    rename_i a b
    simp only [rdOut] at hr
    obtain ⟨v, rest, rfl, h1, h2⟩ := ha
    obtain ⟨l, d, hr1, hch⟩ := ownkOf_ok H hr h1
    obtain ⟨y, it, hv, hr2, k1, k2, k5⟩ := ih (c + 1) b _ rest hr1 h2
    refine ⟨(l, y), It.app ⟨[(c, d)], [], [], [], []⟩ it, fun t => if t = c then some v else hv t, hr2, by simpa [It.app] using k1, fun t d' h => ?_, fun vs o ob g φ' ow' g1 g2 g3 g4 gr g5 => ?_⟩
    · simp only [It.app, List.mem_append, List.mem_singleton] at h
      simp only [APat.size]
      rcases h with h | h
      · injection h with e1 e2
        subst e1; subst e2
        exact ⟨by omega, by omega, v, by simp⟩
      · have := k2 t d' h
        refine ⟨by omega, by omega, ?_⟩
        rw [if_neg (by omega)]
        exact this.2.2
    · obtain ⟨q1, q2⟩ := k5 vs o ob g.tl φ' ow' g1 (fun T hT cs x h => g2 T (List.mem_append_right _ hT) cs x (by simpa [It.app] using h)) (fun t d h => by
          have h3 := g3 t d (by simp [It.app, h])
          have h4 := (k2 t d h).1
          rw [if_neg (by omega)] at h3
          exact h3) (fun n id h => g4 n id (by simpa [It.app] using h)) gr g5
      obtain ⟨p1, p2⟩ := g3 c d (by simp [It.app])
      rw [if_pos rfl] at p1
      obtain ⟨hc1, hc2⟩ := hch ow' φ' (o + c) (fun T hT cs x h => g2 T (List.mem_append_left _ hT) cs x (Ty.rep_keep (keep_seal _) h)) p2 p1
      refine ⟨⟨v, rest, rfl, hc1, q1⟩, fun j ch h => ?_⟩
      rcases List.mem_cons.1 h with h | h
      · injection h with e1 e2
        subst e1; subst e2
        exact hc2
      · exact q2 j ch h

end
end GoSx
end
