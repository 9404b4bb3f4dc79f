/- The texts SzT, SzU, Sy10, SzV, SzW, SzL, Sy5, Sy6, SzM, one behind the other. -/
import Derived.Test.YthbgfkccfpihgaaGreatDoorGA3
import Derived.Shelf.Small.Wraps
import Derived.Shelf.Strconv.Itoa3
import Derived.Shelf.Strings.Split
import Derived.Shelf.Strings.OnBuilder
import Derived.Shelf.Strings.IndexAnyAll
import Derived.Shelf.Strings.Prefix
import Derived.Shelf.Strconv.Atoi
import Derived.Lib.AtoiErrMem
import Derived.Test.YthbgfkccfpihgaaGreatDoorProg
import Derived.ProofKit
import Derived.SizedLaws
import Derived.HandedShaped
import Derived.ChangeCalls
import Derived.LaidLaws
import Derived.Lay
import Derived.Shelf.Vars
set_option linter.unusedVariables false
set_option linter.unusedSimpArgs false
section
set_option linter.unusedVariables false
set_option linter.unusedSimpArgs false
namespace AL
open Go
section
variable {C : Cfg} {φ0 : Hnd} {ow0 : Own} {w0 : World}
theorem ADj (hS : ∀ f, AT C.P f (C.S f)) (hm : C.P.follows .mixedOrders = true) {f : Nat} {st : St} {a : Act} {w : World} (hs : BN [] φ0 ow0 w0 st a w) {g : Operand} {gf : FuncId} {caps : AV} (hg : Ah st.env g = .fn gf caps) {fn : Func} (hf : C.P.funcs[gf]? = some fn) {cg : Code} (hb : fn.body = some cg)
  (hres : fn.results.toList = []) (hlen : caps.len + 1 <= fn.ntmps) (hlist : caps.Bb = true) (hname : (fn.name == "runtime.NumGoroutine") = false) {ps : Array Tmp} {assign body : Code} {K : Exit -> St -> Bool -> Prop}
  (hv : vcY C ⟨ps, assign, body, st.env, st.n, st.next⟩ f cg { env := Gd (.cons (.opq st.next) caps), heap := st.heap, next := st.next + 64, n := fn.ntmps } Option.none fun e st' j => match e with
        | .normal => bif h0 st' then K (j.elim .normal Jmp.ex) { st with heap := st'.heap, next := st'.next } true else Av 76
        | .ret => bif h0 st' then K (j.elim .normal Jmp.ex) { st with heap := st'.heap, next := st'.next } true else Av 76
        | _ => Av 71)
  {Q : Exit -> Act -> World -> Prop} (hQ : ∀ e st', K e st' true -> ∀ ow1 w1 D, Mid φ0 ow0 w0 ow1 w1 D -> BN [Bq D] φ0 ow1 w1 st' { a with defers := [Bq D] } w1 -> Q e { a with defers := [Bq D] } w1) :
  (Code.rangeFunc g ps assign body).wpIn (rnd Option.none) 0 C.P Q a w := by
 obtain ⟨φ, ow, hc, hfr⟩ := Cz.1 hs
 have hfn := Bd hc.env g
 rw [hg] at hfn
 obtain ⟨lb, hvv, hcaps⟩ := hfn
 have hev : a.eval g = .func (.func gf) #[] lb := by
  injection hvv
 refine wpIn_rangeFunc fun fn' _ => ?_
 generalize hW : (w.alloc (.deferred (some []))).alloc (.loop (Gf ⟨ps, assign, body, st.env, st.n, st.next⟩ fn' a.tmps w.heap.size Option.none)) = W1
 have hsz : W1.heap.size = w.heap.size + 2 := by rw [<- hW]; simp
 have hold : ∀ b, b < w.heap.size -> W1.heap[b]? = w.heap[b]? := by
  intro b hb
  rw [<- hW]
  simp only [World.alloc]
  rw [Array.getElem?_push, Array.getElem?_push, if_neg (by simp; omega), if_neg (by omega)]
 have hD1 : W1.heap[w.heap.size]? = some (.deferred (some [])) := by
  rw [<- hW]
  simp only [World.alloc]
  rw [Array.getElem?_push, if_neg (by simp), Array.getElem?_push, if_pos rfl]
 have hL1 : W1.heap[w.heap.size + 1]? = some (.loop (Gf ⟨ps, assign, body, st.env, st.n, st.next⟩ fn' a.tmps w.heap.size Option.none)) := by
  rw [<- hW]
  simp only [World.alloc]
  rw [Array.getElem?_push, if_pos (by simp)]
 have hwos : W1.os = w.os /\ W1.tape = w.tape /\ W1.output = w.output := by rw [<- hW]; exact ⟨rfl, rfl, rfl⟩
 let yv : Value := .func (.yield (w.heap.size + 1)) #[] #[]
 let ow1 : Own := fun b => if b = w.heap.size \/ b = w.heap.size + 1 then some 0 else ow b
 have how : ∀ b, b < w.heap.size -> ow1 b = ow b := fun b hb => if_neg (by omega)
 have H0 : Hyp st.heap st.next φ ow w := ⟨hc.heap, fun id h _ => hc.fresh id h, fun b id h => ⟨(hc.own b id h).1, .inl (hc.own b id h).2⟩⟩
 have hk : A8 ow w ow1 W1 := ⟨by omega, fun b hb h => ⟨(how b hb).trans h, hold b hb⟩⟩
 have hle := BI H0 yv
 have oL1 : ow1 (w.heap.size + 1) = some 0 := if_pos (.inr rfl)
 have oD1 : ow1 w.heap.size = some 0 := if_pos (.inl rfl)
 have hY : VA ⟨ps, assign, body, st.env, st.n, st.next⟩ fn' a.tmps w.heap.size (BG φ st.next yv) ow1 W1 { env := Gd (.cons (.opq st.next) caps), heap := st.heap, next := st.next + 64, n := fn.ntmps } Option.none
   { tmps := (#[yv] ++ lb) ++ Array.replicate (fn.ntmps - (#[yv] ++ lb).size) undef, defers := [] } W1 := by
  have hlb := FV hlist hcaps
  have hav : (AV.cons (.opq st.next) caps).holds (BG φ st.next yv) ow1 W1 (#[yv] ++ lb).toList := by
   refine ⟨yv, lb.toList, by simp, ⟨yv, AP _, rfl, rfl⟩, AV.Ab hle hk hcaps⟩
  refine ⟨BG φ st.next yv, ow1, ⟨?_, rfl, fun t => ?_, ?_, ?_, ?_, ?_⟩, ⟨AP _, oL1, oD1, hL1, hD1, fun t => AV.Ab hle hk (hc.env t), hc.n⟩, ⟨Nat.le_refl _, rfl, rfl, rfl, fun _ _ _ _ => ⟨rfl, rfl⟩, fun b hb => ⟨?_, hb⟩, Aw.refl _⟩⟩
  ·simp only [Array.size_append, Array.size_replicate]
   have : lb.toList.length = lb.size := by simp
   simp
   omega
  ·have := HE t hav
   have e : ∀ (vals : Array Value) (n : Nat), (vals ++ Array.replicate (n - vals.size) undef).getD t undef = vals.toList.getD t undef := by
    intro vals n
    simp only [Array.getD_eq_getD_getElem?, List.getD_eq_getElem?_getD, Array.getElem?_toList]
    rcases Nat.lt_or_ge t vals.size with h | h
    ·rw [Array.getElem?_append_left h]
    ·rw [Array.getElem?_append_right h, Array.getElem?_eq_none h, Array.getElem?_replicate]
     split <;> rfl
   show (Gd (.cons (.opq st.next) caps) t).holds (BG φ st.next yv) ow1 W1 [((#[yv] ++ lb) ++ Array.replicate (fn.ntmps - (#[yv] ++ lb).size) undef).getD t undef]
   rw [e]; exact this
  ·exact fun id => Cp hle hk (fun b hb ho => ⟨(how b hb).trans ho, hold b hb⟩) (hc.heap id)
  ·intro id hid
   have hid : st.next + 64 <= id := hid
   unfold BG
   rw [if_neg (by omega)]
   exact hc.fresh id (by omega)
  ·intro b id h
   simp only [ow1] at h
   split at h
   ·rename_i hb
    injection h with h
    exact ⟨by omega, by show id < st.next + 64; omega⟩
   ·exact ⟨by have := (hc.own b id h).1; omega, by show id < st.next + 64; have := (hc.own b id h).2; omega⟩
  ·show 0 < st.next + 64
   omega
  ·simp only [ow1] at hb
   split at hb
   ·omega
   ·have := (hc.own b 0 hb).1; omega
 have ecall := B1 (P := C.P) hf (by rw [hb]; rfl) hname
 refine ⟨w.heap.size + 1, [Bq w.heap.size], W1, { target := .fn (.func gf) lb, args := #[yv] }, W1, gf, #[yv] ++ lb, W1, ?_, ?_, fun _ _ => trivial, ?_, Kt _, ?_⟩
 ·rw [<- hW]; exact run_enterLoop_outer fn' a.tmps ps assign body
 ·simp only [resolve, hev]
  simp [go_sem, yv]
 ·simp only [invoke]
  exact ecall _ _
 refine callsIn_of_wp hf hb trivial ?_
 refine AJk hS hm f cg hv hY ?_
 intro e st' j hk' a3 w3 hs3
 obtain ⟨φ3, ow3, hc3, hr3, hf3⟩ := hs3
 have fin : (bif h0 st' then K (j.elim .normal Jmp.ex) { st with heap := st'.heap, next := st'.next } true else Av 76) -> a3.defers = [] /\ ∃ v, (results fn a3.tmps).run C.P w3 = .ok v w3 /\ rangePost (rnd Option.none) 0 C.P (w.heap.size + 1) Q { a with defers := [Bq w.heap.size] ++ a.defers } (.returned v) w3 := by
  intro hk2
  cases hz : h0 st' with
  | false => rw [hz] at hk2; cases hk2
  | true =>
  rw [hz, cond_true] at hk2
  refine ⟨hc3.dfr, .tuple #[], ?_, ?_⟩
  ·have hres' : fn.results = #[] := by rw [<- Array.toArray_toList (xs := fn.results), hres]
   simp [results, hres']
  have hdf : ({ a with defers := [Bq w.heap.size] ++ a.defers } : Act) = { a with defers := [Bq w.heap.size] } := by rw [hc.dfr]; rfl
  rw [hdf]
  let ex : Loop := { Gf ⟨ps, assign, body, st.env, st.n, st.next⟩ fn' a.tmps w.heap.size j with state := .exhausted }
  have hend := run_endLoop (P := C.P) hr3.rc (by cases j <;> simp [Gf])
  have hc4 := hc3.put (o := .loop ex) hr3.oL hz
  have kAll : A8 ow w ow3 (w3.putObj (w.heap.size + 1) (.loop ex)) := (hk.trans (hf3.keep oL1)).trans (HJ hr3.oL)
  have pAll : Aw φ φ3 := hle.trans hf3.phi
  have hmid : Mid φ0 ow0 w0 ow3 (w3.putObj (w.heap.size + 1) (.loop ex)) w.heap.size := by
   refine ⟨?_, hf3.os.trans (hwos.1.trans hfr.os), hf3.tape.trans (hwos.2.1.trans hfr.tape), hf3.output.trans (hwos.2.2.trans hfr.output), ?_, ?_, hfr.size, hr3.oD, hr3.oL, ?_, ?_⟩
   ·have := hfr.size; have := hf3.size; simp; omega
   ·intro b hb hbo
    have hbw := Nat.lt_of_lt_of_le hb hfr.size
    obtain ⟨q1, q2⟩ := hfr.blk b hb hbo
    obtain ⟨q3, q4⟩ := hf3.blk b (by omega) (by omega) (by rw [how b hbw, q1]; exact hbo)
    refine ⟨(q3.trans (how b hbw)).trans q1, ?_⟩
    rw [World.putObj_heap_other (by omega)]
    exact q4.trans ((hold b hbw).trans q2)
   ·intro b hb
    obtain ⟨_, q⟩ := hf3.frn b hb
    simp only [ow1] at q
    split at q
    ·rename_i hx; exact hx.elim .inl (fun h => .inr (.inl h))
    ·exact .inr (.inr (hfr.frn b q))
   ·simp
    have := hf3.size
    omega
   ·rw [World.putObj_heap_other (by omega)]
    exact hr3.dfr
  have hsat : BN [Bq w.heap.size] φ0 ow3 (w3.putObj (w.heap.size + 1) (.loop ex)) { st with heap := st'.heap, next := st'.next } { a with defers := [Bq w.heap.size] } (w3.putObj (w.heap.size + 1) (.loop ex)) := by
   refine Cz.2 ⟨φ3, ow3, ⟨hc.n, rfl, fun t => AV.Ab pAll kAll (hc.env t), hc4.heap, hc4.fresh, hc4.own, hc4.pos⟩, ⟨Nat.le_refl _, rfl, rfl, rfl, fun _ _ _ => ⟨rfl, rfl⟩, fun b hb => ⟨(hc4.own b 0 hb).1, hb⟩, hfr.phi.trans pAll⟩⟩
  have hq := hQ _ _ hk2 _ _ _ hmid hsat
  refine ⟨_, _, hend, ?_⟩
  cases j with
  | none => exact hq
  | some j =>
   cases j with
   | ret => exact wpIn_ret hq
   | exit id => exact wpIn_exit hq
 cases e with
 | normal => exact fin hk'
 | ret => exact fin hk'
 | exit => cases hk'
 | goto => cases hk'
 | panic => cases hk'
 | outgrown => cases hk'
def ABN (φ0 : Hnd) (ow0 : Own) (w0 : World) (m : Bool) (st : St) (a : Act) (w : World) : Prop :=
 match m with
 | false => BN [] φ0 ow0 w0 st a w
 | true => ∃ ow1 w1 D, Mid φ0 ow0 w0 ow1 w1 D /\ BN [Bq D] φ0 ow1 w1 st a w
theorem VB (hS : ∀ f, AT C.P f (C.S f)) (hm : C.P.follows .mixedOrders = true) {m : Bool} {id : Nat} {ops : Array Oper} {draw : Bool} {st : St} {K : St -> Prop} (h : Cw C ops draw st K) {a : Act} {w : World} (hsat : ABN φ0 ow0 w0 m st a w) {Q : Exit -> Act -> World -> Prop}
  (hK : ∀ st', K st' -> ∀ a' w', ABN φ0 ow0 w0 m st' a' w' -> Q .normal a' w') : (Code.region id ops draw).wpIn (rnd Option.none) 0 C.P Q a w := by
 cases m with
 | false => exact Eo hS hm h hsat hK
 | true =>
  obtain ⟨ow1, w1, D, hmid, hs⟩ := hsat
  exact Eo hS hm h hs fun st' h' a' w' hs' => hK st' h' a' w' ⟨ow1, w1, D, hmid, hs'⟩
theorem ABO {m : Bool} {st : St} {a : Act} {w : World} (h : ABN φ0 ow0 w0 m st a w) (x : Operand) : ∃ φ ow, (Ah st.env x).holds φ ow w [a.eval x] := by
 cases m with
 | false => obtain ⟨φ, ow, hc, _⟩ := Cz.1 h; exact ⟨φ, ow, Bd hc.env x⟩
 | true => obtain ⟨_, _, _, _, h⟩ := h; obtain ⟨φ, ow, hc, _⟩ := Cz.1 h; exact ⟨φ, ow, Bd hc.env x⟩
theorem AJl (hS : ∀ f, AT C.P f (C.S f)) (hm : C.P.follows .mixedOrders = true) : ∀ (f : Nat) (c : Code) {st : St} {m : Bool} {K : Exit -> St -> Bool -> Prop}, vcT C f c st m K ->
  ∀ {Q : Exit -> Act -> World -> Prop} {a : Act} {w : World}, ABN φ0 ow0 w0 m st a w -> (∀ e st' m', K e st' m' -> ∀ a' w', ABN φ0 ow0 w0 m' st' a' w' -> Q e a' w') -> c.wpIn (rnd Option.none) 0 C.P Q a w := by
 intro f
 induction f using Nat.strongRecOn with
 | _ f0 ih =>
 intro c st m K h Q a w hs hK
 cases f0 with
 | zero => cases h
 | succ f =>
 have ihf := ih f (Nat.lt_succ_self f)
 cases c with
 | skip => exact wpIn_skip (hK _ _ _ h _ _ hs)
 | label l => exact wpIn_label (hK _ _ _ h _ _ hs)
 | region id ops draw =>
  simp only [vcT] at h
  exact VB hS hm h hs fun st' h' a' w' hs' => hK _ _ _ h' _ _ hs'
 | seq x y =>
  refine wpIn_seq (ihf x h hs fun e st' m' h' a' w' hs' => ?_)
  cases e with
  | normal => exact ihf y h' hs' hK
  | exit => exact hK _ _ _ h' _ _ hs'
  | goto => exact hK _ _ _ h' _ _ hs'
  | ret => exact hK _ _ _ h' _ _ hs'
  | panic => exact hK _ _ _ h' _ _ hs'
  | outgrown => exact hK _ _ _ h' _ _ hs'
 | cond c x y =>
  simp only [vcT] at h
  obtain ⟨φ, ow, hev⟩ := ABO hs c
  split at h
  ·rename_i v hv
   rw [hv] at hev
   have hb := BL hev
   cases v with
   | true =>
    simp only [brB, cond_true] at h
    exact wpIn_cond hb (ihf x h hs hK)
   | false =>
    simp only [brB, cond_false] at h
    exact wpIn_cond hb (ihf y h hs hK)
  ·cases h
 | block id x =>
  refine wpIn_block (ihf x h hs fun e st' m' h' a' w' hs' => ?_)
  cases e with
  | exit id' =>
   cases hz : Nat.beq id' id with
   | true =>
    simp only [hz, cond_true] at h'
    simp only [Exit.inBlock, Nat.eq_of_beq_eq_true hz, if_true]
    exact hK _ _ _ h' _ _ hs'
   | false =>
    simp only [hz, cond_false] at h'
    simp only [Exit.inBlock]
    rw [if_neg (fun e => by rw [e, Nat.beq_refl] at hz; cases hz)]
    exact hK _ _ _ h' _ _ hs'
  | normal => exact hK _ _ _ h' _ _ hs'
  | goto => exact hK _ _ _ h' _ _ hs'
  | ret => exact hK _ _ _ h' _ _ hs'
  | panic => exact hK _ _ _ h' _ _ hs'
  | outgrown => exact hK _ _ _ h' _ _ hs'
 | scope x =>
  refine EI (ihf x h hs fun e st' m' h' a' w' hs' => ?_)
  cases e with
  | goto => cases h'
  | normal => exact hK _ _ _ h' _ _ hs'
  | exit => exact hK _ _ _ h' _ _ hs'
  | ret => exact hK _ _ _ h' _ _ hs'
  | panic => exact hK _ _ _ h' _ _ hs'
  | outgrown => exact hK _ _ _ h' _ _ hs'
 | exit id => exact wpIn_exit (hK _ _ _ h _ _ hs)
 | ret => exact wpIn_ret (hK _ _ _ h _ _ hs)
 | loop x =>
  refine wpIn_loop_ghost (fun n a w => n <= f + 1 /\ ∃ st m, vcT C n (.loop x) st m K /\ ABN φ0 ow0 w0 m st a w) (f + 1) ⟨Nat.le_refl _, st, m, h, hs⟩ ?_
  rintro n a' w' ⟨hn, st1, m1, h1, hs1⟩
  cases n with
  | zero => cases h1
  | succ n =>
  refine ih n (by omega) x h1 hs1 fun e st' m' h' a2 w2 hs2 => ?_
  cases e with
  | normal => exact ⟨n, Nat.lt_succ_self n, by omega, st', m', h', hs2⟩
  | exit => exact hK _ _ _ h' _ _ hs2
  | goto => exact hK _ _ _ h' _ _ hs2
  | ret => exact hK _ _ _ h' _ _ hs2
  | panic => exact hK _ _ _ h' _ _ hs2
  | outgrown => exact hK _ _ _ h' _ _ hs2
 | rangeFunc g ps assign body =>
  simp only [vcT] at h
  split at h <;> try (cases h; done)
  rename_i gf caps hg
  split at h <;> try (cases h; done)
  rename_i fn hf
  split at h <;> try (cases h; done)
  rename_i cg hb hres
  cases hcnd : Nat.ble (caps.len + 1) fn.ntmps && caps.Bb && !(fn.name == "runtime.NumGoroutine") with
  | false => rw [hcnd] at h; cases h
  | true =>
  rw [hcnd, cond_true] at h
  simp only [Bool.and_eq_true, Bool.not_eq_true'] at hcnd
  obtain ⟨⟨c1, c2⟩, c3⟩ := hcnd
  exact ADj hS hm hs hg hf hb hres (Nat.le_of_ble_eq_true c1) c2 c3 h fun e st' h' ow1 w1 D hmid hs' => hK e st' true h' _ _ ⟨ow1, w1, D, hmid, hs'⟩
 | _ => cases h
end
theorem R8 {C : DV} {S : AG} {f : FuncId} {fn : Func} {m : S.args.ty.den -> (AY S.Aa).den -> Option S.oty.den} (hS : ∀ g, AT C.P g (C.S g)) (hm : C.P.follows .mixedOrders = true) (hf : C.P.funcs[f]? = some fn)
  (hcall : ∀ vs w, (callFunc f vs).run C.P w = .ok (.enter f vs) w) (hn : S.args.count <= fn.ntmps) (N : Nat)
  (hvc : ∀ xa xo y, m xa xo = some y -> ∃ c, fn.body = some c /\ vcT (DV.cfg C) N c (S.init xa xo fn.ntmps) false fun e st mk => bif mk then (S.MB C.P fn S.oty.den (fun y => y) e st Az.no).run = some y else Av 80) : AT C.P f (S.AF m) := by
 refine Js hcall hn ?_
 intro xa xo y hmy φb owb vs w hbase hsat G hG R hGR
 obtain ⟨c, hbody, hv⟩ := hvc xa xo y hmy
 refine IN hf hbody ?_
 refine (wpIn_wide (n := 0)).1 (AJl (C := DV.cfg C) hS hm N c hv (m := false) hsat ?_)
 intro e st' mk hk a' w' hs'
 cases mk with
 | false => cases hk
 | true =>
 rw [cond_true] at hk
 obtain ⟨ow1, w1, D, hmid, hs1⟩ := hs'
 obtain ⟨h00, he, l, o, y2, hz, hret, hp, hd⟩ := LA hk
 have hz : y = y2 := hz
 subst hz
 obtain ⟨hobj, hs2⟩ := U8 hmid hs1 h00
 have hg := hG st' l o _ _ hs2 hret hp hd
 obtain ⟨_, v, hv, hr⟩ := hGR _ _ hg
 obtain ⟨_, _, _, hdf, _⟩ := hs1
 exact ⟨he.symm.elim (fun h => .inr h) (fun h => .inl h), D, hdf, hobj, v, hv, hr⟩
end AL
end
section
set_option linter.unusedVariables false
namespace AL
open Go
def ADk (g : FuncId) : AV -> Bool
 | .cons _ (.cons (.bfn _ f) _) => Nat.beq f g
 | _ => false
def AHS (g : FuncId) (A B : Bo) : Bo := fun av nx => bif ADk g av then A av nx else B av nx
theorem Z5 {P : Program} {f g : FuncId} {A B : Bo} (hA : AT P f A) (hB : AT P f B) : AT P f (AHS g A B) := by
 intro av nx hp out φ ow w vs H hav hr hobl
 unfold AHS at hr
 cases h : ADk g av with
 | true => rw [h] at hr; exact hA av nx hp out φ ow w vs H hav hr hobl
 | false => rw [h] at hr; exact hB av nx hp out φ ow w vs H hav hr hobl
def Mh {R : Type} (k : Int) : List (Int × Option R) -> Option R
 | [] => none
 | (i, x) :: r => bif k == i then x else Mh k r
theorem Jt {R : Type} {k : Int} {y : R} {p : Prop} (h : Mh k ([] : List (Int × Option R)) = some y) : p := by cases h
theorem At {R : Type} {k i : Int} {x : Option R} {l : List (Int × Option R)} {y : R} {p : Prop} (h : Mh k ((i, x) :: l) = some y) (h1 : k = i -> x = some y -> p) (h2 : Mh k l = some y -> p) : p := by
 unfold Mh at h
 cases e : k == i with
 | true =>
  rw [e] at h
  exact h1 (by simpa using e) h
 | false =>
  rw [e] at h
  exact h2 h
end AL
end
section
set_option linter.unusedVariables false
set_option linter.unusedSimpArgs false
namespace AL
open Go Go.Proofs
theorem I4 {hp : Nat -> Chunk} {nx : Nat} {φ : Hnd} {ow : Own} {w w' : World} (H : Hyp hp nx φ ow w) (hb : Go.RowKit.Below w.heap.size w w') {out : Out} (hu : out.upd = []) {v : Value} (hr : ∀ ow' w', out.res.holds φ ow' w' [v]) : Au out nx φ ow w v w' := by
 refine ⟨φ, fun b => if b < w.heap.size then ow b else none, ?_, hr _ _, by rw [hu]; intro p hp; cases hp⟩
 rw [hu]
 refine ⟨hb.size, hb.os, hb.tape, hb.output, fun b hb1 _ => ⟨if_pos hb1, hb.block b hb1⟩, fun b id h => ?_, Aw.refl _, fun _ _ => rfl⟩
 split at h
 ·rename_i hlt
  exact ⟨Nat.lt_of_lt_of_le hlt hb.size, .inr ⟨hlt, h⟩⟩
 ·cases h
theorem HK {φ : Hnd} {ow : Own} {w : World} {s p : ByteArray} {vs : Array Value} (h : (AV.cons (.dat .str s) (.cons (.dat .str p) .nil)).holds φ ow w vs.toList) : vs = #[.string s, .string p] /\ s.size <= lim /\ p.size <= lim := by
 obtain ⟨v0, r0, e0, ⟨_, _, h0⟩, v1, r1, e1, ⟨_, _, h1⟩, e2⟩ := h
 obtain ⟨h01, h02⟩ := h0
 obtain ⟨h11, h12⟩ := h1
 injection h01 with h01
 injection h11 with h11
 have e2' : r1 = [] := e2
 subst e2'; subst e1; subst h01; subst h11
 exact ⟨by rw [<- Array.toArray_toList (xs := vs), e0], h02, h12⟩
def LB (s p : ByteArray) : ByteArray := ⟨(Go.Lib.trimPrefix s.data.toList p.data.toList).toArray⟩
def XX (s p : ByteArray) : Bool := Go.Lib.hasPrefix s.data.toList p.data.toList
def I5 : Bo := fun av _ => match av with
 | .cons (.dat .str s) (.cons (.dat .str p) .nil) => .ret (.tup (.cons (.dat .str (LB s p)) (.cons (.dat .bool (XX s p)) .nil)))
 | _ => .fail
theorem ABP (s p : ByteArray) : (LB s p).size <= s.size := by
 have : (LB s p).size = (Go.Lib.trimPrefix s.data.toList p.data.toList).length := by simp [LB, ByteArray.size]
 rw [this]
 unfold Go.Lib.trimPrefix
 have e : s.data.toList.length = s.size := Array.length_toList
 split
 ·rw [List.length_drop]; omega
 ·omega
theorem Pk {P : Program} {ρ : Go.Shelf.Ren} {f : FuncId} (L : Lays.n103 P ρ) (hf : ρ.f 103 = f) (hcall : ∀ vs w, (callFunc f vs).run P w = .ok (.enter f vs) w) : AT P f I5 := by
 intro av nx hp out φ ow w vs H hav hr hobl
 refine ⟨hcall vs w, ?_⟩
 unfold I5 at hr
 split at hr <;> try (simp [Req.run] at hr; done)
 rename_i s p
 simp only [Req.ret, Req.run, Option.some.injEq] at hr
 subst hr
 obtain ⟨rfl, hs, hp'⟩ := HK hav
 subst hf
 refine Calls.mono (Any.strings_CutPrefix L s p w) ?_
 rintro e w' ⟨rfl, rfl⟩
 exact ⟨_, rfl, Au.pure H rfl ⟨_, rfl, _, _, rfl, ⟨rfl, rfl, rfl, Nat.le_trans (ABP s p) hs⟩, _, _, rfl, ⟨rfl, rfl, rfl⟩, rfl⟩⟩
def I6 : Bo := fun av _ => match av with
 | .cons (.dat .str s) (.cons (.dat .str p) .nil) => .ret (.dat .bool (Go.Lib.hasSuffix s.data.toList p.data.toList))
 | _ => .fail
theorem Pl {P : Program} {ρ : Go.Shelf.Ren} {f : FuncId} (L : Lays.n100 P ρ) (hf : ρ.f 100 = f) (hcall : ∀ vs w, (callFunc f vs).run P w = .ok (.enter f vs) w) : AT P f I6 := by
 intro av nx hp out φ ow w vs H hav hr hobl
 refine ⟨hcall vs w, ?_⟩
 unfold I6 at hr
 split at hr <;> try (simp [Req.run] at hr; done)
 rename_i s p
 simp only [Req.ret, Req.run, Option.some.injEq] at hr
 subst hr
 obtain ⟨rfl, hs, hp'⟩ := HK hav
 subst hf
 have hs' : s.size <= 140737488355328 := hs
 refine Calls.mono (Any.strings_HasSuffix L s p w (by omega)) ?_
 rintro e w' ⟨rfl, rfl⟩
 exact ⟨_, rfl, Au.pure H rfl ⟨rfl, rfl, rfl⟩⟩
def Qs (s p : ByteArray) : ByteArray := ⟨(Go.Lib.trimSuffix s.data.toList p.data.toList).toArray⟩
def HL : Bo := fun av _ => match av with
 | .cons (.dat .str s) (.cons (.dat .str p) .nil) => .ret (.dat .str (Qs s p))
 | _ => .fail
theorem XY (s p : ByteArray) : (Qs s p).size <= s.size := by
 have : (Qs s p).size = (Go.Lib.trimSuffix s.data.toList p.data.toList).length := by simp [Qs, ByteArray.size]
 rw [this]
 unfold Go.Lib.trimSuffix
 have e : s.data.toList.length = s.size := Array.length_toList
 split
 ·rw [List.length_take]; omega
 ·omega
theorem N1 {P : Program} {ρ : Go.Shelf.Ren} {f : FuncId} (L : Lays.n102 P ρ) (hf : ρ.f 102 = f) (hcall : ∀ vs w, (callFunc f vs).run P w = .ok (.enter f vs) w) : AT P f HL := by
 intro av nx hp out φ ow w vs H hav hr hobl
 refine ⟨hcall vs w, ?_⟩
 unfold HL at hr
 split at hr <;> try (simp [Req.run] at hr; done)
 rename_i s p
 simp only [Req.ret, Req.run, Option.some.injEq] at hr
 subst hr
 obtain ⟨rfl, hs, hp'⟩ := HK hav
 subst hf
 have hs' : s.size <= 140737488355328 := hs
 refine Calls.mono (Any.strings_TrimSuffix L s p w (by omega)) ?_
 rintro e w' ⟨rfl, rfl⟩
 exact ⟨_, rfl, Au.pure H rfl ⟨rfl, rfl, rfl, Nat.le_trans (XY s p) hs⟩⟩
def DY (n : Int) : ByteArray := ⟨if n.toNat < 10 then #[UInt8.ofNat (48 + n.toNat)] else #[UInt8.ofNat (48 + n.toNat / 10), UInt8.ofNat (48 + n.toNat % 10)]⟩
theorem ADl {i : Nat} (hi : i < 100) : (⟨(Go.Lib.decDigits i).toArray⟩ : ByteArray) = DY (i : Int) := by
 unfold DY
 rw [Go.Lib.decDigits]
 simp only [Int.toNat_natCast]
 by_cases h : i < 10
 ·rw [dif_pos h, if_pos h]
 ·rw [dif_neg h, if_neg h, Go.Lib.decDigits, dif_pos (by omega)]
  rfl
def ADm : Bo := fun av _ => match av with
 | .cons (.dat (.int .i64) n) .nil => .out ⟨[0 <= n, n < 100], .dat .str (DY n), []⟩
 | _ => .fail
theorem ADn {P : Program} {ρ : Go.Shelf.Ren} {f : FuncId} (L : Lays.n171 P ρ) (hf : ρ.f 171 = f) (hcall : ∀ vs w, (callFunc f vs).run P w = .ok (.enter f vs) w) : AT P f ADm := by
 intro av nx hp out φ ow w vs H hav hr hobl
 refine ⟨hcall vs w, ?_⟩
 unfold ADm at hr
 split at hr <;> try (simp [Req.run] at hr; done)
 rename_i n
 simp only [Req.run, Option.some.injEq] at hr
 subst hr
 have h0 : (0 : Int) <= n := hobl _ (by simp)
 have h1 : n < 100 := hobl _ (by simp)
 obtain ⟨v0, r0, e0, h2, e1⟩ := hav
 obtain ⟨rfl, _⟩ := Ak h2
 have e1' : r0 = [] := e1
 subst e1'
 have hvs : vs = #[.int .i64 n] := by rw [<- Array.toArray_toList (xs := vs), e0]
 subst hvs
 subst hf
 obtain ⟨i, rfl⟩ := Int.eq_ofNat_of_zero_le h0
 have hi : i < 100 := by have h1' : (i : Int) < 100 := h1; omega
 refine Calls.mono (Any.strconv_Itoa_small L i hi w) ?_
 rintro e w' ⟨rfl, rfl⟩
 rw [ADl hi]
 refine ⟨_, rfl, Au.pure H rfl ⟨rfl, rfl, rfl, ?_⟩⟩
 show ByteArray.size (DY (i : Int)) <= lim
 unfold DY
 split <;> simp [ByteArray.size, lim]
def I7 (s : ByteArray) : Bool := s.data.toList.all fun b => decide (b.toNat < 128)
def GN : Bo := fun av _ => match av with
 | .cons (.dat .str s) (.cons (.dat .str p) .nil) => .out ⟨[ByteArray.size s < 4294967281, ByteArray.size p < 4294967281, I7 s = true, I7 p = true], .dat .bool (Go.Lib.containsAny s.data.toList p.data.toList), []⟩
 | _ => .fail
theorem MC {s : ByteArray} (h : I7 s = true) : ∀ (j : Nat) b, s.data.toList[j]? = some b -> b.toNat < 128 := by
 intro j b hb
 have := List.all_eq_true.1 h b (List.mem_of_getElem? hb)
 simpa using this
theorem Mi {P : Program} {ρ : Go.Shelf.Ren} {f : FuncId} (L : Lays.n150 P ρ) (h116 : (P.info? (ρ.t 116)).map (fun i => (i.zero, i.size)) = some (some (.agg (Array.replicate 256 (.bool false))), 256)) (hf : ρ.f 150 = f) (hcall : ∀ vs w, (callFunc f vs).run P w = .ok (.enter f vs) w) : AT P f GN := by
 intro av nx hp out φ ow w vs H hav hr hobl
 refine ⟨hcall vs w, ?_⟩
 unfold GN at hr
 split at hr <;> try (simp [Req.run] at hr; done)
 rename_i s p
 simp only [Req.run, Option.some.injEq] at hr
 subst hr
 obtain ⟨rfl, hs, hp'⟩ := HK hav
 subst hf
 refine Calls.mono (Any.strings_ContainsAny_laid L h116 s p w (hobl _ (by simp)) (hobl _ (by simp)) (MC (hobl _ (by simp))) (MC (hobl _ (by simp)))) ?_
 rintro e w' ⟨rfl, hb⟩
 exact ⟨_, rfl, I4 H hb rfl fun _ _ => ⟨rfl, rfl, rfl⟩⟩
def B5 (s p : ByteArray) : List ByteArray := Go.Lib.splitB p 0 (Go.Lib.countB s p) s
theorem Ju (p : ByteArray) : ∀ (k : Nat) (s : ByteArray), ∀ x ∈ Go.Lib.splitB p 0 k s, x.size <= s.size
 | 0, s, x, h => by
  simp only [Go.Lib.splitB, List.mem_singleton] at h
  subst h
  exact Nat.le_refl _
 | k + 1, s, x, h => by
  unfold Go.Lib.splitB at h
  split at h
  ·simp only [List.mem_singleton] at h
   subst h
   exact Nat.le_refl _
  ·rcases List.mem_cons.1 h with rfl | h
   ·rw [ByteArray.size_extract]; omega
   ·have := Ju p k _ x h
    rw [ByteArray.size_extract] at this
    omega
def ADo (g : Nat) (e : TypeId) : Bo := DX g fun av nx => match av with
 | .cons (.dat .str s) (.cons (.dat .str p) .nil) => .out ⟨[ByteArray.size s < 4294967281, 1 <= ByteArray.size p], .arr nx, [(nx, .arr e .str (B5 s p))]⟩
 | _ => .fail
theorem Qt {ow : Own} {w : World} : ∀ {l : List ByteArray}, (∀ x ∈ l, x.size <= lim) -> Rows (Ty.rep ow w .str) (l.map Value.string) l
 | [], _ => rfl
 | a :: l, h => ⟨[.string a], _, rfl, ⟨rfl, h a (List.mem_cons_self ..)⟩, Qt fun x hx => h x (List.mem_cons_of_mem _ hx)⟩
theorem Qu {ow : Own} {w : World} : ∀ {l : List ByteArray} {xs : List Value}, Rows (Ty.rep ow w .str) xs l -> xs = l.map Value.string
 | [], xs, h => h
 | a :: l, xs, h => by
  obtain ⟨c, r, rfl, ⟨rfl, _⟩, h2⟩ := h
  rw [Qu h2]
  rfl
theorem ABQ {P : Program} {ρ : Go.Shelf.Ren} {f : FuncId} {g : Nat} {e : TypeId} (L : Lays.n146 P ρ) (hi9 : (P.info? (ρ.t 9)).map (fun i => (i.zero, i.size, i.bytes)) = some (some (.string ByteArray.empty), 1, 16)) (hf : ρ.f 146 = f) (hg : ρ.g 1 = g) (he : ρ.t 9 = e) (hcall : ∀ vs w, (callFunc f vs).run P w = .ok (.enter f vs) w) : AT P f (ADo g e) := by
 intro av nx hp out φ ow w vs H hav hr0 hobl
 refine ⟨hcall vs w, ?_⟩
 obtain ⟨⟨_, _, m, hm⟩, hr⟩ := U4 H hr0
 split at hr <;> try (simp [Req.run] at hr; done)
 rename_i s p
 simp only [Req.run, Option.some.injEq] at hr
 subst hr
 obtain ⟨rfl, hs, hp'⟩ := HK hav
 subst hf; subst hg; subst he
 have h1 : ByteArray.size s < 4294967281 := hobl _ (by simp)
 have h2 : 1 <= ByteArray.size p := hobl _ (by simp)
 refine Calls.mono (Any.strings_Split L hi9 s p m w h1 hm h2) ?_
 rintro e w' ⟨rfl, rfl⟩
 have hn : (Go.Lib.splitB p 0 (Go.Lib.countB s p) s).length = Go.Lib.countB s p + 1 := Go.Lib.splitB_all p h2 0 _ s rfl
 have hle := Go.Lib.countB_le p h2 s.size s (Nat.le_refl _)
 have E := Ext.new (w' := w.alloc (.cells ((Go.Lib.splitB p 0 (Go.Lib.countB s p) s).map Value.string).toArray (ρ.t 9))) H [] (.slice (some ⟨w.heap.size, 0, none⟩) (Go.Lib.countB s p + 1) (Go.Lib.countB s p + 1)) rfl rfl rfl rfl
 refine ⟨_, rfl, _, _, E, ⟨_, _, _, AP _, rfl⟩, ?_⟩
 intro q hq
 simp only [List.mem_singleton] at hq
 subst hq
 refine ⟨_, AP _, (B5 s p).map Value.string, ⟨by simp [Ty.size], .inr ⟨w.heap.size, Go.Lib.countB s p + 1, ((Go.Lib.splitB p 0 (Go.Lib.countB s p) s).map Value.string).toArray, ?_, Nat.zero_le _, CU (w' := w.alloc (.cells ((Go.Lib.splitB p 0 (Go.Lib.countB s p) s).map Value.string).toArray (ρ.t 9))) rfl, ?_, ?_, ?_, ?_⟩⟩, ?_, ?_, ?_⟩
 ·show _ = Value.slice _ (B5 s p).length _
  rw [show (B5 s p).length = Go.Lib.countB s p + 1 from hn]
 ·show (B5 s p).length <= _
  rw [show (B5 s p).length = Go.Lib.countB s p + 1 from hn]
  exact Nat.le_refl _
 ·have := Ho; have hl : (lim : Nat) = 140737488355328 := rfl; omega
 ·simp [Ty.size, hn]
 ·rw [show (B5 s p).length * Ty.size .str = (B5 s p).length by simp [Ty.size]]
  rw [List.take_of_length_le (by simp [B5])]
  rfl
 ·intro b hb
  simp only [Value.ownBlock, Option.some.injEq] at hb
  subst hb
  simp [BJ]
 ·show (B5 s p).length <= lim
  rw [show (B5 s p).length = Go.Lib.countB s p + 1 from hn]
  have hl : (lim : Nat) = 140737488355328 := rfl
  omega
 ·exact Qt fun x hx => Nat.le_trans (Ju p _ s x hx) hs
def DZ (l : List ByteArray) (p : ByteArray) : ByteArray := ⟨(Go.Lib.join (l.map (·.data.toList)) p.data.toList).toArray⟩
def ADp : Bo := fun av _ => match av with
 | .cons (.arr id) (.cons (.dat .str p) .nil) => .look id fun
  | .arr _ T l => if h : T = .str then .out ⟨[0 < List.length l, ByteArray.size (DZ (Bm (congrArg Ty.sl h) l) p) <= lim], .dat .str (DZ (Bm (congrArg Ty.sl h) l) p), []⟩ else .fail
  | _ => .fail
 | _ => .fail
theorem ADq {P : Program} {ρ : Go.Shelf.Ren} {f : FuncId} (L : Lays.n156 P ρ) (X : Go.Proofs.Builder.Extra P ρ) (hf : ρ.f 156 = f) (hcall : ∀ vs w, (callFunc f vs).run P w = .ok (.enter f vs) w) : AT P f ADp := by
 intro av nx hp out φ ow w vs H hav hr hobl
 refine ⟨hcall vs w, ?_⟩
 unfold ADp at hr
 split at hr <;> try (simp [Req.run] at hr; done)
 rename_i id p
 simp only [Req.run] at hr
 have hch := H.chunk id
 split at hr <;> try (simp [Req.run] at hr; done)
 rename_i e T l hc
 rw [hc] at hch
 split at hr <;> try (simp [Req.run] at hr; done)
 rename_i hT
 subst hT
 simp only [Req.run, Option.some.injEq] at hr
 subst hr
 have h0 : 0 < List.length l := hobl _ (by simp)
 have h1 : ByteArray.size (DZ l p) <= lim := hobl _ (List.mem_cons_of_mem _ (List.mem_cons_self ..))
 obtain ⟨v, hv, xs, hown, hb, hlim, hrows⟩ := hch
 obtain ⟨v0, r0, e0, ⟨A, n, c, hφ, hv0⟩, v1, r1, e1, ⟨_, _, h11, h12⟩, e2⟩ := hav
 injection hv0 with hv0
 injection h11 with h11
 rw [hv] at hφ
 injection hφ with hφ
 have e2' : r1 = [] := e2
 subst e2'; subst e1; subst hv0; subst h11; subst hφ
 have hvs : vs = #[.slice A n c, .string p] := by rw [<- Array.toArray_toList (xs := vs), e0]
 subst hvs
 have hxs := Qu hrows
 have hlim' : List.length l <= 140737488355328 := hlim
 rcases hown.2 with ⟨_, hn⟩ | ⟨g, cap, cur, hsl, _, hg, hle, _, hsz, htk⟩
 ·omega
 ·injection hsl with s1 s2 s3
  subst s1; subst s2; subst s3
  subst hf
  have hj : ByteArray.size (DZ l p) = (Go.Lib.join ((l : List ByteArray).map (·.data.toList)) p.data.toList).length := by simp [DZ, ByteArray.size]
  have h1' : (Go.Lib.join ((l : List ByteArray).map (·.data.toList)) p.data.toList).length <= 140737488355328 := by rw [<- hj]; exact h1
  refine Calls.mono (Any.strings_Join L X g 0 c l p w (fun j x hjx => ?_) (Array.getElem?_eq_some_iff.1 hg).1 hlim' hle h1') ?_
  ·have hj' : j < (l : List ByteArray).length := by
    rcases Nat.lt_or_ge j (l : List ByteArray).length with h | h
    ·exact h
    ·rw [List.getElem?_eq_none h] at hjx; cases hjx
   have hc : cur[j]? = some (.string x) := by
    rw [<- Array.getElem?_toList, <- List.getElem?_take_of_lt (show j < List.length l * Ty.size .str by show j < List.length l * 1; omega), htk, hxs, List.getElem?_map, hjx]
    rfl
   unfold World.cell?
   rw [hg]
   simp [hc]
  ·rintro e w' ⟨rfl, hbl⟩
   exact ⟨_, rfl, I4 H hbl rfl fun _ _ => ⟨rfl, rfl, rfl, h1⟩⟩
end AL
end
section
set_option linter.unusedVariables false
namespace AL
open Go Go.Proofs Go.Shelf
def ADr (s : ByteArray) : Option Int := Go.Lib.atoi s.data.toList
def ADs : Bo := fun av _ => match av with
 | .cons (.dat .str s) .nil => .call (ADr s) fun n => .out ⟨[ByteArray.size s <= 18, inK .i64 n], .tup (.cons (.dat (.int .i64) n) (.cons (.raw .nilIface) .nil)), []⟩
 | _ => .fail
theorem ADt {P : Program} {ρ : Go.Shelf.Ren} {f : FuncId} (L : Lays.n172 P ρ) (hf : ρ.f 172 = f) (hcall : ∀ vs w, (callFunc f vs).run P w = .ok (.enter f vs) w) : AT P f ADs := by
 intro av nx hp out φ ow w vs H hav hr hobl
 refine ⟨hcall vs w, ?_⟩
 unfold ADs at hr
 split at hr <;> try (simp [Req.run] at hr; done)
 rename_i s
 cases hm : ADr s with
 | none => rw [hm] at hr; cases hr
 | some n =>
  rw [hm] at hr
  injection hr with hr
  subst hr
  have h1 : s.size <= 18 := hobl _ (by simp)
  have h2 : inK .i64 n := hobl _ (by simp)
  obtain ⟨v0, r0, e0, h3, e1⟩ := hav
  obtain ⟨_, _, hs⟩ := h3
  obtain ⟨hs, _⟩ := hs
  have e1' : r0 = [] := e1
  subst e1'
  injection hs with hs _
  subst hs
  have hvs : vs = #[.string s] := by rw [<- Array.toArray_toList (xs := vs), e0]
  subst hvs
  subst hf
  refine Calls.mono (Any.strconv_Atoi L s n h1 hm w) ?_
  rintro e w' ⟨rfl, t, rfl⟩
  exact ⟨_, rfl, I4 H (Go.Lib.bytesWorld_below _ _ _) rfl fun ow' w' => ⟨_, rfl, _, _, rfl, ⟨rfl, rfl, rfl, h2⟩, _, _, rfl, rfl, rfl⟩⟩
end AL
end
section
set_option linter.unusedVariables false
namespace AL
open Go
def AK6 (g : FuncId) : AV -> Bool
 | .cons _ (.cons _ (.cons (.fn f _) _)) => Nat.beq f g
 | _ => false
def AHT (h : FuncId) : Bo := fun av _ => match av with
 | .cons (.fn g .nil) .nil => .out ⟨[], .fn h (.cons (.dat (.ptr .fnT) g) .nil), []⟩
 | _ => .fail
theorem Z6 {P : Program} {f h : FuncId} {T : Bo} (hT : AT P f T) (e : ∀ (g : FuncId) (nx : Nat) (hp : Nat -> Chunk), (T (.cons (.fn g .nil) .nil) nx).run hp = some ⟨[], .fn h (.cons (.dat (.ptr .fnT) g) .nil), []⟩) : AT P f (AHT h) := by
 intro av nx hp out φ ow w vs H hav hr hobl
 unfold AHT at hr
 split at hr <;> try (simp [Req.run] at hr; done)
 rename_i g
 refine hT _ nx hp out φ ow w vs H hav ?_ hobl
 rw [e g nx hp]
 exact hr
section
variable (C : DV) {Y : Type}
def I8 (L : Lp) (f : Nat) : List Oper -> St -> Option Jmp -> (St -> Option Jmp -> Prog Y) -> Prog Y
 | [], st, j, K => K st j
 | o :: r, st, j, K => match o.guard with
  | some _ => .fail 50
  | Option.none => match yieldOf L.k st.env o.op with
   | some args => match j with
    | some _ => .fail 51
    | Option.none => bif (Nat.beq args.length L.ps.size && Bw st.n o.dst) && (h0 st && L.ps.toList.all fun t => Nat.blt t L.n) then
      exU C f L.assign { env := HI L.env (L.ps.toList.zip args), heap := st.heap, next := st.next, n := L.n } fun e s1 => match e with
       | .normal => bif h0 s1 then exU C f L.body s1 fun e2 s2 => match e2 with
        | .normal => bif h0 s2 then I8 L f r (C6 st s2 o.dst true) Option.none K else .fail 55
        | .ret => bif h0 s2 then I8 L f r (C6 st s2 o.dst false) (some .ret) K else .fail 55
        | .exit id => bif h0 s2 then I8 L f r (C6 st s2 o.dst false) (some (.exit id)) K else .fail 55
        | _ => .fail 52
        else .fail 56
       | _ => .fail 53
     else .fail 54
   | Option.none => Qd C o st.next 0 (fun _ => false) st fun _ _ st' => I8 L f r { st' with next := st.next + 64 } j K
def exY (L : Lp) : Nat -> Code -> St -> Option Jmp -> (Exit -> St -> Option Jmp -> Prog Y) -> Prog Y
 | 0, _, _, _, _ => .fail 60
 | f + 1, c, st, j, K => match c with
  | .skip => K .normal st j
  | .label _ => K .normal st j
  | .region _ ops draw => bif draw || ops.toList.any (fun o => o.guard.isSome) then Fg C ops draw st Az.no fun st' _ => K .normal st' j else I8 C L f ops.toList st j (K .normal)
  | .seq a b => exY L f a st j fun e st' j' => match e with
   | .normal => exY L f b st' j' K
   | e => K e st' j'
  | .cond c a b => match Ah st.env c with
   | .dat .bool v => .ite v (exY L f a st j K) (exY L f b st j K)
   | _ => .fail 41
  | .block id a => exY L f a st j fun e st' j' => match e with
   | .exit id' => bif Nat.beq id' id then K .normal st' j' else K (.exit id') st' j'
   | e => K e st' j'
  | .exit id => K (.exit id) st j
  | .ret => K .ret st j
  | .loop a => exY L f a st j fun e st' j' => match e with
   | .normal => exY L f (.loop a) st' j' K
   | e => K e st' j'
  | _ => .fail 42
def exT : Nat -> Code -> St -> Bool -> (Exit -> St -> Bool -> Prog Y) -> Prog Y
 | 0, _, _, _, _ => .fail 70
 | f + 1, c, st, m, K => match c with
  | .skip => K .normal st m
  | .label _ => K .normal st m
  | .region _ ops draw => Fg C ops draw st Az.no fun st' _ => K .normal st' m
  | .seq a b => exT f a st m fun e st' m' => match e with
   | .normal => exT f b st' m' K
   | e => K e st' m'
  | .cond c a b => match Ah st.env c with
   | .dat .bool v => .ite v (exT f a st m K) (exT f b st m K)
   | _ => .fail 41
  | .block id a => exT f a st m fun e st' m' => match e with
   | .exit id' => bif Nat.beq id' id then K .normal st' m' else K (.exit id') st' m'
   | e => K e st' m'
  | .scope a => exT f a st m fun e st' m' => match e with
   | .goto _ => .fail 12
   | e => K e st' m'
  | .exit id => K (.exit id) st m
  | .ret => K .ret st m
  | .loop a => exT f a st m fun e st' m' => match e with
   | .normal => exT f (.loop a) st' m' K
   | e => K e st' m'
  | .rangeFunc g ps assign body => match m, Ah st.env g with
   | false, .fn gf caps => match C.P.funcs[gf]? with
    | some fn => match fn.body, fn.results.toList with
     | some cg, [] => bif Nat.ble (caps.len + 1) fn.ntmps && caps.Bb && !(fn.name == "runtime.NumGoroutine") then
       exY C ⟨ps, assign, body, st.env, st.n, st.next⟩ f cg { env := Gd (.cons (.opq st.next) caps), heap := st.heap, next := st.next + 64, n := fn.ntmps } Option.none fun e st' j => match e with
        | .normal => bif h0 st' then K (j.elim .normal Jmp.ex) { st with heap := st'.heap, next := st'.next } true else .fail 76
        | .ret => bif h0 st' then K (j.elim .normal Jmp.ex) { st with heap := st'.heap, next := st'.next } true else .fail 76
        | _ => .fail 71
      else .fail 72
     | _, _ => .fail 73
    | Option.none => .fail 74
   | _, _ => .fail 75
  | _ => .fail 42
end
section
variable {C : DV} {Y : Type} {y : Y}
theorem ADu : ∀ (f : Nat) (c : Code) {st : St} {K : Exit -> St -> Prog Y} {K' : Exit -> St -> Prop}, (exU C f c st K).run = some y -> (∀ e st', (K e st').run = some y -> K' e st') -> vcU C.cfg f c st K' := by
 intro f
 induction f with
 | zero => intro c st K K' h; cases h
 | succ f ih =>
 intro c st K K' h hK
 cases c with
 | skip => exact hK _ _ h
 | label l => exact hK _ _ h
 | region id ops draw =>
  simp only [exU] at h
  simp only [vcU]
  obtain ⟨st', D', h1, h2, h3⟩ := CV (base := st) h (Frm.refl st _)
  exact h3 (K' .normal) (hK _ _ h1)
 | seq x z =>
  refine ih x h fun e st' h' => ?_
  cases e with
  | normal => exact ih z h' hK
  | _ => exact hK _ _ h'
 | cond c x z =>
  simp only [exU] at h
  simp only [vcU]
  split at h
  ·rename_i v hv
   try rw [hv]
   simp only [Prog.run] at h
   cases v with
   | true =>
    simp only [brB, cond_true] at h ⊢
    refine ih x ?_ hK
    cases c with
    | tmp t => simp only at h; rw [Cg hv] at h; exact h
    | _ => exact h
   | false =>
    simp only [brB, cond_false] at h ⊢
    refine ih z ?_ hK
    cases c with
    | tmp t => simp only at h; rw [Cg hv] at h; exact h
    | _ => exact h
  ·cases h
 | block id x =>
  refine ih x h fun e st' h' => ?_
  cases e with
  | exit id' =>
   simp only at h' ⊢
   cases hz : Nat.beq id' id with
   | true => rw [hz] at h'; exact hK _ _ h'
   | false => rw [hz] at h'; exact hK _ _ h'
  | _ => exact hK _ _ h'
 | scope x =>
  refine ih x h fun e st' h' => ?_
  cases e with
  | goto => cases h'
  | _ => exact hK _ _ h'
 | exit id => exact hK _ _ h
 | ret => exact hK _ _ h
 | loop x =>
  refine ih x h fun e st' h' => ?_
  cases e with
  | normal => exact ih (.loop x) h' hK
  | _ => exact hK _ _ h'
 | _ => cases h
theorem Fk {L : Lp} {f : Nat} : ∀ (l : List Oper) {st : St} {j : Option Jmp} {K : St -> Option Jmp -> Prog Y} {K' : St -> Option Jmp -> Prop}, (I8 C L f l st j K).run = some y -> (∀ st' j', (K st' j').run = some y -> K' st' j') -> Eu C.cfg L f l st j K'
 | [], st, j, K, K', h, hK => hK _ _ h
 | o :: r, st, j, K, K', h, hK => by
  simp only [I8] at h
  simp only [Eu]
  split at h
  ·cases h
  ·rename_i hg
   rw [hg]
   split at h
   ·rename_i args hy
    simp only
    rw [hy]
    split at h
    ·cases h
    ·simp only
     cases hc : (Nat.beq args.length L.ps.size && Bw st.n o.dst) && (h0 st && L.ps.toList.all fun t => Nat.blt t L.n) with
     | false => rw [hc] at h; cases h
     | true =>
      rw [hc, cond_true] at h
      rw [cond_true]
      refine ADu f _ h fun e s1 h1 => ?_
      cases e with
      | normal =>
       simp only at h1 ⊢
       cases hz : h0 s1 with
       | false => rw [hz] at h1; cases h1
       | true =>
        rw [hz, cond_true] at h1
        rw [cond_true]
        refine ADu f _ h1 fun e2 s2 h2 => ?_
        cases e2 with
        | normal =>
         simp only at h2 ⊢
         cases hz2 : h0 s2 with
         | false => rw [hz2] at h2; cases h2
         | true => rw [hz2, cond_true] at h2; rw [cond_true]; exact Fk r h2 hK
        | ret =>
         simp only at h2 ⊢
         cases hz2 : h0 s2 with
         | false => rw [hz2] at h2; cases h2
         | true => rw [hz2, cond_true] at h2; rw [cond_true]; exact Fk r h2 hK
        | exit id =>
         simp only at h2 ⊢
         cases hz2 : h0 s2 with
         | false => rw [hz2] at h2; cases h2
         | true => rw [hz2, cond_true] at h2; rw [cond_true]; exact Fk r h2 hK
        | _ => cases h2
      | _ => cases h1
   ·rename_i hy
    simp only
    rw [hy]
    obtain ⟨tch, up, st', h1, _, h3⟩ := Ns (base := st) h (Frm.refl st Az.no)
    exact h3 (fun _ _ st' => Eu C.cfg L f r { st' with next := st.next + 64 } j K') (Fk r h1 hK)
theorem AJm {L : Lp} : ∀ (f : Nat) (c : Code) {st : St} {j : Option Jmp} {K : Exit -> St -> Option Jmp -> Prog Y} {K' : Exit -> St -> Option Jmp -> Prop}, (exY C L f c st j K).run = some y -> (∀ e st' j', (K e st' j').run = some y -> K' e st' j') -> vcY C.cfg L f c st j K' := by
 intro f
 induction f with
 | zero => intro c st j K K' h; cases h
 | succ f ih =>
 intro c st j K K' h hK
 cases c with
 | skip => exact hK _ _ _ h
 | label l => exact hK _ _ _ h
 | region id ops draw =>
  simp only [exY] at h
  simp only [vcY]
  cases hg : draw || ops.toList.any (fun o => o.guard.isSome) with
  | true =>
   rw [hg, cond_true] at h
   rw [cond_true]
   obtain ⟨st', D', h1, h2, h3⟩ := CV (base := st) h (Frm.refl st _)
   exact h3 (fun s => K' .normal s j) (hK _ _ _ h1)
  | false =>
   rw [hg, cond_false] at h
   rw [cond_false]
   exact Fk _ h fun st' j' h' => hK _ _ _ h'
 | seq x z =>
  refine ih x h fun e st' j' h' => ?_
  cases e with
  | normal => exact ih z h' hK
  | _ => exact hK _ _ _ h'
 | cond c x z =>
  simp only [exY] at h
  simp only [vcY]
  split at h
  ·rename_i v hv
   try rw [hv]
   simp only [Prog.run] at h
   cases v with
   | true => simp only [brB, cond_true] at h ⊢; exact ih x h hK
   | false => simp only [brB, cond_false] at h ⊢; exact ih z h hK
  ·cases h
 | block id x =>
  refine ih x h fun e st' j' h' => ?_
  cases e with
  | exit id' =>
   simp only at h' ⊢
   cases hz : Nat.beq id' id with
   | true => rw [hz] at h'; exact hK _ _ _ h'
   | false => rw [hz] at h'; exact hK _ _ _ h'
  | _ => exact hK _ _ _ h'
 | exit id => exact hK _ _ _ h
 | ret => exact hK _ _ _ h
 | loop x =>
  refine ih x h fun e st' j' h' => ?_
  cases e with
  | normal => exact ih (.loop x) h' hK
  | _ => exact hK _ _ _ h'
 | _ => cases h
theorem AJn : ∀ (f : Nat) (c : Code) {st : St} {m : Bool} {K : Exit -> St -> Bool -> Prog Y} {K' : Exit -> St -> Bool -> Prop}, (exT C f c st m K).run = some y -> (∀ e st' m', (K e st' m').run = some y -> K' e st' m') -> vcT C.cfg f c st m K' := by
 intro f
 induction f with
 | zero => intro c st m K K' h; cases h
 | succ f ih =>
 intro c st m K K' h hK
 cases c with
 | skip => exact hK _ _ _ h
 | label l => exact hK _ _ _ h
 | region id ops draw =>
  simp only [exT] at h
  simp only [vcT]
  obtain ⟨st', D', h1, h2, h3⟩ := CV (base := st) h (Frm.refl st _)
  exact h3 (fun s => K' .normal s m) (hK _ _ _ h1)
 | seq x z =>
  refine ih x h fun e st' m' h' => ?_
  cases e with
  | normal => exact ih z h' hK
  | _ => exact hK _ _ _ h'
 | cond c x z =>
  simp only [exT] at h
  simp only [vcT]
  split at h
  ·rename_i v hv
   try rw [hv]
   simp only [Prog.run] at h
   cases v with
   | true => simp only [brB, cond_true] at h ⊢; exact ih x h hK
   | false => simp only [brB, cond_false] at h ⊢; exact ih z h hK
  ·cases h
 | block id x =>
  refine ih x h fun e st' m' h' => ?_
  cases e with
  | exit id' =>
   simp only at h' ⊢
   cases hz : Nat.beq id' id with
   | true => rw [hz] at h'; exact hK _ _ _ h'
   | false => rw [hz] at h'; exact hK _ _ _ h'
  | _ => exact hK _ _ _ h'
 | scope x =>
  refine ih x h fun e st' m' h' => ?_
  cases e with
  | goto => cases h'
  | _ => exact hK _ _ _ h'
 | exit id => exact hK _ _ _ h
 | ret => exact hK _ _ _ h
 | loop x =>
  refine ih x h fun e st' m' h' => ?_
  cases e with
  | normal => exact ih (.loop x) h' hK
  | _ => exact hK _ _ _ h'
 | rangeFunc g ps assign body =>
  simp only [exT] at h
  simp only [vcT]
  split at h
  ·rename_i gf caps hg
   rw [hg]
   split at h
   ·rename_i fn hf
    have hf' : C.cfg.P.funcs[gf]? = some fn := hf
    simp only
    rw [hf']
    simp only
    split at h
    ·rename_i cg hb hr
     rw [hb, hr]
     simp only
     cases hc : Nat.ble (caps.len + 1) fn.ntmps && caps.Bb && !(fn.name == "runtime.NumGoroutine") with
     | false => rw [hc] at h; cases h
     | true =>
      rw [hc, cond_true] at h
      rw [cond_true]
      refine AJm f _ h fun e st' j h' => ?_
      cases e with
      | normal =>
       simp only at h' ⊢
       cases hz : h0 st' with
       | false => rw [hz] at h'; cases h'
       | true => rw [hz, cond_true] at h'; rw [cond_true]; exact hK _ _ _ h'
      | ret =>
       simp only at h' ⊢
       cases hz : h0 st' with
       | false => rw [hz] at h'; cases h'
       | true => rw [hz, cond_true] at h'; rw [cond_true]; exact hK _ _ _ h'
      | _ => cases h'
    ·cases h
   ·cases h
  ·cases h
 | _ => cases h
end
def AG.Z7 (S : AG) (N : Nat) (C : DV) (fn : Func) (xa : S.args.ty.den) (xo : (AY S.Aa).den) : Prog S.oty.den :=
 match fn.body with
 | some c => exT C N c (S.init xa xo fn.ntmps) false fun e st mk => bif mk then S.MB C.P fn S.oty.den (fun y => y) e st Az.no else .fail 80
 | Option.none => .fail 23
theorem AJo {P : Program} {S0 S1 : FuncId -> Bo} (h : ∀ g, AT P g (S0 g)) (h1 : ∀ g, AT P g (S1 g)) (hm : P.follows .mixedOrders = true) {f : FuncId} {fn : Func} (hf : P.funcs[f]? = some fn) (hb : fn.body.isNone = false) (hn : (fn.name == "runtime.NumGoroutine") = false) {N : Nat}
  {S : AG} (hc : Nat.ble S.args.count fn.ntmps = true) {md : Md} {m : S.args.ty.den -> (AY S.Aa).den -> Option S.oty.den} (he : ∀ xa xo y, m xa xo = some y -> (S.Z7 N (mkC P S1 md (fun _ => none) (fun _ => none)) fn xa xo).run = some y) : ∀ g, AT P g (AH S0 f (S.AF m) g) := by
 refine Ac h (R8 (C := mkC P S1 md (fun _ => none) (fun _ => none)) h1 hm hf (B1 hf hb hn) (Nat.le_of_ble_eq_true hc) N ?_)
 intro xa xo y hmy
 have hv := he xa xo y hmy
 unfold AG.Z7 at hv
 cases hbody : fn.body with
 | none => rw [hbody] at hv; cases hv
 | some c =>
  rw [hbody] at hv
  refine ⟨c, rfl, AJn N c hv fun e st mk hk => ?_⟩
  cases mk with
  | false => cases hk
  | true => exact hk
end AL
end
section
set_option linter.unusedVariables false
set_option maxHeartbeats 0
set_option maxRecDepth 100000
namespace AL
open Go Go.Proofs
def Tb : Go.Shelf.Ren := ⟨fun | 103 => 40 | 210 => 86 | 206 => 116 | n => n, fun | 9 => 9 | 4 => 4 | 24 => 96 | 3 => 3 | n => n, fun | n => n⟩
theorem AGE : Go.Proofs.Lays.n103 Tryz.prog Tb where
 mixed := by kernel_rfl
 f103 := Tryz.func40.trans (congrArg some (by kernel_rfl))
 f206 := Tryz.func116.trans (congrArg some (by kernel_rfl))
 f210 := Tryz.func86.trans (congrArg some (by kernel_rfl))
 t3 := Tryz.underlying3
 a3 := Tryz.isAgg3
 z3 := Tryz.sizeOf3
 v3 := Tryz.zeroValue3
 t4 := Tryz.underlying4
 a4 := Tryz.isAgg4
 z4 := Tryz.sizeOf4
 v4 := Tryz.zeroValue4
 t9 := Tryz.underlying9
 a9 := Tryz.isAgg9
 z9 := Tryz.sizeOf9
 v9 := Tryz.zeroValue9
 t24 := Tryz.underlying96
 a24 := Tryz.isAgg96
 z24 := Tryz.sizeOf96
 v24 := Tryz.zeroValue96
def Tc : Go.Shelf.Ren := ⟨fun | 171 => 84 | 243 => 114 | 246 => 153 | 283 => 189 | 284 => 190 | 285 => 191 | 286 => 192 | 129 => 236 | 317 => 235 | 318 => 237 | 319 => 238 | 320 => 239 | 337 => 257 | 338 => 258 | n => n, fun | 3 => 3 | 9 => 9 | 2 => 2 | 4 => 4 | 171 => 221 | 0 => 0 | 53 => 222 | 37 => 55 | 5 => 5 | 173 => 225 | 212 => 253 | 51 => 254 | 20 => 20 | 213 => 255 | 46 => 195 | 232 => 289 | 233 => 290 | n => n, fun | 17 => 1 | 18 => 6 | 19 => 7 | n => n⟩
theorem AGF : Go.Proofs.Lays.n171 Tryz.prog Tc where
 mixed := by kernel_rfl
 f129 := Tryz.func236.trans (congrArg some (by kernel_rfl))
 f171 := Tryz.func84.trans (congrArg some (by kernel_rfl))
 f243 := Tryz.func114.trans (congrArg some (by kernel_rfl))
 f246 := Tryz.func153.trans (congrArg some (by kernel_rfl))
 f283 := Tryz.func189.trans (congrArg some (by kernel_rfl))
 f284 := Tryz.func190.trans (congrArg some (by kernel_rfl))
 f285 := Tryz.func191.trans (congrArg some (by kernel_rfl))
 f286 := Tryz.func192.trans (congrArg some (by kernel_rfl))
 f317 := Tryz.func235.trans (congrArg some (by kernel_rfl))
 f318 := Tryz.func237.trans (congrArg some (by kernel_rfl))
 f319 := Tryz.func238.trans (congrArg some (by kernel_rfl))
 f320 := Tryz.func239.trans (congrArg some (by kernel_rfl))
 f337 := Tryz.func257.trans (congrArg some (by kernel_rfl))
 f338 := Tryz.func258.trans (congrArg some (by kernel_rfl))
 t0 := Tryz.underlying0
 a0 := Tryz.isAgg0
 z0 := Tryz.sizeOf0
 v0 := Tryz.zeroValue0
 t2 := Tryz.underlying2
 a2 := Tryz.isAgg2
 z2 := Tryz.sizeOf2
 v2 := Tryz.zeroValue2
 t3 := Tryz.underlying3
 a3 := Tryz.isAgg3
 z3 := Tryz.sizeOf3
 v3 := Tryz.zeroValue3
 t4 := Tryz.underlying4
 a4 := Tryz.isAgg4
 z4 := Tryz.sizeOf4
 v4 := Tryz.zeroValue4
 t5 := Tryz.underlying5
 a5 := Tryz.isAgg5
 z5 := Tryz.sizeOf5
 v5 := Tryz.zeroValue5
 t9 := Tryz.underlying9
 a9 := Tryz.isAgg9
 z9 := Tryz.sizeOf9
 v9 := Tryz.zeroValue9
 t20 := Tryz.underlying20
 a20 := Tryz.isAgg20
 z20 := Tryz.sizeOf20
 v20 := Tryz.zeroValue20
 t37 := Tryz.underlying55
 a37 := Tryz.isAgg55
 z37 := Tryz.sizeOf55
 v37 := Tryz.zeroValue55
 t46 := Tryz.underlying195
 a46 := Tryz.isAgg195
 z46 := Tryz.sizeOf195
 v46 := Tryz.zeroValue195
 t51 := Tryz.underlying254
 a51 := Tryz.isAgg254
 z51 := Tryz.sizeOf254
 v51 := Tryz.zeroValue254
 t53 := Tryz.underlying222
 a53 := Tryz.isAgg222
 z53 := Tryz.sizeOf222
 v53 := Tryz.zeroValue222
 t171 := Tryz.underlying221
 a171 := Tryz.isAgg221
 z171 := Tryz.sizeOf221
 v171 := Tryz.zeroValue221
 t173 := Tryz.underlying225
 a173 := Tryz.isAgg225
 z173 := Tryz.sizeOf225
 v173 := Tryz.zeroValue225
 t212 := Tryz.underlying253
 a212 := Tryz.isAgg253
 z212 := Tryz.sizeOf253
 v212 := Tryz.zeroValue253
 t213 := Tryz.underlying255
 a213 := Tryz.isAgg255
 z213 := Tryz.sizeOf255
 t232 := Tryz.underlying289
 a232 := Tryz.isAgg289
 z232 := Tryz.sizeOf289
 v232 := Tryz.zeroValue289
 t233 := Tryz.underlying290
 a233 := Tryz.isAgg290
 z233 := Tryz.sizeOf290
 v233 := Tryz.zeroValue290
 g17 := by kernel_rfl
 g18 := by kernel_rfl
 g19 := by kernel_rfl
def Td : Go.Shelf.Ren := ⟨fun | 146 => 85 | 221 => 115 | 268 => 154 | 138 => 155 | 143 => 156 | 195 => 193 | 197 => 194 | 218 => 195 | 219 => 196 | 260 => 240 | 217 => 241 | 225 => 234 | 224 => 233 | 267 => 242 | 266 => 259 | 314 => 260 | n => n, fun | 9 => 9 | 31 => 99 | 3 => 3 | 4 => 4 | 0 => 0 | 105 => 228 | 21 => 21 | 5 => 5 | 46 => 195 | 119 => 271 | 139 => 274 | 138 => 273 | 146 => 275 | 51 => 254 | n => n, fun | 1 => 0 | 3 => 4 | 4 => 5 | n => n⟩
theorem AGG : Go.Proofs.Lays.n146 Tryz.prog Td where
 mixed := by kernel_rfl
 f138 := Tryz.func155.trans (congrArg some (by kernel_rfl))
 f143 := Tryz.func156.trans (congrArg some (by kernel_rfl))
 f146 := Tryz.func85.trans (congrArg some (by kernel_rfl))
 f195 := Tryz.func193.trans (congrArg some (by kernel_rfl))
 f197 := Tryz.func194.trans (congrArg some (by kernel_rfl))
 f217 := Tryz.func241.trans (congrArg some (by kernel_rfl))
 f218 := Tryz.func195.trans (congrArg some (by kernel_rfl))
 f219 := Tryz.func196.trans (congrArg some (by kernel_rfl))
 f221 := Tryz.func115.trans (congrArg some (by kernel_rfl))
 f224 := Tryz.func233.trans (congrArg some (by kernel_rfl))
 f225 := Tryz.func234.trans (congrArg some (by kernel_rfl))
 f260 := Tryz.func240.trans (congrArg some (by kernel_rfl))
 f266 := Tryz.func259.trans (congrArg some (by kernel_rfl))
 f267 := Tryz.func242.trans (congrArg some (by kernel_rfl))
 f268 := Tryz.func154.trans (congrArg some (by kernel_rfl))
 f314 := Tryz.func260.trans (congrArg some (by kernel_rfl))
 t0 := Tryz.underlying0
 a0 := Tryz.isAgg0
 z0 := Tryz.sizeOf0
 v0 := Tryz.zeroValue0
 t3 := Tryz.underlying3
 a3 := Tryz.isAgg3
 z3 := Tryz.sizeOf3
 v3 := Tryz.zeroValue3
 t4 := Tryz.underlying4
 a4 := Tryz.isAgg4
 z4 := Tryz.sizeOf4
 v4 := Tryz.zeroValue4
 t5 := Tryz.underlying5
 a5 := Tryz.isAgg5
 z5 := Tryz.sizeOf5
 v5 := Tryz.zeroValue5
 t9 := Tryz.underlying9
 a9 := Tryz.isAgg9
 z9 := Tryz.sizeOf9
 v9 := Tryz.zeroValue9
 t21 := Tryz.underlying21
 a21 := Tryz.isAgg21
 z21 := Tryz.sizeOf21
 v21 := Tryz.zeroValue21
 t31 := Tryz.underlying99
 a31 := Tryz.isAgg99
 z31 := Tryz.sizeOf99
 v31 := Tryz.zeroValue99
 t46 := Tryz.underlying195
 a46 := Tryz.isAgg195
 z46 := Tryz.sizeOf195
 v46 := Tryz.zeroValue195
 t51 := Tryz.underlying254
 a51 := Tryz.isAgg254
 z51 := Tryz.sizeOf254
 v51 := Tryz.zeroValue254
 t105 := Tryz.underlying228
 a105 := Tryz.isAgg228
 z105 := Tryz.sizeOf228
 v105 := Tryz.zeroValue228
 t119 := Tryz.underlying271
 a119 := Tryz.isAgg271
 z119 := Tryz.sizeOf271
 t138 := Tryz.underlying273
 a138 := Tryz.isAgg273
 z138 := Tryz.sizeOf273
 v138 := Tryz.zeroValue273
 t139 := Tryz.underlying274
 a139 := Tryz.isAgg274
 z139 := Tryz.sizeOf274
 v139 := Tryz.zeroValue274
 t146 := Tryz.underlying275
 a146 := Tryz.isAgg275
 z146 := Tryz.sizeOf275
 v146 := Tryz.zeroValue275
 g1 := by kernel_rfl
 g3 := by kernel_rfl
 g4 := by kernel_rfl
def KH : Go.Shelf.Ren := ⟨fun | 156 => 41 | 165 => 87 | 166 => 52 | 169 => 49 | 240 => 97 | 241 => 117 | 276 => 121 | 277 => 157 | n => n, fun | 31 => 99 | 9 => 9 | 3 => 3 | 4 => 4 | 0 => 0 | 20 => 20 | 72 => 111 | 76 => 120 | 70 => 109 | 37 => 55 | 75 => 119 | 127 => 160 | 164 => 182 | 5 => 5 | 80 => 114 | n => n, fun | n => n⟩
theorem AGH : Go.Proofs.Lays.n156 Tryz.prog KH where
 mixed := by kernel_rfl
 f156 := Tryz.func41.trans (congrArg some (by kernel_rfl))
 f165 := Tryz.func87.trans (congrArg some (by kernel_rfl))
 f166 := Tryz.func52.trans (congrArg some (by kernel_rfl))
 f169 := Tryz.func49.trans (congrArg some (by kernel_rfl))
 f240 := Tryz.func97.trans (congrArg some (by kernel_rfl))
 f241 := Tryz.func117.trans (congrArg some (by kernel_rfl))
 f276 := Tryz.func121.trans (congrArg some (by kernel_rfl))
 f277 := Tryz.func157.trans (congrArg some (by kernel_rfl))
 t0 := Tryz.underlying0
 a0 := Tryz.isAgg0
 z0 := Tryz.sizeOf0
 v0 := Tryz.zeroValue0
 t3 := Tryz.underlying3
 a3 := Tryz.isAgg3
 z3 := Tryz.sizeOf3
 v3 := Tryz.zeroValue3
 t4 := Tryz.underlying4
 a4 := Tryz.isAgg4
 z4 := Tryz.sizeOf4
 v4 := Tryz.zeroValue4
 t9 := Tryz.underlying9
 a9 := Tryz.isAgg9
 z9 := Tryz.sizeOf9
 v9 := Tryz.zeroValue9
 t20 := Tryz.underlying20
 a20 := Tryz.isAgg20
 z20 := Tryz.sizeOf20
 v20 := Tryz.zeroValue20
 t31 := Tryz.underlying99
 a31 := Tryz.isAgg99
 z31 := Tryz.sizeOf99
 v31 := Tryz.zeroValue99
 t37 := Tryz.underlying55
 a37 := Tryz.isAgg55
 z37 := Tryz.sizeOf55
 v37 := Tryz.zeroValue55
 t70 := Tryz.underlying109
 a70 := Tryz.isAgg109
 z70 := Tryz.sizeOf109
 v70 := Tryz.zeroValue109
 t72 := Tryz.underlying111
 a72 := Tryz.isAgg111
 z72 := Tryz.sizeOf111
 v72 := Tryz.zeroValue111
 t75 := Tryz.underlying119
 a75 := Tryz.isAgg119
 z75 := Tryz.sizeOf119
 v75 := Tryz.zeroValue119
 t76 := Tryz.underlying120
 a76 := Tryz.isAgg120
 z76 := Tryz.sizeOf120
 v76 := Tryz.zeroValue120
 t127 := Tryz.underlying160
 a127 := Tryz.isAgg160
 z127 := Tryz.sizeOf160
 v127 := Tryz.zeroValue160
 t164 := Tryz.underlying182
 a164 := Tryz.isAgg182
 z164 := Tryz.sizeOf182
 v164 := Tryz.zeroValue182
def Te : Go.Shelf.Ren := ⟨fun | 150 => 113 | 153 => 152 | 152 => 185 | 226 => 186 | 227 => 187 | 228 => 188 | 137 => 231 | 119 => 232 | 224 => 233 | 225 => 234 | 217 => 241 | 266 => 259 | n => n, fun | 9 => 9 | 4 => 4 | 3 => 3 | 5 => 5 | 21 => 21 | 117 => 218 | 116 => 217 | 0 => 0 | 46 => 195 | 124 => 252 | n => n, fun | n => n⟩
theorem AGI : Go.Proofs.Lays.n150 Tryz.prog Te where
 mixed := by kernel_rfl
 f119 := Tryz.func232.trans (congrArg some (by kernel_rfl))
 f137 := Tryz.func231.trans (congrArg some (by kernel_rfl))
 f150 := Tryz.func113.trans (congrArg some (by kernel_rfl))
 f152 := Tryz.func185.trans (congrArg some (by kernel_rfl))
 f153 := Tryz.func152.trans (congrArg some (by kernel_rfl))
 f217 := Tryz.func241.trans (congrArg some (by kernel_rfl))
 f224 := Tryz.func233.trans (congrArg some (by kernel_rfl))
 f225 := Tryz.func234.trans (congrArg some (by kernel_rfl))
 f226 := Tryz.func186.trans (congrArg some (by kernel_rfl))
 f227 := Tryz.func187.trans (congrArg some (by kernel_rfl))
 f228 := Tryz.func188.trans (congrArg some (by kernel_rfl))
 f266 := Tryz.func259.trans (congrArg some (by kernel_rfl))
 t0 := Tryz.underlying0
 a0 := Tryz.isAgg0
 z0 := Tryz.sizeOf0
 v0 := Tryz.zeroValue0
 t3 := Tryz.underlying3
 a3 := Tryz.isAgg3
 z3 := Tryz.sizeOf3
 v3 := Tryz.zeroValue3
 t4 := Tryz.underlying4
 a4 := Tryz.isAgg4
 z4 := Tryz.sizeOf4
 v4 := Tryz.zeroValue4
 t5 := Tryz.underlying5
 a5 := Tryz.isAgg5
 z5 := Tryz.sizeOf5
 v5 := Tryz.zeroValue5
 t9 := Tryz.underlying9
 a9 := Tryz.isAgg9
 z9 := Tryz.sizeOf9
 v9 := Tryz.zeroValue9
 t21 := Tryz.underlying21
 a21 := Tryz.isAgg21
 z21 := Tryz.sizeOf21
 v21 := Tryz.zeroValue21
 t46 := Tryz.underlying195
 a46 := Tryz.isAgg195
 z46 := Tryz.sizeOf195
 v46 := Tryz.zeroValue195
 t116 := Tryz.underlying217
 a116 := Tryz.isAgg217
 z116 := Tryz.sizeOf217
 t117 := Tryz.underlying218
 a117 := Tryz.isAgg218
 z117 := Tryz.sizeOf218
 v117 := Tryz.zeroValue218
 t124 := Tryz.underlying252
 a124 := Tryz.isAgg252
 z124 := Tryz.sizeOf252
 v124 := Tryz.zeroValue252
def Tf : Go.Shelf.Ren := ⟨fun | 100 => 88 | 207 => 118 | n => n, fun | 9 => 9 | 4 => 4 | 3 => 3 | n => n, fun | n => n⟩
theorem AGJ : Go.Proofs.Lays.n100 Tryz.prog Tf where
 mixed := by kernel_rfl
 f100 := Tryz.func88.trans (congrArg some (by kernel_rfl))
 f207 := Tryz.func118.trans (congrArg some (by kernel_rfl))
 t3 := Tryz.underlying3
 a3 := Tryz.isAgg3
 z3 := Tryz.sizeOf3
 v3 := Tryz.zeroValue3
 t4 := Tryz.underlying4
 a4 := Tryz.isAgg4
 z4 := Tryz.sizeOf4
 v4 := Tryz.zeroValue4
 t9 := Tryz.underlying9
 a9 := Tryz.isAgg9
 z9 := Tryz.sizeOf9
 v9 := Tryz.zeroValue9
def Tg : Go.Shelf.Ren := ⟨fun | 102 => 90 | 209 => 119 | 207 => 118 | n => n, fun | 9 => 9 | 4 => 4 | 3 => 3 | n => n, fun | n => n⟩
theorem AGK : Go.Proofs.Lays.n102 Tryz.prog Tg where
 mixed := by kernel_rfl
 f102 := Tryz.func90.trans (congrArg some (by kernel_rfl))
 f207 := Tryz.func118.trans (congrArg some (by kernel_rfl))
 f209 := Tryz.func119.trans (congrArg some (by kernel_rfl))
 t3 := Tryz.underlying3
 a3 := Tryz.isAgg3
 z3 := Tryz.sizeOf3
 v3 := Tryz.zeroValue3
 t4 := Tryz.underlying4
 a4 := Tryz.isAgg4
 z4 := Tryz.sizeOf4
 v4 := Tryz.zeroValue4
 t9 := Tryz.underlying9
 a9 := Tryz.isAgg9
 z9 := Tryz.sizeOf9
 v9 := Tryz.zeroValue9
def Th : Go.Shelf.Ren := ⟨fun | 172 => 120 | 244 => 158 | 245 => 159 | 247 => 197 | 279 => 198 | 280 => 199 | 281 => 200 | 282 => 201 | 287 => 243 | 316 => 244 | 171 => 84 | 205 => 245 | 321 => 261 | 322 => 262 | 243 => 114 | 246 => 153 | 283 => 189 | 284 => 190 | 285 => 191 | 286 => 192 | 129 => 236 | 317 => 235 | 318 => 237 | 319 => 238 | 320 => 239 | 337 => 257 | 338 => 258 | n => n, fun | 9 => 9 | 3 => 3 | 75 => 119 | 76 => 120 | 4 => 4 | 5 => 5 | 167 => 231 | 37 => 55 | 0 => 0 | 85 => 232 | 2 => 2 | 168 => 234 | 53 => 222 | 175 => 257 | 46 => 195 | 210 => 261 | 127 => 160 | 145 => 281 | 143 => 279 | 21 => 21 | 171 => 221 | 173 => 225 | 212 => 253 | 51 => 254 | 20 => 20 | 213 => 255 | 232 => 289 | 233 => 290 | 80 => 114 | n => n, fun | 15 => 2 | 16 => 3 | 17 => 1 | 18 => 6 | 19 => 7 | n => n⟩
theorem AGL : Go.Proofs.Lays.n172 Tryz.prog Th where
 mixed := by kernel_rfl
 f129 := Tryz.func236.trans (congrArg some (by kernel_rfl))
 f171 := Tryz.func84.trans (congrArg some (by kernel_rfl))
 f172 := Tryz.func120.trans (congrArg some (by kernel_rfl))
 f205 := Tryz.func245.trans (congrArg some (by kernel_rfl))
 f243 := Tryz.func114.trans (congrArg some (by kernel_rfl))
 f244 := Tryz.func158.trans (congrArg some (by kernel_rfl))
 f245 := Tryz.func159.trans (congrArg some (by kernel_rfl))
 f246 := Tryz.func153.trans (congrArg some (by kernel_rfl))
 f247 := Tryz.func197.trans (congrArg some (by kernel_rfl))
 f279 := Tryz.func198.trans (congrArg some (by kernel_rfl))
 f280 := Tryz.func199.trans (congrArg some (by kernel_rfl))
 f281 := Tryz.func200.trans (congrArg some (by kernel_rfl))
 f282 := Tryz.func201.trans (congrArg some (by kernel_rfl))
 f283 := Tryz.func189.trans (congrArg some (by kernel_rfl))
 f284 := Tryz.func190.trans (congrArg some (by kernel_rfl))
 f285 := Tryz.func191.trans (congrArg some (by kernel_rfl))
 f286 := Tryz.func192.trans (congrArg some (by kernel_rfl))
 f287 := Tryz.func243.trans (congrArg some (by kernel_rfl))
 f316 := Tryz.func244.trans (congrArg some (by kernel_rfl))
 f317 := Tryz.func235.trans (congrArg some (by kernel_rfl))
 f318 := Tryz.func237.trans (congrArg some (by kernel_rfl))
 f319 := Tryz.func238.trans (congrArg some (by kernel_rfl))
 f320 := Tryz.func239.trans (congrArg some (by kernel_rfl))
 f321 := Tryz.func261.trans (congrArg some (by kernel_rfl))
 f322 := Tryz.func262.trans (congrArg some (by kernel_rfl))
 f337 := Tryz.func257.trans (congrArg some (by kernel_rfl))
 f338 := Tryz.func258.trans (congrArg some (by kernel_rfl))
 t0 := Tryz.underlying0
 a0 := Tryz.isAgg0
 z0 := Tryz.sizeOf0
 v0 := Tryz.zeroValue0
 t2 := Tryz.underlying2
 a2 := Tryz.isAgg2
 z2 := Tryz.sizeOf2
 v2 := Tryz.zeroValue2
 t3 := Tryz.underlying3
 a3 := Tryz.isAgg3
 z3 := Tryz.sizeOf3
 v3 := Tryz.zeroValue3
 t4 := Tryz.underlying4
 a4 := Tryz.isAgg4
 z4 := Tryz.sizeOf4
 v4 := Tryz.zeroValue4
 t5 := Tryz.underlying5
 a5 := Tryz.isAgg5
 z5 := Tryz.sizeOf5
 v5 := Tryz.zeroValue5
 t9 := Tryz.underlying9
 a9 := Tryz.isAgg9
 z9 := Tryz.sizeOf9
 v9 := Tryz.zeroValue9
 t20 := Tryz.underlying20
 a20 := Tryz.isAgg20
 z20 := Tryz.sizeOf20
 v20 := Tryz.zeroValue20
 t21 := Tryz.underlying21
 a21 := Tryz.isAgg21
 z21 := Tryz.sizeOf21
 v21 := Tryz.zeroValue21
 t37 := Tryz.underlying55
 a37 := Tryz.isAgg55
 z37 := Tryz.sizeOf55
 v37 := Tryz.zeroValue55
 t46 := Tryz.underlying195
 a46 := Tryz.isAgg195
 z46 := Tryz.sizeOf195
 v46 := Tryz.zeroValue195
 t51 := Tryz.underlying254
 a51 := Tryz.isAgg254
 z51 := Tryz.sizeOf254
 v51 := Tryz.zeroValue254
 t53 := Tryz.underlying222
 a53 := Tryz.isAgg222
 z53 := Tryz.sizeOf222
 v53 := Tryz.zeroValue222
 t75 := Tryz.underlying119
 a75 := Tryz.isAgg119
 z75 := Tryz.sizeOf119
 v75 := Tryz.zeroValue119
 t76 := Tryz.underlying120
 a76 := Tryz.isAgg120
 z76 := Tryz.sizeOf120
 v76 := Tryz.zeroValue120
 t85 := Tryz.underlying232
 a85 := Tryz.isAgg232
 z85 := Tryz.sizeOf232
 v85 := Tryz.zeroValue232
 t127 := Tryz.underlying160
 a127 := Tryz.isAgg160
 z127 := Tryz.sizeOf160
 v127 := Tryz.zeroValue160
 t143 := Tryz.underlying279
 a143 := Tryz.isAgg279
 z143 := Tryz.sizeOf279
 v143 := Tryz.zeroValue279
 t145 := Tryz.underlying281
 a145 := Tryz.isAgg281
 z145 := Tryz.sizeOf281
 v145 := Tryz.zeroValue281
 t167 := Tryz.underlying231
 a167 := Tryz.isAgg231
 z167 := Tryz.sizeOf231
 v167 := Tryz.zeroValue231
 t168 := Tryz.underlying234
 a168 := Tryz.isAgg234
 z168 := Tryz.sizeOf234
 v168 := Tryz.zeroValue234
 t171 := Tryz.underlying221
 a171 := Tryz.isAgg221
 z171 := Tryz.sizeOf221
 v171 := Tryz.zeroValue221
 t173 := Tryz.underlying225
 a173 := Tryz.isAgg225
 z173 := Tryz.sizeOf225
 v173 := Tryz.zeroValue225
 t175 := Tryz.underlying257
 a175 := Tryz.isAgg257
 z175 := Tryz.sizeOf257
 v175 := Tryz.zeroValue257
 t210 := Tryz.underlying261
 a210 := Tryz.isAgg261
 z210 := Tryz.sizeOf261
 v210 := Tryz.zeroValue261
 t212 := Tryz.underlying253
 a212 := Tryz.isAgg253
 z212 := Tryz.sizeOf253
 v212 := Tryz.zeroValue253
 t213 := Tryz.underlying255
 a213 := Tryz.isAgg255
 z213 := Tryz.sizeOf255
 t232 := Tryz.underlying289
 a232 := Tryz.isAgg289
 z232 := Tryz.sizeOf289
 v232 := Tryz.zeroValue289
 t233 := Tryz.underlying290
 a233 := Tryz.isAgg290
 z233 := Tryz.sizeOf290
 v233 := Tryz.zeroValue290
 g15 := by kernel_rfl
 g16 := by kernel_rfl
 g17 := by kernel_rfl
 g18 := by kernel_rfl
 g19 := by kernel_rfl
theorem ACd : Go.Proofs.Builder.Extra Tryz.prog KH where
 sizeBuilder := by kernel_rfl
 liesBuilder := by kernel_rfl
 t5 := Tryz.underlying5
 a5 := Tryz.isAgg5
 z5 := Tryz.sizeOf5
 v5 := Tryz.zeroValue5
 infoByte := by kernel_rfl
 cellsByte := by kernel_rfl
 sizeByte := by kernel_rfl
 neB5 := by decide
end AL
end
section
set_option linter.unusedVariables false
set_option linter.unusedSimpArgs false
namespace AL
open Go
def EC (ok : TypeId -> Ty -> Bool) (P : Program) : List Field -> Nat -> Ty -> Bool
 | [], _, .unit => true
 | f :: r, off, .pair a b => ok f.type a && (Nat.beq f.offset off && (Nat.beq (P.cellsOf f.type) a.size && EC ok P r (off + a.size) b))
 | _, _, _ => false
def HZ (ok : Ty -> Bool) (k : Nat) : Nat -> Ty -> Bool
 | 0, .unit => true
 | m + 1, .pair a b => ok a && (Nat.beq k a.size && HZ ok k m b)
 | _, _ => false
def P7 (P : Program) : Nat -> TypeId -> Ty -> Bool
 | 0, _, _ => false
 | n + 1, t, T => match P.underlying t, T with
  | some (.int k), .int k' => decide (k' = k)
  | some .bool, .bool => true
  | some .string, .str => true
  | some (.slice e), .sl T' => P7 P n e T' && (Nat.ble 1 (P.bytesOf e) && (Nat.beq (P.cellsOf e) T'.size && Nat.ble 1 T'.size))
  | some (.struct fs), T => Nat.beq (P.cellsOf t) T.size && EC (P7 P n) P fs.toList 0 T
  | some (.array m e), T => Nat.beq (P.cellsOf t) T.size && HZ (P7 P n e) (P.cellsOf e) m T
  | _, _ => false
section
variable {H : Type} {enc : TypeId × Value -> H} {P : Program} {w : World}
def ow0 : Own := fun _ => none
theorem PR {ok : TypeId -> Ty -> Bool} {fuel : Nat} (hok : ∀ t T cs d ps, ok t T = true -> DataW.trod enc P w 0 (fun _ => true) true fuel t cs = some (d, ps) -> (∀ x ∈ d.weights P t, x <= reachBytes) -> ∃ x : T.den, T.rep ow0 w cs x) :
  ∀ (fs : List Field) (off : Nat) (T : Ty) (cs : List Value) (xs : List (DataW H × List MemPlace)), EC ok P fs off T = true -> cs.length = off + T.size ->
   (fs.mapM fun f => DataW.trod enc P w 0 (fun _ => true) true fuel f.type ((cs.drop f.offset).take (P.cellsOf f.type))) = some xs ->
   (∀ x ∈ DataW.weightsEach P (fs.map (·.type)) (xs.map (·.1)), x <= reachBytes) -> ∃ x : T.den, T.rep ow0 w (cs.drop off) x
 | [], off, T, cs, xs, hk, hl, hm, hw => by
  cases T <;> simp [EC] at hk
  refine ⟨(), ?_⟩
  show cs.drop off = []
  rw [List.drop_eq_nil_iff]
  simp [Ty.size] at hl
  omega
 | f :: r, off, T, cs, xs, hk, hl, hm, hw => by
  cases T <;> simp only [EC, Bool.and_eq_true] at hk <;> try (cases hk; done)
  rename_i a b
  obtain ⟨h1, h2, h3, h5⟩ := hk
  have h2 := Nat.eq_of_beq_eq_true h2
  have h3 := Nat.eq_of_beq_eq_true h3
  simp only [List.mapM_cons, Option.pure_def, Option.bind_eq_bind] at hm
  obtain ⟨y, hy, hm⟩ := Option.bind_eq_some_iff.1 hm
  obtain ⟨ys, hys, hm⟩ := Option.bind_eq_some_iff.1 hm
  injection hm with hm
  subst hm
  simp only [List.map_cons, DataW.weightsEach, List.mem_append] at hw
  simp only [Ty.size] at hl
  obtain ⟨x1, hx1⟩ := hok f.type a _ y.1 y.2 h1 hy (fun x hx => hw x (.inl hx))
  obtain ⟨x2, hx2⟩ := PR hok r (off + a.size) b cs ys h5 (by omega) hys (fun x hx => hw x (.inr hx))
  refine ⟨(x1, x2), _, _, ?_, hx1, hx2⟩
  rw [h2, h3]
  have : cs.drop (off + a.size) = (cs.drop off).drop a.size := by rw [List.drop_drop]
  rw [this, List.take_append_drop]
theorem AAv {ok : Ty -> Bool} {k : Nat} {good : List Value -> Prop} (hok : ∀ T cs, ok T = true -> good cs -> ∃ x : T.den, T.rep ow0 w cs x) : ∀ (m : Nat) (T : Ty) (off : Nat) (cs : List Value), HZ ok k m T = true -> cs.length = (off + m) * k ->
  (∀ i, i < m -> good ((cs.drop ((off + i) * k)).take k)) -> ∃ x : T.den, T.rep ow0 w (cs.drop (off * k)) x
 | 0, T, off, cs, hk, hl, hg => by
  cases T <;> simp [HZ] at hk
  refine ⟨(), ?_⟩
  show cs.drop (off * k) = []
  rw [List.drop_eq_nil_iff]
  simp at hl
  omega
 | m + 1, T, off, cs, hk, hl, hg => by
  cases T <;> simp only [HZ, Bool.and_eq_true] at hk <;> try (cases hk; done)
  rename_i a b
  obtain ⟨h1, h2, h3⟩ := hk
  have h2 := Nat.eq_of_beq_eq_true h2
  obtain ⟨x1, hx1⟩ := hok a _ h1 (hg 0 (by omega))
  obtain ⟨x2, hx2⟩ := AAv hok m b (off + 1) cs h3 (by rw [hl]; congr 1; omega) (fun i hi => by rw [show off + 1 + i = off + (i + 1) by omega]; exact hg (i + 1) (by omega))
  refine ⟨(x1, x2), _, _, ?_, hx1, hx2⟩
  have : cs.drop ((off + 1) * k) = (cs.drop (off * k)).drop k := by rw [List.drop_drop, Nat.succ_mul]
  rw [this, Nat.add_zero, List.take_append_drop]
theorem Ha {e : TypeId} : ∀ (l : List (DataW H)) (d : DataW H), d ∈ l -> ∀ x ∈ d.weights P e, x ∈ DataW.weightsAll P e l
 | [], _, h, _, _ => by cases h
 | a :: l, d, h, x, hx => by
  simp only [DataW.weightsAll, List.mem_append]
  rcases List.mem_cons.1 h with rfl | h
  ·exact .inl hx
  ·exact .inr (Ha l d h x hx)
theorem KO : ∀ (n : Nat) (fuel : Nat) (t : TypeId) (T : Ty) (cs : List Value) (d : DataW H) (ps : List MemPlace), P7 P n t T = true -> DataW.trod enc P w 0 (fun _ => true) true fuel t cs = some (d, ps) -> (∀ x ∈ d.weights P t, x <= reachBytes) -> ∃ x : T.den, T.rep ow0 w cs x
 | 0, _, _, _, _, _, _, h, _, _ => by cases h
 | n + 1, 0, _, _, _, _, _, _, h, _ => by simp [DataW.trod] at h
 | n + 1, fuel + 1, t, T0, cs, d, ps, hk, hd, hw => by
  unfold P7 at hk
  unfold DataW.trod at hd
  split at hk
  ·rename_i k k' hu
   have hk := of_decide_eq_true hk
   subst hk
   rw [hu] at hd
   match cs, hd with
   | [.int k2 m], hd =>
    simp only at hd
    split at hd <;> try (cases hd; done)
    rename_i hc
    obtain ⟨rfl, hc⟩ := hc
    simp only [Lit.wf, Bool.and_eq_true, decide_eq_true_eq] at hc
    exact ⟨m, rfl, hc⟩
  ·rename_i hu
   rw [hu] at hd
   match cs, hd with
   | [.bool b], hd => exact ⟨b, rfl⟩
  ·rename_i hu
   rw [hu] at hd
   match cs, hd with
   | [.string s], hd =>
    simp only at hd
    split at hd <;> try (cases hd; done)
    injection hd with hd
    injection hd with hd _
    subst hd
    refine ⟨s, rfl, ?_⟩
    have := hw s.data.toList.length (by unfold DataW.weights; exact List.mem_singleton.2 rfl)
    have h2 := reachBytes_lt
    have h3 : s.data.toList.length = s.size := by rw [Array.length_toList]; rfl
    unfold lim
    omega
  ·rename_i e T' hu
   simp only [Bool.and_eq_true] at hk
   obtain ⟨h1, h2, h3, h4⟩ := hk
   have h2 := Nat.le_of_ble_eq_true h2
   have h3 := Nat.eq_of_beq_eq_true h3
   have h4 := Nat.le_of_ble_eq_true h4
   rw [hu] at hd
   match cs, hd with
   | [.slice none 0 0], hd => exact ⟨[], none, 0, rfl, Nat.le_refl _, Nat.zero_le _, Nat.zero_le _, .inl rfl⟩
   | [.slice (some a) len cap], hd =>
    simp only at hd
    split at hd <;> try (cases hd; done)
    rename_i hc
    obtain ⟨hb, hle, hcap⟩ := hc
    obtain ⟨elems, hel, hd⟩ := Option.bind_eq_some_iff.1 hd
    simp only [if_true, Option.map_eq_some_iff] at hd
    obtain ⟨rest, hrest, hd⟩ := hd
    injection hd with hd _
    subst hd
    have hlen := mapM_some_length hel
    have hrl := mapM_some_length hrest
    simp only [List.length_range] at hlen hrl
    simp only [DataW.weights, hu] at hw
    have hlim : len <= lim := by
     have := hw _ (List.mem_cons_self ..)
     simp only [List.length_map, hlen, hrl] at this
     have h5 := reachBytes_lt
     have : len * 1 <= (len + (cap - len)) * P.bytesOf e := Nat.mul_le_mul (by omega) h2
     unfold lim
     omega
    have each : ∀ i, i < len -> ∃ (ci : List Value) (x : T'.den), w.cells? 0 (a.add (i * P.cellsOf e)) (P.cellsOf e) = some ci /\ T'.rep ow0 w ci x := by
     intro i hi
     have hg := mapM_some_get hel i i (by simp [hi])
     have hlt : i < elems.length := by omega
     rw [List.getElem?_eq_getElem hlt] at hg
     obtain ⟨ci, hci, hy⟩ := Option.bind_eq_some_iff.1 hg
     obtain ⟨x, hx⟩ := KO n fuel e T' ci elems[i].1 elems[i].2 h1 hy (fun x hx => hw x (List.mem_cons_of_mem _ (List.mem_append_left _ (Ha _ _ (List.mem_map.2 ⟨elems[i], List.getElem_mem hlt, rfl⟩) x hx))))
     exact ⟨ci, x, hci, hx⟩
    rcases Nat.eq_zero_or_pos len with h0 | h0
    ·subst h0
     exact ⟨[], some a, cap, rfl, Nat.zero_le _, Nat.zero_le _, hcap, .inl rfl⟩
    have hsp : a.spot = none := by
     obtain ⟨ci, x, hci, hx⟩ := each 0 h0
     obtain ⟨_, c2, c3⟩ := World.cells?_some hci
     have h5 := c3 0 (by omega)
     have h6 : 0 < ci.length := by omega
     rw [List.getElem?_eq_getElem h6] at h5
     simp only [Nat.zero_mul, Addr.add, if_true] at h5
     cases hs : a.spot with
     | none => rfl
     | some sp =>
      exfalso
      simp only [World.cell?, hs] at h5
      split at h5 <;> simp at h5
    obtain ⟨g, o, sp⟩ := a
    simp only at hsp
    subst hsp
    -- the rows up to m
    have rows : ∀ m, m <= len -> ∃ (xs : List Value) (l : List T'.den), l.length = m /\ Rows (T'.rep ow0 w) xs l /\ xs.length = m * P.cellsOf e /\ Bp w g o xs := by
     intro m
     induction m with
     | zero => exact fun _ => ⟨[], [], rfl, rfl, by simp, by intro k v h; simp at h⟩
     | succ m ih =>
      intro hm
      obtain ⟨xs, l, r1, r2, r3, r4⟩ := ih (by omega)
      obtain ⟨ci, x, hci, hx⟩ := each m (by omega)
      obtain ⟨_, c2, c3⟩ := World.cells?_some hci
      refine ⟨xs ++ ci, l ++ [x], by simp [r1], Rows.app r2 (Rows.one hx), by rw [List.length_append, r3, c2, Nat.succ_mul], fun k v hv => ?_⟩
      rcases Nat.lt_or_ge k xs.length with hk | hk
      ·rw [List.getElem?_append_left hk] at hv
       exact r4 k v hv
      ·rw [List.getElem?_append_right hk] at hv
       have hki : k - xs.length < P.cellsOf e := by
        have := (List.getElem?_eq_some_iff.1 hv).1
        omega
       have := c3 (k - xs.length) hki
       rw [hv, add_lit, add_lit] at this
       rw [<- this]
       congr 2
       rw [r3] at hk ⊢
       omega
    obtain ⟨xs, l, r1, r2, r3, r4⟩ := rows len (Nat.le_refl _)
    have hx0 : 0 < xs.length := by rw [r3, h3]; exact Nat.mul_pos h0 h4
    have hc0 := r4 0 xs[0] (List.getElem?_eq_getElem hx0)
    exact ⟨l, _, cap, by rw [r1], by rw [r1]; exact hle, by rw [r1]; exact hlim, hcap, .inr ⟨g, o, xs, rfl, rfl, World.block_lt_of_cell? w _ hc0, r4, r2⟩⟩
  ·rename_i fs hu
   rw [hu] at hd
   simp only [Bool.and_eq_true] at hk
   obtain ⟨h1, h2⟩ := hk
   have h1 := Nat.eq_of_beq_eq_true h1
   simp only at hd
   split at hd <;> try (cases hd; done)
   rename_i hl
   simp only [Option.map_eq_some_iff] at hd
   obtain ⟨xs, hxs, hd⟩ := hd
   injection hd with hd _
   subst hd
   simp only [DataW.weights, hu] at hw
   obtain ⟨x, hx⟩ := PR (fun t T cs d ps => KO n fuel t T cs d ps) fs.toList 0 _ cs xs h2 (by rw [hl, h1]; omega) hxs hw
   exact ⟨x, by simpa using hx⟩
  ·rename_i m e hu
   rw [hu] at hd
   simp only [Bool.and_eq_true] at hk
   obtain ⟨h1, h2⟩ := hk
   have h1 := Nat.eq_of_beq_eq_true h1
   simp only at hd
   split at hd <;> try (cases hd; done)
   rename_i hl
   simp only [Option.map_eq_some_iff] at hd
   obtain ⟨xs, hxs, hd⟩ := hd
   injection hd with hd _
   subst hd
   simp only [DataW.weights, hu] at hw
   have hlen := mapM_some_length hxs
   simp only [List.length_range] at hlen
   have each : ∀ i, i < m -> ∃ d ps, DataW.trod enc P w 0 (fun _ => true) true fuel e ((cs.drop ((0 + i) * P.cellsOf e)).take (P.cellsOf e)) = some (d, ps) /\ ∀ x ∈ d.weights P e, x <= reachBytes := by
    intro i hi
    have hg := mapM_some_get hxs i i (by simp [hi])
    have hlt : i < xs.length := by omega
    rw [List.getElem?_eq_getElem hlt] at hg
    refine ⟨xs[i].1, xs[i].2, by rw [Nat.zero_add]; exact hg, fun x hx => hw x ?_⟩
    exact Ha _ _ (List.mem_map.2 ⟨xs[i], List.getElem_mem hlt, rfl⟩) x hx
   have hsz : ∀ (k m : Nat) (T : Ty), HZ (P7 P n e) k m T = true -> T.size = m * k := by
    intro k m
    induction m with
    | zero => intro T h; cases T <;> simp [HZ] at h; simp [Ty.size]
    | succ m ih =>
     intro T h
     cases T <;> simp only [HZ, Bool.and_eq_true] at h <;> try (cases h; done)
     obtain ⟨_, h2, h3⟩ := h
     have h2 := Nat.eq_of_beq_eq_true h2
     simp only [Ty.size]
     rw [ih _ h3, <- h2, Nat.succ_mul, Nat.add_comm]
   obtain ⟨x, hx⟩ := AAv (good := fun cs => ∃ d ps, DataW.trod enc P w 0 (fun _ => true) true fuel e cs = some (d, ps) /\ ∀ x ∈ d.weights P e, x <= reachBytes) (fun T cs hT hg => by
    obtain ⟨d, ps, g1, g2⟩ := hg
    exact KO n fuel e T cs d ps hT g1 g2) m _ 0 cs h2 (by rw [hl, h1, hsz _ _ _ h2, Nat.zero_add]) each
   exact ⟨x, by simpa using hx⟩
  ·cases hk
@[reducible] def Ty.flt : Ty -> Ty -> Ty
 | .pair a b, R => a.flt (b.flt R)
 | .unit, R => R
 | .int k, R => .pair (.int k) R
 | .bool, R => .pair .bool R
 | .str, R => .pair .str R
 | .fnT, R => .pair .fnT R
 | .sl t, R => .pair (.sl t) R
 | .ptr t, R => .pair (.ptr t) R
 | .CE K V, R => .pair (.CE K V) R
def AKV : (T R : Ty) -> T.den -> R.den -> (T.flt R).den
 | .pair a b, R, x, y => AKV a (b.flt R) x.1 (AKV b R x.2 y)
 | .unit, _, _, y => y
 | .int _, _, x, y => (x, y)
 | .bool, _, x, y => (x, y)
 | .str, _, x, y => (x, y)
 | .fnT, _, x, y => (x, y)
 | .sl _, _, x, y => (x, y)
 | .ptr _, _, x, y => (x, y)
 | .CE _ _, _, x, y => (x, y)
theorem UE {ow : Own} {w : World} : ∀ {T R : Ty} {cs ds : List Value} {x : T.den} {y : R.den}, T.rep ow w cs x -> R.rep ow w ds y -> (T.flt R).rep ow w (cs ++ ds) (AKV T R x y)
 | .pair a b, R, cs, ds, x, y, ⟨c1, c2, e, h1, h2⟩, h => by
  subst e
  rw [List.append_assoc]
  exact UE (T := a) h1 (UE (T := b) h2 h)
 | .unit, _, cs, _, _, _, h1, h => by
  have h1 : cs = [] := h1
  subst h1
  exact h
 | .int _, _, _, _, _, _, h1, h => ⟨_, _, rfl, h1, h⟩
 | .bool, _, _, _, _, _, h1, h => ⟨_, _, rfl, h1, h⟩
 | .str, _, _, _, _, _, h1, h => ⟨_, _, rfl, h1, h⟩
 | .fnT, _, _, _, _, _, h1, h => ⟨_, _, rfl, h1, h⟩
 | .sl _, _, _, _, _, _, h1, h => ⟨_, _, rfl, h1, h⟩
 | .ptr _, _, _, _, _, _, h1, h => ⟨_, _, rfl, h1, h⟩
 | .CE _ _, _, _, _, _, _, h1, h => ⟨_, _, rfl, h1, h⟩
end
end AL
end
section
set_option linter.unusedVariables false
set_option linter.unusedSimpArgs false
namespace AL
open Go Go.RowKit Go.WideShapes Go.ChangeShapes
@[reducible] def WX : Ty -> Ty
 | .pair a b => (Ty.pair a b).flt .unit
 | T => T
def AJT : (T : Ty) -> (WX T).den -> AV
 | .pair a b, x => .agg (DN ((Ty.pair a b).flt .unit) x)
 | .unit, x => .dat .unit x
 | .int k, x => .dat (.int k) x
 | .bool, x => .dat .bool x
 | .str, x => .dat .str x
 | .fnT, x => .dat .fnT x
 | .sl t, x => .dat (.sl t) x
 | .ptr t, x => .dat (.ptr t) x
 | .CE K V, x => .dat (.CE K V) x
@[reducible] def ZX : List Ty -> Ty
 | [] => .unit
 | T :: r => .pair (WX T) (ZX r)
def ZY : (l : List Ty) -> (ZX l).den -> AV
 | [], _ => .nil
 | T :: r, x => .cons (AJT T x.1) (ZY r x.2)
def Ty.fit : (T : Ty) -> T.den -> Prop
 | .int k, x => k.has x
 | .bool, _ => True
 | .str, s => s.size <= lim
 | .fnT, _ => True
 | .sl t, l => l.length <= lim /\ ∀ x ∈ l, t.fit x
 | .ptr t, x => t.fit x
 | .CE _ _, _ => True
 | .unit, _ => True
 | .pair a b, x => a.fit x.1 /\ b.fit x.2
theorem Rows.each {α : Type} {R : List Value -> α -> Prop} : ∀ {l : List α} {xs : List Value}, Rows R xs l -> ∀ x ∈ l, ∃ cs, R cs x
 | [], _, _, _, h => by cases h
 | a :: l, _, ⟨c, r, e, h1, h2⟩, x, hx => by
  rcases List.mem_cons.1 hx with rfl | hx
  ·exact ⟨c, h1⟩
  ·exact Rows.each h2 x hx
theorem Ty.H3 {ow : Nat -> Option Nat} {w : World} : ∀ {T : Ty} {cs : List Value} {x : T.den}, T.rep ow w cs x -> T.fit x
 | .int _, _, _, h => h.2
 | .bool, _, _, _ => trivial
 | .str, _, _, h => h.2
 | .fnT, _, _, _ => trivial
 | .sl t, _, l, ⟨_, _, _, _, hl, _, h⟩ => by
  refine ⟨hl, fun x hx => ?_⟩
  rcases h with rfl | ⟨_, _, _, _, _, _, _, hr⟩
  ·cases hx
  ·obtain ⟨cs, hc⟩ := Rows.each hr x hx
   exact Ty.H3 hc
 | .ptr t, _, _, ⟨_, _, _, _, _, cs', _, h⟩ => Ty.H3 (T := t) h
 | .CE _ _, _, _, _ => trivial
 | .unit, _, _, _ => trivial
 | .pair a b, _, _, ⟨_, _, _, h1, h2⟩ => ⟨Ty.H3 h1, Ty.H3 h2⟩
def AAw : (l : List Ty) -> (ZX l).den -> Prop
 | [], _ => True
 | T :: r, x => (WX T).fit x.1 /\ AAw r x.2
def AGq (P : Program) (t : TypeId) (T : Ty) : Bool := T.leaf || match P.underlying t, T with
 | some (.struct _), .pair _ _ => true
 | _, _ => false
def JT (P : Program) : List TypeId -> List Ty -> Bool
 | [], [] => true
 | t :: ts, T :: r => P7 P 12 t T && (AGq P t T && (P.readableRec t && (decide (t < P.types.size) && JT P ts r)))
 | _, _ => false
section
variable {H : Type} {enc : TypeId × Value -> H} {P : Program} {w : World}
theorem Mp {ok : TypeId -> Ty -> Bool} : ∀ (fs : List Field) (off : Nat) (T : Ty), EC ok P fs off T = true -> T.leaf = false
 | [], _, T, h => by cases T <;> first | rfl | (simp [EC] at h; done)
 | _ :: _, _, T, h => by cases T <;> first | rfl | (simp [EC] at h; done)
theorem UF {ok : Ty -> Bool} {k : Nat} : ∀ (m : Nat) (T : Ty), HZ ok k m T = true -> T.leaf = false
 | 0, T, h => by cases T <;> first | rfl | (simp [HZ] at h; done)
 | _ + 1, T, h => by cases T <;> first | rfl | (simp [HZ] at h; done)
theorem ACz {t : TypeId} {T : Ty} {v : Value} {base : Nat} (hk : P7 P 12 t T = true) (hl : T.leaf = true) (hv : Value.okWide P w .any base t v) : v.cells.toList = [v] := by
 unfold P7 at hk
 unfold Value.okWide at hv
 split at hk <;> rename_i hu
 ·rw [hu] at hv
  cases v <;> first | rfl | (simp [Cell.okWide, Cell.ok, hu] at hv; done)
 ·rw [hu] at hv
  cases v <;> first | rfl | (simp [Cell.okWide, Cell.ok, hu] at hv; done)
 ·rw [hu] at hv
  cases v <;> first | rfl | (simp [Cell.okWide, Cell.ok, hu] at hv; done)
 ·rw [hu] at hv
  cases v <;> first | rfl | (simp [Cell.okWide, Cell.ok, hu] at hv; done)
 ·exfalso
  simp only [Bool.and_eq_true] at hk
  have := Mp _ _ _ hk.2
  rw [hl] at this
  cases this
 ·exfalso
  simp only [Bool.and_eq_true] at hk
  have := UF _ _ hk.2
  rw [hl] at this
  cases this
 ·cases hk
theorem AIW {t : TypeId} {T : Ty} {v : Value} {base : Nat} (hk : P7 P 12 t T = true) (hp : AGq P t T = true) (hv : Value.okWide P w .any base t v) {x : T.den} (hx : T.rep ow0 w v.cells.toList x) : ∃ y : (WX T).den, (AJT T y).holds (fun _ => none) ow0 w [v] /\ (WX T).fit y := by
 cases hl : T.leaf with
 | true =>
  rw [ACz hk hl hv] at hx
  cases T <;> first | (cases hl; done) | exact ⟨x, ⟨rfl, hl, hx⟩, Ty.H3 hx⟩
 | false =>
  unfold AGq at hp
  rw [hl, Bool.false_or] at hp
  split at hp <;> try (cases hp; done)
  rename_i fs a b hu
  unfold Value.okWide at hv
  rw [hu] at hv
  obtain ⟨cs, rfl, _⟩ := hv
  have h0 : (Ty.unit).rep ow0 w [] () := rfl
  have hf := UE hx h0
  rw [List.append_nil] at hf
  exact ⟨_, ⟨cs, rfl, CM hf⟩, Ty.H3 hf⟩
theorem RT : ∀ (ts : List TypeId) (Ts : List Ty) (vs : List Value) (ds : List (DataW H)) (ps : List MemPlace), JT P ts Ts = true -> DataW.TrodAll enc P w 0 (fun _ => true) true ts vs ds ps ->
  (∀ (j : Nat) t v, ts[j]? = some t -> vs[j]? = some v -> ∃ base, Value.okWide P w .any base t v) -> (∀ x ∈ DataW.weightsEach P ts ds, x <= reachBytes) -> ∃ x : (ZX Ts).den, (ZY Ts x).holds (fun _ => none) ow0 w vs /\ AAw Ts x
 | [], [], vs, ds, ps, hk, h, hv, hw => by
  cases vs <;> cases ds <;> simp [DataW.TrodAll] at h
  exact ⟨(), rfl, trivial⟩
 | t :: ts, T :: Ts, vs, ds, ps, hk, h, hv, hw => by
  simp only [JT, Bool.and_eq_true] at hk
  obtain ⟨h1, h2, h3, h4, h5⟩ := hk
  cases vs <;> cases ds <;> simp only [DataW.TrodAll] at h <;> try (exact h.elim)
  rename_i v vs d ds
  obtain ⟨p, q, ⟨fuel, hf⟩, hq, _⟩ := h
  simp only [DataW.weightsEach, List.mem_append] at hw
  obtain ⟨base, hv0⟩ := hv 0 t v rfl rfl
  obtain ⟨x, hx⟩ := KO 12 fuel t T _ d p h1 hf (fun x hx => hw x (.inl hx))
  obtain ⟨y, hy, hyf⟩ := RT ts Ts vs ds q h5 hq (fun j t v a b => hv (j + 1) t v (by simpa using a) (by simpa using b)) (fun x hx => hw x (.inr hx))
  obtain ⟨z, hz, hzf⟩ := AIW h1 h2 hv0 hx
  exact ⟨(z, y), ⟨v, vs, rfl, hz, hy⟩, hzf, hyf⟩
 | [], _ :: _, _, _, _, hk, _, _, _ => by cases hk
 | _ :: _, [], _, _, _, hk, _, _, _ => by cases hk
theorem RU (hl : laidOutB P = true) {W' : World} (hb : Below w.heap.size w W') : ∀ (ts : List TypeId) (Ts : List Ty) (vs : List Value) (ds : List (DataW H)) (ps : List MemPlace), JT P ts Ts = true -> DataW.TrodAll enc P w 0 (fun _ => true) true ts vs ds ps ->
  (∀ x ∈ ps, x.block < w.heap.size) -> ∀ sp : Nat -> Bool, (∀ x ∈ ps, sp x.block = true) -> DataW.TrodAll enc P W' 0 sp true ts vs ds ps
 | [], [], vs, ds, ps, hk, h, hlt, sp, hsp => by
  cases vs <;> cases ds <;> simp [DataW.TrodAll] at h
  subst h
  rfl
 | t :: ts, T :: Ts, vs, ds, ps, hk, h, hlt, sp, hsp => by
  simp only [JT, Bool.and_eq_true] at hk
  obtain ⟨h1, h2, h3, h4, h5⟩ := hk
  cases vs <;> cases ds <;> simp only [DataW.TrodAll] at h <;> try (exact h.elim)
  rename_i v vs d ds
  obtain ⟨p, q, hp, hq, rfl⟩ := h
  exact ⟨p, q, WideElems.Trod_stays hl h3 (of_decide_eq_true h4) hp (fun x hx => hb.same (hlt x (List.mem_append_left _ hx))) (fun x hx => hsp x (List.mem_append_left _ hx)),
   RU hl hb ts Ts vs ds q h5 hq (fun x hx => hlt x (List.mem_append_right _ hx)) sp (fun x hx => hsp x (List.mem_append_right _ hx)), rfl⟩
 | [], _ :: _, _, _, _, hk, _, _, _, _ => by cases hk
 | _ :: _, [], _, _, _, hk, _, _, _, _ => by cases hk
theorem AGr {f : Func} {s : ChangeSpec} {fresh handsOn again : Bool} {W' : World} {args : Array Value} {ds gs : List (DataW H)} {before : List MemPlace} {Ts : List Ty} {tb : TypeId} (hl : laidOutB P = true) (hs : s.vars = []) (hfn : s.fn H (ds ++ []) = { results := [.lit (.bool true)], args := ds })
  (hW : DataW.Whole enc P f.params.toList s.vars false w args.toList ds gs before) (hk : JT P f.params.toList Ts = true) (hb : Below w.heap.size w W') (hrt : f.resultTypes = #[tb]) (hub : P.underlying tb = some .bool) :
  s.post enc P f false fresh handsOn again w args (.bool true) W' := by
 have hlt := hW.lt
 obtain ⟨p, q, hA, hV, rfl, hfz, _⟩ := id hW
 rw [hs] at hV
 obtain ⟨rfl, rfl⟩ := trodVars_none hV
 rw [List.append_nil] at hlt hfz hW
 have hargs : ∀ sp : Nat -> Bool, (∀ x ∈ p, sp x.block = true) -> DataW.TrodAll enc P W' 0 sp true f.params.toList args.toList ds p := RU hl hb _ Ts _ _ _ hk hA hlt
 have hres : ∀ (b : Nat) (sp : Nat -> Bool) (hd : Bool), DataW.TrodAll enc P W' b sp hd f.resultTypes.toList ((Value.bool true).resultList f.resultTypes.size) [.lit (.bool true)] [] := by
  intro b sp hd
  rw [hrt]
  exact ⟨[], [], ⟨1, by simp [DataW.trod, hub, Value.cells]⟩, rfl, rfl⟩
 refine ⟨ds, [], p, [], p, [], hW, by rw [hfn]; exact hres _ _ _, by rw [hfn]; exact hargs _ (fun x hx => by simpa using hlt x hx), by rw [hfn, hs]; rfl, World.keptBut_mono (fun x hx => ⟨hx, .inr (.inl hx)⟩) (hb.frame (· ∈ p)), fun _ => ?_⟩
 refine ⟨fun j t r h1 h2 => ?_, [.lit (.bool true)] ++ ds, [], [] ++ p, ⟨[] ++ p, [], trodAll_append (hargs _ (fun _ _ => rfl)) (hres _ _ _), by rw [hs]; rfl, by simp, ?_, fun h => by cases h⟩, ?_⟩
 ·rw [hrt] at h1 h2
  cases j with
  | zero =>
   simp only [List.getElem?_toArray, List.getElem?_cons_zero, Option.some.injEq] at h1
   subst h1
   have h2 : r = .bool true := by
    have : ((Value.bool true).resultList 1)[0]? = some r := h2
    simpa [Value.resultList] using this.symm
   subst h2
   simp [Value.okWide, hub, Cell.okWide, Cell.ok]
  | succ j => simp at h1
 ·intro b off hp
  have hp : MemPlace.cell b off ∈ p := by simpa using hp
  rw [hb.frozen (hlt _ hp)]
  exact hfz b off hp
 ·intro x hx _
  simpa using hx
end
end AL
end
section
set_option linter.unusedVariables false
set_option linter.unusedSimpArgs false
namespace AL
open Go Go.RowKit Go.WideShapes Go.ChangeShapes
abbrev AGs : Ty := .pair (.sl AB) (.pair (.sl Ar) (.pair (.sl AX) (.pair (.sl Ax) (.pair (.sl Ar) .unit))))
def hpG (g : Nat) : Nat -> Chunk := fun i => match Nat.beq i 15 with
 | true => .glb g
 | false => .none
theorem AIX {g : Nat} {w : World} (hg : g < w.heap.size) (hm : ∃ m, w.cell? ⟨g, 0, Option.none⟩ = some (.int .i64 m)) : Hyp (hpG g) 64 (fun _ => Option.none) ow0 w := by
 refine ⟨fun i => ?_, fun _ _ _ => rfl, fun b id h => by cases h⟩
 unfold hpG
 split
 ·exact ⟨rfl, hg, hm⟩
 ·trivial
section
variable {H : Type} {enc : TypeId × Value -> H} {P : Program} {w : World}
theorem ZZ {g : Nat} {f : FuncId} {T : Bo} (hT : AT P f T) (hg : g < w.heap.size) (hm : ∃ m, w.cell? ⟨g, 0, Option.none⟩ = some (.int .i64 m)) {Ts : List Ty} (x : (ZX Ts).den) {vs : Array Value} (hx : (ZY Ts x).holds (fun _ => none) ow0 w vs.toList) {o : Out} (hr : (T (ZY Ts x) 64).run (hpG g) = some o) (ho : o.Bu = []) {b : Bool} (hb : o.res = .dat .bool b) :
  Calls P f vs w fun e w' => e = .returned (.bool b) /\ Below w.heap.size w w' := by
 refine Calls.mono (hT _ 64 _ o _ _ w vs (AIX hg hm) hx hr (by rw [ho]; simp)).2 fun e w' he => ?_
 obtain ⟨v, rfl, φ', ow', hext, hres, _⟩ := he
 rw [hb] at hres
 have hv := BL hres
 refine ⟨by rw [hv], hext.os, hext.tape, hext.output, hext.size, fun k hk => (hext.blk k hk (fun id h => (by cases h))).2⟩
theorem WY {C : Checked} {os : Os} {f : FuncId} {fn : Func} {s : ChangeSpec} {T : Bo} {Ts : List Ty} {tb : TypeId} {fresh handsOn again : Bool} {X : World -> Prop} {g : Nat} (own : ownKnob C.prog.godebug = none) (started : os.Started) (noInit : C.prog.inits.idxOf? f = none) (hfn : C.prog.funcs[f]? = some fn)
  (witness : ∃ (w : World) (tape : Tape) (i : Input), w.os = os /\ (w.forCall tape i).Shaped C.prog /\ i.vars = [] /\ Input.okWide C.prog (w.forCall tape i) .any w.heap.size f i /\
   ((s.pre enc C.prog fn [] false (w.forCall tape i).memory i.args /\ X (w.forCall tape i).memory) /\ sizedMet enc C.prog fn (OpenSpec.ofChange s) false (w.forCall tape i).memory i.args) /\ Assume.holds {} C.prog (lone (Frame.enter C.prog f i.args .normal) [] (w.forCall tape i)))
  (hl : laidOutB C.prog = true) (hs : s.vars = []) (hspec : ∀ ds : List (DataW H), ds.length = fn.params.size -> s.fn H ds = { results := [.lit (.bool true)], args := ds }) (hk : JT C.prog fn.params.toList Ts = true) (hrt : fn.resultTypes = #[tb]) (hub : C.prog.underlying tb = some .bool)
  (hG : ∀ w : World, w.ShapedOpen C.prog -> g < w.heap.size /\ ∃ m, w.cell? ⟨g, 0, Option.none⟩ = some (.int .i64 m))
  (hT : AT C.prog f T) (hrun : ∀ x : (ZX Ts).den, AAw Ts x -> ∃ o, (T (ZY Ts x) 64).run (hpG g) = some o /\ o.Bu = [] /\ o.res = .dat .bool true) :
  ReturnsInHanded {} C os f .any (fun w args => (s.pre enc C.prog fn [] false w args /\ X w) /\ sizedMet enc C.prog fn (OpenSpec.ofChange s) false w args) (s.post enc C.prog fn false fresh handsOn again) := by
 refine returnsInHanded_of_calls own started noInit witness ?_
 intro w0 tape i _ hsh _ hok hpre _
 obtain ⟨_, _, _, fn', hfn', _, _, _, _, hval⟩ := hok
 obtain rfl : fn' = fn := Option.some.inj (hfn'.symm.trans hfn)
 obtain ⟨⟨⟨ds, gs, before, hw0, _⟩, _⟩, hz⟩ := hpre
 have hwt : (DataW.weightsEach C.prog (fn'.params.toList ++ s.plain.varTypes C.prog) (ds ++ gs)).all (· <= reachBytes) = true := hz.weights hw0
 have hW := DataW.Whole.of_heap (w' := w0.forCall tape i) (by rfl) hw0
 obtain ⟨p, q, hA, hV, rfl, hfz, hnd⟩ := id hW
 rw [hs] at hV
 obtain ⟨rfl, rfl⟩ := trodVars_none hV
 have hwt' : ∀ x ∈ DataW.weightsEach C.prog fn'.params.toList ds, x <= reachBytes := by
  rw [ChangeSpec.plain, hs] at hwt
  simpa [List.all_eq_true, DataSpec.varTypes] using hwt
 obtain ⟨x, hx, hxf⟩ := RT fn'.params.toList Ts i.args.toList ds p hk hA (fun j t v h1 h2 => ⟨w0.heap.size, hval j t v (by simpa using h1) (by simpa using h2)⟩) hwt'
 obtain ⟨o, h1, h2, h3⟩ := hrun x hxf
 obtain ⟨hg, hm⟩ := hG _ hsh
 refine (ZZ hT hg hm x hx h1 h2 h3).mono fun e W' ⟨he, hb⟩ => ?_
 subst he
 have hlen : ds.length = fn'.params.size := by
  have := trodAll_length hA
  rw [this.2]; simp
 exact ChangeSpec.post_blind (AGr hl hs (by rw [List.append_nil]; exact hspec ds hlen) hW hk hb hrt hub)
end
end AL
end
