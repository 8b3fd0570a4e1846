/-
  Generic: from an evaluation to a function's contract; how a state may be seen as a poorer one.
-/
import Derived.Test.YtommkfooolabhaaGreatDoorPm15
namespace Go.Pm
open Go Go.RowKit
set_option linter.unusedVariables false
set_option linter.unusedSimpArgs false
def EndK (T : Tab) (rs : List ResultVar) (Q : AV → Bool → Prop) : Exit → St → Prop
  | .ret, st | .normal, st => RetE T rs st Q
  | _, _ => False
def packV : List Value → Value
  | [v] => v
  | l => .tuple l.toArray
theorem run_results {P : Program} (fn : Func) (tmps : Array Value) (w : World) {vs : List Value} (h : (fn.results.toList.mapM (resV tmps)).run P w = .ok vs w) :
    (results fn tmps).run P w = .ok (packV vs) w := by
  have e : results fn tmps = (do let vs ← fn.results.mapM (resV tmps); pure (if h : vs.size = 1 then vs[0] else .tuple vs)) := by
    unfold results
    congr 1
  rw [e]
  simp only [Array.mapM_eq_mapM_toList, Sem.run_bind, Sem.run_map, h, Result.andThen_ok, Sem.run_pure]
  match vs with
  | [] => rfl
  | [v] => rfl
  | a :: b :: r => rfl
theorem pack_rep {F : Nat → Nat → Prop} {w : World} {ι : Nat → Option Nat} {vs : List Value} {l : List AV} (hl : vs.length = l.length) (h : ∀ (i : Nat) (v : Value) (c : AV), vs[i]? = some v → l[i]? = some c → Rep F w ι v c) :
    Rep F w ι (packV vs) (packR l) := by
  match vs, l, hl with
  | [], [], _ => exact .tup _ _ _ rfl h
  | [v], [a], _ => exact h 0 v a rfl rfl
  | x :: y :: vs, a :: b :: l, hl => exact .tup _ _ _ hl h
theorem FnR.of_ev {E : Env} {P : Program} {T : Tab} {rows : List Nat} (hT : TOk P T) (hm : P.follows .mixedOrders = true) {f : FuncId} {fn : Func} {code : Code} {args : List AV} {r : AV} {own : Bool}
    (hf : P.funcs[f]? = some fn) (hb : fn.body = some code) (hname : (fn.name == "runtime.NumGoroutine") = false) (hck : codeOk T fn.ntmps code = true) (hargs : Nat.ble args.length fn.ntmps = true)
    (h : (∀ a, a ∈ args → Wf a) → evK ⟨E, P, T, rows, 0, 0⟩ code (EndK T fn.results.toList fun r' own' => r' = r ∧ own' = own) (St.init args)) : FnR E P f args r own := by
  refine .inl ⟨⟨fn, hf, hname, by rw [hb]; rfl⟩, fun F w vals hgw hl hr => ?_⟩
  have hwf : ∀ a, a ∈ args → Wf a := fun a ha => by
    obtain ⟨i, hi, rfl⟩ := List.getElem_of_mem ha
    exact (hr i (vals[i]'(by omega)) _ (List.getElem?_eq_getElem _) (List.getElem?_eq_getElem hi)).wf
  have hle : args.length ≤ fn.ntmps := by simpa [Nat.ble_eq] using hargs
  let B : Base := { F := F, O := fun _ => none, w := w, nt := fn.ntmps }
  let G0 : Gh := { F := F, ι := fun _ => none, κ := fun _ => none, O := fun _ => none }
  have hconc : Conc E B G0 w { tmps := vals.toArray ++ Array.replicate (fn.ntmps - vals.toArray.size) undef, defers := [] } (St.init args) := by
    refine ⟨⟨hgw.fin, fun b i hi => (by cases hi), Nat.le_refl _, fun b _ _ => ⟨rfl, rfl⟩, fun b o hb => ⟨hb, rfl⟩, fun b o hb => .inl hb, rfl, rfl, rfl, hgw.glob, hgw.gb, fun i g h => (by cases h), fun i r h => (by cases h), fun _ _ h => h⟩, by simp [B]; omega, rfl, fun l => ?_⟩
    cases l with
    | slot t =>
      refine ⟨?_, trivial⟩
      simp only [St.init]
      rcases Nat.lt_or_ge t args.length with ht | ht
      · have h1 : args.getD t .any = args[t] := by simp [List.getD, ht]
        have h2 : (vals.toArray ++ Array.replicate (fn.ntmps - vals.toArray.size) undef).getD t undef = vals[t]'(by omega) := by
          rw [Array.getD_eq_getD_getElem?, Array.getElem?_append_left (by simp; omega)]
          simp [show t < vals.length by omega]
        rw [h1, h2]
        exact hr t _ _ (List.getElem?_eq_getElem _) (List.getElem?_eq_getElem ht)
      · have h1 : args.getD t .any = .any := by simp [List.getD, List.getElem?_eq_none ht]
        rw [h1]; exact .any ..
    | obj i => simp [RepL, St.init, RepObj, G0]
    | tok i => simp [RepL, St.init, RepTok, G0]
  refine calls_of_wp hf hb (wp_mono (evK_ok (C := ⟨E, P, T, rows, 0, 0⟩) hT hm (B := B) rfl rfl code _ _ hck (h hwf) G0 w _ hconc) fun e a w' hp => ?_)
  obtain ⟨st, G, hk, hst⟩ := hp
  have hbel : Below w.heap.size w w' := ⟨hst.good.os, hst.good.tape, hst.good.output, hst.good.size, fun b hb' => (hst.good.old b hb' rfl).2⟩
  have hFF : ∀ b o, F b o → G.F b o := fun b o hbo => (hst.good.keep b o hbo).1
  have hFn : ∀ b o, G.F b o → b < w'.heap.size ∧ (F b o ∨ w.heap.size ≤ b) := fun b o hbo => ⟨hst.good.fin b o hbo, by
    rcases hst.good.new b o hbo with h1 | h1 | h1
    · exact .inl h1
    · exact .inr h1
    · exact absurd rfl h1⟩
  have hown : ∀ g i, G.O g = some i → g < w'.heap.size ∧ w.heap.size ≤ g := fun g i hi => ⟨(hst.good.own g i hi).1, by
    rcases Nat.lt_or_ge g w.heap.size with h1 | h1
    · have := (hst.good.old g h1 rfl).1
      rw [this] at hi; cases hi
    · exact h1⟩
  have hend : RetE T fn.results.toList st (fun r' own' => r' = r ∧ own' = own) → a.defers = [] ∧ ∃ v, (results fn a.tmps).run P w' = .ok v w' ∧ ∃ v' F', Ending.returned v = .returned v' ∧ Below w.heap.size w w' ∧ (∀ b o, F b o → F' b o) ∧
      (∀ b o, F' b o → b < w'.heap.size ∧ (F b o ∨ w.heap.size ≤ b)) ∧ Rep F' w' (fun _ => none) v' r ∧ (own = true → OwnRes w F' w' v' r) := by
    intro hret
    refine ⟨hst.defers, ?_⟩
    cases hret with
    | plain hres =>
      obtain ⟨l, ⟨hp, hq, ho⟩, vs, hrun, hlen, hrep⟩ := resE_ok hT hst _ _ hres
      refine ⟨_, run_results fn a.tmps w' hrun, _, G.F, rfl, hbel, hFF, hFn, ?_, fun h => by rw [← ho] at h; cases h⟩
      rw [← hq]
      exact (pack_rep hlen hrep).pure (AV.puR_ok hp) _
    | frz hres =>
      obtain ⟨l, ⟨r', hfz, hq, ho⟩, vs, hrun, hlen, hrep⟩ := resE_ok hT hst _ _ hres
      refine ⟨_, run_results fn a.tmps w' hrun, _, frzF G st.H, rfl, hbel, fun b o hb' => .inl (hFF b o hb'), fun b o hb' => ?_, ?_, fun h => by rw [← ho] at h; cases h⟩
      · rcases hb' with hb' | ⟨id, t, cs, tg, h1, h2, h3⟩
        · exact hFn b o hb'
        · have hobj := hst.rep (.obj id)
          simp only [RepL, h1] at hobj
          obtain ⟨g', i1, i2, _⟩ := hobj.resolve_left (by rintro ⟨rfl, _⟩; simp at h3)
          rw [i1] at h2
          injection h2 with h2
          subst h2
          exact ⟨(hown _ _ i2).1, .inr (hown _ _ i2).2⟩
      · rw [← hq]
        exact hfz.rep hst _ (pack_rep hlen hrep)
    | own t i hr hg hk hs hq =>
      obtain ⟨hq, ho⟩ := hq
      have hslot := hst.rep (.slot t)
      simp only [RepL, hg] at hslot
      obtain ⟨hrep, htg⟩ := hslot
      obtain ⟨sz, xs, n, cap, g, lo, hi, ad, t1, t2, t3, t4, t5, t6, t7⟩ := htg.list fun cs e => by rw [e] at hs; cases hs
      have hrun : (results fn a.tmps).run P w' = .ok (a.tmps.getD t undef) w' := by
        have := run_results (P := P) fn a.tmps w' (vs := [a.tmps.getD t undef]) (by rw [hr]; simp [resV])
        exact this
      refine ⟨_, hrun, _, G.F, rfl, hbel, hFF, hFn, ?_, fun _ => ?_⟩
      · rw [← hq, t1]
        rw [t1] at hrep
        exact hrep.pure (.list _ _) _
      · refine ⟨sz, xs, n, cap, g, lo, hi, ad, by rw [← hq]; exact t1, t2, t4, t5, t6, ?_⟩
        rcases t7 with t7 | ⟨t7, o1, ta, tb, tc⟩
        · exact .inl t7
        · have htok := hst.rep (.tok i)
          simp only [RepL] at htok
          have hx : G.O g = some (.inr i) ∧ (∀ x, lo ≤ x → ¬ G.F g x) ∧ ∃ vals t fz, w'.heap[g]? = some (.cells vals t fz) ∧ hi ≤ vals.size ∧ ∀ x, lo ≤ x → x < hi → ¬ inFz fz x := by
            cases hki : st.k[i]? with
            | none => rw [hki] at hk; cases hk
            | some tk =>
              rw [hki] at hk htok
              match tk, htok, hk with
              | 0, _, ha => cases ha
              | 1, ⟨g', lo', hi', k1, k2⟩, _ =>
                rw [t3] at k1
                injection k1 with k1
                injection k1 with k1a k1
                injection k1 with k1b k1c
                subst k1a k1b k1c
                exact k2 t7
              | _ + 2, ⟨g', lo', k1⟩, _ =>
                rw [t3] at k1
                injection k1 with k1
                injection k1 with k1a k1
                injection k1 with k1b k1c
                omega
          obtain ⟨x1, x2, x3⟩ := hx
          exact .inr ⟨t7, ⟨o1, ta, tb, tc⟩, (hown _ _ x1).2, x2, x3⟩
  cases e with
  | normal => exact hend hk
  | ret => exact hend hk
  | exit i => exact hk.elim
  | goto l => exact hk.elim
  | panic ch => exact hk.elim
  | outgrown => exact hk.elim
def EndM (T : Tab) (rs : List ResultVar) (es : List (AV × AV)) : Exit → St → Prop
  | .ret, st | .normal, st => resE T st rs fun l => ∃ id, packR l = .mapv id ∧ st.H[id]? = some (.mp (.mapP es))
  | _, _ => False
theorem FnM.of_ev {E : Env} {P : Program} {T : Tab} {rows : List Nat} (hT : TOk P T) (hm : P.follows .mixedOrders = true) {f : FuncId} {fn : Func} {code : Code} {args : List AV} {es : List (AV × AV)}
    (hf : P.funcs[f]? = some fn) (hb : fn.body = some code) (hname : (fn.name == "runtime.NumGoroutine") = false) (hck : codeOk T fn.ntmps code = true) (hargs : Nat.ble args.length fn.ntmps = true)
    (h : (∀ a, a ∈ args → Wf a) → evK ⟨E, P, T, rows, 0, 0⟩ code (EndM T fn.results.toList es) (St.init args)) : FnM E P f args es := by
  refine ⟨⟨fn, hf, hname, by rw [hb]; rfl⟩, fun F w vals hgw hl hr => ?_⟩
  have hwf : ∀ a, a ∈ args → Wf a := fun a ha => by
    obtain ⟨i, hi, rfl⟩ := List.getElem_of_mem ha
    exact (hr i (vals[i]'(by omega)) _ (List.getElem?_eq_getElem _) (List.getElem?_eq_getElem hi)).wf
  have hle : args.length ≤ fn.ntmps := by simpa [Nat.ble_eq] using hargs
  let B : Base := { F := F, O := fun _ => none, w := w, nt := fn.ntmps }
  let G0 : Gh := { F := F, ι := fun _ => none, κ := fun _ => none, O := fun _ => none }
  have hconc : Conc E B G0 w { tmps := vals.toArray ++ Array.replicate (fn.ntmps - vals.toArray.size) undef, defers := [] } (St.init args) := by
    refine ⟨⟨hgw.fin, fun b i hi => (by cases hi), Nat.le_refl _, fun b _ _ => ⟨rfl, rfl⟩, fun b o hb => ⟨hb, rfl⟩, fun b o hb => .inl hb, rfl, rfl, rfl, hgw.glob, hgw.gb, fun i g h => (by cases h), fun i r h => (by cases h), fun _ _ h => h⟩, by simp [B]; omega, rfl, fun l => ?_⟩
    cases l with
    | slot t =>
      refine ⟨?_, trivial⟩
      simp only [St.init]
      rcases Nat.lt_or_ge t args.length with ht | ht
      · have h1 : args.getD t .any = args[t] := by simp [List.getD, ht]
        have h2 : (vals.toArray ++ Array.replicate (fn.ntmps - vals.toArray.size) undef).getD t undef = vals[t]'(by omega) := by
          rw [Array.getD_eq_getD_getElem?, Array.getElem?_append_left (by simp; omega)]
          simp [show t < vals.length by omega]
        rw [h1, h2]
        exact hr t _ _ (List.getElem?_eq_getElem _) (List.getElem?_eq_getElem ht)
      · have h1 : args.getD t .any = .any := by simp [List.getD, List.getElem?_eq_none ht]
        rw [h1]; exact .any ..
    | obj i => simp [RepL, St.init, RepObj, G0]
    | tok i => simp [RepL, St.init, RepTok, G0]
  refine calls_of_wp hf hb (wp_mono (evK_ok (C := ⟨E, P, T, rows, 0, 0⟩) hT hm (B := B) rfl rfl code _ _ hck (h hwf) G0 w _ hconc) fun e a w' hp => ?_)
  obtain ⟨st, G, hk, hst⟩ := hp
  have hbel : Below w.heap.size w w' := ⟨hst.good.os, hst.good.tape, hst.good.output, hst.good.size, fun b hb' => (hst.good.old b hb' rfl).2⟩
  have hFF : ∀ b o, F b o → G.F b o := fun b o hbo => (hst.good.keep b o hbo).1
  have hFn : ∀ b o, G.F b o → b < w'.heap.size ∧ (F b o ∨ w.heap.size ≤ b) := fun b o hbo => ⟨hst.good.fin b o hbo, by
    rcases hst.good.new b o hbo with h1 | h1 | h1
    · exact .inl h1
    · exact .inr h1
    · exact absurd rfl h1⟩
  have hown : ∀ g i, G.O g = some i → g < w'.heap.size ∧ w.heap.size ≤ g := fun g i hi => ⟨(hst.good.own g i hi).1, by
    rcases Nat.lt_or_ge g w.heap.size with h1 | h1
    · have := (hst.good.old g h1 rfl).1
      rw [this] at hi; cases hi
    · exact h1⟩
  have hend : (resE T st fn.results.toList fun l => ∃ id, packR l = .mapv id ∧ st.H[id]? = some (.mp (.mapP es))) → a.defers = [] ∧ ∃ v, (results fn a.tmps).run P w' = .ok v w' ∧ ∃ g F', Ending.returned v = .returned (.map (some g)) ∧ Below w.heap.size w w' ∧ (∀ b o, F b o → F' b o) ∧
      (∀ b o, F' b o → b < w'.heap.size ∧ (F b o ∨ w.heap.size ≤ b)) ∧ g < w'.heap.size ∧ w.heap.size ≤ g ∧ (∀ x, ¬ F' g x) ∧ ∃ es', es'.Perm es ∧ MapAt F' w' g es' := by
    intro hres
    refine ⟨hst.defers, ?_⟩
    obtain ⟨l, ⟨id, hp, hid⟩, vs, hrun, hlen, hrep⟩ := resE_ok hT hst _ _ hres
    have hv := pack_rep hlen hrep
    have hr2 := run_results fn a.tmps w' hrun
    rw [hp] at hv
    generalize packV vs = v at hv hr2
    cases hv with
    | mapv _ _ g hg =>
    have hobj := hst.rep (.obj id)
    simp only [RepL, hid] at hobj
    obtain ⟨g', i1, i2, i3, i4⟩ := hobj
    rw [hg] at i1
    injection i1 with i1
    subst i1
    exact ⟨_, hr2, g, G.F, rfl, hbel, hFF, hFn, (hown _ _ i2).1, (hown _ _ i2).2, i3, i4⟩
  cases e with
  | normal => exact hend hk
  | ret => exact hend hk
  | exit i => exact hk.elim
  | goto l => exact hk.elim
  | panic ch => exact hk.elim
  | outgrown => exact hk.elim
def EndN (T : Tab) (rs : List ResultVar) (t : TypeId) (cs : List AV) (n sz : Nat) : Exit → St → Prop
  | .ret, st | .normal, st => resE T st rs fun l => ∃ id tg, packR l = .row id 0 n sz ∧ st.H[id]? = some (.cells t cs tg) ∧ cs.all AV.puB = true
  | _, _ => False
theorem FnN.of_ev {E : Env} {P : Program} {T : Tab} {rows : List Nat} (hT : TOk P T) (hm : P.follows .mixedOrders = true) {f : FuncId} {fn : Func} {code : Code} {args : List AV} {t : TypeId} {cs : List AV} {n sz : Nat}
    (hf : P.funcs[f]? = some fn) (hb : fn.body = some code) (hname : (fn.name == "runtime.NumGoroutine") = false) (hck : codeOk T fn.ntmps code = true) (hargs : Nat.ble args.length fn.ntmps = true)
    (h : (∀ a, a ∈ args → Wf a) → evK ⟨E, P, T, rows, 0, 0⟩ code (EndN T fn.results.toList t cs n sz) (St.init args)) : FnN E P f args t cs n sz := by
  refine ⟨⟨fn, hf, hname, by rw [hb]; rfl⟩, fun F w vals hgw hl hr => ?_⟩
  have hwf : ∀ a, a ∈ args → Wf a := fun a ha => by
    obtain ⟨i, hi, rfl⟩ := List.getElem_of_mem ha
    exact (hr i (vals[i]'(by omega)) _ (List.getElem?_eq_getElem _) (List.getElem?_eq_getElem hi)).wf
  have hle : args.length ≤ fn.ntmps := by simpa [Nat.ble_eq] using hargs
  let B : Base := { F := F, O := fun _ => none, w := w, nt := fn.ntmps }
  let G0 : Gh := { F := F, ι := fun _ => none, κ := fun _ => none, O := fun _ => none }
  have hconc : Conc E B G0 w { tmps := vals.toArray ++ Array.replicate (fn.ntmps - vals.toArray.size) undef, defers := [] } (St.init args) := by
    refine ⟨⟨hgw.fin, fun b i hi => (by cases hi), Nat.le_refl _, fun b _ _ => ⟨rfl, rfl⟩, fun b o hb => ⟨hb, rfl⟩, fun b o hb => .inl hb, rfl, rfl, rfl, hgw.glob, hgw.gb, fun i g h => (by cases h), fun i r h => (by cases h), fun _ _ h => h⟩, by simp [B]; omega, rfl, fun l => ?_⟩
    cases l with
    | slot t =>
      refine ⟨?_, trivial⟩
      simp only [St.init]
      rcases Nat.lt_or_ge t args.length with ht | ht
      · have h1 : args.getD t .any = args[t] := by simp [List.getD, ht]
        have h2 : (vals.toArray ++ Array.replicate (fn.ntmps - vals.toArray.size) undef).getD t undef = vals[t]'(by omega) := by
          rw [Array.getD_eq_getD_getElem?, Array.getElem?_append_left (by simp; omega)]
          simp [show t < vals.length by omega]
        rw [h1, h2]
        exact hr t _ _ (List.getElem?_eq_getElem _) (List.getElem?_eq_getElem ht)
      · have h1 : args.getD t .any = .any := by simp [List.getD, List.getElem?_eq_none ht]
        rw [h1]; exact .any ..
    | obj i => simp [RepL, St.init, RepObj, G0]
    | tok i => simp [RepL, St.init, RepTok, G0]
  refine calls_of_wp hf hb (wp_mono (evK_ok (C := ⟨E, P, T, rows, 0, 0⟩) hT hm (B := B) rfl rfl code _ _ hck (h hwf) G0 w _ hconc) fun e a w' hp => ?_)
  obtain ⟨st, G, hk, hst⟩ := hp
  have hbel : Below w.heap.size w w' := ⟨hst.good.os, hst.good.tape, hst.good.output, hst.good.size, fun b hb' => (hst.good.old b hb' rfl).2⟩
  have hFF : ∀ b o, F b o → G.F b o := fun b o hbo => (hst.good.keep b o hbo).1
  have hFn : ∀ b o, G.F b o → b < w'.heap.size ∧ (F b o ∨ w.heap.size ≤ b) := fun b o hbo => ⟨hst.good.fin b o hbo, by
    rcases hst.good.new b o hbo with h1 | h1 | h1
    · exact .inl h1
    · exact .inr h1
    · exact absurd rfl h1⟩
  have hown : ∀ g i, G.O g = some i → g < w'.heap.size ∧ w.heap.size ≤ g := fun g i hi => ⟨(hst.good.own g i hi).1, by
    rcases Nat.lt_or_ge g w.heap.size with h1 | h1
    · have := (hst.good.old g h1 rfl).1
      rw [this] at hi; cases hi
    · exact h1⟩
  have hend : (resE T st fn.results.toList fun l => ∃ id tg, packR l = .row id 0 n sz ∧ st.H[id]? = some (.cells t cs tg) ∧ cs.all AV.puB = true) → a.defers = [] ∧ ∃ v, (results fn a.tmps).run P w' = .ok v w' ∧ ∃ v' g F', Ending.returned v = .returned v' ∧ Below w.heap.size w w' ∧ (∀ b o, F b o → F' b o) ∧
      (∀ b o, F' b o → b < w'.heap.size ∧ (F b o ∨ w.heap.size ≤ b)) ∧ Rep F' w' (rowI g) v' (.row 0 0 n sz) ∧ (∀ q, g = some q → q < w'.heap.size ∧ w.heap.size ≤ q ∧ (∀ x, ¬ F' q x) ∧ ∃ vals fz, w'.heap[q]? = some (.cells vals t fz) ∧
        (∀ i, i < vals.size → ¬ inFz fz i) ∧ cs.length ≤ vals.size ∧ ∀ (j : Nat) (c : AV), cs[j]? = some c → ∃ v, vals[j]? = some v ∧ v.oneCell' = true ∧ Rep F' w' (fun _ => none) v c) ∧ (g = none → cs = []) := by
    intro hres
    refine ⟨hst.defers, ?_⟩
    obtain ⟨l, ⟨id, tg, hp, hid, hpu⟩, vs, hrun, hlen, hrep⟩ := resE_ok hT hst _ _ hres
    have hv := pack_rep hlen hrep
    have hr2 := run_results fn a.tmps w' hrun
    rw [hp] at hv
    generalize packV vs = v at hv hr2
    have hobj := hst.rep (.obj id)
    simp only [RepL, hid] at hobj
    rcases hobj with ⟨hcs, hn⟩ | ⟨g, i1, i2, i3, vals, fz, i4, i5, i6, i7⟩
    · refine ⟨_, hr2, v, none, G.F, rfl, hbel, hFF, hFn, ?_, (fun q hq => by cases hq), fun _ => hcs⟩
      cases hv with
      | row _ _ _ _ cap _ g hg => rw [hn] at hg; cases hg
      | row0 => exact .row0 ..
    · refine ⟨_, hr2, v, some g, G.F, rfl, hbel, hFF, hFn, ?_, fun q hq => ?_, fun h => by cases h⟩
      · cases hv with
        | row _ _ _ _ cap _ g' hg hc hm hb => exact .row _ _ _ _ _ _ _ (i1.symm.trans hg) hc hm hb
        | row0 => exact .row0 ..
      · injection hq with hq
        subst hq
        refine ⟨(hown _ _ i2).1, (hown _ _ i2).2, i3, vals, fz, i4, i5, i6, fun j c hj => ?_⟩
        obtain ⟨v, v1, v2, v3, _⟩ := i7 j c hj
        exact ⟨v, v1, v2, v3.pure (AV.puB_ok (List.all_eq_true.1 hpu c (List.mem_of_getElem? hj))) _⟩
  cases e with
  | normal => exact hend hk
  | ret => exact hend hk
  | exit i => exact hk.elim
  | goto l => exact hk.elim
  | panic ch => exact hk.elim
  | outgrown => exact hk.elim
structure Slot where
  t : Nat
  v : AV
  tag : Option Nat
def slotsAV : List Slot → Nat → AV
  | [], _ => .any
  | s :: r, t => bif Nat.beq t s.t then s.v else slotsAV r t
def slotsTag : List Slot → Nat → Option Nat
  | [], _ => none
  | s :: r, t => bif Nat.beq t s.t then s.tag else slotsTag r t
def St.of (L : List Slot) (H : List AObj) (k : List Nat) : St := { s := slotsAV L, g := slotsTag L, H := H, k := k }
def tgOk (m : Nat) (ρ : Nat → Nat) (tg tg' : List (Nat × Nat)) : Bool :=
  tg'.all fun p => Nat.blt p.2 m && (match tg.lookup p.1 with | some i => Nat.beq i (ρ p.2) | none => false)
theorem lookup_mem {l : List (Nat × Nat)} {j i : Nat} (h : l.lookup j = some i) : (j, i) ∈ l := by
  induction l with
  | nil => cases h
  | cons x l ih =>
    obtain ⟨a, b⟩ := x
    simp only [List.lookup] at h
    split at h
    · rename_i hh
      injection h with h
      have := eq_of_beq hh
      subst this h
      exact List.mem_cons_self ..
    · exact List.mem_cons_of_mem _ (ih h)
theorem tgOk_at {m : Nat} {ρ : Nat → Nat} {tg tg' : List (Nat × Nat)} (h : tgOk m ρ tg tg' = true) {j i : Nat} (hl : tg'.lookup j = some i) : i < m ∧ tg.lookup j = some (ρ i) := by
  have := List.all_eq_true.1 h _ (lookup_mem hl)
  simp only [Bool.and_eq_true, Nat.blt_eq] at this
  refine ⟨this.1, ?_⟩
  have h2 := this.2
  split at h2
  · rename_i i' hh
    rw [hh, Nat.eq_of_beq_eq_true h2]
  · cases h2
def KeepO (m : Nat) (ρ : Nat → Nat) : AObj → AObj → Prop
  | _, .dead => True
  | .cells t cs tg, .cells t' cs' tg' => t = t' ∧ cs = cs' ∧ tgOk m ρ tg tg' = true
  | .mp es, .mp es' => es = es'
  | _, _ => False
def KeepH (m : Nat) (ρ : Nat → Nat) : List AObj → List AObj → Prop
  | _, [] => True
  | x :: l, y :: l' => KeepO m ρ x y ∧ KeepH m ρ l l'
  | [], _ :: _ => False
theorem KeepH.at_ {m : Nat} {ρ : Nat → Nat} : ∀ {l l' : List AObj}, KeepH m ρ l l' → ∀ (i : Nat) (y : AObj), l'[i]? = some y → y = .dead ∨ (∃ t cs tg tg', y = .cells t cs tg' ∧ l[i]? = some (.cells t cs tg) ∧ tgOk m ρ tg tg' = true) ∨ ∃ es, y = .mp es ∧ l[i]? = some (.mp es)
  | _, [], _, i, y, h => by simp at h
  | [], _ :: _, hk, _, _, _ => hk.elim
  | x :: l, z :: l', hk, i, y, h => by
    cases i with
    | zero =>
      simp only [List.getElem?_cons_zero, Option.some.injEq] at h
      subst h
      have h1 := hk.1
      cases z with
      | dead => exact .inl rfl
      | cells t' cs' tg' =>
        cases x with
        | dead => exact h1.elim
        | mp => exact h1.elim
        | cells t cs tg =>
          obtain ⟨rfl, rfl, h2⟩ := h1
          exact .inr (.inl ⟨t, cs, tg, tg', rfl, rfl, h2⟩)
      | mp es' =>
        cases x with
        | dead => exact h1.elim
        | cells => exact h1.elim
        | mp es =>
          obtain rfl := h1
          exact .inr (.inr ⟨es, rfl, rfl⟩)
    | succ i =>
      simp only [List.getElem?_cons_succ] at h
      simpa using hk.2.at_ i y h
theorem KeepH.len {m : Nat} {ρ : Nat → Nat} : ∀ {l l' : List AObj}, KeepH m ρ l l' → l'.length ≤ l.length
  | _, [], _ => Nat.zero_le _
  | [], _ :: _, hk => hk.elim
  | _ :: _, _ :: _, hk => by simp only [List.length_cons]; have := hk.2.len; omega
structure KeepK (k : List Nat) (ρ : Nat → Nat) (k' : List Nat) : Prop where
  at_ : ∀ i, i < k'.length → k'[i]? = some 0 ∨ (k'[i]? = some 1 ∧ (k[ρ i]?.any (Nat.blt 0)) = true) ∨ (k'[i]? = some 2 ∧ k[ρ i]? = some 2)
  inj : ∀ i j, i < k'.length → j < k'.length → k'[i]? ≠ some 0 → k'[j]? ≠ some 0 → ρ i = ρ j → i = j
def mapD (ρ : Nat → Nat) : Nat → Nat
  | t + 2 => ρ t + 2
  | d => d
theorem mapD_one {ρ : Nat → Nat} : ∀ {d : Nat}, mapD ρ d = 1 → d = 1
  | 0, h => by cases h
  | 1, _ => rfl
  | t + 2, h => by have h : ρ t + 2 = 1 := h; omega
theorem mapD_tok {ρ : Nat → Nat} {t' : Nat} : ∀ {d : Nat}, mapD ρ d = t' + 2 → ∃ t, d = t + 2 ∧ ρ t = t'
  | 0, h => by cases h
  | 1, h => by have h : 1 = t' + 2 := h; omega
  | t + 2, h => ⟨t, rfl, by have h : ρ t + 2 = t' + 2 := h; omega⟩
def renD (ρ : Nat → Nat) : Nat → Nat → Nat
  | 0, _ => 0
  | n + 1, m => mapD ρ (m % 64) + 64 * renD ρ n (m / 64)
def okD (b : Nat) (ρ : Nat → Nat) : Nat → Bool
  | t + 2 => Nat.blt t b && Nat.blt (ρ t) 62
  | _ => true
theorem okD_tok {b : Nat} {ρ : Nat → Nat} {t : Nat} (h : okD b ρ (t + 2) = true) : t < b ∧ ρ t < 62 := by simpa [okD, Nat.blt_eq] using h
theorem mapD_lt {b : Nat} {ρ : Nat → Nat} : ∀ {d : Nat}, okD b ρ d = true → d < 64 → mapD ρ d < 64
  | 0, _, h => h
  | 1, _, h => h
  | t + 2, h, _ => Nat.add_lt_add_right (okD_tok h).2 2
def dgIn (b : Nat) (ρ : Nat → Nat) : Nat → Nat → Bool
  | 0, _ => true
  | n + 1, m => okD b ρ (m % 64) && dgIn b ρ n (m / 64)
theorem renD_dg {b : Nat} {ρ : Nat → Nat} : ∀ (n m : Nat), dgIn b ρ n m = true → ∀ j, j < n → dg (renD ρ n m) j = mapD ρ (dg m j) ∧ ∀ t, dg m j = t + 2 → t < b
  | 0, m, _, j, hj => by omega
  | n + 1, m, h, j, hj => by
    unfold dgIn at h
    rw [Bool.and_eq_true] at h
    unfold renD
    rw [dg_cons (mapD_lt h.1 (Nat.mod_lt _ (by decide)))]
    cases j with
    | zero =>
      rw [dg_zero]
      exact ⟨rfl, fun t e => by have h1 := h.1; rw [e] at h1; exact (okD_tok h1).1⟩
    | succ j => rw [dg_succ]; exact renD_dg n (m / 64) h.2 j (by omega)
def tIn (b : Nat) (ρ : Nat → Nat) (v : AV) (i : Nat) : Bool := match v with
  | .agg cs => dgIn b ρ cs.length i
  | _ => Nat.blt i b
def tRen (ρ : Nat → Nat) (v : AV) (i : Nat) : Nat := match v with
  | .agg cs => renD ρ cs.length i
  | _ => ρ i
theorem TagOk.ren {G G' : Gh} {ρ : Nat → Nat} {v : Value} {a : AV} {b i : Nat} (h : TagOk G v a (some (tRen ρ a i))) (hi : tIn b ρ a i = true) (hκ : ∀ t r, t < b → G.κ (ρ t) = some r → G'.κ t = some r) : TagOk G' v a (some i) := by
  rcases h with h | ⟨cs, e, h⟩
  · refine .inl ?_
    obtain ⟨sz, xs, n, cap, g, lo, hi', ad, e, t2, t3, t4⟩ := h
    subst e
    exact ⟨sz, xs, n, cap, g, lo, hi', ad, rfl, t2, hκ _ _ (by simpa [tIn, Nat.blt_eq] using hi) t3, t4⟩
  · subst e
    refine .inr ⟨cs, rfl, fun j => ⟨fun sz hd hc => ?_, fun t c u hd hc hu => ?_⟩⟩
    · refine (h j).1 sz ?_ hc
      show dg (renD ρ cs.length i) j = 1
      rw [(renD_dg _ _ hi j (List.getElem?_eq_some_iff.1 hc).1).1, hd]; rfl
    · obtain ⟨h1, h2⟩ := renD_dg _ _ hi j (List.getElem?_eq_some_iff.1 hc).1
      refine ((h j).2 (ρ t) c u ?_ hc hu).mono fun r => hκ t r (h2 t hd)
      show dg (renD ρ cs.length i) j = _
      rw [h1, hd]; rfl
end Go.Pm
