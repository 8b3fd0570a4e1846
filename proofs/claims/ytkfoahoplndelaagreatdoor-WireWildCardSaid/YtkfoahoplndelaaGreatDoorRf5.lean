/-
  Generic: functions that hold a range over a function.
-/
import Derived.Test.YtkfoahoplndelaaGreatDoorRf4
import Derived.RangeFuncLeaves
namespace Go.Pm
open Go Go.RowKit
set_option linter.unusedVariables false
set_option linter.unusedSimpArgs false
def base0 (F : Nat → Nat → Prop) (w : World) (nt : Nat) (df : List Deferred) : Base := { F := F, O := fun _ => none, w := w, nt := nt, df := df }
def PostB (F : Nat → Nat → Prop) (w : World) (r : AV) (e : Ending) (w' : World) : Prop :=
  ∃ v F', e = .returned v ∧ Below w.heap.size w w' ∧ (∀ b o, F b o → F' b o) ∧ (∀ b o, F' b o → b < w'.heap.size ∧ (F b o ∨ w.heap.size ≤ b)) ∧ Rep F' w' (fun _ => none) v r ∧ (false = true → OwnRes w F' w' v r)
def EndQ (T : Tab) (rs : List ResultVar) (r : AV) (st : St) : Prop := resE T st rs fun l => (packR l).puR = true ∧ packR l = r
def EndR (T : Tab) (rs : List ResultVar) (r : AV) (st : St) : Prop := cellsOnly st ∧ resE T st rs fun l => (packR l).puR = true ∧ packR l = r
section
variable {E : Env} {P : Program} {T : Tab} {F : Nat → Nat → Prop} {w W : World} {nt : Nat} {G : Gh} {a : Act} {st : St} {fn : Func} {r : AV}
theorem end_post (hT : TOk P T) {df : List Deferred} (h : Conc E (base0 F w nt df) G W a st) (he : resE T st fn.results.toList fun l => (packR l).puR = true ∧ packR l = r) : ∃ v, (results fn a.tmps).run P W = .ok v W ∧ PostB F w r (.returned v) W := by
  obtain ⟨l, ⟨hp, hq⟩, vs, hrun, hlen, hrep⟩ := resE_ok hT h _ _ he
  refine ⟨_, run_results fn a.tmps W hrun, _, G.F, rfl, ⟨h.good.os, h.good.tape, h.good.output, h.good.size, fun b hb' => (h.good.old b hb' rfl).2⟩, fun b o hbo => (h.good.keep b o hbo).1, fun b o hbo => ⟨h.good.fin b o hbo, ?_⟩, ?_, fun h => by cases h⟩
  · rcases h.good.new b o hbo with h1 | h1 | h1
    · exact .inl h1
    · exact .inr h1
    · exact absurd rfl h1
  · rw [← hq]
    exact (pack_rep hlen hrep).pure (AV.puR_ok hp) _
theorem leave0 (hT : TOk P T) (h : Conc E (base0 F w nt []) G W a st) (he : EndQ T fn.results.toList r st) : LeavesInM Fence.wide 0 P fn a.tmps (PostB F w r) a.defers .returning W := by
  have hd : a.defers = [] := h.defers
  rw [hd]
  exact end_post hT h he
theorem leave1 (hT : TOk P T) {d : Nat} (h : Conc E (base0 F w nt [{ target := .collected d, args := #[] }]) G W a st) (hd : W.heap[d]? = some (.deferred (some []))) (hdw : w.heap.size ≤ d) (hGB : E.GB ≤ w.heap.size) (hFf : ∀ b o, F b o → b < w.heap.size)
    (he : EndR T fn.results.toList r st) : LeavesInM Fence.wide 0 P fn a.tmps (PostB F w r) a.defers .returning W := by
  have hdd : a.defers = [{ target := .collected d, args := #[] }] := h.defers
  rw [hdd]
  refine ⟨by simp, .inl ⟨d, _, rfl, run_takeDeferred hd, ?_⟩⟩
  obtain ⟨G2, j1, _⟩ := h.turn he.1 (grownBy_putObj' W d (.deferred none)) hFf hGB (fun r e => by cases e; exact ⟨hdw, _, hd, rfl⟩)
  exact end_post hT j1 he.2
theorem step_ok {rows : List Nat} {Φ : Prop} (hT : TOk P T) (hm : P.follows .mixedOrders = true) {x rest : Code} {st1 : St} (h : Conc E (base0 F w fn.ntmps []) G W a st) (hok : codeOk T fn.ntmps x = true)
    (hx : evK ⟨E, P, T, rows, 0, 0⟩ x (fun e s => match e with | .normal => Φ ∧ Gho E 0 0 s st1 | .ret => EndQ T fn.results.toList r s | _ => False) st)
    (hrest : Φ → ∀ G W a, Conc E (base0 F w fn.ntmps []) G W a st1 → rest.wp P (bodyPostM Fence.wide 0 P fn (PostB F w r)) a W) : (Code.seq x rest).wp P (bodyPostM Fence.wide 0 P fn (PostB F w r)) a W := by
  refine wp_seq (wp_mono (evK_ok (C := ⟨E, P, T, rows, 0, 0⟩) hT hm (B := base0 F w fn.ntmps []) rfl rfl x _ _ hok hx G W a h) ?_)
  rintro e a' W' ⟨s, G', hk, hs⟩
  cases e with
  | normal =>
    obtain ⟨G2, h2⟩ := hk.2 (base0 F w fn.ntmps []) G' W' a' rfl rfl hs
    exact hrest hk.1 G2 W' a' h2
  | ret => exact leave0 hT hs hk
  | exit i => exact hk.elim
  | goto i => exact hk.elim
  | panic i => exact hk.elim
  | outgrown => exact hk.elim
theorem loop_ok {rows : List Nat} (hT : TOk P T) (hm : P.follows .mixedOrders = true) (hFf : ∀ b o, F b o → b < w.heap.size) (hGB : E.GB ≤ w.heap.size)
    {bid tg p q : Nat} {x assign body post : Code} {L : List Slot} (hL : L.all (fun x => x.tag.isNone) = true)
    {α σ τ : Type} {encs : α → Value × Value} {avs : α → AV × AV} {R : List α → α → Prop} {S Sp : List α → Prop} {gf : Nat} {s0 : Bytes}
    (hsl : slotsAV L tg = .fn gf [] [.iptr [.str s0]]) (eg : ∀ args w, (callFunc gf args).run P w = .ok (.enter gf args) w)
    (hseq : ∀ (w : World) (b0 o0 : Nat), s0.length ≤ maxLen → (∀ b, b < E.GB → w.heap[b]? = E.W0.heap[b]?) → E.GB ≤ w.heap.size → w.cell? ⟨b0, o0, none⟩ = some (.string ⟨s0.toArray⟩) → SeqR P gf #[.pointer (some ⟨b0, o0, none⟩)] (fun x => #[(encs x).1, (encs x).2]) (KpR E b0 o0) R S Sp w)
    (henc : ∀ pre x, s0.length ≤ maxLen → R pre x → ∀ F w ι, Rep F w ι (encs x).1 (avs x).1 ∧ Rep F w ι (encs x).2 (avs x).2) (hp : Nat.blt p fn.ntmps = true) (hq : Nat.blt q fn.ntmps = true)
    (Inv : List α → σ → Prop) (Iz : List α → τ → Prop) (Hx : σ → List AObj) (Hz : τ → List AObj) (nb : Nat) (hHx : ∀ y, objsC nb (Hx y)) (hHz : ∀ z, objsC nb (Hz z)) (y0 : σ) (h0 : Inv [] y0)
    (h : Conc E (base0 F w fn.ntmps []) G W a st) (hokx : codeOk T fn.ntmps x = true)
    (hx : evK ⟨E, P, T, rows, 0, 0⟩ x (fun e s => match e with | .normal => Gho E 0 0 s (St.of L (Hx y0) []) | .ret => EndQ T fn.results.toList r s | _ => False) st)
    (hA1 : codeOk T fn.ntmps assign = true) (hA2 : codeR assign = true) (hB1 : codeOk T fn.ntmps body = true) (hB2 : codeR body = true) (hP1 : codeOk T fn.ntmps post = true)
    (hround : ∀ pre x y, R pre x → Inv pre y → evK ⟨E, P, T, rows, nb, 0⟩ assign (fun e s => e = .normal ∧ cellsOnly s ∧ s.H.length = nb ∧ evK ⟨E, P, T, rows, nb, 0⟩ body (fun e s' => match e with
        | .normal => ∃ y', Inv (pre ++ [x]) y' ∧ Gho E nb 0 s' (St.of [] (Hx y') [])
        | .ret => ∃ z, Iz (pre ++ [x]) z ∧ Gho E nb 0 s' (St.of [] (Hz z) [])
        | _ => False) s) (setS p q (avs x).1 (avs x).2 (St.of L (Hx y) [])))
    (hpost : ∀ xs y, S xs → Inv xs y → evK ⟨E, P, T, rows, nb, 0⟩ post (fun e s => match e with | .ret => EndR T fn.results.toList r s | _ => False) (St.of L (Hx y) []))
    (hret : ∀ pre z, Sp pre → Iz pre z → EndR T fn.results.toList r (St.of L (Hz z) [])) :
    (Code.seq (Code.seq x (Code.block bid (Code.rangeFunc (.tmp tg) #[p, q] assign body))) post).wp P (bodyPostM Fence.wide 0 P fn (PostB F w r)) a W := by
  refine wp_seq (wp_seq (wp_mono (evK_ok (C := ⟨E, P, T, rows, 0, 0⟩) hT hm (B := base0 F w fn.ntmps []) rfl rfl x _ _ hokx hx G W a h) ?_))
  rintro e a1 W1 ⟨s, G1, hk, hs⟩
  cases e with
  | exit i => exact hk.elim
  | goto i => exact hk.elim
  | panic i => exact hk.elim
  | outgrown => exact hk.elim
  | ret => exact leave0 hT hs hk
  | normal =>
    obtain ⟨G2, h2⟩ := hk (base0 F w fn.ntmps []) G1 W1 a1 rfl rfl hs
    have hdf1 : a1.defers = [] := h2.defers
    have hslot := (h2.slots hL tg).1
    rw [hsl] at hslot
    obtain ⟨v0, hv0, b0, o0, rfl, hF0, hc0, hs0⟩ : ∃ v0, a1.eval (.tmp tg) = .func (.func gf) #[] #[v0] ∧ ∃ b0 o0, v0 = .pointer (some ⟨b0, o0, none⟩) ∧ G2.F b0 o0 ∧ W1.cell? ⟨b0, o0, none⟩ = some (.string ⟨s0.toArray⟩) ∧ s0.length ≤ maxLen := by
      have e : a1.eval (.tmp tg) = a1.tmps.getD tg undef := rfl
      rw [e]
      generalize a1.tmps.getD tg undef = u at hslot
      cases hslot with
      | fn _ _ fs cs _ _ hl hl' hf hc =>
        obtain rfl : fs = [] := List.eq_nil_of_length_eq_zero hl
        obtain ⟨c, rfl⟩ : ∃ c, cs = [c] := by
          match cs, hl' with
          | [c], _ => exact ⟨c, rfl⟩
        refine ⟨c, rfl, ?_⟩
        have hr := hc 0 _ _ rfl rfl
        cases hr with
        | iptr _ b o _ vals hFl hv hr =>
          have h1 := hv 0 _ rfl
          have h3 := hr 0 _ rfl
          generalize vals 0 = u at *
          cases h3 with
          | str _ _ hl => exact ⟨b, o, rfl, hFl 0 (by simp), h1.1, hl⟩
    refine wp_block ?_
    refine range_ok (rows := rows) hT hm (B := base0 F w fn.ntmps []) rfl hFf hGB hL hv0 eg hF0 (by rw [hc0]; rfl) (hseq W1 b0 o0 hs0 h2.good.glob h2.good.gb hc0) (fun pre x => henc pre x hs0) (Nat.blt_eq ▸ hp) (Nat.blt_eq ▸ hq) Inv Iz Hx Hz nb hHx hHz y0 h0 h2 hA1 hA2 hB1 hB2 hround ?_ ?_
    · intro xs y G3 W3 hS hI h3 hO hlt hd
      rw [hdf1]
      have hst := h3.start
      have hlen : (St.of L (Hx y) []).H.length = nb := (hHx y).1
      rw [hlen] at hst
      have hst2 : Conc E (reb G3 W3 fn.ntmps nb 0 [{ target := .collected W1.heap.size, args := #[] }]) G3 W3 { a1 with defers := [{ target := .collected W1.heap.size, args := #[] }] } (St.of L (Hx y) []) := ⟨hst.good.conv, hst.size, rfl, hst.rep⟩
      refine wp_mono (evK_ok (C := ⟨E, P, T, rows, nb, 0⟩) hT hm (B := reb G3 W3 fn.ntmps nb 0 [{ target := .collected W1.heap.size, args := #[] }]) rfl rfl post _ _ hP1 (hpost xs y hS hI) G3 W3 _ hst2) ?_
      rintro e a4 W4 ⟨s4, G4, hk4, h4⟩
      cases e with
      | ret =>
        have hd4 := (h4.good.old W1.heap.size hlt hO).2.trans hd
        exact leave1 hT (nt := fn.ntmps) (F := F) (w := w) ⟨(h3.good.rebase h4.good).conv, h4.size, h4.defers, h4.rep⟩ hd4 h2.good.size hGB hFf hk4
      | normal => exact hk4.elim
      | exit i => exact hk4.elim
      | goto i => exact hk4.elim
      | panic i => exact hk4.elim
      | outgrown => exact hk4.elim
    · intro pre z G3 W3 hS hI h3 hO hlt hd
      rw [hdf1]
      exact leave1 hT (nt := fn.ntmps) (F := F) (w := w) ⟨h3.good.conv, h3.size, rfl, h3.rep⟩ hd h2.good.size hGB hFf (hret pre z hS hI)
theorem FnR.of_wp {f : FuncId} {code : Code} {args : List AV} (hf : P.funcs[f]? = some fn) (hb : fn.body = some code) (hname : (fn.name == "runtime.NumGoroutine") = false) (hargs : Nat.ble args.length fn.ntmps = true)
    (h : ∀ (F : Nat → Nat → Prop) (w : World) (G : Gh) (a : Act), (∀ b o, F b o → b < w.heap.size) → E.GB ≤ w.heap.size → (∀ x, x ∈ args → Wf x) → Conc E (base0 F w fn.ntmps []) G w a (St.init args) → code.wp P (bodyPostM Fence.wide 0 P fn (PostB F w r)) a w) : FnR E P f args r false := by
  refine .inl ⟨⟨fn, hf, hname, by rw [hb]; rfl⟩, fun F w vals hgw hl hr => ?_⟩
  have hwf : ∀ a, a ∈ args → Wf a := fun a ha => by
    obtain ⟨i, hi, rfl⟩ := List.getElem_of_mem ha
    exact (hr i (vals[i]'(by omega)) _ (List.getElem?_eq_getElem _) (List.getElem?_eq_getElem hi)).wf
  have hle : args.length ≤ fn.ntmps := by simpa [Nat.ble_eq] using hargs
  let G0 : Gh := { F := F, ι := fun _ => none, κ := fun _ => none, O := fun _ => none }
  have hconc : Conc E (base0 F w fn.ntmps []) G0 w { tmps := vals.toArray ++ Array.replicate (fn.ntmps - vals.toArray.size) undef, defers := [] } (St.init args) := by
    refine ⟨⟨hgw.fin, fun b i hi => (by cases hi), Nat.le_refl _, fun b _ _ => ⟨rfl, rfl⟩, fun b o hb => ⟨hb, rfl⟩, fun b o hb => .inl hb, rfl, rfl, rfl, hgw.glob, hgw.gb, fun i g h => (by cases h), fun i r h => (by cases h)⟩, by simp [base0]; omega, rfl, fun l => ?_⟩
    cases l with
    | slot t =>
      refine ⟨?_, trivial⟩
      simp only [St.init]
      rcases Nat.lt_or_ge t args.length with ht | ht
      · have h1 : args.getD t .any = args[t] := by simp [List.getD, ht]
        have h2 : (vals.toArray ++ Array.replicate (fn.ntmps - vals.toArray.size) undef).getD t undef = vals[t]'(by omega) := by
          rw [Array.getD_eq_getD_getElem?, Array.getElem?_append_left (by simp; omega)]
          simp [show t < vals.length by omega]
        rw [h1, h2]
        exact hr t _ _ (List.getElem?_eq_getElem _) (List.getElem?_eq_getElem ht)
      · have h1 : args.getD t .any = .any := by simp [List.getD, List.getElem?_eq_none ht]
        rw [h1]; exact .any ..
    | obj i => simp [RepL, St.init, RepObj, G0]
    | tok i => simp [RepL, St.init, RepTok, G0]
  exact callsIn_wide.1 (callsIn_of_wp_marks (F := Fence.wide) (n := 0) hf hb trivial ((wpIn_wide (n := 0)).2 (h F w G0 _ hgw.fin hgw.gb hwf hconc)))
end
def noMp (H : List AObj) : Bool := H.all fun x => match x with | .mp _ => false | _ => true
theorem noMp_at {H : List AObj} (h : noMp H = true) (i : Nat) (x : SObj) : H[i]? ≠ some (AObj.mp x) := fun e => by
  have := List.all_eq_true.1 h _ (List.mem_of_getElem? e)
  cases this
theorem cellsOnly.mk' {st : St} (h : noMp st.H = true) (hk : st.k = []) : cellsOnly st := ⟨noMp_at h, hk⟩
theorem objsC.mk' {n : Nat} {H : List AObj} (h : noMp H = true) (hn : H.length = n) : objsC n H := ⟨hn, noMp_at h⟩
theorem EndR.of {T : Tab} {rs : List ResultVar} {r : AV} {st : St} (h : noMp st.H = true) (hk : st.k = []) (he : EndQ T rs r st) : EndR T rs r st := ⟨⟨noMp_at h, hk⟩, he⟩
end Go.Pm
