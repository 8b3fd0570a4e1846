/-
  Generic: the evaluation of code in a round of a range over a function.
-/
import Derived.Test.YtkfoahoplndelaaGreatDoorPm19
import Derived.OrdersIn
import Derived.RangeFuncNested
namespace Go.Pm
open Go Go.RowKit
set_option linter.unusedVariables false
set_option linter.unusedSimpArgs false
abbrev FR (l : Nat) : Fence := Fence.wide.inRound l
def noDefer (o : Oper) : Bool := match o.op with | .defer _ => false | _ => true
theorem noDefer_ok {o : Oper} (h : noDefer o = true) : ∀ c, o.op ≠ .defer c := fun c e => by unfold noDefer at h; rw [e] at h; cases h
section
variable {l n : Nat} {P : Program} {Q : Exit → Act → World → Prop}
theorem rowsIn_of {row : String} {args : Array Value} {w : World} {R : Value → World → Prop} (h : Rows P row args w R) : RowsIn (FR l) n P row args w R := fun c cs _ =>
  let ⟨v, w', r, s⟩ := h c cs
  ⟨v, w', r, stepsIn_wide.2 s⟩
theorem Oper.wpIn_of {o : Oper} {a : Act} {w : World} {K : Act → World → Prop} (hd : ∀ c, o.op ≠ .defer c) (h : o.wp P a w K Q) : o.wpIn (FR l) n P a w K Q := by
  unfold Oper.wpIn
  refine ⟨fun _ _ => trivial, ?_⟩
  rw [Oper.semAt_eq _ _ _ hd]
  unfold Oper.wp at h
  revert h
  generalize (execOp a.eval o).run P w = r
  intro h
  cases r with
  | ok x w' =>
    cases x <;> simp only [Oper.upon, Oper.uponIn] at h ⊢
    all_goals first
      | exact h
      | exact h.elim
      | exact ⟨fun h => (by cases h), CallsIn.inRound l (callsIn_wide.2 h)⟩
      | exact ⟨fun h => (by cases h), rowsIn_of h⟩
  | halt x w' => cases x <;> simp only [Oper.upon, Oper.uponIn] at h ⊢ <;> exact h
variable {ops : Array Oper}
theorem nd_at (hnd : ops.toList.all noDefer = true) {i : Nat} {o : Oper} (ho : ops[i]? = some o) : ∀ c, o.op ≠ .defer c :=
  noDefer_ok (List.all_eq_true.1 hnd o (by rw [← Array.getElem?_toList] at ho; exact List.mem_of_getElem? ho))
theorem wpOpIn_of (hQ : ¬ LetsOut Q) (hnd : ops.toList.all noDefer = true) {i : Nat} {K : Act → World → Prop} {a : Act} {w : World} (h : wpOp P ops Q i K a w) : wpOpIn (FR l) n P ops Q i K a w := by
  unfold wpOp at h
  unfold wpOpIn
  cases ho : ops[i]? with
  | none => simp only [ho] at h ⊢; exact h
  | some o =>
    simp only [ho] at h ⊢
    split
    · rename_i hw
      rw [if_pos hw] at h
      rcases h with h | ⟨_, h⟩
      · exact Oper.wpIn_of (nd_at hnd ho) h
      · exact absurd h hQ
    · rename_i hw
      rw [if_neg hw] at h
      exact ⟨fun _ _ => trivial, h⟩
theorem wpOpsIn_of (hQ : ¬ LetsOut Q) (hnd : ops.toList.all noDefer = true) : ∀ (L : List Nat) (a : Act) (w : World), wpOps P ops Q L a w → wpOpsIn (FR l) n P ops Q L a w := by
  intro L
  induction L with
  | nil => intro a w h; exact h
  | cons i rest ih =>
    intro a w h
    rw [wpOpsIn_cons]
    rw [wpOps_cons] at h
    exact wpOpIn_mono (fun a w h => ih a w h) (wpOpIn_of hQ hnd h)
theorem wpAnyIn_of {md : Region.Mode} (hQ : ¬ LetsOut Q) (hnd : ops.toList.all noDefer = true) : ∀ (fuel : Nat) (listed : Array Bool) (a : Act) (w : World), wpAny P md ops Q fuel listed a w → wpAnyIn (FR l) n P md ops Q fuel listed a w := by
  intro fuel
  induction fuel with
  | zero => intro listed a w h; exact h
  | succ fuel ih =>
    intro listed a w h
    obtain ⟨h0, h1⟩ := h
    exact ⟨h0, fun i hi => wpOpIn_mono (fun a w h => ih _ a w h) (wpOpIn_of hQ hnd (h1 i hi))⟩
end
def codeR : Code → Bool
  | .skip => true
  | .region _ ops _ => ops.toList.all noDefer
  | .seq a b => codeR a && codeR b
  | .cond _ a b => codeR a && codeR b
  | .block _ a => codeR a
  | .loop a => codeR a
  | .exit _ => true
  | .ret => true
  | .label _ => true
  | _ => false
theorem wpIn_region_chain {l n : Nat} {E : Env} {P : Program} (hm : P.follows .mixedOrders = true) {ops : Array Oper} {Q : Exit → Act → World → Prop} (hnd : ops.toList.all noDefer = true) (hQo : ¬ LetsOut Q) {id : Nat} {draw : Bool} {a : Act} {w : World}
    (h0 : draw = false → wpOps P ops Q (List.range ops.size) a w) (h1 : draw = true → wpAny P .any ops Q ops.size (Array.replicate ops.size false) a { w with drawn := w.drawn + 1 }) : (Code.region id ops draw).wpIn (FR l) n P Q a w := by
  cases draw with
  | false => exact wpIn_region (wpOpsIn_of hQo hnd _ _ _ (h0 rfl))
  | true => exact wpIn_region_any hm (wpAnyIn_of hQo hnd _ _ _ _ (h1 rfl))
theorem post_out {E : Env} {B : Base} {K : Exit → St → Prop} (hK : ∀ s, ¬ K .outgrown s) : ¬ LetsOut (Post E B K) := fun ⟨a, w, st, G, h, _⟩ => hK st h
theorem evKR_ok {l n : Nat} {C : Cx} (hT : TOk C.P C.T) (hm : C.P.follows .mixedOrders = true) {B : Base} (hnb : B.nb = C.nb) (hnk : B.nk = C.nk) : ∀ (c : Code) (K : Exit → St → Prop) (st : St), codeOk C.T B.nt c = true → codeR c = true → evK C c K st → (∀ s, ¬ K .outgrown s) →
    ∀ (G : Gh) (w : World) (a : Act), Conc C.E B G w a st → c.wpIn (FR l) n C.P (Post C.E B K) a w := by
  intro c
  induction c with
  | skip => intro K st _ _ h _ G w a hst; exact wpIn_skip ⟨st, G, h, hst⟩
  | region id ops draw =>
    intro K st hok hcr h hKo G w a hst
    simp only [codeOk, Bool.and_eq_true] at hok
    obtain ⟨⟨h1, h2⟩, h3⟩ := hok
    simp only [evK, evReg] at h
    obtain ⟨st', ft, hk, hch⟩ := evOps_ok hT _ _ _ _ h2 h
    simp only [List.nil_append] at hk
    have key := wp_region_chain2 (Q := Post C.E B K) hm h1 (draw := draw) hch (fun hd => by
      subst hd
      simp only [Bool.not_true, Bool.false_or] at h3
      exact ⟨h3, hk.1⟩) hst fun G' w' a' hst' => (by
      cases draw with
      | false => exact ⟨st', G', hk, hst'⟩
      | true => exact ⟨st', G', hk.2, hst'⟩)
    exact wpIn_region_chain (E := C.E) hm hcr (post_out hKo) key.1 key.2
  | seq x y ihx ihy =>
    intro K st hok hcr h hKo G w a hst
    simp only [codeOk, Bool.and_eq_true] at hok
    simp only [codeR, Bool.and_eq_true] at hcr
    simp only [evK] at h
    cases h with
    | go h =>
      refine wpIn_seq (wpIn_mono (ihx _ _ hok.1 hcr.1 h (fun s hs => hKo s hs) G w a hst) fun e a' w' hp => ?_)
      obtain ⟨st', G', hk, hst'⟩ := hp
      cases e with
      | normal =>
        cases hk with
        | go hk => exact ihy _ _ hok.2 hcr.2 hk hKo G' w' a' hst'
        | via s' hg hk =>
          obtain ⟨G2, hst2⟩ := hg B G' w' a' hnb hnk hst'
          exact ihy _ _ hok.2 hcr.2 hk hKo G2 w' a' hst2
      | exit i => exact ⟨st', G', hk, hst'⟩
      | goto l => exact ⟨st', G', hk, hst'⟩
      | ret => exact ⟨st', G', hk, hst'⟩
      | panic ch => exact ⟨st', G', hk, hst'⟩
      | outgrown => exact ⟨st', G', hk, hst'⟩
    | join s1 h h2 =>
      refine wpIn_seq (wpIn_mono (ihx _ _ hok.1 hcr.1 h (fun s hs => hKo s hs) G w a hst) fun e a' w' hp => ?_)
      obtain ⟨st', G', hk, hst'⟩ := hp
      cases e with
      | normal =>
        obtain ⟨G2, hst2⟩ := hk B G' w' a' hnb hnk hst'
        exact ihy _ _ hok.2 hcr.2 h2 hKo G2 w' a' hst2
      | exit i => exact ⟨st', G', hk, hst'⟩
      | goto l => exact ⟨st', G', hk, hst'⟩
      | ret => exact ⟨st', G', hk, hst'⟩
      | panic ch => exact ⟨st', G', hk, hst'⟩
      | outgrown => exact ⟨st', G', hk, hst'⟩
  | cond x a b iha ihb =>
    intro K st hok hcr h hKo G w ac hst
    simp only [codeOk, Bool.and_eq_true] at hok
    simp only [codeR, Bool.and_eq_true] at hcr
    obtain ⟨⟨h1, h2⟩, h3⟩ := hok
    simp only [evK] at h
    split at h
    · rename_i t ht
      have hr := (evV_ok (T := C.T) hst.good h1 fun l _ => hst.rep l).1
      rw [ht] at hr
      generalize hv : ac.eval x = v at hr
      cases hr
      cases t with
      | true => exact wpIn_cond hv (iha _ _ h2 hcr.1 (h.yes rfl) hKo G w ac hst)
      | false => exact wpIn_cond hv (ihb _ _ h3 hcr.2 (h.no rfl) hKo G w ac hst)
    · exact h.elim
  | block id x ih =>
    intro K st hok hcr h hKo G w a hst
    refine wpIn_block (wpIn_mono (ih _ _ hok hcr h (fun s hs => hKo s hs) G w a hst) fun e a' w' hp => ?_)
    obtain ⟨st', G', hk, hst'⟩ := hp
    cases e with
    | exit i =>
      simp only [Exit.inBlock]
      dsimp only at hk
      split at hk
      · rename_i hb
        rw [if_pos (Nat.eq_of_beq_eq_true hb)]
        exact ⟨st', G', hk, hst'⟩
      · rename_i hb
        rw [if_neg (Nat.ne_of_beq_eq_false hb)]
        exact ⟨st', G', hk, hst'⟩
    | normal => exact ⟨st', G', hk, hst'⟩
    | goto l => exact ⟨st', G', hk, hst'⟩
    | ret => exact ⟨st', G', hk, hst'⟩
    | panic ch => exact ⟨st', G', hk, hst'⟩
    | outgrown => exact ⟨st', G', hk, hst'⟩
  | loop x ih =>
    intro K st hok hcr h hKo G w a hst
    obtain ⟨α, S, μ, x0, hs, hr⟩ := h
    obtain ⟨G0, h0⟩ := hs B G w a hnb hnk hst
    let fits : Act → World → Nat → Prop := fun a w n => ∃ y G, μ y = n ∧ Conc C.E B G w a (S y)
    refine wpIn_loop (fun a w => ∃ n, fits a w n) (fun a w => leastN (fits a w)) ⟨_, x0, G0, rfl, h0⟩ fun a w hI => ?_
    obtain ⟨⟨y, Gy, hy, hcy⟩, _⟩ := leastN_spec hI
    refine wpIn_mono (ih _ _ hok hcr (hr y) (fun s hs => hKo s hs) Gy w a hcy) fun e a' w' hp => ?_
    obtain ⟨st', G', hk, hst'⟩ := hp
    cases e with
    | normal =>
      obtain ⟨y', hlt, hg⟩ := hk
      obtain ⟨G2, h2⟩ := hg B G' w' a' hnb hnk hst'
      have hf : fits a' w' (μ y') := ⟨y', G2, rfl, h2⟩
      exact ⟨⟨_, hf⟩, Nat.lt_of_le_of_lt ((leastN_spec ⟨_, hf⟩).2 _ hf) (by show μ y' < leastN (fits a w); rw [← hy]; exact hlt)⟩
    | exit i => exact ⟨st', G', hk, hst'⟩
    | goto l => exact ⟨st', G', hk, hst'⟩
    | ret => exact ⟨st', G', hk, hst'⟩
    | panic ch => exact ⟨st', G', hk, hst'⟩
    | outgrown => exact ⟨st', G', hk, hst'⟩
  | exit id => intro K st _ _ h _ G w a hst; exact wpIn_exit ⟨st, G, h, hst⟩
  | ret => intro K st _ _ h _ G w a hst; exact wpIn_ret ⟨st, G, h, hst⟩
  | rangeFunc _ _ _ _ _ _ => intro K st _ _ h; exact h.elim
  | scope x ih => intro K st _ h; cases h
  | label _ => intro K st _ _ h _ G w a hst; exact wpIn_label ⟨st, G, h, hst⟩
  | goto _ => intro K st _ _ h; exact h.elim
  | refuse _ => intro K st _ _ h; exact h.elim
end Go.Pm
