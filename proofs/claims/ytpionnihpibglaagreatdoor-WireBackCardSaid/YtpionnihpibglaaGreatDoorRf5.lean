/-
  Generic: functions that hold a range over a function.
-/
import Derived.Test.YtpionnihpibglaaGreatDoorPm19
import Derived.OrdersIn
import Derived.RangeFuncNested
import Derived.RangeFuncLeaves
namespace Go.Pm
open Go Go.RowKit
set_option linter.unusedVariables false
set_option linter.unusedSimpArgs false
abbrev FR (l : Nat) : Fence := Fence.wide.inRound l
def noDefer (o : Oper) : Bool := match o.op with | .defer _ => false | _ => true
theorem noDefer_ok {o : Oper} (h : noDefer o = true) : ∀ c, o.op ≠ .defer c := fun c e => by unfold noDefer at h; rw [e] at h; cases h
section
variable {l n : Nat} {P : Program} {Q : Exit → Act → World → Prop}
theorem rowsIn_of {row : String} {args : Array Value} {w : World} {R : Value → World → Prop} (h : Rows P row args w R) : RowsIn (FR l) n P row args w R := fun c cs _ =>
 let ⟨v, w', r, s⟩ := h c cs
 ⟨v, w', r, stepsIn_wide.2 s⟩
theorem Oper.wpIn_of {o : Oper} {a : Act} {w : World} {K : Act → World → Prop} (hd : ∀ c, o.op ≠ .defer c) (h : o.wp P a w K Q) : o.wpIn (FR l) n P a w K Q := by
 unfold Oper.wpIn
 refine ⟨fun _ _ => trivial, ?_⟩
 rw [Oper.semAt_eq _ _ _ hd]
 unfold Oper.wp at h
 revert h
 generalize (execOp a.eval o).run P w = r
 intro h
 cases r with
 | ok x w' =>
  cases x <;> simp only [Oper.upon, Oper.uponIn] at h ⊢
  all_goals first
   | exact h
   | exact h.elim
   | exact ⟨fun h => (by cases h), CallsIn.inRound l (callsIn_wide.2 h)⟩
   | exact ⟨fun h => (by cases h), rowsIn_of h⟩
 | halt x w' => cases x <;> simp only [Oper.upon, Oper.uponIn] at h ⊢ <;> exact h
variable {ops : Array Oper}
theorem nd_at (hnd : ops.toList.all noDefer = true) {i : Nat} {o : Oper} (ho : ops[i]? = some o) : ∀ c, o.op ≠ .defer c :=
 noDefer_ok (List.all_eq_true.1 hnd o (by rw [← Array.getElem?_toList] at ho; exact List.mem_of_getElem? ho))
theorem wpOpIn_of (hQ : ¬ LetsOut Q) (hnd : ops.toList.all noDefer = true) {i : Nat} {K : Act → World → Prop} {a : Act} {w : World} (h : wpOp P ops Q i K a w) : wpOpIn (FR l) n P ops Q i K a w := by
 unfold wpOp at h
 unfold wpOpIn
 cases ho : ops[i]? with
 | none => simp only [ho] at h ⊢; exact h
 | some o =>
  simp only [ho] at h ⊢
  split
  ·rename_i hw
   rw [if_pos hw] at h
   rcases h with h | ⟨_, h⟩
   ·exact Oper.wpIn_of (nd_at hnd ho) h
   ·exact absurd h hQ
  ·rename_i hw
   rw [if_neg hw] at h
   exact ⟨fun _ _ => trivial, h⟩
theorem wpOpsIn_of (hQ : ¬ LetsOut Q) (hnd : ops.toList.all noDefer = true) : ∀ (L : List Nat) (a : Act) (w : World), wpOps P ops Q L a w → wpOpsIn (FR l) n P ops Q L a w := by
 intro L
 induction L with
 | nil => intro a w h; exact h
 | cons i rest ih =>
  intro a w h
  rw [wpOpsIn_cons]
  rw [wpOps_cons] at h
  exact wpOpIn_mono (fun a w h => ih a w h) (wpOpIn_of hQ hnd h)
theorem wpAnyIn_of {md : Region.Mode} (hQ : ¬ LetsOut Q) (hnd : ops.toList.all noDefer = true) : ∀ (fuel : Nat) (listed : Array Bool) (a : Act) (w : World), wpAny P md ops Q fuel listed a w → wpAnyIn (FR l) n P md ops Q fuel listed a w := by
 intro fuel
 induction fuel with
 | zero => intro listed a w h; exact h
 | succ fuel ih =>
  intro listed a w h
  obtain ⟨h0, h1⟩ := h
  exact ⟨h0, fun i hi => wpOpIn_mono (fun a w h => ih _ a w h) (wpOpIn_of hQ hnd (h1 i hi))⟩
end
def codeR : Code → Bool
 | .skip => true
 | .region _ ops _ => ops.toList.all noDefer
 | .seq a b => codeR a && codeR b
 | .cond _ a b => codeR a && codeR b
 | .block _ a => codeR a
 | .loop a => codeR a
 | .exit _ => true
 | .ret => true
 | .label _ => true
 | _ => false
theorem wpIn_region_chain {l n : Nat} {E : Env} {P : Program} (hm : P.follows .mixedOrders = true) {ops : Array Oper} {Q : Exit → Act → World → Prop} (hnd : ops.toList.all noDefer = true) (hQo : ¬ LetsOut Q) {id : Nat} {draw : Bool} {a : Act} {w : World}
  (h0 : draw = false → wpOps P ops Q (List.range ops.size) a w) (h1 : draw = true → wpAny P .any ops Q ops.size (Array.replicate ops.size false) a { w with drawn := w.drawn + 1 }) : (Code.region id ops draw).wpIn (FR l) n P Q a w := by
 cases draw with
 | false => exact wpIn_region (wpOpsIn_of hQo hnd _ _ _ (h0 rfl))
 | true => exact wpIn_region_any hm (wpAnyIn_of hQo hnd _ _ _ _ (h1 rfl))
theorem post_out {E : Env} {B : Base} {K : Exit → St → Prop} (hK : ∀ s, ¬ K .outgrown s) : ¬ LetsOut (Post E B K) := fun ⟨a, w, st, G, h, _⟩ => hK st h
theorem evKR_ok {l n : Nat} {C : Cx} (hT : TOk C.P C.T) (hm : C.P.follows .mixedOrders = true) {B : Base} (hnb : B.nb = C.nb) (hnk : B.nk = C.nk) : ∀ (c : Code) (K : Exit → St → Prop) (st : St), codeOk C.T B.nt c = true → codeR c = true → evK C c K st → (∀ s, ¬ K .outgrown s) →
  ∀ (G : Gh) (w : World) (a : Act), Conc C.E B G w a st → c.wpIn (FR l) n C.P (Post C.E B K) a w := by
 intro c
 induction c with
 | skip => intro K st _ _ h _ G w a hst; exact wpIn_skip ⟨st, G, h, hst⟩
 | region id ops draw =>
  intro K st hok hcr h hKo G w a hst
  simp only [codeOk, Bool.and_eq_true] at hok
  obtain ⟨⟨h1, h2⟩, h3⟩ := hok
  simp only [evK, evReg] at h
  obtain ⟨st', ft, hk, hch⟩ := evOps_ok hT _ _ _ _ h2 h
  simp only [List.nil_append] at hk
  have key := wp_region_chain2 (Q := Post C.E B K) hm h1 (draw := draw) hch (fun hd => by
   subst hd
   simp only [Bool.not_true, Bool.false_or] at h3
   exact ⟨h3, hk.1⟩) hst fun G' w' a' hst' => (by
   cases draw with
   | false => exact ⟨st', G', hk, hst'⟩
   | true => exact ⟨st', G', hk.2, hst'⟩)
  exact wpIn_region_chain (E := C.E) hm hcr (post_out hKo) key.1 key.2
 | seq x y ihx ihy =>
  intro K st hok hcr h hKo G w a hst
  simp only [codeOk, Bool.and_eq_true] at hok
  simp only [codeR, Bool.and_eq_true] at hcr
  simp only [evK] at h
  cases h with
  | go h =>
   refine wpIn_seq (wpIn_mono (ihx _ _ hok.1 hcr.1 h (fun s hs => hKo s hs) G w a hst) fun e a' w' hp => ?_)
   obtain ⟨st', G', hk, hst'⟩ := hp
   cases e with
   | normal =>
    cases hk with
    | go hk => exact ihy _ _ hok.2 hcr.2 hk hKo G' w' a' hst'
    | via s' hg hk =>
     obtain ⟨G2, hst2⟩ := hg B G' w' a' hnb hnk hst'
     exact ihy _ _ hok.2 hcr.2 hk hKo G2 w' a' hst2
   | exit i => exact ⟨st', G', hk, hst'⟩
   | goto l => exact ⟨st', G', hk, hst'⟩
   | ret => exact ⟨st', G', hk, hst'⟩
   | panic ch => exact ⟨st', G', hk, hst'⟩
   | outgrown => exact ⟨st', G', hk, hst'⟩
  | join s1 h h2 =>
   refine wpIn_seq (wpIn_mono (ihx _ _ hok.1 hcr.1 h (fun s hs => hKo s hs) G w a hst) fun e a' w' hp => ?_)
   obtain ⟨st', G', hk, hst'⟩ := hp
   cases e with
   | normal =>
    obtain ⟨G2, hst2⟩ := hk B G' w' a' hnb hnk hst'
    exact ihy _ _ hok.2 hcr.2 h2 hKo G2 w' a' hst2
   | exit i => exact ⟨st', G', hk, hst'⟩
   | goto l => exact ⟨st', G', hk, hst'⟩
   | ret => exact ⟨st', G', hk, hst'⟩
   | panic ch => exact ⟨st', G', hk, hst'⟩
   | outgrown => exact ⟨st', G', hk, hst'⟩
 | cond x a b iha ihb =>
  intro K st hok hcr h hKo G w ac hst
  simp only [codeOk, Bool.and_eq_true] at hok
  simp only [codeR, Bool.and_eq_true] at hcr
  obtain ⟨⟨h1, h2⟩, h3⟩ := hok
  simp only [evK] at h
  split at h
  ·rename_i t ht
   have hr := (evV_ok (T := C.T) hst.good h1 fun l _ => hst.rep l).1
   rw [ht] at hr
   generalize hv : ac.eval x = v at hr
   cases hr
   cases t with
   | true => exact wpIn_cond hv (iha _ _ h2 hcr.1 (h.yes rfl) hKo G w ac hst)
   | false => exact wpIn_cond hv (ihb _ _ h3 hcr.2 (h.no rfl) hKo G w ac hst)
  ·exact h.elim
 | block id x ih =>
  intro K st hok hcr h hKo G w a hst
  refine wpIn_block (wpIn_mono (ih _ _ hok hcr h (fun s hs => hKo s hs) G w a hst) fun e a' w' hp => ?_)
  obtain ⟨st', G', hk, hst'⟩ := hp
  cases e with
  | exit i =>
   simp only [Exit.inBlock]
   dsimp only at hk
   split at hk
   ·rename_i hb
    rw [if_pos (Nat.eq_of_beq_eq_true hb)]
    exact ⟨st', G', hk, hst'⟩
   ·rename_i hb
    rw [if_neg (Nat.ne_of_beq_eq_false hb)]
    exact ⟨st', G', hk, hst'⟩
  | normal => exact ⟨st', G', hk, hst'⟩
  | goto l => exact ⟨st', G', hk, hst'⟩
  | ret => exact ⟨st', G', hk, hst'⟩
  | panic ch => exact ⟨st', G', hk, hst'⟩
  | outgrown => exact ⟨st', G', hk, hst'⟩
 | loop x ih =>
  intro K st hok hcr h hKo G w a hst
  obtain ⟨α, S, μ, x0, hs, hr⟩ := h
  obtain ⟨G0, h0⟩ := hs B G w a hnb hnk hst
  let fits : Act → World → Nat → Prop := fun a w n => ∃ y G, μ y = n ∧ Conc C.E B G w a (S y)
  refine wpIn_loop (fun a w => ∃ n, fits a w n) (fun a w => leastN (fits a w)) ⟨_, x0, G0, rfl, h0⟩ fun a w hI => ?_
  obtain ⟨⟨y, Gy, hy, hcy⟩, _⟩ := leastN_spec hI
  refine wpIn_mono (ih _ _ hok hcr (hr y) (fun s hs => hKo s hs) Gy w a hcy) fun e a' w' hp => ?_
  obtain ⟨st', G', hk, hst'⟩ := hp
  cases e with
  | normal =>
   obtain ⟨y', hlt, hg⟩ := hk
   obtain ⟨G2, h2⟩ := hg B G' w' a' hnb hnk hst'
   have hf : fits a' w' (μ y') := ⟨y', G2, rfl, h2⟩
   exact ⟨⟨_, hf⟩, Nat.lt_of_le_of_lt ((leastN_spec ⟨_, hf⟩).2 _ hf) (by show μ y' < leastN (fits a w); rw [← hy]; exact hlt)⟩
  | exit i => exact ⟨st', G', hk, hst'⟩
  | goto l => exact ⟨st', G', hk, hst'⟩
  | ret => exact ⟨st', G', hk, hst'⟩
  | panic ch => exact ⟨st', G', hk, hst'⟩
  | outgrown => exact ⟨st', G', hk, hst'⟩
 | exit id => intro K st _ _ h _ G w a hst; exact wpIn_exit ⟨st, G, h, hst⟩
 | ret => intro K st _ _ h _ G w a hst; exact wpIn_ret ⟨st, G, h, hst⟩
 | rangeFunc _ _ _ _ _ _ => intro K st _ _ h; exact h.elim
 | scope x ih => intro K st _ h; cases h
 | label _ => intro K st _ _ h _ G w a hst; exact wpIn_label ⟨st, G, h, hst⟩
 | goto _ => intro K st _ _ h; exact h.elim
 | refuse _ => intro K st _ _ h; exact h.elim
end Go.Pm
namespace Go.Pm
open Go Go.RowKit
set_option linter.unusedVariables false
set_option linter.unusedSimpArgs false
def reb (G : Gh) (w : World) (nt nb nk : Nat) (df : List Deferred) : Base := { F := G.F, O := G.O, w := w, nt := nt, ι := G.ι, κ := G.κ, nb := nb, nk := nk, df := df }
section
variable {E : Env} {B : Base} {G G' : Gh} {W W' : World} {a : Act} {st : St}
theorem Good.start (h : Good E B G W) {nt nb nk : Nat} {df : List Deferred} (hι : ∀ i g, G.ι i = some g → i < nb) (hκ : ∀ i r, G.κ i = some r → i < nk) : Good E (reb G W nt nb nk df) G W :=
 ⟨h.fin, h.own, Nat.le_refl _, fun b _ hn => ⟨hn, rfl⟩, fun b o hb => ⟨hb, rfl⟩, fun b o hb => .inl hb, rfl, rfl, rfl, h.glob, h.gb, fun i g hi => ⟨hι i g hi, hi⟩, fun i r hi => ⟨hκ i r hi, hi⟩⟩
theorem Good.rebase (h : Good E B G W) {nt nb nk : Nat} {df : List Deferred} (h' : Good E (reb G W nt nb nk df) G' W') : Good E B G' W' := by
 refine ⟨h'.fin, h'.own, Nat.le_trans h.size h'.size, fun b hb hn => ?_, fun b o hb => ?_, fun b o hb => ?_, h'.os.trans h.os, h'.tape.trans h.tape, h'.output.trans h.output, h'.glob, h'.gb, fun i g hi => ?_, fun i r hi => ?_⟩
 ·obtain ⟨h1, h2⟩ := h.old b hb hn
  obtain ⟨h3, h4⟩ := h'.old b (Nat.lt_of_lt_of_le hb h.size) h1
  exact ⟨h3, h4.trans h2⟩
 ·obtain ⟨h1, h2⟩ := h.keep b o hb
  obtain ⟨h3, h4⟩ := h'.keep b o h1
  exact ⟨h3, h4.trans h2⟩
 ·rcases h'.new b o hb with h1 | h1 | h1
  ·exact h.new b o h1
  ·exact .inr (.inl (Nat.le_trans h.size h1))
  ·rcases Nat.lt_or_ge b B.w.heap.size with hlt | hge
   ·exact .inr (.inr fun e => h1 (h.old b hlt e).1)
   ·exact .inr (.inl hge)
 ·obtain ⟨h1, h2⟩ := h.ids i g hi
  exact ⟨h1, (h'.ids i g h2).2⟩
 ·obtain ⟨h1, h2⟩ := h.toks i r hi
  exact ⟨h1, (h'.toks i r h2).2⟩
theorem Good.ext {nt nb nk : Nat} {df : List Deferred} (h' : Good E (reb G W nt nb nk df) G' W') : Ext G W G' W' :=
 ⟨fun b o hb => (h'.keep b o hb).1, fun i g hi => (h'.ids i g hi).2, fun i r hi => (h'.toks i r hi).2, fun b o hb => (h'.keep b o hb).2⟩
theorem Conc.ιlt (h : Conc E B G W a st) : ∀ i g, G.ι i = some g → i < st.H.length := fun i g hi => by
 rcases Nat.lt_or_ge i st.H.length with hh | hh
 ·exact hh
 ·have := h.rep (.obj i)
  simp only [RepL, List.getElem?_eq_none hh] at this
  rw [show G.ι i = none from this] at hi; cases hi
theorem Conc.κlt (h : Conc E B G W a st) : ∀ i r, G.κ i = some r → i < st.k.length := fun i r hi => by
 rcases Nat.lt_or_ge i st.k.length with hh | hh
 ·exact hh
 ·have := h.rep (.tok i)
  simp only [RepL, List.getElem?_eq_none hh] at this
  rw [show G.κ i = none from this] at hi; cases hi
theorem Conc.start (h : Conc E B G W a st) : Conc E (reb G W B.nt st.H.length st.k.length B.df) G W a st := ⟨h.good.start h.ιlt h.κlt, h.size, h.defers, h.rep⟩
theorem Rep.real {F : Nat → Nat → Prop} {w : World} {ι : Nat → Option Nat} {v : Value} {x : AV} (h : Rep F w ι v x) {F' : Nat → Nat → Prop} (hF : ∀ b o, F b o → (w.cell? ⟨b, o, none⟩).isSome = true → F' b o) : Rep F' w ι v x := by
 induction h with
 | any => exact .any ..
 | bool => exact .bool ..
 | int ι k n h => exact .int _ _ _ h
 | str ι s h => exact .str _ _ h
 | empty ι a cap sz h => exact .empty _ _ _ _ h
 | list ι b o n cap sz xs vals hn hc hm hsz hFl hv hr ih =>
  refine .list ι b o n cap sz xs vals hn hc hm hsz (fun j hj => ?_) hv fun i e j c he hc => ih i e j c he hc
  have hsz0 : 0 < sz := by
   rcases Nat.eq_zero_or_pos sz with e | e
   ·subst e; simp at hj
   ·exact e
  have hi : j / sz < xs.length := (Nat.div_lt_iff_lt_mul hsz0).2 hj
  have hjl : j % sz < (xs[j / sz]).cells.length := by rw [hsz _ (List.getElem_mem hi)]; exact Nat.mod_lt _ hsz0
  have := (hv (j / sz) _ (j % sz) _ (List.getElem?_eq_getElem hi) (List.getElem?_eq_getElem hjl)).1
  rw [Nat.div_add_mod' j sz] at this
  exact hF b _ (hFl j hj) (by rw [this]; rfl)
 | row ι id off len cap g h hc hm => exact .row _ _ _ _ _ _ h hc hm
 | row0 ι id off cap a hm => exact .row0 _ _ _ _ _ hm
 | agg ι vs cs hl ho h ih => exact .agg _ _ _ hl ho fun i v c hv hc => ih i v c hv hc
 | tup ι vs cs hl h ih => exact .tup _ _ _ hl fun i v c hv hc => ih i v c hv hc
 | ptr ι id off g h => exact .ptr _ _ _ _ h
 | iptr ι b o cs vals hFl hv hr ih =>
  refine .iptr ι b o cs vals (fun j hj => ?_) hv fun j c hc => ih j c hc
  have := (hv j _ (List.getElem?_eq_getElem hj)).1
  exact hF b _ (hFl j hj) (by rw [this]; rfl)
 | nilp => exact .nilp _
 | fn ι f fs cs fs' cs' hl hl' h h' ih ih' => exact .fn _ _ _ _ _ _ hl hl' (fun i v c hv hc => ih i v c hv hc) fun i v c hv hc => ih' i v c hv hc
 | nilf => exact .nilf _
 | iface ι t v a h ih => exact .iface _ _ _ _ ih
 | nili => exact .nili _
 | glob ι g => exact .glob _ _
 | mapv ι id g h => exact .mapv _ _ _ h
 | cond0 ι a => exact .cond0 _ _
 | cond1 ι v a h ih => exact .cond1 _ _ _ ih
def cellsOnly (st : St) : Prop := (∀ (i : Nat) (x : SObj), st.H[i]? ≠ some (AObj.mp x)) ∧ st.k = []
theorem Conc.turn (h : Conc E B G W a st) (hc : cellsOnly st) {row : Option Nat} (hg : W.grownBy W' row) (hBf : ∀ b o, B.F b o → b < B.w.heap.size) (hGB : E.GB ≤ B.w.heap.size) (hr : ∀ r, row = some r → B.w.heap.size ≤ r ∧ ∃ o : Obj, W.heap[r]? = some o ∧ o.isCells = false) : ∃ G', Conc E B G' W' a st ∧ (∀ b, G.O b = none → G'.O b = none) ∧ (∀ b o, G'.F b o → G.F b o) ∧ (∀ b o, G.F b o → (W.cell? ⟨b, o, none⟩).isSome = true → G'.F b o ∧ W'.cell? ⟨b, o, none⟩ = W.cell? ⟨b, o, none⟩) ∧ ∀ v x, RepSlot G W v x none → RepSlot G' W' v x none := by
 let F' : Nat → Nat → Prop := fun b o => G.F b o ∧ row ≠ some b
 let G' : Gh := { G with F := F', κ := fun _ => none, O := fun b => if row = some b then none else G.O b }
 have hcellrow : ∀ b o, row = some b → W.cell? ⟨b, o, none⟩ = none := fun b o e => by
  obtain ⟨_, ob, h1, h2⟩ := hr b e
  cases ob <;> simp_all [World.cell?, Obj.isCells]
 have hreal : ∀ b o, G.F b o → (W.cell? ⟨b, o, none⟩).isSome = true → F' b o := fun b o h1 h2 => ⟨h1, fun e => by rw [hcellrow b o e] at h2; cases h2⟩
 have hcell : ∀ b o, F' b o → W'.cell? ⟨b, o, none⟩ = W.cell? ⟨b, o, none⟩ := fun b o hb => cell_congr (hg.block b (h.good.fin b o hb.1) (fun e => hb.2 e.symm))
 have hBrow : ∀ b, b < B.w.heap.size → row ≠ some b := fun b hb e => by have := (hr b e).1; omega
 have hκ : ∀ i, G.κ i = none := fun i => by
  have := h.rep (.tok i)
  simp only [RepL] at this
  rw [hc.2, List.getElem?_nil] at this
  exact this
 have hslot : ∀ v x tag, RepSlot G W v x tag → RepSlot G' W' v x tag := fun v x tag hs => ⟨(Rep.real hs.1 hreal).mono (fun _ _ h => h) hcell _ (fun _ _ h => h), by
  cases tag with
  | none => trivial
  | some i =>
   rcases hs.2 with ⟨sz, xs, n, cap, g, lo, hi, ad, h1, h2, h3, h4⟩ | h
   ·rw [hκ i] at h3; cases h3
   ·exact .inr h⟩
 have hOn : ∀ b, G.O b = none → G'.O b = none := fun b hb => by
  show (if _ then _ else _) = _
  split
  ·rfl
  ·exact hb
 refine ⟨G', ⟨⟨fun b o hb => by have := h.good.fin b o hb.1; have := hg.size; omega, fun b i hi => ?_, Nat.le_trans h.good.size hg.size, fun b hb hn => ?_, fun b o hb => ?_, fun b o hb => h.good.new b o hb.1, hg.os.trans h.good.os, hg.tape.trans h.good.tape, hg.output.trans h.good.output, fun b hb => ?_, Nat.le_trans h.good.gb hg.size, h.good.ids, fun i r hi => ?_⟩, h.size, h.defers, fun l => ?_⟩, hOn, fun b o hb => hb.1, fun b o h1 h2 => ⟨hreal b o h1 h2, hcell b o (hreal b o h1 h2)⟩, fun v x hs => hslot v x none hs⟩
 ·have hi' : (if row = some b then none else G.O b) = some i := hi
  split at hi'
  ·cases hi'
  ·have := h.good.own b i hi'; have := hg.size; exact ⟨by omega, by omega⟩
 ·obtain ⟨h1, h2⟩ := h.good.old b hb hn
  exact ⟨by show (if _ then _ else _) = _; rw [if_neg (hBrow b hb)]; exact h1, (hg.block b (Nat.lt_of_lt_of_le hb h.good.size) (fun e => hBrow b hb e.symm)).trans h2⟩
 ·obtain ⟨h1, h2⟩ := h.good.keep b o hb
  have e := hBrow b (hBf b o hb)
  exact ⟨⟨h1, e⟩, (hcell b o ⟨h1, e⟩).trans h2⟩
 ·exact (hg.block b (by have := h.good.gb; omega) (fun e => by have := (hr b e.symm).1; omega)).trans (h.good.glob b hb)
 ·have := (h.good.toks i r hi).2
  rw [hκ i] at this; cases this
 ·cases l with
  | slot t => exact hslot _ _ _ (h.rep (.slot t))
  | obj i =>
   have hobj := h.rep (.obj i)
   simp only [RepL] at hobj ⊢
   cases hi : st.H[i]? with
   | none => rw [hi] at hobj; exact hobj
   | some y =>
    rw [hi] at hobj
    cases y with
    | dead => trivial
    | mp x => exact absurd hi (hc.1 i x)
    | cells t cs tg =>
     refine hobj.imp id fun ⟨g, i1, i2, i3, vals, fz, i4, i5, i6, i7⟩ => ?_
     have hgr : row ≠ some g := fun e => by
      obtain ⟨_, ob, h1, h2⟩ := hr g e
      rw [i4] at h1; injection h1 with h1; subst h1; simp [Obj.isCells] at h2
     refine ⟨g, i1, by show (if _ then _ else _) = _; rw [if_neg hgr]; exact i2, fun x hx => i3 x hx.1, vals, fz, (hg.block g (Array.getElem?_eq_some_iff.1 i4).1 (fun e => hgr e.symm)).trans i4, i5, i6, fun j c hc => ?_⟩
     obtain ⟨v, v1, v2, v3⟩ := i7 j c hc
     exact ⟨v, v1, v2, hslot _ _ _ v3⟩
  | tok i =>
   simp only [RepL]
   rw [hc.2, List.getElem?_nil]
   rfl
end
theorem Good.conv {E : Env} {B : Base} {G : Gh} {W : World} (h : Good E B G W) {df : List Deferred} : Good E { B with df := df } G W := ⟨h.fin, h.own, h.size, h.old, h.keep, h.new, h.os, h.tape, h.output, h.glob, h.gb, h.ids, h.toks⟩
end Go.Pm
namespace Go.Pm
open Go Go.RowKit
set_option linter.unusedSimpArgs false
set_option linter.unusedVariables false
def SeqR {α : Type} (P : Program) (g : Nat) (lb : Array Value) (encs : α → Array Value) (Kp : World → World → Prop) (R : List α → α → Prop) (S Sp : List α → Prop) (w : World) : Prop :=
 ∀ (n l : Nat) (J Jx : List α → World → Prop) (W : World), Below w.heap.size w W → AbidesFrom W.heap.size J → AbidesFrom W.heap.size Jx →
  (∀ pre x W1, J pre W1 → R pre x → YieldAt Fence.wide (n - 1) P l (encs x) W1 fun e W' =>
   (e = .returned (.bool true) ∧ J (pre ++ [x]) W' ∧ Kp W1 W') ∨ (e = .returned (.bool false) ∧ Jx (pre ++ [x]) W')) →
  J [] W →
  CallsIn Fence.wide n P g (#[.func (.yield l) #[] #[]] ++ lb) W fun e W' => (∃ v, e = .returned v) ∧ ((∃ xs, S xs ∧ J xs W') ∨ (∃ pre, Sp pre ∧ Jx pre W'))
def Ks (d : Nat) (W W' : World) : Prop := W'.heap[d]? = W.heap[d]? ∧ W'.heap[d + 1]? = W.heap[d + 1]?
def rangePost {α : Type} (d : Nat) (Kp : World → World → Prop) (I : List α → World → Prop) (Ix : Code → List α → World → Prop) (xs : List α) (W : World) : Exit → Act → World → Prop
 | .normal, _, W' => Ks d W W' ∧ Kp W W' ∧ I xs W'
 | .ret, _, W' => Ks d W W' ∧ Ix .ret xs W'
 | .exit id, _, W' => Ks d W W' ∧ Ix (.exit id) xs W'
 | _, _, _ => False
theorem wpIn_range {α : Type} {n : Nat} {P : Program} {g : Operand} {ps : Array Tmp} {assign body : Code} {Q : Exit → Act → World → Prop} {a : Act} {w : World}
  {gf : Nat} {lb : Array Value} (hg : a.eval g = .func (.func gf) #[] lb) (eg : ∀ args w, (callFunc gf args).run P w = .ok (.enter gf args) w)
  {encs : α → Array Value} {Kp : World → World → Prop} {R : List α → α → Prop} {S Sp : List α → Prop} {w0 : World} (hseq : SeqR P gf lb encs Kp R S Sp w0)
  (hKt : ∀ {A B C : World}, Kp A B → Kp B C → Kp A C) (hKb : ∀ (W : World) (l : Nat) (o o' : Obj), w.heap.size ≤ l → W.heap[l]? = some o → o.isCells = false → o.isWalk = false → Kp W (W.putObj l o')) (hb0 : Below w0.heap.size w0 w) (hps : ∀ x, (encs x).size = ps.size)
  (I : List α → World → Prop) (Ix : Code → List α → World → Prop) (A : List α → α → Act → World → Prop) (hI : OwnFrom w.heap.size I) (hIx : ∀ c, OwnFrom w.heap.size (Ix c)) (hA : ∀ pre x a', OwnFrom w.heap.size (fun (_ : Unit) W => A pre x a' W)) (h0 : I [] w)
  (hassign : ∀ (l : Nat) (pre : List α) (x : α) (W : World) (K : Act → World → Prop), I pre W → R pre x → w.heap.size + 1 < W.heap.size → (∀ a' W', Ks w.heap.size W W' → Kp W W' → A pre x a' W' → K a' W') →
   assign.wpIn (FR l) (n - 1 - 1) P (Exit.then K (fun _ _ _ => False)) { tmps := (ps.zip (encs x)).foldl (fun t (p, v) => t.setIfInBounds p v) a.tmps, defers := [] } W)
  (hbody : ∀ (l : Nat) (pre : List α) (x : α) (a' : Act) (W : World), A pre x a' W → R pre x → w.heap.size + 1 < W.heap.size → body.wpIn (FR l) (n - 1 - 1) P (rangePost w.heap.size Kp I Ix (pre ++ [x]) W) a' W)
  (hdone : ∀ (xs : List α) (W : World), S xs → I xs W → W.heap[w.heap.size]? = some (.deferred (some [])) → Q .normal { a with defers := { target := .collected w.heap.size, args := #[] } :: a.defers } W)
  (hstop : ∀ (c : Code) (pre : List α) (W : World), Sp pre → Ix c pre W → W.heap[w.heap.size]? = some (.deferred (some [])) → c.wpIn Fence.wide n P Q { a with defers := { target := .collected w.heap.size, args := #[] } :: a.defers } W) :
  (Code.rangeFunc g ps assign body).wpIn Fence.wide n P Q a w := by
 refine wpIn_rangeFunc ?_
 intro fn hfn
 have hro : Fence.wide.round = none := rfl
 rw [hro]
 obtain ⟨rec, hrec⟩ : ∃ rec : LoopState → Option Code → Loop, rec = fun st pe => { state := st, pending := pe, fn, tmps := a.tmps, params := ps, assign, body, defers := w.heap.size } := ⟨_, rfl⟩
 obtain ⟨W1, hW1⟩ : ∃ W1, (w.alloc (.deferred (some []))).alloc (.loop (rec .ready none)) = W1 := ⟨_, rfl⟩
 have hL1 : W1.heap[w.heap.size + 1]? = some (.loop (rec .ready none)) := by
  rw [← hW1]; have := World.alloc_heap_new (w.alloc (.deferred (some []))) (.loop (rec .ready none)); rwa [World.size_alloc] at this
 have hK1 : W1.heap[w.heap.size]? = some (.deferred (some [])) := by
  rw [← hW1]; exact (Below.heap_alloc _ _ _ (by simp)).trans (World.alloc_heap_new w _)
 have hI1 : I [] W1 := by rw [← hW1]; exact hI.alloc _ (hI.alloc _ h0)
 have hb1 : Below w0.heap.size w0 W1 := by
  rw [← hW1]; exact hb0.trans ((((Below.refl _ w).alloc (Nat.le_refl _) _).alloc (by simp) _).mono hb0.size)
 refine ⟨w.heap.size + 1, [{ target := .collected w.heap.size, args := #[] }], W1, { target := .fn (.func gf) lb, args := #[.func (.yield (w.heap.size + 1)) #[] #[]] }, W1, gf,
  #[.func (.yield (w.heap.size + 1)) #[] #[]] ++ lb, W1, ?_, ?_, ?_, ?_, fun h => (by cases h), ?_⟩
 ·rw [← hW1, hrec]; exact run_enterLoop_outer _ _ _ _ _
 ·simp only [resolve, hg]
  simp [go_sem]
 ·intro f' hf'; trivial
 ·simp [invoke, go_sem, eg]
 ·have hnw : ∀ {A B : World} {row : Option Nat}, (∀ r, row = some r → W1.heap.size ≤ r ∧ ∃ o : Obj, A.heap[r]? = some o ∧ o.isWalk = true) → (∀ r, row = some r → w.heap.size ≤ r ∧ ∃ o : Obj, A.heap[r]? = some o ∧ o.isCells = false) :=
   fun hr r e => by obtain ⟨hB, o, ho, hw⟩ := hr r e; exact ⟨by rw [← hW1] at hB; simp at hB; omega, o, ho, Obj.not_cells_of_walk hw⟩
  refine (hseq (n - 1) (w.heap.size + 1)
   (fun pre W => I pre W ∧ W.heap[w.heap.size + 1]? = some (.loop (rec .ready none)) ∧ W.heap[w.heap.size]? = some (.deferred (some [])))
   (fun pre W => ∃ c, Ix c pre W ∧ W.heap[w.heap.size + 1]? = some (.loop (rec .done (some c))) ∧ W.heap[w.heap.size]? = some (.deferred (some [])))
   W1 hb1
   (fun s A B row hs hg' hr => ⟨hI s A B row hs.1 hg' (hnw (B := B) hr), (grownBy_keeps hg' (fun r e => (hr r e).2) hs.2.1 rfl).trans hs.2.1, (grownBy_keeps hg' (fun r e => (hr r e).2) hs.2.2 rfl).trans hs.2.2⟩)
   (fun s A B row hs hg' hr => by
    obtain ⟨c, hc, hl, hk⟩ := hs
    exact ⟨c, hIx c s A B row hc hg' (hnw (B := B) hr), (grownBy_keeps hg' (fun r e => (hr r e).2) hl rfl).trans hl, (grownBy_keeps hg' (fun r e => (hr r e).2) hk rfl).trans hk⟩)
   ?_ ⟨hI1, hL1, hK1⟩).mono ?_
  · -- one round
   rintro pre x W ⟨hi, hl, hk⟩ hR
   have hlt : w.heap.size + 1 < W.heap.size := (Array.getElem?_eq_some_iff.1 hl).1
   have hy := run_yield (P := P) (args := encs x) hl (by rw [hrec]; exact hps x)
   rw [hrec] at hy
   refine ⟨fn, _, assign, body, hy, roundIn_of_wpIn hfn (hassign _ pre x W _ hi hR hlt ?_)⟩
   clear hy
   intro a' Wa hkfa hkpa hax
   replace hl := hkfa.2.trans hl
   replace hk := hkfa.1.trans hk
   replace hlt : w.heap.size + 1 < Wa.heap.size := (Array.getElem?_eq_some_iff.1 hl).1
   clear hi
   revert hkpa hkfa
   generalize W = Wb
   intro hkfa hkpa
   obtain ⟨W, rfl⟩ : ∃ W, W = Wa := ⟨_, rfl⟩
   refine ⟨_, run_beginRound hl (by rw [hrec]), ?_⟩
   have hl2 : (W.putObj (w.heap.size + 1) (.loop { rec .ready none with state := .busy })).heap[w.heap.size + 1]? = some (.loop { rec .ready none with state := .busy }) := World.putObj_heap_same hlt
   have hk2 : (W.putObj (w.heap.size + 1) (.loop { rec .ready none with state := .busy })).heap[w.heap.size]? = some (.deferred (some [])) := (World.putObj_heap_other (by omega)).trans hk
   have hw2 : Kp W (W.putObj (w.heap.size + 1) (.loop { rec .ready none with state := .busy })) := hKb _ _ _ _ (by omega) hl rfl rfl
   refine wpIn_mono (hbody _ pre x a' _ ((hA pre x a').putObj (s := ()) _ hax (by omega) hl rfl) hR (Array.getElem?_eq_some_iff.1 hl2).1) ?_
   have fin : ∀ (jump : Option Code) (W3 : World), Ks w.heap.size (W.putObj (w.heap.size + 1) (.loop { rec .ready none with state := .busy })) W3 →
     (Instr.endRound (w.heap.size + 1) jump).run P W3 = .ok (.bool jump.isNone) (W3.putObj (w.heap.size + 1) (.loop (rec (if jump.isNone then .ready else .done) jump))) ∧
     W3.heap[w.heap.size + 1]? = some (.loop { rec .ready none with state := .busy }) ∧
     (W3.putObj (w.heap.size + 1) (.loop (rec (if jump.isNone then .ready else .done) jump))).heap[w.heap.size + 1]? = some (.loop (rec (if jump.isNone then .ready else .done) jump)) ∧
     (W3.putObj (w.heap.size + 1) (.loop (rec (if jump.isNone then .ready else .done) jump))).heap[w.heap.size]? = some (.deferred (some [])) := fun jump W3 hk3 => by
    have hl3 := hk3.2.trans hl2
    have := run_endRound (P := P) jump hl3
    rw [hrec] at this ⊢
    exact ⟨this, by rw [hrec] at hl3; exact hl3, World.putObj_heap_same (Array.getElem?_eq_some_iff.1 hl3).1, (World.putObj_heap_other (by omega)).trans (hk3.1.trans hk2)⟩
   rintro e a3 W3 hp
   cases e with
   | normal =>
    obtain ⟨hk3, hkp3, hi3⟩ := hp
    obtain ⟨hr, hl3, hl4, hk4⟩ := fin none W3 hk3
    exact ⟨_, _, hr, .inl ⟨rfl, ⟨hI.putObj _ hi3 (by omega) hl3 rfl, hl4, hk4⟩, hKt hkpa (hKt (hKt hw2 hkp3) (hKb _ _ _ _ (by omega) hl3 rfl rfl))⟩⟩
   | ret =>
    obtain ⟨hk3, hi3⟩ := hp
    obtain ⟨hr, hl3, hl4, hk4⟩ := fin (some .ret) W3 hk3
    exact ⟨_, _, hr, .inr ⟨rfl, .ret, (hIx _).putObj _ hi3 (by omega) hl3 rfl, hl4, hk4⟩⟩
   | exit id =>
    obtain ⟨hk3, hi3⟩ := hp
    obtain ⟨hr, hl3, hl4, hk4⟩ := fin (some (.exit id)) W3 hk3
    exact ⟨_, _, hr, .inr ⟨rfl, .exit id, (hIx _).putObj _ hi3 (by omega) hl3 rfl, hl4, hk4⟩⟩
   | goto t => exact hp.elim
   | panic ch => exact hp.elim
   | outgrown => exact hp.elim
  · -- behind the iterator
   rintro e W2 ⟨⟨v, rfl⟩, (⟨xs, hS, hi, hl, hk⟩ | ⟨pre, hSp, c, hi, hl, hk⟩)⟩
   ·exact ⟨none, _, by have := run_endLoop (P := P) hl (by rw [hrec]; simp); rw [hrec] at this; exact this, hdone xs _ hS (hI.putObj _ hi (by omega) hl rfl) ((World.putObj_heap_other (by omega)).trans hk)⟩
   ·exact ⟨some c, _, by have := run_endLoop (P := P) hl (by rw [hrec]; simp); rw [hrec] at this; exact this, hstop c pre _ hSp ((hIx c).putObj _ hi (by omega) hl rfl) ((World.putObj_heap_other (by omega)).trans hk)⟩
end Go.Pm
namespace Go.Pm
open Go Go.RowKit
set_option linter.unusedVariables false
set_option linter.unusedSimpArgs false
theorem slotsTag_none {L : List Slot} (h : L.all (fun x => x.tag.isNone) = true) (t : Nat) : slotsTag L t = none := by
 induction L with
 | nil => rfl
 | cons x L ih =>
  simp only [List.all_cons, Bool.and_eq_true, Option.isNone_iff_eq_none] at h
  simp only [slotsTag]
  cases Nat.beq t x.t with
  | true => exact h.1
  | false => exact ih h.2
def objsC (n : Nat) (H : List AObj) : Prop := H.length = n ∧ ∀ (i : Nat) (x : SObj), H[i]? ≠ some (AObj.mp x)
section
variable {E : Env} {B : Base} {G G' : Gh} {W W' : World} {a a' : Act} {L : List Slot} {H : List AObj}
theorem Conc.slots (h : Conc E B G W a (St.of L H [])) (hL : L.all (fun x => x.tag.isNone) = true) (t : Nat) : RepSlot G W (a.tmps.getD t undef) (slotsAV L t) none := by
 have := h.rep (.slot t)
 simp only [RepL, St.of, slotsTag_none hL t] at this
 exact this
theorem Conc.join (hg : Good E B G W) (hsz : a.tmps.size = B.nt) (hdf : a.defers = B.df) (hs : ∀ t, RepSlot G W (a.tmps.getD t undef) (slotsAV L t) none) (hL : L.all (fun x => x.tag.isNone) = true) {B' : Base} (h : Conc E B' G W a' (St.of [] H [])) : Conc E B G W a (St.of L H []) :=
 ⟨hg, hsz, hdf, fun l => by
  cases l with
  | slot t => simp only [RepL, St.of, slotsTag_none hL t]; exact hs t
  | obj i => exact h.rep (.obj i)
  | tok i => exact h.rep (.tok i)⟩
end
def setS (p q : Nat) (x y : AV) (st : St) : St := (st.put (some p) x none st.H st.k).put (some q) y none st.H st.k
theorem Conc.lay {E : Env} {B : Base} {G : Gh} {W : World} {a : Act} {st : St} (h : Conc E B G W a st) (hdf : B.df = []) {p q : Nat} (hp : p < B.nt) (hq : q < B.nt) {v u : Value} {x y : AV} (hx : Rep G.F W G.ι v x) (hy : Rep G.F W G.ι u y) :
  Conc E B G W { tmps := (a.tmps.setIfInBounds p v).setIfInBounds q u, defers := [] } (setS p q x y st) := by
 have e : ({ tmps := (a.tmps.setIfInBounds p v).setIfInBounds q u, defers := [] } : Act) = (a.put (some p) v).put (some q) u := by
  have := h.defers
  rw [hdf] at this
  simp [Act.put, this]
 rw [e]
 refine ⟨h.good, by rw [size_put, size_put]; exact h.size, by rw [defers_put, defers_put]; exact h.defers, fun l => ?_⟩
 cases l with
 | slot t =>
  simp only [RepL, setS, St.put]
  by_cases h1 : t = q
  ·subst h1
   rw [getD_put_same (by rw [size_put, h.size]; exact hq), upd_same, upd_same]
   exact ⟨hy, trivial⟩
  ·rw [getD_put_other h1, upd_other _ _ h1, upd_other _ _ h1]
   by_cases h2 : t = p
   ·subst h2
    rw [getD_put_same (by rw [h.size]; exact hp), upd_same, upd_same]
    exact ⟨hx, trivial⟩
   ·rw [getD_put_other h2, upd_other _ _ h2, upd_other _ _ h2]
    exact h.rep (.slot t)
 | obj i => exact h.rep (.obj i)
 | tok i => exact h.rep (.tok i)
def KpR (E : Env) (b0 o0 : Nat) (W W' : World) : Prop := (∀ v, W.cell? ⟨b0, o0, none⟩ = some v → W'.cell? ⟨b0, o0, none⟩ = some v) ∧ (∀ b, b < E.GB → W'.heap[b]? = W.heap[b]?) ∧ W.heap.size ≤ W'.heap.size
theorem KpR.trans {E : Env} {b0 o0 : Nat} {A B C : World} (h : KpR E b0 o0 A B) (k : KpR E b0 o0 B C) : KpR E b0 o0 A C := ⟨fun v hv => k.1 v (h.1 v hv), fun b hb => (k.2.1 b hb).trans (h.2.1 b hb), Nat.le_trans h.2.2 k.2.2⟩
theorem range_ok {E : Env} {P : Program} {T : Tab} {rows : List Nat} (hT : TOk P T) (hm : P.follows .mixedOrders = true) {B : Base} (hdf : B.df = []) (hBf : ∀ b o, B.F b o → b < B.w.heap.size) (hGB : E.GB ≤ B.w.heap.size)
  {p q : Nat} {g : Operand} {assign body : Code} {Q : Exit → Act → World → Prop} {a : Act} {w : World} {G : Gh} {L : List Slot} (hL : L.all (fun x => x.tag.isNone) = true)
  {α σ τ : Type} {encs : α → Value × Value} {avs : α → AV × AV} {R : List α → α → Prop} {S Sp : List α → Prop} {gf : Nat} {v0 : Value} {b0 o0 : Nat}
  (hg : a.eval g = .func (.func gf) #[] #[v0]) (eg : ∀ args w, (callFunc gf args).run P w = .ok (.enter gf args) w) (hF0 : G.F b0 o0) (hc0 : (w.cell? ⟨b0, o0, none⟩).isSome = true)
  (hseq : SeqR P gf #[v0] (fun x => #[(encs x).1, (encs x).2]) (KpR E b0 o0) R S Sp w)
  (henc : ∀ pre x, R pre x → ∀ F w ι, Rep F w ι (encs x).1 (avs x).1 ∧ Rep F w ι (encs x).2 (avs x).2) (hp : p < B.nt) (hq : q < B.nt)
  (Inv : List α → σ → Prop) (Iz : List α → τ → Prop) (Hx : σ → List AObj) (Hz : τ → List AObj) (nb : Nat) (hHx : ∀ y, objsC nb (Hx y)) (hHz : ∀ z, objsC nb (Hz z)) (y0 : σ) (h0 : Inv [] y0)
  (hst : Conc E B G w a (St.of L (Hx y0) []))
  (hA1 : codeOk T B.nt assign = true) (hA2 : codeR assign = true) (hB1 : codeOk T B.nt body = true) (hB2 : codeR body = true)
  (hround : ∀ pre x y, R pre x → Inv pre y → evK ⟨E, P, T, rows, nb, 0⟩ assign (fun e s => e = .normal ∧ cellsOnly s ∧ s.H.length = nb ∧ evK ⟨E, P, T, rows, nb, 0⟩ body (fun e s' => match e with
    | .normal => ∃ y', Inv (pre ++ [x]) y' ∧ Gho E nb 0 s' (St.of [] (Hx y') [])
    | .ret => ∃ z, Iz (pre ++ [x]) z ∧ Gho E nb 0 s' (St.of [] (Hz z) [])
    | _ => False) s) (setS p q (avs x).1 (avs x).2 (St.of L (Hx y) [])))
  (hdone : ∀ xs y G1 W, S xs → Inv xs y → Conc E B G1 W a (St.of L (Hx y) []) → G1.O w.heap.size = none → w.heap.size < W.heap.size → W.heap[w.heap.size]? = some (.deferred (some [])) → Q .normal { a with defers := { target := .collected w.heap.size, args := #[] } :: a.defers } W)
  (hstop : ∀ pre z G1 W, Sp pre → Iz pre z → Conc E B G1 W a (St.of L (Hz z) []) → G1.O w.heap.size = none → w.heap.size < W.heap.size → W.heap[w.heap.size]? = some (.deferred (some [])) → Q .ret { a with defers := { target := .collected w.heap.size, args := #[] } :: a.defers } W) :
  (Code.rangeFunc g #[p, q] assign body).wp P Q a w := by
 refine (wpIn_wide (n := 0)).1 ?_
 have hBd : B.w.heap.size ≤ w.heap.size := hst.good.size
 have hOd : ∀ k, w.heap.size ≤ k → G.O k = none := fun k hk => by
  cases hh : G.O k with
  | none => rfl
  | some i => exact absurd (hst.good.own k i hh).1 (by omega)
 have kx : ∀ {y}, cellsOnly (St.of L (Hx y) []) := fun {y} => ⟨(hHx y).2, rfl⟩
 have kz : ∀ {z}, cellsOnly (St.of L (Hz z) []) := fun {z} => ⟨(hHz z).2, rfl⟩
 refine wpIn_range (R := R) (S := S) (Sp := Sp) (encs := fun x => #[(encs x).1, (encs x).2]) hg eg hseq (fun h k => h.trans k) (fun W l o o' hwl hl ho _ => ?_) (Below.refl _ _) (fun _ => rfl)
  (fun pre W => ∃ y G1, Inv pre y ∧ Conc E B G1 W a (St.of L (Hx y) []) ∧ (G1.O w.heap.size = none ∧ G1.O (w.heap.size + 1) = none) ∧ G1.F b0 o0 ∧ (W.cell? ⟨b0, o0, none⟩).isSome = true)
  (fun c pre W => c = .ret ∧ ∃ z G1, Iz pre z ∧ Conc E B G1 W a (St.of L (Hz z) []) ∧ G1.O w.heap.size = none)
  (fun pre x a' W => ∃ y s G1, Inv pre y ∧ Conc E B G1 W a' s ∧ (cellsOnly s ∧ s.H.length = nb ∧ evK ⟨E, P, T, rows, nb, 0⟩ body (fun e s' => match e with
    | .normal => ∃ y', Inv (pre ++ [x]) y' ∧ Gho E nb 0 s' (St.of [] (Hx y') [])
    | .ret => ∃ z, Iz (pre ++ [x]) z ∧ Gho E nb 0 s' (St.of [] (Hz z) [])
    | _ => False) s) ∧ (∀ t, RepSlot G1 W (a.tmps.getD t undef) (slotsAV L t) none) ∧ (G1.O w.heap.size = none ∧ G1.O (w.heap.size + 1) = none) ∧ G1.F b0 o0 ∧ (W.cell? ⟨b0, o0, none⟩).isSome = true)
  ?_ ?_ ?_ ⟨y0, G, h0, hst, ⟨hOd _ (Nat.le_refl _), hOd _ (Nat.le_succ _)⟩, hF0, hc0⟩ ?_ ?_ ?_ ?_
 · -- the captured variable's cell
  refine ⟨fun v hv => ?_, fun b hb => World.putObj_heap_other (by have := hst.good.gb; omega), by simp [World.putObj]⟩
  by_cases e : b0 = l
  ·subst e
   cases o <;> simp_all [World.cell?, Obj.isCells]
  ·rw [cell_congr (World.putObj_heap_other e)]; exact hv
 · -- turns
  rintro pre W W' row ⟨y, G1, i1, i2, ⟨i3, i4⟩, i5, i6⟩ hgr hr
  obtain ⟨G2, j1, j2, j3, j4, j5⟩ := i2.turn kx hgr hBf hGB (fun r e => ⟨Nat.le_trans hBd (hr r e).1, (hr r e).2⟩)
  obtain ⟨k1, k2⟩ := j4 _ _ i5 i6
  exact ⟨y, G2, i1, j1, ⟨j2 _ i3, j2 _ i4⟩, k1, by rw [k2]; exact i6⟩
 ·rintro c pre W W' row ⟨rfl, z, G1, i1, i2, i3⟩ hgr hr
  obtain ⟨G2, j1, j2, _⟩ := i2.turn kz hgr hBf hGB (fun r e => ⟨Nat.le_trans hBd (hr r e).1, (hr r e).2⟩)
  exact ⟨rfl, z, G2, i1, j1, j2 _ i3⟩
 ·rintro pre x a' _ W W' row ⟨y, s, G1, i1, i2, ⟨c1, c2, c3⟩, i7, ⟨i3, i4⟩, i5, i6⟩ hgr hr
  obtain ⟨G2, j1, j2, j3, j4, j5⟩ := i2.turn c1 hgr hBf hGB (fun r e => ⟨Nat.le_trans hBd (hr r e).1, (hr r e).2⟩)
  obtain ⟨k1, k2⟩ := j4 _ _ i5 i6
  exact ⟨y, s, G2, i1, j1, ⟨c1, c2, c3⟩, fun t => j5 _ _ (i7 t), ⟨j2 _ i3, j2 _ i4⟩, k1, by rw [k2]; exact i6⟩
 · -- the loop variables are laid
  rintro l pre x W K ⟨y, G1, i1, i2, ⟨i3, i4⟩, i5, i6⟩ hR hlt hK
  obtain ⟨r1, r2⟩ := henc pre x hR G1.F W G1.ι
  have hlay := (i2.start.lay (by show B.df = []; exact hdf) hp hq r1 r2)
  have hnb : (St.of L (Hx y) []).H.length = nb := (hHx y).1
  rw [hnb] at hlay
  have efold : ∀ (T : Array Value) (v u : Value), (#[p, q].zip #[v, u]).foldl (fun t (x : Nat × Value) => t.setIfInBounds x.1 x.2) T = (T.setIfInBounds p v).setIfInBounds q u := fun T v u => by simp [Array.zip, Array.zipWith, Array.zipWithMAux]
  rw [← efold] at hlay
  refine wpIn_mono (evKR_ok (C := ⟨E, P, T, rows, nb, 0⟩) hT hm (B := reb G1 W B.nt nb 0 B.df) rfl rfl assign _ _ hA1 hA2 (hround pre x y hR i1) (fun s h => by cases h.1) G1 W _ hlay) ?_
  rintro e a' W' ⟨s, G2, ⟨rfl, c1, c2, c3⟩, j1⟩
  have hold : ∀ k, k < W.heap.size → G1.O k = none → G2.O k = none ∧ W'.heap[k]? = W.heap[k]? := fun k hk hn => j1.good.old k hk hn
  have hx := j1.good.ext
  have hcell := hx.w _ _ i5
  refine hK a' W' ⟨(hold _ (by omega) i3).2, (hold _ hlt i4).2⟩ ⟨fun v hv => by rw [hcell]; exact hv, fun b hb => (j1.good.glob b hb).trans (i2.good.glob b hb).symm, j1.good.size⟩ ⟨y, s, G2, i1, ⟨i2.good.rebase j1.good, j1.size, j1.defers, j1.rep⟩, ⟨c1, c2, c3⟩, fun t => (i2.slots hL t).ext hx, ⟨(hold _ (by omega) i3).1, (hold _ hlt i4).1⟩, hx.F _ _ i5, by rw [hcell]; exact i6⟩
 · -- the body
  rintro l pre x a' W ⟨y, s, G1, i1, i2, ⟨c1, c2, c3⟩, i7, ⟨i3, i4⟩, i5, i6⟩ hR hlt
  have hs := i2.start
  have hk0 : s.k.length = 0 := by rw [c1.2]; rfl
  rw [c2, hk0] at hs
  refine wpIn_mono (evKR_ok (C := ⟨E, P, T, rows, nb, 0⟩) hT hm (B := reb G1 W B.nt nb 0 B.df) rfl rfl body _ _ hB1 hB2 c3 (fun s h => h) G1 W _ hs) ?_
  rintro e a3 W3 ⟨s', G2, hk, j1⟩
  have hold : ∀ k, k < W.heap.size → G1.O k = none → G2.O k = none ∧ W3.heap[k]? = W.heap[k]? := fun k hk hn => j1.good.old k hk hn
  have key : ∀ (H : List AObj), Gho E nb 0 s' (St.of [] H []) → ∃ G3, Conc E B G3 W3 a (St.of L H []) ∧ (G3.O w.heap.size = none ∧ G3.O (w.heap.size + 1) = none) ∧ G3.F b0 o0 ∧ W3.cell? ⟨b0, o0, none⟩ = W.cell? ⟨b0, o0, none⟩ := fun H hgo => by
   obtain ⟨G3, j2⟩ := hgo (reb G1 W B.nt nb 0 B.df) G2 W3 a3 rfl rfl j1
   have hx := j2.good.ext
   have hold3 : ∀ k, k < W.heap.size → G1.O k = none → G3.O k = none ∧ W3.heap[k]? = W.heap[k]? := fun k hk hn => j2.good.old k hk hn
   exact ⟨G3, Conc.join (i2.good.rebase j2.good) hst.size hst.defers (fun t => (i7 t).ext hx) hL j2, ⟨(hold3 _ (by omega) i3).1, (hold3 _ hlt i4).1⟩, hx.F _ _ i5, hx.w _ _ i5⟩
  cases e with
  | normal =>
   obtain ⟨y', k1, k2⟩ := hk
   obtain ⟨G3, m1, m2, m3, m4⟩ := key _ k2
   exact ⟨⟨(hold _ (by omega) i3).2, (hold _ hlt i4).2⟩, ⟨fun v hv => by rw [m4]; exact hv, fun b hb => (j1.good.glob b hb).trans (i2.good.glob b hb).symm, j1.good.size⟩, y', G3, k1, m1, m2, m3, by rw [m4]; exact i6⟩
  | ret =>
   obtain ⟨z, k1, k2⟩ := hk
   obtain ⟨G3, m1, m2, m3, m4⟩ := key _ k2
   exact ⟨⟨(hold _ (by omega) i3).2, (hold _ hlt i4).2⟩, rfl, z, G3, k1, m1, m2.1⟩
  | exit i => exact hk.elim
  | goto i => exact hk.elim
  | panic i => exact hk.elim
  | outgrown => exact hk.elim
 ·rintro xs W hS ⟨y, G1, i1, i2, ⟨i3, _⟩, _⟩ hK
  exact hdone xs y G1 W hS i1 i2 i3 (Array.getElem?_eq_some_iff.1 hK).1 hK
 ·rintro c pre W hSp ⟨rfl, z, G1, i1, i2, i3⟩ hK
  exact wpIn_ret (hstop pre z G1 W hSp i1 i2 i3 (Array.getElem?_eq_some_iff.1 hK).1 hK)
end Go.Pm
namespace Go.Pm
open Go Go.RowKit
set_option linter.unusedVariables false
set_option linter.unusedSimpArgs false
def base0 (F : Nat → Nat → Prop) (w : World) (nt : Nat) (df : List Deferred) : Base := { F := F, O := fun _ => none, w := w, nt := nt, df := df }
def PostB (F : Nat → Nat → Prop) (w : World) (r : AV) (e : Ending) (w' : World) : Prop :=
 ∃ v F', e = .returned v ∧ Below w.heap.size w w' ∧ (∀ b o, F b o → F' b o) ∧ (∀ b o, F' b o → b < w'.heap.size ∧ (F b o ∨ w.heap.size ≤ b)) ∧ Rep F' w' (fun _ => none) v r ∧ (false = true → OwnRes w F' w' v r)
def EndQ (T : Tab) (rs : List ResultVar) (r : AV) (st : St) : Prop := resE T st rs fun l => (packR l).puR = true ∧ packR l = r
def EndR (T : Tab) (rs : List ResultVar) (r : AV) (st : St) : Prop := cellsOnly st ∧ resE T st rs fun l => (packR l).puR = true ∧ packR l = r
section
variable {E : Env} {P : Program} {T : Tab} {F : Nat → Nat → Prop} {w W : World} {nt : Nat} {G : Gh} {a : Act} {st : St} {fn : Func} {r : AV}
theorem end_post (hT : TOk P T) {df : List Deferred} (h : Conc E (base0 F w nt df) G W a st) (he : resE T st fn.results.toList fun l => (packR l).puR = true ∧ packR l = r) : ∃ v, (results fn a.tmps).run P W = .ok v W ∧ PostB F w r (.returned v) W := by
 obtain ⟨l, ⟨hp, hq⟩, vs, hrun, hlen, hrep⟩ := resE_ok hT h _ _ he
 refine ⟨_, run_results fn a.tmps W hrun, _, G.F, rfl, ⟨h.good.os, h.good.tape, h.good.output, h.good.size, fun b hb' => (h.good.old b hb' rfl).2⟩, fun b o hbo => (h.good.keep b o hbo).1, fun b o hbo => ⟨h.good.fin b o hbo, ?_⟩, ?_, fun h => by cases h⟩
 ·rcases h.good.new b o hbo with h1 | h1 | h1
  ·exact .inl h1
  ·exact .inr h1
  ·exact absurd rfl h1
 ·rw [← hq]
  exact (pack_rep hlen hrep).pure (AV.puR_ok hp) _
theorem leave0 (hT : TOk P T) (h : Conc E (base0 F w nt []) G W a st) (he : EndQ T fn.results.toList r st) : LeavesInM Fence.wide 0 P fn a.tmps (PostB F w r) a.defers .returning W := by
 have hd : a.defers = [] := h.defers
 rw [hd]
 exact end_post hT h he
theorem leave1 (hT : TOk P T) {d : Nat} (h : Conc E (base0 F w nt [{ target := .collected d, args := #[] }]) G W a st) (hd : W.heap[d]? = some (.deferred (some []))) (hdw : w.heap.size ≤ d) (hGB : E.GB ≤ w.heap.size) (hFf : ∀ b o, F b o → b < w.heap.size)
  (he : EndR T fn.results.toList r st) : LeavesInM Fence.wide 0 P fn a.tmps (PostB F w r) a.defers .returning W := by
 have hdd : a.defers = [{ target := .collected d, args := #[] }] := h.defers
 rw [hdd]
 refine ⟨by simp, .inl ⟨d, _, rfl, run_takeDeferred hd, ?_⟩⟩
 obtain ⟨G2, j1, _⟩ := h.turn he.1 (grownBy_putObj' W d (.deferred none)) hFf hGB (fun r e => by cases e; exact ⟨hdw, _, hd, rfl⟩)
 exact end_post hT j1 he.2
theorem step_ok {rows : List Nat} {Φ : Prop} (hT : TOk P T) (hm : P.follows .mixedOrders = true) {x rest : Code} {st1 : St} (h : Conc E (base0 F w fn.ntmps []) G W a st) (hok : codeOk T fn.ntmps x = true)
  (hx : evK ⟨E, P, T, rows, 0, 0⟩ x (fun e s => match e with | .normal => Φ ∧ Gho E 0 0 s st1 | .ret => EndQ T fn.results.toList r s | _ => False) st)
  (hrest : Φ → ∀ G W a, Conc E (base0 F w fn.ntmps []) G W a st1 → rest.wp P (bodyPostM Fence.wide 0 P fn (PostB F w r)) a W) : (Code.seq x rest).wp P (bodyPostM Fence.wide 0 P fn (PostB F w r)) a W := by
 refine wp_seq (wp_mono (evK_ok (C := ⟨E, P, T, rows, 0, 0⟩) hT hm (B := base0 F w fn.ntmps []) rfl rfl x _ _ hok hx G W a h) ?_)
 rintro e a' W' ⟨s, G', hk, hs⟩
 cases e with
 | normal =>
  obtain ⟨G2, h2⟩ := hk.2 (base0 F w fn.ntmps []) G' W' a' rfl rfl hs
  exact hrest hk.1 G2 W' a' h2
 | ret => exact leave0 hT hs hk
 | exit i => exact hk.elim
 | goto i => exact hk.elim
 | panic i => exact hk.elim
 | outgrown => exact hk.elim
theorem loop_ok {rows : List Nat} (hT : TOk P T) (hm : P.follows .mixedOrders = true) (hFf : ∀ b o, F b o → b < w.heap.size) (hGB : E.GB ≤ w.heap.size)
  {bid tg p q : Nat} {x assign body post : Code} {L : List Slot} (hL : L.all (fun x => x.tag.isNone) = true)
  {α σ τ : Type} {encs : α → Value × Value} {avs : α → AV × AV} {R : List α → α → Prop} {S Sp : List α → Prop} {gf : Nat} {s0 : Bytes}
  (hsl : slotsAV L tg = .fn gf [] [.iptr [.str s0]]) (eg : ∀ args w, (callFunc gf args).run P w = .ok (.enter gf args) w)
  (hseq : ∀ (w : World) (b0 o0 : Nat), s0.length ≤ maxLen → (∀ b, b < E.GB → w.heap[b]? = E.W0.heap[b]?) → E.GB ≤ w.heap.size → w.cell? ⟨b0, o0, none⟩ = some (.string ⟨s0.toArray⟩) → SeqR P gf #[.pointer (some ⟨b0, o0, none⟩)] (fun x => #[(encs x).1, (encs x).2]) (KpR E b0 o0) R S Sp w)
  (henc : ∀ pre x, s0.length ≤ maxLen → R pre x → ∀ F w ι, Rep F w ι (encs x).1 (avs x).1 ∧ Rep F w ι (encs x).2 (avs x).2) (hp : Nat.blt p fn.ntmps = true) (hq : Nat.blt q fn.ntmps = true)
  (Inv : List α → σ → Prop) (Iz : List α → τ → Prop) (Hx : σ → List AObj) (Hz : τ → List AObj) (nb : Nat) (hHx : ∀ y, objsC nb (Hx y)) (hHz : ∀ z, objsC nb (Hz z)) (y0 : σ) (h0 : Inv [] y0)
  (h : Conc E (base0 F w fn.ntmps []) G W a st) (hokx : codeOk T fn.ntmps x = true)
  (hx : evK ⟨E, P, T, rows, 0, 0⟩ x (fun e s => match e with | .normal => Gho E 0 0 s (St.of L (Hx y0) []) | .ret => EndQ T fn.results.toList r s | _ => False) st)
  (hA1 : codeOk T fn.ntmps assign = true) (hA2 : codeR assign = true) (hB1 : codeOk T fn.ntmps body = true) (hB2 : codeR body = true) (hP1 : codeOk T fn.ntmps post = true)
  (hround : ∀ pre x y, R pre x → Inv pre y → evK ⟨E, P, T, rows, nb, 0⟩ assign (fun e s => e = .normal ∧ cellsOnly s ∧ s.H.length = nb ∧ evK ⟨E, P, T, rows, nb, 0⟩ body (fun e s' => match e with
    | .normal => ∃ y', Inv (pre ++ [x]) y' ∧ Gho E nb 0 s' (St.of [] (Hx y') [])
    | .ret => ∃ z, Iz (pre ++ [x]) z ∧ Gho E nb 0 s' (St.of [] (Hz z) [])
    | _ => False) s) (setS p q (avs x).1 (avs x).2 (St.of L (Hx y) [])))
  (hpost : ∀ xs y, S xs → Inv xs y → evK ⟨E, P, T, rows, nb, 0⟩ post (fun e s => match e with | .ret => EndR T fn.results.toList r s | _ => False) (St.of L (Hx y) []))
  (hret : ∀ pre z, Sp pre → Iz pre z → EndR T fn.results.toList r (St.of L (Hz z) [])) :
  (Code.seq (Code.seq x (Code.block bid (Code.rangeFunc (.tmp tg) #[p, q] assign body))) post).wp P (bodyPostM Fence.wide 0 P fn (PostB F w r)) a W := by
 refine wp_seq (wp_seq (wp_mono (evK_ok (C := ⟨E, P, T, rows, 0, 0⟩) hT hm (B := base0 F w fn.ntmps []) rfl rfl x _ _ hokx hx G W a h) ?_))
 rintro e a1 W1 ⟨s, G1, hk, hs⟩
 cases e with
 | exit i => exact hk.elim
 | goto i => exact hk.elim
 | panic i => exact hk.elim
 | outgrown => exact hk.elim
 | ret => exact leave0 hT hs hk
 | normal =>
  obtain ⟨G2, h2⟩ := hk (base0 F w fn.ntmps []) G1 W1 a1 rfl rfl hs
  have hdf1 : a1.defers = [] := h2.defers
  have hslot := (h2.slots hL tg).1
  rw [hsl] at hslot
  obtain ⟨v0, hv0, b0, o0, rfl, hF0, hc0, hs0⟩ : ∃ v0, a1.eval (.tmp tg) = .func (.func gf) #[] #[v0] ∧ ∃ b0 o0, v0 = .pointer (some ⟨b0, o0, none⟩) ∧ G2.F b0 o0 ∧ W1.cell? ⟨b0, o0, none⟩ = some (.string ⟨s0.toArray⟩) ∧ s0.length ≤ maxLen := by
   have e : a1.eval (.tmp tg) = a1.tmps.getD tg undef := rfl
   rw [e]
   generalize a1.tmps.getD tg undef = u at hslot
   cases hslot with
   | fn _ _ fs cs _ _ hl hl' hf hc =>
    obtain rfl : fs = [] := List.eq_nil_of_length_eq_zero hl
    obtain ⟨c, rfl⟩ : ∃ c, cs = [c] := by
     match cs, hl' with
     | [c], _ => exact ⟨c, rfl⟩
    refine ⟨c, rfl, ?_⟩
    have hr := hc 0 _ _ rfl rfl
    cases hr with
    | iptr _ b o _ vals hFl hv hr =>
     have h1 := hv 0 _ rfl
     have h3 := hr 0 _ rfl
     generalize vals 0 = u at *
     cases h3 with
     | str _ _ hl => exact ⟨b, o, rfl, hFl 0 (by simp), h1.1, hl⟩
  refine wp_block ?_
  refine range_ok (rows := rows) hT hm (B := base0 F w fn.ntmps []) rfl hFf hGB hL hv0 eg hF0 (by rw [hc0]; rfl) (hseq W1 b0 o0 hs0 h2.good.glob h2.good.gb hc0) (fun pre x => henc pre x hs0) (Nat.blt_eq ▸ hp) (Nat.blt_eq ▸ hq) Inv Iz Hx Hz nb hHx hHz y0 h0 h2 hA1 hA2 hB1 hB2 hround ?_ ?_
  ·intro xs y G3 W3 hS hI h3 hO hlt hd
   rw [hdf1]
   have hst := h3.start
   have hlen : (St.of L (Hx y) []).H.length = nb := (hHx y).1
   rw [hlen] at hst
   have hst2 : Conc E (reb G3 W3 fn.ntmps nb 0 [{ target := .collected W1.heap.size, args := #[] }]) G3 W3 { a1 with defers := [{ target := .collected W1.heap.size, args := #[] }] } (St.of L (Hx y) []) := ⟨hst.good.conv, hst.size, rfl, hst.rep⟩
   refine wp_mono (evK_ok (C := ⟨E, P, T, rows, nb, 0⟩) hT hm (B := reb G3 W3 fn.ntmps nb 0 [{ target := .collected W1.heap.size, args := #[] }]) rfl rfl post _ _ hP1 (hpost xs y hS hI) G3 W3 _ hst2) ?_
   rintro e a4 W4 ⟨s4, G4, hk4, h4⟩
   cases e with
   | ret =>
    have hd4 := (h4.good.old W1.heap.size hlt hO).2.trans hd
    exact leave1 hT (nt := fn.ntmps) (F := F) (w := w) ⟨(h3.good.rebase h4.good).conv, h4.size, h4.defers, h4.rep⟩ hd4 h2.good.size hGB hFf hk4
   | normal => exact hk4.elim
   | exit i => exact hk4.elim
   | goto i => exact hk4.elim
   | panic i => exact hk4.elim
   | outgrown => exact hk4.elim
  ·intro pre z G3 W3 hS hI h3 hO hlt hd
   rw [hdf1]
   exact leave1 hT (nt := fn.ntmps) (F := F) (w := w) ⟨h3.good.conv, h3.size, rfl, h3.rep⟩ hd h2.good.size hGB hFf (hret pre z hS hI)
theorem FnR.of_wp {f : FuncId} {code : Code} {args : List AV} (hf : P.funcs[f]? = some fn) (hb : fn.body = some code) (hname : (fn.name == "runtime.NumGoroutine") = false) (hargs : Nat.ble args.length fn.ntmps = true)
  (h : ∀ (F : Nat → Nat → Prop) (w : World) (G : Gh) (a : Act), (∀ b o, F b o → b < w.heap.size) → E.GB ≤ w.heap.size → (∀ x, x ∈ args → Wf x) → Conc E (base0 F w fn.ntmps []) G w a (St.init args) → code.wp P (bodyPostM Fence.wide 0 P fn (PostB F w r)) a w) : FnR E P f args r false := by
 refine .inl ⟨⟨fn, hf, hname, by rw [hb]; rfl⟩, fun F w vals hgw hl hr => ?_⟩
 have hwf : ∀ a, a ∈ args → Wf a := fun a ha => by
  obtain ⟨i, hi, rfl⟩ := List.getElem_of_mem ha
  exact (hr i (vals[i]'(by omega)) _ (List.getElem?_eq_getElem _) (List.getElem?_eq_getElem hi)).wf
 have hle : args.length ≤ fn.ntmps := by simpa [Nat.ble_eq] using hargs
 let G0 : Gh := { F := F, ι := fun _ => none, κ := fun _ => none, O := fun _ => none }
 have hconc : Conc E (base0 F w fn.ntmps []) G0 w { tmps := vals.toArray ++ Array.replicate (fn.ntmps - vals.toArray.size) undef, defers := [] } (St.init args) := by
  refine ⟨⟨hgw.fin, fun b i hi => (by cases hi), Nat.le_refl _, fun b _ _ => ⟨rfl, rfl⟩, fun b o hb => ⟨hb, rfl⟩, fun b o hb => .inl hb, rfl, rfl, rfl, hgw.glob, hgw.gb, fun i g h => (by cases h), fun i r h => (by cases h)⟩, by simp [base0]; omega, rfl, fun l => ?_⟩
  cases l with
  | slot t =>
   refine ⟨?_, trivial⟩
   simp only [St.init]
   rcases Nat.lt_or_ge t args.length with ht | ht
   ·have h1 : args.getD t .any = args[t] := by simp [List.getD, ht]
    have h2 : (vals.toArray ++ Array.replicate (fn.ntmps - vals.toArray.size) undef).getD t undef = vals[t]'(by omega) := by
     rw [Array.getD_eq_getD_getElem?, Array.getElem?_append_left (by simp; omega)]
     simp [show t < vals.length by omega]
    rw [h1, h2]
    exact hr t _ _ (List.getElem?_eq_getElem _) (List.getElem?_eq_getElem ht)
   ·have h1 : args.getD t .any = .any := by simp [List.getD, List.getElem?_eq_none ht]
    rw [h1]; exact .any ..
  | obj i => simp [RepL, St.init, RepObj, G0]
  | tok i => simp [RepL, St.init, RepTok, G0]
 exact callsIn_wide.1 (callsIn_of_wp_marks (F := Fence.wide) (n := 0) hf hb trivial ((wpIn_wide (n := 0)).2 (h F w G0 _ hgw.fin hgw.gb hwf hconc)))
end
def noMp (H : List AObj) : Bool := H.all fun x => match x with | .mp _ => false | _ => true
theorem noMp_at {H : List AObj} (h : noMp H = true) (i : Nat) (x : SObj) : H[i]? ≠ some (AObj.mp x) := fun e => by
 have := List.all_eq_true.1 h _ (List.mem_of_getElem? e)
 cases this
theorem cellsOnly.mk' {st : St} (h : noMp st.H = true) (hk : st.k = []) : cellsOnly st := ⟨noMp_at h, hk⟩
theorem objsC.mk' {n : Nat} {H : List AObj} (h : noMp H = true) (hn : H.length = n) : objsC n H := ⟨hn, noMp_at h⟩
theorem EndR.of {T : Tab} {rs : List ResultVar} {r : AV} {st : St} (h : noMp st.H = true) (hk : st.k = []) (he : EndQ T rs r st) : EndR T rs r st := ⟨⟨noMp_at h, hk⟩, he⟩
end Go.Pm
