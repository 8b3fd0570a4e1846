/-
  Generic: a function's base laid anew; the turn of a block that is no cells; ranges over a function.
-/
import Derived.Test.YtkfoahoplndelaaGreatDoorRf1
namespace Go.Pm
open Go Go.RowKit
set_option linter.unusedVariables false
set_option linter.unusedSimpArgs false
def reb (G : Gh) (w : World) (nt nb nk : Nat) (df : List Deferred) : Base := { F := G.F, O := G.O, w := w, nt := nt, ι := G.ι, κ := G.κ, nb := nb, nk := nk, df := df }
section
variable {E : Env} {B : Base} {G G' : Gh} {W W' : World} {a : Act} {st : St}
theorem Good.start (h : Good E B G W) {nt nb nk : Nat} {df : List Deferred} (hι : ∀ i g, G.ι i = some g → i < nb) (hκ : ∀ i r, G.κ i = some r → i < nk) : Good E (reb G W nt nb nk df) G W :=
  ⟨h.fin, h.own, Nat.le_refl _, fun b _ hn => ⟨hn, rfl⟩, fun b o hb => ⟨hb, rfl⟩, fun b o hb => .inl hb, rfl, rfl, rfl, h.glob, h.gb, fun i g hi => ⟨hι i g hi, hi⟩, fun i r hi => ⟨hκ i r hi, hi⟩⟩
theorem Good.rebase (h : Good E B G W) {nt nb nk : Nat} {df : List Deferred} (h' : Good E (reb G W nt nb nk df) G' W') : Good E B G' W' := by
  refine ⟨h'.fin, h'.own, Nat.le_trans h.size h'.size, fun b hb hn => ?_, fun b o hb => ?_, fun b o hb => ?_, h'.os.trans h.os, h'.tape.trans h.tape, h'.output.trans h.output, h'.glob, h'.gb, fun i g hi => ?_, fun i r hi => ?_⟩
  · obtain ⟨h1, h2⟩ := h.old b hb hn
    obtain ⟨h3, h4⟩ := h'.old b (Nat.lt_of_lt_of_le hb h.size) h1
    exact ⟨h3, h4.trans h2⟩
  · obtain ⟨h1, h2⟩ := h.keep b o hb
    obtain ⟨h3, h4⟩ := h'.keep b o h1
    exact ⟨h3, h4.trans h2⟩
  · rcases h'.new b o hb with h1 | h1 | h1
    · exact h.new b o h1
    · exact .inr (.inl (Nat.le_trans h.size h1))
    · rcases Nat.lt_or_ge b B.w.heap.size with hlt | hge
      · exact .inr (.inr fun e => h1 (h.old b hlt e).1)
      · exact .inr (.inl hge)
  · obtain ⟨h1, h2⟩ := h.ids i g hi
    exact ⟨h1, (h'.ids i g h2).2⟩
  · obtain ⟨h1, h2⟩ := h.toks i r hi
    exact ⟨h1, (h'.toks i r h2).2⟩
theorem Good.ext {nt nb nk : Nat} {df : List Deferred} (h' : Good E (reb G W nt nb nk df) G' W') : Ext G W G' W' :=
  ⟨fun b o hb => (h'.keep b o hb).1, fun i g hi => (h'.ids i g hi).2, fun i r hi => (h'.toks i r hi).2, fun b o hb => (h'.keep b o hb).2⟩
theorem Conc.ιlt (h : Conc E B G W a st) : ∀ i g, G.ι i = some g → i < st.H.length := fun i g hi => by
  rcases Nat.lt_or_ge i st.H.length with hh | hh
  · exact hh
  · have := h.rep (.obj i)
    simp only [RepL, List.getElem?_eq_none hh] at this
    rw [show G.ι i = none from this] at hi; cases hi
theorem Conc.κlt (h : Conc E B G W a st) : ∀ i r, G.κ i = some r → i < st.k.length := fun i r hi => by
  rcases Nat.lt_or_ge i st.k.length with hh | hh
  · exact hh
  · have := h.rep (.tok i)
    simp only [RepL, List.getElem?_eq_none hh] at this
    rw [show G.κ i = none from this] at hi; cases hi
theorem Conc.start (h : Conc E B G W a st) : Conc E (reb G W B.nt st.H.length st.k.length B.df) G W a st := ⟨h.good.start h.ιlt h.κlt, h.size, h.defers, h.rep⟩
theorem Rep.real {F : Nat → Nat → Prop} {w : World} {ι : Nat → Option Nat} {v : Value} {x : AV} (h : Rep F w ι v x) {F' : Nat → Nat → Prop} (hF : ∀ b o, F b o → (w.cell? ⟨b, o, none⟩).isSome = true → F' b o) : Rep F' w ι v x := by
  induction h with
  | any => exact .any ..
  | bool => exact .bool ..
  | int ι k n h => exact .int _ _ _ h
  | str ι s h => exact .str _ _ h
  | empty ι a cap sz h => exact .empty _ _ _ _ h
  | list ι b o n cap sz xs vals hn hc hm hsz hFl hv hr ih =>
    refine .list ι b o n cap sz xs vals hn hc hm hsz (fun j hj => ?_) hv fun i e j c he hc => ih i e j c he hc
    have hsz0 : 0 < sz := by
      rcases Nat.eq_zero_or_pos sz with e | e
      · subst e; simp at hj
      · exact e
    have hi : j / sz < xs.length := (Nat.div_lt_iff_lt_mul hsz0).2 hj
    have hjl : j % sz < (xs[j / sz]).cells.length := by rw [hsz _ (List.getElem_mem hi)]; exact Nat.mod_lt _ hsz0
    have := (hv (j / sz) _ (j % sz) _ (List.getElem?_eq_getElem hi) (List.getElem?_eq_getElem hjl)).1
    rw [Nat.div_add_mod' j sz] at this
    exact hF b _ (hFl j hj) (by rw [this]; rfl)
  | row ι id off len cap g h hc hm => exact .row _ _ _ _ _ _ h hc hm
  | row0 ι id off cap a hm => exact .row0 _ _ _ _ _ hm
  | agg ι vs cs hl ho h ih => exact .agg _ _ _ hl ho fun i v c hv hc => ih i v c hv hc
  | tup ι vs cs hl h ih => exact .tup _ _ _ hl fun i v c hv hc => ih i v c hv hc
  | ptr ι id off g h => exact .ptr _ _ _ _ h
  | iptr ι b o cs vals hFl hv hr ih =>
    refine .iptr ι b o cs vals (fun j hj => ?_) hv fun j c hc => ih j c hc
    have := (hv j _ (List.getElem?_eq_getElem hj)).1
    exact hF b _ (hFl j hj) (by rw [this]; rfl)
  | nilp => exact .nilp _
  | fn ι f fs cs fs' cs' hl hl' h h' ih ih' => exact .fn _ _ _ _ _ _ hl hl' (fun i v c hv hc => ih i v c hv hc) fun i v c hv hc => ih' i v c hv hc
  | nilf => exact .nilf _
  | iface ι t v a h ih => exact .iface _ _ _ _ ih
  | nili => exact .nili _
  | glob ι g => exact .glob _ _
  | mapv ι id g h => exact .mapv _ _ _ h
  | cond0 ι a => exact .cond0 _ _
  | cond1 ι v a h ih => exact .cond1 _ _ _ ih
def cellsOnly (st : St) : Prop := (∀ (i : Nat) (x : SObj), st.H[i]? ≠ some (AObj.mp x)) ∧ st.k = []
theorem Conc.turn (h : Conc E B G W a st) (hc : cellsOnly st) {row : Option Nat} (hg : W.grownBy W' row) (hBf : ∀ b o, B.F b o → b < B.w.heap.size) (hGB : E.GB ≤ B.w.heap.size) (hr : ∀ r, row = some r → B.w.heap.size ≤ r ∧ ∃ o : Obj, W.heap[r]? = some o ∧ o.isCells = false) : ∃ G', Conc E B G' W' a st ∧ (∀ b, G.O b = none → G'.O b = none) ∧ (∀ b o, G'.F b o → G.F b o) ∧ (∀ b o, G.F b o → (W.cell? ⟨b, o, none⟩).isSome = true → G'.F b o ∧ W'.cell? ⟨b, o, none⟩ = W.cell? ⟨b, o, none⟩) ∧ ∀ v x, RepSlot G W v x none → RepSlot G' W' v x none := by
  let F' : Nat → Nat → Prop := fun b o => G.F b o ∧ row ≠ some b
  let G' : Gh := { G with F := F', κ := fun _ => none, O := fun b => if row = some b then none else G.O b }
  have hcellrow : ∀ b o, row = some b → W.cell? ⟨b, o, none⟩ = none := fun b o e => by
    obtain ⟨_, ob, h1, h2⟩ := hr b e
    cases ob <;> simp_all [World.cell?, Obj.isCells]
  have hreal : ∀ b o, G.F b o → (W.cell? ⟨b, o, none⟩).isSome = true → F' b o := fun b o h1 h2 => ⟨h1, fun e => by rw [hcellrow b o e] at h2; cases h2⟩
  have hcell : ∀ b o, F' b o → W'.cell? ⟨b, o, none⟩ = W.cell? ⟨b, o, none⟩ := fun b o hb => cell_congr (hg.block b (h.good.fin b o hb.1) (fun e => hb.2 e.symm))
  have hBrow : ∀ b, b < B.w.heap.size → row ≠ some b := fun b hb e => by have := (hr b e).1; omega
  have hκ : ∀ i, G.κ i = none := fun i => by
    have := h.rep (.tok i)
    simp only [RepL] at this
    rw [hc.2, List.getElem?_nil] at this
    exact this
  have hslot : ∀ v x tag, RepSlot G W v x tag → RepSlot G' W' v x tag := fun v x tag hs => ⟨(Rep.real hs.1 hreal).mono (fun _ _ h => h) hcell _ (fun _ _ h => h), by
    cases tag with
    | none => trivial
    | some i =>
      rcases hs.2 with ⟨sz, xs, n, cap, g, lo, hi, ad, h1, h2, h3, h4⟩ | h
      · rw [hκ i] at h3; cases h3
      · exact .inr h⟩
  have hOn : ∀ b, G.O b = none → G'.O b = none := fun b hb => by
    show (if _ then _ else _) = _
    split
    · rfl
    · exact hb
  refine ⟨G', ⟨⟨fun b o hb => by have := h.good.fin b o hb.1; have := hg.size; omega, fun b i hi => ?_, Nat.le_trans h.good.size hg.size, fun b hb hn => ?_, fun b o hb => ?_, fun b o hb => h.good.new b o hb.1, hg.os.trans h.good.os, hg.tape.trans h.good.tape, hg.output.trans h.good.output, fun b hb => ?_, Nat.le_trans h.good.gb hg.size, h.good.ids, fun i r hi => ?_⟩, h.size, h.defers, fun l => ?_⟩, hOn, fun b o hb => hb.1, fun b o h1 h2 => ⟨hreal b o h1 h2, hcell b o (hreal b o h1 h2)⟩, fun v x hs => hslot v x none hs⟩
  · have hi' : (if row = some b then none else G.O b) = some i := hi
    split at hi'
    · cases hi'
    · have := h.good.own b i hi'; have := hg.size; exact ⟨by omega, by omega⟩
  · obtain ⟨h1, h2⟩ := h.good.old b hb hn
    exact ⟨by show (if _ then _ else _) = _; rw [if_neg (hBrow b hb)]; exact h1, (hg.block b (Nat.lt_of_lt_of_le hb h.good.size) (fun e => hBrow b hb e.symm)).trans h2⟩
  · obtain ⟨h1, h2⟩ := h.good.keep b o hb
    have e := hBrow b (hBf b o hb)
    exact ⟨⟨h1, e⟩, (hcell b o ⟨h1, e⟩).trans h2⟩
  · exact (hg.block b (by have := h.good.gb; omega) (fun e => by have := (hr b e.symm).1; omega)).trans (h.good.glob b hb)
  · have := (h.good.toks i r hi).2
    rw [hκ i] at this; cases this
  · cases l with
    | slot t => exact hslot _ _ _ (h.rep (.slot t))
    | obj i =>
      have hobj := h.rep (.obj i)
      simp only [RepL] at hobj ⊢
      cases hi : st.H[i]? with
      | none => rw [hi] at hobj; exact hobj
      | some y =>
        rw [hi] at hobj
        cases y with
        | dead => trivial
        | mp x => exact absurd hi (hc.1 i x)
        | cells t cs tg =>
          refine hobj.imp id fun ⟨g, i1, i2, i3, vals, fz, i4, i5, i6, i7⟩ => ?_
          have hgr : row ≠ some g := fun e => by
            obtain ⟨_, ob, h1, h2⟩ := hr g e
            rw [i4] at h1; injection h1 with h1; subst h1; simp [Obj.isCells] at h2
          refine ⟨g, i1, by show (if _ then _ else _) = _; rw [if_neg hgr]; exact i2, fun x hx => i3 x hx.1, vals, fz, (hg.block g (Array.getElem?_eq_some_iff.1 i4).1 (fun e => hgr e.symm)).trans i4, i5, i6, fun j c hc => ?_⟩
          obtain ⟨v, v1, v2, v3⟩ := i7 j c hc
          exact ⟨v, v1, v2, hslot _ _ _ v3⟩
    | tok i =>
      simp only [RepL]
      rw [hc.2, List.getElem?_nil]
      rfl
end
theorem Good.conv {E : Env} {B : Base} {G : Gh} {W : World} (h : Good E B G W) {df : List Deferred} : Good E { B with df := df } G W := ⟨h.fin, h.own, h.size, h.old, h.keep, h.new, h.os, h.tape, h.output, h.glob, h.gb, h.ids, h.toks⟩
end Go.Pm
