/-
  Generic: own objects that are let go, and are from then on what nobody writes.
-/
import Derived.Test.YtommkfooolabhaaGreatDoorPm24
namespace Go.Pm
open Go Go.RowKit
set_option linter.unusedSimpArgs false
set_option linter.unusedVariables false
def dropO (fz : List Nat) : Nat → List AObj → List AObj
  | _, [] => []
  | i, x :: l => (bif fz.contains i then .dead else x) :: dropO fz (i + 1) l
def St.fz (st : St) (fz : List Nat) (up : List (Nat × AV)) : St :=
  { s := fun t => match up.lookup t with | some v => v | none => st.s t, g := fun t => match up.lookup t with | some _ => none | none => st.g t, H := dropO fz 0 st.H, k := st.k }
theorem dropO_get (fz : List Nat) : ∀ (l : List AObj) (i j : Nat), (dropO fz i l)[j]? = if fz.contains (i + j) then l[j]?.map (fun _ => .dead) else l[j]?
  | [], i, j => by simp [dropO]
  | x :: l, i, j => by
    cases j with
    | zero =>
      simp only [dropO, List.getElem?_cons_zero, Nat.add_zero, Option.map_some]
      cases fz.contains i <;> rfl
    | succ j =>
      simp only [dropO, List.getElem?_cons_succ]
      rw [dropO_get fz l (i + 1) j, show i + 1 + j = i + (j + 1) by omega]
def FrzS (st : St) (fz : List Nat) : List (Nat × AV) → Prop
  | [] => True
  | x :: l => Frz (maskH fz 0 st.H) (st.s x.1) x.2 ∧ FrzS st fz l
theorem FrzS.at_ {st : St} {fz : List Nat} : ∀ {l : List (Nat × AV)} {t : Nat} {v : AV}, FrzS st fz l → l.lookup t = some v → Frz (maskH fz 0 st.H) (st.s t) v
  | [], _, _, _, h => by cases h
  | (u, x) :: l, t, v, hf, h => by
    simp only [List.lookup] at h
    split at h
    · rename_i hb
      injection h with h
      subst h
      have := eq_of_beq hb
      subst this
      exact hf.1
    · exact hf.2.at_ h
theorem maskH_get2 (fz : List Nat) : ∀ (l : List AObj) (i j : Nat) t cs tg, (maskH fz i l)[j]? = some (.cells t cs tg) → l[j]? = some (.cells t cs tg) ∧ fz.contains (i + j) = true
  | [], i, j, _, _, _, h => by simp [maskH] at h
  | x :: l, i, j, t, cs, tg, h => by
    cases j with
    | zero =>
      simp only [maskH, List.getElem?_cons_zero, Option.some.injEq, Nat.add_zero] at h ⊢
      cases hb : fz.contains i with
      | true => rw [hb] at h; exact ⟨h, rfl⟩
      | false => rw [hb] at h; cases h
    | succ j =>
      simp only [maskH, List.getElem?_cons_succ] at h ⊢
      have := maskH_get2 fz l (i + 1) j t cs tg h
      rw [show i + 1 + j = i + (j + 1) by omega] at this
      exact this
theorem Gho.fz {E : Env} {nb nk : Nat} {st : St} (fz : List Nat) (up : List (Nat × AV)) (hf : FrzS st fz up) : Gho E nb nk st (st.fz fz up) := by
  intro B G w a enb enk hst
  let H1 := maskH fz 0 st.H
  have hst1 : Conc E B G w a { st with H := H1 } := ⟨hst.good, hst.size, hst.defers, fun l => by
    have h0 := hst.rep l
    cases l with
    | slot t => exact h0
    | tok i => exact h0
    | obj i =>
      simp only [RepL] at h0 ⊢
      cases hi : H1[i]? with
      | none =>
        have : st.H[i]? = none := by
          rw [List.getElem?_eq_none_iff] at hi ⊢
          have : H1.length = st.H.length := maskH_len ..
          omega
        rw [this] at h0; exact h0
      | some x =>
        by_cases hx : x = .dead
        · subst hx; trivial
        · rw [maskH_get fz _ _ _ _ hx hi] at h0; exact h0⟩
  have hal : ∀ id t cs tg b, H1[id]? = some (.cells t cs tg) → G.ι id = some b → ∀ o, o < cs.length → G.O b = some (.inl id) ∧ b < w.heap.size ∧ fz.contains id = true := by
    intro id t cs tg b h1 h2 o ho
    have hobj := hst1.rep (.obj id)
    simp only [RepL, h1] at hobj
    obtain ⟨g', i1, i2, _⟩ := hobj.resolve_left (by rintro ⟨rfl, _⟩; simp at ho)
    rw [i1] at h2
    injection h2 with h2
    subst h2
    have := maskH_get2 fz st.H 0 id t cs tg h1
    rw [Nat.zero_add] at this
    exact ⟨i2, (hst.good.own _ _ i2).1, this.2⟩
  let G' : Gh := { G with F := frzF G H1 }
  have hx : Ext G w G' w := ⟨fun _ _ h => .inl h, fun _ _ h => h, fun _ _ h => h, fun _ _ _ => rfl, fun _ _ h => h⟩
  have hF : ∀ g i, G.O g = some i → (∀ id, i = .inl id → fz.contains id = false) → ∀ x, G'.F g x → G.F g x := by
    rintro g i hg hi x (h | ⟨id, t, cs, tg, h1, h2, h3⟩)
    · exact h
    · obtain ⟨h4, _, h5⟩ := hal id t cs tg g h1 h2 x h3
      rw [h4] at hg
      injection hg with hg
      have := hi id hg.symm
      rw [this] at h5; cases h5
  refine ⟨G', ⟨fun b o hb => ?_, hst.good.own, hst.good.size, hst.good.old, fun b o hb => ⟨.inl (hst.good.keep b o hb).1, (hst.good.keep b o hb).2⟩, fun b o hb => ?_, hst.good.os, hst.good.tape, hst.good.output, hst.good.glob, hst.good.gb, hst.good.ids, hst.good.toks, hst.good.grow⟩, hst.size, hst.defers, fun l => ?_⟩
  · rcases hb with hb | ⟨id, t, cs, tg, h1, h2, h3⟩
    · exact hst.good.fin b o hb
    · exact (hal id t cs tg b h1 h2 o h3).2.1
  · rcases hb with hb | ⟨id, t, cs, tg, h1, h2, h3⟩
    · exact hst.good.new b o hb
    · obtain ⟨h4, _, _⟩ := hal id t cs tg b h1 h2 o h3
      rcases Nat.lt_or_ge b B.w.heap.size with hlt | hge
      · refine .inr (.inr fun hO => ?_)
        have := (hst.good.old b hlt hO).1
        rw [this] at h4; cases h4
      · exact .inr (.inl hge)
  · have h0 := hst.rep l
    cases l with
    | slot t =>
      simp only [RepL, St.fz] at h0 ⊢
      cases hl : up.lookup t with
      | none => exact h0.ext hx
      | some v =>
        have h1 := (hf.at_ hl).rep hst1 _ h0.1
        exact ⟨h1.mono (fun _ _ h => h) (fun _ _ _ => rfl) _ (fun _ _ h => by cases h), trivial⟩
    | obj i =>
      simp only [RepL, St.fz] at h0 ⊢
      rw [dropO_get, Nat.zero_add]
      cases hc : fz.contains i with
      | true =>
        simp only [if_true]
        cases hi : st.H[i]? with
        | none => rw [hi] at h0; exact h0
        | some x => trivial
      | false =>
        simp only [Bool.false_eq_true, if_false]
        exact h0.keep hx (fun h => h) fun g hg => ⟨hg, rfl, hF g _ hg fun id e => by injection e with e; subst e; exact hc⟩
    | tok i =>
      simp only [RepL, St.fz] at h0 ⊢
      exact h0.keep hx (fun h => h) fun g hg => ⟨hg, rfl, hF g _ hg fun id e => by cases e⟩
end Go.Pm
