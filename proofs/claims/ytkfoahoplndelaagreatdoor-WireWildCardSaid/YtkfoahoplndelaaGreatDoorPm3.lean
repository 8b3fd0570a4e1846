/-
  Generic: a region that draws its order: if the operations that touch one place are ordered by the region's edges, every order gives what the text's order gives.
-/
import Derived.Test.YtkfoahoplndelaaGreatDoorPm2
namespace Go.Pm
open Go Go.RowKit
theorem Chain.seq {E : Env} {P : Program} {ops : Array Oper} {l : List Oper} {st st' : St} {ft : List (List Loc × List Loc)} (h : Chain E P ops l st ft st') :
    ∃ S : Nat → St, S 0 = st ∧ S l.length = st' ∧ ft.length = l.length ∧ ∀ (i : Nat) (o : Oper), l[i]? = some o → StepFact E P ops o (S i) (S (i + 1)) (ft.getD i ([], [])).1 (ft.getD i ([], [])).2 := by
  induction h with
  | nil st => exact ⟨fun _ => st, rfl, rfl, rfl, fun i o h => by simp at h⟩
  | cons o rest st stm st'' N W ft hf _ ih =>
    obtain ⟨S, h0, hn, hl, hS⟩ := ih
    refine ⟨fun i => match i with | 0 => st | i + 1 => S i, rfl, by simpa using hn, by simpa using hl, fun i o' ho => ?_⟩
    cases i with
    | zero =>
      simp only [List.getElem?_cons_zero, Option.some.injEq] at ho
      subst ho
      simp only [List.getD_cons_zero, h0]
      exact hf
    | succ i =>
      simp only [List.getElem?_cons_succ] at ho
      simpa using hS i o' ho
def lastW (X : Nat → Bool) (W : Nat → List Loc) (l : Loc) : Nat → Nat
  | 0 => 0
  | n + 1 => if X n = true ∧ l ∈ W n then n + 1 else lastW X W l n
theorem lastW_spec (X : Nat → Bool) (W : Nat → List Loc) (l : Loc) : ∀ n, lastW X W l n ≤ n ∧ (∀ k, lastW X W l n ≤ k → k < n → ¬ (X k = true ∧ l ∈ W k)) ∧
    (lastW X W l n = 0 ∨ ∃ k, lastW X W l n = k + 1 ∧ X k = true ∧ l ∈ W k) := by
  intro n
  induction n with
  | zero => exact ⟨Nat.le_refl _, fun k _ h => absurd h (by omega), .inl rfl⟩
  | succ n ih =>
    unfold lastW
    split
    · rename_i h
      exact ⟨Nat.le_refl _, fun k h1 h2 => absurd h2 (by omega), .inr ⟨n, rfl, h.1, h.2⟩⟩
    · rename_i h
      refine ⟨by omega, fun k h1 h2 => ?_, ih.2.2⟩
      rcases Nat.lt_or_ge k n with hk | hk
      · exact ih.2.1 k h1 hk
      · have : k = n := by omega
        subst this; exact h
theorem same_run {S : Nat → St} {W : Nat → List Loc} {n : Nat} (hs : ∀ i, i < n → ∀ l, l ∉ W i → SameAt l (S i) (S (i + 1))) (l : Loc) (m : Nat) :
    ∀ i, m ≤ i → i ≤ n → (∀ k, m ≤ k → k < i → l ∉ W k) → SameAt l (S m) (S i) := by
  intro i
  induction i with
  | zero => intro h _ _; have : m = 0 := by omega
            subst this; exact .refl _ _
  | succ i ih =>
    intro h hn hk
    rcases Nat.lt_or_ge i m with hlt | hge
    · have : m = i + 1 := by omega
      subst this; exact .refl _ _
    · exact (ih hge (by omega) fun k h1 h2 => hk k h1 (by omega)).trans (hs i (by omega) l (hk i hge (by omega)))
def edgesOk (ops : List Oper) : Bool := ops.zipIdx.all fun x => x.1.after.toList.all fun e => !Region.binds .any e || Nat.blt e.on x.2
theorem edgesOk.at {ops : List Oper} (h : edgesOk ops = true) {i : Nat} {o : Oper} (ho : ops[i]? = some o) {e : Edge} (he : e ∈ o.after) (hb : Region.binds .any e = true) : e.on < i := by
  simp only [edgesOk, List.all_eq_true] at h
  have h1 := h (o, i) (by rw [List.mem_zipIdx_iff_getElem?]; exact ho) e (by simpa using he)
  simpa [hb, Nat.blt_eq] using h1
theorem clash_false {x y : List Loc × List Loc} (h : clash x y = false) : (∀ l, l ∈ x.2 → l ∉ y.1 ∧ l ∉ y.2) ∧ (∀ l, l ∈ y.2 → l ∉ x.1) := by
  simp only [clash, Bool.or_eq_false_iff, List.any_eq_false, List.contains_iff_mem] at h
  exact ⟨fun l hl => by simpa using h.1 l hl, fun l hl => by simpa using h.2 l hl⟩
theorem ordOk.at {ops : List Oper} {ft : List (List Loc × List Loc)} (h : ordOk ops ft = true) {i j : Nat} (hij : i < j) (hj : j < ft.length) :
    clash (ft.getD i ([], [])) (ft.getD j ([], [])) = false ∨ ((ancs ops).getD j 0).testBit i = true := by
  simp only [ordOk, List.all_eq_true, List.mem_range] at h
  have := h j hj i hij
  simpa using this
theorem ready_nil {ops : Array Oper} (he : edgesOk ops.toList = true) {listed : Array Bool} (hsz : listed.size = ops.size) (hr : Region.ready .any ops listed = []) :
    ∀ i, i < ops.size → listed.getD i true = true := by
  intro i
  induction i using Nat.strongRecOn with
  | _ i ih =>
    intro hi
    cases hc : listed.getD i true with
    | true => rfl
    | false =>
      have : i ∈ Region.ready .any ops listed := by
        rw [mem_ready]
        refine ⟨hc, ops[i], Array.getElem?_eq_getElem hi, fun e hem hb => ?_⟩
        have hlt := edgesOk.at he (o := ops[i]) (i := i) (by rw [Array.getElem?_toList]; exact Array.getElem?_eq_getElem hi) hem hb
        have h1 := ih e.on hlt (by omega)
        rw [Array.getD_eq_getD_getElem?] at h1 ⊢
        rw [Array.getElem?_eq_getElem (by omega)] at h1 ⊢
        simpa using h1
      rw [hr] at this
      cases this
theorem getD_cong {listed : Array Bool} {i : Nat} (h : i < listed.size) (x y : Bool) : listed.getD i x = listed.getD i y := by
  rw [Array.getD_eq_getD_getElem?, Array.getD_eq_getD_getElem?, Array.getElem?_eq_getElem h]; rfl
theorem chain_draw {E : Env} {P : Program} {ops : Array Oper} {Q : Exit → Act → World → Prop} {B : Base} (hd : dstsOk B.nt ops = true) (he : edgesOk ops.toList = true)
    {S : Nat → St} {ft : List (List Loc × List Loc)} (hl : ft.length = ops.size)
    (hS : ∀ (i : Nat) (o : Oper), ops[i]? = some o → StepFact E P ops o (S i) (S (i + 1)) (ft.getD i ([], [])).1 (ft.getD i ([], [])).2) (hord : ordOk ops.toList ft = true)
    (hQ : ∀ G w a, Conc E B G w a (S ops.size) → Q .normal a w) :
    ∀ (fuel : Nat) (listed : Array Bool) (G : Gh) (w : World) (a : Act), listed.size = ops.size → listed.toList.count false = fuel →
      Closed ops.toList (fun k => listed.getD k false = true) → Good E B G w → a.tmps.size = B.nt → a.defers = B.df →
      (∀ l, RepL G w a l (S (lastW (fun k => listed.getD k false) (fun k => (ft.getD k ([], [])).2) l ops.size))) → wpAny P .any ops Q fuel listed a w := by
  have hsame : ∀ i, i < ops.size → ∀ l, l ∉ (ft.getD i ([], [])).2 → SameAt l (S i) (S (i + 1)) := fun i hi l hlw =>
    (hS i ops[i] (Array.getElem?_eq_getElem hi)).same l hlw
  have hdone : ∀ (listed : Array Bool) (G : Gh) (w : World) (a : Act), listed.size = ops.size → Good E B G w → a.tmps.size = B.nt → a.defers = B.df → Region.ready .any ops listed = [] →
      (∀ l, RepL G w a l (S (lastW (fun k => listed.getD k false) (fun k => (ft.getD k ([], [])).2) l ops.size))) → Q .normal a w := by
    intro listed G w a hsz hg has hdf hr hrep
    refine hQ G w a ⟨hg, has, hdf, fun l => (hrep l).congr ?_⟩
    have hsp := lastW_spec (fun k => listed.getD k false) (fun k => (ft.getD k ([], [])).2) l ops.size
    refine same_run (W := fun k => (ft.getD k ([], [])).2) hsame l _ _ hsp.1 (Nat.le_refl _) fun k h1 h2 h3 => hsp.2.1 k h1 h2 ⟨?_, h3⟩
    have := ready_nil he hsz hr k h2
    show listed.getD k false = true
    rw [getD_cong (by omega) false true]; exact this
  intro fuel
  induction fuel with
  | zero =>
    intro listed G w a hsz hcnt hcl hg has hdf hrep
    have hr : Region.ready .any ops listed = [] := by
      rw [List.eq_nil_iff_forall_not_mem]
      intro i hi
      rw [mem_ready] at hi
      obtain ⟨h0, o, ho, _⟩ := hi
      have hilt : i < listed.size := by rw [hsz]; exact (Array.getElem?_eq_some_iff.1 ho).1
      rw [List.count_eq_zero] at hcnt
      apply hcnt
      rw [Array.getD_eq_getD_getElem?, Array.getElem?_eq_getElem hilt] at h0
      simp only [Option.getD_some] at h0
      rw [← h0]
      simp
    exact ⟨hr, hdone listed G w a hsz hg has hdf hr hrep⟩
  | succ fuel ih =>
    intro listed G w a hsz hcnt hcl hg has hdf hrep
    refine ⟨fun hr => hdone listed G w a hsz hg has hdf hr hrep, fun i hi => ?_⟩
    rw [mem_ready] at hi
    obtain ⟨h0, o, ho, hedge⟩ := hi
    have hio : i < ops.size := (Array.getElem?_eq_some_iff.1 ho).1
    have hif : listed.getD i false = false := by rw [getD_cong (by omega) false true]; exact h0
    have hol : ops.toList[i]? = some o := by rw [Array.getElem?_toList]; exact ho
    have hf := hS i o ho
    -- what touches the same place is ordered
    have hordP : ∀ k, k < ops.size → k ≠ i → ∀ l, l ∈ (ft.getD k ([], [])).2 → (l ∈ (ft.getD i ([], [])).1 ∨ l ∈ (ft.getD i ([], [])).2) →
        (k < i → listed.getD k false = true) ∧ (i < k → listed.getD k false = false) := by
      intro k hk hki l hlk hli
      refine ⟨fun hlt => ?_, fun hlt => ?_⟩
      · rcases ordOk.at hord hlt (by omega) with hc | hb
        · have := (clash_false hc).1 l hlk
          rcases hli with h | h
          · exact absurd h this.1
          · exact absurd h this.2
        · exact ancs_spec (fun k => listed.getD k false = true) ops.toList i k o hcl hol (fun e hem hbd => hedge e hem hbd) hb
      · cases hc : listed.getD k false with
        | false => rfl
        | true =>
          exfalso
          rcases ordOk.at hord hlt (by omega) with hc' | hb
          · rcases hli with h | h
            · exact (clash_false hc').2 l hlk h
            · exact ((clash_false hc').1 l h).2 hlk
          · have hok : ops.toList[k]? = some ops[k] := by rw [Array.getElem?_toList]; exact Array.getElem?_eq_getElem hk
            have := ancs_spec (fun k => listed.getD k false = true) ops.toList k i _ hcl hok (fun e hem hbd => hcl k _ hok hc e hem hbd) hb
            have h1 : listed.getD i false = true := this
            rw [hif] at h1; cases h1
    have hN : ∀ l, l ∈ (ft.getD i ([], [])).1 → RepL G w a l (S i) := by
      intro l hl'
      refine (hrep l).congr ?_
      have hsp := lastW_spec (fun k => listed.getD k false) (fun k => (ft.getD k ([], [])).2) l ops.size
      refine same_run (W := fun k => (ft.getD k ([], [])).2) hsame l _ i ?_ (by omega) fun k h1 h2 h3 => ?_
      · rcases hsp.2.2 with h | ⟨k, hk, hx, hw⟩
        · omega
        · rw [hk]
          rcases Nat.lt_trichotomy k i with h | h | h
          · omega
          · subst h; have hx' : listed.getD k false = true := hx
            rw [hif] at hx'; cases hx'
          · have hkn : k < ops.size := by have := hsp.1; omega
            have := (hordP k hkn (by omega) l hw (.inl hl')).2 h
            have hx' : listed.getD k false = true := hx
            rw [this] at hx'; cases hx'
      · exact hsp.2.1 k h1 (by omega) ⟨(hordP k (by omega) (by omega) l h3 (.inl hl')).1 h2, h3⟩
    refine wpOp_of ho (hf.run B G w a hg has (dstsOk.at hd ho) hN _ _ fun G' w' a' hg' has' hfr hW => ?_)
    have hget : ∀ k, (listed.setIfInBounds i true).getD k false = if k = i then true else listed.getD k false := by
      intro k
      by_cases hk : k = i
      · subst hk
        rw [if_pos rfl, Array.getD_eq_getD_getElem?, Array.getElem?_setIfInBounds_self_of_lt (by omega)]; rfl
      · rw [if_neg hk, getD_set_ne false (Ne.symm hk)]
    refine ih (listed.setIfInBounds i true) G' w' a' (by simpa using hsz) ?_ ?_ hg' has' (hfr.defers.trans hdf) fun l => ?_
    · have hli : i < listed.toList.length := by simp; omega
      have hlf : listed.toList[i] = false := by
        rw [Array.getD_eq_getD_getElem?, Array.getElem?_eq_getElem (by omega)] at hif
        simpa using hif
      rw [Array.toList_setIfInBounds, List.count_set hli, hlf, hcnt]
      simp
    · intro j oj hoj hj e hem hbd
      simp only [hget] at hj ⊢
      by_cases hji : j = i
      · subst hji
        rw [hol] at hoj
        injection hoj with hoj
        subst hoj
        split
        · rfl
        · exact hedge e hem hbd
      · rw [if_neg hji] at hj
        split
        · rfl
        · exact hcl j oj hoj hj e hem hbd
    · -- the places, behind the step
      have hX : (fun k => (listed.setIfInBounds i true).getD k false) = fun k => if k = i then true else listed.getD k false := funext hget
      rw [hX]
      by_cases hl' : l ∈ (ft.getD i ([], [])).2
      · have hlast : lastW (fun k => if k = i then true else listed.getD k false) (fun k => (ft.getD k ([], [])).2) l ops.size = i + 1 := by
          have hsp := lastW_spec (fun k => if k = i then true else listed.getD k false) (fun k => (ft.getD k ([], [])).2) l ops.size
          rcases hsp.2.2 with h | ⟨k, hk, hx, hw⟩
          · exact absurd ⟨by simp, hl'⟩ (hsp.2.1 i (by omega) hio)
          · rw [hk]
            have hkn : k < ops.size := by have := hsp.1; omega
            rcases Nat.lt_trichotomy k i with h | h | h
            · exact absurd ⟨by simp, hl'⟩ (hsp.2.1 i (by omega) hio)
            · rw [h]
            · have := (hordP k hkn (by omega) l hw (.inr hl')).2 h
              simp only [if_neg (show ¬ k = i by omega)] at hx
              rw [this] at hx; cases hx
        rw [hlast]
        exact hW l hl'
      · have hlast : lastW (fun k => if k = i then true else listed.getD k false) (fun k => (ft.getD k ([], [])).2) l ops.size = lastW (fun k => listed.getD k false) (fun k => (ft.getD k ([], [])).2) l ops.size := by
          have : ∀ n, lastW (fun k => if k = i then true else listed.getD k false) (fun k => (ft.getD k ([], [])).2) l n = lastW (fun k => listed.getD k false) (fun k => (ft.getD k ([], [])).2) l n := by
            intro n
            induction n with
            | zero => rfl
            | succ n ihn =>
              unfold lastW
              by_cases hni : n = i
              · subst hni
                rw [if_neg (fun h => hl' h.2), if_neg (fun h => hl' h.2), ihn]
              · simp only [if_neg hni, ihn]
          exact this _
        rw [hlast]
        exact hfr.keep hl' (hrep l)
theorem wp_region_chain2 {E : Env} {P : Program} (hm : P.follows .mixedOrders = true) {ops : Array Oper} {Q : Exit → Act → World → Prop} {B : Base} (hd : dstsOk B.nt ops = true)
    {draw : Bool} {st st' : St} {ft : List (List Loc × List Loc)} (hc : Chain E P ops ops.toList st ft st')
    (hdraw : draw = true → edgesOk ops.toList = true ∧ ordOk ops.toList ft = true)
    {G : Gh} {w : World} {a : Act} (hst : Conc E B G w a st) (hQ : ∀ G' w' a', Conc E B G' w' a' st' → Q .normal a' w') : (draw = false → wpOps P ops Q (List.range ops.size) a w) ∧ (draw = true → wpAny P .any ops Q ops.size (Array.replicate ops.size false) a { w with drawn := w.drawn + 1 }) := by
  cases draw with
  | false =>
    refine ⟨fun _ => ?_, fun h => by cases h⟩
    have := chain_text (Q := Q) hd ops.toList 0 st st' ft rfl hc G w a hst hQ
    rw [Array.length_toList] at this
    rw [List.range_eq_range']
    exact this
  | true =>
    obtain ⟨he, hord⟩ := hdraw rfl
    obtain ⟨S, h0, hn, hl, hS⟩ := hc.seq
    refine ⟨fun h => (by cases h), fun _ => ?_⟩
    have hcount : ∀ n, (Array.replicate n false).toList.count false = n := by intro n; simp
    refine chain_draw (G := G) hd he (by simpa using hl) (fun i o ho => hS i o (by rw [Array.getElem?_toList]; exact ho)) hord
      (fun G' w' a' h => hQ G' w' a' (by rw [Array.length_toList] at hn; rw [← hn]; exact h)) ops.size _ _ _ (by simp) (hcount _) ?_ ?_ hst.size hst.defers ?_
    · intro j o ho hj
      exfalso
      have hj' : (Array.replicate ops.size false).getD j false = true := hj
      rw [Array.getD_eq_getD_getElem?] at hj'
      rw [Array.getElem?_replicate] at hj'
      split at hj' <;> simp at hj'
    · have := hst.good
      exact ⟨this.fin, this.own, this.size, this.old, this.keep, this.new, this.os, this.tape, this.output, this.glob, this.gb, this.ids, this.toks⟩
    · intro l
      have hz : lastW (fun k => (Array.replicate ops.size false).getD k false) (fun k => (ft.getD k ([], [])).2) l ops.size = 0 := by
        have hsp := lastW_spec (fun k => (Array.replicate ops.size false).getD k false) (fun k => (ft.getD k ([], [])).2) l ops.size
        rcases hsp.2.2 with h | ⟨k, _, hx, _⟩
        · exact h
        · exfalso
          have hx' : (Array.replicate ops.size false).getD k false = true := hx
          rw [Array.getD_eq_getD_getElem?, Array.getElem?_replicate] at hx'
          split at hx' <;> simp at hx'
      rw [hz, h0]
      have hr := hst.rep l
      cases l with
      | slot t =>
        have hx : Ext G w G ({ w with drawn := w.drawn + 1 } : World) := ⟨fun _ _ h => h, fun _ _ h => h, fun _ _ h => h, fun _ _ _ => rfl⟩
        exact RepSlot.ext hr hx
      | obj i =>
        simp only [RepL] at hr ⊢
        have hx : Ext G w G ({ w with drawn := w.drawn + 1 } : World) := ⟨fun _ _ h => h, fun _ _ h => h, fun _ _ h => h, fun _ _ _ => rfl⟩
        cases hh : st.H[i]? with
        | none => rw [hh] at hr; exact hr
        | some o =>
          rw [hh] at hr
          cases o with
          | dead => trivial
          | mp es => obtain ⟨g, h1, h2, h3, h4⟩ := hr; exact ⟨g, h1, h2, h3, h4.keep (fun _ _ h => h) (fun _ _ _ => rfl) (fun _ hk => ⟨hk, rfl, fun _ h => h⟩) rfl⟩
          | cells t cs tg =>
            rcases hr with h0 | ⟨g, h1, h2, h3, vals, fz, h4, h5, h6, h7⟩
            · exact .inl h0
            exact .inr ⟨g, h1, h2, h3, vals, fz, h4, h5, h6, fun j c hc => let ⟨v, hv, ho, hrs⟩ := h7 j c hc; ⟨v, hv, ho, hrs.ext hx⟩⟩
      | tok i => exact hr
theorem wp_region_chain {E : Env} {P : Program} (hm : P.follows .mixedOrders = true) {ops : Array Oper} {Q : Exit → Act → World → Prop} {B : Base} (hd : dstsOk B.nt ops = true)
    {id : Nat} {draw : Bool} {st st' : St} {ft : List (List Loc × List Loc)} (hc : Chain E P ops ops.toList st ft st')
    (hdraw : draw = true → edgesOk ops.toList = true ∧ ordOk ops.toList ft = true)
    {G : Gh} {w : World} {a : Act} (hst : Conc E B G w a st) (hQ : ∀ G' w' a', Conc E B G' w' a' st' → Q .normal a' w') : (Code.region id ops draw).wp P Q a w := by
  have h := wp_region_chain2 hm hd hc hdraw hst hQ
  cases draw with
  | false => exact wp_region (h.1 rfl)
  | true => exact wp_region_any hm (h.2 rfl)
end Go.Pm
