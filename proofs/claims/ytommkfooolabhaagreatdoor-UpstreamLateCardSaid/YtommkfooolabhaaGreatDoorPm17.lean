/-
  Generic: what makes the texts about functions short.
-/
import Derived.Test.YtommkfooolabhaaGreatDoorPm16
namespace Go.Pm
open Go Go.RowKit
set_option linter.unusedVariables false
set_option linter.unusedSimpArgs false
def AV.noB (n : Nat) : AV → Bool
  | .ptr id _ | .row id _ _ _ => Nat.blt id n
  | .mapv id => Nat.blt id n
  | .rowR id _ _ _ => Nat.blt id n
  | .agg cs => cs.all fun c => match c with
    | .ptr id _ | .row id _ _ _ => Nat.blt id n
    | .fn _ a b => a.all AV.puB && b.all AV.puB
    | c => AV.puB c
  | .fn _ a b => (a.all fun c => match c with
    | .ptr id _ | .row id _ _ _ => Nat.blt id n
    | c => AV.puB c) && b.all fun c => match c with
    | .ptr id _ | .row id _ _ _ => Nat.blt id n
    | c => AV.puB c
  | .iface _ a => (match a with
    | .ptr id _ | .row id _ _ _ => Nat.blt id n
    | .agg cs => cs.all AV.puB
    | c => AV.puB c)
  | .any => true
  | a => AV.puB a
theorem NoId.up {n m : Nat} {a : AV} (h : NoId n a) (hnm : n ≤ m) : NoId m a := by
  induction h with
  | any => exact .any
  | bool => exact .bool _
  | int => exact .int ..
  | str => exact .str _
  | list => exact .list ..
  | row _ _ _ _ h => exact .row _ _ _ _ (by omega)
  | rowR _ _ _ _ h => exact .rowR _ _ _ _ (by omega)
  | agg _ _ ih => exact .agg _ ih
  | tup _ _ ih => exact .tup _ ih
  | ptr _ _ h => exact .ptr _ _ (by omega)
  | iptr => exact .iptr _
  | nilp => exact .nilp
  | fn _ _ _ _ _ i1 i2 => exact .fn _ _ _ i1 i2
  | nilf => exact .nilf
  | iface _ _ _ ih => exact .iface _ _ ih
  | nili => exact .nili
  | glob => exact .glob _
  | mapv _ h => exact .mapv _ (by omega)
  | cond0 => exact .cond0 _
  | cond _ _ _ ih => exact .cond _ _ ih
def ren0 (σ : Nat → Nat) : AV → AV
  | .ptr id off => .ptr (σ id) off
  | .row id off n sz => .row (σ id) off n sz
  | .rowR id off n sz => .rowR (σ id) off n sz
  | .mapv id => .mapv (σ id)
  | a => a
def renI (σ : Nat → Nat) : AV → AV
  | .agg cs => .agg (cs.map (ren0 σ))
  | .fn f a b => .fn f (a.map (ren0 σ)) (b.map (ren0 σ))
  | .iface t a => .iface t (ren0 σ a)
  | a => ren0 σ a
theorem ren0_pu {σ : Nat → Nat} {a : AV} (h : a.puB = true) : ren0 σ a = a := by cases a <;> first | rfl | cases h
theorem ren0_id (a : AV) : ren0 (fun i => i) a = a := by cases a <;> rfl
theorem ren0_map (l : List AV) : l.map (ren0 fun i => i) = l := (List.map_congr_left fun a _ => ren0_id a).trans (List.map_id _)
theorem renI_id (a : AV) : renI (fun i => i) a = a := by
  cases a <;> first | rfl | exact congrArg AV.agg (ren0_map _) | exact congrArg (AV.iface _) (ren0_id _) | exact congr (congrArg _ (ren0_map _)) (ren0_map _)
theorem renI_map (l : List AV) : l.map (renI fun i => i) = l := (List.map_congr_left fun a _ => renI_id a).trans (List.map_id _)
theorem renI_pu {σ : Nat → Nat} {l : List AV} (h : l.all AV.puB = true) : l = l.map (renI σ) := by
  refine ((List.map_congr_left fun a ha => ?_).trans (List.map_id _)).symm
  have := List.all_eq_true.1 h a ha
  cases a with
  | fn f a b => cases a <;> cases b <;> first | rfl | cases this
  | iface t v => exact congrArg (AV.iface t) (ren0_pu this)
  | _ => first | rfl | cases this
theorem Rep.ren0 {F : Nat → Nat → Prop} {w : World} {ι ι' : Nat → Option Nat} {σ : Nat → Nat} {n : Nat} {v : Value} {c : AV} (h : (match c with
    | .ptr id _ | .row id _ _ _ => Nat.blt id n
    | c => AV.puB c) = true) (hr : Rep F w ι v (Pm.ren0 σ c)) (hι : ∀ i g, i < n → ι (σ i) = some g → ι' i = some g) : Rep F w ι' v c := by
  split at h
  · cases hr with | ptr _ _ _ g hg => exact .ptr _ _ _ _ (hι _ _ (by simpa [Nat.blt_eq] using h) hg)
  · cases hr with
    | row _ _ _ _ _ _ g hg hc hm hb => exact .row _ _ _ _ _ _ _ (hι _ _ (by simpa [Nat.blt_eq] using h) hg) hc hm hb
    | row0 => exact .row0 ..
  · rw [ren0_pu h] at hr; exact hr.pure (AV.puB_ok h) _
theorem Rep.ren2 {F : Nat → Nat → Prop} {w : World} {ι ι' : Nat → Option Nat} {σ : Nat → Nat} {n : Nat} {v : Value} {c : AV} (h : (match c with
    | .ptr id _ | .row id _ _ _ => Nat.blt id n
    | .agg cs => cs.all AV.puB
    | c => AV.puB c) = true) (hr : Rep F w ι v (Pm.ren0 σ c)) (hι : ∀ i g, i < n → ι (σ i) = some g → ι' i = some g) : Rep F w ι' v c := by
  split at h
  · exact .ren0 h hr hι
  · exact .ren0 h hr hι
  · exact hr.pure (.agg _ fun c hc => AV.puB_ok (List.all_eq_true.1 h c hc)) _
  · rw [ren0_pu h] at hr; exact hr.pure (AV.puB_ok h) _
theorem Rep.renI {F : Nat → Nat → Prop} {w : World} {ι ι' : Nat → Option Nat} {σ : Nat → Nat} {n : Nat} {v : Value} {a : AV} (hr : Rep F w ι v (renI σ a)) (hι : ∀ i g, i < n → ι (σ i) = some g → ι' i = some g) (h : a.noB n = true) : Rep F w ι' v a := by
  have mp : ∀ {l : List AV} {i : Nat} {c : AV}, l[i]? = some c → (l.map (Pm.ren0 σ))[i]? = some (Pm.ren0 σ c) := fun hc => by rw [List.getElem?_map, hc]; rfl
  unfold AV.noB at h
  split at h
  · exact .ren0 h hr hι
  · exact .ren0 h hr hι
  · cases hr with | mapv _ _ g hg => exact .mapv _ _ _ (hι _ _ (by simpa [Nat.blt_eq] using h) hg)
  · cases hr with | rowR _ _ _ _ _ _ g hg hc hm hs hb => exact .rowR _ _ _ _ _ _ _ (hι _ _ (by simpa [Nat.blt_eq] using h) hg) hc hm hs hb
  · cases hr with
    | agg _ vs _ hl ho hx =>
      refine .agg _ vs _ (hl.trans (List.length_map ..)) ho fun i v c hv hc => ?_
      have h1 := List.all_eq_true.1 h c (List.mem_of_getElem? hc)
      have h2 := hx i v _ hv (mp hc)
      split at h1
      · exact .ren0 (n := n) h1 h2 hι
      · exact .ren0 (n := n) h1 h2 hι
      · rename_i f a b
        simp only [Bool.and_eq_true, List.all_eq_true] at h1
        exact h2.pure (.fn _ _ _ (fun c hc => AV.puB_ok (h1.1 c hc)) fun c hc => AV.puB_ok (h1.2 c hc)) _
      · rw [ren0_pu h1] at h2; exact h2.pure (AV.puB_ok h1) _
  · rename_i f a b
    simp only [Bool.and_eq_true, List.all_eq_true] at h
    cases hr with
    | fn _ _ fs cs _ _ hl hl' hx hy =>
      exact .fn _ _ _ _ _ _ (hl.trans (List.length_map ..)) (hl'.trans (List.length_map ..)) (fun i v c hv hc => .ren0 (h.1 c (List.mem_of_getElem? hc)) (hx i v _ hv (mp hc)) hι)
        fun i v c hv hc => .ren0 (h.2 c (List.mem_of_getElem? hc)) (hy i v _ hv (mp hc)) hι
  · cases hr with | iface _ _ u _ h2 => exact .iface _ _ _ _ (.ren2 h h2 hι)
  · exact .any ..
  · have e : Pm.renI σ a = a := by
      cases a with
      | fn f a b => cases a <;> cases b <;> first | rfl | cases h
      | iface t v => exact congrArg (AV.iface t) (ren0_pu h)
      | _ => first | rfl | cases h
    rw [e] at hr; exact hr.pure (AV.puB_ok h) _
def KeepOI (m : Nat) (ρ σ : Nat → Nat) : Option AObj → AObj → Prop
  | _, .dead => True
  | some (.cells t cs tg), .cells t' cs' tg' => t = t' ∧ cs = cs'.map (renI σ) ∧ tgOk m ρ tg tg' = true
  | some (.mp es), .mp es' => es = es'
  | _, _ => False
def KeepHI (m : Nat) (ρ σ : Nat → Nat) (H : List AObj) : List Nat → List AObj → Prop
  | [], [] => True
  | i :: q, y :: l => KeepOI m ρ σ H[i]? y ∧ KeepHI m ρ σ H q l
  | _, _ => False
theorem KeepHI.len {m : Nat} {ρ σ : Nat → Nat} {H : List AObj} : ∀ {q : List Nat} {l : List AObj}, KeepHI m ρ σ H q l → q.length = l.length
  | [], [], _ => rfl
  | _ :: _, _ :: _, h => congrArg (· + 1) (h.2.len)
  | [], _ :: _, h => h.elim
  | _ :: _, [], h => h.elim
theorem KeepHI.at_ {m : Nat} {ρ σ : Nat → Nat} {H : List AObj} : ∀ {q : List Nat} {l : List AObj}, KeepHI m ρ σ H q l → ∀ (i : Nat) (y : AObj), l[i]? = some y → KeepOI m ρ σ H[q.getD i 0]? y
  | [], [], _, i, y, h => by simp at h
  | _ :: _, _ :: _, hk, 0, y, h => by simp only [List.getElem?_cons_zero, Option.some.injEq] at h; subst h; exact hk.1
  | _ :: _, _ :: _, hk, i + 1, y, h => by simpa using hk.2.at_ i y (by simpa using h)
  | [], _ :: _, h, _, _, _ => h.elim
  | _ :: _, [], h, _, _, _ => h.elim
def isO : AObj → Bool
  | .dead => false
  | _ => true
def onceO : List Nat → List AObj → Bool
  | i :: q, y :: l => (!(isO y) || !((q.zip l).any fun x => Nat.beq i x.1 && isO x.2)) && onceO q l
  | _, _ => true
theorem onceO_no {i : Nat} : ∀ {q : List Nat} {l : List AObj}, ((q.zip l).any fun x => Nat.beq i x.1 && isO x.2) = false → ∀ (j : Nat) (z : AObj), l[j]? = some z → isO z = true → j < q.length → q.getD j 0 ≠ i
  | [], _, _, j, z, _, _, h => by simp at h
  | _ :: _, [], _, j, z, h, _, _ => by simp at h
  | a :: q, b :: l, hn, 0, z, hz, ha, _ => by
    simp only [List.getElem?_cons_zero, Option.some.injEq] at hz
    subst hz
    rintro rfl
    simp [ha] at hn
  | a :: q, b :: l, hn, j + 1, z, hz, ha, hj => by
    simp only [List.zip_cons_cons, List.any_cons, Bool.or_eq_false_iff] at hn
    simpa using onceO_no hn.2 j z (by simpa using hz) ha (by simpa using hj)
theorem onceO_inj : ∀ {q : List Nat} {l : List AObj}, onceO q l = true → q.length = l.length → ∀ (i j : Nat) (y z : AObj), l[i]? = some y → l[j]? = some z → isO y = true → isO z = true → q.getD i 0 = q.getD j 0 → i = j
  | [], l, _, hl, i, _, y, _, hi, _, _, _, _ => by
    have : l = [] := List.eq_nil_of_length_eq_zero hl.symm
    subst this; simp at hi
  | _ :: _, [], _, hl, _, _, _, _, _, _, _, _, _ => by simp at hl
  | a :: q, b :: l, h, hl, i, j, y, z, hi, hj, ay, az, e => by
    simp only [onceO, Bool.and_eq_true] at h
    have hl' : q.length = l.length := by simpa using hl
    have no : ∀ (k : Nat) (x : AObj), isO b = true → l[k]? = some x → isO x = true → q.getD k 0 ≠ a := fun k x hb hk hx => by
      have h1 := h.1
      rw [hb] at h1
      simp only [Bool.not_true, Bool.false_or, Bool.not_eq_true'] at h1
      exact onceO_no h1 k x hk hx (by rw [hl']; exact (List.getElem?_eq_some_iff.1 hk).1)
    cases i with
    | zero => cases j with
      | zero => rfl
      | succ j =>
        simp only [List.getElem?_cons_zero, Option.some.injEq, List.getElem?_cons_succ, List.getD_cons_zero, List.getD_cons_succ] at hi hj e
        subst hi
        exact absurd e.symm (no j z ay hj az)
    | succ i => cases j with
      | zero =>
        simp only [List.getElem?_cons_zero, Option.some.injEq, List.getElem?_cons_succ, List.getD_cons_zero, List.getD_cons_succ] at hi hj e
        subst hj
        exact absurd e (no i y az hi ay)
      | succ j =>
        simp only [List.getElem?_cons_succ, List.getD_cons_succ] at hi hj e
        rw [onceO_inj h.2 hl' i j y z hi hj ay az e]
theorem LTag.ren0 {G : Gh} {σ : Nat → Nat} {u : Value} {c : AV} {t : Nat} (h : LTag G u (Pm.ren0 σ c) t) : LTag G u c t := by
  obtain ⟨sz, xs, n, cap, g, lo, hi, ad, e, r⟩ := h
  exact ⟨sz, xs, n, cap, g, lo, hi, ad, (by cases c <;> first | exact e | cases e), r⟩
theorem TagOk.renI {G : Gh} {σ : Nat → Nat} {v : Value} {a : AV} : ∀ {t : Option Nat}, TagOk G v (Pm.renI σ a) t → TagOk G v a t
  | none, _ => trivial
  | some i, h => by
    rcases h with ⟨sz, xs, n, cap, g, lo, hi, ad, e, r⟩ | ⟨cs, e, h⟩
    · exact .inl ⟨sz, xs, n, cap, g, lo, hi, ad, (by cases a <;> first | exact e | cases e), r⟩
    · cases a with
      | agg cs0 =>
        injection e with e
        subst e
        exact .inr ⟨cs0, rfl, fun j => ⟨fun sz hd hc => (h j).1 sz hd (by rw [List.getElem?_map, hc]; rfl), fun t c u hd hc hu => ((h j).2 t _ u hd (by rw [List.getElem?_map, hc]; rfl) hu).ren0⟩⟩
      | _ => cases e
theorem Gho.ofI {E : Env} {nb nk : Nat} {st : St} (L : List Slot) (H : List AObj) (k : List Nat) (ρ σ : Nat → Nat) (hL : ∀ x, x ∈ L → st.s x.t = renI σ x.v ∧ x.v.noB H.length = true ∧ ∀ i, x.tag = some i → tIn k.length ρ x.v i = true ∧ st.g x.t = some (tRen ρ x.v i))
    (hN : ∀ (i : Nat) t cs tg, H[i]? = some (.cells t cs tg) → ∀ c, c ∈ cs → c.noB H.length = true) (hH : ∀ (i : Nat) (y : AObj), H[i]? = some y → KeepOI k.length ρ σ st.H[σ i]? y) (hO1 : ∀ (i j : Nat) (y z : AObj), H[i]? = some y → H[j]? = some z → isO y = true → isO z = true → σ i = σ j → i = j) (hK : KeepK st.k ρ k)
    (hnb : ∀ j, j < nb → j < H.length ∧ σ j = j) (hnk : ∀ j, j < nk → j < k.length ∧ ρ j = j) : Gho E nb nk st (St.of L H k) := by
  intro B G w a enb enk hst
  -- the ghosts, cut down
  let ι' : Nat → Option Nat := fun i => if i < H.length then G.ι (σ i) else none
  let κ' : Nat → Option (Nat × Nat × Nat) := fun i => if i < k.length then G.κ (ρ i) else none
  let alive : Nat → Prop := fun i => i < k.length ∧ k[i]? ≠ some 0
  let here : Nat → Prop := fun i => ∃ y, H[i]? = some y ∧ isO y = true
  let O' : Nat → Option (Nat ⊕ Nat) := open Classical in fun b => match G.O b with
    | none => none
    | some (.inl i) => if h : ∃ j, here j ∧ σ j = i then some (.inl (Classical.choose h)) else some (.inl H.length)
    | some (.inr j) => if h : ∃ i, alive i ∧ ρ i = j then some (.inr (Classical.choose h)) else some (.inr k.length)
  have hι : ∀ i g, i < H.length → G.ι (σ i) = some g → ι' i = some g := fun i g hi h => by show (if _ then _ else _) = _; rw [if_pos hi]; exact h
  have lt : ∀ {i y}, H[i]? = some y → i < H.length := fun h => (List.getElem?_eq_some_iff.1 h).1
  have hO : ∀ b i, O' b = some i → ∃ j, G.O b = some j := fun b i h => by
    cases hb : G.O b with
    | none => simp only [O', hb] at h; cases h
    | some j => exact ⟨j, rfl⟩
  have hOn : ∀ b, G.O b = none → O' b = none := fun b h => by simp only [O', h]
  have hOi : ∀ b i, here i → G.O b = some (.inl (σ i)) → O' b = some (.inl i) := fun b i hi h => by
    have hex : ∃ j, here j ∧ σ j = σ i := ⟨i, hi, rfl⟩
    have hc := Classical.choose_spec hex
    obtain ⟨y, y1, y2⟩ := hi
    obtain ⟨z, z1, z2⟩ := hc.1
    have : Classical.choose hex = i := hO1 _ _ z y z1 y1 z2 y2 hc.2
    show O' b = _
    simp only [O', h]
    rw [dif_pos hex, this]
  refine ⟨{ F := G.F, ι := ι', κ := κ', O := O' }, ⟨hst.good.fin, fun b i hi => by obtain ⟨j, hj⟩ := hO b i hi; exact hst.good.own b j hj, hst.good.size, fun b hb hn => ⟨hOn _ (hst.good.old b hb hn).1, (hst.good.old b hb hn).2⟩, hst.good.keep, hst.good.new, hst.good.os, hst.good.tape, hst.good.output, hst.good.glob, hst.good.gb, fun i g hi => ⟨(hst.good.ids i g hi).1, by
    obtain ⟨h1, h2⟩ := hst.good.ids i g hi
    obtain ⟨h3, h4⟩ := hnb i (by omega)
    exact hι i g h3 (by rw [h4]; exact h2)⟩, fun i r hi => ⟨(hst.good.toks i r hi).1, by
    obtain ⟨h1, h2⟩ := hst.good.toks i r hi
    obtain ⟨h3, h4⟩ := hnk i (by omega)
    show (if _ then _ else _) = _
    rw [if_pos h3, h4]; exact h2⟩, hst.good.grow⟩, hst.size, hst.defers, fun l => ?_⟩
  cases l with
  | slot t =>
    have key : ∀ (L' : List Slot), (∀ x, x ∈ L' → x ∈ L) → RepSlot { F := G.F, ι := ι', κ := κ', O := O' } w (a.tmps.getD t undef) (slotsAV L' t) (slotsTag L' t) := by
      intro L'
      induction L' with
      | nil => intro _; exact ⟨.any .., trivial⟩
      | cons x L' ih =>
        intro hm
        by_cases hb : Nat.beq t x.t = true
        · simp only [slotsAV, slotsTag, hb, cond_true]
          have ht : t = x.t := Nat.eq_of_beq_eq_true hb
          obtain ⟨h1, h2, h3⟩ := hL x (hm x (List.mem_cons_self ..))
          have hs := hst.rep (.slot t)
          simp only [RepL, ht] at hs
          rw [h1] at hs
          refine ⟨by rw [ht]; exact hs.1.renI hι h2, ?_⟩
          cases htg : x.tag with
          | none => trivial
          | some i =>
            obtain ⟨hi, h4⟩ := h3 i htg
            have htag := hs.2
            rw [h4] at htag
            rw [ht]
            exact htag.renI.ren hi fun t r h1 h2 => by show (if _ then _ else _) = _; rw [if_pos h1]; exact h2
        · have hb' : Nat.beq t x.t = false := Bool.eq_false_iff.2 hb
          simp only [slotsAV, slotsTag, hb', cond_false]
          exact ih fun y hy => hm y (List.mem_cons_of_mem _ hy)
    exact key L fun x h => h
  | obj i =>
    simp only [RepL, St.of]
    cases hi : H[i]? with
    | none =>
      have : H.length ≤ i := by
        rcases Nat.lt_or_ge i H.length with h | h
        · rw [List.getElem?_eq_getElem h] at hi; cases hi
        · exact h
      show (if _ then _ else _) = _
      rw [if_neg (by omega)]
    | some y =>
      have hil : i < H.length := lt hi
      have hk := hH i y hi
      have hobj := hst.rep (.obj (σ i))
      simp only [RepL] at hobj
      unfold KeepOI at hk
      split at hk
      · trivial
      · rename_i t cs tg t' cs' tg' e
        rw [e] at hobj
        obtain ⟨rfl, rfl, h3⟩ := hk
        rcases hobj with h0 | ⟨g, i1, i2, i3, vals, fz, i4, i5, i6, i7⟩
        · exact .inl ⟨by simpa using h0.1, by show (if _ then _ else _) = _; rw [if_pos hil]; exact h0.2⟩
        · refine .inr ⟨g, hι i g hil i1, hOi g i ⟨_, hi, rfl⟩ i2, i3, vals, fz, i4, i5, by simpa using i6, fun j c hc => ?_⟩
          obtain ⟨v, v1, v2, v3⟩ := i7 j (renI σ c) (by rw [List.getElem?_map, hc]; rfl)
          refine ⟨v, v1, v2, v3.1.renI hι (hN i t cs' tg' hi c (List.mem_of_getElem? hc)), ?_⟩
          cases htg : tg'.lookup j with
          | none => trivial
          | some i' =>
            obtain ⟨hi', h4⟩ := tgOk_at h3 htg
            have htag := v3.2
            rw [h4] at htag
            rcases htag.renI with ⟨sz, xs, n, cap, g2, lo, hi2, ad, t1, t2, t3, t4⟩ | h
            · exact .inl ⟨sz, xs, n, cap, g2, lo, hi2, ad, t1, t2, by show (if _ then _ else _) = _; rw [if_pos hi']; exact t3, t4⟩
            · obtain ⟨cs1, h5, _⟩ := h
              exact (agg_noOne (h5 ▸ v3.1 : Rep G.F w G.ι v (renI σ (.agg cs1))) v2).elim
      · rename_i es es' e
        rw [e] at hobj
        subst hk
        obtain ⟨g, i1, i2, i3, i4⟩ := hobj
        exact ⟨g, hι i g hil i1, hOi g i ⟨_, hi, rfl⟩ i2, i3, i4.keep (fun _ _ h => h) (fun _ _ _ => rfl) (fun k hk => ⟨hOi k i ⟨_, hi, rfl⟩ hk, rfl, fun _ h => h⟩) rfl⟩
      · exact hk.elim
  | tok i =>
    simp only [RepL, St.of]
    cases hi : k[i]? with
    | none =>
      have : k.length ≤ i := by
        rcases Nat.lt_or_ge i k.length with h | h
        · rw [List.getElem?_eq_getElem h] at hi; cases hi
        · exact h
      show (if _ then _ else _) = _
      rw [if_neg (by omega)]
    | some y =>
      have hil : i < k.length := (List.getElem?_eq_some_iff.1 hi).1
      rcases hK.at_ i hil with h | ⟨h, h'⟩ | ⟨h, h'⟩
      · rw [hi] at h; injection h with h; subst h; trivial
      · rw [hi] at h; injection h with h; subst h
        have htok := hst.rep (.tok (ρ i))
        simp only [RepL] at htok
        cases hk : st.k[ρ i]? with
        | none => rw [hk] at h'; cases h'
        | some tk =>
          rw [hk] at h' htok
          match tk, htok, h' with
          | 0, _, ha => cases ha
          | 1, ⟨g, lo, hi', k1, k2⟩, _ =>
            refine ⟨g, lo, hi', by show (if _ then _ else _) = _; rw [if_pos hil]; exact k1, fun hlt => ?_⟩
            obtain ⟨m1, m2, m3⟩ := k2 hlt
            refine ⟨?_, m2, m3⟩
            have hex : ∃ j, alive j ∧ ρ j = ρ i := ⟨i, ⟨hil, by rw [hi]; simp⟩, rfl⟩
            simp only [O', m1]
            rw [dif_pos hex]
            have hs := Classical.choose_spec hex
            have := hK.inj _ i hs.1.1 hil hs.1.2 (by rw [hi]; simp) hs.2
            rw [this]
          | _ + 2, ⟨g, lo, k1⟩, _ => exact ⟨g, lo, lo, by show (if _ then _ else _) = _; rw [if_pos hil]; exact k1, fun h => absurd h (Nat.lt_irrefl _)⟩
      · rw [hi] at h; injection h with h; subst h
        have htok := hst.rep (.tok (ρ i))
        simp only [RepL, h'] at htok
        obtain ⟨g, lo, k1⟩ := htok
        exact ⟨g, lo, by show (if _ then _ else _) = _; rw [if_pos hil]; exact k1⟩
def KeepL (st : St) (n m : Nat) (ρ : Nat → Nat) : List Slot → Prop
  | [] => True
  | x :: L => st.s x.t = x.v ∧ x.v.noB n = true ∧ (match x.tag with
    | none => True
    | some i => tIn m ρ x.v i = true ∧ st.g x.t = some (tRen ρ x.v i) ∧ i = i) ∧ KeepL st n m ρ L
theorem KeepL.at_ {st : St} {n m : Nat} {ρ : Nat → Nat} : ∀ {L : List Slot}, KeepL st n m ρ L → ∀ x, x ∈ L → st.s x.t = x.v ∧ x.v.noB n = true ∧ ∀ i, x.tag = some i → tIn m ρ x.v i = true ∧ st.g x.t = some (tRen ρ x.v i)
  | [], _, x, hx => by cases hx
  | y :: L, h, x, hx => by
    rcases List.mem_cons.1 hx with rfl | hx
    · refine ⟨h.1, h.2.1, fun i hi => ?_⟩
      have := h.2.2.1
      rw [hi] at this
      exact ⟨this.1, this.2.1⟩
    · exact h.2.2.2.at_ x hx
def keepN (n : Nat) : List AObj → Bool
  | [] => true
  | .dead :: H | .mp .. :: H => keepN n H
  | .cells _ cs _ :: H => cs.all (AV.noB n) && keepN n H
theorem keepN_at {n : Nat} : ∀ {H : List AObj}, keepN n H = true → ∀ (i : Nat) t cs tg, H[i]? = some (.cells t cs tg) → ∀ c, c ∈ cs → c.noB n = true
  | [], _, i, t, cs, tg, h => by simp at h
  | x :: H, hk, i, t, cs, tg, h => by
    cases i with
    | zero =>
      simp only [List.getElem?_cons_zero, Option.some.injEq] at h
      subst h
      simp only [keepN, Bool.and_eq_true, List.all_eq_true] at hk
      exact fun c hc => hk.1 c hc
    | succ i =>
      refine keepN_at (H := H) ?_ i t cs tg (by simpa using h)
      cases x with
      | dead => exact hk
      | mp => exact hk
      | cells => simp only [keepN, Bool.and_eq_true] at hk; exact hk.2
def inAlive (i : Nat) : List Nat → List Nat → Bool
  | j :: r, x :: k' => (match x with | 0 => false | _ => Nat.beq i j) || inAlive i r k'
  | _, _ => false
theorem inAlive_at {i : Nat} : ∀ {r k' : List Nat}, inAlive i r k' = false → ∀ j n, k'[j]? = some (n + 1) → j < r.length → r.getD j 0 ≠ i
  | [], _, _, j, n, _, hl => by simp at hl
  | _ :: _, [], _, j, n, h, _ => by simp at h
  | y :: r, x :: k', h, j, n, hj, hl => by
    unfold inAlive at h
    rw [Bool.or_eq_false_iff] at h
    cases j with
    | zero =>
      simp only [List.getElem?_cons_zero, Option.some.injEq] at hj
      subst hj
      simp only [List.getD_cons_zero]
      rintro rfl
      have := h.1
      simp at this
    | succ j =>
      simp only [List.getElem?_cons_succ] at hj
      simp only [List.getD_cons_succ]
      exact inAlive_at h.2 j n hj (by simpa using hl)
def keepK (k : List Nat) : List Nat → List Nat → Bool
  | [], [] => true
  | i :: r, x :: k' => (match x with
    | 0 => true
    | 1 => k[i]?.any (Nat.blt 0) && !(inAlive i r k')
    | 2 => (match k[i]? with | some 2 => true | _ => false) && !(inAlive i r k')
    | _ => false) && keepK k r k'
  | _, _ => false
theorem keepK_len {k : List Nat} : ∀ {r k' : List Nat}, keepK k r k' = true → r.length = k'.length
  | [], [], _ => rfl
  | i :: r, x :: k', h => by
    simp only [keepK, Bool.and_eq_true] at h
    simp [keepK_len h.2]
theorem keepK_at {k : List Nat} : ∀ {r k' : List Nat}, keepK k r k' = true → ∀ i, i < k'.length → k'[i]? = some 0 ∨ (k'[i]? = some 1 ∧ (k[r.getD i 0]?.any (Nat.blt 0)) = true) ∨ (k'[i]? = some 2 ∧ k[r.getD i 0]? = some 2)
  | [], [], _, i, hi => by simp at hi
  | j :: r, x :: k', h, i, hi => by
    simp only [keepK, Bool.and_eq_true] at h
    cases i with
    | zero =>
      simp only [List.getElem?_cons_zero, Option.some.injEq, List.getD_cons_zero]
      have := h.1
      split at this
      · exact .inl rfl
      · rw [Bool.and_eq_true] at this; exact .inr (.inl ⟨rfl, this.1⟩)
      · rw [Bool.and_eq_true] at this
        refine .inr (.inr ⟨rfl, ?_⟩)
        have := this.1
        split at this
        · assumption
        · cases this
      · cases this
    | succ i =>
      have := keepK_at h.2 i (by simpa using hi)
      simpa using this
theorem keepK_inj {k : List Nat} : ∀ {r k' : List Nat}, keepK k r k' = true → ∀ i j n m, k'[i]? = some (n + 1) → k'[j]? = some (m + 1) → r.getD i 0 = r.getD j 0 → i = j
  | [], [], _, i, _, n, m, hi, _ => by simp at hi
  | x :: r, y :: k', h, i, j, n, m, hi, hj => by
    have hl := keepK_len h
    simp only [keepK, Bool.and_eq_true] at h
    have hl' : r.length = k'.length := by simpa using hl
    have hne : ∀ q, y = q + 1 → ∀ j2 m2, k'[j2]? = some (m2 + 1) → r.getD j2 0 ≠ x := by
      clear hi hj
      intro q hq j2 m2 hj2
      have h1 := h.1
      have hlt : j2 < r.length := by rw [hl']; exact (List.getElem?_eq_some_iff.1 hj2).1
      split at h1
      · cases hq
      · simp only [Bool.and_eq_true, Bool.not_eq_true'] at h1; exact inAlive_at h1.2 j2 m2 hj2 hlt
      · simp only [Bool.and_eq_true, Bool.not_eq_true'] at h1; exact inAlive_at h1.2 j2 m2 hj2 hlt
      · cases h1
    cases i with
    | zero => cases j with
      | zero => intro _; rfl
      | succ j =>
        simp only [List.getElem?_cons_zero, Option.some.injEq] at hi
        intro e; simp only [List.getD_cons_zero, List.getD_cons_succ] at e
        exact absurd e.symm (hne n hi j m (by simpa using hj))
    | succ i => cases j with
      | zero =>
        simp only [List.getElem?_cons_zero, Option.some.injEq] at hj
        intro e; simp only [List.getD_cons_zero, List.getD_cons_succ] at e
        exact absurd e (hne m hj i n (by simpa using hi))
      | succ j => intro e; simp only [List.getD_cons_succ] at e; rw [keepK_inj h.2 i j n m (by simpa using hi) (by simpa using hj) e]
def idOn (nk m : Nat) (r : List Nat) : Bool := (List.range nk).all fun j => Nat.blt j m && Nat.beq (r.getD j 0) j
theorem keepK_K {k r k' : List Nat} (hK : keepK k r k' = true) : KeepK k (fun i => r.getD i 0) k' :=
  ⟨keepK_at hK, fun i j hi hj h0 h1 e => by
    have nz : ∀ i, i < k'.length → k'[i]? ≠ some 0 → ∃ n, k'[i]? = some (n + 1) := fun i hi h => by
      rw [List.getElem?_eq_getElem hi] at h ⊢
      cases hx : k'[i] with
      | zero => rw [hx] at h; exact absurd rfl h
      | succ n => exact ⟨n, rfl⟩
    obtain ⟨n, hn⟩ := nz i hi h0
    obtain ⟨m, hm⟩ := nz j hj h1
    exact keepK_inj hK i j n m hn hm e⟩
theorem idOn_at {nk m : Nat} {r : List Nat} (hi : idOn nk m r = true) (j : Nat) (hj : j < nk) : j < m ∧ r.getD j 0 = j := by
  have := List.all_eq_true.1 hi j (List.mem_range.2 hj)
  simp only [Bool.and_eq_true, Nat.blt_eq] at this
  exact ⟨this.1, Nat.eq_of_beq_eq_true this.2⟩
theorem Gho.of {E : Env} {nb nk : Nat} {st : St} (L : List Slot) (H : List AObj) (k : List Nat) (ρ : Nat → Nat) (hL : ∀ x, x ∈ L → st.s x.t = x.v ∧ x.v.noB H.length = true ∧ ∀ i, x.tag = some i → tIn k.length ρ x.v i = true ∧ st.g x.t = some (tRen ρ x.v i))
    (hN : ∀ (i : Nat) t cs tg, H[i]? = some (.cells t cs tg) → ∀ c, c ∈ cs → c.noB H.length = true) (hH : KeepH k.length ρ st.H H) (hK : KeepK st.k ρ k) (hnb : nb ≤ H.length) (hnk : ∀ j, j < nk → j < k.length ∧ ρ j = j) : Gho E nb nk st (St.of L H k) :=
  .ofI L H k ρ (fun i => i) (fun x hx => by obtain ⟨h1, h2⟩ := hL x hx; exact ⟨h1.trans (renI_id _).symm, h2⟩) hN (fun i y hy => by
    rcases hH.at_ i y hy with rfl | ⟨t, cs, tg, tg', rfl, h2, h3⟩ | ⟨es, rfl, h2⟩
    · unfold KeepOI; split <;> first | trivial | (rename_i h; cases h)
    · rw [h2]; exact ⟨rfl, (renI_map _).symm, h3⟩
    · rw [h2]; exact rfl) (fun _ _ _ _ _ _ _ _ e => e) hK (fun j hj => ⟨Nat.lt_of_lt_of_le hj hnb, rfl⟩) hnk
theorem Gho.to {E : Env} {nb nk : Nat} {st : St} (L : List Slot) (H : List AObj) (k : List Nat) (r : List Nat) (hH : KeepH k.length (fun i => r.getD i 0) st.H H) (hN : keepN H.length H = true) (hK : keepK st.k r k = true) (hb : Nat.ble nb H.length = true) (hi : idOn nk k.length r = true)
    (hL : KeepL st H.length k.length (fun i => r.getD i 0) L) : Gho E nb nk st (St.of L H k) :=
  .of L H k (fun i => r.getD i 0) hL.at_ (keepN_at hN) hH (keepK_K hK) (Nat.le_of_ble_eq_true hb) (idOn_at hi)
def KeepLI (st : St) (n m : Nat) (ρ σ : Nat → Nat) : List Slot → Prop
  | [] => True
  | x :: L => st.s x.t = renI σ x.v ∧ x.v.noB n = true ∧ (match x.tag with
    | none => True
    | some i => tIn m ρ x.v i = true ∧ st.g x.t = some (tRen ρ x.v i) ∧ i = i) ∧ KeepLI st n m ρ σ L
theorem KeepLI.at_ {st : St} {n m : Nat} {ρ σ : Nat → Nat} : ∀ {L : List Slot}, KeepLI st n m ρ σ L → ∀ x, x ∈ L → st.s x.t = renI σ x.v ∧ x.v.noB n = true ∧ ∀ i, x.tag = some i → tIn m ρ x.v i = true ∧ st.g x.t = some (tRen ρ x.v i)
  | [], _, x, hx => by cases hx
  | y :: L, h, x, hx => by
    rcases List.mem_cons.1 hx with rfl | hx
    · refine ⟨h.1, h.2.1, fun i hi => ?_⟩
      have := h.2.2.1
      rw [hi] at this
      exact ⟨this.1, this.2.1⟩
    · exact h.2.2.2.at_ x hx
theorem Gho.toI {E : Env} {nb nk : Nat} {st : St} (L : List Slot) (H : List AObj) (k : List Nat) (r q : List Nat) (hH : KeepHI k.length (fun i => r.getD i 0) (fun i => q.getD i 0) st.H q H) (hO : onceO q H = true) (hN : keepN H.length H = true) (hK : keepK st.k r k = true) (hb : idOn nb H.length q = true)
    (hi : idOn nk k.length r = true) (hL : KeepLI st H.length k.length (fun i => r.getD i 0) (fun i => q.getD i 0) L) : Gho E nb nk st (St.of L H k) :=
  .ofI L H k (fun i => r.getD i 0) (fun i => q.getD i 0) hL.at_ (keepN_at hN) (fun i y hy => hH.at_ i y hy) (onceO_inj hO hH.len) (keepK_K hK) (idOn_at hb) (idOn_at hi)
theorem LoopE.of {E : Env} {nb nk : Nat} {body : (Exit → St → Prop) → St → Prop} {K : Exit → St → Prop} {st : St} {α : Type} (S : α → St) (μ : α → Nat) (x0 : α) (h1 : Gho E nb nk st (S x0))
    (h2 : ∀ x, body (fun e s => match e with | .normal => ∃ x', μ x' < μ x ∧ Gho E nb nk s (S x') | e => K e s) (S x)) : LoopE E nb nk body K st := ⟨α, S, μ, x0, h1, h2⟩
theorem and_l {a b : Bool} (h : (a && b) = true) : a = true := by cases a <;> simp_all
theorem and_r {a b : Bool} (h : (a && b) = true) : b = true := by cases a <;> simp_all
theorem i64_ok {n : Int} (h : -9223372036854775808 ≤ n) (h' : n ≤ 9223372036854775807) : IntKind.i64.wrap n = n := IntWalk.i64_in n (by omega)
theorem splice_one {cs : List AV} {off : Nat} {x : AV} (h : off < cs.length) : splice cs off [x] = cs.set off x := by
  refine List.ext_getElem? fun j => ?_
  rw [splice_get _ _ _ (by simp; omega), List.getElem?_set]
  by_cases hj : off = j
  · subst hj; simp [h]
  · rw [if_neg (by simp; omega), if_neg hj]
theorem splice_all {cs xs : List AV} (h : xs.length = cs.length) : splice cs 0 xs = xs := by
  unfold splice
  simp [h]
end Go.Pm
