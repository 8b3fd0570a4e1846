/-
  Generic: functions that are handed objects.
-/
import Derived.Test.YtommkfooolabhaaGreatDoorPm17
namespace Go.Pm
open Go Go.RowKit
set_option linter.unusedVariables false
set_option linter.unusedSimpArgs false
inductive IdP (p : Nat → Prop) : AV → Prop
  | any : IdP p .any
  | bool (b) : IdP p (.bool b)
  | int (k m) : IdP p (.int k m)
  | str (s) : IdP p (.str s)
  | list (sz xs) : IdP p (.list sz xs)
  | row (id off len sz) (h : p id) : IdP p (.row id off len sz)
  | rowR (id off len sz) (h : p id) : IdP p (.rowR id off len sz)
  | agg (cs) (h : ∀ c, c ∈ cs → IdP p c) : IdP p (.agg cs)
  | tup (cs) (h : ∀ c, c ∈ cs → IdP p c) : IdP p (.tup cs)
  | ptr (id off) (h : p id) : IdP p (.ptr id off)
  | iptr (cs) : IdP p (.iptr cs)
  | nilp : IdP p .nilp
  | fn (f a b) (h : ∀ c, c ∈ a → IdP p c) (h' : ∀ c, c ∈ b → IdP p c) : IdP p (.fn f a b)
  | nilf : IdP p .nilf
  | iface (t v) (h : IdP p v) : IdP p (.iface t v)
  | nili : IdP p .nili
  | glob (g) : IdP p (.glob g)
  | mapv (id) (h : p id) : IdP p (.mapv id)
theorem Rep.idP {F : Nat → Nat → Prop} {w : World} {ι : Nat → Option Nat} {v : Value} {a : AV} (h : Rep F w ι v a) :
    ∀ p ι', IdP p a → (∀ i g, p i → ι i = some g → ι' i = some g) → Rep F w ι' v a := by
  induction h with
  | any => intro n ι' _ _; exact .any ..
  | bool => intro n ι' _ _; exact .bool ..
  | int ι k n h => intro n ι' _ _; exact .int _ _ _ h
  | str ι s h => intro n ι' _ _; exact .str _ _ h
  | empty ι a cap sz h => intro n ι' _ _; exact .empty _ _ _ _ h
  | list ι b o n cap sz xs vals hn hc hm hsz hF' hv hr ih => intro n ι' _ _; exact .list _ _ _ _ _ _ _ vals hn hc hm hsz hF' hv hr
  | row ι id off len cap sz g h hc hm hb => intro n ι' hn hι; cases hn with | row _ _ _ _ hlt => exact .row _ _ _ _ _ _ _ (hι _ _ hlt h) hc hm hb
  | rowR ι id off len cap sz g h hc hm hs hb => intro n ι' hn hι; cases hn with | rowR _ _ _ _ hlt => exact .rowR _ _ _ _ _ _ _ (hι _ _ hlt h) hc hm hs hb
  | row0 => intro n ι' _ _; exact .row0 ..
  | agg ι vs cs hl ho _ ih =>
    intro n ι' hn hι
    cases hn with | agg _ hn => exact .agg _ _ _ hl ho fun i v c hv hc => ih i v c hv hc n _ (hn c (List.mem_of_getElem? hc)) hι
  | tup ι vs cs hl _ ih =>
    intro n ι' hn hι
    cases hn with | tup _ hn => exact .tup _ _ _ hl fun i v c hv hc => ih i v c hv hc n _ (hn c (List.mem_of_getElem? hc)) hι
  | ptr ι id off g h => intro n ι' hn hι; cases hn with | ptr _ _ hlt => exact .ptr _ _ _ _ (hι _ _ hlt h)
  | iptr ι b o cs vals hF' hv hr ih => intro n ι' _ _; exact .iptr _ _ _ _ vals hF' hv hr
  | nilp => intro n ι' _ _; exact .nilp _
  | fn ι f fs cs fs' cs' hl hl' _ _ ih ih' =>
    intro n ι' hn hι
    cases hn with | fn _ _ _ h1 h2 =>
    exact .fn _ _ _ _ _ _ hl hl' (fun i v c hv hc => ih i v c hv hc n _ (h1 c (List.mem_of_getElem? hc)) hι) (fun i v c hv hc => ih' i v c hv hc n _ (h2 c (List.mem_of_getElem? hc)) hι)
  | nilf => intro n ι' _ _; exact .nilf _
  | iface ι t v a _ ih => intro n ι' hn hι; cases hn with | iface _ _ h => exact .iface _ _ _ _ (ih n _ h hι)
  | nili => intro n ι' _ _; exact .nili _
  | glob => intro n ι' _ _; exact .glob ..
  | mapv ι id g h => intro n ι' hn hι; cases hn with | mapv _ hlt => exact .mapv _ _ _ (hι _ _ hlt h)
  | cond0 => intro n ι' hn _; cases hn
  | cond1 ι v a _ ih => intro n ι' hn hι; cases hn
theorem IdP.mono {p q : Nat → Prop} {a : AV} (h : IdP p a) (hpq : ∀ i, p i → q i) : IdP q a := by
  induction h with
  | any => exact .any
  | bool => exact .bool _
  | int => exact .int ..
  | str => exact .str _
  | list => exact .list ..
  | row _ _ _ _ h => exact .row _ _ _ _ (hpq _ h)
  | rowR _ _ _ _ h => exact .rowR _ _ _ _ (hpq _ h)
  | agg _ _ ih => exact .agg _ ih
  | tup _ _ ih => exact .tup _ ih
  | ptr _ _ h => exact .ptr _ _ (hpq _ h)
  | iptr => exact .iptr _
  | nilp => exact .nilp
  | fn _ _ _ _ _ i1 i2 => exact .fn _ _ _ i1 i2
  | nilf => exact .nilf
  | iface _ _ _ ih => exact .iface _ _ ih
  | nili => exact .nili
  | glob => exact .glob _
  | mapv _ h => exact .mapv _ (hpq _ h)
def aliveP (H : List AObj) (i : Nat) : Prop := ∃ t c cs tg, H[i]? = some (.cells t (c :: cs) tg)
def tokP (k : List Nat) (n : Nat) (j : Nat) : Prop := (∃ x, k[j]? = some (x + 1)) ∨ (k.length ≤ j ∧ j < n)
def St.initT (args : List AV) (ta : List (Option Nat)) (H : List AObj) (k : List Nat) : St := { s := fun t => args.getD t .any, g := fun t => ta.getD t none, H := H, k := k }
abbrev St.initW (args : List AV) (H : List AObj) (k : List Nat) : St := .initT args [] H k
def TagRng (p : Nat → Prop) (a : AV) (i : Nat) : Prop := match a with
  | .agg cs => ∀ j t, j < cs.length → dg i j = t + 2 → p t
  | _ => p i
def okP (p : Nat → Bool) : Nat → Bool
  | t + 2 => p t
  | _ => true
def rngD (p : Nat → Bool) : Nat → Nat → Bool
  | 0, _ => true
  | n + 1, m => okP p (m % 64) && rngD p n (m / 64)
theorem rngD_at {p : Nat → Bool} : ∀ {n m : Nat}, rngD p n m = true → ∀ j t, j < n → dg m j = t + 2 → p t = true
  | 0, _, _, j, t, hj, _ => by omega
  | n + 1, m, h, j, t, hj, hd => by
    unfold rngD at h
    rw [Bool.and_eq_true] at h
    cases j with
    | zero =>
      rw [dg_zero] at hd
      have h1 := h.1
      rw [hd] at h1; exact h1
    | succ j => rw [dg_succ] at hd; exact rngD_at h.2 j t (by omega) hd
def rngB (p : Nat → Bool) (a : AV) (i : Nat) : Bool := match a with
  | .agg cs => rngD p cs.length i
  | _ => p i
theorem rngB_ok {p : Nat → Bool} {q : Nat → Prop} {a : AV} {i : Nat} (h : rngB p a i = true) (hp : ∀ t, p t = true → q t) : TagRng q a i := by
  unfold TagRng
  unfold rngB at h
  split at h
  · exact fun j t hj hd => hp t (rngD_at h j t hj hd)
  · exact hp i h
theorem TagRng.one {p : Nat → Prop} {a : AV} {i : Nat} (h : p i) (ha : ∀ cs, a ≠ .agg cs) : TagRng p a i := by
  unfold TagRng
  split
  · rename_i cs; exact absurd rfl (ha cs)
  · exact h
theorem TagOk.rng {G G' : Gh} {v : Value} {a : AV} {i : Nat} {p : Nat → Prop} (h : TagOk G v a (some i)) (hp : TagRng p a i) (hκ : ∀ t r, p t → G.κ t = some r → G'.κ t = some r) : TagOk G' v a (some i) := by
  rcases h with h | ⟨cs, e, h⟩
  · refine .inl ?_
    obtain ⟨sz, xs, n, cap, g, lo, hi', ad, e, t2, t3, t4⟩ := h
    subst e
    exact ⟨sz, xs, n, cap, g, lo, hi', ad, rfl, t2, hκ _ _ hp t3, t4⟩
  · subst e
    exact .inr ⟨cs, rfl, fun j => ⟨(h j).1, fun t c u hd hc hu => ((h j).2 t c u hd hc hu).mono fun r => hκ t r (hp j t (List.getElem?_eq_some_iff.1 hc).1 hd)⟩⟩
def tagRes (T : Tab) (st : St) : List ResultVar → Option Nat
  | [.tmp t] => st.g t
  | [.cell a ty] => match st.s a, T.at ty with
    | .ptr id off, some ti => match st.H[id]? with
      | some (.cells _ _ tg) => bif isAggD ti.desc then aggT tg off ti.size else none
      | _ => none
    | _, _ => none
  | _ => none
def EndW (E : Env) (T : Tab) (nb nk : Nat) (rs : List ResultVar) (r : AV) (tag : Option Nat) (H' : List AObj) (k' : List Nat) : Exit → St → Prop
  | .ret, st | .normal, st => ∃ L HX, HX.take H'.length = H' ∧ Gho E nb nk st (St.of L HX k') ∧ resE T (St.of L HX k') rs (fun l => packR l = r) ∧ tagRes T (St.of L HX k') rs = tag
  | _, _ => False
def CellsP (H : List AObj) (p q : Nat → Prop) : Prop := ∀ (i : Nat) t cs tg, H[i]? = some (.cells t cs tg) → (∀ c, c ∈ cs → IdP p c) ∧ ∀ j i', tg.lookup j = some i' → q i'
theorem FnT.of_ev {E : Env} {P : Program} {T : Tab} {rows : List Nat} (hT : TOk P T) (hm : P.follows .mixedOrders = true) {f : FuncId} {fn : Func} {code : Code} {args : List AV} {ta : List (Option Nat)} {H H' : List AObj} {k k' : List Nat} {r : AV} {tag : Option Nat}
    (hf : P.funcs[f]? = some fn) (hb : fn.body = some code) (hname : (fn.name == "runtime.NumGoroutine") = false) (hck : codeOk T fn.ntmps code = true) (hargs : Nat.ble args.length fn.ntmps = true)
    (lH : H'.length = H.length) (lk : k.length ≤ k'.length) (pa : ∀ a, a ∈ args → IdP (aliveP H) a) (pH : CellsP H (aliveP H) (tokP k k.length)) (pr : IdP (aliveP H) r) (pt : ∀ i, tag = some i → TagRng (tokP k k'.length) r i) (pH' : CellsP H' (aliveP H) (tokP k k'.length)) (pE : ∀ (i : Nat) t tg, H[i]? ≠ some (AObj.cells t [] tg)) (lta : ta.length ≤ args.length) (pta : ∀ (i t : Nat) (a : AV), args[i]? = some a → ta.getD i none = some t → TagRng (fun j => j < k.length) a t)
    (h : (∀ a, a ∈ args → Wf a) → evK ⟨E, P, T, rows, H.length, k.length⟩ code (EndW E T H.length k.length fn.results.toList r tag H' k') (St.initT args ta H k)) : FnT E P f args ta H k r tag H' k' := by
  have hlt : ∀ i, aliveP H i → i < H.length := fun i ⟨t, c, cs, tg, h⟩ => (List.getElem?_eq_some_iff.1 h).1
  refine ⟨⟨fn, hf, hname, by rw [hb]; rfl⟩, lH, lk, fun B G w vals hgd hN hl hr => ?_⟩
  have hwf : ∀ a, a ∈ args → Wf a := fun a ha => by
    obtain ⟨i, hi, rfl⟩ := List.getElem_of_mem ha
    exact (hr i (vals[i]'(by omega)) _ (List.getElem?_eq_getElem _) (List.getElem?_eq_getElem hi)).1.wf
  have hle : args.length ≤ fn.ntmps := by simpa [Nat.ble_eq] using hargs
  -- what the callee sees
  let ιc : Nat → Option Nat := fun i => if i < H.length then G.ι i else none
  let κc : Nat → Option (Nat × Nat × Nat) := fun j => if j < k.length then G.κ j else none
  let Oc : Nat → Option (Nat ⊕ Nat) := open Classical in fun b => match G.O b with
    | none => none
    | some (.inl i) => if (∃ x, H[i]? = some x ∧ x ≠ .dead) then some (.inl i) else none
    | some (.inr j) => if (∃ x, k[j]? = some (x + 1)) then some (.inr j) else none
  let Bc : Base := { F := G.F, O := Oc, w := w, nt := fn.ntmps, ι := ιc, κ := κc, nb := H.length, nk := k.length }
  let Gc : Gh := { F := G.F, ι := ιc, κ := κc, O := Oc }
  have hιc : ∀ i, i < H.length → ιc i = G.ι i := fun i hi => if_pos hi
  have hκc : ∀ j, j < k.length → κc j = G.κ j := fun j hj => if_pos hj
  have hOc : ∀ b x, Oc b = some x → G.O b = some x := fun b x hx => by
    simp only [Oc] at hx
    cases hb : G.O b with
    | none => rw [hb] at hx; cases hx
    | some y =>
      rw [hb] at hx
      cases y with
      | inl i =>
        simp only at hx
        split at hx
        · exact hx
        · cases hx
      | inr j =>
        simp only at hx
        split at hx
        · exact hx
        · cases hx
  have hOi : ∀ b i x, x ≠ .dead → G.O b = some (.inl i) → H[i]? = some x → Oc b = some (.inl i) := fun b i x hx h1 h2 => by
    simp only [Oc, h1]; rw [if_pos ⟨x, h2, hx⟩]
  have hOj : ∀ b j x, G.O b = some (.inr j) → k[j]? = some (x + 1) → Oc b = some (.inr j) := fun b j x h1 h2 => by
    simp only [Oc, h1]; rw [if_pos ⟨x, h2⟩]
  have hrepI : ∀ v c, Rep G.F w G.ι v c → IdP (aliveP H) c → Rep G.F w ιc v c := fun v c h1 h2 => h1.idP _ _ h2 fun i g hi h => by rw [hιc i (hlt i hi)]; exact h
  have hconc : Conc E Bc Gc w { tmps := vals.toArray ++ Array.replicate (fn.ntmps - vals.toArray.size) undef, defers := [] } (St.initT args ta H k) := by
    refine ⟨⟨hgd.fin, fun b i hi => hgd.own b i (hOc b i hi), Nat.le_refl _, fun b _ hn => ⟨hn, rfl⟩, fun b o hb => ⟨hb, rfl⟩, fun b o hb => .inl hb, rfl, rfl, rfl, hgd.glob, hgd.gb, fun i g hi => ⟨?_, hi⟩, fun j r hj => ⟨?_, hj⟩, fun _ _ h => h⟩, by simp [Bc]; omega, rfl, fun l => ?_⟩
    · rcases Nat.lt_or_ge i H.length with hh | hh
      · exact hh
      · simp only [Bc, ιc, if_neg (show ¬ i < H.length by omega)] at hi; cases hi
    · rcases Nat.lt_or_ge j k.length with hh | hh
      · exact hh
      · simp only [Bc, κc, if_neg (show ¬ j < k.length by omega)] at hj; cases hj
    cases l with
    | slot t =>
      simp only [RepL, St.initT]
      rcases Nat.lt_or_ge t args.length with ht | ht
      · have h1 : args.getD t .any = args[t] := by simp [List.getD, ht]
        have h2 : (vals.toArray ++ Array.replicate (fn.ntmps - vals.toArray.size) undef).getD t undef = vals[t]'(by omega) := by
          rw [Array.getD_eq_getD_getElem?, Array.getElem?_append_left (by simp; omega)]
          simp [show t < vals.length by omega]
        rw [h1, h2]
        have h3 := hr t _ _ (List.getElem?_eq_getElem (by omega)) (List.getElem?_eq_getElem ht)
        refine ⟨hrepI _ _ h3.1 (pa _ (List.getElem_mem _)), ?_⟩
        cases htg : ta.getD t none with
        | none => trivial
        | some i =>
          have h4 := h3.2
          rw [htg] at h4
          exact h4.rng (pta t i _ (List.getElem?_eq_getElem ht) htg) fun j q hj hq => (hκc j hj).trans hq
      · have h1 : args.getD t .any = .any := by simp [List.getD, List.getElem?_eq_none ht]
        have h2 : ta.getD t none = none := by rw [List.getD_eq_getElem?_getD, List.getElem?_eq_none (by omega)]; rfl
        rw [h1, h2]; exact ⟨.any .., trivial⟩
    | obj i =>
      simp only [RepL, St.initT]
      cases hi : H[i]? with
      | none =>
        have : H.length ≤ i := by
          rcases Nat.lt_or_ge i H.length with hh | hh
          · rw [List.getElem?_eq_getElem hh] at hi; cases hi
          · exact hh
        show (if _ then _ else _) = _
        rw [if_neg (by omega)]
      | some y => cases y with
        | dead => trivial
        | mp es =>
          have h0 := hN (.obj i) (wLocs_obj.2 ⟨_, hi, by simp⟩)
          simp only [RepH, hi] at h0
          obtain ⟨g, i1, i2, i3, i4⟩ := h0
          exact ⟨g, (hιc i (List.getElem?_eq_some_iff.1 hi).1).trans i1, hOi g i _ (by simp) i2 hi, i3, i4.keep (fun _ _ h => h) (fun _ _ _ => rfl) (fun k hk => ⟨hOi k i _ (by simp) hk hi, rfl, fun _ h => h⟩) rfl⟩
        | cells t cs tg =>
          have h0 := hN (.obj i) (wLocs_obj.2 ⟨_, hi, by simp⟩)
          simp only [RepH, hi] at h0
          refine h0.imp (fun e => ⟨e.1, (hιc i (List.getElem?_eq_some_iff.1 hi).1).trans e.2⟩) fun ⟨g, i1, i2, i3, vs, fz, i4, i5, i6, i7⟩ => ?_
          refine ⟨g, (hιc i (List.getElem?_eq_some_iff.1 hi).1).trans i1, hOi g i _ (by simp) i2 hi, i3, vs, fz, i4, i5, i6, fun j c hc => ?_⟩
          obtain ⟨v, v1, v2, v3⟩ := i7 j c hc
          refine ⟨v, v1, v2, hrepI _ _ v3.1 ((pH i t cs tg hi).1 c (List.mem_of_getElem? hc)), ?_⟩
          have h3 := v3.2
          cases ht : tg.lookup j with
          | none => trivial
          | some i' =>
            rw [ht] at h3
            have hi' : i' < k.length := by
              rcases (pH i t cs tg hi).2 j i' ht with ⟨x, hx⟩ | ⟨h1, h2⟩
              · exact (List.getElem?_eq_some_iff.1 hx).1
              · omega
            rcases h3 with ⟨sz, xs, n, cap, g2, lo, hi2, ad, t1, t2, t3, t4⟩ | h3
            · exact .inl ⟨sz, xs, n, cap, g2, lo, hi2, ad, t1, t2, by rw [← t3]; exact hκc i' hi', t4⟩
            · obtain ⟨cs5, h6, _⟩ := h3
              exact (agg_noOne (h6 ▸ v3.1) v2).elim
    | tok j =>
      simp only [RepL, St.initT]
      cases hj : k[j]? with
      | none =>
        have : k.length ≤ j := by
          rcases Nat.lt_or_ge j k.length with hh | hh
          · rw [List.getElem?_eq_getElem hh] at hj; cases hj
          · exact hh
        show (if _ then _ else _) = _
        rw [if_neg (by omega)]
      | some x =>
        have hjl := (List.getElem?_eq_some_iff.1 hj).1
        match x, hj with
        | 0, _ => trivial
        | 1, hj =>
          have h0 := hN (.tok j) (wLocs_tok.2 (.inl ⟨0, hj⟩))
          simp only [RepH, hj] at h0
          obtain ⟨g, lo, hi, h1, h2⟩ := h0
          exact ⟨g, lo, hi, (hκc j hjl).trans h1, fun hlt => ⟨hOj g j _ (h2 hlt).1 hj, (h2 hlt).2⟩⟩
        | x + 2, hj =>
          have h0 := hN (.tok j) (wLocs_tok.2 (.inl ⟨x + 1, hj⟩))
          simp only [RepH, hj] at h0
          obtain ⟨g, lo, h1⟩ := h0
          exact ⟨g, lo, (hκc j hjl).trans h1⟩
  refine calls_of_wp hf hb (wp_mono (evK_ok (C := ⟨E, P, T, rows, H.length, k.length⟩) hT hm (B := Bc) rfl rfl code _ _ hck (h hwf) Gc w _ hconc) fun e a w' hp => ?_)
  obtain ⟨st, G1, hk, hst1⟩ := hp
  have hend : (∃ L HX, HX.take H'.length = H' ∧ Gho E H.length k.length st (St.of L HX k') ∧ resE T (St.of L HX k') fn.results.toList (fun l => packR l = r) ∧ tagRes T (St.of L HX k') fn.results.toList = tag) → a.defers = [] ∧ ∃ v, (results fn a.tmps).run P w' = .ok v w' ∧
      ∃ v' G', Ending.returned v = .returned v' ∧ Good E B G' w' ∧ FrH G w G' w' (wLocs H k (k'.length - k.length)) ∧ RepSlot G' w' v' r tag ∧ ∀ l, l ∈ wLocs H k (k'.length - k.length) → RepH G' w' H' k' l := by
    rintro ⟨L, HX, hHX, hgho, hres, htag⟩
    refine ⟨hst1.defers, ?_⟩
    obtain ⟨G2, hst⟩ := hgho Bc G1 w' a rfl rfl hst1
    obtain ⟨l, hq, vs, hrun, hlen, hrep⟩ := resE_ok hT hst _ _ hres
    have hgood := hst.good
    have hold : ∀ b, b < w.heap.size → Oc b = none → G2.O b = none ∧ w'.heap[b]? = w.heap[b]? := hgood.old
    have hids : ∀ i g, ιc i = some g → G2.ι i = some g := fun i g hi => (hgood.ids i g hi).2
    have htoks : ∀ j r, κc j = some r → G2.κ j = some r := fun j r hj => (hgood.toks j r hj).2
    let κ' : Nat → Option (Nat × Nat × Nat) := fun j => if k.length ≤ j ∧ j < k'.length then G2.κ j else G.κ j
    let O' : Nat → Option (Nat ⊕ Nat) := fun b => match Oc b, G.O b with
      | none, some x => some x
      | _, _ => G2.O b
    let G' : Gh := { F := G2.F, ι := G.ι, κ := κ', O := O' }
    have hO1 : ∀ b x, G.O b = some x → Oc b = none → O' b = some x := fun b x h1 h2 => by simp only [O', h1, h2]
    have hO2 : ∀ b, (Oc b = none → G.O b = none) → O' b = G2.O b := fun b hh => by
      simp only [O']
      cases h1 : Oc b with
      | none => rw [hh h1]
      | some x => rfl
    have hO3 : ∀ b x, O' b = some x → (G.O b = some x ∧ Oc b = none) ∨ G2.O b = some x := fun b x hx => by
      simp only [O'] at hx
      split at hx
      · rename_i y h1 h2; injection hx with hx; subst hx; exact .inl ⟨h2, h1⟩
      · exact .inr hx
    have hOw : ∀ b x, G2.O b = some x → Oc b = none → w.heap.size ≤ b := fun b x h1 h2 => by
      rcases Nat.lt_or_ge b w.heap.size with hh | hh
      · rw [(hold b hh h2).1] at h1; cases h1
      · exact hh
    have hO4 : ∀ b x, G2.O b = some x → O' b = some x := fun b x hx => by
      rw [hO2 b fun h1 => ?_]; exact hx
      cases h2 : G.O b with
      | none => rfl
      | some y => have := (hgd.own b y h2).1; have := hOw b x hx h1; omega
    have hext : Ext G w G' w' := ⟨fun b o hb => (hgood.keep b o hb).1, fun _ _ h => h, fun j r hj => by
      show (if _ then _ else _) = _
      split
      · rename_i hh
        have h0 := hN (.tok j) (wLocs_tok.2 (.inr ⟨hh.1, by omega⟩))
        simp only [RepH, List.getElem?_eq_none hh.1, RepTok] at h0
        rw [h0] at hj; cases hj
      · exact hj, fun b o hb => (hgood.keep b o hb).2, hgood.grow⟩
    have hFn : ∀ b o, G2.F b o → G.F b o ∨ w.heap.size ≤ b ∨ Oc b ≠ none := hgood.new
    have hιg : ∀ i g, aliveP H i → G2.ι i = some g → G.ι i = some g := fun i g ⟨t, c, cs, tg, hi⟩ hg => by
      have h0 := hN (.obj i) (wLocs_obj.2 ⟨_, hi, by simp⟩)
      simp only [RepH, hi] at h0
      obtain ⟨g0, h1, _⟩ := h0.resolve_left (by simp)
      have h2 := hids i g0 ((hιc i (hlt i ⟨t, c, cs, tg, hi⟩)).trans h1)
      rw [h2] at hg; injection hg with hg; subst hg; exact h1
    have hκg : ∀ j r, tokP k k'.length j → G2.κ j = some r → κ' j = some r := fun j r hj hr => by
      rcases hj with ⟨x, hj⟩ | hj
      · have hjl := (List.getElem?_eq_some_iff.1 hj).1
        have h0 := hN (.tok j) (wLocs_tok.2 (.inl ⟨x, hj⟩))
        simp only [RepH, hj] at h0
        have hsome : ∃ r0, G.κ j = some r0 := by
          cases x with
          | zero => obtain ⟨g, lo, hi, h1, _⟩ := h0; exact ⟨_, h1⟩
          | succ x => obtain ⟨g, lo, h1⟩ := h0; exact ⟨_, h1⟩
        obtain ⟨r0, hr0⟩ := hsome
        have h2 := htoks j r0 ((hκc j hjl).trans hr0)
        rw [h2] at hr; injection hr with hr; subst hr
        show (if _ then _ else _) = _
        rw [if_neg (by omega)]; exact hr0
      · show (if _ then _ else _) = _
        rw [if_pos hj]; exact hr
    have hrep' : ∀ v c tg, RepSlot G2 w' v c tg → IdP (aliveP H) c → (∀ i, tg = some i → TagRng (tokP k k'.length) c i) → RepSlot G' w' v c tg := fun v c tg h1 h2 h3 => by
      refine ⟨h1.1.idP _ _ h2 hιg, ?_⟩
      cases tg with
      | none => trivial
      | some i => exact h1.2.rng (h3 i rfl) fun j q hj hq => hκg j q hj hq
    have hg' : Good E B G' w' := by
      refine ⟨hgood.fin, fun b x hx => ?_, Nat.le_trans hgd.size hgood.size, fun b hb hn => ?_, fun b o hb => ?_, fun b o hb => ?_, hgood.os.trans hgd.os, hgood.tape.trans hgd.tape, hgood.output.trans hgd.output, hgood.glob, hgood.gb, fun i g hi => ⟨(hgd.ids i g hi).1, hext.ι _ _ (hgd.ids i g hi).2⟩, fun j r hj => ⟨(hgd.toks j r hj).1, hext.κ _ _ (hgd.toks j r hj).2⟩, fun g n x => hext.gr g n (hgd.grow g n x)⟩
      · rcases hO3 b x hx with ⟨h1, _⟩ | h1
        · exact ⟨Nat.lt_of_lt_of_le (hgd.own b x h1).1 hgood.size, (hgd.own b x h1).2⟩
        · exact hgood.own b x h1
      · obtain ⟨h1, h2⟩ := hgd.old b hb hn
        have hc : Oc b = none := by
          cases h3 : Oc b with
          | none => rfl
          | some x => rw [hOc b x h3] at h1; cases h1
        obtain ⟨h3, h4⟩ := hold b (Nat.lt_of_lt_of_le hb hgd.size) hc
        exact ⟨(hO2 b fun _ => h1).trans h3, h4.trans h2⟩
      · obtain ⟨h1, h2⟩ := hgd.keep b o hb
        obtain ⟨h3, h4⟩ := hgood.keep b o h1
        exact ⟨h3, h4.trans h2⟩
      · rcases hFn b o hb with h1 | h1 | h1
        · exact hgd.new b o h1
        · exact .inr (.inl (Nat.le_trans hgd.size h1))
        · rcases Nat.lt_or_ge b B.w.heap.size with hh | hh
          · refine .inr (.inr fun hn => h1 ?_)
            cases h3 : Oc b with
            | none => rfl
            | some x => have := hOc b x h3; rw [(hgd.old b hh hn).1] at this; cases this
          · exact .inr (.inl hh)
    have hown1 : ∀ i g, G.O g = some (.inl i) → .obj i ∉ wLocs H k (k'.length - k.length) → O' g = some (.inl i) ∧ w'.heap[g]? = w.heap[g]? ∧ ∀ x, G2.F g x → G.F g x := fun i g i2 hi => by
      have hoc : Oc g = none := by
        cases h3 : Oc g with
        | none => rfl
        | some x =>
          have h4 := hOc g x h3
          rw [i2] at h4; injection h4 with h4; subst h4
          simp only [Oc, i2] at h3
          split at h3
          · rename_i hh; exact absurd (wLocs_obj.2 hh) hi
          · cases h3
      have hgl := (hgd.own g _ i2).1
      refine ⟨hO1 g _ i2 hoc, (hold g hgl hoc).2, fun x hx => ?_⟩
      rcases hFn g x hx with h1 | h1 | h1
      · exact h1
      · omega
      · exact absurd hoc h1
    refine ⟨_, run_results fn a.tmps w' hrun, _, G', rfl, hg', ⟨hext, fun i c hi hc => ?_, fun j c hj hc => ?_⟩, hrep' _ _ _ ⟨?_, ?_⟩ pr pt, fun l hl => ?_⟩
    · -- objects of the caller's own
      cases c with
      | none => exact hc
      | some y => cases y with
        | dead => trivial
        | mp es =>
          obtain ⟨g, i1, i2, i3, i4⟩ := hc
          obtain ⟨k1, k2, k3⟩ := hown1 i g i2 hi
          exact ⟨g, i1, k1, fun x hx => i3 x (k3 x hx), i4.keep hext.F hext.w (fun k hk => hown1 i k hk hi) k2⟩
        | cells t cs tg =>
          refine hc.imp id fun ⟨g, i1, i2, i3, vs, fz, i4, i5, i6, i7⟩ => ?_
          obtain ⟨k1, k2, k3⟩ := hown1 i g i2 hi
          refine ⟨g, i1, k1, fun x hx => i3 x (k3 x hx), vs, fz, k2.trans i4, i5, i6, fun j c hc => ?_⟩
          · obtain ⟨v, v1, v2, v3⟩ := i7 j c hc
            exact ⟨v, v1, v2, v3.ext hext⟩
    · -- tokens of the caller's own
      have hjn : ¬ (k.length ≤ j ∧ j < k'.length) := fun hh => hj (wLocs_tok.2 (.inr ⟨hh.1, by omega⟩))
      have hκj : κ' j = G.κ j := if_neg hjn
      match c, hc with
      | none, hc => exact hκj.trans hc
      | some 0, _ => trivial
      | some (x + 2), ⟨g, lo, h1⟩ => exact ⟨g, lo, hκj.trans h1⟩
      | some 1, ⟨g, lo, hi, h1, h2⟩ =>
        refine ⟨g, lo, hi, hκj.trans h1, fun hlt => ?_⟩
        obtain ⟨i2, i3, vs, t, fz, i4, i5⟩ := h2 hlt
        have hoc : Oc g = none := by
          cases h3 : Oc g with
          | none => rfl
          | some x =>
            have h4 := hOc g x h3
            rw [i2] at h4; injection h4 with h4; subst h4
            simp only [Oc, i2] at h3
            split at h3
            · rename_i hh; obtain ⟨x, hh⟩ := hh; exact absurd (wLocs_tok.2 (.inl ⟨x, hh⟩)) hj
            · cases h3
        have hgl := (hgd.own g _ i2).1
        refine ⟨hO1 g _ i2 hoc, fun x hx hf => ?_, vs, t, fz, by rw [(hold g hgl hoc).2]; exact i4, i5⟩
        rcases hFn g x hf with h1 | h1 | h1
        · exact i3 x hx h1
        · omega
        · exact h1 hoc
    · rw [← hq]; exact pack_rep hlen hrep
    · -- the result's token
      rw [← htag]
      unfold tagRes
      split
      · rename_i t hrs
        have h1 : fn.results.toList.mapM (resV a.tmps) = (do let x ← resV a.tmps (.tmp t); pure [x]) := by rw [hrs]; rfl
        have hslot := hst.rep (.slot t)
        simp only [RepL] at hslot
        rw [h1] at hrun
        simp only [resV, Sem.run_bind, Sem.run_pure, Result.andThen_ok] at hrun
        injection hrun with hrun
        subst hrun
        rw [hrs] at hres
        have hl1 : ∃ x, l = [x] := by
          match l, hlen with
          | [x], _ => exact ⟨x, rfl⟩
        obtain ⟨x, rfl⟩ := hl1
        have hxr : (St.of L HX k').s t = r := by
          simp only [resE] at hres
          exact hres
        simp only [packV, ← hxr]
        exact hslot.2
      · rename_i t ty hrs
        split
        · rename_i id off ti hs hti
          split
          · rename_i tt cs tg hob
            cases ha : isAggD ti.desc with
            | false => trivial
            | true =>
              have hre := hres
              rw [hrs] at hre
              simp only [resE] at hre
              obtain ⟨v, hrv, hv⟩ := cellE_tag hT hst hs hti hob ha hre
              have h1 : fn.results.toList.mapM (resV a.tmps) = (do let x ← resV a.tmps (.cell t ty); pure [x]) := by rw [hrs]; rfl
              rw [h1] at hrun
              have hrun' : ((do loadVar ty (← asAddr (a.tmps.getD t undef)) : Sem Value) >>= fun x => pure [x]).run P w' = .ok vs w' := hrun
              rw [Sem.run_bind, hrv] at hrun'
              injection hrun' with hrun'
              subst hrun'
              have hl1 : ∃ x, l = [x] := by
                match l, hlen with
                | [x], _ => exact ⟨x, rfl⟩
              obtain ⟨x, rfl⟩ := hl1
              have hxr : AV.agg ((cs.drop off).take ti.size) = r := by
                simp only [cellE, hs, hti, hob, optE, ha] at hre
                obtain ⟨_, h5, h6⟩ := hre.2
                exact h5.trans h6
              simp only [packV, ← hxr]
              exact hv
          · trivial
        · trivial
      · trivial
    · -- what was handed on
      cases l with
      | slot t => trivial
      | obj i =>
        have hobj := hst.rep (.obj i)
        simp only [RepL, St.of] at hobj
        obtain ⟨x0, hi0, hx0⟩ := wLocs_obj.1 hl
        have hil : i < H'.length := by rw [lH]; exact (List.getElem?_eq_some_iff.1 hi0).1
        have hxi : HX[i]? = H'[i]? := by
          have h9 : (HX.take H'.length)[i]? = HX[i]? := by rw [List.getElem?_take, if_pos hil]
          rw [hHX] at h9
          exact h9.symm
        rw [hxi] at hobj
        simp only [RepH]
        cases hi : H'[i]? with
        | none => rw [List.getElem?_eq_getElem hil] at hi; cases hi
        | some y =>
          rw [hi] at hobj
          have hex : ∃ g0, G.ι i = some g0 := by
            have h0 := hN (.obj i) hl
            simp only [RepH, hi0] at h0
            cases x0 with
            | dead => exact absurd rfl hx0
            | mp => obtain ⟨g0, h1, _⟩ := h0; exact ⟨g0, h1⟩
            | cells t0 cs0 tg0 =>
              cases cs0 with
              | nil => exact absurd hi0 (pE i t0 tg0)
              | cons c0 cs0 => obtain ⟨g0, h1, _⟩ := h0.resolve_left (by simp); exact ⟨g0, h1⟩
          obtain ⟨g0, h1⟩ := hex
          have h2 := hids i g0 ((hιc i (List.getElem?_eq_some_iff.1 hi0).1).trans h1)
          have hιi : ∀ g, G2.ι i = some g → G.ι i = some g := fun g hg => by
            rw [h2] at hg; injection hg with hg; subst hg; exact h1
          cases y with
          | dead => trivial
          | mp es =>
            obtain ⟨g, i1, i2, i3, i4⟩ := hobj
            exact ⟨g, hιi g i1, hO4 g _ i2, i3, i4.keep (fun _ _ h => h) (fun _ _ _ => rfl) (fun k hk => ⟨hO4 k _ hk, rfl, fun _ h => h⟩) rfl⟩
          | cells t cs tg =>
            refine hobj.imp (fun e => by rw [h2] at e; cases e.2) fun ⟨g, i1, i2, i3, vs, fz, i4, i5, i6, i7⟩ => ?_
            refine ⟨g, ?_, hO4 g _ i2, i3, vs, fz, i4, i5, i6, fun j c hc => ?_⟩
            · exact hιi g i1
            · obtain ⟨v, v1, v2, v3⟩ := i7 j c hc
              exact ⟨v, v1, v2, hrep' _ _ _ v3 ((pH' i t cs tg hi).1 c (List.mem_of_getElem? hc)) fun i' h' => .one ((pH' i t cs tg hi).2 j i' h') fun cs5 e => agg_noOne (e ▸ v3.1) v2⟩
      | tok j =>
        have htok := hst.rep (.tok j)
        simp only [RepL, St.of] at htok
        simp only [RepH]
        have htp : tokP k k'.length j := (wLocs_tok.1 hl).imp id fun h => by omega
        cases hj : k'[j]? with
        | none =>
          rcases htp with ⟨x, hx⟩ | hx
          · have := (List.getElem?_eq_some_iff.1 hx).1
            rw [List.getElem?_eq_getElem (by omega)] at hj; cases hj
          · rw [List.getElem?_eq_getElem (by omega)] at hj; cases hj
        | some x =>
          rw [hj] at htok
          match x, htok with
          | 0, _ => trivial
          | 1, ⟨g, lo, hi, h1, h2⟩ => exact ⟨g, lo, hi, hκg j _ htp h1, fun hlt => ⟨hO4 g _ (h2 hlt).1, (h2 hlt).2⟩⟩
          | x + 2, ⟨g, lo, h1⟩ => exact ⟨g, lo, hκg j _ htp h1⟩
  cases e with
  | normal => exact hend hk
  | ret => exact hend hk
  | exit i => exact hk.elim
  | goto l => exact hk.elim
  | panic ch => exact hk.elim
  | outgrown => exact hk.elim
def tag1 (st : St) : List ResultVar → Option Nat
  | [.tmp t] => st.g t
  | _ => none
def EndC (E : Env) (T : Tab) (nb nk : Nat) (rs : List ResultVar) (K : AV → Option Nat → List AObj → List Nat → Prop) : Exit → St → Prop
  | .ret, st | .normal, st => ∃ s, Gho E nb nk st s ∧ resE T s rs fun l => K (packR l) (tag1 s rs) s.H s.k
  | _, _ => False
theorem FnC.of_ev {E : Env} {P : Program} {T : Tab} {rows : List Nat} (hT : TOk P T) (hm : P.follows .mixedOrders = true) {f : FuncId} {fn : Func} {code : Code} {args : List AV} {ta : List (Option Nat)} {H : List AObj} {k : List Nat} {K : AV → Option Nat → List AObj → List Nat → Prop}
    (hf : P.funcs[f]? = some fn) (hb : fn.body = some code) (hname : (fn.name == "runtime.NumGoroutine") = false) (hck : codeOk T fn.ntmps code = true) (hargs : Nat.ble args.length fn.ntmps = true) (hta : Nat.ble ta.length args.length = true)
    (h : evK ⟨E, P, T, rows, H.length, k.length⟩ code (EndC E T H.length k.length fn.results.toList K) (St.initT args ta H k)) : FnC E P f args ta H k K := by
  refine ⟨⟨fn, hf, hname, by rw [hb]; rfl⟩, fun B G w vals hgd hobj htok hl hr => ?_⟩
  have hle : args.length ≤ fn.ntmps := by simpa [Nat.ble_eq] using hargs
  have hlt : ta.length ≤ args.length := by simpa [Nat.ble_eq] using hta
  have hιn : ∀ i g, G.ι i = some g → i < H.length := fun i g hi => by
    rcases Nat.lt_or_ge i H.length with hh | hh
    · exact hh
    · have := hobj i
      rw [List.getElem?_eq_none hh] at this
      rw [show G.ι i = none from this] at hi; cases hi
  have hκn : ∀ i r, G.κ i = some r → i < k.length := fun i r hi => by
    rcases Nat.lt_or_ge i k.length with hh | hh
    · exact hh
    · have := htok i
      rw [List.getElem?_eq_none hh] at this
      rw [show G.κ i = none from this] at hi; cases hi
  let Bc : Base := { F := G.F, O := G.O, w := w, nt := fn.ntmps, ι := G.ι, κ := G.κ, nb := H.length, nk := k.length }
  have hconc : Conc E Bc G w { tmps := vals.toArray ++ Array.replicate (fn.ntmps - vals.toArray.size) undef, defers := [] } (St.initT args ta H k) := by
    refine ⟨⟨hgd.fin, hgd.own, Nat.le_refl _, fun b _ hn => ⟨hn, rfl⟩, fun b o hb => ⟨hb, rfl⟩, fun b o hb => .inl hb, rfl, rfl, rfl, hgd.glob, hgd.gb, fun i g hi => ⟨hιn i g hi, hi⟩, fun j r hj => ⟨hκn j r hj, hj⟩, fun _ _ h => h⟩, by simp [Bc]; omega, rfl, fun l => ?_⟩
    cases l with
    | slot t =>
      simp only [RepL, St.initT]
      rcases Nat.lt_or_ge t args.length with ht | ht
      · have h1 : args.getD t .any = args[t] := by simp [List.getD, ht]
        have h2 : (vals.toArray ++ Array.replicate (fn.ntmps - vals.toArray.size) undef).getD t undef = vals[t]'(by omega) := by
          rw [Array.getD_eq_getD_getElem?, Array.getElem?_append_left (by simp; omega)]
          simp [show t < vals.length by omega]
        rw [h1, h2]
        exact hr t _ _ (List.getElem?_eq_getElem (by omega)) (List.getElem?_eq_getElem ht)
      · have h1 : args.getD t .any = .any := by simp [List.getD, List.getElem?_eq_none ht]
        have h2 : ta.getD t none = none := by rw [List.getD_eq_getElem?_getD, List.getElem?_eq_none (by omega)]; rfl
        rw [h1, h2]; exact ⟨.any .., trivial⟩
    | obj i => exact hobj i
    | tok i => exact htok i
  refine calls_of_wp hf hb (wp_mono (evK_ok (C := ⟨E, P, T, rows, H.length, k.length⟩) hT hm (B := Bc) rfl rfl code _ _ hck h G w _ hconc) fun e a w' hp => ?_)
  obtain ⟨st0, G0, hk, hst0⟩ := hp
  have hend : (∃ s, Gho E H.length k.length st0 s ∧ resE T s fn.results.toList fun l => K (packR l) (tag1 s fn.results.toList) s.H s.k) → a.defers = [] ∧ ∃ v, (results fn a.tmps).run P w' = .ok v w' ∧
      ∃ v' r tag H' k' G', Ending.returned v = .returned v' ∧ K r tag H' k' ∧ Good E B G' w' ∧ Ext G w G' w' ∧ (∀ i, RepObj G' w' i H'[i]?) ∧ (∀ i, RepTok G' w' i k'[i]?) ∧ RepSlot G' w' v' r tag := by
    rintro ⟨st, hgho, hres⟩
    obtain ⟨G', hst⟩ := hgho Bc G0 w' a rfl rfl hst0
    have hgood := hst.good
    have hext : Ext G w G' w' := ⟨fun b o hb => (hgood.keep b o hb).1, fun i g hi => (hgood.ids i g hi).2, fun j r hj => (hgood.toks j r hj).2, fun b o hb => (hgood.keep b o hb).2, hgood.grow⟩
    have hg' : Good E B G' w' := by
      refine ⟨hgood.fin, hgood.own, Nat.le_trans hgd.size hgood.size, fun b hb hn => ?_, fun b o hb => ?_, fun b o hb => ?_, hgood.os.trans hgd.os, hgood.tape.trans hgd.tape, hgood.output.trans hgd.output, hgood.glob, hgood.gb, fun i g hi => ⟨(hgd.ids i g hi).1, hext.ι _ _ (hgd.ids i g hi).2⟩, fun j r hj => ⟨(hgd.toks j r hj).1, hext.κ _ _ (hgd.toks j r hj).2⟩, fun g n x => hext.gr g n (hgd.grow g n x)⟩
      · obtain ⟨h1, h2⟩ := hgd.old b hb hn
        obtain ⟨h3, h4⟩ := hgood.old b (Nat.lt_of_lt_of_le hb hgd.size) h1
        exact ⟨h3, h4.trans h2⟩
      · obtain ⟨h1, h2⟩ := hgd.keep b o hb
        obtain ⟨h3, h4⟩ := hgood.keep b o h1
        exact ⟨h3, h4.trans h2⟩
      · rcases hgood.new b o hb with h1 | h1 | h1
        · exact hgd.new b o h1
        · exact .inr (.inl (Nat.le_trans hgd.size h1))
        · rcases Nat.lt_or_ge b B.w.heap.size with hh | hh
          · exact .inr (.inr fun hn => h1 (hgd.old b hh hn).1)
          · exact .inr (.inl hh)
    refine ⟨hst.defers, ?_⟩
    by_cases hone : ∃ t, fn.results.toList = [.tmp t]
    · obtain ⟨t, hrs⟩ := hone
      have hrun : (fn.results.toList.mapM (resV a.tmps)).run P w' = .ok [a.tmps.getD t undef] w' := by
        rw [hrs]
        have h1 : [ResultVar.tmp t].mapM (resV a.tmps) = (do let x ← resV a.tmps (.tmp t); pure [x]) := rfl
        rw [h1]
        simp only [resV, Sem.run_bind, Sem.run_pure, Result.andThen_ok]
      rw [hrs] at hres
      exact ⟨_, run_results fn a.tmps w' hrun, _, st.s t, st.g t, st.H, st.k, G', rfl, hres, hg', hext, fun i => hst.rep (.obj i), fun i => hst.rep (.tok i), hst.rep (.slot t)⟩
    · obtain ⟨l, hq, vs, hrun, hlen, hrep⟩ := resE_ok hT hst _ _ hres
      have htn : tag1 st fn.results.toList = none := by
        unfold tag1
        split
        · rename_i t hrs; exact absurd ⟨t, hrs⟩ hone
        · rfl
      rw [htn] at hq
      exact ⟨_, run_results fn a.tmps w' hrun, _, _, none, st.H, st.k, G', rfl, hq, hg', hext, fun i => hst.rep (.obj i), fun i => hst.rep (.tok i), pack_rep hlen hrep, trivial⟩
  cases e with
  | normal => exact hend hk
  | ret => exact hend hk
  | exit i => exact hk.elim
  | goto l => exact hk.elim
  | panic ch => exact hk.elim
  | outgrown => exact hk.elim
theorem FnC.mono {E : Env} {P : Program} {f : FuncId} {args : List AV} {ta : List (Option Nat)} {H : List AObj} {k : List Nat} {K K' : AV → Option Nat → List AObj → List Nat → Prop} (h : FnC E P f args ta H k K)
    (hk : ∀ r tag H k, K r tag H k → ∃ r', (∀ (F : Nat → Nat → Prop) (w : World) (ι : Nat → Option Nat) (v : Value), Rep F w ι v r → Rep F w ι v r') ∧ K' r' none H k) : FnC E P f args ta H k K' := by
  refine ⟨h.1, fun B G w vals h1 h2 h3 h4 h5 => (h.2 B G w vals h1 h2 h3 h4 h5).mono ?_⟩
  rintro e w' ⟨v, r, tag, H', k', G', rfl, hK, g1, g2, g3, g4, g5⟩
  obtain ⟨r', q1, q2⟩ := hk r tag H' k' hK
  exact ⟨v, r', none, H', k', G', rfl, q2, g1, g2, g3, g4, q1 _ _ _ _ g5.1, trivial⟩
theorem rowR_row {id off len sz : Nat} (F : Nat → Nat → Prop) (w : World) (ι : Nat → Option Nat) (v : Value) (h : Rep F w ι v (.rowR id off len sz)) : Rep F w ι v (.row id off len sz) := by
  cases h with
  | rowR _ _ _ _ _ _ g hι hc hm hs hb => exact .row _ _ _ _ _ _ g hι hc hm fun _ => hb
end Go.Pm
