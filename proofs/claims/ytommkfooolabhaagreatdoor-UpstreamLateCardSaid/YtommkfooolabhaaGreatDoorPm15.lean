/-
  Generic: the evaluator over code; functions.
-/
import Derived.Test.YtommkfooolabhaaGreatDoorPm14
import Derived.Scope
namespace Go.Pm
open Go Go.RowKit
set_option linter.unusedVariables false
set_option linter.unusedSimpArgs false
structure Br (t : Bool) (A B : Prop) : Prop where
  yes : t = true → A
  no : t = false → B
def lastInl (C : Cx) (ops : Array Oper) : Bool := match ops.back? with
  | some o => o.guard.isNone && inlOp C o
  | none => false
def lastOk (ops : Array Oper) : Bool := (List.range (ops.size - 1)).all fun k => ((ancs ops.toList).getD (ops.size - 1) 0).testBit k
def evReg (C : Cx) (ops : Array Oper) (draw : Bool) (st : St) (K : St → Prop) : Prop :=
  match draw with
  | false => evSeq C ops ops.toList st fun st' => K st'
  | true => match lastInl C ops with
    | true => evOps C ops (ops.toList.take (ops.size - 1)) st [] fun st' ft => (ordOk ops.toList ft = true ∧ lastOk ops = true) ∧ optE ops.back? fun o => evInl C st' o K
    | false => (evOps C ops ops.toList st [] fun st' ft => ordOk ops.toList ft = true ∧ K st') ∨
      ∃ id m, evOpsM C ops id ops.toList st [] [] fun st' ft I => (mapChk ops ft I id m = true ∧ keysB (entsL I) = true ∧ st'.H[id]? = some (.mp (.map []))) ∧
        ∃ es, entsL I = es ∧ K (st'.wP id es)
structure LoopW (E : Env) (nb nk : Nat) (body : (Exit → St → Prop) → St → Prop) (K : Exit → St → Prop) (st : St) (α : Type) (S : α → St) (μ : α → Nat) (x0 : α) : Prop where
  start : Gho E nb nk st (S x0)
  round : ∀ x, body (fun e s => match e with | .normal => ∃ x', μ x' < μ x ∧ Gho E nb nk s (S x') | e => K e s) (S x)
def LoopE (E : Env) (nb nk : Nat) (body : (Exit → St → Prop) → St → Prop) (K : Exit → St → Prop) (st : St) : Prop := ∃ (α : Type) (S : α → St) (μ : α → Nat) (x0 : α), LoopW E nb nk body K st α S μ x0
inductive SeqN (E : Env) (nb nk : Nat) (kb : St → Prop) (s : St) : Prop
  | go (h : kb s)
  | via (s' : St) (hg : Gho E nb nk s s') (h : kb s')
inductive SeqJ (E : Env) (nb nk : Nat) (ea : (Exit → St → Prop) → St → Prop) (kb : St → Prop) (K : Exit → St → Prop) (st : St) : Prop
  | go (h : ea (fun e s => match e with | .normal => SeqN E nb nk kb s | e => K e s) st)
  | join (s' : St) (h1 : ea (fun e s => match e with | .normal => Gho E nb nk s s' | e => K e s) st) (h2 : kb s')
def evK (C : Cx) : Code → (Exit → St → Prop) → St → Prop
  | .skip, K, st => K .normal st
  | .region _ ops draw, K, st => evReg C ops draw st fun st' => K .normal st'
  | .seq a b, K, st => SeqJ C.E C.nb C.nk (evK C a) (evK C b K) K st
  | .cond c a b, K, st => match evV C.T st 0 c with
    | .bool t => Br t (evK C a K st) (evK C b K st)
    | _ => False
  | .block id a, K, st => evK C a (fun e s => match e with | .exit i => (match Nat.beq i id with | true => K .normal s | false => K (.exit i) s) | e => K e s) st
  | .loop a, K, st => LoopE C.E C.nb C.nk (evK C a) K st
  | .exit id, K, st => K (.exit id) st
  | .ret, K, st => K .ret st
  | .scope a, K, st => evK C a (fun e s => match e with | .goto _ => False | e => K e s) st
  | .label _, K, st => K .normal st
  | _, _, _ => False
def codeOk (T : Tab) (nt : Nat) : Code → Bool
  | .region _ ops draw => dstsOk nt ops && ops.toList.all (opOk T) && (!draw || edgesOk ops.toList)
  | .seq a b => codeOk T nt a && codeOk T nt b
  | .cond c a b => cOk T 0 c && codeOk T nt a && codeOk T nt b
  | .block _ a => codeOk T nt a
  | .loop a => codeOk T nt a
  | .scope a => codeOk T nt a
  | _ => true
theorem least_of {p : Nat → Prop} (h : ∃ n, p n) : ∃ n, p n ∧ ∀ m, p m → n ≤ m := by
  obtain ⟨n, hn⟩ := h
  induction n using Nat.strongRecOn with
  | _ n ih =>
    by_cases hm : ∃ m, m < n ∧ p m
    · obtain ⟨m, h1, h2⟩ := hm
      exact ih m h1 h2
    · exact ⟨n, hn, fun m h => by
        rcases Nat.lt_or_ge m n with h1 | h1
        · exact absurd ⟨m, h1, h⟩ hm
        · exact h1⟩
noncomputable def leastN (p : Nat → Prop) : Nat := open Classical in if h : ∃ n, p n then Classical.choose (least_of h) else 0
theorem leastN_spec {p : Nat → Prop} (h : ∃ n, p n) : p (leastN p) ∧ ∀ m, p m → leastN p ≤ m := by
  unfold leastN
  rw [dif_pos h]
  exact Classical.choose_spec (least_of h)
def Post (E : Env) (B : Base) (K : Exit → St → Prop) : Exit → Act → World → Prop := fun e a w => ∃ st G, K e st ∧ Conc E B G w a st
theorem evK_ok {C : Cx} (hT : TOk C.P C.T) (hm : C.P.follows .mixedOrders = true) {B : Base} (hnb : B.nb = C.nb) (hnk : B.nk = C.nk) : ∀ (c : Code) (K : Exit → St → Prop) (st : St), codeOk C.T B.nt c = true → evK C c K st →
    ∀ (G : Gh) (w : World) (a : Act), Conc C.E B G w a st → c.wp C.P (Post C.E B K) a w := by
  intro c
  induction c with
  | skip => intro K st _ h G w a hst; exact wp_skip ⟨st, G, h, hst⟩
  | region id ops draw =>
    intro K st hok h G w a hst
    simp only [codeOk, Bool.and_eq_true] at hok
    obtain ⟨⟨h1, h2⟩, h3⟩ := hok
    simp only [evK] at h
    unfold evReg at h
    cases draw with
    | false =>
      have := evSeq_ok (Q := Post C.E B K) hT hnb hnk h1 _ 0 st rfl h2 h G w a hst fun G' w' a' st' hk hst' => ⟨st', G', hk, hst'⟩
      rw [Array.length_toList, ← List.range_eq_range'] at this
      exact wp_region this
    | true =>
      simp only [Bool.not_true, Bool.false_or] at h3
      dsimp only at h
      split at h
      · rename_i hli
        obtain ⟨st', ft, hk, hch⟩ := evOps_ok hT _ _ _ _ (List.all_eq_true.2 fun o ho => List.all_eq_true.1 h2 o (List.mem_of_mem_take ho)) h
        simp only [List.nil_append] at hk
        obtain ⟨⟨k1, k2⟩, k3⟩ := hk
        obtain ⟨o, hbk, k3⟩ := optE_ok k3
        have hpos : 0 < ops.size := by
          rcases Nat.eq_zero_or_pos ops.size with h0 | h0
          · rw [Array.back?_eq_getElem?, Array.getElem?_eq_none (by omega)] at hbk; cases hbk
          · exact h0
        rw [Array.back?_eq_getElem?] at hbk
        have hgn : o.guard = none := by
          unfold lastInl at hli
          rw [Array.back?_eq_getElem?, hbk] at hli
          simp only [Bool.and_eq_true, Option.isNone_iff_eq_none] at hli
          exact hli.1
        refine wp_region_last hm h1 (m := ops.size - 1) (by omega) hch h3 k1 (fun k hk => List.all_eq_true.1 k2 k (List.mem_range.2 hk)) hst fun G' w' a' hst' o' ho' K' hK' => ?_
        rw [hbk] at ho'
        injection ho' with ho'
        subst ho'
        refine wpOp_of hbk ?_
        rw [if_pos (by simp [Region.wanted, hgn])]
        exact evInl_ok hT hnb hnk (List.all_eq_true.1 h2 o (by rw [← Array.getElem?_toList] at hbk; exact List.mem_of_getElem? hbk)) k3 (dstsOk.at h1 hbk) hst' fun G2 w2 a2 st2 q1 q2 => hK' _ _ ⟨st2, G2, q1, q2⟩
      rcases h with h | ⟨oid, m, h⟩
      · obtain ⟨st', ft, hk, hch⟩ := evOps_ok hT _ _ _ _ h2 h
        simp only [List.nil_append] at hk
        exact wp_region_chain hm h1 hch (fun _ => ⟨h3, hk.1⟩) hst fun G' w' a' hst' => ⟨st', G', hk.2, hst'⟩
      · obtain ⟨st', ft, I, S, hk, hch⟩ := evOpsM_ok hT _ _ _ _ _ h2 h
        simp only [List.nil_append] at hk
        obtain ⟨es, he, hk2⟩ := hk.2
        subst he
        exact wp_region_map hm h1 h3 hch hk.1.1 hk.1.2.1 hk.1.2.2 hst fun G' w' a' hst' => ⟨_, G', hk2, hst'⟩
  | seq x y ihx ihy =>
    intro K st hok h G w a hst
    simp only [codeOk, Bool.and_eq_true] at hok
    simp only [evK] at h
    cases h with
    | go h =>
      refine wp_seq (wp_mono (ihx _ _ hok.1 h G w a hst) fun e a' w' hp => ?_)
      obtain ⟨st', G', hk, hst'⟩ := hp
      cases e with
      | normal =>
        cases hk with
        | go hk => exact ihy _ _ hok.2 hk G' w' a' hst'
        | via s' hg hk =>
          obtain ⟨G2, hst2⟩ := hg B G' w' a' hnb hnk hst'
          exact ihy _ _ hok.2 hk G2 w' a' hst2
      | exit i => exact ⟨st', G', hk, hst'⟩
      | goto l => exact ⟨st', G', hk, hst'⟩
      | ret => exact ⟨st', G', hk, hst'⟩
      | panic ch => exact ⟨st', G', hk, hst'⟩
      | outgrown => exact ⟨st', G', hk, hst'⟩
    | join s1 h h2 =>
      refine wp_seq (wp_mono (ihx _ _ hok.1 h G w a hst) fun e a' w' hp => ?_)
      obtain ⟨st', G', hk, hst'⟩ := hp
      cases e with
      | normal =>
        obtain ⟨G2, hst2⟩ := hk B G' w' a' hnb hnk hst'
        exact ihy _ _ hok.2 h2 G2 w' a' hst2
      | exit i => exact ⟨st', G', hk, hst'⟩
      | goto l => exact ⟨st', G', hk, hst'⟩
      | ret => exact ⟨st', G', hk, hst'⟩
      | panic ch => exact ⟨st', G', hk, hst'⟩
      | outgrown => exact ⟨st', G', hk, hst'⟩
  | cond x a b iha ihb =>
    intro K st hok h G w ac hst
    simp only [codeOk, Bool.and_eq_true] at hok
    obtain ⟨⟨h1, h2⟩, h3⟩ := hok
    simp only [evK] at h
    split at h
    · rename_i t ht
      have hr := (evV_ok (T := C.T) hst.good h1 fun l _ => hst.rep l).1
      rw [ht] at hr
      generalize hv : ac.eval x = v at hr
      cases hr
      cases t with
      | true => exact wp_cond hv (iha _ _ h2 (h.yes rfl) G w ac hst)
      | false => exact wp_cond hv (ihb _ _ h3 (h.no rfl) G w ac hst)
    · exact h.elim
  | block id x ih =>
    intro K st hok h G w a hst
    refine wp_block (wp_mono (ih _ _ hok h G w a hst) fun e a' w' hp => ?_)
    obtain ⟨st', G', hk, hst'⟩ := hp
    cases e with
    | exit i =>
      simp only [Exit.inBlock]
      dsimp only at hk
      split at hk
      · rename_i hb
        rw [if_pos (Nat.eq_of_beq_eq_true hb)]
        exact ⟨st', G', hk, hst'⟩
      · rename_i hb
        rw [if_neg (Nat.ne_of_beq_eq_false hb)]
        exact ⟨st', G', hk, hst'⟩
    | normal => exact ⟨st', G', hk, hst'⟩
    | goto l => exact ⟨st', G', hk, hst'⟩
    | ret => exact ⟨st', G', hk, hst'⟩
    | panic ch => exact ⟨st', G', hk, hst'⟩
    | outgrown => exact ⟨st', G', hk, hst'⟩
  | loop x ih =>
    intro K st hok h G w a hst
    obtain ⟨α, S, μ, x0, hs, hr⟩ := h
    obtain ⟨G0, h0⟩ := hs B G w a hnb hnk hst
    -- the measure: the least that a fitting member has
    let fits : Act → World → Nat → Prop := fun a w n => ∃ y G, μ y = n ∧ Conc C.E B G w a (S y)
    refine wp_loop (fun a w => ∃ n, fits a w n) (fun a w => leastN (fits a w)) ⟨_, x0, G0, rfl, h0⟩ fun a w hI => ?_
    obtain ⟨⟨y, Gy, hy, hcy⟩, _⟩ := leastN_spec hI
    refine wp_mono (ih _ _ hok (hr y) Gy w a hcy) fun e a' w' hp => ?_
    obtain ⟨st', G', hk, hst'⟩ := hp
    cases e with
    | normal =>
      obtain ⟨y', hlt, hg⟩ := hk
      obtain ⟨G2, h2⟩ := hg B G' w' a' hnb hnk hst'
      have hf : fits a' w' (μ y') := ⟨y', G2, rfl, h2⟩
      exact ⟨⟨_, hf⟩, Nat.lt_of_le_of_lt ((leastN_spec ⟨_, hf⟩).2 _ hf) (by show μ y' < leastN (fits a w); rw [← hy]; exact hlt)⟩
    | exit i => exact ⟨st', G', hk, hst'⟩
    | goto l => exact ⟨st', G', hk, hst'⟩
    | ret => exact ⟨st', G', hk, hst'⟩
    | panic ch => exact ⟨st', G', hk, hst'⟩
    | outgrown => exact ⟨st', G', hk, hst'⟩
  | exit id => intro K st _ h G w a hst; exact wp_exit ⟨st, G, h, hst⟩
  | ret => intro K st _ h G w a hst; exact wp_ret ⟨st, G, h, hst⟩
  | rangeFunc _ _ _ _ _ _ => intro K st _ h; exact h.elim
  | scope x ih =>
    intro K st hok h G w a hst
    refine wp_scope_straight (wp_mono (ih _ _ hok h G w a hst) fun e a' w' hp => ?_)
    obtain ⟨st', G', hk, hst'⟩ := hp
    cases e with
    | goto l => exact hk.elim
    | normal => exact ⟨st', G', hk, hst'⟩
    | exit i => exact ⟨st', G', hk, hst'⟩
    | ret => exact ⟨st', G', hk, hst'⟩
    | panic c => exact ⟨st', G', hk, hst'⟩
    | outgrown => exact ⟨st', G', hk, hst'⟩
  | label _ => intro K st _ h G w a hst; exact wp_label ⟨st, G, h, hst⟩
  | goto _ => intro K st _ h; exact h.elim
  | refuse _ => intro K st _ h; exact h.elim
def cellE (T : Tab) (st : St) (a : Nat) (ty : TypeId) (k : AV → Prop) : Prop :=
  match st.s a, T.at ty with
  | .ptr id off, some ti => optE st.H[id]? fun ob => match ob with
    | .cells _ cs _ => (match isAggD ti.desc with
      | true => (0 < ti.size ∧ off + ti.size ≤ cs.length) ∧ ∃ r, AV.agg ((cs.drop off).take ti.size) = r ∧ k r
      | false => optE cs[off]? k)
    | _ => False
  | _, _ => False
def resE (T : Tab) (st : St) : List ResultVar → (List AV → Prop) → Prop
  | [], k => k []
  | .tmp t :: rs, k => resE T st rs fun l => k (st.s t :: l)
  | .cell a ty :: rs, k => cellE T st a ty fun v => resE T st rs fun l => k (v :: l)
def resV (tmps : Array Value) : ResultVar → Sem Value
  | .tmp t => pure (tmps.getD t undef)
  | .cell b ty => do loadVar ty (← asAddr (tmps.getD b undef))
def packR : List AV → AV
  | [x] => x
  | l => .tup l
section
variable {E : Env} {P : Program} {T : Tab} {st : St} {B : Base} {G : Gh} {w : World} {a : Act}
theorem cellE_ok (hT : TOk P T) (hst : Conc E B G w a st) {t : Nat} {ty : TypeId} {k : AV → Prop} (h : cellE T st t ty k) :
    ∃ r, k r ∧ ∃ v, (do loadVar ty (← asAddr (a.tmps.getD t undef)) : Sem Value).run P w = .ok v w ∧ Rep G.F w G.ι v r := by
  unfold cellE at h
  split at h
  · rename_i id off ti hs hti
    have hf := hT _ _ hti
    obtain ⟨ob, hob, h⟩ := optE_ok h
    split at h
    · rename_i tt cs tg
      have r1 := (hst.rep (.slot t)).1
      rw [hs] at r1
      have hobj := hst.rep (.obj id)
      simp only [RepL, hob] at hobj
      generalize hv : a.tmps.getD t undef = vx at *
      cases r1 with
      | ptr _ _ _ g' hι =>
      split at h
      · rename_i ha
        obtain ⟨⟨hpos, hle⟩, rr, hrr, h⟩ := h
        subst hrr
        obtain ⟨gg, i1, i2, i3, vals, fz, i4, i5, i6, i7⟩ := hobj.resolve_left (by rintro ⟨rfl, _⟩; simp at hle; omega)
        rw [i1] at hι
        injection hι with hι
        subst hι
        have hsz : cs.length ≤ vals.toList.length := by simpa using i6
        have hl : ((vals.toList.drop off).take ti.size).length = ti.size := by simp; omega
        refine ⟨_, h, .agg ((vals.toList.drop off).take ti.size).toArray, ?_, ?_⟩
        · have hload := run_loadCells_list (P := P) w ⟨gg, off, none⟩ ((vals.toList.drop off).take ti.size) (fun j v hj => by
            rw [List.getElem?_take] at hj
            split at hj
            · rw [List.getElem?_drop] at hj
              rw [add_plain]
              simpa [World.cell?, i4] using hj
            · cases hj)
          rw [hl] at hload
          simp only [asAddr, Sem.run_bind, Sem.run_pure, Result.andThen_ok, loadVar, hf.run_agg, ha, if_true, hf.run_size, hload]
        · refine .agg _ _ _ (by rw [hl]; simp; omega) (fun v hv => ?_) fun i v c hi hc => ?_
          · obtain ⟨j, hj, hjv⟩ := List.getElem_of_mem hv
            have hj' : j < ti.size := by rw [hl] at hj; exact hj
            have hjv2 : vals[off + j]? = some v := by
              have := List.getElem?_eq_getElem hj
              rw [hjv, List.getElem?_take, if_pos hj', List.getElem?_drop, Array.getElem?_toList] at this
              exact this
            obtain ⟨u, u1, u2, _⟩ := i7 (off + j) _ (List.getElem?_eq_getElem (by omega))
            rw [hjv2] at u1
            injection u1 with u1
            subst u1
            exact u2
          · rw [List.getElem?_take] at hi hc
            split at hi
            · rw [if_pos (by assumption), List.getElem?_drop] at hc
              rw [List.getElem?_drop, Array.getElem?_toList] at hi
              obtain ⟨u, u1, _, u3⟩ := i7 _ _ hc
              rw [hi] at u1
              injection u1 with u1
              subst u1
              exact u3.1
            · cases hi
      · rename_i ha
        obtain ⟨c, hcs, h⟩ := optE_ok h
        obtain ⟨gg, i1, i2, i3, vals, fz, i4, i5, i6, i7⟩ := hobj.resolve_left (by rintro ⟨rfl, _⟩; simp at hcs)
        rw [i1] at hι
        injection hι with hι
        subst hι
        obtain ⟨u, u1, _, u3⟩ := i7 _ _ hcs
        refine ⟨c, h, u, ?_, u3.1⟩
        have hcell : w.cell? ⟨gg, off, none⟩ = some u := by simpa [World.cell?, i4] using u1
        simp only [asAddr, Sem.run_bind, Sem.run_pure, Result.andThen_ok, loadVar, hf.run_agg, ha, Bool.false_eq_true, if_false, run_load, hcell]
    · exact h.elim
  · exact h.elim
theorem cellE_tag (hT : TOk P T) (hst : Conc E B G w a st) {t : Nat} {ty : TypeId} {k : AV → Prop} {id off : Nat} {ti : TI} {tt : TypeId} {cs : List AV} {tg : List (Nat × Nat)} (hs : st.s t = .ptr id off) (hti : T.at ty = some ti)
    (hob : st.H[id]? = some (.cells tt cs tg)) (ha : isAggD ti.desc = true) (h : cellE T st t ty k) :
    ∃ v, (do loadVar ty (← asAddr (a.tmps.getD t undef)) : Sem Value).run P w = .ok v w ∧ TagOk G v (.agg ((cs.drop off).take ti.size)) (aggT tg off ti.size) := by
  simp only [cellE, hs, hti, hob, optE, ha] at h
  obtain ⟨⟨hpos, hle⟩, _⟩ := h
  have hf := hT _ _ hti
  have r1 := (hst.rep (.slot t)).1
  rw [hs] at r1
  have hobj := hst.rep (.obj id)
  simp only [RepL, hob] at hobj
  generalize hv : a.tmps.getD t undef = vx at *
  cases r1 with
  | ptr _ _ _ g' hι =>
  obtain ⟨gg, i1, i2, i3, vals, fz, i4, i5, i6, i7⟩ := hobj.resolve_left (by rintro ⟨rfl, _⟩; simp at hle; omega)
  rw [i1] at hι
  injection hι with hι
  subst hι
  have hsz : cs.length ≤ vals.toList.length := by simpa using i6
  have hl : ((vals.toList.drop off).take ti.size).length = ti.size := by simp; omega
  refine ⟨.agg ((vals.toList.drop off).take ti.size).toArray, ?_, aggT_ok (.inr ⟨_, rfl, fun j => ⟨fun sz hd => absurd hd (encT_dg _ _ _ _).1, fun t' c u hd hc hu => ?_⟩⟩)⟩
  · have hload := run_loadCells_list (P := P) w ⟨gg, off, none⟩ ((vals.toList.drop off).take ti.size) (fun j v hj => by
      rw [List.getElem?_take] at hj
      split at hj
      · rw [List.getElem?_drop] at hj
        rw [add_plain]
        simpa [World.cell?, i4] using hj
      · cases hj)
    rw [hl] at hload
    simp only [asAddr, Sem.run_bind, Sem.run_pure, Result.andThen_ok, loadVar, hf.run_agg, ha, if_true, hf.run_size, hload]
  · have hu : ((vals.toList.drop off).take ti.size).toArray[j]? = some u := hu
    rw [List.getElem?_toArray, List.getElem?_take] at hu
    rw [List.getElem?_take] at hc
    split at hc
    · rename_i hjs
      rw [if_pos hjs, List.getElem?_drop, Array.getElem?_toList] at hu
      rw [List.getElem?_drop] at hc
      obtain ⟨u', u1, u2, u3, u4⟩ := i7 _ _ hc
      rw [hu] at u1
      injection u1 with u1
      subst u1
      rw [(encT_dg _ _ _ _).2 t' hd] at u4
      rcases u4 with u4 | ⟨cs5, h6, _⟩
      · exact u4
      · exact (agg_noOne (h6 ▸ u3) u2).elim
    · cases hc
theorem resE_ok (hT : TOk P T) (hst : Conc E B G w a st) : ∀ (rs : List ResultVar) (k : List AV → Prop), resE T st rs k → ∃ l, k l ∧ ∃ vs : List Value, (rs.mapM (resV a.tmps)).run P w = .ok vs w ∧ vs.length = l.length ∧ ∀ (i : Nat) (v : Value) (c : AV), vs[i]? = some v → l[i]? = some c → Rep G.F w G.ι v c := by
  intro rs
  induction rs with
  | nil => intro k h; exact ⟨[], h, [], by simp, rfl, by simp⟩
  | cons r rs ih =>
    intro k h
    cases r with
    | tmp t =>
      obtain ⟨l, hk, vs, hrun, hl, hr⟩ := ih _ h
      refine ⟨_, hk, a.tmps.getD t undef :: vs, ?_, by simp [hl], fun i v c hv hc => ?_⟩
      · simp only [List.mapM_cons, resV, Sem.run_bind, Sem.run_pure, Result.andThen_ok, hrun]
      · cases i with
        | zero =>
          simp only [List.getElem?_cons_zero, Option.some.injEq] at hv hc
          subst hv hc
          exact (hst.rep (.slot t)).1
        | succ i => exact hr i v c (by simpa using hv) (by simpa using hc)
    | cell b ty =>
      obtain ⟨x, h, v0, hrun0, hr0⟩ := cellE_ok hT hst h
      obtain ⟨l, hk, vs, hrun, hl, hr⟩ := ih _ h
      refine ⟨_, hk, v0 :: vs, ?_, by simp [hl], fun i v c hv hc => ?_⟩
      · simp only [List.mapM_cons, resV, Sem.run_bind, Sem.run_pure, Result.andThen_ok, hrun]
        simp only [Sem.run_bind] at hrun0
        rw [hrun0]
        simp only [Result.andThen_ok, hrun]
      · cases i with
        | zero =>
          simp only [List.getElem?_cons_zero, Option.some.injEq] at hv hc
          subst hv hc
          exact hr0
        | succ i => exact hr i v c (by simpa using hv) (by simpa using hc)
end
inductive Frz (H : List AObj) : AV → AV → Prop
  | pure (a : AV) (h : Pu a) : Frz H a a
  | ptr (id off : Nat) (t : TypeId) (cs : List AV) (tg : List (Nat × Nat)) (cs' : List AV) (h : H[id]? = some (.cells t cs tg)) (hl : cs'.length = cs.length - off) (hne : 0 < cs'.length)
      (hc : ∀ (j : Nat) (c c' : AV), cs[off + j]? = some c → cs'[j]? = some c' → Frz H c c') : Frz H (.ptr id off) (.iptr cs')
  | row (id off len : Nat) (t : TypeId) (cs : List AV) (tg : List (Nat × Nat)) (sz : Nat) (xs : List AV) {szr : Nat} (h : H[id]? = some (.cells t cs tg)) (hl : xs.length = len) (hsz : ∀ e, e ∈ xs → e.cells.length = sz) (hle : off + len * sz ≤ cs.length) (hs : 0 < sz)
      (hc : ∀ (i : Nat) (e : AV) (j : Nat) (c c' : AV), xs[i]? = some e → e.cells[j]? = some c' → cs[off + (i * sz + j)]? = some c → Frz H c c') : Frz H (.row id off len szr) (.list sz xs)
  | fn (f : FuncId) (a b a' b' : List AV) (hl : a'.length = a.length) (hl' : b'.length = b.length) (ha : ∀ (j : Nat) (c c' : AV), a[j]? = some c → a'[j]? = some c' → Frz H c c') (hb : ∀ (j : Nat) (c c' : AV), b[j]? = some c → b'[j]? = some c' → Frz H c c') : Frz H (.fn f a b) (.fn f a' b')
  | agg (a a' : List AV) (hl : a'.length = a.length) (ha : ∀ (j : Nat) (c c' : AV), a[j]? = some c → a'[j]? = some c' → Frz H c c') : Frz H (.agg a) (.agg a')
  | tup (a a' : List AV) (hl : a'.length = a.length) (ha : ∀ (j : Nat) (c c' : AV), a[j]? = some c → a'[j]? = some c' → Frz H c c') : Frz H (.tup a) (.tup a')
def frzF (G : Gh) (H : List AObj) (b o : Nat) : Prop := G.F b o ∨ ∃ id t cs tg, H[id]? = some (.cells t cs tg) ∧ G.ι id = some b ∧ o < cs.length
theorem Frz.rep' {G : Gh} {w : World} {H : List AObj} (hO : ∀ (i : Nat) (t : TypeId) (cs : List AV) (tg : List (Nat × Nat)), H[i]? = some (.cells t cs tg) → RepObj G w i (some (.cells t cs tg))) {x x' : AV} (h : Frz H x x') : ∀ v, Rep G.F w G.ι v x → Rep (frzF G H) w (fun _ => none) v x' := by
  induction h with
  | pure x hp => intro v hr; exact (hr.pure hp (fun _ => none)).mono (fun _ _ h => .inl h) (fun _ _ _ => rfl) _ (fun _ _ h => by cases h)
  | ptr id off t cs tg cs' hid hl hne hc ih =>
    intro v hr
    cases hr with
    | ptr _ _ _ g hι =>
    have hobj := hO _ _ _ _ hid
    obtain ⟨g', i1, i2, i3, vals, fz, i4, i5, i6, i7⟩ := hobj.resolve_left (by rintro ⟨h0, _⟩; rw [h0] at hl; simp only [List.length_nil] at hl; omega)
    rw [i1] at hι
    injection hι with hι
    subst hι
    refine .iptr _ g' off cs' (fun j => vals.getD (off + j) undef) (fun j hj => .inr ⟨id, t, cs, tg, hid, i1, by omega⟩) (fun j c' hc' => ?_) (fun j c' hc' => ?_)
    all_goals
      have hjl := (List.getElem?_eq_some_iff.1 hc').1
      have hcj : cs[off + j]? = some cs[off + j] := List.getElem?_eq_getElem (by omega)
      obtain ⟨u, u1, u2, u3⟩ := i7 _ _ hcj
      have hget : vals.getD (off + j) undef = u := by rw [Array.getD_eq_getD_getElem?, u1]; rfl
    · rw [hget, cell_at i4]; exact ⟨u1, u2⟩
    · simp only [hget]; exact ih j _ c' hcj hc' u u3.1
  | row id off len t cs tg sz xs hid hl hsz hle hs hc ih =>
    intro v hr
    cases hr with
    | row0 _ _ _ _ a0 =>
      have : xs = [] := List.eq_nil_of_length_eq_zero hl
      subst this
      exact .empty _ _ _ _ (Nat.zero_le _)
    | row _ _ _ _ cap _ g hι hcap hm =>
    have hobj := hO _ _ _ _ hid
    by_cases hlen : len = 0
    · subst hlen
      have : xs = [] := List.eq_nil_of_length_eq_zero hl
      subst this
      exact .empty _ _ _ _ hm
    have hpos : 0 < len * sz := Nat.mul_pos (by omega) hs
    obtain ⟨g', i1, i2, i3, vals, fz, i4, i5, i6, i7⟩ := hobj.resolve_left (by rintro ⟨h0, _⟩; rw [h0] at hle; simp only [List.length_nil] at hle; omega)
    rw [i1] at hι
    injection hι with hι
    subst hι
    refine Rep.list_of hl.symm hcap hm hsz (fun j hj => .inr ⟨id, t, cs, tg, hid, i1, by rw [hl] at hj; omega⟩) fun i e j c' hi hj => ?_
    have hil := (List.getElem?_eq_some_iff.1 hi).1
    have hjl : j < sz := by rw [← hsz e (List.mem_of_getElem? hi)]; exact (List.getElem?_eq_some_iff.1 hj).1
    have hlt : i * sz + j < len * sz := by
      have h1 : (i + 1) * sz ≤ len * sz := Nat.mul_le_mul_right _ (by omega)
      rw [Nat.add_mul] at h1
      omega
    have hcj : cs[off + (i * sz + j)]? = some cs[off + (i * sz + j)] := List.getElem?_eq_getElem (by omega)
    obtain ⟨u, u1, u2, u3⟩ := i7 _ _ hcj
    exact ⟨u, by rw [cell_at i4]; exact u1, u2, ih i e j _ c' hi hj hcj u u3.1⟩
  | fn f a b a' b' hl hl' ha hb iha ihb =>
    intro v hr
    cases hr with
    | fn _ _ fs cs _ _ k1 k2 r1 r2 =>
    refine .fn _ _ _ _ _ _ (by omega) (by omega) (fun i v c hv hc => ?_) (fun i v c hv hc => ?_)
    · have hil := (List.getElem?_eq_some_iff.1 hc).1
      have hai : a[i]? = some a[i] := List.getElem?_eq_getElem (by omega)
      exact iha i _ c hai hc v (r1 i v _ hv hai)
    · have hil := (List.getElem?_eq_some_iff.1 hc).1
      have hai : b[i]? = some b[i] := List.getElem?_eq_getElem (by omega)
      exact ihb i _ c hai hc v (r2 i v _ hv hai)
  | agg a a' hl ha iha =>
    intro v hr
    cases hr with
    | agg _ vs _ k1 ko r1 =>
    refine .agg _ _ _ (by omega) ko (fun i v c hv hc => ?_)
    have hil := (List.getElem?_eq_some_iff.1 hc).1
    have hai : a[i]? = some a[i] := List.getElem?_eq_getElem (by omega)
    exact iha i _ c hai hc v (r1 i v _ hv hai)
  | tup a a' hl ha iha =>
    intro v hr
    cases hr with
    | tup _ vs _ k1 r1 =>
    refine .tup _ _ _ (by omega) (fun i v c hv hc => ?_)
    have hil := (List.getElem?_eq_some_iff.1 hc).1
    have hai : a[i]? = some a[i] := List.getElem?_eq_getElem (by omega)
    exact iha i _ c hai hc v (r1 i v _ hv hai)
theorem Frz.rep {E : Env} {B : Base} {G : Gh} {w : World} {a : Act} {st : St} (hst : Conc E B G w a st) {x x' : AV} (h : Frz st.H x x') : ∀ v, Rep G.F w G.ι v x → Rep (frzF G st.H) w (fun _ => none) v x' :=
  Frz.rep' (fun i t cs tg hi => by have := hst.rep (.obj i); simp only [RepL, hi] at this; exact this) h
def AV.puR : AV → Bool
  | .tup cs => cs.all AV.puD
  | a => a.puD
theorem AV.puR_ok {a : AV} (h : a.puR = true) : Pu a := by
  unfold AV.puR at h
  split at h
  · exact .tup _ fun c hc => AV.puD_ok (List.all_eq_true.1 h c hc)
  · exact AV.puD_ok h
inductive RetE (T : Tab) (rs : List ResultVar) (st : St) (Q : AV → Bool → Prop) : Prop
  | plain (h : resE T st rs fun l => (packR l).puR = true ∧ Q (packR l) false) : RetE T rs st Q
  | frz (h : resE T st rs fun l => ∃ r, Frz st.H (packR l) r ∧ Q r false) : RetE T rs st Q
  | own (t i : Nat) (hr : rs = [.tmp t]) (hg : st.g t = some i) (hk : (st.k[i]?.any (Nat.blt 0)) = true) (hs : (st.s t).isList = true) (h : Q (st.s t) true) : RetE T rs st Q
def St.init (args : List AV) : St := { s := fun t => args.getD t .any, g := fun _ => none, H := [], k := [] }
end Go.Pm
