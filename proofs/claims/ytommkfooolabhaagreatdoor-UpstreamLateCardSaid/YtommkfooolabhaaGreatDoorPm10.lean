/-
  Generic: alloc, box, slices written out, bytes of a text, stores, append, slices without spare room.
-/
import Derived.Test.YtommkfooolabhaaGreatDoorPm9
namespace Go.Pm
open Go Go.RowKit
set_option linter.unusedVariables false
set_option linter.unusedSimpArgs false
section
variable {E : Env} {P : Program} {T : Tab} {st : St} {o : Oper} {k : KH}
theorem RepSlot.ofRep {G : Gh} {w : World} {v : Value} {a : AV} (h : Rep G.F w G.ι v a) : RepSlot G w v a none := ⟨h, trivial⟩
def nilT : List AV → Nat → Nat → List (Nat × Nat)
  | [], _, _ => []
  | c :: cs, j, i => match c with
    | .list _ [] => (j, i) :: nilT cs (j + 1) (i + 1)
    | _ => nilT cs (j + 1) i
def nilN : List AV → Nat
  | [] => 0
  | c :: cs => match c with
    | .list _ [] => nilN cs + 1
    | _ => nilN cs
theorem nilT_at : ∀ (cs : List AV) (j0 i0 j i : Nat), (nilT cs j0 i0).lookup j = some i → j0 ≤ j ∧ (∃ sz, cs[j - j0]? = some (.list sz [])) ∧ i0 ≤ i ∧ i < i0 + nilN cs
  | [], _, _, _, _, h => by cases h
  | c :: cs, j0, i0, j, i, h => by
    have step : ∀ n, (nilT cs (j0 + 1) n).lookup j = some i → j0 ≤ j ∧ (∃ sz, (c :: cs)[j - j0]? = some (.list sz [])) ∧ n ≤ i ∧ i < n + nilN cs := fun n hn => by
      obtain ⟨h1, ⟨sz, h2⟩, h3, h4⟩ := nilT_at cs (j0 + 1) n j i hn
      refine ⟨by omega, ⟨sz, ?_⟩, h3, h4⟩
      rw [show j - j0 = (j - (j0 + 1)) + 1 by omega, List.getElem?_cons_succ]; exact h2
    unfold nilT at h
    split at h
    · rename_i sz
      rw [List.lookup_cons] at h
      cases hb : (j == j0) with
      | true =>
        rw [hb] at h
        have : j = j0 := eq_of_beq hb
        subst this
        injection h with h
        subst h
        refine ⟨Nat.le_refl _, ⟨sz, by rw [Nat.sub_self]; rfl⟩, Nat.le_refl _, ?_⟩
        simp only [nilN]; omega
      | false =>
        rw [hb] at h
        obtain ⟨h1, h2, h3, h4⟩ := step _ h
        refine ⟨h1, h2, by omega, ?_⟩
        simp only [nilN]; omega
    · rename_i hne
      obtain ⟨h1, h2, h3, h4⟩ := step _ h
      refine ⟨h1, h2, h3, ?_⟩
      have : nilN (c :: cs) = nilN cs := by
        clear h1 h2 h3 h4 step h
        conv => lhs; unfold nilN
        split
        · rename_i sz; exact absurd rfl (hne sz)
        · rfl
      rw [this]; exact h4
def toksFrom : Nat → Nat → List Loc
  | _, 0 => []
  | i, n + 1 => .tok i :: toksFrom (i + 1) n
theorem toksFrom_mem {l : Loc} : ∀ {n i : Nat}, l ∈ toksFrom i n ↔ ∃ x, l = .tok x ∧ i ≤ x ∧ x < i + n
  | 0, i => by
    constructor
    · intro h; cases h
    · rintro ⟨x, _, h1, h2⟩; omega
  | n + 1, i => by
    rw [toksFrom, List.mem_cons, toksFrom_mem]
    constructor
    · rintro (rfl | ⟨x, rfl, h1, h2⟩)
      · exact ⟨i, rfl, Nat.le_refl _, by omega⟩
      · exact ⟨x, rfl, by omega, by omega⟩
    · rintro ⟨x, rfl, h1, h2⟩
      by_cases hx : x = i
      · subst hx; exact .inl rfl
      · exact .inr ⟨x, rfl, by omega, by omega⟩
def hide : Nat → List AV → List AV
  | _, [] => []
  | m, c :: cs => (bif Nat.beq (m % 64) 1 then c else .nilp) :: hide (m / 64) cs
theorem hide_len : ∀ (cs : List AV) (m : Nat), (hide m cs).length = cs.length
  | [], _ => rfl
  | c :: cs, m => by rw [hide, List.length_cons, hide_len cs, List.length_cons]
theorem hide_at : ∀ (cs : List AV) (m j sz : Nat), (hide m cs)[j]? = some (.list sz []) → dg m j = 1 ∧ cs[j]? = some (.list sz [])
  | [], _, _, _, h => by simp [hide] at h
  | c :: cs, m, 0, sz, h => by
    rw [hide, List.getElem?_cons_zero] at h
    cases hb : Nat.beq (m % 64) 1 with
    | true =>
      rw [hb, cond_true] at h
      rw [dg_zero]
      exact ⟨Nat.eq_of_beq_eq_true hb, h⟩
    | false => rw [hb] at h; cases h
  | c :: cs, m, j + 1, sz, h => by
    rw [hide, List.getElem?_cons_succ] at h
    rw [dg_succ]
    exact hide_at cs (m / 64) j sz h
def isC : Operand → Bool
  | .const _ => true
  | _ => false
def hsV (st : St) (v : Operand) (x : AV) : List AV :=
  match isC v with
  | true => x.cells
  | false => match x.isAgg, tgV st v with
    | true, some m => hide m x.cells
    | _, _ => []
theorem hsV_sub {st : St} {v : Operand} {x : AV} {j sz : Nat} (h : (hsV st v x)[j]? = some (.list sz [])) : x.cells[j]? = some (.list sz []) := by
  unfold hsV at h
  split at h
  · exact h
  · split at h
    · exact (hide_at _ _ _ _ h).2
    · simp at h
theorem lookup_app {α : Type} (j : Nat) : ∀ (l m : List (Nat × α)), (l ++ m).lookup j = match l.lookup j with | some x => some x | none => m.lookup j
  | [], m => rfl
  | (a, b) :: l, m => by
    rw [List.cons_append, List.lookup_cons, List.lookup_cons, lookup_app j l m]
    cases (j == a) <;> rfl
def tokD : Nat → Nat → Nat → List (Nat × Nat)
  | 0, _, _ => []
  | n + 1, off, m => match m % 64 with
    | t + 2 => (off, t) :: tokD n (off + 1) (m / 64)
    | _ => tokD n (off + 1) (m / 64)
theorem tokD_at : ∀ (n off m j t : Nat), (tokD n off m).lookup j = some t → off ≤ j ∧ j < off + n ∧ dg m (j - off) = t + 2
  | 0, _, _, _, _, h => by cases h
  | n + 1, off, m, j, t, h => by
    have step : (tokD n (off + 1) (m / 64)).lookup j = some t → off ≤ j ∧ j < off + (n + 1) ∧ dg m (j - off) = t + 2 := fun hn => by
      obtain ⟨h1, h2, h3⟩ := tokD_at n (off + 1) (m / 64) j t hn
      refine ⟨by omega, by omega, ?_⟩
      rw [show j - off = (j - (off + 1)) + 1 by omega, dg_succ]; exact h3
    unfold tokD at h
    split at h
    · rename_i t' ht
      rw [List.lookup_cons] at h
      cases hb : (j == off) with
      | true =>
        rw [hb] at h
        have : j = off := eq_of_beq hb
        subst this
        injection h with h
        subst h
        refine ⟨Nat.le_refl _, by omega, ?_⟩
        rw [Nat.sub_self, dg_zero, ht]
      | false => rw [hb] at h; exact step h
    · exact step h
def tokV (st : St) (v : Operand) (x : AV) (off : Nat) : List (Nat × Nat) :=
  match isC v with
  | true => []
  | false => match x.isAgg, tgV st v with
    | true, some m => tokD x.cells.length off m
    | _, _ => []
theorem tokV_in {st : St} {v : Operand} {x : AV} {off j t : Nat} (h : (tokV st v x off).lookup j = some t) : off ≤ j ∧ j < off + x.cells.length := by
  unfold tokV at h
  split at h
  · cases h
  · split at h
    · obtain ⟨h1, h2, _⟩ := tokD_at _ _ _ _ _ h; exact ⟨h1, h2⟩
    · cases h
theorem tokV_ok {T : Tab} {st : St} {ty : TypeId} {v : Operand} {x' : AV} {G : Gh} {a : Act} {off : Nat} (hx2 : (∀ c w, evV T st ty v ≠ .cond c w) → x' = evV T st ty v)
    (hs : TagOk G (a.eval v) (evV T st ty v) (tgV st v)) {j t : Nat} {u : Value} {c : AV} (hu : (a.eval v).cells[j]? = some u) (hc : x'.cells[j]? = some c) (h : (tokV st v x' off).lookup (off + j) = some t) : LTag G u c t := by
  unfold tokV at h
  split at h
  · cases h
  · split at h
    · rename_i m hag ht
      obtain ⟨_, _, h3⟩ := tokD_at _ _ _ _ _ h
      rw [show off + j - off = j by omega] at h3
      rw [ht] at hs
      rcases hs with ⟨sz', xs, n, cap, g2, lo, hi2, ad2, h6, _⟩ | ⟨cs', h6, h7⟩
      · rw [hx2 (fun c v e => by rw [e] at h6; cases h6), h6] at hag; cases hag
      · rw [hx2 (fun c v e => by rw [e] at h6; cases h6), h6] at hc
        exact (h7 j).2 t c u h3 hc hu
    · cases h
theorem HFact.newObjT {t : TypeId} {cs hs : List AV} (tk : List (Nat × Nat)) {r : AV} {N : List Loc} (hh : ∀ (j sz : Nat), hs[j]? = some (.list sz []) → cs[j]? = some (.list sz []))
    (h : ∀ (B : Base) (G : Gh) (w : World) (a : Act), Good E B G w → (∀ l, l ∈ N → RepL G w a l st) → ∃ v vals fz w', (execOp a.eval o).run P w = .ok (.value v) w' ∧ Grown1 w w' (.cells vals t fz) ∧
      (∀ i, i < vals.size → ¬ inFz fz i) ∧ cs.length ≤ vals.size ∧ (∀ (j : Nat) (c : AV), cs[j]? = some c → ∃ u, vals[j]? = some u ∧ u.oneCell' = true ∧ Rep G.F w G.ι u c ∧ (∀ sz, hs[j]? = some (.list sz []) → u = .slice none 0 0) ∧ ∀ t, tk.lookup j = some t → LTag G u c t) ∧
      ∀ (F : Nat → Nat → Prop) (w2 : World) (ι : Nat → Option Nat), ι st.H.length = some w.heap.size → Rep F w2 ι v r) :
    HFact E P st o r none (st.H ++ [.cells t cs (tk ++ nilT hs 0 st.k.length)]) (st.k ++ List.replicate (nilN hs) 2) (N ++ (.obj st.H.length :: toksFrom st.k.length (nilN hs))) (.obj st.H.length :: toksFrom st.k.length (nilN hs)) := by
  refine ⟨fun t ht => ?_, fun l hl => ?_, fun B G w a hg hN K Q hK => ?_⟩
  · rcases List.mem_cons.1 ht with h | h
    · cases h
    · obtain ⟨x, hx, _⟩ := toksFrom_mem.1 h; cases hx
  · cases l with
    | slot => trivial
    | obj i => exact app_same _ _ (fun e => hl (by simp [e]))
    | tok i =>
      show st.k[i]? = _
      rcases Nat.lt_or_ge i st.k.length with h1 | h1
      · rw [List.getElem?_append_left h1]
      · rw [List.getElem?_eq_none h1, List.getElem?_eq_none]
        rw [List.length_append, List.length_replicate]
        rcases Nat.lt_or_ge i (st.k.length + nilN hs) with h2 | h2
        · exact absurd (List.mem_cons_of_mem _ (toksFrom_mem.2 ⟨i, rfl, h1, h2⟩)) hl
        · exact h2
  · obtain ⟨v, vals, fz, w', hrun, hgr, hfz, hl, hr, hv⟩ := h B G w a hg (fun l hl => hN l (List.mem_append_left _ hl))
    have hid : G.ι st.H.length = none := by
      have := hN (.obj st.H.length) (by simp)
      simp only [RepL] at this
      rw [List.getElem?_eq_none (Nat.le_refl _)] at this
      exact this
    have hkn : ∀ x, st.k.length ≤ x → x < st.k.length + nilN hs → G.κ x = none := fun x h1 h2 => by
      have := hN (.tok x) (List.mem_append_right _ (List.mem_cons_of_mem _ (toksFrom_mem.2 ⟨x, rfl, h1, h2⟩)))
      simp only [RepL] at this
      rw [List.getElem?_eq_none h1] at this
      exact this
    let κ2 : Nat → Option (Nat × Nat × Nat) := fun x => if st.k.length ≤ x ∧ x < st.k.length + nilN hs then some (0, 0, 0) else G.κ x
    let G2 : Gh := { G with κ := κ2 }
    have hκ2 : ∀ x, ¬ (st.k.length ≤ x ∧ x < st.k.length + nilN hs) → κ2 x = G.κ x := fun x hx => if_neg hx
    have hx : Ext G w G2 w := ⟨fun _ _ h => h, fun _ _ h => h, fun i r hi => by
      have : ¬ (st.k.length ≤ i ∧ i < st.k.length + nilN hs) := fun e => by rw [hkn i e.1 e.2] at hi; cases hi
      show κ2 i = _
      rw [hκ2 i this]; exact hi, fun _ _ _ => rfl, fun _ _ h => h⟩
    have hg2 : Good E B G2 w := ⟨hg.fin, hg.own, hg.size, hg.old, hg.keep, hg.new, hg.os, hg.tape, hg.output, hg.glob, hg.gb, hg.ids, fun i r hi => ⟨(hg.toks i r hi).1, hx.κ _ _ (hg.toks i r hi).2⟩, hg.grow⟩
    obtain ⟨g1, g2, g3, g4⟩ := new_obj (tg := tk ++ nilT hs 0 st.k.length) hg2 (id := st.H.length) hid hgr hfz hl (fun j c hc => by
      obtain ⟨u, u1, u2, u3, u4, u5⟩ := hr j c hc
      refine ⟨u, u1, u2, u3, ?_⟩
      rw [lookup_app]
      cases htk : tk.lookup j with
      | some t => exact .inl ((u5 t htk).mono fun r hr => hx.κ _ _ hr)
      | none =>
      simp only
      cases hlk : (nilT hs 0 st.k.length).lookup j with
      | none => trivial
      | some i =>
        obtain ⟨_, ⟨sz, h2⟩, h3, h4⟩ := nilT_at _ _ _ _ _ hlk
        rw [Nat.sub_zero] at h2
        have h5 := hh j sz h2
        rw [hc] at h5
        injection h5 with h5
        exact .inl ⟨sz, [], 0, 0, 0, 0, 0, none, h5, u4 sz h2, if_pos ⟨h3, h4⟩, rfl, Nat.le_refl _, Nat.zero_le _, .inl rfl⟩)
    unfold Oper.wp
    rw [hrun]
    refine hK _ _ _ g1 ⟨hx.trans g2.ext, fun i c hi hc => ?_, fun i c hi hc => ?_⟩ ⟨hv _ _ _ g4, trivial⟩ fun l hl => ?_
    · exact g2.obj i c (fun hm => hi (by simp only [List.mem_singleton] at hm; rw [hm]; exact List.mem_cons_self ..)) (hc.keep hx (fun h => h) (fun g h => ⟨h, rfl, fun _ h => h⟩))
    · refine g2.tok i c (by simp) (hc.keep hx (fun hn => ?_) (fun g h => ⟨h, rfl, fun _ h => h⟩))
      show κ2 i = none
      rw [hκ2 i fun e => hi (List.mem_cons_of_mem _ (toksFrom_mem.2 ⟨i, rfl, e.1, e.2⟩))]; exact hn
    · rcases List.mem_cons.1 hl with rfl | hl
      · simp only [RepH]
        rw [List.getElem?_append_right (Nat.le_refl _), Nat.sub_self]
        exact g3
      · obtain ⟨x, rfl, h1, h2⟩ := toksFrom_mem.1 hl
        simp only [RepH]
        rw [List.getElem?_append_right h1, List.getElem?_replicate, if_pos (by omega)]
        exact ⟨0, 0, if_pos ⟨h1, h2⟩⟩
def evAlloc (T : Tab) (st : St) (ty : TypeId) (k : KH) : Prop :=
  match T.at ty with
  | none => False
  | some ti => ti.zero.flatB = true ∧ k (.ptr st.H.length 0) none (st.H ++ [.cells ty ti.zero.cells (nilT ti.zero.cells 0 st.k.length)]) (st.k ++ List.replicate (nilN ti.zero.cells) 2) (.obj st.H.length :: toksFrom st.k.length (nilN ti.zero.cells)) (.obj st.H.length :: toksFrom st.k.length (nilN ti.zero.cells))
theorem evAlloc_ok (hT : TOk P T) {ty : TypeId} (ho : o.op = .alloc ty) (h : evAlloc T st ty k) : YldH E P st o k := by
  unfold evAlloc at h
  split at h
  · exact h.elim
  · rename_i ti hti
    have hf := hT _ _ hti
    obtain ⟨hfl, h⟩ := h
    refine ⟨_, _, _, _, _, _, h, HFact.newObjT [] (N := []) (fun _ _ h => h) fun B G w a hg _ => ?_⟩
    have hr := rep_cells (repz_ok hf.zero G.F w G.ι) hfl
    refine ⟨.pointer (some ⟨w.heap.size, 0, none⟩), ti.zv.cells, (0, 0), w.alloc (.cells ti.zv.cells ty), ?_, grown1_alloc _ _, fun i _ h => by simp [inFz] at h, by rw [hr.1]; exact Nat.le_refl _, fun j c hc => ?_, fun F w2 ι hι => .ptr _ _ _ _ hι⟩
    · simp [execOp, ho, Instr.alloc, hf.run_zero, newVar, newRow]
    · obtain ⟨u, u1, u2, u3⟩ := hr.2 j c hc
      exact ⟨u, u1, u2, u3, fun sz e => repz_nil hf.zero j u sz u1 e, fun t ht => by cases ht⟩
theorem evC_nocond (T : Tab) (ty : TypeId) (v : Value) (hc : repz v (evC T ty v) = true) : ∀ b a, evC T ty v ≠ .cond b a := by
  intro b a e
  rw [e] at hc
  cases v <;> simp_all [repz, rep1]
theorem hsV_nil {T : Tab} {st : St} {ty : TypeId} {v : Operand} {x' : AV} {G : Gh} {a : Act} (hc : ∀ vc, v = .const vc → repz vc (evC T ty vc) = true) (hx2 : (∀ c w, evV T st ty v ≠ .cond c w) → x' = evV T st ty v)
    (hs : TagOk G (a.eval v) (evV T st ty v) (tgV st v)) {j sz : Nat} {u : Value} (hu : (a.eval v).cells[j]? = some u) (h : (hsV st v x')[j]? = some (.list sz [])) : u = .slice none 0 0 := by
  cases v with
  | const vc =>
    have hcv := hc vc rfl
    have e : x' = evC T ty vc := hx2 (evC_nocond T ty vc hcv)
    subst e
    exact repz_nil hcv j u sz hu h
  | tmp t =>
    unfold hsV at h
    simp only [isC] at h
    split at h
    · rename_i m hag ht
      rw [ht] at hs
      obtain ⟨hm, hj⟩ := hide_at _ _ _ _ h
      rcases hs with ⟨sz', xs, n, cap, g2, lo, hi2, ad2, h6, _⟩ | ⟨cs', h6, h7⟩
      · rw [hx2 (fun c v e => by rw [e] at h6; cases h6), h6] at hag; cases hag
      · rw [hx2 (fun c v e => by rw [e] at h6; cases h6), h6] at hj
        have h8 := (h7 j).1 sz hm hj
        rw [hu] at h8
        exact Option.some.inj h8
    · simp at h
  | global g =>
    unfold hsV at h
    simp only [isC] at h
    split at h
    · rename_i m hag ht; cases ht
    · simp at h
  | func f =>
    unfold hsV at h
    simp only [isC] at h
    split at h
    · rename_i m hag ht; cases ht
    · simp at h
def evBox (T : Tab) (st : St) (ty : TypeId) (x : Operand) (k : KH) : Prop :=
  unc true (evV T st ty x) fun a => a.flatB = true ∧ ∃ tg n, (tokV st x a 0 ++ nilT (hsV st x a) 0 st.k.length = tg ∧ nilN (hsV st x a) = n) ∧ k (.ptr st.H.length 0) none (st.H ++ [.cells ty a.cells tg]) (st.k ++ List.replicate n 2) (opN x ++ (.obj st.H.length :: toksFrom st.k.length n)) (.obj st.H.length :: toksFrom st.k.length n)
theorem evBox_ok {ty : TypeId} {x : Operand} (hc : constOk T o = true) (ho : o.op = .box ty x) (h : evBox T st ty x k) : YldH E P st o k := by
  unfold evBox at h
  obtain ⟨a', h, ha', hsame⟩ := unc_ok' h
  have ha' := ha' rfl
  obtain ⟨hfl, tgq, nq, ⟨rfl, rfl⟩, h⟩ := h
  refine ⟨_, _, _, _, _, _, h, HFact.newObjT (tokV st x a' 0) (N := opN x) (fun j sz h => hsV_sub h) fun B G w a hg hN => ?_⟩
  have hs := evV_ok (T := T) hg (constOk.at hc (ty := ty) (x := x) (by simp [opcs, ho])) hN
  have hrep := ha' _ _ _ _ hs.1
  have hr := rep_cells hrep hfl
  refine ⟨.pointer (some ⟨w.heap.size, 0, none⟩), (a.eval x).cells, (0, 0), w.alloc (.cells (a.eval x).cells ty), ?_, grown1_alloc _ _, fun i _ h => by simp [inFz] at h, by rw [hr.1]; exact Nat.le_refl _, fun j c hc' => ?_, fun F w2 ι hι => .ptr _ _ _ _ hι⟩
  · simp [execOp, ho, Instr.box, newVar, newRow]
  · obtain ⟨u, u1, u2, u3⟩ := hr.2 j c hc'
    exact ⟨u, u1, u2, u3, fun sz e => hsV_nil (T := T) (ty := ty) (fun vc e => by subst e; exact constOk.at hc (ty := ty) (x := .const vc) (by simp [opcs, ho])) hsame hs.2 u1 e, fun t ht => tokV_ok (off := 0) hsame hs.2 u1 hc' (by rw [Nat.zero_add]; exact ht)⟩
def AV.puB : AV → Bool
  | .bool _ | .int _ _ | .str _ | .list _ _ | .iptr _ | .nilp | .nilf | .nili | .glob _ => true
  | .fn _ [] [] => true
  | .iface _ v => AV.puB v
  | _ => false
def AV.puL (a : AV) : Bool := a.cells.all AV.puB
theorem AV.puB_ok : ∀ {a : AV}, a.puB = true → Pu a
  | .bool _, _ => .bool _
  | .int _ _, _ => .int _ _
  | .str _, _ => .str _
  | .list _ _, _ => .list _ _
  | .iptr _, _ => .iptr _
  | .nilp, _ => .nilp
  | .nilf, _ => .nilf
  | .nili, _ => .nili
  | .glob _, _ => .glob _
  | .fn _ [] [], _ => .fn _ _ _ (by simp) (by simp)
  | .iface _ v, h => .iface _ _ (AV.puB_ok (a := v) (by simpa [AV.puB] using h))
def elemsE (T : Tab) (st : St) (sz : Nat) : Nat → List (Nat × Operand) → (List AV → Prop) → Prop
  | _, [], k => k []
  | n, (i, x) :: ps, k => unc true (evV T st 0 x) fun a => (Nat.beq i n = true ∧ a.flatB = true ∧ a.cells.length = sz ∧ a.puL = true) ∧ elemsE T st sz (n + 1) ps fun as => k (a :: as)
theorem elemsE_ok {sz : Nat} : ∀ (ps : List (Nat × Operand)) (n : Nat) (k : List AV → Prop), elemsE T st sz n ps k → ∃ as, k as ∧ as.length = ps.length ∧ (∀ e, e ∈ as → e.cells.length = sz) ∧
    (∀ (B : Base) (G : Gh) (w : World) (a : Act), Good E B G w → (∀ p, p ∈ ps → cOk T 0 p.2 = true) → (∀ l, l ∈ ps.flatMap (fun p => opN p.2) → RepL G w a l st) →
      ∀ (vs : Array Value) (pre rest : List AV), pre.length = n * sz → rest.length = ps.length * sz → RepCs G.F w (fun _ => none) vs (pre ++ rest) →
        ∃ vs', Instr.fill (fun i => some (i * sz, sz)) vs (ps.map fun p => (p.1, a.eval p.2)) = some vs' ∧ RepCs G.F w (fun _ => none) vs' (pre ++ as.flatMap AV.cells)) := by
  intro ps
  induction ps with
  | nil =>
    intro n k h
    refine ⟨[], h, rfl, by simp, fun B G w a _ _ _ vs pre rest _ hr hv => ⟨vs, rfl, ?_⟩⟩
    have : rest = [] := List.eq_nil_of_length_eq_zero (by simpa using hr)
    subst this
    simpa using hv
  | cons p ps ih =>
    intro n k h
    obtain ⟨i, x⟩ := p
    unfold elemsE at h
    obtain ⟨a', h, ha'⟩ := unc_ok h
    obtain ⟨⟨hi, h1, h2, h3⟩, h⟩ := h
    have hi' : i = n := Nat.eq_of_beq_eq_true hi
    subst hi'
    obtain ⟨as, hk, hl, hsz, has⟩ := ih _ _ h
    refine ⟨a' :: as, hk, by simp [hl], fun e he => by
      rcases List.mem_cons.1 he with rfl | he
      · exact h2
      · exact hsz e he, fun B G w a hgd hc hN vs pre rest hp hr hv => ?_⟩
    have r1 := ha' rfl _ _ _ _ (evV_ok (T := T) (ty := 0) hgd (hc (i, x) (List.mem_cons_self ..)) fun l hl => hN l (List.mem_flatMap.2 ⟨(i, x), List.mem_cons_self .., hl⟩)).1
    have r2 := rep_cells r1 h1
    have r3 : RepCs G.F w (fun _ => none) (a.eval x).cells a'.cells := ⟨r2.1, fun j c hc => by
      obtain ⟨u, u1, u2, u3⟩ := r2.2 j c hc
      exact ⟨u, u1, u2, u3.pure (AV.puB_ok (by
        simp only [AV.puL, List.all_eq_true] at h3
        exact h3 c (List.mem_of_getElem? hc))) _⟩⟩
    have hrl : rest.length = sz + ps.length * sz := by rw [hr, List.length_cons, Nat.add_mul]; omega
    have hsp : splice (pre ++ rest) (i * sz) a'.cells = (pre ++ a'.cells) ++ rest.drop sz := by
      unfold splice
      rw [← hp, List.take_left', List.drop_append, h2]
      · rw [List.drop_of_length_le (by omega : pre.length ≤ pre.length + sz)]
        simp
      · rfl
    obtain ⟨vs', e1, e2⟩ := has B G w a hgd (fun p hp => hc p (List.mem_cons_of_mem _ hp)) (fun l hl => hN l (by simp only [List.flatMap_cons, List.mem_append]; exact .inr hl)) _ (pre ++ a'.cells) (rest.drop sz)
      (by rw [List.length_append, hp, h2, Nat.add_mul]; omega) (by rw [List.length_drop]; omega) (by rw [← hsp]; exact (fill_step hv r3 (by rw [List.length_append, hp, h2]; omega)).1)
    refine ⟨vs', ?_, by simpa using e2⟩
    have hsize : ¬ ((a.eval x).cells.size ≠ sz ∨ i * sz + (a.eval x).cells.size > vs.size) := by
      rw [r2.1, h2, hv.1, List.length_append, hp]; simp; omega
    simp only [List.map_cons, Instr.fill]
    have hb : (decide ((a.eval x).cells.size ≠ sz) || decide (i * sz + (a.eval x).cells.size > vs.size)) = false := by
      simp only [not_or] at hsize
      simp only [Bool.or_eq_false_iff, decide_eq_false_iff_not]
      exact hsize
    simp only [hb, Bool.false_eq_true, if_false]
    exact e1
theorem flat_get {sz : Nat} : ∀ (xs : List AV), (∀ e, e ∈ xs → e.cells.length = sz) → ∀ (i : Nat) (e : AV) (j : Nat) (c : AV), xs[i]? = some e → e.cells[j]? = some c → (xs.flatMap AV.cells)[i * sz + j]? = some c := by
  intro xs
  induction xs with
  | nil => intro _ i e j c h; simp at h
  | cons x xs ih =>
    intro hsz i e j c hi hj
    have hx := hsz x (List.mem_cons_self ..)
    simp only [List.flatMap_cons]
    cases i with
    | zero =>
      simp only [List.getElem?_cons_zero, Option.some.injEq] at hi
      subst hi
      have := (List.getElem?_eq_some_iff.1 hj).1
      rw [Nat.zero_mul, Nat.zero_add, List.getElem?_append_left this]
      exact hj
    | succ i =>
      simp only [List.getElem?_cons_succ] at hi
      rw [List.getElem?_append_right (by rw [hx, Nat.add_mul]; omega), hx, show (i + 1) * sz + j - sz = i * sz + j by rw [Nat.add_mul]; omega]
      exact ih (fun e he => hsz e (List.mem_cons_of_mem _ he)) i e j c hi hj
theorem flat_len {sz : Nat} : ∀ (xs : List AV), (∀ e, e ∈ xs → e.cells.length = sz) → (xs.flatMap AV.cells).length = xs.length * sz
  | [], _ => by simp
  | x :: xs, h => by
    rw [List.flatMap_cons, List.length_append, h x (List.mem_cons_self ..), flat_len xs fun e he => h e (List.mem_cons_of_mem _ he), List.length_cons, Nat.add_mul]; omega
def evBuildSlice (T : Tab) (st : St) (ty : TypeId) (len : Nat) (ps : List (Nat × Operand)) (k : KH) : Prop :=
  match T.at ty with
  | none => False
  | some ti => match ti.desc with
    | .slice _ => elemsE T st ti.esz 0 ps fun xs => (Nat.beq ps.length len = true ∧ Nat.blt 0 ti.esz = true ∧ Nat.ble (len * ti.esz) 1000000 = true) ∧
        k (.list ti.esz xs) (some st.k.length) st.H (st.k ++ [2]) (ps.flatMap (fun p => opN p.2) ++ [.tok st.k.length]) [.tok st.k.length]
    | _ => False
theorem evBuildSlice_ok (hT : TOk P T) {ty : TypeId} {len : Nat} {ps : Array (Nat × Operand)} (hc : constOk T o = true) (ho : o.op = .buildSlice ty len ps) (h : evBuildSlice T st ty len ps.toList k) : YldH E P st o k := by
  unfold evBuildSlice at h
  split at h
  · exact h.elim
  · rename_i ti hti
    have hf := hT _ _ hti
    have hu := hf.under
    split at h
    · rename_i e hd
      rw [hd] at hu
      obtain ⟨xs, ⟨⟨h1, h2, h3⟩, h⟩, hl, hsz, hfill⟩ := elemsE_ok (E := E) _ _ _ h
      have h1' : ps.toList.length = len := Nat.eq_of_beq_eq_true h1
      have h2' : 0 < ti.esz := by simpa [Nat.blt_eq] using h2
      have h3' : len * ti.esz ≤ 1000000 := by simpa [Nat.ble_eq] using h3
      obtain ⟨i0, z, hi0, hs0, hb0, hz0, hzs, hzo⟩ := hf.elem_info (.inl hd)
      refine ⟨_, _, _, _, _, _, h, HFact.newRow (.inr rfl) h2' hsz fun B G w a hg hN => ?_⟩
      have hlen : len ≤ 1000000 := by
        have := Nat.le_mul_of_pos_right len h2'
        omega
      -- the zero cells
      have hzero : ∃ zc : Array Value, ((len * ti.esz = 0 ∧ zc = #[]) ∨ (¬ len * ti.esz = 0 ∧ zc = z.cells ∧ (zeroValue e).run P w = .ok z w)) ∧ ∀ j, j < len * ti.esz → ∃ u, ((Array.range (len * ti.esz)).map (zc[· % zc.size]!))[j]? = some u ∧ u.oneCell' = true := by
        by_cases h0 : len * ti.esz = 0
        · exact ⟨#[], .inl ⟨h0, rfl⟩, fun j hj => by omega⟩
        · refine ⟨z.cells, .inr ⟨h0, rfl, by simp [zeroValue, typeInfo, hi0, hz0]⟩, fun j hj => ?_⟩
          have hzp : 0 < z.cells.size := by rw [hzs, hs0]; exact h2'
          have hm : j % z.cells.size < z.cells.size := Nat.mod_lt _ hzp
          refine ⟨z.cells[j % z.cells.size], ?_, hzo _ (by simp)⟩
          simp [hj, hm]
      obtain ⟨zc, hzc1, hzc2⟩ := hzero
      obtain ⟨vs', e1, e2⟩ := hfill B G w a hg (fun p hp => constOk.at hc (by simp only [opcs, ho, List.mem_map]; exact ⟨p, hp, rfl⟩)) hN ((Array.range (len * ti.esz)).map (zc[· % zc.size]!)) [] (List.replicate (len * ti.esz) .any) (by simp) (by rw [h1']; simp)
        ⟨by simp, fun j c hc => by
          have hj : j < len * ti.esz := by have := (List.getElem?_eq_some_iff.1 hc).1; simpa using this
          obtain ⟨u, u1, u2⟩ := hzc2 j hj
          refine ⟨u, u1, u2, ?_⟩
          have : c = .any := by simpa [hj] using hc.symm
          subst this; exact .any ..⟩
      have hxl : xs.length = len := by rw [hl, h1']
      simp only [List.nil_append] at e2
      refine ⟨vs', e, (0, 0), xs.length, w.alloc (.cells vs' e), ?_, grown1_alloc _ _, fun i _ h => by simp [inFz] at h, Nat.le_refl _, by unfold maxLen; omega, by rw [e2.1, flat_len xs hsz]; exact Nat.le_refl _, fun _ => rfl, fun i el j c hi hj => ?_⟩
      · have hpm : (ps.map fun x => match x with | (i, x) => (i, a.eval x)).toList = ps.toList.map fun p => (p.1, a.eval p.2) := by simp
        have hle : ¬ (len * ti.esz > 2 ^ 24) := by omega
        have he : (sizeOf e).run P w = .ok ti.esz w := hf.run_esz w (.inl hd)
        rcases hzc1 with ⟨h0, hz⟩ | ⟨h0, hz, hzv⟩
        · simp only [execOp, ho, Sem.run_bind, Instr.buildSlice, run_underlying hu, Result.andThen_ok, he, if_neg hle, if_pos h0, hpm, Sem.run_pure, ← hz, e1]
          simp [newRow, hxl]
        · simp only [execOp, ho, Sem.run_bind, Instr.buildSlice, run_underlying hu, Result.andThen_ok, he, if_neg hle, if_neg h0, hpm, Sem.run_pure, hzv, ← hz, e1]
          simp [newRow, hxl]
      · obtain ⟨u, u1, u2, u3⟩ := e2.2 _ _ (flat_get xs hsz i el j c hi hj)
        exact ⟨u, u1, u2, u3⟩
    · exact h.elim
def evBytes (T : Tab) (st : St) (src dst : TypeId) (x : Operand) (k : KH) : Prop :=
  unc true (evV T st src x) fun a => match a, T.at src, T.at dst with
    | .str s, some si, some di => match si.desc, di.desc with
      | .string, .slice e => ((T.at e).any (fun ti => ti.desc matches .int .u8) = true ∧ Nat.beq di.esz 1 = true) ∧
          k (.list 1 (s.map byteAV)) (some st.k.length) st.H (st.k ++ [1]) (opN x ++ [.tok st.k.length]) [.tok st.k.length]
      | _, _ => False
    | _, _, _ => False
def evBytesRow (T : Tab) (st : St) (src dst : TypeId) (x : Operand) (k : KH) : Prop :=
  unc true (evV T st src x) fun a => match a, T.at src, T.at dst with
    | .str s, some si, some di => match si.desc, di.desc with
      | .string, .slice e => ((T.at e).any (fun ti => ti.desc matches .int .u8) = true ∧ Nat.beq di.esz 1 = true) ∧
          k (.row st.H.length 0 s.length 0) none (st.H ++ [.cells e (s.map byteAV) []]) st.k (opN x ++ [.obj st.H.length]) [.obj st.H.length]
      | _, _ => False
    | _, _, _ => False
theorem bytesRow_get (s : Bytes) (cap : Nat) (_hc : s.length ≤ cap) (j : Nat) (b : UInt8) (h : s[j]? = some b) : (bytesRow ⟨s.toArray⟩ cap)[j]? = some (.int .u8 (b.toNat : Int)) := by
  have hj := (List.getElem?_eq_some_iff.1 h).1
  unfold bytesRow
  rw [Array.getElem?_append_left (by simpa using hj)]
  simp [h]
theorem bytesRow_size (s : Bytes) (cap : Nat) (hc : s.length ≤ cap) : (bytesRow ⟨s.toArray⟩ cap).size = cap := by
  unfold bytesRow
  simp [ByteArray.size]; omega
theorem grown1_drew (w : World) (o : Obj) : Grown1 w (w.drew.alloc o) o :=
  ⟨by simp, fun b hb => Below.heap_alloc w.drew o b (by simpa using hb), by have := heap_alloc_new w.drew o; simpa using this, rfl, rfl, rfl⟩
theorem evBytes_run (hT : TOk P T) {src dst e : TypeId} {x : Operand} {si di : TI} {s : Bytes} (ho : o.op = .convert src dst x) (hsi : T.at src = some si) (hdi : T.at dst = some di) (h1 : si.desc = .string) (h2 : di.desc = .slice e)
    (hb : (T.at e).any (fun ti => ti.desc matches .int .u8) = true) (a : Act) (w : World) (hv : a.eval x = .string ⟨s.toArray⟩) :
    (execOp a.eval o).run P w = .ok (.value (.slice (some ⟨w.heap.size, 0, none⟩) s.length (grownCap w s.length 0 e)))
      (w.drew.alloc (.cells (bytesRow ⟨s.toArray⟩ (grownCap w s.length 0 e)) e ((bytesRow ⟨s.toArray⟩ (grownCap w s.length 0 e)).size, (bytesRow ⟨s.toArray⟩ (grownCap w s.length 0 e)).size + 1))) := by
  obtain ⟨ei, hei, hed⟩ := u8_of hb
  have hue := (hT _ _ hei).under
  rw [hed] at hue
  have hus := (hT _ _ hsi).under
  rw [h1] at hus
  have hud := (hT _ _ hdi).under
  rw [h2] at hud
  have := run_bytes_of_string (P := P) w src dst e ⟨s.toArray⟩ hus hud hue
  have hz : (⟨s.toArray⟩ : ByteArray).size = s.length := by simp [ByteArray.size]
  rw [hz] at this
  simp only [execOp, ho, hv, Sem.run_bind, this, Result.andThen_ok, Sem.run_pure]
theorem evBytes_ok (hT : TOk P T) {src dst : TypeId} {x : Operand} (hc : constOk T o = true) (ho : o.op = .convert src dst x) (h : evBytes T st src dst x k) : YldH E P st o k := by
  unfold evBytes at h
  obtain ⟨a', h, ha'⟩ := unc_ok h
  split at h
  · rename_i s si di hsi hdi
    split at h
    · rename_i e h1 h2
      obtain ⟨⟨hb, _⟩, h⟩ := h
      refine ⟨_, _, _, _, _, _, h, HFact.newRow (N := opN x) (.inl rfl) (by decide) (fun e he => by
        obtain ⟨b, _, rfl⟩ := List.mem_map.1 he; rfl) fun B G w a hg hN => ?_⟩
      have r1 := ha' rfl _ _ _ _ (evV_ok (T := T) hg (constOk.at hc (ty := src) (x := x) (by simp [opcs, ho])) hN).1
      have hv : a.eval x = .string ⟨s.toArray⟩ ∧ s.length ≤ maxLen := by
        generalize a.eval x = v at *
        cases r1 with | str _ _ hl => exact ⟨rfl, hl⟩
      have hge := grownCap_ge w s.length 0 e
      have hle := grownCap_le_maxLen w s.length 0 e hv.2
      have hsize := bytesRow_size s (grownCap w s.length 0 e) hge
      refine ⟨_, e, _, grownCap w s.length 0 e, _, by rw [evBytes_run hT ho hsi hdi h1 h2 hb a w hv.1, List.length_map], grown1_drew _ _, fun i hi h => ?_, by simpa using hge, hle, by rw [hsize]; omega, fun h => (by cases h), fun i el j c hi hj => ?_⟩
      · have := h.1; simp only at this; omega
      · have hi' : s[i]?.map byteAV = some el := by simpa using hi
        cases hs : s[i]? with
        | none => rw [hs] at hi'; cases hi'
        | some b =>
          rw [hs] at hi'
          simp only [Option.map_some, Option.some.injEq] at hi'
          subst hi'
          cases j with
          | zero =>
            simp only [byteAV, AV.cells, List.getElem?_cons_zero, Option.some.injEq] at hj
            subst hj
            exact ⟨_, by rw [Nat.mul_one, Nat.add_zero]; exact bytesRow_get s _ hge i b hs, rfl, .int _ _ _ (u8_wrap b)⟩
          | succ j => simp [byteAV, AV.cells] at hj
    · exact h.elim
  · exact h.elim
theorem evBytesRow_ok (hT : TOk P T) {src dst : TypeId} {x : Operand} (hc : constOk T o = true) (ho : o.op = .convert src dst x) (h : evBytesRow T st src dst x k) : YldH E P st o k := by
  unfold evBytesRow at h
  obtain ⟨a', h, ha'⟩ := unc_ok h
  split at h
  · rename_i s si di hsi hdi
    split at h
    · rename_i e h1 h2
      obtain ⟨⟨hb, _⟩, h⟩ := h
      refine ⟨_, _, _, _, _, _, h, HFact.newObj (N := opN x) fun B G w a hg hN => ?_⟩
      have r1 := ha' rfl _ _ _ _ (evV_ok (T := T) hg (constOk.at hc (ty := src) (x := x) (by simp [opcs, ho])) hN).1
      have hv : a.eval x = .string ⟨s.toArray⟩ ∧ s.length ≤ maxLen := by
        generalize a.eval x = v at *
        cases r1 with | str _ _ hl => exact ⟨rfl, hl⟩
      have hge := grownCap_ge w s.length 0 e
      have hle := grownCap_le_maxLen w s.length 0 e hv.2
      have hsize := bytesRow_size s (grownCap w s.length 0 e) hge
      refine ⟨_, _, _, _, evBytes_run hT ho hsi hdi h1 h2 hb a w hv.1, grown1_drew _ _, fun i hi h => ?_, by rw [hsize]; simpa using hge, fun j c hj => ?_, fun F w2 ι hι => .row _ _ _ _ _ _ _ hι hge hle (fun h => absurd h (Nat.lt_irrefl _))⟩
      · have := h.1; simp only at this; omega
      · have hi' : s[j]?.map byteAV = some c := by simpa using hj
        cases hs : s[j]? with
        | none => rw [hs] at hi'; cases hi'
        | some b =>
          rw [hs] at hi'
          simp only [Option.map_some, Option.some.injEq] at hi'
          subst hi'
          exact ⟨_, bytesRow_get s _ hge j b hs, rfl, .ofRep (.int _ _ _ (u8_wrap b))⟩
    · exact h.elim
  · exact h.elim
def evNil (T : Tab) (st : St) (ty : TypeId) (k : KH) : Prop :=
  match T.at ty with
  | none => False
  | some ti => k (.list ti.esz []) (some st.k.length) st.H (st.k ++ [2]) [.tok st.k.length] [.tok st.k.length]
theorem evNil_ok {ty : TypeId} (ho : o.op = .move (.const (.slice none 0 0)) ∨ o.op = .assign (.const (.slice none 0 0))) (h : evNil T st ty k) : YldH E P st o k := by
  unfold evNil at h
  split at h
  · exact h.elim
  · refine ⟨_, _, _, _, _, _, h, HFact.newTok (N := []) fun B G w a hg hN => ⟨none, ?_, .empty _ _ _ _ (by simp)⟩⟩
    rcases ho with ho | ho <;> simp [execOp, ho, Act.eval]
def evClip (T : Tab) (st : St) (ty : TypeId) (x : Operand) (lo : Option Operand) (hi mx : Operand) (k : KH) : Prop :=
  unc true (evV T st ty x) fun a => match T.at ty with
    | none => False
    | some ti => match ti.desc, a with
      | .slice _, .list sz xs => bndE T st true lo 0 fun l => bndE T st true (some hi) 0 fun h => bndE T st true (some mx) 0 fun m =>
          ((0 ≤ l ∧ l ≤ h ∧ h ≤ (xs.length : Int)) ∧ m = h ∧ sz = ti.esz) ∧ k (.list sz ((xs.drop l.toNat).take (h.toNat - l.toNat))) (some st.k.length) st.H (st.k ++ [2]) (opN x ++ (bndN lo ++ (opN hi ++ opN mx)) ++ [.tok st.k.length]) [.tok st.k.length]
      | _, _ => False
end
end Go.Pm
