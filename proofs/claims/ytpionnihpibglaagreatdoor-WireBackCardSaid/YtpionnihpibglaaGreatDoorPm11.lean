/-
  Generic: slices without spare room, stores, append.
-/
import Derived.Test.YtpionnihpibglaaGreatDoorPm10
namespace Go.Pm
open Go Go.RowKit
set_option linter.unusedVariables false
set_option linter.unusedSimpArgs false
section
variable {E : Env} {P : Program} {T : Tab} {st : St} {o : Oper} {k : KH}
theorem evClip_ok (hT : TOk P T) {ty : TypeId} {x hi mx : Operand} {lo : Option Operand} (hc : constOk T o = true) (ho : o.op = .slice ty x lo (some hi) (some mx)) (h : evClip T st ty x lo hi mx k) : YldH E P st o k := by
 unfold evClip at h
 obtain ⟨a', h, ha'⟩ := unc_ok h
 split at h
 ·exact h.elim
 ·rename_i ti hti
  have hf := hT _ _ hti
  have hu := hf.under
  split at h
  ·rename_i e sz xs hd
   rw [hd] at hu
   obtain ⟨l, h, hl⟩ := bndE_ok (E := E) h
   obtain ⟨hh, h, hh'⟩ := bndE_ok (E := E) h
   obtain ⟨m, h, hm'⟩ := bndE_ok (E := E) h
   obtain ⟨⟨⟨h0, h1, h2⟩, he, hsz'⟩, h⟩ := h
   subst he
   refine ⟨_, _, _, _, _, _, h, HFact.newTok (N := opN x ++ (bndN lo ++ (opN hi ++ opN mx))) fun B G w a hg hN => ?_⟩
   have hr := ha' rfl _ _ _ _ (evV_ok (T := T) hg (constOk.at hc (ty := ty) (x := x) (by simp [opcs, ho])) fun l hl => hN l (List.mem_append_left _ hl)).1
   have e1 := hl rfl B G w a hg (fun l hl => hN l (by simp [hl])) (fun y hy => constOk.at hc (by simp [opcs, ho, hy]))
   have e2 := hh' rfl B G w a hg (fun l hl => hN l (by simp [bndN] at hl; simp [hl])) (fun y hy => constOk.at hc (by simp [opcs, ho]; right; right; left; injection hy with hy; exact hy.symm))
   have e3 := hm' rfl B G w a hg (fun l hl => hN l (by simp [bndN] at hl; simp [hl])) (fun y hy => constOk.at hc (by simp [opcs, ho]; right; right; right; injection hy with hy; exact hy.symm))
   obtain ⟨ad, n, cap, hv, hn, hc', hm, hsz, hrow⟩ := hr.list_inv
   have hlen : ((xs.drop l.toNat).take (m.toNat - l.toNat)).length = m.toNat - l.toNat := by simp; omega
   obtain ⟨kh, hkh⟩ : ∃ kd, a.eval hi = .int kd m := by
    rcases e2 with ⟨e, _⟩ | ⟨y, kd, e, e'⟩
    ·cases e
    ·injection e with e; subst e; exact ⟨kd, e'⟩
   obtain ⟨km, hkm⟩ : ∃ kd, a.eval mx = .int kd m := by
    rcases e3 with ⟨e, _⟩ | ⟨y, kd, e, e'⟩
    ·cases e
    ·injection e with e; subst e; exact ⟨kd, e'⟩
   have hu' : P.underlying ty = some (.slice (P.elem ty)) := by simp [Program.elem, hu]
   have hel : P.elem ty = e := by simp [Program.elem, hu]
   have hes := hf.run_esz w (.inl hd)
   have hb : (Instr.sliceBounds true n cap (lo.map a.eval) (some (.int kh m)) (some (.int km m))).run P w = .ok (l.toNat, m.toNat, m.toNat) w := by
    have em : (m.toNat : Int) = m := Int.toNat_of_nonneg (by omega)
    rcases e1 with ⟨e, hl0⟩ | ⟨y, kd, e, e'⟩
    ·subst e hl0
     simp [Instr.sliceBounds, run_sliceBound, show (0 : Int) ≤ m by omega, show m ≤ (cap : Int) by omega, em]
    ·subst e
     simp [Instr.sliceBounds, run_sliceBound, show (0 : Int) ≤ m by omega, show m ≤ (cap : Int) by omega, em, e', h0, h1]
   rw [hlen]
   refine ⟨if m.toNat = l.toNat then ad else ad.map (·.add (l.toNat * sz)), ?_, ?_⟩
   ·simp only [execOp, ho, Sem.run_bind, hv, Option.map_some, hkh, hkm, run_sliceAt_slice w ty _ _ _ _ hu', run_slice_any w ty ad n cap hu', hb, Result.andThen_ok, hel, hes, sliced, Sem.run_pure, hsz']
   · -- the row
    have hesz : ∀ e, e ∈ (xs.drop l.toNat).take (m.toNat - l.toNat) → e.cells.length = sz := fun e he => hsz e (List.mem_of_mem_drop (List.mem_of_mem_take he))
    rcases Nat.eq_zero_or_pos (m.toNat - l.toNat) with hz | hz
    ·rw [hz]; simp only [List.take_zero]; exact .empty _ _ _ _ (by simp)
    ·have hne : xs ≠ [] := by
      rintro rfl
      simp at h2; omega
     rcases hrow with h | ⟨b, off, vals, hb', hF, hcell, hrep⟩
     ·exact absurd h hne
     ·subst hb'
      rw [if_neg (by omega)]
      simp only [Option.map_some, add_plain]
      have hget : ∀ (i : Nat) (e : AV), ((xs.drop l.toNat).take (m.toNat - l.toNat))[i]? = some e → xs[l.toNat + i]? = some e := fun i e hi => by
       rw [List.getElem?_take] at hi
       split at hi
       ·rw [List.getElem?_drop] at hi; exact hi
       ·cases hi
      refine .list _ b (off + l.toNat * sz) _ _ _ _ (fun i j => vals (l.toNat + i) j) hlen.symm (Nat.le_refl _) (by omega) hesz (fun j hj => ?_) (fun i e j c hi hj => ?_) (fun i e j c hi hj => hrep _ _ _ _ (hget i e hi) hj)
      ·rw [Nat.add_assoc]
       refine hF _ ?_
       rw [hlen] at hj
       have h3 : (l.toNat + (m.toNat - l.toNat)) * sz ≤ xs.length * sz := Nat.mul_le_mul_right _ (by omega)
       rw [Nat.add_mul] at h3
       omega
      ·have := hcell _ _ _ _ (hget i e hi) hj
       rw [show off + l.toNat * sz + (i * sz + j) = off + ((l.toNat + i) * sz + j) by rw [Nat.add_mul]; omega]
       exact this
  ·exact h.elim
theorem write_objF {B : Base} {G : Gh} {w w' : World} (h : Good E B G w) {id g : Nat} (hid : G.ι id = some g) {t : TypeId} {cs : List AV} {tg tg' : List (Nat × Nat)} (hobj : RepObj G w id (some (.cells t cs tg))) {off : Nat} {us : List Value} {xs : List AV} (τ : Nat → Option Nat)
  (hw : Wrote w w' g off us) (hl : us.length = xs.length) (hle : off + xs.length ≤ cs.length) (hpos : 0 < xs.length) (hone : ∀ u, u ∈ us → u.oneCell' = true)
  (hr : ∀ (j : Nat) (u : Value) (c : AV), us[j]? = some u → xs[j]? = some c → RepSlot G w u c (τ j)) (htl : ∀ j, tg'.lookup j = if off ≤ j ∧ j < off + xs.length then τ (j - off) else tg.lookup j) :
  Good E B G w' ∧ FrH G w G w' [.obj id] ∧ RepObj G w' id (some (.cells t (splice cs off xs) tg')) := by
 obtain ⟨g', i1, i2, i3, vals, fz, i4, i5, i6, i7⟩ := hobj.resolve_left (by intro h0; rw [h0] at hle; simp only [List.length_nil] at hle; omega)
 obtain ⟨k1, k2, k3⟩ := write_obj (tag := none) (xs := xs) h hid hobj hw hl hle hpos hone (fun j u c hu hc => by
  obtain ⟨r1, _⟩ := hr j u c hu hc
  refine ⟨r1, ?_⟩
  split <;> trivial) (.inl rfl)
 refine ⟨k1, k2, ?_⟩
 rw [hid] at i1
 injection i1 with i1
 subst i1
 have hx : Ext G w G w' := k2.ext
 obtain ⟨vals', n1, n2, n3⟩ := hw.new _ _ _ i4
 refine .inr ⟨g, hid, i2, i3, vals', fz, n1, by rw [n2]; exact i5, by rw [n2, splice_len _ _ _ hle]; exact i6, fun j c hc => ?_⟩
 rw [splice_get _ _ _ hle] at hc
 rw [n3, hl, htl]
 by_cases hin : off ≤ j ∧ j < off + xs.length
 ·rw [if_pos hin] at hc
  rw [if_pos hin, if_pos hin]
  have hj : j - off < us.length := by omega
  refine ⟨us[j - off], List.getElem?_eq_getElem hj, hone _ (List.getElem_mem hj), ?_⟩
  exact (hr (j - off) _ _ (List.getElem?_eq_getElem hj) hc).ext hx
 ·rw [if_neg hin] at hc
  rw [if_neg hin, if_neg hin]
  obtain ⟨v, v1, v2, v3⟩ := i7 j c hc
  exact ⟨v, v1, v2, v3.ext hx⟩
def nilSplice (tg : List (Nat × Nat)) (off : Nat) (hs : List AV) (n : Nat) (k : Nat) : List (Nat × Nat) :=
 nilT hs off k ++ tg.filter fun p => Nat.blt p.1 off || Nat.ble (off + n) p.1
theorem lookup_app {α : Type} (j : Nat) : ∀ (l m : List (Nat × α)), (l ++ m).lookup j = match l.lookup j with | some x => some x | none => m.lookup j
 | [], m => rfl
 | (a, b) :: l, m => by
  rw [List.cons_append, List.lookup_cons, List.lookup_cons, lookup_app j l m]
  cases (j == a) <;> rfl
theorem nilSplice_at (tg : List (Nat × Nat)) (off : Nat) (hs : List AV) (n : Nat) (hn : hs.length ≤ n) (k j : Nat) : (nilSplice tg off hs n k).lookup j = if off ≤ j ∧ j < off + n then (nilT hs off k).lookup (off + (j - off)) else tg.lookup j := by
 unfold nilSplice
 rw [lookup_app]
 by_cases hin : off ≤ j ∧ j < off + n
 ·rw [if_pos hin, lookup_filter_none _ _ _ _ hin, show off + (j - off) = j by omega]
  cases (nilT hs off k).lookup j <;> rfl
 ·rw [if_neg hin, lookup_filter _ _ _ _ hin]
  cases hl : (nilT hs off k).lookup j with
  | none => rfl
  | some i =>
   obtain ⟨h1, ⟨sz, h2⟩, _⟩ := nilT_at _ _ _ _ _ hl
   have := (List.getElem?_eq_some_iff.1 h2).1
   exact absurd ⟨h1, by omega⟩ hin
theorem hsV_le (st : St) (v : Operand) (x : AV) : (hsV st v x).length ≤ x.cells.length := by
 unfold hsV
 split
 ·exact Nat.le_refl _
 ·split
  ·rw [hide_len]; exact Nat.le_refl _
  ·exact Nat.zero_le _
def tgS (st : St) (v : Operand) (x : AV) : Option Nat := match x.isAgg with
 | true => none
 | false => tgV st v
def evStore (T : Tab) (st : St) (ty : TypeId) (ad v : Operand) (k : KH) : Prop :=
 unc true (evV T st 0 ad) fun a => unc true (evV T st ty v) fun x => match T.at ty, a with
  | some ti, .ptr id off => optE st.H[id]? fun ob => match ob with
   | .cells t cs tg => (x.flatB = true ∧ x.cells.length = ti.size ∧ Nat.blt 0 ti.size = true ∧ off + ti.size ≤ cs.length) ∧
     ∃ cs', (Wf x → splice cs off x.cells = cs') ∧ match Nat.blt 0 (nilN (hsV st v x)) with
      | false => k .any none (st.H.set id (.cells t cs' (tagSplice tg off x.cells.length (tgS st v x)))) st.k (opN ad ++ opN v ++ [.obj id]) [.obj id]
      | true => k .any none (st.H.set id (.cells t cs' (nilSplice tg off (hsV st v x) x.cells.length st.k.length))) (st.k ++ List.replicate (nilN (hsV st v x)) 2) (opN ad ++ opN v ++ (.obj id :: toksFrom st.k.length (nilN (hsV st v x)))) (.obj id :: toksFrom st.k.length (nilN (hsV st v x)))
   | _ => False
  | _, _ => False
theorem set_same {α : Type} (l : List α) (i j : Nat) (x : α) (h : j ≠ i) : l[j]? = (l.set i x)[j]? := by
 rw [List.getElem?_set_ne (Ne.symm h)]
theorem evStore_ok (hT : TOk P T) {ty : TypeId} {ad v : Operand} (hc : constOk T o = true) (ho : o.op = .store ty ad v) (h : evStore T st ty ad v k) : YldH E P st o k := by
 unfold evStore at h
 obtain ⟨a', h, ha'⟩ := unc_ok h
 obtain ⟨x', h, hx', hx2⟩ := unc_ok' h
 split at h
 ·rename_i ti id off hti _
  have hf := hT _ _ hti
  obtain ⟨ob, hob, h⟩ := optE_ok h
  split at h
  ·rename_i t cs tg
   obtain ⟨⟨h1, h2, h3, h4⟩, cs', hcs', h⟩ := h
   have h3' : 0 < ti.size := by simpa [Nat.blt_eq] using h3
   split at h
   ·rename_i hsel
    refine ⟨_, _, _, _, _, _, h, ⟨by simp, fun l hl => ?_, fun B G w a hg hN K Q hK => ?_⟩⟩
    ·cases l with
     | slot => trivial
     | obj i => exact set_same _ _ _ _ (fun e => hl (by simp [e]))
     | tok i => rfl
    ·have r1 := ha' rfl _ _ _ _ (evV_ok (T := T) hg (constOk.at hc (ty := 0) (x := ad) (by simp [opcs, ho])) fun l hl => hN l (by simp [hl])).1
     have hs := evV_ok (T := T) hg (constOk.at hc (ty := ty) (x := v) (by simp [opcs, ho])) fun l hl => hN l (by simp [hl])
     have r2 := hx' rfl _ _ _ _ hs.1
     have ecs := hcs' r2.wf
     have hobj : RepObj G w id (some (.cells t cs tg)) := by
      have := hN (.obj id) (by simp)
      simpa only [RepL, hob] using this
     have hcs := rep_cells r2 h1
     generalize hva : a.eval ad = va at *
     cases r1 with
     | ptr _ _ _ gg hι =>
     have hobj' := hobj
     obtain ⟨g', i1, i2, i3, vals, fz, i4, i5, i6, i7⟩ := hobj.resolve_left (by intro h0; rw [h0] at h4; simp only [List.length_nil] at h4; omega)
     rw [hι] at i1
     injection i1 with i1
     subst i1
     have hlen : (a.eval v).cells.toList.length = x'.cells.length := by simpa using hcs.1
     have hone : ∀ u, u ∈ (a.eval v).cells.toList → u.oneCell' = true := fun u hu => by
      obtain ⟨j, hj, rfl⟩ := List.getElem_of_mem hu
      obtain ⟨u', u1, u2, _⟩ := hcs.2 j _ (List.getElem?_eq_getElem (by omega))
      have : (a.eval v).cells[j]? = some (a.eval v).cells.toList[j] := by rw [← Array.getElem?_toList]; exact List.getElem?_eq_getElem hj
      rw [this] at u1
      injection u1 with u1
      rw [u1]; exact u2
     obtain ⟨w', hrun, hwr⟩ := run_stores (P := P) gg off (a.eval v).cells.toList 0 w vals t fz i4 (fun x hx1 hx2 => by
      rw [hlen] at hx2
      exact ⟨by omega, i5 x (by omega)⟩) hone
     have hnag : ∀ i, tgS st v x' = some i → tgV st v = some i ∧ ∀ cs, evV T st ty v ≠ .agg cs := fun i ht => by
      unfold tgS at ht
      cases hag : x'.isAgg with
      | true => rw [hag] at ht; cases ht
      | false =>
       rw [hag] at ht
       refine ⟨ht, fun cs e => ?_⟩
       have hxx : x' = evV T st ty v := hx2 (fun c v e' => by rw [e] at e'; cases e')
       rw [hxx, e] at hag; cases hag
     have htag : tgS st v x' = none ∨ x'.cells.length = 1 := by
      cases ht : tgS st v x' with
      | none => exact .inl rfl
      | some i =>
       right
       have h5 := hs.2
       rw [(hnag i ht).1] at h5
       obtain ⟨_, _, _, _, _, _, _, _, _, h6, _⟩ := h5.list (hnag i ht).2
       have h7 := hcs.1
       rw [h6] at h7
       simpa [Value.cells] using h7.symm
     have hrs : ∀ (j : Nat) (u : Value) (c : AV), (a.eval v).cells.toList[j]? = some u → x'.cells[j]? = some c → RepSlot G w u c (if j = 0 then tgS st v x' else none) := by
      intro j u c hu hc'
      obtain ⟨u', u1, _, u3⟩ := hcs.2 j c hc'
      rw [Array.getElem?_toList, u1] at hu
      injection hu with hu
      subst hu
      refine ⟨u3, ?_⟩
      cases ht : tgS st v x' with
      | none => split <;> trivial
      | some i =>
       have h5 := hs.2
       rw [(hnag i ht).1] at h5
       split
       ·rename_i hj0
        subst hj0
        obtain ⟨sz, xs, n, cap, g2, lo, hi, ad2, h6, h7, h8⟩ := h5.list (hnag i ht).2
        -- the value is a slice: its one cell is itself
        have hu'' : u' = a.eval v := by
         rw [h7] at u1
         simp [Value.cells] at u1
         rw [h7, u1]
        have hrx : Rep G.F w G.ι (a.eval v) x' := r2
        have hx'' : x' = .list sz xs := by
         rw [hx2 (fun c v e => by rw [e] at h6; cases h6)]; exact h6
        rw [hx''] at hc'
        simp [AV.cells] at hc'
        subst hc'
        exact .inl ⟨sz, xs, n, cap, g2, lo, hi, ad2, rfl, by rw [hu'']; exact h7, h8⟩
       ·trivial
     simp only [Nat.add_zero] at hwr
     obtain ⟨w1, w2, w3⟩ := write_obj hg hι hobj' hwr hlen (by rw [h2]; exact h4) (by rw [h2]; exact h3') hone hrs htag
     have hexec : (execOp a.eval o).run P w = .ok .skip w' := by
      simp only [execOp, ho, Sem.run_bind, Instr.storeAt, hva, Instr.sureAddr, Sem.run_pure, Result.andThen_ok, storeVar, hf.run_size]
      have hsz : ¬ ((a.eval v).cells.size ≠ ti.size) := by rw [hcs.1, h2]; simp
      rw [if_neg hsz, hrun]
      rfl
     unfold Oper.wp
     rw [hexec]
     refine hK G w' undef w1 w2 ⟨.any .., trivial⟩ fun l hl => ?_
     simp only [List.mem_singleton] at hl
     subst hl
     simp only [RepH]
     have hid : id < st.H.length := (List.getElem?_eq_some_iff.1 hob).1
     rw [List.getElem?_set_self hid, ← ecs]
     exact w3
   ·rename_i hsel
    have hk := h
    clear h
    refine ⟨_, _, _, _, _, _, hk, ⟨fun t ht => ?_, fun l hl => ?_, fun B G w a hg hN K Q hK => ?_⟩⟩
    ·rcases List.mem_cons.1 ht with h | h
     ·cases h
     ·obtain ⟨x, hx, _⟩ := toksFrom_mem.1 h; cases hx
    ·cases l with
     | slot => trivial
     | obj i => exact set_same _ _ _ _ (fun e => hl (by simp [e]))
     | tok i =>
      show st.k[i]? = _
      rcases Nat.lt_or_ge i st.k.length with h1 | h1
      ·rw [List.getElem?_append_left h1]
      ·rw [List.getElem?_eq_none h1, List.getElem?_eq_none]
       rw [List.length_append, List.length_replicate]
       rcases Nat.lt_or_ge i (st.k.length + nilN (hsV st v x')) with h2 | h2
       ·exact absurd (List.mem_cons_of_mem _ (toksFrom_mem.2 ⟨i, rfl, h1, h2⟩)) hl
       ·exact h2
    ·have r1 := ha' rfl _ _ _ _ (evV_ok (T := T) hg (constOk.at hc (ty := 0) (x := ad) (by simp [opcs, ho])) fun l hl => hN l (by simp [hl])).1
     have hkn : ∀ x, st.k.length ≤ x → x < st.k.length + nilN (hsV st v x') → G.κ x = none := fun x h1 h2 => by
      have := hN (.tok x) (List.mem_append_right _ (List.mem_cons_of_mem _ (toksFrom_mem.2 ⟨x, rfl, h1, h2⟩)))
      simp only [RepL] at this
      rw [List.getElem?_eq_none h1] at this
      exact this
     let κ2 : Nat → Option (Nat × Nat × Nat) := fun x => if st.k.length ≤ x ∧ x < st.k.length + nilN (hsV st v x') then some (0, 0, 0) else G.κ x
     let G2 : Gh := { G with κ := κ2 }
     have hκ2 : ∀ x, ¬ (st.k.length ≤ x ∧ x < st.k.length + nilN (hsV st v x')) → κ2 x = G.κ x := fun x hx => if_neg hx
     have hx : Ext G w G2 w := ⟨fun _ _ h => h, fun _ _ h => h, fun i r hi => by
      have : ¬ (st.k.length ≤ i ∧ i < st.k.length + nilN (hsV st v x')) := fun e => by rw [hkn i e.1 e.2] at hi; cases hi
      show κ2 i = _
      rw [hκ2 i this]; exact hi, fun _ _ _ => rfl⟩
     have hg2 : Good E B G2 w := ⟨hg.fin, hg.own, hg.size, hg.old, hg.keep, hg.new, hg.os, hg.tape, hg.output, hg.glob, hg.gb, hg.ids, fun i r hi => ⟨(hg.toks i r hi).1, hx.κ _ _ (hg.toks i r hi).2⟩⟩
     have hs := evV_ok (T := T) hg (constOk.at hc (ty := ty) (x := v) (by simp [opcs, ho])) fun l hl => hN l (by simp [hl])
     have r2 : Rep G2.F w G2.ι (a.eval v) x' := hx' rfl _ _ _ _ hs.1
     have hnil : ∀ (j sz : Nat) (u : Value), (a.eval v).cells[j]? = some u → (hsV st v x')[j]? = some (.list sz []) → u = .slice none 0 0 := fun j sz u hu hc' =>
      hsV_nil (T := T) (ty := ty) (fun vc e => by subst e; exact constOk.at hc (ty := ty) (x := .const vc) (by simp [opcs, ho])) hx2 hs.2 hu hc'
     have ecs := hcs' r2.wf
     have hobj0 : RepObj G w id (some (.cells t cs tg)) := by
      have := hN (.obj id) (by simp)
      simpa only [RepL, hob] using this
     have hobj : RepObj G2 w id (some (.cells t cs tg)) := hobj0.keep hx (fun h => h) (fun g h => ⟨h, rfl, fun _ h => h⟩)
     have hcs := rep_cells r2 h1
     generalize hva : a.eval ad = va at *
     cases r1 with
     | ptr _ _ _ gg hι =>
     have hobj' := hobj
     obtain ⟨g', i1, i2, i3, vals, fz, i4, i5, i6, i7⟩ := hobj.resolve_left (by intro h0; rw [h0] at h4; simp only [List.length_nil] at h4; omega)
     have hι2 : G2.ι id = some gg := hι
     rw [hι2] at i1
     injection i1 with i1
     subst i1
     have hlen : (a.eval v).cells.toList.length = x'.cells.length := by simpa using hcs.1
     have hone : ∀ u, u ∈ (a.eval v).cells.toList → u.oneCell' = true := fun u hu => by
      obtain ⟨j, hj, rfl⟩ := List.getElem_of_mem hu
      obtain ⟨u', u1, u2, _⟩ := hcs.2 j _ (List.getElem?_eq_getElem (by omega))
      have : (a.eval v).cells[j]? = some (a.eval v).cells.toList[j] := by rw [← Array.getElem?_toList]; exact List.getElem?_eq_getElem hj
      rw [this] at u1
      injection u1 with u1
      rw [u1]; exact u2
     obtain ⟨w', hrun, hwr⟩ := run_stores (P := P) gg off (a.eval v).cells.toList 0 w vals t fz i4 (fun x hx1 hx2 => by
      rw [hlen] at hx2
      exact ⟨by omega, i5 x (by omega)⟩) hone
     simp only [Nat.add_zero] at hwr
     obtain ⟨w1, w2, w3⟩ := write_objF (tg' := nilSplice tg off (hsV st v x') x'.cells.length st.k.length) hg2 hι2 hobj' (fun j => (nilT (hsV st v x') off st.k.length).lookup (off + j)) hwr hlen (by rw [h2]; exact h4) (by rw [h2]; exact h3') hone (fun j u c hu hc' => by
      obtain ⟨u', u1, _, u3⟩ := hcs.2 j c hc'
      rw [Array.getElem?_toList, u1] at hu
      injection hu with hu
      subst hu
      refine ⟨u3, ?_⟩
      cases hlk : (nilT (hsV st v x') off st.k.length).lookup (off + j) with
      | none => trivial
      | some i =>
       obtain ⟨_, ⟨sz, h2⟩, h3, h4⟩ := nilT_at _ _ _ _ _ hlk
       rw [show off + j - off = j by omega] at h2
       have hn := hnil j sz u' u1 h2
       have h2 := hsV_sub h2
       rw [hc'] at h2
       injection h2 with h2
       exact .inl ⟨sz, [], 0, 0, 0, 0, 0, none, h2, hn, if_pos ⟨h3, h4⟩, rfl, Nat.le_refl _, Nat.zero_le _, .inl rfl⟩) (nilSplice_at _ _ _ _ (hsV_le ..) _)
     have hexec : (execOp a.eval o).run P w = .ok .skip w' := by
      simp only [execOp, ho, Sem.run_bind, Instr.storeAt, hva, Instr.sureAddr, Sem.run_pure, Result.andThen_ok, storeVar, hf.run_size]
      have hsz : ¬ ((a.eval v).cells.size ≠ ti.size) := by rw [hcs.1, h2]; simp
      rw [if_neg hsz, hrun]
      rfl
     unfold Oper.wp
     rw [hexec]
     refine hK G2 w' undef w1 ⟨hx.trans w2.ext, fun i c hi hc => ?_, fun i c hi hc => ?_⟩ ⟨.any .., trivial⟩ fun l hl => ?_
     ·exact w2.obj i c (fun hm => hi (by simp only [List.mem_singleton] at hm; rw [hm]; exact List.mem_cons_self ..)) (hc.keep hx (fun h => h) (fun g h => ⟨h, rfl, fun _ h => h⟩))
     ·refine w2.tok i c (by simp) (hc.keep hx (fun hn => ?_) (fun g h => ⟨h, rfl, fun _ h => h⟩))
      show κ2 i = none
      rw [hκ2 i (fun e => hi (List.mem_cons_of_mem _ (toksFrom_mem.2 ⟨i, rfl, e.1, e.2⟩)))]
      exact hn
     ·rcases List.mem_cons.1 hl with hl | hl
      ·subst hl
       simp only [RepH]
       have hid : id < st.H.length := (List.getElem?_eq_some_iff.1 hob).1
       rw [List.getElem?_set_self hid, ← ecs]
       exact w3
      ·obtain ⟨x, rfl, hx1, hx2⟩ := toksFrom_mem.1 hl
       simp only [RepH]
       rw [List.getElem?_append_right hx1, List.getElem?_replicate, if_pos (by omega)]
       exact ⟨0, 0, if_pos ⟨hx1, hx2⟩⟩
  ·exact h.elim
 ·exact h.elim
end
end Go.Pm
