/-
  Generic: what slices.Delete does to a row: a beginning of it that knows its room, an append of its own end, cells that are cleared.
-/
import Derived.Test.YtommkfooolabhaaGreatDoorPm12g
namespace Go.Pm
open Go Go.RowKit
set_option linter.unusedVariables false
set_option linter.unusedSimpArgs false
theorem mem_zeroCells {cs : Array Value} {n : Nat} {v : Value} (h : v ∈ (Builtin.zeroCells cs n).toList) : v ∈ cs.toList := by
  unfold Builtin.zeroCells at h
  rw [Array.toList_map, List.mem_map] at h
  obtain ⟨i, hi, rfl⟩ := h
  have hi : i < n * cs.size := by simpa using hi
  have hpos : 0 < cs.size := by
    rcases Nat.eq_zero_or_pos cs.size with h0 | h0
    · rw [h0] at hi; omega
    · exact h0
  have hlt : i % cs.size < cs.size := Nat.mod_lt _ hpos
  rw [getElem!_pos cs _ hlt]
  simp
theorem RepObj.pre {G : Gh} {w : World} {id : Nat} {t : TypeId} {cs cs' : List AV} (h : RepObj G w id (some (.cells t cs []))) (hl : cs'.length ≤ cs.length) (hp : ∀ (j : Nat) (c : AV), cs'[j]? = some c → cs[j]? = some c) :
    RepObj G w id (some (.cells t cs' [])) := by
  rcases h with ⟨rfl, h⟩ | ⟨g, i1, i2, i3, vals, fz, i4, i5, i6, i7⟩
  · exact .inl ⟨List.eq_nil_of_length_eq_zero (by simpa using hl), h⟩
  · exact .inr ⟨g, i1, i2, i3, vals, fz, i4, i5, by omega, fun j c hc => i7 j c (hp j c hc)⟩
section
variable {E : Env} {P : Program} {T : Tab} {st : St} {o : Oper} {k : KH}
def evSliceR (T : Tab) (st : St) (ty : TypeId) (x : Operand) (lo hi : Option Operand) (k : KH) : Prop :=
  match T.at ty with
  | none => False
  | some ti => match ti.desc, evV T st ty x with
    | .slice _, .row id off len sz => lo = none ∧ bndE T st true hi 0 fun h => ((0 ≤ h ∧ h ≤ (len : Int) ∧ 0 < len) ∧ sz = ti.esz ∧ Nat.blt 0 sz = true ∧ hi.isSome = true) ∧ k (.rowR id off h.toNat sz) none st.H st.k (opN x ++ bndN hi) []
    | .slice _, .rowR id off len sz => bndE T st true lo 0 fun l => bndE T st true hi 0 fun h => optE st.H[id]? fun ob => match ob with
        | .cells _ cs _ => ((0 ≤ l ∧ l ≤ h ∧ off + h.toNat * sz ≤ cs.length) ∧ sz = ti.esz ∧ hi.isSome = true) ∧ k (.row id (off + l.toNat * sz) (h.toNat - l.toNat) 0) none st.H st.k (opN x ++ (bndN lo ++ bndN hi) ++ [.obj id]) []
        | _ => False
    | _, _ => False
theorem evSliceR_ok (hT : TOk P T) {ty : TypeId} {x : Operand} {lo hi : Option Operand} (hc : constOk T o = true) (ho : o.op = .slice ty x lo hi none) (h : evSliceR T st ty x lo hi k) : YldH E P st o k := by
  unfold evSliceR at h
  split at h
  · exact h.elim
  · rename_i ti hti
    have hf := hT _ _ hti
    have hu := hf.under
    have hexec : ∀ (a : Act) (w : World) (v : Value), (Instr.sliceAt ty (a.eval x) (lo.map a.eval) (hi.map a.eval) none).run P w = .ok v w → (execOp a.eval o).run P w = .ok (.value v) w := by
      intro a w v hv
      simp only [execOp, ho, Sem.run_bind, Option.map_none, hv, Result.andThen_ok, Sem.run_pure]
    have hcl : ∀ y, lo = some y → cOk T 0 y = true := fun y hy => constOk.at hc (by simp [opcs, ho, hy])
    have hch : ∀ y, hi = some y → cOk T 0 y = true := fun y hy => constOk.at hc (by simp [opcs, ho, hy])
    have hbnd : ∀ {z : Option Operand} {n d : Int} {a : Act}, ((z = none ∧ n = d) ∨ ∃ y kd, z = some y ∧ a.eval y = .int kd n) → ((z.map a.eval = none ∧ n = d) ∨ ∃ k, z.map a.eval = some (.int k n)) := by
      rintro z n d a (⟨e, e'⟩ | ⟨y, kd, e, e'⟩)
      · exact .inl ⟨by simp [e], e'⟩
      · exact .inr ⟨kd, by simp [e, e']⟩
    split at h
    · rename_i e id off len sz hd hx
      rw [hd] at hu
      have hu' : P.underlying ty = some (.slice (P.elem ty)) := by simp [Program.elem, hu]
      have hel : P.elem ty = e := by simp [Program.elem, hu]
      have hes := fun w => hf.run_esz w (.inl hd)
      obtain ⟨rfl, h⟩ := h
      obtain ⟨n, h, hn⟩ := bndE_ok (E := E) h
      obtain ⟨⟨⟨h0, h1, h2⟩, hse, hsp, hsm⟩, h⟩ := h
      have hsp : 0 < sz := by simpa [Nat.blt_eq] using hsp
      refine ⟨_, _, _, _, _, _, h, HFact.value fun B G w a hg hN => ?_⟩
      have hr := (evV_ok (T := T) hg (constOk.at hc (ty := ty) (x := x) (by simp [opcs, ho])) fun l hl => hN l (List.mem_append_left _ hl)).1
      rw [hx] at hr
      have b2 := hbnd (hn rfl B G w a hg (fun l hl => hN l (List.mem_append_right _ hl)) hch)
      have b2' : (hi.map a.eval = none ∧ n = (len : Int)) ∨ ∃ k, hi.map a.eval = some (.int k n) := by
        rcases b2 with ⟨e, _⟩ | b2
        · cases hi with
          | none => cases hsm
          | some y => simp at e
        · exact .inr b2
      have he := hexec a w
      generalize a.eval x = vx at *
      cases hr with
      | row0 => omega
      | row _ _ _ _ cap _ g hι hcap hm hb =>
      refine ⟨.slice (some ⟨g, off, none⟩) n.toNat cap, he _ ?_, .rowR _ _ _ _ _ _ _ hι (by omega) hm hsp (hb hsp), trivial⟩
      rw [Option.map_none, run_sliceAt_slice w ty _ _ _ _ hu', run_slice_any w ty (some ⟨g, off, none⟩) len cap hu', run_bounds w true len cap _ _ 0 n (.inl ⟨rfl, rfl⟩) b2' (Int.le_refl _) h0 (by omega), Result.andThen_ok, hel, hes, Result.andThen_ok, sliced]
      simp [add_plain]
    · rename_i e id off len sz hd hx
      rw [hd] at hu
      have hu' : P.underlying ty = some (.slice (P.elem ty)) := by simp [Program.elem, hu]
      have hel : P.elem ty = e := by simp [Program.elem, hu]
      have hes := fun w => hf.run_esz w (.inl hd)
      obtain ⟨l, h, hl⟩ := bndE_ok (E := E) h
      obtain ⟨n, h, hn⟩ := bndE_ok (E := E) h
      obtain ⟨ob, hob, h⟩ := optE_ok h
      split at h
      · rename_i t cs tg
        obtain ⟨⟨⟨h0, h1, h2⟩, hse, hsm⟩, h⟩ := h
        refine ⟨_, _, _, _, _, _, h, HFact.value fun B G w a hg hN => ?_⟩
        have hr := (evV_ok (T := T) hg (constOk.at hc (ty := ty) (x := x) (by simp [opcs, ho])) fun l hl => hN l (by simp [hl])).1
        rw [hx] at hr
        have b1 := hbnd (hl rfl B G w a hg (fun l hl => hN l (by simp [hl])) hcl)
        have b2 := hbnd (hn rfl B G w a hg (fun l hl => hN l (by simp [hl])) hch)
        have b2' : (hi.map a.eval = none ∧ n = (len : Int)) ∨ ∃ k, hi.map a.eval = some (.int k n) := by
          rcases b2 with ⟨e, _⟩ | b2
          · cases hi with
            | none => cases hsm
            | some y => simp at e
          · exact .inr b2
        have hobj : RepObj G w id st.H[id]? := hN (.obj id) (by simp)
        rw [hob] at hobj
        have he := hexec a w
        generalize a.eval x = vx at *
        cases hr with
        | rowR _ _ _ _ cap _ g hι hcap hm hsp hb =>
        have hcapn : n.toNat ≤ cap := by
          rcases hobj with ⟨_, h9⟩ | ⟨g', i1, i2, i3, vals, fz, i4, i5, i6, i7⟩
          · rw [h9] at hι; cases hι
          · rw [i1] at hι
            injection hι with hι
            subst hι
            obtain ⟨vs2, t2, fz2, q1, q2⟩ := hb
            rw [i4] at q1
            cases q1
            have : n.toNat * sz ≤ cap * sz := by omega
            exact Nat.le_of_mul_le_mul_right this hsp
        refine ⟨.slice (if cap = l.toNat then some ⟨g, off, none⟩ else (some (⟨g, off, none⟩ : Addr)).map (·.add (l.toNat * sz))) (n.toNat - l.toNat) (cap - l.toNat), he _ ?_, ?_, trivial⟩
        · rw [run_sliceAt_slice w ty _ _ _ _ hu', run_slice_any w ty (some ⟨g, off, none⟩) len cap hu', run_bounds w true len cap _ _ l n b1 b2' h0 h1 (by omega), Result.andThen_ok, hel, hes, Result.andThen_ok, sliced, hse]
        · by_cases hcl' : cap = l.toNat
          · rw [show n.toNat - l.toNat = 0 by omega, show cap - l.toNat = 0 by omega]
            exact .row0 ..
          · rw [if_neg hcl']
            simp only [Option.map_some, add_plain]
            exact .row _ _ _ _ _ _ _ hι (by omega) (by omega) (fun h => absurd h (Nat.lt_irrefl _))
      · exact h.elim
    · exact h.elim
def evClipR (T : Tab) (st : St) (ty : TypeId) (x : Operand) (lo : Option Operand) (hi mx : Operand) (k : KH) : Prop :=
  match T.at ty with
  | none => False
  | some ti => match ti.desc, evV T st ty x with
    | .slice _, .row _ _ len _ => bndE T st true lo 0 fun l => bndE T st true (some hi) 0 fun h => bndE T st true (some mx) 0 fun m => (0 ≤ l ∧ l ≤ h ∧ h ≤ m ∧ m ≤ (len : Int)) ∧ k .any none st.H st.k (opN x ++ (bndN lo ++ (opN hi ++ opN mx))) []
    | _, _ => False
theorem evClipR_ok (hT : TOk P T) {ty : TypeId} {x hi mx : Operand} {lo : Option Operand} (hc : constOk T o = true) (ho : o.op = .slice ty x lo (some hi) (some mx)) (h : evClipR T st ty x lo hi mx k) : YldH E P st o k := by
  unfold evClipR at h
  split at h
  · exact h.elim
  · rename_i ti hti
    have hf := hT _ _ hti
    have hu := hf.under
    split at h
    · rename_i e id off len sz hd hx
      rw [hd] at hu
      obtain ⟨l, h, hl⟩ := bndE_ok (E := E) h
      obtain ⟨hh, h, hh'⟩ := bndE_ok (E := E) h
      obtain ⟨m, h, hm'⟩ := bndE_ok (E := E) h
      obtain ⟨⟨h0, h1, h2, h3⟩, h⟩ := h
      refine ⟨_, _, _, _, _, _, h, HFact.value fun B G w a hg hN => ?_⟩
      have hr := (evV_ok (T := T) hg (constOk.at hc (ty := ty) (x := x) (by simp [opcs, ho])) fun l hl => hN l (List.mem_append_left _ hl)).1
      rw [hx] at hr
      have e1 := hl rfl B G w a hg (fun l hl => hN l (by simp [hl])) (fun y hy => constOk.at hc (by simp [opcs, ho, hy]))
      have e2 := hh' rfl B G w a hg (fun l hl => hN l (by simp [bndN] at hl; simp [hl])) (fun y hy => constOk.at hc (by simp [opcs, ho]; right; right; left; injection hy with hy; exact hy.symm))
      have e3 := hm' rfl B G w a hg (fun l hl => hN l (by simp [bndN] at hl; simp [hl])) (fun y hy => constOk.at hc (by simp [opcs, ho]; right; right; right; injection hy with hy; exact hy.symm))
      obtain ⟨kh, hkh⟩ : ∃ kd, a.eval hi = .int kd hh := by
        rcases e2 with ⟨e, _⟩ | ⟨y, kd, e, e'⟩
        · cases e
        · injection e with e; subst e; exact ⟨kd, e'⟩
      obtain ⟨km, hkm⟩ : ∃ kd, a.eval mx = .int kd m := by
        rcases e3 with ⟨e, _⟩ | ⟨y, kd, e, e'⟩
        · cases e
        · injection e with e; subst e; exact ⟨kd, e'⟩
      have hu' : P.underlying ty = some (.slice (P.elem ty)) := by simp [Program.elem, hu]
      have hel : P.elem ty = e := by simp [Program.elem, hu]
      have hes := hf.run_esz w (.inl hd)
      obtain ⟨ad, cap, hv, hcap⟩ : ∃ ad cap, a.eval x = .slice ad len cap ∧ len ≤ cap := by
        generalize a.eval x = vx at *
        cases hr with
        | row0 _ _ _ _ ad => exact ⟨ad, 0, rfl, Nat.le_refl _⟩
        | row _ _ _ _ cap _ g hι hcap hm hb => exact ⟨_, cap, rfl, hcap⟩
      have hb : (Instr.sliceBounds true len cap (lo.map a.eval) (some (.int kh hh)) (some (.int km m))).run P w = .ok (l.toNat, hh.toNat, m.toNat) w := by
        have em : (m.toNat : Int) = m := Int.toNat_of_nonneg (by omega)
        have eh : (hh.toNat : Int) = hh := Int.toNat_of_nonneg (by omega)
        rcases e1 with ⟨e, hl0⟩ | ⟨y, kd, e, e'⟩
        · subst e hl0
          simp [Instr.sliceBounds, run_sliceBound, show (0 : Int) ≤ m by omega, show m ≤ (cap : Int) by omega, em, show (0 : Int) ≤ hh by omega, h2, eh]
        · subst e
          simp [Instr.sliceBounds, run_sliceBound, show (0 : Int) ≤ m by omega, show m ≤ (cap : Int) by omega, em, e', h0, h1, show (0 : Int) ≤ hh by omega, h2, eh]
      exact ⟨.slice (if m.toNat = l.toNat then ad else ad.map (·.add (l.toNat * ti.esz))) (hh.toNat - l.toNat) (m.toNat - l.toNat), by simp only [execOp, ho, Sem.run_bind, hv, Option.map_some, hkh, hkm, run_sliceAt_slice w ty _ _ _ _ hu', run_slice_any w ty ad len cap hu', hb, Result.andThen_ok, hel, hes, sliced, Sem.run_pure], .any .., trivial⟩
    · exact h.elim
def evAppendSelf (T : Tab) (st : St) (ty tx : TypeId) (s x : Operand) (k : KH) : Prop :=
  match T.at ty, T.at tx with
  | some ti, some tj => match ti.desc, tj.desc, evV T st ty s, evV T st tx x with
    | .slice _, .slice _, .rowR id 0 i sz, .row id' off m _ => id' = id ∧ optE st.H[id]? fun ob => match ob with
        | .cells t cs tg => ((i + m) * sz ≤ cs.length ∧ off + m * sz ≤ cs.length ∧ sz = ti.esz ∧ tg = [] ∧ cs.all AV.puB = true) ∧
            k (.rowR id 0 (i + m) sz) none (st.H.set id (.cells t (splice cs (i * sz) ((cs.drop off).take (m * sz))) [])) st.k (opN s ++ opN x ++ [.obj id]) [.obj id]
        | _ => False
    | _, _, _, _ => False
  | _, _ => False
theorem evAppendSelf_ok (hT : TOk P T) {ty tx : TypeId} {s x : Operand} (hc : constOk T o = true) (ho : o.op = .call { callee := .builtin .append, args := #[s, x], argTypes := #[ty, tx] }) (h : evAppendSelf T st ty tx s x k) : YldH E P st o k := by
  unfold evAppendSelf at h
  split at h
  · rename_i ti tj hti htj
    have hf := hT _ _ hti
    have hu := hf.under
    have hu2 := (hT _ _ htj).under
    split at h
    · rename_i e e2 id i sz id' off m szx hd hd2 hs hx
      rw [hd] at hu
      rw [hd2] at hu2
      obtain ⟨rfl, h⟩ := h
      obtain ⟨ob, hob, h⟩ := optE_ok h
      split at h
      · rename_i t cs tg
        obtain ⟨⟨q1, q2, hse, rfl, hpu⟩, h⟩ := h
        have hidl := (List.getElem?_eq_some_iff.1 hob).1
        refine ⟨_, _, _, _, _, _, h, ⟨by simp, fun l hl => ?_, fun B G w a hg hN K Q hK => ?_⟩⟩
        · cases l with
          | slot => trivial
          | tok j => rfl
          | obj j => exact set_same _ _ _ _ (fun e => hl (by simp [e]))
        · have r1 := (evV_ok (T := T) hg (constOk.at hc (ty := ty) (x := s) (by simp [opcs, ho])) fun l hl => hN l (by simp [hl])).1
          have r2 := (evV_ok (T := T) hg (constOk.at hc (ty := tx) (x := x) (by simp [opcs, ho])) fun l hl => hN l (by simp [hl])).1
          rw [hs] at r1
          rw [hx] at r2
          have hobj : RepObj G w id' st.H[id']? := hN (.obj id') (by simp)
          rw [hob] at hobj
          have hexec : ∀ sv v w', a.eval s = sv → (Builtin.append_ #[ty, tx] o.type #[sv, a.eval x]).run P w = .ok v w' → (execOp a.eval o).run P w = .ok (.value v) w' := by
            intro sv v w' hsv hh
            rw [run_builtin ho]
            have he : (#[s, x] : Array Operand).map a.eval = #[sv, a.eval x] := by simp [hsv]
            rw [he]
            simp only [builtin, Sem.run_bind, hh, Result.andThen_ok, Sem.run_pure]
          have hset : ∀ y : AObj, (st.H.set id' y)[id']? = some y := fun y => List.getElem?_set_self hidl
          generalize hsv : a.eval s = sv at r1
          cases r1 with
          | rowR _ _ _ _ cap _ g hι hcap hm hsp hb =>
          rcases hobj with ⟨_, h9⟩ | ⟨g', i1, i2, i3, vals, fz, i4, i5, i6, i7⟩
          · rw [h9] at hι; cases hι
          have hgg : g' = g := by rw [i1] at hι; injection hι
          subst hgg
          have hb' := hb
          obtain ⟨vs2, t2, fz2, w1, w2⟩ := hb'
          rw [i4] at w1
          cases w1
          have hcm : i + m ≤ cap := by
            have : (i + m) * sz ≤ cap * sz := by omega
            exact Nat.le_of_mul_le_mul_right this hsp
          have hes : ∀ w, (sizeOf e).run P w = .ok sz w := fun w => by rw [hse]; exact hf.run_esz w (.inl hd)
          have hobj' : RepObj G w id' (some (.cells t cs [])) := .inr ⟨g', i1, i2, i3, vals, fz, i4, i5, i6, i7⟩
          -- what is appended
          let news := (vals.toList.drop off).take (m * sz)
          have hnl : news.length = m * sz := by simp [news]; omega
          have hnget : ∀ (j : Nat) (u : Value), news[j]? = some u → vals[off + j]? = some u ∧ j < m * sz := fun j u hj => by
            have hjl := (List.getElem?_eq_some_iff.1 hj).1
            simp only [news] at hj
            rw [List.getElem?_take] at hj
            split at hj
            · rename_i hlt; rw [List.getElem?_drop, Array.getElem?_toList] at hj; exact ⟨hj, hlt⟩
            · cases hj
          have hx1 : (Builtin.lenOf (a.eval x)).run P w = .ok m w ∧ (Builtin.firstCells sz m (a.eval x)).run P w = .ok news.toArray w := by
            generalize a.eval x = vx at *
            cases r2 with
            | row0 _ _ _ _ ad =>
              have hn0 : news = [] := List.eq_nil_of_length_eq_zero (by rw [hnl, Nat.zero_mul])
              rw [hn0]
              exact ⟨by simp [Builtin.lenOf], by cases ad <;> simp [Builtin.firstCells, loadCells, loadCellsFrom]⟩
            | row _ _ _ _ cap2 _ g2 hι2 hcap2 hm2 hb2 =>
              have : g2 = g' := by rw [i1] at hι2; injection hι2 with h; exact h.symm
              subst this
              refine ⟨by simp [Builtin.lenOf], run_firstCells_some w sz m _ m cap2 _ hnl fun j u hj => ?_⟩
              rw [add_plain, cell_at i4]
              exact (hnget j u hj).1
          have hone : ∀ u, u ∈ news → u.oneCell' = true := fun u hu' => by
            obtain ⟨j, hj, rfl⟩ := List.getElem_of_mem hu'
            obtain ⟨v1, v2⟩ := hnget j _ (List.getElem?_eq_getElem hj)
            have hcj : cs[off + j]? = some cs[off + j] := List.getElem?_eq_getElem (by omega)
            obtain ⟨u, u1, u2, _⟩ := i7 _ _ hcj
            rw [v1] at u1
            injection u1 with u1
            rw [u1]; exact u2
          have hmul : (i + m) * sz = i * sz + m * sz := Nat.add_mul ..
          obtain ⟨w', hst, hwr⟩ := run_stores (P := P) g' (0 + i * sz) news 0 w vals t fz i4 (fun y hy1 hy2 => by
            rw [hnl] at hy2
            exact ⟨by omega, i5 y (by omega)⟩) hone
          simp only [Nat.add_zero, Nat.zero_add] at hwr
          have hrun := run_append_in (P := P) w ty tx o.type e _ sz hu hu2 (by intro k h; cases h) hes (some ⟨g', 0, none⟩) i cap m (a.eval x) hx1.1 news hx1.2 hcm w' (by simp only [add_plain]; exact hst)
          unfold Oper.wp
          rw [hexec _ _ _ hsv hrun]
          have hxl : ((cs.drop off).take (m * sz)).length = m * sz := by simp; omega
          by_cases hm0 : m * sz = 0
          · have hn0 : news = [] := List.eq_nil_of_length_eq_zero (by rw [hnl, hm0])
            have hww : w' = w := by
              rw [hn0] at hst
              simp only [storeCells] at hst
              injection hst with _ h2
              exact h2.symm
            have hsp0 : splice cs (i * sz) ((cs.drop off).take (m * sz)) = cs := by
              rw [hm0, List.take_zero]
              unfold splice
              simp
            rw [hww]
            refine hK G w _ hg ⟨Ext.refl _ _, fun _ _ _ hc => hc, fun _ _ _ hc => hc⟩ ⟨.rowR _ _ _ _ _ _ _ i1 hcm hm hsp hb, trivial⟩ fun l hl => ?_
            simp only [List.mem_singleton] at hl
            subst hl
            simp only [RepH, hset, hsp0]
            exact hobj'
          · obtain ⟨k1, k2, k3⟩ := write_obj (tag := none) (xs := (cs.drop off).take (m * sz)) hg i1 hobj' hwr (by rw [hnl, hxl]) (by rw [hxl]; omega) (by rw [hxl]; omega) hone (fun j u c hu' hc' => by
              obtain ⟨v1, v2⟩ := hnget j u hu'
              rw [List.getElem?_take, if_pos v2, List.getElem?_drop] at hc'
              obtain ⟨u', u1, u2, u3⟩ := i7 _ _ hc'
              rw [v1] at u1
              injection u1 with u1
              rw [u1]
              refine ⟨u3.1, ?_⟩
              split <;> trivial) (.inl rfl)
            refine hK G w' _ k1 k2 ⟨.rowR _ _ _ _ _ _ _ i1 hcm hm hsp (k2.ext.gr _ _ hb), trivial⟩ fun l hl => ?_
            simp only [List.mem_singleton] at hl
            subst hl
            simp only [RepH, hset]
            exact k3
      · exact h.elim
    · exact h.elim
  · exact h.elim
def evClear (T : Tab) (st : St) (ty : TypeId) (x : Operand) (k : KH) : Prop :=
  match T.at ty with
  | none => False
  | some ti => match ti.desc, evV T st ty x with
    | .slice _, .row id off m _ => optE st.H[id]? fun ob => match ob with
        | .cells t cs tg => (off + m * ti.esz ≤ cs.length ∧ tg = [] ∧ Nat.blt 0 ti.esz = true) ∧ k .any none (st.H.set id (.cells t (cs.take off) [])) st.k (opN x ++ [.obj id]) [.obj id]
        | _ => False
    | _, _ => False
theorem evClear_ok (hT : TOk P T) {ty : TypeId} {x : Operand} (hc : constOk T o = true) (ho : o.op = .call { callee := .builtin .clear, args := #[x], argTypes := #[ty] }) (h : evClear T st ty x k) : YldH E P st o k := by
  unfold evClear at h
  split at h
  · exact h.elim
  · rename_i ti hti
    have hf := hT _ _ hti
    have hu := hf.under
    split at h
    · rename_i e id off m szx hd hx
      rw [hd] at hu
      obtain ⟨ob, hob, h⟩ := optE_ok h
      split at h
      · rename_i t cs tg
        obtain ⟨⟨q1, rfl, hsp⟩, h⟩ := h
        have hsp : 0 < ti.esz := by simpa [Nat.blt_eq] using hsp
        have hidl := (List.getElem?_eq_some_iff.1 hob).1
        refine ⟨_, _, _, _, _, _, h, ⟨by simp, fun l hl => ?_, fun B G w a hg hN K Q hK => ?_⟩⟩
        · cases l with
          | slot => trivial
          | tok j => rfl
          | obj j => exact set_same _ _ _ _ (fun e => hl (by simp [e]))
        · have r1 := (evV_ok (T := T) hg (constOk.at hc (ty := ty) (x := x) (by simp [opcs, ho])) fun l hl => hN l (by simp [hl])).1
          rw [hx] at r1
          have hobj : RepObj G w id st.H[id]? := hN (.obj id) (by simp)
          rw [hob] at hobj
          have hexec : ∀ sv v w', a.eval x = sv → (Builtin.clear_ #[ty] o.type #[sv]).run P w = .ok v w' → (execOp a.eval o).run P w = .ok (.value v) w' := by
            intro sv v w' hsv hh
            rw [run_builtin ho]
            have he : (#[x] : Array Operand).map a.eval = #[sv] := by simp [hsv]
            rw [he]
            simp only [builtin, Sem.run_bind, hh, Result.andThen_ok, Sem.run_pure]
          have hset : ∀ y : AObj, (st.H.set id y)[id]? = some y := fun y => List.getElem?_set_self hidl
          have htake : ∀ (j : Nat) (c : AV), (cs.take off)[j]? = some c → cs[j]? = some c ∧ j < off := fun j c hj => by
            rw [List.getElem?_take] at hj
            split at hj
            · rename_i hlt; exact ⟨hj, hlt⟩
            · cases hj
          have stay : RepObj G w id (some (.cells t (cs.take off) [])) := hobj.pre (by simp; omega) fun j c hj => (htake j c hj).1
          have same : ∀ (v : Value), K (a.put o.dst v) w := fun v => by
            refine hK G w v hg ⟨Ext.refl _ _, fun _ _ _ hc => hc, fun _ _ _ hc => hc⟩ ⟨.any .., trivial⟩ fun l hl => ?_
            simp only [List.mem_singleton] at hl
            subst hl
            simp only [RepH, hset]
            exact stay
          unfold Oper.wp
          generalize hxv : a.eval x = xv at r1
          cases r1 with
          | row0 _ _ _ _ ad =>
            rw [hexec _ (.tuple #[]) w hxv (by cases ad <;> simp [Builtin.clear_, run_underlying hu])]
            exact same _
          | row _ _ _ _ cap _ g hι hcap hm hb =>
            by_cases hm0 : m = 0
            · subst hm0
              rw [hexec _ (.tuple #[]) w hxv (by simp [Builtin.clear_, run_underlying hu])]
              exact same _
            · rcases hobj with ⟨h8, _⟩ | ⟨g', i1, i2, i3, vals, fz, i4, i5, i6, i7⟩
              · have : 0 < m * ti.esz := Nat.mul_pos (by omega) hsp
                rw [h8] at q1
                simp at q1
                omega
              have hgg : g' = g := by rw [i1] at hι; injection hι
              subst hgg
              obtain ⟨i0, z, hi0, hs0, hby0, hz0, hzs, hzo⟩ := hf.elem_info (.inl hd)
              have hzl : (Builtin.zeroCells z.cells m).toList.length = m * ti.esz := by rw [Array.length_toList, size_zeroCells, hzs, hs0]
              have hpos : 0 < m * ti.esz := Nat.mul_pos (by omega) hsp
              obtain ⟨w', hst, hwr⟩ := run_stores (P := P) g' off (Builtin.zeroCells z.cells m).toList 0 w vals t fz i4 (fun y hy1 hy2 => by
                rw [hzl] at hy2
                exact ⟨by omega, i5 y (by omega)⟩) (fun u hu' => hzo u (mem_zeroCells hu'))
              simp only [Nat.add_zero] at hwr
              have hrun : (Builtin.clear_ #[ty] o.type #[.slice (some ⟨g', off, none⟩) m cap]).run P w = .ok (.tuple #[]) w' := by
                have hzv : (zeroValue e).run P w = .ok z w := by
                  simp [zeroValue, typeInfo, hi0, hz0]
                obtain ⟨m', rfl⟩ : ∃ m', m = m' + 1 := ⟨m - 1, by omega⟩
                simp [Builtin.clear_, run_underlying hu, hzv, hst]
              rw [hexec _ _ _ hxv hrun]
              have hobj' : RepObj G w id (some (.cells t cs [])) := .inr ⟨g', i1, i2, i3, vals, fz, i4, i5, i6, i7⟩
              obtain ⟨k1, k2, k3⟩ := write_obj (tag := none) (xs := List.replicate (m * ti.esz) .any) hg i1 hobj' hwr (by rw [hzl]; simp) (by simp; omega) (by simp; omega) (fun u hu' => hzo u (mem_zeroCells hu')) (fun j u c _ hc' => by
                have := List.eq_of_mem_replicate (List.mem_of_getElem? hc')
                rw [this]
                refine ⟨.any .., ?_⟩
                split <;> trivial) (.inl rfl)
              refine hK G w' _ k1 k2 ⟨.any .., trivial⟩ fun l hl => ?_
              simp only [List.mem_singleton] at hl
              subst hl
              simp only [RepH, hset]
              refine RepObj.pre (cs := splice cs off (List.replicate (m * ti.esz) .any)) k3 ?_ fun j c hj => ?_
              · rw [splice_len _ _ _ (by simp; omega)]; simp; omega
              · obtain ⟨j1, j2⟩ := htake j c hj
                rw [splice_get _ _ _ (by simp; omega), if_neg (by omega)]
                exact j1
      · exact h.elim
    · exact h.elim
def evNilRow (T : Tab) (st : St) (ty : TypeId) (k : KH) : Prop :=
  match T.at ty with
  | none => False
  | some ti => match ti.desc with
    | .slice e => k (.row st.H.length 0 0 ti.esz) none (st.H ++ [.cells e [] []]) st.k [.obj st.H.length] [.obj st.H.length]
    | _ => False
theorem evNilRow_ok {ty : TypeId} (ho : o.op = .move (.const (.slice none 0 0)) ∨ o.op = .assign (.const (.slice none 0 0))) (h : evNilRow T st ty k) : YldH E P st o k := by
  unfold evNilRow at h
  split at h
  · exact h.elim
  · split at h
    · refine ⟨_, _, _, _, _, _, h, ⟨by simp, fun l hl => ?_, fun B G w a hg hN K Q hK => ?_⟩⟩
      · cases l with
        | slot => trivial
        | tok j => rfl
        | obj j => exact app_same _ _ (fun e => hl (by simp [e]))
      · have hι : G.ι st.H.length = none := by
          have := hN (.obj st.H.length) (by simp)
          simp only [RepL] at this
          rw [List.getElem?_eq_none (Nat.le_refl _)] at this
          exact this
        unfold Oper.wp
        rw [show (execOp a.eval o).run P w = .ok (.value (.slice none 0 0)) w by rcases ho with ho | ho <;> simp [execOp, ho, Act.eval]]
        refine hK G w _ hg ⟨Ext.refl _ _, fun _ _ _ hc => hc, fun _ _ _ hc => hc⟩ ⟨.row0 .., trivial⟩ fun l hl => ?_
        simp only [List.mem_singleton] at hl
        subst hl
        simp only [RepH]
        rw [List.getElem?_append_right (Nat.le_refl _), Nat.sub_self]
        exact .inl ⟨rfl, hι⟩
    · exact h.elim
end
end Go.Pm
