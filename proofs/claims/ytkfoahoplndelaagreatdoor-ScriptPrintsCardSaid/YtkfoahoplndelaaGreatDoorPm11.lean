/-
  Generic: slices without spare room, stores, append.
-/
import Derived.Test.YtkfoahoplndelaaGreatDoorPm10
namespace Go.Pm
open Go Go.RowKit
set_option linter.unusedSimpArgs false

section
variable {E : Env} {P : Program} {T : Tab} {st : St} {o : Oper} {k : KH}

theorem evClip_ok (hT : TOk P T) {ty : TypeId} {x hi mx : Operand} {lo : Option Operand} (hc : constOk T o = true) (ho : o.op = .slice ty x lo (some hi) (some mx)) (h : evClip T st ty x lo hi mx k) : YldH E P st o k := by
  unfold evClip at h
  obtain ⟨a', h, ha'⟩ := unc_ok h
  split at h
  · exact h.elim
  · rename_i ti hti
    have hf := hT _ _ hti
    have hu := hf.under
    split at h
    · rename_i e sz xs hd
      rw [hd] at hu
      obtain ⟨l, h, hl⟩ := bndE_ok (E := E) h
      obtain ⟨hh, h, hh'⟩ := bndE_ok (E := E) h
      obtain ⟨m, h, hm'⟩ := bndE_ok (E := E) h
      obtain ⟨⟨⟨h0, h1, h2⟩, he, hsz'⟩, h⟩ := h
      subst he
      refine ⟨_, _, _, _, _, _, h, HFact.newTok (N := opN x ++ (bndN lo ++ (opN hi ++ opN mx))) fun B G w a hg hN => ?_⟩
      have hr := ha' rfl _ _ _ _ (evV_ok (T := T) hg (constOk.at hc (ty := ty) (x := x) (by simp [opcs, ho])) fun l hl => hN l (List.mem_append_left _ hl)).1
      have e1 := hl rfl B G w a hg (fun l hl => hN l (by simp [hl])) (fun y hy => constOk.at hc (by simp [opcs, ho, hy]))
      have e2 := hh' rfl B G w a hg (fun l hl => hN l (by simp [bndN] at hl; simp [hl])) (fun y hy => constOk.at hc (by simp [opcs, ho]; right; right; left; injection hy with hy; exact hy.symm))
      have e3 := hm' rfl B G w a hg (fun l hl => hN l (by simp [bndN] at hl; simp [hl])) (fun y hy => constOk.at hc (by simp [opcs, ho]; right; right; right; injection hy with hy; exact hy.symm))
      obtain ⟨ad, n, cap, hv, hn, hc', hm, hsz, hrow⟩ := hr.list_inv
      have hlen : ((xs.drop l.toNat).take (m.toNat - l.toNat)).length = m.toNat - l.toNat := by simp; omega
      obtain ⟨kh, hkh⟩ : ∃ kd, a.eval hi = .int kd m := by
        rcases e2 with ⟨e, _⟩ | ⟨y, kd, e, e'⟩
        · cases e
        · injection e with e; subst e; exact ⟨kd, e'⟩
      obtain ⟨km, hkm⟩ : ∃ kd, a.eval mx = .int kd m := by
        rcases e3 with ⟨e, _⟩ | ⟨y, kd, e, e'⟩
        · cases e
        · injection e with e; subst e; exact ⟨kd, e'⟩
      have hu' : P.underlying ty = some (.slice (P.elem ty)) := by simp [Program.elem, hu]
      have hel : P.elem ty = e := by simp [Program.elem, hu]
      have hes := hf.run_esz w (.inl hd)
      have hb : (Instr.sliceBounds true n cap (lo.map a.eval) (some (.int kh m)) (some (.int km m))).run P w = .ok (l.toNat, m.toNat, m.toNat) w := by
        have em : (m.toNat : Int) = m := Int.toNat_of_nonneg (by omega)
        rcases e1 with ⟨e, hl0⟩ | ⟨y, kd, e, e'⟩
        · subst e hl0
          simp [Instr.sliceBounds, run_sliceBound, show (0 : Int) ≤ m by omega, show m ≤ (cap : Int) by omega, em]
        · subst e
          simp [Instr.sliceBounds, run_sliceBound, show (0 : Int) ≤ m by omega, show m ≤ (cap : Int) by omega, em, e', h0, h1]
      rw [hlen]
      refine ⟨if m.toNat = l.toNat then ad else ad.map (·.add (l.toNat * sz)), ?_, ?_⟩
      · simp only [execOp, ho, Sem.run_bind, hv, Option.map_some, hkh, hkm, run_sliceAt_slice w ty _ _ _ _ hu', run_slice_any w ty ad n cap hu', hb, Result.andThen_ok, hel, hes, sliced, Sem.run_pure, hsz']
      · -- the row
        have hesz : ∀ e, e ∈ (xs.drop l.toNat).take (m.toNat - l.toNat) → e.cells.length = sz := fun e he => hsz e (List.mem_of_mem_drop (List.mem_of_mem_take he))
        rcases Nat.eq_zero_or_pos (m.toNat - l.toNat) with hz | hz
        · rw [hz]; simp only [List.take_zero]; exact .empty _ _ _ _ (by simp)
        · have hne : xs ≠ [] := by
            rintro rfl
            simp at h2; omega
          rcases hrow with h | ⟨b, off, vals, hb', hF, hcell, hrep⟩
          · exact absurd h hne
          · subst hb'
            rw [if_neg (by omega)]
            simp only [Option.map_some, add_plain]
            have hget : ∀ (i : Nat) (e : AV), ((xs.drop l.toNat).take (m.toNat - l.toNat))[i]? = some e → xs[l.toNat + i]? = some e := fun i e hi => by
              rw [List.getElem?_take] at hi
              split at hi
              · rw [List.getElem?_drop] at hi; exact hi
              · cases hi
            refine .list _ b (off + l.toNat * sz) _ _ _ _ (fun i j => vals (l.toNat + i) j) hlen.symm (Nat.le_refl _) (by omega) hesz (fun j hj => ?_) (fun i e j c hi hj => ?_) (fun i e j c hi hj => hrep _ _ _ _ (hget i e hi) hj)
            · rw [Nat.add_assoc]
              refine hF _ ?_
              rw [hlen] at hj
              have h3 : (l.toNat + (m.toNat - l.toNat)) * sz ≤ xs.length * sz := Nat.mul_le_mul_right _ (by omega)
              rw [Nat.add_mul] at h3
              omega
            · have := hcell _ _ _ _ (hget i e hi) hj
              rw [show off + l.toNat * sz + (i * sz + j) = off + ((l.toNat + i) * sz + j) by rw [Nat.add_mul]; omega]
              exact this
    · exact h.elim

/-- A store. -/
def evStore (T : Tab) (st : St) (ty : TypeId) (ad v : Operand) (k : KH) : Prop :=
  unc true (evV T st 0 ad) fun a => unc true (evV T st ty v) fun x => match T.at ty, a with
    | some ti, .ptr id off => optE st.H[id]? fun ob => match ob with
      | .cells t cs tg => (x.flatB = true ∧ x.cells.length = ti.size ∧ Nat.blt 0 ti.size = true ∧ off + ti.size ≤ cs.length) ∧
          ∃ cs', (Wf x → splice cs off x.cells = cs') ∧ k .any none (st.H.set id (.cells t cs' (tagSplice tg off x.cells.length (tgV st v)))) st.k (opN ad ++ opN v ++ [.obj id]) [.obj id]
      | _ => False
    | _, _ => False

theorem set_same {α : Type} (l : List α) (i j : Nat) (x : α) (h : j ≠ i) : l[j]? = (l.set i x)[j]? := by
  rw [List.getElem?_set_ne (Ne.symm h)]

theorem evStore_ok (hT : TOk P T) {ty : TypeId} {ad v : Operand} (hc : constOk T o = true) (ho : o.op = .store ty ad v) (h : evStore T st ty ad v k) : YldH E P st o k := by
  unfold evStore at h
  obtain ⟨a', h, ha'⟩ := unc_ok h
  obtain ⟨x', h, hx', hx2⟩ := unc_ok' h
  split at h
  · rename_i ti id off hti _
    have hf := hT _ _ hti
    obtain ⟨ob, hob, h⟩ := optE_ok h
    split at h
    · rename_i t cs tg
      obtain ⟨⟨h1, h2, h3, h4⟩, cs', hcs', h⟩ := h
      have h3' : 0 < ti.size := by simpa [Nat.blt_eq] using h3
      refine ⟨_, _, _, _, _, _, h, ⟨by simp, fun l hl => ?_, fun B G w a hg hN K Q hK => ?_⟩⟩
      · cases l with
        | slot => trivial
        | obj i => exact set_same _ _ _ _ (fun e => hl (by simp [e]))
        | tok i => rfl
      · have r1 := ha' rfl _ _ _ _ (evV_ok (T := T) hg (constOk.at hc (ty := 0) (x := ad) (by simp [opcs, ho])) fun l hl => hN l (by simp [hl])).1
        have hs := evV_ok (T := T) hg (constOk.at hc (ty := ty) (x := v) (by simp [opcs, ho])) fun l hl => hN l (by simp [hl])
        have r2 := hx' rfl _ _ _ _ hs.1
        have ecs := hcs' r2.wf
        have hobj : RepObj G w id (some (.cells t cs tg)) := by
          have := hN (.obj id) (by simp)
          simpa only [RepL, hob] using this
        have hcs := rep_cells r2 h1
        generalize hva : a.eval ad = va at *
        cases r1 with
        | ptr _ _ _ gg hι =>
        have hobj' := hobj
        obtain ⟨g', i1, i2, i3, vals, fz, i4, i5, i6, i7⟩ := hobj.resolve_left (by intro h0; rw [h0] at h4; simp only [List.length_nil] at h4; omega)
        rw [hι] at i1
        injection i1 with i1
        subst i1
        have hlen : (a.eval v).cells.toList.length = x'.cells.length := by simpa using hcs.1
        have hone : ∀ u, u ∈ (a.eval v).cells.toList → u.oneCell' = true := fun u hu => by
          obtain ⟨j, hj, rfl⟩ := List.getElem_of_mem hu
          obtain ⟨u', u1, u2, _⟩ := hcs.2 j _ (List.getElem?_eq_getElem (by omega))
          have : (a.eval v).cells[j]? = some (a.eval v).cells.toList[j] := by rw [← Array.getElem?_toList]; exact List.getElem?_eq_getElem hj
          rw [this] at u1
          injection u1 with u1
          rw [u1]; exact u2
        obtain ⟨w', hrun, hwr⟩ := run_stores (P := P) gg off (a.eval v).cells.toList 0 w vals t fz i4 (fun x hx1 hx2 => by
          rw [hlen] at hx2
          exact ⟨by omega, i5 x (by omega)⟩) hone
        have htag : tgV st v = none ∨ x'.cells.length = 1 := by
          cases ht : tgV st v with
          | none => exact .inl rfl
          | some i =>
            right
            have h5 := hs.2
            rw [ht] at h5
            obtain ⟨_, _, _, _, _, _, _, _, _, h6, _⟩ := h5
            have h7 := hcs.1
            rw [h6] at h7
            simpa [Value.cells] using h7.symm
        have hrs : ∀ (j : Nat) (u : Value) (c : AV), (a.eval v).cells.toList[j]? = some u → x'.cells[j]? = some c → RepSlot G w u c (if j = 0 then tgV st v else none) := by
          intro j u c hu hc'
          obtain ⟨u', u1, _, u3⟩ := hcs.2 j c hc'
          rw [Array.getElem?_toList, u1] at hu
          injection hu with hu
          subst hu
          refine ⟨u3, ?_⟩
          cases ht : tgV st v with
          | none => split <;> trivial
          | some i =>
            have h5 := hs.2
            rw [ht] at h5
            split
            · rename_i hj0
              subst hj0
              obtain ⟨sz, xs, n, cap, g2, lo, hi, ad2, h6, h7, h8⟩ := h5
              -- the value is a slice: its one cell is itself
              have hu'' : u' = a.eval v := by
                rw [h7] at u1
                simp [Value.cells] at u1
                rw [h7, u1]
              have hrx : Rep G.F w G.ι (a.eval v) x' := r2
              have hx'' : x' = .list sz xs := by
                rw [hx2 (fun c v e => by rw [e] at h6; cases h6)]; exact h6
              rw [hx''] at hc'
              simp [AV.cells] at hc'
              subst hc'
              exact ⟨sz, xs, n, cap, g2, lo, hi, ad2, rfl, by rw [hu'']; exact h7, h8⟩
            · trivial
        simp only [Nat.add_zero] at hwr
        obtain ⟨w1, w2, w3⟩ := write_obj hg hι hobj' hwr hlen (by rw [h2]; exact h4) (by rw [h2]; exact h3') hone hrs htag
        have hexec : (execOp a.eval o).run P w = .ok .skip w' := by
          simp only [execOp, ho, Sem.run_bind, Instr.storeAt, hva, Instr.sureAddr, Sem.run_pure, Result.andThen_ok, storeVar, hf.run_size]
          have hsz : ¬ ((a.eval v).cells.size ≠ ti.size) := by rw [hcs.1, h2]; simp
          rw [if_neg hsz, hrun]
          rfl
        unfold Oper.wp
        rw [hexec]
        refine hK G w' undef w1 w2 ⟨.any .., trivial⟩ fun l hl => ?_
        simp only [List.mem_singleton] at hl
        subst hl
        simp only [RepH]
        have hid : id < st.H.length := (List.getElem?_eq_some_iff.1 hob).1
        rw [List.getElem?_set_self hid, ← ecs]
        exact w3
    · exact h.elim
  · exact h.elim

end
end Go.Pm
