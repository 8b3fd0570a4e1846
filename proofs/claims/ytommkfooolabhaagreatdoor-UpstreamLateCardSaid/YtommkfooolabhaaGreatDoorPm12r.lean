/-
  Generic: what is appended to an empty slice of no room, as an object that is written.
-/
import Derived.Test.YtommkfooolabhaaGreatDoorPm12
namespace Go.Pm
open Go Go.RowKit
set_option linter.unusedVariables false
set_option linter.unusedSimpArgs false
section
variable {E : Env} {P : Program} {T : Tab} {st : St} {o : Oper} {k : KH}
def evAppendRow (T : Tab) (st : St) (ty tx : TypeId) (s x : Operand) (k : KH) : Prop :=
  match T.at ty with
  | none => False
  | some ti => match ti.desc with
    | .slice e => optE (tgV st s) fun i => match evV T st ty s with
      | .list sz [] => (Nat.blt 0 ti.esz = true ∧ sz = ti.esz ∧ st.k[i]? = some 2) ∧ srcE T st tx x e ti.esz fun ys =>
          (ys.length ≤ maxLen ∧ ys.length * ti.eby ≤ 140737488355328) ∧ ∃ cs', ys.flatMap AV.cells = cs' ∧
          k (.row st.H.length 0 ys.length sz) none (st.H ++ [.cells e cs' []]) st.k (opN s ++ opN x ++ [.tok i, .obj st.H.length]) [.obj st.H.length]
      | _ => False
    | _ => False
theorem evAppendRow_ok (hT : TOk P T) {ty tx : TypeId} {s x : Operand} (hc : constOk T o = true) (ho : o.op = .call { callee := .builtin .append, args := #[s, x], argTypes := #[ty, tx] }) (h : evAppendRow T st ty tx s x k) : YldH E P st o k := by
  unfold evAppendRow at h
  split at h
  · exact h.elim
  · rename_i ti hti
    have hf := hT _ _ hti
    have hu := hf.under
    split at h
    · rename_i e hd
      rw [hd] at hu
      obtain ⟨i, hi, h⟩ := optE_ok h
      split at h
      · rename_i sz hs
        obtain ⟨⟨hb0, hse, htight⟩, h⟩ := h
        have hsp : 0 < ti.esz := by simpa [Nat.blt_eq] using hb0
        obtain ⟨ys, ⟨⟨h4, h5⟩, cs', hcs', h⟩, d, hud, hdn, hsrc⟩ := srcE_ok (E := E) hT hsp (constOk.at hc (ty := tx) (x := x) (by simp [opcs, ho])) h
        subst hcs'
        rw [← hse] at hsp hsrc
        obtain ⟨i0, z, hi0, hs0, hby0, hz0, hzs, hzo⟩ := hf.elem_info (.inl hd)
        refine ⟨_, _, _, _, _, _, h, ⟨by simp, fun l hl => ?_, fun B G w a hg hN K Q hK => ?_⟩⟩
        · cases l with
          | slot => trivial
          | obj j => exact app_same _ _ (fun e => hl (by simp [e]))
          | tok j => rfl
        · have hsl := evV_ok (T := T) hg (constOk.at hc (ty := ty) (x := s) (by simp [opcs, ho])) fun l hl => hN l (by simp [hl])
          rw [hs, hi] at hsl
          obtain ⟨ad, n, cap, olds, hv, hn, hcap, hm, hsz, hol, hoone, horun, hoget⟩ := list_cells hsl.1 hsp
          obtain ⟨hlen, hysz, news, hnl, hnone, hnrun, hnget⟩ := hsrc B G w a hg fun l hl => hN l (by simp [hl])
          obtain ⟨sz2, xs2, n2, cap2, g, lo, hi2, ad2, t1, t2, t3, t4, t5, t6, t7⟩ := hsl.2.list (by simp)
          rw [hv] at t2
          injection t2 with e1 e2 e3
          subst e1 e2 e3
          have hn0 : n = 0 := hn
          subst hn0
          have htok : RepTok G w i st.k[i]? := hN (.tok i) (by simp)
          rw [htight] at htok
          obtain ⟨g', lo', k1⟩ := htok
          have hc0 : cap = 0 := by
            rcases t7 with t7 | ⟨hlt, _⟩
            · exact t7.symm
            · rw [t3] at k1
              injection k1 with k1
              injection k1 with _ k1
              injection k1 with k1b k1c
              omega
          subst hc0
          have hes : ∀ w, (sizeOf e).run P w = .ok sz w := fun w => by rw [hse]; exact hf.run_esz w (.inl hd)
          have hexec : ∀ v w', (Builtin.append_ #[ty, tx] o.type #[.slice ad 0 0, a.eval x]).run P w = .ok v w' → (execOp a.eval o).run P w = .ok (.value v) w' := by
            intro v w' hh
            rw [run_builtin ho]
            have he : (#[s, x] : Array Operand).map a.eval = #[.slice ad 0 0, a.eval x] := by simp [hv]
            rw [he]
            simp only [builtin, Sem.run_bind, hh, Result.andThen_ok, Sem.run_pure]
          have hι : G.ι st.H.length = none := by
            have := hN (.obj st.H.length) (by simp)
            simp only [RepL] at this
            rw [List.getElem?_eq_none (Nat.le_refl _)] at this
            exact this
          have hlast : ∀ x : AObj, (st.H ++ [x])[st.H.length]? = some x := fun x => by rw [List.getElem?_append_right (Nat.le_refl _)]; simp
          unfold Oper.wp
          by_cases hroom : ys.length = 0
          · have hy0 : ys = [] := List.eq_nil_of_length_eq_zero hroom
            subst hy0
            have hn0' : news = [] := List.eq_nil_of_length_eq_zero (by simpa using hnl)
            subst hn0'
            have hrun := run_append_in (P := P) w ty tx o.type e d sz hu hud hdn hes ad 0 0 0 (a.eval x) hlen [] (hnrun w fun _ _ _ => rfl) (by simp) w (by cases ad <;> simp [storeCells])
            rw [hexec _ _ hrun]
            refine hK G w _ hg ⟨Ext.refl _ _, fun _ _ _ hc => hc, fun _ _ _ hc => hc⟩ ⟨.row0 _ _ _ _ _, trivial⟩ fun l hl => ?_
            simp only [List.mem_singleton] at hl
            subst hl
            simp only [RepH, hlast]
            exact .inl ⟨rfl, hι⟩
          · have hrun := run_append_more (P := P) w ty tx o.type e d i0 z hu hud hdn hi0 hz0 ad 0 0 ys.length (a.eval x) hlen olds news (by rw [hs0, ← hse]; exact horun P w.drew 0 fun _ _ _ => rfl) (by rw [hs0, ← hse]; exact hnrun w.drew fun _ _ _ => rfl) (by omega) (by omega) (by rw [hby0, Nat.zero_add]; exact h5)
            rw [hexec _ _ hrun]
            have hge := grownCap_ge w (0 + ys.length) 0 e
            have hle := grownCap_le_maxLen w (0 + ys.length) 0 e (by omega)
            have hzl : (Builtin.zeroCells z.cells (grownCap w (0 + ys.length) 0 e - (0 + ys.length))).size = (grownCap w (0 + ys.length) 0 e - (0 + ys.length)) * sz := by rw [size_zeroCells, hzs, hs0, ← hse]
            have ho0 : olds = [] := List.eq_nil_of_length_eq_zero (by simpa using hol)
            subst ho0
            generalize hvals : (#[] ++ news.toArray ++ Builtin.zeroCells z.cells (grownCap w (0 + ys.length) 0 e - (0 + ys.length)) : Array Value) = vals
            have hgr := grown1_drew w (.cells vals e)
            have hfl := flat_len ys hysz
            have hsize : (ys.flatMap AV.cells).length ≤ vals.size := by
              rw [hfl, ← hvals, Array.size_append, Array.size_append]
              simp only [List.size_toArray, hnl, Array.size_empty]
              omega
            let G1 : Gh := { F := G.F, ι := setI G.ι st.H.length w.heap.size, κ := G.κ, O := setI G.O w.heap.size (.inl st.H.length) }
            have hx : Ext G w G1 (w.drew.alloc (.cells vals e)) := ⟨fun _ _ h => h, fun j g' hj => by
              have : j ≠ st.H.length := fun e => by rw [e, hι] at hj; cases hj
              show setI _ _ _ j = _
              rw [setI_other _ _ this]; exact hj, fun _ _ h => h, fun b o' hb => cell_congr (hgr.old b (hg.fin b o' hb)), grows_old hgr.old⟩
            have hOn : ∀ g' j, G.O g' = some j → g' ≠ w.heap.size := fun g' j hj e => by have := (hg.own g' j hj).1; omega
            refine hK G1 _ _ (hg.step (by rw [hgr.size]; omega) (fun b hb _ => hgr.old b hb) hx.w (fun _ _ h => h) (fun b o' hb => ⟨by rw [hgr.size]; have := hg.fin b o' hb; omega, .inl hb⟩) (fun b j hj => ?_) rfl rfl rfl hx)
              ⟨hx, fun j c hj hc => hc.keep hx (fun hn => ?_) (fun g' hg' => ?_), fun j c _ hc => hc.keep hx (fun h => h) (fun g' hg' => ?_)⟩ ⟨?_, trivial⟩ fun l hl => ?_
            · rw [hgr.size]
              by_cases hbg : b = w.heap.size
              · subst hbg; exact ⟨by omega, .inl (Nat.le_refl _)⟩
              · have hj' : G.O b = some j := by rw [← hj]; exact (setI_other _ _ hbg).symm
                exact ⟨by have := (hg.own b j hj').1; omega, .inr (by rw [hj']; simp)⟩
            · have : j ≠ st.H.length := fun e => hj (by simp [e])
              show setI _ _ _ j = _
              rw [setI_other _ _ this]; exact hn
            · exact ⟨by show setI _ _ _ g' = _; rw [setI_other _ _ (hOn g' _ hg')]; exact hg', hgr.old g' (hg.own g' _ hg').1, fun _ h => h⟩
            · exact ⟨by show setI _ _ _ g' = _; rw [setI_other _ _ (hOn g' _ hg')]; exact hg', hgr.old g' (hg.own g' _ hg').1, fun _ h => h⟩
            · rw [Nat.zero_add] at hge hle ⊢
              refine .row _ _ _ _ _ _ _ (setI_same ..) hge hle fun _ => ⟨vals, e, (0, 0), hgr.new, ?_⟩
              rw [Nat.zero_add, ← hvals, Array.size_append, Array.size_append, hzl]
              simp only [List.size_toArray, hnl, Array.size_empty, Nat.zero_add, List.length_nil]
              rw [← Nat.add_mul, Nat.add_sub_cancel' hge]
            · simp only [List.mem_singleton] at hl
              subst hl
              simp only [RepH, hlast]
              refine .inr ⟨w.heap.size, setI_same .., setI_same .., fun x hx' => absurd (hg.fin _ _ hx') (Nat.lt_irrefl _), vals, (0, 0), hgr.new, fun i _ h => by simp [inFz] at h, hsize, fun j c hj => ?_⟩
              have hjl := (List.getElem?_eq_some_iff.1 hj).1
              rw [hfl] at hjl
              have hq : j / sz < ys.length := (Nat.div_lt_iff_lt_mul hsp).2 hjl
              have hel : ys[j / sz]? = some ys[j / sz] := List.getElem?_eq_getElem hq
              have hec : (ys[j / sz]).cells.length = sz := hysz _ (List.getElem_mem _)
              have hmod : j % sz < sz := Nat.mod_lt _ hsp
              have hcc : (ys[j / sz]).cells[j % sz]? = some (ys[j / sz]).cells[j % sz] := List.getElem?_eq_getElem (by omega)
              have hdm : j / sz * sz + j % sz = j := by rw [Nat.mul_comm]; exact Nat.div_add_mod j sz
              have hfg := flat_get ys hysz (j / sz) _ (j % sz) _ hel hcc
              rw [hdm, hj] at hfg
              injection hfg with hfg
              obtain ⟨u, u1, u2⟩ := hnget (j / sz) _ (j % sz) _ hel hcc
              rw [hdm] at u1
              refine ⟨u, ?_, hnone u (List.mem_of_getElem? u1), ?_⟩
              · have hjn : j < news.length := (List.getElem?_eq_some_iff.1 u1).1
                rw [← hvals, Array.getElem?_append_left (by simp; omega), Array.getElem?_append_right (by simp)]
                simpa using u1
              · rw [hfg]
                exact .ofRep (u2.mono hx.F hx.w _ (fun _ _ h => by cases h))
      · exact h.elim
    · exact h.elim
end
end Go.Pm
